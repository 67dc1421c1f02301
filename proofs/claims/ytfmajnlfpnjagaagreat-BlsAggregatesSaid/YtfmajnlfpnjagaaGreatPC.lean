/- Part 3 of the proof: Fn, Fo, Fp, La, Fq, Na, Nb, Nc, Nd, Fr, Ga, Gb, Gc, Gd, Ge, Gf, Gg, Gh, Gi, Gj, Gk, Gl, Gm, Gn, Go, Gp, Gq, Gr, Gs, Gt, Gv, Ka, Kb, Kc, Kd. -/
import Derived.Test.YtfmajnlfpnjagaaGreatPB
import Derived.Test.YtfmajnlfpnjagaaGreatRows
import Derived.KernelRfl
import Derived.ChangeSlices
/- limb.carried with limb.Add's step: its contract. -/
namespace Go.Proofs.YtfmajnlfpnjagaaGreat
open Ex
set_option maxRecDepth 100000
set_option maxHeartbeats 4000000
def outL (S L i:Nat):List Int:=(List.range i).map (wordN S)++List.replicate (L-i) 0
theorem atV_word {xs:List Int} {off n:Nat} (h:∀ d∈xs,0≤d∧d<18446744073709551616) (i:Nat):atV xs off n i=((natL (win xs off n) / 2^(64*i) % 18446744073709551616:Nat):Int):=by
 have:=natL_word (win xs off n) i (win_has h)
 have hb:=getD_bd (win_has (off:=off) (n:=n) h) i
 unfold atV
 rw [Int.toNat_natCast]
 have e:(2:Nat)^64=18446744073709551616:=rfl
 rw [e] at this
 omega
section
variable {off n m off' n' m':Nat} {xs xs':List Int} (hx:∀ d∈xs,0≤d∧d<18446744073709551616) (hy:∀ d∈xs',0≤d∧d<18446744073709551616) (hl:off+n≤xs.length) (hl':off'+n'≤xs'.length)
 (hn:hasB .i64 n=true) (hn':hasB .i64 n'=true) {β0:Env} {w0:World} (hb:∀ b,2≤b→β0 b=none)
include hx hy hl hl' hn hn' hb
end
end Go.Proofs.YtfmajnlfpnjagaaGreat
/- The contracts of limb.carried (with limb.Add's step) and limb.Add. -/
namespace Go.Proofs.YtfmajnlfpnjagaaGreat
open Ex
set_option maxRecDepth 100000
set_option maxHeartbeats 4000000
noncomputable def S17:List (FuncId×ASpec):=S16
theorem S17ok:SpecsOk Tryz.prog S17:=S16ok
noncomputable def S18:List (FuncId×ASpec):=S17
theorem S18ok:SpecsOk Tryz.prog S18:=S17ok
end Go.Proofs.YtfmajnlfpnjagaaGreat
/- Powers by squaring, for the kernel. -/
namespace Go.Proofs.YtfmajnlfpnjagaaGreat
open Ex
set_option maxRecDepth 100000
set_option maxHeartbeats 4000000
def pmod (m x:Nat):Nat→Nat→Nat
 | 0,_=>1 % m
 | f+1,e=>(match e % 2 with
  | 0=>pmod m (x*x % m) f (e / 2)
  | _=>x*pmod m (x*x % m) f (e / 2) % m)
theorem pmod_eq (m:Nat):∀ (f x e:Nat),e<2^f→pmod m x f e=x^e % m
 | 0,x,e,h=>by
  have:e=0:=by simpa using h
  subst this;rfl
 | f+1,x,e,h=>by
  have ih:=pmod_eq m f (x*x % m) (e / 2) (by rw [Nat.pow_succ] at h;omega)
  have h2:(x*x % m)^(e / 2) % m=x^(2*(e / 2)) % m:=by
   rw [← Nat.pow_mod,Nat.pow_mul,Nat.pow_two]
  unfold pmod
  rcases Nat.mod_two_eq_zero_or_one e with h0 | h1
  ·rw [h0]
   show pmod m (x*x % m) f (e / 2)=_
   rw [ih,h2,show 2*(e / 2)=e by omega]
  ·rw [h1]
   show x*pmod m (x*x % m) f (e / 2) % m=_
   rw [ih,h2,Nat.mul_mod,Nat.mod_mod,← Nat.mul_mod,← Nat.pow_succ',show (2*(e / 2)).succ=e by omega]
theorem pow_fuel:(2:Nat)^384=RR:=by kernel_rfl
theorem q4:pmod pN 4 384 QN=4002409555221667393417789825735904156556882819939007885332058136124031650490837864442687629129015664037894272559785:=by kernel_rfl
theorem q0:pmod pN 0 384 QN=0:=by kernel_rfl
noncomputable def S19:List (FuncId×ASpec):=S18
theorem S19ok:SpecsOk Tryz.prog S19:=S18ok
end Go.Proofs.YtfmajnlfpnjagaaGreat
/- What the laws' arguments are; the frame of the laws' proofs. -/
namespace Go.Proofs.YtfmajnlfpnjagaaGreat
open Ex
open Go.RowKit (Below)
set_option maxRecDepth 100000
set_option maxHeartbeats 4000000
theorem own:ownKnob Tryz.prog.godebug=none:=by kernel_rfl
theorem laidOut:laidOutB Tryz.prog=true:=by kernel_rfl
theorem under_bool:Tryz.prog.underlying 4=some .bool:=by kernel_rfl
theorem args0 {ts:List TypeId} {H:Type} {enc:TypeId×Value→H} {W:World} {us:List Value} {ds:List (DataW H)} {ps:List MemPlace} (hA:DataW.TrodAll enc Tryz.prog W 0 (fun _=>true) true ts us ds ps) (ht:ts=[]):us=[]:=by
 subst ht
 cases us with
 | nil=>rfl
 | cons=>cases ds<;>cases hA
theorem args_cons {H:Type} {enc:TypeId×Value→H} {W:World} {t:TypeId} {ts:List TypeId} {us:List Value} {ds:List (DataW H)} {ps:List MemPlace} (hA:DataW.TrodAll enc Tryz.prog W 0 (fun _=>true) true (t::ts) us ds ps) :
  ∃ v us' d ds' p q,us=v::us'∧ds=d::ds'∧DataW.Trod enc Tryz.prog W 0 (fun _=>true) true t v d p∧DataW.TrodAll enc Tryz.prog W 0 (fun _=>true) true ts us' ds' q:=by
 cases us with
 | nil=>cases ds<;>cases hA
 | cons v us'=>cases ds with
  | nil=>cases hA
  | cons d ds' =>
   obtain ⟨p,q,h1,h2,_⟩:=hA
   exact ⟨v,us',d,ds',p,q,rfl,rfl,h1,h2⟩
end Go.Proofs.YtfmajnlfpnjagaaGreat
/- Words of numbers; p's words. -/
namespace Go.Proofs.YtfmajnlfpnjagaaGreat
open Ex
set_option maxRecDepth 100000
set_option maxHeartbeats 4000000
def PL:List Int:=[0xb9feffffffffaaab,0x1eabfffeb153ffff,0x6730d2a0f6b0f624,0x64774b84f38512bf,0x4b1ba7b6434bacd7,0x1a0111ea397fe69a]
theorem natL_ws6 {x:Nat} (h:x<RR):natL (win (ws6 x) 0 6)=x:=natL_num6 h
theorem natL_outL {S L:Nat} (h:S<2^(64*L)):natL (win (outL S L L) 0 L)=S:=by
 unfold outL win
 rw [Nat.sub_self,List.replicate_zero,List.append_nil,List.drop_zero,List.take_of_length_le (by simp)]
 have gen:∀ (L S:Nat),S<2^(64*L)→natL ((List.range L).map (wordN S))=S:=by
  intro L
  induction L with
  | zero=>intro S h;simp at h;subst h;rfl
  | succ L ih =>
   intro S h
   rw [List.range_succ_eq_map,List.map_cons,List.map_map]
   have e:(wordN S ∘ Nat.succ)=wordN (S / 2^64):=by
    funext i
    exact wordN_succ S i |>.symm▸rfl
   rw [e]
   simp only [natL]
   rw [ih (S / 2^64) (by rw [show 64*(L+1)=64+64*L by omega,Nat.pow_add] at h;exact Nat.div_lt_of_lt_mul h),wordN_nat,Nat.mul_zero,Nat.pow_zero,Nat.div_one]
   omega
 exact gen L S h
theorem natL_PL:natL (win PL 0 6)=pN:=by kernel_rfl
theorem negN_val {a:Nat} (h:a % pN≠0):negN a=pN-a % pN:=by
 have hp:=modp_lt a
 unfold negN
 rw [Nat.mod_eq_of_lt (by omega)]
theorem pN_odd:pN % 2=1:=by kernel_rfl
end Go.Proofs.YtfmajnlfpnjagaaGreat
/- Prime numbers: Euclid, Fermat, Pocklington; powers by squaring. -/
namespace Go.Proofs.YtfmajnlfpnjagaaGreat.Num
def Prime (p:Nat):Prop:=2≤p∧∀ d,d∣p→d=1∨d=p
theorem Prime.coprime {p a:Nat} (hp:Prime p) (h:¬ p∣a):Nat.Coprime p a:=by
 rcases hp.2 (Nat.gcd p a) (Nat.gcd_dvd_left _ _) with e | e
 ·exact e
 ·exact absurd (e▸Nat.gcd_dvd_right p a) h
theorem Prime.dvd_mul {p a b:Nat} (hp:Prime p) (h:p∣a*b):p∣a∨p∣b:=by
 by_cases ha:p∣a
 ·exact .inl ha
 ·exact .inr ((hp.coprime ha).dvd_of_dvd_mul_left h)
theorem mod_dvd {a b n:Nat} (h:a % n=b % n) (hle:b≤a):n∣a-b:=by
 have h1:=Nat.div_add_mod a n
 have h2:=Nat.div_add_mod b n
 exact ⟨a / n-b / n,by rw [Nat.mul_sub];omega⟩
theorem dvd_mod {a b n:Nat} (h:n∣a-b) (hle:b≤a):a % n=b % n:=by
 obtain ⟨k,hk⟩:=h
 have:a=b+n*k:=by omega
 rw [this,Nat.add_mul_mod_self_left]
def prodL:List Nat→Nat
 | []=>1
 | x::l=>x*prodL l
theorem prodL_perm {l m:List Nat} (h:l.Perm m):prodL l=prodL m:=by
 induction h with
 | nil=>rfl
 | cons x _ ih=>simp [prodL,ih]
 | swap x y l=>simp only [prodL];rw [Nat.mul_left_comm]
 | trans _ _ h1 h2=>exact h1.trans h2
theorem perm_of_nodup:∀ {l m:List Nat},l.Nodup→(∀ x∈l,x∈m)→m.length≤l.length→l.Perm m
 | [],m,_,_,h=>by
  have:m=[]:=List.length_eq_zero_iff.1 (by simpa using h)
  subst this;exact .refl _
 | a::l,m,hn,hs,hlen=>by
  have ham:=hs a (by simp)
  have hp:=List.perm_cons_erase ham
  have hn':=List.nodup_cons.1 hn
  refine .trans (.cons a (perm_of_nodup hn'.2 (fun x hx=>?_) ?_)) hp.symm
  ·have:x≠a:=fun e=>hn'.1 (e▸hx)
   exact (List.mem_erase_of_ne this).2 (hs x (by simp [hx]))
  ·rw [List.length_erase_of_mem ham]
   simp at hlen;omega
theorem prodL_map (a p:Nat):∀ l:List Nat,prodL (l.map fun x=>a*x % p) % p=a^l.length*prodL l % p
 | []=>by simp [prodL]
 | x::l=>by
  simp only [List.map_cons,prodL,List.length_cons]
  rw [Nat.mul_mod,prodL_map a p l,Nat.mod_mod,← Nat.mul_mod,Nat.pow_succ]
  refine congrArg (· % p) ?_
  show a*x*(a^l.length*prodL l)=a^l.length*a*(x*prodL l)
  ac_rfl
theorem prodL_prime {p:Nat} (hp:Prime p):∀ {l:List Nat},(∀ x∈l,¬ p∣x)→¬ p∣prodL l
 | [],_,h=>by
  have:=Nat.le_of_dvd (by decide) h
  have:=hp.1
  simp only [prodL] at *;omega
 | x::l,hx,h=>by
  rcases hp.dvd_mul h with h | h
  ·exact hx x (by simp) h
  ·exact prodL_prime hp (fun y hy=>hx y (by simp [hy])) h
theorem fermat {p a:Nat} (hp:Prime p) (ha:¬ p∣a):a^(p-1) % p=1:=by
 have h2:=hp.1
 have hL:∀ x,x∈List.range' 1 (p-1)↔1≤x∧x<p:=by intro x;rw [List.mem_range'_1];omega
 have hnd:∀ x∈List.range' 1 (p-1),¬ p∣x:=fun x hx hd=>by
  have:=(hL x).1 hx
  have:=Nat.le_of_dvd (by omega) hd
  omega
 have hperm:((List.range' 1 (p-1)).map fun x=>a*x % p).Perm (List.range' 1 (p-1)):=by
  refine perm_of_nodup ?_ ?_ (by simp)
  ·have hq:∀ {l:List Nat},l.Nodup→(∀ x∈l,1≤x∧x<p)→(l.map fun x=>a*x % p).Nodup:=by
    intro l
    induction l with
    | nil=>intro _ _;exact List.nodup_nil
    | cons x l ih =>
     intro hn hb
     have hn':=List.nodup_cons.1 hn
     rw [List.map_cons,List.nodup_cons]
     refine ⟨fun hm=>?_,ih hn'.2 fun y hy=>hb y (by simp [hy])⟩
     obtain ⟨y,hy,he⟩:=List.mem_map.1 hm
     have b1:=hb x (by simp)
     have b2:=hb y (by simp [hy])
     have hxy:x≠y:=fun e=>hn'.1 (e▸hy)
     rcases Nat.lt_or_ge x y with hlt | hge
     ·have:=mod_dvd (a:=a*y) (b:=a*x) he (Nat.mul_le_mul_left a (by omega))
      rw [← Nat.mul_sub] at this
      rcases hp.dvd_mul this with h | h
      ·exact ha h
      ·have:=Nat.le_of_dvd (by omega) h;omega
     ·have:=mod_dvd (a:=a*x) (b:=a*y) he.symm (Nat.mul_le_mul_left a (by omega))
      rw [← Nat.mul_sub] at this
      rcases hp.dvd_mul this with h | h
      ·exact ha h
      ·have:=Nat.le_of_dvd (by omega) h;omega
   exact hq List.nodup_range' fun x hx=>(hL x).1 hx
  ·intro y hy
   obtain ⟨x,hx,rfl⟩:=List.mem_map.1 hy
   have b:=(hL x).1 hx
   refine (hL _).2 ⟨?_,Nat.mod_lt _ (by omega)⟩
   rcases Nat.eq_zero_or_pos (a*x % p) with h | h
   ·rcases hp.dvd_mul (Nat.dvd_of_mod_eq_zero h) with h | h
    ·exact absurd h ha
    ·exact absurd h (hnd x hx)
   ·exact h
 have e:=prodL_map a p (List.range' 1 (p-1))
 rw [prodL_perm hperm,List.length_range'] at e
 have hpos:1≤a^(p-1):=Nat.pow_pos (Nat.pos_of_ne_zero fun h=>ha (h▸Nat.dvd_zero p))
 have hd:=mod_dvd (a:=a^(p-1)*prodL (List.range' 1 (p-1))) (b:=prodL (List.range' 1 (p-1))) e.symm (Nat.le_mul_of_pos_left _ hpos)
 have:a^(p-1)*prodL (List.range' 1 (p-1))-prodL (List.range' 1 (p-1))=(a^(p-1)-1)*prodL (List.range' 1 (p-1)):=by rw [Nat.sub_mul,Nat.one_mul]
 rw [this] at hd
 rcases hp.dvd_mul hd with h | h
 ·rw [dvd_mod h hpos,Nat.mod_eq_of_lt (by omega)]
 ·exact absurd h (prodL_prime hp hnd)
theorem exists_prime_dvd:∀ n,2≤n→∃ q,Prime q∧q∣n:=by
 intro n
 induction n using Nat.strongRecOn with
 | ind n ih =>
  intro h
  by_cases hp:Prime n
  ·exact ⟨n,hp,Nat.dvd_refl n⟩
  ·have:∃ d,d∣n∧d≠1∧d≠n:=Classical.byContradiction fun hno=>hp ⟨h,fun d hd=>Classical.byContradiction fun hd2=>hno ⟨d,hd,fun e=>hd2 (.inl e),fun e=>hd2 (.inr e)⟩⟩
   obtain ⟨d,hd,h1,h2⟩:=this
   have hle:=Nat.le_of_dvd (by omega) hd
   have h0:d≠0:=fun e=>by subst e;have:=Nat.eq_zero_of_zero_dvd hd;omega
   obtain ⟨q,hq,hqd⟩:=ih d (by omega) (by omega)
   exact ⟨q,hq,Nat.dvd_trans hqd hd⟩
theorem prime_of_factors {n:Nat} (h:2≤n) (hf:∀ q,Prime q→q∣n→n<q*q):Prime n:=by
 refine ⟨h,fun d hd=>?_⟩
 obtain ⟨e,rfl⟩:=hd
 by_cases h1:d=1
 ·exact .inl h1
 ·by_cases h2:e=1
  ·subst h2;exact .inr (by simp)
  ·exfalso
   have d0:d≠0:=fun e'=>by subst e';simp at h
   have e0:e≠0:=fun e'=>by subst e';simp at h
   obtain ⟨q,hq,hqd⟩:=exists_prime_dvd d (by omega)
   obtain ⟨r,hr,hre⟩:=exists_prime_dvd e (by omega)
   have a1:=hf q hq (Nat.dvd_mul_right_of_dvd hqd e)
   have a2:=hf r hr (Nat.dvd_mul_left_of_dvd hre d)
   have b1:=Nat.le_of_dvd (by omega) hqd
   have b2:=Nat.le_of_dvd (by omega) hre
   rcases Nat.lt_or_ge d e with hlt | hge
   ·have:=Nat.mul_le_mul b1 b1
    have:=Nat.mul_le_mul_left d (Nat.le_of_lt hlt)
    omega
   ·have:=Nat.mul_le_mul b2 b2
    have:=Nat.mul_le_mul_right e hge
    omega
theorem pow_one_mod {r x m:Nat} (h:x^m % r=1 % r) (k:Nat):x^(m*k) % r=1 % r:=by
 rw [Nat.pow_mul,Nat.pow_mod,h,← Nat.pow_mod,Nat.one_pow]
theorem pow_gcd {r x:Nat}:∀ (m n:Nat),x^m % r=1 % r→x^n % r=1 % r→x^(Nat.gcd m n) % r=1 % r:=by
 intro m n
 induction m,n using Nat.gcd.induction with
 | H0 n=>intro _ h;rwa [Nat.gcd_zero_left]
 | H1 m n hm ih =>
  intro h1 h2
  rw [Nat.gcd_rec]
  refine ih ?_ h1
  have e:=Nat.div_add_mod n m
  rw [← e,Nat.pow_add,Nat.mul_mod,pow_one_mod h1,← Nat.mul_mod,Nat.one_mul] at h2
  exact h2
theorem pock_step {N q h a r:Nat} (hN:N=h*q+1) (hq:Prime q) (h1:a^(N-1) % N=1) (h2:Nat.gcd (a^h % N+N-1) N=1) (hr:Prime r) (hrN:r∣N):q∣r-1:=by
 have hr2:=hr.1
 have e1:(a^h)^q % r=1 % r:=by
  rw [← Nat.pow_mul,show h*q=N-1 by omega,← Nat.mod_mod_of_dvd _ hrN,h1]
 have hN1:1≤N:=by omega
 have e2:a^h % r≠1:=fun e=>by
  have hd:r∣a^h % N+N-1:=by
   refine Nat.dvd_of_mod_eq_zero ?_
   have:(a^h % N+N-1+1) % r=1 % r:=by
    rw [Nat.sub_add_cancel (by omega),Nat.add_mod,Nat.mod_mod_of_dvd _ hrN,e,Nat.mod_eq_zero_of_dvd hrN,Nat.add_zero]
   have:=mod_dvd this (by omega)
   exact Nat.mod_eq_zero_of_dvd (by simpa using this)
  have:=Nat.dvd_gcd hd hrN
  rw [h2] at this
  have:=Nat.le_of_dvd (by decide) this
  omega
 have hnd:¬ r∣a^h:=fun hd=>by
  have:r∣(a^h)^q:=by
   obtain ⟨k,hk⟩:=hd
   have hq2:=hq.1
   obtain ⟨j,rfl⟩:∃ j,q=j+1:=⟨q-1,by omega⟩
   exact ⟨(a^h)^j*k,by rw [Nat.pow_succ,Nat.mul_left_comm,← hk]⟩
  rw [Nat.mod_eq_zero_of_dvd this,Nat.mod_eq_of_lt (by omega)] at e1
  cases e1
 have e3:=fermat hr hnd
 by_cases hd:q∣r-1
 ·exact hd
 ·exfalso
  have hc:=hq.coprime hd
  have:=pow_gcd q (r-1) e1 (by rw [e3,Nat.mod_eq_of_lt (by omega)])
  rw [hc,Nat.pow_one,Nat.mod_eq_of_lt (a:=1) (by omega)] at this
  exact e2 this
theorem pocklington {N q h a:Nat} (hN:N=h*q+1) (hq:Prime q) (hh:h<q) (h0:0<h) (h1:a^(N-1) % N=1) (h2:Nat.gcd (a^h % N+N-1) N=1):Prime N:=by
 have hq2:=hq.1
 have hpos:1*1≤h*q:=Nat.mul_le_mul h0 (by omega)
 refine prime_of_factors (by omega) fun r hr hrN=>?_
 have:=Nat.le_of_dvd (by have:=hr.1;omega) (pock_step hN hq h1 h2 hr hrN)
 have hle:q+1≤r:=by have:=hr.1;omega
 have:=Nat.mul_le_mul hle hle
 have h3:h*q≤q*q:=Nat.mul_le_mul_right q (by omega)
 rw [Nat.succ_mul,Nat.mul_succ] at this
 omega
theorem pocklington2 {N q h a q' h' a':Nat} (hN:N=h*q+1) (hq:Prime q) (h1:a^(N-1) % N=1) (h2:Nat.gcd (a^h % N+N-1) N=1) (hN':N=h'*q'+1) (hq':Prime q') (h1':a'^(N-1) % N=1) (h2':Nat.gcd (a'^h' % N+N-1) N=1)
  (hne:q<q') (hbig:N<(q*q'+1)*(q*q'+1)) (hN2:2≤N):Prime N:=by
 refine prime_of_factors hN2 fun r hr hrN=>?_
 have d1:=pock_step hN hq h1 h2 hr hrN
 have d2:=pock_step hN' hq' h1' h2' hr hrN
 have hc:Nat.Coprime q q':=hq.coprime fun hd=>by
  rcases hq'.2 q hd with e | e
  ·have:=hq.1;omega
  ·omega
 have:=Nat.le_of_dvd (by have:=hr.1;omega) (hc.mul_dvd_of_dvd_of_dvd d1 d2)
 have hle:q*q'+1≤r:=by have:=hr.1;omega
 exact Nat.lt_of_lt_of_le hbig (Nat.mul_le_mul hle hle)
def noDiv (n:Nat):Nat→Nat→Bool
 | 0,_=>true
 | f+1,d=>match n % d with
  | 0=>false
  | _+1=>noDiv n f (d+1)
theorem noDiv_spec (n:Nat):∀ (f d:Nat),noDiv n f d=true→∀ e,d≤e→e<d+f→¬ e∣n
 | 0,d,_,e,h1,h2=>by omega
 | f+1,d,h,e,h1,h2=>by
  unfold noDiv at h
  split at h
  ·cases h
  ·rename_i k hk
   rcases Nat.eq_or_lt_of_le h1 with rfl | hlt
   ·intro hd;rw [Nat.mod_eq_zero_of_dvd hd] at hk;cases hk
   ·exact noDiv_spec n f (d+1) h e (by omega) (by omega)
theorem prime_small {n f:Nat} (h2:2≤n) (h:noDiv n f 2=true) (hb:n<(f+2)*(f+2)):Prime n:=by
 refine prime_of_factors h2 fun q hq hd=>?_
 rcases Nat.lt_or_ge q (f+2) with hlt | hge
 ·exact absurd hd (noDiv_spec n f 2 h q hq.1 (by omega))
 ·exact Nat.lt_of_lt_of_le hb (Nat.mul_le_mul hge hge)
def pmd (m x:Nat):Nat→Nat→Nat
 | 0,_=>1 % m
 | f+1,e=>(match e % 2 with
  | 0=>pmd m (x*x % m) f (e / 2)
  | _=>x*pmd m (x*x % m) f (e / 2) % m)
theorem pmd_eq (m:Nat):∀ (f x e:Nat),e<2^f→pmd m x f e=x^e % m
 | 0,x,e,h=>by
  have:e=0:=by simpa using h
  subst this;rfl
 | f+1,x,e,h=>by
  have ih:=pmd_eq m f (x*x % m) (e / 2) (by rw [Nat.pow_succ] at h;omega)
  have h2:(x*x % m)^(e / 2) % m=x^(2*(e / 2)) % m:=by
   rw [← Nat.pow_mod,Nat.pow_mul,Nat.pow_two]
  unfold pmd
  rcases Nat.mod_two_eq_zero_or_one e with h0 | h1
  ·rw [h0]
   show pmd m (x*x % m) f (e / 2)=_
   rw [ih,h2,show 2*(e / 2)=e by omega]
  ·rw [h1]
   show x*pmd m (x*x % m) f (e / 2) % m=_
   rw [ih,h2,Nat.mul_mod,Nat.mod_mod,← Nat.mul_mod,← Nat.pow_succ',show (2*(e / 2)).succ=e by omega]
def pockB (N q h a f:Nat):Bool:=Nat.beq N (h*q+1)&&(Nat.ble (N-1+1) (2^f)&&(Nat.beq (pmd N a f (N-1)) 1&&Nat.beq (Nat.gcd (pmd N a f h+N-1) N) 1))
theorem pockB_spec {N q h a f:Nat} (h0:pockB N q h a f=true) (hq:0<q):N=h*q+1∧a^(N-1) % N=1∧Nat.gcd (a^h % N+N-1) N=1:=by
 unfold pockB at h0
 simp only [Bool.and_eq_true] at h0
 obtain ⟨c1,c2,c3,c4⟩:=h0
 have e1:=Nat.eq_of_beq_eq_true c1
 have e2:=Nat.le_of_ble_eq_true c2
 have e3:=Nat.eq_of_beq_eq_true c3
 have e4:=Nat.eq_of_beq_eq_true c4
 have hle:h*1≤h*q:=Nat.mul_le_mul_left h hq
 rw [pmd_eq N f a _ (by omega)] at e3
 rw [pmd_eq N f a _ (by omega)] at e4
 exact ⟨e1,e3,e4⟩
end Go.Proofs.YtfmajnlfpnjagaaGreat.Num
/- The moduli p and r are prime; squares modulo p. -/
namespace Go.Proofs.YtfmajnlfpnjagaaGreat.Num
set_option maxRecDepth 100000
set_option maxHeartbeats 4000000
theorem small {n f:Nat} (h:(Nat.ble 2 n&&(noDiv n f 2&&Nat.blt n ((f+2)*(f+2))))=true):Prime n:=by
 simp only [Bool.and_eq_true] at h
 exact prime_small (Nat.le_of_ble_eq_true h.1) h.2.1 (Nat.le_of_ble_eq_true h.2.2)
theorem pock {N q h a f:Nat} (hq:Prime q) (hb:(pockB N q h a f&&(Nat.blt h q&&Nat.blt 0 h))=true):Prime N:=by
 simp only [Bool.and_eq_true] at hb
 have hq2:=hq.1
 obtain ⟨e1,e2,e3⟩:=pockB_spec hb.1 (by omega)
 exact pocklington e1 hq (Nat.le_of_ble_eq_true hb.2.1) (Nat.le_of_ble_eq_true hb.2.2) e2 e3
theorem pr421987:Prime 421987:=small (f:=650) (by kernel_rfl)
theorem pr755057:Prime 755057:=small (f:=870) (by kernel_rfl)
theorem pr13090036741:Prime 13090036741:=pock (q:=421987) (h:=31020) (a:=2) (f:=64) pr421987 (by kernel_rfl)
theorem pock2 {N q h a q' h' a' f:Nat} (hq:Prime q) (hq':Prime q') (hb:(pockB N q h a f&&(pockB N q' h' a' f&&(Nat.blt q q'&&(Nat.blt N ((q*q'+1)*(q*q'+1))&&Nat.ble 2 N))))=true):Prime N:=by
 simp only [Bool.and_eq_true] at hb
 obtain ⟨b1,b2,b3,b4,b5⟩:=hb
 have hq2:=hq.1
 have hq2':=hq'.1
 obtain ⟨e1,e2,e3⟩:=pockB_spec b1 (by omega)
 obtain ⟨d1,d2,d3⟩:=pockB_spec b2 (by omega)
 exact pocklington2 e1 hq e2 e3 d1 hq' d2 d3 (Nat.le_of_ble_eq_true b3) (Nat.le_of_ble_eq_true b4) (Nat.le_of_ble_eq_true b5)
theorem prQ3:Prime 3819663927398918131021:=pock2 (h:=(3819663927398918131021-1) / 755057) (a:=2) (h':=(3819663927398918131021-1) / 13090036741) (a':=2) (f:=128) pr755057 pr13090036741 (by kernel_rfl)
theorem prQ2:Prime 1125266252156850182658904441386709967:=pock (h:=294598235223046) (a:=2) (f:=128) prQ3 (by kernel_rfl)
theorem prQ:Prime 15778400344354997994418419698270088123916926905054652752758194827714659:=pock (h:=14021926201120671579994175730661374) (a:=2) (f:=256) prQ2 (by kernel_rfl)
theorem prp:Prime 4002409555221667393417789825735904156556882819939007885332058136124031650490837864442687629129015664037894272559787:=pock (h:=253663835868735594330404923636534084567099854) (a:=2) (f:=384) prQ (by kernel_rfl)
theorem sq_eq {p x y:Nat} (hp:Prime p) (hx:x<p) (hy:y<p) (h:x*x % p=y*y % p):x=y∨x+y=p:=by
 have gen:∀ {x y:Nat},x<p→y≤x→x*x % p=y*y % p→x=y∨x+y=p:=by
  intro x y hx hle h
  have hd:=mod_dvd h (Nat.mul_le_mul hle hle)
  have e:x*x-y*y=(x+y)*(x-y):=Nat.mul_self_sub_mul_self_eq x y
  rw [e] at hd
  rcases hp.dvd_mul hd with h1 | h1
  ·rcases Nat.eq_zero_or_pos (x+y) with h0 | h0
   ·left;omega
   ·obtain ⟨k,hk⟩:=h1
    right
    have:k=1:=by
     rcases Nat.lt_or_ge k 2 with h2 | h2
     ·rcases Nat.eq_zero_or_pos k with h3 | h3
      ·subst h3;omega
      ·omega
     ·have:=Nat.mul_le_mul_left p h2;omega
    subst this;omega
  ·left
   rcases Nat.eq_zero_or_pos (x-y) with h0 | h0
   ·omega
   ·have:=Nat.le_of_dvd h0 h1;omega
 rcases Nat.lt_or_ge x y with h1 | h1
 ·rcases gen hy (Nat.le_of_lt h1) h.symm with e | e
  ·exact .inl e.symm
  ·exact .inr (by omega)
 ·exact gen hx h1 h
theorem pm_one {p x:Nat} (hp:Prime p) (h2:2<p) (h:x*x % p=1):x % p=1∨x % p=p-1:=by
 have h':x % p*(x % p) % p=1*1 % p:=by rw [← Nat.mul_mod,h,Nat.mul_one,Nat.mod_eq_of_lt (by omega)]
 rcases sq_eq hp (Nat.mod_lt x (by omega)) (show 1<p by omega) h' with e | e
 ·exact .inl e
 ·exact .inr (by omega)
theorem chi_cases {p a:Nat} (hp:Prime p) (h2:2<p) (hodd:p % 2=1) (ha:¬ p∣a):a^((p-1) / 2) % p=1∨a^((p-1) / 2) % p=p-1:=by
 refine pm_one hp h2 ?_
 rw [← Nat.pow_two,← Nat.pow_mul,show (p-1) / 2*2=p-1 by omega]
 exact fermat hp ha
theorem quarter_sq {p a:Nat} (h4:p % 4=3):a^((p+1) / 4) % p*(a^((p+1) / 4) % p) % p=a*(a^((p-1) / 2)) % p:=by
 rw [← Nat.mul_mod,← Nat.pow_add,← Nat.pow_succ']
 congr 2
 omega
theorem neg_mod {p a:Nat} (hp:0<p):a*(p-1) % p=(p-a % p) % p:=by
 have h1:(a*(p-1)+a) % p=0:=by
  have:a*(p-1)+a=a*p:=by
   have:=Nat.mul_sub a p 1
   have h2:a*1≤a*p:=Nat.mul_le_mul_left a hp
   omega
  rw [this,Nat.mul_mod_left]
 have hl:=Nat.mod_lt a hp
 have hl2:=Nat.mod_lt (a*(p-1)) hp
 have h3:(a*(p-1) % p+a % p) % p=0:=by rw [← Nat.add_mod];exact h1
 have h4:=Nat.div_add_mod (a*(p-1) % p+a % p) p
 rw [h3] at h4
 rcases Nat.eq_zero_or_pos (a % p) with h0 | h0
 ·rw [h0] at h4 ⊢
  have:(a*(p-1) % p+0) / p=0:=Nat.div_eq_of_lt (by omega)
  rw [this] at h4
  rw [Nat.sub_zero,Nat.mod_self];omega
 ·rw [Nat.mod_eq_of_lt (a:=p-a % p) (by omega)]
  have:(a*(p-1) % p+a % p) / p=1:=by
   have l1:(a*(p-1) % p+a % p) / p<2:=Nat.div_lt_of_lt_mul (by omega)
   rcases Nat.eq_zero_or_pos ((a*(p-1) % p+a % p) / p) with e | e
   ·rw [e] at h4;omega
   ·omega
  rw [this] at h4;omega
theorem isSq_iff {p a:Nat} (hp:Prime p) (h4:p % 4=3) (ha:¬ p∣a):a^((p+1) / 4) % p*(a^((p+1) / 4) % p) % p=a % p↔a^((p-1) / 2) % p=1:=by
 have h2:2<p:=by omega
 have hz:a % p≠0:=fun h=>ha (Nat.dvd_of_mod_eq_zero h)
 have hlt:=Nat.mod_lt a (show 0<p by omega)
 rw [quarter_sq h4,Nat.mul_mod]
 rcases chi_cases hp h2 (by omega) ha with h | h
 ·rw [h,Nat.mul_one,Nat.mod_mod];simp
 ·rw [h,neg_mod (by omega),Nat.mod_mod,Nat.mod_eq_of_lt (a:=p-a % p) (by omega)]
  constructor
  ·intro h3;omega
  ·intro h3;omega
end Go.Proofs.YtfmajnlfpnjagaaGreat.Num
/- Numbers modulo p as a ring. -/
namespace Go.Proofs.YtfmajnlfpnjagaaGreat.Num
section
variable {p:Nat} [NeZero p]
def toF (p:Nat) [NeZero p] (x:Nat):Fin p:=Fin.ofNat p x
theorem toF_val (x:Nat):(toF p x).val=x % p:=rfl
theorem toF_eq {x y:Nat}:toF p x=toF p y↔x % p=y % p:=by
 rw [Fin.ext_iff,toF_val,toF_val]
theorem toF_mod (x:Nat):toF p (x % p)=toF p x:=by rw [toF_eq,Nat.mod_mod]
theorem toF_add (x y:Nat):toF p (x+y)=toF p x+toF p y:=by
 rw [Fin.ext_iff,Fin.val_add,toF_val,toF_val,toF_val,← Nat.add_mod]
theorem toF_mul (x y:Nat):toF p (x*y)=toF p x*toF p y:=by
 rw [Fin.ext_iff,Fin.val_mul,toF_val,toF_val,toF_val,← Nat.mul_mod]
theorem toF_zero:toF p 0=0:=by rw [Fin.ext_iff,toF_val];simp
theorem toF_one:toF p 1=1:=rfl
theorem toF_p:toF p p=0:=by rw [Fin.ext_iff,toF_val];simp
theorem toF_sub {x y:Nat} (h:y≤x):toF p (x-y)=toF p x-toF p y:=by
 have:toF p (x-y)+toF p y=toF p x:=by rw [← toF_add,Nat.sub_add_cancel h]
 rw [← this];grind
theorem toF_neg (x:Nat):toF p (p-x % p)=- toF p x:=by
 have hp:0<p:=Nat.pos_of_ne_zero (NeZero.ne p)
 rw [toF_sub (Nat.le_of_lt (Nat.mod_lt x hp)),toF_p,toF_mod];grind
theorem toF_dvd {x:Nat}:toF p x=0↔p∣x:=by
 rw [← toF_zero,toF_eq,Nat.zero_mod]
 exact ⟨Nat.dvd_of_mod_eq_zero,Nat.mod_eq_zero_of_dvd⟩
theorem toF_inj {x y:Nat} (hx:x<p) (hy:y<p) (h:toF p x=toF p y):x=y:=by
 have:=toF_eq.1 h
 rwa [Nat.mod_eq_of_lt hx,Nat.mod_eq_of_lt hy] at this
theorem F_mul_eq_zero (hp:Prime p) {a b:Fin p} (h:a*b=0):a=0∨b=0:=by
 have e:∀ x:Fin p,toF p x.val=x:=fun x=>by rw [Fin.ext_iff,toF_val,Nat.mod_eq_of_lt x.isLt]
 rw [← e a,← e b,← toF_mul,toF_dvd] at h
 rw [← e a,← e b,toF_dvd,toF_dvd]
 exact hp.dvd_mul h
end
end Go.Proofs.YtfmajnlfpnjagaaGreat.Num
/- The order r is prime. -/
namespace Go.Proofs.YtfmajnlfpnjagaaGreat.Num
set_option maxRecDepth 100000
set_option maxHeartbeats 4000000
end Go.Proofs.YtfmajnlfpnjagaaGreat.Num
/- Squares modulo p, and their roots. -/
namespace Go.Proofs.YtfmajnlfpnjagaaGreat
open Ex Num
set_option maxRecDepth 100000
set_option maxHeartbeats 4000000
theorem pN_prime:Num.Prime pN:=prp
theorem pN4:pN % 4=3:=by kernel_rfl
theorem pN_gt:2<pN:=by decide
theorem QN_eq:QN=(pN+1) / 4:=by kernel_rfl
noncomputable def chiN (a:Nat):Nat:=a^((pN-1) / 2) % pN
theorem dvdN {a:Nat}:pN∣a↔a % pN=0:=⟨Nat.mod_eq_zero_of_dvd,Nat.dvd_of_mod_eq_zero⟩
theorem isSqN_iff {a:Nat} (h:a % pN≠0):isSqN a=true↔chiN a=1:=by
 unfold isSqN mulN chiN
 rw [powN_eq,QN_eq,decide_eq_true_eq]
 exact isSq_iff pN_prime pN4 fun hd=>h (dvdN.1 hd)
theorem isSqN_zero {a:Nat} (h:a % pN=0):isSqN a=true:=by
 unfold isSqN mulN
 rw [powN_eq,decide_eq_true_eq,Nat.pow_mod,h,Nat.zero_pow (by decide)]
 rfl
theorem mm:(pN-1)*(pN-1) % pN=1:=by kernel_rfl
theorem m1:(pN-1)*1 % pN=pN-1:=by kernel_rfl
theorem mulN_lt (a b:Nat):mulN a b<pN:=Nat.mod_lt _ pN_pos
theorem neg_sq {v:Nat} (hl:v<pN):(pN-v)*(pN-v) % pN=v*v % pN:=by
 obtain ⟨u,hu⟩:∃ u,pN=u+v:=⟨pN-v,by omega⟩
 rw [show pN-v=u by omega]
 have e:u*u+v*pN=v*v+u*pN:=by rw [hu,Nat.mul_add,Nat.mul_add,Nat.mul_comm v u];omega
 have h1:(u*u+v*pN) % pN=u*u % pN:=Nat.add_mul_mod_self_right _ _ _
 have h2:(v*v+u*pN) % pN=v*v % pN:=Nat.add_mul_mod_self_right _ _ _
 rw [← h1,e,h2]
theorem evenN_sq (w:Nat):mulN (evenN w) (evenN w)=mulN w w:=by
 unfold evenN
 split
 ·unfold mulN negN
  rw [← Nat.mul_mod]
  by_cases h:w % pN=0
  ·rw [h,Nat.sub_zero,Nat.mul_mod pN,Nat.mod_self,Nat.mul_mod w,h]
  ·have e:(pN-w % pN)*(pN-w % pN) % pN=(w % pN)*(w % pN) % pN:=by
    have hl:=modp_lt w
    generalize w % pN=v at *
    exact neg_sq hl
   rw [e,← Nat.mul_mod]
 ·rfl
theorem evenN_even {w:Nat} (h:w<pN):evenN w % 2=0∧evenN w<pN:=by
 have ho:=pN_odd
 unfold evenN
 split
 ·rename_i hs
  have h1:w % 2=1:=by unfold signN at hs;rw [Nat.mod_eq_of_lt h] at hs;omega
  have hz:w % pN≠0:=by rw [Nat.mod_eq_of_lt h];omega
  rw [negN_val hz,Nat.mod_eq_of_lt h];omega
 ·rename_i hs
  have h1:w % 2≠1:=fun e=>by apply hs;unfold signN;rw [Nat.mod_eq_of_lt h];omega
  omega
theorem powN_lt (a e:Nat):powN a e<pN:=by rw [powN_eq];exact Nat.mod_lt _ pN_pos
theorem rootN_spec {a:Nat} (h:isSqN a=true):mulN (rootN a) (rootN a)=a % pN∧rootN a % 2=0∧rootN a<pN:=by
 have e:rootN a=evenN (powN a QN):=by unfold rootN;rw [if_pos h]
 obtain ⟨q1,q2⟩:=evenN_even (powN_lt a QN)
 rw [e,evenN_sq]
 refine ⟨?_,q1,q2⟩
 unfold isSqN at h
 exact of_decide_eq_true h
end Go.Proofs.YtfmajnlfpnjagaaGreat
/- math/bits: Len64, LeadingZeros64. -/
namespace Go.Proofs.YtfmajnlfpnjagaaGreat
open Ex
set_option maxRecDepth 100000
set_option maxHeartbeats 4000000
def lenL:List UInt8:=[0,1]++(List.replicate 2 2++(List.replicate 4 3++(List.replicate 8 4++(List.replicate 16 5++(List.replicate 32 6++(List.replicate 64 7++List.replicate 128 8))))))
def lenT:ByteArray:=⟨⟨lenL⟩⟩
def shI (x:Int) (k:Nat):Int:=Int.fdiv x (2^k)
theorem len_ttt (x:Int):pureRun Tryz.prog (orc S5 K0) Tryz.f322 [.val false [.v (.int .u64 x)]] [true,true,true] 100 =
 some ([(decide (4294967296≤x),true),(decide (0≤(32:Int)∧0≤x),true),(decide (65536≤(shI x 32)),true),(decide (0≤(16:Int)∧0≤(shI x 32)),true),(decide (256≤(shI (shI x 32) 16)),true),(decide (0≤(8:Int)∧0≤(shI (shI x 32) 16)),true),(decide (0≤wrapc false .u8 (shI (shI (shI x 32) 16) 8)∧wrapc false .u8 (shI (shI (shI x 32) 16) 8)<(lenT.size:Int)),true)],intA (wrapc false .i64 (wrapc true .i64 (wrapc true .i64 (32+16)+8)+wrapc false .i64 (strAt lenT (wrapc false .u8 (shI (shI (shI x 32) 16) 8)))))):=by kernel_rfl
theorem len_ttf (x:Int):pureRun Tryz.prog (orc S5 K0) Tryz.f322 [.val false [.v (.int .u64 x)]] [true,true,false] 100 =
 some ([(decide (4294967296≤x),true),(decide (0≤(32:Int)∧0≤x),true),(decide (65536≤(shI x 32)),true),(decide (0≤(16:Int)∧0≤(shI x 32)),true),(decide (256≤(shI (shI x 32) 16)),false),(decide (0≤wrapc false .u8 (shI (shI x 32) 16)∧wrapc false .u8 (shI (shI x 32) 16)<(lenT.size:Int)),true)],intA (wrapc false .i64 (wrapc true .i64 (32+16)+wrapc false .i64 (strAt lenT (wrapc false .u8 (shI (shI x 32) 16)))))):=by kernel_rfl
theorem len_tft (x:Int):pureRun Tryz.prog (orc S5 K0) Tryz.f322 [.val false [.v (.int .u64 x)]] [true,false,true] 100 =
 some ([(decide (4294967296≤x),true),(decide (0≤(32:Int)∧0≤x),true),(decide (65536≤(shI x 32)),false),(decide (256≤(shI x 32)),true),(decide (0≤(8:Int)∧0≤(shI x 32)),true),(decide (0≤wrapc false .u8 (shI (shI x 32) 8)∧wrapc false .u8 (shI (shI x 32) 8)<(lenT.size:Int)),true)],intA (wrapc false .i64 (wrapc true .i64 (32+8)+wrapc false .i64 (strAt lenT (wrapc false .u8 (shI (shI x 32) 8)))))):=by kernel_rfl
theorem len_tff (x:Int):pureRun Tryz.prog (orc S5 K0) Tryz.f322 [.val false [.v (.int .u64 x)]] [true,false,false] 100 =
 some ([(decide (4294967296≤x),true),(decide (0≤(32:Int)∧0≤x),true),(decide (65536≤(shI x 32)),false),(decide (256≤(shI x 32)),false),(decide (0≤wrapc false .u8 (shI x 32)∧wrapc false .u8 (shI x 32)<(lenT.size:Int)),true)],intA (wrapc false .i64 (32+wrapc false .i64 (strAt lenT (wrapc false .u8 (shI x 32)))))):=by kernel_rfl
theorem len_ftt (x:Int):pureRun Tryz.prog (orc S5 K0) Tryz.f322 [.val false [.v (.int .u64 x)]] [false,true,true] 100 =
 some ([(decide (4294967296≤x),false),(decide (65536≤x),true),(decide (0≤(16:Int)∧0≤x),true),(decide (256≤(shI x 16)),true),(decide (0≤(8:Int)∧0≤(shI x 16)),true),(decide (0≤wrapc false .u8 (shI (shI x 16) 8)∧wrapc false .u8 (shI (shI x 16) 8)<(lenT.size:Int)),true)],intA (wrapc false .i64 (wrapc true .i64 (wrapc true .i64 (0+16)+8)+wrapc false .i64 (strAt lenT (wrapc false .u8 (shI (shI x 16) 8)))))):=by kernel_rfl
theorem len_ftf (x:Int):pureRun Tryz.prog (orc S5 K0) Tryz.f322 [.val false [.v (.int .u64 x)]] [false,true,false] 100 =
 some ([(decide (4294967296≤x),false),(decide (65536≤x),true),(decide (0≤(16:Int)∧0≤x),true),(decide (256≤(shI x 16)),false),(decide (0≤wrapc false .u8 (shI x 16)∧wrapc false .u8 (shI x 16)<(lenT.size:Int)),true)],intA (wrapc false .i64 (wrapc true .i64 (0+16)+wrapc false .i64 (strAt lenT (wrapc false .u8 (shI x 16)))))):=by kernel_rfl
theorem len_fft (x:Int):pureRun Tryz.prog (orc S5 K0) Tryz.f322 [.val false [.v (.int .u64 x)]] [false,false,true] 100 =
 some ([(decide (4294967296≤x),false),(decide (65536≤x),false),(decide (256≤x),true),(decide (0≤(8:Int)∧0≤x),true),(decide (0≤wrapc false .u8 (shI x 8)∧wrapc false .u8 (shI x 8)<(lenT.size:Int)),true)],intA (wrapc false .i64 (wrapc true .i64 (0+8)+wrapc false .i64 (strAt lenT (wrapc false .u8 (shI x 8)))))):=by kernel_rfl
theorem len_fff (x:Int):pureRun Tryz.prog (orc S5 K0) Tryz.f322 [.val false [.v (.int .u64 x)]] [false,false,false] 100 =
 some ([(decide (4294967296≤x),false),(decide (65536≤x),false),(decide (256≤x),false),(decide (0≤wrapc false .u8 x∧wrapc false .u8 x<(lenT.size:Int)),true)],intA (wrapc false .i64 (0+wrapc false .i64 (strAt lenT (wrapc false .u8 x))))):=by kernel_rfl
def Bits (x L top:Nat):Prop:=x<2^L∧(0<x→1≤L∧2^(L-1)≤x)∧L≤top
def lenS (v:Nat):Nat:=(lenL.getD v 0).toNat
def bitsB (x L:Nat):Bool:=Nat.blt x (2^L)&&((Nat.beq x 0||(Nat.ble 1 L&&Nat.ble (2^(L-1)) x))&&Nat.ble L 8)
def lenChk:Nat→Bool
 | 0=>true
 | n+1=>bitsB n (lenS n)&&lenChk n
theorem lenChk_spec:∀ n,lenChk n=true→∀ v,v<n→bitsB v (lenS v)=true
 | 0,_,v,h=>by omega
 | n+1,h,v,hv=>by
  simp only [lenChk,Bool.and_eq_true] at h
  rcases Nat.lt_or_ge v n with h1 | h1
  ·exact lenChk_spec n h.2 v h1
  ·have:v=n:=by omega
   subst this;exact h.1
theorem lenS_bits {v:Nat} (h:v<256):Bits v (lenS v) 8:=by
 have:=lenChk_spec 256 (by kernel_rfl) v h
 unfold bitsB at this
 simp only [Bool.and_eq_true,Bool.or_eq_true] at this
 obtain ⟨h1,h2,h3⟩:=this
 refine ⟨Nat.le_of_ble_eq_true h1,fun hp=>?_,Nat.le_of_ble_eq_true h3⟩
 rcases h2 with h2 | ⟨h2,h4⟩
 ·have:=Nat.eq_of_beq_eq_true h2;omega
 ·exact ⟨Nat.le_of_ble_eq_true h2,Nat.le_of_ble_eq_true h4⟩
theorem bits_more {x L top:Nat} (k:Nat) (h:Bits (x / 2^k) L top) (hx:2^k≤x):Bits x (k+L) (k+top):=by
 obtain ⟨h1,h2,h3⟩:=h
 have hp:0<2^k:=Nat.pow_pos (by decide)
 have hq:0<x / 2^k:=Nat.div_pos hx hp
 obtain ⟨h4,h5⟩:=h2 hq
 refine ⟨?_,fun _=>⟨by omega,?_⟩,by omega⟩
 ·rw [Nat.pow_add]
  exact (Nat.div_lt_iff_lt_mul hp).1 h1 |> fun q=>by rwa [Nat.mul_comm] at q
 ·rw [show k+L-1=k+(L-1) by omega,Nat.pow_add]
  have:=(Nat.le_div_iff_mul_le hp).1 h5
  rwa [Nat.mul_comm] at this
theorem bits_top {x L top top':Nat} (h:Bits x L top) (hle:top≤top'):Bits x L top':=⟨h.1,h.2.1,Nat.le_trans h.2.2 hle⟩
def len8 (x:Nat):Nat:=if 256≤x then 8+lenS (x / 2^8) else lenS x
def len16 (x:Nat):Nat:=if 65536≤x then 16+len8 (x / 2^16) else len8 x
def lenN (x:Nat):Nat:=if 4294967296≤x then 32+len16 (x / 2^32) else len16 x
theorem len8_bits {x:Nat} (h:x<65536):Bits x (len8 x) 16:=by
 unfold len8
 split
 ·exact bits_more 8 (lenS_bits (by omega)) (by omega)
 ·exact bits_top (lenS_bits (by omega)) (by decide)
theorem len16_bits {x:Nat} (h:x<4294967296):Bits x (len16 x) 32:=by
 unfold len16
 split
 ·exact bits_more 16 (len8_bits (by omega)) (by omega)
 ·exact bits_top (len8_bits (by omega)) (by decide)
theorem lenN_bits {x:Nat} (h:x<18446744073709551616):Bits x (lenN x) 64:=by
 unfold lenN
 split
 ·exact bits_more 32 (len16_bits (by omega)) (by omega)
 ·exact bits_top (len16_bits (by omega)) (by decide)
theorem shI_nat (x k:Nat):shI (x:Int) k=((x / 2^k:Nat):Int):=by
 unfold shI
 rw [Int.fdiv_eq_ediv_of_nonneg _ (by exact_mod_cast Nat.zero_le (2^k))]
 rw [Int.natCast_ediv,Int.natCast_pow];rfl
theorem wrapc_i64 (c:Bool) {z:Int} (h:-9223372036854775808≤z∧z≤9223372036854775807):wrapc c .i64 z=z:=by
 rw [wrapc_eq];exact wI_eq h
theorem wrapc_u8 {v:Nat} (h:v<256):wrapc false .u8 (v:Int)=v:=by
 rw [wrapc_eq,IntKind.wrap_u8];omega
theorem strAt_len {v:Nat}:strAt lenT (v:Int)=((lenS v:Nat):Int):=by
 unfold strAt lenS lenT
 rw [Int.toNat_natCast]
theorem lenT_size:lenT.size=256:=by kernel_rfl
theorem lenS_le (v:Nat):lenS v≤255:=by
 have:=(lenL.getD v 0).toNat_lt
 unfold lenS;omega
theorem len64_ok (x:Nat) (hx:x<18446744073709551616):PureOk Tryz.prog 322 [.val false [.v (.int .u64 (x:Int))]] (intA (lenN x)):=by
 have pk:=fun (c:List (Bool×Bool)) (v:AV) (p:List Bool) (h:pureRun Tryz.prog (orc S5 K0) Tryz.f322 [.val false [.v (.int .u64 (x:Int))]] p 100=some (c,v)) (hc:okConds c) (hk:noKeys v=true)=>pure_ok (orc_ok S5ok K0ok) mixed Tryz.func322 h hc hk
 have fin:∀ (n v m:Nat),v<256→n≤56→n+lenS v=m→intA (wrapc false .i64 ((n:Int)+wrapc false .i64 (strAt lenT (wrapc false .u8 (v:Int)))))=intA (m:Int):=by
  intro n v m hv hn he
  have:=lenS_le v
  rw [wrapc_u8 hv,strAt_len,wrapc_i64 (z:=((lenS v:Nat):Int)) _ (by omega),wrapc_i64 _ (by omega)]
  congr 1;omega
 have w0:∀ (z:Int),wrapc true .i64 z=wI z:=fun z=>wrapc_eq ..
 have cnd:∀ v:Nat,v<256→decide (0≤wrapc false .u8 (v:Int)∧wrapc false .u8 (v:Int)<(lenT.size:Int))=true:=by
  intro v hv
  rw [wrapc_u8 hv,lenT_size];simp;omega
 unfold lenN
 by_cases h1:4294967296≤x
 ·rw [if_pos h1]
  unfold len16
  have s1:=shI_nat x 32
  generalize hy:x / 2^32=y at *
  have hyb:y<4294967296:=by omega
  by_cases h2:65536≤y
  ·rw [if_pos h2]
   unfold len8
   have s2:=shI_nat y 16
   generalize hz:y / 2^16=z at *
   have hzb:z<65536:=by omega
   by_cases h3:256≤z
   ·rw [if_pos h3]
    have s3:=shI_nat z 8
    have hb:z / 2^8<256:=by omega
    have r:=len_ttt (x:Int)
    rw [s1,s2,s3] at r
    have h:=pk _ _ _ r ⟨by simp;omega,by simp,by simp;omega,by simp,by simp;omega,by simp,cnd _ hb,trivial⟩ rfl
    have e:wrapc true .i64 (wrapc true .i64 (32+16)+8)=((56:Nat):Int):=by kernel_rfl
    rw [e,fin 56 _ (32+(16+(8+lenS (z / 2^8)))) hb (by decide) (by omega)] at h
    exact h
   ·rw [if_neg h3]
    have hb:z<256:=by omega
    have r:=len_ttf (x:Int)
    rw [s1,s2] at r
    have h:=pk _ _ _ r ⟨by simp;omega,by simp,by simp;omega,by simp,by simp;omega,cnd _ hb,trivial⟩ rfl
    have e:wrapc true .i64 (32+16)=((48:Nat):Int):=by kernel_rfl
    rw [e,fin 48 _ (32+(16+lenS z)) hb (by decide) (by omega)] at h
    exact h
  ·rw [if_neg h2]
   unfold len8
   by_cases h3:256≤y
   ·rw [if_pos h3]
    have s3:=shI_nat y 8
    have hb:y / 2^8<256:=by omega
    have r:=len_tft (x:Int)
    rw [s1,s3] at r
    have h:=pk _ _ _ r ⟨by simp;omega,by simp,by simp;omega,by simp;omega,by simp,cnd _ hb,trivial⟩ rfl
    have e:wrapc true .i64 (32+8)=((40:Nat):Int):=by kernel_rfl
    rw [e,fin 40 _ (32+(8+lenS (y / 2^8))) hb (by decide) (by omega)] at h
    exact h
   ·rw [if_neg h3]
    have hb:y<256:=by omega
    have r:=len_tff (x:Int)
    rw [s1] at r
    have h:=pk _ _ _ r ⟨by simp;omega,by simp,by simp;omega,by simp;omega,cnd _ hb,trivial⟩ rfl
    rw [show (32:Int)=((32:Nat):Int) from rfl,fin 32 _ (32+lenS y) hb (by decide) (by omega)] at h
    exact h
 ·rw [if_neg h1]
  unfold len16
  by_cases h2:65536≤x
  ·rw [if_pos h2]
   unfold len8
   have s2:=shI_nat x 16
   generalize hz:x / 2^16=z at *
   have hzb:z<65536:=by omega
   by_cases h3:256≤z
   ·rw [if_pos h3]
    have s3:=shI_nat z 8
    have hb:z / 2^8<256:=by omega
    have r:=len_ftt (x:Int)
    rw [s2,s3] at r
    have h:=pk _ _ _ r ⟨by simp;omega,by simp;omega,by simp,by simp;omega,by simp,cnd _ hb,trivial⟩ rfl
    have e:wrapc true .i64 (wrapc true .i64 (0+16)+8)=((24:Nat):Int):=by kernel_rfl
    rw [e,fin 24 _ (16+(8+lenS (z / 2^8))) hb (by decide) (by omega)] at h
    exact h
   ·rw [if_neg h3]
    have hb:z<256:=by omega
    have r:=len_ftf (x:Int)
    rw [s2] at r
    have h:=pk _ _ _ r ⟨by simp;omega,by simp;omega,by simp,by simp;omega,cnd _ hb,trivial⟩ rfl
    have e:wrapc true .i64 (0+16)=((16:Nat):Int):=by kernel_rfl
    rw [e,fin 16 _ (16+lenS z) hb (by decide) (by omega)] at h
    exact h
  ·rw [if_neg h2]
   unfold len8
   by_cases h3:256≤x
   ·rw [if_pos h3]
    have s3:=shI_nat x 8
    have hb:x / 2^8<256:=by omega
    have r:=len_fft (x:Int)
    rw [s3] at r
    have h:=pk _ _ _ r ⟨by simp;omega,by simp;omega,by simp;omega,by simp,cnd _ hb,trivial⟩ rfl
    have e:wrapc true .i64 (0+8)=((8:Nat):Int):=by kernel_rfl
    rw [e,fin 8 _ (8+lenS (x / 2^8)) hb (by decide) (by omega)] at h
    exact h
   ·rw [if_neg h3]
    have hb:x<256:=by omega
    have r:=len_fff (x:Int)
    have h:=pk _ _ _ r ⟨by simp;omega,by simp;omega,by simp;omega,cnd _ hb,trivial⟩ rfl
    rw [show (0:Int)=((0:Nat):Int) from rfl,fin 0 _ (lenS x) hb (by decide) (by omega)] at h
    exact h
end Go.Proofs.YtfmajnlfpnjagaaGreat
/- math/bits.LeadingZeros64; contracts of functions of integers; the walk of Div64. -/
namespace Go.Proofs.YtfmajnlfpnjagaaGreat
open Ex
set_option maxRecDepth 100000
set_option maxHeartbeats 4000000
def asInts:List IntKind→List AV→Option (List Int)
 | [],[]=>some []
 | k::ks,A::r=>match asI (some A),asInts ks r with
  | some (_,k',i),some l=>match decide (k'=k) with
   | true=>some (i::l)
   | false=>none
  | _,_=>none
 | _,_=>none
def intAVs:List IntKind→List Int→List AV
 | k::ks,i::is=>.val false [.v (.int k i)]::intAVs ks is
 | _,_=>[]
def hasAll:List IntKind→List Int→Prop
 | k::ks,i::is=>has k i∧hasAll ks is
 | _,_=>True
theorem asInts_rel:∀ {ks:List IntKind} {args:List AV} {is:List Int} {us:List Value},asInts ks args=some is→relAs noEnv args us→relAs noEnv (intAVs ks is) us∧hasAll ks is
 | [],[],is,us,h,hr=>by
  injection h with h;subst h
  exact ⟨hr,trivial⟩
 | [],_::_,_,_,h,_=>by cases h
 | _::_,[],_,_,h,_=>by cases h
 | k::ks,A::r,is,us,h,hr=>by
  unfold asInts at h
  split at h
  ·rename_i c k' i l hi hl
   split at h
   ·rename_i hk
    injection h with h;subst h
    have hk':k'=k:=by simpa using hk
    subst hk'
    obtain ⟨u,us',r1,r2,rfl⟩:=hr
    obtain ⟨q1,q2⟩:=normI hi r1
    obtain ⟨p1,p2⟩:=asInts_rel hl r2
    exact ⟨⟨u,us',q1,p1,rfl⟩,q2,p2⟩
   ·cases h
  ·cases h
def spInts (ks:List IntKind) (g:List Int→Option (List (Bool×Bool)×AV)):List AV→Option (List (Bool×Bool)×AV):=fun args=>match asInts ks args with
 | some is=>g is
 | none=>none
theorem spInts_ok {f:FuncId} {ks:List IntKind} {g:List Int→Option (List (Bool×Bool)×AV)} (h:∀ is c v,g is=some (c,v)→hasAll ks is→okConds c→PureOk Tryz.prog f (intAVs ks is) v) :
  ∀ args c v,spInts ks g args=some (c,v)→okConds c→PureOk Tryz.prog f args v:=by
 intro args c v hs hc us w ha
 unfold spInts at hs
 split at hs
 ·rename_i is his
  obtain ⟨q1,q2⟩:=asInts_rel his ha
  exact h is c v hs q2 hc us w q1
 ·cases hs
def len1 (g:Int→List (Bool×Bool)×AV):List Int→Option (List (Bool×Bool)×AV)
 | [x]=>some (g x)
 | _=>none
noncomputable def S20:List (FuncId×ASpec):=(322,condSpec (spInts [.u64] (len1 fun x=>([],intA (lenN x.toNat)))))::S19
theorem S20ok:SpecsOk Tryz.prog S20:=⟨condSpec_ok Tryz.func322 (by kernel_rfl) (by kernel_rfl) (spInts_ok fun is c v h hh _=>by
 unfold len1 at h
 split at h
 ·injection h with h;injection h with h1 h2;subst h1;subst h2
  rename_i x
  have hb:=u64_bounds hh.1
  obtain ⟨X,rfl⟩:=Int.eq_ofNat_of_zero_le hb.1
  rw [Int.toNat_natCast]
  exact len64_ok X (by omega)
 ·cases h),S19ok⟩
theorem lz_run (x:Int):pureRun Tryz.prog (orc S20 K0) Tryz.f295 [.val false [.v (.int .u64 x)]] [] 100=some ([],intA (wI (64-(lenN x.toNat:Int)))):=by kernel_rfl
theorem lz_ok (x:Nat) (hx:x<18446744073709551616):PureOk Tryz.prog 295 [.val false [.v (.int .u64 (x:Int))]] (intA (64-lenN x:Nat)):=by
 have h:=pure_ok (orc_ok S20ok K0ok) mixed Tryz.func295 (lz_run x) trivial rfl
 have:=(lenN_bits hx).2.2
 rw [Int.toNat_natCast,wI_eq (by omega),show (64:Int)-(lenN x:Int)=((64-lenN x:Nat):Int) by omega] at h
 exact h
noncomputable def S21:List (FuncId×ASpec):=(295,condSpec (spInts [.u64] (len1 fun x=>([],intA (64-lenN x.toNat:Nat)))))::S20
theorem S21ok:SpecsOk Tryz.prog S21:=⟨condSpec_ok Tryz.func295 (by kernel_rfl) (by kernel_rfl) (spInts_ok fun is c v h hh _=>by
 unfold len1 at h
 split at h
 ·injection h with h;injection h with h1 h2;subst h1;subst h2
  rename_i x
  have hb:=u64_bounds hh.1
  obtain ⟨X,rfl⟩:=Int.eq_ofNat_of_zero_le hb.1
  rw [Int.toNat_natCast]
  exact lz_ok X (by omega)
 ·cases h),S20ok⟩
end Go.Proofs.YtfmajnlfpnjagaaGreat
/- math/bits.Div64: its contract. -/
namespace Go.Proofs.YtfmajnlfpnjagaaGreat
open Ex
set_option maxRecDepth 100000
set_option maxHeartbeats 4000000
def dA (h l y:Int):List AV:=[.val false [.v (.int .u64 h)],.val false [.v (.int .u64 l)],.val false [.v (.int .u64 y)]]
noncomputable def dTodo1:List Item:=todoOf (aSeg Tryz.prog (orc S21 K0) (some 0) 300 0 none (entry Tryz.f254 (dA 0 0 0) [] 0 [false,false,false]))
def uV (x:Int):AV:=.val false [.v (.int .u64 x)]
noncomputable def dT1 (Y s y1 y0 u u1 u0 q r:Int):List AV:=.any::.any::uV Y::.any::.any::.any::.any::.any::uV s::uV y1::uV y0::uV u::.any::uV u1::uV u0::uV q::uV r::List.replicate (Tryz.f254.ntmps-17) .any
noncomputable def dS1 (Y s y1 y0 u u1 u0 q r:Int) (p:List Bool):ASt:=⟨dTodo1,⟨dT1 Y s y1 y0 u u1 u0 q r,[],0,p⟩⟩
noncomputable def dTodo2:List Item:=todoOf (aSeg Tryz.prog (orc S21 K0) (some 0) 300 0 none (dS1 0 0 0 0 0 0 0 0 0 [false,false]))
noncomputable def dT2 (Y s y1 y0 u0 q r v z:Int):List AV:=.any::.any::uV Y::.any::.any::.any::.any::.any::uV s::uV y1::uV y0::.any::.any::.any::uV u0::uV q::uV r::uV v::uV z::List.replicate (Tryz.f254.ntmps-19) .any
noncomputable def dS2 (Y s y1 y0 u0 q r v z:Int) (p:List Bool):ASt:=⟨dTodo2,⟨dT2 Y s y1 y0 u0 q r v z,[],0,p⟩⟩
def shlI (x s:Int):Int:=mW (x*2^min s.toNat 64)
def shrI (x s:Int):Int:=Int.fdiv x (2^min s.toNat 64)
def dvs (y:Int):Int:=mW ((64-lenN y.toNat:Nat):Int)
def dvY (y:Int):Int:=shlI y (dvs y)
def dvu (h l y:Int):Int:=bits .or .u64 (shlI h (dvs y)) (shrI l (mW (64-dvs y)))
def dvl (l y:Int):Int:=shlI l (dvs y)
abbrev K1:Option (List Nat×List Nat×Nat):=some ([2,8,9,10,11,13,14,15,16],[],0)
abbrev K2:Option (List Nat×List Nat×Nat):=some ([2,8,9,10,14,15,16,17,18],[],0)
theorem d_entry (h l y:Int):aSeg Tryz.prog (orc S21 K0) (some 0) 300 0 K1 (entry Tryz.f254 (dA h l y) [] 0 [false,false,false]) =
 some ([(decide (y=0),false),(decide (y≤h),false),(decide (h=0),false),(true,true),(decide (0≤(32:Int)∧0≤dvY y),true),(true,true),(decide (0≤mW (64-dvs y)∧0≤l),true),(true,true),
  (decide (0≤(32:Int)∧0≤dvl l y),true),(decide (shrI (dvY y) 32≠0),true)],[],
  dS1 (dvY y) (dvs y) (shrI (dvY y) 32) (bits .and .u64 (dvY y) 4294967295) (dvu h l y) (shrI (dvl l y) 32) (bits .and .u64 (dvl l y) 4294967295) (mW (Int.tdiv (dvu h l y) (shrI (dvY y) 32)))
   (mW (dvu h l y-mW (mW (Int.tdiv (dvu h l y) (shrI (dvY y) 32))*shrI (dvY y) 32))) []):=by kernel_rfl
theorem d_small (h l y:Int):segRet Tryz.prog (orc S21 K0) Tryz.f254 300 0 (entry Tryz.f254 (dA h l y) [] 0 [false,false,true]) =
 some ([(decide (y=0),false),(decide (y≤h),false),(decide (h=0),true),(decide (y≠0),true),(decide (0≤l∧0<y),true)],[],.tup [(false,[.v (.int .u64 (mW (Int.tdiv l y)))]),(false,[.v (.int .u64 (Int.tmod l y))])]):=by kernel_rfl
def dcC (q r y0 u1:Int):Bool:=decide (mW (mW (4294967296*r)+u1)<mW (q*y0))
section
variable (Y s y1 y0 u u1 u0 q r v z:Int)
theorem d1_goA:aSeg Tryz.prog (orc S21 K0) (some 0) 300 0 K1 (dS1 Y s y1 y0 u u1 u0 q r [true,false]) =
 some ([(decide (4294967296≤q),true),(decide (4294967296≤mW (r+y1)),false)],[],dS1 Y s y1 y0 u u1 u0 (mW (q-1)) (mW (r+y1)) []):=by kernel_rfl
theorem d1_goB:aSeg Tryz.prog (orc S21 K0) (some 0) 300 0 K1 (dS1 Y s y1 y0 u u1 u0 q r [false,true,false]) =
 some ([(decide (4294967296≤q),false),(dcC q r y0 u1,true),(decide (4294967296≤mW (r+y1)),false)],[],dS1 Y s y1 y0 u u1 u0 (mW (q-1)) (mW (r+y1)) []):=by kernel_rfl
def d21 (Y u u1 q:Int):Int:=mW (mW (mW (u*4294967296)+u1)-mW (q*Y))
theorem d1_brA:aSeg Tryz.prog (orc S21 K0) (some 0) 300 0 K2 (dS1 Y s y1 y0 u u1 u0 q r [true,true]) =
 some ([(decide (4294967296≤q),true),(decide (4294967296≤mW (r+y1)),true),(decide (y1≠0),true)],[],
  dS2 Y s y1 y0 u0 (mW (q-1)) (mW (d21 Y u u1 (mW (q-1))-mW (mW (Int.tdiv (d21 Y u u1 (mW (q-1))) y1)*y1))) (d21 Y u u1 (mW (q-1))) (mW (Int.tdiv (d21 Y u u1 (mW (q-1))) y1)) []):=by kernel_rfl
theorem d1_brB:aSeg Tryz.prog (orc S21 K0) (some 0) 300 0 K2 (dS1 Y s y1 y0 u u1 u0 q r [false,true,true]) =
 some ([(decide (4294967296≤q),false),(dcC q r y0 u1,true),(decide (4294967296≤mW (r+y1)),true),(decide (y1≠0),true)],[],
  dS2 Y s y1 y0 u0 (mW (q-1)) (mW (d21 Y u u1 (mW (q-1))-mW (mW (Int.tdiv (d21 Y u u1 (mW (q-1))) y1)*y1))) (d21 Y u u1 (mW (q-1))) (mW (Int.tdiv (d21 Y u u1 (mW (q-1))) y1)) []):=by kernel_rfl
theorem d1_out:aSeg Tryz.prog (orc S21 K0) (some 0) 300 0 K2 (dS1 Y s y1 y0 u u1 u0 q r [false,false]) =
 some ([(decide (4294967296≤q),false),(dcC q r y0 u1,false),(decide (y1≠0),true)],[],
  dS2 Y s y1 y0 u0 q (mW (d21 Y u u1 q-mW (mW (Int.tdiv (d21 Y u u1 q) y1)*y1))) (d21 Y u u1 q) (mW (Int.tdiv (d21 Y u u1 q) y1)) []):=by kernel_rfl
theorem d2_goA:aSeg Tryz.prog (orc S21 K0) (some 0) 300 0 K2 (dS2 Y s y1 y0 u0 q r v z [true,false]) =
 some ([(decide (4294967296≤z),true),(decide (4294967296≤mW (r+y1)),false)],[],dS2 Y s y1 y0 u0 q (mW (r+y1)) v (mW (z-1)) []):=by kernel_rfl
theorem d2_goB:aSeg Tryz.prog (orc S21 K0) (some 0) 300 0 K2 (dS2 Y s y1 y0 u0 q r v z [false,true,false]) =
 some ([(decide (4294967296≤z),false),(dcC z r y0 u0,true),(decide (4294967296≤mW (r+y1)),false)],[],dS2 Y s y1 y0 u0 q (mW (r+y1)) v (mW (z-1)) []):=by kernel_rfl
def dEnd (Y s u0 q v z:Int):AV:=.tup [(false,[.v (.int .u64 (mW (mW (q*4294967296)+z)))]),(false,[.v (.int .u64 (shrI (d21 Y v u0 z) s))])]
theorem d2_brA:segRet Tryz.prog (orc S21 K0) Tryz.f254 300 0 (dS2 Y s y1 y0 u0 q r v z [true,true]) =
 some ([(decide (4294967296≤z),true),(decide (4294967296≤mW (r+y1)),true),(decide (0≤s∧0≤d21 Y v u0 (mW (z-1))),true)],[],dEnd Y s u0 q v (mW (z-1))):=by kernel_rfl
theorem d2_brB:segRet Tryz.prog (orc S21 K0) Tryz.f254 300 0 (dS2 Y s y1 y0 u0 q r v z [false,true,true]) =
 some ([(decide (4294967296≤z),false),(dcC z r y0 u0,true),(decide (4294967296≤mW (r+y1)),true),(decide (0≤s∧0≤d21 Y v u0 (mW (z-1))),true)],[],dEnd Y s u0 q v (mW (z-1))):=by kernel_rfl
theorem d2_out:segRet Tryz.prog (orc S21 K0) Tryz.f254 300 0 (dS2 Y s y1 y0 u0 q r v z [false,false]) =
 some ([(decide (4294967296≤z),false),(dcC z r y0 u0,false),(decide (0≤s∧0≤d21 Y v u0 z),true)],[],dEnd Y s u0 q v z):=by kernel_rfl
end
end Go.Proofs.YtfmajnlfpnjagaaGreat
/- math/bits.Div64: what it computes. -/
namespace Go.Proofs.YtfmajnlfpnjagaaGreat
open Ex
set_option maxRecDepth 100000
set_option maxHeartbeats 4000000
theorem dig_lt1 {u u1 Y q:Nat} (hu:u<Y) (hu1:u1<4294967296) (hq:4294967296≤q):(u*4294967296+u1) / Y<q:=by
 refine Nat.lt_of_lt_of_le (Nat.div_lt_of_lt_mul ?_) hq
 rw [Nat.mul_comm Y]
 omega
theorem dig_lt2 {u u1 y1 y0 Y q r:Nat} (hY:Y=y1*4294967296+y0) (hu:u=q*y1+r) (h:4294967296*r+u1<q*y0):(u*4294967296+u1) / Y<q:=by
 refine Nat.div_lt_of_lt_mul ?_
 have e1:(q*y1+r)*4294967296=q*y1*4294967296+r*4294967296:=Nat.add_mul ..
 have e2:(y1*4294967296+y0)*q=q*y1*4294967296+q*y0:=by rw [Nat.add_mul,Nat.mul_comm y0 q,Nat.mul_right_comm,Nat.mul_comm y1 q]
 rw [hY,hu,e1,e2]
 omega
theorem dig_eq {u u1 y1 y0 Y q r:Nat} (hY:Y=y1*4294967296+y0) (hpos:0<Y) (hu:u=q*y1+r) (h:q*y0≤4294967296*r+u1) (hle:(u*4294967296+u1) / Y≤q):(u*4294967296+u1) / Y=q:=by
 refine Nat.le_antisymm hle ((Nat.le_div_iff_mul_le hpos).2 ?_)
 rw [hY,hu,Nat.mul_add,← Nat.mul_assoc]
 omega
theorem dig_brk {q y0 r u1:Nat} (hq:q≤4294967297) (hy:y0<4294967296) (hr:4294967296≤r):q*y0≤4294967296*r+u1:=by
 have:=Nat.mul_le_mul hq (show y0≤4294967295 by omega)
 omega
theorem dig_init {u u1 y1 y0 Y:Nat} (hY:Y=y1*4294967296+y0) (hy1:0<y1) (hu1:u1<4294967296):(u*4294967296+u1) / Y≤u / y1:=by
 refine (Nat.le_div_iff_mul_le hy1).2 ?_
 have h:=Nat.div_mul_le_self (u*4294967296+u1) Y
 generalize (u*4294967296+u1) / Y=q at *
 rw [hY,Nat.mul_add,← Nat.mul_assoc] at h
 generalize q*y1=A at *
 generalize q*y0=B at *
 omega
theorem dig_top {u y1 y0 Y:Nat} (hY:Y=y1*4294967296+y0) (hy0:y0<4294967296) (hy1:2147483648≤y1) (hu:u<Y):u / y1≤4294967298:=by
 have hb:u<4294967299*y1:=by omega
 have:=(Nat.div_lt_iff_lt_mul (show 0<y1 by omega)).2 hb
 omega
theorem d21_val {Y u u1 q:Nat} (h:q=(u*4294967296+u1) / Y) (hpos:0<Y) (hY:Y≤18446744073709551616):d21 Y u u1 q=(((u*4294967296+u1) % Y:Nat):Int):=by
 have h1:=Nat.div_add_mod (u*4294967296+u1) Y
 have h2:=Nat.mod_lt (u*4294967296+u1) hpos
 rw [← h,Nat.mul_comm] at h1
 unfold d21
 simp only [mW_eq]
 have e:(q:Int)*(Y:Int)=((q*Y:Nat):Int):=by rw [Int.natCast_mul]
 rw [e]
 generalize q*Y=N at *
 generalize (u*4294967296+u1) % Y=m at *
 omega
theorem dcC_val {q r y0 u1:Nat} (hq:q<4294967296) (hr:r<4294967296) (hy:y0<4294967296) (hu1:u1<4294967296):dcC q r y0 u1=decide (4294967296*r+u1<q*y0):=by
 have hm:=Nat.mul_le_mul (show q≤4294967295 by omega) (show y0≤4294967295 by omega)
 unfold dcC
 simp only [mW_eq]
 have e:(q:Int)*(y0:Int)=((q*y0:Nat):Int):=by rw [Int.natCast_mul]
 rw [e]
 generalize q*y0=N at *
 have e1:(4294967296*(r:Int)) % 18446744073709551616=4294967296*(r:Int):=by omega
 rw [e1]
 have e2:(4294967296*(r:Int)+u1) % 18446744073709551616=4294967296*(r:Int)+u1:=by omega
 have e3:((N:Nat):Int) % 18446744073709551616=N:=by omega
 rw [e2,e3]
 by_cases h:4294967296*r+u1<N
 ·rw [decide_eq_true h,decide_eq_true (by omega)]
 ·rw [decide_eq_false h,decide_eq_false (by omega)]
theorem next_qr (v y1:Nat) (hv:v<18446744073709551616) (hy1:0<y1):mW (Int.tdiv (v:Int) y1)=((v / y1:Nat):Int)∧mW ((v:Int)-mW (mW (Int.tdiv (v:Int) y1)*y1))=((v % y1:Nat):Int):=by
 have h1:=Nat.div_add_mod v y1
 have h2:=Nat.mod_lt v hy1
 have h3:=Nat.div_le_self v y1
 have e0:Int.tdiv (v:Int) y1=((v / y1:Nat):Int):=by rw [Int.tdiv_eq_ediv_of_nonneg (by omega)];rfl
 rw [e0,mW_nat,Nat.mod_eq_of_lt (by omega)]
 refine ⟨rfl,?_⟩
 have e1:((v / y1:Nat):Int)*(y1:Int)=((v / y1*y1:Nat):Int):=by rw [Int.natCast_mul]
 rw [e1,mW_nat,mW_eq,Nat.mul_comm]
 generalize y1*(v / y1)=N at *
 omega
theorem dec_q {q:Nat} (h:0<q) (hq:q≤18446744073709551616):mW ((q:Int)-1)=((q-1:Nat):Int):=by rw [mW_eq];omega
theorem inc_r {r y1:Nat} (hr:r<4294967296) (hy:y1<4294967296):mW ((r:Int)+y1)=((r+y1:Nat):Int):=by rw [mW_eq];omega
def dOut (q z m s:Nat):AV:=.tup [(false,[.v (.int .u64 ((q*4294967296+z:Nat):Int))]),(false,[.v (.int .u64 ((m / 2^min s 64:Nat):Int))])]
theorem shrI_nat (x s:Nat):shrI (x:Int) (s:Int)=((x / 2^min s 64:Nat):Int):=by
 unfold shrI
 rw [Int.toNat_natCast]
 exact shI_nat x _
section
variable {Y s y1 y0 u0:Nat} (hY:Y=y1*4294967296+y0) (hy0:y0<4294967296) (hy1:2147483648≤y1) (hy1':y1<4294967296) (hu0:u0<4294967296) (w0:World)
include hY hy0 hy1 hy1' hu0
theorem d2_safe {v q:Nat} (hv:v<Y) (hq:q<4294967296):∀ z r,v=z*y1+r→r<4294967296→z≤4294967298→(v*4294967296+u0) / Y≤z →
  ASafe Tryz.prog 254 noEnv w0 (PureOut w0 (dOut q ((v*4294967296+u0) / Y) ((v*4294967296+u0) % Y) s)) Tryz.f254.ntmps [] (dS2 Y s y1 y0 u0 q r v z []):=by
 have hpos:0<Y:=by omega
 have hYle:Y≤18446744073709551616:=by omega
 have fin:∀ z:Nat,z=(v*4294967296+u0) / Y→dEnd Y s u0 q v z=dOut q ((v*4294967296+u0) / Y) ((v*4294967296+u0) % Y) s:=by
  intro z hz
  have hlt:z<4294967296:=by rw [hz];exact dig_lt1 hv hu0 (Nat.le_refl _)
  unfold dEnd dOut
  rw [d21_val hz hpos hYle,shrI_nat,← hz]
  have:mW (mW ((q:Int)*4294967296)+(z:Int))=((q*4294967296+z:Nat):Int):=by rw [mW_eq,mW_eq];omega
  rw [this]
 have pos21:∀ z:Nat,z=(v*4294967296+u0) / Y→decide (0≤(s:Int)∧0≤d21 Y v u0 z)=true:=by
  intro z hz
  rw [d21_val hz hpos hYle];simp only [decide_eq_true_eq];omega
 intro z
 induction z with
 | zero =>
  intro r hz hr _ hle
  have hq0:(v*4294967296+u0) / Y=0:=Nat.le_zero.1 hle
  have hdc:dcC ((0:Nat):Int) r y0 u0=false:=by rw [dcC_val (by decide) hr hy0 hu0];simp
  rw [← fin 0 hq0.symm]
  exact path_safe [false,false] (ret_safe (orc_ok S21ok K0ok) mixed Tryz.func254 (d2_out ..) ⟨by simp,hdc,pos21 0 hq0.symm,trivial⟩ (wfB_ok (by kernel_rfl)) (fun _ _=>rfl) rfl)
 | succ z ih =>
  intro r hz hr htop hle
  have hdq:=dec_q (q:=z+1) (by omega) (by omega)
  have hir:=inc_r hr hy1'
  rw [Nat.add_sub_cancel] at hdq
  have hz':v=z*y1+(r+y1):=by rw [hz,Nat.succ_mul];omega
  have go:∀ (hlt:(v*4294967296+u0) / Y<z+1),(4294967296≤r+y1→(v*4294967296+u0) / Y=z):=fun hlt hb =>
   dig_eq hY hpos hz' (dig_brk (by omega) hy0 hb) (by omega)
  by_cases hbig:4294967296≤z+1
  ·have hlt:=dig_lt1 hv hu0 hbig
   by_cases hb:4294967296≤r+y1
   ·have hq:=go hlt hb
    have h:=ret_safe (w0:=w0) (β0:=noEnv) (n:=Tryz.f254.ntmps) (orc_ok S21ok K0ok) mixed Tryz.func254 (d2_brA Y s y1 y0 u0 q r v (z+1:Nat)) ⟨by simp;omega,by rw [hir];simp;omega,by rw [hdq];exact pos21 z hq.symm,trivial⟩ (wfB_ok (by kernel_rfl)) (fun _ _=>rfl) rfl
    rw [hdq,fin z hq.symm] at h
    exact path_safe [true,true] h
   ·refine path_safe [true,false] (seg_safe (orc_ok S21ok K0ok) mixed (d2_goA Y s y1 y0 u0 q r v (z+1:Nat)) ⟨by simp;omega,by rw [hir];simp;omega,trivial⟩ (wfB_ok (by kernel_rfl)) (fun _ _=>rfl) (fun _ h=>by cases h) fun _=>?_)
    rw [hdq,hir]
    exact ih (r+y1) hz' (by omega) (by omega) (by omega)
  ·have hsm:z+1<4294967296:=by omega
   have hdc:=dcC_val (u1:=u0) hsm hr hy0 hu0
   by_cases hc:4294967296*r+u0<(z+1)*y0
   ·have hlt:=dig_lt2 hY hz hc
    by_cases hb:4294967296≤r+y1
    ·have hq:=go hlt hb
     have h:=ret_safe (w0:=w0) (β0:=noEnv) (n:=Tryz.f254.ntmps) (orc_ok S21ok K0ok) mixed Tryz.func254 (d2_brB Y s y1 y0 u0 q r v (z+1:Nat)) ⟨by simp;omega,by rw [hdc];exact decide_eq_true hc,by rw [hir];simp;omega,by rw [hdq];exact pos21 z hq.symm,trivial⟩ (wfB_ok (by kernel_rfl)) (fun _ _=>rfl) rfl
     rw [hdq,fin z hq.symm] at h
     exact path_safe [false,true,true] h
    ·refine path_safe [false,true,false] (seg_safe (orc_ok S21ok K0ok) mixed (d2_goB Y s y1 y0 u0 q r v (z+1:Nat)) ⟨by simp;omega,by rw [hdc];exact decide_eq_true hc,by rw [hir];simp;omega,trivial⟩ (wfB_ok (by kernel_rfl)) (fun _ _=>rfl) (fun _ h=>by cases h) fun _=>?_)
     rw [hdq,hir]
     exact ih (r+y1) hz' (by omega) (by omega) (by omega)
   ·have hq:=dig_eq hY hpos hz (by omega) hle
    rw [← fin (z+1) hq.symm]
    exact path_safe [false,false] (ret_safe (orc_ok S21ok K0ok) mixed Tryz.func254 (d2_out ..) ⟨by simp;omega,by rw [hdc];exact decide_eq_false hc,pos21 _ hq.symm,trivial⟩ (wfB_ok (by kernel_rfl)) (fun _ _=>rfl) rfl)
theorem d1_safe {u u1:Nat} (hu:u<Y) (hu1:u1<4294967296) {R:Ending→World→Prop}
  (hnext:ASafe Tryz.prog 254 noEnv w0 R Tryz.f254.ntmps [] (dS2 Y s y1 y0 u0 ((u*4294967296+u1) / Y:Nat) ((u*4294967296+u1) % Y % y1:Nat) ((u*4294967296+u1) % Y:Nat) ((u*4294967296+u1) % Y / y1:Nat) [])) :
  ∀ q r,u=q*y1+r→r<4294967296→q≤4294967298→(u*4294967296+u1) / Y≤q→ASafe Tryz.prog 254 noEnv w0 R Tryz.f254.ntmps [] (dS1 Y s y1 y0 u u1 u0 q r []):=by
 have _h:=hu0
 have hpos:0<Y:=by omega
 have hYle:Y≤18446744073709551616:=by omega
 have hm:=Nat.mod_lt (u*4294967296+u1) hpos
 have hne:decide ((y1:Int)≠0)=true:=by simp only [decide_eq_true_eq];omega
 obtain ⟨n1,n2⟩:=next_qr ((u*4294967296+u1) % Y) y1 (by omega) (by omega)
 intro q
 induction q with
 | zero =>
  intro r hz hr _ hle
  have hq0:((0:Nat))=(u*4294967296+u1) / Y:=(Nat.le_zero.1 hle).symm
  have hdc:dcC ((0:Nat):Int) r y0 u1=false:=by rw [dcC_val (by decide) hr hy0 hu1];simp
  refine path_safe [false,false] (seg_safe (orc_ok S21ok K0ok) mixed (d1_out Y s y1 y0 u u1 u0 (0:Nat) r) ⟨by simp,hdc,hne,trivial⟩ (wfB_ok (by kernel_rfl)) (fun _ _=>rfl) (fun _ h=>by cases h) fun _=>?_)
  rw [d21_val hq0 hpos hYle,n2,n1]
  rw [hq0]
  exact hnext
 | succ q ih =>
  intro r hz hr htop hle
  have hdq:=dec_q (q:=q+1) (by omega) (by omega)
  have hir:=inc_r hr hy1'
  rw [Nat.add_sub_cancel] at hdq
  have hz':u=q*y1+(r+y1):=by rw [hz,Nat.succ_mul];omega
  have go:∀ (hlt:(u*4294967296+u1) / Y<q+1),(4294967296≤r+y1→(u*4294967296+u1) / Y=q):=fun hlt hb =>
   dig_eq hY hpos hz' (dig_brk (by omega) hy0 hb) (by omega)
  by_cases hbig:4294967296≤q+1
  ·have hlt:=dig_lt1 hu hu1 hbig
   by_cases hb:4294967296≤r+y1
   ·have hq:=go hlt hb
    refine path_safe [true,true] (seg_safe (orc_ok S21ok K0ok) mixed (d1_brA Y s y1 y0 u u1 u0 (q+1:Nat) r) ⟨by simp;omega,by rw [hir];simp;omega,hne,trivial⟩ (wfB_ok (by kernel_rfl)) (fun _ _=>rfl) (fun _ h=>by cases h) fun _=>?_)
    rw [hdq,d21_val hq.symm hpos hYle,n2,n1]
    rw [← hq]
    exact hnext
   ·refine path_safe [true,false] (seg_safe (orc_ok S21ok K0ok) mixed (d1_goA Y s y1 y0 u u1 u0 (q+1:Nat) r) ⟨by simp;omega,by rw [hir];simp;omega,trivial⟩ (wfB_ok (by kernel_rfl)) (fun _ _=>rfl) (fun _ h=>by cases h) fun _=>?_)
    rw [hdq,hir]
    exact ih (r+y1) hz' (by omega) (by omega) (by omega)
  ·have hsm:q+1<4294967296:=by omega
   have hdc:=dcC_val (u1:=u1) hsm hr hy0 hu1
   by_cases hc:4294967296*r+u1<(q+1)*y0
   ·have hlt:=dig_lt2 hY hz hc
    by_cases hb:4294967296≤r+y1
    ·have hq:=go hlt hb
     refine path_safe [false,true,true] (seg_safe (orc_ok S21ok K0ok) mixed (d1_brB Y s y1 y0 u u1 u0 (q+1:Nat) r) ⟨by simp;omega,by rw [hdc];exact decide_eq_true hc,by rw [hir];simp;omega,hne,trivial⟩ (wfB_ok (by kernel_rfl)) (fun _ _=>rfl) (fun _ h=>by cases h) fun _=>?_)
     rw [hdq,d21_val hq.symm hpos hYle,n2,n1]
     rw [← hq]
     exact hnext
    ·refine path_safe [false,true,false] (seg_safe (orc_ok S21ok K0ok) mixed (d1_goB Y s y1 y0 u u1 u0 (q+1:Nat) r) ⟨by simp;omega,by rw [hdc];exact decide_eq_true hc,by rw [hir];simp;omega,trivial⟩ (wfB_ok (by kernel_rfl)) (fun _ _=>rfl) (fun _ h=>by cases h) fun _=>?_)
     rw [hdq,hir]
     exact ih (r+y1) hz' (by omega) (by omega) (by omega)
   ·have hq:=dig_eq hY hpos hz (by omega) hle
    refine path_safe [false,false] (seg_safe (orc_ok S21ok K0ok) mixed (d1_out Y s y1 y0 u u1 u0 (q+1:Nat) r) ⟨by simp;omega,by rw [hdc];exact decide_eq_false hc,hne,trivial⟩ (wfB_ok (by kernel_rfl)) (fun _ _=>rfl) (fun _ h=>by cases h) fun _=>?_)
    rw [d21_val hq.symm hpos hYle,n2,n1]
    rw [← hq]
    exact hnext
end
end Go.Proofs.YtfmajnlfpnjagaaGreat
/- math/bits.Div64: the contract. -/
namespace Go.Proofs.YtfmajnlfpnjagaaGreat
open Ex
set_option maxRecDepth 100000
set_option maxHeartbeats 4000000
def W64:Nat:=18446744073709551616
theorem shlI_nat {x s:Nat} (hs:s≤64):shlI (x:Int) (s:Int)=((x*2^s % W64:Nat):Int):=by
 unfold shlI
 rw [Int.toNat_natCast,Nat.min_eq_left hs]
 have:(x:Int)*2^s=((x*2^s:Nat):Int):=by rw [Int.natCast_mul,Int.natCast_pow];rfl
 rw [this,mW_nat];rfl
theorem or_add {h s B:Nat} (hA:h*2^s<W64) (hB:B<2^s) (hs:s≤64):bits .or .u64 ((h*2^s:Nat):Int) (B:Int)=((h*2^s+B:Nat):Int):=by
 have hle:2^s≤2^64:=Nat.pow_le_pow_right (by decide) hs
 have:=(bits_nat .u64 64 (by decide) (fun n h0 h1=>by rw [IntKind.wrap_u64];omega) (h*2^s) B hA (by omega)).2
 rw [this,← Nat.shiftLeft_eq,Nat.shiftLeft_add_eq_or_of_lt hB]
theorem norm_y {y:Nat} (h0:0<y) (h1:y<W64):∃ s,s≤63∧64-lenN y=s∧9223372036854775808≤y*2^s∧y*2^s<W64:=by
 obtain ⟨b1,b2,b3⟩:=lenN_bits h1
 obtain ⟨b4,b5⟩:=b2 h0
 refine ⟨64-lenN y,by omega,rfl,?_,?_⟩
 ·have:=Nat.mul_le_mul_right (2^(64-lenN y)) b5
  rw [← Nat.pow_add,show lenN y-1+(64-lenN y)=63 by omega] at this
  exact this
 ·have:=Nat.mul_lt_mul_of_pos_right b1 (show 0<2^(64-lenN y) from Nat.pow_pos (by decide))
  rw [← Nat.pow_add,show lenN y+(64-lenN y)=64 by omega] at this
  exact this
theorem div_digits {Y u u1 u0 b:Nat} (hpos:0<Y):(u*(b*b)+(u1*b+u0)) / Y=(u*b+u1) / Y*b+((u*b+u1) % Y*b+u0) / Y∧(u*(b*b)+(u1*b+u0)) % Y=((u*b+u1) % Y*b+u0) % Y:=by
 have e:u*(b*b)+(u1*b+u0)=(u*b+u1) % Y*b+u0+Y*((u*b+u1) / Y*b):=by
  have h1:=Nat.div_add_mod (u*b+u1) Y
  have:u*(b*b)+u1*b=(u*b+u1)*b:=by rw [Nat.add_mul,Nat.mul_assoc]
  rw [← Nat.add_assoc,this]
  conv=>lhs;rw [← h1,Nat.add_mul]
  rw [Nat.mul_assoc]
  omega
 rw [e,Nat.add_mul_div_left _ _ hpos,Nat.add_mul_mod_self_left]
 exact ⟨by omega,rfl⟩
theorem low_split {l s:Nat} (hl:l<W64) (hs:s≤63):l*2^s=l / 2^(64-s)*W64+l*2^s % W64∧l / 2^(64-s)<2^s:=by
 have e:W64=2^(64-s)*2^s:=by rw [← Nat.pow_add,show 64-s+s=64 by omega];rfl
 have hp:0<2^s:=Nat.pow_pos (by decide)
 constructor
 ·have h1:=Nat.div_add_mod (l*2^s) W64
  have h2:l*2^s / W64=l / 2^(64-s):=by rw [e,Nat.mul_div_mul_right _ _ hp]
  rw [h2,Nat.mul_comm W64] at h1
  exact h1.symm
 ·refine Nat.div_lt_of_lt_mul ?_
  rw [← e];exact hl
def divA (h l y:Nat):AV:=.tup [(false,[.v (.int .u64 (((h*W64+l) / y:Nat):Int))]),(false,[.v (.int .u64 (((h*W64+l) % y:Nat):Int))])]
theorem div64_ok {h l y:Nat} (hh:h<y) (hl:l<W64) (hy:y<W64):PureOk Tryz.prog 254 (dA h l y) (divA h l y):=by
 refine pure_entry (path:=[]) Tryz.func254 (by kernel_rfl) (by kernel_rfl) fun w0=>?_
 have hy0:0<y:=by omega
 by_cases hz:h=0
 ·subst hz
  have h1:=ret_safe (w0:=w0) (β0:=noEnv) (n:=Tryz.f254.ntmps) (orc_ok S21ok K0ok) mixed Tryz.func254 (d_small ((0:Nat):Int) l y) ⟨by simp;omega,by simp;omega,by simp,by simp;omega,by simp;omega,trivial⟩ (wfB_ok (by kernel_rfl)) (fun _ _=>rfl) rfl
  have e1:mW (Int.tdiv (l:Int) y)=(((0*W64+l) / y:Nat):Int):=by
   rw [Int.tdiv_eq_ediv_of_nonneg (by omega),Nat.zero_mul,Nat.zero_add,← Int.natCast_ediv,mW_nat,Nat.mod_eq_of_lt (Nat.lt_of_le_of_lt (Nat.div_le_self l y) (show l<18446744073709551616 from hl))]
  have e2:Int.tmod (l:Int) y=(((0*W64+l) % y:Nat):Int):=by
   rw [Int.tmod_eq_emod_of_nonneg (by omega),Nat.zero_mul,Nat.zero_add];rfl
  rw [e1,e2] at h1
  exact path_safe [false,false,true] h1
 ·obtain ⟨s,hs,hls,hY1,hY2⟩:=norm_y hy0 hy
  have hp:0<2^s:=Nat.pow_pos (by decide)
  obtain ⟨lo1,lo2⟩:=low_split hl hs
  have es:dvs (y:Int)=(s:Int):=by
   unfold dvs
   rw [Int.toNat_natCast,hls,mW_nat,Nat.mod_eq_of_lt (by omega)]
  have eY:dvY (y:Int)=((y*2^s:Nat):Int):=by
   unfold dvY
   rw [es,shlI_nat (by omega),Nat.mod_eq_of_lt hY2]
  have hA:h*2^s+2^s≤y*2^s:=by
   have:=Nat.mul_le_mul_right (2^s) (show h+1≤y from hh)
   rwa [Nat.add_mul,Nat.one_mul] at this
  have eu:dvu (h:Int) (l:Int) (y:Int)=((h*2^s+l / 2^(64-s):Nat):Int):=by
   unfold dvu
   have e64:mW (64-(s:Int))=((64-s:Nat):Int):=by rw [mW_eq];omega
   rw [es,e64,shlI_nat (by omega),Nat.mod_eq_of_lt (by omega),shrI_nat,Nat.min_eq_left (show 64-s≤64 by omega)]
   exact or_add (by omega) lo2 (by omega)
  have el:dvl (l:Int) (y:Int)=((l*2^s % W64:Nat):Int):=by
   unfold dvl
   rw [es,shlI_nat (by omega)]
  generalize hYd:y*2^s=Y at *
  generalize hud:h*2^s+l / 2^(64-s)=u at *
  generalize hld:l*2^s % W64=ul at *
  have hul:ul<W64:=by rw [← hld];exact Nat.mod_lt _ (by decide)
  have hu:u<Y:=by omega
  unfold W64 at hul hY2
  have ent:=d_entry (h:Int) (l:Int) (y:Int)
  have e32:∀ x:Nat,shrI (x:Int) 32=((x / 4294967296:Nat):Int):=fun x=>shrI_nat x 32
  have eand:∀ x:Nat,x<18446744073709551616→bits .and .u64 (x:Int) 4294967295=((x % 4294967296:Nat):Int):=fun x hx=>by
   have:=mLo_eq (x:=(x:Int)) (by omega) (by omega)
   unfold mLo at this
   rw [this];omega
  have e64:mW (64-(s:Int))=((64-s:Nat):Int):=by rw [mW_eq];omega
  rw [eY,eu,el,es,e32,e32,eand Y hY2,eand ul hul,e64] at ent
  obtain ⟨n1,n2⟩:=next_qr u (Y / 4294967296) (by omega) (by omega)
  rw [n2,n1] at ent
  have hYs:Y=Y / 4294967296*4294967296+Y % 4294967296:=by omega
  refine path_safe [false,false,false] (seg_safe (orc_ok S21ok K0ok) mixed ent ?_ (wfB_ok (by kernel_rfl)) (fun _ _=>rfl) (fun _ h=>by cases h) fun _=>?_)
  ·refine ⟨by simp;omega,by simp;omega,by simp;omega,rfl,by simp,rfl,by simp,rfl,by simp,?_,trivial⟩
   simp only [decide_eq_true_eq];omega
  ·have hr1:=Nat.mod_lt u (show 0<Y / 4294967296 by omega)
   have hdm:=Nat.div_add_mod u (Y / 4294967296)
   rw [Nat.mul_comm] at hdm
   refine d1_safe hYs (Nat.mod_lt _ (by decide)) (by omega) (by omega) (Nat.mod_lt ul (by decide)) w0 hu (by omega) ?_ (u / (Y / 4294967296)) (u % (Y / 4294967296)) hdm.symm (by omega) (dig_top hYs (Nat.mod_lt _ (by decide)) (by omega) hu) (dig_init hYs (by omega) (by omega))
   have hYpos:0<Y:=by omega
   generalize hu1:ul / 4294967296=u1 at *
   generalize hu0:ul % 4294967296=u0 at *
   have hv:=Nat.mod_lt (u*4294967296+u1) hYpos
   have hq1:(u*4294967296+u1) / Y<4294967296:=dig_lt1 hu (by omega) (Nat.le_refl _)
   obtain ⟨g1,g2⟩:=div_digits (u:=u) (u1:=u1) (u0:=u0) (b:=4294967296) hYpos
   have hN:u*(4294967296*4294967296)+(u1*4294967296+u0)=(h*W64+l)*2^s:=by
    rw [Nat.add_mul,lo1,← hud]
    have:u1*4294967296+u0=ul:=by omega
    rw [this]
    show (h*2^s+l / 2^(64-s))*W64+ul=h*W64*2^s+(l / 2^(64-s)*W64+ul)
    rw [Nat.add_mul,Nat.mul_right_comm h W64];omega
   rw [hN,← hYd] at g1 g2
   rw [Nat.mul_div_mul_right _ _ hp] at g1
   rw [Nat.mul_mod_mul_right] at g2
   rw [hYd] at g1 g2
   obtain ⟨v,hv'⟩:∃ v,v=(u*4294967296+u1) % Y:=⟨_,rfl⟩
   rw [← hv'] at hv g1 g2 ⊢
   have hdm2:=Nat.div_add_mod v (Y / 4294967296)
   rw [Nat.mul_comm] at hdm2
   have hr2:=Nat.mod_lt v (show 0<Y / 4294967296 by omega)
   have fin:=d2_safe (s:=s) (u0:=u0) hYs (Nat.mod_lt _ (by decide)) (by omega) (by omega) (by rw [← hu0];exact Nat.mod_lt _ (by decide)) w0 hv hq1 (v / (Y / 4294967296)) (v % (Y / 4294967296)) hdm2.symm (by omega) (dig_top hYs (Nat.mod_lt _ (by decide)) (by omega) hv) (dig_init hYs (by omega) (by rw [← hu0];exact Nat.mod_lt _ (by decide)))
   have eo:dOut ((u*4294967296+u1) / Y) ((v*4294967296+u0) / Y) ((v*4294967296+u0) % Y) s=divA h l y:=by
    unfold dOut divA
    rw [← g1,← g2,Nat.min_eq_left (show s≤64 by omega),Nat.mul_div_cancel _ hp]
   rw [eo] at fin
   exact fin
end Go.Proofs.YtfmajnlfpnjagaaGreat
/- The contracts of math/bits.Div64 (on offer), fp.half. -/
namespace Go.Proofs.YtfmajnlfpnjagaaGreat
open Ex
set_option maxRecDepth 100000
set_option maxHeartbeats 4000000
def div3:List Int→Option (List (Bool×Bool)×AV)
 | [h,l,y]=>some ([(decide (h<y),true)],divA h.toNat l.toNat y.toNat)
 | _=>none
noncomputable def S22:List (FuncId×ASpec):=(254,condSpec (spInts [.u64,.u64,.u64] div3))::S21
theorem S22ok:SpecsOk Tryz.prog S22:=⟨condSpec_ok Tryz.func254 (by kernel_rfl) (by kernel_rfl) (spInts_ok fun is c v h hh hc=>by
 unfold div3 at h
 split at h
 ·rename_i h0 l0 y0
  injection h with h;injection h with h1 h2;subst h1;subst h2
  obtain ⟨q1,q2,q3,_⟩:=hh
  have b1:=u64_bounds q1
  have b2:=u64_bounds q2
  have b3:=u64_bounds q3
  obtain ⟨H,rfl⟩:=Int.eq_ofNat_of_zero_le b1.1
  obtain ⟨L,rfl⟩:=Int.eq_ofNat_of_zero_le b2.1
  obtain ⟨Y,rfl⟩:=Int.eq_ofNat_of_zero_le b3.1
  have hlt:=hc.1
  simp only [decide_eq_true_eq] at hlt
  rw [Int.toNat_natCast,Int.toNat_natCast,Int.toNat_natCast]
  exact div64_ok (by omega) (show L<18446744073709551616 by omega) (show Y<18446744073709551616 by omega)
 ·cases h),S21ok⟩
def hw (a b:Int):Int:=bits .or .u64 (Int.fdiv a (2^min (Int.toNat 1) 64)) (mW (b*2^min (Int.toNat 63) 64))
theorem hw_eq {a b:Int} (ha:0≤a∧a<18446744073709551616) (hb:0≤b∧b<18446744073709551616):hw a b=a / 2+b % 2*9223372036854775808:=by
 obtain ⟨A,rfl⟩:=Int.eq_ofNat_of_zero_le ha.1
 obtain ⟨B,rfl⟩:=Int.eq_ofNat_of_zero_le hb.1
 unfold hw
 have e1:Int.fdiv (A:Int) (2^min (Int.toNat 1) 64)=((A / 2:Nat):Int):=shI_nat A 1
 have e2:mW ((B:Int)*2^min (Int.toNat 63) 64)=((B % 2*2^63:Nat):Int):=by
  have:(B:Int)*2^min (Int.toNat 63) 64=((B*9223372036854775808:Nat):Int):=by rw [Int.natCast_mul];rfl
  rw [this,mW_nat];omega
 have hlt:A / 2<2^63:=by omega
 have h:=or_add (h:=B % 2) (s:=63) (B:=A / 2) (by unfold W64;omega) hlt (by decide)
 have comm:∀ x y:Int,bits .or .u64 x y=bits .or .u64 y x:=fun x y=>by simp only [bits,BitVec.or_comm]
 rw [e1,e2,comm,h]
 omega
def hwL (x:Nat) (h:Int):List Ch:=w6 (hw (wordN x 0) (wordN x 1)) (hw (wordN x 1) (wordN x 2)) (hw (wordN x 2) (wordN x 3)) (hw (wordN x 3) (wordN x 4)) (hw (wordN x 4) (wordN x 5)) (hw (wordN x 5) h)
def fpB (x:Nat):Blk:=⟨40,[.num 6 x],false⟩
def halfN (x h:Nat):Nat:=(x+h % 2*RR) / 2
theorem half_run (x:Nat) (h:Int):segOut Tryz.prog (orc S22 K0) Tryz.f263 300 1 [0] (entry Tryz.f263 [.val false [.p 0 0],.val false [.v (.int .u64 h)]] [(0,some (fpB x))] 1 []) =
 some (allT 12,[0],.tup [],[(0,some ⟨40,hwL x h,false⟩)]):=by kernel_rfl
theorem half_num {x h:Nat} (hx:x<RR) (hh:h<18446744073709551616) {β:Env} {l:List Value} (hr:relL β (hwL x h) l):relL β [.num 6 (halfN x h)] l:=by
 have b0:=word_bd x 0
 have b1:=word_bd x 1
 have b2:=word_bd x 2
 have b3:=word_bd x 3
 have b4:=word_bd x 4
 have b5:=word_bd x 5
 have hX:=digits6 (x:=x) (by rw [← RR_eq];exact hx)
 have e0:=hw_eq b0 b1
 have e1:=hw_eq b1 b2
 have e2:=hw_eq b2 b3
 have e3:=hw_eq b3 b4
 have e4:=hw_eq b4 b5
 have e5:=hw_eq (b:=(h:Int)) b5 (by omega)
 have hb:∀ {a b:Int},0≤a∧a<18446744073709551616→0≤b∧b<18446744073709551616→0≤hw a b∧hw a b<18446744073709551616:=fun ha hb=>by rw [hw_eq ha hb];omega
 have:=num_of_w6 (β:=β) (u:=.agg ⟨l⟩) (y:=halfN x h) (hb b0 b1) (hb b1 b2) (hb b2 b3) (hb b3 b4) (hb b4 b5) (hb b5 (show 0≤(h:Int)∧(h:Int)<18446744073709551616 by omega)) (by
  unfold halfN sum6 at *
  unfold RR
  omega) ⟨l,hr,rfl⟩
 obtain ⟨l',h1,h2⟩:=this
 injection h2 with h2;injection h2 with h2;subst h2
 exact h1
theorem half_can {x h:Nat} (hx:x<RR) (hh:h<18446744073709551616):CanOk Tryz.prog 263 [.val false [.p 0 0],.val false [.v (.int .u64 (h:Int))]] [(0,some (fpB x))] 1 [0] (.tup []) [(0,some (fpB (halfN x h)))]:=by
 intro β us w ha hg hf
 have:=can_entry Tryz.func263 (by kernel_rfl) (args0:=[.val false [.p 0 0],.val false [.v (.int .u64 (h:Int))]]) (H0:=[(0,some (fpB x))]) (k0:=1) (path:=[]) (W:=[0]) (by kernel_rfl) (fun β0 w0 hb=>out_safe (orc_ok S22ok K0ok) mixed Tryz.func263 (half_run x h) (allT_ok _) (wfB_ok (by kernel_rfl)) hb (fun _ h=>h)) β us w ha hg hf
 exact Calls.mono this fun e w' h=>outs_block1 (fun _ _ hr=>half_num hx hh hr) h
def halfSpec:ASpec:=fun args H fr path =>
 match args with
 | [.val false [.p k 0],A]=>match asI (some A),hget H k with
  | some (_,.u64,h),some ⟨ty,c,false⟩=>match Nat.beq ty 40,asNum 6 c with
   | true,some x=>some (trR [k] 1 fr 0 [0] (.tup []) [(0,some (fpB (halfN x h.toNat)))] [] path)
   | _,_=>none
  | _,_=>none
 | _=>none
theorem good1w {β:Env} {H:Heap} {w:World} {k:Nat} {b:Blk} {c:List Ch} (g:Ex.Good β H w) (hk:hget H k=some b) (hc:∀ l,relL β b.cs l→relL (inEnv β [k] 1) c l):Ex.Good (inEnv β [k] 1) [(0,some ⟨b.ty,c,b.opn⟩)] w:=by
 refine good_enum (ρ:=[k]) (bs:=[⟨b.ty,c,b.opn⟩]) g (fun j d hj=>?_) fun i j d hi hr hij hj=>?_
 ·match j,hj with
  | 0,hj=>injection hj with hj;subst hj;exact ⟨b,hk,.inr ⟨rfl,rfl⟩,hc⟩
 ·match i,j,hi,hj,hij with
  | 0,0,_,_,q=>exact absurd rfl q
theorem halfSpec_ok:SpecOk Tryz.prog 263 halfSpec:=by
 refine can_spec Tryz.func263 (by kernel_rfl) (by kernel_rfl) fun args H fr path r h=>?_
 unfold halfSpec at h
 split at h
 case h_2=>cases h
 rename_i k A
 split at h
 case h_2=>cases h
 rename_i c0 i ty c hA hk
 split at h
 case h_2=>cases h
 rename_i x hty hx
 injection h with h
 have hty':=nbeq.1 hty
 subst hty'
 refine ⟨[k],[.val false [.p 0 0],.val false [.v (.int .u64 (i.toNat:Int))]],[(0,some (fpB x))],1,0,[0],.tup [],_,[],path,h.symm,fun β us w ha hg hc=>?_⟩
 obtain ⟨u1,us1,r1,⟨u2,us2,r2,ha,rfl⟩,rfl⟩:=ha
 obtain ⟨rfl,p1⟩:=asI_rel (β:=β) (u:=u2) (fun B hB=>by injection hB with hB;subst hB;exact r2) hA
 have hb:=u64_bounds p1
 obtain ⟨l,g1⟩:=hget_rel hg hk
 have hi:((i.toNat:Nat):Int)=i:=Int.toNat_of_nonneg hb.1
 refine ⟨half_can (by rw [RR_eq];exact (asNum_rel hx g1).2) (by omega),by kernel_rfl,⟨u1,_,r1,⟨_,us2,?_,ha,rfl⟩,rfl⟩,good1w (c:=[.num 6 x]) hg hk (fun l h=>num_any hx h),fun j hj=>?_⟩
 ·rw [hi];exact rel_one' ⟨rfl,rfl,p1⟩
 ·match j,hj with
  | 0,_=>exact relB_def (hg.heap _ _ hk)
noncomputable def S23:List (FuncId×ASpec):=(263,halfSpec)::S22
theorem S23ok:SpecsOk Tryz.prog S23:=⟨halfSpec_ok,S22ok⟩
end Go.Proofs.YtfmajnlfpnjagaaGreat
/- The contract of fp.even. -/
namespace Go.Proofs.YtfmajnlfpnjagaaGreat
open Ex
set_option maxRecDepth 100000
set_option maxHeartbeats 4000000
def evA:List AV:=[.val false [.p 0 0],.val false [.p 1 0]]
def evH (u x:Nat):Heap:=[(0,some (fpB u)),(1,some (fpB x))]
noncomputable def evTodo:List Item:=todoOf (aSeg Tryz.prog (orc S23 K0) (some 0) 300 2 none (entry Tryz.f225 evA (evH 0 0) 2 []))
noncomputable def evT:List AV:=.val false [.p 0 0]::.val false [.p 1 0]::List.replicate (Tryz.f225.ntmps-2) .any
noncomputable def evS (u x:Nat) (p:List Bool):ASt:=⟨evTodo,⟨evT,evH u x,2,p⟩⟩
abbrev KE:Option (List Nat×List Nat×Nat):=some ([0,1],[0,1],2)
def oddI (x:Nat):Int:=bits .and .u64 (wordN x 0) 1
theorem ev_entry (u x:Nat):aSeg Tryz.prog (orc S23 K0) (some 3) 300 2 KE (entry Tryz.f225 evA (evH u x) 2 [])=some ([],[],evS u x []):=by kernel_rfl
theorem ev_both (u x:Nat):aSeg Tryz.prog (orc S23 K0) (some 3) 300 2 KE (evS u x [true,true])=some ([(decide (oddI u=0),true),(decide (oddI x=0),true)],[0,1],evS (halfN u 0) (halfN x 0) []):=by kernel_rfl
theorem ev_odd (u x:Nat):aSeg Tryz.prog (orc S23 K0) (some 3) 300 2 KE (evS u x [true,false]) =
 some ([(decide (oddI u=0),true),(decide (oddI x=0),false),(is01 0,true),(is01 (cch x pN 1),true),(is01 (cch x pN 2),true),(is01 (cch x pN 3),true),(is01 (cch x pN 4),true),(is01 (cch x pN 5),true)],[0,1],
  evS (halfN u 0) (halfN (sumN x pN) (cch x pN 6).toNat) []):=by kernel_rfl
theorem ev_out (u x:Nat):segOut Tryz.prog (orc S23 K0) Tryz.f225 300 2 [0,1] (evS u x [false])=some ([(decide (oddI u=0),false)],[],.tup [],evH u x):=by kernel_rfl
def halfP (x:Nat):Nat:=if x % 2=0 then x / 2 else (x+pN) / 2
def evF:Nat→Nat→Nat→Nat×Nat
 | 0,u,x=>(u,x)
 | f+1,u,x=>if u % 2=0 then evF f (u / 2) (halfP x) else (u,x)
theorem oddI_eq (x:Nat):oddI x=((x % 2:Nat):Int):=by
 unfold oddI
 rw [word0_mod2,and_one _ (by omega)]
 omega
theorem halfN_zero (x:Nat):halfN x 0=x / 2:=by unfold halfN;simp
theorem halfN_sum {x:Nat} (hx:x<RR):halfN (sumN x pN) (cch x pN 6).toNat=(x+pN) / 2:=by
 obtain ⟨h1,h2⟩:=sumN_eq (y:=pN) hx (by decide)
 have:=cch_bd x pN 6
 unfold halfN
 have h01:(cch x pN 6).toNat=0∨(cch x pN 6).toNat=1:=by omega
 rcases h01 with e | e<;>rw [e] at h1 ⊢<;>congr 1<;>omega
theorem halfP_lt {x:Nat} (h:x<RR):halfP x<RR:=by
 have hp:pN<RR:=by decide
 unfold halfP;split<;>omega
theorem ev_safe {β0:Env} {w0:World} (hb:∀ b,2≤b→β0 b=none):∀ (f u x:Nat),0<u→u≤f→u<RR→x<RR →
  ASafe Tryz.prog 225 β0 w0 (Outs β0 w0 [0,1] (.tup []) (evH (evF f u x).1 (evF f u x).2)) Tryz.f225.ntmps [0,1] (evS u x []):=by
 intro f
 induction f with
 | zero=>intro u x h1 h2;omega
 | succ f ih =>
  intro u x h1 h2 hu hx
  have ou:=oddI_eq u
  have ox:=oddI_eq x
  unfold evF
  by_cases h:u % 2=0
  ·rw [if_pos h]
   have hd:decide (oddI u=0)=true:=by rw [ou,h];rfl
   by_cases hx2:x % 2=0
   ·refine path_safe [true,true] (seg_safe (orc_ok S23ok K0ok) mixed (ev_both u x) ⟨hd,by rw [ox,hx2];rfl,trivial⟩ (wfB_ok (by kernel_rfl)) hb (fun _ h=>h) fun _=>?_)
    have e:halfP x=x / 2:=if_pos hx2
    rw [halfN_zero,halfN_zero,← e]
    exact ih (u / 2) (halfP x) (by omega) (by omega) (by omega) (halfP_lt hx)
   ·refine path_safe [true,false] (seg_safe (orc_ok S23ok K0ok) mixed (ev_odd u x) ⟨hd,by rw [ox];simp only [decide_eq_false_iff_not];omega,rfl,is01_of (cch_bd _ _ _),is01_of (cch_bd _ _ _),is01_of (cch_bd _ _ _),is01_of (cch_bd _ _ _),is01_of (cch_bd _ _ _),trivial⟩ (wfB_ok (by kernel_rfl)) hb (fun _ h=>h) fun _=>?_)
    have e:halfP x=(x+pN) / 2:=if_neg hx2
    rw [halfN_zero,halfN_sum hx,← e]
    exact ih (u / 2) (halfP x) (by omega) (by omega) (by omega) (halfP_lt hx)
  ·rw [if_neg h]
   have hd:decide (oddI u=0)=false:=by rw [ou];simp only [decide_eq_false_iff_not];omega
   exact path_safe [false] (out_safe (orc_ok S23ok K0ok) mixed Tryz.func225 (ev_out u x) ⟨hd,trivial⟩ (wfB_ok (by kernel_rfl)) hb (fun _ h=>by cases h))
theorem ev_can {u x:Nat} (h0:0<u) (hu:u<RR) (hx:x<RR):CanOk Tryz.prog 225 evA (evH u x) 2 [0,1] (.tup []) (evH (evF u u x).1 (evF u u x).2) :=
 can_entry (path:=[]) Tryz.func225 (by kernel_rfl) (by kernel_rfl) fun β0 w0 hb =>
  seg_safe (orc_ok S23ok K0ok) mixed (ev_entry u x) trivial (wfB_ok (by kernel_rfl)) hb (fun _ h=>by cases h) fun _=>ev_safe hb u u x h0 (Nat.le_refl _) hu hx
def evSpec:ASpec:=fun args H fr path =>
 match args with
 | [.val false [.p k 0],.val false [.p t 0]]=>match hget H k,hget H t,Nat.beq k t with
  | some ⟨ty,c,false⟩,some ⟨ty',d,false⟩,false=>match Nat.beq ty 40,asNum 6 c,Nat.beq ty' 40,asNum 6 d with
   | true,some u,true,some x=>some (trR [k,t] 2 fr 0 [0,1] (.tup []) (evH (evF u u x).1 (evF u u x).2) [(decide (0<u),true)] path)
   | _,_,_,_=>none
  | _,_,_=>none
 | _=>none
theorem evSpec_ok:SpecOk Tryz.prog 225 evSpec:=by
 refine can_spec Tryz.func225 (by kernel_rfl) (by kernel_rfl) fun args H fr path r h=>?_
 unfold evSpec at h
 split at h
 case h_2=>cases h
 rename_i k t
 split at h
 case h_2=>cases h
 rename_i ty c ty' d hk ht hne
 split at h
 case h_2=>cases h
 rename_i u x hty hu hty' hx
 injection h with h
 have hty1:=nbeq.1 hty
 have hty2:=nbeq.1 hty'
 subst hty1;subst hty2
 have hne':k≠t:=fun e=>by subst e;rw [nbeq.2 rfl] at hne;cases hne
 refine ⟨[k,t],evA,evH u x,2,0,[0,1],.tup [],_,_,path,h.symm,fun β us w ha hg hc=>?_⟩
 obtain ⟨u1,us1,r1,⟨u2,us2,r2,ha,rfl⟩,rfl⟩:=ha
 obtain ⟨l,g1⟩:=hget_rel hg hk
 obtain ⟨l',g2⟩:=hget_rel hg ht
 have h0:0<u:=by simpa using hc.1
 refine ⟨ev_can h0 (by rw [RR_eq];exact (asNum_rel hu g1).2) (by rw [RR_eq];exact (asNum_rel hx g2).2),by kernel_rfl,⟨u1,_,r1,⟨u2,us2,r2,ha,rfl⟩,rfl⟩,good2 (c:=[.num 6 u]) (e:=[.num 6 x]) hg hk ht hne' (fun l h=>num_any hu h) (fun l h=>num_any hx h),fun j hj=>?_⟩
 match j,hj with
 | 0,_=>exact relB_def (hg.heap _ _ hk)
 | 1,_=>exact relB_def (hg.heap _ _ ht)
noncomputable def S24:List (FuncId×ASpec):=(225,evSpec)::S23
theorem S24ok:SpecsOk Tryz.prog S24:=⟨evSpec_ok,S23ok⟩
end Go.Proofs.YtfmajnlfpnjagaaGreat
/- fp.Inv: the walk. -/
namespace Go.Proofs.YtfmajnlfpnjagaaGreat
open Ex
set_option maxRecDepth 100000
set_option maxHeartbeats 4000000
def numBlk (b:Blk):Blk:=match asNum 6 b.cs with
 | some x=>⟨b.ty,[.num 6 x],b.opn⟩
 | none=>b
def numH:Heap→Heap
 | []=>[]
 | (k,some b)::r=>(k,some (numBlk b))::numH r
 | (k,none)::r=>(k,none)::numH r
theorem hget_numH (b:Nat):∀ H:Heap,hget (numH H) b=(hget H b).map numBlk
 | []=>rfl
 | (k,some x)::r=>by
  simp only [numH,hget]
  split
  ·rfl
  ·exact hget_numH b r
 | (k,none)::r=>by
  simp only [numH,hget]
  split
  ·rfl
  ·exact hget_numH b r
theorem numBlk_ty (b:Blk):(numBlk b).ty=b.ty∧(numBlk b).opn=b.opn:=by unfold numBlk;split<;>exact ⟨rfl,rfl⟩
theorem num_safe {P:Program} {f:FuncId} {β0:Env} {w0:World} {R:Ending→World→Prop} {n:Nat} {W:List Nat} {todo:List Item} {T:List AV} {H:Heap} {fr:Nat} {p:List Bool} (h:ASafe P f β0 w0 R n W ⟨todo,⟨T,numH H,fr,p⟩⟩):ASafe P f β0 w0 R n W ⟨todo,⟨T,H,fr,p⟩⟩:=by
 intro β a w hi hf
 refine h β a w { hi with good:=⟨fun b blk hb=>?_,fun b b' B n n' h1 h2 h3 h4=>?_,hi.good.lt⟩ } hf
 ·have hb':(hget H b).map numBlk=some blk:=by rw [← hget_numH];exact hb
  obtain ⟨x,hx,rfl⟩:=Option.map_eq_some_iff.1 hb'
  refine relB_in (hi.good.heap b x hx) rfl (.inr (numBlk_ty x)) fun l hl=>?_
  unfold numBlk
  split
  ·rename_i y hy;exact num_any hy hl
  ·exact hl
 ·refine hi.good.inj b b' B n n' ?_ ?_ h3 h4
  ·obtain ⟨d,hd,hr⟩:=rwK_some h1
   have hd':(hget H b).map numBlk=some d:=by rw [← hget_numH];exact hd
   obtain ⟨x,hx,rfl⟩:=Option.map_eq_some_iff.1 hd'
   exact rwK_mk hx (by rw [← (numBlk_ty x).1];exact hr)
  ·have h2':((hget H b').map numBlk).isSome=true:=by rw [← hget_numH];exact h2
   rwa [Option.isSome_map] at h2'
noncomputable def invTodo:List Item:=todoOf (aSeg Tryz.prog (orc S24 K0) (some 0) 300 0 none (entry Tryz.f148 [num6 0] [] 0 [false]))
noncomputable def invT:List AV:=.any::.any::.val false [.p 1 0]::.val false [.p 2 0]::.val false [.p 3 0]::.val false [.p 4 0]::.val false [.p 5 0]::.val false [.p 6 0]::List.replicate (Tryz.f148.ntmps-8) .any
def invH (u v x y:Nat):Heap:=[(1,some (fpB 0)),(2,some (fpB u)),(3,some (fpB v)),(4,some (fpB x)),(5,some (fpB y)),(6,some (fpB 1))]
noncomputable def invS (u v x y:Nat) (p:List Bool):ASt:=⟨invTodo,⟨invT,invH u v x y,7,p⟩⟩
abbrev KI:Option (List Nat×List Nat×Nat):=some ([2,3,4,5,6,7],[1,2,3,4,5,6],7)
def invH0 (a:Nat):Heap:=[(1,some ⟨40,zero6,false⟩),(2,some (fpB (a % pN))),(3,some ⟨40,Pw,false⟩),(4,some ⟨40,[.n .u64 1,.n .u64 0,.n .u64 0,.n .u64 0,.n .u64 0,.n .u64 0],false⟩),(5,some ⟨40,zero6,false⟩),(6,some ⟨40,[.n .u64 1,.n .u64 0,.n .u64 0,.n .u64 0,.n .u64 0,.n .u64 0],false⟩)]
theorem inv_entry (a:Nat):aSeg Tryz.prog (orc S24 K0) (some 0) 300 0 KI (entry Tryz.f148 [num6 a] [] 0 [false])=some ([(decide (a % pN=0),false)],[],⟨invTodo,⟨invT,invH0 a,7,[]⟩⟩):=by kernel_rfl
theorem inv_zero (a:Nat):segRet Tryz.prog (orc S24 K0) Tryz.f148 300 0 (entry Tryz.f148 [num6 a] [] 0 [true])=some ([(decide (a % pN=0),true)],[],num6 (a % pN)):=by kernel_rfl
theorem invH0_num (a:Nat):numH (invH0 a)=invH (a % pN) pN 1 0:=by kernel_rfl
def E1 (u x:Nat):Nat:=(evF u u x).1
def E2 (u x:Nat):Nat:=(evF u u x).2
section
variable (u v x y:Nat)
def invC (r:List (Bool×Bool)):List (Bool×Bool):=(decide (0<u),true)::(decide (0<v),true)::r
def invP:Bool:=decide (0≤cmpI (natL (win (ws6 (E1 u x)) (0+0*1) (6-0))) (natL (win (ws6 (E1 v y)) (0+0*1) (6-0))))
theorem inv_x:segRet Tryz.prog (orc S24 K0) Tryz.f148 300 0 (invS u v x y [true])=some (invC u v [(decide (E1 u x=1),true)],[],num6 (E2 u x)):=by kernel_rfl
theorem inv_y:segRet Tryz.prog (orc S24 K0) Tryz.f148 300 0 (invS u v x y [false,true])=some (invC u v [(decide (E1 u x=1),false),(decide (E1 v y=1),true)],[],num6 (E2 v y)):=by kernel_rfl
theorem inv_u:aSeg Tryz.prog (orc S24 K0) (some 0) 300 0 KI (invS u v x y [false,false,true]) =
 some (invC u v ((decide (E1 u x=1),false)::(decide (E1 v y=1),false)::(allT 4++[(invP u v x y,true)])),[],invS ((E1 u x+(RR-E1 v y)) % RR) (E1 v y) (subN (E2 u x) (E2 v y)) (E2 v y) []):=by kernel_rfl
theorem inv_v:aSeg Tryz.prog (orc S24 K0) (some 0) 300 0 KI (invS u v x y [false,false,false]) =
 some (invC u v ((decide (E1 u x=1),false)::(decide (E1 v y=1),false)::(allT 4++[(invP u v x y,false)])),[],invS (E1 u x) ((E1 v y+(RR-E1 u x)) % RR) (E2 u x) (subN (E2 v y) (E2 u x)) []):=by kernel_rfl
end
end Go.Proofs.YtfmajnlfpnjagaaGreat
/- fp.Inv: the contract. -/
namespace Go.Proofs.YtfmajnlfpnjagaaGreat
open Ex Num
set_option maxRecDepth 100000
set_option maxHeartbeats 4000000
instance neZero_pN:NeZero pN:=⟨by decide⟩
def tf (x:Nat):Fin pN:=toF pN x
theorem tf_mod (x:Nat):tf (x % pN)=tf x:=toF_mod x
theorem tf_eq {x y:Nat}:tf x=tf y↔x % pN=y % pN:=toF_eq
theorem tf_add (x y:Nat):tf (x+y)=tf x+tf y:=toF_add x y
theorem tf_mul (x y:Nat):tf (x*y)=tf x*tf y:=toF_mul x y
theorem tf_addN (x y:Nat):tf (addN x y)=tf x+tf y:=by unfold addN;rw [tf_mod,tf_add,tf_mod,tf_mod]
theorem tf_mulN (x y:Nat):tf (mulN x y)=tf x*tf y:=by unfold mulN;rw [tf_mod,tf_mul]
theorem tf_negN (x:Nat):tf (negN x)=- tf x:=by unfold negN;rw [tf_mod];exact toF_neg x
theorem tf_subN (x y:Nat):tf (subN x y)=tf x-tf y:=by unfold subN;rw [tf_addN,tf_negN];grind
theorem tf_zero:tf 0=0:=toF_zero
theorem tf_one:tf 1=1:=toF_one
theorem tf_lt {x y:Nat} (hx:x<pN) (hy:y<pN) (h:tf x=tf y):x=y:=toF_inj hx hy h
theorem addN_lt (x y:Nat):addN x y<pN:=Nat.mod_lt _ pN_pos
theorem subN_lt (x y:Nat):subN x y<pN:=addN_lt _ _
theorem tf_ne_zero {x:Nat}:tf x=0↔x % pN=0:=by rw [← tf_zero,tf_eq,Nat.zero_mod]
theorem tf_mul_zero {a b:Fin pN} (h:a*b=0):a=0∨b=0:=F_mul_eq_zero pN_prime h
noncomputable def invN (a:Nat):Nat:=powN a (pN-2)
theorem invN_lt (a:Nat):invN a<pN:=powN_lt _ _
theorem invN_zero {a:Nat} (h:a % pN=0):invN a=0:=by
 unfold invN
 rw [powN_eq,Nat.pow_mod,h,Nat.zero_pow (by decide)];rfl
theorem tf_invN {a:Nat} (h:a % pN≠0):tf a*tf (invN a)=1:=by
 have ha:¬ pN∣a:=fun hd=>h (Nat.mod_eq_zero_of_dvd hd)
 have hf:=fermat pN_prime ha
 rw [← tf_mul,← tf_one,tf_eq]
 unfold invN
 rw [powN_eq]
 have e:pN-1=(pN-2)+1:=by have:=pN_gt;omega
 rw [e,Nat.pow_succ] at hf
 rw [Nat.mul_mod_mod,Nat.mul_comm,hf];rfl
theorem inv_unique {a x:Nat} (hx:x<pN) (h:tf a*tf x=1):x=invN a:=by
 have ha:a % pN≠0:=fun e=>by
  rw [tf_ne_zero.2 e] at h
  have:(0:Fin pN)*tf x=0:=by grind
  rw [this] at h
  have h2:tf 0=tf 1:=by rw [tf_zero,tf_one];exact h
  have:=tf_lt pN_pos (show 1<pN by decide) h2
  cases this
 have h2:=tf_invN ha
 refine tf_lt hx (invN_lt a) ?_
 grind
theorem half_cancel {A B:Fin pN} (h:A+A=B+B):A=B:=by
 have h0:(A-B)*tf 2=0:=by
  have:tf 2=1+1:=by rw [← tf_one,← tf_add]
  rw [this];grind
 rcases tf_mul_zero h0 with e | e
 ·grind
 ·exfalso
  have:=tf_lt (show 2<pN by decide) pN_pos (e.trans tf_zero.symm)
  cases this
theorem halfP_spec {x:Nat} (hx:x<pN):tf (halfP x)+tf (halfP x)=tf x∧halfP x<pN:=by
 have hodd:=pN_odd
 constructor
 ·rw [← tf_add,tf_eq]
  unfold halfP
  split
  ·congr 1;omega
  ·rw [show (x+pN) / 2+(x+pN) / 2=x+pN by omega,Nat.add_mod_right]
 ·unfold halfP;split<;>omega
theorem evF_spec {a:Nat}:∀ (f u x:Nat),0<u→u≤f→x<pN→tf a*tf x=tf u→(evF f u x).1 % 2=1∧(evF f u x).1∣u∧(evF f u x).2<pN∧tf a*tf (evF f u x).2=tf (evF f u x).1
 | 0,u,x,h1,h2,_,_=>by omega
 | f+1,u,x,h1,h2,hx,h=>by
  unfold evF
  by_cases hu:u % 2=0
  ·rw [if_pos hu]
   obtain ⟨q1,q2⟩:=halfP_spec hx
   have e:tf (u / 2)+tf (u / 2)=tf u:=by rw [← tf_add];congr 1;omega
   have q3:tf a*tf (halfP x)=tf (u / 2):=half_cancel (by rw [e,← h,← q1];grind)
   obtain ⟨i1,i2,i3,i4⟩:=evF_spec (a:=a) f (u / 2) (halfP x) (by omega) (by omega) q2 q3
   exact ⟨i1,Nat.dvd_trans i2 ⟨2,by omega⟩,i3,i4⟩
  ·rw [if_neg hu]
   exact ⟨by omega,Nat.dvd_refl u,hx,h⟩
theorem invP_eq {u v x y:Nat} (h1:E1 u x<RR) (h2:E1 v y<RR):invP u v x y=decide (E1 v y≤E1 u x):=by
 unfold invP
 rw [natL_num6 h1,natL_num6 h2]
 unfold cmpI
 by_cases c1:E1 u x<E1 v y
 ·rw [if_pos c1,decide_eq_false (by omega),decide_eq_false (by omega)]
 ·rw [if_neg c1]
  by_cases c2:E1 v y<E1 u x
  ·rw [if_pos c2,decide_eq_true (by omega),decide_eq_true (by omega)]
  ·rw [if_neg c2,decide_eq_true (by omega),decide_eq_true (by omega)]
theorem diff_RR {u v:Nat} (h:v≤u) (hu:u<RR):(u+(RR-v)) % RR=u-v:=by
 rw [show u+(RR-v)=(u-v)+RR by omega,Nat.add_mod_right,Nat.mod_eq_of_lt (by omega)]
theorem inv_safe (a:Nat) (w0:World):∀ (m u v x y:Nat),u+v≤m→0<u→0<v→u<RR→v<RR→x<pN→y<pN→Nat.Coprime u v→tf a*tf x=tf u→tf a*tf y=tf v →
  ASafe Tryz.prog 148 noEnv w0 (PureOut w0 (num6 (invN a))) Tryz.f148.ntmps [] (invS u v x y []):=by
 intro m
 induction m with
 | zero=>intro u v x y h1 h2;omega
 | succ m ih =>
  intro u v x y hm hu hv hur hvr hx hy hg h1 h2
  obtain ⟨a1,a2,a3,a4⟩:=evF_spec (a:=a) u u x hu (Nat.le_refl _) hx h1
  obtain ⟨b1,b2,b3,b4⟩:=evF_spec (a:=a) v v y hv (Nat.le_refl _) hy h2
  have a5:=Nat.le_of_dvd hu a2
  have b5:=Nat.le_of_dvd hv b2
  change E1 u x % 2=1 at a1
  change E1 u x∣u at a2
  change E2 u x<pN at a3
  change tf a*tf (E2 u x)=tf (E1 u x) at a4
  change E1 u x≤u at a5
  change E1 v y % 2=1 at b1
  change E1 v y∣v at b2
  change E2 v y<pN at b3
  change tf a*tf (E2 v y)=tf (E1 v y) at b4
  change E1 v y≤v at b5
  have hg':Nat.Coprime (E1 u x) (E1 v y):=(hg.coprime_dvd_left a2).coprime_dvd_right b2
  have c0:decide (0<u)=true:=decide_eq_true hu
  have c1:decide (0<v)=true:=decide_eq_true hv
  have iP:=invP_eq (u:=u) (v:=v) (x:=x) (y:=y) (by omega) (by omega)
  by_cases hu1:E1 u x=1
  ·have h:=ret_safe (w0:=w0) (β0:=noEnv) (n:=Tryz.f148.ntmps) (orc_ok S24ok K0ok) mixed Tryz.func148 (inv_x u v x y) ⟨c0,c1,decide_eq_true hu1,trivial⟩ (wfB_ok (by kernel_rfl)) (fun _ _=>rfl) rfl
   rw [inv_unique (a:=a) a3 (by rw [a4,hu1,tf_one])] at h
   exact path_safe [true] h
  ·by_cases hv1:E1 v y=1
   ·have h:=ret_safe (w0:=w0) (β0:=noEnv) (n:=Tryz.f148.ntmps) (orc_ok S24ok K0ok) mixed Tryz.func148 (inv_y u v x y) ⟨c0,c1,decide_eq_false hu1,decide_eq_true hv1,trivial⟩ (wfB_ok (by kernel_rfl)) (fun _ _=>rfl) rfl
    rw [inv_unique (a:=a) b3 (by rw [b4,hv1,tf_one])] at h
    exact path_safe [false,true] h
   ·have hne:E1 u x≠E1 v y:=fun e=>by
     rw [← e] at hg'
     exact hu1 ((Nat.coprime_self _).1 hg')
    by_cases hle:E1 v y≤E1 u x
    ·refine path_safe [false,false,true] (seg_safe (orc_ok S24ok K0ok) mixed (inv_u u v x y) ⟨c0,c1,decide_eq_false hu1,decide_eq_false hv1,rfl,rfl,rfl,rfl,by rw [iP];exact decide_eq_true hle,trivial⟩ (wfB_ok (by kernel_rfl)) (fun _ _=>rfl) (fun _ h=>by cases h) fun _=>?_)
     rw [diff_RR hle (by omega)]
     refine ih _ _ _ _ (by omega) (by omega) (by omega) (by omega) (by omega) (subN_lt _ _) b3 ?_ ?_ b4
     ·exact (Nat.gcd_sub_self_left hle).trans hg'
     ·have e:tf (E1 u x-E1 v y)=tf (E1 u x)-tf (E1 v y):=toF_sub hle
      rw [tf_subN,e,← a4,← b4];grind
    ·refine path_safe [false,false,false] (seg_safe (orc_ok S24ok K0ok) mixed (inv_v u v x y) ⟨c0,c1,decide_eq_false hu1,decide_eq_false hv1,rfl,rfl,rfl,rfl,by rw [iP];exact decide_eq_false hle,trivial⟩ (wfB_ok (by kernel_rfl)) (fun _ _=>rfl) (fun _ h=>by cases h) fun _=>?_)
     rw [diff_RR (by omega) (by omega)]
     refine ih _ _ _ _ (by omega) (by omega) (by omega) (by omega) (by omega) a3 (subN_lt _ _) ?_ a4 ?_
     ·exact Nat.Coprime.symm ((Nat.gcd_sub_self_left (show E1 u x≤E1 v y by omega)).trans hg'.symm)
     ·have e:tf (E1 v y-E1 u x)=tf (E1 v y)-tf (E1 u x):=toF_sub (by omega)
      rw [tf_subN,e,← a4,← b4];grind
theorem inv_ok (a:Nat):PureOk Tryz.prog 148 [num6 a] (num6 (invN a)):=by
 refine pure_entry (path:=[]) Tryz.func148 (by kernel_rfl) (by kernel_rfl) fun w0=>?_
 by_cases h:a % pN=0
 ·have h1:=ret_safe (w0:=w0) (β0:=noEnv) (n:=Tryz.f148.ntmps) (orc_ok S24ok K0ok) mixed Tryz.func148 (inv_zero a) ⟨decide_eq_true h,trivial⟩ (wfB_ok (by kernel_rfl)) (fun _ _=>rfl) rfl
  have e:a % pN=invN a:=by rw [h,invN_zero h]
  rw [e] at h1
  exact path_safe [true] h1
 ·have hp:=modp_lt a
  have hR:pN<RR:=by decide
  refine path_safe [false] (seg_safe (orc_ok S24ok K0ok) mixed (inv_entry a) ⟨decide_eq_false h,trivial⟩ (wfB_ok (by kernel_rfl)) (fun _ _=>rfl) (fun _ h=>by cases h) fun _=>?_)
  refine num_safe ?_
  rw [invH0_num]
  refine inv_safe a w0 (a % pN+pN) (a % pN) pN 1 0 (Nat.le_refl _) (by omega) pN_pos (by omega) hR (by decide) pN_pos ?_ ?_ ?_
  ·exact (pN_prime.coprime fun hd=>by have:=Nat.le_of_dvd (by omega) hd;omega).symm
  ·rw [tf_one,tf_mod];grind
  ·have:tf pN=0:=toF_p
   rw [tf_zero,this];grind
noncomputable def S25:List (FuncId×ASpec):=(148,pureSpec (sp1 fun x=>num6 (invN x)))::S24
theorem S25ok:SpecsOk Tryz.prog S25:=⟨pureSpec_ok Tryz.func148 (by kernel_rfl) (by kernel_rfl) (sp1_ok fun x _=>inv_ok x),S24ok⟩
end Go.Proofs.YtfmajnlfpnjagaaGreat
/- limb.Octets, limb.Words: the contracts. -/
namespace Go.Proofs.YtfmajnlfpnjagaaGreat
open Ex Num
set_option maxRecDepth 100000
set_option maxHeartbeats 4000000
def putT:List (Nat×AV)→Nat→AV
 | [],_=>.any
 | (j,a)::r,i=>match Nat.beq i j with | true=>a | false=>putT r i
def mkTF:Nat→Nat→List (Nat×AV)→List AV
 | 0,_,_=>[]
 | f+1,i,l=>putT l i::mkTF f (i+1) l
def mkT (n:Nat) (l:List (Nat×AV)):List AV:=mkTF n 0 l
def slA (k off n m:Nat):AV:=.val false [.sl k off n m]
def iA (i:Int):AV:=.val false [.v (.int .i64 i)]
def byH (xs:List Int):Heap:=[(0,some (roB [.seq .u8 xs]))]
def fillL (f:Nat→Int) (L i:Nat):List Int:=(List.range i).map f++List.replicate (L-i) 0
theorem fillL_length {f:Nat→Int} {L i:Nat} (h:i≤L):(fillL f L i).length=L:=by simp [fillL];omega
theorem fillL_set {f:Nat→Int} {L i:Nat} (h:i<L):(fillL f L i).set i (f i)=fillL f L (i+1):=by
 unfold fillL
 rw [List.set_append_right _ _ (by simp),List.length_map,List.length_range,Nat.sub_self,show L-i=(L-(i+1))+1 by omega,List.replicate_succ,List.set_cons_zero,List.range_succ,List.map_append,List.append_assoc]
 rfl
theorem fillL_zero (f:Nat→Int) (L:Nat):fillL f L 0=List.replicate L 0:=by simp [fillL]
theorem fillL_full (f:Nat→Int) (L:Nat):fillL f L L=(List.range L).map f:=by simp [fillL]
def byteN (A k:Nat):Int:=((A / 256^k % 256:Nat):Int)
def octL (A n:Nat):List Int:=(List.range n).map fun i=>byteN A (n-1-i)
def natB:List Int→Nat
 | []=>0
 | d::r=>d.toNat*256^r.length+natB r
theorem p256 (k:Nat):256^k=2^(8*k):=by rw [Nat.pow_mul]
theorem wI_k {n i:Nat} (hn:n≤35184372088832) (h:i<n):wI (wI ((n:Int)-1)-i)=((n-1-i:Nat):Int):=by
 rw [wI_eq (z:=(n:Int)-1) (by omega),wI_eq (by omega)];omega
theorem tdiv8 (k:Nat):Int.tdiv (k:Int) 8=((k / 8:Nat):Int):=by rw [Int.tdiv_eq_ediv_of_nonneg (by omega)];rfl
theorem tmod8 (k:Nat):Int.tmod (k:Int) 8=((k % 8:Nat):Int):=by rw [Int.tmod_eq_emod_of_nonneg (by omega)];rfl
noncomputable def octTodo:List Item:=todoOf (aSeg Tryz.prog (orc S25 K0) (some 0) 100 1 none (entry Tryz.f85 [slA 0 0 0 0,iA 0] (seqH []) 1 []))
noncomputable def octS (off m c:Nat) (n:Int) (xs:List Int) (L:Nat) (ys:List Int) (i:AV) (p:List Bool):ASt:=⟨octTodo,⟨mkT Tryz.f85.ntmps [(0,slA 0 off m c),(1,iA n),(5,slA 1 0 L L),(10,slA 1 0 L L),(11,slA 1 0 L L),(12,iA L),(13,i)],
 [(0,some (roB [.seq .u64 xs])),(1,some ⟨5,[.seq .u8 ys],false⟩)],2,p⟩⟩
abbrev octK:Option (List Nat×List Nat×Nat):=some ([0,1,5,10,11,12,13],[0,1],2)
def octL0 (n:Int):Nat:=(maxI n 0).toNat
def octH (ys:List Int):Heap:=[(1,some ⟨5,[.seq .u8 ys],false⟩)]
def mkC (m sz:Int):Bool:=decide (0≤m∧m≤m∧sz*m≤281474976710656∧m≤9223372036854775807)
theorem oct_entry (off m c:Nat) (n:Int) (xs:List Int):aSeg Tryz.prog (orc S25 K0) (some 0) 100 1 octK (entry Tryz.f85 [slA 0 off m c,iA n] (seqH xs) 1 []) =
 some ([(mkC (maxI n 0) 1,true),(hasB .i64 (octL0 n),true)],[],octS off m c n xs (octL0 n) (List.replicate (octL0 n) 0) (.val false [.n .i64 0]) []):=by kernel_rfl
def octK8 (n i:Int):Int:=wI (wI (n-1)-i)
def octV (xs:List Int) (off m:Nat) (k:Int):Int:=wrapc false .u8 (Int.fdiv (atV xs off m (wI (Int.tdiv k 8))) (2^min (wI (8*Int.tmod k 8)).toNat 64))
def octC (off m:Nat) (n:Int) (xs:List Int) (L:Nat) (ys:List Int) (i:Int):List (Bool×Bool):=[(decide (i<L),true),(true,true),(Nat.ble (off+m) xs.length,true),(hasB .i64 m,true),(decide (0≤wI (Int.tdiv (octK8 n i) 8)),true),
 (decide (0≤octK8 n i∧(0:Int)<8),true),(decide (0≤wI (8*Int.tmod (octK8 n i) 8)∧0≤atV xs off m (wI (Int.tdiv (octK8 n i) 8))),true),(decide (0≤i∧i<L),true),(decide (0+i.toNat*1<ys.length),true)]
theorem oct_step (off m c:Nat) (n:Int) (xs:List Int) (L:Nat) (ys:List Int) (i:Int):aSeg Tryz.prog (orc S25 K0) (some 0) 100 1 octK (octS off m c n xs L ys (iA i) [true]) =
 some (octC off m n xs L ys i,[],octS off m c n xs L (ys.set (0+i.toNat*1) (octV xs off m (octK8 n i))) (iA (wI (i+1))) []):=by kernel_rfl
theorem oct_exit (off m c:Nat) (n:Int) (xs:List Int) (L:Nat) (ys:List Int) (i:Int):segOut Tryz.prog (orc S25 K0) Tryz.f85 100 1 [1] (octS off m c n xs L ys (iA i) [false]) =
 some ([(decide (i<L),false)],[],slA 1 0 L L,octH ys):=by kernel_rfl
theorem octV_eq {xs:List Int} {off m:Nat} (hx:∀ d∈xs,0≤d∧d<18446744073709551616) {k:Nat} (hk:k≤35184372088832):octV xs off m (k:Int)=byteN (natL (win xs off m)) k∧0≤atV xs off m (wI (Int.tdiv (k:Int) 8)):=by
 have e1:wI (Int.tdiv (k:Int) 8)=((k / 8:Nat):Int):=by rw [tdiv8];exact wI_eq (by omega)
 have e2:wI (8*Int.tmod (k:Int) 8)=((8*(k % 8):Nat):Int):=by rw [tmod8,wI_eq (by omega)];omega
 unfold octV
 rw [e1,e2,atV_word hx,Int.toNat_natCast,Nat.min_eq_left (by omega)]
 refine ⟨?_,by omega⟩
 generalize natL (win xs off m)=A
 have e3:(Int.fdiv ((A / 2^(64*(k / 8)) % 18446744073709551616:Nat):Int) (2^(8*(k % 8))))=((A / 2^(64*(k / 8)) % 18446744073709551616 / 2^(8*(k % 8)):Nat):Int):=by
  rw [Int.fdiv_eq_ediv_of_nonneg _ (by exact_mod_cast Nat.zero_le (2^(8*(k % 8)))),Int.natCast_ediv,Int.natCast_pow];rfl
 rw [e3,wrapc_eq,IntKind.wrap_u8]
 unfold byteN
 have e4:(18446744073709551616:Nat)=2^(8*(k % 8))*2^(64-8*(k % 8)):=by rw [← Nat.pow_add,show 8*(k % 8)+(64-8*(k % 8))=64 by omega]
 have e5:A / 2^(64*(k / 8)) % 18446744073709551616 / 2^(8*(k % 8)) % 256=A / 256^k % 256:=by
  rw [e4,Nat.mod_mul_right_div_self,Nat.div_div_eq_div_mul,← Nat.pow_add,show 64*(k / 8)+8*(k % 8)=8*k by omega,p256]
  refine Nat.mod_mod_of_dvd _ ?_
  have:64-8*(k % 8)=8+(56-8*(k % 8)):=by omega
  rw [this,Nat.pow_add]
  exact ⟨_,rfl⟩
 rw [← e5];omega
theorem oct_can {off m c:Nat} {xs:List Int} (hx:∀ d∈xs,0≤d∧d<18446744073709551616) (hl:off+m≤xs.length) (hm:hasB .i64 m=true) {n:Nat} (hn:n≤35184372088832) :
  CanOk Tryz.prog 85 [slA 0 off m c,iA n] (seqH xs) 1 [] (slA 1 0 n n) (octH (octL (natL (win xs off m)) n)):=by
 refine can_entry (path:=[]) Tryz.func85 (by kernel_rfl) (by kernel_rfl) fun β0 w0 hb=>?_
 have h0:maxI (n:Int) 0=n:=by unfold maxI;split<;>omega
 have h1:octL0 (n:Int)=n:=by unfold octL0;rw [h0];omega
 refine seg_safe (orc_ok S25ok K0ok) mixed (oct_entry off m c n xs) ⟨?_,?_,trivial⟩ (wfB_ok (by kernel_rfl)) hb (fun _ h=>by cases h) fun _=>?_
 ·rw [h0];unfold mkC;simp only [decide_eq_true_eq];omega
 ·rw [h1];simp only [hasB,Bool.and_eq_true,decide_eq_true_eq];omega
 ·rw [h1]
  refine nv_safe ?_
  have loop:∀ r i,i+r=n→ASafe Tryz.prog 85 β0 w0 (Outs β0 w0 [] (slA 1 0 n n) (octH (octL (natL (win xs off m)) n))) Tryz.f85.ntmps [] (octS off m c n xs n (fillL (fun i=>byteN (natL (win xs off m)) (n-1-i)) n i) (iA i) []):=by
   intro r
   induction r with
   | zero =>
    intro i hi
    obtain rfl:i=n:=by omega
    rw [fillL_full]
    exact path_safe [false] (out_safe (orc_ok S25ok K0ok) mixed Tryz.func85 (oct_exit ..) ⟨by simp,trivial⟩ (wfB_ok (by kernel_rfl)) hb (fun _ h=>by cases h))
   | succ r ih =>
    intro i hi
    have ek:octK8 (n:Int) i=((n-1-i:Nat):Int):=wI_k hn (by omega)
    have ev:=octV_eq (off:=off) (m:=m) hx (k:=n-1-i) (by omega)
    have ed:wI (Int.tdiv ((n-1-i:Nat):Int) 8)=(((n-1-i) / 8:Nat):Int):=by rw [tdiv8];exact wI_eq (by omega)
    refine path_safe [true] (seg_safe (orc_ok S25ok K0ok) mixed (oct_step ..) ?_ (wfB_ok (by kernel_rfl)) hb (fun _ h=>by cases h) fun _=>?_)
    ·rw [octC,ek]
     refine ⟨by simp;omega,rfl,Nat.ble_eq_true_of_le hl,hm,by rw [ed];simp only [decide_eq_true_eq];omega,by simp,?_,by simp;omega,by rw [fillL_length (by omega)];simp;omega,trivial⟩
     have:wI (8*Int.tmod ((n-1-i:Nat):Int) 8)=((8*((n-1-i) % 8):Nat):Int):=by rw [tmod8,wI_eq (by omega)];omega
     rw [this]
     simp only [decide_eq_true_eq]
     exact ⟨by omega,ev.2⟩
    ·rw [ek,ev.1,wI_eq (z:=(i:Int)+1) (by omega),show 0+(i:Int).toNat*1=i by omega,fillL_set (f:=fun i=>byteN (natL (win xs off m)) (n-1-i)) (by omega)]
     exact ih (i+1) (by omega)
  have:=loop n 0 (by omega)
  rw [fillL_zero] at this
  exact this
def octSpec:ASpec:=fun args H fr path =>
 match args with
 | [.val false [.sl k off m _],I]=>match asI (some I),hget H k with
  | some (_,.i64,i),some ⟨_,cs,_⟩=>match toSeq .u64 cs with
   | some xs=>some (trR [k] 1 fr 1 [] (slA 1 0 i.toNat i.toNat) (octH (octL (natL (win xs off m)) i.toNat)) [(Nat.ble (off+m) xs.length,true),(hasB .i64 m,true),(decide (0≤i∧i≤35184372088832),true)] path)
   | none=>none
  | _,_=>none
 | _=>none
theorem octSpec_ok:SpecOk Tryz.prog 85 octSpec:=by
 refine can_spec Tryz.func85 (by kernel_rfl) (by kernel_rfl) fun args H fr path r h=>?_
 unfold octSpec at h
 split at h
 case h_2=>cases h
 rename_i k off m _c I
 split at h
 case h_2=>cases h
 rename_i c0 i ty cs o hI hk
 split at h
 case h_2=>cases h
 rename_i xs hxs
 injection h with h
 refine ⟨[k],[slA 0 off m _c,iA i],seqH xs,1,1,[],_,_,_,path,h.symm,fun β us w ha hg hc=>?_⟩
 obtain ⟨u1,us1,r1,⟨u2,us2,r2,ha,rfl⟩,rfl⟩:=ha
 obtain ⟨g1,g2,g3⟩:=good_seq hg hk hxs
 obtain ⟨rfl,p1⟩:=asI_rel (β:=β) (u:=u2) (fun A hA=>by injection hA with hA;subst hA;exact r2) hI
 have hi:=hc.2.2.1
 simp only [decide_eq_true_eq] at hi
 obtain ⟨n,rfl⟩:=Int.eq_ofNat_of_zero_le hi.1
 exact ⟨oct_can g1 (Nat.le_of_ble_eq_true hc.1) hc.2.1 (by omega),by kernel_rfl,⟨u1,_,r1,⟨_,us2,rel_one' ⟨rfl,rfl,p1⟩,ha,rfl⟩,rfl⟩,g2,g3⟩
noncomputable def S26:List (FuncId×ASpec):=(85,octSpec)::S25
theorem S26ok:SpecsOk Tryz.prog S26:=⟨octSpec_ok,S25ok⟩
end Go.Proofs.YtfmajnlfpnjagaaGreat
/- limb.Words: the contract. -/
namespace Go.Proofs.YtfmajnlfpnjagaaGreat
open Ex Num
set_option maxRecDepth 100000
set_option maxHeartbeats 4000000
theorem natB_append:∀ (a b:List Int),natB (a++b)=natB a*256^b.length+natB b
 | [],b=>by simp [natB]
 | d::r,b=>by
  simp only [List.cons_append,natB,List.length_append]
  rw [natB_append r b,Nat.pow_add,Nat.add_mul,Nat.mul_assoc,Nat.add_assoc]
theorem natB_take {ws:List Int} {i:Nat} (h:i<ws.length):natB (ws.take (i+1))=natB (ws.take i)*256+(ws.getD i 0).toNat:=by
 rw [List.take_succ_eq_append_getElem h,natB_append]
 simp [natB,List.getD_eq_getElem?_getD,h]
theorem natB_lt:∀ (ws:List Int),(∀ d∈ws,0≤d∧d<256)→natB ws<256^ws.length
 | [],_=>by simp [natB]
 | d::r,h=>by
  have hd:=h d (by simp)
  have ih:=natB_lt r fun d h'=>h d (by simp [h'])
  simp only [natB,List.length_cons,Nat.pow_succ]
  have:d.toNat+1≤256:=by omega
  have h2:=Nat.mul_le_mul_right (256^r.length) this
  rw [Nat.add_mul,Nat.one_mul] at h2
  omega
theorem word_same {M x k i:Nat} (hx:x<256) (hi:i≠k / 8):(M*256^(k+1)+x*256^k) / 2^(64*i) % 2^64=M*256^(k+1) / 2^(64*i) % 2^64:=by
 rw [p256,p256]
 rcases Nat.lt_or_gt_of_ne hi with h | h
 ·have e:x*2^(8*k)=2^(64*i)*(2^64*(x*2^(8*k-64*i-64))):=by
   rw [Nat.mul_left_comm (2^64),Nat.mul_left_comm (2^(64*i)),← Nat.pow_add,← Nat.pow_add];congr 2;omega
  rw [e,Nat.add_mul_div_left _ _ (Nat.pow_pos (by decide)),Nat.add_mul_mod_self_left]
 ·have e1:2^(64*i)=2^(8*k)*2^(64*i-8*k):=by rw [← Nat.pow_add];congr 1;omega
  have e2:M*2^(8*(k+1))+x*2^(8*k)=2^(8*k)*(M*256+x):=by
   rw [show 8*(k+1)=8*k+8 by omega,Nat.pow_add,Nat.mul_add,Nat.mul_comm x];congr 1;rw [Nat.mul_left_comm]
  have e3:M*2^(8*(k+1))=2^(8*k)*(M*256):=by rw [show 8*(k+1)=8*k+8 by omega,Nat.pow_add,Nat.mul_left_comm]
  have e4:2^(64*i-8*k)=256*2^(64*i-8*k-8):=by
   rw [show (256:Nat)=2^8 by rfl,← Nat.pow_add];congr 1;omega
  rw [e2,e3,e1,Nat.mul_div_mul_left _ _ (Nat.pow_pos (by decide)),Nat.mul_div_mul_left _ _ (Nat.pow_pos (by decide)),e4,← Nat.div_div_eq_div_mul,← Nat.div_div_eq_div_mul]
  congr 2;omega
theorem word_more {M x k:Nat} (hx:x<256):∃ h B,(M*256^(k+1)) / 2^(64*(k / 8)) % 2^64=h*2^(8*(k % 8)+8)∧x*2^(8*(k % 8))=B∧B<2^(8*(k % 8)+8)∧h*2^(8*(k % 8)+8)<2^64 ∧
  (M*256^(k+1)+x*256^k) / 2^(64*(k / 8)) % 2^64=h*2^(8*(k % 8)+8)+B:=by
 rw [p256,p256]
 have e0:2^(8*k)=2^(64*(k / 8))*2^(8*(k % 8)):=by rw [← Nat.pow_add];congr 1;omega
 have e1:2^(8*(k+1))=2^(64*(k / 8))*2^(8*(k % 8)+8):=by rw [← Nat.pow_add];congr 1;omega
 have e2:(2:Nat)^64=2^(8*(k % 8)+8)*2^(56-8*(k % 8)):=by rw [← Nat.pow_add];congr 1;omega
 have e3:2^(8*(k % 8)+8)=2^(8*(k % 8))*256:=by rw [Nat.pow_add]
 have hp:0<2^(64*(k / 8)):=Nat.pow_pos (by decide)
 have q1:M*2^(8*(k+1)) / 2^(64*(k / 8))=M*2^(8*(k % 8)+8):=by
  rw [e1,Nat.mul_left_comm,Nat.mul_div_cancel_left _ hp]
 have q2:(M*2^(8*(k+1))+x*2^(8*k)) / 2^(64*(k / 8))=M*2^(8*(k % 8)+8)+x*2^(8*(k % 8)):=by
  rw [e1,e0,Nat.mul_left_comm M,Nat.mul_left_comm x,← Nat.mul_add,Nat.mul_div_cancel_left _ hp]
 rw [q1,q2]
 have hB:x*2^(8*(k % 8))<2^(8*(k % 8)+8):=by
  rw [e3,Nat.mul_comm];exact Nat.mul_lt_mul_of_pos_left hx (Nat.pow_pos (by decide))
 have m1:M*2^(8*(k % 8)+8) % 2^64=M % 2^(56-8*(k % 8))*2^(8*(k % 8)+8):=by
  rw [e2,Nat.mul_comm M,Nat.mul_mod_mul_left,Nat.mul_comm]
 have hlt:M % 2^(56-8*(k % 8))*2^(8*(k % 8)+8)+2^(8*(k % 8)+8)≤2^64:=by
  have:=Nat.mod_lt M (show 0<2^(56-8*(k % 8)) from Nat.pow_pos (by decide))
  have h2:=Nat.mul_le_mul_right (2^(8*(k % 8)+8)) (show M % 2^(56-8*(k % 8))+1≤2^(56-8*(k % 8)) from this)
  rw [Nat.add_mul,Nat.one_mul,Nat.mul_comm (2^(56-8*(k % 8))),← e2] at h2
  exact h2
 have hp2:0<2^(8*(k % 8)+8):=Nat.pow_pos (by decide)
 refine ⟨M % 2^(56-8*(k % 8)),_,m1,rfl,hB,by omega,?_⟩
 rw [Nat.add_mod,m1]
 have:x*2^(8*(k % 8)) % 2^64=x*2^(8*(k % 8)):=Nat.mod_eq_of_lt (by omega)
 rw [this,Nat.mod_eq_of_lt (by omega)]
def wrdL (n:Nat):Nat:=(wI (Int.tdiv (wI ((n:Int)+7)) 8)).toNat
noncomputable def wrdTodo:List Item:=todoOf (aSeg Tryz.prog (orc S26 K0) (some 0) 100 1 none (entry Tryz.f69 [slA 0 0 0 0] (byH []) 1 []))
noncomputable def wrdS (off n c:Nat) (xs:List Int) (L:Nat) (ys:List Int) (i:AV) (p:List Bool):ASt:=⟨wrdTodo,⟨mkT Tryz.f69.ntmps [(0,slA 0 off n c),(3,slA 1 0 L L),(11,slA 1 0 L L),(12,slA 0 off n c),(13,iA n),(14,i)],
 [(0,some (roB [.seq .u8 xs])),(1,some ⟨33,[.seq .u64 ys],false⟩)],2,p⟩⟩
abbrev wrdK:Option (List Nat×List Nat×Nat):=some ([0,3,11,12,13,14],[0,1],2)
theorem wrd_entry (off n c:Nat) (xs:List Int):aSeg Tryz.prog (orc S26 K0) (some 0) 100 1 wrdK (entry Tryz.f69 [slA 0 off n c] (byH xs) 1 []) =
 some ([(hasB .i64 n,true),(true,true),(mkC (wI (Int.tdiv (wI ((n:Int)+7)) 8)) 8,true),(hasB .i64 n,true)],[],wrdS off n c xs (wrdL n) (List.replicate (wrdL n) 0) (.val false [.n .i64 0]) []):=by kernel_rfl
def wrdJ (n i:Int):Int:=wI (Int.tdiv (octK8 n i) 8)
def wrdV (xs:List Int) (off:Nat) (n:Int) (ys:List Int) (i:Int):Int :=
 bits .or .u64 (ys.getD (0+(wrdJ n i).toNat*1) 0) (IntKind.u64.wrap (wrapc false .u64 (xs.getD (off+i.toNat*1) 0)*2^min (wI (8*Int.tmod (octK8 n i) 8)).toNat 64))
def wrdC (off n:Nat) (xs:List Int) (L:Nat) (ys:List Int) (i:Int):List (Bool×Bool):=[(decide (i<n),true),(decide (0≤i∧i<n),true),(decide (off+i.toNat*1<xs.length),true),(hasB .i64 n,true),(true,true),
 (decide (0≤wrdJ n i∧wrdJ n i<L),true),(decide (0+(wrdJ n i).toNat*1<ys.length),true),(decide (0≤octK8 n i∧(0:Int)<8),true),(decide (0≤wI (8*Int.tmod (octK8 n i) 8)),true),(decide (0≤wrdJ n i∧wrdJ n i<L),true),(decide (0+(wrdJ n i).toNat*1<ys.length),true)]
theorem wrd_step (off n c:Nat) (xs:List Int) (L:Nat) (ys:List Int) (i:Int):aSeg Tryz.prog (orc S26 K0) (some 0) 100 1 wrdK (wrdS off n c xs L ys (iA i) [true]) =
 some (wrdC off n xs L ys i,[],wrdS off n c xs L (ys.set (0+(wrdJ n i).toNat*1) (wrdV xs off n ys i)) (iA (wI (i+1))) []):=by kernel_rfl
def wrdH (ys:List Int):Heap:=[(1,some ⟨33,[.seq .u64 ys],false⟩)]
theorem wrd_exit (off n c:Nat) (xs:List Int) (L:Nat) (ys:List Int) (i:Int):segOut Tryz.prog (orc S26 K0) Tryz.f69 100 1 [1] (wrdS off n c xs L ys (iA i) [false]) =
 some ([(decide (i<n),false)],[],slA 1 0 L L,wrdH ys):=by kernel_rfl
def wordL (N L:Nat):List Int:=(List.range L).map (wordN N)
theorem wordL_set {N N' L j:Nat} {w:Int} (hj:wordN N' j=w) (ho:∀ i,i≠j→wordN N' i=wordN N i):(wordL N L).set j w=wordL N' L:=by
 unfold wordL
 refine List.ext_getElem (by simp) fun i h1 h2=>?_
 rw [List.getElem_set]
 split
 ·rename_i e;subst e;simp [hj]
 ·rename_i e;simp [ho i (fun h=>e h.symm)]
theorem wordL_getD {N L j:Nat} (h:j<L):(wordL N L).getD j 0=wordN N j:=by simp [wordL,List.getD_eq_getElem?_getD,h]
theorem wordL_zero (L:Nat):wordL 0 L=List.replicate L 0:=by
 unfold wordL
 refine List.ext_getElem (by simp) fun i h1 h2=>?_
 simp [wordN]
theorem wordL_natL {N L:Nat} (h:N<2^(64*L)):natL (wordL N L)=N:=by
 have:=natL_outL (S:=N) (L:=L) h
 unfold outL win at this
 rw [Nat.sub_self,List.replicate_zero,List.append_nil,List.drop_zero,List.take_of_length_le (by simp)] at this
 exact this
theorem wrdL_eq {n:Nat} (hn:n≤35184372088832):wrdL n=(n+7) / 8∧wI (Int.tdiv (wI ((n:Int)+7)) 8)=(((n+7) / 8:Nat):Int):=by
 have e:wI ((n:Int)+7)=((n+7:Nat):Int):=by rw [wI_eq (by omega)];omega
 have e2:wI (Int.tdiv (wI ((n:Int)+7)) 8)=(((n+7) / 8:Nat):Int):=by rw [e,tdiv8];exact wI_eq (by omega)
 exact ⟨by unfold wrdL;rw [e2];omega,e2⟩
def wrdN (N L:Nat):Heap:=[(1,some ⟨33,[.num L N],false⟩)]
theorem seq_words {N L:Nat} (h:N<2^(64*L)) (β:Env) (l:List Value) (hr:relL β [.seq .u64 (wordL N L)] l):relL β [.num L N] l:=by
 obtain ⟨l1,l2,⟨h1,_⟩,h2,h3⟩:=hr
 simp only [relL] at h2
 subst h2;subst h1;subst h3
 refine ⟨_,[],⟨h,rfl⟩,rfl,?_⟩
 simp [wordL,words,Function.comp]
theorem asafe_outs {P:Program} {f:FuncId} {β0:Env} {w0:World} {R R':Ending→World→Prop} {W':List Nat} {n:Nat} {x:ASt} (h:ASafe P f β0 w0 R n W' x) (hv:∀ e w,R e w→R' e w):ASafe P f β0 w0 R' n W' x:=by
 intro β a w hi hf b cs q1 q2
 obtain ⟨e',w',fr,q5,q4⟩:=h β a w hi hf b cs q1 q2
 exact ⟨e',w',fr,hv _ _ q5,q4⟩
theorem wrd_can {off n c:Nat} {xs:List Int} (hx:∀ d∈xs,0≤d∧d<256) (hl:off+n≤xs.length) (hn:n≤35184372088832) :
  CanOk Tryz.prog 69 [slA 0 off n c] (byH xs) 1 [] (slA 1 0 ((n+7) / 8) ((n+7) / 8)) (wrdN (natB (win xs off n)) ((n+7) / 8)):=by
 have hfin:natB (win xs off n)<2^(64*((n+7) / 8)):=by
  have h1:=natB_lt (win xs off n) (win_has hx)
  have h2:(win xs off n).length=n:=by unfold win;rw [List.length_take,List.length_drop];omega
  rw [h2,p256] at h1
  exact Nat.lt_of_lt_of_le h1 (Nat.pow_le_pow_right (by decide) (by omega))
 refine can_entry (path:=[]) Tryz.func69 (by kernel_rfl) (by kernel_rfl) fun β0 w0 hb=>?_
 obtain ⟨l1,l2⟩:=wrdL_eq hn
 have hw:hasB .i64 (n:Int)=true:=by simp only [hasB,Bool.and_eq_true,decide_eq_true_eq];omega
 refine seg_safe (orc_ok S26ok K0ok) mixed (wrd_entry off n c xs) ⟨hw,rfl,?_,hw,trivial⟩ (wfB_ok (by kernel_rfl)) hb (fun _ h=>by cases h) fun _=>?_
 ·rw [l2];unfold mkC;simp only [decide_eq_true_eq];omega
 ·rw [l1]
  refine nv_safe ?_
  have hlen:(win xs off n).length=n:=by unfold win;rw [List.length_take,List.length_drop];omega
  have hbd:∀ d∈win xs off n,0≤d∧d<256:=win_has hx
  have loop:∀ r i,i+r=n→ASafe Tryz.prog 69 β0 w0 (Outs β0 w0 [] (slA 1 0 ((n+7) / 8) ((n+7) / 8)) (wrdH (wordL (natB (win xs off n)) ((n+7) / 8)))) Tryz.f69.ntmps []
    (wrdS off n c xs ((n+7) / 8) (wordL (natB ((win xs off n).take i)*256^(n-i)) ((n+7) / 8)) (iA i) []):=by
   intro r
   induction r with
   | zero =>
    intro i hi
    obtain rfl:i=n:=by omega
    rw [Nat.sub_self,Nat.pow_zero,Nat.mul_one,List.take_of_length_le (by omega)]
    exact path_safe [false] (out_safe (orc_ok S26ok K0ok) mixed Tryz.func69 (wrd_exit ..) ⟨by simp,trivial⟩ (wfB_ok (by kernel_rfl)) hb (fun _ h=>by cases h))
   | succ r ih =>
    intro i hi
    have ek:octK8 (n:Int) i=((n-1-i:Nat):Int):=wI_k hn (by omega)
    have ej:wrdJ (n:Int) i=(((n-1-i) / 8:Nat):Int):=by unfold wrdJ;rw [ek,tdiv8];exact wI_eq (by omega)
    have em:wI (8*Int.tmod ((n-1-i:Nat):Int) 8)=((8*((n-1-i) % 8):Nat):Int):=by rw [tmod8,wI_eq (by omega)];omega
    have hjL:(n-1-i) / 8<(n+7) / 8:=by omega
    have hlenw:∀ N,(wordL N ((n+7) / 8)).length=(n+7) / 8:=fun N=>by simp [wordL]
    have hwx:xs.getD (off+i) 0=(win xs off n).getD i 0:=(bit_word (by omega)).symm
    have hxb:0≤(win xs off n).getD i 0∧(win xs off n).getD i 0<256:=by
     rw [List.getD_eq_getElem?_getD]
     cases h':(win xs off n)[i]? with
     | none=>simp
     | some d=>exact hbd d (List.mem_of_getElem? h')
    refine path_safe [true] (seg_safe (orc_ok S26ok K0ok) mixed (wrd_step ..) ?_ (wfB_ok (by kernel_rfl)) hb (fun _ h=>by cases h) fun _=>?_)
    ·unfold wrdC
     rw [ej,ek,em,hlenw]
     refine ⟨by simp;omega,by simp;omega,by simp;omega,hw,rfl,by simp only [decide_eq_true_eq];omega,by simp only [decide_eq_true_eq];omega,by simp only [decide_eq_true_eq];omega,by simp only [decide_eq_true_eq];omega,by simp only [decide_eq_true_eq];omega,by simp only [decide_eq_true_eq];omega,trivial⟩
    ·have hset:((wordL (natB ((win xs off n).take i)*256^(n-i)) ((n+7) / 8)).set (0+(wrdJ n i).toNat*1) (wrdV xs off n (wordL (natB ((win xs off n).take i)*256^(n-i)) ((n+7) / 8)) i)) =
       wordL (natB ((win xs off n).take (i+1))*256^(n-(i+1))) ((n+7) / 8):=by
      have ei:0+(((n-1-i) / 8:Nat):Int).toNat*1=(n-1-i) / 8:=by omega
      have eo:off+(i:Int).toNat*1=off+i:=by omega
      unfold wrdV
      rw [ej,ek,em,ei,eo,hwx,wordL_getD hjL]
      obtain ⟨X,hX⟩:=Int.eq_ofNat_of_zero_le hxb.1
      have hX2:X<256:=by omega
      rw [hX,wrapc_eq,IntKind.wrap_u64,IntKind.wrap_u64,Int.toNat_natCast,Nat.min_eq_left (by omega)]
      have en:n-i=(n-1-i)+1:=by omega
      have en':n-(i+1)=n-1-i:=by omega
      have et:natB ((win xs off n).take (i+1))*256^(n-(i+1))=natB ((win xs off n).take i)*256^(n-1-i+1)+X*256^(n-1-i):=by
       rw [natB_take (by omega),hX,Int.toNat_natCast,en',Nat.add_mul,Nat.mul_assoc,← Nat.pow_succ']
      rw [et,en]
      obtain ⟨hh,B,w1,w2,w3,w4,w5⟩:=word_more (M:=natB ((win xs off n).take i)) (k:=n-1-i) hX2
      refine wordL_set ?_ fun j hj=>?_
      ·have hle:8*((n-1-i) % 8)+8≤64:=by omega
       have hB64:X*2^(8*((n-1-i) % 8))<2^64:=by
        rw [w2];exact Nat.lt_of_lt_of_le w3 (Nat.pow_le_pow_right (by decide) hle)
       have ex:((X:Int) % 18446744073709551616*2^(8*((n-1-i) % 8))) % 18446744073709551616=(B:Int):=by
        have a1:((X:Int) % 18446744073709551616)=(X:Int):=by omega
        have a2:((X:Int)*2^(8*((n-1-i) % 8)))=((X*2^(8*((n-1-i) % 8)):Nat):Int):=by rw [Int.natCast_mul,Int.natCast_pow];rfl
        rw [a1,a2,w2]
        rw [w2] at hB64
        have:B<18446744073709551616:=hB64
        omega
       rw [ex]
       have eo:=or_add (h:=hh) (s:=8*((n-1-i) % 8)+8) (B:=B) w4 w3 hle
       unfold wordN
       rw [w5,w1]
       exact eo.symm
      ·unfold wordN
       rw [word_same hX2 hj]
     rw [hset,wI_eq (z:=(i:Int)+1) (by omega)]
     exact ih (i+1) (by omega)
  have:=loop n 0 (by omega)
  rw [List.take_zero,show natB []=0 from rfl,Nat.zero_mul,wordL_zero] at this
  exact asafe_outs this fun e w h=>outs_block1 (seq_words hfin) h
def wrdSpec:ASpec:=fun args H fr path =>
 match args with
 | [.val false [.sl k off n _]]=>match hget H k with
  | some ⟨_,cs,_⟩=>match toSeq .u8 cs with
   | some xs=>some (trR [k] 1 fr 1 [] (slA 1 0 ((n+7) / 8) ((n+7) / 8)) (wrdN (natB (win xs off n)) ((n+7) / 8)) [(Nat.ble (off+n) xs.length,true),(Nat.ble n 35184372088832,true)] path)
   | none=>none
  | _=>none
 | _=>none
theorem u8_bounds {a:Int} (h:has .u8 a):0≤a∧a<256:=by
 have:=(has_iff _ _).1 h
 simp only [hasB,Bool.and_eq_true,decide_eq_true_eq] at this
 omega
theorem good_by {β:Env} {H:Heap} {w:World} {k:Nat} {ty:Nat} {cs:List Ch} {o:Bool} {xs:List Int} (hg:Ex.Good β H w) (hk:hget H k=some ⟨ty,cs,o⟩) (hxs:toSeq .u8 cs=some xs) :
  (∀ d∈xs,0≤d∧d<256)∧Ex.Good (inEnv β [k] 1) (byH xs) w∧(∀ j,j<1→∃ X,β (nth [k] j)=some X):=by
 obtain ⟨l,g1⟩:=hget_rel hg hk
 obtain ⟨_,g2⟩:=toSeq_rel hxs g1
 refine ⟨fun d hd=>u8_bounds (g2 d hd),good1 (c:=[.seq .u8 xs]) hg hk (fun l h=>?_),fun j hj=>?_⟩
 ·obtain ⟨q1,q2⟩:=toSeq_rel hxs h
  exact ⟨_,[],⟨q1,q2⟩,rfl,by simp⟩
 ·match j,hj with
  | 0,_=>exact relB_def (hg.heap _ _ hk)
theorem wrdSpec_ok:SpecOk Tryz.prog 69 wrdSpec:=by
 refine can_spec Tryz.func69 (by kernel_rfl) (by kernel_rfl) fun args H fr path r h=>?_
 unfold wrdSpec at h
 split at h
 case h_2=>cases h
 rename_i k off n c
 split at h
 case h_2=>cases h
 rename_i ty cs o hk
 split at h
 case h_2=>cases h
 rename_i xs hxs
 injection h with h
 refine ⟨[k],[slA 0 off n c],byH xs,1,1,[],_,_,_,path,h.symm,fun β us w ha hg hc=>?_⟩
 obtain ⟨u1,us1,r1,ha,rfl⟩:=ha
 obtain ⟨g1,g2,g3⟩:=good_by hg hk hxs
 exact ⟨wrd_can g1 (Nat.le_of_ble_eq_true hc.1) (Nat.le_of_ble_eq_true hc.2.1),by kernel_rfl,⟨u1,_,r1,ha,rfl⟩,g2,g3⟩
noncomputable def S27:List (FuncId×ASpec):=(69,wrdSpec)::S26
theorem S27ok:SpecsOk Tryz.prog S27:=⟨wrdSpec_ok,S26ok⟩
end Go.Proofs.YtfmajnlfpnjagaaGreat
/- fp.Bytes, fp.FromBytes: the contracts. -/
namespace Go.Proofs.YtfmajnlfpnjagaaGreat
open Ex Num
set_option maxRecDepth 100000
set_option maxHeartbeats 4000000
def bytesA (x:Nat):AV:=.val true [.seq .u8 (octL x 48)]
theorem bytes_run (a:Nat):pureRun Tryz.prog (orc S27 K0) Tryz.f184 [num6 a] [] 300 =
 some (allT 4,bytesA (natL (win (ws6 (a % pN)) 0 6))):=by kernel_rfl
theorem bytes_ok (a:Nat):PureOk Tryz.prog 184 [num6 a] (bytesA (a % pN)):=by
 have h:=pure_ok (orc_ok S27ok K0ok) mixed Tryz.func184 (bytes_run a) ⟨rfl,rfl,rfl,rfl,trivial⟩ rfl
 rw [natL_ws6 (lt_RR_mod a)] at h
 exact h
def fbV (n N:Nat):Nat:=if n=48∧N<pN then N else 0
def fbE (n N:Nat):Int:=if n=48 then (if N<pN then 0 else 41) else 40
def fbA (n N:Nat):AV:=.tup [(true,[.num 6 (fbV n N)]),(false,[.v (.int .i64 (fbE n N))])]
def fb0 (e:Int):AV:=.tup [(true,zero6),(false,[.n .i64 e])]
theorem fb_len (off n m:Nat) (xs:List Int):segOut Tryz.prog (orc S27 K0) Tryz.f144 300 1 [] (entry Tryz.f144 [slA 0 off n m] (byH xs) 1 [true]) =
 some ([(hasB .i64 n,true),(!decide ((n:Int)=48),true)],[],fb0 40,[]):=by kernel_rfl
theorem fb_range (off m:Nat) (xs:List Int):segOut Tryz.prog (orc S27 K0) Tryz.f144 300 1 [] (entry Tryz.f144 [slA 0 off 48 m] (byH xs) 1 [false,true]) =
 some ([(true,true),(false,false),(Nat.ble (off+48) xs.length,true),(true,true),(true,true),(!decide (natB (win xs off 48) % pN=natB (win xs off 48)),true)],[],fb0 41,[]):=by kernel_rfl
theorem fb_num (off m:Nat) (xs:List Int):segOut Tryz.prog (orc S27 K0) Tryz.f144 300 1 [] (entry Tryz.f144 [slA 0 off 48 m] (byH xs) 1 [false,false]) =
 some ([(true,true),(false,false),(Nat.ble (off+48) xs.length,true),(true,true),(true,true),(!decide (natB (win xs off 48) % pN=natB (win xs off 48)),false)],[],.tup [(true,[.num 6 (natB (win xs off 48))]),(false,[.n .i64 0])],[]):=by kernel_rfl
theorem relT2 {β β':Env} {g g':Bool} {a a' b b':List Ch} {u:Value} (h1:∀ v,relG β g a v→relG β' g a' v) (h2:∀ v,relG β g' b v→relG β' g' b' v) (h:relA β (.tup [(g,a),(g',b)]) u):relA β' (.tup [(g,a'),(g',b')]) u:=by
 obtain ⟨us,⟨u1,l1,q1,⟨u2,l2,q2,q3,q4⟩,q5⟩,q6⟩:=h
 exact ⟨us,⟨u1,l1,h1 _ q1,⟨u2,l2,h2 _ q2,q3,q4⟩,q5⟩,q6⟩
theorem zero_num {β:Env} {v:Value} (h:relG β true zero6 v):relG β true [.num 6 0] v:=by
 obtain ⟨l,q,rfl⟩:=h
 exact ⟨l,num_any (k:=6) (x:=0) (by kernel_rfl) q,rfl⟩
theorem gval {β:Env} {k:IntKind} {i j:Int} {v:Value} (e:i=j) (h:relG β false [.n k i] v):relG β false [.v (.int k j)] v:=nval e h
theorem fb_can {off n m:Nat} {xs:List Int} (hl:off+n≤xs.length) (hn:hasB .i64 n=true) :
  CanOk Tryz.prog 144 [slA 0 off n m] (byH xs) 1 [] (fbA n (natB (win xs off n))) []:=by
 have hmod:∀ N:Nat,decide (N % pN=N)=decide (N<pN):=fun N=>by
  by_cases h:N<pN
  ·rw [decide_eq_true h,decide_eq_true (Nat.mod_eq_of_lt h)]
  ·rw [decide_eq_false h,decide_eq_false fun e=>h (by rw [← e];exact modp_lt N)]
 by_cases h:n=48
 ·subst h
  by_cases hN:natB (win xs off 48)<pN
  ·refine can_val (can_entry (path:=[false,false]) Tryz.func144 (by kernel_rfl) (by kernel_rfl) fun β0 w0 hb =>
    out_safe (orc_ok S27ok K0ok) mixed Tryz.func144 (fb_num off m xs) ⟨rfl,rfl,Nat.ble_eq_true_of_le hl,rfl,rfl,by rw [hmod,decide_eq_true hN];rfl,trivial⟩ (wfB_ok (by kernel_rfl)) hb (fun _ h=>by cases h)) fun β u hu=>?_
   unfold fbA fbV fbE
   rw [if_pos ⟨rfl,hN⟩,if_pos rfl,if_pos hN]
   exact relT2 (fun _ q=>q) (fun _ q=>gval rfl q) hu
  ·refine can_val (can_entry (path:=[false,true]) Tryz.func144 (by kernel_rfl) (by kernel_rfl) fun β0 w0 hb =>
    out_safe (orc_ok S27ok K0ok) mixed Tryz.func144 (fb_range off m xs) ⟨rfl,rfl,Nat.ble_eq_true_of_le hl,rfl,rfl,by rw [hmod,decide_eq_false hN];rfl,trivial⟩ (wfB_ok (by kernel_rfl)) hb (fun _ h=>by cases h)) fun β u hu=>?_
   unfold fbA fbV fbE
   rw [if_neg (fun q=>hN q.2),if_pos rfl,if_neg hN]
   exact relT2 (fun _ q=>zero_num q) (fun _ q=>gval rfl q) hu
 ·refine can_val (can_entry (path:=[true]) Tryz.func144 (by kernel_rfl) (by kernel_rfl) fun β0 w0 hb =>
   out_safe (orc_ok S27ok K0ok) mixed Tryz.func144 (fb_len off n m xs) ⟨hn,by simp;omega,trivial⟩ (wfB_ok (by kernel_rfl)) hb (fun _ h=>by cases h)) fun β u hu=>?_
  unfold fbA fbV fbE
  rw [if_neg (fun q=>h q.1),if_neg h]
  exact relT2 (fun _ q=>zero_num q) (fun _ q=>gval rfl q) hu
def bySpec (g:Nat→List Int→AV):ASpec:=fun args H fr path =>
 match args with
 | [.val false [.sl k off n _]]=>match hget H k with
  | some ⟨_,cs,_⟩=>match toSeq .u8 cs with
   | some xs=>some (trR [k] 1 fr 0 [] (g n (win xs off n)) [] [(Nat.ble (off+n) xs.length,true),(hasB .i64 n,true)] path)
   | none=>none
  | _=>none
 | _=>none
theorem bySpec_ok {f:FuncId} {fn:Func} {g:Nat→List Int→AV} (hfn:Tryz.prog.funcs[f]? = some fn) (hb:fn.body.isSome=true) (hname:(fn.name=="runtime.NumGoroutine")=false) (hk:∀ n l,canB 1 0 [] (g n l) []=true)
  (h:∀ (off n m:Nat) (xs:List Int),(∀ d∈xs,0≤d∧d<256)→off+n≤xs.length→hasB .i64 n=true→CanOk Tryz.prog f [slA 0 off n m] (byH xs) 1 [] (g n (win xs off n)) []):SpecOk Tryz.prog f (bySpec g):=by
 refine can_spec hfn hb hname fun args H fr path r hs=>?_
 unfold bySpec at hs
 split at hs
 case h_2=>cases hs
 rename_i k off n c
 split at hs
 case h_2=>cases hs
 rename_i ty cs o hk'
 split at hs
 case h_2=>cases hs
 rename_i xs hxs
 injection hs with hs
 refine ⟨[k],[slA 0 off n c],byH xs,1,0,[],_,_,_,path,hs.symm,fun β us w ha hg hc=>?_⟩
 obtain ⟨u1,us1,r1,ha,rfl⟩:=ha
 obtain ⟨g1,g2,g3⟩:=good_by hg hk' hxs
 exact ⟨h off n c xs g1 (Nat.le_of_ble_eq_true hc.1) hc.2.1,hk _ _,⟨u1,_,r1,ha,rfl⟩,g2,g3⟩
noncomputable def S28:List (FuncId×ASpec):=(184,pureSpec (sp1 fun x=>bytesA (x % pN)))::(144,bySpec fun n l=>fbA n (natB l))::S27
theorem S28ok:SpecsOk Tryz.prog S28:=⟨pureSpec_ok Tryz.func184 (by kernel_rfl) (by kernel_rfl) (sp1_ok fun x _=>bytes_ok x),bySpec_ok Tryz.func144 (by kernel_rfl) (by kernel_rfl) (fun _ _=>rfl) (fun _ _ _ _ _ hl hn=>fb_can hl hn),S27ok⟩
end Go.Proofs.YtfmajnlfpnjagaaGreat
/- sigilref04: P, minus, less: the contracts. -/
namespace Go.Proofs.YtfmajnlfpnjagaaGreat
open Ex Num
set_option maxRecDepth 100000
set_option maxHeartbeats 4000000
theorem sumL_append:∀ (a b:List Int),sumL (a++b)=sumL a+((2^(64*a.length):Nat):Int)*sumL b
 | [],b=>by simp [sumL]
 | d::a,b=>by
  simp only [List.cons_append,sumL,List.length_cons]
  rw [sumL_append a b,show 64*(a.length+1)=64+64*a.length by omega,Nat.pow_add,Int.natCast_mul,Int.mul_add,Int.mul_assoc,← Int.add_assoc]
  rfl
theorem mod_word (x k:Nat):((x % 2^(64*(k+1)):Nat):Int)=((x % 2^(64*k):Nat):Int)+((2^(64*k):Nat):Int)*wordN x k:=by
 rw [show 64*(k+1)=64*k+64 by omega,Nat.pow_add,Nat.mod_mul,Int.natCast_add,Int.natCast_mul];rfl
theorem pow_word (k:Nat):((2^(64*(k+1)):Nat):Int)=((2^(64*k):Nat):Int)*18446744073709551616:=by
 rw [show 64*(k+1)=64*k+64 by omega,Nat.pow_add,Int.natCast_mul];rfl
theorem dif_chain (x y:Nat):∀ k,sumL ((List.range k).map (difD x y))=((x % 2^(64*k):Nat):Int)-((y % 2^(64*k):Nat):Int)+((2^(64*k):Nat):Int)*bch x y k
 | 0=>by simp [sumL,bch,Nat.mod_one]
 | k+1=>by
  rw [List.range_succ,List.map_append,sumL_append,dif_chain x y k,mod_word,mod_word,pow_word]
  simp only [List.map_cons,List.map_nil,sumL,List.length_map,List.length_range,Int.mul_zero,Int.add_zero]
  rw [difD_eq x y k]
  generalize ((2^(64*k):Nat):Int)=Q
  simp only [Int.mul_add,Int.mul_sub,Int.mul_assoc]
  omega
theorem dif_num {x y k:Nat} (hx:x<2^(64*k)) (hy:y<2^(64*k)):(((x+(2^(64*k)-y)) % 2^(64*k):Nat):Int)=sumL ((List.range k).map (difD x y)):=by
 have h:=dif_chain x y k
 rw [Nat.mod_eq_of_lt hx,Nat.mod_eq_of_lt hy] at h
 have hb:=bch_bd x y k
 have hs:∀ (ds:List Int),(∀ d∈ds,0≤d∧d<18446744073709551616)→0≤sumL ds∧sumL ds<((2^(64*ds.length):Nat):Int):=by
  intro ds
  induction ds with
  | nil=>intro _;simp [sumL]
  | cons d r ih =>
   intro hd
   have h1:=hd d (by simp)
   have h2:=ih fun d h=>hd d (by simp [h])
   rw [List.length_cons,pow_word]
   simp only [sumL]
   omega
 have hr:=hs ((List.range k).map (difD x y)) (by intro d hd;obtain ⟨i,_,rfl⟩:=List.mem_map.1 hd;exact difD_bd x y i)
 rw [List.length_map,List.length_range,h] at hr
 rw [h]
 generalize 2^(64*k)=Q at *
 have h01:bch x y k=0∨bch x y k=1:=by omega
 rcases h01 with e | e
 ·rw [e,Int.mul_zero,Int.add_zero] at hr ⊢
  have e1:x+(Q-y)=(x-y)+Q:=by omega
  rw [e1,Nat.add_mod_right,Nat.mod_eq_of_lt (by omega)];omega
 ·rw [e,Int.mul_one] at hr ⊢
  rw [Nat.mod_eq_of_lt (by omega)];omega
theorem dif_numR {x y k R:Nat} (hR:R=2^(64*k)) (hx:x<R) (hy:y<R):(((x+(R-y)) % R:Nat):Int)=sumL ((List.range k).map (difD x y)):=by subst hR;exact dif_num hx hy
theorem num_ok {f:FuncId} {args:List AV} {ds:List Int} {y:Nat} (h:PureOk Tryz.prog f args (.val true (wsCh ds))) (e:(y:Int)=sumL ds):PureOk Tryz.prog f args (.val true [.num ds.length y]):=by
 refine pure_val h fun u hu=>?_
 obtain ⟨l,q,rfl⟩:=hu
 exact ⟨l,num_of_ws e q,rfl⟩
theorem rP_run:pureRun Tryz.prog (orc S0 K0) Tryz.f203 [] [] 100=some ([],.val true Pw):=by kernel_rfl
theorem rP_ok:PureOk Tryz.prog 203 [] (.val true Pw):=pure_ok (orc_ok S0ok K0ok) mixed Tryz.func203 rP_run trivial rfl
def bcC (x y:Nat):Nat→List (Bool×Bool)
 | 0=>[]
 | k+1=>bcC x y k++[(is01 (bch x y k),true)]
theorem bcC_ok (x y:Nat):∀ k,okConds (bcC x y k)
 | 0=>trivial
 | k+1=>by
  have app:∀ (a b:List (Bool×Bool)),okConds a→okConds b→okConds (a++b):=by
   intro a
   induction a with
   | nil=>intro b _ h;exact h
   | cons c a ih=>intro b h1 h2;exact ⟨h1.1,ih b h1.2 h2⟩
  exact app _ _ (bcC_ok x y k) ⟨is01_of (bch_bd _ _ _),trivial⟩
theorem rminus_run (x y:Nat):pureRun Tryz.prog (orc S1 K0) Tryz.f244 [num6 x,num6 y] [] 300=some (bcC x y 6,.val true (wsCh ((List.range 6).map (difD x y)))):=by kernel_rfl
theorem rminus_ok {x y:Nat} (hx:x<RR) (hy:y<RR):PureOk Tryz.prog 244 [num6 x,num6 y] (num6 ((x+(RR-y)) % RR)):=by
 have h:=pure_ok (orc_ok S1ok K0ok) mixed Tryz.func244 (rminus_run x y) (bcC_ok x y 6) rfl
 exact num_ok h (dif_numR (k:=6) RR_eq hx hy)
def pW (i:Nat):Int:=PL.getD i 0
def lsC (q:Int):Nat→Int
 | 0=>0
 | i+1=>mW (mulHi (pW i) q+carW (mulLo (pW i) q) (lsC q i) 0)
def lsS (q:Int) (i:Nat):Int:=match Nat.blt i 6 with | true=>sumW (mulLo (pW i) q) (lsC q i) 0 | false=>sumW 0 (lsC q 6) 0
def lsB (t:Nat) (q:Int):Nat→Int
 | 0=>0
 | i+1=>borW (wordN t i) (lsS q i) (lsB t q i)
def lsD (t:Nat) (q:Int) (i:Nat):Int:=difW (wordN t i) (lsS q i) (lsB t q i)
def lsK (t:Nat) (q:Int):Nat→List (Bool×Bool)
 | 0=>[]
 | k+1=>lsK t q k++[(true,true),(is01 (lsB t q k),true)]
noncomputable def SP:List (FuncId×ASpec):=(203,pureSpec P_sp)::S28
theorem SPok:SpecsOk Tryz.prog SP:=⟨pureSpec_ok Tryz.func203 (by kernel_rfl) (by kernel_rfl) (fun args v h=>by
 unfold P_sp at h
 split at h
 ·injection h with h;subst h;exact rP_ok
 ·cases h),S28ok⟩
theorem rless_run (t:Nat) (q:Int):pureRun Tryz.prog (orc SP K0) Tryz.f255 [.val true [.num 7 t],.val false [.v (.int .u64 q)]] [] 600=some (lsK t q 7,.val true (wsCh ((List.range 7).map (lsD t q)))):=by kernel_rfl
theorem ls_word {a q c:Int} (ha:0≤a∧a<18446744073709551616) (hq:0≤q∧q<18446744073709551616) (hc:0≤c∧c<18446744073709551616) :
  a*q+c=sumW (mulLo a q) c 0+18446744073709551616*mW (mulHi a q+carW (mulLo a q) c 0)∧(0≤sumW (mulLo a q) c 0∧sumW (mulLo a q) c 0<18446744073709551616)∧(0≤mW (mulHi a q+carW (mulLo a q) c 0)∧mW (mulHi a q+carW (mulLo a q) c 0)<18446744073709551616):=by
 have h:=mul_bd ha hq
 simp only [mW_eq]
 unfold sumW carW mulLo mulHi
 generalize a*q=z at *
 omega
theorem pW_bd (i:Nat):0≤pW i∧pW i<18446744073709551616:=getD_bd (ws:=PL) (by decide) i
theorem lsC_bd {q:Int} (hq:0≤q∧q<18446744073709551616):∀ i,0≤lsC q i∧lsC q i<18446744073709551616
 | 0=>by simp [lsC]
 | i+1=>(ls_word (pW_bd i) hq (lsC_bd hq i)).2.2
theorem ls_num {q:Nat} (hq:q<18446744073709551616):((pN*q:Nat):Int)=sumL ((List.range 7).map (lsS q))∧∀ i,i<7→lsS (q:Int) i=wordN (pN*q) i:=by
 have hq':0≤(q:Int)∧(q:Int)<18446744073709551616:=by omega
 have key:((pN*q:Nat):Int)=sumL ((List.range 7).map (lsS q)):=by
  have e0:pW 0*q+lsC q 0=lsS q 0+18446744073709551616*lsC q 1:=(ls_word (pW_bd 0) hq' (lsC_bd hq' 0)).1
  have e1:pW 1*q+lsC q 1=lsS q 1+18446744073709551616*lsC q 2:=(ls_word (pW_bd 1) hq' (lsC_bd hq' 1)).1
  have e2:pW 2*q+lsC q 2=lsS q 2+18446744073709551616*lsC q 3:=(ls_word (pW_bd 2) hq' (lsC_bd hq' 2)).1
  have e3:pW 3*q+lsC q 3=lsS q 3+18446744073709551616*lsC q 4:=(ls_word (pW_bd 3) hq' (lsC_bd hq' 3)).1
  have e4:pW 4*q+lsC q 4=lsS q 4+18446744073709551616*lsC q 5:=(ls_word (pW_bd 4) hq' (lsC_bd hq' 4)).1
  have e5:pW 5*q+lsC q 5=lsS q 5+18446744073709551616*lsC q 6:=(ls_word (pW_bd 5) hq' (lsC_bd hq' 5)).1
  have z:lsC q 0=0:=rfl
  have c6:=lsC_bd hq' 6
  have e6:lsS q 6=lsC q 6:=by show sumW 0 (lsC q 6) 0=_;unfold sumW;omega
  have w0:pW 0=0xb9feffffffffaaab:=rfl
  have w1:pW 1=0x1eabfffeb153ffff:=rfl
  have w2:pW 2=0x6730d2a0f6b0f624:=rfl
  have w3:pW 3=0x64774b84f38512bf:=rfl
  have w4:pW 4=0x4b1ba7b6434bacd7:=rfl
  have w5:pW 5=0x1a0111ea397fe69a:=rfl
  rw [w0] at e0
  rw [w1] at e1
  rw [w2] at e2
  rw [w3] at e3
  rw [w4] at e4
  rw [w5] at e5
  show _=lsS q 0+18446744073709551616*(lsS q 1+18446744073709551616*(lsS q 2+18446744073709551616*(lsS q 3+18446744073709551616*(lsS q 4+18446744073709551616*(lsS q 5+18446744073709551616*(lsS q 6+18446744073709551616*0))))))
  rw [Int.natCast_mul]
  unfold pN
  omega
 refine ⟨key,fun i hi=>?_⟩
 have hb:∀ d∈(List.range 7).map (lsS (q:Int)),0≤d∧d<18446744073709551616:=by
  intro d hd
  obtain ⟨j,_,rfl⟩:=List.mem_map.1 hd
  unfold lsS
  split
  ·exact (ls_word (pW_bd j) hq' (lsC_bd hq' j)).2.1
  ·unfold sumW;omega
 obtain ⟨h1,_⟩:=sumL_of _ _ hb key
 have h2:=congrArg (fun l=>l.getD i 0) h1
 simp only [List.length_map,List.length_range] at h2
 simpa [List.getD_eq_getElem?_getD,hi] using h2
theorem lsB_eq {t q:Nat} (hq:q<18446744073709551616):∀ i,i≤7→lsB t q i=bch t (pN*q) i
 | 0,_=>rfl
 | i+1,h=>by simp only [lsB,bch];rw [lsB_eq hq i (by omega),(ls_num hq).2 i (by omega)]
theorem rless_gen {t q R:Nat} (hR:R=2^(64*7)) (hp:pN*18446744073709551616<R) (ht:t<R) (hq:q<18446744073709551616):PureOk Tryz.prog 255 [.val true [.num 7 t],.val false [.v (.int .u64 q)]] (.val true [.num 7 ((t+(R-pN*q)) % R)]):=by
 have hc:∀ k,k≤7→okConds (lsK t q k):=by
  intro k
  induction k with
  | zero=>intro _;trivial
  | succ k ih =>
   intro hk
   have app:∀ (a b:List (Bool×Bool)),okConds a→okConds b→okConds (a++b):=by
    intro a
    induction a with
    | nil=>intro b _ h;exact h
    | cons c a ih=>intro b h1 h2;exact ⟨h1.1,ih b h1.2 h2⟩
   exact app _ _ (ih (by omega)) ⟨rfl,by rw [lsB_eq hq k (by omega)];exact is01_of (bch_bd _ _ _),trivial⟩
 have h:=pure_ok (orc_ok SPok K0ok) mixed Tryz.func255 (rless_run t q) (hc 7 (Nat.le_refl _)) rfl
 have e:(List.range 7).map (lsD t q)=(List.range 7).map (difD t (pN*q)):=by
  refine List.map_congr_left fun i hi=>?_
  have hi':i<7:=List.mem_range.1 hi
  unfold lsD difD
  rw [lsB_eq hq i (by omega),(ls_num hq).2 i hi']
 rw [e] at h
 have hpq:pN*q<R:=Nat.lt_of_le_of_lt (Nat.mul_le_mul_left _ (by omega)) hp
 exact num_ok h (dif_numR (k:=7) hR ht hpq)
def R7:Nat:=726838724295606890549323807888004534353641360687318060281490199180639288113397923326191050713763565560762521606266177933534601628614656
theorem R7_eq:R7=2^(64*7):=by kernel_rfl
theorem lt7:Nat.blt (pN*18446744073709551616) R7=true:=by kernel_rfl
theorem rless_ok {t q:Nat} (ht:t<R7) (hq:q<18446744073709551616):PureOk Tryz.prog 255 [.val true [.num 7 t],.val false [.v (.int .u64 q)]] (.val true [.num 7 ((t+(R7-pN*q)) % R7)]) :=
 rless_gen R7_eq (nblt.1 lt7) ht hq
end Go.Proofs.YtfmajnlfpnjagaaGreat
/- sigilref04: Below, Reduce: the contracts. -/
namespace Go.Proofs.YtfmajnlfpnjagaaGreat
open Ex Num
set_option maxRecDepth 100000
set_option maxHeartbeats 4000000
def blC (x:Nat):Nat→List (Bool×Bool)
 | 0=>[]
 | k+1=>blC x k++[(!decide (wordN x (5-k)=pW (5-k)),false)]
def fls:Nat→List Bool
 | 0=>[]
 | k+1=>false::fls k
theorem below_run (x k:Nat) (h:k<6):pureRun Tryz.prog (orc SP K0) Tryz.f253 [num6 x] (fls k++[true]) 300 =
  some (blC x k++[(!decide (wordN x (5-k)=pW (5-k)),true)],boolA (decide (wordN x (5-k)<pW (5-k)))):=by
 obtain rfl | rfl | rfl | rfl | rfl | rfl:k=0∨k=1∨k=2∨k=3∨k=4∨k=5:=by omega
 all_goals kernel_rfl
theorem below_eq (x:Nat):pureRun Tryz.prog (orc SP K0) Tryz.f253 [num6 x] (fls 6) 300=some (blC x 6,.val false [.b false]):=by kernel_rfl
theorem ok_app {a b:List (Bool×Bool)} (h1:okConds a) (h2:okConds b):okConds (a++b):=by
 induction a with
 | nil=>exact h2
 | cons c a ih=>exact ⟨h1.1,ih h1.2⟩
theorem blC_ok {x k:Nat} (h:∀ j,j<k→wordN x (5-j)=pW (5-j)):okConds (blC x k):=by
 induction k with
 | zero=>trivial
 | succ k ih=>exact ok_app (ih fun j hj=>h j (by omega)) ⟨by simp [h k (by omega)],trivial⟩
theorem pW_word (i:Nat) (h:i<6):pW i=wordN pN i:=by
 obtain rfl | rfl | rfl | rfl | rfl | rfl:i=0∨i=1∨i=2∨i=3∨i=4∨i=5:=by omega
 all_goals kernel_rfl
theorem top_words {x y:Nat} (hx:x<RR) (hy:y<RR):∀ k,k≤6→(∀ j,j<k→wordN x (5-j)=wordN y (5-j))→x / 2^(64*(6-k))=y / 2^(64*(6-k))
 | 0,_,_=>by
  rw [RR_eq] at hx hy
  have gen:∀ K z:Nat,z<2^(64*K)→z / 2^(64*(K-0))=0:=fun K z hz=>by rw [Nat.sub_zero];exact Nat.div_eq_of_lt hz
  exact (gen 6 x hx).trans (gen 6 y hy).symm
 | k+1,hk,h=>by
  have ih:=top_words hx hy k (by omega) fun j hj=>h j (by omega)
  have hw:=h k (by omega)
  have e:∀ z:Nat,z / 2^(64*(6-(k+1)))=z / 2^(64*(6-k))*2^64+z / 2^(64*(5-k)) % 2^64:=by
   intro z
   rw [show 64*(6-k)=64*(5-k)+64 by omega,Nat.pow_add,← Nat.div_div_eq_div_mul,show 6-(k+1)=5-k by omega]
   have:=Nat.div_add_mod (z / 2^(64*(5-k))) (2^64)
   rw [Nat.mul_comm] at this
   exact this.symm
  unfold wordN at hw
  rw [e x,e y,ih]
  omega
theorem words_lt {x y k:Nat} (hx:x<RR) (hy:y<RR) (hk:k<6) (h:∀ j,j<k→wordN x (5-j)=wordN y (5-j)) (hne:wordN x (5-k)≠wordN y (5-k)):decide (wordN x (5-k)<wordN y (5-k))=decide (x<y):=by
 have ht:=top_words hx hy k (by omega) h
 have es:∀ z:Nat,z / 2^(64*(5-k))=z / 2^(64*(6-k))*2^64+z / 2^(64*(5-k)) % 2^64:=by
  intro z
  rw [show 64*(6-k)=64*(5-k)+64 by omega,Nat.pow_add,← Nat.div_div_eq_div_mul]
  have:=Nat.div_add_mod (z / 2^(64*(5-k))) (2^64)
  rw [Nat.mul_comm] at this
  exact this.symm
 have e1:=es x
 have e2:=es y
 rw [ht] at e1
 unfold wordN at hne ⊢
 by_cases hl:((x / 2^(64*(5-k)) % 2^64:Nat):Int)<((y / 2^(64*(5-k)) % 2^64:Nat):Int)
 ·rw [decide_eq_true hl,decide_eq_true (ltdiv (Q:=2^(64*(5-k))) (by omega))]
 ·have:y<x:=ltdiv (Q:=2^(64*(5-k))) (by omega)
  rw [decide_eq_false hl,decide_eq_false (by omega)]
theorem words_eq {x y:Nat} (hx:x<RR) (hy:y<RR) (h:∀ j,j<6→wordN x (5-j)=wordN y (5-j)):x=y:=by
 have ht:=top_words hx hy 6 (Nat.le_refl _) h
 rwa [Nat.sub_self,Nat.mul_zero,Nat.pow_zero,Nat.div_one,Nat.div_one] at ht
theorem pN_lt_RR:pN<RR:=by decide
theorem bool_val {P:Program} {f:FuncId} {args:List AV} {a b:Bool} (h:PureOk P f args (boolA a)) (e:a=b):PureOk P f args (boolA b):=by rw [← e];exact h
theorem below_at {x k:Nat} (hx:x<RR) (hk:k<6) (h:∀ j,j<k→wordN x (5-j)=pW (5-j)) (hne:wordN x (5-k)≠pW (5-k)):PureOk Tryz.prog 253 [num6 x] (boolA (decide (x<pN))):=by
 have hrun:=pure_ok (orc_ok SPok K0ok) mixed Tryz.func253 (below_run x k hk) (ok_app (blC_ok h) ⟨by rw [decide_eq_false hne];rfl,trivial⟩) rfl
 refine bool_val hrun ?_
 have e:∀ j,j<6→pW (5-j)=wordN pN (5-j):=fun j _=>pW_word _ (by omega)
 rw [e k hk] at hne ⊢
 exact words_lt hx pN_lt_RR hk (fun j hj=>(h j hj).trans (e j (by omega))) hne
theorem below_end {x:Nat} (hx:x<RR) (h:∀ j,j<6→wordN x (5-j)=pW (5-j)):PureOk Tryz.prog 253 [num6 x] (boolA (decide (x<pN))):=by
 have e:∀ j,j<6→pW (5-j)=wordN pN (5-j):=fun j _=>pW_word _ (by omega)
 have hq:decide (x<pN)=false:=by
  have:=words_eq hx pN_lt_RR fun j hj=>(h j hj).trans (e j hj)
  exact decide_eq_false (by rw [this];exact Nat.lt_irrefl _)
 rw [hq]
 refine pure_val (pure_ok (orc_ok SPok K0ok) mixed Tryz.func253 (below_eq x) (blC_ok h) rfl) fun u hu=>?_
 obtain ⟨l1,l2,h1,h3,h4⟩:=hu
 exact ⟨l1,l2,⟨h1,rfl,trivial⟩,h3,h4⟩
theorem below_ok {x:Nat} (hx:x<RR):PureOk Tryz.prog 253 [num6 x] (boolA (decide (x<pN))):=by
 have key:∀ r k,k+r=6→(∀ j,j<k→wordN x (5-j)=pW (5-j))→PureOk Tryz.prog 253 [num6 x] (boolA (decide (x<pN))):=by
  intro r
  induction r with
  | zero =>
   intro k hk h
   exact below_end hx fun j hj=>h j (by omega)
  | succ r ih =>
   intro k hk h
   by_cases hw:wordN x (5-k)=pW (5-k)
   ·exact ih (k+1) (by omega) fun j hj=>by
     rcases Nat.lt_or_ge j k with h1 | h1
     ·exact h j h1
     ·rw [show j=k by omega];exact hw
   ·exact below_at hx (by omega) h hw
 exact key 6 0 (by omega) fun j hj=>by omega
noncomputable def SQ:List (FuncId×ASpec):=(244,pureSpec (sp2 fun x y=>num6 ((x+(RR-y)) % RR)))::(253,pureSpec (sp1 fun x=>boolA (decide (x<pN))))::SP
theorem SQok:SpecsOk Tryz.prog SQ:=⟨pureSpec_ok Tryz.func244 (by kernel_rfl) (by kernel_rfl) (sp2_ok fun _ _ hx hy=>rminus_ok hx hy),pureSpec_ok Tryz.func253 (by kernel_rfl) (by kernel_rfl) (sp1_ok fun _ hx=>below_ok hx),SPok⟩
noncomputable def rrTodo:List Item:=todoOf (aSeg Tryz.prog (orc SQ K0) (some 0) 100 0 none (entry Tryz.f202 [num6 0] [] 0 []))
noncomputable def rrS (x:Nat) (p:List Bool):ASt:=⟨rrTodo,⟨mkT Tryz.f202.ntmps [(1,.val false [.p 0 0]),(2,.val false [.p 1 0])],[(0,some ⟨40,[.num 6 x],false⟩),(1,some ⟨40,zero6,false⟩)],2,p⟩⟩
abbrev rrK:Option (List Nat×List Nat×Nat):=some ([1,2],[0,1],2)
theorem rr_entry (x:Nat):aSeg Tryz.prog (orc SQ K0) (some 0) 100 0 rrK (entry Tryz.f202 [num6 x] [] 0 [])=some ([],[],rrS x []):=by kernel_rfl
theorem rr_step (x:Nat):aSeg Tryz.prog (orc SQ K0) (some 0) 100 0 rrK (rrS x [true])=some ([(!decide (x<pN),true)],[],rrS ((x+(RR-pN)) % RR) []):=by kernel_rfl
theorem rr_exit (x:Nat):segRet Tryz.prog (orc SQ K0) Tryz.f202 100 0 (rrS x [false])=some ([(!decide (x<pN),false)],[],num6 x):=by kernel_rfl
theorem rr_safe (w0:World) (v:Nat):∀ (x:Nat),x<RR→x % pN=v→ASafe Tryz.prog 202 noEnv w0 (PureOut w0 (num6 v)) Tryz.f202.ntmps [] (rrS x []):=by
 intro x
 induction x using Nat.strongRecOn with
 | _ x ih =>
  intro hx hv
  rcases Nat.lt_or_ge x pN with hlt | hge
  ·rw [Nat.mod_eq_of_lt hlt] at hv
   subst hv
   exact path_safe [false] (ret_safe (orc_ok SQok K0ok) mixed Tryz.func202 (rr_exit x) ⟨by simp [hlt],trivial⟩ (wfB_ok (by kernel_rfl)) (fun _ _=>rfl) rfl)
  ·have hp:=pN_pos
   have hpR:pN≤RR:=by decide
   refine path_safe [true] (seg_safe (orc_ok SQok K0ok) mixed (rr_step x) ⟨by simp;omega,trivial⟩ (wfB_ok (by kernel_rfl)) (fun _ _=>rfl) (fun _ h=>by cases h) fun _=>?_)
   have e:(x+(RR-pN)) % RR=x-pN:=by rw [show x+(RR-pN)=(x-pN)+RR by omega,Nat.add_mod_right,Nat.mod_eq_of_lt (by omega)]
   rw [e]
   exact ih (x-pN) (by omega) (by omega) (by rw [← hv,← Nat.mod_eq_sub_mod hge])
theorem rr_ok {x:Nat} (hx:x<RR):PureOk Tryz.prog 202 [num6 x] (num6 (x % pN)) :=
 pure_entry (path:=[]) Tryz.func202 (by kernel_rfl) (by kernel_rfl) fun w0=>seg_safe (orc_ok SQok K0ok) mixed (rr_entry x) trivial (wfB_ok (by kernel_rfl)) (fun _ _=>rfl) (fun _ h=>by cases h) fun _=>rr_safe w0 _ x hx rfl
def lessRs (t q:Nat):Nat:=(t+(R7-pN*q)) % R7
def lessRsp:List AV→Option AV
 | [.val true a,B]=>match asNum 7 a,asI (some B) with
  | some x,some (_,.u64,h)=>some (.val true [.num 7 (lessRs x h.toNat)])
  | _,_=>none
 | _=>none
theorem lessRsp_ok:∀ args v,lessRsp args=some v→PureOk Tryz.prog 255 args v:=by
 intro args v h us w ha
 unfold lessRsp at h
 split at h
 case h_2=>cases h
 rename_i a B
 split at h
 case h_2=>cases h
 rename_i x c h0 hx hy
 injection h with h;subst h
 obtain ⟨u1,us1,r1,⟨u2,us2,r2,ha,rfl⟩,rfl⟩:=ha
 obtain ⟨q0,q1,hlt⟩:=normN hx r1
 obtain ⟨q2,h2⟩:=normI hy r2
 have bh:=u64_bounds h2
 obtain ⟨q,rfl⟩:=Int.eq_ofNat_of_zero_le bh.1
 have hq:q<18446744073709551616:=by
  clear hlt
  omega
 exact rless_ok (R7_eq▸hlt) hq _ w ⟨u1,_,q0,⟨u2,_,q2,ha,rfl⟩,rfl⟩
noncomputable def SR:List (FuncId×ASpec):=(202,pureSpec (sp1 fun x=>num6 (x % pN)))::(255,pureSpec lessRsp)::SQ
theorem SRok:SpecsOk Tryz.prog SR:=⟨pureSpec_ok Tryz.func202 (by kernel_rfl) (by kernel_rfl) (sp1_ok fun _ hx=>rr_ok hx),pureSpec_ok Tryz.func255 (by kernel_rfl) (by kernel_rfl) lessRsp_ok,SQok⟩
end Go.Proofs.YtfmajnlfpnjagaaGreat
/- sigilref04.next: the contract. -/
namespace Go.Proofs.YtfmajnlfpnjagaaGreat
open Ex Num
set_option maxRecDepth 100000
set_option maxHeartbeats 4000000
abbrev nxK:Option (List Nat×List Nat×Nat):=some ([4,6],[1,3],4)
noncomputable def nxTodo:List Item:=todoOf (aSeg Tryz.prog (orc SR K0) (some 0) 100 0 none (entry Tryz.f206 [num6 0,uV 0] [] 0 []))
noncomputable def nxS (T:Nat) (p:List Bool):ASt:=⟨nxTodo,⟨mkT Tryz.f206.ntmps [(4,.val false [.p 1 0]),(6,.val false [.p 3 0])],[(1,some ⟨40,zero6,false⟩),(3,some ⟨210,[.num 7 T],false⟩)],4,p⟩⟩
def nxQ (a4 a5:Int):Nat:=Int.toNat (((a5.toNat*W64+a4.toNat) / Int.toNat (mW (1873798617647539866+1)):Nat):Int)
theorem nxQ_eq (a4 a5:Int):nxQ a4 a5=(a5.toNat*W64+a4.toNat) / 1873798617647539867:=by
 unfold nxQ
 rw [Int.toNat_natCast]
 rfl
theorem nx_entry (a0 a1 a2 a3 a4 a5 w:Int):aSeg Tryz.prog (orc SR K0) (some 0) 100 0 nxK (entry Tryz.f206 [.val true (w6 a0 a1 a2 a3 a4 a5),uV w] [] 0 []) =
 some ([(decide (a5<1873798617647539867),true)],[],nxS (lessRs (natL [w,a0,a1,a2,a3,a4,a5]) (nxQ a4 a5)) []):=by kernel_rfl
theorem nx_step (T:Nat):aSeg Tryz.prog (orc SR K0) (some 0) 100 0 nxK (nxS T [true])=some ([(decide (0<wordN T 6),true)],[],nxS (lessRs T 1) []):=by kernel_rfl
theorem nx_exit (T:Nat):segRet Tryz.prog (orc SR K0) Tryz.f206 100 0 (nxS T [false])=some ([(decide (0<wordN T 6),false)],[],num6 (natL ((List.range 6).map (wordN T)) % pN)):=by kernel_rfl
theorem lessRs_eq {T q:Nat} (hT:T<R7) (h:pN*q≤T):lessRs T q=T-pN*q:=by
 unfold lessRs
 generalize R7=Q at *
 rw [show T+(Q-pN*q)=(T-pN*q)+Q by omega,Nat.add_mod_right,Nat.mod_eq_of_lt (by omega)]
theorem natL_words {x k:Nat} (h:x<2^(64*k)):natL ((List.range k).map (wordN x))=x:=wordL_natL h
theorem p7:R7=RR*18446744073709551616:=by kernel_rfl
theorem p5:2^(64*5)*18446744073709551616=RR:=by kernel_rfl
theorem p5':RR=2^(64*5)*2^64:=by kernel_rfl
theorem nx_safe (w0:World) (v:Nat):∀ (T:Nat),T<R7→T % pN=v→ASafe Tryz.prog 206 noEnv w0 (PureOut w0 (num6 v)) Tryz.f206.ntmps [] (nxS T []):=by
 intro T
 induction T using Nat.strongRecOn with
 | _ T ih =>
  intro hT hv
  have hw:wordN T 6=((T / RR:Nat):Int):=by
   unfold wordN
   rw [← RR_eq,Nat.mod_eq_of_lt]
   refine Nat.div_lt_of_lt_mul ?_
   rw [p7] at hT;exact hT
  by_cases h:0<T / RR
  ·have hp:=pN_pos
   have hpR:=pN_lt_RR
   have hR:0<RR:=by decide
   have hge:RR≤T:=by
    rcases Nat.lt_or_ge T RR with h1 | h1
    ·rw [Nat.div_eq_of_lt h1] at h;omega
    ·exact h1
   refine path_safe [true] (seg_safe (orc_ok SRok K0ok) mixed (nx_step T) ⟨by rw [hw];simp only [decide_eq_true_eq];omega,trivial⟩ (wfB_ok (by kernel_rfl)) (fun _ _=>rfl) (fun _ h=>by cases h) fun _=>?_)
   rw [lessRs_eq hT (by omega),Nat.mul_one]
   exact ih (T-pN) (by omega) (by omega) (by rw [← hv,← Nat.mod_eq_sub_mod (by omega)])
  ·have hlt:T<RR:=by
    rcases Nat.lt_or_ge T RR with h1 | h1
    ·exact h1
    ·exact absurd (Nat.div_pos h1 (by decide)) h
   have:=ret_safe (w0:=w0) (β0:=noEnv) (n:=Tryz.f206.ntmps) (orc_ok SRok K0ok) mixed Tryz.func206 (nx_exit T) ⟨by rw [hw];simp only [decide_eq_false_iff_not];omega,trivial⟩ (wfB_ok (by kernel_rfl)) (fun _ _=>rfl) rfl
   rw [natL_words (by rw [← RR_eq];exact hlt),hv] at this
   exact path_safe [false] this
theorem p_top:Nat.blt pN (2^(64*5)*1873798617647539867)=true:=by kernel_rfl
theorem pow_step (k j:Nat) (h:j=k+1):2^(64*j)=2^(64*k)*18446744073709551616:=by
 subst h
 rw [show 64*(k+1)=64*k+64 by omega,Nat.pow_add]
theorem join_words (x k j:Nat) (h:j=k+1):x / 2^(64*j)*W64+(wordN x k).toNat=x / 2^(64*k):=by
 rw [pow_step k j h,← Nat.div_div_eq_div_mul]
 have:=Nat.div_add_mod (x / 2^(64*k)) 18446744073709551616
 unfold wordN W64
 rw [Int.toNat_natCast]
 omega
theorem p_le (P:Nat) (h:Nat.blt pN (P*1873798617647539867)=true):pN≤1873798617647539867*P:=by rw [Nat.mul_comm];exact Nat.le_of_lt (nblt.1 h)
theorem nq_le {p q A P Q x w:Nat} (hp:p≤1873798617647539867*P) (h1:q*1873798617647539867≤A) (h2:A*Q≤x) (e:P=Q*18446744073709551616):p*q≤w+18446744073709551616*x:=by
 calc p*q≤(1873798617647539867*P)*q:=Nat.mul_le_mul_right _ hp
  _=(q*1873798617647539867)*P:=by rw [Nat.mul_comm,Nat.mul_assoc]
  _≤A*P:=Nat.mul_le_mul_right _ h1
  _=(A*Q)*18446744073709551616:=by rw [e,Nat.mul_assoc]
  _≤x*18446744073709551616:=Nat.mul_le_mul_right _ h2
  _≤w+18446744073709551616*x:=by rw [Nat.mul_comm];exact Nat.le_add_left _ _
theorem next_ok {x w:Nat} (hx:x<pN) (hw:w<18446744073709551616):PureOk Tryz.prog 206 [num6 x,uV w] (num6 ((w+18446744073709551616*x) % pN)):=by
 have hpR:=pN_lt_RR
 have h5:wordN x 5=((x / 2^(64*5):Nat):Int):=by
  unfold wordN
  rw [Nat.mod_eq_of_lt]
  have h:x<2^(64*5)*2^64:=by rw [← p5'];exact Nat.lt_trans hx pN_lt_RR
  exact Nat.div_lt_of_lt_mul h
 have hlt5:x / 2^(64*5)<1873798617647539867:=by
  refine Nat.div_lt_of_lt_mul (Nat.lt_trans hx ?_)
  exact nblt.1 p_top
 have h4:(wordN x 5).toNat*W64+(wordN x 4).toNat=x / 2^(64*4):=by
  rw [h5,Int.toNat_natCast]
  exact join_words x 4 5 rfl
 have hT:natL [(w:Int),wordN x 0,wordN x 1,wordN x 2,wordN x 3,wordN x 4,wordN x 5]=w+18446744073709551616*x:=by
  have:=natL_words (x:=x) (k:=6) (by rw [← RR_eq];omega)
  show (w:Int).toNat+18446744073709551616*natL [wordN x 0,wordN x 1,wordN x 2,wordN x 3,wordN x 4,wordN x 5]=_
  rw [Int.toNat_natCast]
  exact congrArg (fun z=>w+18446744073709551616*z) this
 have hT7:w+18446744073709551616*x<R7:=by rw [p7];omega
 have hq:pN*nxQ (wordN x 4) (wordN x 5)≤w+18446744073709551616*x:=by
  refine nq_le (p_le (2^(64*5)) p_top) ?_ (Nat.div_mul_le_self x (2^(64*4))) (pow_step 4 5 rfl)
  rw [nxQ_eq,h4];exact Nat.div_mul_le_self _ _
 intro us w1 ⟨u1,us1,r1,r2,r3⟩
 refine pure_entry (args:=[.val true (w6 (wordN x 0) (wordN x 1) (wordN x 2) (wordN x 3) (wordN x 4) (wordN x 5)),uV w]) (path:=[]) Tryz.func206 (by kernel_rfl) (by kernel_rfl) (fun w0=>?_) us w1 ⟨u1,us1,?_,r2,r3⟩
 case refine_2 =>
  have:=(normN (k:=6) (a:=[.num 6 x]) asInum r1).2.1
  rwa [wordsCh6] at this
 refine seg_safe (orc_ok SRok K0ok) mixed (nx_entry (wordN x 0) (wordN x 1) (wordN x 2) (wordN x 3) (wordN x 4) (wordN x 5) w) ⟨by rw [h5];simp only [decide_eq_true_eq];omega,trivial⟩ (wfB_ok (by kernel_rfl)) (fun _ _=>rfl) (fun _ h=>by cases h) fun _=>?_
 rw [hT,lessRs_eq hT7 hq]
 refine nx_safe w0 _ _ (by omega) ?_
 exact Nat.sub_mul_mod hq
def nextSp:List AV→Option (List (Bool×Bool)×AV)
 | [.val true a,B]=>match asNum 6 a,asI (some B) with
  | some x,some (_,.u64,w)=>some ([(decide (x<pN),true)],num6 ((w.toNat+18446744073709551616*x) % pN))
  | _,_=>none
 | _=>none
theorem nextSp_ok:∀ args c v,nextSp args=some (c,v)→okConds c→PureOk Tryz.prog 206 args v:=by
 intro args cs v h hc us w ha
 unfold nextSp at h
 split at h
 case h_2=>cases h
 rename_i a B
 split at h
 case h_2=>cases h
 rename_i x c h0 hx hy
 injection h with h;injection h with h1 h2;subst h1;subst h2
 obtain ⟨u1,us1,r1,⟨u2,us2,r2,ha,rfl⟩,rfl⟩:=ha
 obtain ⟨q0,q1,hlt⟩:=normN hx r1
 obtain ⟨q2,h2⟩:=normI hy r2
 have bh:=u64_bounds h2
 obtain ⟨q,rfl⟩:=Int.eq_ofNat_of_zero_le bh.1
 exact next_ok (of_decide_eq_true hc.1) (by omega) _ w ⟨u1,_,q0,⟨u2,_,q2,ha,rfl⟩,rfl⟩
noncomputable def ST:List (FuncId×ASpec):=(206,condSpec nextSp)::SR
theorem STok:SpecsOk Tryz.prog ST:=⟨condSpec_ok Tryz.func206 (by kernel_rfl) (by kernel_rfl) nextSp_ok,SRok⟩
end Go.Proofs.YtfmajnlfpnjagaaGreat
/- sigilref04: Add, Neg, Sub, Mul: the contracts. -/
namespace Go.Proofs.YtfmajnlfpnjagaaGreat
open Ex Num
set_option maxRecDepth 100000
set_option maxHeartbeats 4000000
def HImp:Heap→Heap→Prop
 | [],[]=>True
 | (k,some b)::r,(k',some b')::r'=>k=k'∧b'.ty=b.ty∧b'.opn=b.opn∧(∀ β l,relL β b.cs l→relL β b'.cs l)∧HImp r r'
 | _,_=>False
theorem himp_get:∀ {H H':Heap} {j:Nat} {d:Blk},HImp H H'→hget H' j=some d→∃ b,hget H j=some b∧d.ty=b.ty∧d.opn=b.opn∧∀ β l,relL β b.cs l→relL β d.cs l
 | [],[],_,_,_,h=>by cases h
 | (k,some b)::r,(k',some b')::r',j,d,⟨e,h1,h2,h3,h4⟩,h=>by
  subst e
  simp only [hget] at h ⊢
  split at h
  ·rename_i hk;injection h with h;subst h;exact ⟨b,rfl,h1,h2,h3⟩
  ·rename_i hk;exact himp_get h4 h
 | [],_::_,_,_,h,_=>by cases h
 | (_,none)::_,_,_,_,h,_=>by cases h
 | (_,some _)::_,[],_,_,h,_=>by cases h
 | (_,some _)::_,(_,none)::_,_,_,h,_=>by cases h
theorem himp_safe {P:Program} {f:FuncId} {β0:Env} {w0:World} {R:Ending→World→Prop} {n:Nat} {W:List Nat} {todo:List Item} {T:List AV} {H H':Heap} {fr:Nat} {p:List Bool} (hi:HImp H H') (h:ASafe P f β0 w0 R n W ⟨todo,⟨T,H',fr,p⟩⟩):ASafe P f β0 w0 R n W ⟨todo,⟨T,H,fr,p⟩⟩:=by
 intro β a w hv hf
 refine h β a w { hv with good:=⟨fun b blk hb=>?_,fun b b' B n n' h1 h2 h3 h4=>?_,hv.good.lt⟩ } hf
 ·obtain ⟨x,hx,h1,h2,h3⟩:=himp_get hi hb
  exact relB_in (hv.good.heap b x hx) rfl (.inr ⟨h1,h2⟩) (h3 β)
 ·refine hv.good.inj b b' B n n' ?_ ?_ h3 h4
  ·obtain ⟨d,hd,hr⟩:=rwK_some h1
   obtain ⟨x,hx,q1,_⟩:=himp_get hi hd
   exact rwK_mk hx (by rw [← q1];exact hr)
  ·obtain ⟨d,hd⟩:=Option.isSome_iff_exists.1 h2
   obtain ⟨x,hx,_⟩:=himp_get hi hd
   rw [hx];rfl
theorem ws_num {ds:List Int} {y:Nat} (e:(y:Int)=sumL ds) (β:Env) (l:List Value) (h:relL β (wsCh ds) l):relL β [.num ds.length y] l:=num_of_ws e h
def ccC (x y:Nat):Nat→List (Bool×Bool)
 | 0=>[]
 | k+1=>ccC x y k++[(is01 (cch x y k),true)]
theorem ccC_ok (x y:Nat):∀ k,okConds (ccC x y k)
 | 0=>trivial
 | k+1=>ok_app (ccC_ok x y k) ⟨is01_of (cch_bd _ _ _),trivial⟩
theorem radd_run (x y:Nat):pureRun Tryz.prog (orc ST K0) Tryz.f173 [num6 x,num6 y] [] 500=some (ccC (x % pN) (y % pN) 6,num6 (sumN (x % pN) (y % pN) % pN)):=by kernel_rfl
theorem radd_ok (x y:Nat):PureOk Tryz.prog 173 [num6 x,num6 y] (num6 (addN x y)):=by
 have h:=pure_ok (orc_ok STok K0ok) mixed Tryz.func173 (radd_run x y) (ccC_ok _ _ _) rfl
 obtain ⟨h1,h2⟩:=sumN_eq (lt_RR_mod x) (lt_RR_mod y)
 have h3:=modp_lt x
 have h4:=modp_lt y
 have h5:=pN_RR
 have hc:(cch (x % pN) (y % pN) 6).toNat=0:=by
  have:=cch_bd (x % pN) (y % pN) 6
  have h01:(cch (x % pN) (y % pN) 6).toNat=0∨(cch (x % pN) (y % pN) 6).toNat=1:=by omega
  rcases h01 with e | e
  ·exact e
  ·rw [e] at h1;omega
 rw [hc] at h1
 have:sumN (x % pN) (y % pN)=x % pN+y % pN:=by omega
 rw [this] at h
 exact h
theorem rneg_run (x:Nat):pureRun Tryz.prog (orc ST K0) Tryz.f174 [num6 x] [] 500=some ([],num6 (((natL PL+(RR-x % pN)) % RR) % pN)):=by kernel_rfl
theorem natL_PL':natL PL=pN:=by kernel_rfl
theorem rneg_ok (x:Nat):PureOk Tryz.prog 174 [num6 x] (num6 (negN x)):=by
 have h:=pure_ok (orc_ok STok K0ok) mixed Tryz.func174 (rneg_run x) trivial rfl
 have h3:=modp_lt x
 have h5:=pN_RR
 have:(natL PL+(RR-x % pN)) % RR=pN-x % pN:=by
  rw [natL_PL',show pN+(RR-x % pN)=(pN-x % pN)+RR by omega,Nat.add_mod_right,Nat.mod_eq_of_lt (by omega)]
 rw [this] at h
 exact h
noncomputable def SU:List (FuncId×ASpec):=(173,pureSpec (sp2 fun x y=>num6 (addN x y)))::(174,pureSpec (sp1 fun x=>num6 (negN x)))::ST
theorem SUok:SpecsOk Tryz.prog SU:=⟨pureSpec_ok Tryz.func173 (by kernel_rfl) (by kernel_rfl) (sp2_ok fun x y _ _=>radd_ok x y),pureSpec_ok Tryz.func174 (by kernel_rfl) (by kernel_rfl) (sp1_ok fun x _=>rneg_ok x),STok⟩
theorem rsub_run (x y:Nat):pureRun Tryz.prog (orc SU K0) Tryz.f181 [num6 x,num6 y] [] 300=some ([],num6 (subN x y)):=by kernel_rfl
theorem rsub_ok (x y:Nat):PureOk Tryz.prog 181 [num6 x,num6 y] (num6 (subN x y)):=pure_ok (orc_ok SUok K0ok) mixed Tryz.func181 (rsub_run x y) trivial rfl
noncomputable def rmTodo:List Item:=todoOf (aSeg Tryz.prog (orc SU K0) (some 0) 100 0 none (entry Tryz.f125 [num6 0,num6 0] [] 0 []))
noncomputable def rmS (x y:Nat) (t:List Ch) (i:Nat) (p:List Bool):ASt:=⟨rmTodo,⟨mkT Tryz.f125.ntmps [(4,.val false [.p 2 0]),(5,.val false [.p 3 0]),(6,.val false [.p 4 0]),(7,.val false [.p 5 0]),(8,.val false [.n .i64 i])],
 [(2,some ⟨40,zero6,false⟩),(3,some ⟨40,[.num 6 x],false⟩),(4,some ⟨40,[.num 6 y],false⟩),(5,some ⟨181,t,false⟩)],6,p⟩⟩
abbrev rmK:Option (List Nat×List Nat×Nat):=some ([4,5,6,7,8],[2,3,4,5],6)
def rowC (xi:Int) (y T i:Nat):Nat→Int
 | 0=>0
 | k+1=>mW (mW (mulHi xi (wordN y k)+carW (mulLo xi (wordN y k)) (rowC xi y T i k) 0)+carW (wordN T (i+k)) (sumW (mulLo xi (wordN y k)) (rowC xi y T i k) 0) 0)
def rowT (xi:Int) (y T i k:Nat):Int:=sumW (wordN T (i+k)) (sumW (mulLo xi (wordN y k)) (rowC xi y T i k) 0) 0
def rowL (xi:Int) (y T i:Nat):List Int:=(List.range i).map (wordN T)++((List.range 6).map (rowT xi y T i)++(rowC xi y T i 6::(List.range (5-i)).map fun j=>wordN T (i+7+j)))
theorem rm_entry (x y:Nat):aSeg Tryz.prog (orc SU K0) (some 4) 300 0 rmK (entry Tryz.f125 [num6 x,num6 y] [] 0 [])=some ([],[],rmS (x % pN) (y % pN) (List.replicate 12 (.n .u64 0)) 0 []):=by kernel_rfl
theorem rm_row (x y T i:Nat) (hi:i<6):aSeg Tryz.prog (orc SU K0) (some 4) 300 0 rmK (rmS x y [.num 12 T] i [])=some (allT 12,[],rmS x y (wsCh (rowL (wordN x i) y T i)) (i+1) []):=by
 obtain rfl | rfl | rfl | rfl | rfl | rfl:i=0∨i=1∨i=2∨i=3∨i=4∨i=5:=by omega
 all_goals kernel_rfl
def mE (T:Nat):Nat→Nat
 | 0=>natL [wordN T 6,wordN T 7,wordN T 8,wordN T 9,wordN T 10,wordN T 11]
 | k+1=>((wordN T (5-k)).toNat+18446744073709551616*mE T k) % pN
def mEC (T:Nat):Nat→List (Bool×Bool)
 | 0=>[]
 | k+1=>mEC T k++[(decide (mE T k<pN),true)]
theorem rm_exit (x y T:Nat):segRet Tryz.prog (orc SU K0) Tryz.f125 300 0 (rmS x y [.num 12 T] 6 [])=some (mEC T 6,[],num6 (mE T 6)):=by kernel_rfl
theorem row_st {xi:Int} {y T i:Nat}:∀ k,rowC xi y T i k=stC xi y (T / 2^(64*i)) k
 | 0=>rfl
 | k+1=>by
  have hw:wordN T (i+k)=wordN (T / 2^(64*i)) k:=by
   unfold wordN
   rw [Nat.div_div_eq_div_mul,← Nat.pow_add,show 64*i+64*k=64*(i+k) by omega]
  simp only [rowC,stC];rw [row_st k,hw]
theorem word_shift (T i k:Nat):wordN T (i+k)=wordN (T / 2^(64*i)) k:=by
 unfold wordN
 rw [Nat.div_div_eq_div_mul,← Nat.pow_add,show 64*i+64*k=64*(i+k) by omega]
theorem st_chain {x:Int} (hx:0≤x∧x<18446744073709551616) (y T:Nat):∀ k,sumL ((List.range k).map (stT x y T))+((2^(64*k):Nat):Int)*stC x y T k=x*((y % 2^(64*k):Nat):Int)+((T % 2^(64*k):Nat):Int)
 | 0=>by simp [sumL,stC,Nat.mod_one]
 | k+1=>by
  have ih:=st_chain hx y T k
  have he:=st_eq hx y T k
  rw [List.range_succ,List.map_append,sumL_append,mod_word,mod_word,pow_word]
  simp only [List.map_cons,List.map_nil,sumL,List.length_map,List.length_range,Int.mul_zero,Int.add_zero]
  generalize ((2^(64*k):Nat):Int)=Q at *
  have e1:Q*stT x y T k=Q*(x*wordN y k)+Q*wordN T k+Q*stC x y T k-Q*18446744073709551616*stC x y T (k+1):=by
   have:stT x y T k=x*wordN y k+wordN T k+stC x y T k-18446744073709551616*stC x y T (k+1):=by omega
   rw [this,Int.mul_sub,Int.mul_add,Int.mul_add,Int.mul_assoc]
  have e2:x*(((y % 2^(64*k):Nat):Int)+Q*wordN y k)=x*((y % 2^(64*k):Nat):Int)+Q*(x*wordN y k):=by
   rw [Int.mul_add,Int.mul_left_comm]
  rw [e1,e2]
  omega
theorem row_num {x y T i:Nat} (hi:i<6) (hy:y<RR) (hT:T<2^(64*(i+6))) :
  ((T+(wordN x i).toNat*y*2^(64*i):Nat):Int)=sumL (rowL (wordN x i) y T i)∧(rowL (wordN x i) y T i).length=12:=by
 have hw:=word_bd x i
 obtain ⟨X,hX⟩:=Int.eq_ofNat_of_zero_le hw.1
 have hB:T / 2^(64*i)<2^(64*6):=by
  refine Nat.div_lt_of_lt_mul ?_
  have e:2^(64*(i+6))=2^(64*i)*2^(64*6):=by rw [Nat.mul_add 64 i 6];exact Nat.pow_add 2 (64*i) (64*6)
  exact e▸hT
 have hz:((List.range (5-i)).map fun j=>wordN T (i+7+j))=(List.range (5-i)).map fun _=>(0:Int):=by
  refine List.map_congr_left fun j _=>?_
  unfold wordN
  rw [Nat.div_eq_of_lt (Nat.lt_of_lt_of_le hT (Nat.pow_le_pow_right (by decide) (by omega)))];rfl
 have hz2:∀ n,sumL ((List.range n).map fun _=>(0:Int))=0:=by
  intro n
  induction n with
  | zero=>rfl
  | succ n ih=>rw [List.range_succ,List.map_append,sumL_append,ih];simp [sumL]
 have hA:sumL ((List.range i).map (wordN T))=((T % 2^(64*i):Nat):Int):=by
  have:=sumL_digits i (T % 2^(64*i)) (Nat.mod_lt _ (Nat.pow_pos (by decide)))
  rw [← this]
  refine congrArg sumL (List.map_congr_left fun j hj=>?_)
  have hj':j<i:=List.mem_range.1 hj
  unfold wordN
  have e:2^(64*i)=2^(64*j)*(2^64*2^(64*(i-j-1))):=by rw [← Nat.pow_add,← Nat.pow_add];congr 1;omega
  rw [e,Nat.mod_mul_right_div_self,Nat.mod_mul_right_mod]
 have hrow:(List.range 6).map (rowT X y T i)=(List.range 6).map (stT X y (T / 2^(64*i))):=by
  refine List.map_congr_left fun k _=>?_
  unfold rowT stT
  rw [row_st,word_shift]
 rw [hX]
 have hc:=st_chain (x:=X) (by omega) y (T / 2^(64*i)) 6
 rw [Nat.mod_eq_of_lt hB,Nat.mod_eq_of_lt (a:=y) (by rw [← RR_eq];exact hy)] at hc
 constructor
 ·unfold rowL
  rw [hz,sumL_append,sumL_append,hA,hrow,row_st]
  simp only [sumL,hz2,List.length_map,List.length_range,Int.mul_zero,Int.add_zero]
  rw [hc]
  have e:=Nat.div_add_mod T (2^(64*i))
  generalize 2^(64*i)=Q at *
  rw [Int.toNat_natCast,Int.natCast_add,Int.natCast_mul,Int.natCast_mul]
  conv=>lhs;rw [← e]
  rw [Int.natCast_add,Int.natCast_mul,Int.mul_add,Int.mul_comm ((X:Int)*y)]
  omega
 ·unfold rowL;simp;omega
end Go.Proofs.YtfmajnlfpnjagaaGreat
/- sigilref04.Mul: the contract. -/
namespace Go.Proofs.YtfmajnlfpnjagaaGreat
open Ex Num
set_option maxRecDepth 100000
set_option maxHeartbeats 4000000
theorem mod_wordN (x i:Nat):x % 2^(64*(i+1))=x % 2^(64*i)+(wordN x i).toNat*2^(64*i):=by
 have h:=mod_word x i
 have hw:=word_bd x i
 obtain ⟨X,hX⟩:=Int.eq_ofNat_of_zero_le hw.1
 rw [hX,← Int.natCast_mul,← Int.natCast_add] at h
 rw [hX,Int.toNat_natCast,Nat.mul_comm X]
 exact Int.natCast_inj.1 h
theorem num_zero12 (β:Env) (l:List Value) (h:relL β (List.replicate 12 (.n .u64 0)) l):relL β [.num 12 0] l:=num_any (k:=12) (x:=0) (by kernel_rfl) h
theorem mE_z (T:Nat):mE T 0=natL [wordN T 6,wordN T 7,wordN T 8,wordN T 9,wordN T 10,wordN T 11]:=rfl
theorem words6 (z:Nat):(List.range 6).map (wordN z)=[wordN z 0,wordN z 1,wordN z 2,wordN z 3,wordN z 4,wordN z 5]:=rfl
theorem mE_zero {T:Nat} (hT:T<pN*RR):mE T 0=T / RR∧T / RR<pN:=by
 have hT12:T / RR<pN:=Nat.div_lt_of_lt_mul (by rw [Nat.mul_comm];exact hT)
 refine ⟨?_,hT12⟩
 have h:=natL_words (x:=T / RR) (k:=6) (Nat.lt_trans hT12 (by rw [← RR_eq];exact pN_lt_RR))
 rw [words6] at h
 have e:∀ j,wordN T (6+j)=wordN (T / RR) j:=fun j=>by rw [word_shift,← RR_eq]
 rw [← e 0,← e 1,← e 2,← e 3,← e 4,← e 5] at h
 rw [mE_z]
 exact h
theorem mE_succ (T k:Nat):mE T (k+1)=((wordN T (5-k)).toNat+18446744073709551616*mE T k) % pN:=rfl
theorem div_word (T j:Nat):T / 2^(64*j)=(wordN T j).toNat+18446744073709551616*(T / 2^(64*(j+1))):=by
 rw [show 64*(j+1)=64*j+64 by omega,Nat.pow_add,← Nat.div_div_eq_div_mul]
 have:=Nat.div_add_mod (T / 2^(64*j)) (2^64)
 unfold wordN
 rw [Int.toNat_natCast]
 omega
theorem mE_eq {T:Nat} (hT:T<pN*RR) (k:Nat) (hk:k≤6):mE T k=T / 2^(64*(6-k)) % pN∧mE T k<pN:=by
 induction k with
 | zero =>
  obtain ⟨e,h⟩:=mE_zero hT
  rw [e,Nat.sub_zero,← RR_eq]
  exact ⟨(Nat.mod_eq_of_lt h).symm,h⟩
 | succ k ih =>
  obtain ⟨i1,i2⟩:=ih (by omega)
  rw [mE_succ]
  refine ⟨?_,Nat.mod_lt _ pN_pos⟩
  rw [i1,show 6-(k+1)=5-k by omega,div_word T (5-k),show 5-k+1=6-k by omega,Nat.add_mod,Nat.mul_mod_mod,← Nat.add_mod]
theorem mEC_ok {T:Nat} (hT:T<pN*RR):∀ k,k≤6→okConds (mEC T k)
 | 0,_=>trivial
 | k+1,hk=>ok_app (mEC_ok hT k (by omega)) ⟨decide_eq_true (mE_eq hT k (by omega)).2,trivial⟩
theorem rmul_ok (x y:Nat):PureOk Tryz.prog 125 [num6 x,num6 y] (num6 (mulN x y)):=by
 refine pure_entry (path:=[]) Tryz.func125 (by kernel_rfl) (by kernel_rfl) fun w0=>?_
 refine seg_safe (orc_ok SUok K0ok) mixed (rm_entry x y) trivial (wfB_ok (by kernel_rfl)) (fun _ _=>rfl) (fun _ h=>by cases h) fun _=>?_
 have hx:=modp_lt x
 have hy:=modp_lt y
 have hyR:=lt_RR_mod y
 have hxR:=lt_RR_mod x
 have e:mulN x y=(x % pN)*(y % pN) % pN:=by unfold mulN;rw [← Nat.mul_mod]
 rw [e]
 generalize x % pN=a at *
 generalize y % pN=b at *
 have loop:∀ r i,i+r=6→ASafe Tryz.prog 125 noEnv w0 (PureOut w0 (num6 (a*b % pN))) Tryz.f125.ntmps [] (rmS a b [.num 12 ((a % 2^(64*i))*b)] i []):=by
  intro r
  induction r with
  | zero =>
   intro i hi
   obtain rfl:i=6:=by omega
   have e6:a % 2^(64*6)=a:=Nat.mod_eq_of_lt (RR_eq▸hxR)
   have hT:a*b<pN*RR:=Nat.mul_lt_mul'' hx hyR
   have h:=ret_safe (w0:=w0) (β0:=noEnv) (n:=Tryz.f125.ntmps) (orc_ok SUok K0ok) mixed Tryz.func125 (rm_exit a b (a*b)) (mEC_ok hT 6 (Nat.le_refl _)) (wfB_ok (by kernel_rfl)) (fun _ _=>rfl) rfl
   rw [(mE_eq hT 6 (Nat.le_refl _)).1,Nat.sub_self,Nat.mul_zero,Nat.pow_zero,Nat.div_one] at h
   exact (congrArg (fun z=>ASafe Tryz.prog 125 noEnv w0 (PureOut w0 (num6 (a*b % pN))) Tryz.f125.ntmps [] (rmS a b [.num 12 (z*b)] 6 [])) e6).mpr h
  | succ r ih =>
   intro i hi
   have hlt:(a % 2^(64*i))*b<2^(64*(i+6)):=by
    rw [show 64*(i+6)=64*i+64*6 by omega,Nat.pow_add]
    exact Nat.mul_lt_mul'' (Nat.mod_lt _ (Nat.pow_pos (by decide))) (by rw [← RR_eq];exact hyR)
   obtain ⟨r1,r2⟩:=row_num (x:=a) (T:=(a % 2^(64*i))*b) (show i<6 by omega) hyR hlt
   have e2:(a % 2^(64*i))*b+(wordN a i).toNat*b*2^(64*i)=(a % 2^(64*(i+1)))*b:=by
    rw [mod_wordN,Nat.add_mul];congr 1;rw [Nat.mul_right_comm]
   rw [e2] at r1
   refine seg_safe (orc_ok SUok K0ok) mixed (rm_row a b _ i (by omega)) (allT_ok 12) (wfB_ok (by kernel_rfl)) (fun _ _=>rfl) (fun _ h=>by cases h) fun _=>?_
   have:=ws_num r1
   rw [r2] at this
   refine himp_safe ?_ (ih (i+1) (by omega))
   exact ⟨rfl,rfl,rfl,fun β l h=>h,rfl,rfl,rfl,fun β l h=>h,rfl,rfl,rfl,fun β l h=>h,rfl,rfl,rfl,this,trivial⟩
 have h0:=loop 6 0 rfl
 rw [Nat.mul_zero,Nat.pow_zero,Nat.mod_one,Nat.zero_mul] at h0
 refine himp_safe ?_ h0
 exact ⟨rfl,rfl,rfl,fun β l h=>h,rfl,rfl,rfl,fun β l h=>h,rfl,rfl,rfl,fun β l h=>h,rfl,rfl,rfl,num_zero12,trivial⟩
noncomputable def SV:List (FuncId×ASpec):=(181,pureSpec (sp2 fun x y=>num6 (subN x y)))::(125,pureSpec (sp2 fun x y=>num6 (mulN x y)))::SU
theorem SVok:SpecsOk Tryz.prog SV:=⟨pureSpec_ok Tryz.func181 (by kernel_rfl) (by kernel_rfl) (sp2_ok fun x y _ _=>rsub_ok x y),pureSpec_ok Tryz.func125 (by kernel_rfl) (by kernel_rfl) (sp2_ok fun x y _ _=>rmul_ok x y),SUok⟩
end Go.Proofs.YtfmajnlfpnjagaaGreat
/- sigilref03.At, more; sigilref04.Wide, Pow: the contracts. -/
namespace Go.Proofs.YtfmajnlfpnjagaaGreat
open Ex Num
set_option maxRecDepth 100000
set_option maxHeartbeats 4000000
def wdSpec (g:Nat→List Int→AV):ASpec:=fun args H fr path =>
 match args with
 | [.val false [.sl k off n _]]=>match hget H k with
  | some ⟨_,cs,_⟩=>match toSeq .u64 cs with
   | some xs=>some (trR [k] 1 fr 0 [] (g n (win xs off n)) [] [(Nat.ble (off+n) xs.length,true),(Nat.ble n 1125899906842624,true)] path)
   | none=>none
  | _=>none
 | _=>none
theorem wdSpec_ok {f:FuncId} {fn:Func} {g:Nat→List Int→AV} (hfn:Tryz.prog.funcs[f]? = some fn) (hb:fn.body.isSome=true) (hname:(fn.name=="runtime.NumGoroutine")=false) (hk:∀ n l,canB 1 0 [] (g n l) []=true)
  (h:∀ (off n m:Nat) (xs:List Int),(∀ d∈xs,0≤d∧d<18446744073709551616)→off+n≤xs.length→n≤1125899906842624→CanOk Tryz.prog f [slA 0 off n m] (seqH xs) 1 [] (g n (win xs off n)) []):SpecOk Tryz.prog f (wdSpec g):=by
 refine can_spec hfn hb hname fun args H fr path r hs=>?_
 unfold wdSpec at hs
 split at hs
 case h_2=>cases hs
 rename_i k off n c
 split at hs
 case h_2=>cases hs
 rename_i ty cs o hk'
 split at hs
 case h_2=>cases hs
 rename_i xs hxs
 injection hs with hs
 refine ⟨[k],[slA 0 off n c],seqH xs,1,0,[],_,_,_,path,hs.symm,fun β us w ha hg hc=>?_⟩
 obtain ⟨u1,us1,r1,ha,rfl⟩:=ha
 obtain ⟨g1,g2,g3⟩:=good_seq hg hk' hxs
 exact ⟨h off n c xs g1 (Nat.le_of_ble_eq_true hc.1) (Nat.le_of_ble_eq_true hc.2.1),hk _ _,⟨u1,_,r1,ha,rfl⟩,g2,g3⟩
theorem hasB_len {n:Nat} (h:n≤1125899906842624):hasB .i64 (n:Int)=true:=by
 simp only [hasB,Bool.and_eq_true,decide_eq_true_eq];omega
theorem rat_in (off n m:Nat) (i:Int) (xs:List Int):segOut Tryz.prog (orc S0 K0) Tryz.f198 100 1 [] (entry Tryz.f198 (atA off n m i) (seqH xs) 1 [true]) =
 some ([(hasB .i64 n,true),(decide (i<n),true),(decide (0≤i∧i<n),true),(decide (off+i.toNat*1<xs.length),true)],[],.val false [.v (.int .u64 (xs.getD (off+i.toNat*1) 0))],[]):=by kernel_rfl
theorem rat_out (off n m:Nat) (i:Int) (xs:List Int):segOut Tryz.prog (orc S0 K0) Tryz.f198 100 1 [] (entry Tryz.f198 (atA off n m i) (seqH xs) 1 [false]) =
 some ([(hasB .i64 n,true),(decide (i<n),false)],[],.val false [.n .u64 0],[]):=by kernel_rfl
theorem rat_can {off n m:Nat} {xs:List Int} (hlen:off+n≤xs.length) (hn:hasB .i64 n=true) {i:Int} (hi:0≤i) :
  CanOk Tryz.prog 198 (atA off n m i) (seqH xs) 1 [] (.val false [.v (.int .u64 (atV xs off n i))]) []:=by
 by_cases h:i<n
 ·refine can_entry (path:=[true]) Tryz.func198 (by kernel_rfl) (by kernel_rfl) fun β0 w0 hb=>?_
  rw [show atV xs off n i=xs.getD (off+i.toNat*1) 0 from by rw [Nat.mul_one];exact bit_word (by omega)]
  exact out_safe (orc_ok S0ok K0ok) mixed Tryz.func198 (rat_in off n m i xs) ⟨hn,by simp [h],by simp [hi,h],by simp;omega,trivial⟩ (wfB_ok (by kernel_rfl)) hb (fun _ h=>by cases h)
 ·have e:atV xs off n i=0:=by
   unfold atV win
   rw [List.getD_eq_getElem?_getD,List.getElem?_eq_none (by rw [List.length_take];omega)];rfl
  rw [e]
  refine can_val (v:=.val false [.n .u64 0]) (can_entry (path:=[false]) Tryz.func198 (by kernel_rfl) (by kernel_rfl) fun β0 w0 hb=>?_) fun _ _=>nv_val
  exact out_safe (orc_ok S0ok K0ok) mixed Tryz.func198 (rat_out off n m i xs) ⟨hn,by simp [h],trivial⟩ (wfB_ok (by kernel_rfl)) hb (fun _ h=>by cases h)
theorem ratSpec_ok:SpecOk Tryz.prog 198 atSpec:=by
 refine can_spec Tryz.func198 (by kernel_rfl) (by kernel_rfl) fun args H fr path r h=>?_
 unfold atSpec at h
 split at h
 case h_2=>cases h
 rename_i k off n m I
 split at h
 case h_2=>cases h
 rename_i c0 i ty cs o hI hk
 split at h
 case h_2=>cases h
 rename_i xs hxs
 injection h with h
 refine ⟨[k],atA off n m i,seqH xs,1,0,[],_,[],_,path,h.symm,fun β us w ha hg hc=>?_⟩
 obtain ⟨u1,us1,r1,⟨u2,us2,r2,ha,rfl⟩,rfl⟩:=ha
 obtain ⟨g1,g2,g3⟩:=good_seq hg hk hxs
 obtain ⟨rfl,p1⟩:=asI_rel (β:=β) (u:=u2) (fun A hA=>by injection hA with hA;subst hA;exact r2) hI
 exact ⟨rat_can (Nat.le_of_ble_eq_true hc.1) hc.2.1 (by simpa using hc.2.2.1),by kernel_rfl,⟨u1,_,r1,⟨_,us2,rel_one' ⟨rfl,rfl,p1⟩,ha,rfl⟩,rfl⟩,g2,g3⟩
theorem more_t (i j:Int):pureRun Tryz.prog (orc S0 K0) Tryz.f252 [iA i,iA j] [true] 100=some ([(decide (j<i),true)],iA i):=by kernel_rfl
theorem more_f (i j:Int):pureRun Tryz.prog (orc S0 K0) Tryz.f252 [iA i,iA j] [false] 100=some ([(decide (j<i),false)],iA j):=by kernel_rfl
theorem more_ok (i j:Int):PureOk Tryz.prog 252 [iA i,iA j] (iA (maxI i j)):=by
 by_cases h:j<i
 ·have e:maxI i j=i:=by unfold maxI;split<;>omega
  rw [e]
  exact pure_ok (orc_ok S0ok K0ok) mixed Tryz.func252 (more_t i j) ⟨decide_eq_true h,trivial⟩ rfl
 ·have e:maxI i j=j:=by unfold maxI;split<;>omega
  rw [e]
  exact pure_ok (orc_ok S0ok K0ok) mixed Tryz.func252 (more_f i j) ⟨decide_eq_false h,trivial⟩ rfl
noncomputable def SW:List (FuncId×ASpec):=(198,atSpec)::(252,condSpec (spInts [.i64,.i64] fun l=>match l with | [i,j]=>some ([],iA (maxI i j)) | _=>none))::SV
theorem SWok:SpecsOk Tryz.prog SW:=⟨ratSpec_ok,condSpec_ok Tryz.func252 (by kernel_rfl) (by kernel_rfl) (spInts_ok fun is c v h hh hc=>by
 split at h
 ·injection h with h;injection h with h1 h2;subst h1;subst h2;exact more_ok _ _
 ·cases h),SVok⟩
noncomputable def wdTodo:List Item:=todoOf (aSeg Tryz.prog (orc SV K0) (some 0) 100 1 none (entry Tryz.f256 [slA 0 0 0 0] (seqH []) 1 []))
noncomputable def wdS (off n m:Nat) (xs:List Int) (v:List Ch) (i:Int) (p:List Bool):ASt:=⟨wdTodo,⟨mkT Tryz.f256.ntmps [(0,slA 0 off n m),(2,.val false [.p 1 0]),(3,.val false [.p 2 0]),(4,iA i)],
 [(0,some (roB [.seq .u64 xs])),(1,some ⟨40,zero6,false⟩),(2,some ⟨40,v,false⟩)],3,p⟩⟩
abbrev wdK:Option (List Nat×List Nat×Nat):=some ([0,2,3,4],[0,1,2],3)
theorem wd_entry (off n m:Nat) (xs:List Int):aSeg Tryz.prog (orc SV K0) (some 0) 100 1 wdK (entry Tryz.f256 [slA 0 off n m] (seqH xs) 1 [])=some ([(hasB .i64 n,true)],[],wdS off n m xs zero6 (wI ((n:Int)-1)) []):=by kernel_rfl
def wdW (xs:List Int) (off:Nat) (i:Int):Int:=xs.getD (off+i.toNat*1) 0
theorem wd_step (off n m:Nat) (xs:List Int) (v:Nat) (i:Int):aSeg Tryz.prog (orc SV K0) (some 0) 100 1 wdK (wdS off n m xs [.num 6 v] i [true]) =
 some ([(decide (0≤i),true),(decide (0≤i∧i<n),true),(decide (off+i.toNat*1<xs.length),true),(decide (v<pN),true)],[],wdS off n m xs [.num 6 (((wdW xs off i).toNat+18446744073709551616*v) % pN)] (wI (i-1)) []):=by kernel_rfl
theorem wd_exit (off n m:Nat) (xs:List Int) (v:Nat) (i:Int):segOut Tryz.prog (orc SV K0) Tryz.f256 100 1 [] (wdS off n m xs [.num 6 v] i [false])=some ([(decide (0≤i),false)],[],num6 v,[]):=by kernel_rfl
theorem zero_numL (β:Env) (l:List Value) (h:relL β zero6 l):relL β [.num 6 0] l:=num_any (k:=6) (x:=0) (by kernel_rfl) h
theorem wide_can {off n m:Nat} {xs:List Int} (hx:∀ d∈xs,0≤d∧d<18446744073709551616) (hl:off+n≤xs.length) (hn:n≤1125899906842624):CanOk Tryz.prog 256 [slA 0 off n m] (seqH xs) 1 [] (num6 (natL (win xs off n) % pN)) []:=by
 refine can_entry (path:=[]) Tryz.func256 (by kernel_rfl) (by kernel_rfl) fun β0 w0 hb=>?_
 refine seg_safe (orc_ok SVok K0ok) mixed (wd_entry off n m xs) ⟨hasB_len hn,trivial⟩ (wfB_ok (by kernel_rfl)) hb (fun _ h=>by cases h) fun _=>?_
 have hw:∀ d∈win xs off n,0≤d∧d<18446744073709551616:=win_has hx
 have hlen:(win xs off n).length=n:=by unfold win;rw [List.length_take,List.length_drop];omega
 have loop:∀ c,c≤n→ASafe Tryz.prog 256 β0 w0 (Outs β0 w0 [] (num6 (natL (win xs off n) % pN)) []) Tryz.f256.ntmps [] (wdS off n m xs [.num 6 (natL (win xs off n) / 2^(64*c) % pN)] ((c:Int)-1) []):=by
  intro c
  induction c with
  | zero =>
   intro _
   have h:=out_safe (w0:=w0) (W:=[]) (n:=Tryz.f256.ntmps) (orc_ok SVok K0ok) mixed Tryz.func256 (wd_exit off n m xs (natL (win xs off n) % pN) (((0:Nat):Int)-1)) ⟨rfl,trivial⟩ (wfB_ok (by kernel_rfl)) hb (fun _ h=>by cases h)
   rw [Nat.mul_zero,Nat.pow_zero,Nat.div_one]
   exact path_safe [false] h
  | succ c ih =>
   intro hc
   have hi:((c+1:Nat):Int)-1=(c:Int):=by omega
   rw [hi]
   have hs:=natL_split hw c
   have hv:wdW xs off c=(win xs off n).getD c 0:=by
    unfold wdW
    rw [Int.toNat_natCast,Nat.mul_one]
    exact (bit_word (by omega)).symm
   refine path_safe [true] (seg_safe (orc_ok SVok K0ok) mixed (wd_step ..) ⟨by simp,by simp;omega,by simp;omega,decide_eq_true (Nat.mod_lt _ pN_pos),trivial⟩ (wfB_ok (by kernel_rfl)) hb (fun _ h=>by cases h) fun _=>?_)
   rw [hv,wI_eq (z:=(c:Int)-1) (by omega)]
   have e:((win xs off n).getD c 0).toNat+18446744073709551616*(natL (win xs off n) / 2^(64*(c+1)) % pN)=_+_:=rfl
   rw [Nat.add_mod,Nat.mul_mod_mod,← Nat.add_mod,← hs]
   exact ih (by omega)
 have h0:=loop n (Nat.le_refl _)
 have hlt:=natL_lt (win xs off n) hw
 rw [hlen] at hlt
 rw [Nat.div_eq_of_lt hlt,Nat.zero_mod] at h0
 rw [wI_eq (by omega)]
 refine himp_safe ?_ h0
 exact ⟨rfl,rfl,rfl,fun β l h=>h,rfl,rfl,rfl,fun β l h=>h,rfl,rfl,rfl,zero_numL,trivial⟩
noncomputable def rpTodo:List Item:=todoOf (aSeg Tryz.prog (orc SV K0) (some 0) 100 1 none (entry Tryz.f204 (powA 0 0 0 0) (seqH []) 1 []))
noncomputable def rpS (off n m:Nat) (xs:List Int) (x:Nat) (v:List Ch) (i:Int) (p:List Bool):ASt:=⟨rpTodo,⟨mkT Tryz.f204.ntmps [(1,slA 0 off n m),(2,.val false [.p 1 0]),(4,.val false [.p 2 0]),(5,.val false [.p 3 0]),(6,iA i)],
 [(0,some (roB [.seq .u64 xs])),(1,some ⟨40,[.num 6 x],false⟩),(2,some ⟨40,zero6,false⟩),(3,some ⟨40,v,false⟩)],4,p⟩⟩
abbrev rpK:Option (List Nat×List Nat×Nat):=some ([1,2,4,5,6],[0,1,2,3],4)
def one6:List Ch:=[.n .u64 1,.n .u64 0,.n .u64 0,.n .u64 0,.n .u64 0,.n .u64 0]
theorem rp_entry (x off n m:Nat) (xs:List Int):aSeg Tryz.prog (orc SV K0) (some 0) 100 1 rpK (entry Tryz.f204 (powA x off n m) (seqH xs) 1 [])=some ([(hasB .i64 n,true)],[],rpS off n m xs x one6 (wI (wI (64*(n:Int))-1)) []):=by kernel_rfl
def rpB (xs:List Int) (off:Nat) (i:Int):Int:=bits .and .u64 (Int.fdiv (powW xs off i) (2^min (wrapc false .u64 (Int.tmod i 64)).toNat 64)) 1
def rpC (off n:Nat) (xs:List Int) (i:Int) (bit:Bool):List (Bool×Bool):=[(decide (0≤i),true),(true,true),(decide (0≤wI (Int.tdiv i 64)∧wI (Int.tdiv i 64)<n),true),(decide (off+(wI (Int.tdiv i 64)).toNat*1<xs.length),true),(decide (0≤i∧(0:Int)<64),true),
 (decide (0≤wrapc false .u64 (Int.tmod i 64)∧0≤powW xs off i),true),(decide (rpB xs off i=1),bit)]
theorem rp_one (off n m:Nat) (xs:List Int) (x v:Nat) (i:Int):aSeg Tryz.prog (orc SV K0) (some 0) 100 1 rpK (rpS off n m xs x [.num 6 v] i [true,true])=some (rpC off n xs i true,[],rpS off n m xs x [.num 6 (mulN (mulN v v) x)] (wI (i-1)) []):=by kernel_rfl
theorem rp_zero (off n m:Nat) (xs:List Int) (x v:Nat) (i:Int):aSeg Tryz.prog (orc SV K0) (some 0) 100 1 rpK (rpS off n m xs x [.num 6 v] i [true,false])=some (rpC off n xs i false,[],rpS off n m xs x [.num 6 (mulN v v)] (wI (i-1)) []):=by kernel_rfl
theorem rp_exit (off n m:Nat) (xs:List Int) (x v:Nat) (i:Int):segOut Tryz.prog (orc SV K0) Tryz.f204 100 1 [] (rpS off n m xs x [.num 6 v] i [false])=some ([(decide (0≤i),false)],[],num6 v,[]):=by kernel_rfl
theorem rpB_eq (xs:List Int) (off:Nat) (c:Nat):rpB xs off c=bitI (powW xs off c) (Int.tmod c 64)∧wrapc false .u64 (Int.tmod c 64)=Int.tmod c 64:=by
 have hr:Int.tmod (c:Int) 64=((c % 64:Nat):Int):=by rw [Int.tmod_eq_emod_of_nonneg (by omega)];rfl
 have e:wrapc false .u64 (Int.tmod (c:Int) 64)=Int.tmod c 64:=by rw [hr,wrapc_eq,IntKind.wrap_u64];omega
 exact ⟨by unfold rpB;rw [e];rfl,e⟩
theorem mulN_pow (x a b:Nat):mulN (x^a % pN) (x^b % pN)=x^(a+b) % pN:=by unfold mulN;rw [← Nat.mul_mod,Nat.pow_add]
theorem mulN_pow1 (x a:Nat):mulN (x^a % pN) x=x^(a+1) % pN:=by unfold mulN;rw [Nat.mod_mul_mod,Nat.pow_succ]
theorem rpow_can {off n m:Nat} {xs:List Int} (hall:∀ d∈xs,0≤d∧d<18446744073709551616) (hlen:off+n≤xs.length) (hn:n≤1125899906842624) (x:Nat) :
  CanOk Tryz.prog 204 (powA x off n m) (seqH xs) 1 [] (num6 (powN x (natL (win xs off n)))) []:=by
 refine can_entry (path:=[]) Tryz.func204 (by kernel_rfl) (by kernel_rfl) fun β0 w0 hb=>?_
 refine seg_safe (orc_ok SVok K0ok) mixed (rp_entry x off n m xs) ⟨hasB_len hn,trivial⟩ (wfB_ok (by kernel_rfl)) hb (fun _ h=>by cases h) fun _=>?_
 have hlt:∀ d∈win xs off n,0≤d∧d<18446744073709551616:=win_has hall
 have hwl:(win xs off n).length=n:=by unfold win;rw [List.length_take,List.length_drop];omega
 generalize hE:natL (win xs off n)=E at *
 have loop:∀ c,c≤64*n→ASafe Tryz.prog 204 β0 w0 (Outs β0 w0 [] (num6 (powN x E)) []) Tryz.f204.ntmps [] (rpS off n m xs x [.num 6 (x^(E / 2^c) % pN)] ((c:Int)-1) []):=by
  intro c
  induction c with
  | zero =>
   intro _
   have h:=out_safe (w0:=w0) (W:=[]) (n:=Tryz.f204.ntmps) (orc_ok SVok K0ok) mixed Tryz.func204 (rp_exit off n m xs x (x^E % pN) (((0:Nat):Int)-1)) ⟨rfl,trivial⟩ (wfB_ok (by kernel_rfl)) hb (fun _ h=>by cases h)
   rw [Nat.pow_zero,Nat.div_one,powN_eq]
   exact path_safe [false] h
  | succ c ih =>
   intro hc
   have hi:((c+1:Nat):Int)-1=(c:Int):=by omega
   rw [hi]
   have hq:Int.tdiv (c:Int) 64=((c / 64:Nat):Int):=by rw [Int.tdiv_eq_ediv_of_nonneg (by omega)];rfl
   have hr:Int.tmod (c:Int) 64=((c % 64:Nat):Int):=by rw [Int.tmod_eq_emod_of_nonneg (by omega)];rfl
   have hw:wI (Int.tdiv (c:Int) 64)=((c / 64:Nat):Int):=by rw [hq];exact wI_eq (by omega)
   have hj:c / 64<n:=by omega
   have hv:powW xs off c=(win xs off n).getD (c / 64) 0:=by
    unfold powW
    rw [hw,Int.toNat_natCast,Nat.mul_one];exact (bit_word hj).symm
   have hvb:0≤powW xs off c∧powW xs off c<18446744073709551616:=by rw [hv];exact getD_bd hlt _
   obtain ⟨eb,em⟩:=rpB_eq xs off c
   have hbit:rpB xs off c=((E / 2^c % 2:Nat):Int):=by
    obtain ⟨V,hV⟩:=Int.eq_ofNat_of_zero_le hvb.1
    rw [eb,hr,← hE,← natL_bit _ c hlt,← hv,hV,Int.toNat_natCast]
    exact bitI_eq V _ (by omega) (by omega)
   have hconds:∀ bit,decide (rpB xs off c=1)=bit→okConds (rpC off n xs c bit):=by
    intro bit hbt
    refine ⟨by simp,rfl,?_,?_,by simp,?_,hbt,trivial⟩
    ·rw [hw];simp;omega
    ·rw [hw];simp;omega
    ·rw [em,hr];simp only [decide_eq_true_eq];exact ⟨by omega,hvb.1⟩
   have hdiv:E / 2^c=2*(E / 2^(c+1))+E / 2^c % 2:=by
    rw [Nat.pow_succ,← Nat.div_div_eq_div_mul];omega
   have ihc:=ih (by omega)
   rcases Nat.mod_two_eq_zero_or_one (E / 2^c) with h0 | h1
   ·refine path_safe [true,false] (seg_safe (orc_ok SVok K0ok) mixed (rp_zero ..) (hconds false (by rw [hbit,h0];rfl)) (wfB_ok (by kernel_rfl)) hb (fun _ h=>by cases h) fun _=>?_)
    rw [wI_eq (z:=(c:Int)-1) (by omega),mulN_pow,show E / 2^(c+1)+E / 2^(c+1)=E / 2^c by omega]
    exact ihc
   ·refine path_safe [true,true] (seg_safe (orc_ok SVok K0ok) mixed (rp_one ..) (hconds true (by rw [hbit,h1];rfl)) (wfB_ok (by kernel_rfl)) hb (fun _ h=>by cases h) fun _=>?_)
    rw [wI_eq (z:=(c:Int)-1) (by omega),mulN_pow,mulN_pow1,show E / 2^(c+1)+E / 2^(c+1)+1=E / 2^c by omega]
    exact ihc
 have h0:=loop (64*n) (Nat.le_refl _)
 have hl:=natL_lt (win xs off n) hlt
 rw [hwl,hE] at hl
 rw [Nat.div_eq_of_lt hl,Nat.pow_zero] at h0
 have e3:wI (wI (64*(n:Int))-1)=((64*n:Nat):Int)-1:=by
  rw [wI_eq (z:=64*(n:Int)) (by omega),wI_eq (by omega)];omega
 rw [e3]
 refine himp_safe ?_ h0
 exact ⟨rfl,rfl,rfl,fun β l h=>h,rfl,rfl,rfl,fun β l h=>h,rfl,rfl,rfl,fun β l h=>h,rfl,rfl,rfl,fun β l h=>num_any (k:=6) (x:=1) (by kernel_rfl) h,trivial⟩
theorem rpowSpec_ok:SpecOk Tryz.prog 204 powSpec:=by
 refine can_spec Tryz.func204 (by kernel_rfl) (by kernel_rfl) fun args H fr path r h=>?_
 unfold powSpec at h
 split at h
 case h_2=>cases h
 rename_i a k off n m
 split at h
 case h_2=>cases h
 rename_i x ty cs o hx hk
 split at h
 case h_2=>cases h
 rename_i xs hxs
 injection h with h
 refine ⟨[k],powA x off n m,seqH xs,1,0,[],num6 (powN x (natL ((xs.drop off).take n))),[],_,path,h.symm,fun β us w ha hg hc=>?_⟩
 obtain ⟨u1,us1,r1,⟨u2,us2,r2,ha,rfl⟩,rfl⟩:=ha
 obtain ⟨g1,g2,g3⟩:=good_seq hg hk hxs
 refine ⟨rpow_can g1 (Nat.le_of_ble_eq_true hc.1) (Nat.le_of_ble_eq_true hc.2.1) x,by kernel_rfl,⟨u1,_,?_,⟨u2,us2,?_,ha,rfl⟩,rfl⟩,g2,g3⟩
 ·obtain ⟨l,q,rfl⟩:=r1;exact ⟨l,num_any hx q,rfl⟩
 ·exact r2
noncomputable def SX:List (FuncId×ASpec):=(256,wdSpec fun _ l=>num6 (natL l % pN))::(204,powSpec)::SW
theorem SXok:SpecsOk Tryz.prog SX:=⟨wdSpec_ok Tryz.func256 (by kernel_rfl) (by kernel_rfl) (fun _ _=>rfl) (fun _ _ _ _ hx hl hn=>wide_can hx hl hn),rpowSpec_ok,SWok⟩
end Go.Proofs.YtfmajnlfpnjagaaGreat
/- sigilref03: Cmp, Octets, Words: the contracts. -/
namespace Go.Proofs.YtfmajnlfpnjagaaGreat
open Ex Num
set_option maxRecDepth 100000
set_option maxHeartbeats 4000000
noncomputable def rcTodo:List Item:=todoOf (aSeg Tryz.prog (orc SX K0) (some 0) 100 2 none (entry Tryz.f200 (sl2 0 0 0 0 0 0) (seqH2 [] []) 2 []))
abbrev rcK:Option (List Nat×List Nat×Nat):=some ([0,1,5],[0,1],2)
section
variable (off n m off' n' m':Nat) (xs ys:List Int)
noncomputable def rcS (i:Int) (p:List Bool):ASt:=⟨rcTodo,⟨mkT Tryz.f200.ntmps [(0,slA 0 off n m),(1,slA 1 off' n' m'),(5,iA i)],seqH2 xs ys,2,p⟩⟩
theorem rc_entry:aSeg Tryz.prog (orc SX K0) (some 0) 100 2 rcK (entry Tryz.f200 (sl2 off n m off' n' m') (seqH2 xs ys) 2 []) =
 some ([(hasB .i64 n,true),(hasB .i64 n',true)],[],rcS off n m off' n' m' xs ys (wI (maxI n n'-1)) []):=by kernel_rfl
def rcC (i:Int) (r:List (Bool×Bool)):List (Bool×Bool):=(Nat.ble (off+n) xs.length,true)::(hasB .i64 n,true)::(decide (0≤i),true)::(Nat.ble (off'+n') ys.length,true)::(hasB .i64 n',true)::(decide (0≤i),true)::r
theorem rc_same (i:Int):aSeg Tryz.prog (orc SX K0) (some 0) 100 2 rcK (rcS off n m off' n' m' xs ys i [true,false,false]) =
 some ((decide (0≤i),true)::rcC off n off' n' xs ys i ((decide (atV xs off n i<atV ys off' n' i),false)::rcC off n off' n' xs ys i [(decide (atV ys off' n' i<atV xs off n i),false)]),[],rcS off n m off' n' m' xs ys (wI (i-1)) []):=by kernel_rfl
theorem rc_lt (i:Int):segOut Tryz.prog (orc SX K0) Tryz.f200 100 2 [] (rcS off n m off' n' m' xs ys i [true,true]) =
 some ((decide (0≤i),true)::rcC off n off' n' xs ys i [(decide (atV xs off n i<atV ys off' n' i),true)],[],.val false [.n .i64 (-1)],[]):=by kernel_rfl
theorem rc_gt (i:Int):segOut Tryz.prog (orc SX K0) Tryz.f200 100 2 [] (rcS off n m off' n' m' xs ys i [true,false,true]) =
 some ((decide (0≤i),true)::rcC off n off' n' xs ys i ((decide (atV xs off n i<atV ys off' n' i),false)::rcC off n off' n' xs ys i [(decide (atV ys off' n' i<atV xs off n i),true)]),[],.val false [.n .i64 1],[]):=by kernel_rfl
theorem rc_end (i:Int):segOut Tryz.prog (orc SX K0) Tryz.f200 100 2 [] (rcS off n m off' n' m' xs ys i [false]) =
 some ([(decide (0≤i),false)],[],.val false [.n .i64 0],[]):=by kernel_rfl
end
theorem rcmp_can {off n m off' n' m':Nat} {xs ys:List Int} (hx:∀ d∈xs,0≤d∧d<18446744073709551616) (hy:∀ d∈ys,0≤d∧d<18446744073709551616) (hl:off+n≤xs.length) (hl':off'+n'≤ys.length)
  (hn:hasB .i64 n=true) (hn':hasB .i64 n'=true):CanOk Tryz.prog 200 (sl2 off n m off' n' m') (seqH2 xs ys) 2 [] (.val false [.v (.int .i64 (cmpI (natL (win xs off n)) (natL (win ys off' n'))))]) []:=by
 refine can_entry (path:=[]) Tryz.func200 (by kernel_rfl) (by kernel_rfl) fun β0 w0 hb=>?_
 refine seg_safe (orc_ok SXok K0ok) mixed (rc_entry off n m off' n' m' xs ys) ⟨hn,hn',trivial⟩ (wfB_ok (by kernel_rfl)) hb (fun _ h=>by cases h) fun _=>?_
 have bn:n≤9223372036854775807:=by simp only [hasB,Bool.and_eq_true,decide_eq_true_eq] at hn;omega
 have bn':n'≤9223372036854775807:=by simp only [hasB,Bool.and_eq_true,decide_eq_true_eq] at hn';omega
 have e:wI (maxI n n'-1)=((max n n':Nat):Int)-1:=by
  have:maxI n n'=((max n n':Nat):Int):=by unfold maxI;split<;>omega
  rw [this,wI_eq (by omega)]
 rw [e]
 have loop:∀ c,c≤max n n'→natL (win xs off n) / 2^(64*c)=natL (win ys off' n') / 2^(64*c) →
   ASafe Tryz.prog 200 β0 w0 (Outs β0 w0 [] (.val false [.v (.int .i64 (cmpI (natL (win xs off n)) (natL (win ys off' n'))))]) []) Tryz.f200.ntmps [] (rcS off n m off' n' m' xs ys ((c:Int)-1) []):=by
  intro c
  induction c with
  | zero =>
   intro _ heq
   rw [Nat.mul_zero,Nat.pow_zero,Nat.div_one,Nat.div_one] at heq
   have h:=out_safe (w0:=w0) (W:=[]) (n:=Tryz.f200.ntmps) (orc_ok SXok K0ok) mixed Tryz.func200 (rc_end off n m off' n' m' xs ys (((0:Nat):Int)-1)) ⟨rfl,trivial⟩ (wfB_ok (by kernel_rfl)) hb (fun _ h=>by cases h)
   exact path_safe [false] (asafe_val h fun _ _=>nval (by unfold cmpI;rw [heq];simp))
  | succ c ih =>
   intro hc heq
   have hi:((c+1:Nat):Int)-1=(c:Int):=by omega
   rw [hi]
   have sx:=natL_split (win_has (off:=off) (n:=n) hx) c
   have sy:=natL_split (win_has (off:=off') (n:=n') hy) c
   have bx:=getD_bd (win_has (off:=off) (n:=n) hx) c
   have byy:=getD_bd (win_has (off:=off') (n:=n') hy) c
   have ex:atV xs off n c=(win xs off n).getD c 0:=by unfold atV;rw [Int.toNat_natCast]
   have ey:atV ys off' n' c=(win ys off' n').getD c 0:=by unfold atV;rw [Int.toNat_natCast]
   have hC:∀ r,okConds r→okConds (rcC off n off' n' xs ys c r):=fun r hr=>⟨Nat.ble_eq_true_of_le hl,hn,by simp,Nat.ble_eq_true_of_le hl',hn',by simp,hr⟩
   by_cases hlt:atV xs off n c<atV ys off' n' c
   ·have h:=out_safe (w0:=w0) (W:=[]) (n:=Tryz.f200.ntmps) (orc_ok SXok K0ok) mixed Tryz.func200 (rc_lt off n m off' n' m' xs ys c) ⟨by simp,hC _ ⟨decide_eq_true hlt,trivial⟩⟩ (wfB_ok (by kernel_rfl)) hb (fun _ h=>by cases h)
    refine path_safe [true,true] (asafe_val h fun _ _=>nval ?_)
    have:natL (win xs off n)<natL (win ys off' n'):=ltdiv (Q:=2^(64*c)) (by rw [sx,sy,heq];omega)
    unfold cmpI;rw [if_pos this]
   ·by_cases hgt:atV ys off' n' c<atV xs off n c
    ·have h:=out_safe (w0:=w0) (W:=[]) (n:=Tryz.f200.ntmps) (orc_ok SXok K0ok) mixed Tryz.func200 (rc_gt off n m off' n' m' xs ys c) ⟨by simp,hC _ ⟨decide_eq_false hlt,hC _ ⟨decide_eq_true hgt,trivial⟩⟩⟩ (wfB_ok (by kernel_rfl)) hb (fun _ h=>by cases h)
     refine path_safe [true,false,true] (asafe_val h fun _ _=>nval ?_)
     have:natL (win ys off' n')<natL (win xs off n):=ltdiv (Q:=2^(64*c)) (by rw [sx,sy,heq];omega)
     unfold cmpI;rw [if_neg (by omega),if_pos this]
    ·refine path_safe [true,false,false] (seg_safe (orc_ok SXok K0ok) mixed (rc_same ..) ⟨by simp,hC _ ⟨decide_eq_false hlt,hC _ ⟨decide_eq_false hgt,trivial⟩⟩⟩ (wfB_ok (by kernel_rfl)) hb (fun _ h=>by cases h) fun _=>?_)
     rw [wI_eq (z:=(c:Int)-1) (by omega)]
     exact ih (by omega) (by rw [sx,sy,heq];omega)
 refine loop _ (Nat.le_refl _) ?_
 have big:∀ (zs:List Int) (of k:Nat),(∀ d∈zs,0≤d∧d<18446744073709551616)→k≤max n n'→natL (win zs of k) / 2^(64*max n n')=0:=by
  intro zs of k hz hk
  refine Nat.div_eq_of_lt (Nat.lt_of_lt_of_le (natL_lt _ (win_has hz)) (Nat.pow_le_pow_right (by decide) ?_))
  have:(win zs of k).length≤k:=by unfold win;rw [List.length_take];omega
  omega
 rw [big xs off n hx (by omega),big ys off' n' hy (by omega)]
theorem rcmpSpec_ok:SpecOk Tryz.prog 200 cmpSpec:=by
 refine can_spec Tryz.func200 (by kernel_rfl) (by kernel_rfl) fun args H fr path r h=>?_
 unfold cmpSpec at h
 split at h
 case h_2=>cases h
 rename_i k off n m t off' n' m'
 split at h
 case h_2=>cases h
 rename_i ty cs o ty' ds o' hk ht
 split at h
 case h_2=>cases h
 rename_i xs ys hxs hys
 injection h with h
 refine ⟨[k,t],sl2 off n m off' n' m',seqH2 xs ys,2,0,[],_,[],_,path,h.symm,fun β us w ha hg hc=>?_⟩
 obtain ⟨u1,us1,r1,⟨u2,us2,r2,ha,rfl⟩,rfl⟩:=ha
 obtain ⟨g1,g1',g2,g3⟩:=good_seq2 hg hk ht hxs hys
 exact ⟨rcmp_can g1 g1' (Nat.le_of_ble_eq_true hc.1) (Nat.le_of_ble_eq_true hc.2.1) hc.2.2.1 hc.2.2.2.1,by kernel_rfl,⟨u1,_,r1,⟨u2,_,r2,ha,rfl⟩,rfl⟩,g2,g3⟩
noncomputable def roTodo:List Item:=todoOf (aSeg Tryz.prog (orc SX K0) (some 0) 100 1 none (entry Tryz.f113 [slA 0 0 0 0,iA 0] (seqH []) 1 []))
noncomputable def roT (off m c:Nat) (n:Int) (s:AV) (i:AV):List AV:=mkT Tryz.f113.ntmps [(0,slA 0 off m c),(1,iA n),(5,s),(6,i)]
def roH (xs:List Int) (ys:List Int):Heap:=[(0,some (roB [.seq .u64 xs])),(1,some ⟨5,[.seq .u8 ys],true⟩)]
noncomputable def roS (off m c:Nat) (n:Int) (xs:List Int) (L:Nat) (ys:List Int) (i:Int) (p:List Bool):ASt:=⟨roTodo,⟨roT off m c n (.val false [.sx 1 L 1]) (iA i),roH xs ys,2,p⟩⟩
theorem ro_entry (off m c:Nat) (n:Int) (xs:List Int):aSeg Tryz.prog (orc SX K0) (some 0) 100 1 (some ([0,1,5,6],[0],1)) (entry Tryz.f113 [slA 0 off m c,iA n] (seqH xs) 1 []) =
 some ([],[],⟨roTodo,⟨roT off m c n (.val false [.v (.slice none 0 0)]) (.val false [.n .i64 0]),seqH xs,1,[]⟩⟩):=by kernel_rfl
theorem ro_nil (off m c:Nat) (n:Int) (xs:List Int):(⟨roTodo,⟨(nilT 1 1 [5] 0 (roT off m c n (.val false [.v (.slice none 0 0)]) (.val false [.n .i64 0]))).map nvA,seqH xs++[(1,some ⟨5,[.seq .u8 []],true⟩)],1+1,[]⟩⟩:ASt)=roS off m c n xs 0 [] 0 []:=by kernel_rfl
def roV (xs:List Int) (off m:Nat) (k:Int):Int:=wrapc false .u8 (Int.fdiv (atV xs off m (wI (Int.tdiv k 8))) (2^min (wrapc false .u64 (wI (8*Int.tmod k 8))).toNat 64))
def roC (off m:Nat) (n:Int) (xs:List Int) (L:Nat) (ys:List Int) (i:Int):List (Bool×Bool):=[(decide (i<n),true),(true,true),(Nat.ble (off+m) xs.length,true),(hasB .i64 m,true),(decide (0≤wI (Int.tdiv (octK8 n i) 8)),true),
 (decide (0≤octK8 n i∧(0:Int)<8),true),(decide (0≤wrapc false .u64 (wI (8*Int.tmod (octK8 n i) 8))∧0≤atV xs off m (wI (Int.tdiv (octK8 n i) 8))),true),(Nat.ble L ys.length,true),(decide (1≤1∧2*(L+1)*1≤281474976710656),true)]
theorem ro_step (off m c:Nat) (n:Int) (xs:List Int) (L:Nat) (ys:List Int) (i:Int):aSeg Tryz.prog (orc SX K0) (some 0) 100 1 (some ([0,1,5,6],[0,3],4)) (roS off m c n xs L ys i [true]) =
 some (roC off m n xs L ys i,[],⟨roTodo,⟨renTs (rkey 1 [3]) (roT off m c n (.val false [.sx 1 (L+1) 1]) (iA (wI (i+1)))),renH (rkey 1 [3]) (roH xs (ys.take L++[roV xs off m (octK8 n i)])),4,[]⟩⟩):=by kernel_rfl
def roOut (ys:List Int):Heap:=[(1,some ⟨5,[.seq .u8 ys],true⟩)]
theorem ro_exit (off m c:Nat) (n:Int) (xs:List Int) (L:Nat) (ys:List Int) (i:Int):segOut Tryz.prog (orc SX K0) Tryz.f113 100 1 [1] (roS off m c n xs L ys i [false]) =
 some ([(decide (i<n),false)],[],.val false [.sx 1 L 1],roOut ys):=by kernel_rfl
theorem roV_eq {xs:List Int} {off m:Nat} (hx:∀ d∈xs,0≤d∧d<18446744073709551616) {k:Nat} (hk:k≤35184372088832):roV xs off m (k:Int)=byteN (natL (win xs off m)) k∧0≤atV xs off m (wI (Int.tdiv (k:Int) 8))∧0≤wrapc false .u64 (wI (8*Int.tmod (k:Int) 8)):=by
 have e2:wI (8*Int.tmod (k:Int) 8)=((8*(k % 8):Nat):Int):=by rw [tmod8,wI_eq (by omega)];omega
 have e3:wrapc false .u64 (wI (8*Int.tmod (k:Int) 8))=wI (8*Int.tmod (k:Int) 8):=by rw [e2,wrapc_eq,IntKind.wrap_u64];omega
 obtain ⟨h1,h2⟩:=octV_eq (off:=off) (m:=m) hx hk
 refine ⟨by unfold roV;rw [e3];exact h1,h2,by rw [e3,e2];omega⟩
theorem roct_can {off m c:Nat} {xs:List Int} (hx:∀ d∈xs,0≤d∧d<18446744073709551616) (hl:off+m≤xs.length) (hm:hasB .i64 m=true) {n:Nat} (hn:n≤35184372088832) :
  CanOk Tryz.prog 113 [slA 0 off m c,iA n] (seqH xs) 1 [] (.val false [.sx 1 n 1]) (roOut (octL (natL (win xs off m)) n)):=by
 refine can_entry (path:=[]) Tryz.func113 (by kernel_rfl) (by kernel_rfl) fun β0 w0 hb=>?_
 refine seg_safe (orc_ok SXok K0ok) mixed (ro_entry off m c n xs) trivial (wfB_ok (by kernel_rfl)) hb (fun _ h=>by cases h) fun _=>?_
 refine nil_safe (ts:=[5]) (sz:=1) (ty:=5) (kd:=.u8) rfl (hb 1 (Nat.le_refl _)) (nv_safe ?_)
 rw [ro_nil]
 have loop:∀ r i,i+r=n→ASafe Tryz.prog 113 β0 w0 (Outs β0 w0 [] (.val false [.sx 1 n 1]) (roOut (octL (natL (win xs off m)) n))) Tryz.f113.ntmps [] (roS off m c n xs i ((List.range i).map fun i=>byteN (natL (win xs off m)) (n-1-i)) i []):=by
  intro r
  induction r with
  | zero =>
   intro i hi
   obtain rfl:i=n:=by omega
   exact path_safe [false] (out_safe (orc_ok SXok K0ok) mixed Tryz.func113 (ro_exit ..) ⟨by simp,trivial⟩ (wfB_ok (by kernel_rfl)) hb (fun _ h=>by cases h))
  | succ r ih =>
   intro i hi
   have ek:octK8 (n:Int) i=((n-1-i:Nat):Int):=wI_k hn (by omega)
   have ev:=roV_eq (off:=off) (m:=m) hx (k:=n-1-i) (by omega)
   have ed:wI (Int.tdiv ((n-1-i:Nat):Int) 8)=(((n-1-i) / 8:Nat):Int):=by rw [tdiv8];exact wI_eq (by omega)
   refine path_safe [true] (seg_safe (orc_ok SXok K0ok) mixed (ro_step ..) ?_ (wfB_ok (by kernel_rfl)) hb (fun _ h=>by cases h) fun _=>?_)
   ·rw [roC,ek]
    refine ⟨by simp;omega,rfl,Nat.ble_eq_true_of_le hl,hm,by rw [ed];simp only [decide_eq_true_eq];omega,by simp,by simp only [decide_eq_true_eq];exact ⟨ev.2.2,ev.2.1⟩,by simp,by simp only [decide_eq_true_eq];omega,trivial⟩
   ·refine ren_safe (m:=2) (by kernel_rfl) hb ?_
    rw [ek,ev.1,wI_eq (z:=(i:Int)+1) (by omega),List.take_of_length_le (by simp)]
    have:=ih (i+1) (by omega)
    rw [List.range_succ,List.map_append] at this
    exact this
 exact loop n 0 (by omega)
def roctSpec:ASpec:=fun args H fr path =>
 match args with
 | [.val false [.sl k off m _],I]=>match asI (some I),hget H k with
  | some (_,.i64,i),some ⟨_,cs,_⟩=>match toSeq .u64 cs with
   | some xs=>some (trR [k] 1 fr 1 [] (.val false [.sx 1 i.toNat 1]) (roOut (octL (natL (win xs off m)) i.toNat)) [(Nat.ble (off+m) xs.length,true),(hasB .i64 m,true),(decide (0≤i∧i≤35184372088832),true)] path)
   | none=>none
  | _,_=>none
 | _=>none
theorem roctSpec_ok:SpecOk Tryz.prog 113 roctSpec:=by
 refine can_spec Tryz.func113 (by kernel_rfl) (by kernel_rfl) fun args H fr path r h=>?_
 unfold roctSpec at h
 split at h
 case h_2=>cases h
 rename_i k off m c I
 split at h
 case h_2=>cases h
 rename_i c0 i ty cs o hI hk
 split at h
 case h_2=>cases h
 rename_i xs hxs
 injection h with h
 refine ⟨[k],[slA 0 off m c,iA i],seqH xs,1,1,[],_,_,_,path,h.symm,fun β us w ha hg hc=>?_⟩
 obtain ⟨u1,us1,r1,⟨u2,us2,r2,ha,rfl⟩,rfl⟩:=ha
 obtain ⟨g1,g2,g3⟩:=good_seq hg hk hxs
 obtain ⟨rfl,p1⟩:=asI_rel (β:=β) (u:=u2) (fun A hA=>by injection hA with hA;subst hA;exact r2) hI
 have hi:=hc.2.2.1
 simp only [decide_eq_true_eq] at hi
 obtain ⟨n,rfl⟩:=Int.eq_ofNat_of_zero_le hi.1
 exact ⟨roct_can g1 (Nat.le_of_ble_eq_true hc.1) hc.2.1 (by omega),by kernel_rfl,⟨u1,_,r1,⟨_,us2,rel_one' ⟨rfl,rfl,p1⟩,ha,rfl⟩,rfl⟩,g2,g3⟩
noncomputable def rwTodo:List Item:=todoOf (aSeg Tryz.prog (orc SX K0) (some 0) 100 1 none (entry Tryz.f111 [slA 0 0 0 0] (byH []) 1 []))
noncomputable def rwS (off n c:Nat) (xs:List Int) (L:Nat) (ys:List Int) (i:AV) (p:List Bool):ASt:=⟨rwTodo,⟨mkT Tryz.f111.ntmps [(0,slA 0 off n c),(3,slA 1 0 L L),(4,i)],[(0,some (roB [.seq .u8 xs])),(1,some ⟨33,[.seq .u64 ys],false⟩)],2,p⟩⟩
abbrev rwK':Option (List Nat×List Nat×Nat):=some ([0,3,4],[0,1],2)
theorem rw_entry (off n c:Nat) (xs:List Int):aSeg Tryz.prog (orc SX K0) (some 0) 100 1 rwK' (entry Tryz.f111 [slA 0 off n c] (byH xs) 1 []) =
 some ([(hasB .i64 n,true),(true,true),(mkC (wI (Int.tdiv (wI ((n:Int)+7)) 8)) 8,true)],[],rwS off n c xs (wrdL n) (List.replicate (wrdL n) 0) (.val false [.n .i64 0]) []):=by kernel_rfl
def rwX (xs:List Int) (off:Nat) (n:Int) (i:Int):Int:=IntKind.u64.wrap (wrapc false .u64 (xs.getD (off+i.toNat*1) 0)*2^min (wrapc false .u64 (wI (8*Int.tmod (octK8 n i) 8))).toNat 64)
def rwV (xs:List Int) (off:Nat) (n:Int) (ys:List Int) (i:Int):Int:=IntKind.u64.wrap (ys.getD (0+(wrdJ n i).toNat*1) 0+rwX xs off n i)
def rwC (off n:Nat) (xs:List Int) (L:Nat) (ys:List Int) (i:Int):List (Bool×Bool):=[(hasB .i64 n,true),(decide (i<n),true),(hasB .i64 n,true),(true,true),(true,true),(decide (0≤wrdJ n i∧wrdJ n i<L),true),(decide (0+(wrdJ n i).toNat*1<ys.length),true),
 (decide (0≤i∧i<n),true),(decide (off+i.toNat*1<xs.length),true),(decide (0≤octK8 n i∧(0:Int)<8),true),(decide (0≤wrapc false .u64 (wI (8*Int.tmod (octK8 n i) 8))),true),(decide (0≤wrdJ n i∧wrdJ n i<L),true),(decide (0+(wrdJ n i).toNat*1<ys.length),true)]
theorem rw_step (off n c:Nat) (xs:List Int) (L:Nat) (ys:List Int) (i:Int):aSeg Tryz.prog (orc SX K0) (some 0) 100 1 rwK' (rwS off n c xs L ys (iA i) [true]) =
 some (rwC off n xs L ys i,[],rwS off n c xs L (ys.set (0+(wrdJ n i).toNat*1) (rwV xs off n ys i)) (iA (wI (i+1))) []):=by kernel_rfl
theorem rw_exit (off n c:Nat) (xs:List Int) (L:Nat) (ys:List Int) (i:Int):segOut Tryz.prog (orc SX K0) Tryz.f111 100 1 [1] (rwS off n c xs L ys (iA i) [false]) =
 some ([(hasB .i64 n,true),(decide (i<n),false)],[],slA 1 0 L L,wrdH ys):=by kernel_rfl
theorem rwrd_can {off n c:Nat} {xs:List Int} (hx:∀ d∈xs,0≤d∧d<256) (hl:off+n≤xs.length) (hn:n≤35184372088832) :
  CanOk Tryz.prog 111 [slA 0 off n c] (byH xs) 1 [] (slA 1 0 ((n+7) / 8) ((n+7) / 8)) (wrdN (natB (win xs off n)) ((n+7) / 8)):=by
 have hlen:(win xs off n).length=n:=by unfold win;rw [List.length_take,List.length_drop];omega
 have hfin:natB (win xs off n)<2^(64*((n+7) / 8)):=by
  have h1:=natB_lt (win xs off n) (win_has hx)
  rw [hlen,p256] at h1
  exact Nat.lt_of_lt_of_le h1 (Nat.pow_le_pow_right (by decide) (by omega))
 refine can_entry (path:=[]) Tryz.func111 (by kernel_rfl) (by kernel_rfl) fun β0 w0 hb=>?_
 obtain ⟨l1,l2⟩:=wrdL_eq hn
 have hw:hasB .i64 (n:Int)=true:=by simp only [hasB,Bool.and_eq_true,decide_eq_true_eq];omega
 refine seg_safe (orc_ok SXok K0ok) mixed (rw_entry off n c xs) ⟨hw,rfl,?_,trivial⟩ (wfB_ok (by kernel_rfl)) hb (fun _ h=>by cases h) fun _=>?_
 ·rw [l2];unfold mkC;simp only [decide_eq_true_eq];omega
 ·rw [l1]
  refine nv_safe ?_
  have hbd:∀ d∈win xs off n,0≤d∧d<256:=win_has hx
  have loop:∀ r i,i+r=n→ASafe Tryz.prog 111 β0 w0 (Outs β0 w0 [] (slA 1 0 ((n+7) / 8) ((n+7) / 8)) (wrdH (wordL (natB (win xs off n)) ((n+7) / 8)))) Tryz.f111.ntmps []
    (rwS off n c xs ((n+7) / 8) (wordL (natB ((win xs off n).take i)*256^(n-i)) ((n+7) / 8)) (iA i) []):=by
   intro r
   induction r with
   | zero =>
    intro i hi
    obtain rfl:i=n:=by omega
    rw [Nat.sub_self,Nat.pow_zero,Nat.mul_one,List.take_of_length_le (by omega)]
    exact path_safe [false] (out_safe (orc_ok SXok K0ok) mixed Tryz.func111 (rw_exit ..) ⟨hw,by simp,trivial⟩ (wfB_ok (by kernel_rfl)) hb (fun _ h=>by cases h))
   | succ r ih =>
    intro i hi
    have ek:octK8 (n:Int) i=((n-1-i:Nat):Int):=wI_k hn (by omega)
    have ej:wrdJ (n:Int) i=(((n-1-i) / 8:Nat):Int):=by unfold wrdJ;rw [ek,tdiv8];exact wI_eq (by omega)
    have em:wI (8*Int.tmod ((n-1-i:Nat):Int) 8)=((8*((n-1-i) % 8):Nat):Int):=by rw [tmod8,wI_eq (by omega)];omega
    have em':wrapc false .u64 (wI (8*Int.tmod ((n-1-i:Nat):Int) 8))=((8*((n-1-i) % 8):Nat):Int):=by rw [em,wrapc_eq,IntKind.wrap_u64];omega
    have hjL:(n-1-i) / 8<(n+7) / 8:=by omega
    have hlenw:∀ N,(wordL N ((n+7) / 8)).length=(n+7) / 8:=fun N=>by simp [wordL]
    have hwx:xs.getD (off+i) 0=(win xs off n).getD i 0:=(bit_word (by omega)).symm
    have hxb:0≤(win xs off n).getD i 0∧(win xs off n).getD i 0<256:=by
     rw [List.getD_eq_getElem?_getD]
     cases h':(win xs off n)[i]? with
     | none=>simp
     | some d=>exact hbd d (List.mem_of_getElem? h')
    refine path_safe [true] (seg_safe (orc_ok SXok K0ok) mixed (rw_step ..) ?_ (wfB_ok (by kernel_rfl)) hb (fun _ h=>by cases h) fun _=>?_)
    ·unfold rwC
     rw [ej,ek,em',hlenw]
     refine ⟨hw,by simp;omega,hw,rfl,rfl,by simp only [decide_eq_true_eq];omega,by simp only [decide_eq_true_eq];omega,by simp only [decide_eq_true_eq];omega,by simp;omega,by simp only [decide_eq_true_eq];omega,by simp only [decide_eq_true_eq];omega,by simp only [decide_eq_true_eq];omega,by simp only [decide_eq_true_eq];omega,trivial⟩
    ·have hset:((wordL (natB ((win xs off n).take i)*256^(n-i)) ((n+7) / 8)).set (0+(wrdJ n i).toNat*1) (rwV xs off n (wordL (natB ((win xs off n).take i)*256^(n-i)) ((n+7) / 8)) i)) =
       wordL (natB ((win xs off n).take (i+1))*256^(n-(i+1))) ((n+7) / 8):=by
      have ei:0+(((n-1-i) / 8:Nat):Int).toNat*1=(n-1-i) / 8:=by omega
      have eo:off+(i:Int).toNat*1=off+i:=by omega
      unfold rwV rwX
      rw [ej,ek,em',ei,eo,hwx,wordL_getD hjL]
      obtain ⟨X,hX⟩:=Int.eq_ofNat_of_zero_le hxb.1
      have hX2:X<256:=by omega
      rw [hX,wrapc_eq,IntKind.wrap_u64,IntKind.wrap_u64,IntKind.wrap_u64,Int.toNat_natCast,Nat.min_eq_left (by omega)]
      have en:n-i=(n-1-i)+1:=by omega
      have en':n-(i+1)=n-1-i:=by omega
      have et:natB ((win xs off n).take (i+1))*256^(n-(i+1))=natB ((win xs off n).take i)*256^(n-1-i+1)+X*256^(n-1-i):=by
       rw [natB_take (by omega),hX,Int.toNat_natCast,en',Nat.add_mul,Nat.mul_assoc,← Nat.pow_succ']
      rw [et,en]
      obtain ⟨hh,B,w1,w2,w3,w4,w5⟩:=word_more (M:=natB ((win xs off n).take i)) (k:=n-1-i) hX2
      have hle:8*((n-1-i) % 8)+8≤64:=by omega
      have hs64:hh*2^(8*((n-1-i) % 8)+8)+B<18446744073709551616:=by
       have:=Nat.mod_lt ((natB ((win xs off n).take i)*256^(n-1-i+1)+X*256^(n-1-i)) / 2^(64*((n-1-i) / 8))) (show 0<2^64 by decide)
       rw [w5] at this
       exact this
      refine wordL_set ?_ fun j hj=>?_
      ·have hB64:X*2^(8*((n-1-i) % 8))<2^64:=by
        rw [w2];exact Nat.lt_of_lt_of_le w3 (Nat.pow_le_pow_right (by decide) hle)
       have ex:((X:Int) % 18446744073709551616*2^(8*((n-1-i) % 8))) % 18446744073709551616=(B:Int):=by
        have a1:((X:Int) % 18446744073709551616)=(X:Int):=by omega
        have a2:((X:Int)*2^(8*((n-1-i) % 8)))=((X*2^(8*((n-1-i) % 8)):Nat):Int):=by rw [Int.natCast_mul,Int.natCast_pow];rfl
        rw [a1,a2,w2]
        rw [w2] at hB64
        have:B<18446744073709551616:=hB64
        omega
       rw [ex]
       unfold wordN
       rw [w5,w1]
       omega
      ·unfold wordN
       rw [word_same hX2 hj]
     rw [hset,wI_eq (z:=(i:Int)+1) (by omega)]
     exact ih (i+1) (by omega)
  have:=loop n 0 (by omega)
  rw [List.take_zero,show natB []=0 from rfl,Nat.zero_mul,wordL_zero] at this
  exact asafe_outs this fun e w h=>outs_block1 (seq_words hfin) h
theorem rwrdSpec_ok:SpecOk Tryz.prog 111 wrdSpec:=by
 refine can_spec Tryz.func111 (by kernel_rfl) (by kernel_rfl) fun args H fr path r h=>?_
 unfold wrdSpec at h
 split at h
 case h_2=>cases h
 rename_i k off n c
 split at h
 case h_2=>cases h
 rename_i ty cs o hk
 split at h
 case h_2=>cases h
 rename_i xs hxs
 injection h with h
 refine ⟨[k],[slA 0 off n c],byH xs,1,1,[],_,_,_,path,h.symm,fun β us w ha hg hc=>?_⟩
 obtain ⟨u1,us1,r1,ha,rfl⟩:=ha
 obtain ⟨g1,g2,g3⟩:=good_by hg hk hxs
 exact ⟨rwrd_can g1 (Nat.le_of_ble_eq_true hc.1) (Nat.le_of_ble_eq_true hc.2.1),by kernel_rfl,⟨u1,_,r1,ha,rfl⟩,g2,g3⟩
noncomputable def SY:List (FuncId×ASpec):=(200,cmpSpec)::(113,roctSpec)::(111,wrdSpec)::SX
theorem SYok:SpecsOk Tryz.prog SY:=⟨rcmpSpec_ok,roctSpec_ok,rwrdSpec_ok,SXok⟩
end Go.Proofs.YtfmajnlfpnjagaaGreat
/- sigilref04: Inv, Bytes, FromBytes: the contracts; nil arguments. -/
namespace Go.Proofs.YtfmajnlfpnjagaaGreat
open Ex Num
set_option maxRecDepth 100000
set_option maxHeartbeats 4000000
def PM2:List Int:=[0xb9feffffffffaaa9,0x1eabfffeb153ffff,0x6730d2a0f6b0f624,0x64774b84f38512bf,0x4b1ba7b6434bacd7,0x1a0111ea397fe69a]
theorem natL_PM2:natL (win PM2 0 6)=pN-2:=by kernel_rfl
theorem rinv_run (x:Nat):pureRun Tryz.prog (orc SY K0) Tryz.f124 [num6 x] [] 300=some (allT 2,num6 (powN x (natL (win PM2 0 6)))):=by kernel_rfl
theorem rinv_ok (x:Nat):PureOk Tryz.prog 124 [num6 x] (num6 (invN x)):=by
 have h:=pure_ok (orc_ok SYok K0ok) mixed Tryz.func124 (rinv_run x) (allT_ok 2) rfl
 rw [natL_PM2] at h
 exact h
theorem rbytes_run (a:Nat):pureRun Tryz.prog (orc SY K0) Tryz.f208 [num6 a] [] 3000=some (allT 99,.val true ((octL (natL (win (ws6 (a % pN)) 0 6)) 48).map fun d=>.v (.int .u8 d))):=by kernel_rfl
theorem by_seq {β:Env}:∀ {ds:List Int} {l:List Value},relL β (ds.map fun d=>.v (.int .u8 d)) l→relL β [.seq .u8 ds] l
 | ds,l,h=>by
  have key:∀ (ds:List Int) (l:List Value),relL β (ds.map fun d=>.v (.int .u8 d)) l→l=ds.map (.int .u8)∧∀ d∈ds,has .u8 d:=by
   intro ds
   induction ds with
   | nil=>intro l h;exact ⟨h,by simp⟩
   | cons d r ih =>
    rintro l ⟨l1,l2,⟨h1,h2⟩,h3,h4⟩
    obtain ⟨i1,i2⟩:=ih l2 h3
    subst h1;subst i1;subst h4
    refine ⟨rfl,fun x hx=>?_⟩
    rcases List.mem_cons.1 hx with rfl | hx
    ·exact h2.2
    ·exact i2 x hx
  obtain ⟨h1,h2⟩:=key ds l h
  exact ⟨l,[],⟨h1,h2⟩,rfl,by simp⟩
theorem rbytes_ok (a:Nat):PureOk Tryz.prog 208 [num6 a] (bytesA (a % pN)):=by
 have h:=pure_ok (orc_ok SYok K0ok) mixed Tryz.func208 (rbytes_run a) (allT_ok 99) rfl
 rw [natL_ws6 (lt_RR_mod a)] at h
 exact pure_val h fun u ⟨l,q,e⟩=>⟨l,by_seq q,e⟩
theorem rfb_len (off n m:Nat) (xs:List Int):segOut Tryz.prog (orc SY K0) Tryz.f209 300 1 [] (entry Tryz.f209 [slA 0 off n m] (byH xs) 1 [true]) =
 some ([(hasB .i64 n,true),(!decide ((n:Int)=48),true)],[],fb0 40,[]):=by kernel_rfl
def rfC (N:Nat):Bool:=decide (0≤cmpI (natL (win (ws6 N) 0 6)) (natL (win PL 0 6)))
theorem rfb_range (off m:Nat) (xs:List Int):segOut Tryz.prog (orc SY K0) Tryz.f209 300 1 [] (entry Tryz.f209 [slA 0 off 48 m] (byH xs) 1 [false,true]) =
 some ([(true,true),(false,false),(Nat.ble (off+48) xs.length,true),(true,true),(true,true),(true,true),(true,true),(true,true),(rfC (natB (win xs off 48)),true)],[],fb0 41,[]):=by kernel_rfl
theorem rfb_num (off m:Nat) (xs:List Int):segOut Tryz.prog (orc SY K0) Tryz.f209 300 1 [] (entry Tryz.f209 [slA 0 off 48 m] (byH xs) 1 [false,false]) =
 some ([(true,true),(false,false),(Nat.ble (off+48) xs.length,true),(true,true),(true,true),(true,true),(true,true),(true,true),(rfC (natB (win xs off 48)),false),(true,true),(true,true)],[],
  .tup [(true,[.num 6 (natL (win (ws6 (natB (win xs off 48))) 0 6) % pN)]),(false,[.n .i64 0])],[]):=by kernel_rfl
theorem rfC_eq {N:Nat} (hN:N<RR):rfC N=!decide (N<pN):=by
 unfold rfC
 rw [natL_ws6 hN,natL_PL]
 unfold cmpI
 by_cases h:N<pN
 ·rw [if_pos h,decide_eq_true h];rfl
 ·rw [if_neg h,decide_eq_false h];split<;>rfl
theorem rfb_can {off n m:Nat} {xs:List Int} (hx:∀ d∈xs,0≤d∧d<256) (hl:off+n≤xs.length) (hn:hasB .i64 n=true) :
  CanOk Tryz.prog 209 [slA 0 off n m] (byH xs) 1 [] (fbA n (natB (win xs off n))) []:=by
 by_cases h:n=48
 ·subst h
  have hR:natB (win xs off 48)<RR:=by
   have h1:=natB_lt (win xs off 48) (win_has hx)
   have h2:(win xs off 48).length=48:=by unfold win;rw [List.length_take,List.length_drop];omega
   rw [h2] at h1
   exact Nat.lt_of_lt_of_eq h1 (by kernel_rfl)
  by_cases hN:natB (win xs off 48)<pN
  ·refine can_val (can_entry (path:=[false,false]) Tryz.func209 (by kernel_rfl) (by kernel_rfl) fun β0 w0 hb =>
    out_safe (orc_ok SYok K0ok) mixed Tryz.func209 (rfb_num off m xs) ⟨rfl,rfl,Nat.ble_eq_true_of_le hl,rfl,rfl,rfl,rfl,rfl,by rw [rfC_eq hR,decide_eq_true hN];rfl,rfl,rfl,trivial⟩ (wfB_ok (by kernel_rfl)) hb (fun _ h=>by cases h)) fun β u hu=>?_
   unfold fbA fbV fbE
   rw [if_pos ⟨rfl,hN⟩,if_pos rfl,if_pos hN]
   rw [natL_ws6 hR,Nat.mod_eq_of_lt hN] at hu
   exact relT2 (fun _ q=>q) (fun _ q=>gval rfl q) hu
  ·refine can_val (can_entry (path:=[false,true]) Tryz.func209 (by kernel_rfl) (by kernel_rfl) fun β0 w0 hb =>
    out_safe (orc_ok SYok K0ok) mixed Tryz.func209 (rfb_range off m xs) ⟨rfl,rfl,Nat.ble_eq_true_of_le hl,rfl,rfl,rfl,rfl,rfl,by rw [rfC_eq hR,decide_eq_false hN];rfl,trivial⟩ (wfB_ok (by kernel_rfl)) hb (fun _ h=>by cases h)) fun β u hu=>?_
   unfold fbA fbV fbE
   rw [if_neg (fun q=>hN q.2),if_pos rfl,if_neg hN]
   exact relT2 (fun _ q=>zero_num q) (fun _ q=>gval rfl q) hu
 ·refine can_val (can_entry (path:=[true]) Tryz.func209 (by kernel_rfl) (by kernel_rfl) fun β0 w0 hb =>
   out_safe (orc_ok SYok K0ok) mixed Tryz.func209 (rfb_len off n m xs) ⟨hn,by simp;omega,trivial⟩ (wfB_ok (by kernel_rfl)) hb (fun _ h=>by cases h)) fun β u hu=>?_
  unfold fbA fbV fbE
  rw [if_neg (fun q=>h q.1),if_neg h]
  exact relT2 (fun _ q=>zero_num q) (fun _ q=>gval rfl q) hu
theorem fbSpec_ok:SpecOk Tryz.prog 144 (bySpec fun n l=>fbA n (natB l)):=bySpec_ok Tryz.func144 (by kernel_rfl) (by kernel_rfl) (fun _ _=>rfl) (fun _ _ _ _ _ hl hn=>fb_can hl hn)
noncomputable def SZ:List (FuncId×ASpec):=(124,pureSpec (sp1 fun x=>num6 (invN x)))::(208,pureSpec (sp1 fun x=>bytesA (x % pN)))::(209,nilSpec (bySpec fun n l=>fbA n (natB l)))::(144,nilSpec (bySpec fun n l=>fbA n (natB l)))::(217,nilSpec powSpec)::(204,nilSpec powSpec)::(256,nilSpec (wdSpec fun _ l=>num6 (natL l % pN)))::SY
theorem SZok:SpecsOk Tryz.prog SZ:=⟨pureSpec_ok Tryz.func124 (by kernel_rfl) (by kernel_rfl) (sp1_ok fun x _=>rinv_ok x),pureSpec_ok Tryz.func208 (by kernel_rfl) (by kernel_rfl) (sp1_ok fun x _=>rbytes_ok x),nilSpec_ok (bySpec_ok Tryz.func209 (by kernel_rfl) (by kernel_rfl) (fun _ _=>rfl) (fun _ _ _ _ hx hl hn=>rfb_can hx hl hn)),nilSpec_ok fbSpec_ok,nilSpec_ok powSpec_ok,nilSpec_ok rpowSpec_ok,nilSpec_ok (wdSpec_ok Tryz.func256 (by kernel_rfl) (by kernel_rfl) (fun _ _=>rfl) (fun _ _ _ _ hx hl hn=>wide_can hx hl hn)),SYok⟩
end Go.Proofs.YtfmajnlfpnjagaaGreat
/- Octets of numbers, and numbers of octets. -/
namespace Go.Proofs.YtfmajnlfpnjagaaGreat
open Ex
set_option maxRecDepth 100000
set_option maxHeartbeats 4000000
theorem octL_length (x n:Nat):(octL x n).length=n:=by simp [octL]
theorem octL_succ (x n:Nat):octL x (n+1)=byteN x n::octL x n:=by
 unfold octL
 rw [List.range_succ_eq_map,List.map_cons,List.map_map]
 congr 1
 refine List.map_congr_left fun i hi=>?_
 have:i<n:=List.mem_range.1 hi
 simp only [Function.comp]
 congr 1;omega
theorem natB_octL:∀ (n x:Nat),natB (octL x n)=x % 256^n
 | 0,x=>by simp [octL,natB,Nat.mod_one]
 | n+1,x=>by
  rw [octL_succ]
  simp only [natB]
  rw [octL_length,natB_octL n x,Nat.pow_succ,Nat.mod_mul]
  unfold byteN
  rw [Int.toNat_natCast,Nat.mul_comm,Nat.add_comm]
theorem octL_natB:∀ (l:List Int),(∀ d∈l,0≤d∧d<256)→octL (natB l) l.length=l
 | [],_=>rfl
 | d::r,h=>by
  have hd:=h d (by simp)
  have hr:∀ d∈r,0≤d∧d<256:=fun x hx=>h x (by simp [hx])
  have hlt:=natB_lt r hr
  have ih:=octL_natB r hr
  rw [List.length_cons,octL_succ]
  have e1:byteN (natB (d::r)) r.length=d:=by
   unfold byteN
   simp only [natB]
   rw [Nat.mul_comm,Nat.mul_add_div (Nat.pow_pos (by decide)),Nat.div_eq_of_lt hlt]
   omega
  have e2:octL (natB (d::r)) r.length=octL (natB r) r.length:=by
   unfold octL
   refine List.map_congr_left fun i hi=>?_
   have hi':i<r.length:=List.mem_range.1 hi
   unfold byteN
   simp only [natB]
   have e:256^r.length=256^(r.length-1-i)*(256*256^i):=by
    rw [← Nat.pow_succ',← Nat.pow_add];congr 1;omega
   rw [e,Nat.mul_left_comm,Nat.mul_add_div (Nat.pow_pos (by decide)),Nat.mul_left_comm d.toNat,Nat.mul_add_mod]
  rw [e1,e2,ih]
end Go.Proofs.YtfmajnlfpnjagaaGreat
/- What comes in with the call of a law: lists of numbers too. -/
namespace Go.Proofs.YtfmajnlfpnjagaaGreat
open Ex
open Go.RowKit (Below)
set_option maxRecDepth 100000
set_option maxHeartbeats 4000000
def locEnv (ls:List Ex.Loc):Env:=fun k=>ls[k]?
theorem locEnv_le (ls:List Ex.Loc) (L:Ex.Loc):Env.le (locEnv ls) (locEnv (ls++[L])):=fun b X h=>by
 have hb:b<ls.length:=by
  rcases Nat.lt_or_ge b ls.length with q | q
  ·exact q
  ·simp only [locEnv] at h;rw [List.getElem?_eq_none q] at h;cases h
 simp only [locEnv] at h ⊢
 rw [List.getElem?_append_left hb];exact h
theorem locEnv_last (ls:List Ex.Loc) (L:Ex.Loc):locEnv (ls++[L]) ls.length=some L:=by simp [locEnv]
structure ArgsOk (W:World) (ls:List Ex.Loc) (bs:List Blk):Prop where
 len:ls.length=bs.length
 blk:∀ (j:Nat) (b:Blk),bs[j]? = some b→b.ty=roTy∧relB (locEnv ls) b j W
 lt:∀ (j B:Nat) (n:Nat×Nat),ls[j]? = some (Ex.Loc.at_ B n)→B<W.heap.size
theorem ArgsOk.nil (W:World):ArgsOk W [] []:=⟨rfl,fun j b h=>by simp at h,fun j B n h=>by simp at h⟩
theorem ArgsOk.good {W:World} {ls:List Ex.Loc} {bs:List Blk} (h:ArgsOk W ls bs):Ex.Good (locEnv ls) (enumH 0 bs) W:=by
 refine ⟨fun b blk hb=>?_,fun b b' B n n' h1 _ _ _=>?_,fun b B n hb=>h.lt b B n hb⟩
 ·obtain ⟨_,hj⟩:=hget_enum hb
  exact (h.blk b blk (by simpa using hj)).2
 ·obtain ⟨d,hd,hr⟩:=rwK_some h1
  obtain ⟨_,hj⟩:=hget_enum hd
  exact absurd (h.blk b d (by simpa using hj)).1 hr
theorem ArgsOk.none {W:World} {ls:List Ex.Loc} {bs:List Blk} (h:ArgsOk W ls bs):∀ b,bs.length≤b→locEnv ls b=none:=fun b hb=>by
 simp only [locEnv]
 rw [List.getElem?_eq_none (by rw [h.len];exact hb)]
theorem ArgsOk.snoc {W:World} {ls:List Ex.Loc} {bs:List Blk} (h:ArgsOk W ls bs) {L:Ex.Loc} {b:Blk} (hb:relB (locEnv (ls++[L])) b ls.length W) (hr:b.ty=roTy) (hl:∀ B n,L=Ex.Loc.at_ B n→B<W.heap.size):ArgsOk W (ls++[L]) (bs++[b]):=by
 refine ⟨by simp [h.len],fun j d hd=>?_,fun j B n hj=>?_⟩
 ·rcases Nat.lt_or_ge j bs.length with q | q
  ·rw [List.getElem?_append_left q] at hd
   exact ⟨(h.blk j d hd).1,relB_mono (locEnv_le ls L) (h.blk j d hd).2⟩
  ·rw [List.getElem?_append_right q] at hd
   have e:j=bs.length:=by
    rcases Nat.eq_or_lt_of_le q with q' | q'
    ·exact q'.symm
    ·rw [List.getElem?_eq_none (by simp;omega)] at hd;cases hd
   subst e
   simp at hd
   subst hd
   exact ⟨hr,by rw [← h.len];exact hb⟩
 ·rcases Nat.lt_or_ge j ls.length with q | q
  ·rw [List.getElem?_append_left q] at hj;exact h.lt j B n hj
  ·rw [List.getElem?_append_right q] at hj
   have e:j-ls.length=0:=by
    rcases Nat.eq_zero_or_pos (j-ls.length) with q' | q'
    ·exact q'
    ·rw [List.getElem?_eq_none (by simp;omega)] at hj;cases hj
   rw [e] at hj
   simp at hj
   exact hl B n hj
theorem rowAt_le {P:Program} {fits:TypeId→Bool}:∀ (d:Nat) {e:TypeId} {count off n:Nat},rowAt P fits d e count off n=true→off≤count*P.cellsOf e
 | 0,_,_,_,_,h=>by simp [rowAt] at h
 | d+1,e,count,off,n,h=>by
  by_cases hs:P.cellsOf e=0
  ·unfold rowAt at h
   simp [hs] at h
  ·unfold rowAt at h
   rw [if_neg hs] at h
   have hpos:0<P.cellsOf e:=Nat.pos_of_ne_zero hs
   have hdm:=Nat.div_add_mod off (P.cellsOf e)
   have hlt:=Nat.mod_lt off hpos
   have key:off / P.cellsOf e<count∨(off % P.cellsOf e=0∧off / P.cellsOf e≤count):=by
    simp only [Bool.or_eq_true,Bool.and_eq_true,decide_eq_true_eq,beq_iff_eq] at h
    rcases h with ⟨⟨h1,h2⟩,_⟩ | ⟨h1,_⟩
    ·exact .inr ⟨h1,by omega⟩
    ·exact .inl h1
   rcases key with q | ⟨q1,q2⟩
   ·have:=Nat.mul_le_mul_left (P.cellsOf e) (show off / P.cellsOf e+1≤count from q)
    rw [Nat.mul_add,Nat.mul_one] at this
    rw [Nat.mul_comm count]
    omega
   ·have:=Nat.mul_le_mul_left (P.cellsOf e) q2
    rw [Nat.mul_comm count]
    omega
theorem liesAt_le {P:Program}:∀ (d:Nat) {e u:TypeId} {count off n:Nat},liesAt P d e count off u n=true→off≤count*P.cellsOf e
 | 0,_,_,_,_,_,h=>by simp [liesAt] at h
 | d+1,e,u,count,off,n,h=>by
  unfold liesAt at h
  rw [Bool.or_eq_true] at h
  rcases h with h | h
  ·exact rowAt_le _ h
  ·split at h
   ·exact liesAt_le d h
   ·cases h
theorem walk_can {f:FuncId} {fn:Func} (h:∀ (H:Type) (enc:TypeId×Value→H) (us:List Value) (W:World) (base:Nat) (ds:List (DataW H)) (ps:List MemPlace),(∀ (j:Nat) t v,fn.params[j]? = some t→us[j]? = some v→Value.okWide Tryz.prog W .any base t v) →
  DataW.TrodAll enc Tryz.prog W 0 (fun _=>true) true fn.params.toList us ds ps→∃ ls bs args,ArgsOk W ls bs∧relAs (locEnv ls) args us∧CanOk Tryz.prog f args (enumH 0 bs) bs.length [] (boolA true) []):LawWalk Tryz.prog f fn:=by
 intro H enc us W base ds ps hv hA _ _
 obtain ⟨ls,bs,args,ho,ha,hc⟩:=h H enc us W base ds ps hv hA
 refine (hc (locEnv ls) us W ha ho.good ho.none).mono ?_
 rintro e w' ⟨u,β,rfl,out⟩
 obtain ⟨l1,l2,⟨h1,_⟩,h3,h4⟩:=out.val
 simp only [relL] at h3
 subst h1;subst h3
 injection h4 with h4 _
 refine ⟨by rw [h4],⟨out.os,out.tape,out.output,out.size,fun k hk=>out.frame k hk (fun _ _ h=>by cases h)⟩⟩
theorem can_bool {f:FuncId} {args:List AV} {H:Heap} {k0:Nat} {b:Bool} (h:CanOk Tryz.prog f args H k0 [] (boolA b) []) (e:b=true):CanOk Tryz.prog f args H k0 [] (boolA true) []:=by rw [← e];exact h
end Go.Proofs.YtfmajnlfpnjagaaGreat
/- Slices of either kind (cut out of a block, or grown) as arguments. -/
namespace Go.Proofs.YtfmajnlfpnjagaaGreat
open Ex Num
set_option maxRecDepth 100000
set_option maxHeartbeats 4000000
def asSl:AV→Option (Nat×Nat×Nat)
 | .val false [.sl k off n _]=>some (k,off,n)
 | .val false [.sx k n _]=>some (k,0,n)
 | _=>none
theorem asSl_rel {β:Env} {A:AV} {k off n:Nat} {u:Value} (h:asSl A=some (k,off,n)) (hr:relA β A u):∃ m,relA β (slA k off n m) u:=by
 unfold asSl at h
 split at h
 ·rename_i k' off' n' m
  injection h with h;injection h with h1 h;injection h with h2 h3
  subst h1;subst h2;subst h3
  exact ⟨m,hr⟩
 ·rename_i k' n' sz
  injection h with h;injection h with h1 h;injection h with h2 h3
  subst h1;subst h2;subst h3
  obtain ⟨l1,l2,h1,h2,h3⟩:=hr
  rcases h1 with ⟨B,q,cap,q1,q2,q3,q4⟩ | ⟨q1,q2,q3⟩
  ·exact ⟨cap,l1,l2,.inl ⟨B,(q,0),q1,by rw [q2]⟩,h2,h3⟩
  ·exact ⟨0,l1,l2,.inr ⟨q1,rfl,q2,rfl,q3⟩,h2,h3⟩
 ·cases h
theorem can_spec2 {f:FuncId} {fn:Func} (hfn:Tryz.prog.funcs[f]? = some fn) (hbd:fn.body.isSome=true) (hname:(fn.name=="runtime.NumGoroutine")=false) {s:ASpec}
  (h:∀ args H fr path r,s args H fr path=some r→∃ (ρ:List Nat) (k0 nw:Nat) (W:List Nat) (val:AV) (H1:Heap) (conds:List (Bool×Bool)) (path':List Bool),
   r=trR ρ k0 fr nw W val H1 conds path'∧(∀ β us w,relAs β args us→Ex.Good β H w→okConds conds→∃ args0 H0,CanOk Tryz.prog f args0 H0 k0 W val H1∧canB k0 nw W val H1=true∧relAs (inEnv β ρ k0) args0 us∧Ex.Good (inEnv β ρ k0) H0 w∧(∀ k,k<k0→∃ X,β (nth ρ k)=some X))):SpecOk Tryz.prog f s:=by
 intro args H fr path r β us w hs hc ha hg hf
 obtain ⟨ρ,k0,nw,W,val,H1,conds,path',rfl,hh⟩:=h args H fr path r hs
 obtain ⟨args0,H0,hcan,hb,ha0,hg0,hdef⟩:=hh β us w ha hg hc
 refine callX_of_calls hfn hbd hname (Calls.mono (hcan (inEnv β ρ k0) us w ha0 hg0 fun b hb=>?_) ?_)
 ·have:Nat.blt b k0=false:=by cases h:Nat.blt b k0 with | false=>rfl | true=>have:=nblt.1 h;omega
  simp [inEnv,this]
 ·rintro e w' ⟨u,β1,rfl,ho⟩
  obtain ⟨β',he⟩:=tr_eff (conds:=conds) (path:=path') hg ho hb hf hdef
  exact ⟨u,β',rfl,he⟩
theorem sl_in {β:Env} {k j off n m:Nat} {ρ:List Nat} {k0:Nat} {u:Value} (hj:j<k0) (hn:nth ρ j=k) (h:relA β (slA k off n m) u):relA (inEnv β ρ k0) (slA j off n m) u:=by
 obtain ⟨l1,l2,h1,h2,h3⟩:=h
 refine ⟨l1,l2,?_,h2,h3⟩
 have e:inEnv β ρ k0 j=β k:=by rw [inEnv_at hj,hn]
 rcases h1 with ⟨B,q,q1,q2⟩ | ⟨q1,q2⟩
 ·exact .inl ⟨B,q,by rw [e];exact q1,q2⟩
 ·exact .inr ⟨by rw [e];exact q1,q2⟩
def bySp (g:Nat→List Int→AV):ASpec:=fun args H fr path =>
 match args with
 | [S]=>match asSl S with
  | some (k,off,n)=>match hget H k with
   | some ⟨_,cs,_⟩=>match toSeq .u8 cs with
    | some xs=>some (trR [k] 1 fr 0 [] (g n (win xs off n)) [] [(Nat.ble (off+n) xs.length,true),(hasB .i64 n,true)] path)
    | none=>none
   | _=>none
  | none=>none
 | _=>none
theorem bySp_ok {f:FuncId} {fn:Func} {g:Nat→List Int→AV} (hfn:Tryz.prog.funcs[f]? = some fn) (hb:fn.body.isSome=true) (hname:(fn.name=="runtime.NumGoroutine")=false) (hk:∀ n l,canB 1 0 [] (g n l) []=true)
  (h:∀ (off n m:Nat) (xs:List Int),(∀ d∈xs,0≤d∧d<256)→off+n≤xs.length→hasB .i64 n=true→CanOk Tryz.prog f [slA 0 off n m] (byH xs) 1 [] (g n (win xs off n)) []):SpecOk Tryz.prog f (bySp g):=by
 refine can_spec2 hfn hb hname fun args H fr path r hs=>?_
 unfold bySp at hs
 split at hs
 case h_2=>cases hs
 rename_i S
 split at hs
 case h_2=>cases hs
 rename_i k off n hS
 split at hs
 case h_2=>cases hs
 rename_i ty cs o hk'
 split at hs
 case h_2=>cases hs
 rename_i xs hxs
 injection hs with hs
 refine ⟨[k],1,0,[],_,_,_,path,hs.symm,fun β us w ha hg hc=>?_⟩
 obtain ⟨u1,us1,r1,ha,rfl⟩:=ha
 obtain ⟨m,r1⟩:=asSl_rel hS r1
 obtain ⟨g1,g2,g3⟩:=good_by hg hk' hxs
 exact ⟨[slA 0 off n m],byH xs,h off n m xs g1 (Nat.le_of_ble_eq_true hc.1) hc.2.1,hk _ _,⟨u1,_,sl_in (by omega) rfl r1,ha,rfl⟩,g2,g3⟩
def wdSp (g:Nat→List Int→AV):ASpec:=fun args H fr path =>
 match args with
 | [S]=>match asSl S with
  | some (k,off,n)=>match hget H k with
   | some ⟨_,cs,_⟩=>match toSeq .u64 cs with
    | some xs=>some (trR [k] 1 fr 0 [] (g n (win xs off n)) [] [(Nat.ble (off+n) xs.length,true),(Nat.ble n 1125899906842624,true)] path)
    | none=>none
   | _=>none
  | none=>none
 | _=>none
theorem wdSp_ok {f:FuncId} {fn:Func} {g:Nat→List Int→AV} (hfn:Tryz.prog.funcs[f]? = some fn) (hb:fn.body.isSome=true) (hname:(fn.name=="runtime.NumGoroutine")=false) (hk:∀ n l,canB 1 0 [] (g n l) []=true)
  (h:∀ (off n m:Nat) (xs:List Int),(∀ d∈xs,0≤d∧d<18446744073709551616)→off+n≤xs.length→n≤1125899906842624→CanOk Tryz.prog f [slA 0 off n m] (seqH xs) 1 [] (g n (win xs off n)) []):SpecOk Tryz.prog f (wdSp g):=by
 refine can_spec2 hfn hb hname fun args H fr path r hs=>?_
 unfold wdSp at hs
 split at hs
 case h_2=>cases hs
 rename_i S
 split at hs
 case h_2=>cases hs
 rename_i k off n hS
 split at hs
 case h_2=>cases hs
 rename_i ty cs o hk'
 split at hs
 case h_2=>cases hs
 rename_i xs hxs
 injection hs with hs
 refine ⟨[k],1,0,[],_,_,_,path,hs.symm,fun β us w ha hg hc=>?_⟩
 obtain ⟨u1,us1,r1,ha,rfl⟩:=ha
 obtain ⟨m,r1⟩:=asSl_rel hS r1
 obtain ⟨g1,g2,g3⟩:=good_seq hg hk' hxs
 exact ⟨[slA 0 off n m],seqH xs,h off n m xs g1 (Nat.le_of_ble_eq_true hc.1) (Nat.le_of_ble_eq_true hc.2.1),hk _ _,⟨u1,_,sl_in (by omega) rfl r1,ha,rfl⟩,g2,g3⟩
noncomputable def powSp:ASpec:=fun args H fr path =>
 match args with
 | [.val true a,S]=>match asSl S with
  | some (k,off,n)=>match asNum 6 a,hget H k with
   | some x,some ⟨_,cs,_⟩=>match toSeq .u64 cs with
    | some xs=>some (trR [k] 1 fr 0 [] (num6 (powN x (natL (win xs off n)))) [] [(Nat.ble (off+n) xs.length,true),(Nat.ble n 1125899906842624,true)] path)
    | none=>none
   | _,_=>none
  | none=>none
 | _=>none
theorem powSp_ok {f:FuncId} {fn:Func} (hfn:Tryz.prog.funcs[f]? = some fn) (hb:fn.body.isSome=true) (hname:(fn.name=="runtime.NumGoroutine")=false)
  (h:∀ (off n m:Nat) (xs:List Int) (x:Nat),(∀ d∈xs,0≤d∧d<18446744073709551616)→off+n≤xs.length→n≤1125899906842624→CanOk Tryz.prog f (powA x off n m) (seqH xs) 1 [] (num6 (powN x (natL (win xs off n)))) []):SpecOk Tryz.prog f powSp:=by
 refine can_spec2 hfn hb hname fun args H fr path r hs=>?_
 unfold powSp at hs
 split at hs
 case h_2=>cases hs
 rename_i a S
 split at hs
 case h_2=>cases hs
 rename_i k off n hS
 split at hs
 case h_2=>cases hs
 rename_i x ty cs o hx hk'
 split at hs
 case h_2=>cases hs
 rename_i xs hxs
 injection hs with hs
 refine ⟨[k],1,0,[],_,_,_,path,hs.symm,fun β us w ha hg hc=>?_⟩
 obtain ⟨u1,us1,r1,⟨u2,us2,r2,ha,rfl⟩,rfl⟩:=ha
 obtain ⟨m,r2⟩:=asSl_rel hS r2
 obtain ⟨g1,g2,g3⟩:=good_seq hg hk' hxs
 refine ⟨powA x off n m,seqH xs,h off n m xs x g1 (Nat.le_of_ble_eq_true hc.1) (Nat.le_of_ble_eq_true hc.2.1),by kernel_rfl,⟨u1,_,?_,⟨u2,us2,sl_in (by omega) rfl r2,ha,rfl⟩,rfl⟩,g2,g3⟩
 obtain ⟨l,q,rfl⟩:=r1;exact ⟨l,num_any hx q,rfl⟩
noncomputable def SB:List (FuncId×ASpec):=(209,nilSpec (bySp fun n l=>fbA n (natB l)))::(144,nilSpec (bySp fun n l=>fbA n (natB l)))::(217,nilSpec powSp)::(204,nilSpec powSp)::(256,nilSpec (wdSp fun _ l=>num6 (natL l % pN)))::SZ
theorem SBok:SpecsOk Tryz.prog SB:=⟨nilSpec_ok (bySp_ok Tryz.func209 (by kernel_rfl) (by kernel_rfl) (fun _ _=>rfl) (fun _ _ _ _ hx hl hn=>rfb_can hx hl hn)),nilSpec_ok (bySp_ok Tryz.func144 (by kernel_rfl) (by kernel_rfl) (fun _ _=>rfl) (fun _ _ _ _ _ hl hn=>fb_can hl hn)),nilSpec_ok (powSp_ok Tryz.func217 (by kernel_rfl) (by kernel_rfl) fun _ _ _ _ x hx hl hn=>pow_can hx hl hn x),nilSpec_ok (powSp_ok Tryz.func204 (by kernel_rfl) (by kernel_rfl) fun _ _ _ _ x hx hl hn=>rpow_can hx hl hn x),nilSpec_ok (wdSp_ok Tryz.func256 (by kernel_rfl) (by kernel_rfl) (fun _ _=>rfl) (fun _ _ _ _ hx hl hn=>wide_can hx hl hn)),SZok⟩
end Go.Proofs.YtfmajnlfpnjagaaGreat
/- Runs as contracts; arguments of a law, one by one. -/
namespace Go.Proofs.YtfmajnlfpnjagaaGreat
open Ex Num
set_option maxRecDepth 100000
set_option maxHeartbeats 4000000
def tt:Nat→List (Bool×Bool)→List (Bool×Bool)
 | 0,r=>r
 | n+1,r=>(true,true)::tt n r
theorem tt_ok:∀ (n:Nat) {r:List (Bool×Bool)},okConds r→okConds (tt n r)
 | 0,_,h=>h
 | n+1,_,h=>⟨rfl,tt_ok n h⟩
theorem can_run {S:List (FuncId×ASpec)} {K:List (TypeId×List (Option IntKind))} (hS:SpecsOk Tryz.prog S) (hK:KindsOk Tryz.prog K) {f:FuncId} {fn:Func} (hfn:Tryz.prog.funcs[f]? = some fn) (hb:fn.body.isSome=true) {args:List AV} {H H1:Heap} {fuel k0:Nat} {ks:List Nat} {path:List Bool} {conds:List (Bool×Bool)} {v:AV}
  (hlen:Nat.ble (alen args) fn.ntmps=true) (h:segOut Tryz.prog (orc S K) fn fuel k0 ks (entry fn args H k0 path)=some (conds,[],v,H1)) (hw:wfB fn.ntmps (entry fn args H k0 path).s=true) (hc:okConds conds):CanOk Tryz.prog f args H k0 [] v H1 :=
 can_entry (path:=path) hfn hb hlen fun _ _ h0=>out_safe (orc_ok hS hK) mixed hfn h hc (wfB_ok hw) h0 (fun _ h=>by cases h)
section
variable {H:Type} {enc:TypeId×Value→H} {W:World} {base:Nat} {v:Value} {d:DataW H} {p:List MemPlace}
theorem under_bytes:Tryz.prog.underlying 23=some (.slice 5):=by kernel_rfl
theorem under_u8:Tryz.prog.underlying 5=some (.int .u8):=by kernel_rfl
theorem cells_u8:Tryz.prog.cellsOf 5=1:=by kernel_rfl
theorem len_has {n:Nat} (h:n≤maxLen):hasB .i64 (n:Int)=true:=by
 unfold maxLen at h
 simp only [hasB,Bool.and_eq_true,decide_eq_true_eq];omega
end
end Go.Proofs.YtfmajnlfpnjagaaGreat
/- sigilref05: the contracts. -/
namespace Go.Proofs.YtfmajnlfpnjagaaGreat
open Ex Num
set_option maxRecDepth 100000
set_option maxHeartbeats 4000000
noncomputable def SC:List (FuncId×ASpec):=SB
theorem SCok:SpecsOk Tryz.prog SC:=SBok
theorem rsign_run (a:Nat):pureRun Tryz.prog (orc SC K0) Tryz.f243 [num6 a] [] 300=some ([(decide (0≤wordN (a % pN) 0∧(0:Int)<2),true)],intA (wI (Int.tmod (wordN (a % pN) 0) 2))):=by kernel_rfl
theorem rsign_ok (a:Nat):PureOk Tryz.prog 243 [num6 a] (intA (signN a)):=by
 have hb:=word_bd (a % pN) 0
 have h:=pure_ok (orc_ok SCok K0ok) mixed Tryz.func243 (rsign_run a) ⟨by simp [hb.1],trivial⟩ rfl
 have e:wI (Int.tmod (wordN (a % pN) 0) 2)=signN a:=by
  rw [word0_mod2,Int.tmod_eq_emod_of_nonneg (by omega),wI_eq (by omega)]
  unfold signN;omega
 rw [e] at h
 exact h
theorem rbigger_run (a:Nat):pureRun Tryz.prog (orc SC K0) Tryz.f127 [num6 a] [] 300=some (tt 4 [],boolA (decide (0<cmpI (natL (win (ws6 (a % pN)) (0+0*1) (6-0))) (natL (win (ws6 (negN a)) (0+0*1) (6-0)))))):=by kernel_rfl
theorem rbigger_ok (x:Nat):PureOk Tryz.prog 127 [num6 x] (boolA (biggerN x)):=by
 have h:=pure_ok (orc_ok SCok K0ok) mixed Tryz.func127 (rbigger_run x) (tt_ok 4 trivial) rfl
 rw [natL_num6 (lt_RR_mod x),natL_num6 (Nat.lt_trans (negN_lt x) (by decide))] at h
 have e:decide (0<cmpI (x % pN) (negN x))=biggerN x:=by
  unfold cmpI biggerN
  by_cases h1:x % pN<negN x
  ·rw [if_pos h1,decide_eq_false (by omega),decide_eq_false (by omega)]
  ·by_cases h2:negN x<x % pN
   ·rw [if_neg h1,if_pos h2,decide_eq_true h2];rfl
   ·rw [if_neg h1,if_neg h2,decide_eq_false h2];rfl
 rw [e] at h
 exact h
noncomputable def SD:List (FuncId×ASpec):=(243,pureSpec (sp1 fun x=>intA (signN x)))::(127,pureSpec (sp1 fun x=>boolA (biggerN x)))::SC
theorem SDok:SpecsOk Tryz.prog SD:=⟨pureSpec_ok Tryz.func243 (by kernel_rfl) (by kernel_rfl) (sp1_ok fun x _=>rsign_ok x),pureSpec_ok Tryz.func127 (by kernel_rfl) (by kernel_rfl) (sp1_ok fun x _=>rbigger_ok x),SCok⟩
noncomputable def SE:List (FuncId×ASpec):=SD
theorem SEok:SpecsOk Tryz.prog SE:=SDok
end Go.Proofs.YtfmajnlfpnjagaaGreat
