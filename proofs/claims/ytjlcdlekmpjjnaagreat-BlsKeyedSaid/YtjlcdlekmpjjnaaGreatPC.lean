/- Part 3 of the proof: Fn, Fo, Fp, La, Lc, Fq, Na, Nb, Nc, Nd, Fr, Ga, Gb, Gc, Gd, Ge, Gf, Gg, Gh, Gi, Gj, Gk, Gl, Gm, Gn, Go, Gp, Gq, Gr, Gs, Gt, Gv, Ka, Kb, Kc, Kd, Ra, Rb. -/
import Derived.Test.YtjlcdlekmpjjnaaGreatPB
import Derived.Test.YtjlcdlekmpjjnaaGreatRows
import Derived.KernelRfl
import Derived.ChangeSlices
/- limb.carried with limb.Add's step: its contract. -/
namespace Go.Proofs.YtjlcdlekmpjjnaaGreat
open Ex
set_option maxRecDepth 100000
set_option maxHeartbeats 4000000
def outL (S L i:Nat):List Int:=(List.range i).map (wordN S)++List.replicate (L-i) 0
theorem atV_word {xs:List Int} {off n:Nat} (h:∀ d∈xs,0≤d∧d<18446744073709551616) (i:Nat):atV xs off n i=((natL (win xs off n) / 2^(64*i) % 18446744073709551616:Nat):Int):=by
 have:=natL_word (win xs off n) i (win_has h)
 have hb:=getD_bd (win_has (off:=off) (n:=n) h) i
 unfold atV
 rw [Int.toNat_natCast]
 have e:(2:Nat)^64=18446744073709551616:=rfl
 rw [e] at this
 omega
section
variable {off n m off' n' m':Nat} {xs xs':List Int} (hx:∀ d∈xs,0≤d∧d<18446744073709551616) (hy:∀ d∈xs',0≤d∧d<18446744073709551616) (hl:off+n≤xs.length) (hl':off'+n'≤xs'.length)
 (hn:hasB .i64 n=true) (hn':hasB .i64 n'=true) {β0:Env} {w0:World} (hb:∀ b,2≤b→β0 b=none)
include hx hy hl hl' hn hn' hb
end
end Go.Proofs.YtjlcdlekmpjjnaaGreat
/- The contracts of limb.carried (with limb.Add's step) and limb.Add. -/
namespace Go.Proofs.YtjlcdlekmpjjnaaGreat
open Ex
set_option maxRecDepth 100000
set_option maxHeartbeats 4000000
noncomputable def S17:List (FuncId×ASpec):=S16
theorem S17ok:SpecsOk Tryz.prog S17:=S16ok
noncomputable def S18:List (FuncId×ASpec):=S17
theorem S18ok:SpecsOk Tryz.prog S18:=S17ok
end Go.Proofs.YtjlcdlekmpjjnaaGreat
/- Powers by squaring, for the kernel. -/
namespace Go.Proofs.YtjlcdlekmpjjnaaGreat
open Ex
set_option maxRecDepth 100000
set_option maxHeartbeats 4000000
def pmod (m x:Nat):Nat→Nat→Nat
 | 0,_=>1 % m
 | f+1,e=>(match e % 2 with
  | 0=>pmod m (x*x % m) f (e / 2)
  | _=>x*pmod m (x*x % m) f (e / 2) % m)
theorem pmod_eq (m:Nat):∀ (f x e:Nat),e<2^f→pmod m x f e=x^e % m
 | 0,x,e,h=>by
  have:e=0:=by simpa using h
  subst this;rfl
 | f+1,x,e,h=>by
  have ih:=pmod_eq m f (x*x % m) (e / 2) (by rw [Nat.pow_succ] at h;omega)
  have h2:(x*x % m)^(e / 2) % m=x^(2*(e / 2)) % m:=by
   rw [← Nat.pow_mod,Nat.pow_mul,Nat.pow_two]
  unfold pmod
  rcases Nat.mod_two_eq_zero_or_one e with h0 | h1
  ·rw [h0]
   show pmod m (x*x % m) f (e / 2)=_
   rw [ih,h2,show 2*(e / 2)=e by omega]
  ·rw [h1]
   show x*pmod m (x*x % m) f (e / 2) % m=_
   rw [ih,h2,Nat.mul_mod,Nat.mod_mod,← Nat.mul_mod,← Nat.pow_succ',show (2*(e / 2)).succ=e by omega]
theorem pow_fuel:(2:Nat)^384=RR:=by kernel_rfl
theorem q4:pmod pN 4 384 QN=4002409555221667393417789825735904156556882819939007885332058136124031650490837864442687629129015664037894272559785:=by kernel_rfl
theorem q0:pmod pN 0 384 QN=0:=by kernel_rfl
noncomputable def S19:List (FuncId×ASpec):=S18
theorem S19ok:SpecsOk Tryz.prog S19:=S18ok
end Go.Proofs.YtjlcdlekmpjjnaaGreat
/- What the laws' arguments are; the frame of the laws' proofs. -/
namespace Go.Proofs.YtjlcdlekmpjjnaaGreat
open Ex
open Go.RowKit (Below)
set_option maxRecDepth 100000
set_option maxHeartbeats 4000000
theorem own:ownKnob Tryz.prog.godebug=none:=by kernel_rfl
theorem laidOut:laidOutB Tryz.prog=true:=by kernel_rfl
theorem under_bool:Tryz.prog.underlying 4=some .bool:=by kernel_rfl
theorem args0 {ts:List TypeId} {H:Type} {enc:TypeId×Value→H} {W:World} {us:List Value} {ds:List (DataW H)} {ps:List MemPlace} (hA:DataW.TrodAll enc Tryz.prog W 0 (fun _=>true) true ts us ds ps) (ht:ts=[]):us=[]:=by
 subst ht
 cases us with
 | nil=>rfl
 | cons=>cases ds<;>cases hA
theorem args_cons {H:Type} {enc:TypeId×Value→H} {W:World} {t:TypeId} {ts:List TypeId} {us:List Value} {ds:List (DataW H)} {ps:List MemPlace} (hA:DataW.TrodAll enc Tryz.prog W 0 (fun _=>true) true (t::ts) us ds ps) :
  ∃ v us' d ds' p q,us=v::us'∧ds=d::ds'∧DataW.Trod enc Tryz.prog W 0 (fun _=>true) true t v d p∧DataW.TrodAll enc Tryz.prog W 0 (fun _=>true) true ts us' ds' q:=by
 cases us with
 | nil=>cases ds<;>cases hA
 | cons v us'=>cases ds with
  | nil=>cases hA
  | cons d ds' =>
   obtain ⟨p,q,h1,h2,_⟩:=hA
   exact ⟨v,us',d,ds',p,q,rfl,rfl,h1,h2⟩
theorem len2 {α:Type} {l:List α} (h:l.length=2):∃ a b,l=[a,b]:=by
 match l,h with
 | [a,b],_=>exact ⟨a,b,rfl⟩
end Go.Proofs.YtjlcdlekmpjjnaaGreat
/- What is so of the whole program: facts of every row, each by itself. -/
namespace Go.Proofs.YtjlcdlekmpjjnaaGreat
set_option maxRecDepth 100000
set_option maxHeartbeats 4000000
theorem allHeard:Tryz.pinned.checked.prog.stopsHeard=true:=by kernel_rfl
theorem allEnter:Tryz.pinned.checked.prog.mayEnter=true:=by kernel_rfl
theorem allLifts:Tryz.pinned.checked.prog.liftsFinal=false:=by kernel_rfl
theorem allKeys:Tryz.pinned.checked.prog.plainKeys=true:=by kernel_rfl
theorem allLaid:laidOutB Tryz.pinned.checked.prog=true:=by kernel_rfl
theorem allMaps:mapsRowed Tryz.pinned.checked.prog=true:=by kernel_rfl
end Go.Proofs.YtjlcdlekmpjjnaaGreat
/- Words of numbers; p's words. -/
namespace Go.Proofs.YtjlcdlekmpjjnaaGreat
open Ex
set_option maxRecDepth 100000
set_option maxHeartbeats 4000000
theorem natL_ws6 {x:Nat} (h:x<RR):natL (win (ws6 x) 0 6)=x:=natL_num6 h
theorem natL_outL {S L:Nat} (h:S<2^(64*L)):natL (win (outL S L L) 0 L)=S:=by
 unfold outL win
 rw [Nat.sub_self,List.replicate_zero,List.append_nil,List.drop_zero,List.take_of_length_le (by simp)]
 have gen:∀ (L S:Nat),S<2^(64*L)→natL ((List.range L).map (wordN S))=S:=by
  intro L
  induction L with
  | zero=>intro S h;simp at h;subst h;rfl
  | succ L ih =>
   intro S h
   rw [List.range_succ_eq_map,List.map_cons,List.map_map]
   have e:(wordN S ∘ Nat.succ)=wordN (S / 2^64):=by
    funext i
    exact wordN_succ S i |>.symm▸rfl
   rw [e]
   simp only [natL]
   rw [ih (S / 2^64) (by rw [show 64*(L+1)=64+64*L by omega,Nat.pow_add] at h;exact Nat.div_lt_of_lt_mul h),wordN_nat,Nat.mul_zero,Nat.pow_zero,Nat.div_one]
   omega
 exact gen L S h
theorem negN_val {a:Nat} (h:a % pN≠0):negN a=pN-a % pN:=by
 have hp:=modp_lt a
 unfold negN
 rw [Nat.mod_eq_of_lt (by omega)]
theorem pN_odd:pN % 2=1:=by kernel_rfl
end Go.Proofs.YtjlcdlekmpjjnaaGreat
/- Prime numbers: Euclid, Fermat, Pocklington; powers by squaring. -/
namespace Go.Proofs.YtjlcdlekmpjjnaaGreat.Num
def Prime (p:Nat):Prop:=2≤p∧∀ d,d∣p→d=1∨d=p
theorem Prime.coprime {p a:Nat} (hp:Prime p) (h:¬ p∣a):Nat.Coprime p a:=by
 rcases hp.2 (Nat.gcd p a) (Nat.gcd_dvd_left _ _) with e | e
 ·exact e
 ·exact absurd (e▸Nat.gcd_dvd_right p a) h
theorem Prime.dvd_mul {p a b:Nat} (hp:Prime p) (h:p∣a*b):p∣a∨p∣b:=by
 by_cases ha:p∣a
 ·exact .inl ha
 ·exact .inr ((hp.coprime ha).dvd_of_dvd_mul_left h)
theorem mod_dvd {a b n:Nat} (h:a % n=b % n) (hle:b≤a):n∣a-b:=by
 have h1:=Nat.div_add_mod a n
 have h2:=Nat.div_add_mod b n
 exact ⟨a / n-b / n,by rw [Nat.mul_sub];omega⟩
theorem dvd_mod {a b n:Nat} (h:n∣a-b) (hle:b≤a):a % n=b % n:=by
 obtain ⟨k,hk⟩:=h
 have:a=b+n*k:=by omega
 rw [this,Nat.add_mul_mod_self_left]
def prodL:List Nat→Nat
 | []=>1
 | x::l=>x*prodL l
theorem prodL_perm {l m:List Nat} (h:l.Perm m):prodL l=prodL m:=by
 induction h with
 | nil=>rfl
 | cons x _ ih=>simp [prodL,ih]
 | swap x y l=>simp only [prodL];rw [Nat.mul_left_comm]
 | trans _ _ h1 h2=>exact h1.trans h2
theorem perm_of_nodup:∀ {l m:List Nat},l.Nodup→(∀ x∈l,x∈m)→m.length≤l.length→l.Perm m
 | [],m,_,_,h=>by
  have:m=[]:=List.length_eq_zero_iff.1 (by simpa using h)
  subst this;exact .refl _
 | a::l,m,hn,hs,hlen=>by
  have ham:=hs a (by simp)
  have hp:=List.perm_cons_erase ham
  have hn':=List.nodup_cons.1 hn
  refine .trans (.cons a (perm_of_nodup hn'.2 (fun x hx=>?_) ?_)) hp.symm
  ·have:x≠a:=fun e=>hn'.1 (e▸hx)
   exact (List.mem_erase_of_ne this).2 (hs x (by simp [hx]))
  ·rw [List.length_erase_of_mem ham]
   simp at hlen;omega
theorem prodL_map (a p:Nat):∀ l:List Nat,prodL (l.map fun x=>a*x % p) % p=a^l.length*prodL l % p
 | []=>by simp [prodL]
 | x::l=>by
  simp only [List.map_cons,prodL,List.length_cons]
  rw [Nat.mul_mod,prodL_map a p l,Nat.mod_mod,← Nat.mul_mod,Nat.pow_succ]
  refine congrArg (· % p) ?_
  show a*x*(a^l.length*prodL l)=a^l.length*a*(x*prodL l)
  ac_rfl
theorem prodL_prime {p:Nat} (hp:Prime p):∀ {l:List Nat},(∀ x∈l,¬ p∣x)→¬ p∣prodL l
 | [],_,h=>by
  have:=Nat.le_of_dvd (by decide) h
  have:=hp.1
  simp only [prodL] at *;omega
 | x::l,hx,h=>by
  rcases hp.dvd_mul h with h | h
  ·exact hx x (by simp) h
  ·exact prodL_prime hp (fun y hy=>hx y (by simp [hy])) h
theorem fermat {p a:Nat} (hp:Prime p) (ha:¬ p∣a):a^(p-1) % p=1:=by
 have h2:=hp.1
 have hL:∀ x,x∈List.range' 1 (p-1)↔1≤x∧x<p:=by intro x;rw [List.mem_range'_1];omega
 have hnd:∀ x∈List.range' 1 (p-1),¬ p∣x:=fun x hx hd=>by
  have:=(hL x).1 hx
  have:=Nat.le_of_dvd (by omega) hd
  omega
 have hperm:((List.range' 1 (p-1)).map fun x=>a*x % p).Perm (List.range' 1 (p-1)):=by
  refine perm_of_nodup ?_ ?_ (by simp)
  ·have hq:∀ {l:List Nat},l.Nodup→(∀ x∈l,1≤x∧x<p)→(l.map fun x=>a*x % p).Nodup:=by
    intro l
    induction l with
    | nil=>intro _ _;exact List.nodup_nil
    | cons x l ih =>
     intro hn hb
     have hn':=List.nodup_cons.1 hn
     rw [List.map_cons,List.nodup_cons]
     refine ⟨fun hm=>?_,ih hn'.2 fun y hy=>hb y (by simp [hy])⟩
     obtain ⟨y,hy,he⟩:=List.mem_map.1 hm
     have b1:=hb x (by simp)
     have b2:=hb y (by simp [hy])
     have hxy:x≠y:=fun e=>hn'.1 (e▸hy)
     rcases Nat.lt_or_ge x y with hlt | hge
     ·have:=mod_dvd (a:=a*y) (b:=a*x) he (Nat.mul_le_mul_left a (by omega))
      rw [← Nat.mul_sub] at this
      rcases hp.dvd_mul this with h | h
      ·exact ha h
      ·have:=Nat.le_of_dvd (by omega) h;omega
     ·have:=mod_dvd (a:=a*x) (b:=a*y) he.symm (Nat.mul_le_mul_left a (by omega))
      rw [← Nat.mul_sub] at this
      rcases hp.dvd_mul this with h | h
      ·exact ha h
      ·have:=Nat.le_of_dvd (by omega) h;omega
   exact hq List.nodup_range' fun x hx=>(hL x).1 hx
  ·intro y hy
   obtain ⟨x,hx,rfl⟩:=List.mem_map.1 hy
   have b:=(hL x).1 hx
   refine (hL _).2 ⟨?_,Nat.mod_lt _ (by omega)⟩
   rcases Nat.eq_zero_or_pos (a*x % p) with h | h
   ·rcases hp.dvd_mul (Nat.dvd_of_mod_eq_zero h) with h | h
    ·exact absurd h ha
    ·exact absurd h (hnd x hx)
   ·exact h
 have e:=prodL_map a p (List.range' 1 (p-1))
 rw [prodL_perm hperm,List.length_range'] at e
 have hpos:1≤a^(p-1):=Nat.pow_pos (Nat.pos_of_ne_zero fun h=>ha (h▸Nat.dvd_zero p))
 have hd:=mod_dvd (a:=a^(p-1)*prodL (List.range' 1 (p-1))) (b:=prodL (List.range' 1 (p-1))) e.symm (Nat.le_mul_of_pos_left _ hpos)
 have:a^(p-1)*prodL (List.range' 1 (p-1))-prodL (List.range' 1 (p-1))=(a^(p-1)-1)*prodL (List.range' 1 (p-1)):=by rw [Nat.sub_mul,Nat.one_mul]
 rw [this] at hd
 rcases hp.dvd_mul hd with h | h
 ·rw [dvd_mod h hpos,Nat.mod_eq_of_lt (by omega)]
 ·exact absurd h (prodL_prime hp hnd)
theorem exists_prime_dvd:∀ n,2≤n→∃ q,Prime q∧q∣n:=by
 intro n
 induction n using Nat.strongRecOn with
 | ind n ih =>
  intro h
  by_cases hp:Prime n
  ·exact ⟨n,hp,Nat.dvd_refl n⟩
  ·have:∃ d,d∣n∧d≠1∧d≠n:=Classical.byContradiction fun hno=>hp ⟨h,fun d hd=>Classical.byContradiction fun hd2=>hno ⟨d,hd,fun e=>hd2 (.inl e),fun e=>hd2 (.inr e)⟩⟩
   obtain ⟨d,hd,h1,h2⟩:=this
   have hle:=Nat.le_of_dvd (by omega) hd
   have h0:d≠0:=fun e=>by subst e;have:=Nat.eq_zero_of_zero_dvd hd;omega
   obtain ⟨q,hq,hqd⟩:=ih d (by omega) (by omega)
   exact ⟨q,hq,Nat.dvd_trans hqd hd⟩
theorem prime_of_factors {n:Nat} (h:2≤n) (hf:∀ q,Prime q→q∣n→n<q*q):Prime n:=by
 refine ⟨h,fun d hd=>?_⟩
 obtain ⟨e,rfl⟩:=hd
 by_cases h1:d=1
 ·exact .inl h1
 ·by_cases h2:e=1
  ·subst h2;exact .inr (by simp)
  ·exfalso
   have d0:d≠0:=fun e'=>by subst e';simp at h
   have e0:e≠0:=fun e'=>by subst e';simp at h
   obtain ⟨q,hq,hqd⟩:=exists_prime_dvd d (by omega)
   obtain ⟨r,hr,hre⟩:=exists_prime_dvd e (by omega)
   have a1:=hf q hq (Nat.dvd_mul_right_of_dvd hqd e)
   have a2:=hf r hr (Nat.dvd_mul_left_of_dvd hre d)
   have b1:=Nat.le_of_dvd (by omega) hqd
   have b2:=Nat.le_of_dvd (by omega) hre
   rcases Nat.lt_or_ge d e with hlt | hge
   ·have:=Nat.mul_le_mul b1 b1
    have:=Nat.mul_le_mul_left d (Nat.le_of_lt hlt)
    omega
   ·have:=Nat.mul_le_mul b2 b2
    have:=Nat.mul_le_mul_right e hge
    omega
theorem pow_one_mod {r x m:Nat} (h:x^m % r=1 % r) (k:Nat):x^(m*k) % r=1 % r:=by
 rw [Nat.pow_mul,Nat.pow_mod,h,← Nat.pow_mod,Nat.one_pow]
theorem pow_gcd {r x:Nat}:∀ (m n:Nat),x^m % r=1 % r→x^n % r=1 % r→x^(Nat.gcd m n) % r=1 % r:=by
 intro m n
 induction m,n using Nat.gcd.induction with
 | H0 n=>intro _ h;rwa [Nat.gcd_zero_left]
 | H1 m n hm ih =>
  intro h1 h2
  rw [Nat.gcd_rec]
  refine ih ?_ h1
  have e:=Nat.div_add_mod n m
  rw [← e,Nat.pow_add,Nat.mul_mod,pow_one_mod h1,← Nat.mul_mod,Nat.one_mul] at h2
  exact h2
theorem pock_step {N q h a r:Nat} (hN:N=h*q+1) (hq:Prime q) (h1:a^(N-1) % N=1) (h2:Nat.gcd (a^h % N+N-1) N=1) (hr:Prime r) (hrN:r∣N):q∣r-1:=by
 have hr2:=hr.1
 have e1:(a^h)^q % r=1 % r:=by
  rw [← Nat.pow_mul,show h*q=N-1 by omega,← Nat.mod_mod_of_dvd _ hrN,h1]
 have hN1:1≤N:=by omega
 have e2:a^h % r≠1:=fun e=>by
  have hd:r∣a^h % N+N-1:=by
   refine Nat.dvd_of_mod_eq_zero ?_
   have:(a^h % N+N-1+1) % r=1 % r:=by
    rw [Nat.sub_add_cancel (by omega),Nat.add_mod,Nat.mod_mod_of_dvd _ hrN,e,Nat.mod_eq_zero_of_dvd hrN,Nat.add_zero]
   have:=mod_dvd this (by omega)
   exact Nat.mod_eq_zero_of_dvd (by simpa using this)
  have:=Nat.dvd_gcd hd hrN
  rw [h2] at this
  have:=Nat.le_of_dvd (by decide) this
  omega
 have hnd:¬ r∣a^h:=fun hd=>by
  have:r∣(a^h)^q:=by
   obtain ⟨k,hk⟩:=hd
   have hq2:=hq.1
   obtain ⟨j,rfl⟩:∃ j,q=j+1:=⟨q-1,by omega⟩
   exact ⟨(a^h)^j*k,by rw [Nat.pow_succ,Nat.mul_left_comm,← hk]⟩
  rw [Nat.mod_eq_zero_of_dvd this,Nat.mod_eq_of_lt (by omega)] at e1
  cases e1
 have e3:=fermat hr hnd
 by_cases hd:q∣r-1
 ·exact hd
 ·exfalso
  have hc:=hq.coprime hd
  have:=pow_gcd q (r-1) e1 (by rw [e3,Nat.mod_eq_of_lt (by omega)])
  rw [hc,Nat.pow_one,Nat.mod_eq_of_lt (a:=1) (by omega)] at this
  exact e2 this
theorem pocklington {N q h a:Nat} (hN:N=h*q+1) (hq:Prime q) (hh:h<q) (h0:0<h) (h1:a^(N-1) % N=1) (h2:Nat.gcd (a^h % N+N-1) N=1):Prime N:=by
 have hq2:=hq.1
 have hpos:1*1≤h*q:=Nat.mul_le_mul h0 (by omega)
 refine prime_of_factors (by omega) fun r hr hrN=>?_
 have:=Nat.le_of_dvd (by have:=hr.1;omega) (pock_step hN hq h1 h2 hr hrN)
 have hle:q+1≤r:=by have:=hr.1;omega
 have:=Nat.mul_le_mul hle hle
 have h3:h*q≤q*q:=Nat.mul_le_mul_right q (by omega)
 rw [Nat.succ_mul,Nat.mul_succ] at this
 omega
theorem pocklington2 {N q h a q' h' a':Nat} (hN:N=h*q+1) (hq:Prime q) (h1:a^(N-1) % N=1) (h2:Nat.gcd (a^h % N+N-1) N=1) (hN':N=h'*q'+1) (hq':Prime q') (h1':a'^(N-1) % N=1) (h2':Nat.gcd (a'^h' % N+N-1) N=1)
  (hne:q<q') (hbig:N<(q*q'+1)*(q*q'+1)) (hN2:2≤N):Prime N:=by
 refine prime_of_factors hN2 fun r hr hrN=>?_
 have d1:=pock_step hN hq h1 h2 hr hrN
 have d2:=pock_step hN' hq' h1' h2' hr hrN
 have hc:Nat.Coprime q q':=hq.coprime fun hd=>by
  rcases hq'.2 q hd with e | e
  ·have:=hq.1;omega
  ·omega
 have:=Nat.le_of_dvd (by have:=hr.1;omega) (hc.mul_dvd_of_dvd_of_dvd d1 d2)
 have hle:q*q'+1≤r:=by have:=hr.1;omega
 exact Nat.lt_of_lt_of_le hbig (Nat.mul_le_mul hle hle)
def noDiv (n:Nat):Nat→Nat→Bool
 | 0,_=>true
 | f+1,d=>match n % d with
  | 0=>false
  | _+1=>noDiv n f (d+1)
theorem noDiv_spec (n:Nat):∀ (f d:Nat),noDiv n f d=true→∀ e,d≤e→e<d+f→¬ e∣n
 | 0,d,_,e,h1,h2=>by omega
 | f+1,d,h,e,h1,h2=>by
  unfold noDiv at h
  split at h
  ·cases h
  ·rename_i k hk
   rcases Nat.eq_or_lt_of_le h1 with rfl | hlt
   ·intro hd;rw [Nat.mod_eq_zero_of_dvd hd] at hk;cases hk
   ·exact noDiv_spec n f (d+1) h e (by omega) (by omega)
theorem prime_small {n f:Nat} (h2:2≤n) (h:noDiv n f 2=true) (hb:n<(f+2)*(f+2)):Prime n:=by
 refine prime_of_factors h2 fun q hq hd=>?_
 rcases Nat.lt_or_ge q (f+2) with hlt | hge
 ·exact absurd hd (noDiv_spec n f 2 h q hq.1 (by omega))
 ·exact Nat.lt_of_lt_of_le hb (Nat.mul_le_mul hge hge)
def pmd (m x:Nat):Nat→Nat→Nat
 | 0,_=>1 % m
 | f+1,e=>(match e % 2 with
  | 0=>pmd m (x*x % m) f (e / 2)
  | _=>x*pmd m (x*x % m) f (e / 2) % m)
theorem pmd_eq (m:Nat):∀ (f x e:Nat),e<2^f→pmd m x f e=x^e % m
 | 0,x,e,h=>by
  have:e=0:=by simpa using h
  subst this;rfl
 | f+1,x,e,h=>by
  have ih:=pmd_eq m f (x*x % m) (e / 2) (by rw [Nat.pow_succ] at h;omega)
  have h2:(x*x % m)^(e / 2) % m=x^(2*(e / 2)) % m:=by
   rw [← Nat.pow_mod,Nat.pow_mul,Nat.pow_two]
  unfold pmd
  rcases Nat.mod_two_eq_zero_or_one e with h0 | h1
  ·rw [h0]
   show pmd m (x*x % m) f (e / 2)=_
   rw [ih,h2,show 2*(e / 2)=e by omega]
  ·rw [h1]
   show x*pmd m (x*x % m) f (e / 2) % m=_
   rw [ih,h2,Nat.mul_mod,Nat.mod_mod,← Nat.mul_mod,← Nat.pow_succ',show (2*(e / 2)).succ=e by omega]
def pockB (N q h a f:Nat):Bool:=Nat.beq N (h*q+1)&&(Nat.ble (N-1+1) (2^f)&&(Nat.beq (pmd N a f (N-1)) 1&&Nat.beq (Nat.gcd (pmd N a f h+N-1) N) 1))
theorem pockB_spec {N q h a f:Nat} (h0:pockB N q h a f=true) (hq:0<q):N=h*q+1∧a^(N-1) % N=1∧Nat.gcd (a^h % N+N-1) N=1:=by
 unfold pockB at h0
 simp only [Bool.and_eq_true] at h0
 obtain ⟨c1,c2,c3,c4⟩:=h0
 have e1:=Nat.eq_of_beq_eq_true c1
 have e2:=Nat.le_of_ble_eq_true c2
 have e3:=Nat.eq_of_beq_eq_true c3
 have e4:=Nat.eq_of_beq_eq_true c4
 have hle:h*1≤h*q:=Nat.mul_le_mul_left h hq
 rw [pmd_eq N f a _ (by omega)] at e3
 rw [pmd_eq N f a _ (by omega)] at e4
 exact ⟨e1,e3,e4⟩
end Go.Proofs.YtjlcdlekmpjjnaaGreat.Num
/- The moduli p and r are prime; squares modulo p. -/
namespace Go.Proofs.YtjlcdlekmpjjnaaGreat.Num
set_option maxRecDepth 100000
set_option maxHeartbeats 4000000
theorem small {n f:Nat} (h:(Nat.ble 2 n&&(noDiv n f 2&&Nat.blt n ((f+2)*(f+2))))=true):Prime n:=by
 simp only [Bool.and_eq_true] at h
 exact prime_small (Nat.le_of_ble_eq_true h.1) h.2.1 (Nat.le_of_ble_eq_true h.2.2)
theorem pock {N q h a f:Nat} (hq:Prime q) (hb:(pockB N q h a f&&(Nat.blt h q&&Nat.blt 0 h))=true):Prime N:=by
 simp only [Bool.and_eq_true] at hb
 have hq2:=hq.1
 obtain ⟨e1,e2,e3⟩:=pockB_spec hb.1 (by omega)
 exact pocklington e1 hq (Nat.le_of_ble_eq_true hb.2.1) (Nat.le_of_ble_eq_true hb.2.2) e2 e3
theorem pr421987:Prime 421987:=small (f:=650) (by kernel_rfl)
theorem pr755057:Prime 755057:=small (f:=870) (by kernel_rfl)
theorem pr13090036741:Prime 13090036741:=pock (q:=421987) (h:=31020) (a:=2) (f:=64) pr421987 (by kernel_rfl)
theorem pock2 {N q h a q' h' a' f:Nat} (hq:Prime q) (hq':Prime q') (hb:(pockB N q h a f&&(pockB N q' h' a' f&&(Nat.blt q q'&&(Nat.blt N ((q*q'+1)*(q*q'+1))&&Nat.ble 2 N))))=true):Prime N:=by
 simp only [Bool.and_eq_true] at hb
 obtain ⟨b1,b2,b3,b4,b5⟩:=hb
 have hq2:=hq.1
 have hq2':=hq'.1
 obtain ⟨e1,e2,e3⟩:=pockB_spec b1 (by omega)
 obtain ⟨d1,d2,d3⟩:=pockB_spec b2 (by omega)
 exact pocklington2 e1 hq e2 e3 d1 hq' d2 d3 (Nat.le_of_ble_eq_true b3) (Nat.le_of_ble_eq_true b4) (Nat.le_of_ble_eq_true b5)
theorem prQ3:Prime 3819663927398918131021:=pock2 (h:=(3819663927398918131021-1) / 755057) (a:=2) (h':=(3819663927398918131021-1) / 13090036741) (a':=2) (f:=128) pr755057 pr13090036741 (by kernel_rfl)
theorem prQ2:Prime 1125266252156850182658904441386709967:=pock (h:=294598235223046) (a:=2) (f:=128) prQ3 (by kernel_rfl)
theorem prQ:Prime 15778400344354997994418419698270088123916926905054652752758194827714659:=pock (h:=14021926201120671579994175730661374) (a:=2) (f:=256) prQ2 (by kernel_rfl)
theorem prp:Prime 4002409555221667393417789825735904156556882819939007885332058136124031650490837864442687629129015664037894272559787:=pock (h:=253663835868735594330404923636534084567099854) (a:=2) (f:=384) prQ (by kernel_rfl)
theorem sq_eq {p x y:Nat} (hp:Prime p) (hx:x<p) (hy:y<p) (h:x*x % p=y*y % p):x=y∨x+y=p:=by
 have gen:∀ {x y:Nat},x<p→y≤x→x*x % p=y*y % p→x=y∨x+y=p:=by
  intro x y hx hle h
  have hd:=mod_dvd h (Nat.mul_le_mul hle hle)
  have e:x*x-y*y=(x+y)*(x-y):=Nat.mul_self_sub_mul_self_eq x y
  rw [e] at hd
  rcases hp.dvd_mul hd with h1 | h1
  ·rcases Nat.eq_zero_or_pos (x+y) with h0 | h0
   ·left;omega
   ·obtain ⟨k,hk⟩:=h1
    right
    have:k=1:=by
     rcases Nat.lt_or_ge k 2 with h2 | h2
     ·rcases Nat.eq_zero_or_pos k with h3 | h3
      ·subst h3;omega
      ·omega
     ·have:=Nat.mul_le_mul_left p h2;omega
    subst this;omega
  ·left
   rcases Nat.eq_zero_or_pos (x-y) with h0 | h0
   ·omega
   ·have:=Nat.le_of_dvd h0 h1;omega
 rcases Nat.lt_or_ge x y with h1 | h1
 ·rcases gen hy (Nat.le_of_lt h1) h.symm with e | e
  ·exact .inl e.symm
  ·exact .inr (by omega)
 ·exact gen hx h1 h
theorem pm_one {p x:Nat} (hp:Prime p) (h2:2<p) (h:x*x % p=1):x % p=1∨x % p=p-1:=by
 have h':x % p*(x % p) % p=1*1 % p:=by rw [← Nat.mul_mod,h,Nat.mul_one,Nat.mod_eq_of_lt (by omega)]
 rcases sq_eq hp (Nat.mod_lt x (by omega)) (show 1<p by omega) h' with e | e
 ·exact .inl e
 ·exact .inr (by omega)
theorem chi_cases {p a:Nat} (hp:Prime p) (h2:2<p) (hodd:p % 2=1) (ha:¬ p∣a):a^((p-1) / 2) % p=1∨a^((p-1) / 2) % p=p-1:=by
 refine pm_one hp h2 ?_
 rw [← Nat.pow_two,← Nat.pow_mul,show (p-1) / 2*2=p-1 by omega]
 exact fermat hp ha
theorem quarter_sq {p a:Nat} (h4:p % 4=3):a^((p+1) / 4) % p*(a^((p+1) / 4) % p) % p=a*(a^((p-1) / 2)) % p:=by
 rw [← Nat.mul_mod,← Nat.pow_add,← Nat.pow_succ']
 congr 2
 omega
theorem neg_mod {p a:Nat} (hp:0<p):a*(p-1) % p=(p-a % p) % p:=by
 have h1:(a*(p-1)+a) % p=0:=by
  have:a*(p-1)+a=a*p:=by
   have:=Nat.mul_sub a p 1
   have h2:a*1≤a*p:=Nat.mul_le_mul_left a hp
   omega
  rw [this,Nat.mul_mod_left]
 have hl:=Nat.mod_lt a hp
 have hl2:=Nat.mod_lt (a*(p-1)) hp
 have h3:(a*(p-1) % p+a % p) % p=0:=by rw [← Nat.add_mod];exact h1
 have h4:=Nat.div_add_mod (a*(p-1) % p+a % p) p
 rw [h3] at h4
 rcases Nat.eq_zero_or_pos (a % p) with h0 | h0
 ·rw [h0] at h4 ⊢
  have:(a*(p-1) % p+0) / p=0:=Nat.div_eq_of_lt (by omega)
  rw [this] at h4
  rw [Nat.sub_zero,Nat.mod_self];omega
 ·rw [Nat.mod_eq_of_lt (a:=p-a % p) (by omega)]
  have:(a*(p-1) % p+a % p) / p=1:=by
   have l1:(a*(p-1) % p+a % p) / p<2:=Nat.div_lt_of_lt_mul (by omega)
   rcases Nat.eq_zero_or_pos ((a*(p-1) % p+a % p) / p) with e | e
   ·rw [e] at h4;omega
   ·omega
  rw [this] at h4;omega
theorem isSq_iff {p a:Nat} (hp:Prime p) (h4:p % 4=3) (ha:¬ p∣a):a^((p+1) / 4) % p*(a^((p+1) / 4) % p) % p=a % p↔a^((p-1) / 2) % p=1:=by
 have h2:2<p:=by omega
 have hz:a % p≠0:=fun h=>ha (Nat.dvd_of_mod_eq_zero h)
 have hlt:=Nat.mod_lt a (show 0<p by omega)
 rw [quarter_sq h4,Nat.mul_mod]
 rcases chi_cases hp h2 (by omega) ha with h | h
 ·rw [h,Nat.mul_one,Nat.mod_mod];simp
 ·rw [h,neg_mod (by omega),Nat.mod_mod,Nat.mod_eq_of_lt (a:=p-a % p) (by omega)]
  constructor
  ·intro h3;omega
  ·intro h3;omega
end Go.Proofs.YtjlcdlekmpjjnaaGreat.Num
/- Numbers modulo p as a ring. -/
namespace Go.Proofs.YtjlcdlekmpjjnaaGreat.Num
section
variable {p:Nat} [NeZero p]
def toF (p:Nat) [NeZero p] (x:Nat):Fin p:=Fin.ofNat p x
theorem toF_val (x:Nat):(toF p x).val=x % p:=rfl
theorem toF_eq {x y:Nat}:toF p x=toF p y↔x % p=y % p:=by
 rw [Fin.ext_iff,toF_val,toF_val]
theorem toF_mod (x:Nat):toF p (x % p)=toF p x:=by rw [toF_eq,Nat.mod_mod]
theorem toF_add (x y:Nat):toF p (x+y)=toF p x+toF p y:=by
 rw [Fin.ext_iff,Fin.val_add,toF_val,toF_val,toF_val,← Nat.add_mod]
theorem toF_mul (x y:Nat):toF p (x*y)=toF p x*toF p y:=by
 rw [Fin.ext_iff,Fin.val_mul,toF_val,toF_val,toF_val,← Nat.mul_mod]
theorem toF_zero:toF p 0=0:=by rw [Fin.ext_iff,toF_val];simp
theorem toF_one:toF p 1=1:=rfl
theorem toF_p:toF p p=0:=by rw [Fin.ext_iff,toF_val];simp
theorem toF_sub {x y:Nat} (h:y≤x):toF p (x-y)=toF p x-toF p y:=by
 have:toF p (x-y)+toF p y=toF p x:=by rw [← toF_add,Nat.sub_add_cancel h]
 rw [← this];grind
theorem toF_neg (x:Nat):toF p (p-x % p)=- toF p x:=by
 have hp:0<p:=Nat.pos_of_ne_zero (NeZero.ne p)
 rw [toF_sub (Nat.le_of_lt (Nat.mod_lt x hp)),toF_p,toF_mod];grind
theorem toF_dvd {x:Nat}:toF p x=0↔p∣x:=by
 rw [← toF_zero,toF_eq,Nat.zero_mod]
 exact ⟨Nat.dvd_of_mod_eq_zero,Nat.mod_eq_zero_of_dvd⟩
theorem toF_inj {x y:Nat} (hx:x<p) (hy:y<p) (h:toF p x=toF p y):x=y:=by
 have:=toF_eq.1 h
 rwa [Nat.mod_eq_of_lt hx,Nat.mod_eq_of_lt hy] at this
theorem F_mul_eq_zero (hp:Prime p) {a b:Fin p} (h:a*b=0):a=0∨b=0:=by
 have e:∀ x:Fin p,toF p x.val=x:=fun x=>by rw [Fin.ext_iff,toF_val,Nat.mod_eq_of_lt x.isLt]
 rw [← e a,← e b,← toF_mul,toF_dvd] at h
 rw [← e a,← e b,toF_dvd,toF_dvd]
 exact hp.dvd_mul h
end
end Go.Proofs.YtjlcdlekmpjjnaaGreat.Num
/- The order r is prime. -/
namespace Go.Proofs.YtjlcdlekmpjjnaaGreat.Num
set_option maxRecDepth 100000
set_option maxHeartbeats 4000000
theorem prod_dvd {m:Nat}:∀ {l:List Nat},(∀ q∈l,Prime q)→l.Nodup→(∀ q∈l,q∣m)→prodL l∣m
 | [],_,_,_=>Nat.one_dvd m
 | q::l,hp,hn,hd=>by
  obtain ⟨h1,h2⟩:=List.nodup_cons.1 hn
  have hq:=hp q (by simp)
  have hc:Nat.Coprime q (prodL l):=hq.coprime (prodL_prime hq fun x hx e=>by
   rcases (hp x (by simp [hx])).2 q e with e | e
   ·have:=hq.1;omega
   ·exact h1 (e▸hx))
  exact hc.mul_dvd_of_dvd_of_dvd (hd q (by simp)) (prod_dvd (fun x hx=>hp x (by simp [hx])) h2 fun x hx=>hd x (by simp [hx]))
def pockAll (N a f:Nat):List Nat→Bool
 | []=>true
 | q::l=>pockB N q ((N-1) / q) a f&&pockAll N a f l
theorem pockAll_spec {N a f:Nat}:∀ {l:List Nat},pockAll N a f l=true→∀ q∈l,pockB N q ((N-1) / q) a f=true
 | [],_,_,h=>by cases h
 | x::l,h,q,hq=>by
  have h':=Bool.and_eq_true_iff.1 h
  rcases List.mem_cons.1 hq with rfl | hq
  ·exact h'.1
  ·exact pockAll_spec h'.2 q hq
theorem pockL {N a f:Nat} {l:List Nat} (hl:∀ q∈l,Prime q) (hn:l.Nodup) (hb:(pockAll N a f l&&(Nat.blt N ((prodL l+1)*(prodL l+1))&&Nat.ble 2 N))=true):Prime N:=by
 simp only [Bool.and_eq_true] at hb
 obtain ⟨b1,b2,b3⟩:=hb
 have hN2:=Nat.le_of_ble_eq_true b3
 refine prime_of_factors hN2 fun r hr hrN=>?_
 have hd:prodL l∣r-1:=prod_dvd hl hn fun q hq=>by
  have:=(hl q hq).1
  obtain ⟨e1,e2,e3⟩:=pockB_spec (pockAll_spec b1 q hq) (by omega)
  exact pock_step e1 (hl q hq) e2 e3 hr hrN
 have hr2:=hr.1
 have:=Nat.le_of_dvd (by omega) hd
 have hle:prodL l+1≤r:=by omega
 exact Nat.lt_of_lt_of_le (Nat.le_of_ble_eq_true b2) (Nat.mul_le_mul hle hle)
theorem pr254760293:Prime 254760293:=small (f:=15962) (by kernel_rfl)
theorem pr52437899:Prime 52437899:=small (f:=7242) (by kernel_rfl)
theorem pr2529403:Prime 2529403:=small (f:=1591) (by kernel_rfl)
theorem pr2508409:Prime 2508409:=small (f:=1584) (by kernel_rfl)
theorem pr906349:Prime 906349:=small (f:=953) (by kernel_rfl)
theorem pr859267:Prime 859267:=small (f:=927) (by kernel_rfl)
theorem prR:Prime 0x73eda753299d7d483339d80809a1d80553bda402fffe5bfeffffffff00000001 :=
 pockL (a:=2) (f:=255) (l:=[254760293,52437899,2529403,2508409,906349,859267])
  (by
   intro q hq
   simp only [List.mem_cons,List.not_mem_nil,or_false] at hq
   rcases hq with rfl | rfl | rfl | rfl | rfl | rfl
   ·exact pr254760293
   ·exact pr52437899
   ·exact pr2529403
   ·exact pr2508409
   ·exact pr906349
   ·exact pr859267)
  (by decide) (by kernel_rfl)
end Go.Proofs.YtjlcdlekmpjjnaaGreat.Num
/- Squares modulo p, and their roots. -/
namespace Go.Proofs.YtjlcdlekmpjjnaaGreat
open Ex Num
set_option maxRecDepth 100000
set_option maxHeartbeats 4000000
theorem pN_prime:Num.Prime pN:=prp
theorem pN4:pN % 4=3:=by kernel_rfl
theorem pN_gt:2<pN:=by decide
theorem QN_eq:QN=(pN+1) / 4:=by kernel_rfl
noncomputable def chiN (a:Nat):Nat:=a^((pN-1) / 2) % pN
theorem dvdN {a:Nat}:pN∣a↔a % pN=0:=⟨Nat.mod_eq_zero_of_dvd,Nat.dvd_of_mod_eq_zero⟩
theorem isSqN_iff {a:Nat} (h:a % pN≠0):isSqN a=true↔chiN a=1:=by
 unfold isSqN mulN chiN
 rw [powN_eq,QN_eq,decide_eq_true_eq]
 exact isSq_iff pN_prime pN4 fun hd=>h (dvdN.1 hd)
theorem isSqN_zero {a:Nat} (h:a % pN=0):isSqN a=true:=by
 unfold isSqN mulN
 rw [powN_eq,decide_eq_true_eq,Nat.pow_mod,h,Nat.zero_pow (by decide)]
 rfl
theorem mm:(pN-1)*(pN-1) % pN=1:=by kernel_rfl
theorem m1:(pN-1)*1 % pN=pN-1:=by kernel_rfl
theorem mulN_lt (a b:Nat):mulN a b<pN:=Nat.mod_lt _ pN_pos
theorem neg_sq {v:Nat} (hl:v<pN):(pN-v)*(pN-v) % pN=v*v % pN:=by
 obtain ⟨u,hu⟩:∃ u,pN=u+v:=⟨pN-v,by omega⟩
 rw [show pN-v=u by omega]
 have e:u*u+v*pN=v*v+u*pN:=by rw [hu,Nat.mul_add,Nat.mul_add,Nat.mul_comm v u];omega
 have h1:(u*u+v*pN) % pN=u*u % pN:=Nat.add_mul_mod_self_right _ _ _
 have h2:(v*v+u*pN) % pN=v*v % pN:=Nat.add_mul_mod_self_right _ _ _
 rw [← h1,e,h2]
theorem evenN_sq (w:Nat):mulN (evenN w) (evenN w)=mulN w w:=by
 unfold evenN
 split
 ·unfold mulN negN
  rw [← Nat.mul_mod]
  by_cases h:w % pN=0
  ·rw [h,Nat.sub_zero,Nat.mul_mod pN,Nat.mod_self,Nat.mul_mod w,h]
  ·have e:(pN-w % pN)*(pN-w % pN) % pN=(w % pN)*(w % pN) % pN:=by
    have hl:=modp_lt w
    generalize w % pN=v at *
    exact neg_sq hl
   rw [e,← Nat.mul_mod]
 ·rfl
theorem evenN_even {w:Nat} (h:w<pN):evenN w % 2=0∧evenN w<pN:=by
 have ho:=pN_odd
 unfold evenN
 split
 ·rename_i hs
  have h1:w % 2=1:=by unfold signN at hs;rw [Nat.mod_eq_of_lt h] at hs;omega
  have hz:w % pN≠0:=by rw [Nat.mod_eq_of_lt h];omega
  rw [negN_val hz,Nat.mod_eq_of_lt h];omega
 ·rename_i hs
  have h1:w % 2≠1:=fun e=>by apply hs;unfold signN;rw [Nat.mod_eq_of_lt h];omega
  omega
theorem powN_lt (a e:Nat):powN a e<pN:=by rw [powN_eq];exact Nat.mod_lt _ pN_pos
theorem rootN_spec {a:Nat} (h:isSqN a=true):mulN (rootN a) (rootN a)=a % pN∧rootN a % 2=0∧rootN a<pN:=by
 have e:rootN a=evenN (powN a QN):=by unfold rootN;rw [if_pos h]
 obtain ⟨q1,q2⟩:=evenN_even (powN_lt a QN)
 rw [e,evenN_sq]
 refine ⟨?_,q1,q2⟩
 unfold isSqN at h
 exact of_decide_eq_true h
end Go.Proofs.YtjlcdlekmpjjnaaGreat
/- math/bits: Len64, LeadingZeros64. -/
namespace Go.Proofs.YtjlcdlekmpjjnaaGreat
open Ex
set_option maxRecDepth 100000
set_option maxHeartbeats 4000000
def lenL:List UInt8:=[0,1]++(List.replicate 2 2++(List.replicate 4 3++(List.replicate 8 4++(List.replicate 16 5++(List.replicate 32 6++(List.replicate 64 7++List.replicate 128 8))))))
def lenT:ByteArray:=⟨⟨lenL⟩⟩
def shI (x:Int) (k:Nat):Int:=Int.fdiv x (2^k)
theorem len_ttt (x:Int):pureRun Tryz.prog (orc S5 K0) Tryz.f347 [.val false [.v (.int .u64 x)]] [true,true,true] 100 =
 some ([(decide (4294967296≤x),true),(decide (0≤(32:Int)∧0≤x),true),(decide (65536≤(shI x 32)),true),(decide (0≤(16:Int)∧0≤(shI x 32)),true),(decide (256≤(shI (shI x 32) 16)),true),(decide (0≤(8:Int)∧0≤(shI (shI x 32) 16)),true),(decide (0≤wrapc false .u8 (shI (shI (shI x 32) 16) 8)∧wrapc false .u8 (shI (shI (shI x 32) 16) 8)<(lenT.size:Int)),true)],intA (wrapc false .i64 (wrapc true .i64 (wrapc true .i64 (32+16)+8)+wrapc false .i64 (strAt lenT (wrapc false .u8 (shI (shI (shI x 32) 16) 8)))))):=by kernel_rfl
theorem len_ttf (x:Int):pureRun Tryz.prog (orc S5 K0) Tryz.f347 [.val false [.v (.int .u64 x)]] [true,true,false] 100 =
 some ([(decide (4294967296≤x),true),(decide (0≤(32:Int)∧0≤x),true),(decide (65536≤(shI x 32)),true),(decide (0≤(16:Int)∧0≤(shI x 32)),true),(decide (256≤(shI (shI x 32) 16)),false),(decide (0≤wrapc false .u8 (shI (shI x 32) 16)∧wrapc false .u8 (shI (shI x 32) 16)<(lenT.size:Int)),true)],intA (wrapc false .i64 (wrapc true .i64 (32+16)+wrapc false .i64 (strAt lenT (wrapc false .u8 (shI (shI x 32) 16)))))):=by kernel_rfl
theorem len_tft (x:Int):pureRun Tryz.prog (orc S5 K0) Tryz.f347 [.val false [.v (.int .u64 x)]] [true,false,true] 100 =
 some ([(decide (4294967296≤x),true),(decide (0≤(32:Int)∧0≤x),true),(decide (65536≤(shI x 32)),false),(decide (256≤(shI x 32)),true),(decide (0≤(8:Int)∧0≤(shI x 32)),true),(decide (0≤wrapc false .u8 (shI (shI x 32) 8)∧wrapc false .u8 (shI (shI x 32) 8)<(lenT.size:Int)),true)],intA (wrapc false .i64 (wrapc true .i64 (32+8)+wrapc false .i64 (strAt lenT (wrapc false .u8 (shI (shI x 32) 8)))))):=by kernel_rfl
theorem len_tff (x:Int):pureRun Tryz.prog (orc S5 K0) Tryz.f347 [.val false [.v (.int .u64 x)]] [true,false,false] 100 =
 some ([(decide (4294967296≤x),true),(decide (0≤(32:Int)∧0≤x),true),(decide (65536≤(shI x 32)),false),(decide (256≤(shI x 32)),false),(decide (0≤wrapc false .u8 (shI x 32)∧wrapc false .u8 (shI x 32)<(lenT.size:Int)),true)],intA (wrapc false .i64 (32+wrapc false .i64 (strAt lenT (wrapc false .u8 (shI x 32)))))):=by kernel_rfl
theorem len_ftt (x:Int):pureRun Tryz.prog (orc S5 K0) Tryz.f347 [.val false [.v (.int .u64 x)]] [false,true,true] 100 =
 some ([(decide (4294967296≤x),false),(decide (65536≤x),true),(decide (0≤(16:Int)∧0≤x),true),(decide (256≤(shI x 16)),true),(decide (0≤(8:Int)∧0≤(shI x 16)),true),(decide (0≤wrapc false .u8 (shI (shI x 16) 8)∧wrapc false .u8 (shI (shI x 16) 8)<(lenT.size:Int)),true)],intA (wrapc false .i64 (wrapc true .i64 (wrapc true .i64 (0+16)+8)+wrapc false .i64 (strAt lenT (wrapc false .u8 (shI (shI x 16) 8)))))):=by kernel_rfl
theorem len_ftf (x:Int):pureRun Tryz.prog (orc S5 K0) Tryz.f347 [.val false [.v (.int .u64 x)]] [false,true,false] 100 =
 some ([(decide (4294967296≤x),false),(decide (65536≤x),true),(decide (0≤(16:Int)∧0≤x),true),(decide (256≤(shI x 16)),false),(decide (0≤wrapc false .u8 (shI x 16)∧wrapc false .u8 (shI x 16)<(lenT.size:Int)),true)],intA (wrapc false .i64 (wrapc true .i64 (0+16)+wrapc false .i64 (strAt lenT (wrapc false .u8 (shI x 16)))))):=by kernel_rfl
theorem len_fft (x:Int):pureRun Tryz.prog (orc S5 K0) Tryz.f347 [.val false [.v (.int .u64 x)]] [false,false,true] 100 =
 some ([(decide (4294967296≤x),false),(decide (65536≤x),false),(decide (256≤x),true),(decide (0≤(8:Int)∧0≤x),true),(decide (0≤wrapc false .u8 (shI x 8)∧wrapc false .u8 (shI x 8)<(lenT.size:Int)),true)],intA (wrapc false .i64 (wrapc true .i64 (0+8)+wrapc false .i64 (strAt lenT (wrapc false .u8 (shI x 8)))))):=by kernel_rfl
theorem len_fff (x:Int):pureRun Tryz.prog (orc S5 K0) Tryz.f347 [.val false [.v (.int .u64 x)]] [false,false,false] 100 =
 some ([(decide (4294967296≤x),false),(decide (65536≤x),false),(decide (256≤x),false),(decide (0≤wrapc false .u8 x∧wrapc false .u8 x<(lenT.size:Int)),true)],intA (wrapc false .i64 (0+wrapc false .i64 (strAt lenT (wrapc false .u8 x))))):=by kernel_rfl
def Bits (x L top:Nat):Prop:=x<2^L∧(0<x→1≤L∧2^(L-1)≤x)∧L≤top
def lenS (v:Nat):Nat:=(lenL.getD v 0).toNat
def bitsB (x L:Nat):Bool:=Nat.blt x (2^L)&&((Nat.beq x 0||(Nat.ble 1 L&&Nat.ble (2^(L-1)) x))&&Nat.ble L 8)
def lenChk:Nat→Bool
 | 0=>true
 | n+1=>bitsB n (lenS n)&&lenChk n
theorem lenChk_spec:∀ n,lenChk n=true→∀ v,v<n→bitsB v (lenS v)=true
 | 0,_,v,h=>by omega
 | n+1,h,v,hv=>by
  simp only [lenChk,Bool.and_eq_true] at h
  rcases Nat.lt_or_ge v n with h1 | h1
  ·exact lenChk_spec n h.2 v h1
  ·have:v=n:=by omega
   subst this;exact h.1
theorem lenS_bits {v:Nat} (h:v<256):Bits v (lenS v) 8:=by
 have:=lenChk_spec 256 (by kernel_rfl) v h
 unfold bitsB at this
 simp only [Bool.and_eq_true,Bool.or_eq_true] at this
 obtain ⟨h1,h2,h3⟩:=this
 refine ⟨Nat.le_of_ble_eq_true h1,fun hp=>?_,Nat.le_of_ble_eq_true h3⟩
 rcases h2 with h2 | ⟨h2,h4⟩
 ·have:=Nat.eq_of_beq_eq_true h2;omega
 ·exact ⟨Nat.le_of_ble_eq_true h2,Nat.le_of_ble_eq_true h4⟩
theorem bits_more {x L top:Nat} (k:Nat) (h:Bits (x / 2^k) L top) (hx:2^k≤x):Bits x (k+L) (k+top):=by
 obtain ⟨h1,h2,h3⟩:=h
 have hp:0<2^k:=Nat.pow_pos (by decide)
 have hq:0<x / 2^k:=Nat.div_pos hx hp
 obtain ⟨h4,h5⟩:=h2 hq
 refine ⟨?_,fun _=>⟨by omega,?_⟩,by omega⟩
 ·rw [Nat.pow_add]
  exact (Nat.div_lt_iff_lt_mul hp).1 h1 |> fun q=>by rwa [Nat.mul_comm] at q
 ·rw [show k+L-1=k+(L-1) by omega,Nat.pow_add]
  have:=(Nat.le_div_iff_mul_le hp).1 h5
  rwa [Nat.mul_comm] at this
theorem bits_top {x L top top':Nat} (h:Bits x L top) (hle:top≤top'):Bits x L top':=⟨h.1,h.2.1,Nat.le_trans h.2.2 hle⟩
def len8 (x:Nat):Nat:=if 256≤x then 8+lenS (x / 2^8) else lenS x
def len16 (x:Nat):Nat:=if 65536≤x then 16+len8 (x / 2^16) else len8 x
def lenN (x:Nat):Nat:=if 4294967296≤x then 32+len16 (x / 2^32) else len16 x
theorem len8_bits {x:Nat} (h:x<65536):Bits x (len8 x) 16:=by
 unfold len8
 split
 ·exact bits_more 8 (lenS_bits (by omega)) (by omega)
 ·exact bits_top (lenS_bits (by omega)) (by decide)
theorem len16_bits {x:Nat} (h:x<4294967296):Bits x (len16 x) 32:=by
 unfold len16
 split
 ·exact bits_more 16 (len8_bits (by omega)) (by omega)
 ·exact bits_top (len8_bits (by omega)) (by decide)
theorem lenN_bits {x:Nat} (h:x<18446744073709551616):Bits x (lenN x) 64:=by
 unfold lenN
 split
 ·exact bits_more 32 (len16_bits (by omega)) (by omega)
 ·exact bits_top (len16_bits (by omega)) (by decide)
theorem shI_nat (x k:Nat):shI (x:Int) k=((x / 2^k:Nat):Int):=by
 unfold shI
 rw [Int.fdiv_eq_ediv_of_nonneg _ (by exact_mod_cast Nat.zero_le (2^k))]
 rw [Int.natCast_ediv,Int.natCast_pow];rfl
theorem wrapc_i64 (c:Bool) {z:Int} (h:-9223372036854775808≤z∧z≤9223372036854775807):wrapc c .i64 z=z:=by
 rw [wrapc_eq];exact wI_eq h
theorem wrapc_u8 {v:Nat} (h:v<256):wrapc false .u8 (v:Int)=v:=by
 rw [wrapc_eq,IntKind.wrap_u8];omega
theorem strAt_len {v:Nat}:strAt lenT (v:Int)=((lenS v:Nat):Int):=by
 unfold strAt lenS lenT
 rw [Int.toNat_natCast]
theorem lenT_size:lenT.size=256:=by kernel_rfl
theorem lenS_le (v:Nat):lenS v≤255:=by
 have:=(lenL.getD v 0).toNat_lt
 unfold lenS;omega
theorem len64_ok (x:Nat) (hx:x<18446744073709551616):PureOk Tryz.prog 347 [.val false [.v (.int .u64 (x:Int))]] (intA (lenN x)):=by
 have pk:=fun (c:List (Bool×Bool)) (v:AV) (p:List Bool) (h:pureRun Tryz.prog (orc S5 K0) Tryz.f347 [.val false [.v (.int .u64 (x:Int))]] p 100=some (c,v)) (hc:okConds c) (hk:noKeys v=true)=>pure_ok (orc_ok S5ok K0ok) mixed Tryz.func347 h hc hk
 have fin:∀ (n v m:Nat),v<256→n≤56→n+lenS v=m→intA (wrapc false .i64 ((n:Int)+wrapc false .i64 (strAt lenT (wrapc false .u8 (v:Int)))))=intA (m:Int):=by
  intro n v m hv hn he
  have:=lenS_le v
  rw [wrapc_u8 hv,strAt_len,wrapc_i64 (z:=((lenS v:Nat):Int)) _ (by omega),wrapc_i64 _ (by omega)]
  congr 1;omega
 have w0:∀ (z:Int),wrapc true .i64 z=wI z:=fun z=>wrapc_eq ..
 have cnd:∀ v:Nat,v<256→decide (0≤wrapc false .u8 (v:Int)∧wrapc false .u8 (v:Int)<(lenT.size:Int))=true:=by
  intro v hv
  rw [wrapc_u8 hv,lenT_size];simp;omega
 unfold lenN
 by_cases h1:4294967296≤x
 ·rw [if_pos h1]
  unfold len16
  have s1:=shI_nat x 32
  generalize hy:x / 2^32=y at *
  have hyb:y<4294967296:=by omega
  by_cases h2:65536≤y
  ·rw [if_pos h2]
   unfold len8
   have s2:=shI_nat y 16
   generalize hz:y / 2^16=z at *
   have hzb:z<65536:=by omega
   by_cases h3:256≤z
   ·rw [if_pos h3]
    have s3:=shI_nat z 8
    have hb:z / 2^8<256:=by omega
    have r:=len_ttt (x:Int)
    rw [s1,s2,s3] at r
    have h:=pk _ _ _ r ⟨by simp;omega,by simp,by simp;omega,by simp,by simp;omega,by simp,cnd _ hb,trivial⟩ rfl
    have e:wrapc true .i64 (wrapc true .i64 (32+16)+8)=((56:Nat):Int):=by kernel_rfl
    rw [e,fin 56 _ (32+(16+(8+lenS (z / 2^8)))) hb (by decide) (by omega)] at h
    exact h
   ·rw [if_neg h3]
    have hb:z<256:=by omega
    have r:=len_ttf (x:Int)
    rw [s1,s2] at r
    have h:=pk _ _ _ r ⟨by simp;omega,by simp,by simp;omega,by simp,by simp;omega,cnd _ hb,trivial⟩ rfl
    have e:wrapc true .i64 (32+16)=((48:Nat):Int):=by kernel_rfl
    rw [e,fin 48 _ (32+(16+lenS z)) hb (by decide) (by omega)] at h
    exact h
  ·rw [if_neg h2]
   unfold len8
   by_cases h3:256≤y
   ·rw [if_pos h3]
    have s3:=shI_nat y 8
    have hb:y / 2^8<256:=by omega
    have r:=len_tft (x:Int)
    rw [s1,s3] at r
    have h:=pk _ _ _ r ⟨by simp;omega,by simp,by simp;omega,by simp;omega,by simp,cnd _ hb,trivial⟩ rfl
    have e:wrapc true .i64 (32+8)=((40:Nat):Int):=by kernel_rfl
    rw [e,fin 40 _ (32+(8+lenS (y / 2^8))) hb (by decide) (by omega)] at h
    exact h
   ·rw [if_neg h3]
    have hb:y<256:=by omega
    have r:=len_tff (x:Int)
    rw [s1] at r
    have h:=pk _ _ _ r ⟨by simp;omega,by simp,by simp;omega,by simp;omega,cnd _ hb,trivial⟩ rfl
    rw [show (32:Int)=((32:Nat):Int) from rfl,fin 32 _ (32+lenS y) hb (by decide) (by omega)] at h
    exact h
 ·rw [if_neg h1]
  unfold len16
  by_cases h2:65536≤x
  ·rw [if_pos h2]
   unfold len8
   have s2:=shI_nat x 16
   generalize hz:x / 2^16=z at *
   have hzb:z<65536:=by omega
   by_cases h3:256≤z
   ·rw [if_pos h3]
    have s3:=shI_nat z 8
    have hb:z / 2^8<256:=by omega
    have r:=len_ftt (x:Int)
    rw [s2,s3] at r
    have h:=pk _ _ _ r ⟨by simp;omega,by simp;omega,by simp,by simp;omega,by simp,cnd _ hb,trivial⟩ rfl
    have e:wrapc true .i64 (wrapc true .i64 (0+16)+8)=((24:Nat):Int):=by kernel_rfl
    rw [e,fin 24 _ (16+(8+lenS (z / 2^8))) hb (by decide) (by omega)] at h
    exact h
   ·rw [if_neg h3]
    have hb:z<256:=by omega
    have r:=len_ftf (x:Int)
    rw [s2] at r
    have h:=pk _ _ _ r ⟨by simp;omega,by simp;omega,by simp,by simp;omega,cnd _ hb,trivial⟩ rfl
    have e:wrapc true .i64 (0+16)=((16:Nat):Int):=by kernel_rfl
    rw [e,fin 16 _ (16+lenS z) hb (by decide) (by omega)] at h
    exact h
  ·rw [if_neg h2]
   unfold len8
   by_cases h3:256≤x
   ·rw [if_pos h3]
    have s3:=shI_nat x 8
    have hb:x / 2^8<256:=by omega
    have r:=len_fft (x:Int)
    rw [s3] at r
    have h:=pk _ _ _ r ⟨by simp;omega,by simp;omega,by simp;omega,by simp,cnd _ hb,trivial⟩ rfl
    have e:wrapc true .i64 (0+8)=((8:Nat):Int):=by kernel_rfl
    rw [e,fin 8 _ (8+lenS (x / 2^8)) hb (by decide) (by omega)] at h
    exact h
   ·rw [if_neg h3]
    have hb:x<256:=by omega
    have r:=len_fff (x:Int)
    have h:=pk _ _ _ r ⟨by simp;omega,by simp;omega,by simp;omega,cnd _ hb,trivial⟩ rfl
    rw [show (0:Int)=((0:Nat):Int) from rfl,fin 0 _ (lenS x) hb (by decide) (by omega)] at h
    exact h
end Go.Proofs.YtjlcdlekmpjjnaaGreat
/- math/bits.LeadingZeros64; contracts of functions of integers; the walk of Div64. -/
namespace Go.Proofs.YtjlcdlekmpjjnaaGreat
open Ex
set_option maxRecDepth 100000
set_option maxHeartbeats 4000000
def asInts:List IntKind→List AV→Option (List Int)
 | [],[]=>some []
 | k::ks,A::r=>match asI (some A),asInts ks r with
  | some (_,k',i),some l=>match decide (k'=k) with
   | true=>some (i::l)
   | false=>none
  | _,_=>none
 | _,_=>none
def intAVs:List IntKind→List Int→List AV
 | k::ks,i::is=>.val false [.v (.int k i)]::intAVs ks is
 | _,_=>[]
def hasAll:List IntKind→List Int→Prop
 | k::ks,i::is=>has k i∧hasAll ks is
 | _,_=>True
theorem asInts_rel:∀ {ks:List IntKind} {args:List AV} {is:List Int} {us:List Value},asInts ks args=some is→relAs noEnv args us→relAs noEnv (intAVs ks is) us∧hasAll ks is
 | [],[],is,us,h,hr=>by
  injection h with h;subst h
  exact ⟨hr,trivial⟩
 | [],_::_,_,_,h,_=>by cases h
 | _::_,[],_,_,h,_=>by cases h
 | k::ks,A::r,is,us,h,hr=>by
  unfold asInts at h
  split at h
  ·rename_i c k' i l hi hl
   split at h
   ·rename_i hk
    injection h with h;subst h
    have hk':k'=k:=by simpa using hk
    subst hk'
    obtain ⟨u,us',r1,r2,rfl⟩:=hr
    obtain ⟨q1,q2⟩:=normI hi r1
    obtain ⟨p1,p2⟩:=asInts_rel hl r2
    exact ⟨⟨u,us',q1,p1,rfl⟩,q2,p2⟩
   ·cases h
  ·cases h
def spInts (ks:List IntKind) (g:List Int→Option (List (Bool×Bool)×AV)):List AV→Option (List (Bool×Bool)×AV):=fun args=>match asInts ks args with
 | some is=>g is
 | none=>none
theorem spInts_ok {f:FuncId} {ks:List IntKind} {g:List Int→Option (List (Bool×Bool)×AV)} (h:∀ is c v,g is=some (c,v)→hasAll ks is→okConds c→PureOk Tryz.prog f (intAVs ks is) v) :
  ∀ args c v,spInts ks g args=some (c,v)→okConds c→PureOk Tryz.prog f args v:=by
 intro args c v hs hc us w ha
 unfold spInts at hs
 split at hs
 ·rename_i is his
  obtain ⟨q1,q2⟩:=asInts_rel his ha
  exact h is c v hs q2 hc us w q1
 ·cases hs
def len1 (g:Int→List (Bool×Bool)×AV):List Int→Option (List (Bool×Bool)×AV)
 | [x]=>some (g x)
 | _=>none
noncomputable def S20:List (FuncId×ASpec):=(347,condSpec (spInts [.u64] (len1 fun x=>([],intA (lenN x.toNat)))))::S19
theorem S20ok:SpecsOk Tryz.prog S20:=⟨condSpec_ok Tryz.func347 (by kernel_rfl) (by kernel_rfl) (spInts_ok fun is c v h hh _=>by
 unfold len1 at h
 split at h
 ·injection h with h;injection h with h1 h2;subst h1;subst h2
  rename_i x
  have hb:=u64_bounds hh.1
  obtain ⟨X,rfl⟩:=Int.eq_ofNat_of_zero_le hb.1
  rw [Int.toNat_natCast]
  exact len64_ok X (by omega)
 ·cases h),S19ok⟩
theorem lz_run (x:Int):pureRun Tryz.prog (orc S20 K0) Tryz.f319 [.val false [.v (.int .u64 x)]] [] 100=some ([],intA (wI (64-(lenN x.toNat:Int)))):=by kernel_rfl
theorem lz_ok (x:Nat) (hx:x<18446744073709551616):PureOk Tryz.prog 319 [.val false [.v (.int .u64 (x:Int))]] (intA (64-lenN x:Nat)):=by
 have h:=pure_ok (orc_ok S20ok K0ok) mixed Tryz.func319 (lz_run x) trivial rfl
 have:=(lenN_bits hx).2.2
 rw [Int.toNat_natCast,wI_eq (by omega),show (64:Int)-(lenN x:Int)=((64-lenN x:Nat):Int) by omega] at h
 exact h
noncomputable def S21:List (FuncId×ASpec):=(319,condSpec (spInts [.u64] (len1 fun x=>([],intA (64-lenN x.toNat:Nat)))))::S20
theorem S21ok:SpecsOk Tryz.prog S21:=⟨condSpec_ok Tryz.func319 (by kernel_rfl) (by kernel_rfl) (spInts_ok fun is c v h hh _=>by
 unfold len1 at h
 split at h
 ·injection h with h;injection h with h1 h2;subst h1;subst h2
  rename_i x
  have hb:=u64_bounds hh.1
  obtain ⟨X,rfl⟩:=Int.eq_ofNat_of_zero_le hb.1
  rw [Int.toNat_natCast]
  exact lz_ok X (by omega)
 ·cases h),S20ok⟩
end Go.Proofs.YtjlcdlekmpjjnaaGreat
/- math/bits.Div64: its contract. -/
namespace Go.Proofs.YtjlcdlekmpjjnaaGreat
open Ex
set_option maxRecDepth 100000
set_option maxHeartbeats 4000000
def dA (h l y:Int):List AV:=[.val false [.v (.int .u64 h)],.val false [.v (.int .u64 l)],.val false [.v (.int .u64 y)]]
noncomputable def dTodo1:List Item:=todoOf (aSeg Tryz.prog (orc S21 K0) (some 0) 300 0 none (entry Tryz.f272 (dA 0 0 0) [] 0 [false,false,false]))
def uV (x:Int):AV:=.val false [.v (.int .u64 x)]
noncomputable def dT1 (Y s y1 y0 u u1 u0 q r:Int):List AV:=.any::.any::uV Y::.any::.any::.any::.any::.any::uV s::uV y1::uV y0::uV u::.any::uV u1::uV u0::uV q::uV r::List.replicate (Tryz.f272.ntmps-17) .any
noncomputable def dS1 (Y s y1 y0 u u1 u0 q r:Int) (p:List Bool):ASt:=⟨dTodo1,⟨dT1 Y s y1 y0 u u1 u0 q r,[],0,p⟩⟩
noncomputable def dTodo2:List Item:=todoOf (aSeg Tryz.prog (orc S21 K0) (some 0) 300 0 none (dS1 0 0 0 0 0 0 0 0 0 [false,false]))
noncomputable def dT2 (Y s y1 y0 u0 q r v z:Int):List AV:=.any::.any::uV Y::.any::.any::.any::.any::.any::uV s::uV y1::uV y0::.any::.any::.any::uV u0::uV q::uV r::uV v::uV z::List.replicate (Tryz.f272.ntmps-19) .any
noncomputable def dS2 (Y s y1 y0 u0 q r v z:Int) (p:List Bool):ASt:=⟨dTodo2,⟨dT2 Y s y1 y0 u0 q r v z,[],0,p⟩⟩
def shlI (x s:Int):Int:=mW (x*2^min s.toNat 64)
def shrI (x s:Int):Int:=Int.fdiv x (2^min s.toNat 64)
def dvs (y:Int):Int:=mW ((64-lenN y.toNat:Nat):Int)
def dvY (y:Int):Int:=shlI y (dvs y)
def dvu (h l y:Int):Int:=bits .or .u64 (shlI h (dvs y)) (shrI l (mW (64-dvs y)))
def dvl (l y:Int):Int:=shlI l (dvs y)
abbrev K1:Option (List Nat×List Nat×Nat):=some ([2,8,9,10,11,13,14,15,16],[],0)
abbrev K2:Option (List Nat×List Nat×Nat):=some ([2,8,9,10,14,15,16,17,18],[],0)
theorem d_entry (h l y:Int):aSeg Tryz.prog (orc S21 K0) (some 0) 300 0 K1 (entry Tryz.f272 (dA h l y) [] 0 [false,false,false]) =
 some ([(decide (y=0),false),(decide (y≤h),false),(decide (h=0),false),(true,true),(decide (0≤(32:Int)∧0≤dvY y),true),(true,true),(decide (0≤mW (64-dvs y)∧0≤l),true),(true,true),
  (decide (0≤(32:Int)∧0≤dvl l y),true),(decide (shrI (dvY y) 32≠0),true)],[],
  dS1 (dvY y) (dvs y) (shrI (dvY y) 32) (bits .and .u64 (dvY y) 4294967295) (dvu h l y) (shrI (dvl l y) 32) (bits .and .u64 (dvl l y) 4294967295) (mW (Int.tdiv (dvu h l y) (shrI (dvY y) 32)))
   (mW (dvu h l y-mW (mW (Int.tdiv (dvu h l y) (shrI (dvY y) 32))*shrI (dvY y) 32))) []):=by kernel_rfl
theorem d_small (h l y:Int):segRet Tryz.prog (orc S21 K0) Tryz.f272 300 0 (entry Tryz.f272 (dA h l y) [] 0 [false,false,true]) =
 some ([(decide (y=0),false),(decide (y≤h),false),(decide (h=0),true),(decide (y≠0),true),(decide (0≤l∧0<y),true)],[],.tup [(false,[.v (.int .u64 (mW (Int.tdiv l y)))]),(false,[.v (.int .u64 (Int.tmod l y))])]):=by kernel_rfl
def dcC (q r y0 u1:Int):Bool:=decide (mW (mW (4294967296*r)+u1)<mW (q*y0))
section
variable (Y s y1 y0 u u1 u0 q r v z:Int)
theorem d1_goA:aSeg Tryz.prog (orc S21 K0) (some 0) 300 0 K1 (dS1 Y s y1 y0 u u1 u0 q r [true,false]) =
 some ([(decide (4294967296≤q),true),(decide (4294967296≤mW (r+y1)),false)],[],dS1 Y s y1 y0 u u1 u0 (mW (q-1)) (mW (r+y1)) []):=by kernel_rfl
theorem d1_goB:aSeg Tryz.prog (orc S21 K0) (some 0) 300 0 K1 (dS1 Y s y1 y0 u u1 u0 q r [false,true,false]) =
 some ([(decide (4294967296≤q),false),(dcC q r y0 u1,true),(decide (4294967296≤mW (r+y1)),false)],[],dS1 Y s y1 y0 u u1 u0 (mW (q-1)) (mW (r+y1)) []):=by kernel_rfl
def d21 (Y u u1 q:Int):Int:=mW (mW (mW (u*4294967296)+u1)-mW (q*Y))
theorem d1_brA:aSeg Tryz.prog (orc S21 K0) (some 0) 300 0 K2 (dS1 Y s y1 y0 u u1 u0 q r [true,true]) =
 some ([(decide (4294967296≤q),true),(decide (4294967296≤mW (r+y1)),true),(decide (y1≠0),true)],[],
  dS2 Y s y1 y0 u0 (mW (q-1)) (mW (d21 Y u u1 (mW (q-1))-mW (mW (Int.tdiv (d21 Y u u1 (mW (q-1))) y1)*y1))) (d21 Y u u1 (mW (q-1))) (mW (Int.tdiv (d21 Y u u1 (mW (q-1))) y1)) []):=by kernel_rfl
theorem d1_brB:aSeg Tryz.prog (orc S21 K0) (some 0) 300 0 K2 (dS1 Y s y1 y0 u u1 u0 q r [false,true,true]) =
 some ([(decide (4294967296≤q),false),(dcC q r y0 u1,true),(decide (4294967296≤mW (r+y1)),true),(decide (y1≠0),true)],[],
  dS2 Y s y1 y0 u0 (mW (q-1)) (mW (d21 Y u u1 (mW (q-1))-mW (mW (Int.tdiv (d21 Y u u1 (mW (q-1))) y1)*y1))) (d21 Y u u1 (mW (q-1))) (mW (Int.tdiv (d21 Y u u1 (mW (q-1))) y1)) []):=by kernel_rfl
theorem d1_out:aSeg Tryz.prog (orc S21 K0) (some 0) 300 0 K2 (dS1 Y s y1 y0 u u1 u0 q r [false,false]) =
 some ([(decide (4294967296≤q),false),(dcC q r y0 u1,false),(decide (y1≠0),true)],[],
  dS2 Y s y1 y0 u0 q (mW (d21 Y u u1 q-mW (mW (Int.tdiv (d21 Y u u1 q) y1)*y1))) (d21 Y u u1 q) (mW (Int.tdiv (d21 Y u u1 q) y1)) []):=by kernel_rfl
theorem d2_goA:aSeg Tryz.prog (orc S21 K0) (some 0) 300 0 K2 (dS2 Y s y1 y0 u0 q r v z [true,false]) =
 some ([(decide (4294967296≤z),true),(decide (4294967296≤mW (r+y1)),false)],[],dS2 Y s y1 y0 u0 q (mW (r+y1)) v (mW (z-1)) []):=by kernel_rfl
theorem d2_goB:aSeg Tryz.prog (orc S21 K0) (some 0) 300 0 K2 (dS2 Y s y1 y0 u0 q r v z [false,true,false]) =
 some ([(decide (4294967296≤z),false),(dcC z r y0 u0,true),(decide (4294967296≤mW (r+y1)),false)],[],dS2 Y s y1 y0 u0 q (mW (r+y1)) v (mW (z-1)) []):=by kernel_rfl
def dEnd (Y s u0 q v z:Int):AV:=.tup [(false,[.v (.int .u64 (mW (mW (q*4294967296)+z)))]),(false,[.v (.int .u64 (shrI (d21 Y v u0 z) s))])]
theorem d2_brA:segRet Tryz.prog (orc S21 K0) Tryz.f272 300 0 (dS2 Y s y1 y0 u0 q r v z [true,true]) =
 some ([(decide (4294967296≤z),true),(decide (4294967296≤mW (r+y1)),true),(decide (0≤s∧0≤d21 Y v u0 (mW (z-1))),true)],[],dEnd Y s u0 q v (mW (z-1))):=by kernel_rfl
theorem d2_brB:segRet Tryz.prog (orc S21 K0) Tryz.f272 300 0 (dS2 Y s y1 y0 u0 q r v z [false,true,true]) =
 some ([(decide (4294967296≤z),false),(dcC z r y0 u0,true),(decide (4294967296≤mW (r+y1)),true),(decide (0≤s∧0≤d21 Y v u0 (mW (z-1))),true)],[],dEnd Y s u0 q v (mW (z-1))):=by kernel_rfl
theorem d2_out:segRet Tryz.prog (orc S21 K0) Tryz.f272 300 0 (dS2 Y s y1 y0 u0 q r v z [false,false]) =
 some ([(decide (4294967296≤z),false),(dcC z r y0 u0,false),(decide (0≤s∧0≤d21 Y v u0 z),true)],[],dEnd Y s u0 q v z):=by kernel_rfl
end
end Go.Proofs.YtjlcdlekmpjjnaaGreat
/- math/bits.Div64: what it computes. -/
namespace Go.Proofs.YtjlcdlekmpjjnaaGreat
open Ex
set_option maxRecDepth 100000
set_option maxHeartbeats 4000000
theorem dig_lt1 {u u1 Y q:Nat} (hu:u<Y) (hu1:u1<4294967296) (hq:4294967296≤q):(u*4294967296+u1) / Y<q:=by
 refine Nat.lt_of_lt_of_le (Nat.div_lt_of_lt_mul ?_) hq
 rw [Nat.mul_comm Y]
 omega
theorem dig_lt2 {u u1 y1 y0 Y q r:Nat} (hY:Y=y1*4294967296+y0) (hu:u=q*y1+r) (h:4294967296*r+u1<q*y0):(u*4294967296+u1) / Y<q:=by
 refine Nat.div_lt_of_lt_mul ?_
 have e1:(q*y1+r)*4294967296=q*y1*4294967296+r*4294967296:=Nat.add_mul ..
 have e2:(y1*4294967296+y0)*q=q*y1*4294967296+q*y0:=by rw [Nat.add_mul,Nat.mul_comm y0 q,Nat.mul_right_comm,Nat.mul_comm y1 q]
 rw [hY,hu,e1,e2]
 omega
theorem dig_eq {u u1 y1 y0 Y q r:Nat} (hY:Y=y1*4294967296+y0) (hpos:0<Y) (hu:u=q*y1+r) (h:q*y0≤4294967296*r+u1) (hle:(u*4294967296+u1) / Y≤q):(u*4294967296+u1) / Y=q:=by
 refine Nat.le_antisymm hle ((Nat.le_div_iff_mul_le hpos).2 ?_)
 rw [hY,hu,Nat.mul_add,← Nat.mul_assoc]
 omega
theorem dig_brk {q y0 r u1:Nat} (hq:q≤4294967297) (hy:y0<4294967296) (hr:4294967296≤r):q*y0≤4294967296*r+u1:=by
 have:=Nat.mul_le_mul hq (show y0≤4294967295 by omega)
 omega
theorem dig_init {u u1 y1 y0 Y:Nat} (hY:Y=y1*4294967296+y0) (hy1:0<y1) (hu1:u1<4294967296):(u*4294967296+u1) / Y≤u / y1:=by
 refine (Nat.le_div_iff_mul_le hy1).2 ?_
 have h:=Nat.div_mul_le_self (u*4294967296+u1) Y
 generalize (u*4294967296+u1) / Y=q at *
 rw [hY,Nat.mul_add,← Nat.mul_assoc] at h
 generalize q*y1=A at *
 generalize q*y0=B at *
 omega
theorem dig_top {u y1 y0 Y:Nat} (hY:Y=y1*4294967296+y0) (hy0:y0<4294967296) (hy1:2147483648≤y1) (hu:u<Y):u / y1≤4294967298:=by
 have hb:u<4294967299*y1:=by omega
 have:=(Nat.div_lt_iff_lt_mul (show 0<y1 by omega)).2 hb
 omega
theorem d21_val {Y u u1 q:Nat} (h:q=(u*4294967296+u1) / Y) (hpos:0<Y) (hY:Y≤18446744073709551616):d21 Y u u1 q=(((u*4294967296+u1) % Y:Nat):Int):=by
 have h1:=Nat.div_add_mod (u*4294967296+u1) Y
 have h2:=Nat.mod_lt (u*4294967296+u1) hpos
 rw [← h,Nat.mul_comm] at h1
 unfold d21
 simp only [mW_eq]
 have e:(q:Int)*(Y:Int)=((q*Y:Nat):Int):=by rw [Int.natCast_mul]
 rw [e]
 generalize q*Y=N at *
 generalize (u*4294967296+u1) % Y=m at *
 omega
theorem dcC_val {q r y0 u1:Nat} (hq:q<4294967296) (hr:r<4294967296) (hy:y0<4294967296) (hu1:u1<4294967296):dcC q r y0 u1=decide (4294967296*r+u1<q*y0):=by
 have hm:=Nat.mul_le_mul (show q≤4294967295 by omega) (show y0≤4294967295 by omega)
 unfold dcC
 simp only [mW_eq]
 have e:(q:Int)*(y0:Int)=((q*y0:Nat):Int):=by rw [Int.natCast_mul]
 rw [e]
 generalize q*y0=N at *
 have e1:(4294967296*(r:Int)) % 18446744073709551616=4294967296*(r:Int):=by omega
 rw [e1]
 have e2:(4294967296*(r:Int)+u1) % 18446744073709551616=4294967296*(r:Int)+u1:=by omega
 have e3:((N:Nat):Int) % 18446744073709551616=N:=by omega
 rw [e2,e3]
 by_cases h:4294967296*r+u1<N
 ·rw [decide_eq_true h,decide_eq_true (by omega)]
 ·rw [decide_eq_false h,decide_eq_false (by omega)]
theorem next_qr (v y1:Nat) (hv:v<18446744073709551616) (hy1:0<y1):mW (Int.tdiv (v:Int) y1)=((v / y1:Nat):Int)∧mW ((v:Int)-mW (mW (Int.tdiv (v:Int) y1)*y1))=((v % y1:Nat):Int):=by
 have h1:=Nat.div_add_mod v y1
 have h2:=Nat.mod_lt v hy1
 have h3:=Nat.div_le_self v y1
 have e0:Int.tdiv (v:Int) y1=((v / y1:Nat):Int):=by rw [Int.tdiv_eq_ediv_of_nonneg (by omega)];rfl
 rw [e0,mW_nat,Nat.mod_eq_of_lt (by omega)]
 refine ⟨rfl,?_⟩
 have e1:((v / y1:Nat):Int)*(y1:Int)=((v / y1*y1:Nat):Int):=by rw [Int.natCast_mul]
 rw [e1,mW_nat,mW_eq,Nat.mul_comm]
 generalize y1*(v / y1)=N at *
 omega
theorem dec_q {q:Nat} (h:0<q) (hq:q≤18446744073709551616):mW ((q:Int)-1)=((q-1:Nat):Int):=by rw [mW_eq];omega
theorem inc_r {r y1:Nat} (hr:r<4294967296) (hy:y1<4294967296):mW ((r:Int)+y1)=((r+y1:Nat):Int):=by rw [mW_eq];omega
def dOut (q z m s:Nat):AV:=.tup [(false,[.v (.int .u64 ((q*4294967296+z:Nat):Int))]),(false,[.v (.int .u64 ((m / 2^min s 64:Nat):Int))])]
theorem shrI_nat (x s:Nat):shrI (x:Int) (s:Int)=((x / 2^min s 64:Nat):Int):=by
 unfold shrI
 rw [Int.toNat_natCast]
 exact shI_nat x _
section
variable {Y s y1 y0 u0:Nat} (hY:Y=y1*4294967296+y0) (hy0:y0<4294967296) (hy1:2147483648≤y1) (hy1':y1<4294967296) (hu0:u0<4294967296) (w0:World)
include hY hy0 hy1 hy1' hu0
theorem d2_safe {v q:Nat} (hv:v<Y) (hq:q<4294967296):∀ z r,v=z*y1+r→r<4294967296→z≤4294967298→(v*4294967296+u0) / Y≤z →
  ASafe Tryz.prog 272 noEnv w0 (PureOut w0 (dOut q ((v*4294967296+u0) / Y) ((v*4294967296+u0) % Y) s)) Tryz.f272.ntmps [] (dS2 Y s y1 y0 u0 q r v z []):=by
 have hpos:0<Y:=by omega
 have hYle:Y≤18446744073709551616:=by omega
 have fin:∀ z:Nat,z=(v*4294967296+u0) / Y→dEnd Y s u0 q v z=dOut q ((v*4294967296+u0) / Y) ((v*4294967296+u0) % Y) s:=by
  intro z hz
  have hlt:z<4294967296:=by rw [hz];exact dig_lt1 hv hu0 (Nat.le_refl _)
  unfold dEnd dOut
  rw [d21_val hz hpos hYle,shrI_nat,← hz]
  have:mW (mW ((q:Int)*4294967296)+(z:Int))=((q*4294967296+z:Nat):Int):=by rw [mW_eq,mW_eq];omega
  rw [this]
 have pos21:∀ z:Nat,z=(v*4294967296+u0) / Y→decide (0≤(s:Int)∧0≤d21 Y v u0 z)=true:=by
  intro z hz
  rw [d21_val hz hpos hYle];simp only [decide_eq_true_eq];omega
 intro z
 induction z with
 | zero =>
  intro r hz hr _ hle
  have hq0:(v*4294967296+u0) / Y=0:=Nat.le_zero.1 hle
  have hdc:dcC ((0:Nat):Int) r y0 u0=false:=by rw [dcC_val (by decide) hr hy0 hu0];simp
  rw [← fin 0 hq0.symm]
  exact path_safe [false,false] (ret_safe (orc_ok S21ok K0ok) mixed Tryz.func272 (d2_out ..) ⟨by simp,hdc,pos21 0 hq0.symm,trivial⟩ (wfB_ok (by kernel_rfl)) (fun _ _=>rfl) rfl)
 | succ z ih =>
  intro r hz hr htop hle
  have hdq:=dec_q (q:=z+1) (by omega) (by omega)
  have hir:=inc_r hr hy1'
  rw [Nat.add_sub_cancel] at hdq
  have hz':v=z*y1+(r+y1):=by rw [hz,Nat.succ_mul];omega
  have go:∀ (hlt:(v*4294967296+u0) / Y<z+1),(4294967296≤r+y1→(v*4294967296+u0) / Y=z):=fun hlt hb =>
   dig_eq hY hpos hz' (dig_brk (by omega) hy0 hb) (by omega)
  by_cases hbig:4294967296≤z+1
  ·have hlt:=dig_lt1 hv hu0 hbig
   by_cases hb:4294967296≤r+y1
   ·have hq:=go hlt hb
    have h:=ret_safe (w0:=w0) (β0:=noEnv) (n:=Tryz.f272.ntmps) (orc_ok S21ok K0ok) mixed Tryz.func272 (d2_brA Y s y1 y0 u0 q r v (z+1:Nat)) ⟨by simp;omega,by rw [hir];simp;omega,by rw [hdq];exact pos21 z hq.symm,trivial⟩ (wfB_ok (by kernel_rfl)) (fun _ _=>rfl) rfl
    rw [hdq,fin z hq.symm] at h
    exact path_safe [true,true] h
   ·refine path_safe [true,false] (seg_safe (orc_ok S21ok K0ok) mixed (d2_goA Y s y1 y0 u0 q r v (z+1:Nat)) ⟨by simp;omega,by rw [hir];simp;omega,trivial⟩ (wfB_ok (by kernel_rfl)) (fun _ _=>rfl) (fun _ h=>by cases h) fun _=>?_)
    rw [hdq,hir]
    exact ih (r+y1) hz' (by omega) (by omega) (by omega)
  ·have hsm:z+1<4294967296:=by omega
   have hdc:=dcC_val (u1:=u0) hsm hr hy0 hu0
   by_cases hc:4294967296*r+u0<(z+1)*y0
   ·have hlt:=dig_lt2 hY hz hc
    by_cases hb:4294967296≤r+y1
    ·have hq:=go hlt hb
     have h:=ret_safe (w0:=w0) (β0:=noEnv) (n:=Tryz.f272.ntmps) (orc_ok S21ok K0ok) mixed Tryz.func272 (d2_brB Y s y1 y0 u0 q r v (z+1:Nat)) ⟨by simp;omega,by rw [hdc];exact decide_eq_true hc,by rw [hir];simp;omega,by rw [hdq];exact pos21 z hq.symm,trivial⟩ (wfB_ok (by kernel_rfl)) (fun _ _=>rfl) rfl
     rw [hdq,fin z hq.symm] at h
     exact path_safe [false,true,true] h
    ·refine path_safe [false,true,false] (seg_safe (orc_ok S21ok K0ok) mixed (d2_goB Y s y1 y0 u0 q r v (z+1:Nat)) ⟨by simp;omega,by rw [hdc];exact decide_eq_true hc,by rw [hir];simp;omega,trivial⟩ (wfB_ok (by kernel_rfl)) (fun _ _=>rfl) (fun _ h=>by cases h) fun _=>?_)
     rw [hdq,hir]
     exact ih (r+y1) hz' (by omega) (by omega) (by omega)
   ·have hq:=dig_eq hY hpos hz (by omega) hle
    rw [← fin (z+1) hq.symm]
    exact path_safe [false,false] (ret_safe (orc_ok S21ok K0ok) mixed Tryz.func272 (d2_out ..) ⟨by simp;omega,by rw [hdc];exact decide_eq_false hc,pos21 _ hq.symm,trivial⟩ (wfB_ok (by kernel_rfl)) (fun _ _=>rfl) rfl)
theorem d1_safe {u u1:Nat} (hu:u<Y) (hu1:u1<4294967296) {R:Ending→World→Prop}
  (hnext:ASafe Tryz.prog 272 noEnv w0 R Tryz.f272.ntmps [] (dS2 Y s y1 y0 u0 ((u*4294967296+u1) / Y:Nat) ((u*4294967296+u1) % Y % y1:Nat) ((u*4294967296+u1) % Y:Nat) ((u*4294967296+u1) % Y / y1:Nat) [])) :
  ∀ q r,u=q*y1+r→r<4294967296→q≤4294967298→(u*4294967296+u1) / Y≤q→ASafe Tryz.prog 272 noEnv w0 R Tryz.f272.ntmps [] (dS1 Y s y1 y0 u u1 u0 q r []):=by
 have _h:=hu0
 have hpos:0<Y:=by omega
 have hYle:Y≤18446744073709551616:=by omega
 have hm:=Nat.mod_lt (u*4294967296+u1) hpos
 have hne:decide ((y1:Int)≠0)=true:=by simp only [decide_eq_true_eq];omega
 obtain ⟨n1,n2⟩:=next_qr ((u*4294967296+u1) % Y) y1 (by omega) (by omega)
 intro q
 induction q with
 | zero =>
  intro r hz hr _ hle
  have hq0:((0:Nat))=(u*4294967296+u1) / Y:=(Nat.le_zero.1 hle).symm
  have hdc:dcC ((0:Nat):Int) r y0 u1=false:=by rw [dcC_val (by decide) hr hy0 hu1];simp
  refine path_safe [false,false] (seg_safe (orc_ok S21ok K0ok) mixed (d1_out Y s y1 y0 u u1 u0 (0:Nat) r) ⟨by simp,hdc,hne,trivial⟩ (wfB_ok (by kernel_rfl)) (fun _ _=>rfl) (fun _ h=>by cases h) fun _=>?_)
  rw [d21_val hq0 hpos hYle,n2,n1]
  rw [hq0]
  exact hnext
 | succ q ih =>
  intro r hz hr htop hle
  have hdq:=dec_q (q:=q+1) (by omega) (by omega)
  have hir:=inc_r hr hy1'
  rw [Nat.add_sub_cancel] at hdq
  have hz':u=q*y1+(r+y1):=by rw [hz,Nat.succ_mul];omega
  have go:∀ (hlt:(u*4294967296+u1) / Y<q+1),(4294967296≤r+y1→(u*4294967296+u1) / Y=q):=fun hlt hb =>
   dig_eq hY hpos hz' (dig_brk (by omega) hy0 hb) (by omega)
  by_cases hbig:4294967296≤q+1
  ·have hlt:=dig_lt1 hu hu1 hbig
   by_cases hb:4294967296≤r+y1
   ·have hq:=go hlt hb
    refine path_safe [true,true] (seg_safe (orc_ok S21ok K0ok) mixed (d1_brA Y s y1 y0 u u1 u0 (q+1:Nat) r) ⟨by simp;omega,by rw [hir];simp;omega,hne,trivial⟩ (wfB_ok (by kernel_rfl)) (fun _ _=>rfl) (fun _ h=>by cases h) fun _=>?_)
    rw [hdq,d21_val hq.symm hpos hYle,n2,n1]
    rw [← hq]
    exact hnext
   ·refine path_safe [true,false] (seg_safe (orc_ok S21ok K0ok) mixed (d1_goA Y s y1 y0 u u1 u0 (q+1:Nat) r) ⟨by simp;omega,by rw [hir];simp;omega,trivial⟩ (wfB_ok (by kernel_rfl)) (fun _ _=>rfl) (fun _ h=>by cases h) fun _=>?_)
    rw [hdq,hir]
    exact ih (r+y1) hz' (by omega) (by omega) (by omega)
  ·have hsm:q+1<4294967296:=by omega
   have hdc:=dcC_val (u1:=u1) hsm hr hy0 hu1
   by_cases hc:4294967296*r+u1<(q+1)*y0
   ·have hlt:=dig_lt2 hY hz hc
    by_cases hb:4294967296≤r+y1
    ·have hq:=go hlt hb
     refine path_safe [false,true,true] (seg_safe (orc_ok S21ok K0ok) mixed (d1_brB Y s y1 y0 u u1 u0 (q+1:Nat) r) ⟨by simp;omega,by rw [hdc];exact decide_eq_true hc,by rw [hir];simp;omega,hne,trivial⟩ (wfB_ok (by kernel_rfl)) (fun _ _=>rfl) (fun _ h=>by cases h) fun _=>?_)
     rw [hdq,d21_val hq.symm hpos hYle,n2,n1]
     rw [← hq]
     exact hnext
    ·refine path_safe [false,true,false] (seg_safe (orc_ok S21ok K0ok) mixed (d1_goB Y s y1 y0 u u1 u0 (q+1:Nat) r) ⟨by simp;omega,by rw [hdc];exact decide_eq_true hc,by rw [hir];simp;omega,trivial⟩ (wfB_ok (by kernel_rfl)) (fun _ _=>rfl) (fun _ h=>by cases h) fun _=>?_)
     rw [hdq,hir]
     exact ih (r+y1) hz' (by omega) (by omega) (by omega)
   ·have hq:=dig_eq hY hpos hz (by omega) hle
    refine path_safe [false,false] (seg_safe (orc_ok S21ok K0ok) mixed (d1_out Y s y1 y0 u u1 u0 (q+1:Nat) r) ⟨by simp;omega,by rw [hdc];exact decide_eq_false hc,hne,trivial⟩ (wfB_ok (by kernel_rfl)) (fun _ _=>rfl) (fun _ h=>by cases h) fun _=>?_)
    rw [d21_val hq.symm hpos hYle,n2,n1]
    rw [← hq]
    exact hnext
end
end Go.Proofs.YtjlcdlekmpjjnaaGreat
/- math/bits.Div64: the contract. -/
namespace Go.Proofs.YtjlcdlekmpjjnaaGreat
open Ex
set_option maxRecDepth 100000
set_option maxHeartbeats 4000000
def W64:Nat:=18446744073709551616
theorem shlI_nat {x s:Nat} (hs:s≤64):shlI (x:Int) (s:Int)=((x*2^s % W64:Nat):Int):=by
 unfold shlI
 rw [Int.toNat_natCast,Nat.min_eq_left hs]
 have:(x:Int)*2^s=((x*2^s:Nat):Int):=by rw [Int.natCast_mul,Int.natCast_pow];rfl
 rw [this,mW_nat];rfl
theorem or_add {h s B:Nat} (hA:h*2^s<W64) (hB:B<2^s) (hs:s≤64):bits .or .u64 ((h*2^s:Nat):Int) (B:Int)=((h*2^s+B:Nat):Int):=by
 have hle:2^s≤2^64:=Nat.pow_le_pow_right (by decide) hs
 have:=(bits_nat .u64 64 (by decide) (fun n h0 h1=>by rw [IntKind.wrap_u64];omega) (h*2^s) B hA (by omega)).2
 rw [this,← Nat.shiftLeft_eq,Nat.shiftLeft_add_eq_or_of_lt hB]
theorem norm_y {y:Nat} (h0:0<y) (h1:y<W64):∃ s,s≤63∧64-lenN y=s∧9223372036854775808≤y*2^s∧y*2^s<W64:=by
 obtain ⟨b1,b2,b3⟩:=lenN_bits h1
 obtain ⟨b4,b5⟩:=b2 h0
 refine ⟨64-lenN y,by omega,rfl,?_,?_⟩
 ·have:=Nat.mul_le_mul_right (2^(64-lenN y)) b5
  rw [← Nat.pow_add,show lenN y-1+(64-lenN y)=63 by omega] at this
  exact this
 ·have:=Nat.mul_lt_mul_of_pos_right b1 (show 0<2^(64-lenN y) from Nat.pow_pos (by decide))
  rw [← Nat.pow_add,show lenN y+(64-lenN y)=64 by omega] at this
  exact this
theorem div_digits {Y u u1 u0 b:Nat} (hpos:0<Y):(u*(b*b)+(u1*b+u0)) / Y=(u*b+u1) / Y*b+((u*b+u1) % Y*b+u0) / Y∧(u*(b*b)+(u1*b+u0)) % Y=((u*b+u1) % Y*b+u0) % Y:=by
 have e:u*(b*b)+(u1*b+u0)=(u*b+u1) % Y*b+u0+Y*((u*b+u1) / Y*b):=by
  have h1:=Nat.div_add_mod (u*b+u1) Y
  have:u*(b*b)+u1*b=(u*b+u1)*b:=by rw [Nat.add_mul,Nat.mul_assoc]
  rw [← Nat.add_assoc,this]
  conv=>lhs;rw [← h1,Nat.add_mul]
  rw [Nat.mul_assoc]
  omega
 rw [e,Nat.add_mul_div_left _ _ hpos,Nat.add_mul_mod_self_left]
 exact ⟨by omega,rfl⟩
theorem low_split {l s:Nat} (hl:l<W64) (hs:s≤63):l*2^s=l / 2^(64-s)*W64+l*2^s % W64∧l / 2^(64-s)<2^s:=by
 have e:W64=2^(64-s)*2^s:=by rw [← Nat.pow_add,show 64-s+s=64 by omega];rfl
 have hp:0<2^s:=Nat.pow_pos (by decide)
 constructor
 ·have h1:=Nat.div_add_mod (l*2^s) W64
  have h2:l*2^s / W64=l / 2^(64-s):=by rw [e,Nat.mul_div_mul_right _ _ hp]
  rw [h2,Nat.mul_comm W64] at h1
  exact h1.symm
 ·refine Nat.div_lt_of_lt_mul ?_
  rw [← e];exact hl
def divA (h l y:Nat):AV:=.tup [(false,[.v (.int .u64 (((h*W64+l) / y:Nat):Int))]),(false,[.v (.int .u64 (((h*W64+l) % y:Nat):Int))])]
theorem div64_ok {h l y:Nat} (hh:h<y) (hl:l<W64) (hy:y<W64):PureOk Tryz.prog 272 (dA h l y) (divA h l y):=by
 refine pure_entry (path:=[]) Tryz.func272 (by kernel_rfl) (by kernel_rfl) fun w0=>?_
 have hy0:0<y:=by omega
 by_cases hz:h=0
 ·subst hz
  have h1:=ret_safe (w0:=w0) (β0:=noEnv) (n:=Tryz.f272.ntmps) (orc_ok S21ok K0ok) mixed Tryz.func272 (d_small ((0:Nat):Int) l y) ⟨by simp;omega,by simp;omega,by simp,by simp;omega,by simp;omega,trivial⟩ (wfB_ok (by kernel_rfl)) (fun _ _=>rfl) rfl
  have e1:mW (Int.tdiv (l:Int) y)=(((0*W64+l) / y:Nat):Int):=by
   rw [Int.tdiv_eq_ediv_of_nonneg (by omega),Nat.zero_mul,Nat.zero_add,← Int.natCast_ediv,mW_nat,Nat.mod_eq_of_lt (Nat.lt_of_le_of_lt (Nat.div_le_self l y) (show l<18446744073709551616 from hl))]
  have e2:Int.tmod (l:Int) y=(((0*W64+l) % y:Nat):Int):=by
   rw [Int.tmod_eq_emod_of_nonneg (by omega),Nat.zero_mul,Nat.zero_add];rfl
  rw [e1,e2] at h1
  exact path_safe [false,false,true] h1
 ·obtain ⟨s,hs,hls,hY1,hY2⟩:=norm_y hy0 hy
  have hp:0<2^s:=Nat.pow_pos (by decide)
  obtain ⟨lo1,lo2⟩:=low_split hl hs
  have es:dvs (y:Int)=(s:Int):=by
   unfold dvs
   rw [Int.toNat_natCast,hls,mW_nat,Nat.mod_eq_of_lt (by omega)]
  have eY:dvY (y:Int)=((y*2^s:Nat):Int):=by
   unfold dvY
   rw [es,shlI_nat (by omega),Nat.mod_eq_of_lt hY2]
  have hA:h*2^s+2^s≤y*2^s:=by
   have:=Nat.mul_le_mul_right (2^s) (show h+1≤y from hh)
   rwa [Nat.add_mul,Nat.one_mul] at this
  have eu:dvu (h:Int) (l:Int) (y:Int)=((h*2^s+l / 2^(64-s):Nat):Int):=by
   unfold dvu
   have e64:mW (64-(s:Int))=((64-s:Nat):Int):=by rw [mW_eq];omega
   rw [es,e64,shlI_nat (by omega),Nat.mod_eq_of_lt (by omega),shrI_nat,Nat.min_eq_left (show 64-s≤64 by omega)]
   exact or_add (by omega) lo2 (by omega)
  have el:dvl (l:Int) (y:Int)=((l*2^s % W64:Nat):Int):=by
   unfold dvl
   rw [es,shlI_nat (by omega)]
  generalize hYd:y*2^s=Y at *
  generalize hud:h*2^s+l / 2^(64-s)=u at *
  generalize hld:l*2^s % W64=ul at *
  have hul:ul<W64:=by rw [← hld];exact Nat.mod_lt _ (by decide)
  have hu:u<Y:=by omega
  unfold W64 at hul hY2
  have ent:=d_entry (h:Int) (l:Int) (y:Int)
  have e32:∀ x:Nat,shrI (x:Int) 32=((x / 4294967296:Nat):Int):=fun x=>shrI_nat x 32
  have eand:∀ x:Nat,x<18446744073709551616→bits .and .u64 (x:Int) 4294967295=((x % 4294967296:Nat):Int):=fun x hx=>by
   have:=mLo_eq (x:=(x:Int)) (by omega) (by omega)
   unfold mLo at this
   rw [this];omega
  have e64:mW (64-(s:Int))=((64-s:Nat):Int):=by rw [mW_eq];omega
  rw [eY,eu,el,es,e32,e32,eand Y hY2,eand ul hul,e64] at ent
  obtain ⟨n1,n2⟩:=next_qr u (Y / 4294967296) (by omega) (by omega)
  rw [n2,n1] at ent
  have hYs:Y=Y / 4294967296*4294967296+Y % 4294967296:=by omega
  refine path_safe [false,false,false] (seg_safe (orc_ok S21ok K0ok) mixed ent ?_ (wfB_ok (by kernel_rfl)) (fun _ _=>rfl) (fun _ h=>by cases h) fun _=>?_)
  ·refine ⟨by simp;omega,by simp;omega,by simp;omega,rfl,by simp,rfl,by simp,rfl,by simp,?_,trivial⟩
   simp only [decide_eq_true_eq];omega
  ·have hr1:=Nat.mod_lt u (show 0<Y / 4294967296 by omega)
   have hdm:=Nat.div_add_mod u (Y / 4294967296)
   rw [Nat.mul_comm] at hdm
   refine d1_safe hYs (Nat.mod_lt _ (by decide)) (by omega) (by omega) (Nat.mod_lt ul (by decide)) w0 hu (by omega) ?_ (u / (Y / 4294967296)) (u % (Y / 4294967296)) hdm.symm (by omega) (dig_top hYs (Nat.mod_lt _ (by decide)) (by omega) hu) (dig_init hYs (by omega) (by omega))
   have hYpos:0<Y:=by omega
   generalize hu1:ul / 4294967296=u1 at *
   generalize hu0:ul % 4294967296=u0 at *
   have hv:=Nat.mod_lt (u*4294967296+u1) hYpos
   have hq1:(u*4294967296+u1) / Y<4294967296:=dig_lt1 hu (by omega) (Nat.le_refl _)
   obtain ⟨g1,g2⟩:=div_digits (u:=u) (u1:=u1) (u0:=u0) (b:=4294967296) hYpos
   have hN:u*(4294967296*4294967296)+(u1*4294967296+u0)=(h*W64+l)*2^s:=by
    rw [Nat.add_mul,lo1,← hud]
    have:u1*4294967296+u0=ul:=by omega
    rw [this]
    show (h*2^s+l / 2^(64-s))*W64+ul=h*W64*2^s+(l / 2^(64-s)*W64+ul)
    rw [Nat.add_mul,Nat.mul_right_comm h W64];omega
   rw [hN,← hYd] at g1 g2
   rw [Nat.mul_div_mul_right _ _ hp] at g1
   rw [Nat.mul_mod_mul_right] at g2
   rw [hYd] at g1 g2
   obtain ⟨v,hv'⟩:∃ v,v=(u*4294967296+u1) % Y:=⟨_,rfl⟩
   rw [← hv'] at hv g1 g2 ⊢
   have hdm2:=Nat.div_add_mod v (Y / 4294967296)
   rw [Nat.mul_comm] at hdm2
   have hr2:=Nat.mod_lt v (show 0<Y / 4294967296 by omega)
   have fin:=d2_safe (s:=s) (u0:=u0) hYs (Nat.mod_lt _ (by decide)) (by omega) (by omega) (by rw [← hu0];exact Nat.mod_lt _ (by decide)) w0 hv hq1 (v / (Y / 4294967296)) (v % (Y / 4294967296)) hdm2.symm (by omega) (dig_top hYs (Nat.mod_lt _ (by decide)) (by omega) hv) (dig_init hYs (by omega) (by rw [← hu0];exact Nat.mod_lt _ (by decide)))
   have eo:dOut ((u*4294967296+u1) / Y) ((v*4294967296+u0) / Y) ((v*4294967296+u0) % Y) s=divA h l y:=by
    unfold dOut divA
    rw [← g1,← g2,Nat.min_eq_left (show s≤64 by omega),Nat.mul_div_cancel _ hp]
   rw [eo] at fin
   exact fin
end Go.Proofs.YtjlcdlekmpjjnaaGreat
/- The contracts of math/bits.Div64 (on offer), fp.half. -/
namespace Go.Proofs.YtjlcdlekmpjjnaaGreat
open Ex
set_option maxRecDepth 100000
set_option maxHeartbeats 4000000
def div3:List Int→Option (List (Bool×Bool)×AV)
 | [h,l,y]=>some ([(decide (h<y),true)],divA h.toNat l.toNat y.toNat)
 | _=>none
noncomputable def S22:List (FuncId×ASpec):=(272,condSpec (spInts [.u64,.u64,.u64] div3))::S21
theorem S22ok:SpecsOk Tryz.prog S22:=⟨condSpec_ok Tryz.func272 (by kernel_rfl) (by kernel_rfl) (spInts_ok fun is c v h hh hc=>by
 unfold div3 at h
 split at h
 ·rename_i h0 l0 y0
  injection h with h;injection h with h1 h2;subst h1;subst h2
  obtain ⟨q1,q2,q3,_⟩:=hh
  have b1:=u64_bounds q1
  have b2:=u64_bounds q2
  have b3:=u64_bounds q3
  obtain ⟨H,rfl⟩:=Int.eq_ofNat_of_zero_le b1.1
  obtain ⟨L,rfl⟩:=Int.eq_ofNat_of_zero_le b2.1
  obtain ⟨Y,rfl⟩:=Int.eq_ofNat_of_zero_le b3.1
  have hlt:=hc.1
  simp only [decide_eq_true_eq] at hlt
  rw [Int.toNat_natCast,Int.toNat_natCast,Int.toNat_natCast]
  exact div64_ok (by omega) (show L<18446744073709551616 by omega) (show Y<18446744073709551616 by omega)
 ·cases h),S21ok⟩
def hw (a b:Int):Int:=bits .or .u64 (Int.fdiv a (2^min (Int.toNat 1) 64)) (mW (b*2^min (Int.toNat 63) 64))
theorem hw_eq {a b:Int} (ha:0≤a∧a<18446744073709551616) (hb:0≤b∧b<18446744073709551616):hw a b=a / 2+b % 2*9223372036854775808:=by
 obtain ⟨A,rfl⟩:=Int.eq_ofNat_of_zero_le ha.1
 obtain ⟨B,rfl⟩:=Int.eq_ofNat_of_zero_le hb.1
 unfold hw
 have e1:Int.fdiv (A:Int) (2^min (Int.toNat 1) 64)=((A / 2:Nat):Int):=shI_nat A 1
 have e2:mW ((B:Int)*2^min (Int.toNat 63) 64)=((B % 2*2^63:Nat):Int):=by
  have:(B:Int)*2^min (Int.toNat 63) 64=((B*9223372036854775808:Nat):Int):=by rw [Int.natCast_mul];rfl
  rw [this,mW_nat];omega
 have hlt:A / 2<2^63:=by omega
 have h:=or_add (h:=B % 2) (s:=63) (B:=A / 2) (by unfold W64;omega) hlt (by decide)
 have comm:∀ x y:Int,bits .or .u64 x y=bits .or .u64 y x:=fun x y=>by simp only [bits,BitVec.or_comm]
 rw [e1,e2,comm,h]
 omega
def hwL (x:Nat) (h:Int):List Ch:=w6 (hw (wordN x 0) (wordN x 1)) (hw (wordN x 1) (wordN x 2)) (hw (wordN x 2) (wordN x 3)) (hw (wordN x 3) (wordN x 4)) (hw (wordN x 4) (wordN x 5)) (hw (wordN x 5) h)
def fpB (x:Nat):Blk:=⟨30,[.num 6 x],false⟩
def halfN (x h:Nat):Nat:=(x+h % 2*RR) / 2
theorem half_run (x:Nat) (h:Int):segOut Tryz.prog (orc S22 K0) Tryz.f273 300 1 [0] (entry Tryz.f273 [.val false [.p 0 0],.val false [.v (.int .u64 h)]] [(0,some (fpB x))] 1 []) =
 some (allT 12,[0],.tup [],[(0,some ⟨30,hwL x h,false⟩)]):=by kernel_rfl
theorem half_num {x h:Nat} (hx:x<RR) (hh:h<18446744073709551616) {β:Env} {l:List Value} (hr:relL β (hwL x h) l):relL β [.num 6 (halfN x h)] l:=by
 have b0:=word_bd x 0
 have b1:=word_bd x 1
 have b2:=word_bd x 2
 have b3:=word_bd x 3
 have b4:=word_bd x 4
 have b5:=word_bd x 5
 have hX:=digits6 (x:=x) (by rw [← RR_eq];exact hx)
 have e0:=hw_eq b0 b1
 have e1:=hw_eq b1 b2
 have e2:=hw_eq b2 b3
 have e3:=hw_eq b3 b4
 have e4:=hw_eq b4 b5
 have e5:=hw_eq (b:=(h:Int)) b5 (by omega)
 have hb:∀ {a b:Int},0≤a∧a<18446744073709551616→0≤b∧b<18446744073709551616→0≤hw a b∧hw a b<18446744073709551616:=fun ha hb=>by rw [hw_eq ha hb];omega
 have:=num_of_w6 (β:=β) (u:=.agg ⟨l⟩) (y:=halfN x h) (hb b0 b1) (hb b1 b2) (hb b2 b3) (hb b3 b4) (hb b4 b5) (hb b5 (show 0≤(h:Int)∧(h:Int)<18446744073709551616 by omega)) (by
  unfold halfN sum6 at *
  unfold RR
  omega) ⟨l,hr,rfl⟩
 obtain ⟨l',h1,h2⟩:=this
 injection h2 with h2;injection h2 with h2;subst h2
 exact h1
theorem half_can {x h:Nat} (hx:x<RR) (hh:h<18446744073709551616):CanOk Tryz.prog 273 [.val false [.p 0 0],.val false [.v (.int .u64 (h:Int))]] [(0,some (fpB x))] 1 [0] (.tup []) [(0,some (fpB (halfN x h)))]:=by
 intro β us w ha hg hf
 have:=can_entry Tryz.func273 (by kernel_rfl) (args0:=[.val false [.p 0 0],.val false [.v (.int .u64 (h:Int))]]) (H0:=[(0,some (fpB x))]) (k0:=1) (path:=[]) (W:=[0]) (by kernel_rfl) (fun β0 w0 hb=>out_safe (orc_ok S22ok K0ok) mixed Tryz.func273 (half_run x h) (allT_ok _) (wfB_ok (by kernel_rfl)) hb (fun _ h=>h)) β us w ha hg hf
 exact Calls.mono this fun e w' h=>outs_block1 (fun _ _ hr=>half_num hx hh hr) h
def halfSpec:ASpec:=fun args H fr path =>
 match args with
 | [.val false [.p k 0],A]=>match asI (some A),hget H k with
  | some (_,.u64,h),some ⟨ty,c,false⟩=>match Nat.beq ty 30,asNum 6 c with
   | true,some x=>some (trR [k] 1 fr 0 [0] (.tup []) [(0,some (fpB (halfN x h.toNat)))] [] path)
   | _,_=>none
  | _,_=>none
 | _=>none
theorem good1w {β:Env} {H:Heap} {w:World} {k:Nat} {b:Blk} {c:List Ch} (g:Ex.Good β H w) (hk:hget H k=some b) (hc:∀ l,relL β b.cs l→relL (inEnv β [k] 1) c l):Ex.Good (inEnv β [k] 1) [(0,some ⟨b.ty,c,b.opn⟩)] w:=by
 refine good_enum (ρ:=[k]) (bs:=[⟨b.ty,c,b.opn⟩]) g (fun j d hj=>?_) fun i j d hi hr hij hj=>?_
 ·match j,hj with
  | 0,hj=>injection hj with hj;subst hj;exact ⟨b,hk,.inr ⟨rfl,rfl⟩,hc⟩
 ·match i,j,hi,hj,hij with
  | 0,0,_,_,q=>exact absurd rfl q
theorem halfSpec_ok:SpecOk Tryz.prog 273 halfSpec:=by
 refine can_spec Tryz.func273 (by kernel_rfl) (by kernel_rfl) fun args H fr path r h=>?_
 unfold halfSpec at h
 split at h
 case h_2=>cases h
 rename_i k A
 split at h
 case h_2=>cases h
 rename_i c0 i ty c hA hk
 split at h
 case h_2=>cases h
 rename_i x hty hx
 injection h with h
 have hty':=nbeq.1 hty
 subst hty'
 refine ⟨[k],[.val false [.p 0 0],.val false [.v (.int .u64 (i.toNat:Int))]],[(0,some (fpB x))],1,0,[0],.tup [],_,[],path,h.symm,fun β us w ha hg hc=>?_⟩
 obtain ⟨u1,us1,r1,⟨u2,us2,r2,ha,rfl⟩,rfl⟩:=ha
 obtain ⟨rfl,p1⟩:=asI_rel (β:=β) (u:=u2) (fun B hB=>by injection hB with hB;subst hB;exact r2) hA
 have hb:=u64_bounds p1
 obtain ⟨l,g1⟩:=hget_rel hg hk
 have hi:((i.toNat:Nat):Int)=i:=Int.toNat_of_nonneg hb.1
 refine ⟨half_can (by rw [RR_eq];exact (asNum_rel hx g1).2) (by omega),by kernel_rfl,⟨u1,_,r1,⟨_,us2,?_,ha,rfl⟩,rfl⟩,good1w (c:=[.num 6 x]) hg hk (fun l h=>num_any hx h),fun j hj=>?_⟩
 ·rw [hi];exact rel_one' ⟨rfl,rfl,p1⟩
 ·match j,hj with
  | 0,_=>exact relB_def (hg.heap _ _ hk)
noncomputable def S23:List (FuncId×ASpec):=(273,halfSpec)::S22
theorem S23ok:SpecsOk Tryz.prog S23:=⟨halfSpec_ok,S22ok⟩
end Go.Proofs.YtjlcdlekmpjjnaaGreat
/- The contract of fp.even. -/
namespace Go.Proofs.YtjlcdlekmpjjnaaGreat
open Ex
set_option maxRecDepth 100000
set_option maxHeartbeats 4000000
def evA:List AV:=[.val false [.p 0 0],.val false [.p 1 0]]
def evH (u x:Nat):Heap:=[(0,some (fpB u)),(1,some (fpB x))]
noncomputable def evTodo:List Item:=todoOf (aSeg Tryz.prog (orc S23 K0) (some 0) 300 2 none (entry Tryz.f213 evA (evH 0 0) 2 []))
noncomputable def evT:List AV:=.val false [.p 0 0]::.val false [.p 1 0]::List.replicate (Tryz.f213.ntmps-2) .any
noncomputable def evS (u x:Nat) (p:List Bool):ASt:=⟨evTodo,⟨evT,evH u x,2,p⟩⟩
abbrev KE:Option (List Nat×List Nat×Nat):=some ([0,1],[0,1],2)
def oddI (x:Nat):Int:=bits .and .u64 (wordN x 0) 1
theorem ev_entry (u x:Nat):aSeg Tryz.prog (orc S23 K0) (some 3) 300 2 KE (entry Tryz.f213 evA (evH u x) 2 [])=some ([],[],evS u x []):=by kernel_rfl
theorem ev_both (u x:Nat):aSeg Tryz.prog (orc S23 K0) (some 3) 300 2 KE (evS u x [true,true])=some ([(decide (oddI u=0),true),(decide (oddI x=0),true)],[0,1],evS (halfN u 0) (halfN x 0) []):=by kernel_rfl
theorem ev_odd (u x:Nat):aSeg Tryz.prog (orc S23 K0) (some 3) 300 2 KE (evS u x [true,false]) =
 some ([(decide (oddI u=0),true),(decide (oddI x=0),false),(is01 0,true),(is01 (cch x pN 1),true),(is01 (cch x pN 2),true),(is01 (cch x pN 3),true),(is01 (cch x pN 4),true),(is01 (cch x pN 5),true)],[0,1],
  evS (halfN u 0) (halfN (sumN x pN) (cch x pN 6).toNat) []):=by kernel_rfl
theorem ev_out (u x:Nat):segOut Tryz.prog (orc S23 K0) Tryz.f213 300 2 [0,1] (evS u x [false])=some ([(decide (oddI u=0),false)],[],.tup [],evH u x):=by kernel_rfl
def halfP (x:Nat):Nat:=if x % 2=0 then x / 2 else (x+pN) / 2
def evF:Nat→Nat→Nat→Nat×Nat
 | 0,u,x=>(u,x)
 | f+1,u,x=>if u % 2=0 then evF f (u / 2) (halfP x) else (u,x)
theorem oddI_eq (x:Nat):oddI x=((x % 2:Nat):Int):=by
 unfold oddI
 rw [word0_mod2,and_one _ (by omega)]
 omega
theorem halfN_zero (x:Nat):halfN x 0=x / 2:=by unfold halfN;simp
theorem halfN_sum {x:Nat} (hx:x<RR):halfN (sumN x pN) (cch x pN 6).toNat=(x+pN) / 2:=by
 obtain ⟨h1,h2⟩:=sumN_eq (y:=pN) hx (by decide)
 have:=cch_bd x pN 6
 unfold halfN
 have h01:(cch x pN 6).toNat=0∨(cch x pN 6).toNat=1:=by omega
 rcases h01 with e | e<;>rw [e] at h1 ⊢<;>congr 1<;>omega
theorem halfP_lt {x:Nat} (h:x<RR):halfP x<RR:=by
 have hp:pN<RR:=by decide
 unfold halfP;split<;>omega
theorem ev_safe {β0:Env} {w0:World} (hb:∀ b,2≤b→β0 b=none):∀ (f u x:Nat),0<u→u≤f→u<RR→x<RR →
  ASafe Tryz.prog 213 β0 w0 (Outs β0 w0 [0,1] (.tup []) (evH (evF f u x).1 (evF f u x).2)) Tryz.f213.ntmps [0,1] (evS u x []):=by
 intro f
 induction f with
 | zero=>intro u x h1 h2;omega
 | succ f ih =>
  intro u x h1 h2 hu hx
  have ou:=oddI_eq u
  have ox:=oddI_eq x
  unfold evF
  by_cases h:u % 2=0
  ·rw [if_pos h]
   have hd:decide (oddI u=0)=true:=by rw [ou,h];rfl
   by_cases hx2:x % 2=0
   ·refine path_safe [true,true] (seg_safe (orc_ok S23ok K0ok) mixed (ev_both u x) ⟨hd,by rw [ox,hx2];rfl,trivial⟩ (wfB_ok (by kernel_rfl)) hb (fun _ h=>h) fun _=>?_)
    have e:halfP x=x / 2:=if_pos hx2
    rw [halfN_zero,halfN_zero,← e]
    exact ih (u / 2) (halfP x) (by omega) (by omega) (by omega) (halfP_lt hx)
   ·refine path_safe [true,false] (seg_safe (orc_ok S23ok K0ok) mixed (ev_odd u x) ⟨hd,by rw [ox];simp only [decide_eq_false_iff_not];omega,rfl,is01_of (cch_bd _ _ _),is01_of (cch_bd _ _ _),is01_of (cch_bd _ _ _),is01_of (cch_bd _ _ _),is01_of (cch_bd _ _ _),trivial⟩ (wfB_ok (by kernel_rfl)) hb (fun _ h=>h) fun _=>?_)
    have e:halfP x=(x+pN) / 2:=if_neg hx2
    rw [halfN_zero,halfN_sum hx,← e]
    exact ih (u / 2) (halfP x) (by omega) (by omega) (by omega) (halfP_lt hx)
  ·rw [if_neg h]
   have hd:decide (oddI u=0)=false:=by rw [ou];simp only [decide_eq_false_iff_not];omega
   exact path_safe [false] (out_safe (orc_ok S23ok K0ok) mixed Tryz.func213 (ev_out u x) ⟨hd,trivial⟩ (wfB_ok (by kernel_rfl)) hb (fun _ h=>by cases h))
theorem ev_can {u x:Nat} (h0:0<u) (hu:u<RR) (hx:x<RR):CanOk Tryz.prog 213 evA (evH u x) 2 [0,1] (.tup []) (evH (evF u u x).1 (evF u u x).2) :=
 can_entry (path:=[]) Tryz.func213 (by kernel_rfl) (by kernel_rfl) fun β0 w0 hb =>
  seg_safe (orc_ok S23ok K0ok) mixed (ev_entry u x) trivial (wfB_ok (by kernel_rfl)) hb (fun _ h=>by cases h) fun _=>ev_safe hb u u x h0 (Nat.le_refl _) hu hx
def evSpec:ASpec:=fun args H fr path =>
 match args with
 | [.val false [.p k 0],.val false [.p t 0]]=>match hget H k,hget H t,Nat.beq k t with
  | some ⟨ty,c,false⟩,some ⟨ty',d,false⟩,false=>match Nat.beq ty 30,asNum 6 c,Nat.beq ty' 30,asNum 6 d with
   | true,some u,true,some x=>some (trR [k,t] 2 fr 0 [0,1] (.tup []) (evH (evF u u x).1 (evF u u x).2) [(decide (0<u),true)] path)
   | _,_,_,_=>none
  | _,_,_=>none
 | _=>none
theorem evSpec_ok:SpecOk Tryz.prog 213 evSpec:=by
 refine can_spec Tryz.func213 (by kernel_rfl) (by kernel_rfl) fun args H fr path r h=>?_
 unfold evSpec at h
 split at h
 case h_2=>cases h
 rename_i k t
 split at h
 case h_2=>cases h
 rename_i ty c ty' d hk ht hne
 split at h
 case h_2=>cases h
 rename_i u x hty hu hty' hx
 injection h with h
 have hty1:=nbeq.1 hty
 have hty2:=nbeq.1 hty'
 subst hty1;subst hty2
 have hne':k≠t:=fun e=>by subst e;rw [nbeq.2 rfl] at hne;cases hne
 refine ⟨[k,t],evA,evH u x,2,0,[0,1],.tup [],_,_,path,h.symm,fun β us w ha hg hc=>?_⟩
 obtain ⟨u1,us1,r1,⟨u2,us2,r2,ha,rfl⟩,rfl⟩:=ha
 obtain ⟨l,g1⟩:=hget_rel hg hk
 obtain ⟨l',g2⟩:=hget_rel hg ht
 have h0:0<u:=by simpa using hc.1
 refine ⟨ev_can h0 (by rw [RR_eq];exact (asNum_rel hu g1).2) (by rw [RR_eq];exact (asNum_rel hx g2).2),by kernel_rfl,⟨u1,_,r1,⟨u2,us2,r2,ha,rfl⟩,rfl⟩,good2 (c:=[.num 6 u]) (e:=[.num 6 x]) hg hk ht hne' (fun l h=>num_any hu h) (fun l h=>num_any hx h),fun j hj=>?_⟩
 match j,hj with
 | 0,_=>exact relB_def (hg.heap _ _ hk)
 | 1,_=>exact relB_def (hg.heap _ _ ht)
noncomputable def S24:List (FuncId×ASpec):=(213,evSpec)::S23
theorem S24ok:SpecsOk Tryz.prog S24:=⟨evSpec_ok,S23ok⟩
end Go.Proofs.YtjlcdlekmpjjnaaGreat
/- fp.Inv: the walk. -/
namespace Go.Proofs.YtjlcdlekmpjjnaaGreat
open Ex
set_option maxRecDepth 100000
set_option maxHeartbeats 4000000
def numBlk (b:Blk):Blk:=match asNum 6 b.cs with
 | some x=>⟨b.ty,[.num 6 x],b.opn⟩
 | none=>b
def numH:Heap→Heap
 | []=>[]
 | (k,some b)::r=>(k,some (numBlk b))::numH r
 | (k,none)::r=>(k,none)::numH r
theorem hget_numH (b:Nat):∀ H:Heap,hget (numH H) b=(hget H b).map numBlk
 | []=>rfl
 | (k,some x)::r=>by
  simp only [numH,hget]
  split
  ·rfl
  ·exact hget_numH b r
 | (k,none)::r=>by
  simp only [numH,hget]
  split
  ·rfl
  ·exact hget_numH b r
theorem numBlk_ty (b:Blk):(numBlk b).ty=b.ty∧(numBlk b).opn=b.opn:=by unfold numBlk;split<;>exact ⟨rfl,rfl⟩
theorem num_safe {P:Program} {f:FuncId} {β0:Env} {w0:World} {R:Ending→World→Prop} {n:Nat} {W:List Nat} {todo:List Item} {T:List AV} {H:Heap} {fr:Nat} {p:List Bool} (h:ASafe P f β0 w0 R n W ⟨todo,⟨T,numH H,fr,p⟩⟩):ASafe P f β0 w0 R n W ⟨todo,⟨T,H,fr,p⟩⟩:=by
 intro β a w hi hf
 refine h β a w { hi with good:=⟨fun b blk hb=>?_,fun b b' B n n' h1 h2 h3 h4=>?_,hi.good.lt⟩ } hf
 ·have hb':(hget H b).map numBlk=some blk:=by rw [← hget_numH];exact hb
  obtain ⟨x,hx,rfl⟩:=Option.map_eq_some_iff.1 hb'
  refine relB_in (hi.good.heap b x hx) rfl (.inr (numBlk_ty x)) fun l hl=>?_
  unfold numBlk
  split
  ·rename_i y hy;exact num_any hy hl
  ·exact hl
 ·refine hi.good.inj b b' B n n' ?_ ?_ h3 h4
  ·obtain ⟨d,hd,hr⟩:=rwK_some h1
   have hd':(hget H b).map numBlk=some d:=by rw [← hget_numH];exact hd
   obtain ⟨x,hx,rfl⟩:=Option.map_eq_some_iff.1 hd'
   exact rwK_mk hx (by rw [← (numBlk_ty x).1];exact hr)
  ·have h2':((hget H b').map numBlk).isSome=true:=by rw [← hget_numH];exact h2
   rwa [Option.isSome_map] at h2'
noncomputable def invTodo:List Item:=todoOf (aSeg Tryz.prog (orc S24 K0) (some 0) 300 0 none (entry Tryz.f134 [num6 0] [] 0 [false]))
noncomputable def invT:List AV:=.any::.any::.val false [.p 1 0]::.val false [.p 2 0]::.val false [.p 3 0]::.val false [.p 4 0]::.val false [.p 5 0]::.val false [.p 6 0]::List.replicate (Tryz.f134.ntmps-8) .any
def invH (u v x y:Nat):Heap:=[(1,some (fpB 0)),(2,some (fpB u)),(3,some (fpB v)),(4,some (fpB x)),(5,some (fpB y)),(6,some (fpB 1))]
noncomputable def invS (u v x y:Nat) (p:List Bool):ASt:=⟨invTodo,⟨invT,invH u v x y,7,p⟩⟩
abbrev KI:Option (List Nat×List Nat×Nat):=some ([2,3,4,5,6,7],[1,2,3,4,5,6],7)
def invH0 (a:Nat):Heap:=[(1,some ⟨30,zero6,false⟩),(2,some (fpB (a % pN))),(3,some ⟨30,Pw,false⟩),(4,some ⟨30,[.n .u64 1,.n .u64 0,.n .u64 0,.n .u64 0,.n .u64 0,.n .u64 0],false⟩),(5,some ⟨30,zero6,false⟩),(6,some ⟨30,[.n .u64 1,.n .u64 0,.n .u64 0,.n .u64 0,.n .u64 0,.n .u64 0],false⟩)]
theorem inv_entry (a:Nat):aSeg Tryz.prog (orc S24 K0) (some 0) 300 0 KI (entry Tryz.f134 [num6 a] [] 0 [false])=some ([(decide (a % pN=0),false)],[],⟨invTodo,⟨invT,invH0 a,7,[]⟩⟩):=by kernel_rfl
theorem inv_zero (a:Nat):segRet Tryz.prog (orc S24 K0) Tryz.f134 300 0 (entry Tryz.f134 [num6 a] [] 0 [true])=some ([(decide (a % pN=0),true)],[],num6 (a % pN)):=by kernel_rfl
theorem invH0_num (a:Nat):numH (invH0 a)=invH (a % pN) pN 1 0:=by kernel_rfl
def E1 (u x:Nat):Nat:=(evF u u x).1
def E2 (u x:Nat):Nat:=(evF u u x).2
section
variable (u v x y:Nat)
def invC (r:List (Bool×Bool)):List (Bool×Bool):=(decide (0<u),true)::(decide (0<v),true)::r
def invP:Bool:=decide (0≤cmpI (natL (win (ws6 (E1 u x)) (0+0*1) (6-0))) (natL (win (ws6 (E1 v y)) (0+0*1) (6-0))))
theorem inv_x:segRet Tryz.prog (orc S24 K0) Tryz.f134 300 0 (invS u v x y [true])=some (invC u v [(decide (E1 u x=1),true)],[],num6 (E2 u x)):=by kernel_rfl
theorem inv_y:segRet Tryz.prog (orc S24 K0) Tryz.f134 300 0 (invS u v x y [false,true])=some (invC u v [(decide (E1 u x=1),false),(decide (E1 v y=1),true)],[],num6 (E2 v y)):=by kernel_rfl
theorem inv_u:aSeg Tryz.prog (orc S24 K0) (some 0) 300 0 KI (invS u v x y [false,false,true]) =
 some (invC u v ((decide (E1 u x=1),false)::(decide (E1 v y=1),false)::(allT 4++[(invP u v x y,true)])),[],invS ((E1 u x+(RR-E1 v y)) % RR) (E1 v y) (subN (E2 u x) (E2 v y)) (E2 v y) []):=by kernel_rfl
theorem inv_v:aSeg Tryz.prog (orc S24 K0) (some 0) 300 0 KI (invS u v x y [false,false,false]) =
 some (invC u v ((decide (E1 u x=1),false)::(decide (E1 v y=1),false)::(allT 4++[(invP u v x y,false)])),[],invS (E1 u x) ((E1 v y+(RR-E1 u x)) % RR) (E2 u x) (subN (E2 v y) (E2 u x)) []):=by kernel_rfl
end
end Go.Proofs.YtjlcdlekmpjjnaaGreat
/- fp.Inv: the contract. -/
namespace Go.Proofs.YtjlcdlekmpjjnaaGreat
open Ex Num
set_option maxRecDepth 100000
set_option maxHeartbeats 4000000
instance neZero_pN:NeZero pN:=⟨by decide⟩
def tf (x:Nat):Fin pN:=toF pN x
theorem tf_mod (x:Nat):tf (x % pN)=tf x:=toF_mod x
theorem tf_eq {x y:Nat}:tf x=tf y↔x % pN=y % pN:=toF_eq
theorem tf_add (x y:Nat):tf (x+y)=tf x+tf y:=toF_add x y
theorem tf_mul (x y:Nat):tf (x*y)=tf x*tf y:=toF_mul x y
theorem tf_addN (x y:Nat):tf (addN x y)=tf x+tf y:=by unfold addN;rw [tf_mod,tf_add,tf_mod,tf_mod]
theorem tf_mulN (x y:Nat):tf (mulN x y)=tf x*tf y:=by unfold mulN;rw [tf_mod,tf_mul]
theorem tf_negN (x:Nat):tf (negN x)=- tf x:=by unfold negN;rw [tf_mod];exact toF_neg x
theorem tf_subN (x y:Nat):tf (subN x y)=tf x-tf y:=by unfold subN;rw [tf_addN,tf_negN];grind
theorem tf_zero:tf 0=0:=toF_zero
theorem tf_one:tf 1=1:=toF_one
theorem tf_lt {x y:Nat} (hx:x<pN) (hy:y<pN) (h:tf x=tf y):x=y:=toF_inj hx hy h
theorem addN_lt (x y:Nat):addN x y<pN:=Nat.mod_lt _ pN_pos
theorem subN_lt (x y:Nat):subN x y<pN:=addN_lt _ _
theorem tf_ne_zero {x:Nat}:tf x=0↔x % pN=0:=by rw [← tf_zero,tf_eq,Nat.zero_mod]
theorem tf_mul_zero {a b:Fin pN} (h:a*b=0):a=0∨b=0:=F_mul_eq_zero pN_prime h
noncomputable def invN (a:Nat):Nat:=powN a (pN-2)
theorem invN_lt (a:Nat):invN a<pN:=powN_lt _ _
theorem invN_zero {a:Nat} (h:a % pN=0):invN a=0:=by
 unfold invN
 rw [powN_eq,Nat.pow_mod,h,Nat.zero_pow (by decide)];rfl
theorem tf_invN {a:Nat} (h:a % pN≠0):tf a*tf (invN a)=1:=by
 have ha:¬ pN∣a:=fun hd=>h (Nat.mod_eq_zero_of_dvd hd)
 have hf:=fermat pN_prime ha
 rw [← tf_mul,← tf_one,tf_eq]
 unfold invN
 rw [powN_eq]
 have e:pN-1=(pN-2)+1:=by have:=pN_gt;omega
 rw [e,Nat.pow_succ] at hf
 rw [Nat.mul_mod_mod,Nat.mul_comm,hf];rfl
theorem inv_unique {a x:Nat} (hx:x<pN) (h:tf a*tf x=1):x=invN a:=by
 have ha:a % pN≠0:=fun e=>by
  rw [tf_ne_zero.2 e] at h
  have:(0:Fin pN)*tf x=0:=by grind
  rw [this] at h
  have h2:tf 0=tf 1:=by rw [tf_zero,tf_one];exact h
  have:=tf_lt pN_pos (show 1<pN by decide) h2
  cases this
 have h2:=tf_invN ha
 refine tf_lt hx (invN_lt a) ?_
 grind
theorem half_cancel {A B:Fin pN} (h:A+A=B+B):A=B:=by
 have h0:(A-B)*tf 2=0:=by
  have:tf 2=1+1:=by rw [← tf_one,← tf_add]
  rw [this];grind
 rcases tf_mul_zero h0 with e | e
 ·grind
 ·exfalso
  have:=tf_lt (show 2<pN by decide) pN_pos (e.trans tf_zero.symm)
  cases this
theorem halfP_spec {x:Nat} (hx:x<pN):tf (halfP x)+tf (halfP x)=tf x∧halfP x<pN:=by
 have hodd:=pN_odd
 constructor
 ·rw [← tf_add,tf_eq]
  unfold halfP
  split
  ·congr 1;omega
  ·rw [show (x+pN) / 2+(x+pN) / 2=x+pN by omega,Nat.add_mod_right]
 ·unfold halfP;split<;>omega
theorem evF_spec {a:Nat}:∀ (f u x:Nat),0<u→u≤f→x<pN→tf a*tf x=tf u→(evF f u x).1 % 2=1∧(evF f u x).1∣u∧(evF f u x).2<pN∧tf a*tf (evF f u x).2=tf (evF f u x).1
 | 0,u,x,h1,h2,_,_=>by omega
 | f+1,u,x,h1,h2,hx,h=>by
  unfold evF
  by_cases hu:u % 2=0
  ·rw [if_pos hu]
   obtain ⟨q1,q2⟩:=halfP_spec hx
   have e:tf (u / 2)+tf (u / 2)=tf u:=by rw [← tf_add];congr 1;omega
   have q3:tf a*tf (halfP x)=tf (u / 2):=half_cancel (by rw [e,← h,← q1];grind)
   obtain ⟨i1,i2,i3,i4⟩:=evF_spec (a:=a) f (u / 2) (halfP x) (by omega) (by omega) q2 q3
   exact ⟨i1,Nat.dvd_trans i2 ⟨2,by omega⟩,i3,i4⟩
  ·rw [if_neg hu]
   exact ⟨by omega,Nat.dvd_refl u,hx,h⟩
theorem invP_eq {u v x y:Nat} (h1:E1 u x<RR) (h2:E1 v y<RR):invP u v x y=decide (E1 v y≤E1 u x):=by
 unfold invP
 rw [natL_num6 h1,natL_num6 h2]
 unfold cmpI
 by_cases c1:E1 u x<E1 v y
 ·rw [if_pos c1,decide_eq_false (by omega),decide_eq_false (by omega)]
 ·rw [if_neg c1]
  by_cases c2:E1 v y<E1 u x
  ·rw [if_pos c2,decide_eq_true (by omega),decide_eq_true (by omega)]
  ·rw [if_neg c2,decide_eq_true (by omega),decide_eq_true (by omega)]
theorem diff_RR {u v:Nat} (h:v≤u) (hu:u<RR):(u+(RR-v)) % RR=u-v:=by
 rw [show u+(RR-v)=(u-v)+RR by omega,Nat.add_mod_right,Nat.mod_eq_of_lt (by omega)]
theorem inv_safe (a:Nat) (w0:World):∀ (m u v x y:Nat),u+v≤m→0<u→0<v→u<RR→v<RR→x<pN→y<pN→Nat.Coprime u v→tf a*tf x=tf u→tf a*tf y=tf v →
  ASafe Tryz.prog 134 noEnv w0 (PureOut w0 (num6 (invN a))) Tryz.f134.ntmps [] (invS u v x y []):=by
 intro m
 induction m with
 | zero=>intro u v x y h1 h2;omega
 | succ m ih =>
  intro u v x y hm hu hv hur hvr hx hy hg h1 h2
  obtain ⟨a1,a2,a3,a4⟩:=evF_spec (a:=a) u u x hu (Nat.le_refl _) hx h1
  obtain ⟨b1,b2,b3,b4⟩:=evF_spec (a:=a) v v y hv (Nat.le_refl _) hy h2
  have a5:=Nat.le_of_dvd hu a2
  have b5:=Nat.le_of_dvd hv b2
  change E1 u x % 2=1 at a1
  change E1 u x∣u at a2
  change E2 u x<pN at a3
  change tf a*tf (E2 u x)=tf (E1 u x) at a4
  change E1 u x≤u at a5
  change E1 v y % 2=1 at b1
  change E1 v y∣v at b2
  change E2 v y<pN at b3
  change tf a*tf (E2 v y)=tf (E1 v y) at b4
  change E1 v y≤v at b5
  have hg':Nat.Coprime (E1 u x) (E1 v y):=(hg.coprime_dvd_left a2).coprime_dvd_right b2
  have c0:decide (0<u)=true:=decide_eq_true hu
  have c1:decide (0<v)=true:=decide_eq_true hv
  have iP:=invP_eq (u:=u) (v:=v) (x:=x) (y:=y) (by omega) (by omega)
  by_cases hu1:E1 u x=1
  ·have h:=ret_safe (w0:=w0) (β0:=noEnv) (n:=Tryz.f134.ntmps) (orc_ok S24ok K0ok) mixed Tryz.func134 (inv_x u v x y) ⟨c0,c1,decide_eq_true hu1,trivial⟩ (wfB_ok (by kernel_rfl)) (fun _ _=>rfl) rfl
   rw [inv_unique (a:=a) a3 (by rw [a4,hu1,tf_one])] at h
   exact path_safe [true] h
  ·by_cases hv1:E1 v y=1
   ·have h:=ret_safe (w0:=w0) (β0:=noEnv) (n:=Tryz.f134.ntmps) (orc_ok S24ok K0ok) mixed Tryz.func134 (inv_y u v x y) ⟨c0,c1,decide_eq_false hu1,decide_eq_true hv1,trivial⟩ (wfB_ok (by kernel_rfl)) (fun _ _=>rfl) rfl
    rw [inv_unique (a:=a) b3 (by rw [b4,hv1,tf_one])] at h
    exact path_safe [false,true] h
   ·have hne:E1 u x≠E1 v y:=fun e=>by
     rw [← e] at hg'
     exact hu1 ((Nat.coprime_self _).1 hg')
    by_cases hle:E1 v y≤E1 u x
    ·refine path_safe [false,false,true] (seg_safe (orc_ok S24ok K0ok) mixed (inv_u u v x y) ⟨c0,c1,decide_eq_false hu1,decide_eq_false hv1,rfl,rfl,rfl,rfl,by rw [iP];exact decide_eq_true hle,trivial⟩ (wfB_ok (by kernel_rfl)) (fun _ _=>rfl) (fun _ h=>by cases h) fun _=>?_)
     rw [diff_RR hle (by omega)]
     refine ih _ _ _ _ (by omega) (by omega) (by omega) (by omega) (by omega) (subN_lt _ _) b3 ?_ ?_ b4
     ·exact (Nat.gcd_sub_self_left hle).trans hg'
     ·have e:tf (E1 u x-E1 v y)=tf (E1 u x)-tf (E1 v y):=toF_sub hle
      rw [tf_subN,e,← a4,← b4];grind
    ·refine path_safe [false,false,false] (seg_safe (orc_ok S24ok K0ok) mixed (inv_v u v x y) ⟨c0,c1,decide_eq_false hu1,decide_eq_false hv1,rfl,rfl,rfl,rfl,by rw [iP];exact decide_eq_false hle,trivial⟩ (wfB_ok (by kernel_rfl)) (fun _ _=>rfl) (fun _ h=>by cases h) fun _=>?_)
     rw [diff_RR (by omega) (by omega)]
     refine ih _ _ _ _ (by omega) (by omega) (by omega) (by omega) (by omega) a3 (subN_lt _ _) ?_ a4 ?_
     ·exact Nat.Coprime.symm ((Nat.gcd_sub_self_left (show E1 u x≤E1 v y by omega)).trans hg'.symm)
     ·have e:tf (E1 v y-E1 u x)=tf (E1 v y)-tf (E1 u x):=toF_sub (by omega)
      rw [tf_subN,e,← a4,← b4];grind
theorem inv_ok (a:Nat):PureOk Tryz.prog 134 [num6 a] (num6 (invN a)):=by
 refine pure_entry (path:=[]) Tryz.func134 (by kernel_rfl) (by kernel_rfl) fun w0=>?_
 by_cases h:a % pN=0
 ·have h1:=ret_safe (w0:=w0) (β0:=noEnv) (n:=Tryz.f134.ntmps) (orc_ok S24ok K0ok) mixed Tryz.func134 (inv_zero a) ⟨decide_eq_true h,trivial⟩ (wfB_ok (by kernel_rfl)) (fun _ _=>rfl) rfl
  have e:a % pN=invN a:=by rw [h,invN_zero h]
  rw [e] at h1
  exact path_safe [true] h1
 ·have hp:=modp_lt a
  have hR:pN<RR:=by decide
  refine path_safe [false] (seg_safe (orc_ok S24ok K0ok) mixed (inv_entry a) ⟨decide_eq_false h,trivial⟩ (wfB_ok (by kernel_rfl)) (fun _ _=>rfl) (fun _ h=>by cases h) fun _=>?_)
  refine num_safe ?_
  rw [invH0_num]
  refine inv_safe a w0 (a % pN+pN) (a % pN) pN 1 0 (Nat.le_refl _) (by omega) pN_pos (by omega) hR (by decide) pN_pos ?_ ?_ ?_
  ·exact (pN_prime.coprime fun hd=>by have:=Nat.le_of_dvd (by omega) hd;omega).symm
  ·rw [tf_one,tf_mod];grind
  ·have:tf pN=0:=toF_p
   rw [tf_zero,this];grind
noncomputable def S25:List (FuncId×ASpec):=(134,pureSpec (sp1 fun x=>num6 (invN x)))::S24
theorem S25ok:SpecsOk Tryz.prog S25:=⟨pureSpec_ok Tryz.func134 (by kernel_rfl) (by kernel_rfl) (sp1_ok fun x _=>inv_ok x),S24ok⟩
end Go.Proofs.YtjlcdlekmpjjnaaGreat
/- limb.Octets, limb.Words: the contracts. -/
namespace Go.Proofs.YtjlcdlekmpjjnaaGreat
open Ex Num
set_option maxRecDepth 100000
set_option maxHeartbeats 4000000
def putT:List (Nat×AV)→Nat→AV
 | [],_=>.any
 | (j,a)::r,i=>match Nat.beq i j with | true=>a | false=>putT r i
def mkTF:Nat→Nat→List (Nat×AV)→List AV
 | 0,_,_=>[]
 | f+1,i,l=>putT l i::mkTF f (i+1) l
def mkT (n:Nat) (l:List (Nat×AV)):List AV:=mkTF n 0 l
def slA (k off n m:Nat):AV:=.val false [.sl k off n m]
def iA (i:Int):AV:=.val false [.v (.int .i64 i)]
def byH (xs:List Int):Heap:=[(0,some (roB [.seq .u8 xs]))]
def fillL (f:Nat→Int) (L i:Nat):List Int:=(List.range i).map f++List.replicate (L-i) 0
theorem fillL_length {f:Nat→Int} {L i:Nat} (h:i≤L):(fillL f L i).length=L:=by simp [fillL];omega
theorem fillL_set {f:Nat→Int} {L i:Nat} (h:i<L):(fillL f L i).set i (f i)=fillL f L (i+1):=by
 unfold fillL
 rw [List.set_append_right _ _ (by simp),List.length_map,List.length_range,Nat.sub_self,show L-i=(L-(i+1))+1 by omega,List.replicate_succ,List.set_cons_zero,List.range_succ,List.map_append,List.append_assoc]
 rfl
theorem fillL_zero (f:Nat→Int) (L:Nat):fillL f L 0=List.replicate L 0:=by simp [fillL]
theorem fillL_full (f:Nat→Int) (L:Nat):fillL f L L=(List.range L).map f:=by simp [fillL]
def byteN (A k:Nat):Int:=((A / 256^k % 256:Nat):Int)
def octL (A n:Nat):List Int:=(List.range n).map fun i=>byteN A (n-1-i)
def natB:List Int→Nat
 | []=>0
 | d::r=>d.toNat*256^r.length+natB r
theorem p256 (k:Nat):256^k=2^(8*k):=by rw [Nat.pow_mul]
theorem wI_k {n i:Nat} (hn:n≤35184372088832) (h:i<n):wI (wI ((n:Int)-1)-i)=((n-1-i:Nat):Int):=by
 rw [wI_eq (z:=(n:Int)-1) (by omega),wI_eq (by omega)];omega
theorem tdiv8 (k:Nat):Int.tdiv (k:Int) 8=((k / 8:Nat):Int):=by rw [Int.tdiv_eq_ediv_of_nonneg (by omega)];rfl
theorem tmod8 (k:Nat):Int.tmod (k:Int) 8=((k % 8:Nat):Int):=by rw [Int.tmod_eq_emod_of_nonneg (by omega)];rfl
noncomputable def octTodo:List Item:=todoOf (aSeg Tryz.prog (orc S25 K0) (some 0) 100 1 none (entry Tryz.f123 [slA 0 0 0 0,iA 0] (seqH []) 1 []))
noncomputable def octS (off m c:Nat) (n:Int) (xs:List Int) (L:Nat) (ys:List Int) (i:AV) (p:List Bool):ASt:=⟨octTodo,⟨mkT Tryz.f123.ntmps [(0,slA 0 off m c),(1,iA n),(5,slA 1 0 L L),(10,slA 1 0 L L),(11,slA 1 0 L L),(12,iA L),(13,i)],
 [(0,some (roB [.seq .u64 xs])),(1,some ⟨5,[.seq .u8 ys],false⟩)],2,p⟩⟩
abbrev octK:Option (List Nat×List Nat×Nat):=some ([0,1,5,10,11,12,13],[0,1],2)
def octL0 (n:Int):Nat:=(maxI n 0).toNat
def octH (ys:List Int):Heap:=[(1,some ⟨5,[.seq .u8 ys],false⟩)]
def mkC (m sz:Int):Bool:=decide (0≤m∧m≤m∧sz*m≤281474976710656∧m≤9223372036854775807)
theorem oct_entry (off m c:Nat) (n:Int) (xs:List Int):aSeg Tryz.prog (orc S25 K0) (some 0) 100 1 octK (entry Tryz.f123 [slA 0 off m c,iA n] (seqH xs) 1 []) =
 some ([(mkC (maxI n 0) 1,true),(hasB .i64 (octL0 n),true)],[],octS off m c n xs (octL0 n) (List.replicate (octL0 n) 0) (.val false [.n .i64 0]) []):=by kernel_rfl
def octK8 (n i:Int):Int:=wI (wI (n-1)-i)
def octV (xs:List Int) (off m:Nat) (k:Int):Int:=wrapc false .u8 (Int.fdiv (atV xs off m (wI (Int.tdiv k 8))) (2^min (wI (8*Int.tmod k 8)).toNat 64))
def octC (off m:Nat) (n:Int) (xs:List Int) (L:Nat) (ys:List Int) (i:Int):List (Bool×Bool):=[(decide (i<L),true),(true,true),(Nat.ble (off+m) xs.length,true),(hasB .i64 m,true),(decide (0≤wI (Int.tdiv (octK8 n i) 8)),true),
 (decide (0≤octK8 n i∧(0:Int)<8),true),(decide (0≤wI (8*Int.tmod (octK8 n i) 8)∧0≤atV xs off m (wI (Int.tdiv (octK8 n i) 8))),true),(decide (0≤i∧i<L),true),(decide (0+i.toNat*1<ys.length),true)]
theorem oct_step (off m c:Nat) (n:Int) (xs:List Int) (L:Nat) (ys:List Int) (i:Int):aSeg Tryz.prog (orc S25 K0) (some 0) 100 1 octK (octS off m c n xs L ys (iA i) [true]) =
 some (octC off m n xs L ys i,[],octS off m c n xs L (ys.set (0+i.toNat*1) (octV xs off m (octK8 n i))) (iA (wI (i+1))) []):=by kernel_rfl
theorem oct_exit (off m c:Nat) (n:Int) (xs:List Int) (L:Nat) (ys:List Int) (i:Int):segOut Tryz.prog (orc S25 K0) Tryz.f123 100 1 [1] (octS off m c n xs L ys (iA i) [false]) =
 some ([(decide (i<L),false)],[],slA 1 0 L L,octH ys):=by kernel_rfl
theorem octV_eq {xs:List Int} {off m:Nat} (hx:∀ d∈xs,0≤d∧d<18446744073709551616) {k:Nat} (hk:k≤35184372088832):octV xs off m (k:Int)=byteN (natL (win xs off m)) k∧0≤atV xs off m (wI (Int.tdiv (k:Int) 8)):=by
 have e1:wI (Int.tdiv (k:Int) 8)=((k / 8:Nat):Int):=by rw [tdiv8];exact wI_eq (by omega)
 have e2:wI (8*Int.tmod (k:Int) 8)=((8*(k % 8):Nat):Int):=by rw [tmod8,wI_eq (by omega)];omega
 unfold octV
 rw [e1,e2,atV_word hx,Int.toNat_natCast,Nat.min_eq_left (by omega)]
 refine ⟨?_,by omega⟩
 generalize natL (win xs off m)=A
 have e3:(Int.fdiv ((A / 2^(64*(k / 8)) % 18446744073709551616:Nat):Int) (2^(8*(k % 8))))=((A / 2^(64*(k / 8)) % 18446744073709551616 / 2^(8*(k % 8)):Nat):Int):=by
  rw [Int.fdiv_eq_ediv_of_nonneg _ (by exact_mod_cast Nat.zero_le (2^(8*(k % 8)))),Int.natCast_ediv,Int.natCast_pow];rfl
 rw [e3,wrapc_eq,IntKind.wrap_u8]
 unfold byteN
 have e4:(18446744073709551616:Nat)=2^(8*(k % 8))*2^(64-8*(k % 8)):=by rw [← Nat.pow_add,show 8*(k % 8)+(64-8*(k % 8))=64 by omega]
 have e5:A / 2^(64*(k / 8)) % 18446744073709551616 / 2^(8*(k % 8)) % 256=A / 256^k % 256:=by
  rw [e4,Nat.mod_mul_right_div_self,Nat.div_div_eq_div_mul,← Nat.pow_add,show 64*(k / 8)+8*(k % 8)=8*k by omega,p256]
  refine Nat.mod_mod_of_dvd _ ?_
  have:64-8*(k % 8)=8+(56-8*(k % 8)):=by omega
  rw [this,Nat.pow_add]
  exact ⟨_,rfl⟩
 rw [← e5];omega
theorem oct_can {off m c:Nat} {xs:List Int} (hx:∀ d∈xs,0≤d∧d<18446744073709551616) (hl:off+m≤xs.length) (hm:hasB .i64 m=true) {n:Nat} (hn:n≤35184372088832) :
  CanOk Tryz.prog 123 [slA 0 off m c,iA n] (seqH xs) 1 [] (slA 1 0 n n) (octH (octL (natL (win xs off m)) n)):=by
 refine can_entry (path:=[]) Tryz.func123 (by kernel_rfl) (by kernel_rfl) fun β0 w0 hb=>?_
 have h0:maxI (n:Int) 0=n:=by unfold maxI;split<;>omega
 have h1:octL0 (n:Int)=n:=by unfold octL0;rw [h0];omega
 refine seg_safe (orc_ok S25ok K0ok) mixed (oct_entry off m c n xs) ⟨?_,?_,trivial⟩ (wfB_ok (by kernel_rfl)) hb (fun _ h=>by cases h) fun _=>?_
 ·rw [h0];unfold mkC;simp only [decide_eq_true_eq];omega
 ·rw [h1];simp only [hasB,Bool.and_eq_true,decide_eq_true_eq];omega
 ·rw [h1]
  refine nv_safe ?_
  have loop:∀ r i,i+r=n→ASafe Tryz.prog 123 β0 w0 (Outs β0 w0 [] (slA 1 0 n n) (octH (octL (natL (win xs off m)) n))) Tryz.f123.ntmps [] (octS off m c n xs n (fillL (fun i=>byteN (natL (win xs off m)) (n-1-i)) n i) (iA i) []):=by
   intro r
   induction r with
   | zero =>
    intro i hi
    obtain rfl:i=n:=by omega
    rw [fillL_full]
    exact path_safe [false] (out_safe (orc_ok S25ok K0ok) mixed Tryz.func123 (oct_exit ..) ⟨by simp,trivial⟩ (wfB_ok (by kernel_rfl)) hb (fun _ h=>by cases h))
   | succ r ih =>
    intro i hi
    have ek:octK8 (n:Int) i=((n-1-i:Nat):Int):=wI_k hn (by omega)
    have ev:=octV_eq (off:=off) (m:=m) hx (k:=n-1-i) (by omega)
    have ed:wI (Int.tdiv ((n-1-i:Nat):Int) 8)=(((n-1-i) / 8:Nat):Int):=by rw [tdiv8];exact wI_eq (by omega)
    refine path_safe [true] (seg_safe (orc_ok S25ok K0ok) mixed (oct_step ..) ?_ (wfB_ok (by kernel_rfl)) hb (fun _ h=>by cases h) fun _=>?_)
    ·rw [octC,ek]
     refine ⟨by simp;omega,rfl,Nat.ble_eq_true_of_le hl,hm,by rw [ed];simp only [decide_eq_true_eq];omega,by simp,?_,by simp;omega,by rw [fillL_length (by omega)];simp;omega,trivial⟩
     have:wI (8*Int.tmod ((n-1-i:Nat):Int) 8)=((8*((n-1-i) % 8):Nat):Int):=by rw [tmod8,wI_eq (by omega)];omega
     rw [this]
     simp only [decide_eq_true_eq]
     exact ⟨by omega,ev.2⟩
    ·rw [ek,ev.1,wI_eq (z:=(i:Int)+1) (by omega),show 0+(i:Int).toNat*1=i by omega,fillL_set (f:=fun i=>byteN (natL (win xs off m)) (n-1-i)) (by omega)]
     exact ih (i+1) (by omega)
  have:=loop n 0 (by omega)
  rw [fillL_zero] at this
  exact this
def octSpec:ASpec:=fun args H fr path =>
 match args with
 | [.val false [.sl k off m _],I]=>match asI (some I),hget H k with
  | some (_,.i64,i),some ⟨_,cs,_⟩=>match toSeq .u64 cs with
   | some xs=>some (trR [k] 1 fr 1 [] (slA 1 0 i.toNat i.toNat) (octH (octL (natL (win xs off m)) i.toNat)) [(Nat.ble (off+m) xs.length,true),(hasB .i64 m,true),(decide (0≤i∧i≤35184372088832),true)] path)
   | none=>none
  | _,_=>none
 | _=>none
theorem octSpec_ok:SpecOk Tryz.prog 123 octSpec:=by
 refine can_spec Tryz.func123 (by kernel_rfl) (by kernel_rfl) fun args H fr path r h=>?_
 unfold octSpec at h
 split at h
 case h_2=>cases h
 rename_i k off m _c I
 split at h
 case h_2=>cases h
 rename_i c0 i ty cs o hI hk
 split at h
 case h_2=>cases h
 rename_i xs hxs
 injection h with h
 refine ⟨[k],[slA 0 off m _c,iA i],seqH xs,1,1,[],_,_,_,path,h.symm,fun β us w ha hg hc=>?_⟩
 obtain ⟨u1,us1,r1,⟨u2,us2,r2,ha,rfl⟩,rfl⟩:=ha
 obtain ⟨g1,g2,g3⟩:=good_seq hg hk hxs
 obtain ⟨rfl,p1⟩:=asI_rel (β:=β) (u:=u2) (fun A hA=>by injection hA with hA;subst hA;exact r2) hI
 have hi:=hc.2.2.1
 simp only [decide_eq_true_eq] at hi
 obtain ⟨n,rfl⟩:=Int.eq_ofNat_of_zero_le hi.1
 exact ⟨oct_can g1 (Nat.le_of_ble_eq_true hc.1) hc.2.1 (by omega),by kernel_rfl,⟨u1,_,r1,⟨_,us2,rel_one' ⟨rfl,rfl,p1⟩,ha,rfl⟩,rfl⟩,g2,g3⟩
noncomputable def S26:List (FuncId×ASpec):=(123,octSpec)::S25
theorem S26ok:SpecsOk Tryz.prog S26:=⟨octSpec_ok,S25ok⟩
end Go.Proofs.YtjlcdlekmpjjnaaGreat
/- limb.Words: the contract. -/
namespace Go.Proofs.YtjlcdlekmpjjnaaGreat
open Ex Num
set_option maxRecDepth 100000
set_option maxHeartbeats 4000000
theorem natB_append:∀ (a b:List Int),natB (a++b)=natB a*256^b.length+natB b
 | [],b=>by simp [natB]
 | d::r,b=>by
  simp only [List.cons_append,natB,List.length_append]
  rw [natB_append r b,Nat.pow_add,Nat.add_mul,Nat.mul_assoc,Nat.add_assoc]
theorem natB_take {ws:List Int} {i:Nat} (h:i<ws.length):natB (ws.take (i+1))=natB (ws.take i)*256+(ws.getD i 0).toNat:=by
 rw [List.take_succ_eq_append_getElem h,natB_append]
 simp [natB,List.getD_eq_getElem?_getD,h]
theorem natB_lt:∀ (ws:List Int),(∀ d∈ws,0≤d∧d<256)→natB ws<256^ws.length
 | [],_=>by simp [natB]
 | d::r,h=>by
  have hd:=h d (by simp)
  have ih:=natB_lt r fun d h'=>h d (by simp [h'])
  simp only [natB,List.length_cons,Nat.pow_succ]
  have:d.toNat+1≤256:=by omega
  have h2:=Nat.mul_le_mul_right (256^r.length) this
  rw [Nat.add_mul,Nat.one_mul] at h2
  omega
theorem word_same {M x k i:Nat} (hx:x<256) (hi:i≠k / 8):(M*256^(k+1)+x*256^k) / 2^(64*i) % 2^64=M*256^(k+1) / 2^(64*i) % 2^64:=by
 rw [p256,p256]
 rcases Nat.lt_or_gt_of_ne hi with h | h
 ·have e:x*2^(8*k)=2^(64*i)*(2^64*(x*2^(8*k-64*i-64))):=by
   rw [Nat.mul_left_comm (2^64),Nat.mul_left_comm (2^(64*i)),← Nat.pow_add,← Nat.pow_add];congr 2;omega
  rw [e,Nat.add_mul_div_left _ _ (Nat.pow_pos (by decide)),Nat.add_mul_mod_self_left]
 ·have e1:2^(64*i)=2^(8*k)*2^(64*i-8*k):=by rw [← Nat.pow_add];congr 1;omega
  have e2:M*2^(8*(k+1))+x*2^(8*k)=2^(8*k)*(M*256+x):=by
   rw [show 8*(k+1)=8*k+8 by omega,Nat.pow_add,Nat.mul_add,Nat.mul_comm x];congr 1;rw [Nat.mul_left_comm]
  have e3:M*2^(8*(k+1))=2^(8*k)*(M*256):=by rw [show 8*(k+1)=8*k+8 by omega,Nat.pow_add,Nat.mul_left_comm]
  have e4:2^(64*i-8*k)=256*2^(64*i-8*k-8):=by
   rw [show (256:Nat)=2^8 by rfl,← Nat.pow_add];congr 1;omega
  rw [e2,e3,e1,Nat.mul_div_mul_left _ _ (Nat.pow_pos (by decide)),Nat.mul_div_mul_left _ _ (Nat.pow_pos (by decide)),e4,← Nat.div_div_eq_div_mul,← Nat.div_div_eq_div_mul]
  congr 2;omega
theorem word_more {M x k:Nat} (hx:x<256):∃ h B,(M*256^(k+1)) / 2^(64*(k / 8)) % 2^64=h*2^(8*(k % 8)+8)∧x*2^(8*(k % 8))=B∧B<2^(8*(k % 8)+8)∧h*2^(8*(k % 8)+8)<2^64 ∧
  (M*256^(k+1)+x*256^k) / 2^(64*(k / 8)) % 2^64=h*2^(8*(k % 8)+8)+B:=by
 rw [p256,p256]
 have e0:2^(8*k)=2^(64*(k / 8))*2^(8*(k % 8)):=by rw [← Nat.pow_add];congr 1;omega
 have e1:2^(8*(k+1))=2^(64*(k / 8))*2^(8*(k % 8)+8):=by rw [← Nat.pow_add];congr 1;omega
 have e2:(2:Nat)^64=2^(8*(k % 8)+8)*2^(56-8*(k % 8)):=by rw [← Nat.pow_add];congr 1;omega
 have e3:2^(8*(k % 8)+8)=2^(8*(k % 8))*256:=by rw [Nat.pow_add]
 have hp:0<2^(64*(k / 8)):=Nat.pow_pos (by decide)
 have q1:M*2^(8*(k+1)) / 2^(64*(k / 8))=M*2^(8*(k % 8)+8):=by
  rw [e1,Nat.mul_left_comm,Nat.mul_div_cancel_left _ hp]
 have q2:(M*2^(8*(k+1))+x*2^(8*k)) / 2^(64*(k / 8))=M*2^(8*(k % 8)+8)+x*2^(8*(k % 8)):=by
  rw [e1,e0,Nat.mul_left_comm M,Nat.mul_left_comm x,← Nat.mul_add,Nat.mul_div_cancel_left _ hp]
 rw [q1,q2]
 have hB:x*2^(8*(k % 8))<2^(8*(k % 8)+8):=by
  rw [e3,Nat.mul_comm];exact Nat.mul_lt_mul_of_pos_left hx (Nat.pow_pos (by decide))
 have m1:M*2^(8*(k % 8)+8) % 2^64=M % 2^(56-8*(k % 8))*2^(8*(k % 8)+8):=by
  rw [e2,Nat.mul_comm M,Nat.mul_mod_mul_left,Nat.mul_comm]
 have hlt:M % 2^(56-8*(k % 8))*2^(8*(k % 8)+8)+2^(8*(k % 8)+8)≤2^64:=by
  have:=Nat.mod_lt M (show 0<2^(56-8*(k % 8)) from Nat.pow_pos (by decide))
  have h2:=Nat.mul_le_mul_right (2^(8*(k % 8)+8)) (show M % 2^(56-8*(k % 8))+1≤2^(56-8*(k % 8)) from this)
  rw [Nat.add_mul,Nat.one_mul,Nat.mul_comm (2^(56-8*(k % 8))),← e2] at h2
  exact h2
 have hp2:0<2^(8*(k % 8)+8):=Nat.pow_pos (by decide)
 refine ⟨M % 2^(56-8*(k % 8)),_,m1,rfl,hB,by omega,?_⟩
 rw [Nat.add_mod,m1]
 have:x*2^(8*(k % 8)) % 2^64=x*2^(8*(k % 8)):=Nat.mod_eq_of_lt (by omega)
 rw [this,Nat.mod_eq_of_lt (by omega)]
def wrdL (n:Nat):Nat:=(wI (Int.tdiv (wI ((n:Int)+7)) 8)).toNat
noncomputable def wrdTodo:List Item:=todoOf (aSeg Tryz.prog (orc S26 K0) (some 0) 100 1 none (entry Tryz.f68 [slA 0 0 0 0] (byH []) 1 []))
noncomputable def wrdS (off n c:Nat) (xs:List Int) (L:Nat) (ys:List Int) (i:AV) (p:List Bool):ASt:=⟨wrdTodo,⟨mkT Tryz.f68.ntmps [(0,slA 0 off n c),(3,slA 1 0 L L),(11,slA 1 0 L L),(12,slA 0 off n c),(13,iA n),(14,i)],
 [(0,some (roB [.seq .u8 xs])),(1,some ⟨24,[.seq .u64 ys],false⟩)],2,p⟩⟩
abbrev wrdK:Option (List Nat×List Nat×Nat):=some ([0,3,11,12,13,14],[0,1],2)
theorem wrd_entry (off n c:Nat) (xs:List Int):aSeg Tryz.prog (orc S26 K0) (some 0) 100 1 wrdK (entry Tryz.f68 [slA 0 off n c] (byH xs) 1 []) =
 some ([(hasB .i64 n,true),(true,true),(mkC (wI (Int.tdiv (wI ((n:Int)+7)) 8)) 8,true),(hasB .i64 n,true)],[],wrdS off n c xs (wrdL n) (List.replicate (wrdL n) 0) (.val false [.n .i64 0]) []):=by kernel_rfl
def wrdJ (n i:Int):Int:=wI (Int.tdiv (octK8 n i) 8)
def wrdV (xs:List Int) (off:Nat) (n:Int) (ys:List Int) (i:Int):Int :=
 bits .or .u64 (ys.getD (0+(wrdJ n i).toNat*1) 0) (IntKind.u64.wrap (wrapc false .u64 (xs.getD (off+i.toNat*1) 0)*2^min (wI (8*Int.tmod (octK8 n i) 8)).toNat 64))
def wrdC (off n:Nat) (xs:List Int) (L:Nat) (ys:List Int) (i:Int):List (Bool×Bool):=[(decide (i<n),true),(decide (0≤i∧i<n),true),(decide (off+i.toNat*1<xs.length),true),(hasB .i64 n,true),(true,true),
 (decide (0≤wrdJ n i∧wrdJ n i<L),true),(decide (0+(wrdJ n i).toNat*1<ys.length),true),(decide (0≤octK8 n i∧(0:Int)<8),true),(decide (0≤wI (8*Int.tmod (octK8 n i) 8)),true),(decide (0≤wrdJ n i∧wrdJ n i<L),true),(decide (0+(wrdJ n i).toNat*1<ys.length),true)]
theorem wrd_step (off n c:Nat) (xs:List Int) (L:Nat) (ys:List Int) (i:Int):aSeg Tryz.prog (orc S26 K0) (some 0) 100 1 wrdK (wrdS off n c xs L ys (iA i) [true]) =
 some (wrdC off n xs L ys i,[],wrdS off n c xs L (ys.set (0+(wrdJ n i).toNat*1) (wrdV xs off n ys i)) (iA (wI (i+1))) []):=by kernel_rfl
def wrdH (ys:List Int):Heap:=[(1,some ⟨24,[.seq .u64 ys],false⟩)]
theorem wrd_exit (off n c:Nat) (xs:List Int) (L:Nat) (ys:List Int) (i:Int):segOut Tryz.prog (orc S26 K0) Tryz.f68 100 1 [1] (wrdS off n c xs L ys (iA i) [false]) =
 some ([(decide (i<n),false)],[],slA 1 0 L L,wrdH ys):=by kernel_rfl
def wordL (N L:Nat):List Int:=(List.range L).map (wordN N)
theorem wordL_set {N N' L j:Nat} {w:Int} (hj:wordN N' j=w) (ho:∀ i,i≠j→wordN N' i=wordN N i):(wordL N L).set j w=wordL N' L:=by
 unfold wordL
 refine List.ext_getElem (by simp) fun i h1 h2=>?_
 rw [List.getElem_set]
 split
 ·rename_i e;subst e;simp [hj]
 ·rename_i e;simp [ho i (fun h=>e h.symm)]
theorem wordL_getD {N L j:Nat} (h:j<L):(wordL N L).getD j 0=wordN N j:=by simp [wordL,List.getD_eq_getElem?_getD,h]
theorem wordL_zero (L:Nat):wordL 0 L=List.replicate L 0:=by
 unfold wordL
 refine List.ext_getElem (by simp) fun i h1 h2=>?_
 simp [wordN]
theorem wordL_natL {N L:Nat} (h:N<2^(64*L)):natL (wordL N L)=N:=by
 have:=natL_outL (S:=N) (L:=L) h
 unfold outL win at this
 rw [Nat.sub_self,List.replicate_zero,List.append_nil,List.drop_zero,List.take_of_length_le (by simp)] at this
 exact this
theorem wrdL_eq {n:Nat} (hn:n≤35184372088832):wrdL n=(n+7) / 8∧wI (Int.tdiv (wI ((n:Int)+7)) 8)=(((n+7) / 8:Nat):Int):=by
 have e:wI ((n:Int)+7)=((n+7:Nat):Int):=by rw [wI_eq (by omega)];omega
 have e2:wI (Int.tdiv (wI ((n:Int)+7)) 8)=(((n+7) / 8:Nat):Int):=by rw [e,tdiv8];exact wI_eq (by omega)
 exact ⟨by unfold wrdL;rw [e2];omega,e2⟩
def wrdN (N L:Nat):Heap:=[(1,some ⟨24,[.num L N],false⟩)]
theorem seq_words {N L:Nat} (h:N<2^(64*L)) (β:Env) (l:List Value) (hr:relL β [.seq .u64 (wordL N L)] l):relL β [.num L N] l:=by
 obtain ⟨l1,l2,⟨h1,_⟩,h2,h3⟩:=hr
 simp only [relL] at h2
 subst h2;subst h1;subst h3
 refine ⟨_,[],⟨h,rfl⟩,rfl,?_⟩
 simp [wordL,words,Function.comp]
theorem asafe_outs {P:Program} {f:FuncId} {β0:Env} {w0:World} {R R':Ending→World→Prop} {W':List Nat} {n:Nat} {x:ASt} (h:ASafe P f β0 w0 R n W' x) (hv:∀ e w,R e w→R' e w):ASafe P f β0 w0 R' n W' x:=by
 intro β a w hi hf b cs q1 q2
 obtain ⟨e',w',fr,q5,q4⟩:=h β a w hi hf b cs q1 q2
 exact ⟨e',w',fr,hv _ _ q5,q4⟩
theorem wrd_can {off n c:Nat} {xs:List Int} (hx:∀ d∈xs,0≤d∧d<256) (hl:off+n≤xs.length) (hn:n≤35184372088832) :
  CanOk Tryz.prog 68 [slA 0 off n c] (byH xs) 1 [] (slA 1 0 ((n+7) / 8) ((n+7) / 8)) (wrdN (natB (win xs off n)) ((n+7) / 8)):=by
 have hfin:natB (win xs off n)<2^(64*((n+7) / 8)):=by
  have h1:=natB_lt (win xs off n) (win_has hx)
  have h2:(win xs off n).length=n:=by unfold win;rw [List.length_take,List.length_drop];omega
  rw [h2,p256] at h1
  exact Nat.lt_of_lt_of_le h1 (Nat.pow_le_pow_right (by decide) (by omega))
 refine can_entry (path:=[]) Tryz.func68 (by kernel_rfl) (by kernel_rfl) fun β0 w0 hb=>?_
 obtain ⟨l1,l2⟩:=wrdL_eq hn
 have hw:hasB .i64 (n:Int)=true:=by simp only [hasB,Bool.and_eq_true,decide_eq_true_eq];omega
 refine seg_safe (orc_ok S26ok K0ok) mixed (wrd_entry off n c xs) ⟨hw,rfl,?_,hw,trivial⟩ (wfB_ok (by kernel_rfl)) hb (fun _ h=>by cases h) fun _=>?_
 ·rw [l2];unfold mkC;simp only [decide_eq_true_eq];omega
 ·rw [l1]
  refine nv_safe ?_
  have hlen:(win xs off n).length=n:=by unfold win;rw [List.length_take,List.length_drop];omega
  have hbd:∀ d∈win xs off n,0≤d∧d<256:=win_has hx
  have loop:∀ r i,i+r=n→ASafe Tryz.prog 68 β0 w0 (Outs β0 w0 [] (slA 1 0 ((n+7) / 8) ((n+7) / 8)) (wrdH (wordL (natB (win xs off n)) ((n+7) / 8)))) Tryz.f68.ntmps []
    (wrdS off n c xs ((n+7) / 8) (wordL (natB ((win xs off n).take i)*256^(n-i)) ((n+7) / 8)) (iA i) []):=by
   intro r
   induction r with
   | zero =>
    intro i hi
    obtain rfl:i=n:=by omega
    rw [Nat.sub_self,Nat.pow_zero,Nat.mul_one,List.take_of_length_le (by omega)]
    exact path_safe [false] (out_safe (orc_ok S26ok K0ok) mixed Tryz.func68 (wrd_exit ..) ⟨by simp,trivial⟩ (wfB_ok (by kernel_rfl)) hb (fun _ h=>by cases h))
   | succ r ih =>
    intro i hi
    have ek:octK8 (n:Int) i=((n-1-i:Nat):Int):=wI_k hn (by omega)
    have ej:wrdJ (n:Int) i=(((n-1-i) / 8:Nat):Int):=by unfold wrdJ;rw [ek,tdiv8];exact wI_eq (by omega)
    have em:wI (8*Int.tmod ((n-1-i:Nat):Int) 8)=((8*((n-1-i) % 8):Nat):Int):=by rw [tmod8,wI_eq (by omega)];omega
    have hjL:(n-1-i) / 8<(n+7) / 8:=by omega
    have hlenw:∀ N,(wordL N ((n+7) / 8)).length=(n+7) / 8:=fun N=>by simp [wordL]
    have hwx:xs.getD (off+i) 0=(win xs off n).getD i 0:=(bit_word (by omega)).symm
    have hxb:0≤(win xs off n).getD i 0∧(win xs off n).getD i 0<256:=by
     rw [List.getD_eq_getElem?_getD]
     cases h':(win xs off n)[i]? with
     | none=>simp
     | some d=>exact hbd d (List.mem_of_getElem? h')
    refine path_safe [true] (seg_safe (orc_ok S26ok K0ok) mixed (wrd_step ..) ?_ (wfB_ok (by kernel_rfl)) hb (fun _ h=>by cases h) fun _=>?_)
    ·unfold wrdC
     rw [ej,ek,em,hlenw]
     refine ⟨by simp;omega,by simp;omega,by simp;omega,hw,rfl,by simp only [decide_eq_true_eq];omega,by simp only [decide_eq_true_eq];omega,by simp only [decide_eq_true_eq];omega,by simp only [decide_eq_true_eq];omega,by simp only [decide_eq_true_eq];omega,by simp only [decide_eq_true_eq];omega,trivial⟩
    ·have hset:((wordL (natB ((win xs off n).take i)*256^(n-i)) ((n+7) / 8)).set (0+(wrdJ n i).toNat*1) (wrdV xs off n (wordL (natB ((win xs off n).take i)*256^(n-i)) ((n+7) / 8)) i)) =
       wordL (natB ((win xs off n).take (i+1))*256^(n-(i+1))) ((n+7) / 8):=by
      have ei:0+(((n-1-i) / 8:Nat):Int).toNat*1=(n-1-i) / 8:=by omega
      have eo:off+(i:Int).toNat*1=off+i:=by omega
      unfold wrdV
      rw [ej,ek,em,ei,eo,hwx,wordL_getD hjL]
      obtain ⟨X,hX⟩:=Int.eq_ofNat_of_zero_le hxb.1
      have hX2:X<256:=by omega
      rw [hX,wrapc_eq,IntKind.wrap_u64,IntKind.wrap_u64,Int.toNat_natCast,Nat.min_eq_left (by omega)]
      have en:n-i=(n-1-i)+1:=by omega
      have en':n-(i+1)=n-1-i:=by omega
      have et:natB ((win xs off n).take (i+1))*256^(n-(i+1))=natB ((win xs off n).take i)*256^(n-1-i+1)+X*256^(n-1-i):=by
       rw [natB_take (by omega),hX,Int.toNat_natCast,en',Nat.add_mul,Nat.mul_assoc,← Nat.pow_succ']
      rw [et,en]
      obtain ⟨hh,B,w1,w2,w3,w4,w5⟩:=word_more (M:=natB ((win xs off n).take i)) (k:=n-1-i) hX2
      refine wordL_set ?_ fun j hj=>?_
      ·have hle:8*((n-1-i) % 8)+8≤64:=by omega
       have hB64:X*2^(8*((n-1-i) % 8))<2^64:=by
        rw [w2];exact Nat.lt_of_lt_of_le w3 (Nat.pow_le_pow_right (by decide) hle)
       have ex:((X:Int) % 18446744073709551616*2^(8*((n-1-i) % 8))) % 18446744073709551616=(B:Int):=by
        have a1:((X:Int) % 18446744073709551616)=(X:Int):=by omega
        have a2:((X:Int)*2^(8*((n-1-i) % 8)))=((X*2^(8*((n-1-i) % 8)):Nat):Int):=by rw [Int.natCast_mul,Int.natCast_pow];rfl
        rw [a1,a2,w2]
        rw [w2] at hB64
        have:B<18446744073709551616:=hB64
        omega
       rw [ex]
       have eo:=or_add (h:=hh) (s:=8*((n-1-i) % 8)+8) (B:=B) w4 w3 hle
       unfold wordN
       rw [w5,w1]
       exact eo.symm
      ·unfold wordN
       rw [word_same hX2 hj]
     rw [hset,wI_eq (z:=(i:Int)+1) (by omega)]
     exact ih (i+1) (by omega)
  have:=loop n 0 (by omega)
  rw [List.take_zero,show natB []=0 from rfl,Nat.zero_mul,wordL_zero] at this
  exact asafe_outs this fun e w h=>outs_block1 (seq_words hfin) h
def wrdSpec:ASpec:=fun args H fr path =>
 match args with
 | [.val false [.sl k off n _]]=>match hget H k with
  | some ⟨_,cs,_⟩=>match toSeq .u8 cs with
   | some xs=>some (trR [k] 1 fr 1 [] (slA 1 0 ((n+7) / 8) ((n+7) / 8)) (wrdN (natB (win xs off n)) ((n+7) / 8)) [(Nat.ble (off+n) xs.length,true),(Nat.ble n 35184372088832,true)] path)
   | none=>none
  | _=>none
 | _=>none
theorem u8_bounds {a:Int} (h:has .u8 a):0≤a∧a<256:=by
 have:=(has_iff _ _).1 h
 simp only [hasB,Bool.and_eq_true,decide_eq_true_eq] at this
 omega
theorem good_by {β:Env} {H:Heap} {w:World} {k:Nat} {ty:Nat} {cs:List Ch} {o:Bool} {xs:List Int} (hg:Ex.Good β H w) (hk:hget H k=some ⟨ty,cs,o⟩) (hxs:toSeq .u8 cs=some xs) :
  (∀ d∈xs,0≤d∧d<256)∧Ex.Good (inEnv β [k] 1) (byH xs) w∧(∀ j,j<1→∃ X,β (nth [k] j)=some X):=by
 obtain ⟨l,g1⟩:=hget_rel hg hk
 obtain ⟨_,g2⟩:=toSeq_rel hxs g1
 refine ⟨fun d hd=>u8_bounds (g2 d hd),good1 (c:=[.seq .u8 xs]) hg hk (fun l h=>?_),fun j hj=>?_⟩
 ·obtain ⟨q1,q2⟩:=toSeq_rel hxs h
  exact ⟨_,[],⟨q1,q2⟩,rfl,by simp⟩
 ·match j,hj with
  | 0,_=>exact relB_def (hg.heap _ _ hk)
theorem wrdSpec_ok:SpecOk Tryz.prog 68 wrdSpec:=by
 refine can_spec Tryz.func68 (by kernel_rfl) (by kernel_rfl) fun args H fr path r h=>?_
 unfold wrdSpec at h
 split at h
 case h_2=>cases h
 rename_i k off n c
 split at h
 case h_2=>cases h
 rename_i ty cs o hk
 split at h
 case h_2=>cases h
 rename_i xs hxs
 injection h with h
 refine ⟨[k],[slA 0 off n c],byH xs,1,1,[],_,_,_,path,h.symm,fun β us w ha hg hc=>?_⟩
 obtain ⟨u1,us1,r1,ha,rfl⟩:=ha
 obtain ⟨g1,g2,g3⟩:=good_by hg hk hxs
 exact ⟨wrd_can g1 (Nat.le_of_ble_eq_true hc.1) (Nat.le_of_ble_eq_true hc.2.1),by kernel_rfl,⟨u1,_,r1,ha,rfl⟩,g2,g3⟩
noncomputable def S27:List (FuncId×ASpec):=(68,wrdSpec)::S26
theorem S27ok:SpecsOk Tryz.prog S27:=⟨wrdSpec_ok,S26ok⟩
end Go.Proofs.YtjlcdlekmpjjnaaGreat
/- fp.Bytes, fp.FromBytes: the contracts. -/
namespace Go.Proofs.YtjlcdlekmpjjnaaGreat
open Ex Num
set_option maxRecDepth 100000
set_option maxHeartbeats 4000000
def bytesA (x:Nat):AV:=.val true [.seq .u8 (octL x 48)]
theorem bytes_run (a:Nat):pureRun Tryz.prog (orc S27 K0) Tryz.f139 [num6 a] [] 300 =
 some (allT 4,bytesA (natL (win (ws6 (a % pN)) 0 6))):=by kernel_rfl
theorem bytes_ok (a:Nat):PureOk Tryz.prog 139 [num6 a] (bytesA (a % pN)):=by
 have h:=pure_ok (orc_ok S27ok K0ok) mixed Tryz.func139 (bytes_run a) ⟨rfl,rfl,rfl,rfl,trivial⟩ rfl
 rw [natL_ws6 (lt_RR_mod a)] at h
 exact h
def fbV (n N:Nat):Nat:=if n=48∧N<pN then N else 0
def fbE (n N:Nat):Int:=if n=48 then (if N<pN then 0 else 41) else 40
def fbA (n N:Nat):AV:=.tup [(true,[.num 6 (fbV n N)]),(false,[.v (.int .i64 (fbE n N))])]
def fb0 (e:Int):AV:=.tup [(true,zero6),(false,[.n .i64 e])]
theorem fb_len (off n m:Nat) (xs:List Int):segOut Tryz.prog (orc S27 K0) Tryz.f142 300 1 [] (entry Tryz.f142 [slA 0 off n m] (byH xs) 1 [true]) =
 some ([(hasB .i64 n,true),(!decide ((n:Int)=48),true)],[],fb0 40,[]):=by kernel_rfl
theorem fb_range (off m:Nat) (xs:List Int):segOut Tryz.prog (orc S27 K0) Tryz.f142 300 1 [] (entry Tryz.f142 [slA 0 off 48 m] (byH xs) 1 [false,true]) =
 some ([(true,true),(false,false),(Nat.ble (off+48) xs.length,true),(true,true),(true,true),(!decide (natB (win xs off 48) % pN=natB (win xs off 48)),true)],[],fb0 41,[]):=by kernel_rfl
theorem fb_num (off m:Nat) (xs:List Int):segOut Tryz.prog (orc S27 K0) Tryz.f142 300 1 [] (entry Tryz.f142 [slA 0 off 48 m] (byH xs) 1 [false,false]) =
 some ([(true,true),(false,false),(Nat.ble (off+48) xs.length,true),(true,true),(true,true),(!decide (natB (win xs off 48) % pN=natB (win xs off 48)),false)],[],.tup [(true,[.num 6 (natB (win xs off 48))]),(false,[.n .i64 0])],[]):=by kernel_rfl
theorem relT2 {β β':Env} {g g':Bool} {a a' b b':List Ch} {u:Value} (h1:∀ v,relG β g a v→relG β' g a' v) (h2:∀ v,relG β g' b v→relG β' g' b' v) (h:relA β (.tup [(g,a),(g',b)]) u):relA β' (.tup [(g,a'),(g',b')]) u:=by
 obtain ⟨us,⟨u1,l1,q1,⟨u2,l2,q2,q3,q4⟩,q5⟩,q6⟩:=h
 exact ⟨us,⟨u1,l1,h1 _ q1,⟨u2,l2,h2 _ q2,q3,q4⟩,q5⟩,q6⟩
theorem zero_num {β:Env} {v:Value} (h:relG β true zero6 v):relG β true [.num 6 0] v:=by
 obtain ⟨l,q,rfl⟩:=h
 exact ⟨l,num_any (k:=6) (x:=0) (by kernel_rfl) q,rfl⟩
theorem gval {β:Env} {k:IntKind} {i j:Int} {v:Value} (e:i=j) (h:relG β false [.n k i] v):relG β false [.v (.int k j)] v:=nval e h
theorem fb_can {off n m:Nat} {xs:List Int} (hl:off+n≤xs.length) (hn:hasB .i64 n=true) :
  CanOk Tryz.prog 142 [slA 0 off n m] (byH xs) 1 [] (fbA n (natB (win xs off n))) []:=by
 have hmod:∀ N:Nat,decide (N % pN=N)=decide (N<pN):=fun N=>by
  by_cases h:N<pN
  ·rw [decide_eq_true h,decide_eq_true (Nat.mod_eq_of_lt h)]
  ·rw [decide_eq_false h,decide_eq_false fun e=>h (by rw [← e];exact modp_lt N)]
 by_cases h:n=48
 ·subst h
  by_cases hN:natB (win xs off 48)<pN
  ·refine can_val (can_entry (path:=[false,false]) Tryz.func142 (by kernel_rfl) (by kernel_rfl) fun β0 w0 hb =>
    out_safe (orc_ok S27ok K0ok) mixed Tryz.func142 (fb_num off m xs) ⟨rfl,rfl,Nat.ble_eq_true_of_le hl,rfl,rfl,by rw [hmod,decide_eq_true hN];rfl,trivial⟩ (wfB_ok (by kernel_rfl)) hb (fun _ h=>by cases h)) fun β u hu=>?_
   unfold fbA fbV fbE
   rw [if_pos ⟨rfl,hN⟩,if_pos rfl,if_pos hN]
   exact relT2 (fun _ q=>q) (fun _ q=>gval rfl q) hu
  ·refine can_val (can_entry (path:=[false,true]) Tryz.func142 (by kernel_rfl) (by kernel_rfl) fun β0 w0 hb =>
    out_safe (orc_ok S27ok K0ok) mixed Tryz.func142 (fb_range off m xs) ⟨rfl,rfl,Nat.ble_eq_true_of_le hl,rfl,rfl,by rw [hmod,decide_eq_false hN];rfl,trivial⟩ (wfB_ok (by kernel_rfl)) hb (fun _ h=>by cases h)) fun β u hu=>?_
   unfold fbA fbV fbE
   rw [if_neg (fun q=>hN q.2),if_pos rfl,if_neg hN]
   exact relT2 (fun _ q=>zero_num q) (fun _ q=>gval rfl q) hu
 ·refine can_val (can_entry (path:=[true]) Tryz.func142 (by kernel_rfl) (by kernel_rfl) fun β0 w0 hb =>
   out_safe (orc_ok S27ok K0ok) mixed Tryz.func142 (fb_len off n m xs) ⟨hn,by simp;omega,trivial⟩ (wfB_ok (by kernel_rfl)) hb (fun _ h=>by cases h)) fun β u hu=>?_
  unfold fbA fbV fbE
  rw [if_neg (fun q=>h q.1),if_neg h]
  exact relT2 (fun _ q=>zero_num q) (fun _ q=>gval rfl q) hu
def bySpec (g:Nat→List Int→AV):ASpec:=fun args H fr path =>
 match args with
 | [.val false [.sl k off n _]]=>match hget H k with
  | some ⟨_,cs,_⟩=>match toSeq .u8 cs with
   | some xs=>some (trR [k] 1 fr 0 [] (g n (win xs off n)) [] [(Nat.ble (off+n) xs.length,true),(hasB .i64 n,true)] path)
   | none=>none
  | _=>none
 | _=>none
theorem bySpec_ok {f:FuncId} {fn:Func} {g:Nat→List Int→AV} (hfn:Tryz.prog.funcs[f]? = some fn) (hb:fn.body.isSome=true) (hname:(fn.name=="runtime.NumGoroutine")=false) (hk:∀ n l,canB 1 0 [] (g n l) []=true)
  (h:∀ (off n m:Nat) (xs:List Int),(∀ d∈xs,0≤d∧d<256)→off+n≤xs.length→hasB .i64 n=true→CanOk Tryz.prog f [slA 0 off n m] (byH xs) 1 [] (g n (win xs off n)) []):SpecOk Tryz.prog f (bySpec g):=by
 refine can_spec hfn hb hname fun args H fr path r hs=>?_
 unfold bySpec at hs
 split at hs
 case h_2=>cases hs
 rename_i k off n c
 split at hs
 case h_2=>cases hs
 rename_i ty cs o hk'
 split at hs
 case h_2=>cases hs
 rename_i xs hxs
 injection hs with hs
 refine ⟨[k],[slA 0 off n c],byH xs,1,0,[],_,_,_,path,hs.symm,fun β us w ha hg hc=>?_⟩
 obtain ⟨u1,us1,r1,ha,rfl⟩:=ha
 obtain ⟨g1,g2,g3⟩:=good_by hg hk' hxs
 exact ⟨h off n c xs g1 (Nat.le_of_ble_eq_true hc.1) hc.2.1,hk _ _,⟨u1,_,r1,ha,rfl⟩,g2,g3⟩
noncomputable def S28:List (FuncId×ASpec):=(139,pureSpec (sp1 fun x=>bytesA (x % pN)))::(142,bySpec fun n l=>fbA n (natB l))::S27
theorem S28ok:SpecsOk Tryz.prog S28:=⟨pureSpec_ok Tryz.func139 (by kernel_rfl) (by kernel_rfl) (sp1_ok fun x _=>bytes_ok x),bySpec_ok Tryz.func142 (by kernel_rfl) (by kernel_rfl) (fun _ _=>rfl) (fun _ _ _ _ _ hl hn=>fb_can hl hn),S27ok⟩
end Go.Proofs.YtjlcdlekmpjjnaaGreat
/- sigilref04: P, minus, less: the contracts. -/
namespace Go.Proofs.YtjlcdlekmpjjnaaGreat
open Ex Num
set_option maxRecDepth 100000
set_option maxHeartbeats 4000000
theorem sumL_append:∀ (a b:List Int),sumL (a++b)=sumL a+((2^(64*a.length):Nat):Int)*sumL b
 | [],b=>by simp [sumL]
 | d::a,b=>by
  simp only [List.cons_append,sumL,List.length_cons]
  rw [sumL_append a b,show 64*(a.length+1)=64+64*a.length by omega,Nat.pow_add,Int.natCast_mul,Int.mul_add,Int.mul_assoc,← Int.add_assoc]
  rfl
theorem mod_word (x k:Nat):((x % 2^(64*(k+1)):Nat):Int)=((x % 2^(64*k):Nat):Int)+((2^(64*k):Nat):Int)*wordN x k:=by
 rw [show 64*(k+1)=64*k+64 by omega,Nat.pow_add,Nat.mod_mul,Int.natCast_add,Int.natCast_mul];rfl
theorem pow_word (k:Nat):((2^(64*(k+1)):Nat):Int)=((2^(64*k):Nat):Int)*18446744073709551616:=by
 rw [show 64*(k+1)=64*k+64 by omega,Nat.pow_add,Int.natCast_mul];rfl
theorem dif_chain (x y:Nat):∀ k,sumL ((List.range k).map (difD x y))=((x % 2^(64*k):Nat):Int)-((y % 2^(64*k):Nat):Int)+((2^(64*k):Nat):Int)*bch x y k
 | 0=>by simp [sumL,bch,Nat.mod_one]
 | k+1=>by
  rw [List.range_succ,List.map_append,sumL_append,dif_chain x y k,mod_word,mod_word,pow_word]
  simp only [List.map_cons,List.map_nil,sumL,List.length_map,List.length_range,Int.mul_zero,Int.add_zero]
  rw [difD_eq x y k]
  generalize ((2^(64*k):Nat):Int)=Q
  simp only [Int.mul_add,Int.mul_sub,Int.mul_assoc]
  omega
theorem dif_num {x y k:Nat} (hx:x<2^(64*k)) (hy:y<2^(64*k)):(((x+(2^(64*k)-y)) % 2^(64*k):Nat):Int)=sumL ((List.range k).map (difD x y)):=by
 have h:=dif_chain x y k
 rw [Nat.mod_eq_of_lt hx,Nat.mod_eq_of_lt hy] at h
 have hb:=bch_bd x y k
 have hs:∀ (ds:List Int),(∀ d∈ds,0≤d∧d<18446744073709551616)→0≤sumL ds∧sumL ds<((2^(64*ds.length):Nat):Int):=by
  intro ds
  induction ds with
  | nil=>intro _;simp [sumL]
  | cons d r ih =>
   intro hd
   have h1:=hd d (by simp)
   have h2:=ih fun d h=>hd d (by simp [h])
   rw [List.length_cons,pow_word]
   simp only [sumL]
   omega
 have hr:=hs ((List.range k).map (difD x y)) (by intro d hd;obtain ⟨i,_,rfl⟩:=List.mem_map.1 hd;exact difD_bd x y i)
 rw [List.length_map,List.length_range,h] at hr
 rw [h]
 generalize 2^(64*k)=Q at *
 have h01:bch x y k=0∨bch x y k=1:=by omega
 rcases h01 with e | e
 ·rw [e,Int.mul_zero,Int.add_zero] at hr ⊢
  have e1:x+(Q-y)=(x-y)+Q:=by omega
  rw [e1,Nat.add_mod_right,Nat.mod_eq_of_lt (by omega)];omega
 ·rw [e,Int.mul_one] at hr ⊢
  rw [Nat.mod_eq_of_lt (by omega)];omega
noncomputable def SP:List (FuncId×ASpec):=S28
theorem SPok:SpecsOk Tryz.prog SP:=S28ok
theorem ls_word {a q c:Int} (ha:0≤a∧a<18446744073709551616) (hq:0≤q∧q<18446744073709551616) (hc:0≤c∧c<18446744073709551616) :
  a*q+c=sumW (mulLo a q) c 0+18446744073709551616*mW (mulHi a q+carW (mulLo a q) c 0)∧(0≤sumW (mulLo a q) c 0∧sumW (mulLo a q) c 0<18446744073709551616)∧(0≤mW (mulHi a q+carW (mulLo a q) c 0)∧mW (mulHi a q+carW (mulLo a q) c 0)<18446744073709551616):=by
 have h:=mul_bd ha hq
 simp only [mW_eq]
 unfold sumW carW mulLo mulHi
 generalize a*q=z at *
 omega
end Go.Proofs.YtjlcdlekmpjjnaaGreat
/- sigilref04: Below, Reduce: the contracts. -/
namespace Go.Proofs.YtjlcdlekmpjjnaaGreat
open Ex Num
set_option maxRecDepth 100000
set_option maxHeartbeats 4000000
noncomputable def SQ:List (FuncId×ASpec):=SP
theorem SQok:SpecsOk Tryz.prog SQ:=SPok
noncomputable def SR:List (FuncId×ASpec):=SQ
theorem SRok:SpecsOk Tryz.prog SR:=SQok
end Go.Proofs.YtjlcdlekmpjjnaaGreat
/- sigilref04.next: the contract. -/
namespace Go.Proofs.YtjlcdlekmpjjnaaGreat
open Ex Num
set_option maxRecDepth 100000
set_option maxHeartbeats 4000000
theorem p5:2^(64*5)*18446744073709551616=RR:=by kernel_rfl
noncomputable def ST:List (FuncId×ASpec):=SR
theorem STok:SpecsOk Tryz.prog ST:=SRok
end Go.Proofs.YtjlcdlekmpjjnaaGreat
/- sigilref04: Add, Neg, Sub, Mul: the contracts. -/
namespace Go.Proofs.YtjlcdlekmpjjnaaGreat
open Ex Num
set_option maxRecDepth 100000
set_option maxHeartbeats 4000000
noncomputable def SU:List (FuncId×ASpec):=ST
theorem SUok:SpecsOk Tryz.prog SU:=STok
end Go.Proofs.YtjlcdlekmpjjnaaGreat
/- sigilref04.Mul: the contract. -/
namespace Go.Proofs.YtjlcdlekmpjjnaaGreat
open Ex Num
set_option maxRecDepth 100000
set_option maxHeartbeats 4000000
noncomputable def SV:List (FuncId×ASpec):=SU
theorem SVok:SpecsOk Tryz.prog SV:=SUok
end Go.Proofs.YtjlcdlekmpjjnaaGreat
/- sigilref03.At, more; sigilref04.Wide, Pow: the contracts. -/
namespace Go.Proofs.YtjlcdlekmpjjnaaGreat
open Ex Num
set_option maxRecDepth 100000
set_option maxHeartbeats 4000000
theorem hasB_len {n:Nat} (h:n≤1125899906842624):hasB .i64 (n:Int)=true:=by
 simp only [hasB,Bool.and_eq_true,decide_eq_true_eq];omega
noncomputable def SW:List (FuncId×ASpec):=SV
theorem SWok:SpecsOk Tryz.prog SW:=SVok
def one6:List Ch:=[.n .u64 1,.n .u64 0,.n .u64 0,.n .u64 0,.n .u64 0,.n .u64 0]
noncomputable def SX:List (FuncId×ASpec):=SW
theorem SXok:SpecsOk Tryz.prog SX:=SWok
end Go.Proofs.YtjlcdlekmpjjnaaGreat
/- sigilref03: Cmp, Octets, Words: the contracts. -/
namespace Go.Proofs.YtjlcdlekmpjjnaaGreat
open Ex Num
set_option maxRecDepth 100000
set_option maxHeartbeats 4000000
section
variable (off n m off' n' m':Nat) (xs ys:List Int)
end
noncomputable def SY:List (FuncId×ASpec):=SX
theorem SYok:SpecsOk Tryz.prog SY:=SXok
end Go.Proofs.YtjlcdlekmpjjnaaGreat
/- sigilref04: Inv, Bytes, FromBytes: the contracts; nil arguments. -/
namespace Go.Proofs.YtjlcdlekmpjjnaaGreat
open Ex Num
set_option maxRecDepth 100000
set_option maxHeartbeats 4000000
theorem fbSpec_ok:SpecOk Tryz.prog 142 (bySpec fun n l=>fbA n (natB l)):=bySpec_ok Tryz.func142 (by kernel_rfl) (by kernel_rfl) (fun _ _=>rfl) (fun _ _ _ _ _ hl hn=>fb_can hl hn)
noncomputable def SZ:List (FuncId×ASpec):=(142,nilSpec (bySpec fun n l=>fbA n (natB l)))::(144,nilSpec powSpec)::SY
theorem SZok:SpecsOk Tryz.prog SZ:=⟨nilSpec_ok fbSpec_ok,nilSpec_ok powSpec_ok,SYok⟩
end Go.Proofs.YtjlcdlekmpjjnaaGreat
/- Octets of numbers, and numbers of octets. -/
namespace Go.Proofs.YtjlcdlekmpjjnaaGreat
open Ex
set_option maxRecDepth 100000
set_option maxHeartbeats 4000000
theorem octL_length (x n:Nat):(octL x n).length=n:=by simp [octL]
theorem octL_succ (x n:Nat):octL x (n+1)=byteN x n::octL x n:=by
 unfold octL
 rw [List.range_succ_eq_map,List.map_cons,List.map_map]
 congr 1
 refine List.map_congr_left fun i hi=>?_
 have:i<n:=List.mem_range.1 hi
 simp only [Function.comp]
 congr 1;omega
theorem natB_octL:∀ (n x:Nat),natB (octL x n)=x % 256^n
 | 0,x=>by simp [octL,natB,Nat.mod_one]
 | n+1,x=>by
  rw [octL_succ]
  simp only [natB]
  rw [octL_length,natB_octL n x,Nat.pow_succ,Nat.mod_mul]
  unfold byteN
  rw [Int.toNat_natCast,Nat.mul_comm,Nat.add_comm]
end Go.Proofs.YtjlcdlekmpjjnaaGreat
/- What comes in with the call of a law: lists of numbers too. -/
namespace Go.Proofs.YtjlcdlekmpjjnaaGreat
open Ex
open Go.RowKit (Below)
set_option maxRecDepth 100000
set_option maxHeartbeats 4000000
def locEnv (ls:List Ex.Loc):Env:=fun k=>ls[k]?
theorem locEnv_le (ls:List Ex.Loc) (L:Ex.Loc):Env.le (locEnv ls) (locEnv (ls++[L])):=fun b X h=>by
 have hb:b<ls.length:=by
  rcases Nat.lt_or_ge b ls.length with q | q
  ·exact q
  ·simp only [locEnv] at h;rw [List.getElem?_eq_none q] at h;cases h
 simp only [locEnv] at h ⊢
 rw [List.getElem?_append_left hb];exact h
theorem locEnv_last (ls:List Ex.Loc) (L:Ex.Loc):locEnv (ls++[L]) ls.length=some L:=by simp [locEnv]
structure ArgsOk (W:World) (ls:List Ex.Loc) (bs:List Blk):Prop where
 len:ls.length=bs.length
 blk:∀ (j:Nat) (b:Blk),bs[j]? = some b→b.ty=roTy∧relB (locEnv ls) b j W
 lt:∀ (j B:Nat) (n:Nat×Nat),ls[j]? = some (Ex.Loc.at_ B n)→B<W.heap.size
theorem ArgsOk.nil (W:World):ArgsOk W [] []:=⟨rfl,fun j b h=>by simp at h,fun j B n h=>by simp at h⟩
theorem ArgsOk.good {W:World} {ls:List Ex.Loc} {bs:List Blk} (h:ArgsOk W ls bs):Ex.Good (locEnv ls) (enumH 0 bs) W:=by
 refine ⟨fun b blk hb=>?_,fun b b' B n n' h1 _ _ _=>?_,fun b B n hb=>h.lt b B n hb⟩
 ·obtain ⟨_,hj⟩:=hget_enum hb
  exact (h.blk b blk (by simpa using hj)).2
 ·obtain ⟨d,hd,hr⟩:=rwK_some h1
  obtain ⟨_,hj⟩:=hget_enum hd
  exact absurd (h.blk b d (by simpa using hj)).1 hr
theorem ArgsOk.none {W:World} {ls:List Ex.Loc} {bs:List Blk} (h:ArgsOk W ls bs):∀ b,bs.length≤b→locEnv ls b=none:=fun b hb=>by
 simp only [locEnv]
 rw [List.getElem?_eq_none (by rw [h.len];exact hb)]
theorem ArgsOk.snoc {W:World} {ls:List Ex.Loc} {bs:List Blk} (h:ArgsOk W ls bs) {L:Ex.Loc} {b:Blk} (hb:relB (locEnv (ls++[L])) b ls.length W) (hr:b.ty=roTy) (hl:∀ B n,L=Ex.Loc.at_ B n→B<W.heap.size):ArgsOk W (ls++[L]) (bs++[b]):=by
 refine ⟨by simp [h.len],fun j d hd=>?_,fun j B n hj=>?_⟩
 ·rcases Nat.lt_or_ge j bs.length with q | q
  ·rw [List.getElem?_append_left q] at hd
   exact ⟨(h.blk j d hd).1,relB_mono (locEnv_le ls L) (h.blk j d hd).2⟩
  ·rw [List.getElem?_append_right q] at hd
   have e:j=bs.length:=by
    rcases Nat.eq_or_lt_of_le q with q' | q'
    ·exact q'.symm
    ·rw [List.getElem?_eq_none (by simp;omega)] at hd;cases hd
   subst e
   simp at hd
   subst hd
   exact ⟨hr,by rw [← h.len];exact hb⟩
 ·rcases Nat.lt_or_ge j ls.length with q | q
  ·rw [List.getElem?_append_left q] at hj;exact h.lt j B n hj
  ·rw [List.getElem?_append_right q] at hj
   have e:j-ls.length=0:=by
    rcases Nat.eq_zero_or_pos (j-ls.length) with q' | q'
    ·exact q'
    ·rw [List.getElem?_eq_none (by simp;omega)] at hj;cases hj
   rw [e] at hj
   simp at hj
   exact hl B n hj
theorem rowAt_le {P:Program} {fits:TypeId→Bool}:∀ (d:Nat) {e:TypeId} {count off n:Nat},rowAt P fits d e count off n=true→off≤count*P.cellsOf e
 | 0,_,_,_,_,h=>by simp [rowAt] at h
 | d+1,e,count,off,n,h=>by
  by_cases hs:P.cellsOf e=0
  ·unfold rowAt at h
   simp [hs] at h
  ·unfold rowAt at h
   rw [if_neg hs] at h
   have hpos:0<P.cellsOf e:=Nat.pos_of_ne_zero hs
   have hdm:=Nat.div_add_mod off (P.cellsOf e)
   have hlt:=Nat.mod_lt off hpos
   have key:off / P.cellsOf e<count∨(off % P.cellsOf e=0∧off / P.cellsOf e≤count):=by
    simp only [Bool.or_eq_true,Bool.and_eq_true,decide_eq_true_eq,beq_iff_eq] at h
    rcases h with ⟨⟨h1,h2⟩,_⟩ | ⟨h1,_⟩
    ·exact .inr ⟨h1,by omega⟩
    ·exact .inl h1
   rcases key with q | ⟨q1,q2⟩
   ·have:=Nat.mul_le_mul_left (P.cellsOf e) (show off / P.cellsOf e+1≤count from q)
    rw [Nat.mul_add,Nat.mul_one] at this
    rw [Nat.mul_comm count]
    omega
   ·have:=Nat.mul_le_mul_left (P.cellsOf e) q2
    rw [Nat.mul_comm count]
    omega
theorem liesAt_le {P:Program}:∀ (d:Nat) {e u:TypeId} {count off n:Nat},liesAt P d e count off u n=true→off≤count*P.cellsOf e
 | 0,_,_,_,_,_,h=>by simp [liesAt] at h
 | d+1,e,u,count,off,n,h=>by
  unfold liesAt at h
  rw [Bool.or_eq_true] at h
  rcases h with h | h
  ·exact rowAt_le _ h
  ·split at h
   ·exact liesAt_le d h
   ·cases h
theorem ints_arg {H:Type} {enc:TypeId×Value→H} {W:World} {base:Nat} {t e:TypeId} {k:IntKind} {v:Value} {d:DataW H} {p:List MemPlace} (hu:Tryz.prog.underlying t=some (.slice e)) (he:Tryz.prog.underlying e=some (.int k)) (hc:Tryz.prog.cellsOf e=1)
  (hv:Value.okWide Tryz.prog W .any base t v) (ht:DataW.Trod enc Tryz.prog W 0 (fun _=>true) true t v d p) :
  ∃ (L:Ex.Loc) (zs:List Int) (n m:Nat),(∀ x∈zs,has k x)∧n≤zs.length∧n≤maxLen∧(∀ B q,L=Ex.Loc.at_ B q→B<W.heap.size)∧∀ ls:List Ex.Loc,relA (locEnv (ls++[L])) (.val false [.sl ls.length 0 n m]) v∧relB (locEnv (ls++[L])) (roB [.seq k zs]) ls.length W:=by
 obtain ⟨fuel,hf⟩:=ht
 obtain ⟨a0,len0,cap0,rfl⟩:=Go.WideShapes.okWide_slice hu hv
 have hcells:(Value.slice a0 len0 cap0).cells=#[Value.slice a0 len0 cap0]:=rfl
 rw [hcells] at hf
 rcases Go.ChangeShapes.open_ints hu he hc hf with ⟨hcs,_⟩ | ⟨a,len,cap,zs,hcs,hb,hl,hm,hz,_,hcell,hwf⟩
 ·have e1:Value.slice a0 len0 cap0=.slice none 0 0:=by simpa using hcs
  rw [e1]
  refine ⟨.nil,[],0,0,by simp,by simp,Nat.zero_le _,(fun B q h=>by cases h),fun ls=>⟨?_,.inr ⟨locEnv_last _ _,.inr rfl,⟨[],[],⟨rfl,by simp⟩,rfl,rfl⟩⟩⟩⟩
  exact rel_one' (.inr ⟨locEnv_last _ _,rfl,rfl,rfl,rfl⟩)
 ·have e1:Value.slice a0 len0 cap0=.slice (some a) len cap:=by simpa using hcs
  rw [e1] at hv ⊢
  simp only [if_true] at hz
  have hk:Cell.ok Tryz.prog W .any base t (.slice (some a) len cap):=by
   have:=hv
   simp only [Value.okWide,hu,Cell.okWide] at this
   exact this
  simp only [Cell.ok,hu] at hk
  obtain ⟨_,_,_,hspot,row,cells,hsh,hlies⟩:=hk
  obtain ⟨c,fz,hblk,hsz⟩:∃ c fz,W.heap[a.block]? = some (.cells c row fz)∧cells=c.size:=by
   unfold World.shape? at hsh
   split at hsh
   ·rename_i c el fz hq
    injection hsh with hsh;injection hsh with h1 h2
    exact ⟨c,fz,by rw [hq,h1],h2.symm⟩
   ·cases hsh
  have hoff:a.off≤c.size:=by
   have h1:=liesAt_le _ hlies
   have h2:=Nat.div_mul_le_self cells (Tryz.prog.cellsOf row)
   omega
  have hget:∀ i,i<zs.length→c[a.off+i]? = some (.int k (zs.getD i 0)):=by
   intro i hi
   have h1:=hcell i hi
   have e2:a.add i=⟨a.block,a.off+i,none⟩:=by
    unfold Addr.add
    split
    ·rename_i h0;subst h0
     cases a;simp only at hspot;simp [hspot]
    ·rfl
   rw [e2] at h1
   simp only [World.cell?,hblk] at h1
   simpa using h1
  have hend:a.off+zs.length≤c.size:=by
   rcases Nat.eq_zero_or_pos zs.length with h0 | hp
   ·omega
   ·have:=(Array.getElem?_eq_some_iff.1 (hget (zs.length-1) (by omega))).1
    omega
  have hlist:c.toList=c.toList.take a.off++(zs.map (.int k)++c.toList.drop (a.off+zs.length)):=by
   have hmid:(c.toList.drop a.off).take zs.length=zs.map (.int k):=by
    refine List.ext_getElem? fun i=>?_
    by_cases hi:i<zs.length
    ·rw [List.getElem?_take_of_lt hi,List.getElem?_drop,Array.getElem?_toList,hget i hi,List.getElem?_map,List.getElem?_eq_getElem hi,List.getD_eq_getElem?_getD,List.getElem?_eq_getElem hi];rfl
    ·rw [List.getElem?_eq_none (by simp;omega),List.getElem?_eq_none (by simp;omega)]
   rw [← hmid,← List.drop_drop,List.take_append_drop,List.take_append_drop]
  have ea:a=⟨a.block,a.off,none⟩:=by cases a;simp only at hspot;simp [hspot]
  have hhas:∀ x∈zs,has k x:=fun x hx=>wf_has (hwf x hx)
  refine ⟨.at_ a.block (c.size,a.off),zs,len,cap,hhas,by omega,Nat.le_trans hl hm,fun B q h=>?_,fun ls=>⟨?_,.inl ⟨a.block,(c.size,a.off),zs.map (.int k),c.toList.drop (a.off+zs.length),c.toList.take a.off,row,fz,locEnv_last _ _,⟨_,[],⟨rfl,hhas⟩,rfl,by simp⟩,?_,?_,fun hr=>absurd rfl hr⟩⟩⟩
  ·injection h with h1 h2
   rw [← h1]
   exact (Array.getElem?_eq_some_iff.1 hblk).1
  ·refine rel_one' (.inl ⟨a.block,(c.size,a.off),locEnv_last _ _,?_⟩)
   rw [Nat.add_zero,← ea]
  ·rw [← hlist];exact hblk
  ·simp;omega
theorem walk_can {f:FuncId} {fn:Func} (h:∀ (H:Type) (enc:TypeId×Value→H) (us:List Value) (W:World) (base:Nat) (ds:List (DataW H)) (ps:List MemPlace),(∀ (j:Nat) t v,fn.params[j]? = some t→us[j]? = some v→Value.okWide Tryz.prog W .any base t v) →
  DataW.TrodAll enc Tryz.prog W 0 (fun _=>true) true fn.params.toList us ds ps→∃ ls bs args,ArgsOk W ls bs∧relAs (locEnv ls) args us∧CanOk Tryz.prog f args (enumH 0 bs) bs.length [] (boolA true) []):LawWalk Tryz.prog f fn:=by
 intro H enc us W base ds ps hv hA _ _
 obtain ⟨ls,bs,args,ho,ha,hc⟩:=h H enc us W base ds ps hv hA
 refine (hc (locEnv ls) us W ha ho.good ho.none).mono ?_
 rintro e w' ⟨u,β,rfl,out⟩
 obtain ⟨l1,l2,⟨h1,_⟩,h3,h4⟩:=out.val
 simp only [relL] at h3
 subst h1;subst h3
 injection h4 with h4 _
 refine ⟨by rw [h4],⟨out.os,out.tape,out.output,out.size,fun k hk=>out.frame k hk (fun _ _ h=>by cases h)⟩⟩
end Go.Proofs.YtjlcdlekmpjjnaaGreat
/- Slices of either kind (cut out of a block, or grown) as arguments. -/
namespace Go.Proofs.YtjlcdlekmpjjnaaGreat
open Ex Num
set_option maxRecDepth 100000
set_option maxHeartbeats 4000000
def asSl:AV→Option (Nat×Nat×Nat)
 | .val false [.sl k off n _]=>some (k,off,n)
 | .val false [.sx k n _]=>some (k,0,n)
 | _=>none
theorem asSl_rel {β:Env} {A:AV} {k off n:Nat} {u:Value} (h:asSl A=some (k,off,n)) (hr:relA β A u):∃ m,relA β (slA k off n m) u:=by
 unfold asSl at h
 split at h
 ·rename_i k' off' n' m
  injection h with h;injection h with h1 h;injection h with h2 h3
  subst h1;subst h2;subst h3
  exact ⟨m,hr⟩
 ·rename_i k' n' sz
  injection h with h;injection h with h1 h;injection h with h2 h3
  subst h1;subst h2;subst h3
  obtain ⟨l1,l2,h1,h2,h3⟩:=hr
  rcases h1 with ⟨B,q,cap,q1,q2,q3,q4⟩ | ⟨q1,q2,q3⟩
  ·exact ⟨cap,l1,l2,.inl ⟨B,(q,0),q1,by rw [q2]⟩,h2,h3⟩
  ·exact ⟨0,l1,l2,.inr ⟨q1,rfl,q2,rfl,q3⟩,h2,h3⟩
 ·cases h
theorem can_spec2 {f:FuncId} {fn:Func} (hfn:Tryz.prog.funcs[f]? = some fn) (hbd:fn.body.isSome=true) (hname:(fn.name=="runtime.NumGoroutine")=false) {s:ASpec}
  (h:∀ args H fr path r,s args H fr path=some r→∃ (ρ:List Nat) (k0 nw:Nat) (W:List Nat) (val:AV) (H1:Heap) (conds:List (Bool×Bool)) (path':List Bool),
   r=trR ρ k0 fr nw W val H1 conds path'∧(∀ β us w,relAs β args us→Ex.Good β H w→okConds conds→∃ args0 H0,CanOk Tryz.prog f args0 H0 k0 W val H1∧canB k0 nw W val H1=true∧relAs (inEnv β ρ k0) args0 us∧Ex.Good (inEnv β ρ k0) H0 w∧(∀ k,k<k0→∃ X,β (nth ρ k)=some X))):SpecOk Tryz.prog f s:=by
 intro args H fr path r β us w hs hc ha hg hf
 obtain ⟨ρ,k0,nw,W,val,H1,conds,path',rfl,hh⟩:=h args H fr path r hs
 obtain ⟨args0,H0,hcan,hb,ha0,hg0,hdef⟩:=hh β us w ha hg hc
 refine callX_of_calls hfn hbd hname (Calls.mono (hcan (inEnv β ρ k0) us w ha0 hg0 fun b hb=>?_) ?_)
 ·have:Nat.blt b k0=false:=by cases h:Nat.blt b k0 with | false=>rfl | true=>have:=nblt.1 h;omega
  simp [inEnv,this]
 ·rintro e w' ⟨u,β1,rfl,ho⟩
  obtain ⟨β',he⟩:=tr_eff (conds:=conds) (path:=path') hg ho hb hf hdef
  exact ⟨u,β',rfl,he⟩
theorem sl_in {β:Env} {k j off n m:Nat} {ρ:List Nat} {k0:Nat} {u:Value} (hj:j<k0) (hn:nth ρ j=k) (h:relA β (slA k off n m) u):relA (inEnv β ρ k0) (slA j off n m) u:=by
 obtain ⟨l1,l2,h1,h2,h3⟩:=h
 refine ⟨l1,l2,?_,h2,h3⟩
 have e:inEnv β ρ k0 j=β k:=by rw [inEnv_at hj,hn]
 rcases h1 with ⟨B,q,q1,q2⟩ | ⟨q1,q2⟩
 ·exact .inl ⟨B,q,by rw [e];exact q1,q2⟩
 ·exact .inr ⟨by rw [e];exact q1,q2⟩
def bySp (g:Nat→List Int→AV):ASpec:=fun args H fr path =>
 match args with
 | [S]=>match asSl S with
  | some (k,off,n)=>match hget H k with
   | some ⟨_,cs,_⟩=>match toSeq .u8 cs with
    | some xs=>some (trR [k] 1 fr 0 [] (g n (win xs off n)) [] [(Nat.ble (off+n) xs.length,true),(hasB .i64 n,true)] path)
    | none=>none
   | _=>none
  | none=>none
 | _=>none
theorem bySp_ok {f:FuncId} {fn:Func} {g:Nat→List Int→AV} (hfn:Tryz.prog.funcs[f]? = some fn) (hb:fn.body.isSome=true) (hname:(fn.name=="runtime.NumGoroutine")=false) (hk:∀ n l,canB 1 0 [] (g n l) []=true)
  (h:∀ (off n m:Nat) (xs:List Int),(∀ d∈xs,0≤d∧d<256)→off+n≤xs.length→hasB .i64 n=true→CanOk Tryz.prog f [slA 0 off n m] (byH xs) 1 [] (g n (win xs off n)) []):SpecOk Tryz.prog f (bySp g):=by
 refine can_spec2 hfn hb hname fun args H fr path r hs=>?_
 unfold bySp at hs
 split at hs
 case h_2=>cases hs
 rename_i S
 split at hs
 case h_2=>cases hs
 rename_i k off n hS
 split at hs
 case h_2=>cases hs
 rename_i ty cs o hk'
 split at hs
 case h_2=>cases hs
 rename_i xs hxs
 injection hs with hs
 refine ⟨[k],1,0,[],_,_,_,path,hs.symm,fun β us w ha hg hc=>?_⟩
 obtain ⟨u1,us1,r1,ha,rfl⟩:=ha
 obtain ⟨m,r1⟩:=asSl_rel hS r1
 obtain ⟨g1,g2,g3⟩:=good_by hg hk' hxs
 exact ⟨[slA 0 off n m],byH xs,h off n m xs g1 (Nat.le_of_ble_eq_true hc.1) hc.2.1,hk _ _,⟨u1,_,sl_in (by omega) rfl r1,ha,rfl⟩,g2,g3⟩
def wdSp (g:Nat→List Int→AV):ASpec:=fun args H fr path =>
 match args with
 | [S]=>match asSl S with
  | some (k,off,n)=>match hget H k with
   | some ⟨_,cs,_⟩=>match toSeq .u64 cs with
    | some xs=>some (trR [k] 1 fr 0 [] (g n (win xs off n)) [] [(Nat.ble (off+n) xs.length,true),(Nat.ble n 1125899906842624,true)] path)
    | none=>none
   | _=>none
  | none=>none
 | _=>none
theorem wdSp_ok {f:FuncId} {fn:Func} {g:Nat→List Int→AV} (hfn:Tryz.prog.funcs[f]? = some fn) (hb:fn.body.isSome=true) (hname:(fn.name=="runtime.NumGoroutine")=false) (hk:∀ n l,canB 1 0 [] (g n l) []=true)
  (h:∀ (off n m:Nat) (xs:List Int),(∀ d∈xs,0≤d∧d<18446744073709551616)→off+n≤xs.length→n≤1125899906842624→CanOk Tryz.prog f [slA 0 off n m] (seqH xs) 1 [] (g n (win xs off n)) []):SpecOk Tryz.prog f (wdSp g):=by
 refine can_spec2 hfn hb hname fun args H fr path r hs=>?_
 unfold wdSp at hs
 split at hs
 case h_2=>cases hs
 rename_i S
 split at hs
 case h_2=>cases hs
 rename_i k off n hS
 split at hs
 case h_2=>cases hs
 rename_i ty cs o hk'
 split at hs
 case h_2=>cases hs
 rename_i xs hxs
 injection hs with hs
 refine ⟨[k],1,0,[],_,_,_,path,hs.symm,fun β us w ha hg hc=>?_⟩
 obtain ⟨u1,us1,r1,ha,rfl⟩:=ha
 obtain ⟨m,r1⟩:=asSl_rel hS r1
 obtain ⟨g1,g2,g3⟩:=good_seq hg hk' hxs
 exact ⟨[slA 0 off n m],seqH xs,h off n m xs g1 (Nat.le_of_ble_eq_true hc.1) (Nat.le_of_ble_eq_true hc.2.1),hk _ _,⟨u1,_,sl_in (by omega) rfl r1,ha,rfl⟩,g2,g3⟩
noncomputable def powSp:ASpec:=fun args H fr path =>
 match args with
 | [.val true a,S]=>match asSl S with
  | some (k,off,n)=>match asNum 6 a,hget H k with
   | some x,some ⟨_,cs,_⟩=>match toSeq .u64 cs with
    | some xs=>some (trR [k] 1 fr 0 [] (num6 (powN x (natL (win xs off n)))) [] [(Nat.ble (off+n) xs.length,true),(Nat.ble n 1125899906842624,true)] path)
    | none=>none
   | _,_=>none
  | none=>none
 | _=>none
theorem powSp_ok {f:FuncId} {fn:Func} (hfn:Tryz.prog.funcs[f]? = some fn) (hb:fn.body.isSome=true) (hname:(fn.name=="runtime.NumGoroutine")=false)
  (h:∀ (off n m:Nat) (xs:List Int) (x:Nat),(∀ d∈xs,0≤d∧d<18446744073709551616)→off+n≤xs.length→n≤1125899906842624→CanOk Tryz.prog f (powA x off n m) (seqH xs) 1 [] (num6 (powN x (natL (win xs off n)))) []):SpecOk Tryz.prog f powSp:=by
 refine can_spec2 hfn hb hname fun args H fr path r hs=>?_
 unfold powSp at hs
 split at hs
 case h_2=>cases hs
 rename_i a S
 split at hs
 case h_2=>cases hs
 rename_i k off n hS
 split at hs
 case h_2=>cases hs
 rename_i x ty cs o hx hk'
 split at hs
 case h_2=>cases hs
 rename_i xs hxs
 injection hs with hs
 refine ⟨[k],1,0,[],_,_,_,path,hs.symm,fun β us w ha hg hc=>?_⟩
 obtain ⟨u1,us1,r1,⟨u2,us2,r2,ha,rfl⟩,rfl⟩:=ha
 obtain ⟨m,r2⟩:=asSl_rel hS r2
 obtain ⟨g1,g2,g3⟩:=good_seq hg hk' hxs
 refine ⟨powA x off n m,seqH xs,h off n m xs x g1 (Nat.le_of_ble_eq_true hc.1) (Nat.le_of_ble_eq_true hc.2.1),by kernel_rfl,⟨u1,_,?_,⟨u2,us2,sl_in (by omega) rfl r2,ha,rfl⟩,rfl⟩,g2,g3⟩
 obtain ⟨l,q,rfl⟩:=r1;exact ⟨l,num_any hx q,rfl⟩
noncomputable def SB:List (FuncId×ASpec):=(142,nilSpec (bySp fun n l=>fbA n (natB l)))::(144,nilSpec powSp)::SZ
theorem SBok:SpecsOk Tryz.prog SB:=⟨nilSpec_ok (bySp_ok Tryz.func142 (by kernel_rfl) (by kernel_rfl) (fun _ _=>rfl) (fun _ _ _ _ _ hl hn=>fb_can hl hn)),nilSpec_ok (powSp_ok Tryz.func144 (by kernel_rfl) (by kernel_rfl) fun _ _ _ _ x hx hl hn=>pow_can hx hl hn x),SZok⟩
end Go.Proofs.YtjlcdlekmpjjnaaGreat
/- Runs as contracts; arguments of a law, one by one. -/
namespace Go.Proofs.YtjlcdlekmpjjnaaGreat
open Ex Num
set_option maxRecDepth 100000
set_option maxHeartbeats 4000000
def tt:Nat→List (Bool×Bool)→List (Bool×Bool)
 | 0,r=>r
 | n+1,r=>(true,true)::tt n r
theorem tt_ok:∀ (n:Nat) {r:List (Bool×Bool)},okConds r→okConds (tt n r)
 | 0,_,h=>h
 | n+1,_,h=>⟨rfl,tt_ok n h⟩
theorem can_run {S:List (FuncId×ASpec)} {K:List (TypeId×List (Option IntKind))} (hS:SpecsOk Tryz.prog S) (hK:KindsOk Tryz.prog K) {f:FuncId} {fn:Func} (hfn:Tryz.prog.funcs[f]? = some fn) (hb:fn.body.isSome=true) {args:List AV} {H H1:Heap} {fuel k0:Nat} {ks:List Nat} {path:List Bool} {conds:List (Bool×Bool)} {v:AV}
  (hlen:Nat.ble (alen args) fn.ntmps=true) (h:segOut Tryz.prog (orc S K) fn fuel k0 ks (entry fn args H k0 path)=some (conds,[],v,H1)) (hw:wfB fn.ntmps (entry fn args H k0 path).s=true) (hc:okConds conds):CanOk Tryz.prog f args H k0 [] v H1 :=
 can_entry (path:=path) hfn hb hlen fun _ _ h0=>out_safe (orc_ok hS hK) mixed hfn h hc (wfB_ok hw) h0 (fun _ h=>by cases h)
section
variable {H:Type} {enc:TypeId×Value→H} {W:World} {base:Nat} {v:Value} {d:DataW H} {p:List MemPlace}
theorem under_bytes:Tryz.prog.underlying 28=some (.slice 5):=by kernel_rfl
theorem under_u8:Tryz.prog.underlying 5=some (.int .u8):=by kernel_rfl
theorem cells_u8:Tryz.prog.cellsOf 5=1:=by kernel_rfl
theorem len_has {n:Nat} (h:n≤maxLen):hasB .i64 (n:Int)=true:=by
 unfold maxLen at h
 simp only [hasB,Bool.and_eq_true,decide_eq_true_eq];omega
theorem bytes_arg (hv:Value.okWide Tryz.prog W .any base 28 v) (ht:DataW.Trod enc Tryz.prog W 0 (fun _=>true) true 28 v d p) {ls:List Ex.Loc} {bs:List Blk} (ho:ArgsOk W ls bs) :
  ∃ (L:Ex.Loc) (zs:List Int) (n m:Nat),(∀ x∈zs,0≤x∧x<256)∧n≤zs.length∧hasB .i64 (n:Int)=true∧relA (locEnv (ls++[L])) (slA ls.length 0 n m) v∧ArgsOk W (ls++[L]) (bs++[roB [.seq .u8 zs]]):=by
 obtain ⟨L,zs,n,m,h1,h2,h3,h4,h5⟩:=ints_arg under_bytes under_u8 cells_u8 hv ht
 exact ⟨L,zs,n,m,fun x hx=>u8_bounds (h1 x hx),h2,len_has h3,(h5 ls).1,ho.snoc (h5 ls).2 rfl h4⟩
end
end Go.Proofs.YtjlcdlekmpjjnaaGreat
/- sigilref05: the contracts. -/
namespace Go.Proofs.YtjlcdlekmpjjnaaGreat
open Ex Num
set_option maxRecDepth 100000
set_option maxHeartbeats 4000000
noncomputable def SC:List (FuncId×ASpec):=SB
theorem SCok:SpecsOk Tryz.prog SC:=SBok
noncomputable def SD:List (FuncId×ASpec):=SC
theorem SDok:SpecsOk Tryz.prog SD:=SCok
noncomputable def SE:List (FuncId×ASpec):=SD
theorem SEok:SpecsOk Tryz.prog SE:=SDok
end Go.Proofs.YtjlcdlekmpjjnaaGreat
/- Commutative rings, and their identities by polynomials, for the kernel. -/
namespace Go.Proofs.YtjlcdlekmpjjnaaGreat.Rg
class CR (F:Type) extends Add F,Mul F,Neg F,Sub F,Zero F,One F where
 add_assoc:∀ a b c:F,(a+b)+c=a+(b+c)
 add_comm:∀ a b:F,a+b=b+a
 zero_add:∀ a:F,0+a=a
 neg_add:∀ a:F,-a+a=0
 mul_assoc:∀ a b c:F,(a*b)*c=a*(b*c)
 mul_comm:∀ a b:F,a*b=b*a
 one_mul:∀ a:F,1*a=a
 add_mul:∀ a b c:F,(a+b)*c=a*c+b*c
 sub_eq:∀ a b:F,a-b=a+-b
section
variable {F:Type} [CR F]
theorem add_assoc (a b c:F):(a+b)+c=a+(b+c):=CR.add_assoc a b c
theorem add_comm (a b:F):a+b=b+a:=CR.add_comm a b
theorem mul_assoc (a b c:F):(a*b)*c=a*(b*c):=CR.mul_assoc a b c
theorem mul_comm (a b:F):a*b=b*a:=CR.mul_comm a b
theorem zero_add (a:F):0+a=a:=CR.zero_add a
theorem add_zero (a:F):a+0=a:=by rw [add_comm,zero_add]
theorem neg_add (a:F):-a+a=0:=CR.neg_add a
theorem add_neg (a:F):a+-a=0:=by rw [add_comm,neg_add]
theorem one_mul (a:F):1*a=a:=CR.one_mul a
theorem mul_one (a:F):a*1=a:=by rw [mul_comm,one_mul]
theorem add_mul (a b c:F):(a+b)*c=a*c+b*c:=CR.add_mul a b c
theorem mul_add (a b c:F):a*(b+c)=a*b+a*c:=by rw [mul_comm,add_mul,mul_comm b,mul_comm c]
theorem sub_eq (a b:F):a-b=a+-b:=CR.sub_eq a b
theorem add_left_cancel {a b c:F} (h:a+b=a+c):b=c:=by
 have:=congrArg (fun z=>-a+z) h
 simpa [← add_assoc,neg_add,zero_add] using this
theorem zero_mul (a:F):0*a=0:=by
 have h:0*a+0*a=0*a+0:=by rw [← add_mul,zero_add,add_zero]
 exact add_left_cancel h
theorem mul_zero (a:F):a*0=0:=by rw [mul_comm,zero_mul]
theorem neg_unique {a b:F} (h:a+b=0):b=-a:=add_left_cancel (a:=a) (by rw [h,add_neg])
theorem neg_mul (a b:F):-a*b=-(a*b):=neg_unique (by rw [← add_mul,add_neg,zero_mul])
theorem neg_neg (a:F):-(-a)=a:=(neg_unique (neg_add a)).symm
theorem neg_zero:-(0:F)=0:=(neg_unique (zero_add 0)).symm
theorem neg_add_rev (a b:F):-(a+b)=-a+-b:=(neg_unique (by
 rw [add_comm a b,add_assoc,← add_assoc a,add_neg,zero_add,add_neg])).symm
theorem sub_self (a:F):a-a=0:=by rw [sub_eq,add_neg]
theorem sub_zero_iff {a b:F}:a-b=0↔a=b:=by
 constructor
 ·intro h
  rw [sub_eq] at h
  have:=neg_unique ((add_comm _ _).trans h)
  rw [this,neg_neg]
 ·rintro rfl;exact sub_self a
theorem add_left_comm (a b c:F):a+(b+c)=b+(a+c):=by rw [← add_assoc,add_comm a b,add_assoc]
theorem mul_left_comm (a b c:F):a*(b*c)=b*(a*c):=by rw [← mul_assoc,mul_comm a b,mul_assoc]
def nat:Nat→F
 | 0=>0
 | n+1=>nat n+1
theorem nat_add (a b:Nat):(nat (a+b):F)=nat a+nat b:=by
 induction b with
 | zero=>simp [nat,add_zero]
 | succ b ih=>rw [← Nat.add_assoc];simp only [nat];rw [ih,add_assoc]
theorem nat_mul (a b:Nat):(nat (a*b):F)=nat a*nat b:=by
 induction b with
 | zero=>simp [nat,mul_zero]
 | succ b ih=>rw [Nat.mul_succ,nat_add,ih];simp only [nat];rw [mul_add,mul_one]
def int:Int→F
 | .ofNat n=>nat n
 | .negSucc n=>-(nat (n+1))
theorem int_sub_nat (a b:Nat):(int ((a:Int)-b):F)=nat a+-nat b:=by
 rcases Nat.le_total b a with h | h
 ·obtain ⟨c,rfl⟩:=Nat.exists_eq_add_of_le h
  rw [show ((b+c:Nat):Int)-b=(c:Int) by omega,nat_add,add_comm (nat b) (nat c),add_assoc,add_neg,add_zero];rfl
 ·obtain ⟨c,rfl⟩:=Nat.exists_eq_add_of_le h
  cases c with
  | zero=>rw [Nat.add_zero,add_neg,show (a:Int)-(a:Nat)=0 by omega];rfl
  | succ c =>
   rw [show (a:Int)-((a+(c+1):Nat):Int)=Int.negSucc c by omega,nat_add,neg_add_rev,← add_assoc,add_neg,zero_add];rfl
theorem int_cases (i:Int):∃ a b:Nat,i=(a:Int)-b:=by
 cases i with
 | ofNat n=>exact ⟨n,0,by simp⟩
 | negSucc n=>exact ⟨0,n+1,by omega⟩
theorem int_add (i j:Int):(int (i+j):F)=int i+int j:=by
 obtain ⟨a,b,rfl⟩:=int_cases i
 obtain ⟨c,d,rfl⟩:=int_cases j
 rw [show (a:Int)-b+(c-d)=((a+c:Nat):Int)-(b+d:Nat) by omega,int_sub_nat,int_sub_nat,int_sub_nat,nat_add,nat_add,neg_add_rev]
 rw [add_assoc,add_assoc];congr 1
 rw [← add_assoc,← add_assoc];congr 1
 exact add_comm _ _
theorem mul_neg (a b:F):a*-b=-(a*b):=by rw [mul_comm,neg_mul,mul_comm]
theorem int_mul (i j:Int):(int (i*j):F)=int i*int j:=by
 obtain ⟨a,b,rfl⟩:=int_cases i
 obtain ⟨c,d,rfl⟩:=int_cases j
 rw [show ((a:Int)-b)*(c-d)=((a*c+b*d:Nat):Int)-(a*d+b*c:Nat) by
  rw [Int.natCast_add,Int.natCast_add,Int.natCast_mul,Int.natCast_mul,Int.natCast_mul,Int.natCast_mul,Int.sub_mul,Int.mul_sub,Int.mul_sub];omega]
 rw [int_sub_nat,int_sub_nat,int_sub_nat,nat_add,nat_add,nat_mul,nat_mul,nat_mul,nat_mul]
 rw [add_mul,mul_add,mul_add,neg_mul,mul_neg,neg_mul,mul_neg,neg_neg,neg_add_rev]
 rw [add_assoc,add_assoc];congr 1
 rw [add_comm (nat b*nat d),add_assoc]
theorem int_neg (i:Int):(int (-i):F)=-int i:=by
 refine neg_unique ?_
 rw [← int_add,Int.add_right_neg];rfl
theorem int_zero:(int 0:F)=0:=rfl
theorem int_one:(int 1:F)=1:=by show nat 0+1=_;exact zero_add 1
def pw (x:F):Nat→F
 | 0=>1
 | n+1=>pw x n*x
theorem pw_add (x:F) (a b:Nat):pw x (a+b)=pw x a*pw x b:=by
 induction b with
 | zero=>simp [pw,mul_one]
 | succ b ih=>rw [← Nat.add_assoc];simp only [pw];rw [ih,mul_assoc]
end
abbrev Mon:=List Nat
abbrev Pol:=List (Mon×Int)
def madd:Mon→Mon→Mon
 | [],b=>b
 | a::ar,b=>match b with
  | []=>a::ar
  | c::bs=>(a+c)::madd ar bs
def mcmp:Mon→Mon→Nat
 | [],b=>match b with
  | []=>0
  | _::_=>2
 | a::ar,b=>match b with
  | []=>1
  | c::bs=>match Nat.beq a c with
   | true=>mcmp ar bs
   | false=>match Nat.ble a c with
    | true=>2
    | false=>1
theorem mcmp_eq:∀ {a b:Mon},mcmp a b=0→a=b
 | [],[],_=>rfl
 | [],_::_,h=>by cases h
 | _::_,[],h=>by cases h
 | a::ar,c::bs,h=>by
  simp only [mcmp] at h
  cases hb:Nat.beq a c with
  | true=>rw [hb] at h;rw [Nat.eq_of_beq_eq_true hb,mcmp_eq h]
  | false =>
   rw [hb] at h
   cases hl:Nat.ble a c<;>rw [hl] at h<;>cases h
def cons0 (m:Mon) (c:Int) (p:Pol):Pol:=match c with
 | .ofNat 0=>p
 | _=>(m,c)::p
def padd:Nat→Pol→Pol→Pol
 | 0,p,q=>p++q
 | n+1,p,q=>match p with
  | []=>q
  | (a,c)::p'=>match q with
   | []=>p
   | (b,d)::q'=>match mcmp a b with
    | 0=>cons0 a (c+d) (padd n p' q')
    | 1=>(a,c)::padd n p' q
    | _=>(b,d)::padd n p q'
def len:Pol→Nat
 | []=>0
 | _::r=>len r+1
def plus (p q:Pol):Pol:=padd (len p+len q) p q
def pscale (m:Mon) (c:Int):Pol→Pol
 | []=>[]
 | (a,d)::r=>(madd m a,c*d)::pscale m c r
def pmul:Pol→Pol→Pol
 | [],_=>[]
 | (a,c)::r,q=>plus (pscale a c q) (pmul r q)
def pneg:Pol→Pol
 | []=>[]
 | (a,c)::r=>(a,-c)::pneg r
section
variable {F:Type} [CR F]
def mden:List F→Mon→F
 | [],_=>1
 | x::xs,m=>match m with
  | []=>1
  | e::es=>pw x e*mden xs es
def pden (xs:List F):Pol→F
 | []=>0
 | (m,c)::r=>int c*mden xs m+pden xs r
theorem mden_nil (xs:List F):mden xs []=1:=by cases xs<;>rfl
theorem mden_add:∀ (xs:List F) (a b:Mon),mden xs (madd a b)=mden xs a*mden xs b
 | [],a,b=>by simp [mden,one_mul]
 | x::xs,[],b=>by simp [madd,mden_nil,one_mul]
 | x::xs,a::ar,[]=>by simp [madd,mden_nil,mul_one]
 | x::xs,a::ar,c::bs=>by
  simp only [madd,mden]
  rw [pw_add,mden_add xs ar bs,mul_assoc,mul_assoc];congr 1;rw [mul_left_comm]
theorem pden_cons0 (xs:List F) (m:Mon) (c:Int) (p:Pol):pden xs (cons0 m c p)=int c*mden xs m+pden xs p:=by
 unfold cons0
 split
 ·show _=int 0*_+_
  rw [int_zero,zero_mul,zero_add]
 ·rfl
theorem pden_append (xs:List F):∀ p q:Pol,pden xs (p++q)=pden xs p+pden xs q
 | [],q=>by simp [pden,zero_add]
 | (m,c)::p,q=>by simp only [List.cons_append,pden];rw [pden_append xs p q,add_assoc]
theorem pden_padd (xs:List F):∀ (n:Nat) (p q:Pol),pden xs (padd n p q)=pden xs p+pden xs q
 | 0,p,q=>pden_append xs p q
 | n+1,[],q=>by simp [padd,pden,zero_add]
 | n+1,(a,c)::p',[]=>by simp [padd,pden,add_zero]
 | n+1,(a,c)::p',(b,d)::q'=>by
  simp only [padd]
  split
  ·rename_i h
   rw [pden_cons0,pden_padd xs n p' q',mcmp_eq h]
   simp only [pden]
   rw [int_add,add_mul,add_assoc,add_assoc];congr 1
   rw [add_left_comm]
  ·simp only [pden];rw [pden_padd xs n p' _];simp only [pden];rw [add_assoc]
  ·simp only [pden];rw [pden_padd xs n _ q'];simp only [pden];rw [add_left_comm]
theorem pden_plus (xs:List F) (p q:Pol):pden xs (plus p q)=pden xs p+pden xs q:=pden_padd xs _ p q
theorem pden_scale (xs:List F) (m:Mon) (c:Int):∀ p:Pol,pden xs (pscale m c p)=int c*mden xs m*pden xs p
 | []=>by simp [pscale,pden,mul_zero]
 | (a,d)::r=>by
  simp only [pscale,pden]
  rw [pden_scale xs m c r,mden_add,int_mul,mul_add];congr 1
  rw [mul_assoc,mul_assoc];congr 1;rw [mul_left_comm]
theorem pden_mul (xs:List F):∀ p q:Pol,pden xs (pmul p q)=pden xs p*pden xs q
 | [],q=>by simp [pmul,pden,zero_mul]
 | (a,c)::r,q=>by simp only [pmul,pden];rw [pden_plus,pden_scale,pden_mul xs r q,add_mul]
theorem pden_neg (xs:List F):∀ p:Pol,pden xs (pneg p)=- pden xs p
 | []=>by simp [pneg,pden,neg_zero]
 | (a,c)::r=>by simp only [pneg,pden];rw [pden_neg xs r,int_neg,neg_mul,neg_add_rev]
end
inductive E where
 | v (i:Nat)
 | c (k:Int)
 | add (a b:E)
 | sub (a b:E)
 | mul (a b:E)
 | neg (a:E)
 | pw (a:E) (n:Nat)
def unit:Nat→Mon
 | 0=>[1]
 | i+1=>0::unit i
def ppow (p:Pol):Nat→Pol
 | 0=>[([],1)]
 | n+1=>pmul (ppow p n) p
def E.pol:E→Pol
 | .v i=>[(unit i,1)]
 | .c k=>cons0 [] k []
 | .add a b=>plus a.pol b.pol
 | .sub a b=>plus a.pol (pneg b.pol)
 | .mul a b=>pmul a.pol b.pol
 | .neg a=>pneg a.pol
 | .pw a n=>ppow a.pol n
def nth {F:Type} [One F]:List F→Nat→F
 | [],_=>1
 | x::_,0=>x
 | _::xs,i+1=>nth xs i
section
variable {F:Type} [CR F]
def E.den (xs:List F):E→F
 | .v i=>nth xs i
 | .c k=>int k
 | .add a b=>a.den xs+b.den xs
 | .sub a b=>a.den xs-b.den xs
 | .mul a b=>a.den xs*b.den xs
 | .neg a=>- a.den xs
 | .pw a n=>Rg.pw (a.den xs) n
theorem mden_unit:∀ (xs:List F) (i:Nat),mden xs (unit i)=nth xs i
 | [],i=>by simp [mden,nth]
 | x::xs,0=>by simp [unit,mden,mden_nil,nth,Rg.pw,one_mul,mul_one]
 | x::xs,i+1=>by simp only [unit,mden,nth,Rg.pw];rw [one_mul,mden_unit xs i]
theorem pden_pow (xs:List F) (p:Pol) (n:Nat):pden xs (ppow p n)=Rg.pw (pden xs p) n:=by
 induction n with
 | zero=>simp [ppow,pden,Rg.pw,mden_nil,int_one,mul_one,add_zero]
 | succ n ih=>simp only [ppow,Rg.pw];rw [pden_mul,ih]
theorem E.pol_den (xs:List F):∀ e:E,pden xs e.pol=e.den xs
 | .v i=>by simp only [E.pol,pden,E.den];rw [mden_unit,int_one,one_mul,add_zero]
 | .c k=>by simp only [E.pol,E.den];rw [pden_cons0];simp [pden,mden_nil,mul_one,add_zero]
 | .add a b=>by simp only [E.pol,E.den];rw [pden_plus,a.pol_den xs,b.pol_den xs]
 | .sub a b=>by simp only [E.pol,E.den];rw [pden_plus,pden_neg,a.pol_den xs,b.pol_den xs,sub_eq]
 | .mul a b=>by simp only [E.pol,E.den];rw [pden_mul,a.pol_den xs,b.pol_den xs]
 | .neg a=>by simp only [E.pol,E.den];rw [pden_neg,a.pol_den xs]
 | .pw a n=>by simp only [E.pol,E.den];rw [pden_pow,a.pol_den xs]
def comb:List (E×E)→E
 | []=>.c 0
 | (k,r)::l=>.add (.mul k r) (comb l)
def nilP:Pol→Bool
 | []=>true
 | _::_=>false
def zeros (xs:List F):List (E×E)→Prop
 | []=>True
 | (_,r)::l=>r.den xs=0∧zeros xs l
theorem comb_den (xs:List F):∀ l:List (E×E),zeros xs l→(comb l).den xs=0
 | [],_=>rfl
 | (k,r)::l,⟨h1,h2⟩=>by simp only [comb,E.den];rw [h1,mul_zero,comb_den xs l h2,add_zero]
theorem lin (xs:List F) (g:E) (l:List (E×E)) (hz:zeros xs l) (h:nilP (E.pol (.sub g (comb l)))=true):g.den xs=0:=by
 have e:(E.pol (.sub g (comb l)))=[]:=by
  cases hp:E.pol (.sub g (comb l)) with
  | nil=>rfl
  | cons a b=>rw [hp] at h;cases h
 have:=E.pol_den xs (.sub g (comb l))
 rw [e] at this
 simp only [pden,E.den] at this
 rw [comb_den xs l hz] at this
 exact sub_zero_iff.1 this.symm
theorem ident (xs:List F) (a b:E) (h:nilP (E.pol (.sub a b))=true):a.den xs=b.den xs:=by
 have e:(E.pol (.sub a b))=[]:=by
  cases hp:E.pol (.sub a b) with
  | nil=>rfl
  | cons a b=>rw [hp] at h;cases h
 have:=E.pol_den xs (.sub a b)
 rw [e] at this
 exact sub_zero_iff.1 this.symm
end
end Go.Proofs.YtjlcdlekmpjjnaaGreat.Rg
/- Polynomial identities of a curve y*y = x*x*x + b (printed by wip/gen/ec.py). -/
namespace Go.Proofs.YtjlcdlekmpjjnaaGreat.Rg
set_option maxRecDepth 100000
set_option maxHeartbeats 4000000
theorem ln_e2 {F:Type} [CR F] (x1 y1 x2 y2 l b:F) (hl:(l*(x2-x1))=(y2-y1)) (c1:(y1*y1)=(((x1*x1)*x1)+b)) (c2:(y2*y2)=(((x2*x2)*x2)+b)):((x2-x1)*((((x1*x2)+(x1*(((l*l)-x1)-x2)))+(x2*(((l*l)-x1)-x2)))+((l*(y1-(l*x1)))+(l*(y1-(l*x1))))))=0 :=
 sub_zero_iff.1 (lin [x1,y1,x2,y2,l,b] (.sub (.mul (.sub (.v 2) (.v 0)) (.add (.add (.add (.mul (.v 0) (.v 2)) (.mul (.v 0) (.sub (.sub (.mul (.v 4) (.v 4)) (.v 0)) (.v 2)))) (.mul (.v 2) (.sub (.sub (.mul (.v 4) (.v 4)) (.v 0)) (.v 2)))) (.add (.mul (.v 4) (.sub (.v 1) (.mul (.v 4) (.v 0)))) (.mul (.v 4) (.sub (.v 1) (.mul (.v 4) (.v 0))))))) (.c 0)) [((.add (.add (.neg (.mul (.v 0) (.v 4))) (.v 1)) (.add (.mul (.v 2) (.v 4)) (.v 3))),.sub (.mul (.v 4) (.sub (.v 2) (.v 0))) (.sub (.v 3) (.v 1))),
  ((.c (-1)),.sub (.mul (.v 1) (.v 1)) (.add (.mul (.mul (.v 0) (.v 0)) (.v 0)) (.v 5))),
  ((.c 1),.sub (.mul (.v 3) (.v 3)) (.add (.mul (.mul (.v 2) (.v 2)) (.v 2)) (.v 5)))] ⟨sub_zero_iff.2 hl,sub_zero_iff.2 c1,sub_zero_iff.2 c2,trivial⟩ (by kernel_rfl))
theorem ln_e2t {F:Type} [CR F] (x y l:F) (hl:((y+y)*l)=(((x*x)+(x*x))+(x*x))):((((x*x)+(x*(((l*l)-x)-x)))+(x*(((l*l)-x)-x)))+((l*(y-(l*x)))+(l*(y-(l*x)))))=0 :=
 sub_zero_iff.1 (lin [x,y,l] (.sub (.add (.add (.add (.mul (.v 0) (.v 0)) (.mul (.v 0) (.sub (.sub (.mul (.v 2) (.v 2)) (.v 0)) (.v 0)))) (.mul (.v 0) (.sub (.sub (.mul (.v 2) (.v 2)) (.v 0)) (.v 0)))) (.add (.mul (.v 2) (.sub (.v 1) (.mul (.v 2) (.v 0)))) (.mul (.v 2) (.sub (.v 1) (.mul (.v 2) (.v 0)))))) (.c 0)) [((.c 1),.sub (.mul (.add (.v 1) (.v 1)) (.v 2)) (.add (.add (.mul (.v 0) (.v 0)) (.mul (.v 0) (.v 0))) (.mul (.v 0) (.v 0))))] ⟨sub_zero_iff.2 hl,trivial⟩ (by kernel_rfl))
theorem ln_e3 {F:Type} [CR F] (x1 y1 x2 l b:F) (e2:((((x1*x2)+(x1*(((l*l)-x1)-x2)))+(x2*(((l*l)-x1)-x2)))+((l*(y1-(l*x1)))+(l*(y1-(l*x1)))))=0) (c1:(y1*y1)=(((x1*x1)*x1)+b)):(((x1*x2)*(((l*l)-x1)-x2))+b)=((y1-(l*x1))*(y1-(l*x1))) :=
 sub_zero_iff.1 (lin [x1,y1,x2,l,b] (.sub (.add (.mul (.mul (.v 0) (.v 2)) (.sub (.sub (.mul (.v 3) (.v 3)) (.v 0)) (.v 2))) (.v 4)) (.mul (.sub (.v 1) (.mul (.v 3) (.v 0))) (.sub (.v 1) (.mul (.v 3) (.v 0))))) [((.v 0),.sub (.add (.add (.add (.mul (.v 0) (.v 2)) (.mul (.v 0) (.sub (.sub (.mul (.v 3) (.v 3)) (.v 0)) (.v 2)))) (.mul (.v 2) (.sub (.sub (.mul (.v 3) (.v 3)) (.v 0)) (.v 2)))) (.add (.mul (.v 3) (.sub (.v 1) (.mul (.v 3) (.v 0)))) (.mul (.v 3) (.sub (.v 1) (.mul (.v 3) (.v 0)))))) (.c 0)),
  ((.c (-1)),.sub (.mul (.v 1) (.v 1)) (.add (.mul (.mul (.v 0) (.v 0)) (.v 0)) (.v 4)))] ⟨sub_zero_iff.2 e2,sub_zero_iff.2 c1,trivial⟩ (by kernel_rfl))
theorem ln_on {F:Type} [CR F] (x1 y1 x2 x3 l n b:F) (h1:y1=((l*x1)+n)) (e1:((x1+x2)+x3)=(l*l)) (e2:((((x1*x2)+(x1*x3))+(x2*x3))+((l*n)+(l*n)))=0) (e3:(((x1*x2)*x3)+b)=(n*n)):(y1*y1)=(((x1*x1)*x1)+b) :=
 sub_zero_iff.1 (lin [x1,y1,x2,x3,l,n,b] (.sub (.mul (.v 1) (.v 1)) (.add (.mul (.mul (.v 0) (.v 0)) (.v 0)) (.v 6))) [((.add (.mul (.v 0) (.v 4)) (.add (.v 1) (.v 5))),.sub (.v 1) (.add (.mul (.v 4) (.v 0)) (.v 5))),
  ((.neg (.pw (.v 0) 2)),.sub (.add (.add (.v 0) (.v 2)) (.v 3)) (.mul (.v 4) (.v 4))),
  ((.v 0),.sub (.add (.add (.add (.mul (.v 0) (.v 2)) (.mul (.v 0) (.v 3))) (.mul (.v 2) (.v 3))) (.add (.mul (.v 4) (.v 5)) (.mul (.v 4) (.v 5)))) (.c 0)),
  ((.c (-1)),.sub (.add (.mul (.mul (.v 0) (.v 2)) (.v 3)) (.v 6)) (.mul (.v 5) (.v 5)))] ⟨sub_zero_iff.2 h1,sub_zero_iff.2 e1,sub_zero_iff.2 e2,sub_zero_iff.2 e3,trivial⟩ (by kernel_rfl))
theorem ln_tan {F:Type} [CR F] (x1 y1 x3 l n:F) (h1:y1=((l*x1)+n)) (e1:((x1+x1)+x3)=(l*l)) (e2:((((x1*x1)+(x1*x3))+(x1*x3))+((l*n)+(l*n)))=0):((y1+y1)*l)=(((x1*x1)+(x1*x1))+(x1*x1)) :=
 sub_zero_iff.1 (lin [x1,y1,x3,l,n] (.sub (.mul (.add (.v 1) (.v 1)) (.v 3)) (.add (.add (.mul (.v 0) (.v 0)) (.mul (.v 0) (.v 0))) (.mul (.v 0) (.v 0)))) [((.mul (.c 2) (.v 3)),.sub (.v 1) (.add (.mul (.v 3) (.v 0)) (.v 4))),
  ((.mul (.c (-2)) (.v 0)),.sub (.add (.add (.v 0) (.v 0)) (.v 2)) (.mul (.v 3) (.v 3))),
  ((.c 1),.sub (.add (.add (.add (.mul (.v 0) (.v 0)) (.mul (.v 0) (.v 2))) (.mul (.v 0) (.v 2))) (.add (.mul (.v 3) (.v 4)) (.mul (.v 3) (.v 4)))) (.c 0))] ⟨sub_zero_iff.2 h1,sub_zero_iff.2 e1,sub_zero_iff.2 e2,trivial⟩ (by kernel_rfl))
theorem ln_y3 {F:Type} [CR F] (x1 y1 x3 y3 l n:F) (h1:y1=((l*x1)+n)) (h3:y3=((l*x3)+n)):((l*(x1-x3))-y1)=(-y3) :=
 sub_zero_iff.1 (lin [x1,y1,x3,y3,l,n] (.sub (.sub (.mul (.v 4) (.sub (.v 0) (.v 2))) (.v 1)) (.neg (.v 3))) [((.c (-1)),.sub (.v 1) (.add (.mul (.v 4) (.v 0)) (.v 5))),
  ((.c 1),.sub (.v 3) (.add (.mul (.v 4) (.v 2)) (.v 5)))] ⟨sub_zero_iff.2 h1,sub_zero_iff.2 h3,trivial⟩ (by kernel_rfl))
theorem ln_x3 {F:Type} [CR F] (x1 x2 x3 l:F) (e1:((x1+x2)+x3)=(l*l)):(((l*l)-x1)-x2)=x3 :=
 sub_zero_iff.1 (lin [x1,x2,x3,l] (.sub (.sub (.sub (.mul (.v 3) (.v 3)) (.v 0)) (.v 1)) (.v 2)) [((.c (-1)),.sub (.add (.add (.v 0) (.v 1)) (.v 2)) (.mul (.v 3) (.v 3)))] ⟨sub_zero_iff.2 e1,trivial⟩ (by kernel_rfl))
theorem ln_sl {F:Type} [CR F] (x1 y1 x2 y2 l n:F) (h1:y1=((l*x1)+n)) (h2:y2=((l*x2)+n)):((x2-x1)*l)=(y2-y1) :=
 sub_zero_iff.1 (lin [x1,y1,x2,y2,l,n] (.sub (.mul (.sub (.v 2) (.v 0)) (.v 4)) (.sub (.v 3) (.v 1))) [((.c 1),.sub (.v 1) (.add (.mul (.v 4) (.v 0)) (.v 5))),
  ((.c (-1)),.sub (.v 3) (.add (.mul (.v 4) (.v 2)) (.v 5)))] ⟨sub_zero_iff.2 h1,sub_zero_iff.2 h2,trivial⟩ (by kernel_rfl))
theorem e1_sw {F:Type} [CR F] (x1 x2 x3 k:F) (e:((x1+x2)+x3)=k):((x2+x1)+x3)=k :=
 sub_zero_iff.1 (lin [x1,x2,x3,k] (.sub (.add (.add (.v 1) (.v 0)) (.v 2)) (.v 3)) [((.c 1),.sub (.add (.add (.v 0) (.v 1)) (.v 2)) (.v 3))] ⟨sub_zero_iff.2 e,trivial⟩ (by kernel_rfl))
theorem e1_ro {F:Type} [CR F] (x1 x2 x3 k:F) (e:((x1+x2)+x3)=k):((x2+x3)+x1)=k :=
 sub_zero_iff.1 (lin [x1,x2,x3,k] (.sub (.add (.add (.v 1) (.v 2)) (.v 0)) (.v 3)) [((.c 1),.sub (.add (.add (.v 0) (.v 1)) (.v 2)) (.v 3))] ⟨sub_zero_iff.2 e,trivial⟩ (by kernel_rfl))
theorem e2_sw {F:Type} [CR F] (x1 x2 x3 k:F) (e:((((x1*x2)+(x1*x3))+(x2*x3))+k)=0):((((x2*x1)+(x2*x3))+(x1*x3))+k)=0 :=
 sub_zero_iff.1 (lin [x1,x2,x3,k] (.sub (.add (.add (.add (.mul (.v 1) (.v 0)) (.mul (.v 1) (.v 2))) (.mul (.v 0) (.v 2))) (.v 3)) (.c 0)) [((.c 1),.sub (.add (.add (.add (.mul (.v 0) (.v 1)) (.mul (.v 0) (.v 2))) (.mul (.v 1) (.v 2))) (.v 3)) (.c 0))] ⟨sub_zero_iff.2 e,trivial⟩ (by kernel_rfl))
theorem e2_ro {F:Type} [CR F] (x1 x2 x3 k:F) (e:((((x1*x2)+(x1*x3))+(x2*x3))+k)=0):((((x2*x3)+(x2*x1))+(x3*x1))+k)=0 :=
 sub_zero_iff.1 (lin [x1,x2,x3,k] (.sub (.add (.add (.add (.mul (.v 1) (.v 2)) (.mul (.v 1) (.v 0))) (.mul (.v 2) (.v 0))) (.v 3)) (.c 0)) [((.c 1),.sub (.add (.add (.add (.mul (.v 0) (.v 1)) (.mul (.v 0) (.v 2))) (.mul (.v 1) (.v 2))) (.v 3)) (.c 0))] ⟨sub_zero_iff.2 e,trivial⟩ (by kernel_rfl))
theorem e3_sw {F:Type} [CR F] (x1 x2 x3 b k:F) (e:(((x1*x2)*x3)+b)=k):(((x2*x1)*x3)+b)=k :=
 sub_zero_iff.1 (lin [x1,x2,x3,b,k] (.sub (.add (.mul (.mul (.v 1) (.v 0)) (.v 2)) (.v 3)) (.v 4)) [((.c 1),.sub (.add (.mul (.mul (.v 0) (.v 1)) (.v 2)) (.v 3)) (.v 4))] ⟨sub_zero_iff.2 e,trivial⟩ (by kernel_rfl))
theorem e3_ro {F:Type} [CR F] (x1 x2 x3 b k:F) (e:(((x1*x2)*x3)+b)=k):(((x2*x3)*x1)+b)=k :=
 sub_zero_iff.1 (lin [x1,x2,x3,b,k] (.sub (.add (.mul (.mul (.v 1) (.v 2)) (.v 0)) (.v 3)) (.v 4)) [((.c 1),.sub (.add (.mul (.mul (.v 0) (.v 1)) (.v 2)) (.v 3)) (.v 4))] ⟨sub_zero_iff.2 e,trivial⟩ (by kernel_rfl))
theorem neg_line {F:Type} [CR F] (x y l n:F) (h:y=((l*x)+n)):(-y)=(((-l)*x)+(-n)) :=
 sub_zero_iff.1 (lin [x,y,l,n] (.sub (.neg (.v 1)) (.add (.mul (.neg (.v 2)) (.v 0)) (.neg (.v 3)))) [((.c (-1)),.sub (.v 1) (.add (.mul (.v 2) (.v 0)) (.v 3)))] ⟨sub_zero_iff.2 h,trivial⟩ (by kernel_rfl))
theorem neg_sq {F:Type} [CR F] (l:F) :((-l)*(-l))=(l*l) :=
 sub_zero_iff.1 (lin [l] (.sub (.mul (.neg (.v 0)) (.neg (.v 0))) (.mul (.v 0) (.v 0))) [] trivial (by kernel_rfl))
theorem neg_pr {F:Type} [CR F] (l n:F) :(((-l)*(-n))+((-l)*(-n)))=((l*n)+(l*n)) :=
 sub_zero_iff.1 (lin [l,n] (.sub (.add (.mul (.neg (.v 0)) (.neg (.v 1))) (.mul (.neg (.v 0)) (.neg (.v 1)))) (.add (.mul (.v 0) (.v 1)) (.mul (.v 0) (.v 1)))) [] trivial (by kernel_rfl))
theorem sq_diff {F:Type} [CR F] (y1 y2 k:F) (h1:(y1*y1)=k) (h2:(y2*y2)=k):((y1-y2)*(y1+y2))=0 :=
 sub_zero_iff.1 (lin [y1,y2,k] (.sub (.mul (.sub (.v 0) (.v 1)) (.add (.v 0) (.v 1))) (.c 0)) [((.c 1),.sub (.mul (.v 0) (.v 0)) (.v 2)),
  ((.c (-1)),.sub (.mul (.v 1) (.v 1)) (.v 2))] ⟨sub_zero_iff.2 h1,sub_zero_iff.2 h2,trivial⟩ (by kernel_rfl))
theorem lin_same {F:Type} [CR F] (x y1 y2 l n:F) (h1:y1=((l*x)+n)) (h2:y2=((l*x)+n)):y1=y2 :=
 sub_zero_iff.1 (lin [x,y1,y2,l,n] (.sub (.v 1) (.v 2)) [((.c 1),.sub (.v 1) (.add (.mul (.v 3) (.v 0)) (.v 4))),
  ((.c (-1)),.sub (.v 2) (.add (.mul (.v 3) (.v 0)) (.v 4)))] ⟨sub_zero_iff.2 h1,sub_zero_iff.2 h2,trivial⟩ (by kernel_rfl))
theorem mid1 {F:Type} [CR F] (x1 x2 y2 x4 l n:F) (h2:y2=((l*x2)+n)) (e1:((x1+x2)+x4)=(l*l)) (e2:((((x1*x2)+(x1*x4))+(x2*x4))+((l*n)+(l*n)))=0):(((l*y2)+(l*y2))+((l*l)*(x1-x2)))=(((x1*x1)+(x1*x2))+(x2*x2)) :=
 sub_zero_iff.1 (lin [x1,x2,y2,x4,l,n] (.sub (.add (.add (.mul (.v 4) (.v 2)) (.mul (.v 4) (.v 2))) (.mul (.mul (.v 4) (.v 4)) (.sub (.v 0) (.v 1)))) (.add (.add (.mul (.v 0) (.v 0)) (.mul (.v 0) (.v 1))) (.mul (.v 1) (.v 1)))) [((.mul (.c 2) (.v 4)),.sub (.v 2) (.add (.mul (.v 4) (.v 1)) (.v 5))),
  ((.add (.neg (.v 0)) (.neg (.v 1))),.sub (.add (.add (.v 0) (.v 1)) (.v 3)) (.mul (.v 4) (.v 4))),
  ((.c 1),.sub (.add (.add (.add (.mul (.v 0) (.v 1)) (.mul (.v 0) (.v 3))) (.mul (.v 1) (.v 3))) (.add (.mul (.v 4) (.v 5)) (.mul (.v 4) (.v 5)))) (.c 0))] ⟨sub_zero_iff.2 h2,sub_zero_iff.2 e1,sub_zero_iff.2 e2,trivial⟩ (by kernel_rfl))
theorem mid2 {F:Type} [CR F] (x2 y2 x3 x5 m q:F) (h2:y2=((m*x2)+q)) (e1:((x2+x3)+x5)=(m*m)) (e2:((((x2*x3)+(x2*x5))+(x3*x5))+((m*q)+(m*q)))=0):(((m*y2)+(m*y2))+((m*m)*(x3-x2)))=(((x3*x3)+(x3*x2))+(x2*x2)) :=
 sub_zero_iff.1 (lin [x2,y2,x3,x5,m,q] (.sub (.add (.add (.mul (.v 4) (.v 1)) (.mul (.v 4) (.v 1))) (.mul (.mul (.v 4) (.v 4)) (.sub (.v 2) (.v 0)))) (.add (.add (.mul (.v 2) (.v 2)) (.mul (.v 2) (.v 0))) (.mul (.v 0) (.v 0)))) [((.mul (.c 2) (.v 4)),.sub (.v 1) (.add (.mul (.v 4) (.v 0)) (.v 5))),
  ((.add (.neg (.v 0)) (.neg (.v 2))),.sub (.add (.add (.v 0) (.v 2)) (.v 3)) (.mul (.v 4) (.v 4))),
  ((.c 1),.sub (.add (.add (.add (.mul (.v 0) (.v 2)) (.mul (.v 0) (.v 3))) (.mul (.v 2) (.v 3))) (.add (.mul (.v 4) (.v 5)) (.mul (.v 4) (.v 5)))) (.c 0))] ⟨sub_zero_iff.2 h2,sub_zero_iff.2 e1,sub_zero_iff.2 e2,trivial⟩ (by kernel_rfl))
theorem genX {F:Type} [CR F] (x1 x2 x3 y2 l m s t:F) (r1:(((l*y2)+(l*y2))+((l*l)*(x1-x2)))=(((x1*x1)+(x1*x2))+(x2*x2))) (r2:(((m*y2)+(m*y2))+((m*m)*(x3-x2)))=(((x3*x3)+(x3*x2))+(x2*x2))) (hs:(s*((((l*l)-x1)-x2)-x3))=(((l*(x2-(((l*l)-x1)-x2)))-y2)-(y2+(m*(x3-x2))))) (ht:(t*((((m*m)-x2)-x3)-x1))=(((m*(x2-(((m*m)-x2)-x3)))-y2)-(y2+(l*(x1-x2))))):(((((((l*l)-x1)-x2)-x3)*((((l*l)-x1)-x2)-x3))*(((((m*m)-x2)-x3)-x1)*((((m*m)-x2)-x3)-x1)))*(((s*s)-(((l*l)-x1)-x2))-x3))=(((((((l*l)-x1)-x2)-x3)*((((l*l)-x1)-x2)-x3))*(((((m*m)-x2)-x3)-x1)*((((m*m)-x2)-x3)-x1)))*(((t*t)-x1)-(((m*m)-x2)-x3))) :=
 sub_zero_iff.1 (lin [x1,x2,x3,y2,l,m,s,t] (.sub (.mul (.mul (.mul (.sub (.sub (.sub (.mul (.v 4) (.v 4)) (.v 0)) (.v 1)) (.v 2)) (.sub (.sub (.sub (.mul (.v 4) (.v 4)) (.v 0)) (.v 1)) (.v 2))) (.mul (.sub (.sub (.sub (.mul (.v 5) (.v 5)) (.v 1)) (.v 2)) (.v 0)) (.sub (.sub (.sub (.mul (.v 5) (.v 5)) (.v 1)) (.v 2)) (.v 0)))) (.sub (.sub (.mul (.v 6) (.v 6)) (.sub (.sub (.mul (.v 4) (.v 4)) (.v 0)) (.v 1))) (.v 2))) (.mul (.mul (.mul (.sub (.sub (.sub (.mul (.v 4) (.v 4)) (.v 0)) (.v 1)) (.v 2)) (.sub (.sub (.sub (.mul (.v 4) (.v 4)) (.v 0)) (.v 1)) (.v 2))) (.mul (.sub (.sub (.sub (.mul (.v 5) (.v 5)) (.v 1)) (.v 2)) (.v 0)) (.sub (.sub (.sub (.mul (.v 5) (.v 5)) (.v 1)) (.v 2)) (.v 0)))) (.sub (.sub (.mul (.v 7) (.v 7)) (.v 0)) (.sub (.sub (.mul (.v 5) (.v 5)) (.v 1)) (.v 2))))) [((.add (.add (.add (.add (.add (.mul (.c (-2)) (.pw (.v 0) 3)) (.mul (.mul (.c (-6)) (.pw (.v 0) 2)) (.v 1))) (.add (.mul (.mul (.c (-6)) (.pw (.v 0) 2)) (.v 2)) (.add (.mul (.mul (.c 3) (.pw (.v 0) 2)) (.pw (.v 4) 2)) (.mul (.mul (.c 3) (.pw (.v 0) 2)) (.pw (.v 5) 2))))) (.add (.add (.mul (.mul (.c (-4)) (.v 0)) (.pw (.v 1) 2)) (.add (.mul (.mul (.mul (.c (-10)) (.v 0)) (.v 1)) (.v 2)) (.mul (.mul (.mul (.c 3) (.v 0)) (.v 1)) (.pw (.v 4) 2)))) (.add (.mul (.mul (.mul (.mul (.c (-6)) (.v 0)) (.v 1)) (.v 4)) (.v 5)) (.add (.mul (.mul (.mul (.c 5) (.v 0)) (.v 1)) (.pw (.v 5) 2)) (.mul (.mul (.c (-4)) (.v 0)) (.pw (.v 2) 2)))))) (.add (.add (.add (.mul (.mul (.mul (.c 6) (.v 0)) (.v 2)) (.pw (.v 4) 2)) (.mul (.mul (.mul (.c 4) (.v 0)) (.v 2)) (.pw (.v 5) 2))) (.add (.mul (.mul (.mul (.c 4) (.v 0)) (.v 3)) (.v 4)) (.add (.neg (.mul (.v 0) (.pw (.v 4) 4))) (.mul (.mul (.mul (.c (-3)) (.v 0)) (.pw (.v 4) 2)) (.pw (.v 5) 2))))) (.add (.add (.mul (.mul (.mul (.c 2) (.v 0)) (.v 4)) (.pw (.v 5) 3)) (.add (.mul (.c 2) (.pw (.v 1) 3)) (.mul (.mul (.c 4) (.pw (.v 1) 2)) (.v 2)))) (.add (.neg (.mul (.pw (.v 1) 2) (.pw (.v 4) 2))) (.add (.mul (.mul (.mul (.c (-6)) (.pw (.v 1) 2)) (.v 4)) (.v 5)) (.mul (.pw (.v 1) 2) (.pw (.v 5) 2))))))) (.add (.add (.add (.add (.mul (.mul (.c 4) (.v 1)) (.pw (.v 2) 2)) (.mul (.mul (.mul (.c 2) (.v 1)) (.v 2)) (.pw (.v 4) 2))) (.add (.mul (.mul (.mul (.mul (.c (-6)) (.v 1)) (.v 2)) (.v 4)) (.v 5)) (.add (.mul (.mul (.mul (.c 2) (.v 1)) (.v 2)) (.pw (.v 5) 2)) (.mul (.mul (.mul (.c 4) (.v 1)) (.v 3)) (.v 4))))) (.add (.add (.mul (.mul (.mul (.c (-4)) (.v 1)) (.v 3)) (.v 5)) (.add (.mul (.v 1) (.pw (.v 4) 4)) (.mul (.mul (.mul (.c 4) (.v 1)) (.pw (.v 4) 3)) (.v 5)))) (.add (.neg (.mul (.mul (.v 1) (.pw (.v 4) 2)) (.pw (.v 5) 2))) (.add (.mul (.mul (.mul (.c 4) (.v 1)) (.v 4)) (.pw (.v 5) 3)) (.mul (.mul (.c (-2)) (.v 1)) (.pw (.v 5) 4)))))) (.add (.add (.add (.mul (.c 4) (.pw (.v 2) 3)) (.add (.mul (.mul (.c 2) (.pw (.v 2) 2)) (.pw (.v 4) 2)) (.mul (.mul (.c (-6)) (.pw (.v 2) 2)) (.pw (.v 5) 2)))) (.add (.mul (.mul (.mul (.c 4) (.v 2)) (.v 3)) (.v 4)) (.add (.mul (.mul (.mul (.c (-8)) (.v 2)) (.v 3)) (.v 5)) (.mul (.mul (.mul (.c 2) (.v 2)) (.pw (.v 4) 3)) (.v 5))))) (.add (.add (.mul (.mul (.mul (.c (-2)) (.v 2)) (.pw (.v 4) 2)) (.pw (.v 5) 2)) (.add (.mul (.mul (.c 2) (.v 2)) (.pw (.v 5) 4)) (.mul (.mul (.c (-2)) (.v 3)) (.pw (.v 4) 3)))) (.add (.mul (.mul (.mul (.c (-2)) (.v 3)) (.v 4)) (.pw (.v 5) 2)) (.add (.mul (.mul (.c 4) (.v 3)) (.pw (.v 5) 3)) (.mul (.mul (.c (-2)) (.pw (.v 4) 3)) (.pw (.v 5) 3)))))))),.sub (.add (.add (.mul (.v 4) (.v 3)) (.mul (.v 4) (.v 3))) (.mul (.mul (.v 4) (.v 4)) (.sub (.v 0) (.v 1)))) (.add (.add (.mul (.v 0) (.v 0)) (.mul (.v 0) (.v 1))) (.mul (.v 1) (.v 1)))),
  ((.add (.add (.add (.add (.add (.mul (.mul (.mul (.c 6) (.v 0)) (.v 1)) (.v 2)) (.mul (.mul (.mul (.mul (.c 6) (.v 0)) (.v 1)) (.v 4)) (.v 5))) (.add (.mul (.mul (.c 6) (.v 0)) (.pw (.v 2) 2)) (.mul (.mul (.mul (.c (-6)) (.v 0)) (.v 2)) (.pw (.v 5) 2)))) (.add (.add (.mul (.mul (.mul (.c (-4)) (.v 0)) (.v 3)) (.v 5)) (.mul (.mul (.mul (.c (-2)) (.v 0)) (.v 4)) (.pw (.v 5) 3))) (.add (.mul (.c (-2)) (.pw (.v 1) 3)) (.mul (.mul (.c (-3)) (.pw (.v 1) 2)) (.pw (.v 4) 2))))) (.add (.add (.add (.mul (.mul (.mul (.c 6) (.pw (.v 1) 2)) (.v 4)) (.v 5)) (.mul (.mul (.c 3) (.pw (.v 1) 2)) (.pw (.v 5) 2))) (.add (.mul (.mul (.c 6) (.v 1)) (.pw (.v 2) 2)) (.mul (.mul (.mul (.c (-9)) (.v 1)) (.v 2)) (.pw (.v 4) 2)))) (.add (.add (.mul (.mul (.mul (.mul (.c 6) (.v 1)) (.v 2)) (.v 4)) (.v 5)) (.mul (.mul (.mul (.c (-3)) (.v 1)) (.v 2)) (.pw (.v 5) 2))) (.add (.mul (.mul (.mul (.c 4) (.v 1)) (.v 3)) (.v 4)) (.mul (.mul (.mul (.c (-4)) (.v 1)) (.v 3)) (.v 5)))))) (.add (.add (.add (.add (.mul (.mul (.mul (.c (-4)) (.v 1)) (.pw (.v 4) 3)) (.v 5)) (.mul (.mul (.mul (.c 3) (.v 1)) (.pw (.v 4) 2)) (.pw (.v 5) 2))) (.add (.mul (.mul (.mul (.c (-4)) (.v 1)) (.v 4)) (.pw (.v 5) 3)) (.neg (.mul (.v 1) (.pw (.v 5) 4))))) (.add (.add (.mul (.c 2) (.pw (.v 2) 3)) (.mul (.mul (.c (-3)) (.pw (.v 2) 2)) (.pw (.v 4) 2))) (.add (.mul (.mul (.c (-3)) (.pw (.v 2) 2)) (.pw (.v 5) 2)) (.mul (.mul (.mul (.c 8) (.v 2)) (.v 3)) (.v 4))))) (.add (.add (.add (.mul (.mul (.mul (.c (-4)) (.v 2)) (.v 3)) (.v 5)) (.mul (.mul (.mul (.c (-2)) (.v 2)) (.pw (.v 4) 3)) (.v 5))) (.add (.mul (.mul (.mul (.c 3) (.v 2)) (.pw (.v 4) 2)) (.pw (.v 5) 2)) (.mul (.v 2) (.pw (.v 5) 4)))) (.add (.add (.mul (.mul (.mul (.c 2) (.v 3)) (.pw (.v 4) 2)) (.v 5)) (.mul (.mul (.mul (.c (-4)) (.v 3)) (.v 4)) (.pw (.v 5) 2))) (.add (.mul (.mul (.c 2) (.v 3)) (.pw (.v 5) 3)) (.mul (.mul (.c 2) (.pw (.v 4) 3)) (.pw (.v 5) 3))))))),.sub (.add (.add (.mul (.v 5) (.v 3)) (.mul (.v 5) (.v 3))) (.mul (.mul (.v 5) (.v 5)) (.sub (.v 2) (.v 1)))) (.add (.add (.mul (.v 2) (.v 2)) (.mul (.v 2) (.v 1))) (.mul (.v 1) (.v 1)))),
  ((.add (.add (.add (.add (.add (.add (.mul (.pw (.v 0) 3) (.v 4)) (.neg (.mul (.pw (.v 0) 3) (.v 6)))) (.add (.mul (.mul (.mul (.c 4) (.pw (.v 0) 2)) (.v 1)) (.v 4)) (.mul (.mul (.pw (.v 0) 2) (.v 1)) (.v 5)))) (.add (.add (.mul (.mul (.mul (.c (-3)) (.pw (.v 0) 2)) (.v 1)) (.v 6)) (.mul (.mul (.mul (.c 2) (.pw (.v 0) 2)) (.v 2)) (.v 4))) (.add (.neg (.mul (.mul (.pw (.v 0) 2) (.v 2)) (.v 5))) (.add (.mul (.mul (.mul (.c (-3)) (.pw (.v 0) 2)) (.v 2)) (.v 6)) (.mul (.mul (.c (-2)) (.pw (.v 0) 2)) (.v 3)))))) (.add (.add (.add (.neg (.mul (.pw (.v 0) 2) (.pw (.v 4) 3))) (.mul (.mul (.pw (.v 0) 2) (.pw (.v 4) 2)) (.v 6))) (.add (.mul (.mul (.mul (.c (-2)) (.pw (.v 0) 2)) (.v 4)) (.pw (.v 5) 2)) (.add (.mul (.mul (.mul (.c 2) (.pw (.v 0) 2)) (.pw (.v 5) 2)) (.v 6)) (.mul (.mul (.mul (.c 5) (.v 0)) (.pw (.v 1) 2)) (.v 4))))) (.add (.add (.mul (.mul (.mul (.c 2) (.v 0)) (.pw (.v 1) 2)) (.v 5)) (.mul (.mul (.mul (.c (-3)) (.v 0)) (.pw (.v 1) 2)) (.v 6))) (.add (.mul (.mul (.mul (.mul (.c 6) (.v 0)) (.v 1)) (.v 2)) (.v 4)) (.add (.mul (.mul (.mul (.mul (.c (-6)) (.v 0)) (.v 1)) (.v 2)) (.v 6)) (.mul (.mul (.mul (.c (-4)) (.v 0)) (.v 1)) (.v 3))))))) (.add (.add (.add (.add (.mul (.mul (.mul (.c (-2)) (.v 0)) (.v 1)) (.pw (.v 4) 3)) (.mul (.mul (.mul (.mul (.c 2) (.v 0)) (.v 1)) (.pw (.v 4) 2)) (.v 6))) (.add (.mul (.mul (.mul (.mul (.c (-6)) (.v 0)) (.v 1)) (.v 4)) (.pw (.v 5) 2)) (.add (.mul (.mul (.mul (.c (-2)) (.v 0)) (.v 1)) (.pw (.v 5) 3)) (.mul (.mul (.mul (.mul (.c 4) (.v 0)) (.v 1)) (.pw (.v 5) 2)) (.v 6))))) (.add (.add (.mul (.mul (.v 0) (.pw (.v 2) 2)) (.v 4)) (.mul (.mul (.mul (.c (-2)) (.v 0)) (.pw (.v 2) 2)) (.v 5))) (.add (.mul (.mul (.mul (.c (-3)) (.v 0)) (.pw (.v 2) 2)) (.v 6)) (.add (.mul (.mul (.mul (.c (-4)) (.v 0)) (.v 2)) (.v 3)) (.mul (.mul (.mul (.c (-2)) (.v 0)) (.v 2)) (.pw (.v 4) 3)))))) (.add (.add (.add (.mul (.mul (.mul (.mul (.c 2) (.v 0)) (.v 2)) (.pw (.v 4) 2)) (.v 6)) (.mul (.mul (.mul (.mul (.c (-2)) (.v 0)) (.v 2)) (.v 4)) (.pw (.v 5) 2))) (.add (.mul (.mul (.mul (.c 2) (.v 0)) (.v 2)) (.pw (.v 5) 3)) (.add (.mul (.mul (.mul (.mul (.c 4) (.v 0)) (.v 2)) (.pw (.v 5) 2)) (.v 6)) (.mul (.mul (.mul (.c 4) (.v 0)) (.v 3)) (.pw (.v 5) 2))))) (.add (.add (.mul (.mul (.mul (.c 2) (.v 0)) (.pw (.v 4) 3)) (.pw (.v 5) 2)) (.mul (.mul (.mul (.mul (.c (-2)) (.v 0)) (.pw (.v 4) 2)) (.pw (.v 5) 2)) (.v 6))) (.add (.mul (.mul (.v 0) (.v 4)) (.pw (.v 5) 4)) (.add (.neg (.mul (.mul (.v 0) (.pw (.v 5) 4)) (.v 6))) (.mul (.mul (.c 2) (.pw (.v 1) 3)) (.v 4)))))))) (.add (.add (.add (.add (.add (.mul (.pw (.v 1) 3) (.v 5)) (.neg (.mul (.pw (.v 1) 3) (.v 6)))) (.add (.mul (.mul (.mul (.c 4) (.pw (.v 1) 2)) (.v 2)) (.v 4)) (.add (.mul (.mul (.pw (.v 1) 2) (.v 2)) (.v 5)) (.mul (.mul (.mul (.c (-3)) (.pw (.v 1) 2)) (.v 2)) (.v 6))))) (.add (.add (.mul (.mul (.c (-2)) (.pw (.v 1) 2)) (.v 3)) (.neg (.mul (.pw (.v 1) 2) (.pw (.v 4) 3)))) (.add (.mul (.mul (.pw (.v 1) 2) (.pw (.v 4) 2)) (.v 6)) (.add (.mul (.mul (.mul (.c (-4)) (.pw (.v 1) 2)) (.v 4)) (.pw (.v 5) 2)) (.mul (.mul (.c (-2)) (.pw (.v 1) 2)) (.pw (.v 5) 3)))))) (.add (.add (.add (.mul (.mul (.mul (.c 2) (.pw (.v 1) 2)) (.pw (.v 5) 2)) (.v 6)) (.mul (.mul (.mul (.c 2) (.v 1)) (.pw (.v 2) 2)) (.v 4))) (.add (.neg (.mul (.mul (.v 1) (.pw (.v 2) 2)) (.v 5))) (.add (.mul (.mul (.mul (.c (-3)) (.v 1)) (.pw (.v 2) 2)) (.v 6)) (.mul (.mul (.mul (.c (-4)) (.v 1)) (.v 2)) (.v 3))))) (.add (.add (.mul (.mul (.mul (.c (-2)) (.v 1)) (.v 2)) (.pw (.v 4) 3)) (.mul (.mul (.mul (.mul (.c 2) (.v 1)) (.v 2)) (.pw (.v 4) 2)) (.v 6))) (.add (.mul (.mul (.mul (.mul (.c (-4)) (.v 1)) (.v 2)) (.v 4)) (.pw (.v 5) 2)) (.add (.mul (.mul (.mul (.mul (.c 4) (.v 1)) (.v 2)) (.pw (.v 5) 2)) (.v 6)) (.mul (.mul (.mul (.c 4) (.v 1)) (.v 3)) (.pw (.v 5) 2))))))) (.add (.add (.add (.add (.mul (.mul (.mul (.c 2) (.v 1)) (.pw (.v 4) 3)) (.pw (.v 5) 2)) (.mul (.mul (.mul (.mul (.c (-2)) (.v 1)) (.pw (.v 4) 2)) (.pw (.v 5) 2)) (.v 6))) (.add (.mul (.mul (.mul (.c 2) (.v 1)) (.v 4)) (.pw (.v 5) 4)) (.add (.mul (.v 1) (.pw (.v 5) 5)) (.neg (.mul (.mul (.v 1) (.pw (.v 5) 4)) (.v 6)))))) (.add (.add (.neg (.mul (.pw (.v 2) 3) (.v 5))) (.neg (.mul (.pw (.v 2) 3) (.v 6)))) (.add (.mul (.mul (.c (-2)) (.pw (.v 2) 2)) (.v 3)) (.add (.neg (.mul (.pw (.v 2) 2) (.pw (.v 4) 3))) (.mul (.mul (.pw (.v 2) 2) (.pw (.v 4) 2)) (.v 6)))))) (.add (.add (.add (.mul (.mul (.c 2) (.pw (.v 2) 2)) (.pw (.v 5) 3)) (.mul (.mul (.mul (.c 2) (.pw (.v 2) 2)) (.pw (.v 5) 2)) (.v 6))) (.add (.mul (.mul (.mul (.c 4) (.v 2)) (.v 3)) (.pw (.v 5) 2)) (.add (.mul (.mul (.mul (.c 2) (.v 2)) (.pw (.v 4) 3)) (.pw (.v 5) 2)) (.mul (.mul (.mul (.mul (.c (-2)) (.v 2)) (.pw (.v 4) 2)) (.pw (.v 5) 2)) (.v 6))))) (.add (.add (.neg (.mul (.v 2) (.pw (.v 5) 5))) (.neg (.mul (.mul (.v 2) (.pw (.v 5) 4)) (.v 6)))) (.add (.mul (.mul (.c (-2)) (.v 3)) (.pw (.v 5) 4)) (.add (.neg (.mul (.pw (.v 4) 3) (.pw (.v 5) 4))) (.mul (.mul (.pw (.v 4) 2) (.pw (.v 5) 4)) (.v 6))))))))),.sub (.mul (.v 6) (.sub (.sub (.sub (.mul (.v 4) (.v 4)) (.v 0)) (.v 1)) (.v 2))) (.sub (.sub (.mul (.v 4) (.sub (.v 1) (.sub (.sub (.mul (.v 4) (.v 4)) (.v 0)) (.v 1)))) (.v 3)) (.add (.v 3) (.mul (.v 5) (.sub (.v 2) (.v 1)))))),
  ((.add (.add (.add (.add (.add (.add (.mul (.pw (.v 0) 3) (.v 4)) (.mul (.pw (.v 0) 3) (.v 7))) (.add (.mul (.mul (.pw (.v 0) 2) (.v 1)) (.v 4)) (.mul (.mul (.mul (.c (-2)) (.pw (.v 0) 2)) (.v 1)) (.v 5)))) (.add (.add (.mul (.mul (.mul (.c 3) (.pw (.v 0) 2)) (.v 1)) (.v 7)) (.mul (.mul (.mul (.c 2) (.pw (.v 0) 2)) (.v 2)) (.v 4))) (.add (.neg (.mul (.mul (.pw (.v 0) 2) (.v 2)) (.v 5))) (.add (.mul (.mul (.mul (.c 3) (.pw (.v 0) 2)) (.v 2)) (.v 7)) (.mul (.mul (.c 2) (.pw (.v 0) 2)) (.v 3)))))) (.add (.add (.add (.mul (.mul (.c (-2)) (.pw (.v 0) 2)) (.pw (.v 4) 3)) (.mul (.mul (.mul (.c (-2)) (.pw (.v 0) 2)) (.pw (.v 4) 2)) (.v 7))) (.add (.mul (.pw (.v 0) 2) (.pw (.v 5) 3)) (.add (.neg (.mul (.mul (.pw (.v 0) 2) (.pw (.v 5) 2)) (.v 7))) (.neg (.mul (.mul (.v 0) (.pw (.v 1) 2)) (.v 4)))))) (.add (.add (.mul (.mul (.mul (.c (-4)) (.v 0)) (.pw (.v 1) 2)) (.v 5)) (.mul (.mul (.mul (.c 3) (.v 0)) (.pw (.v 1) 2)) (.v 7))) (.add (.mul (.mul (.mul (.mul (.c (-6)) (.v 0)) (.v 1)) (.v 2)) (.v 5)) (.add (.mul (.mul (.mul (.mul (.c 6) (.v 0)) (.v 1)) (.v 2)) (.v 7)) (.mul (.mul (.mul (.c 4) (.v 0)) (.v 1)) (.v 3))))))) (.add (.add (.add (.add (.mul (.mul (.mul (.mul (.c 4) (.v 0)) (.v 1)) (.pw (.v 4) 2)) (.v 5)) (.mul (.mul (.mul (.mul (.c (-4)) (.v 0)) (.v 1)) (.pw (.v 4) 2)) (.v 7))) (.add (.mul (.mul (.mul (.c 2) (.v 0)) (.v 1)) (.pw (.v 5) 3)) (.add (.mul (.mul (.mul (.mul (.c (-2)) (.v 0)) (.v 1)) (.pw (.v 5) 2)) (.v 7)) (.mul (.mul (.v 0) (.pw (.v 2) 2)) (.v 4))))) (.add (.add (.mul (.mul (.mul (.c (-2)) (.v 0)) (.pw (.v 2) 2)) (.v 5)) (.mul (.mul (.mul (.c 3) (.v 0)) (.pw (.v 2) 2)) (.v 7))) (.add (.mul (.mul (.mul (.c 4) (.v 0)) (.v 2)) (.v 3)) (.add (.mul (.mul (.mul (.c (-2)) (.v 0)) (.v 2)) (.pw (.v 4) 3)) (.mul (.mul (.mul (.mul (.c 2) (.v 0)) (.v 2)) (.pw (.v 4) 2)) (.v 5)))))) (.add (.add (.add (.mul (.mul (.mul (.mul (.c (-4)) (.v 0)) (.v 2)) (.pw (.v 4) 2)) (.v 7)) (.mul (.mul (.mul (.c 2) (.v 0)) (.v 2)) (.pw (.v 5) 3))) (.add (.mul (.mul (.mul (.mul (.c (-2)) (.v 0)) (.v 2)) (.pw (.v 5) 2)) (.v 7)) (.add (.mul (.mul (.mul (.c (-4)) (.v 0)) (.v 3)) (.pw (.v 4) 2)) (.mul (.v 0) (.pw (.v 4) 5))))) (.add (.add (.mul (.mul (.v 0) (.pw (.v 4) 4)) (.v 7)) (.mul (.mul (.mul (.c (-2)) (.v 0)) (.pw (.v 4) 2)) (.pw (.v 5) 3))) (.add (.mul (.mul (.mul (.mul (.c 2) (.v 0)) (.pw (.v 4) 2)) (.pw (.v 5) 2)) (.v 7)) (.add (.neg (.mul (.pw (.v 1) 3) (.v 4))) (.mul (.mul (.c (-2)) (.pw (.v 1) 3)) (.v 5)))))))) (.add (.add (.add (.add (.add (.mul (.pw (.v 1) 3) (.v 7)) (.mul (.mul (.mul (.c (-2)) (.pw (.v 1) 2)) (.v 2)) (.v 4))) (.add (.mul (.mul (.mul (.c (-5)) (.pw (.v 1) 2)) (.v 2)) (.v 5)) (.add (.mul (.mul (.mul (.c 3) (.pw (.v 1) 2)) (.v 2)) (.v 7)) (.mul (.mul (.c 2) (.pw (.v 1) 2)) (.v 3))))) (.add (.add (.mul (.mul (.c 2) (.pw (.v 1) 2)) (.pw (.v 4) 3)) (.mul (.mul (.mul (.c 4) (.pw (.v 1) 2)) (.pw (.v 4) 2)) (.v 5))) (.add (.mul (.mul (.mul (.c (-2)) (.pw (.v 1) 2)) (.pw (.v 4) 2)) (.v 7)) (.add (.mul (.pw (.v 1) 2) (.pw (.v 5) 3)) (.neg (.mul (.mul (.pw (.v 1) 2) (.pw (.v 5) 2)) (.v 7))))))) (.add (.add (.add (.neg (.mul (.mul (.v 1) (.pw (.v 2) 2)) (.v 4))) (.mul (.mul (.mul (.c (-4)) (.v 1)) (.pw (.v 2) 2)) (.v 5))) (.add (.mul (.mul (.mul (.c 3) (.v 1)) (.pw (.v 2) 2)) (.v 7)) (.add (.mul (.mul (.mul (.c 4) (.v 1)) (.v 2)) (.v 3)) (.mul (.mul (.mul (.c 2) (.v 1)) (.v 2)) (.pw (.v 4) 3))))) (.add (.add (.mul (.mul (.mul (.mul (.c 6) (.v 1)) (.v 2)) (.pw (.v 4) 2)) (.v 5)) (.mul (.mul (.mul (.mul (.c (-4)) (.v 1)) (.v 2)) (.pw (.v 4) 2)) (.v 7))) (.add (.mul (.mul (.mul (.c 2) (.v 1)) (.v 2)) (.pw (.v 5) 3)) (.add (.mul (.mul (.mul (.mul (.c (-2)) (.v 1)) (.v 2)) (.pw (.v 5) 2)) (.v 7)) (.mul (.mul (.mul (.c (-4)) (.v 1)) (.v 3)) (.pw (.v 4) 2))))))) (.add (.add (.add (.add (.neg (.mul (.v 1) (.pw (.v 4) 5))) (.mul (.mul (.mul (.c (-2)) (.v 1)) (.pw (.v 4) 4)) (.v 5))) (.add (.mul (.mul (.v 1) (.pw (.v 4) 4)) (.v 7)) (.add (.mul (.mul (.mul (.c (-2)) (.v 1)) (.pw (.v 4) 2)) (.pw (.v 5) 3)) (.mul (.mul (.mul (.mul (.c 2) (.v 1)) (.pw (.v 4) 2)) (.pw (.v 5) 2)) (.v 7))))) (.add (.add (.neg (.mul (.pw (.v 2) 3) (.v 5))) (.mul (.pw (.v 2) 3) (.v 7))) (.add (.mul (.mul (.c 2) (.pw (.v 2) 2)) (.v 3)) (.add (.mul (.mul (.mul (.c 2) (.pw (.v 2) 2)) (.pw (.v 4) 2)) (.v 5)) (.mul (.mul (.mul (.c (-2)) (.pw (.v 2) 2)) (.pw (.v 4) 2)) (.v 7)))))) (.add (.add (.add (.mul (.pw (.v 2) 2) (.pw (.v 5) 3)) (.neg (.mul (.mul (.pw (.v 2) 2) (.pw (.v 5) 2)) (.v 7)))) (.add (.mul (.mul (.mul (.c (-4)) (.v 2)) (.v 3)) (.pw (.v 4) 2)) (.add (.neg (.mul (.mul (.v 2) (.pw (.v 4) 4)) (.v 5))) (.mul (.mul (.v 2) (.pw (.v 4) 4)) (.v 7))))) (.add (.add (.mul (.mul (.mul (.c (-2)) (.v 2)) (.pw (.v 4) 2)) (.pw (.v 5) 3)) (.mul (.mul (.mul (.mul (.c 2) (.v 2)) (.pw (.v 4) 2)) (.pw (.v 5) 2)) (.v 7))) (.add (.mul (.mul (.c 2) (.v 3)) (.pw (.v 4) 4)) (.add (.mul (.pw (.v 4) 4) (.pw (.v 5) 3)) (.neg (.mul (.mul (.pw (.v 4) 4) (.pw (.v 5) 2)) (.v 7)))))))))),.sub (.mul (.v 7) (.sub (.sub (.sub (.mul (.v 5) (.v 5)) (.v 1)) (.v 2)) (.v 0))) (.sub (.sub (.mul (.v 5) (.sub (.v 1) (.sub (.sub (.mul (.v 5) (.v 5)) (.v 1)) (.v 2)))) (.v 3)) (.add (.v 3) (.mul (.v 4) (.sub (.v 0) (.v 1))))))] ⟨sub_zero_iff.2 r1,sub_zero_iff.2 r2,sub_zero_iff.2 hs,sub_zero_iff.2 ht,trivial⟩ (by kernel_rfl))
theorem genY {F:Type} [CR F] (x1 x2 x3 y2 l m s t:F) (r1:(((l*y2)+(l*y2))+((l*l)*(x1-x2)))=(((x1*x1)+(x1*x2))+(x2*x2))) (r2:(((m*y2)+(m*y2))+((m*m)*(x3-x2)))=(((x3*x3)+(x3*x2))+(x2*x2))) (hs:(s*((((l*l)-x1)-x2)-x3))=(((l*(x2-(((l*l)-x1)-x2)))-y2)-(y2+(m*(x3-x2))))) (ht:(t*((((m*m)-x2)-x3)-x1))=(((m*(x2-(((m*m)-x2)-x3)))-y2)-(y2+(l*(x1-x2))))):((((((((l*l)-x1)-x2)-x3)*((((l*l)-x1)-x2)-x3))*((((l*l)-x1)-x2)-x3))*((((m*m)-x2)-x3)-x1))*((s*(x3-(((s*s)-(((l*l)-x1)-x2))-x3)))-(y2+(m*(x3-x2)))))=((((((((l*l)-x1)-x2)-x3)*((((l*l)-x1)-x2)-x3))*((((l*l)-x1)-x2)-x3))*((((m*m)-x2)-x3)-x1))*((t*(x1-(((s*s)-(((l*l)-x1)-x2))-x3)))-(y2+(l*(x1-x2))))) :=
 sub_zero_iff.1 (lin [x1,x2,x3,y2,l,m,s,t] (.sub (.mul (.mul (.mul (.mul (.sub (.sub (.sub (.mul (.v 4) (.v 4)) (.v 0)) (.v 1)) (.v 2)) (.sub (.sub (.sub (.mul (.v 4) (.v 4)) (.v 0)) (.v 1)) (.v 2))) (.sub (.sub (.sub (.mul (.v 4) (.v 4)) (.v 0)) (.v 1)) (.v 2))) (.sub (.sub (.sub (.mul (.v 5) (.v 5)) (.v 1)) (.v 2)) (.v 0))) (.sub (.mul (.v 6) (.sub (.v 2) (.sub (.sub (.mul (.v 6) (.v 6)) (.sub (.sub (.mul (.v 4) (.v 4)) (.v 0)) (.v 1))) (.v 2)))) (.add (.v 3) (.mul (.v 5) (.sub (.v 2) (.v 1)))))) (.mul (.mul (.mul (.mul (.sub (.sub (.sub (.mul (.v 4) (.v 4)) (.v 0)) (.v 1)) (.v 2)) (.sub (.sub (.sub (.mul (.v 4) (.v 4)) (.v 0)) (.v 1)) (.v 2))) (.sub (.sub (.sub (.mul (.v 4) (.v 4)) (.v 0)) (.v 1)) (.v 2))) (.sub (.sub (.sub (.mul (.v 5) (.v 5)) (.v 1)) (.v 2)) (.v 0))) (.sub (.mul (.v 7) (.sub (.v 0) (.sub (.sub (.mul (.v 6) (.v 6)) (.sub (.sub (.mul (.v 4) (.v 4)) (.v 0)) (.v 1))) (.v 2)))) (.add (.v 3) (.mul (.v 4) (.sub (.v 0) (.v 1))))))) [((.add (.add (.add (.add (.add (.mul (.mul (.c (-2)) (.pw (.v 0) 3)) (.v 4)) (.add (.mul (.mul (.mul (.c (-8)) (.pw (.v 0) 2)) (.v 1)) (.v 4)) (.mul (.mul (.mul (.c (-2)) (.pw (.v 0) 2)) (.v 1)) (.v 5)))) (.add (.add (.mul (.mul (.mul (.c (-4)) (.pw (.v 0) 2)) (.v 2)) (.v 4)) (.mul (.mul (.mul (.c 2) (.pw (.v 0) 2)) (.v 2)) (.v 5))) (.add (.mul (.mul (.c 2) (.pw (.v 0) 2)) (.v 3)) (.mul (.mul (.c 4) (.pw (.v 0) 2)) (.pw (.v 4) 3))))) (.add (.add (.add (.mul (.mul (.mul (.c 2) (.pw (.v 0) 2)) (.v 4)) (.pw (.v 5) 2)) (.mul (.mul (.mul (.c (-8)) (.v 0)) (.pw (.v 1) 2)) (.v 4))) (.add (.mul (.mul (.mul (.c (-4)) (.v 0)) (.pw (.v 1) 2)) (.v 5)) (.mul (.mul (.mul (.mul (.c (-10)) (.v 0)) (.v 1)) (.v 2)) (.v 4)))) (.add (.add (.mul (.mul (.mul (.c 4) (.v 0)) (.v 1)) (.v 3)) (.mul (.mul (.mul (.c 9) (.v 0)) (.v 1)) (.pw (.v 4) 3))) (.add (.neg (.mul (.mul (.mul (.v 0) (.v 1)) (.pw (.v 4) 2)) (.v 5))) (.mul (.mul (.mul (.mul (.c 5) (.v 0)) (.v 1)) (.v 4)) (.pw (.v 5) 2)))))) (.add (.add (.add (.add (.mul (.mul (.v 0) (.v 1)) (.pw (.v 5) 3)) (.mul (.mul (.mul (.c 4) (.v 0)) (.pw (.v 2) 2)) (.v 5))) (.add (.mul (.mul (.mul (.c 4) (.v 0)) (.v 2)) (.v 3)) (.mul (.mul (.mul (.c 7) (.v 0)) (.v 2)) (.pw (.v 4) 3)))) (.add (.add (.mul (.mul (.mul (.v 0) (.v 2)) (.pw (.v 4) 2)) (.v 5)) (.mul (.mul (.mul (.mul (.c 3) (.v 0)) (.v 2)) (.v 4)) (.pw (.v 5) 2))) (.add (.neg (.mul (.mul (.v 0) (.v 2)) (.pw (.v 5) 3))) (.mul (.mul (.mul (.c 2) (.v 0)) (.v 3)) (.pw (.v 4) 2))))) (.add (.add (.add (.mul (.mul (.mul (.c (-2)) (.v 0)) (.v 3)) (.pw (.v 5) 2)) (.mul (.mul (.c (-2)) (.v 0)) (.pw (.v 4) 5))) (.add (.mul (.mul (.mul (.c (-4)) (.v 0)) (.pw (.v 4) 3)) (.pw (.v 5) 2)) (.mul (.mul (.c 2) (.pw (.v 1) 3)) (.v 4)))) (.add (.add (.mul (.mul (.mul (.c 2) (.pw (.v 1) 2)) (.v 2)) (.v 4)) (.mul (.mul (.mul (.c (-2)) (.pw (.v 1) 2)) (.v 2)) (.v 5))) (.add (.mul (.mul (.c 2) (.pw (.v 1) 2)) (.pw (.v 4) 3)) (.mul (.mul (.mul (.c (-4)) (.pw (.v 1) 2)) (.pw (.v 4) 2)) (.v 5))))))) (.add (.add (.add (.add (.mul (.mul (.mul (.c 2) (.pw (.v 1) 2)) (.v 4)) (.pw (.v 5) 2)) (.add (.mul (.mul (.c 2) (.pw (.v 1) 2)) (.pw (.v 5) 3)) (.mul (.mul (.mul (.c 6) (.v 1)) (.pw (.v 2) 2)) (.v 4)))) (.add (.add (.mul (.mul (.mul (.c 2) (.v 1)) (.pw (.v 2) 2)) (.v 5)) (.mul (.mul (.mul (.c 2) (.v 1)) (.v 2)) (.v 3))) (.add (.mul (.mul (.mul (.c 8) (.v 1)) (.v 2)) (.pw (.v 4) 3)) (.mul (.mul (.mul (.mul (.c 6) (.v 1)) (.v 2)) (.pw (.v 4) 2)) (.v 5))))) (.add (.add (.add (.mul (.mul (.mul (.mul (.c 6) (.v 1)) (.v 2)) (.v 4)) (.pw (.v 5) 2)) (.mul (.mul (.mul (.c (-2)) (.v 1)) (.v 2)) (.pw (.v 5) 3))) (.add (.mul (.mul (.mul (.c 6) (.v 1)) (.v 3)) (.pw (.v 4) 2)) (.mul (.mul (.mul (.c (-4)) (.v 1)) (.v 3)) (.pw (.v 5) 2)))) (.add (.add (.neg (.mul (.v 1) (.pw (.v 4) 5))) (.mul (.mul (.mul (.c 3) (.v 1)) (.pw (.v 4) 4)) (.v 5))) (.add (.mul (.mul (.mul (.c (-5)) (.v 1)) (.pw (.v 4) 3)) (.pw (.v 5) 2)) (.neg (.mul (.mul (.v 1) (.pw (.v 4) 2)) (.pw (.v 5) 3))))))) (.add (.add (.add (.add (.mul (.mul (.mul (.c (-2)) (.v 1)) (.v 4)) (.pw (.v 5) 4)) (.mul (.mul (.c 4) (.pw (.v 2) 3)) (.v 4))) (.add (.mul (.mul (.mul (.c (-2)) (.pw (.v 2) 2)) (.pw (.v 4) 2)) (.v 5)) (.mul (.mul (.mul (.c (-6)) (.pw (.v 2) 2)) (.v 4)) (.pw (.v 5) 2)))) (.add (.add (.mul (.mul (.mul (.c (-2)) (.v 2)) (.v 3)) (.pw (.v 4) 2)) (.mul (.mul (.mul (.mul (.c (-12)) (.v 2)) (.v 3)) (.v 4)) (.v 5))) (.add (.mul (.mul (.c (-3)) (.v 2)) (.pw (.v 4) 5)) (.mul (.mul (.mul (.c (-3)) (.v 2)) (.pw (.v 4) 4)) (.v 5))))) (.add (.add (.add (.mul (.mul (.mul (.c (-3)) (.v 2)) (.pw (.v 4) 3)) (.pw (.v 5) 2)) (.mul (.mul (.v 2) (.pw (.v 4) 2)) (.pw (.v 5) 3))) (.add (.mul (.mul (.mul (.c 2) (.v 2)) (.v 4)) (.pw (.v 5) 4)) (.mul (.mul (.c (-4)) (.pw (.v 3) 2)) (.v 4)))) (.add (.add (.mul (.mul (.c (-4)) (.v 3)) (.pw (.v 4) 4)) (.mul (.mul (.mul (.c 2) (.v 3)) (.pw (.v 4) 2)) (.pw (.v 5) 2))) (.add (.mul (.mul (.mul (.c 4) (.v 3)) (.v 4)) (.pw (.v 5) 3)) (.mul (.mul (.c 2) (.pw (.v 4) 5)) (.pw (.v 5) 2)))))))),.sub (.add (.add (.mul (.v 4) (.v 3)) (.mul (.v 4) (.v 3))) (.mul (.mul (.v 4) (.v 4)) (.sub (.v 0) (.v 1)))) (.add (.add (.mul (.v 0) (.v 0)) (.mul (.v 0) (.v 1))) (.mul (.v 1) (.v 1)))),
  ((.add (.add (.add (.add (.add (.mul (.mul (.mul (.c 2) (.v 0)) (.pw (.v 1) 2)) (.v 4)) (.add (.mul (.mul (.mul (.c 2) (.v 0)) (.pw (.v 1) 2)) (.v 5)) (.mul (.mul (.mul (.mul (.c 8) (.v 0)) (.v 1)) (.v 2)) (.v 4)))) (.add (.mul (.mul (.mul (.mul (.c 2) (.v 0)) (.v 1)) (.v 2)) (.v 5)) (.add (.mul (.mul (.mul (.c (-2)) (.v 0)) (.v 1)) (.v 3)) (.mul (.mul (.mul (.c (-3)) (.v 0)) (.v 1)) (.pw (.v 4) 3))))) (.add (.add (.mul (.mul (.mul (.mul (.c 3) (.v 0)) (.v 1)) (.pw (.v 4) 2)) (.v 5)) (.add (.neg (.mul (.mul (.mul (.v 0) (.v 1)) (.v 4)) (.pw (.v 5) 2))) (.neg (.mul (.mul (.v 0) (.v 1)) (.pw (.v 5) 3))))) (.add (.add (.mul (.mul (.mul (.c 2) (.v 0)) (.pw (.v 2) 2)) (.v 4)) (.mul (.mul (.mul (.c (-4)) (.v 0)) (.pw (.v 2) 2)) (.v 5))) (.add (.mul (.mul (.mul (.c (-4)) (.v 0)) (.v 2)) (.v 3)) (.mul (.mul (.mul (.c (-3)) (.v 0)) (.v 2)) (.pw (.v 4) 3)))))) (.add (.add (.add (.mul (.mul (.mul (.mul (.c (-3)) (.v 0)) (.v 2)) (.pw (.v 4) 2)) (.v 5)) (.add (.mul (.mul (.mul (.mul (.c (-5)) (.v 0)) (.v 2)) (.v 4)) (.pw (.v 5) 2)) (.mul (.mul (.v 0) (.v 2)) (.pw (.v 5) 3)))) (.add (.add (.mul (.mul (.mul (.mul (.c (-4)) (.v 0)) (.v 3)) (.v 4)) (.v 5)) (.mul (.mul (.mul (.c 2) (.v 0)) (.v 3)) (.pw (.v 5) 2))) (.add (.mul (.mul (.mul (.c 2) (.v 0)) (.pw (.v 4) 3)) (.pw (.v 5) 2)) (.mul (.mul (.c (-2)) (.pw (.v 1) 3)) (.v 4))))) (.add (.add (.mul (.mul (.mul (.c 4) (.pw (.v 1) 2)) (.v 2)) (.v 4)) (.add (.mul (.mul (.mul (.c 4) (.pw (.v 1) 2)) (.v 2)) (.v 5)) (.mul (.mul (.c (-8)) (.pw (.v 1) 2)) (.pw (.v 4) 3)))) (.add (.add (.mul (.mul (.mul (.c 2) (.pw (.v 1) 2)) (.pw (.v 4) 2)) (.v 5)) (.mul (.mul (.mul (.c 4) (.pw (.v 1) 2)) (.v 4)) (.pw (.v 5) 2))) (.add (.mul (.mul (.mul (.c 4) (.v 1)) (.pw (.v 2) 2)) (.v 4)) (.mul (.mul (.mul (.c (-2)) (.v 1)) (.pw (.v 2) 2)) (.v 5))))))) (.add (.add (.add (.add (.mul (.mul (.mul (.c (-4)) (.v 1)) (.v 2)) (.v 3)) (.add (.mul (.mul (.mul (.c (-14)) (.v 1)) (.v 2)) (.pw (.v 4) 3)) (.mul (.mul (.mul (.mul (.c (-4)) (.v 1)) (.v 2)) (.pw (.v 4) 2)) (.v 5)))) (.add (.mul (.mul (.mul (.mul (.c (-10)) (.v 1)) (.v 2)) (.v 4)) (.pw (.v 5) 2)) (.add (.mul (.mul (.mul (.c (-2)) (.v 1)) (.v 2)) (.pw (.v 5) 3)) (.mul (.mul (.mul (.c 8) (.v 1)) (.v 3)) (.pw (.v 4) 2))))) (.add (.add (.mul (.mul (.mul (.mul (.c (-8)) (.v 1)) (.v 3)) (.v 4)) (.v 5)) (.add (.mul (.mul (.mul (.c (-2)) (.v 1)) (.v 3)) (.pw (.v 5) 2)) (.mul (.mul (.c 3) (.v 1)) (.pw (.v 4) 5)))) (.add (.add (.mul (.mul (.mul (.c (-3)) (.v 1)) (.pw (.v 4) 4)) (.v 5)) (.mul (.mul (.mul (.c 5) (.v 1)) (.pw (.v 4) 3)) (.pw (.v 5) 2))) (.add (.mul (.mul (.v 1) (.pw (.v 4) 2)) (.pw (.v 5) 3)) (.mul (.mul (.c (-2)) (.pw (.v 2) 3)) (.v 5)))))) (.add (.add (.add (.mul (.mul (.c (-2)) (.pw (.v 2) 2)) (.v 3)) (.add (.mul (.mul (.c (-2)) (.pw (.v 2) 2)) (.pw (.v 4) 3)) (.mul (.mul (.mul (.c 2) (.pw (.v 2) 2)) (.pw (.v 4) 2)) (.v 5)))) (.add (.add (.mul (.mul (.c 2) (.pw (.v 2) 2)) (.pw (.v 5) 3)) (.mul (.mul (.mul (.c 10) (.v 2)) (.v 3)) (.pw (.v 4) 2))) (.add (.mul (.mul (.mul (.c 6) (.v 2)) (.v 3)) (.pw (.v 5) 2)) (.mul (.mul (.c 3) (.v 2)) (.pw (.v 4) 5))))) (.add (.add (.mul (.mul (.mul (.c 3) (.v 2)) (.pw (.v 4) 4)) (.v 5)) (.add (.mul (.mul (.mul (.c 5) (.v 2)) (.pw (.v 4) 3)) (.pw (.v 5) 2)) (.neg (.mul (.mul (.v 2) (.pw (.v 4) 2)) (.pw (.v 5) 3))))) (.add (.add (.mul (.mul (.c 4) (.pw (.v 3) 2)) (.v 5)) (.mul (.mul (.mul (.c 4) (.v 3)) (.pw (.v 4) 3)) (.v 5))) (.add (.mul (.mul (.mul (.c (-6)) (.v 3)) (.pw (.v 4) 2)) (.pw (.v 5) 2)) (.mul (.mul (.c (-2)) (.pw (.v 4) 5)) (.pw (.v 5) 2)))))))),.sub (.add (.add (.mul (.v 5) (.v 3)) (.mul (.v 5) (.v 3))) (.mul (.mul (.v 5) (.v 5)) (.sub (.v 2) (.v 1)))) (.add (.add (.mul (.v 2) (.v 2)) (.mul (.v 2) (.v 1))) (.mul (.v 1) (.v 1)))),
  ((.add (.add (.add (.add (.add (.add (.add (.pw (.v 0) 4) (.mul (.mul (.c 4) (.pw (.v 0) 3)) (.v 1))) (.add (.mul (.pw (.v 0) 3) (.v 2)) (.add (.neg (.mul (.pw (.v 0) 3) (.pw (.v 4) 2))) (.mul (.mul (.mul (.c (-2)) (.pw (.v 0) 3)) (.v 4)) (.v 6))))) (.add (.add (.neg (.mul (.pw (.v 0) 3) (.pw (.v 5) 2))) (.add (.mul (.pw (.v 0) 3) (.pw (.v 6) 2)) (.mul (.mul (.c 6) (.pw (.v 0) 2)) (.pw (.v 1) 2)))) (.add (.mul (.mul (.mul (.c 3) (.pw (.v 0) 2)) (.v 1)) (.v 2)) (.add (.mul (.mul (.mul (.c (-2)) (.pw (.v 0) 2)) (.v 1)) (.pw (.v 4) 2)) (.mul (.mul (.mul (.pw (.v 0) 2) (.v 1)) (.v 4)) (.v 5)))))) (.add (.add (.add (.mul (.mul (.mul (.mul (.c (-5)) (.pw (.v 0) 2)) (.v 1)) (.v 4)) (.v 6)) (.add (.mul (.mul (.mul (.c (-3)) (.pw (.v 0) 2)) (.v 1)) (.pw (.v 5) 2)) (.mul (.mul (.mul (.pw (.v 0) 2) (.v 1)) (.v 5)) (.v 6)))) (.add (.mul (.mul (.mul (.c 3) (.pw (.v 0) 2)) (.v 1)) (.pw (.v 6) 2)) (.add (.mul (.mul (.c (-3)) (.pw (.v 0) 2)) (.pw (.v 2) 2)) (.neg (.mul (.mul (.pw (.v 0) 2) (.v 2)) (.pw (.v 4) 2)))))) (.add (.add (.mul (.mul (.mul (.mul (.c (-4)) (.pw (.v 0) 2)) (.v 2)) (.v 4)) (.v 5)) (.add (.mul (.mul (.mul (.mul (.c (-4)) (.pw (.v 0) 2)) (.v 2)) (.v 4)) (.v 6)) (.mul (.mul (.mul (.mul (.c 2) (.pw (.v 0) 2)) (.v 2)) (.v 5)) (.v 6)))) (.add (.mul (.mul (.mul (.c 3) (.pw (.v 0) 2)) (.v 2)) (.pw (.v 6) 2)) (.add (.mul (.mul (.mul (.c (-4)) (.pw (.v 0) 2)) (.v 3)) (.v 4)) (.neg (.mul (.pw (.v 0) 2) (.pw (.v 4) 4)))))))) (.add (.add (.add (.add (.mul (.mul (.mul (.c 4) (.pw (.v 0) 2)) (.pw (.v 4) 3)) (.v 6)) (.mul (.mul (.mul (.c 2) (.pw (.v 0) 2)) (.pw (.v 4) 2)) (.pw (.v 5) 2))) (.add (.mul (.mul (.mul (.c (-2)) (.pw (.v 0) 2)) (.pw (.v 4) 2)) (.pw (.v 6) 2)) (.add (.mul (.mul (.pw (.v 0) 2) (.v 4)) (.pw (.v 5) 3)) (.mul (.mul (.mul (.pw (.v 0) 2) (.v 4)) (.pw (.v 5) 2)) (.v 6))))) (.add (.add (.neg (.mul (.mul (.pw (.v 0) 2) (.pw (.v 5) 3)) (.v 6))) (.add (.neg (.mul (.mul (.pw (.v 0) 2) (.pw (.v 5) 2)) (.pw (.v 6) 2))) (.mul (.mul (.c 4) (.v 0)) (.pw (.v 1) 3)))) (.add (.mul (.mul (.mul (.c 3) (.v 0)) (.pw (.v 1) 2)) (.v 2)) (.add (.mul (.mul (.mul (.c (-2)) (.v 0)) (.pw (.v 1) 2)) (.pw (.v 4) 2)) (.mul (.mul (.mul (.mul (.c (-4)) (.v 0)) (.pw (.v 1) 2)) (.v 4)) (.v 6)))))) (.add (.add (.add (.mul (.mul (.mul (.c (-4)) (.v 0)) (.pw (.v 1) 2)) (.pw (.v 5) 2)) (.add (.mul (.mul (.mul (.mul (.c 2) (.v 0)) (.pw (.v 1) 2)) (.v 5)) (.v 6)) (.mul (.mul (.mul (.c 3) (.v 0)) (.pw (.v 1) 2)) (.pw (.v 6) 2)))) (.add (.mul (.mul (.mul (.c (-6)) (.v 0)) (.v 1)) (.pw (.v 2) 2)) (.add (.neg (.mul (.mul (.mul (.v 0) (.v 1)) (.v 2)) (.pw (.v 4) 2))) (.mul (.mul (.mul (.mul (.mul (.c (-8)) (.v 0)) (.v 1)) (.v 2)) (.v 4)) (.v 5))))) (.add (.add (.mul (.mul (.mul (.mul (.mul (.c (-6)) (.v 0)) (.v 1)) (.v 2)) (.v 4)) (.v 6)) (.add (.neg (.mul (.mul (.mul (.v 0) (.v 1)) (.v 2)) (.pw (.v 5) 2))) (.mul (.mul (.mul (.mul (.mul (.c 6) (.v 0)) (.v 1)) (.v 2)) (.v 5)) (.v 6)))) (.add (.mul (.mul (.mul (.mul (.c 6) (.v 0)) (.v 1)) (.v 2)) (.pw (.v 6) 2)) (.add (.mul (.mul (.mul (.mul (.c (-6)) (.v 0)) (.v 1)) (.v 3)) (.v 4)) (.mul (.mul (.mul (.mul (.c 2) (.v 0)) (.v 1)) (.v 3)) (.v 5)))))))) (.add (.add (.add (.add (.add (.neg (.mul (.mul (.v 0) (.v 1)) (.pw (.v 4) 4))) (.mul (.mul (.mul (.v 0) (.v 1)) (.pw (.v 4) 3)) (.v 5))) (.add (.mul (.mul (.mul (.mul (.c 5) (.v 0)) (.v 1)) (.pw (.v 4) 3)) (.v 6)) (.add (.mul (.mul (.mul (.mul (.c 2) (.v 0)) (.v 1)) (.pw (.v 4) 2)) (.pw (.v 5) 2)) (.mul (.mul (.mul (.mul (.mul (.c (-3)) (.v 0)) (.v 1)) (.pw (.v 4) 2)) (.v 5)) (.v 6))))) (.add (.add (.mul (.mul (.mul (.mul (.c (-4)) (.v 0)) (.v 1)) (.pw (.v 4) 2)) (.pw (.v 6) 2)) (.add (.mul (.mul (.mul (.v 0) (.v 1)) (.v 4)) (.pw (.v 5) 3)) (.mul (.mul (.mul (.mul (.mul (.c 3) (.v 0)) (.v 1)) (.v 4)) (.pw (.v 5) 2)) (.v 6)))) (.add (.mul (.mul (.v 0) (.v 1)) (.pw (.v 5) 4)) (.add (.neg (.mul (.mul (.mul (.v 0) (.v 1)) (.pw (.v 5) 3)) (.v 6))) (.mul (.mul (.mul (.mul (.c (-2)) (.v 0)) (.v 1)) (.pw (.v 5) 2)) (.pw (.v 6) 2)))))) (.add (.add (.add (.mul (.mul (.c (-5)) (.v 0)) (.pw (.v 2) 3)) (.add (.mul (.mul (.mul (.c 3) (.v 0)) (.pw (.v 2) 2)) (.pw (.v 4) 2)) (.mul (.mul (.mul (.mul (.c (-4)) (.v 0)) (.pw (.v 2) 2)) (.v 4)) (.v 5)))) (.add (.mul (.mul (.mul (.mul (.c (-2)) (.v 0)) (.pw (.v 2) 2)) (.v 4)) (.v 6)) (.add (.mul (.mul (.mul (.c 5) (.v 0)) (.pw (.v 2) 2)) (.pw (.v 5) 2)) (.mul (.mul (.mul (.mul (.c 4) (.v 0)) (.pw (.v 2) 2)) (.v 5)) (.v 6))))) (.add (.add (.mul (.mul (.mul (.c 3) (.v 0)) (.pw (.v 2) 2)) (.pw (.v 6) 2)) (.add (.mul (.mul (.mul (.mul (.c (-4)) (.v 0)) (.v 2)) (.v 3)) (.v 4)) (.mul (.mul (.mul (.mul (.c 4) (.v 0)) (.v 2)) (.v 3)) (.v 5)))) (.add (.mul (.mul (.mul (.mul (.c 5) (.v 0)) (.v 2)) (.pw (.v 4) 3)) (.v 5)) (.add (.mul (.mul (.mul (.mul (.c 5) (.v 0)) (.v 2)) (.pw (.v 4) 3)) (.v 6)) (.mul (.mul (.mul (.mul (.mul (.c (-3)) (.v 0)) (.v 2)) (.pw (.v 4) 2)) (.v 5)) (.v 6))))))) (.add (.add (.add (.add (.mul (.mul (.mul (.mul (.c (-4)) (.v 0)) (.v 2)) (.pw (.v 4) 2)) (.pw (.v 6) 2)) (.add (.mul (.mul (.mul (.mul (.c 3) (.v 0)) (.v 2)) (.v 4)) (.pw (.v 5) 3)) (.mul (.mul (.mul (.mul (.v 0) (.v 2)) (.v 4)) (.pw (.v 5) 2)) (.v 6)))) (.add (.neg (.mul (.mul (.v 0) (.v 2)) (.pw (.v 5) 4))) (.add (.mul (.mul (.mul (.mul (.c (-3)) (.v 0)) (.v 2)) (.pw (.v 5) 3)) (.v 6)) (.mul (.mul (.mul (.mul (.c (-2)) (.v 0)) (.v 2)) (.pw (.v 5) 2)) (.pw (.v 6) 2))))) (.add (.add (.mul (.mul (.mul (.c 2) (.v 0)) (.v 3)) (.pw (.v 4) 3)) (.add (.mul (.mul (.mul (.mul (.c 2) (.v 0)) (.v 3)) (.pw (.v 4) 2)) (.v 6)) (.mul (.mul (.mul (.mul (.c 4) (.v 0)) (.v 3)) (.v 4)) (.pw (.v 5) 2)))) (.add (.mul (.mul (.mul (.c (-2)) (.v 0)) (.v 3)) (.pw (.v 5) 3)) (.add (.mul (.mul (.mul (.mul (.c (-2)) (.v 0)) (.v 3)) (.pw (.v 5) 2)) (.v 6)) (.mul (.v 0) (.pw (.v 4) 6)))))) (.add (.add (.add (.mul (.mul (.mul (.c (-2)) (.v 0)) (.pw (.v 4) 5)) (.v 6)) (.add (.neg (.mul (.mul (.v 0) (.pw (.v 4) 4)) (.pw (.v 5) 2))) (.mul (.mul (.v 0) (.pw (.v 4) 4)) (.pw (.v 6) 2)))) (.add (.mul (.mul (.mul (.c (-2)) (.v 0)) (.pw (.v 4) 3)) (.pw (.v 5) 3)) (.add (.mul (.mul (.mul (.mul (.c (-2)) (.v 0)) (.pw (.v 4) 3)) (.pw (.v 5) 2)) (.v 6)) (.mul (.mul (.mul (.mul (.c 2) (.v 0)) (.pw (.v 4) 2)) (.pw (.v 5) 3)) (.v 6))))) (.add (.add (.mul (.mul (.mul (.mul (.c 2) (.v 0)) (.pw (.v 4) 2)) (.pw (.v 5) 2)) (.pw (.v 6) 2)) (.add (.pw (.v 1) 4) (.mul (.pw (.v 1) 3) (.v 2)))) (.add (.neg (.mul (.pw (.v 1) 3) (.pw (.v 4) 2))) (.add (.neg (.mul (.mul (.pw (.v 1) 3) (.v 4)) (.v 5))) (.neg (.mul (.mul (.pw (.v 1) 3) (.v 4)) (.v 6)))))))))) (.add (.add (.add (.add (.add (.add (.mul (.mul (.c (-2)) (.pw (.v 1) 3)) (.pw (.v 5) 2)) (.mul (.mul (.pw (.v 1) 3) (.v 5)) (.v 6))) (.add (.mul (.pw (.v 1) 3) (.pw (.v 6) 2)) (.add (.mul (.mul (.c (-3)) (.pw (.v 1) 2)) (.pw (.v 2) 2)) (.neg (.mul (.mul (.pw (.v 1) 2) (.v 2)) (.pw (.v 4) 2)))))) (.add (.add (.mul (.mul (.mul (.mul (.c (-6)) (.pw (.v 1) 2)) (.v 2)) (.v 4)) (.v 5)) (.add (.mul (.mul (.mul (.mul (.c (-2)) (.pw (.v 1) 2)) (.v 2)) (.v 4)) (.v 6)) (.mul (.mul (.mul (.c (-2)) (.pw (.v 1) 2)) (.v 2)) (.pw (.v 5) 2)))) (.add (.mul (.mul (.mul (.mul (.c 4) (.pw (.v 1) 2)) (.v 2)) (.v 5)) (.v 6)) (.add (.mul (.mul (.mul (.c 3) (.pw (.v 1) 2)) (.v 2)) (.pw (.v 6) 2)) (.mul (.mul (.mul (.c (-2)) (.pw (.v 1) 2)) (.v 3)) (.v 4)))))) (.add (.add (.add (.mul (.mul (.mul (.c 2) (.pw (.v 1) 2)) (.v 3)) (.v 5)) (.add (.mul (.mul (.c 2) (.pw (.v 1) 2)) (.pw (.v 4) 4)) (.mul (.mul (.mul (.c 5) (.pw (.v 1) 2)) (.pw (.v 4) 3)) (.v 5)))) (.add (.mul (.mul (.pw (.v 1) 2) (.pw (.v 4) 3)) (.v 6)) (.add (.mul (.mul (.pw (.v 1) 2) (.pw (.v 4) 2)) (.pw (.v 5) 2)) (.mul (.mul (.mul (.mul (.c (-3)) (.pw (.v 1) 2)) (.pw (.v 4) 2)) (.v 5)) (.v 6))))) (.add (.add (.mul (.mul (.mul (.c (-2)) (.pw (.v 1) 2)) (.pw (.v 4) 2)) (.pw (.v 6) 2)) (.add (.mul (.mul (.mul (.c (-2)) (.pw (.v 1) 2)) (.v 4)) (.pw (.v 5) 3)) (.mul (.mul (.mul (.mul (.c 2) (.pw (.v 1) 2)) (.v 4)) (.pw (.v 5) 2)) (.v 6)))) (.add (.neg (.mul (.mul (.pw (.v 1) 2) (.pw (.v 5) 2)) (.pw (.v 6) 2))) (.add (.mul (.mul (.c (-5)) (.v 1)) (.pw (.v 2) 3)) (.mul (.mul (.mul (.c 3) (.v 1)) (.pw (.v 2) 2)) (.pw (.v 4) 2))))))) (.add (.add (.add (.add (.mul (.mul (.mul (.mul (.c (-5)) (.v 1)) (.pw (.v 2) 2)) (.v 4)) (.v 5)) (.add (.neg (.mul (.mul (.mul (.v 1) (.pw (.v 2) 2)) (.v 4)) (.v 6))) (.mul (.mul (.mul (.c 4) (.v 1)) (.pw (.v 2) 2)) (.pw (.v 5) 2)))) (.add (.mul (.mul (.mul (.mul (.c 5) (.v 1)) (.pw (.v 2) 2)) (.v 5)) (.v 6)) (.add (.mul (.mul (.mul (.c 3) (.v 1)) (.pw (.v 2) 2)) (.pw (.v 6) 2)) (.mul (.mul (.mul (.mul (.c (-2)) (.v 1)) (.v 2)) (.v 3)) (.v 4))))) (.add (.add (.mul (.mul (.mul (.mul (.c 6) (.v 1)) (.v 2)) (.v 3)) (.v 5)) (.add (.mul (.mul (.mul (.mul (.c 4) (.v 1)) (.v 2)) (.pw (.v 4) 3)) (.v 5)) (.mul (.mul (.mul (.mul (.c 2) (.v 1)) (.v 2)) (.pw (.v 4) 3)) (.v 6)))) (.add (.neg (.mul (.mul (.mul (.v 1) (.v 2)) (.pw (.v 4) 2)) (.pw (.v 5) 2))) (.add (.mul (.mul (.mul (.mul (.mul (.c (-6)) (.v 1)) (.v 2)) (.pw (.v 4) 2)) (.v 5)) (.v 6)) (.mul (.mul (.mul (.mul (.c (-4)) (.v 1)) (.v 2)) (.pw (.v 4) 2)) (.pw (.v 6) 2)))))) (.add (.add (.add (.mul (.mul (.mul (.mul (.c 6) (.v 1)) (.v 2)) (.v 4)) (.pw (.v 5) 3)) (.add (.mul (.mul (.mul (.mul (.mul (.c 2) (.v 1)) (.v 2)) (.v 4)) (.pw (.v 5) 2)) (.v 6)) (.mul (.mul (.mul (.c 2) (.v 1)) (.v 2)) (.pw (.v 5) 4)))) (.add (.mul (.mul (.mul (.mul (.c (-2)) (.v 1)) (.v 2)) (.pw (.v 5) 3)) (.v 6)) (.add (.mul (.mul (.mul (.mul (.c (-2)) (.v 1)) (.v 2)) (.pw (.v 5) 2)) (.pw (.v 6) 2)) (.mul (.mul (.mul (.c (-4)) (.v 1)) (.v 3)) (.pw (.v 4) 3))))) (.add (.add (.mul (.mul (.mul (.mul (.c (-6)) (.v 1)) (.v 3)) (.pw (.v 4) 2)) (.v 5)) (.add (.mul (.mul (.mul (.mul (.c 2) (.v 1)) (.v 3)) (.pw (.v 4) 2)) (.v 6)) (.mul (.mul (.mul (.mul (.c 8) (.v 1)) (.v 3)) (.v 4)) (.pw (.v 5) 2)))) (.add (.mul (.mul (.mul (.c 2) (.v 1)) (.v 3)) (.pw (.v 5) 3)) (.add (.mul (.mul (.mul (.mul (.c (-2)) (.v 1)) (.v 3)) (.pw (.v 5) 2)) (.v 6)) (.neg (.mul (.v 1) (.pw (.v 4) 6))))))))) (.add (.add (.add (.add (.add (.mul (.mul (.mul (.c (-2)) (.v 1)) (.pw (.v 4) 5)) (.v 5)) (.mul (.mul (.v 1) (.pw (.v 4) 4)) (.pw (.v 5) 2))) (.add (.mul (.mul (.mul (.mul (.c 2) (.v 1)) (.pw (.v 4) 4)) (.v 5)) (.v 6)) (.add (.mul (.mul (.v 1) (.pw (.v 4) 4)) (.pw (.v 6) 2)) (.neg (.mul (.mul (.v 1) (.pw (.v 4) 3)) (.pw (.v 5) 3)))))) (.add (.add (.mul (.mul (.mul (.mul (.c (-3)) (.v 1)) (.pw (.v 4) 3)) (.pw (.v 5) 2)) (.v 6)) (.add (.neg (.mul (.mul (.v 1) (.pw (.v 4) 2)) (.pw (.v 5) 4))) (.mul (.mul (.mul (.v 1) (.pw (.v 4) 2)) (.pw (.v 5) 3)) (.v 6)))) (.add (.mul (.mul (.mul (.mul (.c 2) (.v 1)) (.pw (.v 4) 2)) (.pw (.v 5) 2)) (.pw (.v 6) 2)) (.add (.mul (.c (-2)) (.pw (.v 2) 4)) (.mul (.mul (.c 3) (.pw (.v 2) 3)) (.pw (.v 4) 2)))))) (.add (.add (.add (.mul (.mul (.c 4) (.pw (.v 2) 3)) (.pw (.v 5) 2)) (.add (.mul (.mul (.mul (.c 2) (.pw (.v 2) 3)) (.v 5)) (.v 6)) (.mul (.pw (.v 2) 3) (.pw (.v 6) 2)))) (.add (.mul (.mul (.mul (.c 4) (.pw (.v 2) 2)) (.v 3)) (.v 5)) (.add (.mul (.mul (.mul (.c 3) (.pw (.v 2) 2)) (.pw (.v 4) 3)) (.v 5)) (.mul (.mul (.pw (.v 2) 2) (.pw (.v 4) 3)) (.v 6))))) (.add (.add (.mul (.mul (.mul (.c (-4)) (.pw (.v 2) 2)) (.pw (.v 4) 2)) (.pw (.v 5) 2)) (.add (.mul (.mul (.mul (.mul (.c (-3)) (.pw (.v 2) 2)) (.pw (.v 4) 2)) (.v 5)) (.v 6)) (.mul (.mul (.mul (.c (-2)) (.pw (.v 2) 2)) (.pw (.v 4) 2)) (.pw (.v 6) 2)))) (.add (.mul (.mul (.c (-2)) (.pw (.v 2) 2)) (.pw (.v 5) 4)) (.add (.mul (.mul (.mul (.c (-2)) (.pw (.v 2) 2)) (.pw (.v 5) 3)) (.v 6)) (.neg (.mul (.mul (.pw (.v 2) 2) (.pw (.v 5) 2)) (.pw (.v 6) 2)))))))) (.add (.add (.add (.add (.mul (.mul (.mul (.c 2) (.v 2)) (.v 3)) (.pw (.v 4) 3)) (.add (.mul (.mul (.mul (.mul (.c 2) (.v 2)) (.v 3)) (.pw (.v 4) 2)) (.v 6)) (.mul (.mul (.mul (.c (-6)) (.v 2)) (.v 3)) (.pw (.v 5) 3)))) (.add (.mul (.mul (.mul (.mul (.c (-2)) (.v 2)) (.v 3)) (.pw (.v 5) 2)) (.v 6)) (.add (.neg (.mul (.mul (.v 2) (.pw (.v 4) 5)) (.v 5))) (.neg (.mul (.mul (.v 2) (.pw (.v 4) 5)) (.v 6)))))) (.add (.add (.mul (.mul (.mul (.v 2) (.pw (.v 4) 4)) (.v 5)) (.v 6)) (.add (.mul (.mul (.v 2) (.pw (.v 4) 4)) (.pw (.v 6) 2)) (.mul (.mul (.mul (.c (-3)) (.v 2)) (.pw (.v 4) 3)) (.pw (.v 5) 3)))) (.add (.neg (.mul (.mul (.mul (.v 2) (.pw (.v 4) 3)) (.pw (.v 5) 2)) (.v 6))) (.add (.mul (.mul (.v 2) (.pw (.v 4) 2)) (.pw (.v 5) 4)) (.mul (.mul (.mul (.mul (.c 3) (.v 2)) (.pw (.v 4) 2)) (.pw (.v 5) 3)) (.v 6)))))) (.add (.add (.add (.mul (.mul (.mul (.mul (.c 2) (.v 2)) (.pw (.v 4) 2)) (.pw (.v 5) 2)) (.pw (.v 6) 2)) (.add (.mul (.mul (.c 4) (.pw (.v 3) 2)) (.pw (.v 4) 2)) (.mul (.mul (.c (-4)) (.pw (.v 3) 2)) (.pw (.v 5) 2)))) (.add (.mul (.mul (.c 2) (.v 3)) (.pw (.v 4) 5)) (.add (.mul (.mul (.mul (.c (-2)) (.v 3)) (.pw (.v 4) 4)) (.v 6)) (.mul (.mul (.mul (.c (-4)) (.v 3)) (.pw (.v 4) 3)) (.pw (.v 5) 2))))) (.add (.add (.mul (.mul (.mul (.c 2) (.v 3)) (.pw (.v 4) 2)) (.pw (.v 5) 3)) (.add (.mul (.mul (.mul (.mul (.c 2) (.v 3)) (.pw (.v 4) 2)) (.pw (.v 5) 2)) (.v 6)) (.mul (.pw (.v 4) 5) (.pw (.v 5) 3)))) (.add (.mul (.mul (.pw (.v 4) 5) (.pw (.v 5) 2)) (.v 6)) (.add (.neg (.mul (.mul (.pw (.v 4) 4) (.pw (.v 5) 3)) (.v 6))) (.neg (.mul (.mul (.pw (.v 4) 4) (.pw (.v 5) 2)) (.pw (.v 6) 2))))))))))),.sub (.mul (.v 6) (.sub (.sub (.sub (.mul (.v 4) (.v 4)) (.v 0)) (.v 1)) (.v 2))) (.sub (.sub (.mul (.v 4) (.sub (.v 1) (.sub (.sub (.mul (.v 4) (.v 4)) (.v 0)) (.v 1)))) (.v 3)) (.add (.v 3) (.mul (.v 5) (.sub (.v 2) (.v 1)))))),
  ((.add (.add (.add (.add (.add (.neg (.mul (.pw (.v 0) 3) (.v 1))) (.add (.mul (.pw (.v 0) 3) (.v 2)) (.mul (.pw (.v 0) 3) (.pw (.v 4) 2)))) (.add (.neg (.mul (.pw (.v 0) 3) (.pw (.v 6) 2))) (.add (.mul (.mul (.c (-3)) (.pw (.v 0) 2)) (.pw (.v 1) 2)) (.mul (.mul (.mul (.c 6) (.pw (.v 0) 2)) (.v 1)) (.pw (.v 4) 2))))) (.add (.add (.mul (.mul (.mul (.c (-3)) (.pw (.v 0) 2)) (.v 1)) (.pw (.v 6) 2)) (.add (.mul (.mul (.c 3) (.pw (.v 0) 2)) (.pw (.v 2) 2)) (.mul (.mul (.mul (.c (-3)) (.pw (.v 0) 2)) (.v 2)) (.pw (.v 6) 2)))) (.add (.mul (.mul (.c (-3)) (.pw (.v 0) 2)) (.pw (.v 4) 4)) (.add (.mul (.mul (.mul (.c 3) (.pw (.v 0) 2)) (.pw (.v 4) 2)) (.pw (.v 6) 2)) (.mul (.mul (.c (-3)) (.v 0)) (.pw (.v 1) 3)))))) (.add (.add (.add (.mul (.mul (.mul (.c (-3)) (.v 0)) (.pw (.v 1) 2)) (.v 2)) (.add (.mul (.mul (.mul (.c 9) (.v 0)) (.pw (.v 1) 2)) (.pw (.v 4) 2)) (.mul (.mul (.mul (.c (-3)) (.v 0)) (.pw (.v 1) 2)) (.pw (.v 6) 2)))) (.add (.mul (.mul (.mul (.c 3) (.v 0)) (.v 1)) (.pw (.v 2) 2)) (.add (.mul (.mul (.mul (.mul (.c 6) (.v 0)) (.v 1)) (.v 2)) (.pw (.v 4) 2)) (.mul (.mul (.mul (.mul (.c (-6)) (.v 0)) (.v 1)) (.v 2)) (.pw (.v 6) 2))))) (.add (.add (.mul (.mul (.mul (.c (-9)) (.v 0)) (.v 1)) (.pw (.v 4) 4)) (.add (.mul (.mul (.mul (.mul (.c 6) (.v 0)) (.v 1)) (.pw (.v 4) 2)) (.pw (.v 6) 2)) (.mul (.mul (.c 3) (.v 0)) (.pw (.v 2) 3)))) (.add (.mul (.mul (.mul (.c (-3)) (.v 0)) (.pw (.v 2) 2)) (.pw (.v 4) 2)) (.add (.mul (.mul (.mul (.c (-3)) (.v 0)) (.pw (.v 2) 2)) (.pw (.v 6) 2)) (.mul (.mul (.mul (.c (-3)) (.v 0)) (.v 2)) (.pw (.v 4) 4))))))) (.add (.add (.add (.add (.mul (.mul (.mul (.mul (.c 6) (.v 0)) (.v 2)) (.pw (.v 4) 2)) (.pw (.v 6) 2)) (.add (.mul (.mul (.c 3) (.v 0)) (.pw (.v 4) 6)) (.mul (.mul (.mul (.c (-3)) (.v 0)) (.pw (.v 4) 4)) (.pw (.v 6) 2)))) (.add (.neg (.pw (.v 1) 4)) (.add (.mul (.mul (.c (-2)) (.pw (.v 1) 3)) (.v 2)) (.mul (.mul (.c 4) (.pw (.v 1) 3)) (.pw (.v 4) 2))))) (.add (.add (.neg (.mul (.pw (.v 1) 3) (.pw (.v 6) 2))) (.add (.mul (.mul (.mul (.c 6) (.pw (.v 1) 2)) (.v 2)) (.pw (.v 4) 2)) (.mul (.mul (.mul (.c (-3)) (.pw (.v 1) 2)) (.v 2)) (.pw (.v 6) 2)))) (.add (.mul (.mul (.c (-6)) (.pw (.v 1) 2)) (.pw (.v 4) 4)) (.add (.mul (.mul (.mul (.c 3) (.pw (.v 1) 2)) (.pw (.v 4) 2)) (.pw (.v 6) 2)) (.mul (.mul (.c 2) (.v 1)) (.pw (.v 2) 3)))))) (.add (.add (.add (.mul (.mul (.mul (.c (-3)) (.v 1)) (.pw (.v 2) 2)) (.pw (.v 6) 2)) (.add (.mul (.mul (.mul (.c (-6)) (.v 1)) (.v 2)) (.pw (.v 4) 4)) (.mul (.mul (.mul (.mul (.c 6) (.v 1)) (.v 2)) (.pw (.v 4) 2)) (.pw (.v 6) 2)))) (.add (.mul (.mul (.c 4) (.v 1)) (.pw (.v 4) 6)) (.add (.mul (.mul (.mul (.c (-3)) (.v 1)) (.pw (.v 4) 4)) (.pw (.v 6) 2)) (.pw (.v 2) 4)))) (.add (.add (.mul (.mul (.c (-2)) (.pw (.v 2) 3)) (.pw (.v 4) 2)) (.add (.neg (.mul (.pw (.v 2) 3) (.pw (.v 6) 2))) (.mul (.mul (.mul (.c 3) (.pw (.v 2) 2)) (.pw (.v 4) 2)) (.pw (.v 6) 2)))) (.add (.add (.mul (.mul (.c 2) (.v 2)) (.pw (.v 4) 6)) (.mul (.mul (.mul (.c (-3)) (.v 2)) (.pw (.v 4) 4)) (.pw (.v 6) 2))) (.add (.neg (.pw (.v 4) 8)) (.mul (.pw (.v 4) 6) (.pw (.v 6) 2)))))))),.sub (.mul (.v 7) (.sub (.sub (.sub (.mul (.v 5) (.v 5)) (.v 1)) (.v 2)) (.v 0))) (.sub (.sub (.mul (.v 5) (.sub (.v 1) (.sub (.sub (.mul (.v 5) (.v 5)) (.v 1)) (.v 2)))) (.v 3)) (.add (.v 3) (.mul (.v 4) (.sub (.v 0) (.v 1))))))] ⟨sub_zero_iff.2 r1,sub_zero_iff.2 r2,sub_zero_iff.2 hs,sub_zero_iff.2 ht,trivial⟩ (by kernel_rfl))
theorem spX {F:Type} [CR F] (x h m k s:F) (r2:(((m*k)*h)+((m*k)*h))=(((x*x)+(x*(x+(h+h))))+((x+(h+h))*(x+(h+h))))) (rs:((((k+m)*h)+((k+m)*h))*s)=((((x+(h+h))*(x+(h+h)))+((x+(h+h))*(x+(h+h))))+((x+(h+h))*(x+(h+h))))):(((((k+m)*h)+((k+m)*h))*(((k+m)*h)+((k+m)*h)))*((((((m*m)-x)-(x+(h+h)))-(((k*k)-x)-(x+(h+h))))*((((m*m)-x)-(x+(h+h)))-(((k*k)-x)-(x+(h+h)))))*(((s*s)-(x+(h+h)))-(x+(h+h)))))=(((((k+m)*h)+((k+m)*h))*(((k+m)*h)+((k+m)*h)))*(((((m*(x-(((m*m)-x)-(x+(h+h)))))-((k-m)*h))-((k*(x-(((k*k)-x)-(x+(h+h)))))+((k-m)*h)))*(((m*(x-(((m*m)-x)-(x+(h+h)))))-((k-m)*h))-((k*(x-(((k*k)-x)-(x+(h+h)))))+((k-m)*h))))-((((((m*m)-x)-(x+(h+h)))-(((k*k)-x)-(x+(h+h))))*((((m*m)-x)-(x+(h+h)))-(((k*k)-x)-(x+(h+h)))))*((((k*k)-x)-(x+(h+h)))+(((m*m)-x)-(x+(h+h))))))) :=
 sub_zero_iff.1 (lin [x,h,m,k,s] (.sub (.mul (.mul (.add (.mul (.add (.v 3) (.v 2)) (.v 1)) (.mul (.add (.v 3) (.v 2)) (.v 1))) (.add (.mul (.add (.v 3) (.v 2)) (.v 1)) (.mul (.add (.v 3) (.v 2)) (.v 1)))) (.mul (.mul (.sub (.sub (.sub (.mul (.v 2) (.v 2)) (.v 0)) (.add (.v 0) (.add (.v 1) (.v 1)))) (.sub (.sub (.mul (.v 3) (.v 3)) (.v 0)) (.add (.v 0) (.add (.v 1) (.v 1))))) (.sub (.sub (.sub (.mul (.v 2) (.v 2)) (.v 0)) (.add (.v 0) (.add (.v 1) (.v 1)))) (.sub (.sub (.mul (.v 3) (.v 3)) (.v 0)) (.add (.v 0) (.add (.v 1) (.v 1)))))) (.sub (.sub (.mul (.v 4) (.v 4)) (.add (.v 0) (.add (.v 1) (.v 1)))) (.add (.v 0) (.add (.v 1) (.v 1)))))) (.mul (.mul (.add (.mul (.add (.v 3) (.v 2)) (.v 1)) (.mul (.add (.v 3) (.v 2)) (.v 1))) (.add (.mul (.add (.v 3) (.v 2)) (.v 1)) (.mul (.add (.v 3) (.v 2)) (.v 1)))) (.sub (.mul (.sub (.sub (.mul (.v 2) (.sub (.v 0) (.sub (.sub (.mul (.v 2) (.v 2)) (.v 0)) (.add (.v 0) (.add (.v 1) (.v 1)))))) (.mul (.sub (.v 3) (.v 2)) (.v 1))) (.add (.mul (.v 3) (.sub (.v 0) (.sub (.sub (.mul (.v 3) (.v 3)) (.v 0)) (.add (.v 0) (.add (.v 1) (.v 1)))))) (.mul (.sub (.v 3) (.v 2)) (.v 1)))) (.sub (.sub (.mul (.v 2) (.sub (.v 0) (.sub (.sub (.mul (.v 2) (.v 2)) (.v 0)) (.add (.v 0) (.add (.v 1) (.v 1)))))) (.mul (.sub (.v 3) (.v 2)) (.v 1))) (.add (.mul (.v 3) (.sub (.v 0) (.sub (.sub (.mul (.v 3) (.v 3)) (.v 0)) (.add (.v 0) (.add (.v 1) (.v 1)))))) (.mul (.sub (.v 3) (.v 2)) (.v 1))))) (.mul (.mul (.sub (.sub (.sub (.mul (.v 2) (.v 2)) (.v 0)) (.add (.v 0) (.add (.v 1) (.v 1)))) (.sub (.sub (.mul (.v 3) (.v 3)) (.v 0)) (.add (.v 0) (.add (.v 1) (.v 1))))) (.sub (.sub (.sub (.mul (.v 2) (.v 2)) (.v 0)) (.add (.v 0) (.add (.v 1) (.v 1)))) (.sub (.sub (.mul (.v 3) (.v 3)) (.v 0)) (.add (.v 0) (.add (.v 1) (.v 1)))))) (.add (.sub (.sub (.mul (.v 3) (.v 3)) (.v 0)) (.add (.v 0) (.add (.v 1) (.v 1)))) (.sub (.sub (.mul (.v 2) (.v 2)) (.v 0)) (.add (.v 0) (.add (.v 1) (.v 1))))))))) [((.add (.add (.add (.mul (.mul (.c (-3)) (.pw (.v 0) 2)) (.pw (.v 2) 4)) (.add (.mul (.mul (.mul (.c 6) (.pw (.v 0) 2)) (.pw (.v 2) 2)) (.pw (.v 3) 2)) (.mul (.mul (.c (-3)) (.pw (.v 0) 2)) (.pw (.v 3) 4)))) (.add (.mul (.mul (.mul (.c (-18)) (.v 0)) (.v 1)) (.pw (.v 2) 4)) (.add (.mul (.mul (.mul (.mul (.c 36) (.v 0)) (.v 1)) (.pw (.v 2) 2)) (.pw (.v 3) 2)) (.mul (.mul (.mul (.c (-18)) (.v 0)) (.v 1)) (.pw (.v 3) 4))))) (.add (.add (.mul (.mul (.c (-20)) (.pw (.v 1) 2)) (.pw (.v 2) 4)) (.add (.mul (.mul (.mul (.c 40) (.pw (.v 1) 2)) (.pw (.v 2) 2)) (.pw (.v 3) 2)) (.mul (.mul (.c (-20)) (.pw (.v 1) 2)) (.pw (.v 3) 4)))) (.add (.mul (.mul (.mul (.c (-2)) (.v 1)) (.pw (.v 2) 5)) (.v 3)) (.add (.mul (.mul (.mul (.c 4) (.v 1)) (.pw (.v 2) 3)) (.pw (.v 3) 3)) (.mul (.mul (.mul (.c (-2)) (.v 1)) (.v 2)) (.pw (.v 3) 5)))))),.sub (.add (.mul (.mul (.v 2) (.v 3)) (.v 1)) (.mul (.mul (.v 2) (.v 3)) (.v 1))) (.add (.add (.mul (.v 0) (.v 0)) (.mul (.v 0) (.add (.v 0) (.add (.v 1) (.v 1))))) (.mul (.add (.v 0) (.add (.v 1) (.v 1))) (.add (.v 0) (.add (.v 1) (.v 1)))))),
  ((.add (.add (.add (.mul (.mul (.c 3) (.pw (.v 0) 2)) (.pw (.v 2) 4)) (.add (.mul (.mul (.mul (.c (-6)) (.pw (.v 0) 2)) (.pw (.v 2) 2)) (.pw (.v 3) 2)) (.mul (.mul (.c 3) (.pw (.v 0) 2)) (.pw (.v 3) 4)))) (.add (.add (.mul (.mul (.mul (.c 12) (.v 0)) (.v 1)) (.pw (.v 2) 4)) (.mul (.mul (.mul (.mul (.c (-24)) (.v 0)) (.v 1)) (.pw (.v 2) 2)) (.pw (.v 3) 2))) (.add (.mul (.mul (.mul (.c 12) (.v 0)) (.v 1)) (.pw (.v 3) 4)) (.mul (.mul (.c 12) (.pw (.v 1) 2)) (.pw (.v 2) 4))))) (.add (.add (.add (.mul (.mul (.mul (.c (-24)) (.pw (.v 1) 2)) (.pw (.v 2) 2)) (.pw (.v 3) 2)) (.mul (.mul (.c 12) (.pw (.v 1) 2)) (.pw (.v 3) 4))) (.add (.mul (.mul (.mul (.c 2) (.v 1)) (.pw (.v 2) 5)) (.v 4)) (.mul (.mul (.mul (.mul (.c 2) (.v 1)) (.pw (.v 2) 4)) (.v 3)) (.v 4)))) (.add (.add (.mul (.mul (.mul (.mul (.c (-4)) (.v 1)) (.pw (.v 2) 3)) (.pw (.v 3) 2)) (.v 4)) (.mul (.mul (.mul (.mul (.c (-4)) (.v 1)) (.pw (.v 2) 2)) (.pw (.v 3) 3)) (.v 4))) (.add (.mul (.mul (.mul (.mul (.c 2) (.v 1)) (.v 2)) (.pw (.v 3) 4)) (.v 4)) (.mul (.mul (.mul (.c 2) (.v 1)) (.pw (.v 3) 5)) (.v 4)))))),.sub (.mul (.add (.mul (.add (.v 3) (.v 2)) (.v 1)) (.mul (.add (.v 3) (.v 2)) (.v 1))) (.v 4)) (.add (.add (.mul (.add (.v 0) (.add (.v 1) (.v 1))) (.add (.v 0) (.add (.v 1) (.v 1)))) (.mul (.add (.v 0) (.add (.v 1) (.v 1))) (.add (.v 0) (.add (.v 1) (.v 1))))) (.mul (.add (.v 0) (.add (.v 1) (.v 1))) (.add (.v 0) (.add (.v 1) (.v 1))))))] ⟨sub_zero_iff.2 r2,sub_zero_iff.2 rs,trivial⟩ (by kernel_rfl))
theorem spY {F:Type} [CR F] (x h m k s:F) (r2:(((m*k)*h)+((m*k)*h))=(((x*x)+(x*(x+(h+h))))+((x+(h+h))*(x+(h+h))))) (rs:((((k+m)*h)+((k+m)*h))*s)=((((x+(h+h))*(x+(h+h)))+((x+(h+h))*(x+(h+h))))+((x+(h+h))*(x+(h+h))))):((((((k+m)*h)+((k+m)*h))*(((k+m)*h)+((k+m)*h)))*(((k+m)*h)+((k+m)*h)))*(((((m*m)-x)-(x+(h+h)))-(((k*k)-x)-(x+(h+h))))*((s*((x+(h+h))-(((s*s)-(x+(h+h)))-(x+(h+h)))))-((k+m)*h))))=((((((k+m)*h)+((k+m)*h))*(((k+m)*h)+((k+m)*h)))*(((k+m)*h)+((k+m)*h)))*(((((m*(x-(((m*m)-x)-(x+(h+h)))))-((k-m)*h))-((k*(x-(((k*k)-x)-(x+(h+h)))))+((k-m)*h)))*((((k*k)-x)-(x+(h+h)))-(((s*s)-(x+(h+h)))-(x+(h+h)))))-(((((m*m)-x)-(x+(h+h)))-(((k*k)-x)-(x+(h+h))))*((k*(x-(((k*k)-x)-(x+(h+h)))))+((k-m)*h))))) :=
 sub_zero_iff.1 (lin [x,h,m,k,s] (.sub (.mul (.mul (.mul (.add (.mul (.add (.v 3) (.v 2)) (.v 1)) (.mul (.add (.v 3) (.v 2)) (.v 1))) (.add (.mul (.add (.v 3) (.v 2)) (.v 1)) (.mul (.add (.v 3) (.v 2)) (.v 1)))) (.add (.mul (.add (.v 3) (.v 2)) (.v 1)) (.mul (.add (.v 3) (.v 2)) (.v 1)))) (.mul (.sub (.sub (.sub (.mul (.v 2) (.v 2)) (.v 0)) (.add (.v 0) (.add (.v 1) (.v 1)))) (.sub (.sub (.mul (.v 3) (.v 3)) (.v 0)) (.add (.v 0) (.add (.v 1) (.v 1))))) (.sub (.mul (.v 4) (.sub (.add (.v 0) (.add (.v 1) (.v 1))) (.sub (.sub (.mul (.v 4) (.v 4)) (.add (.v 0) (.add (.v 1) (.v 1)))) (.add (.v 0) (.add (.v 1) (.v 1)))))) (.mul (.add (.v 3) (.v 2)) (.v 1))))) (.mul (.mul (.mul (.add (.mul (.add (.v 3) (.v 2)) (.v 1)) (.mul (.add (.v 3) (.v 2)) (.v 1))) (.add (.mul (.add (.v 3) (.v 2)) (.v 1)) (.mul (.add (.v 3) (.v 2)) (.v 1)))) (.add (.mul (.add (.v 3) (.v 2)) (.v 1)) (.mul (.add (.v 3) (.v 2)) (.v 1)))) (.sub (.mul (.sub (.sub (.mul (.v 2) (.sub (.v 0) (.sub (.sub (.mul (.v 2) (.v 2)) (.v 0)) (.add (.v 0) (.add (.v 1) (.v 1)))))) (.mul (.sub (.v 3) (.v 2)) (.v 1))) (.add (.mul (.v 3) (.sub (.v 0) (.sub (.sub (.mul (.v 3) (.v 3)) (.v 0)) (.add (.v 0) (.add (.v 1) (.v 1)))))) (.mul (.sub (.v 3) (.v 2)) (.v 1)))) (.sub (.sub (.sub (.mul (.v 3) (.v 3)) (.v 0)) (.add (.v 0) (.add (.v 1) (.v 1)))) (.sub (.sub (.mul (.v 4) (.v 4)) (.add (.v 0) (.add (.v 1) (.v 1)))) (.add (.v 0) (.add (.v 1) (.v 1)))))) (.mul (.sub (.sub (.sub (.mul (.v 2) (.v 2)) (.v 0)) (.add (.v 0) (.add (.v 1) (.v 1)))) (.sub (.sub (.mul (.v 3) (.v 3)) (.v 0)) (.add (.v 0) (.add (.v 1) (.v 1))))) (.add (.mul (.v 3) (.sub (.v 0) (.sub (.sub (.mul (.v 3) (.v 3)) (.v 0)) (.add (.v 0) (.add (.v 1) (.v 1)))))) (.mul (.sub (.v 3) (.v 2)) (.v 1))))))) [((.add (.add (.add (.add (.mul (.mul (.c 9) (.pw (.v 0) 4)) (.pw (.v 2) 2)) (.add (.mul (.mul (.c (-9)) (.pw (.v 0) 4)) (.pw (.v 3) 2)) (.mul (.mul (.mul (.c 72) (.pw (.v 0) 3)) (.v 1)) (.pw (.v 2) 2)))) (.add (.mul (.mul (.mul (.c (-72)) (.pw (.v 0) 3)) (.v 1)) (.pw (.v 3) 2)) (.add (.mul (.mul (.mul (.c 216) (.pw (.v 0) 2)) (.pw (.v 1) 2)) (.pw (.v 2) 2)) (.mul (.mul (.mul (.c (-216)) (.pw (.v 0) 2)) (.pw (.v 1) 2)) (.pw (.v 3) 2))))) (.add (.add (.mul (.mul (.mul (.c 6) (.pw (.v 0) 2)) (.v 1)) (.pw (.v 2) 4)) (.add (.mul (.mul (.mul (.mul (.c 12) (.pw (.v 0) 2)) (.v 1)) (.pw (.v 2) 3)) (.v 3)) (.mul (.mul (.mul (.mul (.c (-12)) (.pw (.v 0) 2)) (.v 1)) (.v 2)) (.pw (.v 3) 3)))) (.add (.add (.mul (.mul (.mul (.c (-6)) (.pw (.v 0) 2)) (.v 1)) (.pw (.v 3) 4)) (.mul (.mul (.mul (.c 288) (.v 0)) (.pw (.v 1) 3)) (.pw (.v 2) 2))) (.add (.mul (.mul (.mul (.c (-288)) (.v 0)) (.pw (.v 1) 3)) (.pw (.v 3) 2)) (.mul (.mul (.mul (.c 24) (.v 0)) (.pw (.v 1) 2)) (.pw (.v 2) 4)))))) (.add (.add (.add (.mul (.mul (.mul (.mul (.c 48) (.v 0)) (.pw (.v 1) 2)) (.pw (.v 2) 3)) (.v 3)) (.add (.mul (.mul (.mul (.mul (.c (-48)) (.v 0)) (.pw (.v 1) 2)) (.v 2)) (.pw (.v 3) 3)) (.mul (.mul (.mul (.c (-24)) (.v 0)) (.pw (.v 1) 2)) (.pw (.v 3) 4)))) (.add (.mul (.mul (.c 144) (.pw (.v 1) 4)) (.pw (.v 2) 2)) (.add (.mul (.mul (.c (-144)) (.pw (.v 1) 4)) (.pw (.v 3) 2)) (.mul (.mul (.c 16) (.pw (.v 1) 3)) (.pw (.v 2) 4))))) (.add (.add (.mul (.mul (.mul (.c 32) (.pw (.v 1) 3)) (.pw (.v 2) 3)) (.v 3)) (.add (.mul (.mul (.mul (.c (-32)) (.pw (.v 1) 3)) (.v 2)) (.pw (.v 3) 3)) (.mul (.mul (.c (-16)) (.pw (.v 1) 3)) (.pw (.v 3) 4)))) (.add (.add (.mul (.mul (.mul (.c 4) (.pw (.v 1) 2)) (.pw (.v 2) 5)) (.v 3)) (.mul (.mul (.mul (.c 8) (.pw (.v 1) 2)) (.pw (.v 2) 4)) (.pw (.v 3) 2))) (.add (.mul (.mul (.mul (.c (-8)) (.pw (.v 1) 2)) (.pw (.v 2) 2)) (.pw (.v 3) 4)) (.mul (.mul (.mul (.c (-4)) (.pw (.v 1) 2)) (.v 2)) (.pw (.v 3) 5))))))),.sub (.add (.mul (.mul (.v 2) (.v 3)) (.v 1)) (.mul (.mul (.v 2) (.v 3)) (.v 1))) (.add (.add (.mul (.v 0) (.v 0)) (.mul (.v 0) (.add (.v 0) (.add (.v 1) (.v 1))))) (.mul (.add (.v 0) (.add (.v 1) (.v 1))) (.add (.v 0) (.add (.v 1) (.v 1)))))),
  ((.add (.add (.add (.add (.add (.mul (.mul (.c (-9)) (.pw (.v 0) 4)) (.pw (.v 2) 2)) (.mul (.mul (.c 9) (.pw (.v 0) 4)) (.pw (.v 3) 2))) (.add (.mul (.mul (.mul (.c (-54)) (.pw (.v 0) 3)) (.v 1)) (.pw (.v 2) 2)) (.add (.mul (.mul (.mul (.c 54) (.pw (.v 0) 3)) (.v 1)) (.pw (.v 3) 2)) (.mul (.mul (.mul (.c (-120)) (.pw (.v 0) 2)) (.pw (.v 1) 2)) (.pw (.v 2) 2))))) (.add (.add (.mul (.mul (.mul (.c 120) (.pw (.v 0) 2)) (.pw (.v 1) 2)) (.pw (.v 3) 2)) (.mul (.mul (.mul (.c (-6)) (.pw (.v 0) 2)) (.v 1)) (.pw (.v 2) 4))) (.add (.mul (.mul (.mul (.mul (.c (-6)) (.pw (.v 0) 2)) (.v 1)) (.pw (.v 2) 3)) (.v 3)) (.add (.mul (.mul (.mul (.mul (.c (-6)) (.pw (.v 0) 2)) (.v 1)) (.pw (.v 2) 3)) (.v 4)) (.mul (.mul (.mul (.mul (.mul (.c (-6)) (.pw (.v 0) 2)) (.v 1)) (.pw (.v 2) 2)) (.v 3)) (.v 4)))))) (.add (.add (.add (.mul (.mul (.mul (.mul (.c 6) (.pw (.v 0) 2)) (.v 1)) (.v 2)) (.pw (.v 3) 3)) (.mul (.mul (.mul (.mul (.mul (.c 6) (.pw (.v 0) 2)) (.v 1)) (.v 2)) (.pw (.v 3) 2)) (.v 4))) (.add (.mul (.mul (.mul (.c 6) (.pw (.v 0) 2)) (.v 1)) (.pw (.v 3) 4)) (.add (.mul (.mul (.mul (.mul (.c 6) (.pw (.v 0) 2)) (.v 1)) (.pw (.v 3) 3)) (.v 4)) (.mul (.mul (.mul (.c (-120)) (.v 0)) (.pw (.v 1) 3)) (.pw (.v 2) 2))))) (.add (.add (.mul (.mul (.mul (.c 120) (.v 0)) (.pw (.v 1) 3)) (.pw (.v 3) 2)) (.mul (.mul (.mul (.c (-12)) (.v 0)) (.pw (.v 1) 2)) (.pw (.v 2) 4))) (.add (.mul (.mul (.mul (.mul (.c (-12)) (.v 0)) (.pw (.v 1) 2)) (.pw (.v 2) 3)) (.v 4)) (.add (.mul (.mul (.mul (.mul (.mul (.c (-12)) (.v 0)) (.pw (.v 1) 2)) (.pw (.v 2) 2)) (.v 3)) (.v 4)) (.mul (.mul (.mul (.mul (.mul (.c 12) (.v 0)) (.pw (.v 1) 2)) (.v 2)) (.pw (.v 3) 2)) (.v 4))))))) (.add (.add (.add (.add (.mul (.mul (.mul (.c 12) (.v 0)) (.pw (.v 1) 2)) (.pw (.v 3) 4)) (.mul (.mul (.mul (.mul (.c 12) (.v 0)) (.pw (.v 1) 2)) (.pw (.v 3) 3)) (.v 4))) (.add (.mul (.mul (.c (-48)) (.pw (.v 1) 4)) (.pw (.v 2) 2)) (.add (.mul (.mul (.c 48) (.pw (.v 1) 4)) (.pw (.v 3) 2)) (.mul (.mul (.mul (.c 24) (.pw (.v 1) 3)) (.pw (.v 2) 3)) (.v 3))))) (.add (.add (.mul (.mul (.mul (.c (-8)) (.pw (.v 1) 3)) (.pw (.v 2) 3)) (.v 4)) (.mul (.mul (.mul (.mul (.c (-8)) (.pw (.v 1) 3)) (.pw (.v 2) 2)) (.v 3)) (.v 4))) (.add (.mul (.mul (.mul (.c (-24)) (.pw (.v 1) 3)) (.v 2)) (.pw (.v 3) 3)) (.add (.mul (.mul (.mul (.mul (.c 8) (.pw (.v 1) 3)) (.v 2)) (.pw (.v 3) 2)) (.v 4)) (.mul (.mul (.mul (.c 8) (.pw (.v 1) 3)) (.pw (.v 3) 3)) (.v 4)))))) (.add (.add (.add (.mul (.mul (.mul (.c (-4)) (.pw (.v 1) 2)) (.pw (.v 2) 5)) (.v 4)) (.mul (.mul (.mul (.mul (.c (-8)) (.pw (.v 1) 2)) (.pw (.v 2) 4)) (.v 3)) (.v 4))) (.add (.mul (.mul (.mul (.c (-4)) (.pw (.v 1) 2)) (.pw (.v 2) 4)) (.pw (.v 4) 2)) (.add (.mul (.mul (.mul (.mul (.c (-4)) (.pw (.v 1) 2)) (.pw (.v 2) 3)) (.pw (.v 3) 2)) (.v 4)) (.mul (.mul (.mul (.mul (.c (-8)) (.pw (.v 1) 2)) (.pw (.v 2) 3)) (.v 3)) (.pw (.v 4) 2))))) (.add (.add (.mul (.mul (.mul (.mul (.c 4) (.pw (.v 1) 2)) (.pw (.v 2) 2)) (.pw (.v 3) 3)) (.v 4)) (.mul (.mul (.mul (.mul (.c 8) (.pw (.v 1) 2)) (.v 2)) (.pw (.v 3) 4)) (.v 4))) (.add (.mul (.mul (.mul (.mul (.c 8) (.pw (.v 1) 2)) (.v 2)) (.pw (.v 3) 3)) (.pw (.v 4) 2)) (.add (.mul (.mul (.mul (.c 4) (.pw (.v 1) 2)) (.pw (.v 3) 5)) (.v 4)) (.mul (.mul (.mul (.c 4) (.pw (.v 1) 2)) (.pw (.v 3) 4)) (.pw (.v 4) 2)))))))),.sub (.mul (.add (.mul (.add (.v 3) (.v 2)) (.v 1)) (.mul (.add (.v 3) (.v 2)) (.v 1))) (.v 4)) (.add (.add (.mul (.add (.v 0) (.add (.v 1) (.v 1))) (.add (.v 0) (.add (.v 1) (.v 1)))) (.mul (.add (.v 0) (.add (.v 1) (.v 1))) (.add (.v 0) (.add (.v 1) (.v 1))))) (.mul (.add (.v 0) (.add (.v 1) (.v 1))) (.add (.v 0) (.add (.v 1) (.v 1))))))] ⟨sub_zero_iff.2 r2,sub_zero_iff.2 rs,trivial⟩ (by kernel_rfl))
theorem sp_y {F:Type} [CR F] (y2 y3 h m k:F) (ha:(y3-y2)=(m*(h+h))) (hb:(y3+y2)=(k*(h+h))):((int 2)*y2)=((int 2)*((k-m)*h)) :=
 sub_zero_iff.1 (lin [y2,y3,h,m,k] (.sub (.mul (.c 2) (.v 0)) (.mul (.c 2) (.mul (.sub (.v 4) (.v 3)) (.v 2)))) [((.c (-1)),.sub (.sub (.v 1) (.v 0)) (.mul (.v 3) (.add (.v 2) (.v 2)))),
  ((.c 1),.sub (.add (.v 1) (.v 0)) (.mul (.v 4) (.add (.v 2) (.v 2))))] ⟨sub_zero_iff.2 ha,sub_zero_iff.2 hb,trivial⟩ (by kernel_rfl))
theorem sp_yB {F:Type} [CR F] (y2 y3 h m k:F) (ha:(y3-y2)=(m*(h+h))) (hb:(y3+y2)=(k*(h+h))):((int 2)*y3)=((int 2)*((k+m)*h)) :=
 sub_zero_iff.1 (lin [y2,y3,h,m,k] (.sub (.mul (.c 2) (.v 1)) (.mul (.c 2) (.mul (.add (.v 4) (.v 3)) (.v 2)))) [((.c 1),.sub (.sub (.v 1) (.v 0)) (.mul (.v 3) (.add (.v 2) (.v 2)))),
  ((.c 1),.sub (.add (.v 1) (.v 0)) (.mul (.v 4) (.add (.v 2) (.v 2))))] ⟨sub_zero_iff.2 ha,sub_zero_iff.2 hb,trivial⟩ (by kernel_rfl))
theorem half_add {F:Type} [CR F] (d i:F) (h:((int 2)*i)=(int 1)):((d*i)+(d*i))=d :=
 sub_zero_iff.1 (lin [d,i] (.sub (.add (.mul (.v 0) (.v 1)) (.mul (.v 0) (.v 1))) (.v 0)) [((.v 0),.sub (.mul (.c 2) (.v 1)) (.c 1))] ⟨sub_zero_iff.2 h,trivial⟩ (by kernel_rfl))
theorem two_mul {F:Type} [CR F] (y:F) :(y+y)=((int 2)*y) :=
 sub_zero_iff.1 (lin [y] (.sub (.add (.v 0) (.v 0)) (.mul (.c 2) (.v 0))) [] trivial (by kernel_rfl))
theorem id_h1 {F:Type} [CR F] (x1 y1 l:F) :y1=((l*x1)+(y1-(l*x1))) :=
 sub_zero_iff.1 (lin [x1,y1,l] (.sub (.v 1) (.add (.mul (.v 2) (.v 0)) (.sub (.v 1) (.mul (.v 2) (.v 0))))) [] trivial (by kernel_rfl))
theorem id_h2 {F:Type} [CR F] (x1 y1 x2 y2 l:F) (hl:(l*(x2-x1))=(y2-y1)):y2=((l*x2)+(y1-(l*x1))) :=
 sub_zero_iff.1 (lin [x1,y1,x2,y2,l] (.sub (.v 3) (.add (.mul (.v 4) (.v 2)) (.sub (.v 1) (.mul (.v 4) (.v 0))))) [((.c (-1)),.sub (.mul (.v 4) (.sub (.v 2) (.v 0))) (.sub (.v 3) (.v 1)))] ⟨sub_zero_iff.2 hl,trivial⟩ (by kernel_rfl))
theorem id_e1 {F:Type} [CR F] (x1 x2 l:F) :((x1+x2)+(((l*l)-x1)-x2))=(l*l) :=
 sub_zero_iff.1 (lin [x1,x2,l] (.sub (.add (.add (.v 0) (.v 1)) (.sub (.sub (.mul (.v 2) (.v 2)) (.v 0)) (.v 1))) (.mul (.v 2) (.v 2))) [] trivial (by kernel_rfl))
theorem sp_r2 {F:Type} [CR F] (x y h m k:F) (hm:(((m*y)+(m*y))+((m*m)*((x+(h+h))-x)))=((((x+(h+h))*(x+(h+h)))+((x+(h+h))*x))+(x*x))) (hy:y=((k-m)*h)):(((m*k)*h)+((m*k)*h))=(((x*x)+(x*(x+(h+h))))+((x+(h+h))*(x+(h+h)))) :=
 sub_zero_iff.1 (lin [x,y,h,m,k] (.sub (.add (.mul (.mul (.v 3) (.v 4)) (.v 2)) (.mul (.mul (.v 3) (.v 4)) (.v 2))) (.add (.add (.mul (.v 0) (.v 0)) (.mul (.v 0) (.add (.v 0) (.add (.v 2) (.v 2))))) (.mul (.add (.v 0) (.add (.v 2) (.v 2))) (.add (.v 0) (.add (.v 2) (.v 2)))))) [((.c 1),.sub (.add (.add (.mul (.v 3) (.v 1)) (.mul (.v 3) (.v 1))) (.mul (.mul (.v 3) (.v 3)) (.sub (.add (.v 0) (.add (.v 2) (.v 2))) (.v 0)))) (.add (.add (.mul (.add (.v 0) (.add (.v 2) (.v 2))) (.add (.v 0) (.add (.v 2) (.v 2)))) (.mul (.add (.v 0) (.add (.v 2) (.v 2))) (.v 0))) (.mul (.v 0) (.v 0)))),
  ((.mul (.c (-2)) (.v 3)),.sub (.v 1) (.mul (.sub (.v 4) (.v 3)) (.v 2)))] ⟨sub_zero_iff.2 hm,sub_zero_iff.2 hy,trivial⟩ (by kernel_rfl))
theorem sub_add {F:Type} [CR F] (a b:F) :a=(b+(a-b)) :=
 sub_zero_iff.1 (lin [a,b] (.sub (.v 0) (.add (.v 1) (.sub (.v 0) (.v 1)))) [] trivial (by kernel_rfl))
theorem neg_of_add {F:Type} [CR F] (a b:F) (h:(a+b)=0):b=(-a) :=
 sub_zero_iff.1 (lin [a,b] (.sub (.v 1) (.neg (.v 0))) [((.c 1),.sub (.add (.v 0) (.v 1)) (.c 0))] ⟨sub_zero_iff.2 h,trivial⟩ (by kernel_rfl))
theorem neg_inj {F:Type} [CR F] (a b:F) (h:(-a)=(-b)):a=b :=
 sub_zero_iff.1 (lin [a,b] (.sub (.v 0) (.v 1)) [((.c (-1)),.sub (.neg (.v 0)) (.neg (.v 1)))] ⟨sub_zero_iff.2 h,trivial⟩ (by kernel_rfl))
theorem x_of_line {F:Type} [CR F] (x1 x2 x4 l:F) (e1:((x1+x2)+x4)=(l*l)):x4=(((l*l)-x1)-x2) :=
 sub_zero_iff.1 (lin [x1,x2,x4,l] (.sub (.v 2) (.sub (.sub (.mul (.v 3) (.v 3)) (.v 0)) (.v 1))) [((.c 1),.sub (.add (.add (.v 0) (.v 1)) (.v 2)) (.mul (.v 3) (.v 3)))] ⟨sub_zero_iff.2 e1,trivial⟩ (by kernel_rfl))
theorem y_of_line {F:Type} [CR F] (x2 y2 x4 y4 l n:F) (h2:y2=((l*x2)+n)) (h4:y4=((l*x4)+n)):(-y4)=((l*(x2-x4))-y2) :=
 sub_zero_iff.1 (lin [x2,y2,x4,y4,l,n] (.sub (.neg (.v 3)) (.sub (.mul (.v 4) (.sub (.v 0) (.v 2))) (.v 1))) [((.c 1),.sub (.v 1) (.add (.mul (.v 4) (.v 0)) (.v 5))),
  ((.c (-1)),.sub (.v 3) (.add (.mul (.v 4) (.v 2)) (.v 5)))] ⟨sub_zero_iff.2 h2,sub_zero_iff.2 h4,trivial⟩ (by kernel_rfl))
theorem y_at {F:Type} [CR F] (x1 y1 x2 y2 l n:F) (h1:y1=((l*x1)+n)) (h2:y2=((l*x2)+n)):y1=(y2+(l*(x1-x2))) :=
 sub_zero_iff.1 (lin [x1,y1,x2,y2,l,n] (.sub (.v 1) (.add (.v 3) (.mul (.v 4) (.sub (.v 0) (.v 2))))) [((.c 1),.sub (.v 1) (.add (.mul (.v 4) (.v 0)) (.v 5))),
  ((.c (-1)),.sub (.v 3) (.add (.mul (.v 4) (.v 2)) (.v 5)))] ⟨sub_zero_iff.2 h1,sub_zero_iff.2 h2,trivial⟩ (by kernel_rfl))
theorem x1_k {F:Type} [CR F] (x1 x2 x3 k:F) (e:((x1+x2)+x3)=((-k)*(-k))):x1=(((k*k)-x2)-x3) :=
 sub_zero_iff.1 (lin [x1,x2,x3,k] (.sub (.v 0) (.sub (.sub (.mul (.v 3) (.v 3)) (.v 1)) (.v 2))) [((.c 1),.sub (.add (.add (.v 0) (.v 1)) (.v 2)) (.mul (.neg (.v 3)) (.neg (.v 3))))] ⟨sub_zero_iff.2 e,trivial⟩ (by kernel_rfl))
theorem y1_k {F:Type} [CR F] (x1 y1 x2 y2 k n:F) (h1:y1=(((-k)*x1)+n)) (h2:y2=(((-k)*x2)+n)):y1=((k*(x2-x1))+y2) :=
 sub_zero_iff.1 (lin [x1,y1,x2,y2,k,n] (.sub (.v 1) (.add (.mul (.v 4) (.sub (.v 2) (.v 0))) (.v 3))) [((.c 1),.sub (.v 1) (.add (.mul (.neg (.v 4)) (.v 0)) (.v 5))),
  ((.c (-1)),.sub (.v 3) (.add (.mul (.neg (.v 4)) (.v 2)) (.v 5)))] ⟨sub_zero_iff.2 h1,sub_zero_iff.2 h2,trivial⟩ (by kernel_rfl))
theorem t_sq {F:Type} [CR F] (d t n x1 x5:F) (h:(d*t)=n):((d*d)*(((t*t)-x1)-x5))=((n*n)-((d*d)*(x1+x5))) :=
 sub_zero_iff.1 (lin [d,t,n,x1,x5] (.sub (.mul (.mul (.v 0) (.v 0)) (.sub (.sub (.mul (.v 1) (.v 1)) (.v 3)) (.v 4))) (.sub (.mul (.v 2) (.v 2)) (.mul (.mul (.v 0) (.v 0)) (.add (.v 3) (.v 4))))) [((.add (.mul (.v 0) (.v 1)) (.v 2)),.sub (.mul (.v 0) (.v 1)) (.v 2))] ⟨sub_zero_iff.2 h,trivial⟩ (by kernel_rfl))
theorem t_lin {F:Type} [CR F] (d t n x1 X y1:F) (h:(d*t)=n):(d*((t*(x1-X))-y1))=((n*(x1-X))-(d*y1)) :=
 sub_zero_iff.1 (lin [d,t,n,x1,X,y1] (.sub (.mul (.v 0) (.sub (.mul (.v 1) (.sub (.v 3) (.v 4))) (.v 5))) (.sub (.mul (.v 2) (.sub (.v 3) (.v 4))) (.mul (.v 0) (.v 5)))) [((.add (.v 3) (.neg (.v 4))),.sub (.mul (.v 0) (.v 1)) (.v 2))] ⟨sub_zero_iff.2 h,trivial⟩ (by kernel_rfl))
theorem neg_sub {F:Type} [CR F] (y3 y2 d k:F) (h:(d*(-k))=((-y3)-y2)):(y3+y2)=(k*d) :=
 sub_zero_iff.1 (lin [y3,y2,d,k] (.sub (.add (.v 0) (.v 1)) (.mul (.v 3) (.v 2))) [((.c 1),.sub (.mul (.v 2) (.neg (.v 3))) (.sub (.neg (.v 0)) (.v 1)))] ⟨sub_zero_iff.2 h,trivial⟩ (by kernel_rfl))
end Go.Proofs.YtjlcdlekmpjjnaaGreat.Rg
