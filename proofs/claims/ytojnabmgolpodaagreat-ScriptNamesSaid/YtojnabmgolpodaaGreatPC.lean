/- Part 3 of the proof: Fp, La, Lc, Fq, Na, Nb, Nc, Fr, Ga, Gb, Gc, Gd, Ge, Gf, Gg, Gh, Gi, Gj, Gk, Gl, Gm, Gn, Go, Gp, Gq, Gr, Gs, Gt, Gv, Ka, Kb, Kc, Kd, Ra, Rb, Rc, Rd. -/
import Derived.Test.YtojnabmgolpodaaGreatPB
import Derived.Test.YtojnabmgolpodaaGreatRows
import Derived.KernelRfl
import Derived.ChangeSlices
namespace Go.Proofs.YtojnabmgolpodaaGreat
open Ex
set_option maxRecDepth 100000
set_option maxHeartbeats 4000000
def Hv (m x:Nat):Nat→Nat→Nat
 | 0,_=>1 % m
 | f+1,e=>(match e % 2 with
  | 0=>Hv m (x*x % m) f (e / 2)
  | _=>x*Hv m (x*x % m) f (e / 2) % m)
theorem R3 (m:Nat):∀ (f x e:Nat),e<2^f→Hv m x f e=x^e % m
 | 0,x,e,h=>by
  have:e=0:=by simpa using h
  subst this;rfl
 | f+1,x,e,h=>by
  have ih:=R3 m f (x*x % m) (e / 2) (by rw [Nat.pow_succ] at h;omega)
  have h2:(x*x % m)^(e / 2) % m=x^(2*(e / 2)) % m:=by
   rw [← Nat.pow_mod,Nat.pow_mul,Nat.pow_two]
  unfold Hv
  rcases Nat.mod_two_eq_zero_or_one e with h0 | h1
  ·rw [h0]
   show Hv m (x*x % m) f (e / 2)=_
   rw [ih,h2,show 2*(e / 2)=e by omega]
  ·rw [h1]
   show x*Hv m (x*x % m) f (e / 2) % m=_
   rw [ih,h2,Nat.mul_mod,Nat.mod_mod,← Nat.mul_mod,← Nat.pow_succ',show (2*(e / 2)).succ=e by omega]
theorem WQ:(2:Nat)^384=RR:=by kernel_rfl
noncomputable def S19:List (FuncId×ASpec):=S18
theorem f8:AS Tryz.prog S19:=f7
end Go.Proofs.YtojnabmgolpodaaGreat
namespace Go.Proofs.YtojnabmgolpodaaGreat
open Ex
open Go.RowKit (Below)
set_option maxRecDepth 100000
set_option maxHeartbeats 4000000
theorem own:ownKnob Tryz.prog.godebug=none:=by kernel_rfl
theorem laidOut:laidOutB Tryz.prog=true:=by kernel_rfl
theorem WR:∀ {k:Nat} {l:List Value},Cl (List.replicate k (some .u64)) l→∃ x,x<2^(64*k)∧l=words k x
 | 0,[],_=>⟨0,by simp,rfl⟩
 | 0,_::_,h=>by cases h
 | k+1,[],h=>by cases h
 | k+1,v::r,h=>by
  rw [List.replicate_succ] at h
  cases v<;>simp only [Cl] at h
  rename_i k' i
  obtain ⟨rfl,hi,h⟩:=h
  obtain ⟨x,hx,rfl⟩:=WR h
  have hb:=B9 hi
  refine ⟨i.toNat+2^64*x,?_,?_⟩
  ·rw [show 64*(k+1)=64+64*k by omega,Nat.pow_add]
   generalize 2^(64*k)=Q at *
   have:=Nat.mul_le_mul_left (2^64) (show x+1≤Q by omega)
   omega
  ·unfold words
   rw [List.range_succ_eq_map,List.map_cons,List.map_map]
   congr 1
   ·congr 1
    simp only [AB,Nat.mul_zero,Nat.pow_zero,Nat.div_one]
    omega
   ·refine List.map_congr_left fun j _=>?_
    simp only [Function.comp]
    congr 1
    rw [Ca]
    congr 1
    omega
theorem f9 {v:Value} (h:Vj true (List.replicate 6 (some .u64)) v):∃ x,x<RR∧AH BY (.val true [.num 6 x]) v:=by
 obtain ⟨l,rfl,hl⟩:=h
 obtain ⟨x,hx,rfl⟩:=WR hl
 exact ⟨x,by rw [CT];exact hx,_,KK hx,rfl⟩
theorem gA:I3 Tryz.prog 20 30=some (List.replicate 6 (some .u64)):=by kernel_rfl
theorem gB:RK Tryz.prog 30=true:=by kernel_rfl
theorem under_bool:Tryz.prog.underlying 4=some .bool:=by kernel_rfl
theorem args0 {ts:List TypeId} {H:Type} {enc:TypeId×Value→H} {W:World} {us:List Value} {ds:List (DataW H)} {ps:List MemPlace} (hA:DataW.TrodAll enc Tryz.prog W 0 (fun _=>true) true ts us ds ps) (ht:ts=[]):us=[]:=by
 subst ht
 cases us with
 | nil=>rfl
 | cons=>cases ds<;>cases hA
theorem gD {f:FuncId} {fn:Func} (h:∀ (H:Type) (enc:TypeId×Value→H) (us:List Value) (W:World) (base:Nat) (ds:List (DataW H)) (ps:List MemPlace),(∀ (j:Nat) t v,fn.params[j]? = some t→us[j]? = some v→Value.okWide Tryz.prog W .any base t v) →
  DataW.TrodAll enc Tryz.prog W 0 (fun _=>true) true fn.params.toList us ds ps→∃ args,Ar BY args us∧AU Tryz.prog f args (.val false [.b true])):Nx Tryz.prog f fn:=by
 intro H enc us W base ds ps hv hA _ _
 obtain ⟨args,ha,hp⟩:=h H enc us W base ds ps hv hA
 refine (hp us W ha).mono ?_
 rintro e w' ⟨u,rfl,⟨l1,l2,h1,h3,h4⟩,hb⟩
 refine ⟨?_,hb⟩
 simp only [Au] at h1
 simp only [AG] at h3
 subst h1;subst h3
 injection h4 with h4
 rw [h4]
theorem gE {H:Type} {enc:TypeId×Value→H} {W:World} {t:TypeId} {ts:List TypeId} {us:List Value} {ds:List (DataW H)} {ps:List MemPlace} (hA:DataW.TrodAll enc Tryz.prog W 0 (fun _=>true) true (t::ts) us ds ps) :
  ∃ v us' d ds' p q,us=v::us'∧ds=d::ds'∧DataW.Trod enc Tryz.prog W 0 (fun _=>true) true t v d p∧DataW.TrodAll enc Tryz.prog W 0 (fun _=>true) true ts us' ds' q:=by
 cases us with
 | nil=>cases ds<;>cases hA
 | cons v us'=>cases ds with
  | nil=>cases hA
  | cons d ds' =>
   obtain ⟨p,q,h1,h2,_⟩:=hA
   exact ⟨v,us',d,ds',p,q,rfl,rfl,h1,h2⟩
theorem gF {f:FuncId} {fn:Func}:∀ {n:Nat},fn.params.toList=List.replicate n 30→(∀ xs:List Nat,xs.length=n→(∀ x∈xs,x<RR)→AU Tryz.prog f (xs.map fun x=>.val true [.num 6 x]) (.val false [.b true]))→Nx Tryz.prog f fn:=by
 intro n hp h
 refine gD fun H enc us W base ds ps hv hA=>?_
 rw [hp] at hA
 have gen:∀ (n:Nat) (us:List Value) (ds:List (DataW H)) (ps:List MemPlace),(∀ (j:Nat) v,j<n→us[j]? = some v→Value.okWide Tryz.prog W .any base 30 v)→DataW.TrodAll enc Tryz.prog W 0 (fun _=>true) true (List.replicate n 30) us ds ps →
   ∃ xs:List Nat,xs.length=n∧(∀ x∈xs,x<RR)∧Ar BY (xs.map fun x=>.val true [.num 6 x]) us:=by
  intro n
  induction n with
  | zero=>intro us ds ps _ hA;obtain rfl:=args0 hA rfl;exact ⟨[],rfl,by simp,rfl⟩
  | succ n ih =>
   intro us ds ps hv hA
   rw [List.replicate_succ] at hA
   obtain ⟨v,us',d,ds',p,q,rfl,rfl,h1,h2⟩:=gE hA
   obtain ⟨x,hx,hr⟩:=f9 (cD gA gB (hv 0 v (by omega) rfl) h1)
   obtain ⟨xs,q1,q2,q3⟩:=ih us' ds' q (fun j v hj hv'=>hv (j+1) v (by omega) (by simpa using hv')) h2
   exact ⟨x::xs,by simp [q1],by simpa using ⟨hx,q2⟩,v,us',hr,q3,rfl⟩
 obtain ⟨xs,q1,q2,q3⟩:=gen n us ds ps (fun j v hj hv'=>hv j _ v (by rw [← Array.getElem?_toList,hp,List.getElem?_replicate,if_pos hj]) hv') hA
 exact ⟨_,q3,h xs q1 q2⟩
end Go.Proofs.YtojnabmgolpodaaGreat
namespace Go.Proofs.YtojnabmgolpodaaGreat
set_option maxRecDepth 100000
set_option maxHeartbeats 4000000
theorem allHeard:Tryz.pinned.checked.prog.stopsHeard=true:=by kernel_rfl
theorem allEnter:Tryz.pinned.checked.prog.mayEnter=true:=by kernel_rfl
theorem allLifts:Tryz.pinned.checked.prog.liftsFinal=false:=by kernel_rfl
theorem allKeys:Tryz.pinned.checked.prog.plainKeys=true:=by kernel_rfl
theorem allLaid:laidOutB Tryz.pinned.checked.prog=true:=by kernel_rfl
theorem allMaps:mapsRowed Tryz.pinned.checked.prog=true:=by kernel_rfl
end Go.Proofs.YtojnabmgolpodaaGreat
namespace Go.Proofs.YtojnabmgolpodaaGreat
open Ex
set_option maxRecDepth 100000
set_option maxHeartbeats 4000000
def PL:List Int:=[0xb9feffffffffaaab,0x1eabfffeb153ffff,0x6730d2a0f6b0f624,0x64774b84f38512bf,0x4b1ba7b6434bacd7,0x1a0111ea397fe69a]
theorem gG {x:Nat} (h:x<RR):AL (AA (GY x) 0 6)=x:=KY h
theorem gH {a:Nat} (h:a % pN≠0):B5 a=pN-a % pN:=by
 have hp:=FY a
 unfold B5
 rw [Nat.mod_eq_of_lt (by omega)]
theorem gI {a:Nat} (h:a % pN=0):B5 a=0:=by
 unfold B5
 rw [h,Nat.sub_zero,Nat.mod_self]
theorem R5:pN % 2=1:=by kernel_rfl
end Go.Proofs.YtojnabmgolpodaaGreat
namespace Go.Proofs.YtojnabmgolpodaaGreat.Num
def Prime (p:Nat):Prop:=2≤p∧∀ d,d∣p→d=1∨d=p
theorem Prime.coprime {p a:Nat} (hp:Prime p) (h:¬ p∣a):Nat.Coprime p a:=by
 rcases hp.2 (Nat.gcd p a) (Nat.gcd_dvd_left _ _) with e | e
 ·exact e
 ·exact absurd (e▸Nat.gcd_dvd_right p a) h
theorem Prime.dvd_mul {p a b:Nat} (hp:Prime p) (h:p∣a*b):p∣a∨p∣b:=by
 by_cases ha:p∣a
 ·exact .inl ha
 ·exact .inr ((hp.coprime ha).dvd_of_dvd_mul_left h)
theorem MK {a b n:Nat} (h:a % n=b % n) (hle:b≤a):n∣a-b:=by
 have h1:=Nat.div_add_mod a n
 have h2:=Nat.div_add_mod b n
 exact ⟨a / n-b / n,by rw [Nat.mul_sub];omega⟩
theorem gJ {a b n:Nat} (h:n∣a-b) (hle:b≤a):a % n=b % n:=by
 obtain ⟨k,hk⟩:=h
 have:a=b+n*k:=by omega
 rw [this,Nat.add_mul_mod_self_left]
def C9:List Nat→Nat
 | []=>1
 | x::l=>x*C9 l
theorem gK {l m:List Nat} (h:l.Perm m):C9 l=C9 m:=by
 induction h with
 | nil=>rfl
 | cons x _ ih=>simp [C9,ih]
 | swap x y l=>simp only [C9];rw [Nat.mul_left_comm]
 | trans _ _ h1 h2=>exact h1.trans h2
theorem WS:∀ {l m:List Nat},l.Nodup→(∀ x∈l,x∈m)→m.length≤l.length→l.Perm m
 | [],m,_,_,h=>by
  have:m=[]:=List.length_eq_zero_iff.1 (by simpa using h)
  subst this;exact .refl _
 | a::l,m,hn,hs,hlen=>by
  have ham:=hs a (by simp)
  have hp:=List.perm_cons_erase ham
  have hn':=List.nodup_cons.1 hn
  refine .trans (.cons a (WS hn'.2 (fun x hx=>?_) ?_)) hp.symm
  ·have:x≠a:=fun e=>hn'.1 (e▸hx)
   exact (List.mem_erase_of_ne this).2 (hs x (by simp [hx]))
  ·rw [List.length_erase_of_mem ham]
   simp at hlen;omega
theorem WT (a p:Nat):∀ l:List Nat,C9 (l.map fun x=>a*x % p) % p=a^l.length*C9 l % p
 | []=>by simp [C9]
 | x::l=>by
  simp only [List.map_cons,C9,List.length_cons]
  rw [Nat.mul_mod,WT a p l,Nat.mod_mod,← Nat.mul_mod,Nat.pow_succ]
  refine congrArg (· % p) ?_
  show a*x*(a^l.length*C9 l)=a^l.length*a*(x*C9 l)
  ac_rfl
theorem WU {p:Nat} (hp:Prime p):∀ {l:List Nat},(∀ x∈l,¬ p∣x)→¬ p∣C9 l
 | [],_,h=>by
  have:=Nat.le_of_dvd (by decide) h
  have:=hp.1
  simp only [C9] at *;omega
 | x::l,hx,h=>by
  rcases hp.dvd_mul h with h | h
  ·exact hx x (by simp) h
  ·exact WU hp (fun y hy=>hx y (by simp [hy])) h
theorem Ke {p a:Nat} (hp:Prime p) (ha:¬ p∣a):a^(p-1) % p=1:=by
 have h2:=hp.1
 have hL:∀ x,x∈List.range' 1 (p-1)↔1≤x∧x<p:=by intro x;rw [List.mem_range'_1];omega
 have hnd:∀ x∈List.range' 1 (p-1),¬ p∣x:=fun x hx hd=>by
  have:=(hL x).1 hx
  have:=Nat.le_of_dvd (by omega) hd
  omega
 have hperm:((List.range' 1 (p-1)).map fun x=>a*x % p).Perm (List.range' 1 (p-1)):=by
  refine WS ?_ ?_ (by simp)
  ·have hq:∀ {l:List Nat},l.Nodup→(∀ x∈l,1≤x∧x<p)→(l.map fun x=>a*x % p).Nodup:=by
    intro l
    induction l with
    | nil=>intro _ _;exact List.nodup_nil
    | cons x l ih =>
     intro hn hb
     have hn':=List.nodup_cons.1 hn
     rw [List.map_cons,List.nodup_cons]
     refine ⟨fun hm=>?_,ih hn'.2 fun y hy=>hb y (by simp [hy])⟩
     obtain ⟨y,hy,he⟩:=List.mem_map.1 hm
     have b1:=hb x (by simp)
     have b2:=hb y (by simp [hy])
     have hxy:x≠y:=fun e=>hn'.1 (e▸hy)
     rcases Nat.lt_or_ge x y with hlt | hge
     ·have:=MK (a:=a*y) (b:=a*x) he (Nat.mul_le_mul_left a (by omega))
      rw [← Nat.mul_sub] at this
      rcases hp.dvd_mul this with h | h
      ·exact ha h
      ·have:=Nat.le_of_dvd (by omega) h;omega
     ·have:=MK (a:=a*x) (b:=a*y) he.symm (Nat.mul_le_mul_left a (by omega))
      rw [← Nat.mul_sub] at this
      rcases hp.dvd_mul this with h | h
      ·exact ha h
      ·have:=Nat.le_of_dvd (by omega) h;omega
   exact hq List.nodup_range' fun x hx=>(hL x).1 hx
  ·intro y hy
   obtain ⟨x,hx,rfl⟩:=List.mem_map.1 hy
   have b:=(hL x).1 hx
   refine (hL _).2 ⟨?_,Nat.mod_lt _ (by omega)⟩
   rcases Nat.eq_zero_or_pos (a*x % p) with h | h
   ·rcases hp.dvd_mul (Nat.dvd_of_mod_eq_zero h) with h | h
    ·exact absurd h ha
    ·exact absurd h (hnd x hx)
   ·exact h
 have e:=WT a p (List.range' 1 (p-1))
 rw [gK hperm,List.length_range'] at e
 have hpos:1≤a^(p-1):=Nat.pow_pos (Nat.pos_of_ne_zero fun h=>ha (h▸Nat.dvd_zero p))
 have hd:=MK (a:=a^(p-1)*C9 (List.range' 1 (p-1))) (b:=C9 (List.range' 1 (p-1))) e.symm (Nat.le_mul_of_pos_left _ hpos)
 have:a^(p-1)*C9 (List.range' 1 (p-1))-C9 (List.range' 1 (p-1))=(a^(p-1)-1)*C9 (List.range' 1 (p-1)):=by rw [Nat.sub_mul,Nat.one_mul]
 rw [this] at hd
 rcases hp.dvd_mul hd with h | h
 ·rw [gJ h hpos,Nat.mod_eq_of_lt (by omega)]
 ·exact absurd h (WU hp hnd)
theorem WV:∀ n,2≤n→∃ q,Prime q∧q∣n:=by
 intro n
 induction n using Nat.strongRecOn with
 | ind n ih =>
  intro h
  by_cases hp:Prime n
  ·exact ⟨n,hp,Nat.dvd_refl n⟩
  ·have:∃ d,d∣n∧d≠1∧d≠n:=Classical.byContradiction fun hno=>hp ⟨h,fun d hd=>Classical.byContradiction fun hd2=>hno ⟨d,hd,fun e=>hd2 (.inl e),fun e=>hd2 (.inr e)⟩⟩
   obtain ⟨d,hd,h1,h2⟩:=this
   have hle:=Nat.le_of_dvd (by omega) hd
   have h0:d≠0:=fun e=>by subst e;have:=Nat.eq_zero_of_zero_dvd hd;omega
   obtain ⟨q,hq,hqd⟩:=ih d (by omega) (by omega)
   exact ⟨q,hq,Nat.dvd_trans hqd hd⟩
theorem R6 {n:Nat} (h:2≤n) (hf:∀ q,Prime q→q∣n→n<q*q):Prime n:=by
 refine ⟨h,fun d hd=>?_⟩
 obtain ⟨e,rfl⟩:=hd
 by_cases h1:d=1
 ·exact .inl h1
 ·by_cases h2:e=1
  ·subst h2;exact .inr (by simp)
  ·exfalso
   have d0:d≠0:=fun e'=>by subst e';simp at h
   have e0:e≠0:=fun e'=>by subst e';simp at h
   obtain ⟨q,hq,hqd⟩:=WV d (by omega)
   obtain ⟨r,hr,hre⟩:=WV e (by omega)
   have a1:=hf q hq (Nat.dvd_mul_right_of_dvd hqd e)
   have a2:=hf r hr (Nat.dvd_mul_left_of_dvd hre d)
   have b1:=Nat.le_of_dvd (by omega) hqd
   have b2:=Nat.le_of_dvd (by omega) hre
   rcases Nat.lt_or_ge d e with hlt | hge
   ·have:=Nat.mul_le_mul b1 b1
    have:=Nat.mul_le_mul_left d (Nat.le_of_lt hlt)
    omega
   ·have:=Nat.mul_le_mul b2 b2
    have:=Nat.mul_le_mul_right e hge
    omega
theorem gL {r x m:Nat} (h:x^m % r=1 % r) (k:Nat):x^(m*k) % r=1 % r:=by
 rw [Nat.pow_mul,Nat.pow_mod,h,← Nat.pow_mod,Nat.one_pow]
theorem gM {r x:Nat}:∀ (m n:Nat),x^m % r=1 % r→x^n % r=1 % r→x^(Nat.gcd m n) % r=1 % r:=by
 intro m n
 induction m,n using Nat.gcd.induction with
 | H0 n=>intro _ h;rwa [Nat.gcd_zero_left]
 | H1 m n hm ih =>
  intro h1 h2
  rw [Nat.gcd_rec]
  refine ih ?_ h1
  have e:=Nat.div_add_mod n m
  rw [← e,Nat.pow_add,Nat.mul_mod,gL h1,← Nat.mul_mod,Nat.one_mul] at h2
  exact h2
theorem R7 {N q h a r:Nat} (hN:N=h*q+1) (hq:Prime q) (h1:a^(N-1) % N=1) (h2:Nat.gcd (a^h % N+N-1) N=1) (hr:Prime r) (hrN:r∣N):q∣r-1:=by
 have hr2:=hr.1
 have e1:(a^h)^q % r=1 % r:=by
  rw [← Nat.pow_mul,show h*q=N-1 by omega,← Nat.mod_mod_of_dvd _ hrN,h1]
 have hN1:1≤N:=by omega
 have e2:a^h % r≠1:=fun e=>by
  have hd:r∣a^h % N+N-1:=by
   refine Nat.dvd_of_mod_eq_zero ?_
   have:(a^h % N+N-1+1) % r=1 % r:=by
    rw [Nat.sub_add_cancel (by omega),Nat.add_mod,Nat.mod_mod_of_dvd _ hrN,e,Nat.mod_eq_zero_of_dvd hrN,Nat.add_zero]
   have:=MK this (by omega)
   exact Nat.mod_eq_zero_of_dvd (by simpa using this)
  have:=Nat.dvd_gcd hd hrN
  rw [h2] at this
  have:=Nat.le_of_dvd (by decide) this
  omega
 have hnd:¬ r∣a^h:=fun hd=>by
  have:r∣(a^h)^q:=by
   obtain ⟨k,hk⟩:=hd
   have hq2:=hq.1
   obtain ⟨j,rfl⟩:∃ j,q=j+1:=⟨q-1,by omega⟩
   exact ⟨(a^h)^j*k,by rw [Nat.pow_succ,Nat.mul_left_comm,← hk]⟩
  rw [Nat.mod_eq_zero_of_dvd this,Nat.mod_eq_of_lt (by omega)] at e1
  cases e1
 have e3:=Ke hr hnd
 by_cases hd:q∣r-1
 ·exact hd
 ·exfalso
  have hc:=hq.coprime hd
  have:=gM q (r-1) e1 (by rw [e3,Nat.mod_eq_of_lt (by omega)])
  rw [hc,Nat.pow_one,Nat.mod_eq_of_lt (a:=1) (by omega)] at this
  exact e2 this
theorem gN {N q h a:Nat} (hN:N=h*q+1) (hq:Prime q) (hh:h<q) (h0:0<h) (h1:a^(N-1) % N=1) (h2:Nat.gcd (a^h % N+N-1) N=1):Prime N:=by
 have hq2:=hq.1
 have hpos:1*1≤h*q:=Nat.mul_le_mul h0 (by omega)
 refine R6 (by omega) fun r hr hrN=>?_
 have:=Nat.le_of_dvd (by have:=hr.1;omega) (R7 hN hq h1 h2 hr hrN)
 have hle:q+1≤r:=by have:=hr.1;omega
 have:=Nat.mul_le_mul hle hle
 have h3:h*q≤q*q:=Nat.mul_le_mul_right q (by omega)
 rw [Nat.succ_mul,Nat.mul_succ] at this
 omega
theorem gO {N q h a q' h' a':Nat} (hN:N=h*q+1) (hq:Prime q) (h1:a^(N-1) % N=1) (h2:Nat.gcd (a^h % N+N-1) N=1) (hN':N=h'*q'+1) (hq':Prime q') (h1':a'^(N-1) % N=1) (h2':Nat.gcd (a'^h' % N+N-1) N=1)
  (hne:q<q') (hbig:N<(q*q'+1)*(q*q'+1)) (hN2:2≤N):Prime N:=by
 refine R6 hN2 fun r hr hrN=>?_
 have d1:=R7 hN hq h1 h2 hr hrN
 have d2:=R7 hN' hq' h1' h2' hr hrN
 have hc:Nat.Coprime q q':=hq.coprime fun hd=>by
  rcases hq'.2 q hd with e | e
  ·have:=hq.1;omega
  ·omega
 have:=Nat.le_of_dvd (by have:=hr.1;omega) (hc.mul_dvd_of_dvd_of_dvd d1 d2)
 have hle:q*q'+1≤r:=by have:=hr.1;omega
 exact Nat.lt_of_lt_of_le hbig (Nat.mul_le_mul hle hle)
def ML (n:Nat):Nat→Nat→Bool
 | 0,_=>true
 | f+1,d=>match n % d with
  | 0=>false
  | _+1=>ML n f (d+1)
theorem WW (n:Nat):∀ (f d:Nat),ML n f d=true→∀ e,d≤e→e<d+f→¬ e∣n
 | 0,d,_,e,h1,h2=>by omega
 | f+1,d,h,e,h1,h2=>by
  unfold ML at h
  split at h
  ·cases h
  ·rename_i k hk
   rcases Nat.eq_or_lt_of_le h1 with rfl | hlt
   ·intro hd;rw [Nat.mod_eq_zero_of_dvd hd] at hk;cases hk
   ·exact WW n f (d+1) h e (by omega) (by omega)
theorem gP {n f:Nat} (h2:2≤n) (h:ML n f 2=true) (hb:n<(f+2)*(f+2)):Prime n:=by
 refine R6 h2 fun q hq hd=>?_
 rcases Nat.lt_or_ge q (f+2) with hlt | hge
 ·exact absurd hd (WW n f 2 h q hq.1 (by omega))
 ·exact Nat.lt_of_lt_of_le hb (Nat.mul_le_mul hge hge)
def Hw (m x:Nat):Nat→Nat→Nat
 | 0,_=>1 % m
 | f+1,e=>(match e % 2 with
  | 0=>Hw m (x*x % m) f (e / 2)
  | _=>x*Hw m (x*x % m) f (e / 2) % m)
theorem R9 (m:Nat):∀ (f x e:Nat),e<2^f→Hw m x f e=x^e % m
 | 0,x,e,h=>by
  have:e=0:=by simpa using h
  subst this;rfl
 | f+1,x,e,h=>by
  have ih:=R9 m f (x*x % m) (e / 2) (by rw [Nat.pow_succ] at h;omega)
  have h2:(x*x % m)^(e / 2) % m=x^(2*(e / 2)) % m:=by
   rw [← Nat.pow_mod,Nat.pow_mul,Nat.pow_two]
  unfold Hw
  rcases Nat.mod_two_eq_zero_or_one e with h0 | h1
  ·rw [h0]
   show Hw m (x*x % m) f (e / 2)=_
   rw [ih,h2,show 2*(e / 2)=e by omega]
  ·rw [h1]
   show x*Hw m (x*x % m) f (e / 2) % m=_
   rw [ih,h2,Nat.mul_mod,Nat.mod_mod,← Nat.mul_mod,← Nat.pow_succ',show (2*(e / 2)).succ=e by omega]
def MM (N q h a f:Nat):Bool:=Nat.beq N (h*q+1)&&(Nat.ble (N-1+1) (2^f)&&(Nat.beq (Hw N a f (N-1)) 1&&Nat.beq (Nat.gcd (Hw N a f h+N-1) N) 1))
theorem R_ {N q h a f:Nat} (h0:MM N q h a f=true) (hq:0<q):N=h*q+1∧a^(N-1) % N=1∧Nat.gcd (a^h % N+N-1) N=1:=by
 unfold MM at h0
 simp only [Bool.and_eq_true] at h0
 obtain ⟨c1,c2,c3,c4⟩:=h0
 have e1:=Nat.eq_of_beq_eq_true c1
 have e2:=Nat.le_of_ble_eq_true c2
 have e3:=Nat.eq_of_beq_eq_true c3
 have e4:=Nat.eq_of_beq_eq_true c4
 have hle:h*1≤h*q:=Nat.mul_le_mul_left h hq
 rw [R9 N f a _ (by omega)] at e3
 rw [R9 N f a _ (by omega)] at e4
 exact ⟨e1,e3,e4⟩
end Go.Proofs.YtojnabmgolpodaaGreat.Num
namespace Go.Proofs.YtojnabmgolpodaaGreat.Num
set_option maxRecDepth 100000
set_option maxHeartbeats 4000000
theorem WX {n f:Nat} (h:(Nat.ble 2 n&&(ML n f 2&&Nat.blt n ((f+2)*(f+2))))=true):Prime n:=by
 simp only [Bool.and_eq_true] at h
 exact gP (Nat.le_of_ble_eq_true h.1) h.2.1 (Nat.le_of_ble_eq_true h.2.2)
theorem OM {N q h a f:Nat} (hq:Prime q) (hb:(MM N q h a f&&(Nat.blt h q&&Nat.blt 0 h))=true):Prime N:=by
 simp only [Bool.and_eq_true] at hb
 have hq2:=hq.1
 obtain ⟨e1,e2,e3⟩:=R_ hb.1 (by omega)
 exact gN e1 hq (Nat.le_of_ble_eq_true hb.2.1) (Nat.le_of_ble_eq_true hb.2.2) e2 e3
theorem gQ:Prime 421987:=WX (f:=650) (by kernel_rfl)
theorem gR:Prime 755057:=WX (f:=870) (by kernel_rfl)
theorem gS:Prime 13090036741:=OM (q:=421987) (h:=31020) (a:=2) (f:=64) gQ (by kernel_rfl)
theorem gT {N q h a q' h' a' f:Nat} (hq:Prime q) (hq':Prime q') (hb:(MM N q h a f&&(MM N q' h' a' f&&(Nat.blt q q'&&(Nat.blt N ((q*q'+1)*(q*q'+1))&&Nat.ble 2 N))))=true):Prime N:=by
 simp only [Bool.and_eq_true] at hb
 obtain ⟨b1,b2,b3,b4,b5⟩:=hb
 have hq2:=hq.1
 have hq2':=hq'.1
 obtain ⟨e1,e2,e3⟩:=R_ b1 (by omega)
 obtain ⟨d1,d2,d3⟩:=R_ b2 (by omega)
 exact gO e1 hq e2 e3 d1 hq' d2 d3 (Nat.le_of_ble_eq_true b3) (Nat.le_of_ble_eq_true b4) (Nat.le_of_ble_eq_true b5)
theorem gU:Prime 3819663927398918131021:=gT (h:=(3819663927398918131021-1) / 755057) (a:=2) (h':=(3819663927398918131021-1) / 13090036741) (a':=2) (f:=128) gR gS (by kernel_rfl)
theorem gV:Prime 1125266252156850182658904441386709967:=OM (h:=294598235223046) (a:=2) (f:=128) gU (by kernel_rfl)
theorem gW:Prime 15778400344354997994418419698270088123916926905054652752758194827714659:=OM (h:=14021926201120671579994175730661374) (a:=2) (f:=256) gV (by kernel_rfl)
theorem gZ:Prime 4002409555221667393417789825735904156556882819939007885332058136124031650490837864442687629129015664037894272559787:=OM (h:=253663835868735594330404923636534084567099854) (a:=2) (f:=384) gW (by kernel_rfl)
theorem g0 {p x y:Nat} (hp:Prime p) (hx:x<p) (hy:y<p) (h:x*x % p=y*y % p):x=y∨x+y=p:=by
 have gen:∀ {x y:Nat},x<p→y≤x→x*x % p=y*y % p→x=y∨x+y=p:=by
  intro x y hx hle h
  have hd:=MK h (Nat.mul_le_mul hle hle)
  have e:x*x-y*y=(x+y)*(x-y):=Nat.mul_self_sub_mul_self_eq x y
  rw [e] at hd
  rcases hp.dvd_mul hd with h1 | h1
  ·rcases Nat.eq_zero_or_pos (x+y) with h0 | h0
   ·left;omega
   ·obtain ⟨k,hk⟩:=h1
    right
    have:k=1:=by
     rcases Nat.lt_or_ge k 2 with h2 | h2
     ·rcases Nat.eq_zero_or_pos k with h3 | h3
      ·subst h3;omega
      ·omega
     ·have:=Nat.mul_le_mul_left p h2;omega
    subst this;omega
  ·left
   rcases Nat.eq_zero_or_pos (x-y) with h0 | h0
   ·omega
   ·have:=Nat.le_of_dvd h0 h1;omega
 rcases Nat.lt_or_ge x y with h1 | h1
 ·rcases gen hy (Nat.le_of_lt h1) h.symm with e | e
  ·exact .inl e.symm
  ·exact .inr (by omega)
 ·exact gen hx h1 h
theorem g4 {p x:Nat} (hp:Prime p) (h2:2<p) (h:x*x % p=1):x % p=1∨x % p=p-1:=by
 have h':x % p*(x % p) % p=1*1 % p:=by rw [← Nat.mul_mod,h,Nat.mul_one,Nat.mod_eq_of_lt (by omega)]
 rcases g0 hp (Nat.mod_lt x (by omega)) (show 1<p by omega) h' with e | e
 ·exact .inl e
 ·exact .inr (by omega)
theorem g5 {p a:Nat} (hp:Prime p) (h2:2<p) (hodd:p % 2=1) (ha:¬ p∣a):a^((p-1) / 2) % p=1∨a^((p-1) / 2) % p=p-1:=by
 refine g4 hp h2 ?_
 rw [← Nat.pow_two,← Nat.pow_mul,show (p-1) / 2*2=p-1 by omega]
 exact Ke hp ha
theorem g6 {p a:Nat} (h4:p % 4=3):a^((p+1) / 4) % p*(a^((p+1) / 4) % p) % p=a*(a^((p-1) / 2)) % p:=by
 rw [← Nat.mul_mod,← Nat.pow_add,← Nat.pow_succ']
 congr 2
 omega
theorem g7 {p a:Nat} (hp:0<p):a*(p-1) % p=(p-a % p) % p:=by
 have h1:(a*(p-1)+a) % p=0:=by
  have:a*(p-1)+a=a*p:=by
   have:=Nat.mul_sub a p 1
   have h2:a*1≤a*p:=Nat.mul_le_mul_left a hp
   omega
  rw [this,Nat.mul_mod_left]
 have hl:=Nat.mod_lt a hp
 have hl2:=Nat.mod_lt (a*(p-1)) hp
 have h3:(a*(p-1) % p+a % p) % p=0:=by rw [← Nat.add_mod];exact h1
 have h4:=Nat.div_add_mod (a*(p-1) % p+a % p) p
 rw [h3] at h4
 rcases Nat.eq_zero_or_pos (a % p) with h0 | h0
 ·rw [h0] at h4 ⊢
  have:(a*(p-1) % p+0) / p=0:=Nat.div_eq_of_lt (by omega)
  rw [this] at h4
  rw [Nat.sub_zero,Nat.mod_self];omega
 ·rw [Nat.mod_eq_of_lt (a:=p-a % p) (by omega)]
  have:(a*(p-1) % p+a % p) / p=1:=by
   have l1:(a*(p-1) % p+a % p) / p<2:=Nat.div_lt_of_lt_mul (by omega)
   rcases Nat.eq_zero_or_pos ((a*(p-1) % p+a % p) / p) with e | e
   ·rw [e] at h4;omega
   ·omega
  rw [this] at h4;omega
theorem g8 {p a:Nat} (hp:Prime p) (h4:p % 4=3) (ha:¬ p∣a):a^((p+1) / 4) % p*(a^((p+1) / 4) % p) % p=a % p↔a^((p-1) / 2) % p=1:=by
 have h2:2<p:=by omega
 have hz:a % p≠0:=fun h=>ha (Nat.dvd_of_mod_eq_zero h)
 have hlt:=Nat.mod_lt a (show 0<p by omega)
 rw [g6 h4,Nat.mul_mod]
 rcases g5 hp h2 (by omega) ha with h | h
 ·rw [h,Nat.mul_one,Nat.mod_mod];simp
 ·rw [h,g7 (by omega),Nat.mod_mod,Nat.mod_eq_of_lt (a:=p-a % p) (by omega)]
  constructor
  ·intro h3;omega
  ·intro h3;omega
end Go.Proofs.YtojnabmgolpodaaGreat.Num
namespace Go.Proofs.YtojnabmgolpodaaGreat.Num
section
variable {p:Nat} [NeZero p]
def Bu (p:Nat) [NeZero p] (x:Nat):Fin p:=Fin.ofNat p x
theorem E4 (x:Nat):(Bu p x).val=x % p:=rfl
theorem ON {x y:Nat}:Bu p x=Bu p y↔x % p=y % p:=by
 rw [Fin.ext_iff,E4,E4]
theorem WY (x:Nat):Bu p (x % p)=Bu p x:=by rw [ON,Nat.mod_mod]
theorem WZ (x y:Nat):Bu p (x+y)=Bu p x+Bu p y:=by
 rw [Fin.ext_iff,Fin.val_add,E4,E4,E4,← Nat.add_mod]
theorem Wa (x y:Nat):Bu p (x*y)=Bu p x*Bu p y:=by
 rw [Fin.ext_iff,Fin.val_mul,E4,E4,E4,← Nat.mul_mod]
theorem Wb:Bu p 0=0:=by rw [Fin.ext_iff,E4];simp
theorem g9:Bu p 1=1:=rfl
theorem Wd:Bu p p=0:=by rw [Fin.ext_iff,E4];simp
theorem SA {x y:Nat} (h:y≤x):Bu p (x-y)=Bu p x-Bu p y:=by
 have:Bu p (x-y)+Bu p y=Bu p x:=by rw [← WZ,Nat.sub_add_cancel h]
 rw [← this];grind
theorem hH (x:Nat):Bu p (p-x % p)=- Bu p x:=by
 have hp:0<p:=Nat.pos_of_ne_zero (NeZero.ne p)
 rw [SA (Nat.le_of_lt (Nat.mod_lt x hp)),Wd,WY];grind
theorem SF {x:Nat}:Bu p x=0↔p∣x:=by
 rw [← Wb,ON,Nat.zero_mod]
 exact ⟨Nat.dvd_of_mod_eq_zero,Nat.mod_eq_zero_of_dvd⟩
theorem hJ {x y:Nat} (hx:x<p) (hy:y<p) (h:Bu p x=Bu p y):x=y:=by
 have:=ON.1 h
 rwa [Nat.mod_eq_of_lt hx,Nat.mod_eq_of_lt hy] at this
theorem hU (hp:Prime p) {a b:Fin p} (h:a*b=0):a=0∨b=0:=by
 have e:∀ x:Fin p,Bu p x.val=x:=fun x=>by rw [Fin.ext_iff,E4,Nat.mod_eq_of_lt x.isLt]
 rw [← e a,← e b,← Wa,SF] at h
 rw [← e a,← e b,SF,SF]
 exact hp.dvd_mul h
end
end Go.Proofs.YtojnabmgolpodaaGreat.Num
namespace Go.Proofs.YtojnabmgolpodaaGreat
open Ex Num
set_option maxRecDepth 100000
set_option maxHeartbeats 4000000
theorem pN_prime:Num.Prime pN:=gZ
theorem h9:pN % 4=3:=by kernel_rfl
theorem iB:2<pN:=by decide
theorem iC:QN=(pN+1) / 4:=by kernel_rfl
noncomputable def SG (a:Nat):Nat:=a^((pN-1) / 2) % pN
theorem iD {a:Nat}:pN∣a↔a % pN=0:=⟨Nat.mod_eq_zero_of_dvd,Nat.dvd_of_mod_eq_zero⟩
theorem iE {a:Nat} (h:a % pN≠0):CC a=true↔SG a=1:=by
 unfold CC AX SG
 rw [Hr,iC,decide_eq_true_eq]
 exact g8 pN_prime h9 fun hd=>h (iD.1 hd)
theorem iF {a:Nat} (h:a % pN=0):CC a=true:=by
 unfold CC AX
 rw [Hr,decide_eq_true_eq,Nat.pow_mod,h,Nat.zero_pow (by decide)]
 rfl
theorem MN (a b:Nat):AX a b<pN:=Nat.mod_lt _ B_
theorem neg_sq {v:Nat} (hl:v<pN):(pN-v)*(pN-v) % pN=v*v % pN:=by
 obtain ⟨u,hu⟩:∃ u,pN=u+v:=⟨pN-v,by omega⟩
 rw [show pN-v=u by omega]
 have e:u*u+v*pN=v*v+u*pN:=by rw [hu,Nat.mul_add,Nat.mul_add,Nat.mul_comm v u];omega
 have h1:(u*u+v*pN) % pN=u*u % pN:=Nat.add_mul_mod_self_right _ _ _
 have h2:(v*v+u*pN) % pN=v*v % pN:=Nat.add_mul_mod_self_right _ _ _
 rw [← h1,e,h2]
theorem iG (w:Nat):AX (Eg w) (Eg w)=AX w w:=by
 unfold Eg
 split
 ·unfold AX B5
  rw [← Nat.mul_mod]
  by_cases h:w % pN=0
  ·rw [h,Nat.sub_zero,Nat.mul_mod pN,Nat.mod_self,Nat.mul_mod w,h]
  ·have e:(pN-w % pN)*(pN-w % pN) % pN=(w % pN)*(w % pN) % pN:=by
    have hl:=FY w
    generalize w % pN=v at *
    exact neg_sq hl
   rw [e,← Nat.mul_mod]
 ·rfl
theorem iH {w:Nat} (h:w<pN):Eg w % 2=0∧Eg w<pN:=by
 have ho:=R5
 unfold Eg
 split
 ·rename_i hs
  have h1:w % 2=1:=by unfold D0 at hs;rw [Nat.mod_eq_of_lt h] at hs;omega
  have hz:w % pN≠0:=by rw [Nat.mod_eq_of_lt h];omega
  rw [gH hz,Nat.mod_eq_of_lt h];omega
 ·rename_i hs
  have h1:w % 2≠1:=fun e=>by apply hs;unfold D0;rw [Nat.mod_eq_of_lt h];omega
  omega
theorem We (a e:Nat):DX a e<pN:=by rw [Hr];exact Nat.mod_lt _ B_
theorem SH {a:Nat} (h:CC a=true):AX (CJ a) (CJ a)=a % pN∧CJ a % 2=0∧CJ a<pN:=by
 have e:CJ a=Eg (DX a QN):=by unfold CJ;rw [if_pos h]
 obtain ⟨q1,q2⟩:=iH (We a QN)
 rw [e,iG]
 refine ⟨?_,q1,q2⟩
 unfold CC at h
 exact of_decide_eq_true h
end Go.Proofs.YtojnabmgolpodaaGreat
namespace Go.Proofs.YtojnabmgolpodaaGreat
open Ex
set_option maxRecDepth 100000
set_option maxHeartbeats 4000000
def lenL:List UInt8:=[0,1]++(List.replicate 2 2++(List.replicate 4 3++(List.replicate 8 4++(List.replicate 16 5++(List.replicate 32 6++(List.replicate 64 7++List.replicate 128 8))))))
def lenT:ByteArray:=⟨⟨lenL⟩⟩
def An (x:Int) (k:Nat):Int:=Int.fdiv x (2^k)
theorem iI (x:Int):AR Tryz.prog (AI S5 K0) Tryz.f339 [.val false [.v (.int .u64 x)]] [true,true,true] 100 =
 some ([(decide (4294967296≤x),true),(decide (0≤(32:Int)∧0≤x),true),(decide (65536≤(An x 32)),true),(decide (0≤(16:Int)∧0≤(An x 32)),true),(decide (256≤(An (An x 32) 16)),true),(decide (0≤(8:Int)∧0≤(An (An x 32) 16)),true),(decide (0≤AZ false .u8 (An (An (An x 32) 16) 8)∧AZ false .u8 (An (An (An x 32) 16) 8)<(lenT.size:Int)),true)],CL (AZ false .i64 (AZ true .i64 (AZ true .i64 (32+16)+8)+AZ false .i64 (C5 lenT (AZ false .u8 (An (An (An x 32) 16) 8)))))):=by kernel_rfl
theorem iJ (x:Int):AR Tryz.prog (AI S5 K0) Tryz.f339 [.val false [.v (.int .u64 x)]] [true,true,false] 100 =
 some ([(decide (4294967296≤x),true),(decide (0≤(32:Int)∧0≤x),true),(decide (65536≤(An x 32)),true),(decide (0≤(16:Int)∧0≤(An x 32)),true),(decide (256≤(An (An x 32) 16)),false),(decide (0≤AZ false .u8 (An (An x 32) 16)∧AZ false .u8 (An (An x 32) 16)<(lenT.size:Int)),true)],CL (AZ false .i64 (AZ true .i64 (32+16)+AZ false .i64 (C5 lenT (AZ false .u8 (An (An x 32) 16)))))):=by kernel_rfl
theorem iK (x:Int):AR Tryz.prog (AI S5 K0) Tryz.f339 [.val false [.v (.int .u64 x)]] [true,false,true] 100 =
 some ([(decide (4294967296≤x),true),(decide (0≤(32:Int)∧0≤x),true),(decide (65536≤(An x 32)),false),(decide (256≤(An x 32)),true),(decide (0≤(8:Int)∧0≤(An x 32)),true),(decide (0≤AZ false .u8 (An (An x 32) 8)∧AZ false .u8 (An (An x 32) 8)<(lenT.size:Int)),true)],CL (AZ false .i64 (AZ true .i64 (32+8)+AZ false .i64 (C5 lenT (AZ false .u8 (An (An x 32) 8)))))):=by kernel_rfl
theorem iL (x:Int):AR Tryz.prog (AI S5 K0) Tryz.f339 [.val false [.v (.int .u64 x)]] [true,false,false] 100 =
 some ([(decide (4294967296≤x),true),(decide (0≤(32:Int)∧0≤x),true),(decide (65536≤(An x 32)),false),(decide (256≤(An x 32)),false),(decide (0≤AZ false .u8 (An x 32)∧AZ false .u8 (An x 32)<(lenT.size:Int)),true)],CL (AZ false .i64 (32+AZ false .i64 (C5 lenT (AZ false .u8 (An x 32)))))):=by kernel_rfl
theorem iM (x:Int):AR Tryz.prog (AI S5 K0) Tryz.f339 [.val false [.v (.int .u64 x)]] [false,true,true] 100 =
 some ([(decide (4294967296≤x),false),(decide (65536≤x),true),(decide (0≤(16:Int)∧0≤x),true),(decide (256≤(An x 16)),true),(decide (0≤(8:Int)∧0≤(An x 16)),true),(decide (0≤AZ false .u8 (An (An x 16) 8)∧AZ false .u8 (An (An x 16) 8)<(lenT.size:Int)),true)],CL (AZ false .i64 (AZ true .i64 (AZ true .i64 (0+16)+8)+AZ false .i64 (C5 lenT (AZ false .u8 (An (An x 16) 8)))))):=by kernel_rfl
theorem iN (x:Int):AR Tryz.prog (AI S5 K0) Tryz.f339 [.val false [.v (.int .u64 x)]] [false,true,false] 100 =
 some ([(decide (4294967296≤x),false),(decide (65536≤x),true),(decide (0≤(16:Int)∧0≤x),true),(decide (256≤(An x 16)),false),(decide (0≤AZ false .u8 (An x 16)∧AZ false .u8 (An x 16)<(lenT.size:Int)),true)],CL (AZ false .i64 (AZ true .i64 (0+16)+AZ false .i64 (C5 lenT (AZ false .u8 (An x 16)))))):=by kernel_rfl
theorem iO (x:Int):AR Tryz.prog (AI S5 K0) Tryz.f339 [.val false [.v (.int .u64 x)]] [false,false,true] 100 =
 some ([(decide (4294967296≤x),false),(decide (65536≤x),false),(decide (256≤x),true),(decide (0≤(8:Int)∧0≤x),true),(decide (0≤AZ false .u8 (An x 8)∧AZ false .u8 (An x 8)<(lenT.size:Int)),true)],CL (AZ false .i64 (AZ true .i64 (0+8)+AZ false .i64 (C5 lenT (AZ false .u8 (An x 8)))))):=by kernel_rfl
theorem iQ (x:Int):AR Tryz.prog (AI S5 K0) Tryz.f339 [.val false [.v (.int .u64 x)]] [false,false,false] 100 =
 some ([(decide (4294967296≤x),false),(decide (65536≤x),false),(decide (256≤x),false),(decide (0≤AZ false .u8 x∧AZ false .u8 x<(lenT.size:Int)),true)],CL (AZ false .i64 (0+AZ false .i64 (C5 lenT (AZ false .u8 x))))):=by kernel_rfl
def Hx (x L top:Nat):Prop:=x<2^L∧(0<x→1≤L∧2^(L-1)≤x)∧L≤top
def Cq (v:Nat):Nat:=(lenL.getD v 0).toNat
def SI (x L:Nat):Bool:=Nat.blt x (2^L)&&((Nat.beq x 0||(Nat.ble 1 L&&Nat.ble (2^(L-1)) x))&&Nat.ble L 8)
def SJ:Nat→Bool
 | 0=>true
 | n+1=>SI n (Cq n)&&SJ n
theorem Wf:∀ n,SJ n=true→∀ v,v<n→SI v (Cq v)=true
 | 0,_,v,h=>by omega
 | n+1,h,v,hv=>by
  simp only [SJ,Bool.and_eq_true] at h
  rcases Nat.lt_or_ge v n with h1 | h1
  ·exact Wf n h.2 v h1
  ·have:v=n:=by omega
   subst this;exact h.1
theorem Wg {v:Nat} (h:v<256):Hx v (Cq v) 8:=by
 have:=Wf 256 (by kernel_rfl) v h
 unfold SI at this
 simp only [Bool.and_eq_true,Bool.or_eq_true] at this
 obtain ⟨h1,h2,h3⟩:=this
 refine ⟨Nat.le_of_ble_eq_true h1,fun hp=>?_,Nat.le_of_ble_eq_true h3⟩
 rcases h2 with h2 | ⟨h2,h4⟩
 ·have:=Nat.eq_of_beq_eq_true h2;omega
 ·exact ⟨Nat.le_of_ble_eq_true h2,Nat.le_of_ble_eq_true h4⟩
theorem SK {x L top:Nat} (k:Nat) (h:Hx (x / 2^k) L top) (hx:2^k≤x):Hx x (k+L) (k+top):=by
 obtain ⟨h1,h2,h3⟩:=h
 have hp:0<2^k:=Nat.pow_pos (by decide)
 have hq:0<x / 2^k:=Nat.div_pos hx hp
 obtain ⟨h4,h5⟩:=h2 hq
 refine ⟨?_,fun _=>⟨by omega,?_⟩,by omega⟩
 ·rw [Nat.pow_add]
  exact (Nat.div_lt_iff_lt_mul hp).1 h1 |> fun q=>by rwa [Nat.mul_comm] at q
 ·rw [show k+L-1=k+(L-1) by omega,Nat.pow_add]
  have:=(Nat.le_div_iff_mul_le hp).1 h5
  rwa [Nat.mul_comm] at this
theorem SL {x L top top':Nat} (h:Hx x L top) (hle:top≤top'):Hx x L top':=⟨h.1,h.2.1,Nat.le_trans h.2.2 hle⟩
def Hy (x:Nat):Nat:=if 256≤x then 8+Cq (x / 2^8) else Cq x
def Ko (x:Nat):Nat:=if 65536≤x then 16+Hy (x / 2^16) else Hy x
def Cr (x:Nat):Nat:=if 4294967296≤x then 32+Ko (x / 2^32) else Ko x
theorem Wh {x:Nat} (h:x<65536):Hx x (Hy x) 16:=by
 unfold Hy
 split
 ·exact SK 8 (Wg (by omega)) (by omega)
 ·exact SL (Wg (by omega)) (by decide)
theorem Wi {x:Nat} (h:x<4294967296):Hx x (Ko x) 32:=by
 unfold Ko
 split
 ·exact SK 16 (Wh (by omega)) (by omega)
 ·exact SL (Wh (by omega)) (by decide)
theorem Wj {x:Nat} (h:x<18446744073709551616):Hx x (Cr x) 64:=by
 unfold Cr
 split
 ·exact SK 32 (Wi (by omega)) (by omega)
 ·exact SL (Wi (by omega)) (by decide)
theorem Gw (x k:Nat):An (x:Int) k=((x / 2^k:Nat):Int):=by
 unfold An
 rw [Int.fdiv_eq_ediv_of_nonneg _ (by exact_mod_cast Nat.zero_le (2^k))]
 rw [Int.natCast_ediv,Int.natCast_pow];rfl
theorem SM (c:Bool) {z:Int} (h:-9223372036854775808≤z∧z≤9223372036854775807):AZ c .i64 z=z:=by
 rw [Ea];exact BO h
theorem Wk {v:Nat} (h:v<256):AZ false .u8 (v:Int)=v:=by
 rw [Ea,IntKind.wrap_u8];omega
theorem iR {v:Nat}:C5 lenT (v:Int)=((Cq v:Nat):Int):=by
 unfold C5 Cq lenT
 rw [Int.toNat_natCast]
theorem iS:lenT.size=256:=by kernel_rfl
theorem iT (v:Nat):Cq v≤255:=by
 have:=(lenL.getD v 0).toNat_lt
 unfold Cq;omega
theorem iU (x:Nat) (hx:x<18446744073709551616):AU Tryz.prog 339 [.val false [.v (.int .u64 (x:Int))]] (CL (Cr x)):=by
 have pk:=fun (c:List (Bool×Bool)) (v:AV) (p:List Bool) (h:AR Tryz.prog (AI S5 K0) Tryz.f339 [.val false [.v (.int .u64 (x:Int))]] p 100=some (c,v)) (hc:AN c) (hk:Ix v=true)=>AW (AM N8 AQ) AE Tryz.func339 h hc hk
 have fin:∀ (n v m:Nat),v<256→n≤56→n+Cq v=m→CL (AZ false .i64 ((n:Int)+AZ false .i64 (C5 lenT (AZ false .u8 (v:Int)))))=CL (m:Int):=by
  intro n v m hv hn he
  have:=iT v
  rw [Wk hv,iR,SM (z:=((Cq v:Nat):Int)) _ (by omega),SM _ (by omega)]
  congr 1;omega
 have w0:∀ (z:Int),AZ true .i64 z=wI z:=fun z=>Ea ..
 have cnd:∀ v:Nat,v<256→decide (0≤AZ false .u8 (v:Int)∧AZ false .u8 (v:Int)<(lenT.size:Int))=true:=by
  intro v hv
  rw [Wk hv,iS];simp;omega
 unfold Cr
 by_cases h1:4294967296≤x
 ·rw [if_pos h1]
  unfold Ko
  have s1:=Gw x 32
  generalize hy:x / 2^32=y at *
  have hyb:y<4294967296:=by omega
  by_cases h2:65536≤y
  ·rw [if_pos h2]
   unfold Hy
   have s2:=Gw y 16
   generalize hz:y / 2^16=z at *
   have hzb:z<65536:=by omega
   by_cases h3:256≤z
   ·rw [if_pos h3]
    have s3:=Gw z 8
    have hb:z / 2^8<256:=by omega
    have r:=iI (x:Int)
    rw [s1,s2,s3] at r
    have h:=pk _ _ _ r ⟨by simp;omega,by simp,by simp;omega,by simp,by simp;omega,by simp,cnd _ hb,trivial⟩ rfl
    have e:AZ true .i64 (AZ true .i64 (32+16)+8)=((56:Nat):Int):=by kernel_rfl
    rw [e,fin 56 _ (32+(16+(8+Cq (z / 2^8)))) hb (by decide) (by omega)] at h
    exact h
   ·rw [if_neg h3]
    have hb:z<256:=by omega
    have r:=iJ (x:Int)
    rw [s1,s2] at r
    have h:=pk _ _ _ r ⟨by simp;omega,by simp,by simp;omega,by simp,by simp;omega,cnd _ hb,trivial⟩ rfl
    have e:AZ true .i64 (32+16)=((48:Nat):Int):=by kernel_rfl
    rw [e,fin 48 _ (32+(16+Cq z)) hb (by decide) (by omega)] at h
    exact h
  ·rw [if_neg h2]
   unfold Hy
   by_cases h3:256≤y
   ·rw [if_pos h3]
    have s3:=Gw y 8
    have hb:y / 2^8<256:=by omega
    have r:=iK (x:Int)
    rw [s1,s3] at r
    have h:=pk _ _ _ r ⟨by simp;omega,by simp,by simp;omega,by simp;omega,by simp,cnd _ hb,trivial⟩ rfl
    have e:AZ true .i64 (32+8)=((40:Nat):Int):=by kernel_rfl
    rw [e,fin 40 _ (32+(8+Cq (y / 2^8))) hb (by decide) (by omega)] at h
    exact h
   ·rw [if_neg h3]
    have hb:y<256:=by omega
    have r:=iL (x:Int)
    rw [s1] at r
    have h:=pk _ _ _ r ⟨by simp;omega,by simp,by simp;omega,by simp;omega,cnd _ hb,trivial⟩ rfl
    rw [show (32:Int)=((32:Nat):Int) from rfl,fin 32 _ (32+Cq y) hb (by decide) (by omega)] at h
    exact h
 ·rw [if_neg h1]
  unfold Ko
  by_cases h2:65536≤x
  ·rw [if_pos h2]
   unfold Hy
   have s2:=Gw x 16
   generalize hz:x / 2^16=z at *
   have hzb:z<65536:=by omega
   by_cases h3:256≤z
   ·rw [if_pos h3]
    have s3:=Gw z 8
    have hb:z / 2^8<256:=by omega
    have r:=iM (x:Int)
    rw [s2,s3] at r
    have h:=pk _ _ _ r ⟨by simp;omega,by simp;omega,by simp,by simp;omega,by simp,cnd _ hb,trivial⟩ rfl
    have e:AZ true .i64 (AZ true .i64 (0+16)+8)=((24:Nat):Int):=by kernel_rfl
    rw [e,fin 24 _ (16+(8+Cq (z / 2^8))) hb (by decide) (by omega)] at h
    exact h
   ·rw [if_neg h3]
    have hb:z<256:=by omega
    have r:=iN (x:Int)
    rw [s2] at r
    have h:=pk _ _ _ r ⟨by simp;omega,by simp;omega,by simp,by simp;omega,cnd _ hb,trivial⟩ rfl
    have e:AZ true .i64 (0+16)=((16:Nat):Int):=by kernel_rfl
    rw [e,fin 16 _ (16+Cq z) hb (by decide) (by omega)] at h
    exact h
  ·rw [if_neg h2]
   unfold Hy
   by_cases h3:256≤x
   ·rw [if_pos h3]
    have s3:=Gw x 8
    have hb:x / 2^8<256:=by omega
    have r:=iO (x:Int)
    rw [s3] at r
    have h:=pk _ _ _ r ⟨by simp;omega,by simp;omega,by simp;omega,by simp,cnd _ hb,trivial⟩ rfl
    have e:AZ true .i64 (0+8)=((8:Nat):Int):=by kernel_rfl
    rw [e,fin 8 _ (8+Cq (x / 2^8)) hb (by decide) (by omega)] at h
    exact h
   ·rw [if_neg h3]
    have hb:x<256:=by omega
    have r:=iQ (x:Int)
    have h:=pk _ _ _ r ⟨by simp;omega,by simp;omega,by simp;omega,cnd _ hb,trivial⟩ rfl
    rw [show (0:Int)=((0:Nat):Int) from rfl,fin 0 _ (Cq x) hb (by decide) (by omega)] at h
    exact h
def OO:List IntKind→List AV→Option (List Int)
 | [],[]=>some []
 | k::ks,A::r=>match BH (some A),OO ks r with
  | some (_,k',i),some l=>match decide (k'=k) with
   | true=>some (i::l)
   | false=>none
  | _,_=>none
 | _,_=>none
def SO:List IntKind→List Int→List AV
 | k::ks,i::is=>.val false [.v (.int k i)]::SO ks is
 | _,_=>[]
def SS:List IntKind→List Int→Prop
 | k::ks,i::is=>has k i∧SS ks is
 | _,_=>True
theorem Wl:∀ {ks:List IntKind} {args:List AV} {is:List Int} {us:List Value},OO ks args=some is→Ar BY args us→Ar BY (SO ks is) us∧SS ks is
 | [],[],is,us,h,hr=>by
  injection h with h;subst h
  exact ⟨hr,trivial⟩
 | [],_::_,_,_,h,_=>by cases h
 | _::_,[],_,_,h,_=>by cases h
 | k::ks,A::r,is,us,h,hr=>by
  unfold OO at h
  split at h
  ·rename_i c k' i l hi hl
   split at h
   ·rename_i hk
    injection h with h;subst h
    have hk':k'=k:=by simpa using hk
    subst hk'
    obtain ⟨u,us',r1,r2,rfl⟩:=hr
    obtain ⟨q1,q2⟩:=N0 hi r1
    obtain ⟨p1,p2⟩:=Wl hl r2
    exact ⟨⟨u,us',q1,p1,rfl⟩,q2,p2⟩
   ·cases h
  ·cases h
def MO (ks:List IntKind) (g:List Int→Option (List (Bool×Bool)×AV)):List AV→Option (List (Bool×Bool)×AV):=fun args=>match OO ks args with
 | some is=>g is
 | none=>none
theorem Sa {f:FuncId} {ks:List IntKind} {g:List Int→Option (List (Bool×Bool)×AV)} (h:∀ is c v,g is=some (c,v)→SS ks is→AN c→AU Tryz.prog f (SO ks is) v) :
  ∀ args c v,MO ks g args=some (c,v)→AN c→AU Tryz.prog f args v:=by
 intro args c v hs hc us w ha
 unfold MO at hs
 split at hs
 ·rename_i is his
  obtain ⟨q1,q2⟩:=Wl his ha
  exact h is c v hs q2 hc us w q1
 ·cases hs
def OP (g:Int→List (Bool×Bool)×AV):List Int→Option (List (Bool×Bool)×AV)
 | [x]=>some (g x)
 | _=>none
noncomputable def S20:List (FuncId×ASpec):=(339,GZ (MO [.u64] (OP fun x=>([],CL (Cr x.toNat)))))::S19
theorem Wm:AS Tryz.prog S20:=⟨JD Tryz.func339 (by kernel_rfl) (by kernel_rfl) (Sa fun is c v h hh _=>by
 unfold OP at h
 split at h
 ·injection h with h;injection h with h1 h2;subst h1;subst h2
  rename_i x
  have hb:=B9 hh.1
  obtain ⟨X,rfl⟩:=Int.eq_ofNat_of_zero_le hb.1
  rw [Int.toNat_natCast]
  exact iU X (by omega)
 ·cases h),f8⟩
theorem iV (x:Int):AR Tryz.prog (AI S20 K0) Tryz.f302 [.val false [.v (.int .u64 x)]] [] 100=some ([],CL (wI (64-(Cr x.toNat:Int)))):=by kernel_rfl
theorem iW (x:Nat) (hx:x<18446744073709551616):AU Tryz.prog 302 [.val false [.v (.int .u64 (x:Int))]] (CL (64-Cr x:Nat)):=by
 have h:=AW (AM Wm AQ) AE Tryz.func302 (iV x) trivial rfl
 have:=(Wj hx).2.2
 rw [Int.toNat_natCast,BO (by omega),show (64:Int)-(Cr x:Int)=((64-Cr x:Nat):Int) by omega] at h
 exact h
noncomputable def S21:List (FuncId×ASpec):=(302,GZ (MO [.u64] (OP fun x=>([],CL (64-Cr x.toNat:Nat)))))::S20
theorem Dq:AS Tryz.prog S21:=⟨JD Tryz.func302 (by kernel_rfl) (by kernel_rfl) (Sa fun is c v h hh _=>by
 unfold OP at h
 split at h
 ·injection h with h;injection h with h1 h2;subst h1;subst h2
  rename_i x
  have hb:=B9 hh.1
  obtain ⟨X,rfl⟩:=Int.eq_ofNat_of_zero_le hb.1
  rw [Int.toNat_natCast]
  exact iW X (by omega)
 ·cases h),Wm⟩
def dA (h l y:Int):List AV:=[.val false [.v (.int .u64 h)],.val false [.v (.int .u64 l)],.val false [.v (.int .u64 y)]]
noncomputable def iX:List Item:=DI (Aa Tryz.prog (AI S21 K0) (some 0) 300 0 none (Ak Tryz.f242 (dA 0 0 0) [] 0 [false,false,false]))
def uV (x:Int):AV:=.val false [.v (.int .u64 x)]
noncomputable def iY (Y s y1 y0 u u1 u0 q r:Int):List AV:=.any::.any::uV Y::.any::.any::.any::.any::.any::uV s::uV y1::uV y0::uV u::.any::uV u1::uV u0::uV q::uV r::List.replicate (Tryz.f242.ntmps-17) .any
noncomputable def Fu (Y s y1 y0 u u1 u0 q r:Int) (p:List Bool):ASt:=⟨iX,⟨iY Y s y1 y0 u u1 u0 q r,[],0,p⟩⟩
noncomputable def iZ:List Item:=DI (Aa Tryz.prog (AI S21 K0) (some 0) 300 0 none (Fu 0 0 0 0 0 0 0 0 0 [false,false]))
noncomputable def i0 (Y s y1 y0 u0 q r v z:Int):List AV:=.any::.any::uV Y::.any::.any::.any::.any::.any::uV s::uV y1::uV y0::.any::.any::.any::uV u0::uV q::uV r::uV v::uV z::List.replicate (Tryz.f242.ntmps-19) .any
noncomputable def Eh (Y s y1 y0 u0 q r v z:Int) (p:List Bool):ASt:=⟨iZ,⟨i0 Y s y1 y0 u0 q r v z,[],0,p⟩⟩
def MP (x s:Int):Int:=mW (x*2^min s.toNat 64)
def E5 (x s:Int):Int:=Int.fdiv x (2^min s.toNat 64)
def Hz (y:Int):Int:=mW ((64-Cr y.toNat:Nat):Int)
def Fv (y:Int):Int:=MP y (Hz y)
def Kp (h l y:Int):Int:=bits .or .u64 (MP h (Hz y)) (E5 l (mW (64-Hz y)))
def MQ (l y:Int):Int:=MP l (Hz y)
abbrev K1:Option (List Nat×List Nat×Nat):=some ([2,8,9,10,11,13,14,15,16],[],0)
abbrev K2:Option (List Nat×List Nat×Nat):=some ([2,8,9,10,14,15,16,17,18],[],0)
theorem i7 (h l y:Int):Aa Tryz.prog (AI S21 K0) (some 0) 300 0 K1 (Ak Tryz.f242 (dA h l y) [] 0 [false,false,false]) =
 some ([(decide (y=0),false),(decide (y≤h),false),(decide (h=0),false),(true,true),(decide (0≤(32:Int)∧0≤Fv y),true),(true,true),(decide (0≤mW (64-Hz y)∧0≤l),true),(true,true),
  (decide (0≤(32:Int)∧0≤MQ l y),true),(decide (E5 (Fv y) 32≠0),true)],[],
  Fu (Fv y) (Hz y) (E5 (Fv y) 32) (bits .and .u64 (Fv y) 4294967295) (Kp h l y) (E5 (MQ l y) 32) (bits .and .u64 (MQ l y) 4294967295) (mW (Int.tdiv (Kp h l y) (E5 (Fv y) 32)))
   (mW (Kp h l y-mW (mW (Int.tdiv (Kp h l y) (E5 (Fv y) 32))*E5 (Fv y) 32))) []):=by kernel_rfl
theorem i9 (h l y:Int):FU Tryz.prog (AI S21 K0) Tryz.f242 300 0 (Ak Tryz.f242 (dA h l y) [] 0 [false,false,true]) =
 some ([(decide (y=0),false),(decide (y≤h),false),(decide (h=0),true),(decide (y≠0),true),(decide (0≤l∧0<y),true)],[],.tup [(false,[.v (.int .u64 (mW (Int.tdiv l y)))]),(false,[.v (.int .u64 (Int.tmod l y))])]):=by kernel_rfl
def Fw (q r y0 u1:Int):Bool:=decide (mW (mW (4294967296*r)+u1)<mW (q*y0))
section
variable (Y s y1 y0 u u1 u0 q r v z:Int)
theorem jA:Aa Tryz.prog (AI S21 K0) (some 0) 300 0 K1 (Fu Y s y1 y0 u u1 u0 q r [true,false]) =
 some ([(decide (4294967296≤q),true),(decide (4294967296≤mW (r+y1)),false)],[],Fu Y s y1 y0 u u1 u0 (mW (q-1)) (mW (r+y1)) []):=by kernel_rfl
theorem jB:Aa Tryz.prog (AI S21 K0) (some 0) 300 0 K1 (Fu Y s y1 y0 u u1 u0 q r [false,true,false]) =
 some ([(decide (4294967296≤q),false),(Fw q r y0 u1,true),(decide (4294967296≤mW (r+y1)),false)],[],Fu Y s y1 y0 u u1 u0 (mW (q-1)) (mW (r+y1)) []):=by kernel_rfl
def Cs (Y u u1 q:Int):Int:=mW (mW (mW (u*4294967296)+u1)-mW (q*Y))
theorem jF:Aa Tryz.prog (AI S21 K0) (some 0) 300 0 K2 (Fu Y s y1 y0 u u1 u0 q r [true,true]) =
 some ([(decide (4294967296≤q),true),(decide (4294967296≤mW (r+y1)),true),(decide (y1≠0),true)],[],
  Eh Y s y1 y0 u0 (mW (q-1)) (mW (Cs Y u u1 (mW (q-1))-mW (mW (Int.tdiv (Cs Y u u1 (mW (q-1))) y1)*y1))) (Cs Y u u1 (mW (q-1))) (mW (Int.tdiv (Cs Y u u1 (mW (q-1))) y1)) []):=by kernel_rfl
theorem jG:Aa Tryz.prog (AI S21 K0) (some 0) 300 0 K2 (Fu Y s y1 y0 u u1 u0 q r [false,true,true]) =
 some ([(decide (4294967296≤q),false),(Fw q r y0 u1,true),(decide (4294967296≤mW (r+y1)),true),(decide (y1≠0),true)],[],
  Eh Y s y1 y0 u0 (mW (q-1)) (mW (Cs Y u u1 (mW (q-1))-mW (mW (Int.tdiv (Cs Y u u1 (mW (q-1))) y1)*y1))) (Cs Y u u1 (mW (q-1))) (mW (Int.tdiv (Cs Y u u1 (mW (q-1))) y1)) []):=by kernel_rfl
theorem Wn:Aa Tryz.prog (AI S21 K0) (some 0) 300 0 K2 (Fu Y s y1 y0 u u1 u0 q r [false,false]) =
 some ([(decide (4294967296≤q),false),(Fw q r y0 u1,false),(decide (y1≠0),true)],[],
  Eh Y s y1 y0 u0 q (mW (Cs Y u u1 q-mW (mW (Int.tdiv (Cs Y u u1 q) y1)*y1))) (Cs Y u u1 q) (mW (Int.tdiv (Cs Y u u1 q) y1)) []):=by kernel_rfl
theorem jH:Aa Tryz.prog (AI S21 K0) (some 0) 300 0 K2 (Eh Y s y1 y0 u0 q r v z [true,false]) =
 some ([(decide (4294967296≤z),true),(decide (4294967296≤mW (r+y1)),false)],[],Eh Y s y1 y0 u0 q (mW (r+y1)) v (mW (z-1)) []):=by kernel_rfl
theorem jI:Aa Tryz.prog (AI S21 K0) (some 0) 300 0 K2 (Eh Y s y1 y0 u0 q r v z [false,true,false]) =
 some ([(decide (4294967296≤z),false),(Fw z r y0 u0,true),(decide (4294967296≤mW (r+y1)),false)],[],Eh Y s y1 y0 u0 q (mW (r+y1)) v (mW (z-1)) []):=by kernel_rfl
def MR (Y s u0 q v z:Int):AV:=.tup [(false,[.v (.int .u64 (mW (mW (q*4294967296)+z)))]),(false,[.v (.int .u64 (E5 (Cs Y v u0 z) s))])]
theorem jJ:FU Tryz.prog (AI S21 K0) Tryz.f242 300 0 (Eh Y s y1 y0 u0 q r v z [true,true]) =
 some ([(decide (4294967296≤z),true),(decide (4294967296≤mW (r+y1)),true),(decide (0≤s∧0≤Cs Y v u0 (mW (z-1))),true)],[],MR Y s u0 q v (mW (z-1))):=by kernel_rfl
theorem jK:FU Tryz.prog (AI S21 K0) Tryz.f242 300 0 (Eh Y s y1 y0 u0 q r v z [false,true,true]) =
 some ([(decide (4294967296≤z),false),(Fw z r y0 u0,true),(decide (4294967296≤mW (r+y1)),true),(decide (0≤s∧0≤Cs Y v u0 (mW (z-1))),true)],[],MR Y s u0 q v (mW (z-1))):=by kernel_rfl
theorem Wo:FU Tryz.prog (AI S21 K0) Tryz.f242 300 0 (Eh Y s y1 y0 u0 q r v z [false,false]) =
 some ([(decide (4294967296≤z),false),(Fw z r y0 u0,false),(decide (0≤s∧0≤Cs Y v u0 z),true)],[],MR Y s u0 q v z):=by kernel_rfl
end
theorem OQ {u u1 Y q:Nat} (hu:u<Y) (hu1:u1<4294967296) (hq:4294967296≤q):(u*4294967296+u1) / Y<q:=by
 refine Nat.lt_of_lt_of_le (Nat.div_lt_of_lt_mul ?_) hq
 rw [Nat.mul_comm Y]
 omega
theorem Wp {u u1 y1 y0 Y q r:Nat} (hY:Y=y1*4294967296+y0) (hu:u=q*y1+r) (h:4294967296*r+u1<q*y0):(u*4294967296+u1) / Y<q:=by
 refine Nat.div_lt_of_lt_mul ?_
 have e1:(q*y1+r)*4294967296=q*y1*4294967296+r*4294967296:=Nat.add_mul ..
 have e2:(y1*4294967296+y0)*q=q*y1*4294967296+q*y0:=by rw [Nat.add_mul,Nat.mul_comm y0 q,Nat.mul_right_comm,Nat.mul_comm y1 q]
 rw [hY,hu,e1,e2]
 omega
theorem OR {u u1 y1 y0 Y q r:Nat} (hY:Y=y1*4294967296+y0) (hpos:0<Y) (hu:u=q*y1+r) (h:q*y0≤4294967296*r+u1) (hle:(u*4294967296+u1) / Y≤q):(u*4294967296+u1) / Y=q:=by
 refine Nat.le_antisymm hle ((Nat.le_div_iff_mul_le hpos).2 ?_)
 rw [hY,hu,Nat.mul_add,← Nat.mul_assoc]
 omega
theorem Wq {q y0 r u1:Nat} (hq:q≤4294967297) (hy:y0<4294967296) (hr:4294967296≤r):q*y0≤4294967296*r+u1:=by
 have:=Nat.mul_le_mul hq (show y0≤4294967295 by omega)
 omega
theorem Wr {u u1 y1 y0 Y:Nat} (hY:Y=y1*4294967296+y0) (hy1:0<y1) (hu1:u1<4294967296):(u*4294967296+u1) / Y≤u / y1:=by
 refine (Nat.le_div_iff_mul_le hy1).2 ?_
 have h:=Nat.div_mul_le_self (u*4294967296+u1) Y
 generalize (u*4294967296+u1) / Y=q at *
 rw [hY,Nat.mul_add,← Nat.mul_assoc] at h
 generalize q*y1=A at *
 generalize q*y0=B at *
 omega
theorem Ws {u y1 y0 Y:Nat} (hY:Y=y1*4294967296+y0) (hy0:y0<4294967296) (hy1:2147483648≤y1) (hu:u<Y):u / y1≤4294967298:=by
 have hb:u<4294967299*y1:=by omega
 have:=(Nat.div_lt_iff_lt_mul (show 0<y1 by omega)).2 hb
 omega
theorem Kq {Y u u1 q:Nat} (h:q=(u*4294967296+u1) / Y) (hpos:0<Y) (hY:Y≤18446744073709551616):Cs Y u u1 q=(((u*4294967296+u1) % Y:Nat):Int):=by
 have h1:=Nat.div_add_mod (u*4294967296+u1) Y
 have h2:=Nat.mod_lt (u*4294967296+u1) hpos
 rw [← h,Nat.mul_comm] at h1
 unfold Cs
 simp only [Co]
 have e:(q:Int)*(Y:Int)=((q*Y:Nat):Int):=by rw [Int.natCast_mul]
 rw [e]
 generalize q*Y=N at *
 generalize (u*4294967296+u1) % Y=m at *
 omega
theorem OS {q r y0 u1:Nat} (hq:q<4294967296) (hr:r<4294967296) (hy:y0<4294967296) (hu1:u1<4294967296):Fw q r y0 u1=decide (4294967296*r+u1<q*y0):=by
 have hm:=Nat.mul_le_mul (show q≤4294967295 by omega) (show y0≤4294967295 by omega)
 unfold Fw
 simp only [Co]
 have e:(q:Int)*(y0:Int)=((q*y0:Nat):Int):=by rw [Int.natCast_mul]
 rw [e]
 generalize q*y0=N at *
 have e1:(4294967296*(r:Int)) % 18446744073709551616=4294967296*(r:Int):=by omega
 rw [e1]
 have e2:(4294967296*(r:Int)+u1) % 18446744073709551616=4294967296*(r:Int)+u1:=by omega
 have e3:((N:Nat):Int) % 18446744073709551616=N:=by omega
 rw [e2,e3]
 by_cases h:4294967296*r+u1<N
 ·rw [decide_eq_true h,decide_eq_true (by omega)]
 ·rw [decide_eq_false h,decide_eq_false (by omega)]
theorem Wt (v y1:Nat) (hv:v<18446744073709551616) (hy1:0<y1):mW (Int.tdiv (v:Int) y1)=((v / y1:Nat):Int)∧mW ((v:Int)-mW (mW (Int.tdiv (v:Int) y1)*y1))=((v % y1:Nat):Int):=by
 have h1:=Nat.div_add_mod v y1
 have h2:=Nat.mod_lt v hy1
 have h3:=Nat.div_le_self v y1
 have e0:Int.tdiv (v:Int) y1=((v / y1:Nat):Int):=by rw [Int.tdiv_eq_ediv_of_nonneg (by omega)];rfl
 rw [e0,JB,Nat.mod_eq_of_lt (by omega)]
 refine ⟨rfl,?_⟩
 have e1:((v / y1:Nat):Int)*(y1:Int)=((v / y1*y1:Nat):Int):=by rw [Int.natCast_mul]
 rw [e1,JB,Co,Nat.mul_comm]
 generalize y1*(v / y1)=N at *
 omega
theorem Wu {q:Nat} (h:0<q) (hq:q≤18446744073709551616):mW ((q:Int)-1)=((q-1:Nat):Int):=by rw [Co];omega
theorem Wv {r y1:Nat} (hr:r<4294967296) (hy:y1<4294967296):mW ((r:Int)+y1)=((r+y1:Nat):Int):=by rw [Co];omega
def MS (q z m s:Nat):AV:=.tup [(false,[.v (.int .u64 ((q*4294967296+z:Nat):Int))]),(false,[.v (.int .u64 ((m / 2^min s 64:Nat):Int))])]
theorem Sb (x s:Nat):E5 (x:Int) (s:Int)=((x / 2^min s 64:Nat):Int):=by
 unfold E5
 rw [Int.toNat_natCast]
 exact Gw x _
section
variable {Y s y1 y0 u0:Nat} (hY:Y=y1*4294967296+y0) (hy0:y0<4294967296) (hy1:2147483648≤y1) (hy1':y1<4294967296) (hu0:u0<4294967296) (w0:World)
include hY hy0 hy1 hy1' hu0
theorem jL {v q:Nat} (hv:v<Y) (hq:q<4294967296):∀ z r,v=z*y1+r→r<4294967296→z≤4294967298→(v*4294967296+u0) / Y≤z →
  ASafe Tryz.prog 242 BY w0 (L1 w0 (MS q ((v*4294967296+u0) / Y) ((v*4294967296+u0) % Y) s)) Tryz.f242.ntmps [] (Eh Y s y1 y0 u0 q r v z []):=by
 have hpos:0<Y:=by omega
 have hYle:Y≤18446744073709551616:=by omega
 have fin:∀ z:Nat,z=(v*4294967296+u0) / Y→MR Y s u0 q v z=MS q ((v*4294967296+u0) / Y) ((v*4294967296+u0) % Y) s:=by
  intro z hz
  have hlt:z<4294967296:=by rw [hz];exact OQ hv hu0 (Nat.le_refl _)
  unfold MR MS
  rw [Kq hz hpos hYle,Sb,← hz]
  have:mW (mW ((q:Int)*4294967296)+(z:Int))=((q*4294967296+z:Nat):Int):=by rw [Co,Co];omega
  rw [this]
 have pos21:∀ z:Nat,z=(v*4294967296+u0) / Y→decide (0≤(s:Int)∧0≤Cs Y v u0 z)=true:=by
  intro z hz
  rw [Kq hz hpos hYle];simp only [decide_eq_true_eq];omega
 intro z
 induction z with
 | zero =>
  intro r hz hr _ hle
  have hq0:(v*4294967296+u0) / Y=0:=Nat.le_zero.1 hle
  have hdc:Fw ((0:Nat):Int) r y0 u0=false:=by rw [OS (by decide) hr hy0 hu0];simp
  rw [← fin 0 hq0.symm]
  exact Ah [false,false] (GR (AM Dq AQ) AE Tryz.func242 (Wo ..) ⟨by simp,hdc,pos21 0 hq0.symm,trivial⟩ (AT (by kernel_rfl)) (fun _ _=>rfl) rfl)
 | succ z ih =>
  intro r hz hr htop hle
  have hdq:=Wu (q:=z+1) (by omega) (by omega)
  have hir:=Wv hr hy1'
  rw [Nat.add_sub_cancel] at hdq
  have hz':v=z*y1+(r+y1):=by rw [hz,Nat.succ_mul];omega
  have go:∀ (hlt:(v*4294967296+u0) / Y<z+1),(4294967296≤r+y1→(v*4294967296+u0) / Y=z):=fun hlt hb =>
   OR hY hpos hz' (Wq (by omega) hy0 hb) (by omega)
  by_cases hbig:4294967296≤z+1
  ·have hlt:=OQ hv hu0 hbig
   by_cases hb:4294967296≤r+y1
   ·have hq:=go hlt hb
    have h:=GR (w0:=w0) (β0:=BY) (n:=Tryz.f242.ntmps) (AM Dq AQ) AE Tryz.func242 (jJ Y s y1 y0 u0 q r v (z+1:Nat)) ⟨by simp;omega,by rw [hir];simp;omega,by rw [hdq];exact pos21 z hq.symm,trivial⟩ (AT (by kernel_rfl)) (fun _ _=>rfl) rfl
    rw [hdq,fin z hq.symm] at h
    exact Ah [true,true] h
   ·refine Ah [true,false] (Ai (AM Dq AQ) AE (jH Y s y1 y0 u0 q r v (z+1:Nat)) ⟨by simp;omega,by rw [hir];simp;omega,trivial⟩ (AT (by kernel_rfl)) (fun _ _=>rfl) (fun _ h=>by cases h) fun _=>?_)
    rw [hdq,hir]
    exact ih (r+y1) hz' (by omega) (by omega) (by omega)
  ·have hsm:z+1<4294967296:=by omega
   have hdc:=OS (u1:=u0) hsm hr hy0 hu0
   by_cases hc:4294967296*r+u0<(z+1)*y0
   ·have hlt:=Wp hY hz hc
    by_cases hb:4294967296≤r+y1
    ·have hq:=go hlt hb
     have h:=GR (w0:=w0) (β0:=BY) (n:=Tryz.f242.ntmps) (AM Dq AQ) AE Tryz.func242 (jK Y s y1 y0 u0 q r v (z+1:Nat)) ⟨by simp;omega,by rw [hdc];exact decide_eq_true hc,by rw [hir];simp;omega,by rw [hdq];exact pos21 z hq.symm,trivial⟩ (AT (by kernel_rfl)) (fun _ _=>rfl) rfl
     rw [hdq,fin z hq.symm] at h
     exact Ah [false,true,true] h
    ·refine Ah [false,true,false] (Ai (AM Dq AQ) AE (jI Y s y1 y0 u0 q r v (z+1:Nat)) ⟨by simp;omega,by rw [hdc];exact decide_eq_true hc,by rw [hir];simp;omega,trivial⟩ (AT (by kernel_rfl)) (fun _ _=>rfl) (fun _ h=>by cases h) fun _=>?_)
     rw [hdq,hir]
     exact ih (r+y1) hz' (by omega) (by omega) (by omega)
   ·have hq:=OR hY hpos hz (by omega) hle
    rw [← fin (z+1) hq.symm]
    exact Ah [false,false] (GR (AM Dq AQ) AE Tryz.func242 (Wo ..) ⟨by simp;omega,by rw [hdc];exact decide_eq_false hc,pos21 _ hq.symm,trivial⟩ (AT (by kernel_rfl)) (fun _ _=>rfl) rfl)
theorem jM {u u1:Nat} (hu:u<Y) (hu1:u1<4294967296) {R:Ending→World→Prop}
  (hnext:ASafe Tryz.prog 242 BY w0 R Tryz.f242.ntmps [] (Eh Y s y1 y0 u0 ((u*4294967296+u1) / Y:Nat) ((u*4294967296+u1) % Y % y1:Nat) ((u*4294967296+u1) % Y:Nat) ((u*4294967296+u1) % Y / y1:Nat) [])) :
  ∀ q r,u=q*y1+r→r<4294967296→q≤4294967298→(u*4294967296+u1) / Y≤q→ASafe Tryz.prog 242 BY w0 R Tryz.f242.ntmps [] (Fu Y s y1 y0 u u1 u0 q r []):=by
 have _h:=hu0
 have hpos:0<Y:=by omega
 have hYle:Y≤18446744073709551616:=by omega
 have hm:=Nat.mod_lt (u*4294967296+u1) hpos
 have hne:decide ((y1:Int)≠0)=true:=by simp only [decide_eq_true_eq];omega
 obtain ⟨n1,n2⟩:=Wt ((u*4294967296+u1) % Y) y1 (by omega) (by omega)
 intro q
 induction q with
 | zero =>
  intro r hz hr _ hle
  have hq0:((0:Nat))=(u*4294967296+u1) / Y:=(Nat.le_zero.1 hle).symm
  have hdc:Fw ((0:Nat):Int) r y0 u1=false:=by rw [OS (by decide) hr hy0 hu1];simp
  refine Ah [false,false] (Ai (AM Dq AQ) AE (Wn Y s y1 y0 u u1 u0 (0:Nat) r) ⟨by simp,hdc,hne,trivial⟩ (AT (by kernel_rfl)) (fun _ _=>rfl) (fun _ h=>by cases h) fun _=>?_)
  rw [Kq hq0 hpos hYle,n2,n1]
  rw [hq0]
  exact hnext
 | succ q ih =>
  intro r hz hr htop hle
  have hdq:=Wu (q:=q+1) (by omega) (by omega)
  have hir:=Wv hr hy1'
  rw [Nat.add_sub_cancel] at hdq
  have hz':u=q*y1+(r+y1):=by rw [hz,Nat.succ_mul];omega
  have go:∀ (hlt:(u*4294967296+u1) / Y<q+1),(4294967296≤r+y1→(u*4294967296+u1) / Y=q):=fun hlt hb =>
   OR hY hpos hz' (Wq (by omega) hy0 hb) (by omega)
  by_cases hbig:4294967296≤q+1
  ·have hlt:=OQ hu hu1 hbig
   by_cases hb:4294967296≤r+y1
   ·have hq:=go hlt hb
    refine Ah [true,true] (Ai (AM Dq AQ) AE (jF Y s y1 y0 u u1 u0 (q+1:Nat) r) ⟨by simp;omega,by rw [hir];simp;omega,hne,trivial⟩ (AT (by kernel_rfl)) (fun _ _=>rfl) (fun _ h=>by cases h) fun _=>?_)
    rw [hdq,Kq hq.symm hpos hYle,n2,n1]
    rw [← hq]
    exact hnext
   ·refine Ah [true,false] (Ai (AM Dq AQ) AE (jA Y s y1 y0 u u1 u0 (q+1:Nat) r) ⟨by simp;omega,by rw [hir];simp;omega,trivial⟩ (AT (by kernel_rfl)) (fun _ _=>rfl) (fun _ h=>by cases h) fun _=>?_)
    rw [hdq,hir]
    exact ih (r+y1) hz' (by omega) (by omega) (by omega)
  ·have hsm:q+1<4294967296:=by omega
   have hdc:=OS (u1:=u1) hsm hr hy0 hu1
   by_cases hc:4294967296*r+u1<(q+1)*y0
   ·have hlt:=Wp hY hz hc
    by_cases hb:4294967296≤r+y1
    ·have hq:=go hlt hb
     refine Ah [false,true,true] (Ai (AM Dq AQ) AE (jG Y s y1 y0 u u1 u0 (q+1:Nat) r) ⟨by simp;omega,by rw [hdc];exact decide_eq_true hc,by rw [hir];simp;omega,hne,trivial⟩ (AT (by kernel_rfl)) (fun _ _=>rfl) (fun _ h=>by cases h) fun _=>?_)
     rw [hdq,Kq hq.symm hpos hYle,n2,n1]
     rw [← hq]
     exact hnext
    ·refine Ah [false,true,false] (Ai (AM Dq AQ) AE (jB Y s y1 y0 u u1 u0 (q+1:Nat) r) ⟨by simp;omega,by rw [hdc];exact decide_eq_true hc,by rw [hir];simp;omega,trivial⟩ (AT (by kernel_rfl)) (fun _ _=>rfl) (fun _ h=>by cases h) fun _=>?_)
     rw [hdq,hir]
     exact ih (r+y1) hz' (by omega) (by omega) (by omega)
   ·have hq:=OR hY hpos hz (by omega) hle
    refine Ah [false,false] (Ai (AM Dq AQ) AE (Wn Y s y1 y0 u u1 u0 (q+1:Nat) r) ⟨by simp;omega,by rw [hdc];exact decide_eq_false hc,hne,trivial⟩ (AT (by kernel_rfl)) (fun _ _=>rfl) (fun _ h=>by cases h) fun _=>?_)
    rw [Kq hq.symm hpos hYle,n2,n1]
    rw [← hq]
    exact hnext
end
def Bh:Nat:=18446744073709551616
theorem Sc {x s:Nat} (hs:s≤64):MP (x:Int) (s:Int)=((x*2^s % Bh:Nat):Int):=by
 unfold MP
 rw [Int.toNat_natCast,Nat.min_eq_left hs]
 have:(x:Int)*2^s=((x*2^s:Nat):Int):=by rw [Int.natCast_mul,Int.natCast_pow];rfl
 rw [this,JB];rfl
theorem Sd {h s B:Nat} (hA:h*2^s<Bh) (hB:B<2^s) (hs:s≤64):bits .or .u64 ((h*2^s:Nat):Int) (B:Int)=((h*2^s+B:Nat):Int):=by
 have hle:2^s≤2^64:=Nat.pow_le_pow_right (by decide) hs
 have:=(bits_nat .u64 64 (by decide) (fun n h0 h1=>by rw [IntKind.wrap_u64];omega) (h*2^s) B hA (by omega)).2
 rw [this,← Nat.shiftLeft_eq,Nat.shiftLeft_add_eq_or_of_lt hB]
theorem jN {y:Nat} (h0:0<y) (h1:y<Bh):∃ s,s≤63∧64-Cr y=s∧9223372036854775808≤y*2^s∧y*2^s<Bh:=by
 obtain ⟨b1,b2,b3⟩:=Wj h1
 obtain ⟨b4,b5⟩:=b2 h0
 refine ⟨64-Cr y,by omega,rfl,?_,?_⟩
 ·have:=Nat.mul_le_mul_right (2^(64-Cr y)) b5
  rw [← Nat.pow_add,show Cr y-1+(64-Cr y)=63 by omega] at this
  exact this
 ·have:=Nat.mul_lt_mul_of_pos_right b1 (show 0<2^(64-Cr y) from Nat.pow_pos (by decide))
  rw [← Nat.pow_add,show Cr y+(64-Cr y)=64 by omega] at this
  exact this
theorem jO {Y u u1 u0 b:Nat} (hpos:0<Y):(u*(b*b)+(u1*b+u0)) / Y=(u*b+u1) / Y*b+((u*b+u1) % Y*b+u0) / Y∧(u*(b*b)+(u1*b+u0)) % Y=((u*b+u1) % Y*b+u0) % Y:=by
 have e:u*(b*b)+(u1*b+u0)=(u*b+u1) % Y*b+u0+Y*((u*b+u1) / Y*b):=by
  have h1:=Nat.div_add_mod (u*b+u1) Y
  have:u*(b*b)+u1*b=(u*b+u1)*b:=by rw [Nat.add_mul,Nat.mul_assoc]
  rw [← Nat.add_assoc,this]
  conv=>lhs;rw [← h1,Nat.add_mul]
  rw [Nat.mul_assoc]
  omega
 rw [e,Nat.add_mul_div_left _ _ hpos,Nat.add_mul_mod_self_left]
 exact ⟨by omega,rfl⟩
theorem jP {l s:Nat} (hl:l<Bh) (hs:s≤63):l*2^s=l / 2^(64-s)*Bh+l*2^s % Bh∧l / 2^(64-s)<2^s:=by
 have e:Bh=2^(64-s)*2^s:=by rw [← Nat.pow_add,show 64-s+s=64 by omega];rfl
 have hp:0<2^s:=Nat.pow_pos (by decide)
 constructor
 ·have h1:=Nat.div_add_mod (l*2^s) Bh
  have h2:l*2^s / Bh=l / 2^(64-s):=by rw [e,Nat.mul_div_mul_right _ _ hp]
  rw [h2,Nat.mul_comm Bh] at h1
  exact h1.symm
 ·refine Nat.div_lt_of_lt_mul ?_
  rw [← e];exact hl
def OT (h l y:Nat):AV:=.tup [(false,[.v (.int .u64 (((h*Bh+l) / y:Nat):Int))]),(false,[.v (.int .u64 (((h*Bh+l) % y:Nat):Int))])]
theorem jQ {h l y:Nat} (hh:h<y) (hl:l<Bh) (hy:y<Bh):AU Tryz.prog 242 (dA h l y) (OT h l y):=by
 refine RC (path:=[]) Tryz.func242 (by kernel_rfl) (by kernel_rfl) fun w0=>?_
 have hy0:0<y:=by omega
 by_cases hz:h=0
 ·subst hz
  have h1:=GR (w0:=w0) (β0:=BY) (n:=Tryz.f242.ntmps) (AM Dq AQ) AE Tryz.func242 (i9 ((0:Nat):Int) l y) ⟨by simp;omega,by simp;omega,by simp,by simp;omega,by simp;omega,trivial⟩ (AT (by kernel_rfl)) (fun _ _=>rfl) rfl
  have e1:mW (Int.tdiv (l:Int) y)=(((0*Bh+l) / y:Nat):Int):=by
   rw [Int.tdiv_eq_ediv_of_nonneg (by omega),Nat.zero_mul,Nat.zero_add,← Int.natCast_ediv,JB,Nat.mod_eq_of_lt (Nat.lt_of_le_of_lt (Nat.div_le_self l y) (show l<18446744073709551616 from hl))]
  have e2:Int.tmod (l:Int) y=(((0*Bh+l) % y:Nat):Int):=by
   rw [Int.tmod_eq_emod_of_nonneg (by omega),Nat.zero_mul,Nat.zero_add];rfl
  rw [e1,e2] at h1
  exact Ah [false,false,true] h1
 ·obtain ⟨s,hs,hls,hY1,hY2⟩:=jN hy0 hy
  have hp:0<2^s:=Nat.pow_pos (by decide)
  obtain ⟨lo1,lo2⟩:=jP hl hs
  have es:Hz (y:Int)=(s:Int):=by
   unfold Hz
   rw [Int.toNat_natCast,hls,JB,Nat.mod_eq_of_lt (by omega)]
  have eY:Fv (y:Int)=((y*2^s:Nat):Int):=by
   unfold Fv
   rw [es,Sc (by omega),Nat.mod_eq_of_lt hY2]
  have hA:h*2^s+2^s≤y*2^s:=by
   have:=Nat.mul_le_mul_right (2^s) (show h+1≤y from hh)
   rwa [Nat.add_mul,Nat.one_mul] at this
  have eu:Kp (h:Int) (l:Int) (y:Int)=((h*2^s+l / 2^(64-s):Nat):Int):=by
   unfold Kp
   have e64:mW (64-(s:Int))=((64-s:Nat):Int):=by rw [Co];omega
   rw [es,e64,Sc (by omega),Nat.mod_eq_of_lt (by omega),Sb,Nat.min_eq_left (show 64-s≤64 by omega)]
   exact Sd (by omega) lo2 (by omega)
  have el:MQ (l:Int) (y:Int)=((l*2^s % Bh:Nat):Int):=by
   unfold MQ
   rw [es,Sc (by omega)]
  generalize hYd:y*2^s=Y at *
  generalize hud:h*2^s+l / 2^(64-s)=u at *
  generalize hld:l*2^s % Bh=ul at *
  have hul:ul<Bh:=by rw [← hld];exact Nat.mod_lt _ (by decide)
  have hu:u<Y:=by omega
  unfold Bh at hul hY2
  have ent:=i7 (h:Int) (l:Int) (y:Int)
  have e32:∀ x:Nat,E5 (x:Int) 32=((x / 4294967296:Nat):Int):=fun x=>Sb x 32
  have eand:∀ x:Nat,x<18446744073709551616→bits .and .u64 (x:Int) 4294967295=((x % 4294967296:Nat):Int):=fun x hx=>by
   have:=L8 (x:=(x:Int)) (by omega) (by omega)
   unfold I6 at this
   rw [this];omega
  have e64:mW (64-(s:Int))=((64-s:Nat):Int):=by rw [Co];omega
  rw [eY,eu,el,es,e32,e32,eand Y hY2,eand ul hul,e64] at ent
  obtain ⟨n1,n2⟩:=Wt u (Y / 4294967296) (by omega) (by omega)
  rw [n2,n1] at ent
  have hYs:Y=Y / 4294967296*4294967296+Y % 4294967296:=by omega
  refine Ah [false,false,false] (Ai (AM Dq AQ) AE ent ?_ (AT (by kernel_rfl)) (fun _ _=>rfl) (fun _ h=>by cases h) fun _=>?_)
  ·refine ⟨by simp;omega,by simp;omega,by simp;omega,rfl,by simp,rfl,by simp,rfl,by simp,?_,trivial⟩
   simp only [decide_eq_true_eq];omega
  ·have hr1:=Nat.mod_lt u (show 0<Y / 4294967296 by omega)
   have hdm:=Nat.div_add_mod u (Y / 4294967296)
   rw [Nat.mul_comm] at hdm
   refine jM hYs (Nat.mod_lt _ (by decide)) (by omega) (by omega) (Nat.mod_lt ul (by decide)) w0 hu (by omega) ?_ (u / (Y / 4294967296)) (u % (Y / 4294967296)) hdm.symm (by omega) (Ws hYs (Nat.mod_lt _ (by decide)) (by omega) hu) (Wr hYs (by omega) (by omega))
   have hYpos:0<Y:=by omega
   generalize hu1:ul / 4294967296=u1 at *
   generalize hu0:ul % 4294967296=u0 at *
   have hv:=Nat.mod_lt (u*4294967296+u1) hYpos
   have hq1:(u*4294967296+u1) / Y<4294967296:=OQ hu (by omega) (Nat.le_refl _)
   obtain ⟨g1,g2⟩:=jO (u:=u) (u1:=u1) (u0:=u0) (b:=4294967296) hYpos
   have hN:u*(4294967296*4294967296)+(u1*4294967296+u0)=(h*Bh+l)*2^s:=by
    rw [Nat.add_mul,lo1,← hud]
    have:u1*4294967296+u0=ul:=by omega
    rw [this]
    show (h*2^s+l / 2^(64-s))*Bh+ul=h*Bh*2^s+(l / 2^(64-s)*Bh+ul)
    rw [Nat.add_mul,Nat.mul_right_comm h Bh];omega
   rw [hN,← hYd] at g1 g2
   rw [Nat.mul_div_mul_right _ _ hp] at g1
   rw [Nat.mul_mod_mul_right] at g2
   rw [hYd] at g1 g2
   obtain ⟨v,hv'⟩:∃ v,v=(u*4294967296+u1) % Y:=⟨_,rfl⟩
   rw [← hv'] at hv g1 g2 ⊢
   have hdm2:=Nat.div_add_mod v (Y / 4294967296)
   rw [Nat.mul_comm] at hdm2
   have hr2:=Nat.mod_lt v (show 0<Y / 4294967296 by omega)
   have fin:=jL (s:=s) (u0:=u0) hYs (Nat.mod_lt _ (by decide)) (by omega) (by omega) (by rw [← hu0];exact Nat.mod_lt _ (by decide)) w0 hv hq1 (v / (Y / 4294967296)) (v % (Y / 4294967296)) hdm2.symm (by omega) (Ws hYs (Nat.mod_lt _ (by decide)) (by omega) hv) (Wr hYs (by omega) (by rw [← hu0];exact Nat.mod_lt _ (by decide)))
   have eo:MS ((u*4294967296+u1) / Y) ((v*4294967296+u0) / Y) ((v*4294967296+u0) % Y) s=OT h l y:=by
    unfold MS OT
    rw [← g1,← g2,Nat.min_eq_left (show s≤64 by omega),Nat.mul_div_cancel _ hp]
   rw [eo] at fin
   exact fin
def Ww:List Int→Option (List (Bool×Bool)×AV)
 | [h,l,y]=>some ([(decide (h<y),true)],OT h.toNat l.toNat y.toNat)
 | _=>none
noncomputable def S22:List (FuncId×ASpec):=(242,GZ (MO [.u64,.u64,.u64] Ww))::S21
theorem Fx:AS Tryz.prog S22:=⟨JD Tryz.func242 (by kernel_rfl) (by kernel_rfl) (Sa fun is c v h hh hc=>by
 unfold Ww at h
 split at h
 ·rename_i h0 l0 y0
  injection h with h;injection h with h1 h2;subst h1;subst h2
  obtain ⟨q1,q2,q3,_⟩:=hh
  have b1:=B9 q1
  have b2:=B9 q2
  have b3:=B9 q3
  obtain ⟨H,rfl⟩:=Int.eq_ofNat_of_zero_le b1.1
  obtain ⟨L,rfl⟩:=Int.eq_ofNat_of_zero_le b2.1
  obtain ⟨Y,rfl⟩:=Int.eq_ofNat_of_zero_le b3.1
  have hlt:=hc.1
  simp only [decide_eq_true_eq] at hlt
  rw [Int.toNat_natCast,Int.toNat_natCast,Int.toNat_natCast]
  exact jQ (by omega) (show L<18446744073709551616 by omega) (show Y<18446744073709551616 by omega)
 ·cases h),Dq⟩
def hw (a b:Int):Int:=bits .or .u64 (Int.fdiv a (2^min (Int.toNat 1) 64)) (mW (b*2^min (Int.toNat 63) 64))
theorem JE {a b:Int} (ha:0≤a∧a<18446744073709551616) (hb:0≤b∧b<18446744073709551616):hw a b=a / 2+b % 2*9223372036854775808:=by
 obtain ⟨A,rfl⟩:=Int.eq_ofNat_of_zero_le ha.1
 obtain ⟨B,rfl⟩:=Int.eq_ofNat_of_zero_le hb.1
 unfold hw
 have e1:Int.fdiv (A:Int) (2^min (Int.toNat 1) 64)=((A / 2:Nat):Int):=Gw A 1
 have e2:mW ((B:Int)*2^min (Int.toNat 63) 64)=((B % 2*2^63:Nat):Int):=by
  have:(B:Int)*2^min (Int.toNat 63) 64=((B*9223372036854775808:Nat):Int):=by rw [Int.natCast_mul];rfl
  rw [this,JB];omega
 have hlt:A / 2<2^63:=by omega
 have h:=Sd (h:=B % 2) (s:=63) (B:=A / 2) (by unfold Bh;omega) hlt (by decide)
 have comm:∀ x y:Int,bits .or .u64 x y=bits .or .u64 y x:=fun x y=>by simp only [bits,BitVec.or_comm]
 rw [e1,e2,comm,h]
 omega
def Wx (x:Nat) (h:Int):List Ch:=w6 (hw (AB x 0) (AB x 1)) (hw (AB x 1) (AB x 2)) (hw (AB x 2) (AB x 3)) (hw (AB x 3) (AB x 4)) (hw (AB x 4) (AB x 5)) (hw (AB x 5) h)
def Dr (x:Nat):Blk:=⟨30,[.num 6 x],false⟩
def EO (x h:Nat):Nat:=(x+h % 2*RR) / 2
theorem jS (x:Nat) (h:Int):AP Tryz.prog (AI S22 K0) Tryz.f243 300 1 [0] (Ak Tryz.f243 [.val false [.p 0 0],.val false [.v (.int .u64 h)]] [(0,some (Dr x))] 1 []) =
 some (Fs 12,[0],.tup [],[(0,some ⟨30,Wx x h,false⟩)]):=by kernel_rfl
theorem jT {x h:Nat} (hx:x<RR) (hh:h<18446744073709551616) {β:Env} {l:List Value} (hr:AG β (Wx x h) l):AG β [.num 6 (EO x h)] l:=by
 have b0:=Aw x 0
 have b1:=Aw x 1
 have b2:=Aw x 2
 have b3:=Aw x 3
 have b4:=Aw x 4
 have b5:=Aw x 5
 have hX:=I7 (x:=x) (by rw [← CT];exact hx)
 have e0:=JE b0 b1
 have e1:=JE b1 b2
 have e2:=JE b2 b3
 have e3:=JE b3 b4
 have e4:=JE b4 b5
 have e5:=JE (b:=(h:Int)) b5 (by omega)
 have hb:∀ {a b:Int},0≤a∧a<18446744073709551616→0≤b∧b<18446744073709551616→0≤hw a b∧hw a b<18446744073709551616:=fun ha hb=>by rw [JE ha hb];omega
 have:=N2 (β:=β) (u:=.agg ⟨l⟩) (y:=EO x h) (hb b0 b1) (hb b1 b2) (hb b2 b3) (hb b3 b4) (hb b4 b5) (hb b5 (show 0≤(h:Int)∧(h:Int)<18446744073709551616 by omega)) (by
  unfold EO DH at *
  unfold RR
  omega) ⟨l,hr,rfl⟩
 obtain ⟨l',h1,h2⟩:=this
 injection h2 with h2;injection h2 with h2;subst h2
 exact h1
theorem jU {x h:Nat} (hx:x<RR) (hh:h<18446744073709551616):Al Tryz.prog 243 [.val false [.p 0 0],.val false [.v (.int .u64 (h:Int))]] [(0,some (Dr x))] 1 [0] (.tup []) [(0,some (Dr (EO x h)))]:=by
 intro β us w ha hg hf
 have:=A7 Tryz.func243 (by kernel_rfl) (args0:=[.val false [.p 0 0],.val false [.v (.int .u64 (h:Int))]]) (H0:=[(0,some (Dr x))]) (k0:=1) (path:=[]) (W:=[0]) (by kernel_rfl) (fun β0 w0 hb=>A6 (AM Fx AQ) AE Tryz.func243 (jS x h) (KT _) (AT (by kernel_rfl)) hb (fun _ h=>h)) β us w ha hg hf
 exact Calls.mono this fun e w' h=>OE (fun _ _ hr=>jT hx hh hr) h
def halfSpec:ASpec:=fun args H fr path =>
 match args with
 | [.val false [.p k 0],A]=>match BH (some A),AF H k with
  | some (_,.u64,h),some ⟨ty,c,false⟩=>match Nat.beq ty 30,Bm 6 c with
   | true,some x=>some (Bg [k] 1 fr 0 [0] (.tup []) [(0,some (Dr (EO x h.toNat)))] [] path)
   | _,_=>none
  | _,_=>none
 | _=>none
theorem jV {β:Env} {H:Heap} {w:World} {k:Nat} {b:Blk} {c:List Ch} (g:Ex.Good β H w) (hk:AF H k=some b) (hc:∀ l,AG β b.cs l→AG (A_ β [k] 1) c l):Ex.Good (A_ β [k] 1) [(0,some ⟨b.ty,c,b.opn⟩)] w:=by
 refine MA (ρ:=[k]) (bs:=[⟨b.ty,c,b.opn⟩]) g (fun j d hj=>?_) fun i j d hi hr hij hj=>?_
 ·match j,hj with
  | 0,hj=>injection hj with hj;subst hj;exact ⟨b,hk,.inr ⟨rfl,rfl⟩,hc⟩
 ·match i,j,hi,hj,hij with
  | 0,0,_,_,q=>exact absurd rfl q
theorem jW:BN Tryz.prog 243 halfSpec:=by
 refine FV Tryz.func243 (by kernel_rfl) (by kernel_rfl) fun args H fr path r h=>?_
 unfold halfSpec at h
 split at h
 case h_2=>cases h
 rename_i k A
 split at h
 case h_2=>cases h
 rename_i c0 i ty c hA hk
 split at h
 case h_2=>cases h
 rename_i x hty hx
 injection h with h
 have hty':=Ag.1 hty
 subst hty'
 refine ⟨[k],[.val false [.p 0 0],.val false [.v (.int .u64 (i.toNat:Int))]],[(0,some (Dr x))],1,0,[0],.tup [],_,[],path,h.symm,fun β us w ha hg hc=>?_⟩
 obtain ⟨u1,us1,r1,⟨u2,us2,r2,ha,rfl⟩,rfl⟩:=ha
 obtain ⟨rfl,p1⟩:=Bd (β:=β) (u:=u2) (fun B hB=>by injection hB with hB;subst hB;exact r2) hA
 have hb:=B9 p1
 obtain ⟨l,g1⟩:=Ef hg hk
 have hi:((i.toNat:Nat):Int)=i:=Int.toNat_of_nonneg hb.1
 refine ⟨jU (by rw [CT];exact (Dk hx g1).2) (by omega),by kernel_rfl,⟨u1,_,r1,⟨_,us2,?_,ha,rfl⟩,rfl⟩,jV (c:=[.num 6 x]) hg hk (fun l h=>Dy hx h),fun j hj=>?_⟩
 ·rw [hi];exact Ab ⟨rfl,rfl,p1⟩
 ·match j,hj with
  | 0,_=>exact EL (hg.heap _ _ hk)
noncomputable def S23:List (FuncId×ASpec):=(243,halfSpec)::S22
theorem MT:AS Tryz.prog S23:=⟨jW,Fx⟩
def OU:List AV:=[.val false [.p 0 0],.val false [.p 1 0]]
def Gx (u x:Nat):Heap:=[(0,some (Dr u)),(1,some (Dr x))]
noncomputable def jY:List Item:=DI (Aa Tryz.prog (AI S23 K0) (some 0) 300 2 none (Ak Tryz.f184 OU (Gx 0 0) 2 []))
noncomputable def jZ:List AV:=.val false [.p 0 0]::.val false [.p 1 0]::List.replicate (Tryz.f184.ntmps-2) .any
noncomputable def JF (u x:Nat) (p:List Bool):ASt:=⟨jY,⟨jZ,Gx u x,2,p⟩⟩
abbrev KE:Option (List Nat×List Nat×Nat):=some ([0,1],[0,1],2)
def Gy (x:Nat):Int:=bits .and .u64 (AB x 0) 1
theorem j4 (u x:Nat):Aa Tryz.prog (AI S23 K0) (some 3) 300 2 KE (Ak Tryz.f184 OU (Gx u x) 2 [])=some ([],[],JF u x []):=by kernel_rfl
theorem j5 (u x:Nat):Aa Tryz.prog (AI S23 K0) (some 3) 300 2 KE (JF u x [true,true])=some ([(decide (Gy u=0),true),(decide (Gy x=0),true)],[0,1],JF (EO u 0) (EO x 0) []):=by kernel_rfl
theorem j6 (u x:Nat):Aa Tryz.prog (AI S23 K0) (some 3) 300 2 KE (JF u x [true,false]) =
 some ([(decide (Gy u=0),true),(decide (Gy x=0),false),(BJ 0,true),(BJ (A0 x pN 1),true),(BJ (A0 x pN 2),true),(BJ (A0 x pN 3),true),(BJ (A0 x pN 4),true),(BJ (A0 x pN 5),true)],[0,1],
  JF (EO u 0) (EO (I_ x pN) (A0 x pN 6).toNat) []):=by kernel_rfl
theorem j7 (u x:Nat):AP Tryz.prog (AI S23 K0) Tryz.f184 300 2 [0,1] (JF u x [false])=some ([(decide (Gy u=0),false)],[],.tup [],Gx u x):=by kernel_rfl
def D1 (x:Nat):Nat:=if x % 2=0 then x / 2 else (x+pN) / 2
def DY:Nat→Nat→Nat→Nat×Nat
 | 0,u,x=>(u,x)
 | f+1,u,x=>if u % 2=0 then DY f (u / 2) (D1 x) else (u,x)
theorem Wy (x:Nat):Gy x=((x % 2:Nat):Int):=by
 unfold Gy
 rw [WM,WN _ (by omega)]
 omega
theorem Se (x:Nat):EO x 0=x / 2:=by unfold EO;simp
theorem j8 {x:Nat} (hx:x<RR):EO (I_ x pN) (A0 x pN 6).toNat=(x+pN) / 2:=by
 obtain ⟨h1,h2⟩:=Vw (y:=pN) hx (by decide)
 have:=DU x pN 6
 unfold EO
 have h01:(A0 x pN 6).toNat=0∨(A0 x pN 6).toNat=1:=by omega
 rcases h01 with e | e<;>rw [e] at h1 ⊢<;>congr 1<;>omega
theorem Wz {x:Nat} (h:x<RR):D1 x<RR:=by
 have hp:pN<RR:=by decide
 unfold D1;split<;>omega
theorem j9 {β0:Env} {w0:World} (hb:∀ b,2≤b→β0 b=none):∀ (f u x:Nat),0<u→u≤f→u<RR→x<RR →
  ASafe Tryz.prog 184 β0 w0 (BS β0 w0 [0,1] (.tup []) (Gx (DY f u x).1 (DY f u x).2)) Tryz.f184.ntmps [0,1] (JF u x []):=by
 intro f
 induction f with
 | zero=>intro u x h1 h2;omega
 | succ f ih =>
  intro u x h1 h2 hu hx
  have ou:=Wy u
  have ox:=Wy x
  unfold DY
  by_cases h:u % 2=0
  ·rw [if_pos h]
   have hd:decide (Gy u=0)=true:=by rw [ou,h];rfl
   by_cases hx2:x % 2=0
   ·refine Ah [true,true] (Ai (AM MT AQ) AE (j5 u x) ⟨hd,by rw [ox,hx2];rfl,trivial⟩ (AT (by kernel_rfl)) hb (fun _ h=>h) fun _=>?_)
    have e:D1 x=x / 2:=if_pos hx2
    rw [Se,Se,← e]
    exact ih (u / 2) (D1 x) (by omega) (by omega) (by omega) (Wz hx)
   ·refine Ah [true,false] (Ai (AM MT AQ) AE (j6 u x) ⟨hd,by rw [ox];simp only [decide_eq_false_iff_not];omega,rfl,Bz (DU _ _ _),Bz (DU _ _ _),Bz (DU _ _ _),Bz (DU _ _ _),Bz (DU _ _ _),trivial⟩ (AT (by kernel_rfl)) hb (fun _ h=>h) fun _=>?_)
    have e:D1 x=(x+pN) / 2:=if_neg hx2
    rw [Se,j8 hx,← e]
    exact ih (u / 2) (D1 x) (by omega) (by omega) (by omega) (Wz hx)
  ·rw [if_neg h]
   have hd:decide (Gy u=0)=false:=by rw [ou];simp only [decide_eq_false_iff_not];omega
   exact Ah [false] (A6 (AM MT AQ) AE Tryz.func184 (j7 u x) ⟨hd,trivial⟩ (AT (by kernel_rfl)) hb (fun _ h=>by cases h))
theorem kC {u x:Nat} (h0:0<u) (hu:u<RR) (hx:x<RR):Al Tryz.prog 184 OU (Gx u x) 2 [0,1] (.tup []) (Gx (DY u u x).1 (DY u u x).2) :=
 A7 (path:=[]) Tryz.func184 (by kernel_rfl) (by kernel_rfl) fun β0 w0 hb =>
  Ai (AM MT AQ) AE (j4 u x) trivial (AT (by kernel_rfl)) hb (fun _ h=>by cases h) fun _=>j9 hb u u x h0 (Nat.le_refl _) hu hx
def evSpec:ASpec:=fun args H fr path =>
 match args with
 | [.val false [.p k 0],.val false [.p t 0]]=>match AF H k,AF H t,Nat.beq k t with
  | some ⟨ty,c,false⟩,some ⟨ty',d,false⟩,false=>match Nat.beq ty 30,Bm 6 c,Nat.beq ty' 30,Bm 6 d with
   | true,some u,true,some x=>some (Bg [k,t] 2 fr 0 [0,1] (.tup []) (Gx (DY u u x).1 (DY u u x).2) [(decide (0<u),true)] path)
   | _,_,_,_=>none
  | _,_,_=>none
 | _=>none
theorem kD:BN Tryz.prog 184 evSpec:=by
 refine FV Tryz.func184 (by kernel_rfl) (by kernel_rfl) fun args H fr path r h=>?_
 unfold evSpec at h
 split at h
 case h_2=>cases h
 rename_i k t
 split at h
 case h_2=>cases h
 rename_i ty c ty' d hk ht hne
 split at h
 case h_2=>cases h
 rename_i u x hty hu hty' hx
 injection h with h
 have hty1:=Ag.1 hty
 have hty2:=Ag.1 hty'
 subst hty1;subst hty2
 have hne':k≠t:=fun e=>by subst e;rw [Ag.2 rfl] at hne;cases hne
 refine ⟨[k,t],OU,Gx u x,2,0,[0,1],.tup [],_,_,path,h.symm,fun β us w ha hg hc=>?_⟩
 obtain ⟨u1,us1,r1,⟨u2,us2,r2,ha,rfl⟩,rfl⟩:=ha
 obtain ⟨l,g1⟩:=Ef hg hk
 obtain ⟨l',g2⟩:=Ef hg ht
 have h0:0<u:=by simpa using hc.1
 refine ⟨kC h0 (by rw [CT];exact (Dk hu g1).2) (by rw [CT];exact (Dk hx g2).2),by kernel_rfl,⟨u1,_,r1,⟨u2,us2,r2,ha,rfl⟩,rfl⟩,V4 (c:=[.num 6 u]) (e:=[.num 6 x]) hg hk ht hne' (fun l h=>Dy hu h) (fun l h=>Dy hx h),fun j hj=>?_⟩
 match j,hj with
 | 0,_=>exact EL (hg.heap _ _ hk)
 | 1,_=>exact EL (hg.heap _ _ ht)
noncomputable def S24:List (FuncId×ASpec):=(184,evSpec)::S23
theorem JG:AS Tryz.prog S24:=⟨kD,MT⟩
def Gz (b:Blk):Blk:=match Bm 6 b.cs with
 | some x=>⟨b.ty,[.num 6 x],b.opn⟩
 | none=>b
def JH:Heap→Heap
 | []=>[]
 | (k,some b)::r=>(k,some (Gz b))::JH r
 | (k,none)::r=>(k,none)::JH r
theorem MU (b:Nat):∀ H:Heap,AF (JH H) b=(AF H b).map Gz
 | []=>rfl
 | (k,some x)::r=>by
  simp only [JH,AF]
  split
  ·rfl
  ·exact MU b r
 | (k,none)::r=>by
  simp only [JH,AF]
  split
  ·rfl
  ·exact MU b r
theorem W0 (b:Blk):(Gz b).ty=b.ty∧(Gz b).opn=b.opn:=by unfold Gz;split<;>exact ⟨rfl,rfl⟩
theorem kE {P:Program} {f:FuncId} {β0:Env} {w0:World} {R:Ending→World→Prop} {n:Nat} {W:List Nat} {todo:List Item} {T:List AV} {H:Heap} {fr:Nat} {p:List Bool} (h:ASafe P f β0 w0 R n W ⟨todo,⟨T,JH H,fr,p⟩⟩):ASafe P f β0 w0 R n W ⟨todo,⟨T,H,fr,p⟩⟩:=by
 intro β a w hi hf
 refine h β a w { hi with good:=⟨fun b blk hb=>?_,fun b b' B n n' h1 h2 h3 h4=>?_,hi.good.lt⟩ } hf
 ·have hb':(AF H b).map Gz=some blk:=by rw [← MU];exact hb
  obtain ⟨x,hx,rfl⟩:=Option.map_eq_some_iff.1 hb'
  refine Rj (hi.good.heap b x hx) rfl (.inr (W0 x)) fun l hl=>?_
  unfold Gz
  split
  ·rename_i y hy;exact Dy hy hl
  ·exact hl
 ·refine hi.good.inj b b' B n n' ?_ ?_ h3 h4
  ·obtain ⟨d,hd,hr⟩:=HK h1
   have hd':(AF H b).map Gz=some d:=by rw [← MU];exact hd
   obtain ⟨x,hx,rfl⟩:=Option.map_eq_some_iff.1 hd'
   exact EZ hx (by rw [← (W0 x).1];exact hr)
  ·have h2':((AF H b').map Gz).isSome=true:=by rw [← MU];exact h2
   rwa [Option.isSome_map] at h2'
noncomputable def W1:List Item:=DI (Aa Tryz.prog (AI S24 K0) (some 0) 300 0 none (Ak Tryz.f115 [Ad 0] [] 0 [false]))
noncomputable def W2:List AV:=.any::.any::.val false [.p 1 0]::.val false [.p 2 0]::.val false [.p 3 0]::.val false [.p 4 0]::.val false [.p 5 0]::.val false [.p 6 0]::List.replicate (Tryz.f115.ntmps-8) .any
def W3 (u v x y:Nat):Heap:=[(1,some (Dr 0)),(2,some (Dr u)),(3,some (Dr v)),(4,some (Dr x)),(5,some (Dr y)),(6,some (Dr 1))]
noncomputable def JI (u v x y:Nat) (p:List Bool):ASt:=⟨W1,⟨W2,W3 u v x y,7,p⟩⟩
abbrev KI:Option (List Nat×List Nat×Nat):=some ([2,3,4,5,6,7],[1,2,3,4,5,6],7)
def W4 (a:Nat):Heap:=[(1,some ⟨30,I8,false⟩),(2,some (Dr (a % pN))),(3,some ⟨30,Pw,false⟩),(4,some ⟨30,[.n .u64 1,.n .u64 0,.n .u64 0,.n .u64 0,.n .u64 0,.n .u64 0],false⟩),(5,some ⟨30,I8,false⟩),(6,some ⟨30,[.n .u64 1,.n .u64 0,.n .u64 0,.n .u64 0,.n .u64 0,.n .u64 0],false⟩)]
theorem kF (a:Nat):Aa Tryz.prog (AI S24 K0) (some 0) 300 0 KI (Ak Tryz.f115 [Ad a] [] 0 [false])=some ([(decide (a % pN=0),false)],[],⟨W1,⟨W2,W4 a,7,[]⟩⟩):=by kernel_rfl
theorem inv_zero (a:Nat):FU Tryz.prog (AI S24 K0) Tryz.f115 300 0 (Ak Tryz.f115 [Ad a] [] 0 [true])=some ([(decide (a % pN=0),true)],[],Ad (a % pN)):=by kernel_rfl
theorem kG (a:Nat):JH (W4 a)=W3 (a % pN) pN 1 0:=by kernel_rfl
def E1 (u x:Nat):Nat:=(DY u u x).1
def E2 (u x:Nat):Nat:=(DY u u x).2
section
variable (u v x y:Nat)
def OV (r:List (Bool×Bool)):List (Bool×Bool):=(decide (0<u),true)::(decide (0<v),true)::r
def OW:Bool:=decide (0≤EN (AL (AA (GY (E1 u x)) (0+0*1) (6-0))) (AL (AA (GY (E1 v y)) (0+0*1) (6-0))))
theorem kH:FU Tryz.prog (AI S24 K0) Tryz.f115 300 0 (JI u v x y [true])=some (OV u v [(decide (E1 u x=1),true)],[],Ad (E2 u x)):=by kernel_rfl
theorem kI:FU Tryz.prog (AI S24 K0) Tryz.f115 300 0 (JI u v x y [false,true])=some (OV u v [(decide (E1 u x=1),false),(decide (E1 v y=1),true)],[],Ad (E2 v y)):=by kernel_rfl
theorem kJ:Aa Tryz.prog (AI S24 K0) (some 0) 300 0 KI (JI u v x y [false,false,true]) =
 some (OV u v ((decide (E1 u x=1),false)::(decide (E1 v y=1),false)::(Fs 4++[(OW u v x y,true)])),[],JI ((E1 u x+(RR-E1 v y)) % RR) (E1 v y) (CA (E2 u x) (E2 v y)) (E2 v y) []):=by kernel_rfl
theorem kK:Aa Tryz.prog (AI S24 K0) (some 0) 300 0 KI (JI u v x y [false,false,false]) =
 some (OV u v ((decide (E1 u x=1),false)::(decide (E1 v y=1),false)::(Fs 4++[(OW u v x y,false)])),[],JI (E1 u x) ((E1 v y+(RR-E1 u x)) % RR) (E2 u x) (CA (E2 v y) (E2 u x)) []):=by kernel_rfl
end
end Go.Proofs.YtojnabmgolpodaaGreat
namespace Go.Proofs.YtojnabmgolpodaaGreat
open Ex Num
set_option maxRecDepth 100000
set_option maxHeartbeats 4000000
instance neZero_pN:NeZero pN:=⟨by decide⟩
def tf (x:Nat):Fin pN:=Bu pN x
theorem H3 (x:Nat):tf (x % pN)=tf x:=WY x
theorem Kr {x y:Nat}:tf x=tf y↔x % pN=y % pN:=ON
theorem G0 (x y:Nat):tf (x+y)=tf x+tf y:=WZ x y
theorem H4 (x y:Nat):tf (x*y)=tf x*tf y:=Wa x y
theorem Ei (x y:Nat):tf (B4 x y)=tf x+tf y:=by unfold B4;rw [H3,G0,H3,H3]
theorem CK (x y:Nat):tf (AX x y)=tf x*tf y:=by unfold AX;rw [H3,H4]
theorem OX (x:Nat):tf (B5 x)=- tf x:=by unfold B5;rw [H3];exact hH x
theorem Ds (x y:Nat):tf (CA x y)=tf x-tf y:=by unfold CA;rw [Ei,OX];grind
theorem tf_zero:tf 0=0:=Wb
theorem E6:tf 1=1:=g9
theorem JJ {x y:Nat} (hx:x<pN) (hy:y<pN) (h:tf x=tf y):x=y:=hJ hx hy h
theorem MV (x y:Nat):B4 x y<pN:=Nat.mod_lt _ B_
theorem Ej (x y:Nat):CA x y<pN:=MV _ _
theorem OY {x:Nat}:tf x=0↔x % pN=0:=by rw [← tf_zero,Kr,Nat.zero_mod]
theorem kL {a b:Fin pN} (h:a*b=0):a=0∨b=0:=hU pN_prime h
noncomputable def BZ (a:Nat):Nat:=DX a (pN-2)
theorem W5 (a:Nat):BZ a<pN:=We _ _
theorem W6 {a:Nat} (h:a % pN=0):BZ a=0:=by
 unfold BZ
 rw [Hr,Nat.pow_mod,h,Nat.zero_pow (by decide)];rfl
theorem W7 {a:Nat} (h:a % pN≠0):tf a*tf (BZ a)=1:=by
 have ha:¬ pN∣a:=fun hd=>h (Nat.mod_eq_zero_of_dvd hd)
 have hf:=Ke pN_prime ha
 rw [← H4,← E6,Kr]
 unfold BZ
 rw [Hr]
 have e:pN-1=(pN-2)+1:=by have:=iB;omega
 rw [e,Nat.pow_succ] at hf
 rw [Nat.mul_mod_mod,Nat.mul_comm,hf];rfl
theorem W8 {a x:Nat} (hx:x<pN) (h:tf a*tf x=1):x=BZ a:=by
 have ha:a % pN≠0:=fun e=>by
  rw [OY.2 e] at h
  have:(0:Fin pN)*tf x=0:=by grind
  rw [this] at h
  have h2:tf 0=tf 1:=by rw [tf_zero,E6];exact h
  have:=JJ B_ (show 1<pN by decide) h2
  cases this
 have h2:=W7 ha
 refine JJ hx (W5 a) ?_
 grind
theorem kN {A B:Fin pN} (h:A+A=B+B):A=B:=by
 have h0:(A-B)*tf 2=0:=by
  have:tf 2=1+1:=by rw [← E6,← G0]
  rw [this];grind
 rcases kL h0 with e | e
 ·grind
 ·exfalso
  have:=JJ (show 2<pN by decide) B_ (e.trans tf_zero.symm)
  cases this
theorem kO {x:Nat} (hx:x<pN):tf (D1 x)+tf (D1 x)=tf x∧D1 x<pN:=by
 have hodd:=R5
 constructor
 ·rw [← G0,Kr]
  unfold D1
  split
  ·congr 1;omega
  ·rw [show (x+pN) / 2+(x+pN) / 2=x+pN by omega,Nat.add_mod_right]
 ·unfold D1;split<;>omega
theorem Sf {a:Nat}:∀ (f u x:Nat),0<u→u≤f→x<pN→tf a*tf x=tf u→(DY f u x).1 % 2=1∧(DY f u x).1∣u∧(DY f u x).2<pN∧tf a*tf (DY f u x).2=tf (DY f u x).1
 | 0,u,x,h1,h2,_,_=>by omega
 | f+1,u,x,h1,h2,hx,h=>by
  unfold DY
  by_cases hu:u % 2=0
  ·rw [if_pos hu]
   obtain ⟨q1,q2⟩:=kO hx
   have e:tf (u / 2)+tf (u / 2)=tf u:=by rw [← G0];congr 1;omega
   have q3:tf a*tf (D1 x)=tf (u / 2):=kN (by rw [e,← h,← q1];grind)
   obtain ⟨i1,i2,i3,i4⟩:=Sf (a:=a) f (u / 2) (D1 x) (by omega) (by omega) q2 q3
   exact ⟨i1,Nat.dvd_trans i2 ⟨2,by omega⟩,i3,i4⟩
  ·rw [if_neg hu]
   exact ⟨by omega,Nat.dvd_refl u,hx,h⟩
theorem kP {u v x y:Nat} (h1:E1 u x<RR) (h2:E1 v y<RR):OW u v x y=decide (E1 v y≤E1 u x):=by
 unfold OW
 rw [KY h1,KY h2]
 unfold EN
 by_cases c1:E1 u x<E1 v y
 ·rw [if_pos c1,decide_eq_false (by omega),decide_eq_false (by omega)]
 ·rw [if_neg c1]
  by_cases c2:E1 v y<E1 u x
  ·rw [if_pos c2,decide_eq_true (by omega),decide_eq_true (by omega)]
  ·rw [if_neg c2,decide_eq_true (by omega),decide_eq_true (by omega)]
theorem W9 {u v:Nat} (h:v≤u) (hu:u<RR):(u+(RR-v)) % RR=u-v:=by
 rw [show u+(RR-v)=(u-v)+RR by omega,Nat.add_mod_right,Nat.mod_eq_of_lt (by omega)]
theorem kQ (a:Nat) (w0:World):∀ (m u v x y:Nat),u+v≤m→0<u→0<v→u<RR→v<RR→x<pN→y<pN→Nat.Coprime u v→tf a*tf x=tf u→tf a*tf y=tf v →
  ASafe Tryz.prog 115 BY w0 (L1 w0 (Ad (BZ a))) Tryz.f115.ntmps [] (JI u v x y []):=by
 intro m
 induction m with
 | zero=>intro u v x y h1 h2;omega
 | succ m ih =>
  intro u v x y hm hu hv hur hvr hx hy hg h1 h2
  obtain ⟨a1,a2,a3,a4⟩:=Sf (a:=a) u u x hu (Nat.le_refl _) hx h1
  obtain ⟨b1,b2,b3,b4⟩:=Sf (a:=a) v v y hv (Nat.le_refl _) hy h2
  have a5:=Nat.le_of_dvd hu a2
  have b5:=Nat.le_of_dvd hv b2
  change E1 u x % 2=1 at a1
  change E1 u x∣u at a2
  change E2 u x<pN at a3
  change tf a*tf (E2 u x)=tf (E1 u x) at a4
  change E1 u x≤u at a5
  change E1 v y % 2=1 at b1
  change E1 v y∣v at b2
  change E2 v y<pN at b3
  change tf a*tf (E2 v y)=tf (E1 v y) at b4
  change E1 v y≤v at b5
  have hg':Nat.Coprime (E1 u x) (E1 v y):=(hg.coprime_dvd_left a2).coprime_dvd_right b2
  have c0:decide (0<u)=true:=decide_eq_true hu
  have c1:decide (0<v)=true:=decide_eq_true hv
  have iP:=kP (u:=u) (v:=v) (x:=x) (y:=y) (by omega) (by omega)
  by_cases hu1:E1 u x=1
  ·have h:=GR (w0:=w0) (β0:=BY) (n:=Tryz.f115.ntmps) (AM JG AQ) AE Tryz.func115 (kH u v x y) ⟨c0,c1,decide_eq_true hu1,trivial⟩ (AT (by kernel_rfl)) (fun _ _=>rfl) rfl
   rw [W8 (a:=a) a3 (by rw [a4,hu1,E6])] at h
   exact Ah [true] h
  ·by_cases hv1:E1 v y=1
   ·have h:=GR (w0:=w0) (β0:=BY) (n:=Tryz.f115.ntmps) (AM JG AQ) AE Tryz.func115 (kI u v x y) ⟨c0,c1,decide_eq_false hu1,decide_eq_true hv1,trivial⟩ (AT (by kernel_rfl)) (fun _ _=>rfl) rfl
    rw [W8 (a:=a) b3 (by rw [b4,hv1,E6])] at h
    exact Ah [false,true] h
   ·have hne:E1 u x≠E1 v y:=fun e=>by
     rw [← e] at hg'
     exact hu1 ((Nat.coprime_self _).1 hg')
    by_cases hle:E1 v y≤E1 u x
    ·refine Ah [false,false,true] (Ai (AM JG AQ) AE (kJ u v x y) ⟨c0,c1,decide_eq_false hu1,decide_eq_false hv1,rfl,rfl,rfl,rfl,by rw [iP];exact decide_eq_true hle,trivial⟩ (AT (by kernel_rfl)) (fun _ _=>rfl) (fun _ h=>by cases h) fun _=>?_)
     rw [W9 hle (by omega)]
     refine ih _ _ _ _ (by omega) (by omega) (by omega) (by omega) (by omega) (Ej _ _) b3 ?_ ?_ b4
     ·exact (Nat.gcd_sub_self_left hle).trans hg'
     ·have e:tf (E1 u x-E1 v y)=tf (E1 u x)-tf (E1 v y):=SA hle
      rw [Ds,e,← a4,← b4];grind
    ·refine Ah [false,false,false] (Ai (AM JG AQ) AE (kK u v x y) ⟨c0,c1,decide_eq_false hu1,decide_eq_false hv1,rfl,rfl,rfl,rfl,by rw [iP];exact decide_eq_false hle,trivial⟩ (AT (by kernel_rfl)) (fun _ _=>rfl) (fun _ h=>by cases h) fun _=>?_)
     rw [W9 (by omega) (by omega)]
     refine ih _ _ _ _ (by omega) (by omega) (by omega) (by omega) (by omega) a3 (Ej _ _) ?_ a4 ?_
     ·exact Nat.Coprime.symm ((Nat.gcd_sub_self_left (show E1 u x≤E1 v y by omega)).trans hg'.symm)
     ·have e:tf (E1 v y-E1 u x)=tf (E1 v y)-tf (E1 u x):=SA (by omega)
      rw [Ds,e,← a4,← b4];grind
theorem W_ (a:Nat):AU Tryz.prog 115 [Ad a] (Ad (BZ a)):=by
 refine RC (path:=[]) Tryz.func115 (by kernel_rfl) (by kernel_rfl) fun w0=>?_
 by_cases h:a % pN=0
 ·have h1:=GR (w0:=w0) (β0:=BY) (n:=Tryz.f115.ntmps) (AM JG AQ) AE Tryz.func115 (inv_zero a) ⟨decide_eq_true h,trivial⟩ (AT (by kernel_rfl)) (fun _ _=>rfl) rfl
  have e:a % pN=BZ a:=by rw [h,W6 h]
  rw [e] at h1
  exact Ah [true] h1
 ·have hp:=FY a
  have hR:pN<RR:=by decide
  refine Ah [false] (Ai (AM JG AQ) AE (kF a) ⟨decide_eq_false h,trivial⟩ (AT (by kernel_rfl)) (fun _ _=>rfl) (fun _ h=>by cases h) fun _=>?_)
  refine kE ?_
  rw [kG]
  refine kQ a w0 (a % pN+pN) (a % pN) pN 1 0 (Nat.le_refl _) (by omega) B_ (by omega) hR (by decide) B_ ?_ ?_ ?_
  ·exact (pN_prime.coprime fun hd=>by have:=Nat.le_of_dvd (by omega) hd;omega).symm
  ·rw [E6,H3];grind
  ·have:tf pN=0:=Wd
   rw [tf_zero,this];grind
noncomputable def S25:List (FuncId×ASpec):=(115,Am (GV fun x=>Ad (BZ x)))::S24
theorem OZ:AS Tryz.prog S25:=⟨Ap Tryz.func115 (by kernel_rfl) (by kernel_rfl) (JA fun x _=>W_ x),JG⟩
def XA:List (Nat×AV)→Nat→AV
 | [],_=>.any
 | (j,a)::r,i=>match Nat.beq i j with | true=>a | false=>XA r i
def XB:Nat→Nat→List (Nat×AV)→List AV
 | 0,_,_=>[]
 | f+1,i,l=>XA l i::XB f (i+1) l
def XC (n:Nat) (l:List (Nat×AV)):List AV:=XB n 0 l
def Ae (k off n m:Nat):AV:=.val false [.sl k off n m]
def iA (i:Int):AV:=.val false [.v (.int .i64 i)]
def As (xs:List Int):Heap:=[(0,some (CH [.seq .u8 xs]))]
def Fy (f:Nat→Int) (L i:Nat):List Int:=(List.range i).map f++List.replicate (L-i) 0
theorem kR {f:Nat→Int} {L i:Nat} (h:i≤L):(Fy f L i).length=L:=by simp [Fy];omega
theorem kU {f:Nat→Int} {L i:Nat} (h:i<L):(Fy f L i).set i (f i)=Fy f L (i+1):=by
 unfold Fy
 rw [List.set_append_right _ _ (by simp),List.length_map,List.length_range,Nat.sub_self,show L-i=(L-(i+1))+1 by omega,List.replicate_succ,List.set_cons_zero,List.range_succ,List.map_append,List.append_assoc]
 rfl
theorem kV (f:Nat→Int) (L:Nat):Fy f L 0=List.replicate L 0:=by simp [Fy]
theorem kW (f:Nat→Int) (L:Nat):Fy f L L=(List.range L).map f:=by simp [Fy]
def MW (A k:Nat):Int:=((A / 256^k % 256:Nat):Int)
def H5 (A n:Nat):List Int:=(List.range n).map fun i=>MW A (n-1-i)
def Af:List Int→Nat
 | []=>0
 | d::r=>d.toNat*256^r.length+Af r
theorem Ks (k:Nat):256^k=2^(8*k):=by rw [Nat.pow_mul]
theorem XD {n i:Nat} (hn:n≤35184372088832) (h:i<n):wI (wI ((n:Int)-1)-i)=((n-1-i:Nat):Int):=by
 rw [BO (z:=(n:Int)-1) (by omega),BO (by omega)];omega
theorem Od (k:Nat):Int.tdiv (k:Int) 8=((k / 8:Nat):Int):=by rw [Int.tdiv_eq_ediv_of_nonneg (by omega)];rfl
theorem Sg (k:Nat):Int.tmod (k:Int) 8=((k % 8:Nat):Int):=by rw [Int.tmod_eq_emod_of_nonneg (by omega)];rfl
noncomputable def kX:List Item:=DI (Aa Tryz.prog (AI S25 K0) (some 0) 100 1 none (Ak Tryz.f103 [Ae 0 0 0 0,iA 0] (BT []) 1 []))
noncomputable def MX (off m c:Nat) (n:Int) (xs:List Int) (L:Nat) (ys:List Int) (i:AV) (p:List Bool):ASt:=⟨kX,⟨XC Tryz.f103.ntmps [(0,Ae 0 off m c),(1,iA n),(5,Ae 1 0 L L),(10,Ae 1 0 L L),(11,Ae 1 0 L L),(12,iA L),(13,i)],
 [(0,some (CH [.seq .u64 xs])),(1,some ⟨5,[.seq .u8 ys],false⟩)],2,p⟩⟩
abbrev XE:Option (List Nat×List Nat×Nat):=some ([0,1,5,10,11,12,13],[0,1],2)
def MY (n:Int):Nat:=(Hu n 0).toNat
def Og (ys:List Int):Heap:=[(1,some ⟨5,[.seq .u8 ys],false⟩)]
def Oi (m sz:Int):Bool:=decide (0≤m∧m≤m∧sz*m≤281474976710656∧m≤9223372036854775807)
theorem kY (off m c:Nat) (n:Int) (xs:List Int):Aa Tryz.prog (AI S25 K0) (some 0) 100 1 XE (Ak Tryz.f103 [Ae 0 off m c,iA n] (BT xs) 1 []) =
 some ([(Oi (Hu n 0) 1,true),(AO .i64 (MY n),true)],[],MX off m c n xs (MY n) (List.replicate (MY n) 0) (.val false [.n .i64 0]) []):=by kernel_rfl
def E7 (n i:Int):Int:=wI (wI (n-1)-i)
def Si (xs:List Int) (off m:Nat) (k:Int):Int:=AZ false .u8 (Int.fdiv (BW xs off m (wI (Int.tdiv k 8))) (2^min (wI (8*Int.tmod k 8)).toNat 64))
def XF (off m:Nat) (n:Int) (xs:List Int) (L:Nat) (ys:List Int) (i:Int):List (Bool×Bool):=[(decide (i<L),true),(true,true),(Nat.ble (off+m) xs.length,true),(AO .i64 m,true),(decide (0≤wI (Int.tdiv (E7 n i) 8)),true),
 (decide (0≤E7 n i∧(0:Int)<8),true),(decide (0≤wI (8*Int.tmod (E7 n i) 8)∧0≤BW xs off m (wI (Int.tdiv (E7 n i) 8))),true),(decide (0≤i∧i<L),true),(decide (0+i.toNat*1<ys.length),true)]
theorem kZ (off m c:Nat) (n:Int) (xs:List Int) (L:Nat) (ys:List Int) (i:Int):Aa Tryz.prog (AI S25 K0) (some 0) 100 1 XE (MX off m c n xs L ys (iA i) [true]) =
 some (XF off m n xs L ys i,[],MX off m c n xs L (ys.set (0+i.toNat*1) (Si xs off m (E7 n i))) (iA (wI (i+1))) []):=by kernel_rfl
theorem k6 (off m c:Nat) (n:Int) (xs:List Int) (L:Nat) (ys:List Int) (i:Int):AP Tryz.prog (AI S25 K0) Tryz.f103 100 1 [1] (MX off m c n xs L ys (iA i) [false]) =
 some ([(decide (i<L),false)],[],Ae 1 0 L L,Og ys):=by kernel_rfl
theorem k7 {xs:List Int} {off m:Nat} (hx:∀ d∈xs,0≤d∧d<18446744073709551616) {k:Nat} (hk:k≤35184372088832):Si xs off m (k:Int)=MW (AL (AA xs off m)) k∧0≤BW xs off m (wI (Int.tdiv (k:Int) 8)):=by
 have e1:wI (Int.tdiv (k:Int) 8)=((k / 8:Nat):Int):=by rw [Od];exact BO (by omega)
 have e2:wI (8*Int.tmod (k:Int) 8)=((8*(k % 8):Nat):Int):=by rw [Sg,BO (by omega)];omega
 unfold Si
 rw [e1,e2,R2 hx,Int.toNat_natCast,Nat.min_eq_left (by omega)]
 refine ⟨?_,by omega⟩
 generalize AL (AA xs off m)=A
 have e3:(Int.fdiv ((A / 2^(64*(k / 8)) % 18446744073709551616:Nat):Int) (2^(8*(k % 8))))=((A / 2^(64*(k / 8)) % 18446744073709551616 / 2^(8*(k % 8)):Nat):Int):=by
  rw [Int.fdiv_eq_ediv_of_nonneg _ (by exact_mod_cast Nat.zero_le (2^(8*(k % 8)))),Int.natCast_ediv,Int.natCast_pow];rfl
 rw [e3,Ea,IntKind.wrap_u8]
 unfold MW
 have e4:(18446744073709551616:Nat)=2^(8*(k % 8))*2^(64-8*(k % 8)):=by rw [← Nat.pow_add,show 8*(k % 8)+(64-8*(k % 8))=64 by omega]
 have e5:A / 2^(64*(k / 8)) % 18446744073709551616 / 2^(8*(k % 8)) % 256=A / 256^k % 256:=by
  rw [e4,Nat.mod_mul_right_div_self,Nat.div_div_eq_div_mul,← Nat.pow_add,show 64*(k / 8)+8*(k % 8)=8*k by omega,Ks]
  refine Nat.mod_mod_of_dvd _ ?_
  have:64-8*(k % 8)=8+(56-8*(k % 8)):=by omega
  rw [this,Nat.pow_add]
  exact ⟨_,rfl⟩
 rw [← e5];omega
theorem k8 {off m c:Nat} {xs:List Int} (hx:∀ d∈xs,0≤d∧d<18446744073709551616) (hl:off+m≤xs.length) (hm:AO .i64 m=true) {n:Nat} (hn:n≤35184372088832) :
  Al Tryz.prog 103 [Ae 0 off m c,iA n] (BT xs) 1 [] (Ae 1 0 n n) (Og (H5 (AL (AA xs off m)) n)):=by
 refine A7 (path:=[]) Tryz.func103 (by kernel_rfl) (by kernel_rfl) fun β0 w0 hb=>?_
 have h0:Hu (n:Int) 0=n:=by unfold Hu;split<;>omega
 have h1:MY (n:Int)=n:=by unfold MY;rw [h0];omega
 refine Ai (AM OZ AQ) AE (kY off m c n xs) ⟨?_,?_,trivial⟩ (AT (by kernel_rfl)) hb (fun _ h=>by cases h) fun _=>?_
 ·rw [h0];unfold Oi;simp only [decide_eq_true_eq];omega
 ·rw [h1];simp only [AO,Bool.and_eq_true,decide_eq_true_eq];omega
 ·rw [h1]
  refine R1 ?_
  have loop:∀ r i,i+r=n→ASafe Tryz.prog 103 β0 w0 (BS β0 w0 [] (Ae 1 0 n n) (Og (H5 (AL (AA xs off m)) n))) Tryz.f103.ntmps [] (MX off m c n xs n (Fy (fun i=>MW (AL (AA xs off m)) (n-1-i)) n i) (iA i) []):=by
   intro r
   induction r with
   | zero =>
    intro i hi
    obtain rfl:i=n:=by omega
    rw [kW]
    exact Ah [false] (A6 (AM OZ AQ) AE Tryz.func103 (k6 ..) ⟨by simp,trivial⟩ (AT (by kernel_rfl)) hb (fun _ h=>by cases h))
   | succ r ih =>
    intro i hi
    have ek:E7 (n:Int) i=((n-1-i:Nat):Int):=XD hn (by omega)
    have ev:=k7 (off:=off) (m:=m) hx (k:=n-1-i) (by omega)
    have ed:wI (Int.tdiv ((n-1-i:Nat):Int) 8)=(((n-1-i) / 8:Nat):Int):=by rw [Od];exact BO (by omega)
    refine Ah [true] (Ai (AM OZ AQ) AE (kZ ..) ?_ (AT (by kernel_rfl)) hb (fun _ h=>by cases h) fun _=>?_)
    ·rw [XF,ek]
     refine ⟨by simp;omega,rfl,Nat.ble_eq_true_of_le hl,hm,by rw [ed];simp only [decide_eq_true_eq];omega,by simp,?_,by simp;omega,by rw [kR (by omega)];simp;omega,trivial⟩
     have:wI (8*Int.tmod ((n-1-i:Nat):Int) 8)=((8*((n-1-i) % 8):Nat):Int):=by rw [Sg,BO (by omega)];omega
     rw [this]
     simp only [decide_eq_true_eq]
     exact ⟨by omega,ev.2⟩
    ·rw [ek,ev.1,BO (z:=(i:Int)+1) (by omega),show 0+(i:Int).toNat*1=i by omega,kU (f:=fun i=>MW (AL (AA xs off m)) (n-1-i)) (by omega)]
     exact ih (i+1) (by omega)
  have:=loop n 0 (by omega)
  rw [kV] at this
  exact this
def octSpec:ASpec:=fun args H fr path =>
 match args with
 | [.val false [.sl k off m _],I]=>match BH (some I),AF H k with
  | some (_,.i64,i),some ⟨_,cs,_⟩=>match BE .u64 cs with
   | some xs=>some (Bg [k] 1 fr 1 [] (Ae 1 0 i.toNat i.toNat) (Og (H5 (AL (AA xs off m)) i.toNat)) [(Nat.ble (off+m) xs.length,true),(AO .i64 m,true),(decide (0≤i∧i≤35184372088832),true)] path)
   | none=>none
  | _,_=>none
 | _=>none
theorem k9:BN Tryz.prog 103 octSpec:=by
 refine FV Tryz.func103 (by kernel_rfl) (by kernel_rfl) fun args H fr path r h=>?_
 unfold octSpec at h
 split at h
 case h_2=>cases h
 rename_i k off m _c I
 split at h
 case h_2=>cases h
 rename_i c0 i ty cs o hI hk
 split at h
 case h_2=>cases h
 rename_i xs hxs
 injection h with h
 refine ⟨[k],[Ae 0 off m _c,iA i],BT xs,1,1,[],_,_,_,path,h.symm,fun β us w ha hg hc=>?_⟩
 obtain ⟨u1,us1,r1,⟨u2,us2,r2,ha,rfl⟩,rfl⟩:=ha
 obtain ⟨g1,g2,g3⟩:=KW hg hk hxs
 obtain ⟨rfl,p1⟩:=Bd (β:=β) (u:=u2) (fun A hA=>by injection hA with hA;subst hA;exact r2) hI
 have hi:=hc.2.2.1
 simp only [decide_eq_true_eq] at hi
 obtain ⟨n,rfl⟩:=Int.eq_ofNat_of_zero_le hi.1
 exact ⟨k8 g1 (Nat.le_of_ble_eq_true hc.1) hc.2.1 (by omega),by kernel_rfl,⟨u1,_,r1,⟨_,us2,Ab ⟨rfl,rfl,p1⟩,ha,rfl⟩,rfl⟩,g2,g3⟩
noncomputable def S26:List (FuncId×ASpec):=(103,octSpec)::S25
theorem Oj:AS Tryz.prog S26:=⟨k9,OZ⟩
theorem XG:∀ (a b:List Int),Af (a++b)=Af a*256^b.length+Af b
 | [],b=>by simp [Af]
 | d::r,b=>by
  simp only [List.cons_append,Af,List.length_append]
  rw [XG r b,Nat.pow_add,Nat.add_mul,Nat.mul_assoc,Nat.add_assoc]
theorem lA {ws:List Int} {i:Nat} (h:i<ws.length):Af (ws.take (i+1))=Af (ws.take i)*256+(ws.getD i 0).toNat:=by
 rw [List.take_succ_eq_append_getElem h,XG]
 simp [Af,List.getD_eq_getElem?_getD,h]
theorem XH:∀ (ws:List Int),(∀ d∈ws,0≤d∧d<256)→Af ws<256^ws.length
 | [],_=>by simp [Af]
 | d::r,h=>by
  have hd:=h d (by simp)
  have ih:=XH r fun d h'=>h d (by simp [h'])
  simp only [Af,List.length_cons,Nat.pow_succ]
  have:d.toNat+1≤256:=by omega
  have h2:=Nat.mul_le_mul_right (256^r.length) this
  rw [Nat.add_mul,Nat.one_mul] at h2
  omega
theorem lB {M x k i:Nat} (hx:x<256) (hi:i≠k / 8):(M*256^(k+1)+x*256^k) / 2^(64*i) % 2^64=M*256^(k+1) / 2^(64*i) % 2^64:=by
 rw [Ks,Ks]
 rcases Nat.lt_or_gt_of_ne hi with h | h
 ·have e:x*2^(8*k)=2^(64*i)*(2^64*(x*2^(8*k-64*i-64))):=by
   rw [Nat.mul_left_comm (2^64),Nat.mul_left_comm (2^(64*i)),← Nat.pow_add,← Nat.pow_add];congr 2;omega
  rw [e,Nat.add_mul_div_left _ _ (Nat.pow_pos (by decide)),Nat.add_mul_mod_self_left]
 ·have e1:2^(64*i)=2^(8*k)*2^(64*i-8*k):=by rw [← Nat.pow_add];congr 1;omega
  have e2:M*2^(8*(k+1))+x*2^(8*k)=2^(8*k)*(M*256+x):=by
   rw [show 8*(k+1)=8*k+8 by omega,Nat.pow_add,Nat.mul_add,Nat.mul_comm x];congr 1;rw [Nat.mul_left_comm]
  have e3:M*2^(8*(k+1))=2^(8*k)*(M*256):=by rw [show 8*(k+1)=8*k+8 by omega,Nat.pow_add,Nat.mul_left_comm]
  have e4:2^(64*i-8*k)=256*2^(64*i-8*k-8):=by
   rw [show (256:Nat)=2^8 by rfl,← Nat.pow_add];congr 1;omega
  rw [e2,e3,e1,Nat.mul_div_mul_left _ _ (Nat.pow_pos (by decide)),Nat.mul_div_mul_left _ _ (Nat.pow_pos (by decide)),e4,← Nat.div_div_eq_div_mul,← Nat.div_div_eq_div_mul]
  congr 2;omega
theorem lC {M x k:Nat} (hx:x<256):∃ h B,(M*256^(k+1)) / 2^(64*(k / 8)) % 2^64=h*2^(8*(k % 8)+8)∧x*2^(8*(k % 8))=B∧B<2^(8*(k % 8)+8)∧h*2^(8*(k % 8)+8)<2^64 ∧
  (M*256^(k+1)+x*256^k) / 2^(64*(k / 8)) % 2^64=h*2^(8*(k % 8)+8)+B:=by
 rw [Ks,Ks]
 have e0:2^(8*k)=2^(64*(k / 8))*2^(8*(k % 8)):=by rw [← Nat.pow_add];congr 1;omega
 have e1:2^(8*(k+1))=2^(64*(k / 8))*2^(8*(k % 8)+8):=by rw [← Nat.pow_add];congr 1;omega
 have e2:(2:Nat)^64=2^(8*(k % 8)+8)*2^(56-8*(k % 8)):=by rw [← Nat.pow_add];congr 1;omega
 have e3:2^(8*(k % 8)+8)=2^(8*(k % 8))*256:=by rw [Nat.pow_add]
 have hp:0<2^(64*(k / 8)):=Nat.pow_pos (by decide)
 have q1:M*2^(8*(k+1)) / 2^(64*(k / 8))=M*2^(8*(k % 8)+8):=by
  rw [e1,Nat.mul_left_comm,Nat.mul_div_cancel_left _ hp]
 have q2:(M*2^(8*(k+1))+x*2^(8*k)) / 2^(64*(k / 8))=M*2^(8*(k % 8)+8)+x*2^(8*(k % 8)):=by
  rw [e1,e0,Nat.mul_left_comm M,Nat.mul_left_comm x,← Nat.mul_add,Nat.mul_div_cancel_left _ hp]
 rw [q1,q2]
 have hB:x*2^(8*(k % 8))<2^(8*(k % 8)+8):=by
  rw [e3,Nat.mul_comm];exact Nat.mul_lt_mul_of_pos_left hx (Nat.pow_pos (by decide))
 have m1:M*2^(8*(k % 8)+8) % 2^64=M % 2^(56-8*(k % 8))*2^(8*(k % 8)+8):=by
  rw [e2,Nat.mul_comm M,Nat.mul_mod_mul_left,Nat.mul_comm]
 have hlt:M % 2^(56-8*(k % 8))*2^(8*(k % 8)+8)+2^(8*(k % 8)+8)≤2^64:=by
  have:=Nat.mod_lt M (show 0<2^(56-8*(k % 8)) from Nat.pow_pos (by decide))
  have h2:=Nat.mul_le_mul_right (2^(8*(k % 8)+8)) (show M % 2^(56-8*(k % 8))+1≤2^(56-8*(k % 8)) from this)
  rw [Nat.add_mul,Nat.one_mul,Nat.mul_comm (2^(56-8*(k % 8))),← e2] at h2
  exact h2
 have hp2:0<2^(8*(k % 8)+8):=Nat.pow_pos (by decide)
 refine ⟨M % 2^(56-8*(k % 8)),_,m1,rfl,hB,by omega,?_⟩
 rw [Nat.add_mod,m1]
 have:x*2^(8*(k % 8)) % 2^64=x*2^(8*(k % 8)):=Nat.mod_eq_of_lt (by omega)
 rw [this,Nat.mod_eq_of_lt (by omega)]
def Ok (n:Nat):Nat:=(wI (Int.tdiv (wI ((n:Int)+7)) 8)).toNat
noncomputable def lD:List Item:=DI (Aa Tryz.prog (AI S26 K0) (some 0) 100 1 none (Ak Tryz.f58 [Ae 0 0 0 0] (As []) 1 []))
noncomputable def MZ (off n c:Nat) (xs:List Int) (L:Nat) (ys:List Int) (i:AV) (p:List Bool):ASt:=⟨lD,⟨XC Tryz.f58.ntmps [(0,Ae 0 off n c),(3,Ae 1 0 L L),(11,Ae 1 0 L L),(12,Ae 0 off n c),(13,iA n),(14,i)],
 [(0,some (CH [.seq .u8 xs])),(1,some ⟨24,[.seq .u64 ys],false⟩)],2,p⟩⟩
abbrev XI:Option (List Nat×List Nat×Nat):=some ([0,3,11,12,13,14],[0,1],2)
theorem lE (off n c:Nat) (xs:List Int):Aa Tryz.prog (AI S26 K0) (some 0) 100 1 XI (Ak Tryz.f58 [Ae 0 off n c] (As xs) 1 []) =
 some ([(AO .i64 n,true),(true,true),(Oi (wI (Int.tdiv (wI ((n:Int)+7)) 8)) 8,true),(AO .i64 n,true)],[],MZ off n c xs (Ok n) (List.replicate (Ok n) 0) (.val false [.n .i64 0]) []):=by kernel_rfl
def E8 (n i:Int):Int:=wI (Int.tdiv (E7 n i) 8)
def Sj (xs:List Int) (off:Nat) (n:Int) (ys:List Int) (i:Int):Int :=
 bits .or .u64 (ys.getD (0+(E8 n i).toNat*1) 0) (IntKind.u64.wrap (AZ false .u64 (xs.getD (off+i.toNat*1) 0)*2^min (wI (8*Int.tmod (E7 n i) 8)).toNat 64))
def XJ (off n:Nat) (xs:List Int) (L:Nat) (ys:List Int) (i:Int):List (Bool×Bool):=[(decide (i<n),true),(decide (0≤i∧i<n),true),(decide (off+i.toNat*1<xs.length),true),(AO .i64 n,true),(true,true),
 (decide (0≤E8 n i∧E8 n i<L),true),(decide (0+(E8 n i).toNat*1<ys.length),true),(decide (0≤E7 n i∧(0:Int)<8),true),(decide (0≤wI (8*Int.tmod (E7 n i) 8)),true),(decide (0≤E8 n i∧E8 n i<L),true),(decide (0+(E8 n i).toNat*1<ys.length),true)]
theorem lF (off n c:Nat) (xs:List Int) (L:Nat) (ys:List Int) (i:Int):Aa Tryz.prog (AI S26 K0) (some 0) 100 1 XI (MZ off n c xs L ys (iA i) [true]) =
 some (XJ off n xs L ys i,[],MZ off n c xs L (ys.set (0+(E8 n i).toNat*1) (Sj xs off n ys i)) (iA (wI (i+1))) []):=by kernel_rfl
def XK (ys:List Int):Heap:=[(1,some ⟨24,[.seq .u64 ys],false⟩)]
theorem lG (off n c:Nat) (xs:List Int) (L:Nat) (ys:List Int) (i:Int):AP Tryz.prog (AI S26 K0) Tryz.f58 100 1 [1] (MZ off n c xs L ys (iA i) [false]) =
 some ([(decide (i<n),false)],[],Ae 1 0 L L,XK ys):=by kernel_rfl
def DZ (N L:Nat):List Int:=(List.range L).map (AB N)
theorem lH {N N' L j:Nat} {w:Int} (hj:AB N' j=w) (ho:∀ i,i≠j→AB N' i=AB N i):(DZ N L).set j w=DZ N' L:=by
 unfold DZ
 refine List.ext_getElem (by simp) fun i h1 h2=>?_
 rw [List.getElem_set]
 split
 ·rename_i e;subst e;simp [hj]
 ·rename_i e;simp [ho i (fun h=>e h.symm)]
theorem lI {N L j:Nat} (h:j<L):(DZ N L).getD j 0=AB N j:=by simp [DZ,List.getD_eq_getElem?_getD,h]
theorem lJ (L:Nat):DZ 0 L=List.replicate L 0:=by
 unfold DZ
 refine List.ext_getElem (by simp) fun i h1 h2=>?_
 simp [AB]
theorem lK {n:Nat} (hn:n≤35184372088832):Ok n=(n+7) / 8∧wI (Int.tdiv (wI ((n:Int)+7)) 8)=(((n+7) / 8:Nat):Int):=by
 have e:wI ((n:Int)+7)=((n+7:Nat):Int):=by rw [BO (by omega)];omega
 have e2:wI (Int.tdiv (wI ((n:Int)+7)) 8)=(((n+7) / 8:Nat):Int):=by rw [e,Od];exact BO (by omega)
 exact ⟨by unfold Ok;rw [e2];omega,e2⟩
def XL (N L:Nat):Heap:=[(1,some ⟨24,[.num L N],false⟩)]
theorem lL {N L:Nat} (h:N<2^(64*L)) (β:Env) (l:List Value) (hr:AG β [.seq .u64 (DZ N L)] l):AG β [.num L N] l:=by
 obtain ⟨l1,l2,⟨h1,_⟩,h2,h3⟩:=hr
 simp only [AG] at h2
 subst h2;subst h1;subst h3
 refine ⟨_,[],⟨h,rfl⟩,rfl,?_⟩
 simp [DZ,words,Function.comp]
theorem lM {P:Program} {f:FuncId} {β0:Env} {w0:World} {R R':Ending→World→Prop} {W':List Nat} {n:Nat} {x:ASt} (h:ASafe P f β0 w0 R n W' x) (hv:∀ e w,R e w→R' e w):ASafe P f β0 w0 R' n W' x:=by
 intro β a w hi hf b cs q1 q2
 obtain ⟨e',w',fr,q5,q4⟩:=h β a w hi hf b cs q1 q2
 exact ⟨e',w',fr,hv _ _ q5,q4⟩
theorem lN {off n c:Nat} {xs:List Int} (hx:∀ d∈xs,0≤d∧d<256) (hl:off+n≤xs.length) (hn:n≤35184372088832) :
  Al Tryz.prog 58 [Ae 0 off n c] (As xs) 1 [] (Ae 1 0 ((n+7) / 8) ((n+7) / 8)) (XL (Af (AA xs off n)) ((n+7) / 8)):=by
 have hfin:Af (AA xs off n)<2^(64*((n+7) / 8)):=by
  have h1:=XH (AA xs off n) (C8 hx)
  have h2:(AA xs off n).length=n:=by unfold AA;rw [List.length_take,List.length_drop];omega
  rw [h2,Ks] at h1
  exact Nat.lt_of_lt_of_le h1 (Nat.pow_le_pow_right (by decide) (by omega))
 refine A7 (path:=[]) Tryz.func58 (by kernel_rfl) (by kernel_rfl) fun β0 w0 hb=>?_
 obtain ⟨l1,l2⟩:=lK hn
 have hw:AO .i64 (n:Int)=true:=by simp only [AO,Bool.and_eq_true,decide_eq_true_eq];omega
 refine Ai (AM Oj AQ) AE (lE off n c xs) ⟨hw,rfl,?_,hw,trivial⟩ (AT (by kernel_rfl)) hb (fun _ h=>by cases h) fun _=>?_
 ·rw [l2];unfold Oi;simp only [decide_eq_true_eq];omega
 ·rw [l1]
  refine R1 ?_
  have hlen:(AA xs off n).length=n:=by unfold AA;rw [List.length_take,List.length_drop];omega
  have hbd:∀ d∈AA xs off n,0≤d∧d<256:=C8 hx
  have loop:∀ r i,i+r=n→ASafe Tryz.prog 58 β0 w0 (BS β0 w0 [] (Ae 1 0 ((n+7) / 8) ((n+7) / 8)) (XK (DZ (Af (AA xs off n)) ((n+7) / 8)))) Tryz.f58.ntmps []
    (MZ off n c xs ((n+7) / 8) (DZ (Af ((AA xs off n).take i)*256^(n-i)) ((n+7) / 8)) (iA i) []):=by
   intro r
   induction r with
   | zero =>
    intro i hi
    obtain rfl:i=n:=by omega
    rw [Nat.sub_self,Nat.pow_zero,Nat.mul_one,List.take_of_length_le (by omega)]
    exact Ah [false] (A6 (AM Oj AQ) AE Tryz.func58 (lG ..) ⟨by simp,trivial⟩ (AT (by kernel_rfl)) hb (fun _ h=>by cases h))
   | succ r ih =>
    intro i hi
    have ek:E7 (n:Int) i=((n-1-i:Nat):Int):=XD hn (by omega)
    have ej:E8 (n:Int) i=(((n-1-i) / 8:Nat):Int):=by unfold E8;rw [ek,Od];exact BO (by omega)
    have em:wI (8*Int.tmod ((n-1-i:Nat):Int) 8)=((8*((n-1-i) % 8):Nat):Int):=by rw [Sg,BO (by omega)];omega
    have hjL:(n-1-i) / 8<(n+7) / 8:=by omega
    have hlenw:∀ N,(DZ N ((n+7) / 8)).length=(n+7) / 8:=fun N=>by simp [DZ]
    have hwx:xs.getD (off+i) 0=(AA xs off n).getD i 0:=(Hs (by omega)).symm
    have hxb:0≤(AA xs off n).getD i 0∧(AA xs off n).getD i 0<256:=by
     rw [List.getD_eq_getElem?_getD]
     cases h':(AA xs off n)[i]? with
     | none=>simp
     | some d=>exact hbd d (List.mem_of_getElem? h')
    refine Ah [true] (Ai (AM Oj AQ) AE (lF ..) ?_ (AT (by kernel_rfl)) hb (fun _ h=>by cases h) fun _=>?_)
    ·unfold XJ
     rw [ej,ek,em,hlenw]
     refine ⟨by simp;omega,by simp;omega,by simp;omega,hw,rfl,by simp only [decide_eq_true_eq];omega,by simp only [decide_eq_true_eq];omega,by simp only [decide_eq_true_eq];omega,by simp only [decide_eq_true_eq];omega,by simp only [decide_eq_true_eq];omega,by simp only [decide_eq_true_eq];omega,trivial⟩
    ·have hset:((DZ (Af ((AA xs off n).take i)*256^(n-i)) ((n+7) / 8)).set (0+(E8 n i).toNat*1) (Sj xs off n (DZ (Af ((AA xs off n).take i)*256^(n-i)) ((n+7) / 8)) i)) =
       DZ (Af ((AA xs off n).take (i+1))*256^(n-(i+1))) ((n+7) / 8):=by
      have ei:0+(((n-1-i) / 8:Nat):Int).toNat*1=(n-1-i) / 8:=by omega
      have eo:off+(i:Int).toNat*1=off+i:=by omega
      unfold Sj
      rw [ej,ek,em,ei,eo,hwx,lI hjL]
      obtain ⟨X,hX⟩:=Int.eq_ofNat_of_zero_le hxb.1
      have hX2:X<256:=by omega
      rw [hX,Ea,IntKind.wrap_u64,IntKind.wrap_u64,Int.toNat_natCast,Nat.min_eq_left (by omega)]
      have en:n-i=(n-1-i)+1:=by omega
      have en':n-(i+1)=n-1-i:=by omega
      have et:Af ((AA xs off n).take (i+1))*256^(n-(i+1))=Af ((AA xs off n).take i)*256^(n-1-i+1)+X*256^(n-1-i):=by
       rw [lA (by omega),hX,Int.toNat_natCast,en',Nat.add_mul,Nat.mul_assoc,← Nat.pow_succ']
      rw [et,en]
      obtain ⟨hh,B,w1,w2,w3,w4,w5⟩:=lC (M:=Af ((AA xs off n).take i)) (k:=n-1-i) hX2
      refine lH ?_ fun j hj=>?_
      ·have hle:8*((n-1-i) % 8)+8≤64:=by omega
       have hB64:X*2^(8*((n-1-i) % 8))<2^64:=by
        rw [w2];exact Nat.lt_of_lt_of_le w3 (Nat.pow_le_pow_right (by decide) hle)
       have ex:((X:Int) % 18446744073709551616*2^(8*((n-1-i) % 8))) % 18446744073709551616=(B:Int):=by
        have a1:((X:Int) % 18446744073709551616)=(X:Int):=by omega
        have a2:((X:Int)*2^(8*((n-1-i) % 8)))=((X*2^(8*((n-1-i) % 8)):Nat):Int):=by rw [Int.natCast_mul,Int.natCast_pow];rfl
        rw [a1,a2,w2]
        rw [w2] at hB64
        have:B<18446744073709551616:=hB64
        omega
       rw [ex]
       have eo:=Sd (h:=hh) (s:=8*((n-1-i) % 8)+8) (B:=B) w4 w3 hle
       unfold AB
       rw [w5,w1]
       exact eo.symm
      ·unfold AB
       rw [lB hX2 hj]
     rw [hset,BO (z:=(i:Int)+1) (by omega)]
     exact ih (i+1) (by omega)
  have:=loop n 0 (by omega)
  rw [List.take_zero,show Af []=0 from rfl,Nat.zero_mul,lJ] at this
  exact lM this fun e w h=>OE (lL hfin) h
def wrdSpec:ASpec:=fun args H fr path =>
 match args with
 | [.val false [.sl k off n _]]=>match AF H k with
  | some ⟨_,cs,_⟩=>match BE .u8 cs with
   | some xs=>some (Bg [k] 1 fr 1 [] (Ae 1 0 ((n+7) / 8) ((n+7) / 8)) (XL (Af (AA xs off n)) ((n+7) / 8)) [(Nat.ble (off+n) xs.length,true),(Nat.ble n 35184372088832,true)] path)
   | none=>none
  | _=>none
 | _=>none
theorem lO {a:Int} (h:has .u8 a):0≤a∧a<256:=by
 have:=(DG _ _).1 h
 simp only [AO,Bool.and_eq_true,decide_eq_true_eq] at this
 omega
theorem F0 {β:Env} {H:Heap} {w:World} {k:Nat} {ty:Nat} {cs:List Ch} {o:Bool} {xs:List Int} (hg:Ex.Good β H w) (hk:AF H k=some ⟨ty,cs,o⟩) (hxs:BE .u8 cs=some xs) :
  (∀ d∈xs,0≤d∧d<256)∧Ex.Good (A_ β [k] 1) (As xs) w∧(∀ j,j<1→∃ X,β (nth [k] j)=some X):=by
 obtain ⟨l,g1⟩:=Ef hg hk
 obtain ⟨_,g2⟩:=B7 hxs g1
 refine ⟨fun d hd=>lO (g2 d hd),OD (c:=[.seq .u8 xs]) hg hk (fun l h=>?_),fun j hj=>?_⟩
 ·obtain ⟨q1,q2⟩:=B7 hxs h
  exact ⟨_,[],⟨q1,q2⟩,rfl,by simp⟩
 ·match j,hj with
  | 0,_=>exact EL (hg.heap _ _ hk)
theorem lP:BN Tryz.prog 58 wrdSpec:=by
 refine FV Tryz.func58 (by kernel_rfl) (by kernel_rfl) fun args H fr path r h=>?_
 unfold wrdSpec at h
 split at h
 case h_2=>cases h
 rename_i k off n c
 split at h
 case h_2=>cases h
 rename_i ty cs o hk
 split at h
 case h_2=>cases h
 rename_i xs hxs
 injection h with h
 refine ⟨[k],[Ae 0 off n c],As xs,1,1,[],_,_,_,path,h.symm,fun β us w ha hg hc=>?_⟩
 obtain ⟨u1,us1,r1,ha,rfl⟩:=ha
 obtain ⟨g1,g2,g3⟩:=F0 hg hk hxs
 exact ⟨lN g1 (Nat.le_of_ble_eq_true hc.1) (Nat.le_of_ble_eq_true hc.2.1),by kernel_rfl,⟨u1,_,r1,ha,rfl⟩,g2,g3⟩
noncomputable def S27:List (FuncId×ASpec):=(58,wrdSpec)::S26
theorem Ma:AS Tryz.prog S27:=⟨lP,Oj⟩
def Sk (x:Nat):AV:=.val true [.seq .u8 (H5 x 48)]
theorem lQ (a:Nat):AR Tryz.prog (AI S27 K0) Tryz.f120 [Ad a] [] 300 =
 some (Fs 4,Sk (AL (AA (GY (a % pN)) 0 6))):=by kernel_rfl
theorem lR (a:Nat):AU Tryz.prog 120 [Ad a] (Sk (a % pN)):=by
 have h:=AW (AM Ma AQ) AE Tryz.func120 (lQ a) ⟨rfl,rfl,rfl,rfl,trivial⟩ rfl
 rw [gG (KP a)] at h
 exact h
def Ct (n N:Nat):Nat:=if n=48∧N<pN then N else 0
def F1 (n N:Nat):Int:=if n=48 then (if N<pN then 0 else 41) else 40
def H6 (n N:Nat):AV:=.tup [(true,[.num 6 (Ct n N)]),(false,[.v (.int .i64 (F1 n N))])]
def XM (e:Int):AV:=.tup [(true,I8),(false,[.n .i64 e])]
theorem lS (off n m:Nat) (xs:List Int):AP Tryz.prog (AI S27 K0) Tryz.f123 300 1 [] (Ak Tryz.f123 [Ae 0 off n m] (As xs) 1 [true]) =
 some ([(AO .i64 n,true),(!decide ((n:Int)=48),true)],[],XM 40,[]):=by kernel_rfl
theorem lT (off m:Nat) (xs:List Int):AP Tryz.prog (AI S27 K0) Tryz.f123 300 1 [] (Ak Tryz.f123 [Ae 0 off 48 m] (As xs) 1 [false,true]) =
 some ([(true,true),(false,false),(Nat.ble (off+48) xs.length,true),(true,true),(true,true),(!decide (Af (AA xs off 48) % pN=Af (AA xs off 48)),true)],[],XM 41,[]):=by kernel_rfl
theorem lU (off m:Nat) (xs:List Int):AP Tryz.prog (AI S27 K0) Tryz.f123 300 1 [] (Ak Tryz.f123 [Ae 0 off 48 m] (As xs) 1 [false,false]) =
 some ([(true,true),(false,false),(Nat.ble (off+48) xs.length,true),(true,true),(true,true),(!decide (Af (AA xs off 48) % pN=Af (AA xs off 48)),false)],[],.tup [(true,[.num 6 (Af (AA xs off 48))]),(false,[.n .i64 0])],[]):=by kernel_rfl
theorem CV {β β':Env} {g g':Bool} {a a' b b':List Ch} {u:Value} (h1:∀ v,A9 β g a v→A9 β' g a' v) (h2:∀ v,A9 β g' b v→A9 β' g' b' v) (h:AH β (.tup [(g,a),(g',b)]) u):AH β' (.tup [(g,a'),(g',b')]) u:=by
 obtain ⟨us,⟨u1,l1,q1,⟨u2,l2,q2,q3,q4⟩,q5⟩,q6⟩:=h
 exact ⟨us,⟨u1,l1,h1 _ q1,⟨u2,l2,h2 _ q2,q3,q4⟩,q5⟩,q6⟩
theorem XN {β:Env} {v:Value} (h:A9 β true I8 v):A9 β true [.num 6 0] v:=by
 obtain ⟨l,q,rfl⟩:=h
 exact ⟨l,Dy (k:=6) (x:=0) (by kernel_rfl) q,rfl⟩
theorem DJ {β:Env} {k:IntKind} {i j:Int} {v:Value} (e:i=j) (h:A9 β false [.n k i] v):A9 β false [.v (.int k j)] v:=OK e h
theorem Sl {off n m:Nat} {xs:List Int} (hl:off+n≤xs.length) (hn:AO .i64 n=true) :
  Al Tryz.prog 123 [Ae 0 off n m] (As xs) 1 [] (H6 n (Af (AA xs off n))) []:=by
 have hmod:∀ N:Nat,decide (N % pN=N)=decide (N<pN):=fun N=>by
  by_cases h:N<pN
  ·rw [decide_eq_true h,decide_eq_true (Nat.mod_eq_of_lt h)]
  ·rw [decide_eq_false h,decide_eq_false fun e=>h (by rw [← e];exact FY N)]
 by_cases h:n=48
 ·subst h
  by_cases hN:Af (AA xs off 48)<pN
  ·refine Be (A7 (path:=[false,false]) Tryz.func123 (by kernel_rfl) (by kernel_rfl) fun β0 w0 hb =>
    A6 (AM Ma AQ) AE Tryz.func123 (lU off m xs) ⟨rfl,rfl,Nat.ble_eq_true_of_le hl,rfl,rfl,by rw [hmod,decide_eq_true hN];rfl,trivial⟩ (AT (by kernel_rfl)) hb (fun _ h=>by cases h)) fun β u hu=>?_
   unfold H6 Ct F1
   rw [if_pos ⟨rfl,hN⟩,if_pos rfl,if_pos hN]
   exact CV (fun _ q=>q) (fun _ q=>DJ rfl q) hu
  ·refine Be (A7 (path:=[false,true]) Tryz.func123 (by kernel_rfl) (by kernel_rfl) fun β0 w0 hb =>
    A6 (AM Ma AQ) AE Tryz.func123 (lT off m xs) ⟨rfl,rfl,Nat.ble_eq_true_of_le hl,rfl,rfl,by rw [hmod,decide_eq_false hN];rfl,trivial⟩ (AT (by kernel_rfl)) hb (fun _ h=>by cases h)) fun β u hu=>?_
   unfold H6 Ct F1
   rw [if_neg (fun q=>hN q.2),if_pos rfl,if_neg hN]
   exact CV (fun _ q=>XN q) (fun _ q=>DJ rfl q) hu
 ·refine Be (A7 (path:=[true]) Tryz.func123 (by kernel_rfl) (by kernel_rfl) fun β0 w0 hb =>
   A6 (AM Ma AQ) AE Tryz.func123 (lS off n m xs) ⟨hn,by simp;omega,trivial⟩ (AT (by kernel_rfl)) hb (fun _ h=>by cases h)) fun β u hu=>?_
  unfold H6 Ct F1
  rw [if_neg (fun q=>h q.1),if_neg h]
  exact CV (fun _ q=>XN q) (fun _ q=>DJ rfl q) hu
def Mk (g:Nat→List Int→AV):ASpec:=fun args H fr path =>
 match args with
 | [.val false [.sl k off n _]]=>match AF H k with
  | some ⟨_,cs,_⟩=>match BE .u8 cs with
   | some xs=>some (Bg [k] 1 fr 0 [] (g n (AA xs off n)) [] [(Nat.ble (off+n) xs.length,true),(AO .i64 n,true)] path)
   | none=>none
  | _=>none
 | _=>none
theorem XO {f:FuncId} {fn:Func} {g:Nat→List Int→AV} (hfn:Tryz.prog.funcs[f]? = some fn) (hb:fn.body.isSome=true) (hname:(fn.name=="runtime.NumGoroutine")=false) (hk:∀ n l,EI 1 0 [] (g n l) []=true)
  (h:∀ (off n m:Nat) (xs:List Int),(∀ d∈xs,0≤d∧d<256)→off+n≤xs.length→AO .i64 n=true→Al Tryz.prog f [Ae 0 off n m] (As xs) 1 [] (g n (AA xs off n)) []):BN Tryz.prog f (Mk g):=by
 refine FV hfn hb hname fun args H fr path r hs=>?_
 unfold Mk at hs
 split at hs
 case h_2=>cases hs
 rename_i k off n c
 split at hs
 case h_2=>cases hs
 rename_i ty cs o hk'
 split at hs
 case h_2=>cases hs
 rename_i xs hxs
 injection hs with hs
 refine ⟨[k],[Ae 0 off n c],As xs,1,0,[],_,_,_,path,hs.symm,fun β us w ha hg hc=>?_⟩
 obtain ⟨u1,us1,r1,ha,rfl⟩:=ha
 obtain ⟨g1,g2,g3⟩:=F0 hg hk' hxs
 exact ⟨h off n c xs g1 (Nat.le_of_ble_eq_true hc.1) hc.2.1,hk _ _,⟨u1,_,r1,ha,rfl⟩,g2,g3⟩
noncomputable def S28:List (FuncId×ASpec):=(120,Am (GV fun x=>Sk (x % pN)))::(123,Mk fun n l=>H6 n (Af l))::S27
theorem lV:AS Tryz.prog S28:=⟨Ap Tryz.func120 (by kernel_rfl) (by kernel_rfl) (JA fun x _=>lR x),XO Tryz.func123 (by kernel_rfl) (by kernel_rfl) (fun _ _=>rfl) (fun _ _ _ _ _ hl hn=>Sl hl hn),Ma⟩
theorem XP:∀ (a b:List Int),BA (a++b)=BA a+((2^(64*a.length):Nat):Int)*BA b
 | [],b=>by simp [BA]
 | d::a,b=>by
  simp only [List.cons_append,BA,List.length_cons]
  rw [XP a b,show 64*(a.length+1)=64+64*a.length by omega,Nat.pow_add,Int.natCast_mul,Int.mul_add,Int.mul_assoc,← Int.add_assoc]
  rfl
theorem XQ (x k:Nat):((x % 2^(64*(k+1)):Nat):Int)=((x % 2^(64*k):Nat):Int)+((2^(64*k):Nat):Int)*AB x k:=by
 rw [show 64*(k+1)=64*k+64 by omega,Nat.pow_add,Nat.mod_mul,Int.natCast_add,Int.natCast_mul];rfl
theorem XR (k:Nat):((2^(64*(k+1)):Nat):Int)=((2^(64*k):Nat):Int)*18446744073709551616:=by
 rw [show 64*(k+1)=64*k+64 by omega,Nat.pow_add,Int.natCast_mul];rfl
theorem XS (x y:Nat):∀ k,BA ((List.range k).map (A2 x y))=((x % 2^(64*k):Nat):Int)-((y % 2^(64*k):Nat):Int)+((2^(64*k):Nat):Int)*A' x y k
 | 0=>by simp [BA,A',Nat.mod_one]
 | k+1=>by
  rw [List.range_succ,List.map_append,XP,XS x y k,XQ,XQ,XR]
  simp only [List.map_cons,List.map_nil,BA,List.length_map,List.length_range,Int.mul_zero,Int.add_zero]
  rw [I9 x y k]
  generalize ((2^(64*k):Nat):Int)=Q
  simp only [Int.mul_add,Int.mul_sub,Int.mul_assoc]
  omega
theorem lW {x y k:Nat} (hx:x<2^(64*k)) (hy:y<2^(64*k)):(((x+(2^(64*k)-y)) % 2^(64*k):Nat):Int)=BA ((List.range k).map (A2 x y)):=by
 have h:=XS x y k
 rw [Nat.mod_eq_of_lt hx,Nat.mod_eq_of_lt hy] at h
 have hb:=DV x y k
 have hs:∀ (ds:List Int),(∀ d∈ds,0≤d∧d<18446744073709551616)→0≤BA ds∧BA ds<((2^(64*ds.length):Nat):Int):=by
  intro ds
  induction ds with
  | nil=>intro _;simp [BA]
  | cons d r ih =>
   intro hd
   have h1:=hd d (by simp)
   have h2:=ih fun d h=>hd d (by simp [h])
   rw [List.length_cons,XR]
   simp only [BA]
   omega
 have hr:=hs ((List.range k).map (A2 x y)) (by intro d hd;obtain ⟨i,_,rfl⟩:=List.mem_map.1 hd;exact Cd x y i)
 rw [List.length_map,List.length_range,h] at hr
 rw [h]
 generalize 2^(64*k)=Q at *
 have h01:A' x y k=0∨A' x y k=1:=by omega
 rcases h01 with e | e
 ·rw [e,Int.mul_zero,Int.add_zero] at hr ⊢
  have e1:x+(Q-y)=(x-y)+Q:=by omega
  rw [e1,Nat.add_mod_right,Nat.mod_eq_of_lt (by omega)];omega
 ·rw [e,Int.mul_one] at hr ⊢
  rw [Nat.mod_eq_of_lt (by omega)];omega
noncomputable def SP:List (FuncId×ASpec):=S28
theorem lX:AS Tryz.prog SP:=lV
theorem lY {a q c:Int} (ha:0≤a∧a<18446744073709551616) (hq:0≤q∧q<18446744073709551616) (hc:0≤c∧c<18446744073709551616) :
  a*q+c=Bf (DT a q) c 0+18446744073709551616*mW (FX a q+Bt (DT a q) c 0)∧(0≤Bf (DT a q) c 0∧Bf (DT a q) c 0<18446744073709551616)∧(0≤mW (FX a q+Bt (DT a q) c 0)∧mW (FX a q+Bt (DT a q) c 0)<18446744073709551616):=by
 have h:=Rk ha hq
 simp only [Co]
 unfold Bf Bt DT FX
 generalize a*q=z at *
 omega
noncomputable def SQ:List (FuncId×ASpec):=SP
theorem lZ:AS Tryz.prog SQ:=lX
noncomputable def SR:List (FuncId×ASpec):=SQ
theorem l5:AS Tryz.prog SR:=lZ
noncomputable def ST:List (FuncId×ASpec):=SR
theorem l6:AS Tryz.prog ST:=l5
noncomputable def SU:List (FuncId×ASpec):=ST
theorem l7:AS Tryz.prog SU:=l6
noncomputable def SV:List (FuncId×ASpec):=SU
theorem l8:AS Tryz.prog SV:=l7
theorem Sm {n:Nat} (h:n≤1125899906842624):AO .i64 (n:Int)=true:=by
 simp only [AO,Bool.and_eq_true,decide_eq_true_eq];omega
noncomputable def SW:List (FuncId×ASpec):=SV
theorem l9:AS Tryz.prog SW:=l8
def mA:List Ch:=[.n .u64 1,.n .u64 0,.n .u64 0,.n .u64 0,.n .u64 0,.n .u64 0]
noncomputable def SX:List (FuncId×ASpec):=SW
theorem mB:AS Tryz.prog SX:=l9
section
variable (off n m off' n' m':Nat) (xs ys:List Int)
end
noncomputable def SY:List (FuncId×ASpec):=SX
theorem mC:AS Tryz.prog SY:=mB
theorem mD:BN Tryz.prog 123 (Mk fun n l=>H6 n (Af l)):=XO Tryz.func123 (by kernel_rfl) (by kernel_rfl) (fun _ _=>rfl) (fun _ _ _ _ _ hl hn=>Sl hl hn)
noncomputable def SZ:List (FuncId×ASpec):=(123,Ed (Mk fun n l=>H6 n (Af l)))::(125,Ed powSpec)::SY
theorem mE:AS Tryz.prog SZ:=⟨FW mD,FW WI,mC⟩
end Go.Proofs.YtojnabmgolpodaaGreat
namespace Go.Proofs.YtojnabmgolpodaaGreat
open Ex
set_option maxRecDepth 100000
set_option maxHeartbeats 4000000
end Go.Proofs.YtojnabmgolpodaaGreat
namespace Go.Proofs.YtojnabmgolpodaaGreat
open Ex
open Go.RowKit (Below)
set_option maxRecDepth 100000
set_option maxHeartbeats 4000000
end Go.Proofs.YtojnabmgolpodaaGreat
namespace Go.Proofs.YtojnabmgolpodaaGreat
open Ex Num
set_option maxRecDepth 100000
set_option maxHeartbeats 4000000
def H7:AV→Option (Nat×Nat×Nat)
 | .val false [.sl k off n _]=>some (k,off,n)
 | .val false [.sx k n _]=>some (k,0,n)
 | _=>none
theorem Kt {β:Env} {A:AV} {k off n:Nat} {u:Value} (h:H7 A=some (k,off,n)) (hr:AH β A u):∃ m,AH β (Ae k off n m) u:=by
 unfold H7 at h
 split at h
 ·rename_i k' off' n' m
  injection h with h;injection h with h1 h;injection h with h2 h3
  subst h1;subst h2;subst h3
  exact ⟨m,hr⟩
 ·rename_i k' n' sz
  injection h with h;injection h with h1 h;injection h with h2 h3
  subst h1;subst h2;subst h3
  obtain ⟨l1,l2,h1,h2,h3⟩:=hr
  rcases h1 with ⟨B,q,cap,q1,q2,q3,q4⟩ | ⟨q1,q2,q3⟩
  ·exact ⟨cap,l1,l2,.inl ⟨B,(q,0),q1,by rw [q2]⟩,h2,h3⟩
  ·exact ⟨0,l1,l2,.inr ⟨q1,rfl,q2,rfl,q3⟩,h2,h3⟩
 ·cases h
theorem Ek {f:FuncId} {fn:Func} (hfn:Tryz.prog.funcs[f]? = some fn) (hbd:fn.body.isSome=true) (hname:(fn.name=="runtime.NumGoroutine")=false) {s:ASpec}
  (h:∀ args H fr path r,s args H fr path=some r→∃ (ρ:List Nat) (k0 nw:Nat) (W:List Nat) (val:AV) (H1:Heap) (conds:List (Bool×Bool)) (path':List Bool),
   r=Bg ρ k0 fr nw W val H1 conds path'∧(∀ β us w,Ar β args us→Ex.Good β H w→AN conds→∃ args0 H0,Al Tryz.prog f args0 H0 k0 W val H1∧EI k0 nw W val H1=true∧Ar (A_ β ρ k0) args0 us∧Ex.Good (A_ β ρ k0) H0 w∧(∀ k,k<k0→∃ X,β (nth ρ k)=some X))):BN Tryz.prog f s:=by
 intro args H fr path r β us w hs hc ha hg hf
 obtain ⟨ρ,k0,nw,W,val,H1,conds,path',rfl,hh⟩:=h args H fr path r hs
 obtain ⟨args0,H0,hcan,hb,ha0,hg0,hdef⟩:=hh β us w ha hg hc
 refine Lp hfn hbd hname (Calls.mono (hcan (A_ β ρ k0) us w ha0 hg0 fun b hb=>?_) ?_)
 ·have:Nat.blt b k0=false:=by cases h:Nat.blt b k0 with | false=>rfl | true=>have:=BF.1 h;omega
  simp [A_,this]
 ·rintro e w' ⟨u,β1,rfl,ho⟩
  obtain ⟨β',he⟩:=VZ (conds:=conds) (path:=path') hg ho hb hf hdef
  exact ⟨u,β',rfl,he⟩
theorem Db {β:Env} {k j off n m:Nat} {ρ:List Nat} {k0:Nat} {u:Value} (hj:j<k0) (hn:nth ρ j=k) (h:AH β (Ae k off n m) u):AH (A_ β ρ k0) (Ae j off n m) u:=by
 obtain ⟨l1,l2,h1,h2,h3⟩:=h
 refine ⟨l1,l2,?_,h2,h3⟩
 have e:A_ β ρ k0 j=β k:=by rw [OA hj,hn]
 rcases h1 with ⟨B,q,q1,q2⟩ | ⟨q1,q2⟩
 ·exact .inl ⟨B,q,by rw [e];exact q1,q2⟩
 ·exact .inr ⟨by rw [e];exact q1,q2⟩
def Ol (g:Nat→List Int→AV):ASpec:=fun args H fr path =>
 match args with
 | [S]=>match H7 S with
  | some (k,off,n)=>match AF H k with
   | some ⟨_,cs,_⟩=>match BE .u8 cs with
    | some xs=>some (Bg [k] 1 fr 0 [] (g n (AA xs off n)) [] [(Nat.ble (off+n) xs.length,true),(AO .i64 n,true)] path)
    | none=>none
   | _=>none
  | none=>none
 | _=>none
theorem XT {f:FuncId} {fn:Func} {g:Nat→List Int→AV} (hfn:Tryz.prog.funcs[f]? = some fn) (hb:fn.body.isSome=true) (hname:(fn.name=="runtime.NumGoroutine")=false) (hk:∀ n l,EI 1 0 [] (g n l) []=true)
  (h:∀ (off n m:Nat) (xs:List Int),(∀ d∈xs,0≤d∧d<256)→off+n≤xs.length→AO .i64 n=true→Al Tryz.prog f [Ae 0 off n m] (As xs) 1 [] (g n (AA xs off n)) []):BN Tryz.prog f (Ol g):=by
 refine Ek hfn hb hname fun args H fr path r hs=>?_
 unfold Ol at hs
 split at hs
 case h_2=>cases hs
 rename_i S
 split at hs
 case h_2=>cases hs
 rename_i k off n hS
 split at hs
 case h_2=>cases hs
 rename_i ty cs o hk'
 split at hs
 case h_2=>cases hs
 rename_i xs hxs
 injection hs with hs
 refine ⟨[k],1,0,[],_,_,_,path,hs.symm,fun β us w ha hg hc=>?_⟩
 obtain ⟨u1,us1,r1,ha,rfl⟩:=ha
 obtain ⟨m,r1⟩:=Kt hS r1
 obtain ⟨g1,g2,g3⟩:=F0 hg hk' hxs
 exact ⟨[Ae 0 off n m],As xs,h off n m xs g1 (Nat.le_of_ble_eq_true hc.1) hc.2.1,hk _ _,⟨u1,_,Db (by omega) rfl r1,ha,rfl⟩,g2,g3⟩
def Om (g:Nat→List Int→AV):ASpec:=fun args H fr path =>
 match args with
 | [S]=>match H7 S with
  | some (k,off,n)=>match AF H k with
   | some ⟨_,cs,_⟩=>match BE .u64 cs with
    | some xs=>some (Bg [k] 1 fr 0 [] (g n (AA xs off n)) [] [(Nat.ble (off+n) xs.length,true),(Nat.ble n 1125899906842624,true)] path)
    | none=>none
   | _=>none
  | none=>none
 | _=>none
theorem XU {f:FuncId} {fn:Func} {g:Nat→List Int→AV} (hfn:Tryz.prog.funcs[f]? = some fn) (hb:fn.body.isSome=true) (hname:(fn.name=="runtime.NumGoroutine")=false) (hk:∀ n l,EI 1 0 [] (g n l) []=true)
  (h:∀ (off n m:Nat) (xs:List Int),(∀ d∈xs,0≤d∧d<18446744073709551616)→off+n≤xs.length→n≤1125899906842624→Al Tryz.prog f [Ae 0 off n m] (BT xs) 1 [] (g n (AA xs off n)) []):BN Tryz.prog f (Om g):=by
 refine Ek hfn hb hname fun args H fr path r hs=>?_
 unfold Om at hs
 split at hs
 case h_2=>cases hs
 rename_i S
 split at hs
 case h_2=>cases hs
 rename_i k off n hS
 split at hs
 case h_2=>cases hs
 rename_i ty cs o hk'
 split at hs
 case h_2=>cases hs
 rename_i xs hxs
 injection hs with hs
 refine ⟨[k],1,0,[],_,_,_,path,hs.symm,fun β us w ha hg hc=>?_⟩
 obtain ⟨u1,us1,r1,ha,rfl⟩:=ha
 obtain ⟨m,r1⟩:=Kt hS r1
 obtain ⟨g1,g2,g3⟩:=KW hg hk' hxs
 exact ⟨[Ae 0 off n m],BT xs,h off n m xs g1 (Nat.le_of_ble_eq_true hc.1) (Nat.le_of_ble_eq_true hc.2.1),hk _ _,⟨u1,_,Db (by omega) rfl r1,ha,rfl⟩,g2,g3⟩
noncomputable def powSp:ASpec:=fun args H fr path =>
 match args with
 | [.val true a,S]=>match H7 S with
  | some (k,off,n)=>match Bm 6 a,AF H k with
   | some x,some ⟨_,cs,_⟩=>match BE .u64 cs with
    | some xs=>some (Bg [k] 1 fr 0 [] (Ad (DX x (AL (AA xs off n)))) [] [(Nat.ble (off+n) xs.length,true),(Nat.ble n 1125899906842624,true)] path)
    | none=>none
   | _,_=>none
  | none=>none
 | _=>none
theorem mF {f:FuncId} {fn:Func} (hfn:Tryz.prog.funcs[f]? = some fn) (hb:fn.body.isSome=true) (hname:(fn.name=="runtime.NumGoroutine")=false)
  (h:∀ (off n m:Nat) (xs:List Int) (x:Nat),(∀ d∈xs,0≤d∧d<18446744073709551616)→off+n≤xs.length→n≤1125899906842624→Al Tryz.prog f (MI x off n m) (BT xs) 1 [] (Ad (DX x (AL (AA xs off n)))) []):BN Tryz.prog f powSp:=by
 refine Ek hfn hb hname fun args H fr path r hs=>?_
 unfold powSp at hs
 split at hs
 case h_2=>cases hs
 rename_i a S
 split at hs
 case h_2=>cases hs
 rename_i k off n hS
 split at hs
 case h_2=>cases hs
 rename_i x ty cs o hx hk'
 split at hs
 case h_2=>cases hs
 rename_i xs hxs
 injection hs with hs
 refine ⟨[k],1,0,[],_,_,_,path,hs.symm,fun β us w ha hg hc=>?_⟩
 obtain ⟨u1,us1,r1,⟨u2,us2,r2,ha,rfl⟩,rfl⟩:=ha
 obtain ⟨m,r2⟩:=Kt hS r2
 obtain ⟨g1,g2,g3⟩:=KW hg hk' hxs
 refine ⟨MI x off n m,BT xs,h off n m xs x g1 (Nat.le_of_ble_eq_true hc.1) (Nat.le_of_ble_eq_true hc.2.1),by kernel_rfl,⟨u1,_,?_,⟨u2,us2,Db (by omega) rfl r2,ha,rfl⟩,rfl⟩,g2,g3⟩
 obtain ⟨l,q,rfl⟩:=r1;exact ⟨l,Dy hx q,rfl⟩
noncomputable def SB:List (FuncId×ASpec):=(123,Ed (Ol fun n l=>H6 n (Af l)))::(125,Ed powSp)::SZ
theorem mG:AS Tryz.prog SB:=⟨FW (XT Tryz.func123 (by kernel_rfl) (by kernel_rfl) (fun _ _=>rfl) (fun _ _ _ _ _ hl hn=>Sl hl hn)),FW (mF Tryz.func125 (by kernel_rfl) (by kernel_rfl) fun _ _ _ _ x hx hl hn=>WH hx hl hn x),mE⟩
def tt:Nat→List (Bool×Bool)→List (Bool×Bool)
 | 0,r=>r
 | n+1,r=>(true,true)::tt n r
theorem Bj:∀ (n:Nat) {r:List (Bool×Bool)},AN r→AN (tt n r)
 | 0,_,h=>h
 | n+1,_,h=>⟨rfl,Bj n h⟩
theorem Az {S:List (FuncId×ASpec)} {K:List (TypeId×List (Option IntKind))} (hS:AS Tryz.prog S) (hK:GO Tryz.prog K) {f:FuncId} {fn:Func} (hfn:Tryz.prog.funcs[f]? = some fn) (hb:fn.body.isSome=true) {args:List AV} {H H1:Heap} {fuel k0:Nat} {ks:List Nat} {path:List Bool} {conds:List (Bool×Bool)} {v:AV}
  (hlen:Nat.ble (Ez args) fn.ntmps=true) (h:AP Tryz.prog (AI S K) fn fuel k0 ks (Ak fn args H k0 path)=some (conds,[],v,H1)) (hw:VR fn.ntmps (Ak fn args H k0 path).s=true) (hc:AN conds):Al Tryz.prog f args H k0 [] v H1 :=
 A7 (path:=path) hfn hb hlen fun _ _ h0=>A6 (AM hS hK) AE hfn h hc (AT hw) h0 (fun _ h=>by cases h)
section
variable {H:Type} {enc:TypeId×Value→H} {W:World} {base:Nat} {v:Value} {d:DataW H} {p:List MemPlace}
end
noncomputable def SC:List (FuncId×ASpec):=SB
theorem mH:AS Tryz.prog SC:=mG
noncomputable def SD:List (FuncId×ASpec):=SC
theorem mI:AS Tryz.prog SD:=mH
noncomputable def SE:List (FuncId×ASpec):=SD
theorem Sn:AS Tryz.prog SE:=mI
end Go.Proofs.YtojnabmgolpodaaGreat
namespace Go.Proofs.YtojnabmgolpodaaGreat.Rg
class CR (F:Type) extends Add F,Mul F,Neg F,Sub F,Zero F,One F where
 add_assoc:∀ a b c:F,(a+b)+c=a+(b+c)
 add_comm:∀ a b:F,a+b=b+a
 zero_add:∀ a:F,0+a=a
 neg_add:∀ a:F,-a+a=0
 mul_assoc:∀ a b c:F,(a*b)*c=a*(b*c)
 mul_comm:∀ a b:F,a*b=b*a
 one_mul:∀ a:F,1*a=a
 add_mul:∀ a b c:F,(a+b)*c=a*c+b*c
 sub_eq:∀ a b:F,a-b=a+-b
section
variable {F:Type} [CR F]
theorem add_assoc (a b c:F):(a+b)+c=a+(b+c):=CR.add_assoc a b c
theorem add_comm (a b:F):a+b=b+a:=CR.add_comm a b
theorem mul_assoc (a b c:F):(a*b)*c=a*(b*c):=CR.mul_assoc a b c
theorem mul_comm (a b:F):a*b=b*a:=CR.mul_comm a b
theorem zero_add (a:F):0+a=a:=CR.zero_add a
theorem add_zero (a:F):a+0=a:=by rw [add_comm,zero_add]
theorem neg_add (a:F):-a+a=0:=CR.neg_add a
theorem add_neg (a:F):a+-a=0:=by rw [add_comm,neg_add]
theorem one_mul (a:F):1*a=a:=CR.one_mul a
theorem mul_one (a:F):a*1=a:=by rw [mul_comm,one_mul]
theorem add_mul (a b c:F):(a+b)*c=a*c+b*c:=CR.add_mul a b c
theorem mul_add (a b c:F):a*(b+c)=a*b+a*c:=by rw [mul_comm,add_mul,mul_comm b,mul_comm c]
theorem sub_eq (a b:F):a-b=a+-b:=CR.sub_eq a b
theorem XV {a b c:F} (h:a+b=a+c):b=c:=by
 have:=congrArg (fun z=>-a+z) h
 simpa [← add_assoc,neg_add,zero_add] using this
theorem zero_mul (a:F):0*a=0:=by
 have h:0*a+0*a=0*a+0:=by rw [← add_mul,zero_add,add_zero]
 exact XV h
theorem mul_zero (a:F):a*0=0:=by rw [mul_comm,zero_mul]
theorem F2 {a b:F} (h:a+b=0):b=-a:=XV (a:=a) (by rw [h,add_neg])
theorem Oo (a b:F):-a*b=-(a*b):=F2 (by rw [← add_mul,add_neg,zero_mul])
theorem Dt (a:F):-(-a)=a:=(F2 (neg_add a)).symm
theorem Ku:-(0:F)=0:=(F2 (zero_add 0)).symm
theorem Oq (a b:F):-(a+b)=-a+-b:=(F2 (by
 rw [add_comm a b,add_assoc,← add_assoc a,add_neg,zero_add,add_neg])).symm
theorem sub_self (a:F):a-a=0:=by rw [sub_eq,add_neg]
theorem AJ {a b:F}:a-b=0↔a=b:=by
 constructor
 ·intro h
  rw [sub_eq] at h
  have:=F2 ((add_comm _ _).trans h)
  rw [this,Dt]
 ·rintro rfl;exact sub_self a
theorem XW (a b c:F):a+(b+c)=b+(a+c):=by rw [← add_assoc,add_comm a b,add_assoc]
theorem mul_left_comm (a b c:F):a*(b*c)=b*(a*c):=by rw [← mul_assoc,mul_comm a b,mul_assoc]
def Ce:Nat→F
 | 0=>0
 | n+1=>Ce n+1
theorem JK (a b:Nat):(Ce (a+b):F)=Ce a+Ce b:=by
 induction b with
 | zero=>simp [Ce,add_zero]
 | succ b ih=>rw [← Nat.add_assoc];simp only [Ce];rw [ih,add_assoc]
theorem Or (a b:Nat):(Ce (a*b):F)=Ce a*Ce b:=by
 induction b with
 | zero=>simp [Ce,mul_zero]
 | succ b ih=>rw [Nat.mul_succ,JK,ih];simp only [Ce];rw [mul_add,mul_one]
def int:Int→F
 | .ofNat n=>Ce n
 | .negSucc n=>-(Ce (n+1))
theorem Kv (a b:Nat):(int ((a:Int)-b):F)=Ce a+-Ce b:=by
 rcases Nat.le_total b a with h | h
 ·obtain ⟨c,rfl⟩:=Nat.exists_eq_add_of_le h
  rw [show ((b+c:Nat):Int)-b=(c:Int) by omega,JK,add_comm (Ce b) (Ce c),add_assoc,add_neg,add_zero];rfl
 ·obtain ⟨c,rfl⟩:=Nat.exists_eq_add_of_le h
  cases c with
  | zero=>rw [Nat.add_zero,add_neg,show (a:Int)-(a:Nat)=0 by omega];rfl
  | succ c =>
   rw [show (a:Int)-((a+(c+1):Nat):Int)=Int.negSucc c by omega,JK,Oq,← add_assoc,add_neg,zero_add];rfl
theorem Ot (i:Int):∃ a b:Nat,i=(a:Int)-b:=by
 cases i with
 | ofNat n=>exact ⟨n,0,by simp⟩
 | negSucc n=>exact ⟨0,n+1,by omega⟩
theorem XX (i j:Int):(int (i+j):F)=int i+int j:=by
 obtain ⟨a,b,rfl⟩:=Ot i
 obtain ⟨c,d,rfl⟩:=Ot j
 rw [show (a:Int)-b+(c-d)=((a+c:Nat):Int)-(b+d:Nat) by omega,Kv,Kv,Kv,JK,JK,Oq]
 rw [add_assoc,add_assoc];congr 1
 rw [← add_assoc,← add_assoc];congr 1
 exact add_comm _ _
theorem XY (a b:F):a*-b=-(a*b):=by rw [mul_comm,Oo,mul_comm]
theorem mJ (i j:Int):(int (i*j):F)=int i*int j:=by
 obtain ⟨a,b,rfl⟩:=Ot i
 obtain ⟨c,d,rfl⟩:=Ot j
 rw [show ((a:Int)-b)*(c-d)=((a*c+b*d:Nat):Int)-(a*d+b*c:Nat) by
  rw [Int.natCast_add,Int.natCast_add,Int.natCast_mul,Int.natCast_mul,Int.natCast_mul,Int.natCast_mul,Int.sub_mul,Int.mul_sub,Int.mul_sub];omega]
 rw [Kv,Kv,Kv,JK,JK,Or,Or,Or,Or]
 rw [add_mul,mul_add,mul_add,Oo,XY,Oo,XY,Dt,Oq]
 rw [add_assoc,add_assoc];congr 1
 rw [add_comm (Ce b*Ce d),add_assoc]
theorem mK (i:Int):(int (-i):F)=-int i:=by
 refine F2 ?_
 rw [← XX,Int.add_right_neg];rfl
theorem mL:(int 0:F)=0:=rfl
theorem Ml:(int 1:F)=1:=by show Ce 0+1=_;exact zero_add 1
def pw (x:F):Nat→F
 | 0=>1
 | n+1=>pw x n*x
theorem mM (x:F) (a b:Nat):pw x (a+b)=pw x a*pw x b:=by
 induction b with
 | zero=>simp [pw,mul_one]
 | succ b ih=>rw [← Nat.add_assoc];simp only [pw];rw [ih,mul_assoc]
end
abbrev Mon:=List Nat
abbrev Pol:=List (Mon×Int)
def Kw:Mon→Mon→Mon
 | [],b=>b
 | a::ar,b=>match b with
  | []=>a::ar
  | c::bs=>(a+c)::Kw ar bs
def Ou:Mon→Mon→Nat
 | [],b=>match b with
  | []=>0
  | _::_=>2
 | a::ar,b=>match b with
  | []=>1
  | c::bs=>match Nat.beq a c with
   | true=>Ou ar bs
   | false=>match Nat.ble a c with
    | true=>2
    | false=>1
theorem XZ:∀ {a b:Mon},Ou a b=0→a=b
 | [],[],_=>rfl
 | [],_::_,h=>by cases h
 | _::_,[],h=>by cases h
 | a::ar,c::bs,h=>by
  simp only [Ou] at h
  cases hb:Nat.beq a c with
  | true=>rw [hb] at h;rw [Nat.eq_of_beq_eq_true hb,XZ h]
  | false =>
   rw [hb] at h
   cases hl:Nat.ble a c<;>rw [hl] at h<;>cases h
def Ov (m:Mon) (c:Int) (p:Pol):Pol:=match c with
 | .ofNat 0=>p
 | _=>(m,c)::p
def H8:Nat→Pol→Pol→Pol
 | 0,p,q=>p++q
 | n+1,p,q=>match p with
  | []=>q
  | (a,c)::p'=>match q with
   | []=>p
   | (b,d)::q'=>match Ou a b with
    | 0=>Ov a (c+d) (H8 n p' q')
    | 1=>(a,c)::H8 n p' q
    | _=>(b,d)::H8 n p q'
def len:Pol→Nat
 | []=>0
 | _::r=>len r+1
def H9 (p q:Pol):Pol:=H8 (len p+len q) p q
def Mm (m:Mon) (c:Int):Pol→Pol
 | []=>[]
 | (a,d)::r=>(Kw m a,c*d)::Mm m c r
def Kx:Pol→Pol→Pol
 | [],_=>[]
 | (a,c)::r,q=>H9 (Mm a c q) (Kx r q)
def Ky:Pol→Pol
 | []=>[]
 | (a,c)::r=>(a,-c)::Ky r
section
variable {F:Type} [CR F]
def D2:List F→Mon→F
 | [],_=>1
 | x::xs,m=>match m with
  | []=>1
  | e::es=>pw x e*D2 xs es
def A3 (xs:List F):Pol→F
 | []=>0
 | (m,c)::r=>int c*D2 xs m+A3 xs r
theorem Mn (xs:List F):D2 xs []=1:=by cases xs<;>rfl
theorem Xa:∀ (xs:List F) (a b:Mon),D2 xs (Kw a b)=D2 xs a*D2 xs b
 | [],a,b=>by simp [D2,one_mul]
 | x::xs,[],b=>by simp [Kw,Mn,one_mul]
 | x::xs,a::ar,[]=>by simp [Kw,Mn,mul_one]
 | x::xs,a::ar,c::bs=>by
  simp only [Kw,D2]
  rw [mM,Xa xs ar bs,mul_assoc,mul_assoc];congr 1;rw [mul_left_comm]
theorem Xb (xs:List F) (m:Mon) (c:Int) (p:Pol):A3 xs (Ov m c p)=int c*D2 xs m+A3 xs p:=by
 unfold Ov
 split
 ·show _=int 0*_+_
  rw [mL,zero_mul,zero_add]
 ·rfl
theorem Xc (xs:List F):∀ p q:Pol,A3 xs (p++q)=A3 xs p+A3 xs q
 | [],q=>by simp [A3,zero_add]
 | (m,c)::p,q=>by simp only [List.cons_append,A3];rw [Xc xs p q,add_assoc]
theorem Ow (xs:List F):∀ (n:Nat) (p q:Pol),A3 xs (H8 n p q)=A3 xs p+A3 xs q
 | 0,p,q=>Xc xs p q
 | n+1,[],q=>by simp [H8,A3,zero_add]
 | n+1,(a,c)::p',[]=>by simp [H8,A3,add_zero]
 | n+1,(a,c)::p',(b,d)::q'=>by
  simp only [H8]
  split
  ·rename_i h
   rw [Xb,Ow xs n p' q',XZ h]
   simp only [A3]
   rw [XX,add_mul,add_assoc,add_assoc];congr 1
   rw [XW]
  ·simp only [A3];rw [Ow xs n p' _];simp only [A3];rw [add_assoc]
  ·simp only [A3];rw [Ow xs n _ q'];simp only [A3];rw [XW]
theorem So (xs:List F) (p q:Pol):A3 xs (H9 p q)=A3 xs p+A3 xs q:=Ow xs _ p q
theorem Xd (xs:List F) (m:Mon) (c:Int):∀ p:Pol,A3 xs (Mm m c p)=int c*D2 xs m*A3 xs p
 | []=>by simp [Mm,A3,mul_zero]
 | (a,d)::r=>by
  simp only [Mm,A3]
  rw [Xd xs m c r,Xa,mJ,mul_add];congr 1
  rw [mul_assoc,mul_assoc];congr 1;rw [mul_left_comm]
theorem Sp (xs:List F):∀ p q:Pol,A3 xs (Kx p q)=A3 xs p*A3 xs q
 | [],q=>by simp [Kx,A3,zero_mul]
 | (a,c)::r,q=>by simp only [Kx,A3];rw [So,Xd,Sp xs r q,add_mul]
theorem Sq (xs:List F):∀ p:Pol,A3 xs (Ky p)=- A3 xs p
 | []=>by simp [Ky,A3,Ku]
 | (a,c)::r=>by simp only [Ky,A3];rw [Sq xs r,mK,Oo,Oq]
end
inductive E where
 | v (i:Nat)
 | c (k:Int)
 | add (a b:E)
 | sub (a b:E)
 | mul (a b:E)
 | neg (a:E)
 | pw (a:E) (n:Nat)
def Mo:Nat→Mon
 | 0=>[1]
 | i+1=>0::Mo i
def Mp (p:Pol):Nat→Pol
 | 0=>[([],1)]
 | n+1=>Kx (Mp p n) p
def E.pol:E→Pol
 | .v i=>[(Mo i,1)]
 | .c k=>Ov [] k []
 | .add a b=>H9 a.pol b.pol
 | .sub a b=>H9 a.pol (Ky b.pol)
 | .mul a b=>Kx a.pol b.pol
 | .neg a=>Ky a.pol
 | .pw a n=>Mp a.pol n
def nth {F:Type} [One F]:List F→Nat→F
 | [],_=>1
 | x::_,0=>x
 | _::xs,i+1=>nth xs i
section
variable {F:Type} [CR F]
def E.den (xs:List F):E→F
 | .v i=>nth xs i
 | .c k=>int k
 | .add a b=>a.den xs+b.den xs
 | .sub a b=>a.den xs-b.den xs
 | .mul a b=>a.den xs*b.den xs
 | .neg a=>- a.den xs
 | .pw a n=>Rg.pw (a.den xs) n
theorem Xe:∀ (xs:List F) (i:Nat),D2 xs (Mo i)=nth xs i
 | [],i=>by simp [D2,nth]
 | x::xs,0=>by simp [Mo,D2,Mn,nth,Rg.pw,one_mul,mul_one]
 | x::xs,i+1=>by simp only [Mo,D2,nth,Rg.pw];rw [one_mul,Xe xs i]
theorem mN (xs:List F) (p:Pol) (n:Nat):A3 xs (Mp p n)=Rg.pw (A3 xs p) n:=by
 induction n with
 | zero=>simp [Mp,A3,Rg.pw,Mn,Ml,mul_one,add_zero]
 | succ n ih=>simp only [Mp,Rg.pw];rw [Sp,ih]
theorem E.pol_den (xs:List F):∀ e:E,A3 xs e.pol=e.den xs
 | .v i=>by simp only [E.pol,A3,E.den];rw [Xe,Ml,one_mul,add_zero]
 | .c k=>by simp only [E.pol,E.den];rw [Xb];simp [A3,Mn,mul_one,add_zero]
 | .add a b=>by simp only [E.pol,E.den];rw [So,a.pol_den xs,b.pol_den xs]
 | .sub a b=>by simp only [E.pol,E.den];rw [So,Sq,a.pol_den xs,b.pol_den xs,sub_eq]
 | .mul a b=>by simp only [E.pol,E.den];rw [Sp,a.pol_den xs,b.pol_den xs]
 | .neg a=>by simp only [E.pol,E.den];rw [Sq,a.pol_den xs]
 | .pw a n=>by simp only [E.pol,E.den];rw [mN,a.pol_den xs]
def JL:List (E×E)→E
 | []=>.c 0
 | (k,r)::l=>.add (.mul k r) (JL l)
def Sr:Pol→Bool
 | []=>true
 | _::_=>false
def Ss (xs:List F):List (E×E)→Prop
 | []=>True
 | (_,r)::l=>r.den xs=0∧Ss xs l
theorem Xf (xs:List F):∀ l:List (E×E),Ss xs l→(JL l).den xs=0
 | [],_=>rfl
 | (k,r)::l,⟨h1,h2⟩=>by simp only [JL,E.den];rw [h1,mul_zero,Xf xs l h2,add_zero]
theorem Aq (xs:List F) (g:E) (l:List (E×E)) (hz:Ss xs l) (h:Sr (E.pol (.sub g (JL l)))=true):g.den xs=0:=by
 have e:(E.pol (.sub g (JL l)))=[]:=by
  cases hp:E.pol (.sub g (JL l)) with
  | nil=>rfl
  | cons a b=>rw [hp] at h;cases h
 have:=E.pol_den xs (.sub g (JL l))
 rw [e] at this
 simp only [A3,E.den] at this
 rw [Xf xs l hz] at this
 exact AJ.1 this.symm
theorem mO (xs:List F) (a b:E) (h:Sr (E.pol (.sub a b))=true):a.den xs=b.den xs:=by
 have e:(E.pol (.sub a b))=[]:=by
  cases hp:E.pol (.sub a b) with
  | nil=>rfl
  | cons a b=>rw [hp] at h;cases h
 have:=E.pol_den xs (.sub a b)
 rw [e] at this
 exact AJ.1 this.symm
end
end Go.Proofs.YtojnabmgolpodaaGreat.Rg
namespace Go.Proofs.YtojnabmgolpodaaGreat.Rg
set_option maxRecDepth 100000
set_option maxHeartbeats 4000000
theorem mQ {F:Type} [CR F] (x1 y1 x2 y2 l b:F) (hl:(l*(x2-x1))=(y2-y1)) (c1:(y1*y1)=(((x1*x1)*x1)+b)) (c2:(y2*y2)=(((x2*x2)*x2)+b)):((x2-x1)*((((x1*x2)+(x1*(((l*l)-x1)-x2)))+(x2*(((l*l)-x1)-x2)))+((l*(y1-(l*x1)))+(l*(y1-(l*x1))))))=0 :=
 AJ.1 (Aq [x1,y1,x2,y2,l,b] (.sub (.mul (.sub (.v 2) (.v 0)) (.add (.add (.add (.mul (.v 0) (.v 2)) (.mul (.v 0) (.sub (.sub (.mul (.v 4) (.v 4)) (.v 0)) (.v 2)))) (.mul (.v 2) (.sub (.sub (.mul (.v 4) (.v 4)) (.v 0)) (.v 2)))) (.add (.mul (.v 4) (.sub (.v 1) (.mul (.v 4) (.v 0)))) (.mul (.v 4) (.sub (.v 1) (.mul (.v 4) (.v 0))))))) (.c 0)) [((.add (.add (.neg (.mul (.v 0) (.v 4))) (.v 1)) (.add (.mul (.v 2) (.v 4)) (.v 3))),.sub (.mul (.v 4) (.sub (.v 2) (.v 0))) (.sub (.v 3) (.v 1))),
  ((.c (-1)),.sub (.mul (.v 1) (.v 1)) (.add (.mul (.mul (.v 0) (.v 0)) (.v 0)) (.v 5))),
  ((.c 1),.sub (.mul (.v 3) (.v 3)) (.add (.mul (.mul (.v 2) (.v 2)) (.v 2)) (.v 5)))] ⟨AJ.2 hl,AJ.2 c1,AJ.2 c2,trivial⟩ (by kernel_rfl))
theorem mR {F:Type} [CR F] (x y l:F) (hl:((y+y)*l)=(((x*x)+(x*x))+(x*x))):((((x*x)+(x*(((l*l)-x)-x)))+(x*(((l*l)-x)-x)))+((l*(y-(l*x)))+(l*(y-(l*x)))))=0 :=
 AJ.1 (Aq [x,y,l] (.sub (.add (.add (.add (.mul (.v 0) (.v 0)) (.mul (.v 0) (.sub (.sub (.mul (.v 2) (.v 2)) (.v 0)) (.v 0)))) (.mul (.v 0) (.sub (.sub (.mul (.v 2) (.v 2)) (.v 0)) (.v 0)))) (.add (.mul (.v 2) (.sub (.v 1) (.mul (.v 2) (.v 0)))) (.mul (.v 2) (.sub (.v 1) (.mul (.v 2) (.v 0)))))) (.c 0)) [((.c 1),.sub (.mul (.add (.v 1) (.v 1)) (.v 2)) (.add (.add (.mul (.v 0) (.v 0)) (.mul (.v 0) (.v 0))) (.mul (.v 0) (.v 0))))] ⟨AJ.2 hl,trivial⟩ (by kernel_rfl))
theorem mS {F:Type} [CR F] (x1 y1 x2 l b:F) (e2:((((x1*x2)+(x1*(((l*l)-x1)-x2)))+(x2*(((l*l)-x1)-x2)))+((l*(y1-(l*x1)))+(l*(y1-(l*x1)))))=0) (c1:(y1*y1)=(((x1*x1)*x1)+b)):(((x1*x2)*(((l*l)-x1)-x2))+b)=((y1-(l*x1))*(y1-(l*x1))) :=
 AJ.1 (Aq [x1,y1,x2,l,b] (.sub (.add (.mul (.mul (.v 0) (.v 2)) (.sub (.sub (.mul (.v 3) (.v 3)) (.v 0)) (.v 2))) (.v 4)) (.mul (.sub (.v 1) (.mul (.v 3) (.v 0))) (.sub (.v 1) (.mul (.v 3) (.v 0))))) [((.v 0),.sub (.add (.add (.add (.mul (.v 0) (.v 2)) (.mul (.v 0) (.sub (.sub (.mul (.v 3) (.v 3)) (.v 0)) (.v 2)))) (.mul (.v 2) (.sub (.sub (.mul (.v 3) (.v 3)) (.v 0)) (.v 2)))) (.add (.mul (.v 3) (.sub (.v 1) (.mul (.v 3) (.v 0)))) (.mul (.v 3) (.sub (.v 1) (.mul (.v 3) (.v 0)))))) (.c 0)),
  ((.c (-1)),.sub (.mul (.v 1) (.v 1)) (.add (.mul (.mul (.v 0) (.v 0)) (.v 0)) (.v 4)))] ⟨AJ.2 e2,AJ.2 c1,trivial⟩ (by kernel_rfl))
theorem mT {F:Type} [CR F] (x1 y1 x2 x3 l n b:F) (h1:y1=((l*x1)+n)) (e1:((x1+x2)+x3)=(l*l)) (e2:((((x1*x2)+(x1*x3))+(x2*x3))+((l*n)+(l*n)))=0) (e3:(((x1*x2)*x3)+b)=(n*n)):(y1*y1)=(((x1*x1)*x1)+b) :=
 AJ.1 (Aq [x1,y1,x2,x3,l,n,b] (.sub (.mul (.v 1) (.v 1)) (.add (.mul (.mul (.v 0) (.v 0)) (.v 0)) (.v 6))) [((.add (.mul (.v 0) (.v 4)) (.add (.v 1) (.v 5))),.sub (.v 1) (.add (.mul (.v 4) (.v 0)) (.v 5))),
  ((.neg (.pw (.v 0) 2)),.sub (.add (.add (.v 0) (.v 2)) (.v 3)) (.mul (.v 4) (.v 4))),
  ((.v 0),.sub (.add (.add (.add (.mul (.v 0) (.v 2)) (.mul (.v 0) (.v 3))) (.mul (.v 2) (.v 3))) (.add (.mul (.v 4) (.v 5)) (.mul (.v 4) (.v 5)))) (.c 0)),
  ((.c (-1)),.sub (.add (.mul (.mul (.v 0) (.v 2)) (.v 3)) (.v 6)) (.mul (.v 5) (.v 5)))] ⟨AJ.2 h1,AJ.2 e1,AJ.2 e2,AJ.2 e3,trivial⟩ (by kernel_rfl))
theorem Xg {F:Type} [CR F] (x1 y1 x3 l n:F) (h1:y1=((l*x1)+n)) (e1:((x1+x1)+x3)=(l*l)) (e2:((((x1*x1)+(x1*x3))+(x1*x3))+((l*n)+(l*n)))=0):((y1+y1)*l)=(((x1*x1)+(x1*x1))+(x1*x1)) :=
 AJ.1 (Aq [x1,y1,x3,l,n] (.sub (.mul (.add (.v 1) (.v 1)) (.v 3)) (.add (.add (.mul (.v 0) (.v 0)) (.mul (.v 0) (.v 0))) (.mul (.v 0) (.v 0)))) [((.mul (.c 2) (.v 3)),.sub (.v 1) (.add (.mul (.v 3) (.v 0)) (.v 4))),
  ((.mul (.c (-2)) (.v 0)),.sub (.add (.add (.v 0) (.v 0)) (.v 2)) (.mul (.v 3) (.v 3))),
  ((.c 1),.sub (.add (.add (.add (.mul (.v 0) (.v 0)) (.mul (.v 0) (.v 2))) (.mul (.v 0) (.v 2))) (.add (.mul (.v 3) (.v 4)) (.mul (.v 3) (.v 4)))) (.c 0))] ⟨AJ.2 h1,AJ.2 e1,AJ.2 e2,trivial⟩ (by kernel_rfl))
theorem mU {F:Type} [CR F] (x1 y1 x3 y3 l n:F) (h1:y1=((l*x1)+n)) (h3:y3=((l*x3)+n)):((l*(x1-x3))-y1)=(-y3) :=
 AJ.1 (Aq [x1,y1,x3,y3,l,n] (.sub (.sub (.mul (.v 4) (.sub (.v 0) (.v 2))) (.v 1)) (.neg (.v 3))) [((.c (-1)),.sub (.v 1) (.add (.mul (.v 4) (.v 0)) (.v 5))),
  ((.c 1),.sub (.v 3) (.add (.mul (.v 4) (.v 2)) (.v 5)))] ⟨AJ.2 h1,AJ.2 h3,trivial⟩ (by kernel_rfl))
theorem mV {F:Type} [CR F] (x1 x2 x3 l:F) (e1:((x1+x2)+x3)=(l*l)):(((l*l)-x1)-x2)=x3 :=
 AJ.1 (Aq [x1,x2,x3,l] (.sub (.sub (.sub (.mul (.v 3) (.v 3)) (.v 0)) (.v 1)) (.v 2)) [((.c (-1)),.sub (.add (.add (.v 0) (.v 1)) (.v 2)) (.mul (.v 3) (.v 3)))] ⟨AJ.2 e1,trivial⟩ (by kernel_rfl))
theorem Kz {F:Type} [CR F] (x1 y1 x2 y2 l n:F) (h1:y1=((l*x1)+n)) (h2:y2=((l*x2)+n)):((x2-x1)*l)=(y2-y1) :=
 AJ.1 (Aq [x1,y1,x2,y2,l,n] (.sub (.mul (.sub (.v 2) (.v 0)) (.v 4)) (.sub (.v 3) (.v 1))) [((.c 1),.sub (.v 1) (.add (.mul (.v 4) (.v 0)) (.v 5))),
  ((.c (-1)),.sub (.v 3) (.add (.mul (.v 4) (.v 2)) (.v 5)))] ⟨AJ.2 h1,AJ.2 h2,trivial⟩ (by kernel_rfl))
theorem mX {F:Type} [CR F] (x1 x2 x3 k:F) (e:((x1+x2)+x3)=k):((x2+x1)+x3)=k :=
 AJ.1 (Aq [x1,x2,x3,k] (.sub (.add (.add (.v 1) (.v 0)) (.v 2)) (.v 3)) [((.c 1),.sub (.add (.add (.v 0) (.v 1)) (.v 2)) (.v 3))] ⟨AJ.2 e,trivial⟩ (by kernel_rfl))
theorem mY {F:Type} [CR F] (x1 x2 x3 k:F) (e:((x1+x2)+x3)=k):((x2+x3)+x1)=k :=
 AJ.1 (Aq [x1,x2,x3,k] (.sub (.add (.add (.v 1) (.v 2)) (.v 0)) (.v 3)) [((.c 1),.sub (.add (.add (.v 0) (.v 1)) (.v 2)) (.v 3))] ⟨AJ.2 e,trivial⟩ (by kernel_rfl))
theorem mZ {F:Type} [CR F] (x1 x2 x3 k:F) (e:((((x1*x2)+(x1*x3))+(x2*x3))+k)=0):((((x2*x1)+(x2*x3))+(x1*x3))+k)=0 :=
 AJ.1 (Aq [x1,x2,x3,k] (.sub (.add (.add (.add (.mul (.v 1) (.v 0)) (.mul (.v 1) (.v 2))) (.mul (.v 0) (.v 2))) (.v 3)) (.c 0)) [((.c 1),.sub (.add (.add (.add (.mul (.v 0) (.v 1)) (.mul (.v 0) (.v 2))) (.mul (.v 1) (.v 2))) (.v 3)) (.c 0))] ⟨AJ.2 e,trivial⟩ (by kernel_rfl))
theorem m0 {F:Type} [CR F] (x1 x2 x3 k:F) (e:((((x1*x2)+(x1*x3))+(x2*x3))+k)=0):((((x2*x3)+(x2*x1))+(x3*x1))+k)=0 :=
 AJ.1 (Aq [x1,x2,x3,k] (.sub (.add (.add (.add (.mul (.v 1) (.v 2)) (.mul (.v 1) (.v 0))) (.mul (.v 2) (.v 0))) (.v 3)) (.c 0)) [((.c 1),.sub (.add (.add (.add (.mul (.v 0) (.v 1)) (.mul (.v 0) (.v 2))) (.mul (.v 1) (.v 2))) (.v 3)) (.c 0))] ⟨AJ.2 e,trivial⟩ (by kernel_rfl))
theorem m6 {F:Type} [CR F] (x1 x2 x3 b k:F) (e:(((x1*x2)*x3)+b)=k):(((x2*x1)*x3)+b)=k :=
 AJ.1 (Aq [x1,x2,x3,b,k] (.sub (.add (.mul (.mul (.v 1) (.v 0)) (.v 2)) (.v 3)) (.v 4)) [((.c 1),.sub (.add (.mul (.mul (.v 0) (.v 1)) (.v 2)) (.v 3)) (.v 4))] ⟨AJ.2 e,trivial⟩ (by kernel_rfl))
theorem m7 {F:Type} [CR F] (x1 x2 x3 b k:F) (e:(((x1*x2)*x3)+b)=k):(((x2*x3)*x1)+b)=k :=
 AJ.1 (Aq [x1,x2,x3,b,k] (.sub (.add (.mul (.mul (.v 1) (.v 2)) (.v 0)) (.v 3)) (.v 4)) [((.c 1),.sub (.add (.mul (.mul (.v 0) (.v 1)) (.v 2)) (.v 3)) (.v 4))] ⟨AJ.2 e,trivial⟩ (by kernel_rfl))
theorem Su {F:Type} [CR F] (x y l n:F) (h:y=((l*x)+n)):(-y)=(((-l)*x)+(-n)) :=
 AJ.1 (Aq [x,y,l,n] (.sub (.neg (.v 1)) (.add (.mul (.neg (.v 2)) (.v 0)) (.neg (.v 3)))) [((.c (-1)),.sub (.v 1) (.add (.mul (.v 2) (.v 0)) (.v 3)))] ⟨AJ.2 h,trivial⟩ (by kernel_rfl))
theorem neg_sq {F:Type} [CR F] (l:F) :((-l)*(-l))=(l*l) :=
 AJ.1 (Aq [l] (.sub (.mul (.neg (.v 0)) (.neg (.v 0))) (.mul (.v 0) (.v 0))) [] trivial (by kernel_rfl))
theorem m8 {F:Type} [CR F] (l n:F) :(((-l)*(-n))+((-l)*(-n)))=((l*n)+(l*n)) :=
 AJ.1 (Aq [l,n] (.sub (.add (.mul (.neg (.v 0)) (.neg (.v 1))) (.mul (.neg (.v 0)) (.neg (.v 1)))) (.add (.mul (.v 0) (.v 1)) (.mul (.v 0) (.v 1)))) [] trivial (by kernel_rfl))
theorem m9 {F:Type} [CR F] (y1 y2 k:F) (h1:(y1*y1)=k) (h2:(y2*y2)=k):((y1-y2)*(y1+y2))=0 :=
 AJ.1 (Aq [y1,y2,k] (.sub (.mul (.sub (.v 0) (.v 1)) (.add (.v 0) (.v 1))) (.c 0)) [((.c 1),.sub (.mul (.v 0) (.v 0)) (.v 2)),
  ((.c (-1)),.sub (.mul (.v 1) (.v 1)) (.v 2))] ⟨AJ.2 h1,AJ.2 h2,trivial⟩ (by kernel_rfl))
theorem Ox {F:Type} [CR F] (x y1 y2 l n:F) (h1:y1=((l*x)+n)) (h2:y2=((l*x)+n)):y1=y2 :=
 AJ.1 (Aq [x,y1,y2,l,n] (.sub (.v 1) (.v 2)) [((.c 1),.sub (.v 1) (.add (.mul (.v 3) (.v 0)) (.v 4))),
  ((.c (-1)),.sub (.v 2) (.add (.mul (.v 3) (.v 0)) (.v 4)))] ⟨AJ.2 h1,AJ.2 h2,trivial⟩ (by kernel_rfl))
theorem nA {F:Type} [CR F] (x1 x2 y2 x4 l n:F) (h2:y2=((l*x2)+n)) (e1:((x1+x2)+x4)=(l*l)) (e2:((((x1*x2)+(x1*x4))+(x2*x4))+((l*n)+(l*n)))=0):(((l*y2)+(l*y2))+((l*l)*(x1-x2)))=(((x1*x1)+(x1*x2))+(x2*x2)) :=
 AJ.1 (Aq [x1,x2,y2,x4,l,n] (.sub (.add (.add (.mul (.v 4) (.v 2)) (.mul (.v 4) (.v 2))) (.mul (.mul (.v 4) (.v 4)) (.sub (.v 0) (.v 1)))) (.add (.add (.mul (.v 0) (.v 0)) (.mul (.v 0) (.v 1))) (.mul (.v 1) (.v 1)))) [((.mul (.c 2) (.v 4)),.sub (.v 2) (.add (.mul (.v 4) (.v 1)) (.v 5))),
  ((.add (.neg (.v 0)) (.neg (.v 1))),.sub (.add (.add (.v 0) (.v 1)) (.v 3)) (.mul (.v 4) (.v 4))),
  ((.c 1),.sub (.add (.add (.add (.mul (.v 0) (.v 1)) (.mul (.v 0) (.v 3))) (.mul (.v 1) (.v 3))) (.add (.mul (.v 4) (.v 5)) (.mul (.v 4) (.v 5)))) (.c 0))] ⟨AJ.2 h2,AJ.2 e1,AJ.2 e2,trivial⟩ (by kernel_rfl))
theorem Xh {F:Type} [CR F] (x2 y2 x3 x5 m q:F) (h2:y2=((m*x2)+q)) (e1:((x2+x3)+x5)=(m*m)) (e2:((((x2*x3)+(x2*x5))+(x3*x5))+((m*q)+(m*q)))=0):(((m*y2)+(m*y2))+((m*m)*(x3-x2)))=(((x3*x3)+(x3*x2))+(x2*x2)) :=
 AJ.1 (Aq [x2,y2,x3,x5,m,q] (.sub (.add (.add (.mul (.v 4) (.v 1)) (.mul (.v 4) (.v 1))) (.mul (.mul (.v 4) (.v 4)) (.sub (.v 2) (.v 0)))) (.add (.add (.mul (.v 2) (.v 2)) (.mul (.v 2) (.v 0))) (.mul (.v 0) (.v 0)))) [((.mul (.c 2) (.v 4)),.sub (.v 1) (.add (.mul (.v 4) (.v 0)) (.v 5))),
  ((.add (.neg (.v 0)) (.neg (.v 2))),.sub (.add (.add (.v 0) (.v 2)) (.v 3)) (.mul (.v 4) (.v 4))),
  ((.c 1),.sub (.add (.add (.add (.mul (.v 0) (.v 2)) (.mul (.v 0) (.v 3))) (.mul (.v 2) (.v 3))) (.add (.mul (.v 4) (.v 5)) (.mul (.v 4) (.v 5)))) (.c 0))] ⟨AJ.2 h2,AJ.2 e1,AJ.2 e2,trivial⟩ (by kernel_rfl))
theorem nC {F:Type} [CR F] (x1 x2 x3 y2 l m s t:F) (r1:(((l*y2)+(l*y2))+((l*l)*(x1-x2)))=(((x1*x1)+(x1*x2))+(x2*x2))) (r2:(((m*y2)+(m*y2))+((m*m)*(x3-x2)))=(((x3*x3)+(x3*x2))+(x2*x2))) (hs:(s*((((l*l)-x1)-x2)-x3))=(((l*(x2-(((l*l)-x1)-x2)))-y2)-(y2+(m*(x3-x2))))) (ht:(t*((((m*m)-x2)-x3)-x1))=(((m*(x2-(((m*m)-x2)-x3)))-y2)-(y2+(l*(x1-x2))))):(((((((l*l)-x1)-x2)-x3)*((((l*l)-x1)-x2)-x3))*(((((m*m)-x2)-x3)-x1)*((((m*m)-x2)-x3)-x1)))*(((s*s)-(((l*l)-x1)-x2))-x3))=(((((((l*l)-x1)-x2)-x3)*((((l*l)-x1)-x2)-x3))*(((((m*m)-x2)-x3)-x1)*((((m*m)-x2)-x3)-x1)))*(((t*t)-x1)-(((m*m)-x2)-x3))) :=
 AJ.1 (Aq [x1,x2,x3,y2,l,m,s,t] (.sub (.mul (.mul (.mul (.sub (.sub (.sub (.mul (.v 4) (.v 4)) (.v 0)) (.v 1)) (.v 2)) (.sub (.sub (.sub (.mul (.v 4) (.v 4)) (.v 0)) (.v 1)) (.v 2))) (.mul (.sub (.sub (.sub (.mul (.v 5) (.v 5)) (.v 1)) (.v 2)) (.v 0)) (.sub (.sub (.sub (.mul (.v 5) (.v 5)) (.v 1)) (.v 2)) (.v 0)))) (.sub (.sub (.mul (.v 6) (.v 6)) (.sub (.sub (.mul (.v 4) (.v 4)) (.v 0)) (.v 1))) (.v 2))) (.mul (.mul (.mul (.sub (.sub (.sub (.mul (.v 4) (.v 4)) (.v 0)) (.v 1)) (.v 2)) (.sub (.sub (.sub (.mul (.v 4) (.v 4)) (.v 0)) (.v 1)) (.v 2))) (.mul (.sub (.sub (.sub (.mul (.v 5) (.v 5)) (.v 1)) (.v 2)) (.v 0)) (.sub (.sub (.sub (.mul (.v 5) (.v 5)) (.v 1)) (.v 2)) (.v 0)))) (.sub (.sub (.mul (.v 7) (.v 7)) (.v 0)) (.sub (.sub (.mul (.v 5) (.v 5)) (.v 1)) (.v 2))))) [((.add (.add (.add (.add (.add (.mul (.c (-2)) (.pw (.v 0) 3)) (.mul (.mul (.c (-6)) (.pw (.v 0) 2)) (.v 1))) (.add (.mul (.mul (.c (-6)) (.pw (.v 0) 2)) (.v 2)) (.add (.mul (.mul (.c 3) (.pw (.v 0) 2)) (.pw (.v 4) 2)) (.mul (.mul (.c 3) (.pw (.v 0) 2)) (.pw (.v 5) 2))))) (.add (.add (.mul (.mul (.c (-4)) (.v 0)) (.pw (.v 1) 2)) (.add (.mul (.mul (.mul (.c (-10)) (.v 0)) (.v 1)) (.v 2)) (.mul (.mul (.mul (.c 3) (.v 0)) (.v 1)) (.pw (.v 4) 2)))) (.add (.mul (.mul (.mul (.mul (.c (-6)) (.v 0)) (.v 1)) (.v 4)) (.v 5)) (.add (.mul (.mul (.mul (.c 5) (.v 0)) (.v 1)) (.pw (.v 5) 2)) (.mul (.mul (.c (-4)) (.v 0)) (.pw (.v 2) 2)))))) (.add (.add (.add (.mul (.mul (.mul (.c 6) (.v 0)) (.v 2)) (.pw (.v 4) 2)) (.mul (.mul (.mul (.c 4) (.v 0)) (.v 2)) (.pw (.v 5) 2))) (.add (.mul (.mul (.mul (.c 4) (.v 0)) (.v 3)) (.v 4)) (.add (.neg (.mul (.v 0) (.pw (.v 4) 4))) (.mul (.mul (.mul (.c (-3)) (.v 0)) (.pw (.v 4) 2)) (.pw (.v 5) 2))))) (.add (.add (.mul (.mul (.mul (.c 2) (.v 0)) (.v 4)) (.pw (.v 5) 3)) (.add (.mul (.c 2) (.pw (.v 1) 3)) (.mul (.mul (.c 4) (.pw (.v 1) 2)) (.v 2)))) (.add (.neg (.mul (.pw (.v 1) 2) (.pw (.v 4) 2))) (.add (.mul (.mul (.mul (.c (-6)) (.pw (.v 1) 2)) (.v 4)) (.v 5)) (.mul (.pw (.v 1) 2) (.pw (.v 5) 2))))))) (.add (.add (.add (.add (.mul (.mul (.c 4) (.v 1)) (.pw (.v 2) 2)) (.mul (.mul (.mul (.c 2) (.v 1)) (.v 2)) (.pw (.v 4) 2))) (.add (.mul (.mul (.mul (.mul (.c (-6)) (.v 1)) (.v 2)) (.v 4)) (.v 5)) (.add (.mul (.mul (.mul (.c 2) (.v 1)) (.v 2)) (.pw (.v 5) 2)) (.mul (.mul (.mul (.c 4) (.v 1)) (.v 3)) (.v 4))))) (.add (.add (.mul (.mul (.mul (.c (-4)) (.v 1)) (.v 3)) (.v 5)) (.add (.mul (.v 1) (.pw (.v 4) 4)) (.mul (.mul (.mul (.c 4) (.v 1)) (.pw (.v 4) 3)) (.v 5)))) (.add (.neg (.mul (.mul (.v 1) (.pw (.v 4) 2)) (.pw (.v 5) 2))) (.add (.mul (.mul (.mul (.c 4) (.v 1)) (.v 4)) (.pw (.v 5) 3)) (.mul (.mul (.c (-2)) (.v 1)) (.pw (.v 5) 4)))))) (.add (.add (.add (.mul (.c 4) (.pw (.v 2) 3)) (.add (.mul (.mul (.c 2) (.pw (.v 2) 2)) (.pw (.v 4) 2)) (.mul (.mul (.c (-6)) (.pw (.v 2) 2)) (.pw (.v 5) 2)))) (.add (.mul (.mul (.mul (.c 4) (.v 2)) (.v 3)) (.v 4)) (.add (.mul (.mul (.mul (.c (-8)) (.v 2)) (.v 3)) (.v 5)) (.mul (.mul (.mul (.c 2) (.v 2)) (.pw (.v 4) 3)) (.v 5))))) (.add (.add (.mul (.mul (.mul (.c (-2)) (.v 2)) (.pw (.v 4) 2)) (.pw (.v 5) 2)) (.add (.mul (.mul (.c 2) (.v 2)) (.pw (.v 5) 4)) (.mul (.mul (.c (-2)) (.v 3)) (.pw (.v 4) 3)))) (.add (.mul (.mul (.mul (.c (-2)) (.v 3)) (.v 4)) (.pw (.v 5) 2)) (.add (.mul (.mul (.c 4) (.v 3)) (.pw (.v 5) 3)) (.mul (.mul (.c (-2)) (.pw (.v 4) 3)) (.pw (.v 5) 3)))))))),.sub (.add (.add (.mul (.v 4) (.v 3)) (.mul (.v 4) (.v 3))) (.mul (.mul (.v 4) (.v 4)) (.sub (.v 0) (.v 1)))) (.add (.add (.mul (.v 0) (.v 0)) (.mul (.v 0) (.v 1))) (.mul (.v 1) (.v 1)))),
  ((.add (.add (.add (.add (.add (.mul (.mul (.mul (.c 6) (.v 0)) (.v 1)) (.v 2)) (.mul (.mul (.mul (.mul (.c 6) (.v 0)) (.v 1)) (.v 4)) (.v 5))) (.add (.mul (.mul (.c 6) (.v 0)) (.pw (.v 2) 2)) (.mul (.mul (.mul (.c (-6)) (.v 0)) (.v 2)) (.pw (.v 5) 2)))) (.add (.add (.mul (.mul (.mul (.c (-4)) (.v 0)) (.v 3)) (.v 5)) (.mul (.mul (.mul (.c (-2)) (.v 0)) (.v 4)) (.pw (.v 5) 3))) (.add (.mul (.c (-2)) (.pw (.v 1) 3)) (.mul (.mul (.c (-3)) (.pw (.v 1) 2)) (.pw (.v 4) 2))))) (.add (.add (.add (.mul (.mul (.mul (.c 6) (.pw (.v 1) 2)) (.v 4)) (.v 5)) (.mul (.mul (.c 3) (.pw (.v 1) 2)) (.pw (.v 5) 2))) (.add (.mul (.mul (.c 6) (.v 1)) (.pw (.v 2) 2)) (.mul (.mul (.mul (.c (-9)) (.v 1)) (.v 2)) (.pw (.v 4) 2)))) (.add (.add (.mul (.mul (.mul (.mul (.c 6) (.v 1)) (.v 2)) (.v 4)) (.v 5)) (.mul (.mul (.mul (.c (-3)) (.v 1)) (.v 2)) (.pw (.v 5) 2))) (.add (.mul (.mul (.mul (.c 4) (.v 1)) (.v 3)) (.v 4)) (.mul (.mul (.mul (.c (-4)) (.v 1)) (.v 3)) (.v 5)))))) (.add (.add (.add (.add (.mul (.mul (.mul (.c (-4)) (.v 1)) (.pw (.v 4) 3)) (.v 5)) (.mul (.mul (.mul (.c 3) (.v 1)) (.pw (.v 4) 2)) (.pw (.v 5) 2))) (.add (.mul (.mul (.mul (.c (-4)) (.v 1)) (.v 4)) (.pw (.v 5) 3)) (.neg (.mul (.v 1) (.pw (.v 5) 4))))) (.add (.add (.mul (.c 2) (.pw (.v 2) 3)) (.mul (.mul (.c (-3)) (.pw (.v 2) 2)) (.pw (.v 4) 2))) (.add (.mul (.mul (.c (-3)) (.pw (.v 2) 2)) (.pw (.v 5) 2)) (.mul (.mul (.mul (.c 8) (.v 2)) (.v 3)) (.v 4))))) (.add (.add (.add (.mul (.mul (.mul (.c (-4)) (.v 2)) (.v 3)) (.v 5)) (.mul (.mul (.mul (.c (-2)) (.v 2)) (.pw (.v 4) 3)) (.v 5))) (.add (.mul (.mul (.mul (.c 3) (.v 2)) (.pw (.v 4) 2)) (.pw (.v 5) 2)) (.mul (.v 2) (.pw (.v 5) 4)))) (.add (.add (.mul (.mul (.mul (.c 2) (.v 3)) (.pw (.v 4) 2)) (.v 5)) (.mul (.mul (.mul (.c (-4)) (.v 3)) (.v 4)) (.pw (.v 5) 2))) (.add (.mul (.mul (.c 2) (.v 3)) (.pw (.v 5) 3)) (.mul (.mul (.c 2) (.pw (.v 4) 3)) (.pw (.v 5) 3))))))),.sub (.add (.add (.mul (.v 5) (.v 3)) (.mul (.v 5) (.v 3))) (.mul (.mul (.v 5) (.v 5)) (.sub (.v 2) (.v 1)))) (.add (.add (.mul (.v 2) (.v 2)) (.mul (.v 2) (.v 1))) (.mul (.v 1) (.v 1)))),
  ((.add (.add (.add (.add (.add (.add (.mul (.pw (.v 0) 3) (.v 4)) (.neg (.mul (.pw (.v 0) 3) (.v 6)))) (.add (.mul (.mul (.mul (.c 4) (.pw (.v 0) 2)) (.v 1)) (.v 4)) (.mul (.mul (.pw (.v 0) 2) (.v 1)) (.v 5)))) (.add (.add (.mul (.mul (.mul (.c (-3)) (.pw (.v 0) 2)) (.v 1)) (.v 6)) (.mul (.mul (.mul (.c 2) (.pw (.v 0) 2)) (.v 2)) (.v 4))) (.add (.neg (.mul (.mul (.pw (.v 0) 2) (.v 2)) (.v 5))) (.add (.mul (.mul (.mul (.c (-3)) (.pw (.v 0) 2)) (.v 2)) (.v 6)) (.mul (.mul (.c (-2)) (.pw (.v 0) 2)) (.v 3)))))) (.add (.add (.add (.neg (.mul (.pw (.v 0) 2) (.pw (.v 4) 3))) (.mul (.mul (.pw (.v 0) 2) (.pw (.v 4) 2)) (.v 6))) (.add (.mul (.mul (.mul (.c (-2)) (.pw (.v 0) 2)) (.v 4)) (.pw (.v 5) 2)) (.add (.mul (.mul (.mul (.c 2) (.pw (.v 0) 2)) (.pw (.v 5) 2)) (.v 6)) (.mul (.mul (.mul (.c 5) (.v 0)) (.pw (.v 1) 2)) (.v 4))))) (.add (.add (.mul (.mul (.mul (.c 2) (.v 0)) (.pw (.v 1) 2)) (.v 5)) (.mul (.mul (.mul (.c (-3)) (.v 0)) (.pw (.v 1) 2)) (.v 6))) (.add (.mul (.mul (.mul (.mul (.c 6) (.v 0)) (.v 1)) (.v 2)) (.v 4)) (.add (.mul (.mul (.mul (.mul (.c (-6)) (.v 0)) (.v 1)) (.v 2)) (.v 6)) (.mul (.mul (.mul (.c (-4)) (.v 0)) (.v 1)) (.v 3))))))) (.add (.add (.add (.add (.mul (.mul (.mul (.c (-2)) (.v 0)) (.v 1)) (.pw (.v 4) 3)) (.mul (.mul (.mul (.mul (.c 2) (.v 0)) (.v 1)) (.pw (.v 4) 2)) (.v 6))) (.add (.mul (.mul (.mul (.mul (.c (-6)) (.v 0)) (.v 1)) (.v 4)) (.pw (.v 5) 2)) (.add (.mul (.mul (.mul (.c (-2)) (.v 0)) (.v 1)) (.pw (.v 5) 3)) (.mul (.mul (.mul (.mul (.c 4) (.v 0)) (.v 1)) (.pw (.v 5) 2)) (.v 6))))) (.add (.add (.mul (.mul (.v 0) (.pw (.v 2) 2)) (.v 4)) (.mul (.mul (.mul (.c (-2)) (.v 0)) (.pw (.v 2) 2)) (.v 5))) (.add (.mul (.mul (.mul (.c (-3)) (.v 0)) (.pw (.v 2) 2)) (.v 6)) (.add (.mul (.mul (.mul (.c (-4)) (.v 0)) (.v 2)) (.v 3)) (.mul (.mul (.mul (.c (-2)) (.v 0)) (.v 2)) (.pw (.v 4) 3)))))) (.add (.add (.add (.mul (.mul (.mul (.mul (.c 2) (.v 0)) (.v 2)) (.pw (.v 4) 2)) (.v 6)) (.mul (.mul (.mul (.mul (.c (-2)) (.v 0)) (.v 2)) (.v 4)) (.pw (.v 5) 2))) (.add (.mul (.mul (.mul (.c 2) (.v 0)) (.v 2)) (.pw (.v 5) 3)) (.add (.mul (.mul (.mul (.mul (.c 4) (.v 0)) (.v 2)) (.pw (.v 5) 2)) (.v 6)) (.mul (.mul (.mul (.c 4) (.v 0)) (.v 3)) (.pw (.v 5) 2))))) (.add (.add (.mul (.mul (.mul (.c 2) (.v 0)) (.pw (.v 4) 3)) (.pw (.v 5) 2)) (.mul (.mul (.mul (.mul (.c (-2)) (.v 0)) (.pw (.v 4) 2)) (.pw (.v 5) 2)) (.v 6))) (.add (.mul (.mul (.v 0) (.v 4)) (.pw (.v 5) 4)) (.add (.neg (.mul (.mul (.v 0) (.pw (.v 5) 4)) (.v 6))) (.mul (.mul (.c 2) (.pw (.v 1) 3)) (.v 4)))))))) (.add (.add (.add (.add (.add (.mul (.pw (.v 1) 3) (.v 5)) (.neg (.mul (.pw (.v 1) 3) (.v 6)))) (.add (.mul (.mul (.mul (.c 4) (.pw (.v 1) 2)) (.v 2)) (.v 4)) (.add (.mul (.mul (.pw (.v 1) 2) (.v 2)) (.v 5)) (.mul (.mul (.mul (.c (-3)) (.pw (.v 1) 2)) (.v 2)) (.v 6))))) (.add (.add (.mul (.mul (.c (-2)) (.pw (.v 1) 2)) (.v 3)) (.neg (.mul (.pw (.v 1) 2) (.pw (.v 4) 3)))) (.add (.mul (.mul (.pw (.v 1) 2) (.pw (.v 4) 2)) (.v 6)) (.add (.mul (.mul (.mul (.c (-4)) (.pw (.v 1) 2)) (.v 4)) (.pw (.v 5) 2)) (.mul (.mul (.c (-2)) (.pw (.v 1) 2)) (.pw (.v 5) 3)))))) (.add (.add (.add (.mul (.mul (.mul (.c 2) (.pw (.v 1) 2)) (.pw (.v 5) 2)) (.v 6)) (.mul (.mul (.mul (.c 2) (.v 1)) (.pw (.v 2) 2)) (.v 4))) (.add (.neg (.mul (.mul (.v 1) (.pw (.v 2) 2)) (.v 5))) (.add (.mul (.mul (.mul (.c (-3)) (.v 1)) (.pw (.v 2) 2)) (.v 6)) (.mul (.mul (.mul (.c (-4)) (.v 1)) (.v 2)) (.v 3))))) (.add (.add (.mul (.mul (.mul (.c (-2)) (.v 1)) (.v 2)) (.pw (.v 4) 3)) (.mul (.mul (.mul (.mul (.c 2) (.v 1)) (.v 2)) (.pw (.v 4) 2)) (.v 6))) (.add (.mul (.mul (.mul (.mul (.c (-4)) (.v 1)) (.v 2)) (.v 4)) (.pw (.v 5) 2)) (.add (.mul (.mul (.mul (.mul (.c 4) (.v 1)) (.v 2)) (.pw (.v 5) 2)) (.v 6)) (.mul (.mul (.mul (.c 4) (.v 1)) (.v 3)) (.pw (.v 5) 2))))))) (.add (.add (.add (.add (.mul (.mul (.mul (.c 2) (.v 1)) (.pw (.v 4) 3)) (.pw (.v 5) 2)) (.mul (.mul (.mul (.mul (.c (-2)) (.v 1)) (.pw (.v 4) 2)) (.pw (.v 5) 2)) (.v 6))) (.add (.mul (.mul (.mul (.c 2) (.v 1)) (.v 4)) (.pw (.v 5) 4)) (.add (.mul (.v 1) (.pw (.v 5) 5)) (.neg (.mul (.mul (.v 1) (.pw (.v 5) 4)) (.v 6)))))) (.add (.add (.neg (.mul (.pw (.v 2) 3) (.v 5))) (.neg (.mul (.pw (.v 2) 3) (.v 6)))) (.add (.mul (.mul (.c (-2)) (.pw (.v 2) 2)) (.v 3)) (.add (.neg (.mul (.pw (.v 2) 2) (.pw (.v 4) 3))) (.mul (.mul (.pw (.v 2) 2) (.pw (.v 4) 2)) (.v 6)))))) (.add (.add (.add (.mul (.mul (.c 2) (.pw (.v 2) 2)) (.pw (.v 5) 3)) (.mul (.mul (.mul (.c 2) (.pw (.v 2) 2)) (.pw (.v 5) 2)) (.v 6))) (.add (.mul (.mul (.mul (.c 4) (.v 2)) (.v 3)) (.pw (.v 5) 2)) (.add (.mul (.mul (.mul (.c 2) (.v 2)) (.pw (.v 4) 3)) (.pw (.v 5) 2)) (.mul (.mul (.mul (.mul (.c (-2)) (.v 2)) (.pw (.v 4) 2)) (.pw (.v 5) 2)) (.v 6))))) (.add (.add (.neg (.mul (.v 2) (.pw (.v 5) 5))) (.neg (.mul (.mul (.v 2) (.pw (.v 5) 4)) (.v 6)))) (.add (.mul (.mul (.c (-2)) (.v 3)) (.pw (.v 5) 4)) (.add (.neg (.mul (.pw (.v 4) 3) (.pw (.v 5) 4))) (.mul (.mul (.pw (.v 4) 2) (.pw (.v 5) 4)) (.v 6))))))))),.sub (.mul (.v 6) (.sub (.sub (.sub (.mul (.v 4) (.v 4)) (.v 0)) (.v 1)) (.v 2))) (.sub (.sub (.mul (.v 4) (.sub (.v 1) (.sub (.sub (.mul (.v 4) (.v 4)) (.v 0)) (.v 1)))) (.v 3)) (.add (.v 3) (.mul (.v 5) (.sub (.v 2) (.v 1)))))),
  ((.add (.add (.add (.add (.add (.add (.mul (.pw (.v 0) 3) (.v 4)) (.mul (.pw (.v 0) 3) (.v 7))) (.add (.mul (.mul (.pw (.v 0) 2) (.v 1)) (.v 4)) (.mul (.mul (.mul (.c (-2)) (.pw (.v 0) 2)) (.v 1)) (.v 5)))) (.add (.add (.mul (.mul (.mul (.c 3) (.pw (.v 0) 2)) (.v 1)) (.v 7)) (.mul (.mul (.mul (.c 2) (.pw (.v 0) 2)) (.v 2)) (.v 4))) (.add (.neg (.mul (.mul (.pw (.v 0) 2) (.v 2)) (.v 5))) (.add (.mul (.mul (.mul (.c 3) (.pw (.v 0) 2)) (.v 2)) (.v 7)) (.mul (.mul (.c 2) (.pw (.v 0) 2)) (.v 3)))))) (.add (.add (.add (.mul (.mul (.c (-2)) (.pw (.v 0) 2)) (.pw (.v 4) 3)) (.mul (.mul (.mul (.c (-2)) (.pw (.v 0) 2)) (.pw (.v 4) 2)) (.v 7))) (.add (.mul (.pw (.v 0) 2) (.pw (.v 5) 3)) (.add (.neg (.mul (.mul (.pw (.v 0) 2) (.pw (.v 5) 2)) (.v 7))) (.neg (.mul (.mul (.v 0) (.pw (.v 1) 2)) (.v 4)))))) (.add (.add (.mul (.mul (.mul (.c (-4)) (.v 0)) (.pw (.v 1) 2)) (.v 5)) (.mul (.mul (.mul (.c 3) (.v 0)) (.pw (.v 1) 2)) (.v 7))) (.add (.mul (.mul (.mul (.mul (.c (-6)) (.v 0)) (.v 1)) (.v 2)) (.v 5)) (.add (.mul (.mul (.mul (.mul (.c 6) (.v 0)) (.v 1)) (.v 2)) (.v 7)) (.mul (.mul (.mul (.c 4) (.v 0)) (.v 1)) (.v 3))))))) (.add (.add (.add (.add (.mul (.mul (.mul (.mul (.c 4) (.v 0)) (.v 1)) (.pw (.v 4) 2)) (.v 5)) (.mul (.mul (.mul (.mul (.c (-4)) (.v 0)) (.v 1)) (.pw (.v 4) 2)) (.v 7))) (.add (.mul (.mul (.mul (.c 2) (.v 0)) (.v 1)) (.pw (.v 5) 3)) (.add (.mul (.mul (.mul (.mul (.c (-2)) (.v 0)) (.v 1)) (.pw (.v 5) 2)) (.v 7)) (.mul (.mul (.v 0) (.pw (.v 2) 2)) (.v 4))))) (.add (.add (.mul (.mul (.mul (.c (-2)) (.v 0)) (.pw (.v 2) 2)) (.v 5)) (.mul (.mul (.mul (.c 3) (.v 0)) (.pw (.v 2) 2)) (.v 7))) (.add (.mul (.mul (.mul (.c 4) (.v 0)) (.v 2)) (.v 3)) (.add (.mul (.mul (.mul (.c (-2)) (.v 0)) (.v 2)) (.pw (.v 4) 3)) (.mul (.mul (.mul (.mul (.c 2) (.v 0)) (.v 2)) (.pw (.v 4) 2)) (.v 5)))))) (.add (.add (.add (.mul (.mul (.mul (.mul (.c (-4)) (.v 0)) (.v 2)) (.pw (.v 4) 2)) (.v 7)) (.mul (.mul (.mul (.c 2) (.v 0)) (.v 2)) (.pw (.v 5) 3))) (.add (.mul (.mul (.mul (.mul (.c (-2)) (.v 0)) (.v 2)) (.pw (.v 5) 2)) (.v 7)) (.add (.mul (.mul (.mul (.c (-4)) (.v 0)) (.v 3)) (.pw (.v 4) 2)) (.mul (.v 0) (.pw (.v 4) 5))))) (.add (.add (.mul (.mul (.v 0) (.pw (.v 4) 4)) (.v 7)) (.mul (.mul (.mul (.c (-2)) (.v 0)) (.pw (.v 4) 2)) (.pw (.v 5) 3))) (.add (.mul (.mul (.mul (.mul (.c 2) (.v 0)) (.pw (.v 4) 2)) (.pw (.v 5) 2)) (.v 7)) (.add (.neg (.mul (.pw (.v 1) 3) (.v 4))) (.mul (.mul (.c (-2)) (.pw (.v 1) 3)) (.v 5)))))))) (.add (.add (.add (.add (.add (.mul (.pw (.v 1) 3) (.v 7)) (.mul (.mul (.mul (.c (-2)) (.pw (.v 1) 2)) (.v 2)) (.v 4))) (.add (.mul (.mul (.mul (.c (-5)) (.pw (.v 1) 2)) (.v 2)) (.v 5)) (.add (.mul (.mul (.mul (.c 3) (.pw (.v 1) 2)) (.v 2)) (.v 7)) (.mul (.mul (.c 2) (.pw (.v 1) 2)) (.v 3))))) (.add (.add (.mul (.mul (.c 2) (.pw (.v 1) 2)) (.pw (.v 4) 3)) (.mul (.mul (.mul (.c 4) (.pw (.v 1) 2)) (.pw (.v 4) 2)) (.v 5))) (.add (.mul (.mul (.mul (.c (-2)) (.pw (.v 1) 2)) (.pw (.v 4) 2)) (.v 7)) (.add (.mul (.pw (.v 1) 2) (.pw (.v 5) 3)) (.neg (.mul (.mul (.pw (.v 1) 2) (.pw (.v 5) 2)) (.v 7))))))) (.add (.add (.add (.neg (.mul (.mul (.v 1) (.pw (.v 2) 2)) (.v 4))) (.mul (.mul (.mul (.c (-4)) (.v 1)) (.pw (.v 2) 2)) (.v 5))) (.add (.mul (.mul (.mul (.c 3) (.v 1)) (.pw (.v 2) 2)) (.v 7)) (.add (.mul (.mul (.mul (.c 4) (.v 1)) (.v 2)) (.v 3)) (.mul (.mul (.mul (.c 2) (.v 1)) (.v 2)) (.pw (.v 4) 3))))) (.add (.add (.mul (.mul (.mul (.mul (.c 6) (.v 1)) (.v 2)) (.pw (.v 4) 2)) (.v 5)) (.mul (.mul (.mul (.mul (.c (-4)) (.v 1)) (.v 2)) (.pw (.v 4) 2)) (.v 7))) (.add (.mul (.mul (.mul (.c 2) (.v 1)) (.v 2)) (.pw (.v 5) 3)) (.add (.mul (.mul (.mul (.mul (.c (-2)) (.v 1)) (.v 2)) (.pw (.v 5) 2)) (.v 7)) (.mul (.mul (.mul (.c (-4)) (.v 1)) (.v 3)) (.pw (.v 4) 2))))))) (.add (.add (.add (.add (.neg (.mul (.v 1) (.pw (.v 4) 5))) (.mul (.mul (.mul (.c (-2)) (.v 1)) (.pw (.v 4) 4)) (.v 5))) (.add (.mul (.mul (.v 1) (.pw (.v 4) 4)) (.v 7)) (.add (.mul (.mul (.mul (.c (-2)) (.v 1)) (.pw (.v 4) 2)) (.pw (.v 5) 3)) (.mul (.mul (.mul (.mul (.c 2) (.v 1)) (.pw (.v 4) 2)) (.pw (.v 5) 2)) (.v 7))))) (.add (.add (.neg (.mul (.pw (.v 2) 3) (.v 5))) (.mul (.pw (.v 2) 3) (.v 7))) (.add (.mul (.mul (.c 2) (.pw (.v 2) 2)) (.v 3)) (.add (.mul (.mul (.mul (.c 2) (.pw (.v 2) 2)) (.pw (.v 4) 2)) (.v 5)) (.mul (.mul (.mul (.c (-2)) (.pw (.v 2) 2)) (.pw (.v 4) 2)) (.v 7)))))) (.add (.add (.add (.mul (.pw (.v 2) 2) (.pw (.v 5) 3)) (.neg (.mul (.mul (.pw (.v 2) 2) (.pw (.v 5) 2)) (.v 7)))) (.add (.mul (.mul (.mul (.c (-4)) (.v 2)) (.v 3)) (.pw (.v 4) 2)) (.add (.neg (.mul (.mul (.v 2) (.pw (.v 4) 4)) (.v 5))) (.mul (.mul (.v 2) (.pw (.v 4) 4)) (.v 7))))) (.add (.add (.mul (.mul (.mul (.c (-2)) (.v 2)) (.pw (.v 4) 2)) (.pw (.v 5) 3)) (.mul (.mul (.mul (.mul (.c 2) (.v 2)) (.pw (.v 4) 2)) (.pw (.v 5) 2)) (.v 7))) (.add (.mul (.mul (.c 2) (.v 3)) (.pw (.v 4) 4)) (.add (.mul (.pw (.v 4) 4) (.pw (.v 5) 3)) (.neg (.mul (.mul (.pw (.v 4) 4) (.pw (.v 5) 2)) (.v 7)))))))))),.sub (.mul (.v 7) (.sub (.sub (.sub (.mul (.v 5) (.v 5)) (.v 1)) (.v 2)) (.v 0))) (.sub (.sub (.mul (.v 5) (.sub (.v 1) (.sub (.sub (.mul (.v 5) (.v 5)) (.v 1)) (.v 2)))) (.v 3)) (.add (.v 3) (.mul (.v 4) (.sub (.v 0) (.v 1))))))] ⟨AJ.2 r1,AJ.2 r2,AJ.2 hs,AJ.2 ht,trivial⟩ (by kernel_rfl))
theorem nF {F:Type} [CR F] (x1 x2 x3 y2 l m s t:F) (r1:(((l*y2)+(l*y2))+((l*l)*(x1-x2)))=(((x1*x1)+(x1*x2))+(x2*x2))) (r2:(((m*y2)+(m*y2))+((m*m)*(x3-x2)))=(((x3*x3)+(x3*x2))+(x2*x2))) (hs:(s*((((l*l)-x1)-x2)-x3))=(((l*(x2-(((l*l)-x1)-x2)))-y2)-(y2+(m*(x3-x2))))) (ht:(t*((((m*m)-x2)-x3)-x1))=(((m*(x2-(((m*m)-x2)-x3)))-y2)-(y2+(l*(x1-x2))))):((((((((l*l)-x1)-x2)-x3)*((((l*l)-x1)-x2)-x3))*((((l*l)-x1)-x2)-x3))*((((m*m)-x2)-x3)-x1))*((s*(x3-(((s*s)-(((l*l)-x1)-x2))-x3)))-(y2+(m*(x3-x2)))))=((((((((l*l)-x1)-x2)-x3)*((((l*l)-x1)-x2)-x3))*((((l*l)-x1)-x2)-x3))*((((m*m)-x2)-x3)-x1))*((t*(x1-(((s*s)-(((l*l)-x1)-x2))-x3)))-(y2+(l*(x1-x2))))) :=
 AJ.1 (Aq [x1,x2,x3,y2,l,m,s,t] (.sub (.mul (.mul (.mul (.mul (.sub (.sub (.sub (.mul (.v 4) (.v 4)) (.v 0)) (.v 1)) (.v 2)) (.sub (.sub (.sub (.mul (.v 4) (.v 4)) (.v 0)) (.v 1)) (.v 2))) (.sub (.sub (.sub (.mul (.v 4) (.v 4)) (.v 0)) (.v 1)) (.v 2))) (.sub (.sub (.sub (.mul (.v 5) (.v 5)) (.v 1)) (.v 2)) (.v 0))) (.sub (.mul (.v 6) (.sub (.v 2) (.sub (.sub (.mul (.v 6) (.v 6)) (.sub (.sub (.mul (.v 4) (.v 4)) (.v 0)) (.v 1))) (.v 2)))) (.add (.v 3) (.mul (.v 5) (.sub (.v 2) (.v 1)))))) (.mul (.mul (.mul (.mul (.sub (.sub (.sub (.mul (.v 4) (.v 4)) (.v 0)) (.v 1)) (.v 2)) (.sub (.sub (.sub (.mul (.v 4) (.v 4)) (.v 0)) (.v 1)) (.v 2))) (.sub (.sub (.sub (.mul (.v 4) (.v 4)) (.v 0)) (.v 1)) (.v 2))) (.sub (.sub (.sub (.mul (.v 5) (.v 5)) (.v 1)) (.v 2)) (.v 0))) (.sub (.mul (.v 7) (.sub (.v 0) (.sub (.sub (.mul (.v 6) (.v 6)) (.sub (.sub (.mul (.v 4) (.v 4)) (.v 0)) (.v 1))) (.v 2)))) (.add (.v 3) (.mul (.v 4) (.sub (.v 0) (.v 1))))))) [((.add (.add (.add (.add (.add (.mul (.mul (.c (-2)) (.pw (.v 0) 3)) (.v 4)) (.add (.mul (.mul (.mul (.c (-8)) (.pw (.v 0) 2)) (.v 1)) (.v 4)) (.mul (.mul (.mul (.c (-2)) (.pw (.v 0) 2)) (.v 1)) (.v 5)))) (.add (.add (.mul (.mul (.mul (.c (-4)) (.pw (.v 0) 2)) (.v 2)) (.v 4)) (.mul (.mul (.mul (.c 2) (.pw (.v 0) 2)) (.v 2)) (.v 5))) (.add (.mul (.mul (.c 2) (.pw (.v 0) 2)) (.v 3)) (.mul (.mul (.c 4) (.pw (.v 0) 2)) (.pw (.v 4) 3))))) (.add (.add (.add (.mul (.mul (.mul (.c 2) (.pw (.v 0) 2)) (.v 4)) (.pw (.v 5) 2)) (.mul (.mul (.mul (.c (-8)) (.v 0)) (.pw (.v 1) 2)) (.v 4))) (.add (.mul (.mul (.mul (.c (-4)) (.v 0)) (.pw (.v 1) 2)) (.v 5)) (.mul (.mul (.mul (.mul (.c (-10)) (.v 0)) (.v 1)) (.v 2)) (.v 4)))) (.add (.add (.mul (.mul (.mul (.c 4) (.v 0)) (.v 1)) (.v 3)) (.mul (.mul (.mul (.c 9) (.v 0)) (.v 1)) (.pw (.v 4) 3))) (.add (.neg (.mul (.mul (.mul (.v 0) (.v 1)) (.pw (.v 4) 2)) (.v 5))) (.mul (.mul (.mul (.mul (.c 5) (.v 0)) (.v 1)) (.v 4)) (.pw (.v 5) 2)))))) (.add (.add (.add (.add (.mul (.mul (.v 0) (.v 1)) (.pw (.v 5) 3)) (.mul (.mul (.mul (.c 4) (.v 0)) (.pw (.v 2) 2)) (.v 5))) (.add (.mul (.mul (.mul (.c 4) (.v 0)) (.v 2)) (.v 3)) (.mul (.mul (.mul (.c 7) (.v 0)) (.v 2)) (.pw (.v 4) 3)))) (.add (.add (.mul (.mul (.mul (.v 0) (.v 2)) (.pw (.v 4) 2)) (.v 5)) (.mul (.mul (.mul (.mul (.c 3) (.v 0)) (.v 2)) (.v 4)) (.pw (.v 5) 2))) (.add (.neg (.mul (.mul (.v 0) (.v 2)) (.pw (.v 5) 3))) (.mul (.mul (.mul (.c 2) (.v 0)) (.v 3)) (.pw (.v 4) 2))))) (.add (.add (.add (.mul (.mul (.mul (.c (-2)) (.v 0)) (.v 3)) (.pw (.v 5) 2)) (.mul (.mul (.c (-2)) (.v 0)) (.pw (.v 4) 5))) (.add (.mul (.mul (.mul (.c (-4)) (.v 0)) (.pw (.v 4) 3)) (.pw (.v 5) 2)) (.mul (.mul (.c 2) (.pw (.v 1) 3)) (.v 4)))) (.add (.add (.mul (.mul (.mul (.c 2) (.pw (.v 1) 2)) (.v 2)) (.v 4)) (.mul (.mul (.mul (.c (-2)) (.pw (.v 1) 2)) (.v 2)) (.v 5))) (.add (.mul (.mul (.c 2) (.pw (.v 1) 2)) (.pw (.v 4) 3)) (.mul (.mul (.mul (.c (-4)) (.pw (.v 1) 2)) (.pw (.v 4) 2)) (.v 5))))))) (.add (.add (.add (.add (.mul (.mul (.mul (.c 2) (.pw (.v 1) 2)) (.v 4)) (.pw (.v 5) 2)) (.add (.mul (.mul (.c 2) (.pw (.v 1) 2)) (.pw (.v 5) 3)) (.mul (.mul (.mul (.c 6) (.v 1)) (.pw (.v 2) 2)) (.v 4)))) (.add (.add (.mul (.mul (.mul (.c 2) (.v 1)) (.pw (.v 2) 2)) (.v 5)) (.mul (.mul (.mul (.c 2) (.v 1)) (.v 2)) (.v 3))) (.add (.mul (.mul (.mul (.c 8) (.v 1)) (.v 2)) (.pw (.v 4) 3)) (.mul (.mul (.mul (.mul (.c 6) (.v 1)) (.v 2)) (.pw (.v 4) 2)) (.v 5))))) (.add (.add (.add (.mul (.mul (.mul (.mul (.c 6) (.v 1)) (.v 2)) (.v 4)) (.pw (.v 5) 2)) (.mul (.mul (.mul (.c (-2)) (.v 1)) (.v 2)) (.pw (.v 5) 3))) (.add (.mul (.mul (.mul (.c 6) (.v 1)) (.v 3)) (.pw (.v 4) 2)) (.mul (.mul (.mul (.c (-4)) (.v 1)) (.v 3)) (.pw (.v 5) 2)))) (.add (.add (.neg (.mul (.v 1) (.pw (.v 4) 5))) (.mul (.mul (.mul (.c 3) (.v 1)) (.pw (.v 4) 4)) (.v 5))) (.add (.mul (.mul (.mul (.c (-5)) (.v 1)) (.pw (.v 4) 3)) (.pw (.v 5) 2)) (.neg (.mul (.mul (.v 1) (.pw (.v 4) 2)) (.pw (.v 5) 3))))))) (.add (.add (.add (.add (.mul (.mul (.mul (.c (-2)) (.v 1)) (.v 4)) (.pw (.v 5) 4)) (.mul (.mul (.c 4) (.pw (.v 2) 3)) (.v 4))) (.add (.mul (.mul (.mul (.c (-2)) (.pw (.v 2) 2)) (.pw (.v 4) 2)) (.v 5)) (.mul (.mul (.mul (.c (-6)) (.pw (.v 2) 2)) (.v 4)) (.pw (.v 5) 2)))) (.add (.add (.mul (.mul (.mul (.c (-2)) (.v 2)) (.v 3)) (.pw (.v 4) 2)) (.mul (.mul (.mul (.mul (.c (-12)) (.v 2)) (.v 3)) (.v 4)) (.v 5))) (.add (.mul (.mul (.c (-3)) (.v 2)) (.pw (.v 4) 5)) (.mul (.mul (.mul (.c (-3)) (.v 2)) (.pw (.v 4) 4)) (.v 5))))) (.add (.add (.add (.mul (.mul (.mul (.c (-3)) (.v 2)) (.pw (.v 4) 3)) (.pw (.v 5) 2)) (.mul (.mul (.v 2) (.pw (.v 4) 2)) (.pw (.v 5) 3))) (.add (.mul (.mul (.mul (.c 2) (.v 2)) (.v 4)) (.pw (.v 5) 4)) (.mul (.mul (.c (-4)) (.pw (.v 3) 2)) (.v 4)))) (.add (.add (.mul (.mul (.c (-4)) (.v 3)) (.pw (.v 4) 4)) (.mul (.mul (.mul (.c 2) (.v 3)) (.pw (.v 4) 2)) (.pw (.v 5) 2))) (.add (.mul (.mul (.mul (.c 4) (.v 3)) (.v 4)) (.pw (.v 5) 3)) (.mul (.mul (.c 2) (.pw (.v 4) 5)) (.pw (.v 5) 2)))))))),.sub (.add (.add (.mul (.v 4) (.v 3)) (.mul (.v 4) (.v 3))) (.mul (.mul (.v 4) (.v 4)) (.sub (.v 0) (.v 1)))) (.add (.add (.mul (.v 0) (.v 0)) (.mul (.v 0) (.v 1))) (.mul (.v 1) (.v 1)))),
  ((.add (.add (.add (.add (.add (.mul (.mul (.mul (.c 2) (.v 0)) (.pw (.v 1) 2)) (.v 4)) (.add (.mul (.mul (.mul (.c 2) (.v 0)) (.pw (.v 1) 2)) (.v 5)) (.mul (.mul (.mul (.mul (.c 8) (.v 0)) (.v 1)) (.v 2)) (.v 4)))) (.add (.mul (.mul (.mul (.mul (.c 2) (.v 0)) (.v 1)) (.v 2)) (.v 5)) (.add (.mul (.mul (.mul (.c (-2)) (.v 0)) (.v 1)) (.v 3)) (.mul (.mul (.mul (.c (-3)) (.v 0)) (.v 1)) (.pw (.v 4) 3))))) (.add (.add (.mul (.mul (.mul (.mul (.c 3) (.v 0)) (.v 1)) (.pw (.v 4) 2)) (.v 5)) (.add (.neg (.mul (.mul (.mul (.v 0) (.v 1)) (.v 4)) (.pw (.v 5) 2))) (.neg (.mul (.mul (.v 0) (.v 1)) (.pw (.v 5) 3))))) (.add (.add (.mul (.mul (.mul (.c 2) (.v 0)) (.pw (.v 2) 2)) (.v 4)) (.mul (.mul (.mul (.c (-4)) (.v 0)) (.pw (.v 2) 2)) (.v 5))) (.add (.mul (.mul (.mul (.c (-4)) (.v 0)) (.v 2)) (.v 3)) (.mul (.mul (.mul (.c (-3)) (.v 0)) (.v 2)) (.pw (.v 4) 3)))))) (.add (.add (.add (.mul (.mul (.mul (.mul (.c (-3)) (.v 0)) (.v 2)) (.pw (.v 4) 2)) (.v 5)) (.add (.mul (.mul (.mul (.mul (.c (-5)) (.v 0)) (.v 2)) (.v 4)) (.pw (.v 5) 2)) (.mul (.mul (.v 0) (.v 2)) (.pw (.v 5) 3)))) (.add (.add (.mul (.mul (.mul (.mul (.c (-4)) (.v 0)) (.v 3)) (.v 4)) (.v 5)) (.mul (.mul (.mul (.c 2) (.v 0)) (.v 3)) (.pw (.v 5) 2))) (.add (.mul (.mul (.mul (.c 2) (.v 0)) (.pw (.v 4) 3)) (.pw (.v 5) 2)) (.mul (.mul (.c (-2)) (.pw (.v 1) 3)) (.v 4))))) (.add (.add (.mul (.mul (.mul (.c 4) (.pw (.v 1) 2)) (.v 2)) (.v 4)) (.add (.mul (.mul (.mul (.c 4) (.pw (.v 1) 2)) (.v 2)) (.v 5)) (.mul (.mul (.c (-8)) (.pw (.v 1) 2)) (.pw (.v 4) 3)))) (.add (.add (.mul (.mul (.mul (.c 2) (.pw (.v 1) 2)) (.pw (.v 4) 2)) (.v 5)) (.mul (.mul (.mul (.c 4) (.pw (.v 1) 2)) (.v 4)) (.pw (.v 5) 2))) (.add (.mul (.mul (.mul (.c 4) (.v 1)) (.pw (.v 2) 2)) (.v 4)) (.mul (.mul (.mul (.c (-2)) (.v 1)) (.pw (.v 2) 2)) (.v 5))))))) (.add (.add (.add (.add (.mul (.mul (.mul (.c (-4)) (.v 1)) (.v 2)) (.v 3)) (.add (.mul (.mul (.mul (.c (-14)) (.v 1)) (.v 2)) (.pw (.v 4) 3)) (.mul (.mul (.mul (.mul (.c (-4)) (.v 1)) (.v 2)) (.pw (.v 4) 2)) (.v 5)))) (.add (.mul (.mul (.mul (.mul (.c (-10)) (.v 1)) (.v 2)) (.v 4)) (.pw (.v 5) 2)) (.add (.mul (.mul (.mul (.c (-2)) (.v 1)) (.v 2)) (.pw (.v 5) 3)) (.mul (.mul (.mul (.c 8) (.v 1)) (.v 3)) (.pw (.v 4) 2))))) (.add (.add (.mul (.mul (.mul (.mul (.c (-8)) (.v 1)) (.v 3)) (.v 4)) (.v 5)) (.add (.mul (.mul (.mul (.c (-2)) (.v 1)) (.v 3)) (.pw (.v 5) 2)) (.mul (.mul (.c 3) (.v 1)) (.pw (.v 4) 5)))) (.add (.add (.mul (.mul (.mul (.c (-3)) (.v 1)) (.pw (.v 4) 4)) (.v 5)) (.mul (.mul (.mul (.c 5) (.v 1)) (.pw (.v 4) 3)) (.pw (.v 5) 2))) (.add (.mul (.mul (.v 1) (.pw (.v 4) 2)) (.pw (.v 5) 3)) (.mul (.mul (.c (-2)) (.pw (.v 2) 3)) (.v 5)))))) (.add (.add (.add (.mul (.mul (.c (-2)) (.pw (.v 2) 2)) (.v 3)) (.add (.mul (.mul (.c (-2)) (.pw (.v 2) 2)) (.pw (.v 4) 3)) (.mul (.mul (.mul (.c 2) (.pw (.v 2) 2)) (.pw (.v 4) 2)) (.v 5)))) (.add (.add (.mul (.mul (.c 2) (.pw (.v 2) 2)) (.pw (.v 5) 3)) (.mul (.mul (.mul (.c 10) (.v 2)) (.v 3)) (.pw (.v 4) 2))) (.add (.mul (.mul (.mul (.c 6) (.v 2)) (.v 3)) (.pw (.v 5) 2)) (.mul (.mul (.c 3) (.v 2)) (.pw (.v 4) 5))))) (.add (.add (.mul (.mul (.mul (.c 3) (.v 2)) (.pw (.v 4) 4)) (.v 5)) (.add (.mul (.mul (.mul (.c 5) (.v 2)) (.pw (.v 4) 3)) (.pw (.v 5) 2)) (.neg (.mul (.mul (.v 2) (.pw (.v 4) 2)) (.pw (.v 5) 3))))) (.add (.add (.mul (.mul (.c 4) (.pw (.v 3) 2)) (.v 5)) (.mul (.mul (.mul (.c 4) (.v 3)) (.pw (.v 4) 3)) (.v 5))) (.add (.mul (.mul (.mul (.c (-6)) (.v 3)) (.pw (.v 4) 2)) (.pw (.v 5) 2)) (.mul (.mul (.c (-2)) (.pw (.v 4) 5)) (.pw (.v 5) 2)))))))),.sub (.add (.add (.mul (.v 5) (.v 3)) (.mul (.v 5) (.v 3))) (.mul (.mul (.v 5) (.v 5)) (.sub (.v 2) (.v 1)))) (.add (.add (.mul (.v 2) (.v 2)) (.mul (.v 2) (.v 1))) (.mul (.v 1) (.v 1)))),
  ((.add (.add (.add (.add (.add (.add (.add (.pw (.v 0) 4) (.mul (.mul (.c 4) (.pw (.v 0) 3)) (.v 1))) (.add (.mul (.pw (.v 0) 3) (.v 2)) (.add (.neg (.mul (.pw (.v 0) 3) (.pw (.v 4) 2))) (.mul (.mul (.mul (.c (-2)) (.pw (.v 0) 3)) (.v 4)) (.v 6))))) (.add (.add (.neg (.mul (.pw (.v 0) 3) (.pw (.v 5) 2))) (.add (.mul (.pw (.v 0) 3) (.pw (.v 6) 2)) (.mul (.mul (.c 6) (.pw (.v 0) 2)) (.pw (.v 1) 2)))) (.add (.mul (.mul (.mul (.c 3) (.pw (.v 0) 2)) (.v 1)) (.v 2)) (.add (.mul (.mul (.mul (.c (-2)) (.pw (.v 0) 2)) (.v 1)) (.pw (.v 4) 2)) (.mul (.mul (.mul (.pw (.v 0) 2) (.v 1)) (.v 4)) (.v 5)))))) (.add (.add (.add (.mul (.mul (.mul (.mul (.c (-5)) (.pw (.v 0) 2)) (.v 1)) (.v 4)) (.v 6)) (.add (.mul (.mul (.mul (.c (-3)) (.pw (.v 0) 2)) (.v 1)) (.pw (.v 5) 2)) (.mul (.mul (.mul (.pw (.v 0) 2) (.v 1)) (.v 5)) (.v 6)))) (.add (.mul (.mul (.mul (.c 3) (.pw (.v 0) 2)) (.v 1)) (.pw (.v 6) 2)) (.add (.mul (.mul (.c (-3)) (.pw (.v 0) 2)) (.pw (.v 2) 2)) (.neg (.mul (.mul (.pw (.v 0) 2) (.v 2)) (.pw (.v 4) 2)))))) (.add (.add (.mul (.mul (.mul (.mul (.c (-4)) (.pw (.v 0) 2)) (.v 2)) (.v 4)) (.v 5)) (.add (.mul (.mul (.mul (.mul (.c (-4)) (.pw (.v 0) 2)) (.v 2)) (.v 4)) (.v 6)) (.mul (.mul (.mul (.mul (.c 2) (.pw (.v 0) 2)) (.v 2)) (.v 5)) (.v 6)))) (.add (.mul (.mul (.mul (.c 3) (.pw (.v 0) 2)) (.v 2)) (.pw (.v 6) 2)) (.add (.mul (.mul (.mul (.c (-4)) (.pw (.v 0) 2)) (.v 3)) (.v 4)) (.neg (.mul (.pw (.v 0) 2) (.pw (.v 4) 4)))))))) (.add (.add (.add (.add (.mul (.mul (.mul (.c 4) (.pw (.v 0) 2)) (.pw (.v 4) 3)) (.v 6)) (.mul (.mul (.mul (.c 2) (.pw (.v 0) 2)) (.pw (.v 4) 2)) (.pw (.v 5) 2))) (.add (.mul (.mul (.mul (.c (-2)) (.pw (.v 0) 2)) (.pw (.v 4) 2)) (.pw (.v 6) 2)) (.add (.mul (.mul (.pw (.v 0) 2) (.v 4)) (.pw (.v 5) 3)) (.mul (.mul (.mul (.pw (.v 0) 2) (.v 4)) (.pw (.v 5) 2)) (.v 6))))) (.add (.add (.neg (.mul (.mul (.pw (.v 0) 2) (.pw (.v 5) 3)) (.v 6))) (.add (.neg (.mul (.mul (.pw (.v 0) 2) (.pw (.v 5) 2)) (.pw (.v 6) 2))) (.mul (.mul (.c 4) (.v 0)) (.pw (.v 1) 3)))) (.add (.mul (.mul (.mul (.c 3) (.v 0)) (.pw (.v 1) 2)) (.v 2)) (.add (.mul (.mul (.mul (.c (-2)) (.v 0)) (.pw (.v 1) 2)) (.pw (.v 4) 2)) (.mul (.mul (.mul (.mul (.c (-4)) (.v 0)) (.pw (.v 1) 2)) (.v 4)) (.v 6)))))) (.add (.add (.add (.mul (.mul (.mul (.c (-4)) (.v 0)) (.pw (.v 1) 2)) (.pw (.v 5) 2)) (.add (.mul (.mul (.mul (.mul (.c 2) (.v 0)) (.pw (.v 1) 2)) (.v 5)) (.v 6)) (.mul (.mul (.mul (.c 3) (.v 0)) (.pw (.v 1) 2)) (.pw (.v 6) 2)))) (.add (.mul (.mul (.mul (.c (-6)) (.v 0)) (.v 1)) (.pw (.v 2) 2)) (.add (.neg (.mul (.mul (.mul (.v 0) (.v 1)) (.v 2)) (.pw (.v 4) 2))) (.mul (.mul (.mul (.mul (.mul (.c (-8)) (.v 0)) (.v 1)) (.v 2)) (.v 4)) (.v 5))))) (.add (.add (.mul (.mul (.mul (.mul (.mul (.c (-6)) (.v 0)) (.v 1)) (.v 2)) (.v 4)) (.v 6)) (.add (.neg (.mul (.mul (.mul (.v 0) (.v 1)) (.v 2)) (.pw (.v 5) 2))) (.mul (.mul (.mul (.mul (.mul (.c 6) (.v 0)) (.v 1)) (.v 2)) (.v 5)) (.v 6)))) (.add (.mul (.mul (.mul (.mul (.c 6) (.v 0)) (.v 1)) (.v 2)) (.pw (.v 6) 2)) (.add (.mul (.mul (.mul (.mul (.c (-6)) (.v 0)) (.v 1)) (.v 3)) (.v 4)) (.mul (.mul (.mul (.mul (.c 2) (.v 0)) (.v 1)) (.v 3)) (.v 5)))))))) (.add (.add (.add (.add (.add (.neg (.mul (.mul (.v 0) (.v 1)) (.pw (.v 4) 4))) (.mul (.mul (.mul (.v 0) (.v 1)) (.pw (.v 4) 3)) (.v 5))) (.add (.mul (.mul (.mul (.mul (.c 5) (.v 0)) (.v 1)) (.pw (.v 4) 3)) (.v 6)) (.add (.mul (.mul (.mul (.mul (.c 2) (.v 0)) (.v 1)) (.pw (.v 4) 2)) (.pw (.v 5) 2)) (.mul (.mul (.mul (.mul (.mul (.c (-3)) (.v 0)) (.v 1)) (.pw (.v 4) 2)) (.v 5)) (.v 6))))) (.add (.add (.mul (.mul (.mul (.mul (.c (-4)) (.v 0)) (.v 1)) (.pw (.v 4) 2)) (.pw (.v 6) 2)) (.add (.mul (.mul (.mul (.v 0) (.v 1)) (.v 4)) (.pw (.v 5) 3)) (.mul (.mul (.mul (.mul (.mul (.c 3) (.v 0)) (.v 1)) (.v 4)) (.pw (.v 5) 2)) (.v 6)))) (.add (.mul (.mul (.v 0) (.v 1)) (.pw (.v 5) 4)) (.add (.neg (.mul (.mul (.mul (.v 0) (.v 1)) (.pw (.v 5) 3)) (.v 6))) (.mul (.mul (.mul (.mul (.c (-2)) (.v 0)) (.v 1)) (.pw (.v 5) 2)) (.pw (.v 6) 2)))))) (.add (.add (.add (.mul (.mul (.c (-5)) (.v 0)) (.pw (.v 2) 3)) (.add (.mul (.mul (.mul (.c 3) (.v 0)) (.pw (.v 2) 2)) (.pw (.v 4) 2)) (.mul (.mul (.mul (.mul (.c (-4)) (.v 0)) (.pw (.v 2) 2)) (.v 4)) (.v 5)))) (.add (.mul (.mul (.mul (.mul (.c (-2)) (.v 0)) (.pw (.v 2) 2)) (.v 4)) (.v 6)) (.add (.mul (.mul (.mul (.c 5) (.v 0)) (.pw (.v 2) 2)) (.pw (.v 5) 2)) (.mul (.mul (.mul (.mul (.c 4) (.v 0)) (.pw (.v 2) 2)) (.v 5)) (.v 6))))) (.add (.add (.mul (.mul (.mul (.c 3) (.v 0)) (.pw (.v 2) 2)) (.pw (.v 6) 2)) (.add (.mul (.mul (.mul (.mul (.c (-4)) (.v 0)) (.v 2)) (.v 3)) (.v 4)) (.mul (.mul (.mul (.mul (.c 4) (.v 0)) (.v 2)) (.v 3)) (.v 5)))) (.add (.mul (.mul (.mul (.mul (.c 5) (.v 0)) (.v 2)) (.pw (.v 4) 3)) (.v 5)) (.add (.mul (.mul (.mul (.mul (.c 5) (.v 0)) (.v 2)) (.pw (.v 4) 3)) (.v 6)) (.mul (.mul (.mul (.mul (.mul (.c (-3)) (.v 0)) (.v 2)) (.pw (.v 4) 2)) (.v 5)) (.v 6))))))) (.add (.add (.add (.add (.mul (.mul (.mul (.mul (.c (-4)) (.v 0)) (.v 2)) (.pw (.v 4) 2)) (.pw (.v 6) 2)) (.add (.mul (.mul (.mul (.mul (.c 3) (.v 0)) (.v 2)) (.v 4)) (.pw (.v 5) 3)) (.mul (.mul (.mul (.mul (.v 0) (.v 2)) (.v 4)) (.pw (.v 5) 2)) (.v 6)))) (.add (.neg (.mul (.mul (.v 0) (.v 2)) (.pw (.v 5) 4))) (.add (.mul (.mul (.mul (.mul (.c (-3)) (.v 0)) (.v 2)) (.pw (.v 5) 3)) (.v 6)) (.mul (.mul (.mul (.mul (.c (-2)) (.v 0)) (.v 2)) (.pw (.v 5) 2)) (.pw (.v 6) 2))))) (.add (.add (.mul (.mul (.mul (.c 2) (.v 0)) (.v 3)) (.pw (.v 4) 3)) (.add (.mul (.mul (.mul (.mul (.c 2) (.v 0)) (.v 3)) (.pw (.v 4) 2)) (.v 6)) (.mul (.mul (.mul (.mul (.c 4) (.v 0)) (.v 3)) (.v 4)) (.pw (.v 5) 2)))) (.add (.mul (.mul (.mul (.c (-2)) (.v 0)) (.v 3)) (.pw (.v 5) 3)) (.add (.mul (.mul (.mul (.mul (.c (-2)) (.v 0)) (.v 3)) (.pw (.v 5) 2)) (.v 6)) (.mul (.v 0) (.pw (.v 4) 6)))))) (.add (.add (.add (.mul (.mul (.mul (.c (-2)) (.v 0)) (.pw (.v 4) 5)) (.v 6)) (.add (.neg (.mul (.mul (.v 0) (.pw (.v 4) 4)) (.pw (.v 5) 2))) (.mul (.mul (.v 0) (.pw (.v 4) 4)) (.pw (.v 6) 2)))) (.add (.mul (.mul (.mul (.c (-2)) (.v 0)) (.pw (.v 4) 3)) (.pw (.v 5) 3)) (.add (.mul (.mul (.mul (.mul (.c (-2)) (.v 0)) (.pw (.v 4) 3)) (.pw (.v 5) 2)) (.v 6)) (.mul (.mul (.mul (.mul (.c 2) (.v 0)) (.pw (.v 4) 2)) (.pw (.v 5) 3)) (.v 6))))) (.add (.add (.mul (.mul (.mul (.mul (.c 2) (.v 0)) (.pw (.v 4) 2)) (.pw (.v 5) 2)) (.pw (.v 6) 2)) (.add (.pw (.v 1) 4) (.mul (.pw (.v 1) 3) (.v 2)))) (.add (.neg (.mul (.pw (.v 1) 3) (.pw (.v 4) 2))) (.add (.neg (.mul (.mul (.pw (.v 1) 3) (.v 4)) (.v 5))) (.neg (.mul (.mul (.pw (.v 1) 3) (.v 4)) (.v 6)))))))))) (.add (.add (.add (.add (.add (.add (.mul (.mul (.c (-2)) (.pw (.v 1) 3)) (.pw (.v 5) 2)) (.mul (.mul (.pw (.v 1) 3) (.v 5)) (.v 6))) (.add (.mul (.pw (.v 1) 3) (.pw (.v 6) 2)) (.add (.mul (.mul (.c (-3)) (.pw (.v 1) 2)) (.pw (.v 2) 2)) (.neg (.mul (.mul (.pw (.v 1) 2) (.v 2)) (.pw (.v 4) 2)))))) (.add (.add (.mul (.mul (.mul (.mul (.c (-6)) (.pw (.v 1) 2)) (.v 2)) (.v 4)) (.v 5)) (.add (.mul (.mul (.mul (.mul (.c (-2)) (.pw (.v 1) 2)) (.v 2)) (.v 4)) (.v 6)) (.mul (.mul (.mul (.c (-2)) (.pw (.v 1) 2)) (.v 2)) (.pw (.v 5) 2)))) (.add (.mul (.mul (.mul (.mul (.c 4) (.pw (.v 1) 2)) (.v 2)) (.v 5)) (.v 6)) (.add (.mul (.mul (.mul (.c 3) (.pw (.v 1) 2)) (.v 2)) (.pw (.v 6) 2)) (.mul (.mul (.mul (.c (-2)) (.pw (.v 1) 2)) (.v 3)) (.v 4)))))) (.add (.add (.add (.mul (.mul (.mul (.c 2) (.pw (.v 1) 2)) (.v 3)) (.v 5)) (.add (.mul (.mul (.c 2) (.pw (.v 1) 2)) (.pw (.v 4) 4)) (.mul (.mul (.mul (.c 5) (.pw (.v 1) 2)) (.pw (.v 4) 3)) (.v 5)))) (.add (.mul (.mul (.pw (.v 1) 2) (.pw (.v 4) 3)) (.v 6)) (.add (.mul (.mul (.pw (.v 1) 2) (.pw (.v 4) 2)) (.pw (.v 5) 2)) (.mul (.mul (.mul (.mul (.c (-3)) (.pw (.v 1) 2)) (.pw (.v 4) 2)) (.v 5)) (.v 6))))) (.add (.add (.mul (.mul (.mul (.c (-2)) (.pw (.v 1) 2)) (.pw (.v 4) 2)) (.pw (.v 6) 2)) (.add (.mul (.mul (.mul (.c (-2)) (.pw (.v 1) 2)) (.v 4)) (.pw (.v 5) 3)) (.mul (.mul (.mul (.mul (.c 2) (.pw (.v 1) 2)) (.v 4)) (.pw (.v 5) 2)) (.v 6)))) (.add (.neg (.mul (.mul (.pw (.v 1) 2) (.pw (.v 5) 2)) (.pw (.v 6) 2))) (.add (.mul (.mul (.c (-5)) (.v 1)) (.pw (.v 2) 3)) (.mul (.mul (.mul (.c 3) (.v 1)) (.pw (.v 2) 2)) (.pw (.v 4) 2))))))) (.add (.add (.add (.add (.mul (.mul (.mul (.mul (.c (-5)) (.v 1)) (.pw (.v 2) 2)) (.v 4)) (.v 5)) (.add (.neg (.mul (.mul (.mul (.v 1) (.pw (.v 2) 2)) (.v 4)) (.v 6))) (.mul (.mul (.mul (.c 4) (.v 1)) (.pw (.v 2) 2)) (.pw (.v 5) 2)))) (.add (.mul (.mul (.mul (.mul (.c 5) (.v 1)) (.pw (.v 2) 2)) (.v 5)) (.v 6)) (.add (.mul (.mul (.mul (.c 3) (.v 1)) (.pw (.v 2) 2)) (.pw (.v 6) 2)) (.mul (.mul (.mul (.mul (.c (-2)) (.v 1)) (.v 2)) (.v 3)) (.v 4))))) (.add (.add (.mul (.mul (.mul (.mul (.c 6) (.v 1)) (.v 2)) (.v 3)) (.v 5)) (.add (.mul (.mul (.mul (.mul (.c 4) (.v 1)) (.v 2)) (.pw (.v 4) 3)) (.v 5)) (.mul (.mul (.mul (.mul (.c 2) (.v 1)) (.v 2)) (.pw (.v 4) 3)) (.v 6)))) (.add (.neg (.mul (.mul (.mul (.v 1) (.v 2)) (.pw (.v 4) 2)) (.pw (.v 5) 2))) (.add (.mul (.mul (.mul (.mul (.mul (.c (-6)) (.v 1)) (.v 2)) (.pw (.v 4) 2)) (.v 5)) (.v 6)) (.mul (.mul (.mul (.mul (.c (-4)) (.v 1)) (.v 2)) (.pw (.v 4) 2)) (.pw (.v 6) 2)))))) (.add (.add (.add (.mul (.mul (.mul (.mul (.c 6) (.v 1)) (.v 2)) (.v 4)) (.pw (.v 5) 3)) (.add (.mul (.mul (.mul (.mul (.mul (.c 2) (.v 1)) (.v 2)) (.v 4)) (.pw (.v 5) 2)) (.v 6)) (.mul (.mul (.mul (.c 2) (.v 1)) (.v 2)) (.pw (.v 5) 4)))) (.add (.mul (.mul (.mul (.mul (.c (-2)) (.v 1)) (.v 2)) (.pw (.v 5) 3)) (.v 6)) (.add (.mul (.mul (.mul (.mul (.c (-2)) (.v 1)) (.v 2)) (.pw (.v 5) 2)) (.pw (.v 6) 2)) (.mul (.mul (.mul (.c (-4)) (.v 1)) (.v 3)) (.pw (.v 4) 3))))) (.add (.add (.mul (.mul (.mul (.mul (.c (-6)) (.v 1)) (.v 3)) (.pw (.v 4) 2)) (.v 5)) (.add (.mul (.mul (.mul (.mul (.c 2) (.v 1)) (.v 3)) (.pw (.v 4) 2)) (.v 6)) (.mul (.mul (.mul (.mul (.c 8) (.v 1)) (.v 3)) (.v 4)) (.pw (.v 5) 2)))) (.add (.mul (.mul (.mul (.c 2) (.v 1)) (.v 3)) (.pw (.v 5) 3)) (.add (.mul (.mul (.mul (.mul (.c (-2)) (.v 1)) (.v 3)) (.pw (.v 5) 2)) (.v 6)) (.neg (.mul (.v 1) (.pw (.v 4) 6))))))))) (.add (.add (.add (.add (.add (.mul (.mul (.mul (.c (-2)) (.v 1)) (.pw (.v 4) 5)) (.v 5)) (.mul (.mul (.v 1) (.pw (.v 4) 4)) (.pw (.v 5) 2))) (.add (.mul (.mul (.mul (.mul (.c 2) (.v 1)) (.pw (.v 4) 4)) (.v 5)) (.v 6)) (.add (.mul (.mul (.v 1) (.pw (.v 4) 4)) (.pw (.v 6) 2)) (.neg (.mul (.mul (.v 1) (.pw (.v 4) 3)) (.pw (.v 5) 3)))))) (.add (.add (.mul (.mul (.mul (.mul (.c (-3)) (.v 1)) (.pw (.v 4) 3)) (.pw (.v 5) 2)) (.v 6)) (.add (.neg (.mul (.mul (.v 1) (.pw (.v 4) 2)) (.pw (.v 5) 4))) (.mul (.mul (.mul (.v 1) (.pw (.v 4) 2)) (.pw (.v 5) 3)) (.v 6)))) (.add (.mul (.mul (.mul (.mul (.c 2) (.v 1)) (.pw (.v 4) 2)) (.pw (.v 5) 2)) (.pw (.v 6) 2)) (.add (.mul (.c (-2)) (.pw (.v 2) 4)) (.mul (.mul (.c 3) (.pw (.v 2) 3)) (.pw (.v 4) 2)))))) (.add (.add (.add (.mul (.mul (.c 4) (.pw (.v 2) 3)) (.pw (.v 5) 2)) (.add (.mul (.mul (.mul (.c 2) (.pw (.v 2) 3)) (.v 5)) (.v 6)) (.mul (.pw (.v 2) 3) (.pw (.v 6) 2)))) (.add (.mul (.mul (.mul (.c 4) (.pw (.v 2) 2)) (.v 3)) (.v 5)) (.add (.mul (.mul (.mul (.c 3) (.pw (.v 2) 2)) (.pw (.v 4) 3)) (.v 5)) (.mul (.mul (.pw (.v 2) 2) (.pw (.v 4) 3)) (.v 6))))) (.add (.add (.mul (.mul (.mul (.c (-4)) (.pw (.v 2) 2)) (.pw (.v 4) 2)) (.pw (.v 5) 2)) (.add (.mul (.mul (.mul (.mul (.c (-3)) (.pw (.v 2) 2)) (.pw (.v 4) 2)) (.v 5)) (.v 6)) (.mul (.mul (.mul (.c (-2)) (.pw (.v 2) 2)) (.pw (.v 4) 2)) (.pw (.v 6) 2)))) (.add (.mul (.mul (.c (-2)) (.pw (.v 2) 2)) (.pw (.v 5) 4)) (.add (.mul (.mul (.mul (.c (-2)) (.pw (.v 2) 2)) (.pw (.v 5) 3)) (.v 6)) (.neg (.mul (.mul (.pw (.v 2) 2) (.pw (.v 5) 2)) (.pw (.v 6) 2)))))))) (.add (.add (.add (.add (.mul (.mul (.mul (.c 2) (.v 2)) (.v 3)) (.pw (.v 4) 3)) (.add (.mul (.mul (.mul (.mul (.c 2) (.v 2)) (.v 3)) (.pw (.v 4) 2)) (.v 6)) (.mul (.mul (.mul (.c (-6)) (.v 2)) (.v 3)) (.pw (.v 5) 3)))) (.add (.mul (.mul (.mul (.mul (.c (-2)) (.v 2)) (.v 3)) (.pw (.v 5) 2)) (.v 6)) (.add (.neg (.mul (.mul (.v 2) (.pw (.v 4) 5)) (.v 5))) (.neg (.mul (.mul (.v 2) (.pw (.v 4) 5)) (.v 6)))))) (.add (.add (.mul (.mul (.mul (.v 2) (.pw (.v 4) 4)) (.v 5)) (.v 6)) (.add (.mul (.mul (.v 2) (.pw (.v 4) 4)) (.pw (.v 6) 2)) (.mul (.mul (.mul (.c (-3)) (.v 2)) (.pw (.v 4) 3)) (.pw (.v 5) 3)))) (.add (.neg (.mul (.mul (.mul (.v 2) (.pw (.v 4) 3)) (.pw (.v 5) 2)) (.v 6))) (.add (.mul (.mul (.v 2) (.pw (.v 4) 2)) (.pw (.v 5) 4)) (.mul (.mul (.mul (.mul (.c 3) (.v 2)) (.pw (.v 4) 2)) (.pw (.v 5) 3)) (.v 6)))))) (.add (.add (.add (.mul (.mul (.mul (.mul (.c 2) (.v 2)) (.pw (.v 4) 2)) (.pw (.v 5) 2)) (.pw (.v 6) 2)) (.add (.mul (.mul (.c 4) (.pw (.v 3) 2)) (.pw (.v 4) 2)) (.mul (.mul (.c (-4)) (.pw (.v 3) 2)) (.pw (.v 5) 2)))) (.add (.mul (.mul (.c 2) (.v 3)) (.pw (.v 4) 5)) (.add (.mul (.mul (.mul (.c (-2)) (.v 3)) (.pw (.v 4) 4)) (.v 6)) (.mul (.mul (.mul (.c (-4)) (.v 3)) (.pw (.v 4) 3)) (.pw (.v 5) 2))))) (.add (.add (.mul (.mul (.mul (.c 2) (.v 3)) (.pw (.v 4) 2)) (.pw (.v 5) 3)) (.add (.mul (.mul (.mul (.mul (.c 2) (.v 3)) (.pw (.v 4) 2)) (.pw (.v 5) 2)) (.v 6)) (.mul (.pw (.v 4) 5) (.pw (.v 5) 3)))) (.add (.mul (.mul (.pw (.v 4) 5) (.pw (.v 5) 2)) (.v 6)) (.add (.neg (.mul (.mul (.pw (.v 4) 4) (.pw (.v 5) 3)) (.v 6))) (.neg (.mul (.mul (.pw (.v 4) 4) (.pw (.v 5) 2)) (.pw (.v 6) 2))))))))))),.sub (.mul (.v 6) (.sub (.sub (.sub (.mul (.v 4) (.v 4)) (.v 0)) (.v 1)) (.v 2))) (.sub (.sub (.mul (.v 4) (.sub (.v 1) (.sub (.sub (.mul (.v 4) (.v 4)) (.v 0)) (.v 1)))) (.v 3)) (.add (.v 3) (.mul (.v 5) (.sub (.v 2) (.v 1)))))),
  ((.add (.add (.add (.add (.add (.neg (.mul (.pw (.v 0) 3) (.v 1))) (.add (.mul (.pw (.v 0) 3) (.v 2)) (.mul (.pw (.v 0) 3) (.pw (.v 4) 2)))) (.add (.neg (.mul (.pw (.v 0) 3) (.pw (.v 6) 2))) (.add (.mul (.mul (.c (-3)) (.pw (.v 0) 2)) (.pw (.v 1) 2)) (.mul (.mul (.mul (.c 6) (.pw (.v 0) 2)) (.v 1)) (.pw (.v 4) 2))))) (.add (.add (.mul (.mul (.mul (.c (-3)) (.pw (.v 0) 2)) (.v 1)) (.pw (.v 6) 2)) (.add (.mul (.mul (.c 3) (.pw (.v 0) 2)) (.pw (.v 2) 2)) (.mul (.mul (.mul (.c (-3)) (.pw (.v 0) 2)) (.v 2)) (.pw (.v 6) 2)))) (.add (.mul (.mul (.c (-3)) (.pw (.v 0) 2)) (.pw (.v 4) 4)) (.add (.mul (.mul (.mul (.c 3) (.pw (.v 0) 2)) (.pw (.v 4) 2)) (.pw (.v 6) 2)) (.mul (.mul (.c (-3)) (.v 0)) (.pw (.v 1) 3)))))) (.add (.add (.add (.mul (.mul (.mul (.c (-3)) (.v 0)) (.pw (.v 1) 2)) (.v 2)) (.add (.mul (.mul (.mul (.c 9) (.v 0)) (.pw (.v 1) 2)) (.pw (.v 4) 2)) (.mul (.mul (.mul (.c (-3)) (.v 0)) (.pw (.v 1) 2)) (.pw (.v 6) 2)))) (.add (.mul (.mul (.mul (.c 3) (.v 0)) (.v 1)) (.pw (.v 2) 2)) (.add (.mul (.mul (.mul (.mul (.c 6) (.v 0)) (.v 1)) (.v 2)) (.pw (.v 4) 2)) (.mul (.mul (.mul (.mul (.c (-6)) (.v 0)) (.v 1)) (.v 2)) (.pw (.v 6) 2))))) (.add (.add (.mul (.mul (.mul (.c (-9)) (.v 0)) (.v 1)) (.pw (.v 4) 4)) (.add (.mul (.mul (.mul (.mul (.c 6) (.v 0)) (.v 1)) (.pw (.v 4) 2)) (.pw (.v 6) 2)) (.mul (.mul (.c 3) (.v 0)) (.pw (.v 2) 3)))) (.add (.mul (.mul (.mul (.c (-3)) (.v 0)) (.pw (.v 2) 2)) (.pw (.v 4) 2)) (.add (.mul (.mul (.mul (.c (-3)) (.v 0)) (.pw (.v 2) 2)) (.pw (.v 6) 2)) (.mul (.mul (.mul (.c (-3)) (.v 0)) (.v 2)) (.pw (.v 4) 4))))))) (.add (.add (.add (.add (.mul (.mul (.mul (.mul (.c 6) (.v 0)) (.v 2)) (.pw (.v 4) 2)) (.pw (.v 6) 2)) (.add (.mul (.mul (.c 3) (.v 0)) (.pw (.v 4) 6)) (.mul (.mul (.mul (.c (-3)) (.v 0)) (.pw (.v 4) 4)) (.pw (.v 6) 2)))) (.add (.neg (.pw (.v 1) 4)) (.add (.mul (.mul (.c (-2)) (.pw (.v 1) 3)) (.v 2)) (.mul (.mul (.c 4) (.pw (.v 1) 3)) (.pw (.v 4) 2))))) (.add (.add (.neg (.mul (.pw (.v 1) 3) (.pw (.v 6) 2))) (.add (.mul (.mul (.mul (.c 6) (.pw (.v 1) 2)) (.v 2)) (.pw (.v 4) 2)) (.mul (.mul (.mul (.c (-3)) (.pw (.v 1) 2)) (.v 2)) (.pw (.v 6) 2)))) (.add (.mul (.mul (.c (-6)) (.pw (.v 1) 2)) (.pw (.v 4) 4)) (.add (.mul (.mul (.mul (.c 3) (.pw (.v 1) 2)) (.pw (.v 4) 2)) (.pw (.v 6) 2)) (.mul (.mul (.c 2) (.v 1)) (.pw (.v 2) 3)))))) (.add (.add (.add (.mul (.mul (.mul (.c (-3)) (.v 1)) (.pw (.v 2) 2)) (.pw (.v 6) 2)) (.add (.mul (.mul (.mul (.c (-6)) (.v 1)) (.v 2)) (.pw (.v 4) 4)) (.mul (.mul (.mul (.mul (.c 6) (.v 1)) (.v 2)) (.pw (.v 4) 2)) (.pw (.v 6) 2)))) (.add (.mul (.mul (.c 4) (.v 1)) (.pw (.v 4) 6)) (.add (.mul (.mul (.mul (.c (-3)) (.v 1)) (.pw (.v 4) 4)) (.pw (.v 6) 2)) (.pw (.v 2) 4)))) (.add (.add (.mul (.mul (.c (-2)) (.pw (.v 2) 3)) (.pw (.v 4) 2)) (.add (.neg (.mul (.pw (.v 2) 3) (.pw (.v 6) 2))) (.mul (.mul (.mul (.c 3) (.pw (.v 2) 2)) (.pw (.v 4) 2)) (.pw (.v 6) 2)))) (.add (.add (.mul (.mul (.c 2) (.v 2)) (.pw (.v 4) 6)) (.mul (.mul (.mul (.c (-3)) (.v 2)) (.pw (.v 4) 4)) (.pw (.v 6) 2))) (.add (.neg (.pw (.v 4) 8)) (.mul (.pw (.v 4) 6) (.pw (.v 6) 2)))))))),.sub (.mul (.v 7) (.sub (.sub (.sub (.mul (.v 5) (.v 5)) (.v 1)) (.v 2)) (.v 0))) (.sub (.sub (.mul (.v 5) (.sub (.v 1) (.sub (.sub (.mul (.v 5) (.v 5)) (.v 1)) (.v 2)))) (.v 3)) (.add (.v 3) (.mul (.v 4) (.sub (.v 0) (.v 1))))))] ⟨AJ.2 r1,AJ.2 r2,AJ.2 hs,AJ.2 ht,trivial⟩ (by kernel_rfl))
theorem nG {F:Type} [CR F] (x h m k s:F) (r2:(((m*k)*h)+((m*k)*h))=(((x*x)+(x*(x+(h+h))))+((x+(h+h))*(x+(h+h))))) (rs:((((k+m)*h)+((k+m)*h))*s)=((((x+(h+h))*(x+(h+h)))+((x+(h+h))*(x+(h+h))))+((x+(h+h))*(x+(h+h))))):(((((k+m)*h)+((k+m)*h))*(((k+m)*h)+((k+m)*h)))*((((((m*m)-x)-(x+(h+h)))-(((k*k)-x)-(x+(h+h))))*((((m*m)-x)-(x+(h+h)))-(((k*k)-x)-(x+(h+h)))))*(((s*s)-(x+(h+h)))-(x+(h+h)))))=(((((k+m)*h)+((k+m)*h))*(((k+m)*h)+((k+m)*h)))*(((((m*(x-(((m*m)-x)-(x+(h+h)))))-((k-m)*h))-((k*(x-(((k*k)-x)-(x+(h+h)))))+((k-m)*h)))*(((m*(x-(((m*m)-x)-(x+(h+h)))))-((k-m)*h))-((k*(x-(((k*k)-x)-(x+(h+h)))))+((k-m)*h))))-((((((m*m)-x)-(x+(h+h)))-(((k*k)-x)-(x+(h+h))))*((((m*m)-x)-(x+(h+h)))-(((k*k)-x)-(x+(h+h)))))*((((k*k)-x)-(x+(h+h)))+(((m*m)-x)-(x+(h+h))))))) :=
 AJ.1 (Aq [x,h,m,k,s] (.sub (.mul (.mul (.add (.mul (.add (.v 3) (.v 2)) (.v 1)) (.mul (.add (.v 3) (.v 2)) (.v 1))) (.add (.mul (.add (.v 3) (.v 2)) (.v 1)) (.mul (.add (.v 3) (.v 2)) (.v 1)))) (.mul (.mul (.sub (.sub (.sub (.mul (.v 2) (.v 2)) (.v 0)) (.add (.v 0) (.add (.v 1) (.v 1)))) (.sub (.sub (.mul (.v 3) (.v 3)) (.v 0)) (.add (.v 0) (.add (.v 1) (.v 1))))) (.sub (.sub (.sub (.mul (.v 2) (.v 2)) (.v 0)) (.add (.v 0) (.add (.v 1) (.v 1)))) (.sub (.sub (.mul (.v 3) (.v 3)) (.v 0)) (.add (.v 0) (.add (.v 1) (.v 1)))))) (.sub (.sub (.mul (.v 4) (.v 4)) (.add (.v 0) (.add (.v 1) (.v 1)))) (.add (.v 0) (.add (.v 1) (.v 1)))))) (.mul (.mul (.add (.mul (.add (.v 3) (.v 2)) (.v 1)) (.mul (.add (.v 3) (.v 2)) (.v 1))) (.add (.mul (.add (.v 3) (.v 2)) (.v 1)) (.mul (.add (.v 3) (.v 2)) (.v 1)))) (.sub (.mul (.sub (.sub (.mul (.v 2) (.sub (.v 0) (.sub (.sub (.mul (.v 2) (.v 2)) (.v 0)) (.add (.v 0) (.add (.v 1) (.v 1)))))) (.mul (.sub (.v 3) (.v 2)) (.v 1))) (.add (.mul (.v 3) (.sub (.v 0) (.sub (.sub (.mul (.v 3) (.v 3)) (.v 0)) (.add (.v 0) (.add (.v 1) (.v 1)))))) (.mul (.sub (.v 3) (.v 2)) (.v 1)))) (.sub (.sub (.mul (.v 2) (.sub (.v 0) (.sub (.sub (.mul (.v 2) (.v 2)) (.v 0)) (.add (.v 0) (.add (.v 1) (.v 1)))))) (.mul (.sub (.v 3) (.v 2)) (.v 1))) (.add (.mul (.v 3) (.sub (.v 0) (.sub (.sub (.mul (.v 3) (.v 3)) (.v 0)) (.add (.v 0) (.add (.v 1) (.v 1)))))) (.mul (.sub (.v 3) (.v 2)) (.v 1))))) (.mul (.mul (.sub (.sub (.sub (.mul (.v 2) (.v 2)) (.v 0)) (.add (.v 0) (.add (.v 1) (.v 1)))) (.sub (.sub (.mul (.v 3) (.v 3)) (.v 0)) (.add (.v 0) (.add (.v 1) (.v 1))))) (.sub (.sub (.sub (.mul (.v 2) (.v 2)) (.v 0)) (.add (.v 0) (.add (.v 1) (.v 1)))) (.sub (.sub (.mul (.v 3) (.v 3)) (.v 0)) (.add (.v 0) (.add (.v 1) (.v 1)))))) (.add (.sub (.sub (.mul (.v 3) (.v 3)) (.v 0)) (.add (.v 0) (.add (.v 1) (.v 1)))) (.sub (.sub (.mul (.v 2) (.v 2)) (.v 0)) (.add (.v 0) (.add (.v 1) (.v 1))))))))) [((.add (.add (.add (.mul (.mul (.c (-3)) (.pw (.v 0) 2)) (.pw (.v 2) 4)) (.add (.mul (.mul (.mul (.c 6) (.pw (.v 0) 2)) (.pw (.v 2) 2)) (.pw (.v 3) 2)) (.mul (.mul (.c (-3)) (.pw (.v 0) 2)) (.pw (.v 3) 4)))) (.add (.mul (.mul (.mul (.c (-18)) (.v 0)) (.v 1)) (.pw (.v 2) 4)) (.add (.mul (.mul (.mul (.mul (.c 36) (.v 0)) (.v 1)) (.pw (.v 2) 2)) (.pw (.v 3) 2)) (.mul (.mul (.mul (.c (-18)) (.v 0)) (.v 1)) (.pw (.v 3) 4))))) (.add (.add (.mul (.mul (.c (-20)) (.pw (.v 1) 2)) (.pw (.v 2) 4)) (.add (.mul (.mul (.mul (.c 40) (.pw (.v 1) 2)) (.pw (.v 2) 2)) (.pw (.v 3) 2)) (.mul (.mul (.c (-20)) (.pw (.v 1) 2)) (.pw (.v 3) 4)))) (.add (.mul (.mul (.mul (.c (-2)) (.v 1)) (.pw (.v 2) 5)) (.v 3)) (.add (.mul (.mul (.mul (.c 4) (.v 1)) (.pw (.v 2) 3)) (.pw (.v 3) 3)) (.mul (.mul (.mul (.c (-2)) (.v 1)) (.v 2)) (.pw (.v 3) 5)))))),.sub (.add (.mul (.mul (.v 2) (.v 3)) (.v 1)) (.mul (.mul (.v 2) (.v 3)) (.v 1))) (.add (.add (.mul (.v 0) (.v 0)) (.mul (.v 0) (.add (.v 0) (.add (.v 1) (.v 1))))) (.mul (.add (.v 0) (.add (.v 1) (.v 1))) (.add (.v 0) (.add (.v 1) (.v 1)))))),
  ((.add (.add (.add (.mul (.mul (.c 3) (.pw (.v 0) 2)) (.pw (.v 2) 4)) (.add (.mul (.mul (.mul (.c (-6)) (.pw (.v 0) 2)) (.pw (.v 2) 2)) (.pw (.v 3) 2)) (.mul (.mul (.c 3) (.pw (.v 0) 2)) (.pw (.v 3) 4)))) (.add (.add (.mul (.mul (.mul (.c 12) (.v 0)) (.v 1)) (.pw (.v 2) 4)) (.mul (.mul (.mul (.mul (.c (-24)) (.v 0)) (.v 1)) (.pw (.v 2) 2)) (.pw (.v 3) 2))) (.add (.mul (.mul (.mul (.c 12) (.v 0)) (.v 1)) (.pw (.v 3) 4)) (.mul (.mul (.c 12) (.pw (.v 1) 2)) (.pw (.v 2) 4))))) (.add (.add (.add (.mul (.mul (.mul (.c (-24)) (.pw (.v 1) 2)) (.pw (.v 2) 2)) (.pw (.v 3) 2)) (.mul (.mul (.c 12) (.pw (.v 1) 2)) (.pw (.v 3) 4))) (.add (.mul (.mul (.mul (.c 2) (.v 1)) (.pw (.v 2) 5)) (.v 4)) (.mul (.mul (.mul (.mul (.c 2) (.v 1)) (.pw (.v 2) 4)) (.v 3)) (.v 4)))) (.add (.add (.mul (.mul (.mul (.mul (.c (-4)) (.v 1)) (.pw (.v 2) 3)) (.pw (.v 3) 2)) (.v 4)) (.mul (.mul (.mul (.mul (.c (-4)) (.v 1)) (.pw (.v 2) 2)) (.pw (.v 3) 3)) (.v 4))) (.add (.mul (.mul (.mul (.mul (.c 2) (.v 1)) (.v 2)) (.pw (.v 3) 4)) (.v 4)) (.mul (.mul (.mul (.c 2) (.v 1)) (.pw (.v 3) 5)) (.v 4)))))),.sub (.mul (.add (.mul (.add (.v 3) (.v 2)) (.v 1)) (.mul (.add (.v 3) (.v 2)) (.v 1))) (.v 4)) (.add (.add (.mul (.add (.v 0) (.add (.v 1) (.v 1))) (.add (.v 0) (.add (.v 1) (.v 1)))) (.mul (.add (.v 0) (.add (.v 1) (.v 1))) (.add (.v 0) (.add (.v 1) (.v 1))))) (.mul (.add (.v 0) (.add (.v 1) (.v 1))) (.add (.v 0) (.add (.v 1) (.v 1))))))] ⟨AJ.2 r2,AJ.2 rs,trivial⟩ (by kernel_rfl))
theorem nJ {F:Type} [CR F] (x h m k s:F) (r2:(((m*k)*h)+((m*k)*h))=(((x*x)+(x*(x+(h+h))))+((x+(h+h))*(x+(h+h))))) (rs:((((k+m)*h)+((k+m)*h))*s)=((((x+(h+h))*(x+(h+h)))+((x+(h+h))*(x+(h+h))))+((x+(h+h))*(x+(h+h))))):((((((k+m)*h)+((k+m)*h))*(((k+m)*h)+((k+m)*h)))*(((k+m)*h)+((k+m)*h)))*(((((m*m)-x)-(x+(h+h)))-(((k*k)-x)-(x+(h+h))))*((s*((x+(h+h))-(((s*s)-(x+(h+h)))-(x+(h+h)))))-((k+m)*h))))=((((((k+m)*h)+((k+m)*h))*(((k+m)*h)+((k+m)*h)))*(((k+m)*h)+((k+m)*h)))*(((((m*(x-(((m*m)-x)-(x+(h+h)))))-((k-m)*h))-((k*(x-(((k*k)-x)-(x+(h+h)))))+((k-m)*h)))*((((k*k)-x)-(x+(h+h)))-(((s*s)-(x+(h+h)))-(x+(h+h)))))-(((((m*m)-x)-(x+(h+h)))-(((k*k)-x)-(x+(h+h))))*((k*(x-(((k*k)-x)-(x+(h+h)))))+((k-m)*h))))) :=
 AJ.1 (Aq [x,h,m,k,s] (.sub (.mul (.mul (.mul (.add (.mul (.add (.v 3) (.v 2)) (.v 1)) (.mul (.add (.v 3) (.v 2)) (.v 1))) (.add (.mul (.add (.v 3) (.v 2)) (.v 1)) (.mul (.add (.v 3) (.v 2)) (.v 1)))) (.add (.mul (.add (.v 3) (.v 2)) (.v 1)) (.mul (.add (.v 3) (.v 2)) (.v 1)))) (.mul (.sub (.sub (.sub (.mul (.v 2) (.v 2)) (.v 0)) (.add (.v 0) (.add (.v 1) (.v 1)))) (.sub (.sub (.mul (.v 3) (.v 3)) (.v 0)) (.add (.v 0) (.add (.v 1) (.v 1))))) (.sub (.mul (.v 4) (.sub (.add (.v 0) (.add (.v 1) (.v 1))) (.sub (.sub (.mul (.v 4) (.v 4)) (.add (.v 0) (.add (.v 1) (.v 1)))) (.add (.v 0) (.add (.v 1) (.v 1)))))) (.mul (.add (.v 3) (.v 2)) (.v 1))))) (.mul (.mul (.mul (.add (.mul (.add (.v 3) (.v 2)) (.v 1)) (.mul (.add (.v 3) (.v 2)) (.v 1))) (.add (.mul (.add (.v 3) (.v 2)) (.v 1)) (.mul (.add (.v 3) (.v 2)) (.v 1)))) (.add (.mul (.add (.v 3) (.v 2)) (.v 1)) (.mul (.add (.v 3) (.v 2)) (.v 1)))) (.sub (.mul (.sub (.sub (.mul (.v 2) (.sub (.v 0) (.sub (.sub (.mul (.v 2) (.v 2)) (.v 0)) (.add (.v 0) (.add (.v 1) (.v 1)))))) (.mul (.sub (.v 3) (.v 2)) (.v 1))) (.add (.mul (.v 3) (.sub (.v 0) (.sub (.sub (.mul (.v 3) (.v 3)) (.v 0)) (.add (.v 0) (.add (.v 1) (.v 1)))))) (.mul (.sub (.v 3) (.v 2)) (.v 1)))) (.sub (.sub (.sub (.mul (.v 3) (.v 3)) (.v 0)) (.add (.v 0) (.add (.v 1) (.v 1)))) (.sub (.sub (.mul (.v 4) (.v 4)) (.add (.v 0) (.add (.v 1) (.v 1)))) (.add (.v 0) (.add (.v 1) (.v 1)))))) (.mul (.sub (.sub (.sub (.mul (.v 2) (.v 2)) (.v 0)) (.add (.v 0) (.add (.v 1) (.v 1)))) (.sub (.sub (.mul (.v 3) (.v 3)) (.v 0)) (.add (.v 0) (.add (.v 1) (.v 1))))) (.add (.mul (.v 3) (.sub (.v 0) (.sub (.sub (.mul (.v 3) (.v 3)) (.v 0)) (.add (.v 0) (.add (.v 1) (.v 1)))))) (.mul (.sub (.v 3) (.v 2)) (.v 1))))))) [((.add (.add (.add (.add (.mul (.mul (.c 9) (.pw (.v 0) 4)) (.pw (.v 2) 2)) (.add (.mul (.mul (.c (-9)) (.pw (.v 0) 4)) (.pw (.v 3) 2)) (.mul (.mul (.mul (.c 72) (.pw (.v 0) 3)) (.v 1)) (.pw (.v 2) 2)))) (.add (.mul (.mul (.mul (.c (-72)) (.pw (.v 0) 3)) (.v 1)) (.pw (.v 3) 2)) (.add (.mul (.mul (.mul (.c 216) (.pw (.v 0) 2)) (.pw (.v 1) 2)) (.pw (.v 2) 2)) (.mul (.mul (.mul (.c (-216)) (.pw (.v 0) 2)) (.pw (.v 1) 2)) (.pw (.v 3) 2))))) (.add (.add (.mul (.mul (.mul (.c 6) (.pw (.v 0) 2)) (.v 1)) (.pw (.v 2) 4)) (.add (.mul (.mul (.mul (.mul (.c 12) (.pw (.v 0) 2)) (.v 1)) (.pw (.v 2) 3)) (.v 3)) (.mul (.mul (.mul (.mul (.c (-12)) (.pw (.v 0) 2)) (.v 1)) (.v 2)) (.pw (.v 3) 3)))) (.add (.add (.mul (.mul (.mul (.c (-6)) (.pw (.v 0) 2)) (.v 1)) (.pw (.v 3) 4)) (.mul (.mul (.mul (.c 288) (.v 0)) (.pw (.v 1) 3)) (.pw (.v 2) 2))) (.add (.mul (.mul (.mul (.c (-288)) (.v 0)) (.pw (.v 1) 3)) (.pw (.v 3) 2)) (.mul (.mul (.mul (.c 24) (.v 0)) (.pw (.v 1) 2)) (.pw (.v 2) 4)))))) (.add (.add (.add (.mul (.mul (.mul (.mul (.c 48) (.v 0)) (.pw (.v 1) 2)) (.pw (.v 2) 3)) (.v 3)) (.add (.mul (.mul (.mul (.mul (.c (-48)) (.v 0)) (.pw (.v 1) 2)) (.v 2)) (.pw (.v 3) 3)) (.mul (.mul (.mul (.c (-24)) (.v 0)) (.pw (.v 1) 2)) (.pw (.v 3) 4)))) (.add (.mul (.mul (.c 144) (.pw (.v 1) 4)) (.pw (.v 2) 2)) (.add (.mul (.mul (.c (-144)) (.pw (.v 1) 4)) (.pw (.v 3) 2)) (.mul (.mul (.c 16) (.pw (.v 1) 3)) (.pw (.v 2) 4))))) (.add (.add (.mul (.mul (.mul (.c 32) (.pw (.v 1) 3)) (.pw (.v 2) 3)) (.v 3)) (.add (.mul (.mul (.mul (.c (-32)) (.pw (.v 1) 3)) (.v 2)) (.pw (.v 3) 3)) (.mul (.mul (.c (-16)) (.pw (.v 1) 3)) (.pw (.v 3) 4)))) (.add (.add (.mul (.mul (.mul (.c 4) (.pw (.v 1) 2)) (.pw (.v 2) 5)) (.v 3)) (.mul (.mul (.mul (.c 8) (.pw (.v 1) 2)) (.pw (.v 2) 4)) (.pw (.v 3) 2))) (.add (.mul (.mul (.mul (.c (-8)) (.pw (.v 1) 2)) (.pw (.v 2) 2)) (.pw (.v 3) 4)) (.mul (.mul (.mul (.c (-4)) (.pw (.v 1) 2)) (.v 2)) (.pw (.v 3) 5))))))),.sub (.add (.mul (.mul (.v 2) (.v 3)) (.v 1)) (.mul (.mul (.v 2) (.v 3)) (.v 1))) (.add (.add (.mul (.v 0) (.v 0)) (.mul (.v 0) (.add (.v 0) (.add (.v 1) (.v 1))))) (.mul (.add (.v 0) (.add (.v 1) (.v 1))) (.add (.v 0) (.add (.v 1) (.v 1)))))),
  ((.add (.add (.add (.add (.add (.mul (.mul (.c (-9)) (.pw (.v 0) 4)) (.pw (.v 2) 2)) (.mul (.mul (.c 9) (.pw (.v 0) 4)) (.pw (.v 3) 2))) (.add (.mul (.mul (.mul (.c (-54)) (.pw (.v 0) 3)) (.v 1)) (.pw (.v 2) 2)) (.add (.mul (.mul (.mul (.c 54) (.pw (.v 0) 3)) (.v 1)) (.pw (.v 3) 2)) (.mul (.mul (.mul (.c (-120)) (.pw (.v 0) 2)) (.pw (.v 1) 2)) (.pw (.v 2) 2))))) (.add (.add (.mul (.mul (.mul (.c 120) (.pw (.v 0) 2)) (.pw (.v 1) 2)) (.pw (.v 3) 2)) (.mul (.mul (.mul (.c (-6)) (.pw (.v 0) 2)) (.v 1)) (.pw (.v 2) 4))) (.add (.mul (.mul (.mul (.mul (.c (-6)) (.pw (.v 0) 2)) (.v 1)) (.pw (.v 2) 3)) (.v 3)) (.add (.mul (.mul (.mul (.mul (.c (-6)) (.pw (.v 0) 2)) (.v 1)) (.pw (.v 2) 3)) (.v 4)) (.mul (.mul (.mul (.mul (.mul (.c (-6)) (.pw (.v 0) 2)) (.v 1)) (.pw (.v 2) 2)) (.v 3)) (.v 4)))))) (.add (.add (.add (.mul (.mul (.mul (.mul (.c 6) (.pw (.v 0) 2)) (.v 1)) (.v 2)) (.pw (.v 3) 3)) (.mul (.mul (.mul (.mul (.mul (.c 6) (.pw (.v 0) 2)) (.v 1)) (.v 2)) (.pw (.v 3) 2)) (.v 4))) (.add (.mul (.mul (.mul (.c 6) (.pw (.v 0) 2)) (.v 1)) (.pw (.v 3) 4)) (.add (.mul (.mul (.mul (.mul (.c 6) (.pw (.v 0) 2)) (.v 1)) (.pw (.v 3) 3)) (.v 4)) (.mul (.mul (.mul (.c (-120)) (.v 0)) (.pw (.v 1) 3)) (.pw (.v 2) 2))))) (.add (.add (.mul (.mul (.mul (.c 120) (.v 0)) (.pw (.v 1) 3)) (.pw (.v 3) 2)) (.mul (.mul (.mul (.c (-12)) (.v 0)) (.pw (.v 1) 2)) (.pw (.v 2) 4))) (.add (.mul (.mul (.mul (.mul (.c (-12)) (.v 0)) (.pw (.v 1) 2)) (.pw (.v 2) 3)) (.v 4)) (.add (.mul (.mul (.mul (.mul (.mul (.c (-12)) (.v 0)) (.pw (.v 1) 2)) (.pw (.v 2) 2)) (.v 3)) (.v 4)) (.mul (.mul (.mul (.mul (.mul (.c 12) (.v 0)) (.pw (.v 1) 2)) (.v 2)) (.pw (.v 3) 2)) (.v 4))))))) (.add (.add (.add (.add (.mul (.mul (.mul (.c 12) (.v 0)) (.pw (.v 1) 2)) (.pw (.v 3) 4)) (.mul (.mul (.mul (.mul (.c 12) (.v 0)) (.pw (.v 1) 2)) (.pw (.v 3) 3)) (.v 4))) (.add (.mul (.mul (.c (-48)) (.pw (.v 1) 4)) (.pw (.v 2) 2)) (.add (.mul (.mul (.c 48) (.pw (.v 1) 4)) (.pw (.v 3) 2)) (.mul (.mul (.mul (.c 24) (.pw (.v 1) 3)) (.pw (.v 2) 3)) (.v 3))))) (.add (.add (.mul (.mul (.mul (.c (-8)) (.pw (.v 1) 3)) (.pw (.v 2) 3)) (.v 4)) (.mul (.mul (.mul (.mul (.c (-8)) (.pw (.v 1) 3)) (.pw (.v 2) 2)) (.v 3)) (.v 4))) (.add (.mul (.mul (.mul (.c (-24)) (.pw (.v 1) 3)) (.v 2)) (.pw (.v 3) 3)) (.add (.mul (.mul (.mul (.mul (.c 8) (.pw (.v 1) 3)) (.v 2)) (.pw (.v 3) 2)) (.v 4)) (.mul (.mul (.mul (.c 8) (.pw (.v 1) 3)) (.pw (.v 3) 3)) (.v 4)))))) (.add (.add (.add (.mul (.mul (.mul (.c (-4)) (.pw (.v 1) 2)) (.pw (.v 2) 5)) (.v 4)) (.mul (.mul (.mul (.mul (.c (-8)) (.pw (.v 1) 2)) (.pw (.v 2) 4)) (.v 3)) (.v 4))) (.add (.mul (.mul (.mul (.c (-4)) (.pw (.v 1) 2)) (.pw (.v 2) 4)) (.pw (.v 4) 2)) (.add (.mul (.mul (.mul (.mul (.c (-4)) (.pw (.v 1) 2)) (.pw (.v 2) 3)) (.pw (.v 3) 2)) (.v 4)) (.mul (.mul (.mul (.mul (.c (-8)) (.pw (.v 1) 2)) (.pw (.v 2) 3)) (.v 3)) (.pw (.v 4) 2))))) (.add (.add (.mul (.mul (.mul (.mul (.c 4) (.pw (.v 1) 2)) (.pw (.v 2) 2)) (.pw (.v 3) 3)) (.v 4)) (.mul (.mul (.mul (.mul (.c 8) (.pw (.v 1) 2)) (.v 2)) (.pw (.v 3) 4)) (.v 4))) (.add (.mul (.mul (.mul (.mul (.c 8) (.pw (.v 1) 2)) (.v 2)) (.pw (.v 3) 3)) (.pw (.v 4) 2)) (.add (.mul (.mul (.mul (.c 4) (.pw (.v 1) 2)) (.pw (.v 3) 5)) (.v 4)) (.mul (.mul (.mul (.c 4) (.pw (.v 1) 2)) (.pw (.v 3) 4)) (.pw (.v 4) 2)))))))),.sub (.mul (.add (.mul (.add (.v 3) (.v 2)) (.v 1)) (.mul (.add (.v 3) (.v 2)) (.v 1))) (.v 4)) (.add (.add (.mul (.add (.v 0) (.add (.v 1) (.v 1))) (.add (.v 0) (.add (.v 1) (.v 1)))) (.mul (.add (.v 0) (.add (.v 1) (.v 1))) (.add (.v 0) (.add (.v 1) (.v 1))))) (.mul (.add (.v 0) (.add (.v 1) (.v 1))) (.add (.v 0) (.add (.v 1) (.v 1))))))] ⟨AJ.2 r2,AJ.2 rs,trivial⟩ (by kernel_rfl))
theorem nK {F:Type} [CR F] (y2 y3 h m k:F) (ha:(y3-y2)=(m*(h+h))) (hb:(y3+y2)=(k*(h+h))):((int 2)*y2)=((int 2)*((k-m)*h)) :=
 AJ.1 (Aq [y2,y3,h,m,k] (.sub (.mul (.c 2) (.v 0)) (.mul (.c 2) (.mul (.sub (.v 4) (.v 3)) (.v 2)))) [((.c (-1)),.sub (.sub (.v 1) (.v 0)) (.mul (.v 3) (.add (.v 2) (.v 2)))),
  ((.c 1),.sub (.add (.v 1) (.v 0)) (.mul (.v 4) (.add (.v 2) (.v 2))))] ⟨AJ.2 ha,AJ.2 hb,trivial⟩ (by kernel_rfl))
theorem nL {F:Type} [CR F] (y2 y3 h m k:F) (ha:(y3-y2)=(m*(h+h))) (hb:(y3+y2)=(k*(h+h))):((int 2)*y3)=((int 2)*((k+m)*h)) :=
 AJ.1 (Aq [y2,y3,h,m,k] (.sub (.mul (.c 2) (.v 1)) (.mul (.c 2) (.mul (.add (.v 4) (.v 3)) (.v 2)))) [((.c 1),.sub (.sub (.v 1) (.v 0)) (.mul (.v 3) (.add (.v 2) (.v 2)))),
  ((.c 1),.sub (.add (.v 1) (.v 0)) (.mul (.v 4) (.add (.v 2) (.v 2))))] ⟨AJ.2 ha,AJ.2 hb,trivial⟩ (by kernel_rfl))
theorem nM {F:Type} [CR F] (d i:F) (h:((int 2)*i)=(int 1)):((d*i)+(d*i))=d :=
 AJ.1 (Aq [d,i] (.sub (.add (.mul (.v 0) (.v 1)) (.mul (.v 0) (.v 1))) (.v 0)) [((.v 0),.sub (.mul (.c 2) (.v 1)) (.c 1))] ⟨AJ.2 h,trivial⟩ (by kernel_rfl))
theorem two_mul {F:Type} [CR F] (y:F) :(y+y)=((int 2)*y) :=
 AJ.1 (Aq [y] (.sub (.add (.v 0) (.v 0)) (.mul (.c 2) (.v 0))) [] trivial (by kernel_rfl))
theorem nN {F:Type} [CR F] (x1 y1 l:F) :y1=((l*x1)+(y1-(l*x1))) :=
 AJ.1 (Aq [x1,y1,l] (.sub (.v 1) (.add (.mul (.v 2) (.v 0)) (.sub (.v 1) (.mul (.v 2) (.v 0))))) [] trivial (by kernel_rfl))
theorem nO {F:Type} [CR F] (x1 y1 x2 y2 l:F) (hl:(l*(x2-x1))=(y2-y1)):y2=((l*x2)+(y1-(l*x1))) :=
 AJ.1 (Aq [x1,y1,x2,y2,l] (.sub (.v 3) (.add (.mul (.v 4) (.v 2)) (.sub (.v 1) (.mul (.v 4) (.v 0))))) [((.c (-1)),.sub (.mul (.v 4) (.sub (.v 2) (.v 0))) (.sub (.v 3) (.v 1)))] ⟨AJ.2 hl,trivial⟩ (by kernel_rfl))
theorem nP {F:Type} [CR F] (x1 x2 l:F) :((x1+x2)+(((l*l)-x1)-x2))=(l*l) :=
 AJ.1 (Aq [x1,x2,l] (.sub (.add (.add (.v 0) (.v 1)) (.sub (.sub (.mul (.v 2) (.v 2)) (.v 0)) (.v 1))) (.mul (.v 2) (.v 2))) [] trivial (by kernel_rfl))
theorem nQ {F:Type} [CR F] (x y h m k:F) (hm:(((m*y)+(m*y))+((m*m)*((x+(h+h))-x)))=((((x+(h+h))*(x+(h+h)))+((x+(h+h))*x))+(x*x))) (hy:y=((k-m)*h)):(((m*k)*h)+((m*k)*h))=(((x*x)+(x*(x+(h+h))))+((x+(h+h))*(x+(h+h)))) :=
 AJ.1 (Aq [x,y,h,m,k] (.sub (.add (.mul (.mul (.v 3) (.v 4)) (.v 2)) (.mul (.mul (.v 3) (.v 4)) (.v 2))) (.add (.add (.mul (.v 0) (.v 0)) (.mul (.v 0) (.add (.v 0) (.add (.v 2) (.v 2))))) (.mul (.add (.v 0) (.add (.v 2) (.v 2))) (.add (.v 0) (.add (.v 2) (.v 2)))))) [((.c 1),.sub (.add (.add (.mul (.v 3) (.v 1)) (.mul (.v 3) (.v 1))) (.mul (.mul (.v 3) (.v 3)) (.sub (.add (.v 0) (.add (.v 2) (.v 2))) (.v 0)))) (.add (.add (.mul (.add (.v 0) (.add (.v 2) (.v 2))) (.add (.v 0) (.add (.v 2) (.v 2)))) (.mul (.add (.v 0) (.add (.v 2) (.v 2))) (.v 0))) (.mul (.v 0) (.v 0)))),
  ((.mul (.c (-2)) (.v 3)),.sub (.v 1) (.mul (.sub (.v 4) (.v 3)) (.v 2)))] ⟨AJ.2 hm,AJ.2 hy,trivial⟩ (by kernel_rfl))
theorem nS {F:Type} [CR F] (a b:F) :a=(b+(a-b)) :=
 AJ.1 (Aq [a,b] (.sub (.v 0) (.add (.v 1) (.sub (.v 0) (.v 1)))) [] trivial (by kernel_rfl))
theorem nT {F:Type} [CR F] (a b:F) (h:(a+b)=0):b=(-a) :=
 AJ.1 (Aq [a,b] (.sub (.v 1) (.neg (.v 0))) [((.c 1),.sub (.add (.v 0) (.v 1)) (.c 0))] ⟨AJ.2 h,trivial⟩ (by kernel_rfl))
theorem Xi {F:Type} [CR F] (a b:F) (h:(-a)=(-b)):a=b :=
 AJ.1 (Aq [a,b] (.sub (.v 0) (.v 1)) [((.c (-1)),.sub (.neg (.v 0)) (.neg (.v 1)))] ⟨AJ.2 h,trivial⟩ (by kernel_rfl))
theorem JM {F:Type} [CR F] (x1 x2 x4 l:F) (e1:((x1+x2)+x4)=(l*l)):x4=(((l*l)-x1)-x2) :=
 AJ.1 (Aq [x1,x2,x4,l] (.sub (.v 2) (.sub (.sub (.mul (.v 3) (.v 3)) (.v 0)) (.v 1))) [((.c 1),.sub (.add (.add (.v 0) (.v 1)) (.v 2)) (.mul (.v 3) (.v 3)))] ⟨AJ.2 e1,trivial⟩ (by kernel_rfl))
theorem JN {F:Type} [CR F] (x2 y2 x4 y4 l n:F) (h2:y2=((l*x2)+n)) (h4:y4=((l*x4)+n)):(-y4)=((l*(x2-x4))-y2) :=
 AJ.1 (Aq [x2,y2,x4,y4,l,n] (.sub (.neg (.v 3)) (.sub (.mul (.v 4) (.sub (.v 0) (.v 2))) (.v 1))) [((.c 1),.sub (.v 1) (.add (.mul (.v 4) (.v 0)) (.v 5))),
  ((.c (-1)),.sub (.v 3) (.add (.mul (.v 4) (.v 2)) (.v 5)))] ⟨AJ.2 h2,AJ.2 h4,trivial⟩ (by kernel_rfl))
theorem Xj {F:Type} [CR F] (x1 y1 x2 y2 l n:F) (h1:y1=((l*x1)+n)) (h2:y2=((l*x2)+n)):y1=(y2+(l*(x1-x2))) :=
 AJ.1 (Aq [x1,y1,x2,y2,l,n] (.sub (.v 1) (.add (.v 3) (.mul (.v 4) (.sub (.v 0) (.v 2))))) [((.c 1),.sub (.v 1) (.add (.mul (.v 4) (.v 0)) (.v 5))),
  ((.c (-1)),.sub (.v 3) (.add (.mul (.v 4) (.v 2)) (.v 5)))] ⟨AJ.2 h1,AJ.2 h2,trivial⟩ (by kernel_rfl))
theorem nU {F:Type} [CR F] (x1 x2 x3 k:F) (e:((x1+x2)+x3)=((-k)*(-k))):x1=(((k*k)-x2)-x3) :=
 AJ.1 (Aq [x1,x2,x3,k] (.sub (.v 0) (.sub (.sub (.mul (.v 3) (.v 3)) (.v 1)) (.v 2))) [((.c 1),.sub (.add (.add (.v 0) (.v 1)) (.v 2)) (.mul (.neg (.v 3)) (.neg (.v 3))))] ⟨AJ.2 e,trivial⟩ (by kernel_rfl))
theorem nV {F:Type} [CR F] (x1 y1 x2 y2 k n:F) (h1:y1=(((-k)*x1)+n)) (h2:y2=(((-k)*x2)+n)):y1=((k*(x2-x1))+y2) :=
 AJ.1 (Aq [x1,y1,x2,y2,k,n] (.sub (.v 1) (.add (.mul (.v 4) (.sub (.v 2) (.v 0))) (.v 3))) [((.c 1),.sub (.v 1) (.add (.mul (.neg (.v 4)) (.v 0)) (.v 5))),
  ((.c (-1)),.sub (.v 3) (.add (.mul (.neg (.v 4)) (.v 2)) (.v 5)))] ⟨AJ.2 h1,AJ.2 h2,trivial⟩ (by kernel_rfl))
theorem nW {F:Type} [CR F] (d t n x1 x5:F) (h:(d*t)=n):((d*d)*(((t*t)-x1)-x5))=((n*n)-((d*d)*(x1+x5))) :=
 AJ.1 (Aq [d,t,n,x1,x5] (.sub (.mul (.mul (.v 0) (.v 0)) (.sub (.sub (.mul (.v 1) (.v 1)) (.v 3)) (.v 4))) (.sub (.mul (.v 2) (.v 2)) (.mul (.mul (.v 0) (.v 0)) (.add (.v 3) (.v 4))))) [((.add (.mul (.v 0) (.v 1)) (.v 2)),.sub (.mul (.v 0) (.v 1)) (.v 2))] ⟨AJ.2 h,trivial⟩ (by kernel_rfl))
theorem nZ {F:Type} [CR F] (d t n x1 X y1:F) (h:(d*t)=n):(d*((t*(x1-X))-y1))=((n*(x1-X))-(d*y1)) :=
 AJ.1 (Aq [d,t,n,x1,X,y1] (.sub (.mul (.v 0) (.sub (.mul (.v 1) (.sub (.v 3) (.v 4))) (.v 5))) (.sub (.mul (.v 2) (.sub (.v 3) (.v 4))) (.mul (.v 0) (.v 5)))) [((.add (.v 3) (.neg (.v 4))),.sub (.mul (.v 0) (.v 1)) (.v 2))] ⟨AJ.2 h,trivial⟩ (by kernel_rfl))
theorem n4 {F:Type} [CR F] (y3 y2 d k:F) (h:(d*(-k))=((-y3)-y2)):(y3+y2)=(k*d) :=
 AJ.1 (Aq [y3,y2,d,k] (.sub (.add (.v 0) (.v 1)) (.mul (.v 3) (.v 2))) [((.c 1),.sub (.mul (.v 2) (.neg (.v 3))) (.sub (.neg (.v 0)) (.v 1)))] ⟨AJ.2 h,trivial⟩ (by kernel_rfl))
end Go.Proofs.YtojnabmgolpodaaGreat.Rg
namespace Go.Proofs.YtojnabmgolpodaaGreat.Rg
class FD (F:Type) extends CR F where
 inv:F→F
 mul_inv:∀ a:F,a≠0→a*inv a=1
 inv_zero:inv 0=0
 one_ne:(1:F)≠0
 dec:DecidableEq F
instance fdDec {F:Type} [FD F]:DecidableEq F:=FD.dec
open FD (inv)
inductive Pt (F:Type) where
 | inf
 | pt (x y:F)
section
variable {F:Type} [FD F]
theorem G1 {a b c:F} (ha:a≠0) (h:a*b=a*c):b=c:=by
 have h2:inv a*(a*b)=inv a*(a*c):=by rw [h]
 rw [← mul_assoc,← mul_assoc,mul_comm (inv a) a,FD.mul_inv a ha,one_mul,one_mul] at h2
 exact h2
theorem Oy {a b:F} (ha:a≠0) (h:a*b=0):b=0:=G1 ha (by rw [h,mul_zero])
theorem C_ {a b:F} (ha:a≠0) (hb:b≠0):a*b≠0:=fun h=>hb (Oy ha h)
theorem K3 {a b:F} (h:a≠b):a-b≠0:=fun e=>h (AJ.1 e)
theorem Oz {d e l:F} (hd:d≠0) (h:d*l=e):e*inv d=l:=by
 rw [← h,mul_comm d l,mul_assoc,FD.mul_inv d hd,mul_one]
theorem Xk {d e:F} (hd:d≠0):e*inv d*d=e:=by
 rw [mul_assoc,mul_comm (inv d),FD.mul_inv d hd,mul_one]
def E9 (x1 y1 x2 l:F):Pt F:=.pt (l*l-x1-x2) (l*(x1-(l*l-x1-x2))-y1)
def add:Pt F→Pt F→Pt F
 | .inf,q=>q
 | .pt x1 y1,q=>match q with
  | .inf=>.pt x1 y1
  | .pt x2 y2=>if x1=x2 then (if y1=y2∧y1≠0 then E9 x1 y1 x2 ((x1*x1+x1*x1+x1*x1)*inv (y1+y1)) else .inf) else E9 x1 y1 x2 ((y2-y1)*inv (x2-x1))
theorem JO (x1 y1 x2 y2:F):add (.pt x1 y1) (.pt x2 y2)=if x1=x2 then (if y1=y2∧y1≠0 then E9 x1 y1 x2 ((x1*x1+x1*x1+x1*x1)*inv (y1+y1)) else .inf) else E9 x1 y1 x2 ((y2-y1)*inv (x2-x1)):=rfl
def neg:Pt F→Pt F
 | .inf=>.inf
 | .pt x y=>.pt x (-y)
def On (b:F):Pt F→Prop
 | .inf=>True
 | .pt x y=>y*y=x*x*x+b
structure Ln (b x1 y1 x2 y2 x3 y3 l n:F):Prop where
 h1:y1=l*x1+n
 h2:y2=l*x2+n
 h3:y3=l*x3+n
 e1:x1+x2+x3=l*l
 e2:x1*x2+x1*x3+x2*x3+(l*n+l*n)=0
 e3:x1*x2*x3+b=n*n
section
variable {b x1 y1 x2 y2 x3 y3 l n:F}
theorem Ln.sw (h:Ln b x1 y1 x2 y2 x3 y3 l n):Ln b x2 y2 x1 y1 x3 y3 l n:=⟨h.h2,h.h1,h.h3,mX _ _ _ _ h.e1,mZ _ _ _ _ h.e2,m6 _ _ _ _ _ h.e3⟩
theorem Ln.ro (h:Ln b x1 y1 x2 y2 x3 y3 l n):Ln b x2 y2 x3 y3 x1 y1 l n:=⟨h.h2,h.h3,h.h1,mY _ _ _ _ h.e1,m0 _ _ _ _ h.e2,m7 _ _ _ _ _ h.e3⟩
theorem Ln.neg (h:Ln b x1 y1 x2 y2 x3 y3 l n):Ln b x1 (-y1) x2 (-y2) x3 (-y3) (-l) (-n) :=
 ⟨Su _ _ _ _ h.h1,Su _ _ _ _ h.h2,Su _ _ _ _ h.h3,by rw [neg_sq];exact h.e1,by rw [m8];exact h.e2,by rw [neg_sq];exact h.e3⟩
theorem Ln.on (h:Ln b x1 y1 x2 y2 x3 y3 l n):y1*y1=x1*x1*x1+b:=mT x1 y1 x2 x3 l n b h.h1 h.e1 h.e2 h.e3
end
structure Cv (F:Type) [FD F] where
 b:F
 two:(int 2:F)≠0
 no2:∀ x y:F,y*y=x*x*x+b→y≠0
variable (C:Cv F)
include C in
theorem K4 {y:F} (h:y≠0):y+y≠0:=by rw [two_mul];exact C_ C.two h
theorem C' {x1 y1 x2 y2 x3 y3 l n:F} (h:Ln C.b x1 y1 x2 y2 x3 y3 l n):add (.pt x1 y1) (.pt x2 y2)=.pt x3 (-y3):=by
 have hy:=C.no2 _ _ h.on
 have hsum:E9 x1 y1 x2 l=.pt x3 (-y3):=by
  unfold E9
  rw [mV x1 x2 x3 l h.e1,mU x1 y1 x3 y3 l n h.h1 h.h3]
 rw [JO]
 by_cases hx:x1=x2
 ·subst hx
  have e:=Ox _ _ _ _ _ h.h1 h.h2
  have ht:=Xg x1 y1 x3 l n h.h1 h.e1 h.e2
  rw [if_pos rfl,if_pos ⟨e,hy⟩,Oz (K4 C hy) ht]
  exact hsum
 ·rw [if_neg hx,Oz (K3 (Ne.symm hx)) (Kz x1 y1 x2 y2 l n h.h1 h.h2)]
  exact hsum
theorem Xl {x1 y1 x2 y2 l:F} (c1:y1*y1=x1*x1*x1+C.b) (hl:l*(x2-x1)=y2-y1)
  (e2:x1*x2+x1*(l*l-x1-x2)+x2*(l*l-x1-x2)+(l*(y1-l*x1)+l*(y1-l*x1))=0):Ln C.b x1 y1 x2 y2 (l*l-x1-x2) (l*(l*l-x1-x2)+(y1-l*x1)) l (y1-l*x1) :=
 ⟨nN x1 y1 l,nO x1 y1 x2 y2 l hl,rfl,nP x1 x2 l,e2,mS x1 y1 x2 l C.b e2 c1⟩
theorem G2 {x1 y1 x2 y2:F} (c1:y1*y1=x1*x1*x1+C.b) (c2:y2*y2=x2*x2*x2+C.b):(x2=x1∧y2=-y1)∨∃ x3 y3 l n,Ln C.b x1 y1 x2 y2 x3 y3 l n:=by
 by_cases hx:x1=x2
 ·subst hx
  by_cases hy:y1=y2
  ·subst hy
   have hy0:=C.no2 _ _ c1
   refine .inr ⟨_,_,(x1*x1+x1*x1+x1*x1)*inv (y1+y1),_,Xl C c1 (by rw [sub_self,sub_self,mul_zero]) ?_⟩
   refine mR x1 y1 _ ?_
   rw [mul_comm,Xk (K4 C hy0)]
  ·refine .inl ⟨rfl,?_⟩
   have:=m9 y1 y2 _ c1 c2
   exact nT y1 y2 (Oy (K3 hy) this)
 ·have hd:=K3 (Ne.symm hx)
  have hl:(y2-y1)*inv (x2-x1)*(x2-x1)=y2-y1:=Xk hd
  exact .inr ⟨_,_,(y2-y1)*inv (x2-x1),_,Xl C c1 hl (Oy hd (mQ x1 y1 x2 y2 _ C.b hl c1 c2))⟩
include C in
theorem O0 {y:F} (hy:y≠0) (h:y=-y):False:=by
 have h2:y+y=0:=by
  have:=Rg.add_neg y
  rw [← h] at this;exact this
 exact K4 C hy h2
theorem E_ {x y:F} (c:y*y=x*x*x+C.b):add (.pt x y) (.pt x (-y))=.inf:=by
 have hy:=C.no2 _ _ c
 rw [JO,if_pos rfl,if_neg]
 rintro ⟨h,_⟩
 exact O0 C hy h
theorem G3 {x y:F} (c:y*y=x*x*x+C.b):(-y)*(-y)=x*x*x+C.b:=by rw [neg_sq];exact c
theorem Xm {p q:Pt F} (hp:On C.b p) (hq:On C.b q):On C.b (add p q):=by
 cases p with
 | inf=>exact hq
 | pt x1 y1=>cases q with
  | inf=>exact hp
  | pt x2 y2 =>
   rcases G2 C hp hq with ⟨rfl,rfl⟩ | ⟨x3,y3,l,n,h⟩
   ·rw [E_ C hp];trivial
   ·rw [C' C h];exact G3 C h.ro.ro.on
theorem K5 {p q:Pt F} (hp:On C.b p) (hq:On C.b q):add p q=add q p:=by
 cases p with
 | inf=>cases q<;>rfl
 | pt x1 y1=>cases q with
  | inf=>rfl
  | pt x2 y2 =>
   rcases G2 C hp hq with ⟨rfl,rfl⟩ | ⟨x3,y3,l,n,h⟩
   ·rw [E_ C hp]
    have:=E_ C (G3 C hp)
    rw [Dt] at this
    exact this.symm
   ·rw [C' C h,C' C h.sw]
theorem O1 (p:Pt F):add p .inf=p:=by cases p<;>rfl
theorem Mq {p q:Pt F} (hp:On C.b p) (hq:On C.b q):add (neg p) (add p q)=q:=by
 cases p with
 | inf=>rfl
 | pt x1 y1=>cases q with
  | inf =>
   have h:=E_ C (G3 C hp)
   rw [Dt] at h
   exact h
  | pt x2 y2 =>
   rcases G2 C hp hq with ⟨rfl,rfl⟩ | ⟨x3,y3,l,n,h⟩
   ·rw [E_ C hp];rfl
   ·rw [C' C h]
    have:=C' C h.neg.sw.ro
    rw [Dt] at this
    exact this
theorem n5 {p q r:Pt F} (hp:On C.b p) (hq:On C.b q) (hr:On C.b r) (h:add p q=add p r):q=r:=by
 rw [← Mq C hp hq,h,Mq C hp hr]
theorem Xn {x1 y1 x2 y2 x3 y3 l n x5 y5 m q:F} (h1:Ln C.b x1 y1 x2 y2 x3 (-y3) l n) (h2:Ln C.b x2 y2 x3 y3 x5 y5 m q):add (.pt x3 y3) (.pt x3 y3)=add (.pt x1 y1) (.pt x5 (-y5)):=by
 have cP:=h1.on
 have cQ:=h2.on
 have cR:=h2.ro.on
 have hyQ:=C.no2 _ _ cQ
 have hyR:=C.no2 _ _ cR
 have a2:add (.pt x1 y1) (.pt x2 y2)=.pt x3 y3:=by rw [C' C h1,Dt]
 have a1:add (.pt x2 y2) (.pt x3 y3)=.pt x5 (-y5):=C' C h2
 rcases G2 C cR cR with ⟨_,e⟩ | ⟨x6,y6,s,n6,h6⟩
 ·exact (O0 C hyR e).elim
 rcases G2 C cP (G3 C h2.ro.ro.on) with ⟨e1,e2⟩ | ⟨x7,y7,t,n7,h7⟩
 ·exfalso
  have e2:=Xi _ _ e2
  subst e1;subst e2
  have a3:=C' C h2.ro.ro
  rw [a2] at a3
  injection a3 with _ a3
  exact O0 C hyR a3
 rw [C' C h6,C' C h7]
 have ht:(x5-x1)*t=-y5-y1:=Kz x1 y1 x5 (-y5) t n7 h7.h1 h7.h2
 have hs:(y3+y3)*s=x3*x3+x3*x3+x3*x3:=Xg x3 y3 x6 s n6 h6.h1 h6.e1 h6.e2
 have hd:x5≠x1:=by
  intro e
  subst e
  have e3:=Ox _ _ _ _ _ h7.h1 h7.h2
  rw [← e3] at a1
  have a4:add (neg (.pt x2 y2)) (.pt x3 y3)=.pt x5 y1:=by
   rw [← a2,K5 C (p:=.pt x5 y1) (q:=.pt x2 y2) cP cQ]
   exact Mq C (p:=.pt x2 y2) (q:=.pt x5 y1) cQ cP
  have a5:add (.pt x3 y3) (.pt x2 y2)=add (.pt x3 y3) (neg (.pt x2 y2)):=by
   rw [K5 C (p:=.pt x3 y3) (q:=.pt x2 y2) cR cQ,K5 C (p:=.pt x3 y3) (q:=neg (.pt x2 y2)) cR (G3 C cQ),a1,a4]
  have a6:=n5 C (p:=.pt x3 y3) (q:=.pt x2 y2) (r:=neg (.pt x2 y2)) cR cQ (G3 C cQ) a5
  injection a6 with _ a6
  exact O0 C hyQ a6
 have hi:(int 2:F)*inv (int 2)=int 1:=by rw [FD.mul_inv _ C.two,Ml]
 obtain ⟨h,hh⟩:∃ h:F,h+h=x3-x2:=⟨(x3-x2)*inv (int 2),nM _ _ hi⟩
 obtain ⟨k,rfl⟩:∃ k:F,l=-k:=⟨-l,(Dt l).symm⟩
 have ex3:x3=x2+(h+h):=by rw [hh];exact nS _ _
 have hm:y3-y2=m*(h+h):=by
  have:=Kz x2 y2 x3 y3 m q h2.h1 h2.h2
  rw [hh,mul_comm];exact this.symm
 have hk:y3+y2=k*(h+h):=by
  have:=Kz x2 y2 x3 (-y3) (-k) n h1.h2 h1.h3
  rw [hh];exact n4 _ _ _ _ this
 have ey2:y2=(k-m)*h:=G1 C.two (nK y2 y3 h m k hm hk)
 have ey3:y3=(k+m)*h:=G1 C.two (nL y2 y3 h m k hm hk)
 have ex1:x1=k*k-x2-x3:=nU x1 x2 x3 k h1.e1
 have ey1:y1=k*(x2-x1)+y2:=nV x1 y1 x2 y2 k n h1.h1 h1.h2
 have ex5:x5=m*m-x2-x3:=JM x2 x3 x5 m h2.e1
 have ey5:-y5=m*(x2-x5)-y2:=JN x2 y2 x5 y5 m q h2.h1 h2.h3
 have r2:=nQ x2 y2 h m k (by rw [← ex3];exact Xh x2 y2 x3 x5 m q h2.h1 h2.e1 h2.e2) ey2
 have rs:((k+m)*h+(k+m)*h)*s=(x2+(h+h))*(x2+(h+h))+(x2+(h+h))*(x2+(h+h))+(x2+(h+h))*(x2+(h+h)):=by rw [← ey3,← ex3];exact hs
 have hX:=nG x2 h m k s r2 rs
 have hY:=nJ x2 h m k s r2 rs
 rw [← ex3,← ex1,← ex5,← ey2,← ey3,← ey5,← ey1] at hX hY
 have hw:=K4 C hyR
 have hD:=K3 hd
 have x6e:x6=s*s-x3-x3:=JM x3 x3 x6 s h6.e1
 have x7e:x7=t*t-x1-x5:=JM x1 x5 x7 t h7.e1
 have hXX:x6=x7:=by
  rw [x6e,x7e]
  refine G1 (C_ hD hD) ?_
  rw [nW _ _ _ x1 x5 ht]
  exact G1 (C_ hw hw) hX
 have y6e:-y6=s*(x3-x6)-y3:=JN x3 y3 x6 y6 s n6 h6.h1 h6.h3
 have y7e:-y7=t*(x1-x7)-y1:=JN x1 y1 x7 y7 t n7 h7.h1 h7.h3
 have hYY:-y6=-y7:=by
  rw [y6e,y7e,← hXX]
  refine G1 hD ?_
  rw [nZ _ _ _ x1 x6 y1 ht]
  rw [← x6e] at hY
  exact G1 (C_ (C_ hw hw) hw) hY
 rw [hXX,hYY]
theorem n8 {x1 y1 x2 y2 x3 y3 x4 y4 x5 y5 x6 y6 x7 y7 l n m q s n6 t n7:F} (h1:Ln C.b x1 y1 x2 y2 x4 y4 l n) (h2:Ln C.b x2 y2 x3 y3 x5 y5 m q) (h3:Ln C.b x4 (-y4) x3 y3 x6 y6 s n6) (h4:Ln C.b x1 y1 x5 (-y5) x7 y7 t n7)
  (hd1:x4≠x3) (hd2:x5≠x1):x6=x7∧-y6=-y7:=by
 have ex4:x4=l*l-x1-x2:=JM x1 x2 x4 l h1.e1
 have ey4:-y4=l*(x2-x4)-y2:=JN x2 y2 x4 y4 l n h1.h2 h1.h3
 have ex5:x5=m*m-x2-x3:=JM x2 x3 x5 m h2.e1
 have ey5:-y5=m*(x2-x5)-y2:=JN x2 y2 x5 y5 m q h2.h1 h2.h3
 have ey3:y3=y2+m*(x3-x2):=Xj x3 y3 x2 y2 m q h2.h2 h2.h1
 have ey1:y1=y2+l*(x1-x2):=Xj x1 y1 x2 y2 l n h1.h1 h1.h2
 have hs:s*(x4-x3)=-y4-y3:=by rw [mul_comm];exact Kz x3 y3 x4 (-y4) s n6 h3.h2 h3.h1
 have ht:t*(x5-x1)=-y5-y1:=by rw [mul_comm];exact Kz x1 y1 x5 (-y5) t n7 h4.h1 h4.h2
 have r1:=nA x1 x2 y2 x4 l n h1.h2 h1.e1 h1.e2
 have r2:=Xh x2 y2 x3 x5 m q h2.h1 h2.e1 h2.e2
 have hs':s*(l*l-x1-x2-x3)=l*(x2-(l*l-x1-x2))-y2-(y2+m*(x3-x2)):=by rw [← ex4,← ey4,← ey3];exact hs
 have ht':t*(m*m-x2-x3-x1)=m*(x2-(m*m-x2-x3))-y2-(y2+l*(x1-x2)):=by rw [← ex5,← ey5,← ey1];exact ht
 have hX:=nC x1 x2 x3 y2 l m s t r1 r2 hs' ht'
 have hY:=nF x1 x2 x3 y2 l m s t r1 r2 hs' ht'
 rw [← ex4,← ex5] at hX hY
 rw [← ey3,← ey1] at hY
 have hD1:=K3 hd1
 have hD2:=K3 hd2
 have x6e:x6=s*s-x4-x3:=JM x4 x3 x6 s h3.e1
 have x7e:x7=t*t-x1-x5:=JM x1 x5 x7 t h4.e1
 have hXX:x6=x7:=by rw [x6e,x7e];exact G1 (C_ (C_ hD1 hD1) (C_ hD2 hD2)) hX
 have y6e:-y6=s*(x3-x6)-y3:=JN x3 y3 x6 y6 s n6 h3.h2 h3.h3
 have y7e:-y7=t*(x1-x7)-y1:=JN x1 y1 x7 y7 t n7 h4.h1 h4.h3
 refine ⟨hXX,?_⟩
 rw [y6e,y7e,← hXX]
 rw [← x6e] at hY
 exact G1 (C_ (C_ (C_ hD1 hD1) hD1) hD2) hY
theorem n9 {p q r:Pt F} (hp:On C.b p) (hq:On C.b q) (hr:On C.b r):add (add p q) r=add p (add q r):=by
 cases p with
 | inf=>rfl
 | pt x1 y1=>cases q with
  | inf=>rfl
  | pt x2 y2=>cases r with
   | inf=>rw [O1,O1]
   | pt x3 y3 =>
    rcases G2 C hp hq with ⟨rfl,rfl⟩ | ⟨x4,y4,l,n,h1⟩
    ·rw [E_ C hp]
     have hn:On C.b (.pt x2 (-y1)):=hq
     have:=Mq C (p:=.pt x2 (-y1)) (q:=.pt x3 y3) hn hr
     rw [show neg (.pt x2 (-y1):Pt F)=.pt x2 y1 by simp [neg,Dt]] at this
     exact this.symm
    rcases G2 C hq hr with ⟨rfl,rfl⟩ | ⟨x5,y5,m,q,h2⟩
    ·rw [E_ C hq,O1,K5 C (Xm C hp hq) hr,K5 C hp hq]
     exact Mq C (p:=.pt x3 y2) (q:=.pt x1 y1) hq hp
    rw [C' C h1,C' C h2]
    have c4:=G3 C h1.ro.ro.on
    have c5:=G3 C h2.ro.ro.on
    rcases G2 C c4 hr with ⟨e1,e2⟩ | ⟨x6,y6,s,n6,h3⟩
    ·
     rw [Dt] at e2
     subst e1;subst e2
     have a:=C' C h1.ro
     rw [C' C h2] at a
     rw [a,E_ C hp]
     have:=E_ C c4
     rw [Dt] at this
     exact this
    rcases G2 C hp c5 with ⟨e1,e2⟩ | ⟨x7,y7,t,n7,h4⟩
    ·have e2:=Xi _ _ e2
     subst e1;subst e2
     have a:=C' C h2.ro.ro
     rw [C' C h1] at a
     rw [a,E_ C hp]
     have:=E_ C (G3 C hr)
     rw [Dt] at this
     exact this
    by_cases hd1:x4=x3
    ·have e3:=Ox _ _ _ _ _ (hd1▸h3.h1) h3.h2
     subst hd1
     rw [e3]
     have h1':Ln C.b x1 y1 x2 y2 x4 (-y3) l n:=by rw [← e3,Dt];exact h1
     exact Xn C h1' h2
    by_cases hd2:x5=x1
    ·have e3:=Ox _ _ _ _ _ h4.h1 (hd2▸h4.h2)
     subst hd2
     rw [← e3]
     have h2':Ln C.b x3 y3 x2 y2 x5 (-y1) m q:=by rw [e3,Dt];exact h2.sw
     have:=Xn C h2' h1.sw
     rw [this]
     exact K5 C (p:=.pt x4 (-y4)) (q:=.pt x3 y3) c4 hr
    obtain ⟨e1,e2⟩:=n8 C h1 h2 h3 h4 hd1 hd2
    rw [C' C h3,C' C h4,e1,e2]
def BU:Nat→Pt F→Pt F
 | 0,_=>.inf
 | n+1,p=>add (BU n p) p
theorem F3 {p:Pt F} (hp:On C.b p):∀ n,On C.b (BU n p)
 | 0=>trivial
 | n+1=>Xm C (F3 hp n) hp
theorem Mr {p:Pt F} (hp:On C.b p) (m:Nat):∀ n,BU (m+n) p=add (BU m p) (BU n p)
 | 0=>(O1 _).symm
 | n+1=>by
  rw [← Nat.add_assoc]
  simp only [BU]
  rw [Mr hp m n,n9 C (F3 C hp m) (F3 C hp n) hp]
theorem Sv {p:Pt F} (hp:On C.b p) (m:Nat):∀ n,BU (m*n) p=BU n (BU m p)
 | 0=>rfl
 | n+1=>by
  rw [Nat.mul_succ,Mr C hp,Sv hp m n];rfl
theorem O2:∀ n,BU n (.inf:Pt F)=.inf
 | 0=>rfl
 | n+1=>by simp only [BU];rw [O2 n];rfl
end
end Go.Proofs.YtojnabmgolpodaaGreat.Rg
namespace Go.Proofs.YtojnabmgolpodaaGreat.Rg
set_option maxRecDepth 100000
set_option maxHeartbeats 4000000
theorem oA {F:Type} [CR F] (x y i I:F) (hi:i=((y+y)*I)):(((y*((i*i)*i))+(y*((i*i)*i)))*((((x*x)+(x*x))+(x*x))*I))=((((x*(i*i))*(x*(i*i)))+((x*(i*i))*(x*(i*i))))+((x*(i*i))*(x*(i*i)))) :=
 AJ.1 (Aq [x,y,i,I] (.sub (.mul (.add (.mul (.v 1) (.mul (.mul (.v 2) (.v 2)) (.v 2))) (.mul (.v 1) (.mul (.mul (.v 2) (.v 2)) (.v 2)))) (.mul (.add (.add (.mul (.v 0) (.v 0)) (.mul (.v 0) (.v 0))) (.mul (.v 0) (.v 0))) (.v 3))) (.add (.add (.mul (.mul (.v 0) (.mul (.v 2) (.v 2))) (.mul (.v 0) (.mul (.v 2) (.v 2)))) (.mul (.mul (.v 0) (.mul (.v 2) (.v 2))) (.mul (.v 0) (.mul (.v 2) (.v 2))))) (.mul (.mul (.v 0) (.mul (.v 2) (.v 2))) (.mul (.v 0) (.mul (.v 2) (.v 2)))))) [((.mul (.mul (.c (-3)) (.pw (.v 2) 3)) (.pw (.v 0) 2)),.sub (.v 2) (.mul (.add (.v 1) (.v 1)) (.v 3)))] ⟨AJ.2 hi,trivial⟩ (by kernel_rfl))
theorem Xo {F:Type} [CR F] (x y i I:F) (hi:i=((y+y)*I)):(((((((x*x)+(x*x))+(x*x))*I)*((((x*x)+(x*x))+(x*x))*I))-(x*(i*i)))-(x*(i*i)))=((((((x*x)+(x*x))+(x*x))*(((x*x)+(x*x))+(x*x)))-((((x*(y*y))+(x*(y*y)))+((x*(y*y))+(x*(y*y))))+(((x*(y*y))+(x*(y*y)))+((x*(y*y))+(x*(y*y))))))*(I*I)) :=
 AJ.1 (Aq [x,y,i,I] (.sub (.sub (.sub (.mul (.mul (.add (.add (.mul (.v 0) (.v 0)) (.mul (.v 0) (.v 0))) (.mul (.v 0) (.v 0))) (.v 3)) (.mul (.add (.add (.mul (.v 0) (.v 0)) (.mul (.v 0) (.v 0))) (.mul (.v 0) (.v 0))) (.v 3))) (.mul (.v 0) (.mul (.v 2) (.v 2)))) (.mul (.v 0) (.mul (.v 2) (.v 2)))) (.mul (.sub (.mul (.add (.add (.mul (.v 0) (.v 0)) (.mul (.v 0) (.v 0))) (.mul (.v 0) (.v 0))) (.add (.add (.mul (.v 0) (.v 0)) (.mul (.v 0) (.v 0))) (.mul (.v 0) (.v 0)))) (.add (.add (.add (.mul (.v 0) (.mul (.v 1) (.v 1))) (.mul (.v 0) (.mul (.v 1) (.v 1)))) (.add (.mul (.v 0) (.mul (.v 1) (.v 1))) (.mul (.v 0) (.mul (.v 1) (.v 1))))) (.add (.add (.mul (.v 0) (.mul (.v 1) (.v 1))) (.mul (.v 0) (.mul (.v 1) (.v 1)))) (.add (.mul (.v 0) (.mul (.v 1) (.v 1))) (.mul (.v 0) (.mul (.v 1) (.v 1))))))) (.mul (.v 3) (.v 3)))) [((.add (.mul (.mul (.c (-2)) (.v 2)) (.v 0)) (.mul (.mul (.mul (.c (-4)) (.v 0)) (.v 1)) (.v 3))),.sub (.v 2) (.mul (.add (.v 1) (.v 1)) (.v 3)))] ⟨AJ.2 hi,trivial⟩ (by kernel_rfl))
theorem oB {F:Type} [CR F] (x y i I:F) (hi:i=((y+y)*I)):((((((x*x)+(x*x))+(x*x))*I)*((x*(i*i))-(((((((x*x)+(x*x))+(x*x))*I)*((((x*x)+(x*x))+(x*x))*I))-(x*(i*i)))-(x*(i*i)))))-(y*((i*i)*i)))=((((((x*x)+(x*x))+(x*x))*((((x*(y*y))+(x*(y*y)))+((x*(y*y))+(x*(y*y))))-(((((x*x)+(x*x))+(x*x))*(((x*x)+(x*x))+(x*x)))-((((x*(y*y))+(x*(y*y)))+((x*(y*y))+(x*(y*y))))+(((x*(y*y))+(x*(y*y)))+((x*(y*y))+(x*(y*y))))))))-(((((y*y)*(y*y))+((y*y)*(y*y)))+(((y*y)*(y*y))+((y*y)*(y*y))))+((((y*y)*(y*y))+((y*y)*(y*y)))+(((y*y)*(y*y))+((y*y)*(y*y))))))*((I*I)*I)) :=
 AJ.1 (Aq [x,y,i,I] (.sub (.sub (.mul (.mul (.add (.add (.mul (.v 0) (.v 0)) (.mul (.v 0) (.v 0))) (.mul (.v 0) (.v 0))) (.v 3)) (.sub (.mul (.v 0) (.mul (.v 2) (.v 2))) (.sub (.sub (.mul (.mul (.add (.add (.mul (.v 0) (.v 0)) (.mul (.v 0) (.v 0))) (.mul (.v 0) (.v 0))) (.v 3)) (.mul (.add (.add (.mul (.v 0) (.v 0)) (.mul (.v 0) (.v 0))) (.mul (.v 0) (.v 0))) (.v 3))) (.mul (.v 0) (.mul (.v 2) (.v 2)))) (.mul (.v 0) (.mul (.v 2) (.v 2)))))) (.mul (.v 1) (.mul (.mul (.v 2) (.v 2)) (.v 2)))) (.mul (.sub (.mul (.add (.add (.mul (.v 0) (.v 0)) (.mul (.v 0) (.v 0))) (.mul (.v 0) (.v 0))) (.sub (.add (.add (.mul (.v 0) (.mul (.v 1) (.v 1))) (.mul (.v 0) (.mul (.v 1) (.v 1)))) (.add (.mul (.v 0) (.mul (.v 1) (.v 1))) (.mul (.v 0) (.mul (.v 1) (.v 1))))) (.sub (.mul (.add (.add (.mul (.v 0) (.v 0)) (.mul (.v 0) (.v 0))) (.mul (.v 0) (.v 0))) (.add (.add (.mul (.v 0) (.v 0)) (.mul (.v 0) (.v 0))) (.mul (.v 0) (.v 0)))) (.add (.add (.add (.mul (.v 0) (.mul (.v 1) (.v 1))) (.mul (.v 0) (.mul (.v 1) (.v 1)))) (.add (.mul (.v 0) (.mul (.v 1) (.v 1))) (.mul (.v 0) (.mul (.v 1) (.v 1))))) (.add (.add (.mul (.v 0) (.mul (.v 1) (.v 1))) (.mul (.v 0) (.mul (.v 1) (.v 1)))) (.add (.mul (.v 0) (.mul (.v 1) (.v 1))) (.mul (.v 0) (.mul (.v 1) (.v 1))))))))) (.add (.add (.add (.mul (.mul (.v 1) (.v 1)) (.mul (.v 1) (.v 1))) (.mul (.mul (.v 1) (.v 1)) (.mul (.v 1) (.v 1)))) (.add (.mul (.mul (.v 1) (.v 1)) (.mul (.v 1) (.v 1))) (.mul (.mul (.v 1) (.v 1)) (.mul (.v 1) (.v 1))))) (.add (.add (.mul (.mul (.v 1) (.v 1)) (.mul (.v 1) (.v 1))) (.mul (.mul (.v 1) (.v 1)) (.mul (.v 1) (.v 1)))) (.add (.mul (.mul (.v 1) (.v 1)) (.mul (.v 1) (.v 1))) (.mul (.mul (.v 1) (.v 1)) (.mul (.v 1) (.v 1))))))) (.mul (.mul (.v 3) (.v 3)) (.v 3)))) [((.add (.add (.neg (.mul (.pw (.v 2) 2) (.v 1))) (.mul (.mul (.mul (.c 9) (.v 2)) (.pw (.v 0) 3)) (.v 3))) (.add (.mul (.mul (.mul (.c (-2)) (.v 2)) (.pw (.v 1) 2)) (.v 3)) (.add (.mul (.mul (.mul (.c 18) (.pw (.v 0) 3)) (.v 1)) (.pw (.v 3) 2)) (.mul (.mul (.c (-4)) (.pw (.v 1) 3)) (.pw (.v 3) 2))))),.sub (.v 2) (.mul (.add (.v 1) (.v 1)) (.v 3)))] ⟨AJ.2 hi,trivial⟩ (by kernel_rfl))
theorem oC {F:Type} [CR F] (y z i I:F) (hz:(z*i)=(int 1)) (hZ:(((y*z)+(y*z))*I)=(int 1)):i=((y+y)*I) :=
 AJ.1 (Aq [y,z,i,I] (.sub (.v 2) (.mul (.add (.v 0) (.v 0)) (.v 3))) [((.mul (.mul (.c 2) (.v 0)) (.v 3)),.sub (.mul (.v 1) (.v 2)) (.c 1)),
  ((.neg (.v 2)),.sub (.mul (.add (.mul (.v 0) (.v 1)) (.mul (.v 0) (.v 1))) (.v 3)) (.c 1))] ⟨AJ.2 hz,AJ.2 hZ,trivial⟩ (by kernel_rfl))
theorem oD {F:Type} [CR F] (x a z i:F) (hz:(z*i)=(int 1)):(((a*(z*z))-x)*(i*i))=(a-(x*(i*i))) :=
 AJ.1 (Aq [x,a,z,i] (.sub (.mul (.sub (.mul (.v 1) (.mul (.v 2) (.v 2))) (.v 0)) (.mul (.v 3) (.v 3))) (.sub (.v 1) (.mul (.v 0) (.mul (.v 3) (.v 3))))) [((.add (.mul (.mul (.v 1) (.v 2)) (.v 3)) (.v 1)),.sub (.mul (.v 2) (.v 3)) (.c 1))] ⟨AJ.2 hz,trivial⟩ (by kernel_rfl))
theorem oE {F:Type} [CR F] (y b z i:F) (hz:(z*i)=(int 1)):(((b*((z*z)*z))-y)*((i*i)*i))=(b-(y*((i*i)*i))) :=
 AJ.1 (Aq [y,b,z,i] (.sub (.mul (.sub (.mul (.v 1) (.mul (.mul (.v 2) (.v 2)) (.v 2))) (.v 0)) (.mul (.mul (.v 3) (.v 3)) (.v 3))) (.sub (.v 1) (.mul (.v 0) (.mul (.mul (.v 3) (.v 3)) (.v 3))))) [((.add (.mul (.mul (.v 1) (.pw (.v 2) 2)) (.pw (.v 3) 2)) (.add (.mul (.mul (.v 1) (.v 2)) (.v 3)) (.v 1))),.sub (.mul (.v 2) (.v 3)) (.c 1))] ⟨AJ.2 hz,trivial⟩ (by kernel_rfl))
theorem oF {F:Type} [CR F] (z h i I:F) (hz:(z*i)=(int 1)) (hZ:((z*h)*I)=(int 1)):i=(h*I) :=
 AJ.1 (Aq [z,h,i,I] (.sub (.v 2) (.mul (.v 1) (.v 3))) [((.mul (.v 1) (.v 3)),.sub (.mul (.v 0) (.v 2)) (.c 1)),
  ((.neg (.v 2)),.sub (.mul (.mul (.v 0) (.v 1)) (.v 3)) (.c 1))] ⟨AJ.2 hz,AJ.2 hZ,trivial⟩ (by kernel_rfl))
theorem oG {F:Type} [CR F] (x y a b i I h r:F) (hi:i=(h*I)) (hh:(h*(i*i))=(a-(x*(i*i)))) (hr:(r*((i*i)*i))=(b-(y*((i*i)*i)))):((a-(x*(i*i)))*(r*I))=(b-(y*((i*i)*i))) :=
 AJ.1 (Aq [x,y,a,b,i,I,h,r] (.sub (.mul (.sub (.v 2) (.mul (.v 0) (.mul (.v 4) (.v 4)))) (.mul (.v 7) (.v 5))) (.sub (.v 3) (.mul (.v 1) (.mul (.mul (.v 4) (.v 4)) (.v 4))))) [((.neg (.mul (.pw (.v 4) 2) (.v 7))),.sub (.v 4) (.mul (.v 6) (.v 5))),
  ((.neg (.mul (.v 5) (.v 7))),.sub (.mul (.v 6) (.mul (.v 4) (.v 4))) (.sub (.v 2) (.mul (.v 0) (.mul (.v 4) (.v 4))))),
  ((.c 1),.sub (.mul (.v 7) (.mul (.mul (.v 4) (.v 4)) (.v 4))) (.sub (.v 3) (.mul (.v 1) (.mul (.mul (.v 4) (.v 4)) (.v 4)))))] ⟨AJ.2 hi,AJ.2 hh,AJ.2 hr,trivial⟩ (by kernel_rfl))
theorem oH {F:Type} [CR F] (x y a i I h r:F) (hi:i=(h*I)) (hh:(h*(i*i))=(a-(x*(i*i)))):((((r*I)*(r*I))-(x*(i*i)))-a)=((((r*r)-((h*h)*h))-((x*(h*h))+(x*(h*h))))*(I*I)) :=
 AJ.1 (Aq [x,y,a,i,I,h,r] (.sub (.sub (.sub (.mul (.mul (.v 6) (.v 4)) (.mul (.v 6) (.v 4))) (.mul (.v 0) (.mul (.v 3) (.v 3)))) (.v 2)) (.mul (.sub (.sub (.mul (.v 6) (.v 6)) (.mul (.mul (.v 5) (.v 5)) (.v 5))) (.add (.mul (.v 0) (.mul (.v 5) (.v 5))) (.mul (.v 0) (.mul (.v 5) (.v 5))))) (.mul (.v 4) (.v 4)))) [((.add (.add (.mul (.mul (.c (-2)) (.v 0)) (.v 3)) (.mul (.mul (.mul (.c (-2)) (.v 0)) (.v 4)) (.v 5))) (.add (.neg (.mul (.v 3) (.v 5))) (.neg (.mul (.v 4) (.pw (.v 5) 2))))),.sub (.v 3) (.mul (.v 5) (.v 4))),
  ((.c 1),.sub (.mul (.v 5) (.mul (.v 3) (.v 3))) (.sub (.v 2) (.mul (.v 0) (.mul (.v 3) (.v 3)))))] ⟨AJ.2 hi,AJ.2 hh,trivial⟩ (by kernel_rfl))
theorem oI {F:Type} [CR F] (x y a i I h r:F) (hi:i=(h*I)) (hh:(h*(i*i))=(a-(x*(i*i)))):(((r*I)*((x*(i*i))-((((r*I)*(r*I))-(x*(i*i)))-a)))-(y*((i*i)*i)))=(((r*((x*(h*h))-(((r*r)-((h*h)*h))-((x*(h*h))+(x*(h*h))))))-(y*((h*h)*h)))*((I*I)*I)) :=
 AJ.1 (Aq [x,y,a,i,I,h,r] (.sub (.sub (.mul (.mul (.v 6) (.v 4)) (.sub (.mul (.v 0) (.mul (.v 3) (.v 3))) (.sub (.sub (.mul (.mul (.v 6) (.v 4)) (.mul (.v 6) (.v 4))) (.mul (.v 0) (.mul (.v 3) (.v 3)))) (.v 2)))) (.mul (.v 1) (.mul (.mul (.v 3) (.v 3)) (.v 3)))) (.mul (.sub (.mul (.v 6) (.sub (.mul (.v 0) (.mul (.v 5) (.v 5))) (.sub (.sub (.mul (.v 6) (.v 6)) (.mul (.mul (.v 5) (.v 5)) (.v 5))) (.add (.mul (.v 0) (.mul (.v 5) (.v 5))) (.mul (.v 0) (.mul (.v 5) (.v 5))))))) (.mul (.v 1) (.mul (.mul (.v 5) (.v 5)) (.v 5)))) (.mul (.mul (.v 4) (.v 4)) (.v 4)))) [((.add (.add (.mul (.mul (.mul (.mul (.c 3) (.v 0)) (.v 3)) (.v 4)) (.v 6)) (.add (.mul (.mul (.mul (.mul (.c 3) (.v 0)) (.pw (.v 4) 2)) (.v 5)) (.v 6)) (.neg (.mul (.v 1) (.pw (.v 3) 2))))) (.add (.add (.neg (.mul (.mul (.mul (.v 1) (.v 3)) (.v 4)) (.v 5))) (.neg (.mul (.mul (.v 1) (.pw (.v 4) 2)) (.pw (.v 5) 2)))) (.add (.mul (.mul (.mul (.v 3) (.v 4)) (.v 5)) (.v 6)) (.mul (.mul (.pw (.v 4) 2) (.pw (.v 5) 2)) (.v 6))))),.sub (.v 3) (.mul (.v 5) (.v 4))),
  ((.neg (.mul (.v 4) (.v 6))),.sub (.mul (.v 5) (.mul (.v 3) (.v 3))) (.sub (.v 2) (.mul (.v 0) (.mul (.v 3) (.v 3)))))] ⟨AJ.2 hi,AJ.2 hh,trivial⟩ (by kernel_rfl))
end Go.Proofs.YtojnabmgolpodaaGreat.Rg
