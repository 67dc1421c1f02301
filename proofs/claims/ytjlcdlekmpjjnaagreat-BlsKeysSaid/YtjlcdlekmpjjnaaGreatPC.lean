/- Part 3 of the proof: Na, Nb, Nc, Nd, Fr, Ga, Gb, Gc, Gd, Ge, Gf, Gg, Gh, Gi, Gj, Gk, Gl, Gm, Gn, Go, Gp, Gq, Gr, Gs, Gt, Gv, Ka, Kb, Kc, Kd, Ra. -/
import Derived.KernelRfl
import Derived.Test.YtjlcdlekmpjjnaaGreatPB
import Derived.ChangeSlices
namespace Go.Proofs.YtjlcdlekmpjjnaaGreat.Num
def Prime (p:Nat):Prop:=2≤p∧∀ d,d∣p→d=1∨d=p
theorem Prime.coprime {p a:Nat} (hp:Prime p) (h:¬ p∣a):Nat.Coprime p a:=by
 rcases hp.2 (Nat.gcd p a) (Nat.gcd_dvd_left _ _) with e | e
 ·exact e
 ·exact absurd (e▸Nat.gcd_dvd_right p a) h
theorem Prime.dvd_mul {p a b:Nat} (hp:Prime p) (h:p∣a*b):p∣a∨p∣b:=by
 by_cases ha:p∣a
 ·exact .inl ha
 ·exact .inr ((hp.coprime ha).dvd_of_dvd_mul_left h)
theorem QV {a b n:Nat} (h:a % n=b % n) (hle:b≤a):n∣a-b:=by
 have h1:=Nat.div_add_mod a n
 have h2:=Nat.div_add_mod b n
 exact ⟨a / n-b / n,by rw [Nat.mul_sub];omega⟩
theorem ADC {a b n:Nat} (h:n∣a-b) (hle:b≤a):a % n=b % n:=by
 obtain ⟨k,hk⟩:=h
 have:a=b+n*k:=by omega
 rw [this,Nat.add_mul_mod_self_left]
def Dt:List Nat→Nat
 | []=>1
 | x::l=>x*Dt l
theorem ADD {l m:List Nat} (h:l.Perm m):Dt l=Dt m:=by
 induction h with
 | nil=>rfl
 | cons x _ ih=>simp [Dt,ih]
 | swap x y l=>simp only [Dt];rw [Nat.mul_left_comm]
 | trans _ _ h1 h2=>exact h1.trans h2
theorem lJ:∀ {l m:List Nat},l.Nodup→(∀ x∈l,x∈m)→m.length≤l.length→l.Perm m
 | [],m,_,_,h=>by
  have:m=[]:=List.length_eq_zero_iff.1 (by simpa using h)
  subst this;exact .refl _
 | a::l,m,hn,hs,hlen=>by
  have ham:=hs a (by simp)
  have hp:=List.perm_cons_erase ham
  have hn':=List.nodup_cons.1 hn
  refine .trans (.cons a (lJ hn'.2 (fun x hx=>?_) ?_)) hp.symm
  ·have:x≠a:=fun e=>hn'.1 (e▸hx)
   exact (List.mem_erase_of_ne this).2 (hs x (by simp [hx]))
  ·rw [List.length_erase_of_mem ham]
   simp at hlen;omega
theorem lK (a p:Nat):∀ l:List Nat,Dt (l.map fun x=>a*x % p) % p=a^l.length*Dt l % p
 | []=>by simp [Dt]
 | x::l=>by
  simp only [List.map_cons,Dt,List.length_cons]
  rw [Nat.mul_mod,lK a p l,Nat.mod_mod,← Nat.mul_mod,Nat.pow_succ]
  refine congrArg (· % p) ?_
  show a*x*(a^l.length*Dt l)=a^l.length*a*(x*Dt l)
  ac_rfl
theorem lL {p:Nat} (hp:Prime p):∀ {l:List Nat},(∀ x∈l,¬ p∣x)→¬ p∣Dt l
 | [],_,h=>by
  have:=Nat.le_of_dvd (by decide) h
  have:=hp.1
  simp only [Dt] at *;omega
 | x::l,hx,h=>by
  rcases hp.dvd_mul h with h | h
  ·exact hx x (by simp) h
  ·exact lL hp (fun y hy=>hx y (by simp [hy])) h
theorem N3 {p a:Nat} (hp:Prime p) (ha:¬ p∣a):a^(p-1) % p=1:=by
 have h2:=hp.1
 have hL:∀ x,x∈List.range' 1 (p-1)↔1≤x∧x<p:=by intro x;rw [List.mem_range'_1];omega
 have hnd:∀ x∈List.range' 1 (p-1),¬ p∣x:=fun x hx hd=>by
  have:=(hL x).1 hx
  have:=Nat.le_of_dvd (by omega) hd
  omega
 have hperm:((List.range' 1 (p-1)).map fun x=>a*x % p).Perm (List.range' 1 (p-1)):=by
  refine lJ ?_ ?_ (by simp)
  ·have hq:∀ {l:List Nat},l.Nodup→(∀ x∈l,1≤x∧x<p)→(l.map fun x=>a*x % p).Nodup:=by
    intro l
    induction l with
    | nil=>intro _ _;exact List.nodup_nil
    | cons x l ih =>
     intro hn hb
     have hn':=List.nodup_cons.1 hn
     rw [List.map_cons,List.nodup_cons]
     refine ⟨fun hm=>?_,ih hn'.2 fun y hy=>hb y (by simp [hy])⟩
     obtain ⟨y,hy,he⟩:=List.mem_map.1 hm
     have b1:=hb x (by simp)
     have b2:=hb y (by simp [hy])
     have hxy:x≠y:=fun e=>hn'.1 (e▸hy)
     rcases Nat.lt_or_ge x y with hlt | hge
     ·have:=QV (a:=a*y) (b:=a*x) he (Nat.mul_le_mul_left a (by omega))
      rw [← Nat.mul_sub] at this
      rcases hp.dvd_mul this with h | h
      ·exact ha h
      ·have:=Nat.le_of_dvd (by omega) h;omega
     ·have:=QV (a:=a*x) (b:=a*y) he.symm (Nat.mul_le_mul_left a (by omega))
      rw [← Nat.mul_sub] at this
      rcases hp.dvd_mul this with h | h
      ·exact ha h
      ·have:=Nat.le_of_dvd (by omega) h;omega
   exact hq List.nodup_range' fun x hx=>(hL x).1 hx
  ·intro y hy
   obtain ⟨x,hx,rfl⟩:=List.mem_map.1 hy
   have b:=(hL x).1 hx
   refine (hL _).2 ⟨?_,Nat.mod_lt _ (by omega)⟩
   rcases Nat.eq_zero_or_pos (a*x % p) with h | h
   ·rcases hp.dvd_mul (Nat.dvd_of_mod_eq_zero h) with h | h
    ·exact absurd h ha
    ·exact absurd h (hnd x hx)
   ·exact h
 have e:=lK a p (List.range' 1 (p-1))
 rw [ADD hperm,List.length_range'] at e
 have hpos:1≤a^(p-1):=Nat.pow_pos (Nat.pos_of_ne_zero fun h=>ha (h▸Nat.dvd_zero p))
 have hd:=QV (a:=a^(p-1)*Dt (List.range' 1 (p-1))) (b:=Dt (List.range' 1 (p-1))) e.symm (Nat.le_mul_of_pos_left _ hpos)
 have:a^(p-1)*Dt (List.range' 1 (p-1))-Dt (List.range' 1 (p-1))=(a^(p-1)-1)*Dt (List.range' 1 (p-1)):=by rw [Nat.sub_mul,Nat.one_mul]
 rw [this] at hd
 rcases hp.dvd_mul hd with h | h
 ·rw [ADC h hpos,Nat.mod_eq_of_lt (by omega)]
 ·exact absurd h (lL hp hnd)
theorem lM:∀ n,2≤n→∃ q,Prime q∧q∣n:=by
 intro n
 induction n using Nat.strongRecOn with
 | ind n ih =>
  intro h
  by_cases hp:Prime n
  ·exact ⟨n,hp,Nat.dvd_refl n⟩
  ·have:∃ d,d∣n∧d≠1∧d≠n:=Classical.byContradiction fun hno=>hp ⟨h,fun d hd=>Classical.byContradiction fun hd2=>hno ⟨d,hd,fun e=>hd2 (.inl e),fun e=>hd2 (.inr e)⟩⟩
   obtain ⟨d,hd,h1,h2⟩:=this
   have hle:=Nat.le_of_dvd (by omega) hd
   have h0:d≠0:=fun e=>by subst e;have:=Nat.eq_zero_of_zero_dvd hd;omega
   obtain ⟨q,hq,hqd⟩:=ih d (by omega) (by omega)
   exact ⟨q,hq,Nat.dvd_trans hqd hd⟩
theorem Yz {n:Nat} (h:2≤n) (hf:∀ q,Prime q→q∣n→n<q*q):Prime n:=by
 refine ⟨h,fun d hd=>?_⟩
 obtain ⟨e,rfl⟩:=hd
 by_cases h1:d=1
 ·exact .inl h1
 ·by_cases h2:e=1
  ·subst h2;exact .inr (by simp)
  ·exfalso
   have d0:d≠0:=fun e'=>by subst e';simp at h
   have e0:e≠0:=fun e'=>by subst e';simp at h
   obtain ⟨q,hq,hqd⟩:=lM d (by omega)
   obtain ⟨r,hr,hre⟩:=lM e (by omega)
   have a1:=hf q hq (Nat.dvd_mul_right_of_dvd hqd e)
   have a2:=hf r hr (Nat.dvd_mul_left_of_dvd hre d)
   have b1:=Nat.le_of_dvd (by omega) hqd
   have b2:=Nat.le_of_dvd (by omega) hre
   rcases Nat.lt_or_ge d e with hlt | hge
   ·have:=Nat.mul_le_mul b1 b1
    have:=Nat.mul_le_mul_left d (Nat.le_of_lt hlt)
    omega
   ·have:=Nat.mul_le_mul b2 b2
    have:=Nat.mul_le_mul_right e hge
    omega
theorem ADE {r x m:Nat} (h:x^m % r=1 % r) (k:Nat):x^(m*k) % r=1 % r:=by
 rw [Nat.pow_mul,Nat.pow_mod,h,← Nat.pow_mod,Nat.one_pow]
theorem ADF {r x:Nat}:∀ (m n:Nat),x^m % r=1 % r→x^n % r=1 % r→x^(Nat.gcd m n) % r=1 % r:=by
 intro m n
 induction m,n using Nat.gcd.induction with
 | H0 n=>intro _ h;rwa [Nat.gcd_zero_left]
 | H1 m n hm ih =>
  intro h1 h2
  rw [Nat.gcd_rec]
  refine ih ?_ h1
  have e:=Nat.div_add_mod n m
  rw [← e,Nat.pow_add,Nat.mul_mod,ADE h1,← Nat.mul_mod,Nat.one_mul] at h2
  exact h2
theorem Y0 {N q h a r:Nat} (hN:N=h*q+1) (hq:Prime q) (h1:a^(N-1) % N=1) (h2:Nat.gcd (a^h % N+N-1) N=1) (hr:Prime r) (hrN:r∣N):q∣r-1:=by
 have hr2:=hr.1
 have e1:(a^h)^q % r=1 % r:=by
  rw [← Nat.pow_mul,show h*q=N-1 by omega,← Nat.mod_mod_of_dvd _ hrN,h1]
 have hN1:1≤N:=by omega
 have e2:a^h % r≠1:=fun e=>by
  have hd:r∣a^h % N+N-1:=by
   refine Nat.dvd_of_mod_eq_zero ?_
   have:(a^h % N+N-1+1) % r=1 % r:=by
    rw [Nat.sub_add_cancel (by omega),Nat.add_mod,Nat.mod_mod_of_dvd _ hrN,e,Nat.mod_eq_zero_of_dvd hrN,Nat.add_zero]
   have:=QV this (by omega)
   exact Nat.mod_eq_zero_of_dvd (by simpa using this)
  have:=Nat.dvd_gcd hd hrN
  rw [h2] at this
  have:=Nat.le_of_dvd (by decide) this
  omega
 have hnd:¬ r∣a^h:=fun hd=>by
  have:r∣(a^h)^q:=by
   obtain ⟨k,hk⟩:=hd
   have hq2:=hq.1
   obtain ⟨j,rfl⟩:∃ j,q=j+1:=⟨q-1,by omega⟩
   exact ⟨(a^h)^j*k,by rw [Nat.pow_succ,Nat.mul_left_comm,← hk]⟩
  rw [Nat.mod_eq_zero_of_dvd this,Nat.mod_eq_of_lt (by omega)] at e1
  cases e1
 have e3:=N3 hr hnd
 by_cases hd:q∣r-1
 ·exact hd
 ·exfalso
  have hc:=hq.coprime hd
  have:=ADF q (r-1) e1 (by rw [e3,Nat.mod_eq_of_lt (by omega)])
  rw [hc,Nat.pow_one,Nat.mod_eq_of_lt (a:=1) (by omega)] at this
  exact e2 this
theorem ADG {N q h a:Nat} (hN:N=h*q+1) (hq:Prime q) (hh:h<q) (h0:0<h) (h1:a^(N-1) % N=1) (h2:Nat.gcd (a^h % N+N-1) N=1):Prime N:=by
 have hq2:=hq.1
 have hpos:1*1≤h*q:=Nat.mul_le_mul h0 (by omega)
 refine Yz (by omega) fun r hr hrN=>?_
 have:=Nat.le_of_dvd (by have:=hr.1;omega) (Y0 hN hq h1 h2 hr hrN)
 have hle:q+1≤r:=by have:=hr.1;omega
 have:=Nat.mul_le_mul hle hle
 have h3:h*q≤q*q:=Nat.mul_le_mul_right q (by omega)
 rw [Nat.succ_mul,Nat.mul_succ] at this
 omega
theorem ADH {N q h a q' h' a':Nat} (hN:N=h*q+1) (hq:Prime q) (h1:a^(N-1) % N=1) (h2:Nat.gcd (a^h % N+N-1) N=1) (hN':N=h'*q'+1) (hq':Prime q') (h1':a'^(N-1) % N=1) (h2':Nat.gcd (a'^h' % N+N-1) N=1)
  (hne:q<q') (hbig:N<(q*q'+1)*(q*q'+1)) (hN2:2≤N):Prime N:=by
 refine Yz hN2 fun r hr hrN=>?_
 have d1:=Y0 hN hq h1 h2 hr hrN
 have d2:=Y0 hN' hq' h1' h2' hr hrN
 have hc:Nat.Coprime q q':=hq.coprime fun hd=>by
  rcases hq'.2 q hd with e | e
  ·have:=hq.1;omega
  ·omega
 have:=Nat.le_of_dvd (by have:=hr.1;omega) (hc.mul_dvd_of_dvd_of_dvd d1 d2)
 have hle:q*q'+1≤r:=by have:=hr.1;omega
 exact Nat.lt_of_lt_of_le hbig (Nat.mul_le_mul hle hle)
def QW (n:Nat):Nat→Nat→Bool
 | 0,_=>true
 | f+1,d=>match n % d with
  | 0=>false
  | _+1=>QW n f (d+1)
theorem lN (n:Nat):∀ (f d:Nat),QW n f d=true→∀ e,d≤e→e<d+f→¬ e∣n
 | 0,d,_,e,h1,h2=>by omega
 | f+1,d,h,e,h1,h2=>by
  unfold QW at h
  split at h
  ·cases h
  ·rename_i k hk
   rcases Nat.eq_or_lt_of_le h1 with rfl | hlt
   ·intro hd;rw [Nat.mod_eq_zero_of_dvd hd] at hk;cases hk
   ·exact lN n f (d+1) h e (by omega) (by omega)
theorem ADI {n f:Nat} (h2:2≤n) (h:QW n f 2=true) (hb:n<(f+2)*(f+2)):Prime n:=by
 refine Yz h2 fun q hq hd=>?_
 rcases Nat.lt_or_ge q (f+2) with hlt | hge
 ·exact absurd hd (lN n f 2 h q hq.1 (by omega))
 ·exact Nat.lt_of_lt_of_le hb (Nat.mul_le_mul hge hge)
def Ks (m x:Nat):Nat→Nat→Nat
 | 0,_=>1 % m
 | f+1,e=>(match e % 2 with
  | 0=>Ks m (x*x % m) f (e / 2)
  | _=>x*Ks m (x*x % m) f (e / 2) % m)
theorem Y1 (m:Nat):∀ (f x e:Nat),e<2^f→Ks m x f e=x^e % m
 | 0,x,e,h=>by
  have:e=0:=by simpa using h
  subst this;rfl
 | f+1,x,e,h=>by
  have ih:=Y1 m f (x*x % m) (e / 2) (by rw [Nat.pow_succ] at h;omega)
  have h2:(x*x % m)^(e / 2) % m=x^(2*(e / 2)) % m:=by
   rw [← Nat.pow_mod,Nat.pow_mul,Nat.pow_two]
  unfold Ks
  rcases Nat.mod_two_eq_zero_or_one e with h0 | h1
  ·rw [h0]
   show Ks m (x*x % m) f (e / 2)=_
   rw [ih,h2,show 2*(e / 2)=e by omega]
  ·rw [h1]
   show x*Ks m (x*x % m) f (e / 2) % m=_
   rw [ih,h2,Nat.mul_mod,Nat.mod_mod,← Nat.mul_mod,← Nat.pow_succ',show (2*(e / 2)).succ=e by omega]
def QX (N q h a f:Nat):Bool:=Nat.beq N (h*q+1)&&(Nat.ble (N-1+1) (2^f)&&(Nat.beq (Ks N a f (N-1)) 1&&Nat.beq (Nat.gcd (Ks N a f h+N-1) N) 1))
theorem Y2 {N q h a f:Nat} (h0:QX N q h a f=true) (hq:0<q):N=h*q+1∧a^(N-1) % N=1∧Nat.gcd (a^h % N+N-1) N=1:=by
 unfold QX at h0
 simp only [Bool.and_eq_true] at h0
 obtain ⟨c1,c2,c3,c4⟩:=h0
 have e1:=Nat.eq_of_beq_eq_true c1
 have e2:=Nat.le_of_ble_eq_true c2
 have e3:=Nat.eq_of_beq_eq_true c3
 have e4:=Nat.eq_of_beq_eq_true c4
 have hle:h*1≤h*q:=Nat.mul_le_mul_left h hq
 rw [Y1 N f a _ (by omega)] at e3
 rw [Y1 N f a _ (by omega)] at e4
 exact ⟨e1,e3,e4⟩
end Go.Proofs.YtjlcdlekmpjjnaaGreat.Num
namespace Go.Proofs.YtjlcdlekmpjjnaaGreat.Num
set_option maxRecDepth 100000
set_option maxHeartbeats 4000000
theorem lO {n f:Nat} (h:(Nat.ble 2 n&&(QW n f 2&&Nat.blt n ((f+2)*(f+2))))=true):Prime n:=by
 simp only [Bool.and_eq_true] at h
 exact ADI (Nat.le_of_ble_eq_true h.1) h.2.1 (Nat.le_of_ble_eq_true h.2.2)
theorem Tz {N q h a f:Nat} (hq:Prime q) (hb:(QX N q h a f&&(Nat.blt h q&&Nat.blt 0 h))=true):Prime N:=by
 simp only [Bool.and_eq_true] at hb
 have hq2:=hq.1
 obtain ⟨e1,e2,e3⟩:=Y2 hb.1 (by omega)
 exact ADG e1 hq (Nat.le_of_ble_eq_true hb.2.1) (Nat.le_of_ble_eq_true hb.2.2) e2 e3
theorem ADJ:Prime 421987:=lO (f:=650) (by kernel_rfl)
theorem ADK:Prime 755057:=lO (f:=870) (by kernel_rfl)
theorem ADL:Prime 13090036741:=Tz (q:=421987) (h:=31020) (a:=2) (f:=64) ADJ (by kernel_rfl)
theorem ADM {N q h a q' h' a' f:Nat} (hq:Prime q) (hq':Prime q') (hb:(QX N q h a f&&(QX N q' h' a' f&&(Nat.blt q q'&&(Nat.blt N ((q*q'+1)*(q*q'+1))&&Nat.ble 2 N))))=true):Prime N:=by
 simp only [Bool.and_eq_true] at hb
 obtain ⟨b1,b2,b3,b4,b5⟩:=hb
 have hq2:=hq.1
 have hq2':=hq'.1
 obtain ⟨e1,e2,e3⟩:=Y2 b1 (by omega)
 obtain ⟨d1,d2,d3⟩:=Y2 b2 (by omega)
 exact ADH e1 hq e2 e3 d1 hq' d2 d3 (Nat.le_of_ble_eq_true b3) (Nat.le_of_ble_eq_true b4) (Nat.le_of_ble_eq_true b5)
theorem ADN:Prime 3819663927398918131021:=ADM (h:=(3819663927398918131021-1) / 755057) (a:=2) (h':=(3819663927398918131021-1) / 13090036741) (a':=2) (f:=128) ADK ADL (by kernel_rfl)
theorem ADO:Prime 1125266252156850182658904441386709967:=Tz (h:=294598235223046) (a:=2) (f:=128) ADN (by kernel_rfl)
theorem prQ:Prime 15778400344354997994418419698270088123916926905054652752758194827714659:=Tz (h:=14021926201120671579994175730661374) (a:=2) (f:=256) ADO (by kernel_rfl)
theorem prp:Prime 4002409555221667393417789825735904156556882819939007885332058136124031650490837864442687629129015664037894272559787:=Tz (h:=253663835868735594330404923636534084567099854) (a:=2) (f:=384) prQ (by kernel_rfl)
theorem ADR {p x y:Nat} (hp:Prime p) (hx:x<p) (hy:y<p) (h:x*x % p=y*y % p):x=y∨x+y=p:=by
 have gen:∀ {x y:Nat},x<p→y≤x→x*x % p=y*y % p→x=y∨x+y=p:=by
  intro x y hx hle h
  have hd:=QV h (Nat.mul_le_mul hle hle)
  have e:x*x-y*y=(x+y)*(x-y):=Nat.mul_self_sub_mul_self_eq x y
  rw [e] at hd
  rcases hp.dvd_mul hd with h1 | h1
  ·rcases Nat.eq_zero_or_pos (x+y) with h0 | h0
   ·left;omega
   ·obtain ⟨k,hk⟩:=h1
    right
    have:k=1:=by
     rcases Nat.lt_or_ge k 2 with h2 | h2
     ·rcases Nat.eq_zero_or_pos k with h3 | h3
      ·subst h3;omega
      ·omega
     ·have:=Nat.mul_le_mul_left p h2;omega
    subst this;omega
  ·left
   rcases Nat.eq_zero_or_pos (x-y) with h0 | h0
   ·omega
   ·have:=Nat.le_of_dvd h0 h1;omega
 rcases Nat.lt_or_ge x y with h1 | h1
 ·rcases gen hy (Nat.le_of_lt h1) h.symm with e | e
  ·exact .inl e.symm
  ·exact .inr (by omega)
 ·exact gen hx h1 h
theorem ADS {p x:Nat} (hp:Prime p) (h2:2<p) (h:x*x % p=1):x % p=1∨x % p=p-1:=by
 have h':x % p*(x % p) % p=1*1 % p:=by rw [← Nat.mul_mod,h,Nat.mul_one,Nat.mod_eq_of_lt (by omega)]
 rcases ADR hp (Nat.mod_lt x (by omega)) (show 1<p by omega) h' with e | e
 ·exact .inl e
 ·exact .inr (by omega)
theorem ADT {p a:Nat} (hp:Prime p) (h2:2<p) (hodd:p % 2=1) (ha:¬ p∣a):a^((p-1) / 2) % p=1∨a^((p-1) / 2) % p=p-1:=by
 refine ADS hp h2 ?_
 rw [← Nat.pow_two,← Nat.pow_mul,show (p-1) / 2*2=p-1 by omega]
 exact N3 hp ha
theorem ADU {p a:Nat} (h4:p % 4=3):a^((p+1) / 4) % p*(a^((p+1) / 4) % p) % p=a*(a^((p-1) / 2)) % p:=by
 rw [← Nat.mul_mod,← Nat.pow_add,← Nat.pow_succ']
 congr 2
 omega
theorem ADV {p a:Nat} (hp:0<p):a*(p-1) % p=(p-a % p) % p:=by
 have h1:(a*(p-1)+a) % p=0:=by
  have:a*(p-1)+a=a*p:=by
   have:=Nat.mul_sub a p 1
   have h2:a*1≤a*p:=Nat.mul_le_mul_left a hp
   omega
  rw [this,Nat.mul_mod_left]
 have hl:=Nat.mod_lt a hp
 have hl2:=Nat.mod_lt (a*(p-1)) hp
 have h3:(a*(p-1) % p+a % p) % p=0:=by rw [← Nat.add_mod];exact h1
 have h4:=Nat.div_add_mod (a*(p-1) % p+a % p) p
 rw [h3] at h4
 rcases Nat.eq_zero_or_pos (a % p) with h0 | h0
 ·rw [h0] at h4 ⊢
  have:(a*(p-1) % p+0) / p=0:=Nat.div_eq_of_lt (by omega)
  rw [this] at h4
  rw [Nat.sub_zero,Nat.mod_self];omega
 ·rw [Nat.mod_eq_of_lt (a:=p-a % p) (by omega)]
  have:(a*(p-1) % p+a % p) / p=1:=by
   have l1:(a*(p-1) % p+a % p) / p<2:=Nat.div_lt_of_lt_mul (by omega)
   rcases Nat.eq_zero_or_pos ((a*(p-1) % p+a % p) / p) with e | e
   ·rw [e] at h4;omega
   ·omega
  rw [this] at h4;omega
theorem ADW {p a:Nat} (hp:Prime p) (h4:p % 4=3) (ha:¬ p∣a):a^((p+1) / 4) % p*(a^((p+1) / 4) % p) % p=a % p↔a^((p-1) / 2) % p=1:=by
 have h2:2<p:=by omega
 have hz:a % p≠0:=fun h=>ha (Nat.dvd_of_mod_eq_zero h)
 have hlt:=Nat.mod_lt a (show 0<p by omega)
 rw [ADU h4,Nat.mul_mod]
 rcases ADT hp h2 (by omega) ha with h | h
 ·rw [h,Nat.mul_one,Nat.mod_mod];simp
 ·rw [h,ADV (by omega),Nat.mod_mod,Nat.mod_eq_of_lt (a:=p-a % p) (by omega)]
  constructor
  ·intro h3;omega
  ·intro h3;omega
end Go.Proofs.YtjlcdlekmpjjnaaGreat.Num
namespace Go.Proofs.YtjlcdlekmpjjnaaGreat.Num
section
variable {p:Nat} [NeZero p]
def Ci (p:Nat) [NeZero p] (x:Nat):Fin p:=Fin.ofNat p x
theorem HS (x:Nat):(Ci p x).val=x % p:=rfl
theorem T3 {x y:Nat}:Ci p x=Ci p y↔x % p=y % p:=by
 rw [Fin.ext_iff,HS,HS]
theorem lP (x:Nat):Ci p (x % p)=Ci p x:=by rw [T3,Nat.mod_mod]
theorem lQ (x y:Nat):Ci p (x+y)=Ci p x+Ci p y:=by
 rw [Fin.ext_iff,Fin.val_add,HS,HS,HS,← Nat.add_mod]
theorem lR (x y:Nat):Ci p (x*y)=Ci p x*Ci p y:=by
 rw [Fin.ext_iff,Fin.val_mul,HS,HS,HS,← Nat.mul_mod]
theorem lS:Ci p 0=0:=by rw [Fin.ext_iff,HS];simp
theorem ADX:Ci p 1=1:=rfl
theorem lT:Ci p p=0:=by rw [Fin.ext_iff,HS];simp
theorem Y3 {x y:Nat} (h:y≤x):Ci p (x-y)=Ci p x-Ci p y:=by
 have:Ci p (x-y)+Ci p y=Ci p x:=by rw [← lQ,Nat.sub_add_cancel h]
 rw [← this];grind
theorem ADY (x:Nat):Ci p (p-x % p)=- Ci p x:=by
 have hp:0<p:=Nat.pos_of_ne_zero (NeZero.ne p)
 rw [Y3 (Nat.le_of_lt (Nat.mod_lt x hp)),lT,lP];grind
theorem Y4 {x:Nat}:Ci p x=0↔p∣x:=by
 rw [← lS,T3,Nat.zero_mod]
 exact ⟨Nat.dvd_of_mod_eq_zero,Nat.mod_eq_zero_of_dvd⟩
theorem ADZ {x y:Nat} (hx:x<p) (hy:y<p) (h:Ci p x=Ci p y):x=y:=by
 have:=T3.1 h
 rwa [Nat.mod_eq_of_lt hx,Nat.mod_eq_of_lt hy] at this
theorem ADa (hp:Prime p) {a b:Fin p} (h:a*b=0):a=0∨b=0:=by
 have e:∀ x:Fin p,Ci p x.val=x:=fun x=>by rw [Fin.ext_iff,HS,Nat.mod_eq_of_lt x.isLt]
 rw [← e a,← e b,← lR,Y4] at h
 rw [← e a,← e b,Y4,Y4]
 exact hp.dvd_mul h
end
end Go.Proofs.YtjlcdlekmpjjnaaGreat.Num
namespace Go.Proofs.YtjlcdlekmpjjnaaGreat.Num
set_option maxRecDepth 100000
set_option maxHeartbeats 4000000
end Go.Proofs.YtjlcdlekmpjjnaaGreat.Num
namespace Go.Proofs.YtjlcdlekmpjjnaaGreat
open Ex Num
set_option maxRecDepth 100000
set_option maxHeartbeats 4000000
theorem pN_prime:Num.Prime pN:=prp
theorem pN4:pN % 4=3:=by kernel_rfl
theorem ADc:2<pN:=by decide
theorem ADd:QN=(pN+1) / 4:=by kernel_rfl
noncomputable def Y5 (a:Nat):Nat:=a^((pN-1) / 2) % pN
theorem ADe {a:Nat}:pN∣a↔a % pN=0:=⟨Nat.mod_eq_zero_of_dvd,Nat.dvd_of_mod_eq_zero⟩
theorem ADf {a:Nat} (h:a % pN≠0):Cz a=true↔Y5 a=1:=by
 unfold Cz Aa Y5
 rw [I2,ADd,decide_eq_true_eq]
 exact ADW pN_prime pN4 fun hd=>h (ADe.1 hd)
theorem ADg {a:Nat} (h:a % pN=0):Cz a=true:=by
 unfold Cz Aa
 rw [I2,decide_eq_true_eq,Nat.pow_mod,h,Nat.zero_pow (by decide)]
 rfl
theorem I4 (a b:Nat):Aa a b<pN:=Nat.mod_lt _ CM
theorem neg_sq {v:Nat} (hl:v<pN):(pN-v)*(pN-v) % pN=v*v % pN:=by
 obtain ⟨u,hu⟩:∃ u,pN=u+v:=⟨pN-v,by omega⟩
 rw [show pN-v=u by omega]
 have e:u*u+v*pN=v*v+u*pN:=by rw [hu,Nat.mul_add,Nat.mul_add,Nat.mul_comm v u];omega
 have h1:(u*u+v*pN) % pN=u*u % pN:=Nat.add_mul_mod_self_right _ _ _
 have h2:(v*v+u*pN) % pN=v*v % pN:=Nat.add_mul_mod_self_right _ _ _
 rw [← h1,e,h2]
theorem ADh (w:Nat):Aa (GZ w) (GZ w)=Aa w w:=by
 unfold GZ
 split
 ·unfold Aa Cr
  rw [← Nat.mul_mod]
  by_cases h:w % pN=0
  ·rw [h,Nat.sub_zero,Nat.mul_mod pN,Nat.mod_self,Nat.mul_mod w,h]
  ·have e:(pN-w % pN)*(pN-w % pN) % pN=(w % pN)*(w % pN) % pN:=by
    have hl:=E_ w
    generalize w % pN=v at *
    exact neg_sq hl
   rw [e,← Nat.mul_mod]
 ·rfl
theorem ADi {w:Nat} (h:w<pN):GZ w % 2=0∧GZ w<pN:=by
 have ho:=Ty
 unfold GZ
 split
 ·rename_i hs
  have h1:w % 2=1:=by unfold FV at hs;rw [Nat.mod_eq_of_lt h] at hs;omega
  have hz:w % pN≠0:=by rw [Nat.mod_eq_of_lt h];omega
  rw [ADB hz,Nat.mod_eq_of_lt h];omega
 ·rename_i hs
  have h1:w % 2≠1:=fun e=>by apply hs;unfold FV;rw [Nat.mod_eq_of_lt h];omega
  omega
theorem lU (a e:Nat):Dg a e<pN:=by rw [I2];exact Nat.mod_lt _ CM
theorem Y6 {a:Nat} (h:Cz a=true):Aa (DD a) (DD a)=a % pN∧DD a % 2=0∧DD a<pN:=by
 have e:DD a=GZ (Dg a QN):=by unfold DD;rw [if_pos h]
 obtain ⟨q1,q2⟩:=ADi (lU a QN)
 rw [e,ADh]
 refine ⟨?_,q1,q2⟩
 unfold Cz at h
 exact of_decide_eq_true h
end Go.Proofs.YtjlcdlekmpjjnaaGreat
namespace Go.Proofs.YtjlcdlekmpjjnaaGreat
open Ex
set_option maxRecDepth 100000
set_option maxHeartbeats 4000000
def lenL:List UInt8:=[0,1]++(List.replicate 2 2++(List.replicate 4 3++(List.replicate 8 4++(List.replicate 16 5++(List.replicate 32 6++(List.replicate 64 7++List.replicate 128 8))))))
def lenT:ByteArray:=⟨⟨lenL⟩⟩
def BA (x:Int) (k:Nat):Int:=Int.fdiv x (2^k)
theorem ADj (x:Int):Ac Tryz.prog (AI S5 K0) Tryz.f347 [.val false [.v (.int .u64 x)]] [true,true,true] 100 =
 some ([(decide (4294967296≤x),true),(decide (0≤(32:Int)∧0≤x),true),(decide (65536≤(BA x 32)),true),(decide (0≤(16:Int)∧0≤(BA x 32)),true),(decide (256≤(BA (BA x 32) 16)),true),(decide (0≤(8:Int)∧0≤(BA (BA x 32) 16)),true),(decide (0≤AN false .u8 (BA (BA (BA x 32) 16) 8)∧AN false .u8 (BA (BA (BA x 32) 16) 8)<(lenT.size:Int)),true)],DH (AN false .i64 (AN true .i64 (AN true .i64 (32+16)+8)+AN false .i64 (D8 lenT (AN false .u8 (BA (BA (BA x 32) 16) 8)))))):=by kernel_rfl
theorem ADk (x:Int):Ac Tryz.prog (AI S5 K0) Tryz.f347 [.val false [.v (.int .u64 x)]] [true,true,false] 100 =
 some ([(decide (4294967296≤x),true),(decide (0≤(32:Int)∧0≤x),true),(decide (65536≤(BA x 32)),true),(decide (0≤(16:Int)∧0≤(BA x 32)),true),(decide (256≤(BA (BA x 32) 16)),false),(decide (0≤AN false .u8 (BA (BA x 32) 16)∧AN false .u8 (BA (BA x 32) 16)<(lenT.size:Int)),true)],DH (AN false .i64 (AN true .i64 (32+16)+AN false .i64 (D8 lenT (AN false .u8 (BA (BA x 32) 16)))))):=by kernel_rfl
theorem ADl (x:Int):Ac Tryz.prog (AI S5 K0) Tryz.f347 [.val false [.v (.int .u64 x)]] [true,false,true] 100 =
 some ([(decide (4294967296≤x),true),(decide (0≤(32:Int)∧0≤x),true),(decide (65536≤(BA x 32)),false),(decide (256≤(BA x 32)),true),(decide (0≤(8:Int)∧0≤(BA x 32)),true),(decide (0≤AN false .u8 (BA (BA x 32) 8)∧AN false .u8 (BA (BA x 32) 8)<(lenT.size:Int)),true)],DH (AN false .i64 (AN true .i64 (32+8)+AN false .i64 (D8 lenT (AN false .u8 (BA (BA x 32) 8)))))):=by kernel_rfl
theorem ADm (x:Int):Ac Tryz.prog (AI S5 K0) Tryz.f347 [.val false [.v (.int .u64 x)]] [true,false,false] 100 =
 some ([(decide (4294967296≤x),true),(decide (0≤(32:Int)∧0≤x),true),(decide (65536≤(BA x 32)),false),(decide (256≤(BA x 32)),false),(decide (0≤AN false .u8 (BA x 32)∧AN false .u8 (BA x 32)<(lenT.size:Int)),true)],DH (AN false .i64 (32+AN false .i64 (D8 lenT (AN false .u8 (BA x 32)))))):=by kernel_rfl
theorem ADn (x:Int):Ac Tryz.prog (AI S5 K0) Tryz.f347 [.val false [.v (.int .u64 x)]] [false,true,true] 100 =
 some ([(decide (4294967296≤x),false),(decide (65536≤x),true),(decide (0≤(16:Int)∧0≤x),true),(decide (256≤(BA x 16)),true),(decide (0≤(8:Int)∧0≤(BA x 16)),true),(decide (0≤AN false .u8 (BA (BA x 16) 8)∧AN false .u8 (BA (BA x 16) 8)<(lenT.size:Int)),true)],DH (AN false .i64 (AN true .i64 (AN true .i64 (0+16)+8)+AN false .i64 (D8 lenT (AN false .u8 (BA (BA x 16) 8)))))):=by kernel_rfl
theorem ADo (x:Int):Ac Tryz.prog (AI S5 K0) Tryz.f347 [.val false [.v (.int .u64 x)]] [false,true,false] 100 =
 some ([(decide (4294967296≤x),false),(decide (65536≤x),true),(decide (0≤(16:Int)∧0≤x),true),(decide (256≤(BA x 16)),false),(decide (0≤AN false .u8 (BA x 16)∧AN false .u8 (BA x 16)<(lenT.size:Int)),true)],DH (AN false .i64 (AN true .i64 (0+16)+AN false .i64 (D8 lenT (AN false .u8 (BA x 16)))))):=by kernel_rfl
theorem ADp (x:Int):Ac Tryz.prog (AI S5 K0) Tryz.f347 [.val false [.v (.int .u64 x)]] [false,false,true] 100 =
 some ([(decide (4294967296≤x),false),(decide (65536≤x),false),(decide (256≤x),true),(decide (0≤(8:Int)∧0≤x),true),(decide (0≤AN false .u8 (BA x 8)∧AN false .u8 (BA x 8)<(lenT.size:Int)),true)],DH (AN false .i64 (AN true .i64 (0+8)+AN false .i64 (D8 lenT (AN false .u8 (BA x 8)))))):=by kernel_rfl
theorem ADq (x:Int):Ac Tryz.prog (AI S5 K0) Tryz.f347 [.val false [.v (.int .u64 x)]] [false,false,false] 100 =
 some ([(decide (4294967296≤x),false),(decide (65536≤x),false),(decide (256≤x),false),(decide (0≤AN false .u8 x∧AN false .u8 x<(lenT.size:Int)),true)],DH (AN false .i64 (0+AN false .i64 (D8 lenT (AN false .u8 x))))):=by kernel_rfl
def Kt (x L top:Nat):Prop:=x<2^L∧(0<x→1≤L∧2^(L-1)≤x)∧L≤top
def Du (v:Nat):Nat:=(lenL.getD v 0).toNat
def Y7 (x L:Nat):Bool:=Nat.blt x (2^L)&&((Nat.beq x 0||(Nat.ble 1 L&&Nat.ble (2^(L-1)) x))&&Nat.ble L 8)
def Y8:Nat→Bool
 | 0=>true
 | n+1=>Y7 n (Du n)&&Y8 n
theorem lV:∀ n,Y8 n=true→∀ v,v<n→Y7 v (Du v)=true
 | 0,_,v,h=>by omega
 | n+1,h,v,hv=>by
  simp only [Y8,Bool.and_eq_true] at h
  rcases Nat.lt_or_ge v n with h1 | h1
  ·exact lV n h.2 v h1
  ·have:v=n:=by omega
   subst this;exact h.1
theorem lW {v:Nat} (h:v<256):Kt v (Du v) 8:=by
 have:=lV 256 (by kernel_rfl) v h
 unfold Y7 at this
 simp only [Bool.and_eq_true,Bool.or_eq_true] at this
 obtain ⟨h1,h2,h3⟩:=this
 refine ⟨Nat.le_of_ble_eq_true h1,fun hp=>?_,Nat.le_of_ble_eq_true h3⟩
 rcases h2 with h2 | ⟨h2,h4⟩
 ·have:=Nat.eq_of_beq_eq_true h2;omega
 ·exact ⟨Nat.le_of_ble_eq_true h2,Nat.le_of_ble_eq_true h4⟩
theorem Y9 {x L top:Nat} (k:Nat) (h:Kt (x / 2^k) L top) (hx:2^k≤x):Kt x (k+L) (k+top):=by
 obtain ⟨h1,h2,h3⟩:=h
 have hp:0<2^k:=Nat.pow_pos (by decide)
 have hq:0<x / 2^k:=Nat.div_pos hx hp
 obtain ⟨h4,h5⟩:=h2 hq
 refine ⟨?_,fun _=>⟨by omega,?_⟩,by omega⟩
 ·rw [Nat.pow_add]
  exact (Nat.div_lt_iff_lt_mul hp).1 h1 |> fun q=>by rwa [Nat.mul_comm] at q
 ·rw [show k+L-1=k+(L-1) by omega,Nat.pow_add]
  have:=(Nat.le_div_iff_mul_le hp).1 h5
  rwa [Nat.mul_comm] at this
theorem Y_ {x L top top':Nat} (h:Kt x L top) (hle:top≤top'):Kt x L top':=⟨h.1,h.2.1,Nat.le_trans h.2.2 hle⟩
def Ku (x:Nat):Nat:=if 256≤x then 8+Du (x / 2^8) else Du x
def N4 (x:Nat):Nat:=if 65536≤x then 16+Ku (x / 2^16) else Ku x
def Dv (x:Nat):Nat:=if 4294967296≤x then 32+N4 (x / 2^32) else N4 x
theorem lX {x:Nat} (h:x<65536):Kt x (Ku x) 16:=by
 unfold Ku
 split
 ·exact Y9 8 (lW (by omega)) (by omega)
 ·exact Y_ (lW (by omega)) (by decide)
theorem lY {x:Nat} (h:x<4294967296):Kt x (N4 x) 32:=by
 unfold N4
 split
 ·exact Y9 16 (lX (by omega)) (by omega)
 ·exact Y_ (lX (by omega)) (by decide)
theorem lZ {x:Nat} (h:x<18446744073709551616):Kt x (Dv x) 64:=by
 unfold Dv
 split
 ·exact Y9 32 (lY (by omega)) (by omega)
 ·exact Y_ (lY (by omega)) (by decide)
theorem I5 (x k:Nat):BA (x:Int) k=((x / 2^k:Nat):Int):=by
 unfold BA
 rw [Int.fdiv_eq_ediv_of_nonneg _ (by exact_mod_cast Nat.zero_le (2^k))]
 rw [Int.natCast_ediv,Int.natCast_pow];rfl
theorem T4 (c:Bool) {z:Int} (h:-9223372036854775808≤z∧z≤9223372036854775807):AN c .i64 z=z:=by
 rw [CA];exact Al h
theorem l5 {v:Nat} (h:v<256):AN false .u8 (v:Int)=v:=by
 rw [CA,IntKind.wrap_u8];omega
theorem ADr {v:Nat}:D8 lenT (v:Int)=((Du v:Nat):Int):=by
 unfold D8 Du lenT
 rw [Int.toNat_natCast]
theorem ADs:lenT.size=256:=by kernel_rfl
theorem ADt (v:Nat):Du v≤255:=by
 have:=(lenL.getD v 0).toNat_lt
 unfold Du;omega
theorem ADu (x:Nat) (hx:x<18446744073709551616):AX Tryz.prog 347 [.val false [.v (.int .u64 (x:Int))]] (DH (Dv x)):=by
 have pk:=fun (c:List (Bool×Bool)) (v:AV) (p:List Bool) (h:Ac Tryz.prog (AI S5 K0) Tryz.f347 [.val false [.v (.int .u64 (x:Int))]] p 100=some (c,v)) (hc:AQ c) (hk:KJ v=true)=>Ag (AK Ts AY) AE Tryz.func347 h hc hk
 have fin:∀ (n v m:Nat),v<256→n≤56→n+Du v=m→DH (AN false .i64 ((n:Int)+AN false .i64 (D8 lenT (AN false .u8 (v:Int)))))=DH (m:Int):=by
  intro n v m hv hn he
  have:=ADt v
  rw [l5 hv,ADr,T4 (z:=((Du v:Nat):Int)) _ (by omega),T4 _ (by omega)]
  congr 1;omega
 have w0:∀ (z:Int),AN true .i64 z=wI z:=fun z=>CA ..
 have cnd:∀ v:Nat,v<256→decide (0≤AN false .u8 (v:Int)∧AN false .u8 (v:Int)<(lenT.size:Int))=true:=by
  intro v hv
  rw [l5 hv,ADs];simp;omega
 unfold Dv
 by_cases h1:4294967296≤x
 ·rw [if_pos h1]
  unfold N4
  have s1:=I5 x 32
  generalize hy:x / 2^32=y at *
  have hyb:y<4294967296:=by omega
  by_cases h2:65536≤y
  ·rw [if_pos h2]
   unfold Ku
   have s2:=I5 y 16
   generalize hz:y / 2^16=z at *
   have hzb:z<65536:=by omega
   by_cases h3:256≤z
   ·rw [if_pos h3]
    have s3:=I5 z 8
    have hb:z / 2^8<256:=by omega
    have r:=ADj (x:Int)
    rw [s1,s2,s3] at r
    have h:=pk _ _ _ r ⟨by simp;omega,by simp,by simp;omega,by simp,by simp;omega,by simp,cnd _ hb,trivial⟩ rfl
    have e:AN true .i64 (AN true .i64 (32+16)+8)=((56:Nat):Int):=by kernel_rfl
    rw [e,fin 56 _ (32+(16+(8+Du (z / 2^8)))) hb (by decide) (by omega)] at h
    exact h
   ·rw [if_neg h3]
    have hb:z<256:=by omega
    have r:=ADk (x:Int)
    rw [s1,s2] at r
    have h:=pk _ _ _ r ⟨by simp;omega,by simp,by simp;omega,by simp,by simp;omega,cnd _ hb,trivial⟩ rfl
    have e:AN true .i64 (32+16)=((48:Nat):Int):=by kernel_rfl
    rw [e,fin 48 _ (32+(16+Du z)) hb (by decide) (by omega)] at h
    exact h
  ·rw [if_neg h2]
   unfold Ku
   by_cases h3:256≤y
   ·rw [if_pos h3]
    have s3:=I5 y 8
    have hb:y / 2^8<256:=by omega
    have r:=ADl (x:Int)
    rw [s1,s3] at r
    have h:=pk _ _ _ r ⟨by simp;omega,by simp,by simp;omega,by simp;omega,by simp,cnd _ hb,trivial⟩ rfl
    have e:AN true .i64 (32+8)=((40:Nat):Int):=by kernel_rfl
    rw [e,fin 40 _ (32+(8+Du (y / 2^8))) hb (by decide) (by omega)] at h
    exact h
   ·rw [if_neg h3]
    have hb:y<256:=by omega
    have r:=ADm (x:Int)
    rw [s1] at r
    have h:=pk _ _ _ r ⟨by simp;omega,by simp,by simp;omega,by simp;omega,cnd _ hb,trivial⟩ rfl
    rw [show (32:Int)=((32:Nat):Int) from rfl,fin 32 _ (32+Du y) hb (by decide) (by omega)] at h
    exact h
 ·rw [if_neg h1]
  unfold N4
  by_cases h2:65536≤x
  ·rw [if_pos h2]
   unfold Ku
   have s2:=I5 x 16
   generalize hz:x / 2^16=z at *
   have hzb:z<65536:=by omega
   by_cases h3:256≤z
   ·rw [if_pos h3]
    have s3:=I5 z 8
    have hb:z / 2^8<256:=by omega
    have r:=ADn (x:Int)
    rw [s2,s3] at r
    have h:=pk _ _ _ r ⟨by simp;omega,by simp;omega,by simp,by simp;omega,by simp,cnd _ hb,trivial⟩ rfl
    have e:AN true .i64 (AN true .i64 (0+16)+8)=((24:Nat):Int):=by kernel_rfl
    rw [e,fin 24 _ (16+(8+Du (z / 2^8))) hb (by decide) (by omega)] at h
    exact h
   ·rw [if_neg h3]
    have hb:z<256:=by omega
    have r:=ADo (x:Int)
    rw [s2] at r
    have h:=pk _ _ _ r ⟨by simp;omega,by simp;omega,by simp,by simp;omega,cnd _ hb,trivial⟩ rfl
    have e:AN true .i64 (0+16)=((16:Nat):Int):=by kernel_rfl
    rw [e,fin 16 _ (16+Du z) hb (by decide) (by omega)] at h
    exact h
  ·rw [if_neg h2]
   unfold Ku
   by_cases h3:256≤x
   ·rw [if_pos h3]
    have s3:=I5 x 8
    have hb:x / 2^8<256:=by omega
    have r:=ADp (x:Int)
    rw [s3] at r
    have h:=pk _ _ _ r ⟨by simp;omega,by simp;omega,by simp;omega,by simp,cnd _ hb,trivial⟩ rfl
    have e:AN true .i64 (0+8)=((8:Nat):Int):=by kernel_rfl
    rw [e,fin 8 _ (8+Du (x / 2^8)) hb (by decide) (by omega)] at h
    exact h
   ·rw [if_neg h3]
    have hb:x<256:=by omega
    have r:=ADq (x:Int)
    have h:=pk _ _ _ r ⟨by simp;omega,by simp;omega,by simp;omega,cnd _ hb,trivial⟩ rfl
    rw [show (0:Int)=((0:Nat):Int) from rfl,fin 0 _ (Du x) hb (by decide) (by omega)] at h
    exact h
def T5:List IntKind→List AV→Option (List Int)
 | [],[]=>some []
 | k::ks,A::r=>match BH (some A),T5 ks r with
  | some (_,k',i),some l=>match decide (k'=k) with
   | true=>some (i::l)
   | false=>none
  | _,_=>none
 | _,_=>none
def Y':List IntKind→List Int→List AV
 | k::ks,i::is=>.val false [.v (.int k i)]::Y' ks is
 | _,_=>[]
def ZA:List IntKind→List Int→Prop
 | k::ks,i::is=>has k i∧ZA ks is
 | _,_=>True
theorem l6:∀ {ks:List IntKind} {args:List AV} {is:List Int} {us:List Value},T5 ks args=some is→A9 BZ args us→A9 BZ (Y' ks is) us∧ZA ks is
 | [],[],is,us,h,hr=>by
  injection h with h;subst h
  exact ⟨hr,trivial⟩
 | [],_::_,_,_,h,_=>by cases h
 | _::_,[],_,_,h,_=>by cases h
 | k::ks,A::r,is,us,h,hr=>by
  unfold T5 at h
  split at h
  ·rename_i c k' i l hi hl
   split at h
   ·rename_i hk
    injection h with h;subst h
    have hk':k'=k:=by simpa using hk
    subst hk'
    obtain ⟨u,us',r1,r2,rfl⟩:=hr
    obtain ⟨q1,q2⟩:=Nw hi r1
    obtain ⟨p1,p2⟩:=l6 hl r2
    exact ⟨⟨u,us',q1,p1,rfl⟩,q2,p2⟩
   ·cases h
  ·cases h
def N5 (ks:List IntKind) (g:List Int→Option (List (Bool×Bool)×AV)):List AV→Option (List (Bool×Bool)×AV):=fun args=>match T5 ks args with
 | some is=>g is
 | none=>none
theorem T6 {f:FuncId} {ks:List IntKind} {g:List Int→Option (List (Bool×Bool)×AV)} (h:∀ is c v,g is=some (c,v)→ZA ks is→AQ c→AX Tryz.prog f (Y' ks is) v) :
  ∀ args c v,N5 ks g args=some (c,v)→AQ c→AX Tryz.prog f args v:=by
 intro args c v hs hc us w ha
 unfold N5 at hs
 split at hs
 ·rename_i is his
  obtain ⟨q1,q2⟩:=l6 his ha
  exact h is c v hs q2 hc us w q1
 ·cases hs
def T7 (g:Int→List (Bool×Bool)×AV):List Int→Option (List (Bool×Bool)×AV)
 | [x]=>some (g x)
 | _=>none
noncomputable def S20:List (FuncId×ASpec):=(347,DI (N5 [.u64] (T7 fun x=>([],DH (Dv x.toNat)))))::S19
theorem l7:AU Tryz.prog S20:=⟨Di Tryz.func347 (by kernel_rfl) (by kernel_rfl) (T6 fun is c v h hh _=>by
 unfold T7 at h
 split at h
 ·injection h with h;injection h with h1 h2;subst h1;subst h2
  rename_i x
  have hb:=Cx hh.1
  obtain ⟨X,rfl⟩:=Int.eq_ofNat_of_zero_le hb.1
  rw [Int.toNat_natCast]
  exact ADu X (by omega)
 ·cases h),AC'⟩
theorem ADv (x:Int):Ac Tryz.prog (AI S20 K0) Tryz.f319 [.val false [.v (.int .u64 x)]] [] 100=some ([],DH (wI (64-(Dv x.toNat:Int)))):=by kernel_rfl
theorem ADw (x:Nat) (hx:x<18446744073709551616):AX Tryz.prog 319 [.val false [.v (.int .u64 (x:Int))]] (DH (64-Dv x:Nat)):=by
 have h:=Ag (AK l7 AY) AE Tryz.func319 (ADv x) trivial rfl
 have:=(lZ hx).2.2
 rw [Int.toNat_natCast,Al (by omega),show (64:Int)-(Dv x:Int)=((64-Dv x:Nat):Int) by omega] at h
 exact h
noncomputable def S21:List (FuncId×ASpec):=(319,DI (N5 [.u64] (T7 fun x=>([],DH (64-Dv x.toNat:Nat)))))::S20
theorem FB:AU Tryz.prog S21:=⟨Di Tryz.func319 (by kernel_rfl) (by kernel_rfl) (T6 fun is c v h hh _=>by
 unfold T7 at h
 split at h
 ·injection h with h;injection h with h1 h2;subst h1;subst h2
  rename_i x
  have hb:=Cx hh.1
  obtain ⟨X,rfl⟩:=Int.eq_ofNat_of_zero_le hb.1
  rw [Int.toNat_natCast]
  exact ADw X (by omega)
 ·cases h),l7⟩
def dA (h l y:Int):List AV:=[.val false [.v (.int .u64 h)],.val false [.v (.int .u64 l)],.val false [.v (.int .u64 y)]]
noncomputable def ADx:List Item:=Bh (AR Tryz.prog (AI S21 K0) (some 0) 300 0 none (Af Tryz.f272 (dA 0 0 0) [] 0 [false,false,false]))
def uV (x:Int):AV:=.val false [.v (.int .u64 x)]
noncomputable def dT1 (Y s y1 y0 u u1 u0 q r:Int):List AV:=.any::.any::uV Y::.any::.any::.any::.any::.any::uV s::uV y1::uV y0::uV u::.any::uV u1::uV u0::uV q::uV r::List.replicate (Tryz.f272.ntmps-17) .any
noncomputable def H7 (Y s y1 y0 u u1 u0 q r:Int) (p:List Bool):ASt:=⟨ADx,⟨dT1 Y s y1 y0 u u1 u0 q r,[],0,p⟩⟩
noncomputable def ADz:List Item:=Bh (AR Tryz.prog (AI S21 K0) (some 0) 300 0 none (H7 0 0 0 0 0 0 0 0 0 [false,false]))
noncomputable def dT2 (Y s y1 y0 u0 q r v z:Int):List AV:=.any::.any::uV Y::.any::.any::.any::.any::.any::uV s::uV y1::uV y0::.any::.any::.any::uV u0::uV q::uV r::uV v::uV z::List.replicate (Tryz.f272.ntmps-19) .any
noncomputable def Gu (Y s y1 y0 u0 q r v z:Int) (p:List Bool):ASt:=⟨ADz,⟨dT2 Y s y1 y0 u0 q r v z,[],0,p⟩⟩
def QY (x s:Int):Int:=mW (x*2^min s.toNat 64)
def HT (x s:Int):Int:=Int.fdiv x (2^min s.toNat 64)
def Kv (y:Int):Int:=mW ((64-Dv y.toNat:Nat):Int)
def H8 (y:Int):Int:=QY y (Kv y)
def N6 (h l y:Int):Int:=bits .or .u64 (QY h (Kv y)) (HT l (mW (64-Kv y)))
def QZ (l y:Int):Int:=QY l (Kv y)
abbrev K1:Option (List Nat×List Nat×Nat):=some ([2,8,9,10,11,13,14,15,16],[],0)
abbrev K2:Option (List Nat×List Nat×Nat):=some ([2,8,9,10,14,15,16,17,18],[],0)
theorem AD1 (h l y:Int):AR Tryz.prog (AI S21 K0) (some 0) 300 0 K1 (Af Tryz.f272 (dA h l y) [] 0 [false,false,false]) =
 some ([(decide (y=0),false),(decide (y≤h),false),(decide (h=0),false),(true,true),(decide (0≤(32:Int)∧0≤H8 y),true),(true,true),(decide (0≤mW (64-Kv y)∧0≤l),true),(true,true),
  (decide (0≤(32:Int)∧0≤QZ l y),true),(decide (HT (H8 y) 32≠0),true)],[],
  H7 (H8 y) (Kv y) (HT (H8 y) 32) (bits .and .u64 (H8 y) 4294967295) (N6 h l y) (HT (QZ l y) 32) (bits .and .u64 (QZ l y) 4294967295) (mW (Int.tdiv (N6 h l y) (HT (H8 y) 32)))
   (mW (N6 h l y-mW (mW (Int.tdiv (N6 h l y) (HT (H8 y) 32))*HT (H8 y) 32))) []):=by kernel_rfl
theorem AD2 (h l y:Int):DQ Tryz.prog (AI S21 K0) Tryz.f272 300 0 (Af Tryz.f272 (dA h l y) [] 0 [false,false,true]) =
 some ([(decide (y=0),false),(decide (y≤h),false),(decide (h=0),true),(decide (y≠0),true),(decide (0≤l∧0<y),true)],[],.tup [(false,[.v (.int .u64 (mW (Int.tdiv l y)))]),(false,[.v (.int .u64 (Int.tmod l y))])]):=by kernel_rfl
def H9 (q r y0 u1:Int):Bool:=decide (mW (mW (4294967296*r)+u1)<mW (q*y0))
section
variable (Y s y1 y0 u u1 u0 q r v z:Int)
theorem AD3:AR Tryz.prog (AI S21 K0) (some 0) 300 0 K1 (H7 Y s y1 y0 u u1 u0 q r [true,false]) =
 some ([(decide (4294967296≤q),true),(decide (4294967296≤mW (r+y1)),false)],[],H7 Y s y1 y0 u u1 u0 (mW (q-1)) (mW (r+y1)) []):=by kernel_rfl
theorem AD4:AR Tryz.prog (AI S21 K0) (some 0) 300 0 K1 (H7 Y s y1 y0 u u1 u0 q r [false,true,false]) =
 some ([(decide (4294967296≤q),false),(H9 q r y0 u1,true),(decide (4294967296≤mW (r+y1)),false)],[],H7 Y s y1 y0 u u1 u0 (mW (q-1)) (mW (r+y1)) []):=by kernel_rfl
def Dw (Y u u1 q:Int):Int:=mW (mW (mW (u*4294967296)+u1)-mW (q*Y))
theorem AD5:AR Tryz.prog (AI S21 K0) (some 0) 300 0 K2 (H7 Y s y1 y0 u u1 u0 q r [true,true]) =
 some ([(decide (4294967296≤q),true),(decide (4294967296≤mW (r+y1)),true),(decide (y1≠0),true)],[],
  Gu Y s y1 y0 u0 (mW (q-1)) (mW (Dw Y u u1 (mW (q-1))-mW (mW (Int.tdiv (Dw Y u u1 (mW (q-1))) y1)*y1))) (Dw Y u u1 (mW (q-1))) (mW (Int.tdiv (Dw Y u u1 (mW (q-1))) y1)) []):=by kernel_rfl
theorem AD6:AR Tryz.prog (AI S21 K0) (some 0) 300 0 K2 (H7 Y s y1 y0 u u1 u0 q r [false,true,true]) =
 some ([(decide (4294967296≤q),false),(H9 q r y0 u1,true),(decide (4294967296≤mW (r+y1)),true),(decide (y1≠0),true)],[],
  Gu Y s y1 y0 u0 (mW (q-1)) (mW (Dw Y u u1 (mW (q-1))-mW (mW (Int.tdiv (Dw Y u u1 (mW (q-1))) y1)*y1))) (Dw Y u u1 (mW (q-1))) (mW (Int.tdiv (Dw Y u u1 (mW (q-1))) y1)) []):=by kernel_rfl
theorem l9:AR Tryz.prog (AI S21 K0) (some 0) 300 0 K2 (H7 Y s y1 y0 u u1 u0 q r [false,false]) =
 some ([(decide (4294967296≤q),false),(H9 q r y0 u1,false),(decide (y1≠0),true)],[],
  Gu Y s y1 y0 u0 q (mW (Dw Y u u1 q-mW (mW (Int.tdiv (Dw Y u u1 q) y1)*y1))) (Dw Y u u1 q) (mW (Int.tdiv (Dw Y u u1 q) y1)) []):=by kernel_rfl
theorem AD7:AR Tryz.prog (AI S21 K0) (some 0) 300 0 K2 (Gu Y s y1 y0 u0 q r v z [true,false]) =
 some ([(decide (4294967296≤z),true),(decide (4294967296≤mW (r+y1)),false)],[],Gu Y s y1 y0 u0 q (mW (r+y1)) v (mW (z-1)) []):=by kernel_rfl
theorem AD8:AR Tryz.prog (AI S21 K0) (some 0) 300 0 K2 (Gu Y s y1 y0 u0 q r v z [false,true,false]) =
 some ([(decide (4294967296≤z),false),(H9 z r y0 u0,true),(decide (4294967296≤mW (r+y1)),false)],[],Gu Y s y1 y0 u0 q (mW (r+y1)) v (mW (z-1)) []):=by kernel_rfl
def Qi (Y s u0 q v z:Int):AV:=.tup [(false,[.v (.int .u64 (mW (mW (q*4294967296)+z)))]),(false,[.v (.int .u64 (HT (Dw Y v u0 z) s))])]
theorem AD9:DQ Tryz.prog (AI S21 K0) Tryz.f272 300 0 (Gu Y s y1 y0 u0 q r v z [true,true]) =
 some ([(decide (4294967296≤z),true),(decide (4294967296≤mW (r+y1)),true),(decide (0≤s∧0≤Dw Y v u0 (mW (z-1))),true)],[],Qi Y s u0 q v (mW (z-1))):=by kernel_rfl
theorem AD_:DQ Tryz.prog (AI S21 K0) Tryz.f272 300 0 (Gu Y s y1 y0 u0 q r v z [false,true,true]) =
 some ([(decide (4294967296≤z),false),(H9 z r y0 u0,true),(decide (4294967296≤mW (r+y1)),true),(decide (0≤s∧0≤Dw Y v u0 (mW (z-1))),true)],[],Qi Y s u0 q v (mW (z-1))):=by kernel_rfl
theorem mA:DQ Tryz.prog (AI S21 K0) Tryz.f272 300 0 (Gu Y s y1 y0 u0 q r v z [false,false]) =
 some ([(decide (4294967296≤z),false),(H9 z r y0 u0,false),(decide (0≤s∧0≤Dw Y v u0 z),true)],[],Qi Y s u0 q v z):=by kernel_rfl
end
theorem T8 {u u1 Y q:Nat} (hu:u<Y) (hu1:u1<4294967296) (hq:4294967296≤q):(u*4294967296+u1) / Y<q:=by
 refine Nat.lt_of_lt_of_le (Nat.div_lt_of_lt_mul ?_) hq
 rw [Nat.mul_comm Y]
 omega
theorem mB {u u1 y1 y0 Y q r:Nat} (hY:Y=y1*4294967296+y0) (hu:u=q*y1+r) (h:4294967296*r+u1<q*y0):(u*4294967296+u1) / Y<q:=by
 refine Nat.div_lt_of_lt_mul ?_
 have e1:(q*y1+r)*4294967296=q*y1*4294967296+r*4294967296:=Nat.add_mul ..
 have e2:(y1*4294967296+y0)*q=q*y1*4294967296+q*y0:=by rw [Nat.add_mul,Nat.mul_comm y0 q,Nat.mul_right_comm,Nat.mul_comm y1 q]
 rw [hY,hu,e1,e2]
 omega
theorem T9 {u u1 y1 y0 Y q r:Nat} (hY:Y=y1*4294967296+y0) (hpos:0<Y) (hu:u=q*y1+r) (h:q*y0≤4294967296*r+u1) (hle:(u*4294967296+u1) / Y≤q):(u*4294967296+u1) / Y=q:=by
 refine Nat.le_antisymm hle ((Nat.le_div_iff_mul_le hpos).2 ?_)
 rw [hY,hu,Nat.mul_add,← Nat.mul_assoc]
 omega
theorem mC {q y0 r u1:Nat} (hq:q≤4294967297) (hy:y0<4294967296) (hr:4294967296≤r):q*y0≤4294967296*r+u1:=by
 have:=Nat.mul_le_mul hq (show y0≤4294967295 by omega)
 omega
theorem mD {u u1 y1 y0 Y:Nat} (hY:Y=y1*4294967296+y0) (hy1:0<y1) (hu1:u1<4294967296):(u*4294967296+u1) / Y≤u / y1:=by
 refine (Nat.le_div_iff_mul_le hy1).2 ?_
 have h:=Nat.div_mul_le_self (u*4294967296+u1) Y
 generalize (u*4294967296+u1) / Y=q at *
 rw [hY,Nat.mul_add,← Nat.mul_assoc] at h
 generalize q*y1=A at *
 generalize q*y0=B at *
 omega
theorem mF {u y1 y0 Y:Nat} (hY:Y=y1*4294967296+y0) (hy0:y0<4294967296) (hy1:2147483648≤y1) (hu:u<Y):u / y1≤4294967298:=by
 have hb:u<4294967299*y1:=by omega
 have:=(Nat.div_lt_iff_lt_mul (show 0<y1 by omega)).2 hb
 omega
theorem N7 {Y u u1 q:Nat} (h:q=(u*4294967296+u1) / Y) (hpos:0<Y) (hY:Y≤18446744073709551616):Dw Y u u1 q=(((u*4294967296+u1) % Y:Nat):Int):=by
 have h1:=Nat.div_add_mod (u*4294967296+u1) Y
 have h2:=Nat.mod_lt (u*4294967296+u1) hpos
 rw [← h,Nat.mul_comm] at h1
 unfold Dw
 simp only [Dq]
 have e:(q:Int)*(Y:Int)=((q*Y:Nat):Int):=by rw [Int.natCast_mul]
 rw [e]
 generalize q*Y=N at *
 generalize (u*4294967296+u1) % Y=m at *
 omega
theorem T_ {q r y0 u1:Nat} (hq:q<4294967296) (hr:r<4294967296) (hy:y0<4294967296) (hu1:u1<4294967296):H9 q r y0 u1=decide (4294967296*r+u1<q*y0):=by
 have hm:=Nat.mul_le_mul (show q≤4294967295 by omega) (show y0≤4294967295 by omega)
 unfold H9
 simp only [Dq]
 have e:(q:Int)*(y0:Int)=((q*y0:Nat):Int):=by rw [Int.natCast_mul]
 rw [e]
 generalize q*y0=N at *
 have e1:(4294967296*(r:Int)) % 18446744073709551616=4294967296*(r:Int):=by omega
 rw [e1]
 have e2:(4294967296*(r:Int)+u1) % 18446744073709551616=4294967296*(r:Int)+u1:=by omega
 have e3:((N:Nat):Int) % 18446744073709551616=N:=by omega
 rw [e2,e3]
 by_cases h:4294967296*r+u1<N
 ·rw [decide_eq_true h,decide_eq_true (by omega)]
 ·rw [decide_eq_false h,decide_eq_false (by omega)]
theorem mG (v y1:Nat) (hv:v<18446744073709551616) (hy1:0<y1):mW (Int.tdiv (v:Int) y1)=((v / y1:Nat):Int)∧mW ((v:Int)-mW (mW (Int.tdiv (v:Int) y1)*y1))=((v % y1:Nat):Int):=by
 have h1:=Nat.div_add_mod v y1
 have h2:=Nat.mod_lt v hy1
 have h3:=Nat.div_le_self v y1
 have e0:Int.tdiv (v:Int) y1=((v / y1:Nat):Int):=by rw [Int.tdiv_eq_ediv_of_nonneg (by omega)];rfl
 rw [e0,MO,Nat.mod_eq_of_lt (by omega)]
 refine ⟨rfl,?_⟩
 have e1:((v / y1:Nat):Int)*(y1:Int)=((v / y1*y1:Nat):Int):=by rw [Int.natCast_mul]
 rw [e1,MO,Dq,Nat.mul_comm]
 generalize y1*(v / y1)=N at *
 omega
theorem mH {q:Nat} (h:0<q) (hq:q≤18446744073709551616):mW ((q:Int)-1)=((q-1:Nat):Int):=by rw [Dq];omega
theorem mI {r y1:Nat} (hr:r<4294967296) (hy:y1<4294967296):mW ((r:Int)+y1)=((r+y1:Nat):Int):=by rw [Dq];omega
def Qj (q z m s:Nat):AV:=.tup [(false,[.v (.int .u64 ((q*4294967296+z:Nat):Int))]),(false,[.v (.int .u64 ((m / 2^min s 64:Nat):Int))])]
theorem ZB (x s:Nat):HT (x:Int) (s:Int)=((x / 2^min s 64:Nat):Int):=by
 unfold HT
 rw [Int.toNat_natCast]
 exact I5 x _
section
variable {Y s y1 y0 u0:Nat} (hY:Y=y1*4294967296+y0) (hy0:y0<4294967296) (hy1:2147483648≤y1) (hy1':y1<4294967296) (hu0:u0<4294967296) (w0:World)
include hY hy0 hy1 hy1' hu0
theorem AD' {v q:Nat} (hv:v<Y) (hq:q<4294967296):∀ z r,v=z*y1+r→r<4294967296→z≤4294967298→(v*4294967296+u0) / Y≤z →
  ASafe Tryz.prog 272 BZ w0 (E6 w0 (Qj q ((v*4294967296+u0) / Y) ((v*4294967296+u0) % Y) s)) Tryz.f272.ntmps [] (Gu Y s y1 y0 u0 q r v z []):=by
 have hpos:0<Y:=by omega
 have hYle:Y≤18446744073709551616:=by omega
 have fin:∀ z:Nat,z=(v*4294967296+u0) / Y→Qi Y s u0 q v z=Qj q ((v*4294967296+u0) / Y) ((v*4294967296+u0) % Y) s:=by
  intro z hz
  have hlt:z<4294967296:=by rw [hz];exact T8 hv hu0 (Nat.le_refl _)
  unfold Qi Qj
  rw [N7 hz hpos hYle,ZB,← hz]
  have:mW (mW ((q:Int)*4294967296)+(z:Int))=((q*4294967296+z:Nat):Int):=by rw [Dq,Dq];omega
  rw [this]
 have pos21:∀ z:Nat,z=(v*4294967296+u0) / Y→decide (0≤(s:Int)∧0≤Dw Y v u0 z)=true:=by
  intro z hz
  rw [N7 hz hpos hYle];simp only [decide_eq_true_eq];omega
 intro z
 induction z with
 | zero =>
  intro r hz hr _ hle
  have hq0:(v*4294967296+u0) / Y=0:=Nat.le_zero.1 hle
  have hdc:H9 ((0:Nat):Int) r y0 u0=false:=by rw [T_ (by decide) hr hy0 hu0];simp
  rw [← fin 0 hq0.symm]
  exact AZ [false,false] (FS (AK FB AY) AE Tryz.func272 (mA ..) ⟨by simp,hdc,pos21 0 hq0.symm,trivial⟩ (AL (by kernel_rfl)) (fun _ _=>rfl) rfl)
 | succ z ih =>
  intro r hz hr htop hle
  have hdq:=mH (q:=z+1) (by omega) (by omega)
  have hir:=mI hr hy1'
  rw [Nat.add_sub_cancel] at hdq
  have hz':v=z*y1+(r+y1):=by rw [hz,Nat.succ_mul];omega
  have go:∀ (hlt:(v*4294967296+u0) / Y<z+1),(4294967296≤r+y1→(v*4294967296+u0) / Y=z):=fun hlt hb =>
   T9 hY hpos hz' (mC (by omega) hy0 hb) (by omega)
  by_cases hbig:4294967296≤z+1
  ·have hlt:=T8 hv hu0 hbig
   by_cases hb:4294967296≤r+y1
   ·have hq:=go hlt hb
    have h:=FS (w0:=w0) (β0:=BZ) (n:=Tryz.f272.ntmps) (AK FB AY) AE Tryz.func272 (AD9 Y s y1 y0 u0 q r v (z+1:Nat)) ⟨by simp;omega,by rw [hir];simp;omega,by rw [hdq];exact pos21 z hq.symm,trivial⟩ (AL (by kernel_rfl)) (fun _ _=>rfl) rfl
    rw [hdq,fin z hq.symm] at h
    exact AZ [true,true] h
   ·refine AZ [true,false] (Ab (AK FB AY) AE (AD7 Y s y1 y0 u0 q r v (z+1:Nat)) ⟨by simp;omega,by rw [hir];simp;omega,trivial⟩ (AL (by kernel_rfl)) (fun _ _=>rfl) (fun _ h=>by cases h) fun _=>?_)
    rw [hdq,hir]
    exact ih (r+y1) hz' (by omega) (by omega) (by omega)
  ·have hsm:z+1<4294967296:=by omega
   have hdc:=T_ (u1:=u0) hsm hr hy0 hu0
   by_cases hc:4294967296*r+u0<(z+1)*y0
   ·have hlt:=mB hY hz hc
    by_cases hb:4294967296≤r+y1
    ·have hq:=go hlt hb
     have h:=FS (w0:=w0) (β0:=BZ) (n:=Tryz.f272.ntmps) (AK FB AY) AE Tryz.func272 (AD_ Y s y1 y0 u0 q r v (z+1:Nat)) ⟨by simp;omega,by rw [hdc];exact decide_eq_true hc,by rw [hir];simp;omega,by rw [hdq];exact pos21 z hq.symm,trivial⟩ (AL (by kernel_rfl)) (fun _ _=>rfl) rfl
     rw [hdq,fin z hq.symm] at h
     exact AZ [false,true,true] h
    ·refine AZ [false,true,false] (Ab (AK FB AY) AE (AD8 Y s y1 y0 u0 q r v (z+1:Nat)) ⟨by simp;omega,by rw [hdc];exact decide_eq_true hc,by rw [hir];simp;omega,trivial⟩ (AL (by kernel_rfl)) (fun _ _=>rfl) (fun _ h=>by cases h) fun _=>?_)
     rw [hdq,hir]
     exact ih (r+y1) hz' (by omega) (by omega) (by omega)
   ·have hq:=T9 hY hpos hz (by omega) hle
    rw [← fin (z+1) hq.symm]
    exact AZ [false,false] (FS (AK FB AY) AE Tryz.func272 (mA ..) ⟨by simp;omega,by rw [hdc];exact decide_eq_false hc,pos21 _ hq.symm,trivial⟩ (AL (by kernel_rfl)) (fun _ _=>rfl) rfl)
theorem AEA {u u1:Nat} (hu:u<Y) (hu1:u1<4294967296) {R:Ending→World→Prop}
  (hnext:ASafe Tryz.prog 272 BZ w0 R Tryz.f272.ntmps [] (Gu Y s y1 y0 u0 ((u*4294967296+u1) / Y:Nat) ((u*4294967296+u1) % Y % y1:Nat) ((u*4294967296+u1) % Y:Nat) ((u*4294967296+u1) % Y / y1:Nat) [])) :
  ∀ q r,u=q*y1+r→r<4294967296→q≤4294967298→(u*4294967296+u1) / Y≤q→ASafe Tryz.prog 272 BZ w0 R Tryz.f272.ntmps [] (H7 Y s y1 y0 u u1 u0 q r []):=by
 have _h:=hu0
 have hpos:0<Y:=by omega
 have hYle:Y≤18446744073709551616:=by omega
 have hm:=Nat.mod_lt (u*4294967296+u1) hpos
 have hne:decide ((y1:Int)≠0)=true:=by simp only [decide_eq_true_eq];omega
 obtain ⟨n1,n2⟩:=mG ((u*4294967296+u1) % Y) y1 (by omega) (by omega)
 intro q
 induction q with
 | zero =>
  intro r hz hr _ hle
  have hq0:((0:Nat))=(u*4294967296+u1) / Y:=(Nat.le_zero.1 hle).symm
  have hdc:H9 ((0:Nat):Int) r y0 u1=false:=by rw [T_ (by decide) hr hy0 hu1];simp
  refine AZ [false,false] (Ab (AK FB AY) AE (l9 Y s y1 y0 u u1 u0 (0:Nat) r) ⟨by simp,hdc,hne,trivial⟩ (AL (by kernel_rfl)) (fun _ _=>rfl) (fun _ h=>by cases h) fun _=>?_)
  rw [N7 hq0 hpos hYle,n2,n1]
  rw [hq0]
  exact hnext
 | succ q ih =>
  intro r hz hr htop hle
  have hdq:=mH (q:=q+1) (by omega) (by omega)
  have hir:=mI hr hy1'
  rw [Nat.add_sub_cancel] at hdq
  have hz':u=q*y1+(r+y1):=by rw [hz,Nat.succ_mul];omega
  have go:∀ (hlt:(u*4294967296+u1) / Y<q+1),(4294967296≤r+y1→(u*4294967296+u1) / Y=q):=fun hlt hb =>
   T9 hY hpos hz' (mC (by omega) hy0 hb) (by omega)
  by_cases hbig:4294967296≤q+1
  ·have hlt:=T8 hu hu1 hbig
   by_cases hb:4294967296≤r+y1
   ·have hq:=go hlt hb
    refine AZ [true,true] (Ab (AK FB AY) AE (AD5 Y s y1 y0 u u1 u0 (q+1:Nat) r) ⟨by simp;omega,by rw [hir];simp;omega,hne,trivial⟩ (AL (by kernel_rfl)) (fun _ _=>rfl) (fun _ h=>by cases h) fun _=>?_)
    rw [hdq,N7 hq.symm hpos hYle,n2,n1]
    rw [← hq]
    exact hnext
   ·refine AZ [true,false] (Ab (AK FB AY) AE (AD3 Y s y1 y0 u u1 u0 (q+1:Nat) r) ⟨by simp;omega,by rw [hir];simp;omega,trivial⟩ (AL (by kernel_rfl)) (fun _ _=>rfl) (fun _ h=>by cases h) fun _=>?_)
    rw [hdq,hir]
    exact ih (r+y1) hz' (by omega) (by omega) (by omega)
  ·have hsm:q+1<4294967296:=by omega
   have hdc:=T_ (u1:=u1) hsm hr hy0 hu1
   by_cases hc:4294967296*r+u1<(q+1)*y0
   ·have hlt:=mB hY hz hc
    by_cases hb:4294967296≤r+y1
    ·have hq:=go hlt hb
     refine AZ [false,true,true] (Ab (AK FB AY) AE (AD6 Y s y1 y0 u u1 u0 (q+1:Nat) r) ⟨by simp;omega,by rw [hdc];exact decide_eq_true hc,by rw [hir];simp;omega,hne,trivial⟩ (AL (by kernel_rfl)) (fun _ _=>rfl) (fun _ h=>by cases h) fun _=>?_)
     rw [hdq,N7 hq.symm hpos hYle,n2,n1]
     rw [← hq]
     exact hnext
    ·refine AZ [false,true,false] (Ab (AK FB AY) AE (AD4 Y s y1 y0 u u1 u0 (q+1:Nat) r) ⟨by simp;omega,by rw [hdc];exact decide_eq_true hc,by rw [hir];simp;omega,trivial⟩ (AL (by kernel_rfl)) (fun _ _=>rfl) (fun _ h=>by cases h) fun _=>?_)
     rw [hdq,hir]
     exact ih (r+y1) hz' (by omega) (by omega) (by omega)
   ·have hq:=T9 hY hpos hz (by omega) hle
    refine AZ [false,false] (Ab (AK FB AY) AE (l9 Y s y1 y0 u u1 u0 (q+1:Nat) r) ⟨by simp;omega,by rw [hdc];exact decide_eq_false hc,hne,trivial⟩ (AL (by kernel_rfl)) (fun _ _=>rfl) (fun _ h=>by cases h) fun _=>?_)
    rw [N7 hq.symm hpos hYle,n2,n1]
    rw [← hq]
    exact hnext
end
def Bv:Nat:=18446744073709551616
theorem ZC {x s:Nat} (hs:s≤64):QY (x:Int) (s:Int)=((x*2^s % Bv:Nat):Int):=by
 unfold QY
 rw [Int.toNat_natCast,Nat.min_eq_left hs]
 have:(x:Int)*2^s=((x*2^s:Nat):Int):=by rw [Int.natCast_mul,Int.natCast_pow];rfl
 rw [this,MO];rfl
theorem ZD {h s B:Nat} (hA:h*2^s<Bv) (hB:B<2^s) (hs:s≤64):bits .or .u64 ((h*2^s:Nat):Int) (B:Int)=((h*2^s+B:Nat):Int):=by
 have hle:2^s≤2^64:=Nat.pow_le_pow_right (by decide) hs
 have:=(bits_nat .u64 64 (by decide) (fun n h0 h1=>by rw [IntKind.wrap_u64];omega) (h*2^s) B hA (by omega)).2
 rw [this,← Nat.shiftLeft_eq,Nat.shiftLeft_add_eq_or_of_lt hB]
theorem AEB {y:Nat} (h0:0<y) (h1:y<Bv):∃ s,s≤63∧64-Dv y=s∧9223372036854775808≤y*2^s∧y*2^s<Bv:=by
 obtain ⟨b1,b2,b3⟩:=lZ h1
 obtain ⟨b4,b5⟩:=b2 h0
 refine ⟨64-Dv y,by omega,rfl,?_,?_⟩
 ·have:=Nat.mul_le_mul_right (2^(64-Dv y)) b5
  rw [← Nat.pow_add,show Dv y-1+(64-Dv y)=63 by omega] at this
  exact this
 ·have:=Nat.mul_lt_mul_of_pos_right b1 (show 0<2^(64-Dv y) from Nat.pow_pos (by decide))
  rw [← Nat.pow_add,show Dv y+(64-Dv y)=64 by omega] at this
  exact this
theorem AEC {Y u u1 u0 b:Nat} (hpos:0<Y):(u*(b*b)+(u1*b+u0)) / Y=(u*b+u1) / Y*b+((u*b+u1) % Y*b+u0) / Y∧(u*(b*b)+(u1*b+u0)) % Y=((u*b+u1) % Y*b+u0) % Y:=by
 have e:u*(b*b)+(u1*b+u0)=(u*b+u1) % Y*b+u0+Y*((u*b+u1) / Y*b):=by
  have h1:=Nat.div_add_mod (u*b+u1) Y
  have:u*(b*b)+u1*b=(u*b+u1)*b:=by rw [Nat.add_mul,Nat.mul_assoc]
  rw [← Nat.add_assoc,this]
  conv=>lhs;rw [← h1,Nat.add_mul]
  rw [Nat.mul_assoc]
  omega
 rw [e,Nat.add_mul_div_left _ _ hpos,Nat.add_mul_mod_self_left]
 exact ⟨by omega,rfl⟩
theorem AED {l s:Nat} (hl:l<Bv) (hs:s≤63):l*2^s=l / 2^(64-s)*Bv+l*2^s % Bv∧l / 2^(64-s)<2^s:=by
 have e:Bv=2^(64-s)*2^s:=by rw [← Nat.pow_add,show 64-s+s=64 by omega];rfl
 have hp:0<2^s:=Nat.pow_pos (by decide)
 constructor
 ·have h1:=Nat.div_add_mod (l*2^s) Bv
  have h2:l*2^s / Bv=l / 2^(64-s):=by rw [e,Nat.mul_div_mul_right _ _ hp]
  rw [h2,Nat.mul_comm Bv] at h1
  exact h1.symm
 ·refine Nat.div_lt_of_lt_mul ?_
  rw [← e];exact hl
def T' (h l y:Nat):AV:=.tup [(false,[.v (.int .u64 (((h*Bv+l) / y:Nat):Int))]),(false,[.v (.int .u64 (((h*Bv+l) % y:Nat):Int))])]
theorem AEE {h l y:Nat} (hh:h<y) (hl:l<Bv) (hy:y<Bv):AX Tryz.prog 272 (dA h l y) (T' h l y):=by
 refine Ir (path:=[]) Tryz.func272 (by kernel_rfl) (by kernel_rfl) fun w0=>?_
 have hy0:0<y:=by omega
 by_cases hz:h=0
 ·subst hz
  have h1:=FS (w0:=w0) (β0:=BZ) (n:=Tryz.f272.ntmps) (AK FB AY) AE Tryz.func272 (AD2 ((0:Nat):Int) l y) ⟨by simp;omega,by simp;omega,by simp,by simp;omega,by simp;omega,trivial⟩ (AL (by kernel_rfl)) (fun _ _=>rfl) rfl
  have e1:mW (Int.tdiv (l:Int) y)=(((0*Bv+l) / y:Nat):Int):=by
   rw [Int.tdiv_eq_ediv_of_nonneg (by omega),Nat.zero_mul,Nat.zero_add,← Int.natCast_ediv,MO,Nat.mod_eq_of_lt (Nat.lt_of_le_of_lt (Nat.div_le_self l y) (show l<18446744073709551616 from hl))]
  have e2:Int.tmod (l:Int) y=(((0*Bv+l) % y:Nat):Int):=by
   rw [Int.tmod_eq_emod_of_nonneg (by omega),Nat.zero_mul,Nat.zero_add];rfl
  rw [e1,e2] at h1
  exact AZ [false,false,true] h1
 ·obtain ⟨s,hs,hls,hY1,hY2⟩:=AEB hy0 hy
  have hp:0<2^s:=Nat.pow_pos (by decide)
  obtain ⟨lo1,lo2⟩:=AED hl hs
  have es:Kv (y:Int)=(s:Int):=by
   unfold Kv
   rw [Int.toNat_natCast,hls,MO,Nat.mod_eq_of_lt (by omega)]
  have eY:H8 (y:Int)=((y*2^s:Nat):Int):=by
   unfold H8
   rw [es,ZC (by omega),Nat.mod_eq_of_lt hY2]
  have hA:h*2^s+2^s≤y*2^s:=by
   have:=Nat.mul_le_mul_right (2^s) (show h+1≤y from hh)
   rwa [Nat.add_mul,Nat.one_mul] at this
  have eu:N6 (h:Int) (l:Int) (y:Int)=((h*2^s+l / 2^(64-s):Nat):Int):=by
   unfold N6
   have e64:mW (64-(s:Int))=((64-s:Nat):Int):=by rw [Dq];omega
   rw [es,e64,ZC (by omega),Nat.mod_eq_of_lt (by omega),ZB,Nat.min_eq_left (show 64-s≤64 by omega)]
   exact ZD (by omega) lo2 (by omega)
  have el:QZ (l:Int) (y:Int)=((l*2^s % Bv:Nat):Int):=by
   unfold QZ
   rw [es,ZC (by omega)]
  generalize hYd:y*2^s=Y at *
  generalize hud:h*2^s+l / 2^(64-s)=u at *
  generalize hld:l*2^s % Bv=ul at *
  have hul:ul<Bv:=by rw [← hld];exact Nat.mod_lt _ (by decide)
  have hu:u<Y:=by omega
  unfold Bv at hul hY2
  have ent:=AD1 (h:Int) (l:Int) (y:Int)
  have e32:∀ x:Nat,HT (x:Int) 32=((x / 4294967296:Nat):Int):=fun x=>ZB x 32
  have eand:∀ x:Nat,x<18446744073709551616→bits .and .u64 (x:Int) 4294967295=((x % 4294967296:Nat):Int):=fun x hx=>by
   have:=QD (x:=(x:Int)) (by omega) (by omega)
   unfold MJ at this
   rw [this];omega
  have e64:mW (64-(s:Int))=((64-s:Nat):Int):=by rw [Dq];omega
  rw [eY,eu,el,es,e32,e32,eand Y hY2,eand ul hul,e64] at ent
  obtain ⟨n1,n2⟩:=mG u (Y / 4294967296) (by omega) (by omega)
  rw [n2,n1] at ent
  have hYs:Y=Y / 4294967296*4294967296+Y % 4294967296:=by omega
  refine AZ [false,false,false] (Ab (AK FB AY) AE ent ?_ (AL (by kernel_rfl)) (fun _ _=>rfl) (fun _ h=>by cases h) fun _=>?_)
  ·refine ⟨by simp;omega,by simp;omega,by simp;omega,rfl,by simp,rfl,by simp,rfl,by simp,?_,trivial⟩
   simp only [decide_eq_true_eq];omega
  ·have hr1:=Nat.mod_lt u (show 0<Y / 4294967296 by omega)
   have hdm:=Nat.div_add_mod u (Y / 4294967296)
   rw [Nat.mul_comm] at hdm
   refine AEA hYs (Nat.mod_lt _ (by decide)) (by omega) (by omega) (Nat.mod_lt ul (by decide)) w0 hu (by omega) ?_ (u / (Y / 4294967296)) (u % (Y / 4294967296)) hdm.symm (by omega) (mF hYs (Nat.mod_lt _ (by decide)) (by omega) hu) (mD hYs (by omega) (by omega))
   have hYpos:0<Y:=by omega
   generalize hu1:ul / 4294967296=u1 at *
   generalize hu0:ul % 4294967296=u0 at *
   have hv:=Nat.mod_lt (u*4294967296+u1) hYpos
   have hq1:(u*4294967296+u1) / Y<4294967296:=T8 hu (by omega) (Nat.le_refl _)
   obtain ⟨g1,g2⟩:=AEC (u:=u) (u1:=u1) (u0:=u0) (b:=4294967296) hYpos
   have hN:u*(4294967296*4294967296)+(u1*4294967296+u0)=(h*Bv+l)*2^s:=by
    rw [Nat.add_mul,lo1,← hud]
    have:u1*4294967296+u0=ul:=by omega
    rw [this]
    show (h*2^s+l / 2^(64-s))*Bv+ul=h*Bv*2^s+(l / 2^(64-s)*Bv+ul)
    rw [Nat.add_mul,Nat.mul_right_comm h Bv];omega
   rw [hN,← hYd] at g1 g2
   rw [Nat.mul_div_mul_right _ _ hp] at g1
   rw [Nat.mul_mod_mul_right] at g2
   rw [hYd] at g1 g2
   obtain ⟨v,hv'⟩:∃ v,v=(u*4294967296+u1) % Y:=⟨_,rfl⟩
   rw [← hv'] at hv g1 g2 ⊢
   have hdm2:=Nat.div_add_mod v (Y / 4294967296)
   rw [Nat.mul_comm] at hdm2
   have hr2:=Nat.mod_lt v (show 0<Y / 4294967296 by omega)
   have fin:=AD' (s:=s) (u0:=u0) hYs (Nat.mod_lt _ (by decide)) (by omega) (by omega) (by rw [← hu0];exact Nat.mod_lt _ (by decide)) w0 hv hq1 (v / (Y / 4294967296)) (v % (Y / 4294967296)) hdm2.symm (by omega) (mF hYs (Nat.mod_lt _ (by decide)) (by omega) hv) (mD hYs (by omega) (by rw [← hu0];exact Nat.mod_lt _ (by decide)))
   have eo:Qj ((u*4294967296+u1) / Y) ((v*4294967296+u0) / Y) ((v*4294967296+u0) % Y) s=T' h l y:=by
    unfold Qj T'
    rw [← g1,← g2,Nat.min_eq_left (show s≤64 by omega),Nat.mul_div_cancel _ hp]
   rw [eo] at fin
   exact fin
def mJ:List Int→Option (List (Bool×Bool)×AV)
 | [h,l,y]=>some ([(decide (h<y),true)],T' h.toNat l.toNat y.toNat)
 | _=>none
noncomputable def S22:List (FuncId×ASpec):=(272,DI (N5 [.u64,.u64,.u64] mJ))::S21
theorem H_:AU Tryz.prog S22:=⟨Di Tryz.func272 (by kernel_rfl) (by kernel_rfl) (T6 fun is c v h hh hc=>by
 unfold mJ at h
 split at h
 ·rename_i h0 l0 y0
  injection h with h;injection h with h1 h2;subst h1;subst h2
  obtain ⟨q1,q2,q3,_⟩:=hh
  have b1:=Cx q1
  have b2:=Cx q2
  have b3:=Cx q3
  obtain ⟨H,rfl⟩:=Int.eq_ofNat_of_zero_le b1.1
  obtain ⟨L,rfl⟩:=Int.eq_ofNat_of_zero_le b2.1
  obtain ⟨Y,rfl⟩:=Int.eq_ofNat_of_zero_le b3.1
  have hlt:=hc.1
  simp only [decide_eq_true_eq] at hlt
  rw [Int.toNat_natCast,Int.toNat_natCast,Int.toNat_natCast]
  exact AEE (by omega) (show L<18446744073709551616 by omega) (show Y<18446744073709551616 by omega)
 ·cases h),FB⟩
def hw (a b:Int):Int:=bits .or .u64 (Int.fdiv a (2^min (Int.toNat 1) 64)) (mW (b*2^min (Int.toNat 63) 64))
theorem MT {a b:Int} (ha:0≤a∧a<18446744073709551616) (hb:0≤b∧b<18446744073709551616):hw a b=a / 2+b % 2*9223372036854775808:=by
 obtain ⟨A,rfl⟩:=Int.eq_ofNat_of_zero_le ha.1
 obtain ⟨B,rfl⟩:=Int.eq_ofNat_of_zero_le hb.1
 unfold hw
 have e1:Int.fdiv (A:Int) (2^min (Int.toNat 1) 64)=((A / 2:Nat):Int):=I5 A 1
 have e2:mW ((B:Int)*2^min (Int.toNat 63) 64)=((B % 2*2^63:Nat):Int):=by
  have:(B:Int)*2^min (Int.toNat 63) 64=((B*9223372036854775808:Nat):Int):=by rw [Int.natCast_mul];rfl
  rw [this,MO];omega
 have hlt:A / 2<2^63:=by omega
 have h:=ZD (h:=B % 2) (s:=63) (B:=A / 2) (by unfold Bv;omega) hlt (by decide)
 have comm:∀ x y:Int,bits .or .u64 x y=bits .or .u64 y x:=fun x y=>by simp only [bits,BitVec.or_comm]
 rw [e1,e2,comm,h]
 omega
def mK (x:Nat) (h:Int):List Ch:=w6 (hw (AB x 0) (AB x 1)) (hw (AB x 1) (AB x 2)) (hw (AB x 2) (AB x 3)) (hw (AB x 3) (AB x 4)) (hw (AB x 4) (AB x 5)) (hw (AB x 5) h)
def FC (x:Nat):Blk:=⟨30,[.num 6 x],false⟩
def GB (x h:Nat):Nat:=(x+h % 2*RR) / 2
theorem AEF (x:Nat) (h:Int):AP Tryz.prog (AI S22 K0) Tryz.f273 300 1 [0] (Af Tryz.f273 [.val false [.p 0 0],.val false [.v (.int .u64 h)]] [(0,some (FC x))] 1 []) =
 some (F' 12,[0],.tup [],[(0,some ⟨30,mK x h,false⟩)]):=by kernel_rfl
theorem AEG {x h:Nat} (hx:x<RR) (hh:h<18446744073709551616) {β:Env} {l:List Value} (hr:AM β (mK x h) l):AM β [.num 6 (GB x h)] l:=by
 have b0:=BF x 0
 have b1:=BF x 1
 have b2:=BF x 2
 have b3:=BF x 3
 have b4:=BF x 4
 have b5:=BF x 5
 have hX:=MK (x:=x) (by rw [← CL];exact hx)
 have e0:=MT b0 b1
 have e1:=MT b1 b2
 have e2:=MT b2 b3
 have e3:=MT b3 b4
 have e4:=MT b4 b5
 have e5:=MT (b:=(h:Int)) b5 (by omega)
 have hb:∀ {a b:Int},0≤a∧a<18446744073709551616→0≤b∧b<18446744073709551616→0≤hw a b∧hw a b<18446744073709551616:=fun ha hb=>by rw [MT ha hb];omega
 have:=Tm (β:=β) (u:=.agg ⟨l⟩) (y:=GB x h) (hb b0 b1) (hb b1 b2) (hb b2 b3) (hb b3 b4) (hb b4 b5) (hb b5 (show 0≤(h:Int)∧(h:Int)<18446744073709551616 by omega)) (by
  unfold GB ET at *
  unfold RR
  omega) ⟨l,hr,rfl⟩
 obtain ⟨l',h1,h2⟩:=this
 injection h2 with h2;injection h2 with h2;subst h2
 exact h1
theorem AEH {x h:Nat} (hx:x<RR) (hh:h<18446744073709551616):Ah Tryz.prog 273 [.val false [.p 0 0],.val false [.v (.int .u64 (h:Int))]] [(0,some (FC x))] 1 [0] (.tup []) [(0,some (FC (GB x h)))]:=by
 intro β us w ha hg hf
 have:=Av Tryz.func273 (by kernel_rfl) (args0:=[.val false [.p 0 0],.val false [.v (.int .u64 (h:Int))]]) (H0:=[(0,some (FC x))]) (k0:=1) (path:=[]) (W:=[0]) (by kernel_rfl) (fun β0 w0 hb=>Aq (AK H_ AY) AE Tryz.func273 (AEF x h) (Iz _) (AL (by kernel_rfl)) hb (fun _ h=>h)) β us w ha hg hf
 exact Calls.mono this fun e w' h=>QJ (fun _ _ hr=>AEG hx hh hr) h
def halfSpec:ASpec:=fun args H fr path =>
 match args with
 | [.val false [.p k 0],A]=>match BH (some A),AG H k with
  | some (_,.u64,h),some ⟨ty,c,false⟩=>match Nat.beq ty 30,Br 6 c with
   | true,some x=>some (A8 [k] 1 fr 0 [0] (.tup []) [(0,some (FC (GB x h.toNat)))] [] path)
   | _,_=>none
  | _,_=>none
 | _=>none
theorem AEI {β:Env} {H:Heap} {w:World} {k:Nat} {b:Blk} {c:List Ch} (g:Ex.Good β H w) (hk:AG H k=some b) (hc:∀ l,AM β b.cs l→AM (A4 β [k] 1) c l):Ex.Good (A4 β [k] 1) [(0,some ⟨b.ty,c,b.opn⟩)] w:=by
 refine QH (ρ:=[k]) (bs:=[⟨b.ty,c,b.opn⟩]) g (fun j d hj=>?_) fun i j d hi hr hij hj=>?_
 ·match j,hj with
  | 0,hj=>injection hj with hj;subst hj;exact ⟨b,hk,.inr ⟨rfl,rfl⟩,hc⟩
 ·match i,j,hi,hj,hij with
  | 0,0,_,_,q=>exact absurd rfl q
theorem AEJ:A7 Tryz.prog 273 halfSpec:=by
 refine E7 Tryz.func273 (by kernel_rfl) (by kernel_rfl) fun args H fr path r h=>?_
 unfold halfSpec at h
 split at h
 case h_2=>cases h
 rename_i k A
 split at h
 case h_2=>cases h
 rename_i c0 i ty c hA hk
 split at h
 case h_2=>cases h
 rename_i x hty hx
 injection h with h
 have hty':=Ao.1 hty
 subst hty'
 refine ⟨[k],[.val false [.p 0 0],.val false [.v (.int .u64 (i.toNat:Int))]],[(0,some (FC x))],1,0,[0],.tup [],_,[],path,h.symm,fun β us w ha hg hc=>?_⟩
 obtain ⟨u1,us1,r1,⟨u2,us2,r2,ha,rfl⟩,rfl⟩:=ha
 obtain ⟨rfl,p1⟩:=B6 (β:=β) (u:=u2) (fun B hB=>by injection hB with hB;subst hB;exact r2) hA
 have hb:=Cx p1
 obtain ⟨l,g1⟩:=GV hg hk
 have hi:((i.toNat:Nat):Int)=i:=Int.toNat_of_nonneg hb.1
 refine ⟨AEH (by rw [CL];exact (E3 hx g1).2) (by omega),by kernel_rfl,⟨u1,_,r1,⟨_,us2,?_,ha,rfl⟩,rfl⟩,AEI (c:=[.num 6 x]) hg hk (fun l h=>Df hx h),fun j hj=>?_⟩
 ·rw [hi];exact Aw ⟨rfl,rfl,p1⟩
 ·match j,hj with
  | 0,_=>exact Bu (hg.heap _ _ hk)
noncomputable def S23:List (FuncId×ASpec):=(273,halfSpec)::S22
theorem Qk:AU Tryz.prog S23:=⟨AEJ,H_⟩
def UA:List AV:=[.val false [.p 0 0],.val false [.p 1 0]]
def I6 (u x:Nat):Heap:=[(0,some (FC u)),(1,some (FC x))]
noncomputable def AEK:List Item:=Bh (AR Tryz.prog (AI S23 K0) (some 0) 300 2 none (Af Tryz.f213 UA (I6 0 0) 2 []))
noncomputable def evT:List AV:=.val false [.p 0 0]::.val false [.p 1 0]::List.replicate (Tryz.f213.ntmps-2) .any
noncomputable def MU (u x:Nat) (p:List Bool):ASt:=⟨AEK,⟨evT,I6 u x,2,p⟩⟩
abbrev KE:Option (List Nat×List Nat×Nat):=some ([0,1],[0,1],2)
def I7 (x:Nat):Int:=bits .and .u64 (AB x 0) 1
theorem AEM (u x:Nat):AR Tryz.prog (AI S23 K0) (some 3) 300 2 KE (Af Tryz.f213 UA (I6 u x) 2 [])=some ([],[],MU u x []):=by kernel_rfl
theorem AEN (u x:Nat):AR Tryz.prog (AI S23 K0) (some 3) 300 2 KE (MU u x [true,true])=some ([(decide (I7 u=0),true),(decide (I7 x=0),true)],[0,1],MU (GB u 0) (GB x 0) []):=by kernel_rfl
theorem AEO (u x:Nat):AR Tryz.prog (AI S23 K0) (some 3) 300 2 KE (MU u x [true,false]) =
 some ([(decide (I7 u=0),true),(decide (I7 x=0),false),(BU 0,true),(BU (BR x pN 1),true),(BU (BR x pN 2),true),(BU (BR x pN 3),true),(BU (BR x pN 4),true),(BU (BR x pN 5),true)],[0,1],
  MU (GB u 0) (GB (Ix x pN) (BR x pN 6).toNat) []):=by kernel_rfl
theorem AEP (u x:Nat):AP Tryz.prog (AI S23 K0) Tryz.f213 300 2 [0,1] (MU u x [false])=some ([(decide (I7 u=0),false)],[],.tup [],I6 u x):=by kernel_rfl
def FW (x:Nat):Nat:=if x % 2=0 then x / 2 else (x+pN) / 2
def Ee:Nat→Nat→Nat→Nat×Nat
 | 0,u,x=>(u,x)
 | f+1,u,x=>if u % 2=0 then Ee f (u / 2) (FW x) else (u,x)
theorem mL (x:Nat):I7 x=((x % 2:Nat):Int):=by
 unfold I7
 rw [lD,lE _ (by omega)]
 omega
theorem ZE (x:Nat):GB x 0=x / 2:=by unfold GB;simp
theorem AEQ {x:Nat} (hx:x<RR):GB (Ix x pN) (BR x pN 6).toNat=(x+pN) / 2:=by
 obtain ⟨h1,h2⟩:=YX (y:=pN) hx (by decide)
 have:=D9 x pN 6
 unfold GB
 have h01:(BR x pN 6).toNat=0∨(BR x pN 6).toNat=1:=by omega
 rcases h01 with e | e<;>rw [e] at h1 ⊢<;>congr 1<;>omega
theorem mM {x:Nat} (h:x<RR):FW x<RR:=by
 have hp:pN<RR:=by decide
 unfold FW;split<;>omega
theorem AER {β0:Env} {w0:World} (hb:∀ b,2≤b→β0 b=none):∀ (f u x:Nat),0<u→u≤f→u<RR→x<RR →
  ASafe Tryz.prog 213 β0 w0 (Ax β0 w0 [0,1] (.tup []) (I6 (Ee f u x).1 (Ee f u x).2)) Tryz.f213.ntmps [0,1] (MU u x []):=by
 intro f
 induction f with
 | zero=>intro u x h1 h2;omega
 | succ f ih =>
  intro u x h1 h2 hu hx
  have ou:=mL u
  have ox:=mL x
  unfold Ee
  by_cases h:u % 2=0
  ·rw [if_pos h]
   have hd:decide (I7 u=0)=true:=by rw [ou,h];rfl
   by_cases hx2:x % 2=0
   ·refine AZ [true,true] (Ab (AK Qk AY) AE (AEN u x) ⟨hd,by rw [ox,hx2];rfl,trivial⟩ (AL (by kernel_rfl)) hb (fun _ h=>h) fun _=>?_)
    have e:FW x=x / 2:=if_pos hx2
    rw [ZE,ZE,← e]
    exact ih (u / 2) (FW x) (by omega) (by omega) (by omega) (mM hx)
   ·refine AZ [true,false] (Ab (AK Qk AY) AE (AEO u x) ⟨hd,by rw [ox];simp only [decide_eq_false_iff_not];omega,rfl,CQ (D9 _ _ _),CQ (D9 _ _ _),CQ (D9 _ _ _),CQ (D9 _ _ _),CQ (D9 _ _ _),trivial⟩ (AL (by kernel_rfl)) hb (fun _ h=>h) fun _=>?_)
    have e:FW x=(x+pN) / 2:=if_neg hx2
    rw [ZE,AEQ hx,← e]
    exact ih (u / 2) (FW x) (by omega) (by omega) (by omega) (mM hx)
  ·rw [if_neg h]
   have hd:decide (I7 u=0)=false:=by rw [ou];simp only [decide_eq_false_iff_not];omega
   exact AZ [false] (Aq (AK Qk AY) AE Tryz.func213 (AEP u x) ⟨hd,trivial⟩ (AL (by kernel_rfl)) hb (fun _ h=>by cases h))
theorem AES {u x:Nat} (h0:0<u) (hu:u<RR) (hx:x<RR):Ah Tryz.prog 213 UA (I6 u x) 2 [0,1] (.tup []) (I6 (Ee u u x).1 (Ee u u x).2) :=
 Av (path:=[]) Tryz.func213 (by kernel_rfl) (by kernel_rfl) fun β0 w0 hb =>
  Ab (AK Qk AY) AE (AEM u x) trivial (AL (by kernel_rfl)) hb (fun _ h=>by cases h) fun _=>AER hb u u x h0 (Nat.le_refl _) hu hx
def evSpec:ASpec:=fun args H fr path =>
 match args with
 | [.val false [.p k 0],.val false [.p t 0]]=>match AG H k,AG H t,Nat.beq k t with
  | some ⟨ty,c,false⟩,some ⟨ty',d,false⟩,false=>match Nat.beq ty 30,Br 6 c,Nat.beq ty' 30,Br 6 d with
   | true,some u,true,some x=>some (A8 [k,t] 2 fr 0 [0,1] (.tup []) (I6 (Ee u u x).1 (Ee u u x).2) [(decide (0<u),true)] path)
   | _,_,_,_=>none
  | _,_,_=>none
 | _=>none
theorem AET:A7 Tryz.prog 213 evSpec:=by
 refine E7 Tryz.func213 (by kernel_rfl) (by kernel_rfl) fun args H fr path r h=>?_
 unfold evSpec at h
 split at h
 case h_2=>cases h
 rename_i k t
 split at h
 case h_2=>cases h
 rename_i ty c ty' d hk ht hne
 split at h
 case h_2=>cases h
 rename_i u x hty hu hty' hx
 injection h with h
 have hty1:=Ao.1 hty
 have hty2:=Ao.1 hty'
 subst hty1;subst hty2
 have hne':k≠t:=fun e=>by subst e;rw [Ao.2 rfl] at hne;cases hne
 refine ⟨[k,t],UA,I6 u x,2,0,[0,1],.tup [],_,_,path,h.symm,fun β us w ha hg hc=>?_⟩
 obtain ⟨u1,us1,r1,⟨u2,us2,r2,ha,rfl⟩,rfl⟩:=ha
 obtain ⟨l,g1⟩:=GV hg hk
 obtain ⟨l',g2⟩:=GV hg ht
 have h0:0<u:=by simpa using hc.1
 refine ⟨AES h0 (by rw [CL];exact (E3 hu g1).2) (by rw [CL];exact (E3 hx g2).2),by kernel_rfl,⟨u1,_,r1,⟨u2,us2,r2,ha,rfl⟩,rfl⟩,kO (c:=[.num 6 u]) (e:=[.num 6 x]) hg hk ht hne' (fun l h=>Df hu h) (fun l h=>Df hx h),fun j hj=>?_⟩
 match j,hj with
 | 0,_=>exact Bu (hg.heap _ _ hk)
 | 1,_=>exact Bu (hg.heap _ _ ht)
noncomputable def S24:List (FuncId×ASpec):=(213,evSpec)::S23
theorem MV:AU Tryz.prog S24:=⟨AET,Qk⟩
def I8 (b:Blk):Blk:=match Br 6 b.cs with
 | some x=>⟨b.ty,[.num 6 x],b.opn⟩
 | none=>b
def MW:Heap→Heap
 | []=>[]
 | (k,some b)::r=>(k,some (I8 b))::MW r
 | (k,none)::r=>(k,none)::MW r
theorem Ql (b:Nat):∀ H:Heap,AG (MW H) b=(AG H b).map I8
 | []=>rfl
 | (k,some x)::r=>by
  simp only [MW,AG]
  split
  ·rfl
  ·exact Ql b r
 | (k,none)::r=>by
  simp only [MW,AG]
  split
  ·rfl
  ·exact Ql b r
theorem mN (b:Blk):(I8 b).ty=b.ty∧(I8 b).opn=b.opn:=by unfold I8;split<;>exact ⟨rfl,rfl⟩
theorem AEU {P:Program} {f:FuncId} {β0:Env} {w0:World} {R:Ending→World→Prop} {n:Nat} {W:List Nat} {todo:List Item} {T:List AV} {H:Heap} {fr:Nat} {p:List Bool} (h:ASafe P f β0 w0 R n W ⟨todo,⟨T,MW H,fr,p⟩⟩):ASafe P f β0 w0 R n W ⟨todo,⟨T,H,fr,p⟩⟩:=by
 intro β a w hi hf
 refine h β a w { hi with good:=⟨fun b blk hb=>?_,fun b b' B n n' h1 h2 h3 h4=>?_,hi.good.lt⟩ } hf
 ·have hb':(AG H b).map I8=some blk:=by rw [← Ql];exact hb
  obtain ⟨x,hx,rfl⟩:=Option.map_eq_some_iff.1 hb'
  refine QG (hi.good.heap b x hx) rfl (.inr (mN x)) fun l hl=>?_
  unfold I8
  split
  ·rename_i y hy;exact Df hy hl
  ·exact hl
 ·refine hi.good.inj b b' B n n' ?_ ?_ h3 h4
  ·obtain ⟨d,hd,hr⟩:=E0 h1
   have hd':(AG H b).map I8=some d:=by rw [← Ql];exact hd
   obtain ⟨x,hx,rfl⟩:=Option.map_eq_some_iff.1 hd'
   exact EO hx (by rw [← (mN x).1];exact hr)
  ·have h2':((AG H b').map I8).isSome=true:=by rw [← Ql];exact h2
   rwa [Option.isSome_map] at h2'
noncomputable def mO:List Item:=Bh (AR Tryz.prog (AI S24 K0) (some 0) 300 0 none (Af Tryz.f134 [AW 0] [] 0 [false]))
noncomputable def mQ:List AV:=.any::.any::.val false [.p 1 0]::.val false [.p 2 0]::.val false [.p 3 0]::.val false [.p 4 0]::.val false [.p 5 0]::.val false [.p 6 0]::List.replicate (Tryz.f134.ntmps-8) .any
def mR (u v x y:Nat):Heap:=[(1,some (FC 0)),(2,some (FC u)),(3,some (FC v)),(4,some (FC x)),(5,some (FC y)),(6,some (FC 1))]
noncomputable def MX (u v x y:Nat) (p:List Bool):ASt:=⟨mO,⟨mQ,mR u v x y,7,p⟩⟩
abbrev KI:Option (List Nat×List Nat×Nat):=some ([2,3,4,5,6,7],[1,2,3,4,5,6],7)
def mS (a:Nat):Heap:=[(1,some ⟨30,HL,false⟩),(2,some (FC (a % pN))),(3,some ⟨30,Pw,false⟩),(4,some ⟨30,[.n .u64 1,.n .u64 0,.n .u64 0,.n .u64 0,.n .u64 0,.n .u64 0],false⟩),(5,some ⟨30,HL,false⟩),(6,some ⟨30,[.n .u64 1,.n .u64 0,.n .u64 0,.n .u64 0,.n .u64 0,.n .u64 0],false⟩)]
theorem AEV (a:Nat):AR Tryz.prog (AI S24 K0) (some 0) 300 0 KI (Af Tryz.f134 [AW a] [] 0 [false])=some ([(decide (a % pN=0),false)],[],⟨mO,⟨mQ,mS a,7,[]⟩⟩):=by kernel_rfl
theorem inv_zero (a:Nat):DQ Tryz.prog (AI S24 K0) Tryz.f134 300 0 (Af Tryz.f134 [AW a] [] 0 [true])=some ([(decide (a % pN=0),true)],[],AW (a % pN)):=by kernel_rfl
theorem AEW (a:Nat):MW (mS a)=mR (a % pN) pN 1 0:=by kernel_rfl
def E1 (u x:Nat):Nat:=(Ee u u x).1
def E2 (u x:Nat):Nat:=(Ee u u x).2
section
variable (u v x y:Nat)
def UB (r:List (Bool×Bool)):List (Bool×Bool):=(decide (0<u),true)::(decide (0<v),true)::r
def UC:Bool:=decide (0≤Cb (AF (AA (GY (E1 u x)) (0+0*1) (6-0))) (AF (AA (GY (E1 v y)) (0+0*1) (6-0))))
theorem AEX:DQ Tryz.prog (AI S24 K0) Tryz.f134 300 0 (MX u v x y [true])=some (UB u v [(decide (E1 u x=1),true)],[],AW (E2 u x)):=by kernel_rfl
theorem AEY:DQ Tryz.prog (AI S24 K0) Tryz.f134 300 0 (MX u v x y [false,true])=some (UB u v [(decide (E1 u x=1),false),(decide (E1 v y=1),true)],[],AW (E2 v y)):=by kernel_rfl
theorem AEZ:AR Tryz.prog (AI S24 K0) (some 0) 300 0 KI (MX u v x y [false,false,true]) =
 some (UB u v ((decide (E1 u x=1),false)::(decide (E1 v y=1),false)::(F' 4++[(UC u v x y,true)])),[],MX ((E1 u x+(RR-E1 v y)) % RR) (E1 v y) (C9 (E2 u x) (E2 v y)) (E2 v y) []):=by kernel_rfl
theorem AEa:AR Tryz.prog (AI S24 K0) (some 0) 300 0 KI (MX u v x y [false,false,false]) =
 some (UB u v ((decide (E1 u x=1),false)::(decide (E1 v y=1),false)::(F' 4++[(UC u v x y,false)])),[],MX (E1 u x) ((E1 v y+(RR-E1 u x)) % RR) (E2 u x) (C9 (E2 v y) (E2 u x)) []):=by kernel_rfl
end
end Go.Proofs.YtjlcdlekmpjjnaaGreat
namespace Go.Proofs.YtjlcdlekmpjjnaaGreat
open Ex Num
set_option maxRecDepth 100000
set_option maxHeartbeats 4000000
instance neZero_pN:NeZero pN:=⟨by decide⟩
def tf (x:Nat):Fin pN:=Ci pN x
theorem Kw (x:Nat):tf (x % pN)=tf x:=lP x
theorem N8 {x y:Nat}:tf x=tf y↔x % pN=y % pN:=T3
theorem FX (x y:Nat):tf (x+y)=tf x+tf y:=lQ x y
theorem Kx (x y:Nat):tf (x*y)=tf x*tf y:=lR x y
theorem Gw (x y:Nat):tf (Cq x y)=tf x+tf y:=by unfold Cq;rw [Kw,FX,Kw,Kw]
theorem Bk (x y:Nat):tf (Aa x y)=tf x*tf y:=by unfold Aa;rw [Kw,Kx]
theorem ZF (x:Nat):tf (Cr x)=- tf x:=by unfold Cr;rw [Kw];exact ADY x
theorem FE (x y:Nat):tf (C9 x y)=tf x-tf y:=by unfold C9;rw [Gw,ZF];grind
theorem tf_zero:tf 0=0:=lS
theorem FY:tf 1=1:=ADX
theorem I9 {x y:Nat} (hx:x<pN) (hy:y<pN) (h:tf x=tf y):x=y:=ADZ hx hy h
theorem UD (x y:Nat):Cq x y<pN:=Nat.mod_lt _ CM
theorem FF (x y:Nat):C9 x y<pN:=UD _ _
theorem UE {x:Nat}:tf x=0↔x % pN=0:=by rw [← tf_zero,N8,Nat.zero_mod]
theorem AEb {a b:Fin pN} (h:a*b=0):a=0∨b=0:=ADa pN_prime h
noncomputable def BO (a:Nat):Nat:=Dg a (pN-2)
theorem mT (a:Nat):BO a<pN:=lU _ _
theorem mU {a:Nat} (h:a % pN=0):BO a=0:=by
 unfold BO
 rw [I2,Nat.pow_mod,h,Nat.zero_pow (by decide)];rfl
theorem mV {a:Nat} (h:a % pN≠0):tf a*tf (BO a)=1:=by
 have ha:¬ pN∣a:=fun hd=>h (Nat.mod_eq_zero_of_dvd hd)
 have hf:=N3 pN_prime ha
 rw [← Kx,← FY,N8]
 unfold BO
 rw [I2]
 have e:pN-1=(pN-2)+1:=by have:=ADc;omega
 rw [e,Nat.pow_succ] at hf
 rw [Nat.mul_mod_mod,Nat.mul_comm,hf];rfl
theorem mX {a x:Nat} (hx:x<pN) (h:tf a*tf x=1):x=BO a:=by
 have ha:a % pN≠0:=fun e=>by
  rw [UE.2 e] at h
  have:(0:Fin pN)*tf x=0:=by grind
  rw [this] at h
  have h2:tf 0=tf 1:=by rw [tf_zero,FY];exact h
  have:=I9 CM (show 1<pN by decide) h2
  cases this
 have h2:=mV ha
 refine I9 hx (mT a) ?_
 grind
theorem AEc {A B:Fin pN} (h:A+A=B+B):A=B:=by
 have h0:(A-B)*tf 2=0:=by
  have:tf 2=1+1:=by rw [← FY,← FX]
  rw [this];grind
 rcases AEb h0 with e | e
 ·grind
 ·exfalso
  have:=I9 (show 2<pN by decide) CM (e.trans tf_zero.symm)
  cases this
theorem AEd {x:Nat} (hx:x<pN):tf (FW x)+tf (FW x)=tf x∧FW x<pN:=by
 have hodd:=Ty
 constructor
 ·rw [← FX,N8]
  unfold FW
  split
  ·congr 1;omega
  ·rw [show (x+pN) / 2+(x+pN) / 2=x+pN by omega,Nat.add_mod_right]
 ·unfold FW;split<;>omega
theorem ZG {a:Nat}:∀ (f u x:Nat),0<u→u≤f→x<pN→tf a*tf x=tf u→(Ee f u x).1 % 2=1∧(Ee f u x).1∣u∧(Ee f u x).2<pN∧tf a*tf (Ee f u x).2=tf (Ee f u x).1
 | 0,u,x,h1,h2,_,_=>by omega
 | f+1,u,x,h1,h2,hx,h=>by
  unfold Ee
  by_cases hu:u % 2=0
  ·rw [if_pos hu]
   obtain ⟨q1,q2⟩:=AEd hx
   have e:tf (u / 2)+tf (u / 2)=tf u:=by rw [← FX];congr 1;omega
   have q3:tf a*tf (FW x)=tf (u / 2):=AEc (by rw [e,← h,← q1];grind)
   obtain ⟨i1,i2,i3,i4⟩:=ZG (a:=a) f (u / 2) (FW x) (by omega) (by omega) q2 q3
   exact ⟨i1,Nat.dvd_trans i2 ⟨2,by omega⟩,i3,i4⟩
  ·rw [if_neg hu]
   exact ⟨by omega,Nat.dvd_refl u,hx,h⟩
theorem AEe {u v x y:Nat} (h1:E1 u x<RR) (h2:E1 v y<RR):UC u v x y=decide (E1 v y≤E1 u x):=by
 unfold UC
 rw [Kp h1,Kp h2]
 unfold Cb
 by_cases c1:E1 u x<E1 v y
 ·rw [if_pos c1,decide_eq_false (by omega),decide_eq_false (by omega)]
 ·rw [if_neg c1]
  by_cases c2:E1 v y<E1 u x
  ·rw [if_pos c2,decide_eq_true (by omega),decide_eq_true (by omega)]
  ·rw [if_neg c2,decide_eq_true (by omega),decide_eq_true (by omega)]
theorem mY {u v:Nat} (h:v≤u) (hu:u<RR):(u+(RR-v)) % RR=u-v:=by
 rw [show u+(RR-v)=(u-v)+RR by omega,Nat.add_mod_right,Nat.mod_eq_of_lt (by omega)]
theorem AEf (a:Nat) (w0:World):∀ (m u v x y:Nat),u+v≤m→0<u→0<v→u<RR→v<RR→x<pN→y<pN→Nat.Coprime u v→tf a*tf x=tf u→tf a*tf y=tf v →
  ASafe Tryz.prog 134 BZ w0 (E6 w0 (AW (BO a))) Tryz.f134.ntmps [] (MX u v x y []):=by
 intro m
 induction m with
 | zero=>intro u v x y h1 h2;omega
 | succ m ih =>
  intro u v x y hm hu hv hur hvr hx hy hg h1 h2
  obtain ⟨a1,a2,a3,a4⟩:=ZG (a:=a) u u x hu (Nat.le_refl _) hx h1
  obtain ⟨b1,b2,b3,b4⟩:=ZG (a:=a) v v y hv (Nat.le_refl _) hy h2
  have a5:=Nat.le_of_dvd hu a2
  have b5:=Nat.le_of_dvd hv b2
  change E1 u x % 2=1 at a1
  change E1 u x∣u at a2
  change E2 u x<pN at a3
  change tf a*tf (E2 u x)=tf (E1 u x) at a4
  change E1 u x≤u at a5
  change E1 v y % 2=1 at b1
  change E1 v y∣v at b2
  change E2 v y<pN at b3
  change tf a*tf (E2 v y)=tf (E1 v y) at b4
  change E1 v y≤v at b5
  have hg':Nat.Coprime (E1 u x) (E1 v y):=(hg.coprime_dvd_left a2).coprime_dvd_right b2
  have c0:decide (0<u)=true:=decide_eq_true hu
  have c1:decide (0<v)=true:=decide_eq_true hv
  have iP:=AEe (u:=u) (v:=v) (x:=x) (y:=y) (by omega) (by omega)
  by_cases hu1:E1 u x=1
  ·have h:=FS (w0:=w0) (β0:=BZ) (n:=Tryz.f134.ntmps) (AK MV AY) AE Tryz.func134 (AEX u v x y) ⟨c0,c1,decide_eq_true hu1,trivial⟩ (AL (by kernel_rfl)) (fun _ _=>rfl) rfl
   rw [mX (a:=a) a3 (by rw [a4,hu1,FY])] at h
   exact AZ [true] h
  ·by_cases hv1:E1 v y=1
   ·have h:=FS (w0:=w0) (β0:=BZ) (n:=Tryz.f134.ntmps) (AK MV AY) AE Tryz.func134 (AEY u v x y) ⟨c0,c1,decide_eq_false hu1,decide_eq_true hv1,trivial⟩ (AL (by kernel_rfl)) (fun _ _=>rfl) rfl
    rw [mX (a:=a) b3 (by rw [b4,hv1,FY])] at h
    exact AZ [false,true] h
   ·have hne:E1 u x≠E1 v y:=fun e=>by
     rw [← e] at hg'
     exact hu1 ((Nat.coprime_self _).1 hg')
    by_cases hle:E1 v y≤E1 u x
    ·refine AZ [false,false,true] (Ab (AK MV AY) AE (AEZ u v x y) ⟨c0,c1,decide_eq_false hu1,decide_eq_false hv1,rfl,rfl,rfl,rfl,by rw [iP];exact decide_eq_true hle,trivial⟩ (AL (by kernel_rfl)) (fun _ _=>rfl) (fun _ h=>by cases h) fun _=>?_)
     rw [mY hle (by omega)]
     refine ih _ _ _ _ (by omega) (by omega) (by omega) (by omega) (by omega) (FF _ _) b3 ?_ ?_ b4
     ·exact (Nat.gcd_sub_self_left hle).trans hg'
     ·have e:tf (E1 u x-E1 v y)=tf (E1 u x)-tf (E1 v y):=Y3 hle
      rw [FE,e,← a4,← b4];grind
    ·refine AZ [false,false,false] (Ab (AK MV AY) AE (AEa u v x y) ⟨c0,c1,decide_eq_false hu1,decide_eq_false hv1,rfl,rfl,rfl,rfl,by rw [iP];exact decide_eq_false hle,trivial⟩ (AL (by kernel_rfl)) (fun _ _=>rfl) (fun _ h=>by cases h) fun _=>?_)
     rw [mY (by omega) (by omega)]
     refine ih _ _ _ _ (by omega) (by omega) (by omega) (by omega) (by omega) a3 (FF _ _) ?_ a4 ?_
     ·exact Nat.Coprime.symm ((Nat.gcd_sub_self_left (show E1 u x≤E1 v y by omega)).trans hg'.symm)
     ·have e:tf (E1 v y-E1 u x)=tf (E1 v y)-tf (E1 u x):=Y3 (by omega)
      rw [FE,e,← a4,← b4];grind
theorem mZ (a:Nat):AX Tryz.prog 134 [AW a] (AW (BO a)):=by
 refine Ir (path:=[]) Tryz.func134 (by kernel_rfl) (by kernel_rfl) fun w0=>?_
 by_cases h:a % pN=0
 ·have h1:=FS (w0:=w0) (β0:=BZ) (n:=Tryz.f134.ntmps) (AK MV AY) AE Tryz.func134 (inv_zero a) ⟨decide_eq_true h,trivial⟩ (AL (by kernel_rfl)) (fun _ _=>rfl) rfl
  have e:a % pN=BO a:=by rw [h,mU h]
  rw [e] at h1
  exact AZ [true] h1
 ·have hp:=E_ a
  have hR:pN<RR:=by decide
  refine AZ [false] (Ab (AK MV AY) AE (AEV a) ⟨decide_eq_false h,trivial⟩ (AL (by kernel_rfl)) (fun _ _=>rfl) (fun _ h=>by cases h) fun _=>?_)
  refine AEU ?_
  rw [AEW]
  refine AEf a w0 (a % pN+pN) (a % pN) pN 1 0 (Nat.le_refl _) (by omega) CM (by omega) hR (by decide) CM ?_ ?_ ?_
  ·exact (pN_prime.coprime fun hd=>by have:=Nat.le_of_dvd (by omega) hd;omega).symm
  ·rw [FY,Kw];grind
  ·have:tf pN=0:=lT
   rw [tf_zero,this];grind
noncomputable def S25:List (FuncId×ASpec):=(134,Ar (Ec fun x=>AW (BO x)))::S24
theorem UF:AU Tryz.prog S25:=⟨Au Tryz.func134 (by kernel_rfl) (by kernel_rfl) (FU fun x _=>mZ x),MV⟩
def m6:List (Nat×AV)→Nat→AV
 | [],_=>.any
 | (j,a)::r,i=>match Nat.beq i j with | true=>a | false=>m6 r i
def m7:Nat→Nat→List (Nat×AV)→List AV
 | 0,_,_=>[]
 | f+1,i,l=>m6 l i::m7 f (i+1) l
def Cs (n:Nat) (l:List (Nat×AV)):List AV:=m7 n 0 l
def AJ (k off n m:Nat):AV:=.val false [.sl k off n m]
def iA (i:Int):AV:=.val false [.v (.int .i64 i)]
def Ak (xs:List Int):Heap:=[(0,some (Ad [.seq .u8 xs]))]
def GC (f:Nat→Int) (L i:Nat):List Int:=(List.range i).map f++List.replicate (L-i) 0
theorem m8 {f:Nat→Int} {L i:Nat} (h:i≤L):(GC f L i).length=L:=by simp [GC];omega
theorem m9 {f:Nat→Int} {L i:Nat} (h:i<L):(GC f L i).set i (f i)=GC f L (i+1):=by
 unfold GC
 rw [List.set_append_right _ _ (by simp),List.length_map,List.length_range,Nat.sub_self,show L-i=(L-(i+1))+1 by omega,List.replicate_succ,List.set_cons_zero,List.range_succ,List.map_append,List.append_assoc]
 rfl
theorem nA (f:Nat→Int) (L:Nat):GC f L 0=List.replicate L 0:=by simp [GC]
theorem AEg (f:Nat→Int) (L:Nat):GC f L L=(List.range L).map f:=by simp [GC]
def EA (A k:Nat):Int:=((A / 256^k % 256:Nat):Int)
def BK (A n:Nat):List Int:=(List.range n).map fun i=>EA A (n-1-i)
def AS:List Int→Nat
 | []=>0
 | d::r=>d.toNat*256^r.length+AS r
theorem I_ (k:Nat):256^k=2^(8*k):=by rw [Nat.pow_mul]
theorem UG {n i:Nat} (hn:n≤35184372088832) (h:i<n):wI (wI ((n:Int)-1)-i)=((n-1-i:Nat):Int):=by
 rw [Al (z:=(n:Int)-1) (by omega),Al (by omega)];omega
theorem N9 (k:Nat):Int.tdiv (k:Int) 8=((k / 8:Nat):Int):=by rw [Int.tdiv_eq_ediv_of_nonneg (by omega)];rfl
theorem Qm (k:Nat):Int.tmod (k:Int) 8=((k % 8:Nat):Int):=by rw [Int.tmod_eq_emod_of_nonneg (by omega)];rfl
noncomputable def AEh:List Item:=Bh (AR Tryz.prog (AI S25 K0) (some 0) 100 1 none (Af Tryz.f123 [AJ 0 0 0 0,iA 0] (BB []) 1 []))
noncomputable def Qn (off m c:Nat) (n:Int) (xs:List Int) (L:Nat) (ys:List Int) (i:AV) (p:List Bool):ASt:=⟨AEh,⟨Cs Tryz.f123.ntmps [(0,AJ 0 off m c),(1,iA n),(5,AJ 1 0 L L),(10,AJ 1 0 L L),(11,AJ 1 0 L L),(12,iA L),(13,i)],
 [(0,some (Ad [.seq .u64 xs])),(1,some ⟨5,[.seq .u8 ys],false⟩)],2,p⟩⟩
abbrev nC:Option (List Nat×List Nat×Nat):=some ([0,1,5,10,11,12,13],[0,1],2)
def Qo (n:Int):Nat:=(Cg n 0).toNat
def UH (ys:List Int):Heap:=[(1,some ⟨5,[.seq .u8 ys],false⟩)]
def Ky (m sz:Int):Bool:=decide (0≤m∧m≤m∧sz*m≤281474976710656∧m≤9223372036854775807)
theorem AEi (off m c:Nat) (n:Int) (xs:List Int):AR Tryz.prog (AI S25 K0) (some 0) 100 1 nC (Af Tryz.f123 [AJ 0 off m c,iA n] (BB xs) 1 []) =
 some ([(Ky (Cg n 0) 1,true),(AH .i64 (Qo n),true)],[],Qn off m c n xs (Qo n) (List.replicate (Qo n) 0) (.val false [.n .i64 0]) []):=by kernel_rfl
def DT (n i:Int):Int:=wI (wI (n-1)-i)
def ZH (xs:List Int) (off m:Nat) (k:Int):Int:=AN false .u8 (Int.fdiv (Ai xs off m (wI (Int.tdiv k 8))) (2^min (wI (8*Int.tmod k 8)).toNat 64))
def nF (off m:Nat) (n:Int) (xs:List Int) (L:Nat) (ys:List Int) (i:Int):List (Bool×Bool):=[(decide (i<L),true),(true,true),(Nat.ble (off+m) xs.length,true),(AH .i64 m,true),(decide (0≤wI (Int.tdiv (DT n i) 8)),true),
 (decide (0≤DT n i∧(0:Int)<8),true),(decide (0≤wI (8*Int.tmod (DT n i) 8)∧0≤Ai xs off m (wI (Int.tdiv (DT n i) 8))),true),(decide (0≤i∧i<L),true),(decide (0+i.toNat*1<ys.length),true)]
theorem AEj (off m c:Nat) (n:Int) (xs:List Int) (L:Nat) (ys:List Int) (i:Int):AR Tryz.prog (AI S25 K0) (some 0) 100 1 nC (Qn off m c n xs L ys (iA i) [true]) =
 some (nF off m n xs L ys i,[],Qn off m c n xs L (ys.set (0+i.toNat*1) (ZH xs off m (DT n i))) (iA (wI (i+1))) []):=by kernel_rfl
theorem AEk (off m c:Nat) (n:Int) (xs:List Int) (L:Nat) (ys:List Int) (i:Int):AP Tryz.prog (AI S25 K0) Tryz.f123 100 1 [1] (Qn off m c n xs L ys (iA i) [false]) =
 some ([(decide (i<L),false)],[],AJ 1 0 L L,UH ys):=by kernel_rfl
theorem nG {xs:List Int} {off m:Nat} (hx:∀ d∈xs,0≤d∧d<18446744073709551616) {k:Nat} (hk:k≤35184372088832):ZH xs off m (k:Int)=EA (AF (AA xs off m)) k∧0≤Ai xs off m (wI (Int.tdiv (k:Int) 8)):=by
 have e1:wI (Int.tdiv (k:Int) 8)=((k / 8:Nat):Int):=by rw [N9];exact Al (by omega)
 have e2:wI (8*Int.tmod (k:Int) 8)=((8*(k % 8):Nat):Int):=by rw [Qm,Al (by omega)];omega
 unfold ZH
 rw [e1,e2,MS hx,Int.toNat_natCast,Nat.min_eq_left (by omega)]
 refine ⟨?_,by omega⟩
 generalize AF (AA xs off m)=A
 have e3:(Int.fdiv ((A / 2^(64*(k / 8)) % 18446744073709551616:Nat):Int) (2^(8*(k % 8))))=((A / 2^(64*(k / 8)) % 18446744073709551616 / 2^(8*(k % 8)):Nat):Int):=by
  rw [Int.fdiv_eq_ediv_of_nonneg _ (by exact_mod_cast Nat.zero_le (2^(8*(k % 8)))),Int.natCast_ediv,Int.natCast_pow];rfl
 rw [e3,CA,IntKind.wrap_u8]
 unfold EA
 have e4:(18446744073709551616:Nat)=2^(8*(k % 8))*2^(64-8*(k % 8)):=by rw [← Nat.pow_add,show 8*(k % 8)+(64-8*(k % 8))=64 by omega]
 have e5:A / 2^(64*(k / 8)) % 18446744073709551616 / 2^(8*(k % 8)) % 256=A / 256^k % 256:=by
  rw [e4,Nat.mod_mul_right_div_self,Nat.div_div_eq_div_mul,← Nat.pow_add,show 64*(k / 8)+8*(k % 8)=8*k by omega,I_]
  refine Nat.mod_mod_of_dvd _ ?_
  have:64-8*(k % 8)=8+(56-8*(k % 8)):=by omega
  rw [this,Nat.pow_add]
  exact ⟨_,rfl⟩
 rw [← e5];omega
theorem AEl {off m c:Nat} {xs:List Int} (hx:∀ d∈xs,0≤d∧d<18446744073709551616) (hl:off+m≤xs.length) (hm:AH .i64 m=true) {n:Nat} (hn:n≤35184372088832) :
  Ah Tryz.prog 123 [AJ 0 off m c,iA n] (BB xs) 1 [] (AJ 1 0 n n) (UH (BK (AF (AA xs off m)) n)):=by
 refine Av (path:=[]) Tryz.func123 (by kernel_rfl) (by kernel_rfl) fun β0 w0 hb=>?_
 have h0:Cg (n:Int) 0=n:=by unfold Cg;split<;>omega
 have h1:Qo (n:Int)=n:=by unfold Qo;rw [h0];omega
 refine Ab (AK UF AY) AE (AEi off m c n xs) ⟨?_,?_,trivial⟩ (AL (by kernel_rfl)) hb (fun _ h=>by cases h) fun _=>?_
 ·rw [h0];unfold Ky;simp only [decide_eq_true_eq];omega
 ·rw [h1];simp only [AH,Bool.and_eq_true,decide_eq_true_eq];omega
 ·rw [h1]
  refine Ds ?_
  have loop:∀ r i,i+r=n→ASafe Tryz.prog 123 β0 w0 (Ax β0 w0 [] (AJ 1 0 n n) (UH (BK (AF (AA xs off m)) n))) Tryz.f123.ntmps [] (Qn off m c n xs n (GC (fun i=>EA (AF (AA xs off m)) (n-1-i)) n i) (iA i) []):=by
   intro r
   induction r with
   | zero =>
    intro i hi
    obtain rfl:i=n:=by omega
    rw [AEg]
    exact AZ [false] (Aq (AK UF AY) AE Tryz.func123 (AEk ..) ⟨by simp,trivial⟩ (AL (by kernel_rfl)) hb (fun _ h=>by cases h))
   | succ r ih =>
    intro i hi
    have ek:DT (n:Int) i=((n-1-i:Nat):Int):=UG hn (by omega)
    have ev:=nG (off:=off) (m:=m) hx (k:=n-1-i) (by omega)
    have ed:wI (Int.tdiv ((n-1-i:Nat):Int) 8)=(((n-1-i) / 8:Nat):Int):=by rw [N9];exact Al (by omega)
    refine AZ [true] (Ab (AK UF AY) AE (AEj ..) ?_ (AL (by kernel_rfl)) hb (fun _ h=>by cases h) fun _=>?_)
    ·rw [nF,ek]
     refine ⟨by simp;omega,rfl,Nat.ble_eq_true_of_le hl,hm,by rw [ed];simp only [decide_eq_true_eq];omega,by simp,?_,by simp;omega,by rw [m8 (by omega)];simp;omega,trivial⟩
     have:wI (8*Int.tmod ((n-1-i:Nat):Int) 8)=((8*((n-1-i) % 8):Nat):Int):=by rw [Qm,Al (by omega)];omega
     rw [this]
     simp only [decide_eq_true_eq]
     exact ⟨by omega,ev.2⟩
    ·rw [ek,ev.1,Al (z:=(i:Int)+1) (by omega),show 0+(i:Int).toNat*1=i by omega,m9 (f:=fun i=>EA (AF (AA xs off m)) (n-1-i)) (by omega)]
     exact ih (i+1) (by omega)
  have:=loop n 0 (by omega)
  rw [nA] at this
  exact this
def octSpec:ASpec:=fun args H fr path =>
 match args with
 | [.val false [.sl k off m _],I]=>match BH (some I),AG H k with
  | some (_,.i64,i),some ⟨_,cs,_⟩=>match As .u64 cs with
   | some xs=>some (A8 [k] 1 fr 1 [] (AJ 1 0 i.toNat i.toNat) (UH (BK (AF (AA xs off m)) i.toNat)) [(Nat.ble (off+m) xs.length,true),(AH .i64 m,true),(decide (0≤i∧i≤35184372088832),true)] path)
   | none=>none
  | _,_=>none
 | _=>none
theorem AEm:A7 Tryz.prog 123 octSpec:=by
 refine E7 Tryz.func123 (by kernel_rfl) (by kernel_rfl) fun args H fr path r h=>?_
 unfold octSpec at h
 split at h
 case h_2=>cases h
 rename_i k off m _c I
 split at h
 case h_2=>cases h
 rename_i c0 i ty cs o hI hk
 split at h
 case h_2=>cases h
 rename_i xs hxs
 injection h with h
 refine ⟨[k],[AJ 0 off m _c,iA i],BB xs,1,1,[],_,_,_,path,h.symm,fun β us w ha hg hc=>?_⟩
 obtain ⟨u1,us1,r1,⟨u2,us2,r2,ha,rfl⟩,rfl⟩:=ha
 obtain ⟨g1,g2,g3⟩:=H6 hg hk hxs
 obtain ⟨rfl,p1⟩:=B6 (β:=β) (u:=u2) (fun A hA=>by injection hA with hA;subst hA;exact r2) hI
 have hi:=hc.2.2.1
 simp only [decide_eq_true_eq] at hi
 obtain ⟨n,rfl⟩:=Int.eq_ofNat_of_zero_le hi.1
 exact ⟨AEl g1 (Nat.le_of_ble_eq_true hc.1) hc.2.1 (by omega),by kernel_rfl,⟨u1,_,r1,⟨_,us2,Aw ⟨rfl,rfl,p1⟩,ha,rfl⟩,rfl⟩,g2,g3⟩
noncomputable def S26:List (FuncId×ASpec):=(123,octSpec)::S25
theorem UI:AU Tryz.prog S26:=⟨AEm,UF⟩
theorem nJ:∀ (a b:List Int),AS (a++b)=AS a*256^b.length+AS b
 | [],b=>by simp [AS]
 | d::r,b=>by
  simp only [List.cons_append,AS,List.length_append]
  rw [nJ r b,Nat.pow_add,Nat.add_mul,Nat.mul_assoc,Nat.add_assoc]
theorem nK {ws:List Int} {i:Nat} (h:i<ws.length):AS (ws.take (i+1))=AS (ws.take i)*256+(ws.getD i 0).toNat:=by
 rw [List.take_succ_eq_append_getElem h,nJ]
 simp [AS,List.getD_eq_getElem?_getD,h]
theorem UJ:∀ (ws:List Int),(∀ d∈ws,0≤d∧d<256)→AS ws<256^ws.length
 | [],_=>by simp [AS]
 | d::r,h=>by
  have hd:=h d (by simp)
  have ih:=UJ r fun d h'=>h d (by simp [h'])
  simp only [AS,List.length_cons,Nat.pow_succ]
  have:d.toNat+1≤256:=by omega
  have h2:=Nat.mul_le_mul_right (256^r.length) this
  rw [Nat.add_mul,Nat.one_mul] at h2
  omega
theorem nL {M x k i:Nat} (hx:x<256) (hi:i≠k / 8):(M*256^(k+1)+x*256^k) / 2^(64*i) % 2^64=M*256^(k+1) / 2^(64*i) % 2^64:=by
 rw [I_,I_]
 rcases Nat.lt_or_gt_of_ne hi with h | h
 ·have e:x*2^(8*k)=2^(64*i)*(2^64*(x*2^(8*k-64*i-64))):=by
   rw [Nat.mul_left_comm (2^64),Nat.mul_left_comm (2^(64*i)),← Nat.pow_add,← Nat.pow_add];congr 2;omega
  rw [e,Nat.add_mul_div_left _ _ (Nat.pow_pos (by decide)),Nat.add_mul_mod_self_left]
 ·have e1:2^(64*i)=2^(8*k)*2^(64*i-8*k):=by rw [← Nat.pow_add];congr 1;omega
  have e2:M*2^(8*(k+1))+x*2^(8*k)=2^(8*k)*(M*256+x):=by
   rw [show 8*(k+1)=8*k+8 by omega,Nat.pow_add,Nat.mul_add,Nat.mul_comm x];congr 1;rw [Nat.mul_left_comm]
  have e3:M*2^(8*(k+1))=2^(8*k)*(M*256):=by rw [show 8*(k+1)=8*k+8 by omega,Nat.pow_add,Nat.mul_left_comm]
  have e4:2^(64*i-8*k)=256*2^(64*i-8*k-8):=by
   rw [show (256:Nat)=2^8 by rfl,← Nat.pow_add];congr 1;omega
  rw [e2,e3,e1,Nat.mul_div_mul_left _ _ (Nat.pow_pos (by decide)),Nat.mul_div_mul_left _ _ (Nat.pow_pos (by decide)),e4,← Nat.div_div_eq_div_mul,← Nat.div_div_eq_div_mul]
  congr 2;omega
theorem nM {M x k:Nat} (hx:x<256):∃ h B,(M*256^(k+1)) / 2^(64*(k / 8)) % 2^64=h*2^(8*(k % 8)+8)∧x*2^(8*(k % 8))=B∧B<2^(8*(k % 8)+8)∧h*2^(8*(k % 8)+8)<2^64 ∧
  (M*256^(k+1)+x*256^k) / 2^(64*(k / 8)) % 2^64=h*2^(8*(k % 8)+8)+B:=by
 rw [I_,I_]
 have e0:2^(8*k)=2^(64*(k / 8))*2^(8*(k % 8)):=by rw [← Nat.pow_add];congr 1;omega
 have e1:2^(8*(k+1))=2^(64*(k / 8))*2^(8*(k % 8)+8):=by rw [← Nat.pow_add];congr 1;omega
 have e2:(2:Nat)^64=2^(8*(k % 8)+8)*2^(56-8*(k % 8)):=by rw [← Nat.pow_add];congr 1;omega
 have e3:2^(8*(k % 8)+8)=2^(8*(k % 8))*256:=by rw [Nat.pow_add]
 have hp:0<2^(64*(k / 8)):=Nat.pow_pos (by decide)
 have q1:M*2^(8*(k+1)) / 2^(64*(k / 8))=M*2^(8*(k % 8)+8):=by
  rw [e1,Nat.mul_left_comm,Nat.mul_div_cancel_left _ hp]
 have q2:(M*2^(8*(k+1))+x*2^(8*k)) / 2^(64*(k / 8))=M*2^(8*(k % 8)+8)+x*2^(8*(k % 8)):=by
  rw [e1,e0,Nat.mul_left_comm M,Nat.mul_left_comm x,← Nat.mul_add,Nat.mul_div_cancel_left _ hp]
 rw [q1,q2]
 have hB:x*2^(8*(k % 8))<2^(8*(k % 8)+8):=by
  rw [e3,Nat.mul_comm];exact Nat.mul_lt_mul_of_pos_left hx (Nat.pow_pos (by decide))
 have m1:M*2^(8*(k % 8)+8) % 2^64=M % 2^(56-8*(k % 8))*2^(8*(k % 8)+8):=by
  rw [e2,Nat.mul_comm M,Nat.mul_mod_mul_left,Nat.mul_comm]
 have hlt:M % 2^(56-8*(k % 8))*2^(8*(k % 8)+8)+2^(8*(k % 8)+8)≤2^64:=by
  have:=Nat.mod_lt M (show 0<2^(56-8*(k % 8)) from Nat.pow_pos (by decide))
  have h2:=Nat.mul_le_mul_right (2^(8*(k % 8)+8)) (show M % 2^(56-8*(k % 8))+1≤2^(56-8*(k % 8)) from this)
  rw [Nat.add_mul,Nat.one_mul,Nat.mul_comm (2^(56-8*(k % 8))),← e2] at h2
  exact h2
 have hp2:0<2^(8*(k % 8)+8):=Nat.pow_pos (by decide)
 refine ⟨M % 2^(56-8*(k % 8)),_,m1,rfl,hB,by omega,?_⟩
 rw [Nat.add_mod,m1]
 have:x*2^(8*(k % 8)) % 2^64=x*2^(8*(k % 8)):=Nat.mod_eq_of_lt (by omega)
 rw [this,Nat.mod_eq_of_lt (by omega)]
def N_ (n:Nat):Nat:=(wI (Int.tdiv (wI ((n:Int)+7)) 8)).toNat
noncomputable def AEn:List Item:=Bh (AR Tryz.prog (AI S26 K0) (some 0) 100 1 none (Af Tryz.f68 [AJ 0 0 0 0] (Ak []) 1 []))
noncomputable def Qp (off n c:Nat) (xs:List Int) (L:Nat) (ys:List Int) (i:AV) (p:List Bool):ASt:=⟨AEn,⟨Cs Tryz.f68.ntmps [(0,AJ 0 off n c),(3,AJ 1 0 L L),(11,AJ 1 0 L L),(12,AJ 0 off n c),(13,iA n),(14,i)],
 [(0,some (Ad [.seq .u8 xs])),(1,some ⟨24,[.seq .u64 ys],false⟩)],2,p⟩⟩
abbrev nN:Option (List Nat×List Nat×Nat):=some ([0,3,11,12,13,14],[0,1],2)
theorem AEo (off n c:Nat) (xs:List Int):AR Tryz.prog (AI S26 K0) (some 0) 100 1 nN (Af Tryz.f68 [AJ 0 off n c] (Ak xs) 1 []) =
 some ([(AH .i64 n,true),(true,true),(Ky (wI (Int.tdiv (wI ((n:Int)+7)) 8)) 8,true),(AH .i64 n,true)],[],Qp off n c xs (N_ n) (List.replicate (N_ n) 0) (.val false [.n .i64 0]) []):=by kernel_rfl
def DJ (n i:Int):Int:=wI (Int.tdiv (DT n i) 8)
def ZI (xs:List Int) (off:Nat) (n:Int) (ys:List Int) (i:Int):Int :=
 bits .or .u64 (ys.getD (0+(DJ n i).toNat*1) 0) (IntKind.u64.wrap (AN false .u64 (xs.getD (off+i.toNat*1) 0)*2^min (wI (8*Int.tmod (DT n i) 8)).toNat 64))
def nO (off n:Nat) (xs:List Int) (L:Nat) (ys:List Int) (i:Int):List (Bool×Bool):=[(decide (i<n),true),(decide (0≤i∧i<n),true),(decide (off+i.toNat*1<xs.length),true),(AH .i64 n,true),(true,true),
 (decide (0≤DJ n i∧DJ n i<L),true),(decide (0+(DJ n i).toNat*1<ys.length),true),(decide (0≤DT n i∧(0:Int)<8),true),(decide (0≤wI (8*Int.tmod (DT n i) 8)),true),(decide (0≤DJ n i∧DJ n i<L),true),(decide (0+(DJ n i).toNat*1<ys.length),true)]
theorem AEp (off n c:Nat) (xs:List Int) (L:Nat) (ys:List Int) (i:Int):AR Tryz.prog (AI S26 K0) (some 0) 100 1 nN (Qp off n c xs L ys (iA i) [true]) =
 some (nO off n xs L ys i,[],Qp off n c xs L (ys.set (0+(DJ n i).toNat*1) (ZI xs off n ys i)) (iA (wI (i+1))) []):=by kernel_rfl
def UK (ys:List Int):Heap:=[(1,some ⟨24,[.seq .u64 ys],false⟩)]
theorem AEq (off n c:Nat) (xs:List Int) (L:Nat) (ys:List Int) (i:Int):AP Tryz.prog (AI S26 K0) Tryz.f68 100 1 [1] (Qp off n c xs L ys (iA i) [false]) =
 some ([(decide (i<n),false)],[],AJ 1 0 L L,UK ys):=by kernel_rfl
def Cj (N L:Nat):List Int:=(List.range L).map (AB N)
theorem nP {N N' L j:Nat} {w:Int} (hj:AB N' j=w) (ho:∀ i,i≠j→AB N' i=AB N i):(Cj N L).set j w=Cj N' L:=by
 unfold Cj
 refine List.ext_getElem (by simp) fun i h1 h2=>?_
 rw [List.getElem_set]
 split
 ·rename_i e;subst e;simp [hj]
 ·rename_i e;simp [ho i (fun h=>e h.symm)]
theorem nQ {N L j:Nat} (h:j<L):(Cj N L).getD j 0=AB N j:=by simp [Cj,List.getD_eq_getElem?_getD,h]
theorem nS (L:Nat):Cj 0 L=List.replicate L 0:=by
 unfold Cj
 refine List.ext_getElem (by simp) fun i h1 h2=>?_
 simp [AB]
theorem nT {N L:Nat} (h:N<2^(64*L)):AF (Cj N L)=N:=by
 have:=ADA (S:=N) (L:=L) h
 unfold Yw AA at this
 rw [Nat.sub_self,List.replicate_zero,List.append_nil,List.drop_zero,List.take_of_length_le (by simp)] at this
 exact this
theorem nU {n:Nat} (hn:n≤35184372088832):N_ n=(n+7) / 8∧wI (Int.tdiv (wI ((n:Int)+7)) 8)=(((n+7) / 8:Nat):Int):=by
 have e:wI ((n:Int)+7)=((n+7:Nat):Int):=by rw [Al (by omega)];omega
 have e2:wI (Int.tdiv (wI ((n:Int)+7)) 8)=(((n+7) / 8:Nat):Int):=by rw [e,N9];exact Al (by omega)
 exact ⟨by unfold N_;rw [e2];omega,e2⟩
def ZJ (N L:Nat):Heap:=[(1,some ⟨24,[.num L N],false⟩)]
theorem nV {N L:Nat} (h:N<2^(64*L)) (β:Env) (l:List Value) (hr:AM β [.seq .u64 (Cj N L)] l):AM β [.num L N] l:=by
 obtain ⟨l1,l2,⟨h1,_⟩,h2,h3⟩:=hr
 simp only [AM] at h2
 subst h2;subst h1;subst h3
 refine ⟨_,[],⟨h,rfl⟩,rfl,?_⟩
 simp [Cj,words,Function.comp]
theorem nW {P:Program} {f:FuncId} {β0:Env} {w0:World} {R R':Ending→World→Prop} {W':List Nat} {n:Nat} {x:ASt} (h:ASafe P f β0 w0 R n W' x) (hv:∀ e w,R e w→R' e w):ASafe P f β0 w0 R' n W' x:=by
 intro β a w hi hf b cs q1 q2
 obtain ⟨e',w',fr,q5,q4⟩:=h β a w hi hf b cs q1 q2
 exact ⟨e',w',fr,hv _ _ q5,q4⟩
theorem AEr {off n c:Nat} {xs:List Int} (hx:∀ d∈xs,0≤d∧d<256) (hl:off+n≤xs.length) (hn:n≤35184372088832) :
  Ah Tryz.prog 68 [AJ 0 off n c] (Ak xs) 1 [] (AJ 1 0 ((n+7) / 8) ((n+7) / 8)) (ZJ (AS (AA xs off n)) ((n+7) / 8)):=by
 have hfin:AS (AA xs off n)<2^(64*((n+7) / 8)):=by
  have h1:=UJ (AA xs off n) (CS hx)
  have h2:(AA xs off n).length=n:=by unfold AA;rw [List.length_take,List.length_drop];omega
  rw [h2,I_] at h1
  exact Nat.lt_of_lt_of_le h1 (Nat.pow_le_pow_right (by decide) (by omega))
 refine Av (path:=[]) Tryz.func68 (by kernel_rfl) (by kernel_rfl) fun β0 w0 hb=>?_
 obtain ⟨l1,l2⟩:=nU hn
 have hw:AH .i64 (n:Int)=true:=by simp only [AH,Bool.and_eq_true,decide_eq_true_eq];omega
 refine Ab (AK UI AY) AE (AEo off n c xs) ⟨hw,rfl,?_,hw,trivial⟩ (AL (by kernel_rfl)) hb (fun _ h=>by cases h) fun _=>?_
 ·rw [l2];unfold Ky;simp only [decide_eq_true_eq];omega
 ·rw [l1]
  refine Ds ?_
  have hlen:(AA xs off n).length=n:=by unfold AA;rw [List.length_take,List.length_drop];omega
  have hbd:∀ d∈AA xs off n,0≤d∧d<256:=CS hx
  have loop:∀ r i,i+r=n→ASafe Tryz.prog 68 β0 w0 (Ax β0 w0 [] (AJ 1 0 ((n+7) / 8) ((n+7) / 8)) (UK (Cj (AS (AA xs off n)) ((n+7) / 8)))) Tryz.f68.ntmps []
    (Qp off n c xs ((n+7) / 8) (Cj (AS ((AA xs off n).take i)*256^(n-i)) ((n+7) / 8)) (iA i) []):=by
   intro r
   induction r with
   | zero =>
    intro i hi
    obtain rfl:i=n:=by omega
    rw [Nat.sub_self,Nat.pow_zero,Nat.mul_one,List.take_of_length_le (by omega)]
    exact AZ [false] (Aq (AK UI AY) AE Tryz.func68 (AEq ..) ⟨by simp,trivial⟩ (AL (by kernel_rfl)) hb (fun _ h=>by cases h))
   | succ r ih =>
    intro i hi
    have ek:DT (n:Int) i=((n-1-i:Nat):Int):=UG hn (by omega)
    have ej:DJ (n:Int) i=(((n-1-i) / 8:Nat):Int):=by unfold DJ;rw [ek,N9];exact Al (by omega)
    have em:wI (8*Int.tmod ((n-1-i:Nat):Int) 8)=((8*((n-1-i) % 8):Nat):Int):=by rw [Qm,Al (by omega)];omega
    have hjL:(n-1-i) / 8<(n+7) / 8:=by omega
    have hlenw:∀ N,(Cj N ((n+7) / 8)).length=(n+7) / 8:=fun N=>by simp [Cj]
    have hwx:xs.getD (off+i) 0=(AA xs off n).getD i 0:=(GX (by omega)).symm
    have hxb:0≤(AA xs off n).getD i 0∧(AA xs off n).getD i 0<256:=by
     rw [List.getD_eq_getElem?_getD]
     cases h':(AA xs off n)[i]? with
     | none=>simp
     | some d=>exact hbd d (List.mem_of_getElem? h')
    refine AZ [true] (Ab (AK UI AY) AE (AEp ..) ?_ (AL (by kernel_rfl)) hb (fun _ h=>by cases h) fun _=>?_)
    ·unfold nO
     rw [ej,ek,em,hlenw]
     refine ⟨by simp;omega,by simp;omega,by simp;omega,hw,rfl,by simp only [decide_eq_true_eq];omega,by simp only [decide_eq_true_eq];omega,by simp only [decide_eq_true_eq];omega,by simp only [decide_eq_true_eq];omega,by simp only [decide_eq_true_eq];omega,by simp only [decide_eq_true_eq];omega,trivial⟩
    ·have hset:((Cj (AS ((AA xs off n).take i)*256^(n-i)) ((n+7) / 8)).set (0+(DJ n i).toNat*1) (ZI xs off n (Cj (AS ((AA xs off n).take i)*256^(n-i)) ((n+7) / 8)) i)) =
       Cj (AS ((AA xs off n).take (i+1))*256^(n-(i+1))) ((n+7) / 8):=by
      have ei:0+(((n-1-i) / 8:Nat):Int).toNat*1=(n-1-i) / 8:=by omega
      have eo:off+(i:Int).toNat*1=off+i:=by omega
      unfold ZI
      rw [ej,ek,em,ei,eo,hwx,nQ hjL]
      obtain ⟨X,hX⟩:=Int.eq_ofNat_of_zero_le hxb.1
      have hX2:X<256:=by omega
      rw [hX,CA,IntKind.wrap_u64,IntKind.wrap_u64,Int.toNat_natCast,Nat.min_eq_left (by omega)]
      have en:n-i=(n-1-i)+1:=by omega
      have en':n-(i+1)=n-1-i:=by omega
      have et:AS ((AA xs off n).take (i+1))*256^(n-(i+1))=AS ((AA xs off n).take i)*256^(n-1-i+1)+X*256^(n-1-i):=by
       rw [nK (by omega),hX,Int.toNat_natCast,en',Nat.add_mul,Nat.mul_assoc,← Nat.pow_succ']
      rw [et,en]
      obtain ⟨hh,B,w1,w2,w3,w4,w5⟩:=nM (M:=AS ((AA xs off n).take i)) (k:=n-1-i) hX2
      refine nP ?_ fun j hj=>?_
      ·have hle:8*((n-1-i) % 8)+8≤64:=by omega
       have hB64:X*2^(8*((n-1-i) % 8))<2^64:=by
        rw [w2];exact Nat.lt_of_lt_of_le w3 (Nat.pow_le_pow_right (by decide) hle)
       have ex:((X:Int) % 18446744073709551616*2^(8*((n-1-i) % 8))) % 18446744073709551616=(B:Int):=by
        have a1:((X:Int) % 18446744073709551616)=(X:Int):=by omega
        have a2:((X:Int)*2^(8*((n-1-i) % 8)))=((X*2^(8*((n-1-i) % 8)):Nat):Int):=by rw [Int.natCast_mul,Int.natCast_pow];rfl
        rw [a1,a2,w2]
        rw [w2] at hB64
        have:B<18446744073709551616:=hB64
        omega
       rw [ex]
       have eo:=ZD (h:=hh) (s:=8*((n-1-i) % 8)+8) (B:=B) w4 w3 hle
       unfold AB
       rw [w5,w1]
       exact eo.symm
      ·unfold AB
       rw [nL hX2 hj]
     rw [hset,Al (z:=(i:Int)+1) (by omega)]
     exact ih (i+1) (by omega)
  have:=loop n 0 (by omega)
  rw [List.take_zero,show AS []=0 from rfl,Nat.zero_mul,nS] at this
  exact nW this fun e w h=>QJ (nV hfin) h
def wrdSpec:ASpec:=fun args H fr path =>
 match args with
 | [.val false [.sl k off n _]]=>match AG H k with
  | some ⟨_,cs,_⟩=>match As .u8 cs with
   | some xs=>some (A8 [k] 1 fr 1 [] (AJ 1 0 ((n+7) / 8) ((n+7) / 8)) (ZJ (AS (AA xs off n)) ((n+7) / 8)) [(Nat.ble (off+n) xs.length,true),(Nat.ble n 35184372088832,true)] path)
   | none=>none
  | _=>none
 | _=>none
theorem nZ {a:Int} (h:has .u8 a):0≤a∧a<256:=by
 have:=(Do _ _).1 h
 simp only [AH,Bool.and_eq_true,decide_eq_true_eq] at this
 omega
theorem C0 {β:Env} {H:Heap} {w:World} {k:Nat} {ty:Nat} {cs:List Ch} {o:Bool} {xs:List Int} (hg:Ex.Good β H w) (hk:AG H k=some ⟨ty,cs,o⟩) (hxs:As .u8 cs=some xs) :
  (∀ d∈xs,0≤d∧d<256)∧Ex.Good (A4 β [k] 1) (Ak xs) w∧(∀ j,j<1→∃ X,β (nth [k] j)=some X):=by
 obtain ⟨l,g1⟩:=GV hg hk
 obtain ⟨_,g2⟩:=CJ hxs g1
 refine ⟨fun d hd=>nZ (g2 d hd),QI (c:=[.seq .u8 xs]) hg hk (fun l h=>?_),fun j hj=>?_⟩
 ·obtain ⟨q1,q2⟩:=CJ hxs h
  exact ⟨_,[],⟨q1,q2⟩,rfl,by simp⟩
 ·match j,hj with
  | 0,_=>exact Bu (hg.heap _ _ hk)
theorem AEs:A7 Tryz.prog 68 wrdSpec:=by
 refine E7 Tryz.func68 (by kernel_rfl) (by kernel_rfl) fun args H fr path r h=>?_
 unfold wrdSpec at h
 split at h
 case h_2=>cases h
 rename_i k off n c
 split at h
 case h_2=>cases h
 rename_i ty cs o hk
 split at h
 case h_2=>cases h
 rename_i xs hxs
 injection h with h
 refine ⟨[k],[AJ 0 off n c],Ak xs,1,1,[],_,_,_,path,h.symm,fun β us w ha hg hc=>?_⟩
 obtain ⟨u1,us1,r1,ha,rfl⟩:=ha
 obtain ⟨g1,g2,g3⟩:=C0 hg hk hxs
 exact ⟨AEr g1 (Nat.le_of_ble_eq_true hc.1) (Nat.le_of_ble_eq_true hc.2.1),by kernel_rfl,⟨u1,_,r1,ha,rfl⟩,g2,g3⟩
noncomputable def S27:List (FuncId×ASpec):=(68,wrdSpec)::S26
theorem Qq:AU Tryz.prog S27:=⟨AEs,UI⟩
def Qr (x:Nat):AV:=.val true [.seq .u8 (BK x 48)]
theorem AEt (a:Nat):Ac Tryz.prog (AI S27 K0) Tryz.f139 [AW a] [] 300 =
 some (F' 4,Qr (AF (AA (GY (a % pN)) 0 6))):=by kernel_rfl
theorem AEu (a:Nat):AX Tryz.prog 139 [AW a] (Qr (a % pN)):=by
 have h:=Ag (AK Qq AY) AE Tryz.func139 (AEt a) ⟨rfl,rfl,rfl,rfl,trivial⟩ rfl
 rw [lI (GU a)] at h
 exact h
def Dx (n N:Nat):Nat:=if n=48∧N<pN then N else 0
def IA (n N:Nat):Int:=if n=48 then (if N<pN then 0 else 41) else 40
def Kz (n N:Nat):AV:=.tup [(true,[.num 6 (Dx n N)]),(false,[.v (.int .i64 (IA n N))])]
def n5 (e:Int):AV:=.tup [(true,HL),(false,[.n .i64 e])]
theorem AEv (off n m:Nat) (xs:List Int):AP Tryz.prog (AI S27 K0) Tryz.f142 300 1 [] (Af Tryz.f142 [AJ 0 off n m] (Ak xs) 1 [true]) =
 some ([(AH .i64 n,true),(!decide ((n:Int)=48),true)],[],n5 40,[]):=by kernel_rfl
theorem AEw (off m:Nat) (xs:List Int):AP Tryz.prog (AI S27 K0) Tryz.f142 300 1 [] (Af Tryz.f142 [AJ 0 off 48 m] (Ak xs) 1 [false,true]) =
 some ([(true,true),(false,false),(Nat.ble (off+48) xs.length,true),(true,true),(true,true),(!decide (AS (AA xs off 48) % pN=AS (AA xs off 48)),true)],[],n5 41,[]):=by kernel_rfl
theorem AEx (off m:Nat) (xs:List Int):AP Tryz.prog (AI S27 K0) Tryz.f142 300 1 [] (Af Tryz.f142 [AJ 0 off 48 m] (Ak xs) 1 [false,false]) =
 some ([(true,true),(false,false),(Nat.ble (off+48) xs.length,true),(true,true),(true,true),(!decide (AS (AA xs off 48) % pN=AS (AA xs off 48)),false)],[],.tup [(true,[.num 6 (AS (AA xs off 48))]),(false,[.n .i64 0])],[]):=by kernel_rfl
theorem Ck {β β':Env} {g g':Bool} {a a' b b':List Ch} {u:Value} (h1:∀ v,Be β g a v→Be β' g a' v) (h2:∀ v,Be β g' b v→Be β' g' b' v) (h:AO β (.tup [(g,a),(g',b)]) u):AO β' (.tup [(g,a'),(g',b')]) u:=by
 obtain ⟨us,⟨u1,l1,q1,⟨u2,l2,q2,q3,q4⟩,q5⟩,q6⟩:=h
 exact ⟨us,⟨u1,l1,h1 _ q1,⟨u2,l2,h2 _ q2,q3,q4⟩,q5⟩,q6⟩
theorem n8 {β:Env} {v:Value} (h:Be β true HL v):Be β true [.num 6 0] v:=by
 obtain ⟨l,q,rfl⟩:=h
 exact ⟨l,Df (k:=6) (x:=0) (by kernel_rfl) q,rfl⟩
theorem DE {β:Env} {k:IntKind} {i j:Int} {v:Value} (e:i=j) (h:Be β false [.n k i] v):Be β false [.v (.int k j)] v:=MQ e h
theorem ZK {off n m:Nat} {xs:List Int} (hl:off+n≤xs.length) (hn:AH .i64 n=true) :
  Ah Tryz.prog 142 [AJ 0 off n m] (Ak xs) 1 [] (Kz n (AS (AA xs off n))) []:=by
 have hmod:∀ N:Nat,decide (N % pN=N)=decide (N<pN):=fun N=>by
  by_cases h:N<pN
  ·rw [decide_eq_true h,decide_eq_true (Nat.mod_eq_of_lt h)]
  ·rw [decide_eq_false h,decide_eq_false fun e=>h (by rw [← e];exact E_ N)]
 by_cases h:n=48
 ·subst h
  by_cases hN:AS (AA xs off 48)<pN
  ·refine Bf (Av (path:=[false,false]) Tryz.func142 (by kernel_rfl) (by kernel_rfl) fun β0 w0 hb =>
    Aq (AK Qq AY) AE Tryz.func142 (AEx off m xs) ⟨rfl,rfl,Nat.ble_eq_true_of_le hl,rfl,rfl,by rw [hmod,decide_eq_true hN];rfl,trivial⟩ (AL (by kernel_rfl)) hb (fun _ h=>by cases h)) fun β u hu=>?_
   unfold Kz Dx IA
   rw [if_pos ⟨rfl,hN⟩,if_pos rfl,if_pos hN]
   exact Ck (fun _ q=>q) (fun _ q=>DE rfl q) hu
  ·refine Bf (Av (path:=[false,true]) Tryz.func142 (by kernel_rfl) (by kernel_rfl) fun β0 w0 hb =>
    Aq (AK Qq AY) AE Tryz.func142 (AEw off m xs) ⟨rfl,rfl,Nat.ble_eq_true_of_le hl,rfl,rfl,by rw [hmod,decide_eq_false hN];rfl,trivial⟩ (AL (by kernel_rfl)) hb (fun _ h=>by cases h)) fun β u hu=>?_
   unfold Kz Dx IA
   rw [if_neg (fun q=>hN q.2),if_pos rfl,if_neg hN]
   exact Ck (fun _ q=>n8 q) (fun _ q=>DE rfl q) hu
 ·refine Bf (Av (path:=[true]) Tryz.func142 (by kernel_rfl) (by kernel_rfl) fun β0 w0 hb =>
   Aq (AK Qq AY) AE Tryz.func142 (AEv off n m xs) ⟨hn,by simp;omega,trivial⟩ (AL (by kernel_rfl)) hb (fun _ h=>by cases h)) fun β u hu=>?_
  unfold Kz Dx IA
  rw [if_neg (fun q=>h q.1),if_neg h]
  exact Ck (fun _ q=>n8 q) (fun _ q=>DE rfl q) hu
def Qs (g:Nat→List Int→AV):ASpec:=fun args H fr path =>
 match args with
 | [.val false [.sl k off n _]]=>match AG H k with
  | some ⟨_,cs,_⟩=>match As .u8 cs with
   | some xs=>some (A8 [k] 1 fr 0 [] (g n (AA xs off n)) [] [(Nat.ble (off+n) xs.length,true),(AH .i64 n,true)] path)
   | none=>none
  | _=>none
 | _=>none
theorem n9 {f:FuncId} {fn:Func} {g:Nat→List Int→AV} (hfn:Tryz.prog.funcs[f]? = some fn) (hb:fn.body.isSome=true) (hname:(fn.name=="runtime.NumGoroutine")=false) (hk:∀ n l,C6 1 0 [] (g n l) []=true)
  (h:∀ (off n m:Nat) (xs:List Int),(∀ d∈xs,0≤d∧d<256)→off+n≤xs.length→AH .i64 n=true→Ah Tryz.prog f [AJ 0 off n m] (Ak xs) 1 [] (g n (AA xs off n)) []):A7 Tryz.prog f (Qs g):=by
 refine E7 hfn hb hname fun args H fr path r hs=>?_
 unfold Qs at hs
 split at hs
 case h_2=>cases hs
 rename_i k off n c
 split at hs
 case h_2=>cases hs
 rename_i ty cs o hk'
 split at hs
 case h_2=>cases hs
 rename_i xs hxs
 injection hs with hs
 refine ⟨[k],[AJ 0 off n c],Ak xs,1,0,[],_,_,_,path,hs.symm,fun β us w ha hg hc=>?_⟩
 obtain ⟨u1,us1,r1,ha,rfl⟩:=ha
 obtain ⟨g1,g2,g3⟩:=C0 hg hk' hxs
 exact ⟨h off n c xs g1 (Nat.le_of_ble_eq_true hc.1) hc.2.1,hk _ _,⟨u1,_,r1,ha,rfl⟩,g2,g3⟩
noncomputable def S28:List (FuncId×ASpec):=(139,Ar (Ec fun x=>Qr (x % pN)))::(142,Qs fun n l=>Kz n (AS l))::S27
theorem AEy:AU Tryz.prog S28:=⟨Au Tryz.func139 (by kernel_rfl) (by kernel_rfl) (FU fun x _=>AEu x),n9 Tryz.func142 (by kernel_rfl) (by kernel_rfl) (fun _ _=>rfl) (fun _ _ _ _ _ hl hn=>ZK hl hn),Qq⟩
theorem OA:∀ (a b:List Int),BJ (a++b)=BJ a+((2^(64*a.length):Nat):Int)*BJ b
 | [],b=>by simp [BJ]
 | d::a,b=>by
  simp only [List.cons_append,BJ,List.length_cons]
  rw [OA a b,show 64*(a.length+1)=64+64*a.length by omega,Nat.pow_add,Int.natCast_mul,Int.mul_add,Int.mul_assoc,← Int.add_assoc]
  rfl
theorem Qt (x k:Nat):((x % 2^(64*(k+1)):Nat):Int)=((x % 2^(64*k):Nat):Int)+((2^(64*k):Nat):Int)*AB x k:=by
 rw [show 64*(k+1)=64*k+64 by omega,Nat.pow_add,Nat.mod_mul,Int.natCast_add,Int.natCast_mul];rfl
theorem ZL (k:Nat):((2^(64*(k+1)):Nat):Int)=((2^(64*k):Nat):Int)*18446744073709551616:=by
 rw [show 64*(k+1)=64*k+64 by omega,Nat.pow_add,Int.natCast_mul];rfl
theorem oA (x y:Nat):∀ k,BJ ((List.range k).map (BI x y))=((x % 2^(64*k):Nat):Int)-((y % 2^(64*k):Nat):Int)+((2^(64*k):Nat):Int)*A5 x y k
 | 0=>by simp [BJ,A5,Nat.mod_one]
 | k+1=>by
  rw [List.range_succ,List.map_append,OA,oA x y k,Qt,Qt,ZL]
  simp only [List.map_cons,List.map_nil,BJ,List.length_map,List.length_range,Int.mul_zero,Int.add_zero]
  rw [HM x y k]
  generalize ((2^(64*k):Nat):Int)=Q
  simp only [Int.mul_add,Int.mul_sub,Int.mul_assoc]
  omega
theorem oB {x y k:Nat} (hx:x<2^(64*k)) (hy:y<2^(64*k)):(((x+(2^(64*k)-y)) % 2^(64*k):Nat):Int)=BJ ((List.range k).map (BI x y)):=by
 have h:=oA x y k
 rw [Nat.mod_eq_of_lt hx,Nat.mod_eq_of_lt hy] at h
 have hb:=De x y k
 have hs:∀ (ds:List Int),(∀ d∈ds,0≤d∧d<18446744073709551616)→0≤BJ ds∧BJ ds<((2^(64*ds.length):Nat):Int):=by
  intro ds
  induction ds with
  | nil=>intro _;simp [BJ]
  | cons d r ih =>
   intro hd
   have h1:=hd d (by simp)
   have h2:=ih fun d h=>hd d (by simp [h])
   rw [List.length_cons,ZL]
   simp only [BJ]
   omega
 have hr:=hs ((List.range k).map (BI x y)) (by intro d hd;obtain ⟨i,_,rfl⟩:=List.mem_map.1 hd;exact C8 x y i)
 rw [List.length_map,List.length_range,h] at hr
 rw [h]
 generalize 2^(64*k)=Q at *
 have h01:A5 x y k=0∨A5 x y k=1:=by omega
 rcases h01 with e | e
 ·rw [e,Int.mul_zero,Int.add_zero] at hr ⊢
  have e1:x+(Q-y)=(x-y)+Q:=by omega
  rw [e1,Nat.add_mod_right,Nat.mod_eq_of_lt (by omega)];omega
 ·rw [e,Int.mul_one] at hr ⊢
  rw [Nat.mod_eq_of_lt (by omega)];omega
theorem oC {x y k R:Nat} (hR:R=2^(64*k)) (hx:x<R) (hy:y<R):(((x+(R-y)) % R:Nat):Int)=BJ ((List.range k).map (BI x y)):=by subst hR;exact oB hx hy
theorem oD {f:FuncId} {args:List AV} {ds:List Int} {y:Nat} (h:AX Tryz.prog f args (.val true (H4 ds))) (e:(y:Int)=BJ ds):AX Tryz.prog f args (.val true [.num ds.length y]):=by
 refine C_ h fun u hu=>?_
 obtain ⟨l,q,rfl⟩:=hu
 exact ⟨l,Tt e q,rfl⟩
theorem AEz:Ac Tryz.prog (AI S0 K0) Tryz.f243 [] [] 100=some ([],.val true Pw):=by kernel_rfl
theorem AE0:AX Tryz.prog 243 [] (.val true Pw):=Ag (AK F8 AY) AE Tryz.func243 AEz trivial rfl
def ZM (x y:Nat):Nat→List (Bool×Bool)
 | 0=>[]
 | k+1=>ZM x y k++[(BU (A5 x y k),true)]
theorem oE (x y:Nat):∀ k,AQ (ZM x y k)
 | 0=>trivial
 | k+1=>by
  have app:∀ (a b:List (Bool×Bool)),AQ a→AQ b→AQ (a++b):=by
   intro a
   induction a with
   | nil=>intro b _ h;exact h
   | cons c a ih=>intro b h1 h2;exact ⟨h1.1,ih b h1.2 h2⟩
  exact app _ _ (oE x y k) ⟨CQ (De _ _ _),trivial⟩
theorem AE1 (x y:Nat):Ac Tryz.prog (AI S1 K0) Tryz.f270 [AW x,AW y] [] 300=some (ZM x y 6,.val true (H4 ((List.range 6).map (BI x y)))):=by kernel_rfl
theorem AE2 {x y:Nat} (hx:x<RR) (hy:y<RR):AX Tryz.prog 270 [AW x,AW y] (AW ((x+(RR-y)) % RR)):=by
 have h:=Ag (AK Tl AY) AE Tryz.func270 (AE1 x y) (oE x y 6) rfl
 exact oD h (oC (k:=6) CL hx hy)
def pW (i:Nat):Int:=PL.getD i 0
def DU (q:Int):Nat→Int
 | 0=>0
 | i+1=>mW (GS (pW i) q+Bt (DR (pW i) q) (DU q i) 0)
def DV (q:Int) (i:Nat):Int:=match Nat.blt i 6 with | true=>Ba (DR (pW i) q) (DU q i) 0 | false=>Ba 0 (DU q 6) 0
def Qu (t:Nat) (q:Int):Nat→Int
 | 0=>0
 | i+1=>FR (AB t i) (DV q i) (Qu t q i)
def ZN (t:Nat) (q:Int) (i:Nat):Int:=Cp (AB t i) (DV q i) (Qu t q i)
def ZO (t:Nat) (q:Int):Nat→List (Bool×Bool)
 | 0=>[]
 | k+1=>ZO t q k++[(true,true),(BU (Qu t q k),true)]
noncomputable def SP:List (FuncId×ASpec):=(243,Ar Tk)::S28
theorem UL:AU Tryz.prog SP:=⟨Au Tryz.func243 (by kernel_rfl) (by kernel_rfl) (fun args v h=>by
 unfold Tk at h
 split at h
 ·injection h with h;subst h;exact AE0
 ·cases h),AEy⟩
theorem AE3 (t:Nat) (q:Int):Ac Tryz.prog (AI SP K0) Tryz.f297 [.val true [.num 7 t],.val false [.v (.int .u64 q)]] [] 600=some (ZO t q 7,.val true (H4 ((List.range 7).map (ZN t q)))):=by kernel_rfl
theorem I' {a q c:Int} (ha:0≤a∧a<18446744073709551616) (hq:0≤q∧q<18446744073709551616) (hc:0≤c∧c<18446744073709551616) :
  a*q+c=Ba (DR a q) c 0+18446744073709551616*mW (GS a q+Bt (DR a q) c 0)∧(0≤Ba (DR a q) c 0∧Ba (DR a q) c 0<18446744073709551616)∧(0≤mW (GS a q+Bt (DR a q) c 0)∧mW (GS a q+Bt (DR a q) c 0)<18446744073709551616):=by
 have h:=YZ ha hq
 simp only [Dq]
 unfold Ba Bt DR GS
 generalize a*q=z at *
 omega
theorem K3 (i:Nat):0≤pW i∧pW i<18446744073709551616:=I3 (ws:=PL) (by decide) i
theorem JA {q:Int} (hq:0≤q∧q<18446744073709551616):∀ i,0≤DU q i∧DU q i<18446744073709551616
 | 0=>by simp [DU]
 | i+1=>(I' (K3 i) hq (JA hq i)).2.2
theorem oF {q:Nat} (hq:q<18446744073709551616):((pN*q:Nat):Int)=BJ ((List.range 7).map (DV q))∧∀ i,i<7→DV (q:Int) i=AB (pN*q) i:=by
 have hq':0≤(q:Int)∧(q:Int)<18446744073709551616:=by omega
 have key:((pN*q:Nat):Int)=BJ ((List.range 7).map (DV q)):=by
  have e0:pW 0*q+DU q 0=DV q 0+18446744073709551616*DU q 1:=(I' (K3 0) hq' (JA hq' 0)).1
  have e1:pW 1*q+DU q 1=DV q 1+18446744073709551616*DU q 2:=(I' (K3 1) hq' (JA hq' 1)).1
  have e2:pW 2*q+DU q 2=DV q 2+18446744073709551616*DU q 3:=(I' (K3 2) hq' (JA hq' 2)).1
  have e3:pW 3*q+DU q 3=DV q 3+18446744073709551616*DU q 4:=(I' (K3 3) hq' (JA hq' 3)).1
  have e4:pW 4*q+DU q 4=DV q 4+18446744073709551616*DU q 5:=(I' (K3 4) hq' (JA hq' 4)).1
  have e5:pW 5*q+DU q 5=DV q 5+18446744073709551616*DU q 6:=(I' (K3 5) hq' (JA hq' 5)).1
  have z:DU q 0=0:=rfl
  have c6:=JA hq' 6
  have e6:DV q 6=DU q 6:=by show Ba 0 (DU q 6) 0=_;unfold Ba;omega
  have w0:pW 0=0xb9feffffffffaaab:=rfl
  have w1:pW 1=0x1eabfffeb153ffff:=rfl
  have w2:pW 2=0x6730d2a0f6b0f624:=rfl
  have w3:pW 3=0x64774b84f38512bf:=rfl
  have w4:pW 4=0x4b1ba7b6434bacd7:=rfl
  have w5:pW 5=0x1a0111ea397fe69a:=rfl
  rw [w0] at e0
  rw [w1] at e1
  rw [w2] at e2
  rw [w3] at e3
  rw [w4] at e4
  rw [w5] at e5
  show _=DV q 0+18446744073709551616*(DV q 1+18446744073709551616*(DV q 2+18446744073709551616*(DV q 3+18446744073709551616*(DV q 4+18446744073709551616*(DV q 5+18446744073709551616*(DV q 6+18446744073709551616*0))))))
  rw [Int.natCast_mul]
  unfold pN
  omega
 refine ⟨key,fun i hi=>?_⟩
 have hb:∀ d∈(List.range 7).map (DV (q:Int)),0≤d∧d<18446744073709551616:=by
  intro d hd
  obtain ⟨j,_,rfl⟩:=List.mem_map.1 hd
  unfold DV
  split
  ·exact (I' (K3 j) hq' (JA hq' j)).2.1
  ·unfold Ba;omega
 obtain ⟨h1,_⟩:=QF _ _ hb key
 have h2:=congrArg (fun l=>l.getD i 0) h1
 simp only [List.length_map,List.length_range] at h2
 simpa [List.getD_eq_getElem?_getD,hi] using h2
theorem ZP {t q:Nat} (hq:q<18446744073709551616):∀ i,i≤7→Qu t q i=A5 t (pN*q) i
 | 0,_=>rfl
 | i+1,h=>by simp only [Qu,A5];rw [ZP hq i (by omega),(oF hq).2 i (by omega)]
theorem AE4 {t q R:Nat} (hR:R=2^(64*7)) (hp:pN*18446744073709551616<R) (ht:t<R) (hq:q<18446744073709551616):AX Tryz.prog 297 [.val true [.num 7 t],.val false [.v (.int .u64 q)]] (.val true [.num 7 ((t+(R-pN*q)) % R)]):=by
 have hc:∀ k,k≤7→AQ (ZO t q k):=by
  intro k
  induction k with
  | zero=>intro _;trivial
  | succ k ih =>
   intro hk
   have app:∀ (a b:List (Bool×Bool)),AQ a→AQ b→AQ (a++b):=by
    intro a
    induction a with
    | nil=>intro b _ h;exact h
    | cons c a ih=>intro b h1 h2;exact ⟨h1.1,ih b h1.2 h2⟩
   exact app _ _ (ih (by omega)) ⟨rfl,by rw [ZP hq k (by omega)];exact CQ (De _ _ _),trivial⟩
 have h:=Ag (AK UL AY) AE Tryz.func297 (AE3 t q) (hc 7 (Nat.le_refl _)) rfl
 have e:(List.range 7).map (ZN t q)=(List.range 7).map (BI t (pN*q)):=by
  refine List.map_congr_left fun i hi=>?_
  have hi':i<7:=List.mem_range.1 hi
  unfold ZN BI
  rw [ZP hq i (by omega),(oF hq).2 i hi']
 rw [e] at h
 have hpq:pN*q<R:=Nat.lt_of_le_of_lt (Nat.mul_le_mul_left _ (by omega)) hp
 exact oD h (oC (k:=7) hR ht hpq)
def R7:Nat:=726838724295606890549323807888004534353641360687318060281490199180639288113397923326191050713763565560762521606266177933534601628614656
theorem oG:R7=2^(64*7):=by kernel_rfl
theorem lt7:Nat.blt (pN*18446744073709551616) R7=true:=by kernel_rfl
theorem AE6 {t q:Nat} (ht:t<R7) (hq:q<18446744073709551616):AX Tryz.prog 297 [.val true [.num 7 t],.val false [.v (.int .u64 q)]] (.val true [.num 7 ((t+(R7-pN*q)) % R7)]) :=
 AE4 oG (Ay.1 lt7) ht hq
def UM (x:Nat):Nat→List (Bool×Bool)
 | 0=>[]
 | k+1=>UM x k++[(!decide (AB x (5-k)=pW (5-k)),false)]
def ZQ:Nat→List Bool
 | 0=>[]
 | k+1=>false::ZQ k
theorem AE7 (x k:Nat) (h:k<6):Ac Tryz.prog (AI SP K0) Tryz.f296 [AW x] (ZQ k++[true]) 300 =
  some (UM x k++[(!decide (AB x (5-k)=pW (5-k)),true)],BV (decide (AB x (5-k)<pW (5-k)))):=by
 obtain rfl | rfl | rfl | rfl | rfl | rfl:k=0∨k=1∨k=2∨k=3∨k=4∨k=5:=by omega
 all_goals kernel_rfl
theorem AE8 (x:Nat):Ac Tryz.prog (AI SP K0) Tryz.f296 [AW x] (ZQ 6) 300=some (UM x 6,.val false [.b false]):=by kernel_rfl
theorem UN {a b:List (Bool×Bool)} (h1:AQ a) (h2:AQ b):AQ (a++b):=by
 induction a with
 | nil=>exact h2
 | cons c a ih=>exact ⟨h1.1,ih h1.2⟩
theorem oH {x k:Nat} (h:∀ j,j<k→AB x (5-j)=pW (5-j)):AQ (UM x k):=by
 induction k with
 | zero=>trivial
 | succ k ih=>exact UN (ih fun j hj=>h j (by omega)) ⟨by simp [h k (by omega)],trivial⟩
theorem oI (i:Nat) (h:i<6):pW i=AB pN i:=by
 obtain rfl | rfl | rfl | rfl | rfl | rfl:i=0∨i=1∨i=2∨i=3∨i=4∨i=5:=by omega
 all_goals kernel_rfl
theorem ZR {x y:Nat} (hx:x<RR) (hy:y<RR):∀ k,k≤6→(∀ j,j<k→AB x (5-j)=AB y (5-j))→x / 2^(64*(6-k))=y / 2^(64*(6-k))
 | 0,_,_=>by
  rw [CL] at hx hy
  have gen:∀ K z:Nat,z<2^(64*K)→z / 2^(64*(K-0))=0:=fun K z hz=>by rw [Nat.sub_zero];exact Nat.div_eq_of_lt hz
  exact (gen 6 x hx).trans (gen 6 y hy).symm
 | k+1,hk,h=>by
  have ih:=ZR hx hy k (by omega) fun j hj=>h j (by omega)
  have hw:=h k (by omega)
  have e:∀ z:Nat,z / 2^(64*(6-(k+1)))=z / 2^(64*(6-k))*2^64+z / 2^(64*(5-k)) % 2^64:=by
   intro z
   rw [show 64*(6-k)=64*(5-k)+64 by omega,Nat.pow_add,← Nat.div_div_eq_div_mul,show 6-(k+1)=5-k by omega]
   have:=Nat.div_add_mod (z / 2^(64*(5-k))) (2^64)
   rw [Nat.mul_comm] at this
   exact this.symm
  unfold AB at hw
  rw [e x,e y,ih]
  omega
theorem AE9 {x y k:Nat} (hx:x<RR) (hy:y<RR) (hk:k<6) (h:∀ j,j<k→AB x (5-j)=AB y (5-j)) (hne:AB x (5-k)≠AB y (5-k)):decide (AB x (5-k)<AB y (5-k))=decide (x<y):=by
 have ht:=ZR hx hy k (by omega) h
 have es:∀ z:Nat,z / 2^(64*(5-k))=z / 2^(64*(6-k))*2^64+z / 2^(64*(5-k)) % 2^64:=by
  intro z
  rw [show 64*(6-k)=64*(5-k)+64 by omega,Nat.pow_add,← Nat.div_div_eq_div_mul]
  have:=Nat.div_add_mod (z / 2^(64*(5-k))) (2^64)
  rw [Nat.mul_comm] at this
  exact this.symm
 have e1:=es x
 have e2:=es y
 rw [ht] at e1
 unfold AB at hne ⊢
 by_cases hl:((x / 2^(64*(5-k)) % 2^64:Nat):Int)<((y / 2^(64*(5-k)) % 2^64:Nat):Int)
 ·rw [decide_eq_true hl,decide_eq_true (N2 (Q:=2^(64*(5-k))) (by omega))]
 ·have:y<x:=N2 (Q:=2^(64*(5-k))) (by omega)
  rw [decide_eq_false hl,decide_eq_false (by omega)]
theorem AE_ {x y:Nat} (hx:x<RR) (hy:y<RR) (h:∀ j,j<6→AB x (5-j)=AB y (5-j)):x=y:=by
 have ht:=ZR hx hy 6 (Nat.le_refl _) h
 rwa [Nat.sub_self,Nat.mul_zero,Nat.pow_zero,Nat.div_one,Nat.div_one] at ht
theorem OB:pN<RR:=by decide
theorem AE' {P:Program} {f:FuncId} {args:List AV} {a b:Bool} (h:AX P f args (BV a)) (e:a=b):AX P f args (BV b):=by rw [← e];exact h
theorem AFA {x k:Nat} (hx:x<RR) (hk:k<6) (h:∀ j,j<k→AB x (5-j)=pW (5-j)) (hne:AB x (5-k)≠pW (5-k)):AX Tryz.prog 296 [AW x] (BV (decide (x<pN))):=by
 have hrun:=Ag (AK UL AY) AE Tryz.func296 (AE7 x k hk) (UN (oH h) ⟨by rw [decide_eq_false hne];rfl,trivial⟩) rfl
 refine AE' hrun ?_
 have e:∀ j,j<6→pW (5-j)=AB pN (5-j):=fun j _=>oI _ (by omega)
 rw [e k hk] at hne ⊢
 exact AE9 hx OB hk (fun j hj=>(h j hj).trans (e j (by omega))) hne
theorem AFB {x:Nat} (hx:x<RR) (h:∀ j,j<6→AB x (5-j)=pW (5-j)):AX Tryz.prog 296 [AW x] (BV (decide (x<pN))):=by
 have e:∀ j,j<6→pW (5-j)=AB pN (5-j):=fun j _=>oI _ (by omega)
 have hq:decide (x<pN)=false:=by
  have:=AE_ hx OB fun j hj=>(h j hj).trans (e j hj)
  exact decide_eq_false (by rw [this];exact Nat.lt_irrefl _)
 rw [hq]
 refine C_ (Ag (AK UL AY) AE Tryz.func296 (AE8 x) (oH h) rfl) fun u hu=>?_
 obtain ⟨l1,l2,h1,h3,h4⟩:=hu
 exact ⟨l1,l2,⟨h1,rfl,trivial⟩,h3,h4⟩
theorem AFC {x:Nat} (hx:x<RR):AX Tryz.prog 296 [AW x] (BV (decide (x<pN))):=by
 have key:∀ r k,k+r=6→(∀ j,j<k→AB x (5-j)=pW (5-j))→AX Tryz.prog 296 [AW x] (BV (decide (x<pN))):=by
  intro r
  induction r with
  | zero =>
   intro k hk h
   exact AFB hx fun j hj=>h j (by omega)
  | succ r ih =>
   intro k hk h
   by_cases hw:AB x (5-k)=pW (5-k)
   ·exact ih (k+1) (by omega) fun j hj=>by
     rcases Nat.lt_or_ge j k with h1 | h1
     ·exact h j h1
     ·rw [show j=k by omega];exact hw
   ·exact AFA hx (by omega) h hw
 exact key 6 0 (by omega) fun j hj=>by omega
noncomputable def SQ:List (FuncId×ASpec):=(270,Ar (HN fun x y=>AW ((x+(RR-y)) % RR)))::(296,Ar (Ec fun x=>BV (decide (x<pN))))::SP
theorem UO:AU Tryz.prog SQ:=⟨Au Tryz.func270 (by kernel_rfl) (by kernel_rfl) (Iy fun _ _ hx hy=>AE2 hx hy),Au Tryz.func296 (by kernel_rfl) (by kernel_rfl) (FU fun _ hx=>AFC hx),UL⟩
noncomputable def AFD:List Item:=Bh (AR Tryz.prog (AI SQ K0) (some 0) 100 0 none (Af Tryz.f242 [AW 0] [] 0 []))
noncomputable def Qv (x:Nat) (p:List Bool):ASt:=⟨AFD,⟨Cs Tryz.f242.ntmps [(1,.val false [.p 0 0]),(2,.val false [.p 1 0])],[(0,some ⟨30,[.num 6 x],false⟩),(1,some ⟨30,HL,false⟩)],2,p⟩⟩
abbrev oJ:Option (List Nat×List Nat×Nat):=some ([1,2],[0,1],2)
theorem AFE (x:Nat):AR Tryz.prog (AI SQ K0) (some 0) 100 0 oJ (Af Tryz.f242 [AW x] [] 0 [])=some ([],[],Qv x []):=by kernel_rfl
theorem AFF (x:Nat):AR Tryz.prog (AI SQ K0) (some 0) 100 0 oJ (Qv x [true])=some ([(!decide (x<pN),true)],[],Qv ((x+(RR-pN)) % RR) []):=by kernel_rfl
theorem AFG (x:Nat):DQ Tryz.prog (AI SQ K0) Tryz.f242 100 0 (Qv x [false])=some ([(!decide (x<pN),false)],[],AW x):=by kernel_rfl
theorem AFH (w0:World) (v:Nat):∀ (x:Nat),x<RR→x % pN=v→ASafe Tryz.prog 242 BZ w0 (E6 w0 (AW v)) Tryz.f242.ntmps [] (Qv x []):=by
 intro x
 induction x using Nat.strongRecOn with
 | _ x ih =>
  intro hx hv
  rcases Nat.lt_or_ge x pN with hlt | hge
  ·rw [Nat.mod_eq_of_lt hlt] at hv
   subst hv
   exact AZ [false] (FS (AK UO AY) AE Tryz.func242 (AFG x) ⟨by simp [hlt],trivial⟩ (AL (by kernel_rfl)) (fun _ _=>rfl) rfl)
  ·have hp:=CM
   have hpR:pN≤RR:=by decide
   refine AZ [true] (Ab (AK UO AY) AE (AFF x) ⟨by simp;omega,trivial⟩ (AL (by kernel_rfl)) (fun _ _=>rfl) (fun _ h=>by cases h) fun _=>?_)
   have e:(x+(RR-pN)) % RR=x-pN:=by rw [show x+(RR-pN)=(x-pN)+RR by omega,Nat.add_mod_right,Nat.mod_eq_of_lt (by omega)]
   rw [e]
   exact ih (x-pN) (by omega) (by omega) (by rw [← hv,← Nat.mod_eq_sub_mod hge])
theorem oK {x:Nat} (hx:x<RR):AX Tryz.prog 242 [AW x] (AW (x % pN)) :=
 Ir (path:=[]) Tryz.func242 (by kernel_rfl) (by kernel_rfl) fun w0=>Ab (AK UO AY) AE (AFE x) trivial (AL (by kernel_rfl)) (fun _ _=>rfl) (fun _ h=>by cases h) fun _=>AFH w0 _ x hx rfl
def Qw (t q:Nat):Nat:=(t+(R7-pN*q)) % R7
def ZS:List AV→Option AV
 | [.val true a,B]=>match Br 7 a,BH (some B) with
  | some x,some (_,.u64,h)=>some (.val true [.num 7 (Qw x h.toNat)])
  | _,_=>none
 | _=>none
theorem AFI:∀ args v,ZS args=some v→AX Tryz.prog 297 args v:=by
 intro args v h us w ha
 unfold ZS at h
 split at h
 case h_2=>cases h
 rename_i a B
 split at h
 case h_2=>cases h
 rename_i x c h0 hx hy
 injection h with h;subst h
 obtain ⟨u1,us1,r1,⟨u2,us2,r2,ha,rfl⟩,rfl⟩:=ha
 obtain ⟨q0,q1,hlt⟩:=Iv hx r1
 obtain ⟨q2,h2⟩:=Nw hy r2
 have bh:=Cx h2
 obtain ⟨q,rfl⟩:=Int.eq_ofNat_of_zero_le bh.1
 have hq:q<18446744073709551616:=by
  clear hlt
  omega
 exact AE6 (oG▸hlt) hq _ w ⟨u1,_,q0,⟨u2,_,q2,ha,rfl⟩,rfl⟩
noncomputable def SR:List (FuncId×ASpec):=(242,Ar (Ec fun x=>AW (x % pN)))::(297,Ar ZS)::SQ
theorem UP:AU Tryz.prog SR:=⟨Au Tryz.func242 (by kernel_rfl) (by kernel_rfl) (FU fun _ hx=>oK hx),Au Tryz.func297 (by kernel_rfl) (by kernel_rfl) AFI,UO⟩
abbrev oL:Option (List Nat×List Nat×Nat):=some ([4,6],[1,3],4)
noncomputable def AFJ:List Item:=Bh (AR Tryz.prog (AI SR K0) (some 0) 100 0 none (Af Tryz.f245 [AW 0,uV 0] [] 0 []))
noncomputable def Qy (T:Nat) (p:List Bool):ASt:=⟨AFJ,⟨Cs Tryz.f245.ntmps [(4,.val false [.p 1 0]),(6,.val false [.p 3 0])],[(1,some ⟨30,HL,false⟩),(3,some ⟨248,[.num 7 T],false⟩)],4,p⟩⟩
def UQ (a4 a5:Int):Nat:=Int.toNat (((a5.toNat*Bv+a4.toNat) / Int.toNat (mW (1873798617647539866+1)):Nat):Int)
theorem AFK (a4 a5:Int):UQ a4 a5=(a5.toNat*Bv+a4.toNat) / 1873798617647539867:=by
 unfold UQ
 rw [Int.toNat_natCast]
 rfl
theorem AFL (a0 a1 a2 a3 a4 a5 w:Int):AR Tryz.prog (AI SR K0) (some 0) 100 0 oL (Af Tryz.f245 [.val true (w6 a0 a1 a2 a3 a4 a5),uV w] [] 0 []) =
 some ([(decide (a5<1873798617647539867),true)],[],Qy (Qw (AF [w,a0,a1,a2,a3,a4,a5]) (UQ a4 a5)) []):=by kernel_rfl
theorem AFM (T:Nat):AR Tryz.prog (AI SR K0) (some 0) 100 0 oL (Qy T [true])=some ([(decide (0<AB T 6),true)],[],Qy (Qw T 1) []):=by kernel_rfl
theorem AFN (T:Nat):DQ Tryz.prog (AI SR K0) Tryz.f245 100 0 (Qy T [false])=some ([(decide (0<AB T 6),false)],[],AW (AF ((List.range 6).map (AB T)) % pN)):=by kernel_rfl
theorem oM {T q:Nat} (hT:T<R7) (h:pN*q≤T):Qw T q=T-pN*q:=by
 unfold Qw
 generalize R7=Q at *
 rw [show T+(Q-pN*q)=(T-pN*q)+Q by omega,Nat.add_mod_right,Nat.mod_eq_of_lt (by omega)]
theorem ZT {x k:Nat} (h:x<2^(64*k)):AF ((List.range k).map (AB x))=x:=nT h
theorem p7:R7=RR*18446744073709551616:=by kernel_rfl
theorem p5':RR=2^(64*5)*2^64:=by kernel_rfl
theorem AFP (w0:World) (v:Nat):∀ (T:Nat),T<R7→T % pN=v→ASafe Tryz.prog 245 BZ w0 (E6 w0 (AW v)) Tryz.f245.ntmps [] (Qy T []):=by
 intro T
 induction T using Nat.strongRecOn with
 | _ T ih =>
  intro hT hv
  have hw:AB T 6=((T / RR:Nat):Int):=by
   unfold AB
   rw [← CL,Nat.mod_eq_of_lt]
   refine Nat.div_lt_of_lt_mul ?_
   rw [p7] at hT;exact hT
  by_cases h:0<T / RR
  ·have hp:=CM
   have hpR:=OB
   have hR:0<RR:=by decide
   have hge:RR≤T:=by
    rcases Nat.lt_or_ge T RR with h1 | h1
    ·rw [Nat.div_eq_of_lt h1] at h;omega
    ·exact h1
   refine AZ [true] (Ab (AK UP AY) AE (AFM T) ⟨by rw [hw];simp only [decide_eq_true_eq];omega,trivial⟩ (AL (by kernel_rfl)) (fun _ _=>rfl) (fun _ h=>by cases h) fun _=>?_)
   rw [oM hT (by omega),Nat.mul_one]
   exact ih (T-pN) (by omega) (by omega) (by rw [← hv,← Nat.mod_eq_sub_mod (by omega)])
  ·have hlt:T<RR:=by
    rcases Nat.lt_or_ge T RR with h1 | h1
    ·exact h1
    ·exact absurd (Nat.div_pos h1 (by decide)) h
   have:=FS (w0:=w0) (β0:=BZ) (n:=Tryz.f245.ntmps) (AK UP AY) AE Tryz.func245 (AFN T) ⟨by rw [hw];simp only [decide_eq_false_iff_not];omega,trivial⟩ (AL (by kernel_rfl)) (fun _ _=>rfl) rfl
   rw [ZT (by rw [← CL];exact hlt),hv] at this
   exact AZ [false] this
theorem oN:Nat.blt pN (2^(64*5)*1873798617647539867)=true:=by kernel_rfl
theorem oO (k j:Nat) (h:j=k+1):2^(64*j)=2^(64*k)*18446744073709551616:=by
 subst h
 rw [show 64*(k+1)=64*k+64 by omega,Nat.pow_add]
theorem AFQ (x k j:Nat) (h:j=k+1):x / 2^(64*j)*Bv+(AB x k).toNat=x / 2^(64*k):=by
 rw [oO k j h,← Nat.div_div_eq_div_mul]
 have:=Nat.div_add_mod (x / 2^(64*k)) 18446744073709551616
 unfold AB Bv
 rw [Int.toNat_natCast]
 omega
theorem AFR (P:Nat) (h:Nat.blt pN (P*1873798617647539867)=true):pN≤1873798617647539867*P:=by rw [Nat.mul_comm];exact Nat.le_of_lt (Ay.1 h)
theorem AFS {p q A P Q x w:Nat} (hp:p≤1873798617647539867*P) (h1:q*1873798617647539867≤A) (h2:A*Q≤x) (e:P=Q*18446744073709551616):p*q≤w+18446744073709551616*x:=by
 calc p*q≤(1873798617647539867*P)*q:=Nat.mul_le_mul_right _ hp
  _=(q*1873798617647539867)*P:=by rw [Nat.mul_comm,Nat.mul_assoc]
  _≤A*P:=Nat.mul_le_mul_right _ h1
  _=(A*Q)*18446744073709551616:=by rw [e,Nat.mul_assoc]
  _≤x*18446744073709551616:=Nat.mul_le_mul_right _ h2
  _≤w+18446744073709551616*x:=by rw [Nat.mul_comm];exact Nat.le_add_left _ _
theorem AFT {x w:Nat} (hx:x<pN) (hw:w<18446744073709551616):AX Tryz.prog 245 [AW x,uV w] (AW ((w+18446744073709551616*x) % pN)):=by
 have hpR:=OB
 have h5:AB x 5=((x / 2^(64*5):Nat):Int):=by
  unfold AB
  rw [Nat.mod_eq_of_lt]
  have h:x<2^(64*5)*2^64:=by rw [← p5'];exact Nat.lt_trans hx OB
  exact Nat.div_lt_of_lt_mul h
 have hlt5:x / 2^(64*5)<1873798617647539867:=by
  refine Nat.div_lt_of_lt_mul (Nat.lt_trans hx ?_)
  exact Ay.1 oN
 have h4:(AB x 5).toNat*Bv+(AB x 4).toNat=x / 2^(64*4):=by
  rw [h5,Int.toNat_natCast]
  exact AFQ x 4 5 rfl
 have hT:AF [(w:Int),AB x 0,AB x 1,AB x 2,AB x 3,AB x 4,AB x 5]=w+18446744073709551616*x:=by
  have:=ZT (x:=x) (k:=6) (by rw [← CL];omega)
  show (w:Int).toNat+18446744073709551616*AF [AB x 0,AB x 1,AB x 2,AB x 3,AB x 4,AB x 5]=_
  rw [Int.toNat_natCast]
  exact congrArg (fun z=>w+18446744073709551616*z) this
 have hT7:w+18446744073709551616*x<R7:=by rw [p7];omega
 have hq:pN*UQ (AB x 4) (AB x 5)≤w+18446744073709551616*x:=by
  refine AFS (AFR (2^(64*5)) oN) ?_ (Nat.div_mul_le_self x (2^(64*4))) (oO 4 5 rfl)
  rw [AFK,h4];exact Nat.div_mul_le_self _ _
 intro us w1 ⟨u1,us1,r1,r2,r3⟩
 refine Ir (args:=[.val true (w6 (AB x 0) (AB x 1) (AB x 2) (AB x 3) (AB x 4) (AB x 5)),uV w]) (path:=[]) Tryz.func245 (by kernel_rfl) (by kernel_rfl) (fun w0=>?_) us w1 ⟨u1,us1,?_,r2,r3⟩
 case refine_2 =>
  have:=(Iv (k:=6) (a:=[.num 6 x]) ABm r1).2.1
  rwa [YS] at this
 refine Ab (AK UP AY) AE (AFL (AB x 0) (AB x 1) (AB x 2) (AB x 3) (AB x 4) (AB x 5) w) ⟨by rw [h5];simp only [decide_eq_true_eq];omega,trivial⟩ (AL (by kernel_rfl)) (fun _ _=>rfl) (fun _ h=>by cases h) fun _=>?_
 rw [hT,oM hT7 hq]
 refine AFP w0 _ _ (by omega) ?_
 exact Nat.sub_mul_mod hq
def ZU:List AV→Option (List (Bool×Bool)×AV)
 | [.val true a,B]=>match Br 6 a,BH (some B) with
  | some x,some (_,.u64,w)=>some ([(decide (x<pN),true)],AW ((w.toNat+18446744073709551616*x) % pN))
  | _,_=>none
 | _=>none
theorem AFU:∀ args c v,ZU args=some (c,v)→AQ c→AX Tryz.prog 245 args v:=by
 intro args cs v h hc us w ha
 unfold ZU at h
 split at h
 case h_2=>cases h
 rename_i a B
 split at h
 case h_2=>cases h
 rename_i x c h0 hx hy
 injection h with h;injection h with h1 h2;subst h1;subst h2
 obtain ⟨u1,us1,r1,⟨u2,us2,r2,ha,rfl⟩,rfl⟩:=ha
 obtain ⟨q0,q1,hlt⟩:=Iv hx r1
 obtain ⟨q2,h2⟩:=Nw hy r2
 have bh:=Cx h2
 obtain ⟨q,rfl⟩:=Int.eq_ofNat_of_zero_le bh.1
 exact AFT (of_decide_eq_true hc.1) (by omega) _ w ⟨u1,_,q0,⟨u2,_,q2,ha,rfl⟩,rfl⟩
noncomputable def ST:List (FuncId×ASpec):=(245,DI ZU)::SR
theorem ZV:AU Tryz.prog ST:=⟨Di Tryz.func245 (by kernel_rfl) (by kernel_rfl) AFU,UP⟩
def ZW:Heap→Heap→Prop
 | [],[]=>True
 | (k,some b)::r,(k',some b')::r'=>k=k'∧b'.ty=b.ty∧b'.opn=b.opn∧(∀ β l,AM β b.cs l→AM β b'.cs l)∧ZW r r'
 | _,_=>False
theorem UR:∀ {H H':Heap} {j:Nat} {d:Blk},ZW H H'→AG H' j=some d→∃ b,AG H j=some b∧d.ty=b.ty∧d.opn=b.opn∧∀ β l,AM β b.cs l→AM β d.cs l
 | [],[],_,_,_,h=>by cases h
 | (k,some b)::r,(k',some b')::r',j,d,⟨e,h1,h2,h3,h4⟩,h=>by
  subst e
  simp only [AG] at h ⊢
  split at h
  ·rename_i hk;injection h with h;subst h;exact ⟨b,rfl,h1,h2,h3⟩
  ·rename_i hk;exact UR h4 h
 | [],_::_,_,_,h,_=>by cases h
 | (_,none)::_,_,_,_,h,_=>by cases h
 | (_,some _)::_,[],_,_,h,_=>by cases h
 | (_,some _)::_,(_,none)::_,_,_,h,_=>by cases h
theorem ZX {P:Program} {f:FuncId} {β0:Env} {w0:World} {R:Ending→World→Prop} {n:Nat} {W:List Nat} {todo:List Item} {T:List AV} {H H':Heap} {fr:Nat} {p:List Bool} (hi:ZW H H') (h:ASafe P f β0 w0 R n W ⟨todo,⟨T,H',fr,p⟩⟩):ASafe P f β0 w0 R n W ⟨todo,⟨T,H,fr,p⟩⟩:=by
 intro β a w hv hf
 refine h β a w { hv with good:=⟨fun b blk hb=>?_,fun b b' B n n' h1 h2 h3 h4=>?_,hv.good.lt⟩ } hf
 ·obtain ⟨x,hx,h1,h2,h3⟩:=UR hi hb
  exact QG (hv.good.heap b x hx) rfl (.inr ⟨h1,h2⟩) (h3 β)
 ·refine hv.good.inj b b' B n n' ?_ ?_ h3 h4
  ·obtain ⟨d,hd,hr⟩:=E0 h1
   obtain ⟨x,hx,q1,_⟩:=UR hi hd
   exact EO hx (by rw [← q1];exact hr)
  ·obtain ⟨d,hd⟩:=Option.isSome_iff_exists.1 h2
   obtain ⟨x,hx,_⟩:=UR hi hd
   rw [hx];rfl
theorem AFV {ds:List Int} {y:Nat} (e:(y:Int)=BJ ds) (β:Env) (l:List Value) (h:AM β (H4 ds) l):AM β [.num ds.length y] l:=Tt e h
def ZY (x y:Nat):Nat→List (Bool×Bool)
 | 0=>[]
 | k+1=>ZY x y k++[(BU (BR x y k),true)]
theorem oP (x y:Nat):∀ k,AQ (ZY x y k)
 | 0=>trivial
 | k+1=>UN (oP x y k) ⟨CQ (D9 _ _ _),trivial⟩
theorem AFW (x y:Nat):Ac Tryz.prog (AI ST K0) Tryz.f204 [AW x,AW y] [] 500=some (ZY (x % pN) (y % pN) 6,AW (Ix (x % pN) (y % pN) % pN)):=by kernel_rfl
theorem oQ (x y:Nat):AX Tryz.prog 204 [AW x,AW y] (AW (Cq x y)):=by
 have h:=Ag (AK ZV AY) AE Tryz.func204 (AFW x y) (oP _ _ _) rfl
 obtain ⟨h1,h2⟩:=YX (GU x) (GU y)
 have h3:=E_ x
 have h4:=E_ y
 have h5:=ML
 have hc:(BR (x % pN) (y % pN) 6).toNat=0:=by
  have:=D9 (x % pN) (y % pN) 6
  have h01:(BR (x % pN) (y % pN) 6).toNat=0∨(BR (x % pN) (y % pN) 6).toNat=1:=by omega
  rcases h01 with e | e
  ·exact e
  ·rw [e] at h1;omega
 rw [hc] at h1
 have:Ix (x % pN) (y % pN)=x % pN+y % pN:=by omega
 rw [this] at h
 exact h
theorem AFX (x:Nat):Ac Tryz.prog (AI ST K0) Tryz.f205 [AW x] [] 500=some ([],AW (((AF PL+(RR-x % pN)) % RR) % pN)):=by kernel_rfl
theorem AFY:AF PL=pN:=by kernel_rfl
theorem oR (x:Nat):AX Tryz.prog 205 [AW x] (AW (Cr x)):=by
 have h:=Ag (AK ZV AY) AE Tryz.func205 (AFX x) trivial rfl
 have h3:=E_ x
 have h5:=ML
 have:(AF PL+(RR-x % pN)) % RR=pN-x % pN:=by
  rw [AFY,show pN+(RR-x % pN)=(pN-x % pN)+RR by omega,Nat.add_mod_right,Nat.mod_eq_of_lt (by omega)]
 rw [this] at h
 exact h
noncomputable def SU:List (FuncId×ASpec):=(204,Ar (HN fun x y=>AW (Cq x y)))::(205,Ar (Ec fun x=>AW (Cr x)))::ST
theorem Qz:AU Tryz.prog SU:=⟨Au Tryz.func204 (by kernel_rfl) (by kernel_rfl) (Iy fun x y _ _=>oQ x y),Au Tryz.func205 (by kernel_rfl) (by kernel_rfl) (FU fun x _=>oR x),ZV⟩
theorem AFZ (x y:Nat):Ac Tryz.prog (AI SU K0) Tryz.f207 [AW x,AW y] [] 300=some ([],AW (C9 x y)):=by kernel_rfl
theorem oS (x y:Nat):AX Tryz.prog 207 [AW x,AW y] (AW (C9 x y)):=Ag (AK Qz AY) AE Tryz.func207 (AFZ x y) trivial rfl
noncomputable def AFa:List Item:=Bh (AR Tryz.prog (AI SU K0) (some 0) 100 0 none (Af Tryz.f190 [AW 0,AW 0] [] 0 []))
noncomputable def OC (x y:Nat) (t:List Ch) (i:Nat) (p:List Bool):ASt:=⟨AFa,⟨Cs Tryz.f190.ntmps [(4,.val false [.p 2 0]),(5,.val false [.p 3 0]),(6,.val false [.p 4 0]),(7,.val false [.p 5 0]),(8,.val false [.n .i64 i])],
 [(2,some ⟨30,HL,false⟩),(3,some ⟨30,[.num 6 x],false⟩),(4,some ⟨30,[.num 6 y],false⟩),(5,some ⟨229,t,false⟩)],6,p⟩⟩
abbrev oT:Option (List Nat×List Nat×Nat):=some ([4,5,6,7,8],[2,3,4,5],6)
def OD (xi:Int) (y T i:Nat):Nat→Int
 | 0=>0
 | k+1=>mW (mW (GS xi (AB y k)+Bt (DR xi (AB y k)) (OD xi y T i k) 0)+Bt (AB T (i+k)) (Ba (DR xi (AB y k)) (OD xi y T i k) 0) 0)
def ZZ (xi:Int) (y T i k:Nat):Int:=Ba (AB T (i+k)) (Ba (DR xi (AB y k)) (OD xi y T i k) 0) 0
def Q0 (xi:Int) (y T i:Nat):List Int:=(List.range i).map (AB T)++((List.range 6).map (ZZ xi y T i)++(OD xi y T i 6::(List.range (5-i)).map fun j=>AB T (i+7+j)))
theorem AFb (x y:Nat):AR Tryz.prog (AI SU K0) (some 4) 300 0 oT (Af Tryz.f190 [AW x,AW y] [] 0 [])=some ([],[],OC (x % pN) (y % pN) (List.replicate 12 (.n .u64 0)) 0 []):=by kernel_rfl
theorem AFc (x y T i:Nat) (hi:i<6):AR Tryz.prog (AI SU K0) (some 4) 300 0 oT (OC x y [.num 12 T] i [])=some (F' 12,[],OC x y (H4 (Q0 (AB x i) y T i)) (i+1) []):=by
 obtain rfl | rfl | rfl | rfl | rfl | rfl:i=0∨i=1∨i=2∨i=3∨i=4∨i=5:=by omega
 all_goals kernel_rfl
def mE (T:Nat):Nat→Nat
 | 0=>AF [AB T 6,AB T 7,AB T 8,AB T 9,AB T 10,AB T 11]
 | k+1=>((AB T (5-k)).toNat+18446744073709551616*mE T k) % pN
def Za (T:Nat):Nat→List (Bool×Bool)
 | 0=>[]
 | k+1=>Za T k++[(decide (mE T k<pN),true)]
theorem AFd (x y T:Nat):DQ Tryz.prog (AI SU K0) Tryz.f190 300 0 (OC x y [.num 12 T] 6 [])=some (Za T 6,[],AW (mE T 6)):=by kernel_rfl
theorem Zb {xi:Int} {y T i:Nat}:∀ k,OD xi y T i k=Bo xi y (T / 2^(64*i)) k
 | 0=>rfl
 | k+1=>by
  have hw:AB T (i+k)=AB (T / 2^(64*i)) k:=by
   unfold AB
   rw [Nat.div_div_eq_div_mul,← Nat.pow_add,show 64*i+64*k=64*(i+k) by omega]
  simp only [OD,Bo];rw [Zb k,hw]
theorem oU (T i k:Nat):AB T (i+k)=AB (T / 2^(64*i)) k:=by
 unfold AB
 rw [Nat.div_div_eq_div_mul,← Nat.pow_add,show 64*i+64*k=64*(i+k) by omega]
theorem oV {x:Int} (hx:0≤x∧x<18446744073709551616) (y T:Nat):∀ k,BJ ((List.range k).map (BQ x y T))+((2^(64*k):Nat):Int)*Bo x y T k=x*((y % 2^(64*k):Nat):Int)+((T % 2^(64*k):Nat):Int)
 | 0=>by simp [BJ,Bo,Nat.mod_one]
 | k+1=>by
  have ih:=oV hx y T k
  have he:=MN hx y T k
  rw [List.range_succ,List.map_append,OA,Qt,Qt,ZL]
  simp only [List.map_cons,List.map_nil,BJ,List.length_map,List.length_range,Int.mul_zero,Int.add_zero]
  generalize ((2^(64*k):Nat):Int)=Q at *
  have e1:Q*BQ x y T k=Q*(x*AB y k)+Q*AB T k+Q*Bo x y T k-Q*18446744073709551616*Bo x y T (k+1):=by
   have:BQ x y T k=x*AB y k+AB T k+Bo x y T k-18446744073709551616*Bo x y T (k+1):=by omega
   rw [this,Int.mul_sub,Int.mul_add,Int.mul_add,Int.mul_assoc]
  have e2:x*(((y % 2^(64*k):Nat):Int)+Q*AB y k)=x*((y % 2^(64*k):Nat):Int)+Q*(x*AB y k):=by
   rw [Int.mul_add,Int.mul_left_comm]
  rw [e1,e2]
  omega
theorem AFe {x y T i:Nat} (hi:i<6) (hy:y<RR) (hT:T<2^(64*(i+6))) :
  ((T+(AB x i).toNat*y*2^(64*i):Nat):Int)=BJ (Q0 (AB x i) y T i)∧(Q0 (AB x i) y T i).length=12:=by
 have hw:=BF x i
 obtain ⟨X,hX⟩:=Int.eq_ofNat_of_zero_le hw.1
 have hB:T / 2^(64*i)<2^(64*6):=by
  refine Nat.div_lt_of_lt_mul ?_
  have e:2^(64*(i+6))=2^(64*i)*2^(64*6):=by rw [Nat.mul_add 64 i 6];exact Nat.pow_add 2 (64*i) (64*6)
  exact e▸hT
 have hz:((List.range (5-i)).map fun j=>AB T (i+7+j))=(List.range (5-i)).map fun _=>(0:Int):=by
  refine List.map_congr_left fun j _=>?_
  unfold AB
  rw [Nat.div_eq_of_lt (Nat.lt_of_lt_of_le hT (Nat.pow_le_pow_right (by decide) (by omega)))];rfl
 have hz2:∀ n,BJ ((List.range n).map fun _=>(0:Int))=0:=by
  intro n
  induction n with
  | zero=>rfl
  | succ n ih=>rw [List.range_succ,List.map_append,OA,ih];simp [BJ]
 have hA:BJ ((List.range i).map (AB T))=((T % 2^(64*i):Nat):Int):=by
  have:=QE i (T % 2^(64*i)) (Nat.mod_lt _ (Nat.pow_pos (by decide)))
  rw [← this]
  refine congrArg BJ (List.map_congr_left fun j hj=>?_)
  have hj':j<i:=List.mem_range.1 hj
  unfold AB
  have e:2^(64*i)=2^(64*j)*(2^64*2^(64*(i-j-1))):=by rw [← Nat.pow_add,← Nat.pow_add];congr 1;omega
  rw [e,Nat.mod_mul_right_div_self,Nat.mod_mul_right_mod]
 have hrow:(List.range 6).map (ZZ X y T i)=(List.range 6).map (BQ X y (T / 2^(64*i))):=by
  refine List.map_congr_left fun k _=>?_
  unfold ZZ BQ
  rw [Zb,oU]
 rw [hX]
 have hc:=oV (x:=X) (by omega) y (T / 2^(64*i)) 6
 rw [Nat.mod_eq_of_lt hB,Nat.mod_eq_of_lt (a:=y) (by rw [← CL];exact hy)] at hc
 constructor
 ·unfold Q0
  rw [hz,OA,OA,hA,hrow,Zb]
  simp only [BJ,hz2,List.length_map,List.length_range,Int.mul_zero,Int.add_zero]
  rw [hc]
  have e:=Nat.div_add_mod T (2^(64*i))
  generalize 2^(64*i)=Q at *
  rw [Int.toNat_natCast,Int.natCast_add,Int.natCast_mul,Int.natCast_mul]
  conv=>lhs;rw [← e]
  rw [Int.natCast_add,Int.natCast_mul,Int.mul_add,Int.mul_comm ((X:Int)*y)]
  omega
 ·unfold Q0;simp;omega
theorem AFf (x i:Nat):x % 2^(64*(i+1))=x % 2^(64*i)+(AB x i).toNat*2^(64*i):=by
 have h:=Qt x i
 have hw:=BF x i
 obtain ⟨X,hX⟩:=Int.eq_ofNat_of_zero_le hw.1
 rw [hX,← Int.natCast_mul,← Int.natCast_add] at h
 rw [hX,Int.toNat_natCast,Nat.mul_comm X]
 exact Int.natCast_inj.1 h
theorem AFg (β:Env) (l:List Value) (h:AM β (List.replicate 12 (.n .u64 0)) l):AM β [.num 12 0] l:=Df (k:=12) (x:=0) (by kernel_rfl) h
theorem AFh (T:Nat):mE T 0=AF [AB T 6,AB T 7,AB T 8,AB T 9,AB T 10,AB T 11]:=rfl
theorem AFi (z:Nat):(List.range 6).map (AB z)=[AB z 0,AB z 1,AB z 2,AB z 3,AB z 4,AB z 5]:=rfl
theorem AFj {T:Nat} (hT:T<pN*RR):mE T 0=T / RR∧T / RR<pN:=by
 have hT12:T / RR<pN:=Nat.div_lt_of_lt_mul (by rw [Nat.mul_comm];exact hT)
 refine ⟨?_,hT12⟩
 have h:=ZT (x:=T / RR) (k:=6) (Nat.lt_trans hT12 (by rw [← CL];exact OB))
 rw [AFi] at h
 have e:∀ j,AB T (6+j)=AB (T / RR) j:=fun j=>by rw [oU,← CL]
 rw [← e 0,← e 1,← e 2,← e 3,← e 4,← e 5] at h
 rw [AFh]
 exact h
theorem AFk (T k:Nat):mE T (k+1)=((AB T (5-k)).toNat+18446744073709551616*mE T k) % pN:=rfl
theorem AFl (T j:Nat):T / 2^(64*j)=(AB T j).toNat+18446744073709551616*(T / 2^(64*(j+1))):=by
 rw [show 64*(j+1)=64*j+64 by omega,Nat.pow_add,← Nat.div_div_eq_div_mul]
 have:=Nat.div_add_mod (T / 2^(64*j)) (2^64)
 unfold AB
 rw [Int.toNat_natCast]
 omega
theorem oW {T:Nat} (hT:T<pN*RR) (k:Nat) (hk:k≤6):mE T k=T / 2^(64*(6-k)) % pN∧mE T k<pN:=by
 induction k with
 | zero =>
  obtain ⟨e,h⟩:=AFj hT
  rw [e,Nat.sub_zero,← CL]
  exact ⟨(Nat.mod_eq_of_lt h).symm,h⟩
 | succ k ih =>
  obtain ⟨i1,i2⟩:=ih (by omega)
  rw [AFk]
  refine ⟨?_,Nat.mod_lt _ CM⟩
  rw [i1,show 6-(k+1)=5-k by omega,AFl T (5-k),show 5-k+1=6-k by omega,Nat.add_mod,Nat.mul_mod_mod,← Nat.add_mod]
theorem oX {T:Nat} (hT:T<pN*RR):∀ k,k≤6→AQ (Za T k)
 | 0,_=>trivial
 | k+1,hk=>UN (oX hT k (by omega)) ⟨decide_eq_true (oW hT k (by omega)).2,trivial⟩
theorem oY (x y:Nat):AX Tryz.prog 190 [AW x,AW y] (AW (Aa x y)):=by
 refine Ir (path:=[]) Tryz.func190 (by kernel_rfl) (by kernel_rfl) fun w0=>?_
 refine Ab (AK Qz AY) AE (AFb x y) trivial (AL (by kernel_rfl)) (fun _ _=>rfl) (fun _ h=>by cases h) fun _=>?_
 have hx:=E_ x
 have hy:=E_ y
 have hyR:=GU y
 have hxR:=GU x
 have e:Aa x y=(x % pN)*(y % pN) % pN:=by unfold Aa;rw [← Nat.mul_mod]
 rw [e]
 generalize x % pN=a at *
 generalize y % pN=b at *
 have loop:∀ r i,i+r=6→ASafe Tryz.prog 190 BZ w0 (E6 w0 (AW (a*b % pN))) Tryz.f190.ntmps [] (OC a b [.num 12 ((a % 2^(64*i))*b)] i []):=by
  intro r
  induction r with
  | zero =>
   intro i hi
   obtain rfl:i=6:=by omega
   have e6:a % 2^(64*6)=a:=Nat.mod_eq_of_lt (CL▸hxR)
   have hT:a*b<pN*RR:=Nat.mul_lt_mul'' hx hyR
   have h:=FS (w0:=w0) (β0:=BZ) (n:=Tryz.f190.ntmps) (AK Qz AY) AE Tryz.func190 (AFd a b (a*b)) (oX hT 6 (Nat.le_refl _)) (AL (by kernel_rfl)) (fun _ _=>rfl) rfl
   rw [(oW hT 6 (Nat.le_refl _)).1,Nat.sub_self,Nat.mul_zero,Nat.pow_zero,Nat.div_one] at h
   exact (congrArg (fun z=>ASafe Tryz.prog 190 BZ w0 (E6 w0 (AW (a*b % pN))) Tryz.f190.ntmps [] (OC a b [.num 12 (z*b)] 6 [])) e6).mpr h
  | succ r ih =>
   intro i hi
   have hlt:(a % 2^(64*i))*b<2^(64*(i+6)):=by
    rw [show 64*(i+6)=64*i+64*6 by omega,Nat.pow_add]
    exact Nat.mul_lt_mul'' (Nat.mod_lt _ (Nat.pow_pos (by decide))) (by rw [← CL];exact hyR)
   obtain ⟨r1,r2⟩:=AFe (x:=a) (T:=(a % 2^(64*i))*b) (show i<6 by omega) hyR hlt
   have e2:(a % 2^(64*i))*b+(AB a i).toNat*b*2^(64*i)=(a % 2^(64*(i+1)))*b:=by
    rw [AFf,Nat.add_mul];congr 1;rw [Nat.mul_right_comm]
   rw [e2] at r1
   refine Ab (AK Qz AY) AE (AFc a b _ i (by omega)) (Iz 12) (AL (by kernel_rfl)) (fun _ _=>rfl) (fun _ h=>by cases h) fun _=>?_
   have:=AFV r1
   rw [r2] at this
   refine ZX ?_ (ih (i+1) (by omega))
   exact ⟨rfl,rfl,rfl,fun β l h=>h,rfl,rfl,rfl,fun β l h=>h,rfl,rfl,rfl,fun β l h=>h,rfl,rfl,rfl,this,trivial⟩
 have h0:=loop 6 0 rfl
 rw [Nat.mul_zero,Nat.pow_zero,Nat.mod_one,Nat.zero_mul] at h0
 refine ZX ?_ h0
 exact ⟨rfl,rfl,rfl,fun β l h=>h,rfl,rfl,rfl,fun β l h=>h,rfl,rfl,rfl,fun β l h=>h,rfl,rfl,rfl,AFg,trivial⟩
noncomputable def SV:List (FuncId×ASpec):=(207,Ar (HN fun x y=>AW (C9 x y)))::(190,Ar (HN fun x y=>AW (Aa x y)))::SU
theorem Q1:AU Tryz.prog SV:=⟨Au Tryz.func207 (by kernel_rfl) (by kernel_rfl) (Iy fun x y _ _=>oS x y),Au Tryz.func190 (by kernel_rfl) (by kernel_rfl) (Iy fun x y _ _=>oY x y),Qz⟩
theorem Zc {n:Nat} (h:n≤1125899906842624):AH .i64 (n:Int)=true:=by
 simp only [AH,Bool.and_eq_true,decide_eq_true_eq];omega
theorem AFm (off n m:Nat) (i:Int) (xs:List Int):AP Tryz.prog (AI S0 K0) Tryz.f239 100 1 [] (Af Tryz.f239 (KZ off n m i) (BB xs) 1 [true]) =
 some ([(AH .i64 n,true),(decide (i<n),true),(decide (0≤i∧i<n),true),(decide (off+i.toNat*1<xs.length),true)],[],.val false [.v (.int .u64 (xs.getD (off+i.toNat*1) 0))],[]):=by kernel_rfl
theorem AFn (off n m:Nat) (i:Int) (xs:List Int):AP Tryz.prog (AI S0 K0) Tryz.f239 100 1 [] (Af Tryz.f239 (KZ off n m i) (BB xs) 1 [false]) =
 some ([(AH .i64 n,true),(decide (i<n),false)],[],.val false [.n .u64 0],[]):=by kernel_rfl
theorem AFo {off n m:Nat} {xs:List Int} (hlen:off+n≤xs.length) (hn:AH .i64 n=true) {i:Int} (hi:0≤i) :
  Ah Tryz.prog 239 (KZ off n m i) (BB xs) 1 [] (.val false [.v (.int .u64 (Ai xs off n i))]) []:=by
 by_cases h:i<n
 ·refine Av (path:=[true]) Tryz.func239 (by kernel_rfl) (by kernel_rfl) fun β0 w0 hb=>?_
  rw [show Ai xs off n i=xs.getD (off+i.toNat*1) 0 from by rw [Nat.mul_one];exact GX (by omega)]
  exact Aq (AK F8 AY) AE Tryz.func239 (AFm off n m i xs) ⟨hn,by simp [h],by simp [hi,h],by simp;omega,trivial⟩ (AL (by kernel_rfl)) hb (fun _ h=>by cases h)
 ·have e:Ai xs off n i=0:=by
   unfold Ai AA
   rw [List.getD_eq_getElem?_getD,List.getElem?_eq_none (by rw [List.length_take];omega)];rfl
  rw [e]
  refine Bf (v:=.val false [.n .u64 0]) (Av (path:=[false]) Tryz.func239 (by kernel_rfl) (by kernel_rfl) fun β0 w0 hb=>?_) fun _ _=>Yr
  exact Aq (AK F8 AY) AE Tryz.func239 (AFn off n m i xs) ⟨hn,by simp [h],trivial⟩ (AL (by kernel_rfl)) hb (fun _ h=>by cases h)
theorem AFp:A7 Tryz.prog 239 atSpec:=by
 refine E7 Tryz.func239 (by kernel_rfl) (by kernel_rfl) fun args H fr path r h=>?_
 unfold atSpec at h
 split at h
 case h_2=>cases h
 rename_i k off n m I
 split at h
 case h_2=>cases h
 rename_i c0 i ty cs o hI hk
 split at h
 case h_2=>cases h
 rename_i xs hxs
 injection h with h
 refine ⟨[k],KZ off n m i,BB xs,1,0,[],_,[],_,path,h.symm,fun β us w ha hg hc=>?_⟩
 obtain ⟨u1,us1,r1,⟨u2,us2,r2,ha,rfl⟩,rfl⟩:=ha
 obtain ⟨g1,g2,g3⟩:=H6 hg hk hxs
 obtain ⟨rfl,p1⟩:=B6 (β:=β) (u:=u2) (fun A hA=>by injection hA with hA;subst hA;exact r2) hI
 exact ⟨AFo (Nat.le_of_ble_eq_true hc.1) hc.2.1 (by simpa using hc.2.2.1),by kernel_rfl,⟨u1,_,r1,⟨_,us2,Aw ⟨rfl,rfl,p1⟩,ha,rfl⟩,rfl⟩,g2,g3⟩
theorem AFq (i j:Int):Ac Tryz.prog (AI S0 K0) Tryz.f295 [iA i,iA j] [true] 100=some ([(decide (j<i),true)],iA i):=by kernel_rfl
theorem AFr (i j:Int):Ac Tryz.prog (AI S0 K0) Tryz.f295 [iA i,iA j] [false] 100=some ([(decide (j<i),false)],iA j):=by kernel_rfl
theorem AFs (i j:Int):AX Tryz.prog 295 [iA i,iA j] (iA (Cg i j)):=by
 by_cases h:j<i
 ·have e:Cg i j=i:=by unfold Cg;split<;>omega
  rw [e]
  exact Ag (AK F8 AY) AE Tryz.func295 (AFq i j) ⟨decide_eq_true h,trivial⟩ rfl
 ·have e:Cg i j=j:=by unfold Cg;split<;>omega
  rw [e]
  exact Ag (AK F8 AY) AE Tryz.func295 (AFr i j) ⟨decide_eq_false h,trivial⟩ rfl
noncomputable def SW:List (FuncId×ASpec):=(239,atSpec)::(295,DI (N5 [.i64,.i64] fun l=>match l with | [i,j]=>some ([],iA (Cg i j)) | _=>none))::SV
theorem AFt:AU Tryz.prog SW:=⟨AFp,Di Tryz.func295 (by kernel_rfl) (by kernel_rfl) (T6 fun is c v h hh hc=>by
 split at h
 ·injection h with h;injection h with h1 h2;subst h1;subst h2;exact AFs _ _
 ·cases h),Q1⟩
noncomputable def AFu:List Item:=Bh (AR Tryz.prog (AI SV K0) (some 0) 100 1 none (Af Tryz.f244 (I1 0 0 0 0) (BB []) 1 []))
noncomputable def MY (off n m:Nat) (xs:List Int) (x:Nat) (v:List Ch) (i:Int) (p:List Bool):ASt:=⟨AFu,⟨Cs Tryz.f244.ntmps [(1,AJ 0 off n m),(2,.val false [.p 1 0]),(4,.val false [.p 2 0]),(5,.val false [.p 3 0]),(6,iA i)],
 [(0,some (Ad [.seq .u64 xs])),(1,some ⟨30,[.num 6 x],false⟩),(2,some ⟨30,HL,false⟩),(3,some ⟨30,v,false⟩)],4,p⟩⟩
abbrev Zd:Option (List Nat×List Nat×Nat):=some ([1,2,4,5,6],[0,1,2,3],4)
def Ze:List Ch:=[.n .u64 1,.n .u64 0,.n .u64 0,.n .u64 0,.n .u64 0,.n .u64 0]
theorem AFv (x off n m:Nat) (xs:List Int):AR Tryz.prog (AI SV K0) (some 0) 100 1 Zd (Af Tryz.f244 (I1 x off n m) (BB xs) 1 [])=some ([(AH .i64 n,true)],[],MY off n m xs x Ze (wI (wI (64*(n:Int))-1)) []):=by kernel_rfl
def JB (xs:List Int) (off:Nat) (i:Int):Int:=bits .and .u64 (Int.fdiv (Bp xs off i) (2^min (AN false .u64 (Int.tmod i 64)).toNat 64)) 1
def Zf (off n:Nat) (xs:List Int) (i:Int) (CK:Bool):List (Bool×Bool):=[(decide (0≤i),true),(true,true),(decide (0≤wI (Int.tdiv i 64)∧wI (Int.tdiv i 64)<n),true),(decide (off+(wI (Int.tdiv i 64)).toNat*1<xs.length),true),(decide (0≤i∧(0:Int)<64),true),
 (decide (0≤AN false .u64 (Int.tmod i 64)∧0≤Bp xs off i),true),(decide (JB xs off i=1),CK)]
theorem AFw (off n m:Nat) (xs:List Int) (x v:Nat) (i:Int):AR Tryz.prog (AI SV K0) (some 0) 100 1 Zd (MY off n m xs x [.num 6 v] i [true,true])=some (Zf off n xs i true,[],MY off n m xs x [.num 6 (Aa (Aa v v) x)] (wI (i-1)) []):=by kernel_rfl
theorem AFx (off n m:Nat) (xs:List Int) (x v:Nat) (i:Int):AR Tryz.prog (AI SV K0) (some 0) 100 1 Zd (MY off n m xs x [.num 6 v] i [true,false])=some (Zf off n xs i false,[],MY off n m xs x [.num 6 (Aa v v)] (wI (i-1)) []):=by kernel_rfl
theorem AFy (off n m:Nat) (xs:List Int) (x v:Nat) (i:Int):AP Tryz.prog (AI SV K0) Tryz.f244 100 1 [] (MY off n m xs x [.num 6 v] i [false])=some ([(decide (0≤i),false)],[],AW v,[]):=by kernel_rfl
theorem US (xs:List Int) (off:Nat) (c:Nat):JB xs off c=HQ (Bp xs off c) (Int.tmod c 64)∧AN false .u64 (Int.tmod c 64)=Int.tmod c 64:=by
 have hr:Int.tmod (c:Int) 64=((c % 64:Nat):Int):=by rw [Int.tmod_eq_emod_of_nonneg (by omega)];rfl
 have e:AN false .u64 (Int.tmod (c:Int) 64)=Int.tmod c 64:=by rw [hr,CA,IntKind.wrap_u64];omega
 exact ⟨by unfold JB;rw [e];rfl,e⟩
theorem oZ (x a b:Nat):Aa (x^a % pN) (x^b % pN)=x^(a+b) % pN:=by unfold Aa;rw [← Nat.mul_mod,Nat.pow_add]
theorem AFz (x a:Nat):Aa (x^a % pN) x=x^(a+1) % pN:=by unfold Aa;rw [Nat.mod_mul_mod,Nat.pow_succ]
theorem o5 {off n m:Nat} {xs:List Int} (hall:∀ d∈xs,0≤d∧d<18446744073709551616) (hlen:off+n≤xs.length) (hn:n≤1125899906842624) (x:Nat) :
  Ah Tryz.prog 244 (I1 x off n m) (BB xs) 1 [] (AW (Dg x (AF (AA xs off n)))) []:=by
 refine Av (path:=[]) Tryz.func244 (by kernel_rfl) (by kernel_rfl) fun β0 w0 hb=>?_
 refine Ab (AK Q1 AY) AE (AFv x off n m xs) ⟨Zc hn,trivial⟩ (AL (by kernel_rfl)) hb (fun _ h=>by cases h) fun _=>?_
 have hlt:∀ d∈AA xs off n,0≤d∧d<18446744073709551616:=CS hall
 have hwl:(AA xs off n).length=n:=by unfold AA;rw [List.length_take,List.length_drop];omega
 generalize hE:AF (AA xs off n)=E at *
 have loop:∀ c,c≤64*n→ASafe Tryz.prog 244 β0 w0 (Ax β0 w0 [] (AW (Dg x E)) []) Tryz.f244.ntmps [] (MY off n m xs x [.num 6 (x^(E / 2^c) % pN)] ((c:Int)-1) []):=by
  intro c
  induction c with
  | zero =>
   intro _
   have h:=Aq (w0:=w0) (W:=[]) (n:=Tryz.f244.ntmps) (AK Q1 AY) AE Tryz.func244 (AFy off n m xs x (x^E % pN) (((0:Nat):Int)-1)) ⟨rfl,trivial⟩ (AL (by kernel_rfl)) hb (fun _ h=>by cases h)
   rw [Nat.pow_zero,Nat.div_one,I2]
   exact AZ [false] h
  | succ c ih =>
   intro hc
   have hi:((c+1:Nat):Int)-1=(c:Int):=by omega
   rw [hi]
   have hq:Int.tdiv (c:Int) 64=((c / 64:Nat):Int):=by rw [Int.tdiv_eq_ediv_of_nonneg (by omega)];rfl
   have hr:Int.tmod (c:Int) 64=((c % 64:Nat):Int):=by rw [Int.tmod_eq_emod_of_nonneg (by omega)];rfl
   have hw:wI (Int.tdiv (c:Int) 64)=((c / 64:Nat):Int):=by rw [hq];exact Al (by omega)
   have hj:c / 64<n:=by omega
   have hv:Bp xs off c=(AA xs off n).getD (c / 64) 0:=by
    unfold Bp
    rw [hw,Int.toNat_natCast,Nat.mul_one];exact (GX hj).symm
   have hvb:0≤Bp xs off c∧Bp xs off c<18446744073709551616:=by rw [hv];exact I3 hlt _
   obtain ⟨eb,em⟩:=US xs off c
   have hbit:JB xs off c=((E / 2^c % 2:Nat):Int):=by
    obtain ⟨V,hV⟩:=Int.eq_ofNat_of_zero_le hvb.1
    rw [eb,hr,← hE,← QT _ c hlt,← hv,hV,Int.toNat_natCast]
    exact QR V _ (by omega) (by omega)
   have hconds:∀ CK,decide (JB xs off c=1)=CK→AQ (Zf off n xs c CK):=by
    intro CK hbt
    refine ⟨by simp,rfl,?_,?_,by simp,?_,hbt,trivial⟩
    ·rw [hw];simp;omega
    ·rw [hw];simp;omega
    ·rw [em,hr];simp only [decide_eq_true_eq];exact ⟨by omega,hvb.1⟩
   have hdiv:E / 2^c=2*(E / 2^(c+1))+E / 2^c % 2:=by
    rw [Nat.pow_succ,← Nat.div_div_eq_div_mul];omega
   have ihc:=ih (by omega)
   rcases Nat.mod_two_eq_zero_or_one (E / 2^c) with h0 | h1
   ·refine AZ [true,false] (Ab (AK Q1 AY) AE (AFx ..) (hconds false (by rw [hbit,h0];rfl)) (AL (by kernel_rfl)) hb (fun _ h=>by cases h) fun _=>?_)
    rw [Al (z:=(c:Int)-1) (by omega),oZ,show E / 2^(c+1)+E / 2^(c+1)=E / 2^c by omega]
    exact ihc
   ·refine AZ [true,true] (Ab (AK Q1 AY) AE (AFw ..) (hconds true (by rw [hbit,h1];rfl)) (AL (by kernel_rfl)) hb (fun _ h=>by cases h) fun _=>?_)
    rw [Al (z:=(c:Int)-1) (by omega),oZ,AFz,show E / 2^(c+1)+E / 2^(c+1)+1=E / 2^c by omega]
    exact ihc
 have h0:=loop (64*n) (Nat.le_refl _)
 have hl:=GW (AA xs off n) hlt
 rw [hwl,hE] at hl
 rw [Nat.div_eq_of_lt hl,Nat.pow_zero] at h0
 have e3:wI (wI (64*(n:Int))-1)=((64*n:Nat):Int)-1:=by
  rw [Al (z:=64*(n:Int)) (by omega),Al (by omega)];omega
 rw [e3]
 refine ZX ?_ h0
 exact ⟨rfl,rfl,rfl,fun β l h=>h,rfl,rfl,rfl,fun β l h=>h,rfl,rfl,rfl,fun β l h=>h,rfl,rfl,rfl,fun β l h=>Df (k:=6) (x:=1) (by kernel_rfl) h,trivial⟩
theorem o6:A7 Tryz.prog 244 powSpec:=by
 refine E7 Tryz.func244 (by kernel_rfl) (by kernel_rfl) fun args H fr path r h=>?_
 unfold powSpec at h
 split at h
 case h_2=>cases h
 rename_i a k off n m
 split at h
 case h_2=>cases h
 rename_i x ty cs o hx hk
 split at h
 case h_2=>cases h
 rename_i xs hxs
 injection h with h
 refine ⟨[k],I1 x off n m,BB xs,1,0,[],AW (Dg x (AF ((xs.drop off).take n))),[],_,path,h.symm,fun β us w ha hg hc=>?_⟩
 obtain ⟨u1,us1,r1,⟨u2,us2,r2,ha,rfl⟩,rfl⟩:=ha
 obtain ⟨g1,g2,g3⟩:=H6 hg hk hxs
 refine ⟨o5 g1 (Nat.le_of_ble_eq_true hc.1) (Nat.le_of_ble_eq_true hc.2.1) x,by kernel_rfl,⟨u1,_,?_,⟨u2,us2,?_,ha,rfl⟩,rfl⟩,g2,g3⟩
 ·obtain ⟨l,q,rfl⟩:=r1;exact ⟨l,Df hx q,rfl⟩
 ·exact r2
noncomputable def SX:List (FuncId×ASpec):=(244,powSpec)::SW
theorem Gx:AU Tryz.prog SX:=⟨o6,AFt⟩
noncomputable def AF0:List Item:=Bh (AR Tryz.prog (AI SX K0) (some 0) 100 2 none (Af Tryz.f240 (Dh 0 0 0 0 0 0) (CF [] []) 2 []))
abbrev o7:Option (List Nat×List Nat×Nat):=some ([0,1,5],[0,1],2)
section
variable (off n m off' n' m':Nat) (xs ys:List Int)
noncomputable def MZ (i:Int) (p:List Bool):ASt:=⟨AF0,⟨Cs Tryz.f240.ntmps [(0,AJ 0 off n m),(1,AJ 1 off' n' m'),(5,iA i)],CF xs ys,2,p⟩⟩
theorem AF1:AR Tryz.prog (AI SX K0) (some 0) 100 2 o7 (Af Tryz.f240 (Dh off n m off' n' m') (CF xs ys) 2 []) =
 some ([(AH .i64 n,true),(AH .i64 n',true)],[],MZ off n m off' n' m' xs ys (wI (Cg n n'-1)) []):=by kernel_rfl
def OE (i:Int) (r:List (Bool×Bool)):List (Bool×Bool):=(Nat.ble (off+n) xs.length,true)::(AH .i64 n,true)::(decide (0≤i),true)::(Nat.ble (off'+n') ys.length,true)::(AH .i64 n',true)::(decide (0≤i),true)::r
theorem AF2 (i:Int):AR Tryz.prog (AI SX K0) (some 0) 100 2 o7 (MZ off n m off' n' m' xs ys i [true,false,false]) =
 some ((decide (0≤i),true)::OE off n off' n' xs ys i ((decide (Ai xs off n i<Ai ys off' n' i),false)::OE off n off' n' xs ys i [(decide (Ai ys off' n' i<Ai xs off n i),false)]),[],MZ off n m off' n' m' xs ys (wI (i-1)) []):=by kernel_rfl
theorem AF3 (i:Int):AP Tryz.prog (AI SX K0) Tryz.f240 100 2 [] (MZ off n m off' n' m' xs ys i [true,true]) =
 some ((decide (0≤i),true)::OE off n off' n' xs ys i [(decide (Ai xs off n i<Ai ys off' n' i),true)],[],.val false [.n .i64 (-1)],[]):=by kernel_rfl
theorem AF4 (i:Int):AP Tryz.prog (AI SX K0) Tryz.f240 100 2 [] (MZ off n m off' n' m' xs ys i [true,false,true]) =
 some ((decide (0≤i),true)::OE off n off' n' xs ys i ((decide (Ai xs off n i<Ai ys off' n' i),false)::OE off n off' n' xs ys i [(decide (Ai ys off' n' i<Ai xs off n i),true)]),[],.val false [.n .i64 1],[]):=by kernel_rfl
theorem AF5 (i:Int):AP Tryz.prog (AI SX K0) Tryz.f240 100 2 [] (MZ off n m off' n' m' xs ys i [false]) =
 some ([(decide (0≤i),false)],[],.val false [.n .i64 0],[]):=by kernel_rfl
end
theorem o8 {off n m off' n' m':Nat} {xs ys:List Int} (hx:∀ d∈xs,0≤d∧d<18446744073709551616) (hy:∀ d∈ys,0≤d∧d<18446744073709551616) (hl:off+n≤xs.length) (hl':off'+n'≤ys.length)
  (hn:AH .i64 n=true) (hn':AH .i64 n'=true):Ah Tryz.prog 240 (Dh off n m off' n' m') (CF xs ys) 2 [] (.val false [.v (.int .i64 (Cb (AF (AA xs off n)) (AF (AA ys off' n'))))]) []:=by
 refine Av (path:=[]) Tryz.func240 (by kernel_rfl) (by kernel_rfl) fun β0 w0 hb=>?_
 refine Ab (AK Gx AY) AE (AF1 off n m off' n' m' xs ys) ⟨hn,hn',trivial⟩ (AL (by kernel_rfl)) hb (fun _ h=>by cases h) fun _=>?_
 have bn:n≤9223372036854775807:=by simp only [AH,Bool.and_eq_true,decide_eq_true_eq] at hn;omega
 have bn':n'≤9223372036854775807:=by simp only [AH,Bool.and_eq_true,decide_eq_true_eq] at hn';omega
 have e:wI (Cg n n'-1)=((max n n':Nat):Int)-1:=by
  have:Cg n n'=((max n n':Nat):Int):=by unfold Cg;split<;>omega
  rw [this,Al (by omega)]
 rw [e]
 have loop:∀ c,c≤max n n'→AF (AA xs off n) / 2^(64*c)=AF (AA ys off' n') / 2^(64*c) →
   ASafe Tryz.prog 240 β0 w0 (Ax β0 w0 [] (.val false [.v (.int .i64 (Cb (AF (AA xs off n)) (AF (AA ys off' n'))))]) []) Tryz.f240.ntmps [] (MZ off n m off' n' m' xs ys ((c:Int)-1) []):=by
  intro c
  induction c with
  | zero =>
   intro _ heq
   rw [Nat.mul_zero,Nat.pow_zero,Nat.div_one,Nat.div_one] at heq
   have h:=Aq (w0:=w0) (W:=[]) (n:=Tryz.f240.ntmps) (AK Gx AY) AE Tryz.func240 (AF5 off n m off' n' m' xs ys (((0:Nat):Int)-1)) ⟨rfl,trivial⟩ (AL (by kernel_rfl)) hb (fun _ h=>by cases h)
   exact AZ [false] (Ko h fun _ _=>MQ (by unfold Cb;rw [heq];simp))
  | succ c ih =>
   intro hc heq
   have hi:((c+1:Nat):Int)-1=(c:Int):=by omega
   rw [hi]
   have sx:=QU (CS (off:=off) (n:=n) hx) c
   have sy:=QU (CS (off:=off') (n:=n') hy) c
   have bx:=I3 (CS (off:=off) (n:=n) hx) c
   have byy:=I3 (CS (off:=off') (n:=n') hy) c
   have ex:Ai xs off n c=(AA xs off n).getD c 0:=by unfold Ai;rw [Int.toNat_natCast]
   have ey:Ai ys off' n' c=(AA ys off' n').getD c 0:=by unfold Ai;rw [Int.toNat_natCast]
   have hC:∀ r,AQ r→AQ (OE off n off' n' xs ys c r):=fun r hr=>⟨Nat.ble_eq_true_of_le hl,hn,by simp,Nat.ble_eq_true_of_le hl',hn',by simp,hr⟩
   by_cases hlt:Ai xs off n c<Ai ys off' n' c
   ·have h:=Aq (w0:=w0) (W:=[]) (n:=Tryz.f240.ntmps) (AK Gx AY) AE Tryz.func240 (AF3 off n m off' n' m' xs ys c) ⟨by simp,hC _ ⟨decide_eq_true hlt,trivial⟩⟩ (AL (by kernel_rfl)) hb (fun _ h=>by cases h)
    refine AZ [true,true] (Ko h fun _ _=>MQ ?_)
    have:AF (AA xs off n)<AF (AA ys off' n'):=N2 (Q:=2^(64*c)) (by rw [sx,sy,heq];omega)
    unfold Cb;rw [if_pos this]
   ·by_cases hgt:Ai ys off' n' c<Ai xs off n c
    ·have h:=Aq (w0:=w0) (W:=[]) (n:=Tryz.f240.ntmps) (AK Gx AY) AE Tryz.func240 (AF4 off n m off' n' m' xs ys c) ⟨by simp,hC _ ⟨decide_eq_false hlt,hC _ ⟨decide_eq_true hgt,trivial⟩⟩⟩ (AL (by kernel_rfl)) hb (fun _ h=>by cases h)
     refine AZ [true,false,true] (Ko h fun _ _=>MQ ?_)
     have:AF (AA ys off' n')<AF (AA xs off n):=N2 (Q:=2^(64*c)) (by rw [sx,sy,heq];omega)
     unfold Cb;rw [if_neg (by omega),if_pos this]
    ·refine AZ [true,false,false] (Ab (AK Gx AY) AE (AF2 ..) ⟨by simp,hC _ ⟨decide_eq_false hlt,hC _ ⟨decide_eq_false hgt,trivial⟩⟩⟩ (AL (by kernel_rfl)) hb (fun _ h=>by cases h) fun _=>?_)
     rw [Al (z:=(c:Int)-1) (by omega)]
     exact ih (by omega) (by rw [sx,sy,heq];omega)
 refine loop _ (Nat.le_refl _) ?_
 have big:∀ (zs:List Int) (of k:Nat),(∀ d∈zs,0≤d∧d<18446744073709551616)→k≤max n n'→AF (AA zs of k) / 2^(64*max n n')=0:=by
  intro zs of k hz hk
  refine Nat.div_eq_of_lt (Nat.lt_of_lt_of_le (GW _ (CS hz)) (Nat.pow_le_pow_right (by decide) ?_))
  have:(AA zs of k).length≤k:=by unfold AA;rw [List.length_take];omega
  omega
 rw [big xs off n hx (by omega),big ys off' n' hy (by omega)]
theorem AF6:A7 Tryz.prog 240 cmpSpec:=by
 refine E7 Tryz.func240 (by kernel_rfl) (by kernel_rfl) fun args H fr path r h=>?_
 unfold cmpSpec at h
 split at h
 case h_2=>cases h
 rename_i k off n m t off' n' m'
 split at h
 case h_2=>cases h
 rename_i ty cs o ty' ds o' hk ht
 split at h
 case h_2=>cases h
 rename_i xs ys hxs hys
 injection h with h
 refine ⟨[k,t],Dh off n m off' n' m',CF xs ys,2,0,[],_,[],_,path,h.symm,fun β us w ha hg hc=>?_⟩
 obtain ⟨u1,us1,r1,⟨u2,us2,r2,ha,rfl⟩,rfl⟩:=ha
 obtain ⟨g1,g1',g2,g3⟩:=Tw hg hk ht hxs hys
 exact ⟨o8 g1 g1' (Nat.le_of_ble_eq_true hc.1) (Nat.le_of_ble_eq_true hc.2.1) hc.2.2.1 hc.2.2.2.1,by kernel_rfl,⟨u1,_,r1,⟨u2,_,r2,ha,rfl⟩,rfl⟩,g2,g3⟩
noncomputable def UT:List Item:=Bh (AR Tryz.prog (AI SX K0) (some 0) 100 1 none (Af Tryz.f182 [AJ 0 0 0 0,iA 0] (BB []) 1 []))
noncomputable def UU (off m c:Nat) (n:Int) (s:AV) (i:AV):List AV:=Cs Tryz.f182.ntmps [(0,AJ 0 off m c),(1,iA n),(5,s),(6,i)]
def o9 (xs:List Int) (ys:List Int):Heap:=[(0,some (Ad [.seq .u64 xs])),(1,some ⟨5,[.seq .u8 ys],true⟩)]
noncomputable def UV (off m c:Nat) (n:Int) (xs:List Int) (L:Nat) (ys:List Int) (i:Int) (p:List Bool):ASt:=⟨UT,⟨UU off m c n (.val false [.sx 1 L 1]) (iA i),o9 xs ys,2,p⟩⟩
theorem AF7 (off m c:Nat) (n:Int) (xs:List Int):AR Tryz.prog (AI SX K0) (some 0) 100 1 (some ([0,1,5,6],[0],1)) (Af Tryz.f182 [AJ 0 off m c,iA n] (BB xs) 1 []) =
 some ([],[],⟨UT,⟨UU off m c n (.val false [.v (.slice none 0 0)]) (.val false [.n .i64 0]),BB xs,1,[]⟩⟩):=by kernel_rfl
theorem AF8 (off m c:Nat) (n:Int) (xs:List Int):(⟨UT,⟨(Hz 1 1 [5] 0 (UU off m c n (.val false [.v (.slice none 0 0)]) (.val false [.n .i64 0]))).map Dr,BB xs++[(1,some ⟨5,[.seq .u8 []],true⟩)],1+1,[]⟩⟩:ASt)=UV off m c n xs 0 [] 0 []:=by kernel_rfl
def Zg (xs:List Int) (off m:Nat) (k:Int):Int:=AN false .u8 (Int.fdiv (Ai xs off m (wI (Int.tdiv k 8))) (2^min (AN false .u64 (wI (8*Int.tmod k 8))).toNat 64))
def pA (off m:Nat) (n:Int) (xs:List Int) (L:Nat) (ys:List Int) (i:Int):List (Bool×Bool):=[(decide (i<n),true),(true,true),(Nat.ble (off+m) xs.length,true),(AH .i64 m,true),(decide (0≤wI (Int.tdiv (DT n i) 8)),true),
 (decide (0≤DT n i∧(0:Int)<8),true),(decide (0≤AN false .u64 (wI (8*Int.tmod (DT n i) 8))∧0≤Ai xs off m (wI (Int.tdiv (DT n i) 8))),true),(Nat.ble L ys.length,true),(decide (1≤1∧2*(L+1)*1≤281474976710656),true)]
theorem AF9 (off m c:Nat) (n:Int) (xs:List Int) (L:Nat) (ys:List Int) (i:Int):AR Tryz.prog (AI SX K0) (some 0) 100 1 (some ([0,1,5,6],[0,3],4)) (UV off m c n xs L ys i [true]) =
 some (pA off m n xs L ys i,[],⟨UT,⟨EQ (Bj 1 [3]) (UU off m c n (.val false [.sx 1 (L+1) 1]) (iA (wI (i+1)))),Dp (Bj 1 [3]) (o9 xs (ys.take L++[Zg xs off m (DT n i)])),4,[]⟩⟩):=by kernel_rfl
def UW (ys:List Int):Heap:=[(1,some ⟨5,[.seq .u8 ys],true⟩)]
theorem AF_ (off m c:Nat) (n:Int) (xs:List Int) (L:Nat) (ys:List Int) (i:Int):AP Tryz.prog (AI SX K0) Tryz.f182 100 1 [1] (UV off m c n xs L ys i [false]) =
 some ([(decide (i<n),false)],[],.val false [.sx 1 L 1],UW ys):=by kernel_rfl
theorem AF' {xs:List Int} {off m:Nat} (hx:∀ d∈xs,0≤d∧d<18446744073709551616) {k:Nat} (hk:k≤35184372088832):Zg xs off m (k:Int)=EA (AF (AA xs off m)) k∧0≤Ai xs off m (wI (Int.tdiv (k:Int) 8))∧0≤AN false .u64 (wI (8*Int.tmod (k:Int) 8)):=by
 have e2:wI (8*Int.tmod (k:Int) 8)=((8*(k % 8):Nat):Int):=by rw [Qm,Al (by omega)];omega
 have e3:AN false .u64 (wI (8*Int.tmod (k:Int) 8))=wI (8*Int.tmod (k:Int) 8):=by rw [e2,CA,IntKind.wrap_u64];omega
 obtain ⟨h1,h2⟩:=nG (off:=off) (m:=m) hx hk
 refine ⟨by unfold Zg;rw [e3];exact h1,h2,by rw [e3,e2];omega⟩
theorem AGA {off m c:Nat} {xs:List Int} (hx:∀ d∈xs,0≤d∧d<18446744073709551616) (hl:off+m≤xs.length) (hm:AH .i64 m=true) {n:Nat} (hn:n≤35184372088832) :
  Ah Tryz.prog 182 [AJ 0 off m c,iA n] (BB xs) 1 [] (.val false [.sx 1 n 1]) (UW (BK (AF (AA xs off m)) n)):=by
 refine Av (path:=[]) Tryz.func182 (by kernel_rfl) (by kernel_rfl) fun β0 w0 hb=>?_
 refine Ab (AK Gx AY) AE (AF7 off m c n xs) trivial (AL (by kernel_rfl)) hb (fun _ h=>by cases h) fun _=>?_
 refine P7 (ts:=[5]) (sz:=1) (ty:=5) (kd:=.u8) rfl (hb 1 (Nat.le_refl _)) (Ds ?_)
 rw [AF8]
 have loop:∀ r i,i+r=n→ASafe Tryz.prog 182 β0 w0 (Ax β0 w0 [] (.val false [.sx 1 n 1]) (UW (BK (AF (AA xs off m)) n))) Tryz.f182.ntmps [] (UV off m c n xs i ((List.range i).map fun i=>EA (AF (AA xs off m)) (n-1-i)) i []):=by
  intro r
  induction r with
  | zero =>
   intro i hi
   obtain rfl:i=n:=by omega
   exact AZ [false] (Aq (AK Gx AY) AE Tryz.func182 (AF_ ..) ⟨by simp,trivial⟩ (AL (by kernel_rfl)) hb (fun _ h=>by cases h))
  | succ r ih =>
   intro i hi
   have ek:DT (n:Int) i=((n-1-i:Nat):Int):=UG hn (by omega)
   have ev:=AF' (off:=off) (m:=m) hx (k:=n-1-i) (by omega)
   have ed:wI (Int.tdiv ((n-1-i:Nat):Int) 8)=(((n-1-i) / 8:Nat):Int):=by rw [N9];exact Al (by omega)
   refine AZ [true] (Ab (AK Gx AY) AE (AF9 ..) ?_ (AL (by kernel_rfl)) hb (fun _ h=>by cases h) fun _=>?_)
   ·rw [pA,ek]
    refine ⟨by simp;omega,rfl,Nat.ble_eq_true_of_le hl,hm,by rw [ed];simp only [decide_eq_true_eq];omega,by simp,by simp only [decide_eq_true_eq];exact ⟨ev.2.2,ev.2.1⟩,by simp,by simp only [decide_eq_true_eq];omega,trivial⟩
   ·refine ER (m:=2) (by kernel_rfl) hb ?_
    rw [ek,ev.1,Al (z:=(i:Int)+1) (by omega),List.take_of_length_le (by simp)]
    have:=ih (i+1) (by omega)
    rw [List.range_succ,List.map_append] at this
    exact this
 exact loop n 0 (by omega)
def roctSpec:ASpec:=fun args H fr path =>
 match args with
 | [.val false [.sl k off m _],I]=>match BH (some I),AG H k with
  | some (_,.i64,i),some ⟨_,cs,_⟩=>match As .u64 cs with
   | some xs=>some (A8 [k] 1 fr 1 [] (.val false [.sx 1 i.toNat 1]) (UW (BK (AF (AA xs off m)) i.toNat)) [(Nat.ble (off+m) xs.length,true),(AH .i64 m,true),(decide (0≤i∧i≤35184372088832),true)] path)
   | none=>none
  | _,_=>none
 | _=>none
theorem AGB:A7 Tryz.prog 182 roctSpec:=by
 refine E7 Tryz.func182 (by kernel_rfl) (by kernel_rfl) fun args H fr path r h=>?_
 unfold roctSpec at h
 split at h
 case h_2=>cases h
 rename_i k off m c I
 split at h
 case h_2=>cases h
 rename_i c0 i ty cs o hI hk
 split at h
 case h_2=>cases h
 rename_i xs hxs
 injection h with h
 refine ⟨[k],[AJ 0 off m c,iA i],BB xs,1,1,[],_,_,_,path,h.symm,fun β us w ha hg hc=>?_⟩
 obtain ⟨u1,us1,r1,⟨u2,us2,r2,ha,rfl⟩,rfl⟩:=ha
 obtain ⟨g1,g2,g3⟩:=H6 hg hk hxs
 obtain ⟨rfl,p1⟩:=B6 (β:=β) (u:=u2) (fun A hA=>by injection hA with hA;subst hA;exact r2) hI
 have hi:=hc.2.2.1
 simp only [decide_eq_true_eq] at hi
 obtain ⟨n,rfl⟩:=Int.eq_ofNat_of_zero_le hi.1
 exact ⟨AGA g1 (Nat.le_of_ble_eq_true hc.1) hc.2.1 (by omega),by kernel_rfl,⟨u1,_,r1,⟨_,us2,Aw ⟨rfl,rfl,p1⟩,ha,rfl⟩,rfl⟩,g2,g3⟩
noncomputable def AGC:List Item:=Bh (AR Tryz.prog (AI SX K0) (some 0) 100 1 none (Af Tryz.f180 [AJ 0 0 0 0] (Ak []) 1 []))
noncomputable def Q2 (off n c:Nat) (xs:List Int) (L:Nat) (ys:List Int) (i:AV) (p:List Bool):ASt:=⟨AGC,⟨Cs Tryz.f180.ntmps [(0,AJ 0 off n c),(3,AJ 1 0 L L),(4,i)],[(0,some (Ad [.seq .u8 xs])),(1,some ⟨24,[.seq .u64 ys],false⟩)],2,p⟩⟩
abbrev pB:Option (List Nat×List Nat×Nat):=some ([0,3,4],[0,1],2)
theorem AGD (off n c:Nat) (xs:List Int):AR Tryz.prog (AI SX K0) (some 0) 100 1 pB (Af Tryz.f180 [AJ 0 off n c] (Ak xs) 1 []) =
 some ([(AH .i64 n,true),(true,true),(Ky (wI (Int.tdiv (wI ((n:Int)+7)) 8)) 8,true)],[],Q2 off n c xs (N_ n) (List.replicate (N_ n) 0) (.val false [.n .i64 0]) []):=by kernel_rfl
def pC (xs:List Int) (off:Nat) (n:Int) (i:Int):Int:=IntKind.u64.wrap (AN false .u64 (xs.getD (off+i.toNat*1) 0)*2^min (AN false .u64 (wI (8*Int.tmod (DT n i) 8))).toNat 64)
def Zh (xs:List Int) (off:Nat) (n:Int) (ys:List Int) (i:Int):Int:=IntKind.u64.wrap (ys.getD (0+(DJ n i).toNat*1) 0+pC xs off n i)
def pD (off n:Nat) (xs:List Int) (L:Nat) (ys:List Int) (i:Int):List (Bool×Bool):=[(AH .i64 n,true),(decide (i<n),true),(AH .i64 n,true),(true,true),(true,true),(decide (0≤DJ n i∧DJ n i<L),true),(decide (0+(DJ n i).toNat*1<ys.length),true),
 (decide (0≤i∧i<n),true),(decide (off+i.toNat*1<xs.length),true),(decide (0≤DT n i∧(0:Int)<8),true),(decide (0≤AN false .u64 (wI (8*Int.tmod (DT n i) 8))),true),(decide (0≤DJ n i∧DJ n i<L),true),(decide (0+(DJ n i).toNat*1<ys.length),true)]
theorem AGE (off n c:Nat) (xs:List Int) (L:Nat) (ys:List Int) (i:Int):AR Tryz.prog (AI SX K0) (some 0) 100 1 pB (Q2 off n c xs L ys (iA i) [true]) =
 some (pD off n xs L ys i,[],Q2 off n c xs L (ys.set (0+(DJ n i).toNat*1) (Zh xs off n ys i)) (iA (wI (i+1))) []):=by kernel_rfl
theorem AGF (off n c:Nat) (xs:List Int) (L:Nat) (ys:List Int) (i:Int):AP Tryz.prog (AI SX K0) Tryz.f180 100 1 [1] (Q2 off n c xs L ys (iA i) [false]) =
 some ([(AH .i64 n,true),(decide (i<n),false)],[],AJ 1 0 L L,UK ys):=by kernel_rfl
theorem AGG {off n c:Nat} {xs:List Int} (hx:∀ d∈xs,0≤d∧d<256) (hl:off+n≤xs.length) (hn:n≤35184372088832) :
  Ah Tryz.prog 180 [AJ 0 off n c] (Ak xs) 1 [] (AJ 1 0 ((n+7) / 8) ((n+7) / 8)) (ZJ (AS (AA xs off n)) ((n+7) / 8)):=by
 have hlen:(AA xs off n).length=n:=by unfold AA;rw [List.length_take,List.length_drop];omega
 have hfin:AS (AA xs off n)<2^(64*((n+7) / 8)):=by
  have h1:=UJ (AA xs off n) (CS hx)
  rw [hlen,I_] at h1
  exact Nat.lt_of_lt_of_le h1 (Nat.pow_le_pow_right (by decide) (by omega))
 refine Av (path:=[]) Tryz.func180 (by kernel_rfl) (by kernel_rfl) fun β0 w0 hb=>?_
 obtain ⟨l1,l2⟩:=nU hn
 have hw:AH .i64 (n:Int)=true:=by simp only [AH,Bool.and_eq_true,decide_eq_true_eq];omega
 refine Ab (AK Gx AY) AE (AGD off n c xs) ⟨hw,rfl,?_,trivial⟩ (AL (by kernel_rfl)) hb (fun _ h=>by cases h) fun _=>?_
 ·rw [l2];unfold Ky;simp only [decide_eq_true_eq];omega
 ·rw [l1]
  refine Ds ?_
  have hbd:∀ d∈AA xs off n,0≤d∧d<256:=CS hx
  have loop:∀ r i,i+r=n→ASafe Tryz.prog 180 β0 w0 (Ax β0 w0 [] (AJ 1 0 ((n+7) / 8) ((n+7) / 8)) (UK (Cj (AS (AA xs off n)) ((n+7) / 8)))) Tryz.f180.ntmps []
    (Q2 off n c xs ((n+7) / 8) (Cj (AS ((AA xs off n).take i)*256^(n-i)) ((n+7) / 8)) (iA i) []):=by
   intro r
   induction r with
   | zero =>
    intro i hi
    obtain rfl:i=n:=by omega
    rw [Nat.sub_self,Nat.pow_zero,Nat.mul_one,List.take_of_length_le (by omega)]
    exact AZ [false] (Aq (AK Gx AY) AE Tryz.func180 (AGF ..) ⟨hw,by simp,trivial⟩ (AL (by kernel_rfl)) hb (fun _ h=>by cases h))
   | succ r ih =>
    intro i hi
    have ek:DT (n:Int) i=((n-1-i:Nat):Int):=UG hn (by omega)
    have ej:DJ (n:Int) i=(((n-1-i) / 8:Nat):Int):=by unfold DJ;rw [ek,N9];exact Al (by omega)
    have em:wI (8*Int.tmod ((n-1-i:Nat):Int) 8)=((8*((n-1-i) % 8):Nat):Int):=by rw [Qm,Al (by omega)];omega
    have em':AN false .u64 (wI (8*Int.tmod ((n-1-i:Nat):Int) 8))=((8*((n-1-i) % 8):Nat):Int):=by rw [em,CA,IntKind.wrap_u64];omega
    have hjL:(n-1-i) / 8<(n+7) / 8:=by omega
    have hlenw:∀ N,(Cj N ((n+7) / 8)).length=(n+7) / 8:=fun N=>by simp [Cj]
    have hwx:xs.getD (off+i) 0=(AA xs off n).getD i 0:=(GX (by omega)).symm
    have hxb:0≤(AA xs off n).getD i 0∧(AA xs off n).getD i 0<256:=by
     rw [List.getD_eq_getElem?_getD]
     cases h':(AA xs off n)[i]? with
     | none=>simp
     | some d=>exact hbd d (List.mem_of_getElem? h')
    refine AZ [true] (Ab (AK Gx AY) AE (AGE ..) ?_ (AL (by kernel_rfl)) hb (fun _ h=>by cases h) fun _=>?_)
    ·unfold pD
     rw [ej,ek,em',hlenw]
     refine ⟨hw,by simp;omega,hw,rfl,rfl,by simp only [decide_eq_true_eq];omega,by simp only [decide_eq_true_eq];omega,by simp only [decide_eq_true_eq];omega,by simp;omega,by simp only [decide_eq_true_eq];omega,by simp only [decide_eq_true_eq];omega,by simp only [decide_eq_true_eq];omega,by simp only [decide_eq_true_eq];omega,trivial⟩
    ·have hset:((Cj (AS ((AA xs off n).take i)*256^(n-i)) ((n+7) / 8)).set (0+(DJ n i).toNat*1) (Zh xs off n (Cj (AS ((AA xs off n).take i)*256^(n-i)) ((n+7) / 8)) i)) =
       Cj (AS ((AA xs off n).take (i+1))*256^(n-(i+1))) ((n+7) / 8):=by
      have ei:0+(((n-1-i) / 8:Nat):Int).toNat*1=(n-1-i) / 8:=by omega
      have eo:off+(i:Int).toNat*1=off+i:=by omega
      unfold Zh pC
      rw [ej,ek,em',ei,eo,hwx,nQ hjL]
      obtain ⟨X,hX⟩:=Int.eq_ofNat_of_zero_le hxb.1
      have hX2:X<256:=by omega
      rw [hX,CA,IntKind.wrap_u64,IntKind.wrap_u64,IntKind.wrap_u64,Int.toNat_natCast,Nat.min_eq_left (by omega)]
      have en:n-i=(n-1-i)+1:=by omega
      have en':n-(i+1)=n-1-i:=by omega
      have et:AS ((AA xs off n).take (i+1))*256^(n-(i+1))=AS ((AA xs off n).take i)*256^(n-1-i+1)+X*256^(n-1-i):=by
       rw [nK (by omega),hX,Int.toNat_natCast,en',Nat.add_mul,Nat.mul_assoc,← Nat.pow_succ']
      rw [et,en]
      obtain ⟨hh,B,w1,w2,w3,w4,w5⟩:=nM (M:=AS ((AA xs off n).take i)) (k:=n-1-i) hX2
      have hle:8*((n-1-i) % 8)+8≤64:=by omega
      have hs64:hh*2^(8*((n-1-i) % 8)+8)+B<18446744073709551616:=by
       have:=Nat.mod_lt ((AS ((AA xs off n).take i)*256^(n-1-i+1)+X*256^(n-1-i)) / 2^(64*((n-1-i) / 8))) (show 0<2^64 by decide)
       rw [w5] at this
       exact this
      refine nP ?_ fun j hj=>?_
      ·have hB64:X*2^(8*((n-1-i) % 8))<2^64:=by
        rw [w2];exact Nat.lt_of_lt_of_le w3 (Nat.pow_le_pow_right (by decide) hle)
       have ex:((X:Int) % 18446744073709551616*2^(8*((n-1-i) % 8))) % 18446744073709551616=(B:Int):=by
        have a1:((X:Int) % 18446744073709551616)=(X:Int):=by omega
        have a2:((X:Int)*2^(8*((n-1-i) % 8)))=((X*2^(8*((n-1-i) % 8)):Nat):Int):=by rw [Int.natCast_mul,Int.natCast_pow];rfl
        rw [a1,a2,w2]
        rw [w2] at hB64
        have:B<18446744073709551616:=hB64
        omega
       rw [ex]
       unfold AB
       rw [w5,w1]
       omega
      ·unfold AB
       rw [nL hX2 hj]
     rw [hset,Al (z:=(i:Int)+1) (by omega)]
     exact ih (i+1) (by omega)
  have:=loop n 0 (by omega)
  rw [List.take_zero,show AS []=0 from rfl,Nat.zero_mul,nS] at this
  exact nW this fun e w h=>QJ (nV hfin) h
theorem AGH:A7 Tryz.prog 180 wrdSpec:=by
 refine E7 Tryz.func180 (by kernel_rfl) (by kernel_rfl) fun args H fr path r h=>?_
 unfold wrdSpec at h
 split at h
 case h_2=>cases h
 rename_i k off n c
 split at h
 case h_2=>cases h
 rename_i ty cs o hk
 split at h
 case h_2=>cases h
 rename_i xs hxs
 injection h with h
 refine ⟨[k],[AJ 0 off n c],Ak xs,1,1,[],_,_,_,path,h.symm,fun β us w ha hg hc=>?_⟩
 obtain ⟨u1,us1,r1,ha,rfl⟩:=ha
 obtain ⟨g1,g2,g3⟩:=C0 hg hk hxs
 exact ⟨AGG g1 (Nat.le_of_ble_eq_true hc.1) (Nat.le_of_ble_eq_true hc.2.1),by kernel_rfl,⟨u1,_,r1,ha,rfl⟩,g2,g3⟩
noncomputable def SY:List (FuncId×ASpec):=(240,cmpSpec)::(182,roctSpec)::(180,wrdSpec)::SX
theorem Zi:AU Tryz.prog SY:=⟨AF6,AGB,AGH,Gx⟩
def pE:List Int:=[0xb9feffffffffaaa9,0x1eabfffeb153ffff,0x6730d2a0f6b0f624,0x64774b84f38512bf,0x4b1ba7b6434bacd7,0x1a0111ea397fe69a]
theorem AGI:AF (AA pE 0 6)=pN-2:=by kernel_rfl
theorem AGJ (x:Nat):Ac Tryz.prog (AI SY K0) Tryz.f189 [AW x] [] 300=some (F' 2,AW (Dg x (AF (AA pE 0 6)))):=by kernel_rfl
theorem pF (x:Nat):AX Tryz.prog 189 [AW x] (AW (BO x)):=by
 have h:=Ag (AK Zi AY) AE Tryz.func189 (AGJ x) (Iz 2) rfl
 rw [AGI] at h
 exact h
theorem AGK (a:Nat):Ac Tryz.prog (AI SY K0) Tryz.f247 [AW a] [] 3000=some (F' 99,.val true ((BK (AF (AA (GY (a % pN)) 0 6)) 48).map fun d=>.v (.int .u8 d))):=by kernel_rfl
theorem pG {β:Env}:∀ {ds:List Int} {l:List Value},AM β (ds.map fun d=>.v (.int .u8 d)) l→AM β [.seq .u8 ds] l
 | ds,l,h=>by
  have key:∀ (ds:List Int) (l:List Value),AM β (ds.map fun d=>.v (.int .u8 d)) l→l=ds.map (.int .u8)∧∀ d∈ds,has .u8 d:=by
   intro ds
   induction ds with
   | nil=>intro l h;exact ⟨h,by simp⟩
   | cons d r ih =>
    rintro l ⟨l1,l2,⟨h1,h2⟩,h3,h4⟩
    obtain ⟨i1,i2⟩:=ih l2 h3
    subst h1;subst i1;subst h4
    refine ⟨rfl,fun x hx=>?_⟩
    rcases List.mem_cons.1 hx with rfl | hx
    ·exact h2.2
    ·exact i2 x hx
  obtain ⟨h1,h2⟩:=key ds l h
  exact ⟨l,[],⟨h1,h2⟩,rfl,by simp⟩
theorem AGL (a:Nat):AX Tryz.prog 247 [AW a] (Qr (a % pN)):=by
 have h:=Ag (AK Zi AY) AE Tryz.func247 (AGK a) (Iz 99) rfl
 rw [lI (GU a)] at h
 exact C_ h fun u ⟨l,q,e⟩=>⟨l,pG q,e⟩
theorem AGM:A7 Tryz.prog 142 (Qs fun n l=>Kz n (AS l)):=n9 Tryz.func142 (by kernel_rfl) (by kernel_rfl) (fun _ _=>rfl) (fun _ _ _ _ _ hl hn=>ZK hl hn)
noncomputable def SZ:List (FuncId×ASpec):=(189,Ar (Ec fun x=>AW (BO x)))::(247,Ar (Ec fun x=>Qr (x % pN)))::(142,ES (Qs fun n l=>Kz n (AS l)))::(144,ES powSpec)::(244,ES powSpec)::SY
theorem AGN:AU Tryz.prog SZ:=⟨Au Tryz.func189 (by kernel_rfl) (by kernel_rfl) (FU fun x _=>pF x),Au Tryz.func247 (by kernel_rfl) (by kernel_rfl) (FU fun x _=>AGL x),E8 AGM,E8 lC,E8 o6,Zi⟩
end Go.Proofs.YtjlcdlekmpjjnaaGreat
namespace Go.Proofs.YtjlcdlekmpjjnaaGreat
open Ex
set_option maxRecDepth 100000
set_option maxHeartbeats 4000000
theorem Gy (x n:Nat):(BK x n).length=n:=by simp [BK]
theorem pI (x n:Nat):BK x (n+1)=EA x n::BK x n:=by
 unfold BK
 rw [List.range_succ_eq_map,List.map_cons,List.map_map]
 congr 1
 refine List.map_congr_left fun i hi=>?_
 have:i<n:=List.mem_range.1 hi
 simp only [Function.comp]
 congr 1;omega
theorem pJ:∀ (n x:Nat),AS (BK x n)=x % 256^n
 | 0,x=>by simp [BK,AS,Nat.mod_one]
 | n+1,x=>by
  rw [pI]
  simp only [AS]
  rw [Gy,pJ n x,Nat.pow_succ,Nat.mod_mul]
  unfold EA
  rw [Int.toNat_natCast,Nat.mul_comm,Nat.add_comm]
end Go.Proofs.YtjlcdlekmpjjnaaGreat
namespace Go.Proofs.YtjlcdlekmpjjnaaGreat
open Ex
open Go.RowKit (Below)
set_option maxRecDepth 100000
set_option maxHeartbeats 4000000
def EU (ls:List Ex.Loc):Env:=fun k=>ls[k]?
theorem UX (ls:List Ex.Loc) (L:Ex.Loc):Env.le (EU ls) (EU (ls++[L])):=fun b X h=>by
 have hb:b<ls.length:=by
  rcases Nat.lt_or_ge b ls.length with q | q
  ·exact q
  ·simp only [EU] at h;rw [List.getElem?_eq_none q] at h;cases h
 simp only [EU] at h ⊢
 rw [List.getElem?_append_left hb];exact h
theorem UY (ls:List Ex.Loc) (L:Ex.Loc):EU (ls++[L]) ls.length=some L:=by simp [EU]
structure ArgsOk (W:World) (ls:List Ex.Loc) (bs:List Blk):Prop where
 len:ls.length=bs.length
 blk:∀ (j:Nat) (b:Blk),bs[j]? = some b→b.ty=B5∧Dn (EU ls) b j W
 lt:∀ (j B:Nat) (n:Nat×Nat),ls[j]? = some (Ex.Loc.at_ B n)→B<W.heap.size
theorem ArgsOk.nil (W:World):ArgsOk W [] []:=⟨rfl,fun j b h=>by simp at h,fun j B n h=>by simp at h⟩
theorem ArgsOk.good {W:World} {ls:List Ex.Loc} {bs:List Blk} (h:ArgsOk W ls bs):Ex.Good (EU ls) (MM 0 bs) W:=by
 refine ⟨fun b blk hb=>?_,fun b b' B n n' h1 _ _ _=>?_,fun b B n hb=>h.lt b B n hb⟩
 ·obtain ⟨_,hj⟩:=KU hb
  exact (h.blk b blk (by simpa using hj)).2
 ·obtain ⟨d,hd,hr⟩:=E0 h1
  obtain ⟨_,hj⟩:=KU hd
  exact absurd (h.blk b d (by simpa using hj)).1 hr
theorem ArgsOk.none {W:World} {ls:List Ex.Loc} {bs:List Blk} (h:ArgsOk W ls bs):∀ b,bs.length≤b→EU ls b=none:=fun b hb=>by
 simp only [EU]
 rw [List.getElem?_eq_none (by rw [h.len];exact hb)]
theorem ArgsOk.snoc {W:World} {ls:List Ex.Loc} {bs:List Blk} (h:ArgsOk W ls bs) {L:Ex.Loc} {b:Blk} (hb:Dn (EU (ls++[L])) b ls.length W) (hr:b.ty=B5) (hl:∀ B n,L=Ex.Loc.at_ B n→B<W.heap.size):ArgsOk W (ls++[L]) (bs++[b]):=by
 refine ⟨by simp [h.len],fun j d hd=>?_,fun j B n hj=>?_⟩
 ·rcases Nat.lt_or_ge j bs.length with q | q
  ·rw [List.getElem?_append_left q] at hd
   exact ⟨(h.blk j d hd).1,SK (UX ls L) (h.blk j d hd).2⟩
  ·rw [List.getElem?_append_right q] at hd
   have e:j=bs.length:=by
    rcases Nat.eq_or_lt_of_le q with q' | q'
    ·exact q'.symm
    ·rw [List.getElem?_eq_none (by simp;omega)] at hd;cases hd
   subst e
   simp at hd
   subst hd
   exact ⟨hr,by rw [← h.len];exact hb⟩
 ·rcases Nat.lt_or_ge j ls.length with q | q
  ·rw [List.getElem?_append_left q] at hj;exact h.lt j B n hj
  ·rw [List.getElem?_append_right q] at hj
   have e:j-ls.length=0:=by
    rcases Nat.eq_zero_or_pos (j-ls.length) with q' | q'
    ·exact q'
    ·rw [List.getElem?_eq_none (by simp;omega)] at hj;cases hj
   rw [e] at hj
   simp at hj
   exact hl B n hj
theorem AGO {P:Program} {Bg:TypeId→Bool}:∀ (d:Nat) {e:TypeId} {count off n:Nat},rowAt P Bg d e count off n=true→off≤count*P.cellsOf e
 | 0,_,_,_,_,h=>by simp [rowAt] at h
 | d+1,e,count,off,n,h=>by
  by_cases hs:P.cellsOf e=0
  ·unfold rowAt at h
   simp [hs] at h
  ·unfold rowAt at h
   rw [if_neg hs] at h
   have hpos:0<P.cellsOf e:=Nat.pos_of_ne_zero hs
   have hdm:=Nat.div_add_mod off (P.cellsOf e)
   have hlt:=Nat.mod_lt off hpos
   have key:off / P.cellsOf e<count∨(off % P.cellsOf e=0∧off / P.cellsOf e≤count):=by
    simp only [Bool.or_eq_true,Bool.and_eq_true,decide_eq_true_eq,beq_iff_eq] at h
    rcases h with ⟨⟨h1,h2⟩,_⟩ | ⟨h1,_⟩
    ·exact .inr ⟨h1,by omega⟩
    ·exact .inl h1
   rcases key with q | ⟨q1,q2⟩
   ·have:=Nat.mul_le_mul_left (P.cellsOf e) (show off / P.cellsOf e+1≤count from q)
    rw [Nat.mul_add,Nat.mul_one] at this
    rw [Nat.mul_comm count]
    omega
   ·have:=Nat.mul_le_mul_left (P.cellsOf e) q2
    rw [Nat.mul_comm count]
    omega
theorem pK {P:Program}:∀ (d:Nat) {e u:TypeId} {count off n:Nat},liesAt P d e count off u n=true→off≤count*P.cellsOf e
 | 0,_,_,_,_,_,h=>by simp [liesAt] at h
 | d+1,e,u,count,off,n,h=>by
  unfold liesAt at h
  rw [Bool.or_eq_true] at h
  rcases h with h | h
  ·exact AGO _ h
  ·split at h
   ·exact pK d h
   ·cases h
theorem AGP {H:Type} {enc:TypeId×Value→H} {W:World} {base:Nat} {t e:TypeId} {k:IntKind} {v:Value} {d:DataW H} {p:List MemPlace} (hu:Tryz.prog.underlying t=some (.slice e)) (he:Tryz.prog.underlying e=some (.int k)) (hc:Tryz.prog.cellsOf e=1)
  (hv:Value.okWide Tryz.prog W .any base t v) (ht:DataW.Trod enc Tryz.prog W 0 (fun _=>true) true t v d p) :
  ∃ (L:Ex.Loc) (zs:List Int) (n m:Nat),(∀ x∈zs,has k x)∧n≤zs.length∧n≤maxLen∧(∀ B q,L=Ex.Loc.at_ B q→B<W.heap.size)∧∀ ls:List Ex.Loc,AO (EU (ls++[L])) (.val false [.sl ls.length 0 n m]) v∧Dn (EU (ls++[L])) (Ad [.seq k zs]) ls.length W:=by
 obtain ⟨fuel,hf⟩:=ht
 obtain ⟨a0,len0,cap0,rfl⟩:=Go.WideShapes.okWide_slice hu hv
 have hcells:(Value.slice a0 len0 cap0).cells=#[Value.slice a0 len0 cap0]:=rfl
 rw [hcells] at hf
 rcases Go.ChangeShapes.open_ints hu he hc hf with ⟨hcs,_⟩ | ⟨a,len,cap,zs,hcs,hb,hl,hm,hz,_,hcell,hwf⟩
 ·have e1:Value.slice a0 len0 cap0=.slice none 0 0:=by simpa using hcs
  rw [e1]
  refine ⟨.nil,[],0,0,by simp,by simp,Nat.zero_le _,(fun B q h=>by cases h),fun ls=>⟨?_,.inr ⟨UY _ _,.inr rfl,⟨[],[],⟨rfl,by simp⟩,rfl,rfl⟩⟩⟩⟩
  exact Aw (.inr ⟨UY _ _,rfl,rfl,rfl,rfl⟩)
 ·have e1:Value.slice a0 len0 cap0=.slice (some a) len cap:=by simpa using hcs
  rw [e1] at hv ⊢
  simp only [if_true] at hz
  have hk:Cell.ok Tryz.prog W .any base t (.slice (some a) len cap):=by
   have:=hv
   simp only [Value.okWide,hu,Cell.okWide] at this
   exact this
  simp only [Cell.ok,hu] at hk
  obtain ⟨_,_,_,hspot,row,cells,hsh,hlies⟩:=hk
  obtain ⟨c,fz,hblk,hsz⟩:∃ c fz,W.heap[a.block]? = some (.cells c row fz)∧cells=c.size:=by
   unfold World.shape? at hsh
   split at hsh
   ·rename_i c el fz hq
    injection hsh with hsh;injection hsh with h1 h2
    exact ⟨c,fz,by rw [hq,h1],h2.symm⟩
   ·cases hsh
  have hoff:a.off≤c.size:=by
   have h1:=pK _ hlies
   have h2:=Nat.div_mul_le_self cells (Tryz.prog.cellsOf row)
   omega
  have AG:∀ i,i<zs.length→c[a.off+i]? = some (.int k (zs.getD i 0)):=by
   intro i hi
   have h1:=hcell i hi
   have e2:a.add i=⟨a.block,a.off+i,none⟩:=by
    unfold Addr.add
    split
    ·rename_i h0;subst h0
     cases a;simp only at hspot;simp [hspot]
    ·rfl
   rw [e2] at h1
   simp only [World.cell?,hblk] at h1
   simpa using h1
  have hend:a.off+zs.length≤c.size:=by
   rcases Nat.eq_zero_or_pos zs.length with h0 | hp
   ·omega
   ·have:=(Array.getElem?_eq_some_iff.1 (AG (zs.length-1) (by omega))).1
    omega
  have hlist:c.toList=c.toList.take a.off++(zs.map (.int k)++c.toList.drop (a.off+zs.length)):=by
   have hmid:(c.toList.drop a.off).take zs.length=zs.map (.int k):=by
    refine List.ext_getElem? fun i=>?_
    by_cases hi:i<zs.length
    ·rw [List.getElem?_take_of_lt hi,List.getElem?_drop,Array.getElem?_toList,AG i hi,List.getElem?_map,List.getElem?_eq_getElem hi,List.getD_eq_getElem?_getD,List.getElem?_eq_getElem hi];rfl
    ·rw [List.getElem?_eq_none (by simp;omega),List.getElem?_eq_none (by simp;omega)]
   rw [← hmid,← List.drop_drop,List.take_append_drop,List.take_append_drop]
  have ea:a=⟨a.block,a.off,none⟩:=by cases a;simp only at hspot;simp [hspot]
  have hhas:∀ x∈zs,has k x:=fun x hx=>ABZ (hwf x hx)
  refine ⟨.at_ a.block (c.size,a.off),zs,len,cap,hhas,by omega,Nat.le_trans hl hm,fun B q h=>?_,fun ls=>⟨?_,.inl ⟨a.block,(c.size,a.off),zs.map (.int k),c.toList.drop (a.off+zs.length),c.toList.take a.off,row,fz,UY _ _,⟨_,[],⟨rfl,hhas⟩,rfl,by simp⟩,?_,?_,fun hr=>absurd rfl hr⟩⟩⟩
  ·injection h with h1 h2
   rw [← h1]
   exact (Array.getElem?_eq_some_iff.1 hblk).1
  ·refine Aw (.inl ⟨a.block,(c.size,a.off),UY _ _,?_⟩)
   rw [Nat.add_zero,← ea]
  ·rw [← hlist];exact hblk
  ·simp;omega
theorem AGQ {f:FuncId} {fn:Func} (h:∀ (H:Type) (enc:TypeId×Value→H) (us:List Value) (W:World) (base:Nat) (ds:List (DataW H)) (ps:List MemPlace),(∀ (j:Nat) t v,fn.params[j]? = some t→us[j]? = some v→Value.okWide Tryz.prog W .any base t v) →
  DataW.TrodAll enc Tryz.prog W 0 (fun _=>true) true fn.params.toList us ds ps→∃ ls bs args,ArgsOk W ls bs∧A9 (EU ls) args us∧Ah Tryz.prog f args (MM 0 bs) bs.length [] (BV true) []):YI Tryz.prog f fn:=by
 intro H enc us W base ds ps hv hA _ _
 obtain ⟨ls,bs,args,ho,ha,hc⟩:=h H enc us W base ds ps hv hA
 refine (hc (EU ls) us W ha ho.good ho.none).mono ?_
 rintro e w' ⟨u,β,rfl,out⟩
 obtain ⟨l1,l2,⟨h1,_⟩,h3,h4⟩:=out.val
 simp only [AM] at h3
 subst h1;subst h3
 injection h4 with h4 _
 refine ⟨by rw [h4],⟨out.os,out.tape,out.output,out.size,fun k hk=>out.frame k hk (fun _ _ h=>by cases h)⟩⟩
end Go.Proofs.YtjlcdlekmpjjnaaGreat
namespace Go.Proofs.YtjlcdlekmpjjnaaGreat
open Ex Num
set_option maxRecDepth 100000
set_option maxHeartbeats 4000000
def Bw:AV→Option (Nat×Nat×Nat)
 | .val false [.sl k off n _]=>some (k,off,n)
 | .val false [.sx k n _]=>some (k,0,n)
 | _=>none
theorem C3 {β:Env} {A:AV} {k off n:Nat} {u:Value} (h:Bw A=some (k,off,n)) (hr:AO β A u):∃ m,AO β (AJ k off n m) u:=by
 unfold Bw at h
 split at h
 ·rename_i k' off' n' m
  injection h with h;injection h with h1 h;injection h with h2 h3
  subst h1;subst h2;subst h3
  exact ⟨m,hr⟩
 ·rename_i k' n' sz
  injection h with h;injection h with h1 h;injection h with h2 h3
  subst h1;subst h2;subst h3
  obtain ⟨l1,l2,h1,h2,h3⟩:=hr
  rcases h1 with ⟨B,q,cap,q1,q2,q3,q4⟩ | ⟨q1,q2,q3⟩
  ·exact ⟨cap,l1,l2,.inl ⟨B,(q,0),q1,by rw [q2]⟩,h2,h3⟩
  ·exact ⟨0,l1,l2,.inr ⟨q1,rfl,q2,rfl,q3⟩,h2,h3⟩
 ·cases h
theorem CG {f:FuncId} {fn:Func} (hfn:Tryz.prog.funcs[f]? = some fn) (hbd:fn.body.isSome=true) (hname:(fn.name=="runtime.NumGoroutine")=false) {s:ASpec}
  (h:∀ args H fr path r,s args H fr path=some r→∃ (ρ:List Nat) (k0 nw:Nat) (W:List Nat) (val:AV) (H1:Heap) (conds:List (Bool×Bool)) (path':List Bool),
   r=A8 ρ k0 fr nw W val H1 conds path'∧(∀ β us w,A9 β args us→Ex.Good β H w→AQ conds→∃ args0 H0,Ah Tryz.prog f args0 H0 k0 W val H1∧C6 k0 nw W val H1=true∧A9 (A4 β ρ k0) args0 us∧Ex.Good (A4 β ρ k0) H0 w∧(∀ k,k<k0→∃ X,β (nth ρ k)=some X))):A7 Tryz.prog f s:=by
 intro args H fr path r β us w hs hc ha hg hf
 obtain ⟨ρ,k0,nw,W,val,H1,conds,path',rfl,hh⟩:=h args H fr path r hs
 obtain ⟨args0,H0,hcan,hb,ha0,hg0,hdef⟩:=hh β us w ha hg hc
 refine Px hfn hbd hname (Calls.mono (hcan (A4 β ρ k0) us w ha0 hg0 fun b hb=>?_) ?_)
 ·have:Nat.blt b k0=false:=by cases h:Nat.blt b k0 with | false=>rfl | true=>have:=Ay.1 h;omega
  simp [A4,this]
 ·rintro e w' ⟨u,β1,rfl,ho⟩
  obtain ⟨β',he⟩:=jJ (conds:=conds) (path:=path') hg ho hb hf hdef
  exact ⟨u,β',rfl,he⟩
theorem Bl {β:Env} {k j off n m:Nat} {ρ:List Nat} {k0:Nat} {u:Value} (hj:j<k0) (hn:nth ρ j=k) (h:AO β (AJ k off n m) u):AO (A4 β ρ k0) (AJ j off n m) u:=by
 obtain ⟨l1,l2,h1,h2,h3⟩:=h
 refine ⟨l1,l2,?_,h2,h3⟩
 have e:A4 β ρ k0 j=β k:=by rw [HO hj,hn]
 rcases h1 with ⟨B,q,q1,q2⟩ | ⟨q1,q2⟩
 ·exact .inl ⟨B,q,by rw [e];exact q1,q2⟩
 ·exact .inr ⟨by rw [e];exact q1,q2⟩
def OF (g:Nat→List Int→AV):ASpec:=fun args H fr path =>
 match args with
 | [S]=>match Bw S with
  | some (k,off,n)=>match AG H k with
   | some ⟨_,cs,_⟩=>match As .u8 cs with
    | some xs=>some (A8 [k] 1 fr 0 [] (g n (AA xs off n)) [] [(Nat.ble (off+n) xs.length,true),(AH .i64 n,true)] path)
    | none=>none
   | _=>none
  | none=>none
 | _=>none
theorem Zj {f:FuncId} {fn:Func} {g:Nat→List Int→AV} (hfn:Tryz.prog.funcs[f]? = some fn) (hb:fn.body.isSome=true) (hname:(fn.name=="runtime.NumGoroutine")=false) (hk:∀ n l,C6 1 0 [] (g n l) []=true)
  (h:∀ (off n m:Nat) (xs:List Int),(∀ d∈xs,0≤d∧d<256)→off+n≤xs.length→AH .i64 n=true→Ah Tryz.prog f [AJ 0 off n m] (Ak xs) 1 [] (g n (AA xs off n)) []):A7 Tryz.prog f (OF g):=by
 refine CG hfn hb hname fun args H fr path r hs=>?_
 unfold OF at hs
 split at hs
 case h_2=>cases hs
 rename_i S
 split at hs
 case h_2=>cases hs
 rename_i k off n hS
 split at hs
 case h_2=>cases hs
 rename_i ty cs o hk'
 split at hs
 case h_2=>cases hs
 rename_i xs hxs
 injection hs with hs
 refine ⟨[k],1,0,[],_,_,_,path,hs.symm,fun β us w ha hg hc=>?_⟩
 obtain ⟨u1,us1,r1,ha,rfl⟩:=ha
 obtain ⟨m,r1⟩:=C3 hS r1
 obtain ⟨g1,g2,g3⟩:=C0 hg hk' hxs
 exact ⟨[AJ 0 off n m],Ak xs,h off n m xs g1 (Nat.le_of_ble_eq_true hc.1) hc.2.1,hk _ _,⟨u1,_,Bl (by omega) rfl r1,ha,rfl⟩,g2,g3⟩
def Zk (g:Nat→List Int→AV):ASpec:=fun args H fr path =>
 match args with
 | [S]=>match Bw S with
  | some (k,off,n)=>match AG H k with
   | some ⟨_,cs,_⟩=>match As .u64 cs with
    | some xs=>some (A8 [k] 1 fr 0 [] (g n (AA xs off n)) [] [(Nat.ble (off+n) xs.length,true),(Nat.ble n 1125899906842624,true)] path)
    | none=>none
   | _=>none
  | none=>none
 | _=>none
theorem AGR {f:FuncId} {fn:Func} {g:Nat→List Int→AV} (hfn:Tryz.prog.funcs[f]? = some fn) (hb:fn.body.isSome=true) (hname:(fn.name=="runtime.NumGoroutine")=false) (hk:∀ n l,C6 1 0 [] (g n l) []=true)
  (h:∀ (off n m:Nat) (xs:List Int),(∀ d∈xs,0≤d∧d<18446744073709551616)→off+n≤xs.length→n≤1125899906842624→Ah Tryz.prog f [AJ 0 off n m] (BB xs) 1 [] (g n (AA xs off n)) []):A7 Tryz.prog f (Zk g):=by
 refine CG hfn hb hname fun args H fr path r hs=>?_
 unfold Zk at hs
 split at hs
 case h_2=>cases hs
 rename_i S
 split at hs
 case h_2=>cases hs
 rename_i k off n hS
 split at hs
 case h_2=>cases hs
 rename_i ty cs o hk'
 split at hs
 case h_2=>cases hs
 rename_i xs hxs
 injection hs with hs
 refine ⟨[k],1,0,[],_,_,_,path,hs.symm,fun β us w ha hg hc=>?_⟩
 obtain ⟨u1,us1,r1,ha,rfl⟩:=ha
 obtain ⟨m,r1⟩:=C3 hS r1
 obtain ⟨g1,g2,g3⟩:=H6 hg hk' hxs
 exact ⟨[AJ 0 off n m],BB xs,h off n m xs g1 (Nat.le_of_ble_eq_true hc.1) (Nat.le_of_ble_eq_true hc.2.1),hk _ _,⟨u1,_,Bl (by omega) rfl r1,ha,rfl⟩,g2,g3⟩
noncomputable def powSp:ASpec:=fun args H fr path =>
 match args with
 | [.val true a,S]=>match Bw S with
  | some (k,off,n)=>match Br 6 a,AG H k with
   | some x,some ⟨_,cs,_⟩=>match As .u64 cs with
    | some xs=>some (A8 [k] 1 fr 0 [] (AW (Dg x (AF (AA xs off n)))) [] [(Nat.ble (off+n) xs.length,true),(Nat.ble n 1125899906842624,true)] path)
    | none=>none
   | _,_=>none
  | none=>none
 | _=>none
theorem pL {f:FuncId} {fn:Func} (hfn:Tryz.prog.funcs[f]? = some fn) (hb:fn.body.isSome=true) (hname:(fn.name=="runtime.NumGoroutine")=false)
  (h:∀ (off n m:Nat) (xs:List Int) (x:Nat),(∀ d∈xs,0≤d∧d<18446744073709551616)→off+n≤xs.length→n≤1125899906842624→Ah Tryz.prog f (I1 x off n m) (BB xs) 1 [] (AW (Dg x (AF (AA xs off n)))) []):A7 Tryz.prog f powSp:=by
 refine CG hfn hb hname fun args H fr path r hs=>?_
 unfold powSp at hs
 split at hs
 case h_2=>cases hs
 rename_i a S
 split at hs
 case h_2=>cases hs
 rename_i k off n hS
 split at hs
 case h_2=>cases hs
 rename_i x ty cs o hx hk'
 split at hs
 case h_2=>cases hs
 rename_i xs hxs
 injection hs with hs
 refine ⟨[k],1,0,[],_,_,_,path,hs.symm,fun β us w ha hg hc=>?_⟩
 obtain ⟨u1,us1,r1,⟨u2,us2,r2,ha,rfl⟩,rfl⟩:=ha
 obtain ⟨m,r2⟩:=C3 hS r2
 obtain ⟨g1,g2,g3⟩:=H6 hg hk' hxs
 refine ⟨I1 x off n m,BB xs,h off n m xs x g1 (Nat.le_of_ble_eq_true hc.1) (Nat.le_of_ble_eq_true hc.2.1),by kernel_rfl,⟨u1,_,?_,⟨u2,us2,Bl (by omega) rfl r2,ha,rfl⟩,rfl⟩,g2,g3⟩
 obtain ⟨l,q,rfl⟩:=r1;exact ⟨l,Df hx q,rfl⟩
noncomputable def SB:List (FuncId×ASpec):=(142,ES (OF fun n l=>Kz n (AS l)))::(144,ES powSp)::(244,ES powSp)::SZ
theorem AGS:AU Tryz.prog SB:=⟨E8 (Zj Tryz.func142 (by kernel_rfl) (by kernel_rfl) (fun _ _=>rfl) (fun _ _ _ _ _ hl hn=>ZK hl hn)),E8 (pL Tryz.func144 (by kernel_rfl) (by kernel_rfl) fun _ _ _ _ x hx hl hn=>lB hx hl hn x),E8 (pL Tryz.func244 (by kernel_rfl) (by kernel_rfl) fun _ _ _ _ x hx hl hn=>o5 hx hl hn x),AGN⟩
def tt:Nat→List (Bool×Bool)→List (Bool×Bool)
 | 0,r=>r
 | n+1,r=>(true,true)::tt n r
theorem Aj:∀ (n:Nat) {r:List (Bool×Bool)},AQ r→AQ (tt n r)
 | 0,_,h=>h
 | n+1,_,h=>⟨rfl,Aj n h⟩
theorem A_ {S:List (FuncId×ASpec)} {K:List (TypeId×List (Option IntKind))} (hS:AU Tryz.prog S) (hK:In Tryz.prog K) {f:FuncId} {fn:Func} (hfn:Tryz.prog.funcs[f]? = some fn) (hb:fn.body.isSome=true) {args:List AV} {H H1:Heap} {fuel k0:Nat} {ks:List Nat} {path:List Bool} {conds:List (Bool×Bool)} {v:AV}
  (hlen:Nat.ble (HK args) fn.ntmps=true) (h:AP Tryz.prog (AI S K) fn fuel k0 ks (Af fn args H k0 path)=some (conds,[],v,H1)) (hw:i9 fn.ntmps (Af fn args H k0 path).s=true) (hc:AQ conds):Ah Tryz.prog f args H k0 [] v H1 :=
 Av (path:=path) hfn hb hlen fun _ _ h0=>Aq (AK hS hK) AE hfn h hc (AL hw) h0 (fun _ h=>by cases h)
section
variable {H:Type} {enc:TypeId×Value→H} {W:World} {base:Nat} {v:Value} {d:DataW H} {p:List MemPlace}
theorem Zl:Tryz.prog.underlying 28=some (.slice 5):=by kernel_rfl
theorem AGT:Tryz.prog.underlying 5=some (.int .u8):=by kernel_rfl
theorem AGU:Tryz.prog.cellsOf 5=1:=by kernel_rfl
theorem AGV {n:Nat} (h:n≤maxLen):AH .i64 (n:Int)=true:=by
 unfold maxLen at h
 simp only [AH,Bool.and_eq_true,decide_eq_true_eq];omega
theorem AGW (hv:Value.okWide Tryz.prog W .any base 28 v) (ht:DataW.Trod enc Tryz.prog W 0 (fun _=>true) true 28 v d p) {ls:List Ex.Loc} {bs:List Blk} (ho:ArgsOk W ls bs) :
  ∃ (L:Ex.Loc) (zs:List Int) (n m:Nat),(∀ x∈zs,0≤x∧x<256)∧n≤zs.length∧AH .i64 (n:Int)=true∧AO (EU (ls++[L])) (AJ ls.length 0 n m) v∧ArgsOk W (ls++[L]) (bs++[Ad [.seq .u8 zs]]):=by
 obtain ⟨L,zs,n,m,h1,h2,h3,h4,h5⟩:=AGP Zl AGT AGU hv ht
 exact ⟨L,zs,n,m,fun x hx=>nZ (h1 x hx),h2,AGV h3,(h5 ls).1,ho.snoc (h5 ls).2 rfl h4⟩
end
noncomputable def SC:List (FuncId×ASpec):=SB
theorem pM:AU Tryz.prog SC:=AGS
theorem AGX (a:Nat):Ac Tryz.prog (AI SC K0) Tryz.f192 [AW a] [] 300=some (tt 4 [],BV (decide (0<Cb (AF (AA (GY (a % pN)) (0+0*1) (6-0))) (AF (AA (GY (Cr a)) (0+0*1) (6-0)))))):=by kernel_rfl
theorem AGY (x:Nat):AX Tryz.prog 192 [AW x] (BV (BN x)):=by
 have h:=Ag (AK pM AY) AE Tryz.func192 (AGX x) (Aj 4 trivial) rfl
 rw [Kp (GU x),Kp (Nat.lt_trans (Ys x) (by decide))] at h
 have e:decide (0<Cb (x % pN) (Cr x))=BN x:=by
  unfold Cb BN
  by_cases h1:x % pN<Cr x
  ·rw [if_pos h1,decide_eq_false (by omega),decide_eq_false (by omega)]
  ·by_cases h2:Cr x<x % pN
   ·rw [if_neg h1,if_pos h2,decide_eq_true h2];rfl
   ·rw [if_neg h1,if_neg h2,decide_eq_false h2];rfl
 rw [e] at h
 exact h
noncomputable def SD:List (FuncId×ASpec):=(192,Ar (Ec fun x=>BV (BN x)))::SC
theorem AGZ:AU Tryz.prog SD:=⟨Au Tryz.func192 (by kernel_rfl) (by kernel_rfl) (FU fun x _=>AGY x),pM⟩
noncomputable def SE:List (FuncId×ASpec):=SD
theorem Zm:AU Tryz.prog SE:=AGZ
end Go.Proofs.YtjlcdlekmpjjnaaGreat
namespace Go.Proofs.YtjlcdlekmpjjnaaGreat.Rg
class CR (F:Type) extends Add F,Mul F,Neg F,Sub F,Zero F,One F where
 add_assoc:∀ a b c:F,(a+b)+c=a+(b+c)
 add_comm:∀ a b:F,a+b=b+a
 zero_add:∀ a:F,0+a=a
 neg_add:∀ a:F,-a+a=0
 mul_assoc:∀ a b c:F,(a*b)*c=a*(b*c)
 mul_comm:∀ a b:F,a*b=b*a
 one_mul:∀ a:F,1*a=a
 add_mul:∀ a b c:F,(a+b)*c=a*c+b*c
 sub_eq:∀ a b:F,a-b=a+-b
section
variable {F:Type} [CR F]
theorem add_assoc (a b c:F):(a+b)+c=a+(b+c):=CR.add_assoc a b c
theorem add_comm (a b:F):a+b=b+a:=CR.add_comm a b
theorem mul_assoc (a b c:F):(a*b)*c=a*(b*c):=CR.mul_assoc a b c
theorem mul_comm (a b:F):a*b=b*a:=CR.mul_comm a b
theorem zero_add (a:F):0+a=a:=CR.zero_add a
theorem add_zero (a:F):a+0=a:=by rw [add_comm,zero_add]
theorem neg_add (a:F):-a+a=0:=CR.neg_add a
theorem add_neg (a:F):a+-a=0:=by rw [add_comm,neg_add]
theorem one_mul (a:F):1*a=a:=CR.one_mul a
theorem mul_one (a:F):a*1=a:=by rw [mul_comm,one_mul]
theorem add_mul (a b c:F):(a+b)*c=a*c+b*c:=CR.add_mul a b c
theorem mul_add (a b c:F):a*(b+c)=a*b+a*c:=by rw [mul_comm,add_mul,mul_comm b,mul_comm c]
theorem sub_eq (a b:F):a-b=a+-b:=CR.sub_eq a b
theorem pO {a b c:F} (h:a+b=a+c):b=c:=by
 have:=congrArg (fun z=>-a+z) h
 simpa [← add_assoc,neg_add,zero_add] using this
theorem zero_mul (a:F):0*a=0:=by
 have h:0*a+0*a=0*a+0:=by rw [← add_mul,zero_add,add_zero]
 exact pO h
theorem mul_zero (a:F):a*0=0:=by rw [mul_comm,zero_mul]
theorem IB {a b:F} (h:a+b=0):b=-a:=pO (a:=a) (by rw [h,add_neg])
theorem UZ (a b:F):-a*b=-(a*b):=IB (by rw [← add_mul,add_neg,zero_mul])
theorem neg_neg (a:F):-(-a)=a:=(IB (neg_add a)).symm
theorem OG:-(0:F)=0:=(IB (zero_add 0)).symm
theorem Ua (a b:F):-(a+b)=-a+-b:=(IB (by
 rw [add_comm a b,add_assoc,← add_assoc a,add_neg,zero_add,add_neg])).symm
theorem sub_self (a:F):a-a=0:=by rw [sub_eq,add_neg]
theorem AT {a b:F}:a-b=0↔a=b:=by
 constructor
 ·intro h
  rw [sub_eq] at h
  have:=IB ((add_comm _ _).trans h)
  rw [this,neg_neg]
 ·rintro rfl;exact sub_self a
theorem pP (a b c:F):a+(b+c)=b+(a+c):=by rw [← add_assoc,add_comm a b,add_assoc]
theorem mul_left_comm (a b c:F):a*(b*c)=b*(a*c):=by rw [← mul_assoc,mul_comm a b,mul_assoc]
def Dj:Nat→F
 | 0=>0
 | n+1=>Dj n+1
theorem Ma (a b:Nat):(Dj (a+b):F)=Dj a+Dj b:=by
 induction b with
 | zero=>simp [Dj,add_zero]
 | succ b ih=>rw [← Nat.add_assoc];simp only [Dj];rw [ih,add_assoc]
theorem Uc (a b:Nat):(Dj (a*b):F)=Dj a*Dj b:=by
 induction b with
 | zero=>simp [Dj,mul_zero]
 | succ b ih=>rw [Nat.mul_succ,Ma,ih];simp only [Dj];rw [mul_add,mul_one]
def int:Int→F
 | .ofNat n=>Dj n
 | .negSucc n=>-(Dj (n+1))
theorem OH (a b:Nat):(int ((a:Int)-b):F)=Dj a+-Dj b:=by
 rcases Nat.le_total b a with h | h
 ·obtain ⟨c,rfl⟩:=Nat.exists_eq_add_of_le h
  rw [show ((b+c:Nat):Int)-b=(c:Int) by omega,Ma,add_comm (Dj b) (Dj c),add_assoc,add_neg,add_zero];rfl
 ·obtain ⟨c,rfl⟩:=Nat.exists_eq_add_of_le h
  cases c with
  | zero=>rw [Nat.add_zero,add_neg,show (a:Int)-(a:Nat)=0 by omega];rfl
  | succ c =>
   rw [show (a:Int)-((a+(c+1):Nat):Int)=Int.negSucc c by omega,Ma,Ua,← add_assoc,add_neg,zero_add];rfl
theorem Ud (i:Int):∃ a b:Nat,i=(a:Int)-b:=by
 cases i with
 | ofNat n=>exact ⟨n,0,by simp⟩
 | negSucc n=>exact ⟨0,n+1,by omega⟩
theorem pQ (i j:Int):(int (i+j):F)=int i+int j:=by
 obtain ⟨a,b,rfl⟩:=Ud i
 obtain ⟨c,d,rfl⟩:=Ud j
 rw [show (a:Int)-b+(c-d)=((a+c:Nat):Int)-(b+d:Nat) by omega,OH,OH,OH,Ma,Ma,Ua]
 rw [add_assoc,add_assoc];congr 1
 rw [← add_assoc,← add_assoc];congr 1
 exact add_comm _ _
theorem pS (a b:F):a*-b=-(a*b):=by rw [mul_comm,UZ,mul_comm]
theorem AGa (i j:Int):(int (i*j):F)=int i*int j:=by
 obtain ⟨a,b,rfl⟩:=Ud i
 obtain ⟨c,d,rfl⟩:=Ud j
 rw [show ((a:Int)-b)*(c-d)=((a*c+b*d:Nat):Int)-(a*d+b*c:Nat) by
  rw [Int.natCast_add,Int.natCast_add,Int.natCast_mul,Int.natCast_mul,Int.natCast_mul,Int.natCast_mul,Int.sub_mul,Int.mul_sub,Int.mul_sub];omega]
 rw [OH,OH,OH,Ma,Ma,Uc,Uc,Uc,Uc]
 rw [add_mul,mul_add,mul_add,UZ,pS,UZ,pS,neg_neg,Ua]
 rw [add_assoc,add_assoc];congr 1
 rw [add_comm (Dj b*Dj d),add_assoc]
theorem AGb (i:Int):(int (-i):F)=-int i:=by
 refine IB ?_
 rw [← pQ,Int.add_right_neg];rfl
theorem AGc:(int 0:F)=0:=rfl
theorem Q3:(int 1:F)=1:=by show Dj 0+1=_;exact zero_add 1
def pw (x:F):Nat→F
 | 0=>1
 | n+1=>pw x n*x
theorem AGd (x:F) (a b:Nat):pw x (a+b)=pw x a*pw x b:=by
 induction b with
 | zero=>simp [pw,mul_one]
 | succ b ih=>rw [← Nat.add_assoc];simp only [pw];rw [ih,mul_assoc]
end
abbrev Mon:=List Nat
abbrev Pol:=List (Mon×Int)
def OI:Mon→Mon→Mon
 | [],b=>b
 | a::ar,b=>match b with
  | []=>a::ar
  | c::bs=>(a+c)::OI ar bs
def Ue:Mon→Mon→Nat
 | [],b=>match b with
  | []=>0
  | _::_=>2
 | a::ar,b=>match b with
  | []=>1
  | c::bs=>match Nat.beq a c with
   | true=>Ue ar bs
   | false=>match Nat.ble a c with
    | true=>2
    | false=>1
theorem pT:∀ {a b:Mon},Ue a b=0→a=b
 | [],[],_=>rfl
 | [],_::_,h=>by cases h
 | _::_,[],h=>by cases h
 | a::ar,c::bs,h=>by
  simp only [Ue] at h
  cases hb:Nat.beq a c with
  | true=>rw [hb] at h;rw [Nat.eq_of_beq_eq_true hb,pT h]
  | false =>
   rw [hb] at h
   cases hl:Nat.ble a c<;>rw [hl] at h<;>cases h
def Uf (m:Mon) (c:Int) (p:Pol):Pol:=match c with
 | .ofNat 0=>p
 | _=>(m,c)::p
def K4:Nat→Pol→Pol→Pol
 | 0,p,q=>p++q
 | n+1,p,q=>match p with
  | []=>q
  | (a,c)::p'=>match q with
   | []=>p
   | (b,d)::q'=>match Ue a b with
    | 0=>Uf a (c+d) (K4 n p' q')
    | 1=>(a,c)::K4 n p' q
    | _=>(b,d)::K4 n p q'
def len:Pol→Nat
 | []=>0
 | _::r=>len r+1
def K5 (p q:Pol):Pol:=K4 (len p+len q) p q
def Q4 (m:Mon) (c:Int):Pol→Pol
 | []=>[]
 | (a,d)::r=>(OI m a,c*d)::Q4 m c r
def OJ:Pol→Pol→Pol
 | [],_=>[]
 | (a,c)::r,q=>K5 (Q4 a c q) (OJ r q)
def OK:Pol→Pol
 | []=>[]
 | (a,c)::r=>(a,-c)::OK r
section
variable {F:Type} [CR F]
def FZ:List F→Mon→F
 | [],_=>1
 | x::xs,m=>match m with
  | []=>1
  | e::es=>pw x e*FZ xs es
def Bd (xs:List F):Pol→F
 | []=>0
 | (m,c)::r=>int c*FZ xs m+Bd xs r
theorem Q5 (xs:List F):FZ xs []=1:=by cases xs<;>rfl
theorem pU:∀ (xs:List F) (a b:Mon),FZ xs (OI a b)=FZ xs a*FZ xs b
 | [],a,b=>by simp [FZ,one_mul]
 | x::xs,[],b=>by simp [OI,Q5,one_mul]
 | x::xs,a::ar,[]=>by simp [OI,Q5,mul_one]
 | x::xs,a::ar,c::bs=>by
  simp only [OI,FZ]
  rw [AGd,pU xs ar bs,mul_assoc,mul_assoc];congr 1;rw [mul_left_comm]
theorem pV (xs:List F) (m:Mon) (c:Int) (p:Pol):Bd xs (Uf m c p)=int c*FZ xs m+Bd xs p:=by
 unfold Uf
 split
 ·show _=int 0*_+_
  rw [AGc,zero_mul,zero_add]
 ·rfl
theorem pZ (xs:List F):∀ p q:Pol,Bd xs (p++q)=Bd xs p+Bd xs q
 | [],q=>by simp [Bd,zero_add]
 | (m,c)::p,q=>by simp only [List.cons_append,Bd];rw [pZ xs p q,add_assoc]
theorem Ug (xs:List F):∀ (n:Nat) (p q:Pol),Bd xs (K4 n p q)=Bd xs p+Bd xs q
 | 0,p,q=>pZ xs p q
 | n+1,[],q=>by simp [K4,Bd,zero_add]
 | n+1,(a,c)::p',[]=>by simp [K4,Bd,add_zero]
 | n+1,(a,c)::p',(b,d)::q'=>by
  simp only [K4]
  split
  ·rename_i h
   rw [pV,Ug xs n p' q',pT h]
   simp only [Bd]
   rw [pQ,add_mul,add_assoc,add_assoc];congr 1
   rw [pP]
  ·simp only [Bd];rw [Ug xs n p' _];simp only [Bd];rw [add_assoc]
  ·simp only [Bd];rw [Ug xs n _ q'];simp only [Bd];rw [pP]
theorem Zn (xs:List F) (p q:Pol):Bd xs (K5 p q)=Bd xs p+Bd xs q:=Ug xs _ p q
theorem p8 (xs:List F) (m:Mon) (c:Int):∀ p:Pol,Bd xs (Q4 m c p)=int c*FZ xs m*Bd xs p
 | []=>by simp [Q4,Bd,mul_zero]
 | (a,d)::r=>by
  simp only [Q4,Bd]
  rw [p8 xs m c r,pU,AGa,mul_add];congr 1
  rw [mul_assoc,mul_assoc];congr 1;rw [mul_left_comm]
theorem Zo (xs:List F):∀ p q:Pol,Bd xs (OJ p q)=Bd xs p*Bd xs q
 | [],q=>by simp [OJ,Bd,zero_mul]
 | (a,c)::r,q=>by simp only [OJ,Bd];rw [Zn,p8,Zo xs r q,add_mul]
theorem Zp (xs:List F):∀ p:Pol,Bd xs (OK p)=- Bd xs p
 | []=>by simp [OK,Bd,OG]
 | (a,c)::r=>by simp only [OK,Bd];rw [Zp xs r,AGb,UZ,Ua]
end
inductive E where
 | v (i:Nat)
 | c (k:Int)
 | add (a b:E)
 | sub (a b:E)
 | mul (a b:E)
 | neg (a:E)
 | pw (a:E) (n:Nat)
def Q6:Nat→Mon
 | 0=>[1]
 | i+1=>0::Q6 i
def Q7 (p:Pol):Nat→Pol
 | 0=>[([],1)]
 | n+1=>OJ (Q7 p n) p
def E.pol:E→Pol
 | .v i=>[(Q6 i,1)]
 | .c k=>Uf [] k []
 | .add a b=>K5 a.pol b.pol
 | .sub a b=>K5 a.pol (OK b.pol)
 | .mul a b=>OJ a.pol b.pol
 | .neg a=>OK a.pol
 | .pw a n=>Q7 a.pol n
def nth {F:Type} [One F]:List F→Nat→F
 | [],_=>1
 | x::_,0=>x
 | _::xs,i+1=>nth xs i
section
variable {F:Type} [CR F]
def E.den (xs:List F):E→F
 | .v i=>nth xs i
 | .c k=>int k
 | .add a b=>a.den xs+b.den xs
 | .sub a b=>a.den xs-b.den xs
 | .mul a b=>a.den xs*b.den xs
 | .neg a=>- a.den xs
 | .pw a n=>Rg.pw (a.den xs) n
theorem p9:∀ (xs:List F) (i:Nat),FZ xs (Q6 i)=nth xs i
 | [],i=>by simp [FZ,nth]
 | x::xs,0=>by simp [Q6,FZ,Q5,nth,Rg.pw,one_mul,mul_one]
 | x::xs,i+1=>by simp only [Q6,FZ,nth,Rg.pw];rw [one_mul,p9 xs i]
theorem AGe (xs:List F) (p:Pol) (n:Nat):Bd xs (Q7 p n)=Rg.pw (Bd xs p) n:=by
 induction n with
 | zero=>simp [Q7,Bd,Rg.pw,Q5,Q3,mul_one,add_zero]
 | succ n ih=>simp only [Q7,Rg.pw];rw [Zo,ih]
theorem E.pol_den (xs:List F):∀ e:E,Bd xs e.pol=e.den xs
 | .v i=>by simp only [E.pol,Bd,E.den];rw [p9,Q3,one_mul,add_zero]
 | .c k=>by simp only [E.pol,E.den];rw [pV];simp [Bd,Q5,mul_one,add_zero]
 | .add a b=>by simp only [E.pol,E.den];rw [Zn,a.pol_den xs,b.pol_den xs]
 | .sub a b=>by simp only [E.pol,E.den];rw [Zn,Zp,a.pol_den xs,b.pol_den xs,sub_eq]
 | .mul a b=>by simp only [E.pol,E.den];rw [Zo,a.pol_den xs,b.pol_den xs]
 | .neg a=>by simp only [E.pol,E.den];rw [Zp,a.pol_den xs]
 | .pw a n=>by simp only [E.pol,E.den];rw [AGe,a.pol_den xs]
def Mk:List (E×E)→E
 | []=>.c 0
 | (k,r)::l=>.add (.mul k r) (Mk l)
def Zq:Pol→Bool
 | []=>true
 | _::_=>false
def Zr (xs:List F):List (E×E)→Prop
 | []=>True
 | (_,r)::l=>r.den xs=0∧Zr xs l
theorem qA (xs:List F):∀ l:List (E×E),Zr xs l→(Mk l).den xs=0
 | [],_=>rfl
 | (k,r)::l,⟨h1,h2⟩=>by simp only [Mk,E.den];rw [h1,mul_zero,qA xs l h2,add_zero]
theorem BG (xs:List F) (g:E) (l:List (E×E)) (hz:Zr xs l) (h:Zq (E.pol (.sub g (Mk l)))=true):g.den xs=0:=by
 have e:(E.pol (.sub g (Mk l)))=[]:=by
  cases hp:E.pol (.sub g (Mk l)) with
  | nil=>rfl
  | cons a b=>rw [hp] at h;cases h
 have:=E.pol_den xs (.sub g (Mk l))
 rw [e] at this
 simp only [Bd,E.den] at this
 rw [qA xs l hz] at this
 exact AT.1 this.symm
theorem AGf (xs:List F) (a b:E) (h:Zq (E.pol (.sub a b))=true):a.den xs=b.den xs:=by
 have e:(E.pol (.sub a b))=[]:=by
  cases hp:E.pol (.sub a b) with
  | nil=>rfl
  | cons a b=>rw [hp] at h;cases h
 have:=E.pol_den xs (.sub a b)
 rw [e] at this
 exact AT.1 this.symm
end
end Go.Proofs.YtjlcdlekmpjjnaaGreat.Rg
