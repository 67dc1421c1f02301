/- Part 3 of the proof: Na, Nb, Nc, Nd, Fr, Ga, Gb, Gc, Gd, Ge, Gf, Gg, Gh, Gi, Gj, Gk, Gl, Gm, Gn, Go, Gp, Gq, Gr, Gs, Gt, Gv, Ka, Kb, Kc, Kd, Ra. -/
import Derived.KernelRfl
import Derived.Test.YtjlcdlekmpjjnaaGreatPB
import Derived.ChangeSlices
namespace Go.Proofs.YtjlcdlekmpjjnaaGreat.Num
def Prime (p:Nat):Prop:=2≤p∧∀ d,d∣p→d=1∨d=p
theorem Prime.coprime {p a:Nat} (hp:Prime p) (h:¬ p∣a):Nat.Coprime p a:=by
 rcases hp.2 (Nat.gcd p a) (Nat.gcd_dvd_left _ _) with e | e
 ·exact e
 ·exact absurd (e▸Nat.gcd_dvd_right p a) h
theorem Prime.dvd_mul {p a b:Nat} (hp:Prime p) (h:p∣a*b):p∣a∨p∣b:=by
 by_cases ha:p∣a
 ·exact .inl ha
 ·exact .inr ((hp.coprime ha).dvd_of_dvd_mul_left h)
theorem TM {a b n:Nat} (h:a % n=b % n) (hle:b≤a):n∣a-b:=by
 have h1:=Nat.div_add_mod a n
 have h2:=Nat.div_add_mod b n
 exact ⟨a / n-b / n,by rw [Nat.mul_sub];omega⟩
theorem AH6 {a b n:Nat} (h:n∣a-b) (hle:b≤a):a % n=b % n:=by
 obtain ⟨k,hk⟩:=h
 have:a=b+n*k:=by omega
 rw [this,Nat.add_mul_mod_self_left]
def EP:List Nat→Nat
 | []=>1
 | x::l=>x*EP l
theorem AH7 {l m:List Nat} (h:l.Perm m):EP l=EP m:=by
 induction h with
 | nil=>rfl
 | cons x _ ih=>simp [EP,ih]
 | swap x y l=>simp only [EP];rw [Nat.mul_left_comm]
 | trans _ _ h1 h2=>exact h1.trans h2
theorem uD:∀ {l m:List Nat},l.Nodup→(∀ x∈l,x∈m)→m.length≤l.length→l.Perm m
 | [],m,_,_,h=>by
  have:m=[]:=List.length_eq_zero_iff.1 (by simpa using h)
  subst this;exact .refl _
 | a::l,m,hn,hs,hlen=>by
  have ham:=hs a (by simp)
  have hp:=List.perm_cons_erase ham
  have hn':=List.nodup_cons.1 hn
  refine .trans (.cons a (uD hn'.2 (fun x hx=>?_) ?_)) hp.symm
  ·have:x≠a:=fun e=>hn'.1 (e▸hx)
   exact (List.mem_erase_of_ne this).2 (hs x (by simp [hx]))
  ·rw [List.length_erase_of_mem ham]
   simp at hlen;omega
theorem uE (a p:Nat):∀ l:List Nat,EP (l.map fun x=>a*x % p) % p=a^l.length*EP l % p
 | []=>by simp [EP]
 | x::l=>by
  simp only [List.map_cons,EP,List.length_cons]
  rw [Nat.mul_mod,uE a p l,Nat.mod_mod,← Nat.mul_mod,Nat.pow_succ]
  refine congrArg (· % p) ?_
  show a*x*(a^l.length*EP l)=a^l.length*a*(x*EP l)
  ac_rfl
theorem uF {p:Nat} (hp:Prime p):∀ {l:List Nat},(∀ x∈l,¬ p∣x)→¬ p∣EP l
 | [],_,h=>by
  have:=Nat.le_of_dvd (by decide) h
  have:=hp.1
  simp only [EP] at *;omega
 | x::l,hx,h=>by
  rcases hp.dvd_mul h with h | h
  ·exact hx x (by simp) h
  ·exact uF hp (fun y hy=>hx y (by simp [hy])) h
theorem Nn {p a:Nat} (hp:Prime p) (ha:¬ p∣a):a^(p-1) % p=1:=by
 have h2:=hp.1
 have hL:∀ x,x∈List.range' 1 (p-1)↔1≤x∧x<p:=by intro x;rw [List.mem_range'_1];omega
 have hnd:∀ x∈List.range' 1 (p-1),¬ p∣x:=fun x hx hd=>by
  have:=(hL x).1 hx
  have:=Nat.le_of_dvd (by omega) hd
  omega
 have hperm:((List.range' 1 (p-1)).map fun x=>a*x % p).Perm (List.range' 1 (p-1)):=by
  refine uD ?_ ?_ (by simp)
  ·have hq:∀ {l:List Nat},l.Nodup→(∀ x∈l,1≤x∧x<p)→(l.map fun x=>a*x % p).Nodup:=by
    intro l
    induction l with
    | nil=>intro _ _;exact List.nodup_nil
    | cons x l ih =>
     intro hn hb
     have hn':=List.nodup_cons.1 hn
     rw [List.map_cons,List.nodup_cons]
     refine ⟨fun hm=>?_,ih hn'.2 fun y hy=>hb y (by simp [hy])⟩
     obtain ⟨y,hy,he⟩:=List.mem_map.1 hm
     have b1:=hb x (by simp)
     have b2:=hb y (by simp [hy])
     have hxy:x≠y:=fun e=>hn'.1 (e▸hy)
     rcases Nat.lt_or_ge x y with hlt | hge
     ·have:=TM (a:=a*y) (b:=a*x) he (Nat.mul_le_mul_left a (by omega))
      rw [← Nat.mul_sub] at this
      rcases hp.dvd_mul this with h | h
      ·exact ha h
      ·have:=Nat.le_of_dvd (by omega) h;omega
     ·have:=TM (a:=a*x) (b:=a*y) he.symm (Nat.mul_le_mul_left a (by omega))
      rw [← Nat.mul_sub] at this
      rcases hp.dvd_mul this with h | h
      ·exact ha h
      ·have:=Nat.le_of_dvd (by omega) h;omega
   exact hq List.nodup_range' fun x hx=>(hL x).1 hx
  ·intro y hy
   obtain ⟨x,hx,rfl⟩:=List.mem_map.1 hy
   have b:=(hL x).1 hx
   refine (hL _).2 ⟨?_,Nat.mod_lt _ (by omega)⟩
   rcases Nat.eq_zero_or_pos (a*x % p) with h | h
   ·rcases hp.dvd_mul (Nat.dvd_of_mod_eq_zero h) with h | h
    ·exact absurd h ha
    ·exact absurd h (hnd x hx)
   ·exact h
 have e:=uE a p (List.range' 1 (p-1))
 rw [AH7 hperm,List.length_range'] at e
 have hpos:1≤a^(p-1):=Nat.pow_pos (Nat.pos_of_ne_zero fun h=>ha (h▸Nat.dvd_zero p))
 have hd:=TM (a:=a^(p-1)*EP (List.range' 1 (p-1))) (b:=EP (List.range' 1 (p-1))) e.symm (Nat.le_mul_of_pos_left _ hpos)
 have:a^(p-1)*EP (List.range' 1 (p-1))-EP (List.range' 1 (p-1))=(a^(p-1)-1)*EP (List.range' 1 (p-1)):=by rw [Nat.sub_mul,Nat.one_mul]
 rw [this] at hd
 rcases hp.dvd_mul hd with h | h
 ·rw [AH6 h hpos,Nat.mod_eq_of_lt (by omega)]
 ·exact absurd h (uF hp hnd)
theorem uG:∀ n,2≤n→∃ q,Prime q∧q∣n:=by
 intro n
 induction n using Nat.strongRecOn with
 | ind n ih =>
  intro h
  by_cases hp:Prime n
  ·exact ⟨n,hp,Nat.dvd_refl n⟩
  ·have:∃ d,d∣n∧d≠1∧d≠n:=Classical.byContradiction fun hno=>hp ⟨h,fun d hd=>Classical.byContradiction fun hd2=>hno ⟨d,hd,fun e=>hd2 (.inl e),fun e=>hd2 (.inr e)⟩⟩
   obtain ⟨d,hd,h1,h2⟩:=this
   have hle:=Nat.le_of_dvd (by omega) hd
   have h0:d≠0:=fun e=>by subst e;have:=Nat.eq_zero_of_zero_dvd hd;omega
   obtain ⟨q,hq,hqd⟩:=ih d (by omega) (by omega)
   exact ⟨q,hq,Nat.dvd_trans hqd hd⟩
theorem dL {n:Nat} (h:2≤n) (hf:∀ q,Prime q→q∣n→n<q*q):Prime n:=by
 refine ⟨h,fun d hd=>?_⟩
 obtain ⟨e,rfl⟩:=hd
 by_cases h1:d=1
 ·exact .inl h1
 ·by_cases h2:e=1
  ·subst h2;exact .inr (by simp)
  ·exfalso
   have d0:d≠0:=fun e'=>by subst e';simp at h
   have e0:e≠0:=fun e'=>by subst e';simp at h
   obtain ⟨q,hq,hqd⟩:=uG d (by omega)
   obtain ⟨r,hr,hre⟩:=uG e (by omega)
   have a1:=hf q hq (Nat.dvd_mul_right_of_dvd hqd e)
   have a2:=hf r hr (Nat.dvd_mul_left_of_dvd hre d)
   have b1:=Nat.le_of_dvd (by omega) hqd
   have b2:=Nat.le_of_dvd (by omega) hre
   rcases Nat.lt_or_ge d e with hlt | hge
   ·have:=Nat.mul_le_mul b1 b1
    have:=Nat.mul_le_mul_left d (Nat.le_of_lt hlt)
    omega
   ·have:=Nat.mul_le_mul b2 b2
    have:=Nat.mul_le_mul_right e hge
    omega
theorem AH8 {r x m:Nat} (h:x^m % r=1 % r) (k:Nat):x^(m*k) % r=1 % r:=by
 rw [Nat.pow_mul,Nat.pow_mod,h,← Nat.pow_mod,Nat.one_pow]
theorem AH9 {r x:Nat}:∀ (m n:Nat),x^m % r=1 % r→x^n % r=1 % r→x^(Nat.gcd m n) % r=1 % r:=by
 intro m n
 induction m,n using Nat.gcd.induction with
 | H0 n=>intro _ h;rwa [Nat.gcd_zero_left]
 | H1 m n hm ih =>
  intro h1 h2
  rw [Nat.gcd_rec]
  refine ih ?_ h1
  have e:=Nat.div_add_mod n m
  rw [← e,Nat.pow_add,Nat.mul_mod,AH8 h1,← Nat.mul_mod,Nat.one_mul] at h2
  exact h2
theorem dM {N q h a r:Nat} (hN:N=h*q+1) (hq:Prime q) (h1:a^(N-1) % N=1) (h2:Nat.gcd (a^h % N+N-1) N=1) (hr:Prime r) (hrN:r∣N):q∣r-1:=by
 have hr2:=hr.1
 have e1:(a^h)^q % r=1 % r:=by
  rw [← Nat.pow_mul,show h*q=N-1 by omega,← Nat.mod_mod_of_dvd _ hrN,h1]
 have hN1:1≤N:=by omega
 have e2:a^h % r≠1:=fun e=>by
  have hd:r∣a^h % N+N-1:=by
   refine Nat.dvd_of_mod_eq_zero ?_
   have:(a^h % N+N-1+1) % r=1 % r:=by
    rw [Nat.sub_add_cancel (by omega),Nat.add_mod,Nat.mod_mod_of_dvd _ hrN,e,Nat.mod_eq_zero_of_dvd hrN,Nat.add_zero]
   have:=TM this (by omega)
   exact Nat.mod_eq_zero_of_dvd (by simpa using this)
  have:=Nat.dvd_gcd hd hrN
  rw [h2] at this
  have:=Nat.le_of_dvd (by decide) this
  omega
 have hnd:¬ r∣a^h:=fun hd=>by
  have:r∣(a^h)^q:=by
   obtain ⟨k,hk⟩:=hd
   have hq2:=hq.1
   obtain ⟨j,rfl⟩:∃ j,q=j+1:=⟨q-1,by omega⟩
   exact ⟨(a^h)^j*k,by rw [Nat.pow_succ,Nat.mul_left_comm,← hk]⟩
  rw [Nat.mod_eq_zero_of_dvd this,Nat.mod_eq_of_lt (by omega)] at e1
  cases e1
 have e3:=Nn hr hnd
 by_cases hd:q∣r-1
 ·exact hd
 ·exfalso
  have hc:=hq.coprime hd
  have:=AH9 q (r-1) e1 (by rw [e3,Nat.mod_eq_of_lt (by omega)])
  rw [hc,Nat.pow_one,Nat.mod_eq_of_lt (a:=1) (by omega)] at this
  exact e2 this
theorem AH_ {N q h a:Nat} (hN:N=h*q+1) (hq:Prime q) (hh:h<q) (h0:0<h) (h1:a^(N-1) % N=1) (h2:Nat.gcd (a^h % N+N-1) N=1):Prime N:=by
 have hq2:=hq.1
 have hpos:1*1≤h*q:=Nat.mul_le_mul h0 (by omega)
 refine dL (by omega) fun r hr hrN=>?_
 have:=Nat.le_of_dvd (by have:=hr.1;omega) (dM hN hq h1 h2 hr hrN)
 have hle:q+1≤r:=by have:=hr.1;omega
 have:=Nat.mul_le_mul hle hle
 have h3:h*q≤q*q:=Nat.mul_le_mul_right q (by omega)
 rw [Nat.succ_mul,Nat.mul_succ] at this
 omega
theorem AH' {N q h a q' h' a':Nat} (hN:N=h*q+1) (hq:Prime q) (h1:a^(N-1) % N=1) (h2:Nat.gcd (a^h % N+N-1) N=1) (hN':N=h'*q'+1) (hq':Prime q') (h1':a'^(N-1) % N=1) (h2':Nat.gcd (a'^h' % N+N-1) N=1)
  (hne:q<q') (hbig:N<(q*q'+1)*(q*q'+1)) (hN2:2≤N):Prime N:=by
 refine dL hN2 fun r hr hrN=>?_
 have d1:=dM hN hq h1 h2 hr hrN
 have d2:=dM hN' hq' h1' h2' hr hrN
 have hc:Nat.Coprime q q':=hq.coprime fun hd=>by
  rcases hq'.2 q hd with e | e
  ·have:=hq.1;omega
  ·omega
 have:=Nat.le_of_dvd (by have:=hr.1;omega) (hc.mul_dvd_of_dvd_of_dvd d1 d2)
 have hle:q*q'+1≤r:=by have:=hr.1;omega
 exact Nat.lt_of_lt_of_le hbig (Nat.mul_le_mul hle hle)
def TN (n:Nat):Nat→Nat→Bool
 | 0,_=>true
 | f+1,d=>match n % d with
  | 0=>false
  | _+1=>TN n f (d+1)
theorem uH (n:Nat):∀ (f d:Nat),TN n f d=true→∀ e,d≤e→e<d+f→¬ e∣n
 | 0,d,_,e,h1,h2=>by omega
 | f+1,d,h,e,h1,h2=>by
  unfold TN at h
  split at h
  ·cases h
  ·rename_i k hk
   rcases Nat.eq_or_lt_of_le h1 with rfl | hlt
   ·intro hd;rw [Nat.mod_eq_zero_of_dvd hd] at hk;cases hk
   ·exact uH n f (d+1) h e (by omega) (by omega)
theorem AIA {n f:Nat} (h2:2≤n) (h:TN n f 2=true) (hb:n<(f+2)*(f+2)):Prime n:=by
 refine dL h2 fun q hq hd=>?_
 rcases Nat.lt_or_ge q (f+2) with hlt | hge
 ·exact absurd hd (uH n f 2 h q hq.1 (by omega))
 ·exact Nat.lt_of_lt_of_le hb (Nat.mul_le_mul hge hge)
def L4 (m x:Nat):Nat→Nat→Nat
 | 0,_=>1 % m
 | f+1,e=>(match e % 2 with
  | 0=>L4 m (x*x % m) f (e / 2)
  | _=>x*L4 m (x*x % m) f (e / 2) % m)
theorem dN (m:Nat):∀ (f x e:Nat),e<2^f→L4 m x f e=x^e % m
 | 0,x,e,h=>by
  have:e=0:=by simpa using h
  subst this;rfl
 | f+1,x,e,h=>by
  have ih:=dN m f (x*x % m) (e / 2) (by rw [Nat.pow_succ] at h;omega)
  have h2:(x*x % m)^(e / 2) % m=x^(2*(e / 2)) % m:=by
   rw [← Nat.pow_mod,Nat.pow_mul,Nat.pow_two]
  unfold L4
  rcases Nat.mod_two_eq_zero_or_one e with h0 | h1
  ·rw [h0]
   show L4 m (x*x % m) f (e / 2)=_
   rw [ih,h2,show 2*(e / 2)=e by omega]
  ·rw [h1]
   show x*L4 m (x*x % m) f (e / 2) % m=_
   rw [ih,h2,Nat.mul_mod,Nat.mod_mod,← Nat.mul_mod,← Nat.pow_succ',show (2*(e / 2)).succ=e by omega]
def TO (N q h a f:Nat):Bool:=Nat.beq N (h*q+1)&&(Nat.ble (N-1+1) (2^f)&&(Nat.beq (L4 N a f (N-1)) 1&&Nat.beq (Nat.gcd (L4 N a f h+N-1) N) 1))
theorem dO {N q h a f:Nat} (h0:TO N q h a f=true) (hq:0<q):N=h*q+1∧a^(N-1) % N=1∧Nat.gcd (a^h % N+N-1) N=1:=by
 unfold TO at h0
 simp only [Bool.and_eq_true] at h0
 obtain ⟨c1,c2,c3,c4⟩:=h0
 have e1:=Nat.eq_of_beq_eq_true c1
 have e2:=Nat.le_of_ble_eq_true c2
 have e3:=Nat.eq_of_beq_eq_true c3
 have e4:=Nat.eq_of_beq_eq_true c4
 have hle:h*1≤h*q:=Nat.mul_le_mul_left h hq
 rw [dN N f a _ (by omega)] at e3
 rw [dN N f a _ (by omega)] at e4
 exact ⟨e1,e3,e4⟩
end Go.Proofs.YtjlcdlekmpjjnaaGreat.Num
namespace Go.Proofs.YtjlcdlekmpjjnaaGreat.Num
set_option maxRecDepth 100000
set_option maxHeartbeats 4000000
theorem uI {n f:Nat} (h:(Nat.ble 2 n&&(TN n f 2&&Nat.blt n ((f+2)*(f+2))))=true):Prime n:=by
 simp only [Bool.and_eq_true] at h
 exact AIA (Nat.le_of_ble_eq_true h.1) h.2.1 (Nat.le_of_ble_eq_true h.2.2)
theorem V5 {N q h a f:Nat} (hq:Prime q) (hb:(TO N q h a f&&(Nat.blt h q&&Nat.blt 0 h))=true):Prime N:=by
 simp only [Bool.and_eq_true] at hb
 have hq2:=hq.1
 obtain ⟨e1,e2,e3⟩:=dO hb.1 (by omega)
 exact AH_ e1 hq (Nat.le_of_ble_eq_true hb.2.1) (Nat.le_of_ble_eq_true hb.2.2) e2 e3
theorem AIB:Prime 421987:=uI (f:=650) (by kernel_rfl)
theorem AIC:Prime 755057:=uI (f:=870) (by kernel_rfl)
theorem AID:Prime 13090036741:=V5 (q:=421987) (h:=31020) (a:=2) (f:=64) AIB (by kernel_rfl)
theorem AIE {N q h a q' h' a' f:Nat} (hq:Prime q) (hq':Prime q') (hb:(TO N q h a f&&(TO N q' h' a' f&&(Nat.blt q q'&&(Nat.blt N ((q*q'+1)*(q*q'+1))&&Nat.ble 2 N))))=true):Prime N:=by
 simp only [Bool.and_eq_true] at hb
 obtain ⟨b1,b2,b3,b4,b5⟩:=hb
 have hq2:=hq.1
 have hq2':=hq'.1
 obtain ⟨e1,e2,e3⟩:=dO b1 (by omega)
 obtain ⟨d1,d2,d3⟩:=dO b2 (by omega)
 exact AH' e1 hq e2 e3 d1 hq' d2 d3 (Nat.le_of_ble_eq_true b3) (Nat.le_of_ble_eq_true b4) (Nat.le_of_ble_eq_true b5)
theorem AIF:Prime 3819663927398918131021:=AIE (h:=(3819663927398918131021-1) / 755057) (a:=2) (h':=(3819663927398918131021-1) / 13090036741) (a':=2) (f:=128) AIC AID (by kernel_rfl)
theorem AIG:Prime 1125266252156850182658904441386709967:=V5 (h:=294598235223046) (a:=2) (f:=128) AIF (by kernel_rfl)
theorem prQ:Prime 15778400344354997994418419698270088123916926905054652752758194827714659:=V5 (h:=14021926201120671579994175730661374) (a:=2) (f:=256) AIG (by kernel_rfl)
theorem prp:Prime 4002409555221667393417789825735904156556882819939007885332058136124031650490837864442687629129015664037894272559787:=V5 (h:=253663835868735594330404923636534084567099854) (a:=2) (f:=384) prQ (by kernel_rfl)
theorem AIJ {p x y:Nat} (hp:Prime p) (hx:x<p) (hy:y<p) (h:x*x % p=y*y % p):x=y∨x+y=p:=by
 have gen:∀ {x y:Nat},x<p→y≤x→x*x % p=y*y % p→x=y∨x+y=p:=by
  intro x y hx hle h
  have hd:=TM h (Nat.mul_le_mul hle hle)
  have e:x*x-y*y=(x+y)*(x-y):=Nat.mul_self_sub_mul_self_eq x y
  rw [e] at hd
  rcases hp.dvd_mul hd with h1 | h1
  ·rcases Nat.eq_zero_or_pos (x+y) with h0 | h0
   ·left;omega
   ·obtain ⟨k,hk⟩:=h1
    right
    have:k=1:=by
     rcases Nat.lt_or_ge k 2 with h2 | h2
     ·rcases Nat.eq_zero_or_pos k with h3 | h3
      ·subst h3;omega
      ·omega
     ·have:=Nat.mul_le_mul_left p h2;omega
    subst this;omega
  ·left
   rcases Nat.eq_zero_or_pos (x-y) with h0 | h0
   ·omega
   ·have:=Nat.le_of_dvd h0 h1;omega
 rcases Nat.lt_or_ge x y with h1 | h1
 ·rcases gen hy (Nat.le_of_lt h1) h.symm with e | e
  ·exact .inl e.symm
  ·exact .inr (by omega)
 ·exact gen hx h1 h
theorem AIK {p x:Nat} (hp:Prime p) (h2:2<p) (h:x*x % p=1):x % p=1∨x % p=p-1:=by
 have h':x % p*(x % p) % p=1*1 % p:=by rw [← Nat.mul_mod,h,Nat.mul_one,Nat.mod_eq_of_lt (by omega)]
 rcases AIJ hp (Nat.mod_lt x (by omega)) (show 1<p by omega) h' with e | e
 ·exact .inl e
 ·exact .inr (by omega)
theorem AIL {p a:Nat} (hp:Prime p) (h2:2<p) (hodd:p % 2=1) (ha:¬ p∣a):a^((p-1) / 2) % p=1∨a^((p-1) / 2) % p=p-1:=by
 refine AIK hp h2 ?_
 rw [← Nat.pow_two,← Nat.pow_mul,show (p-1) / 2*2=p-1 by omega]
 exact Nn hp ha
theorem AIM {p a:Nat} (h4:p % 4=3):a^((p+1) / 4) % p*(a^((p+1) / 4) % p) % p=a*(a^((p-1) / 2)) % p:=by
 rw [← Nat.mul_mod,← Nat.pow_add,← Nat.pow_succ']
 congr 2
 omega
theorem AIN {p a:Nat} (hp:0<p):a*(p-1) % p=(p-a % p) % p:=by
 have h1:(a*(p-1)+a) % p=0:=by
  have:a*(p-1)+a=a*p:=by
   have:=Nat.mul_sub a p 1
   have h2:a*1≤a*p:=Nat.mul_le_mul_left a hp
   omega
  rw [this,Nat.mul_mod_left]
 have hl:=Nat.mod_lt a hp
 have hl2:=Nat.mod_lt (a*(p-1)) hp
 have h3:(a*(p-1) % p+a % p) % p=0:=by rw [← Nat.add_mod];exact h1
 have h4:=Nat.div_add_mod (a*(p-1) % p+a % p) p
 rw [h3] at h4
 rcases Nat.eq_zero_or_pos (a % p) with h0 | h0
 ·rw [h0] at h4 ⊢
  have:(a*(p-1) % p+0) / p=0:=Nat.div_eq_of_lt (by omega)
  rw [this] at h4
  rw [Nat.sub_zero,Nat.mod_self];omega
 ·rw [Nat.mod_eq_of_lt (a:=p-a % p) (by omega)]
  have:(a*(p-1) % p+a % p) / p=1:=by
   have l1:(a*(p-1) % p+a % p) / p<2:=Nat.div_lt_of_lt_mul (by omega)
   rcases Nat.eq_zero_or_pos ((a*(p-1) % p+a % p) / p) with e | e
   ·rw [e] at h4;omega
   ·omega
  rw [this] at h4;omega
theorem AIO {p a:Nat} (hp:Prime p) (h4:p % 4=3) (ha:¬ p∣a):a^((p+1) / 4) % p*(a^((p+1) / 4) % p) % p=a % p↔a^((p-1) / 2) % p=1:=by
 have h2:2<p:=by omega
 have hz:a % p≠0:=fun h=>ha (Nat.dvd_of_mod_eq_zero h)
 have hlt:=Nat.mod_lt a (show 0<p by omega)
 rw [AIM h4,Nat.mul_mod]
 rcases AIL hp h2 (by omega) ha with h | h
 ·rw [h,Nat.mul_one,Nat.mod_mod];simp
 ·rw [h,AIN (by omega),Nat.mod_mod,Nat.mod_eq_of_lt (a:=p-a % p) (by omega)]
  constructor
  ·intro h3;omega
  ·intro h3;omega
end Go.Proofs.YtjlcdlekmpjjnaaGreat.Num
namespace Go.Proofs.YtjlcdlekmpjjnaaGreat.Num
section
variable {p:Nat} [NeZero p]
def DD (p:Nat) [NeZero p] (x:Nat):Fin p:=Fin.ofNat p x
theorem IE (x:Nat):(DD p x).val=x % p:=rfl
theorem V6 {x y:Nat}:DD p x=DD p y↔x % p=y % p:=by
 rw [Fin.ext_iff,IE,IE]
theorem uJ (x:Nat):DD p (x % p)=DD p x:=by rw [V6,Nat.mod_mod]
theorem uK (x y:Nat):DD p (x+y)=DD p x+DD p y:=by
 rw [Fin.ext_iff,Fin.val_add,IE,IE,IE,← Nat.add_mod]
theorem uL (x y:Nat):DD p (x*y)=DD p x*DD p y:=by
 rw [Fin.ext_iff,Fin.val_mul,IE,IE,IE,← Nat.mul_mod]
theorem uN:DD p 0=0:=by rw [Fin.ext_iff,IE];simp
theorem AIP:DD p 1=1:=rfl
theorem dQ:DD p p=0:=by rw [Fin.ext_iff,IE];simp
theorem dR {x y:Nat} (h:y≤x):DD p (x-y)=DD p x-DD p y:=by
 have:DD p (x-y)+DD p y=DD p x:=by rw [← uK,Nat.sub_add_cancel h]
 rw [← this];grind
theorem AIQ (x:Nat):DD p (p-x % p)=- DD p x:=by
 have hp:0<p:=Nat.pos_of_ne_zero (NeZero.ne p)
 rw [dR (Nat.le_of_lt (Nat.mod_lt x hp)),dQ,uJ];grind
theorem dS {x:Nat}:DD p x=0↔p∣x:=by
 rw [← uN,V6,Nat.zero_mod]
 exact ⟨Nat.dvd_of_mod_eq_zero,Nat.mod_eq_zero_of_dvd⟩
theorem AIR {x y:Nat} (hx:x<p) (hy:y<p) (h:DD p x=DD p y):x=y:=by
 have:=V6.1 h
 rwa [Nat.mod_eq_of_lt hx,Nat.mod_eq_of_lt hy] at this
theorem AIS (hp:Prime p) {a b:Fin p} (h:a*b=0):a=0∨b=0:=by
 have e:∀ x:Fin p,DD p x.val=x:=fun x=>by rw [Fin.ext_iff,IE,Nat.mod_eq_of_lt x.isLt]
 rw [← e a,← e b,← uL,dS] at h
 rw [← e a,← e b,dS,dS]
 exact hp.dvd_mul h
end
end Go.Proofs.YtjlcdlekmpjjnaaGreat.Num
namespace Go.Proofs.YtjlcdlekmpjjnaaGreat.Num
set_option maxRecDepth 100000
set_option maxHeartbeats 4000000
end Go.Proofs.YtjlcdlekmpjjnaaGreat.Num
namespace Go.Proofs.YtjlcdlekmpjjnaaGreat
open Ex Num
set_option maxRecDepth 100000
set_option maxHeartbeats 4000000
theorem pN_prime:Num.Prime pN:=prp
theorem pN4:pN % 4=3:=by kernel_rfl
theorem uO:2<pN:=by decide
theorem AIU:QN=(pN+1) / 4:=by kernel_rfl
noncomputable def dU (a:Nat):Nat:=a^((pN-1) / 2) % pN
theorem AIV {a:Nat}:pN∣a↔a % pN=0:=⟨Nat.mod_eq_zero_of_dvd,Nat.dvd_of_mod_eq_zero⟩
theorem AIW {a:Nat} (h:a % pN≠0):DT a=true↔dU a=1:=by
 unfold DT Ag dU
 rw [IC,AIU,decide_eq_true_eq]
 exact AIO pN_prime pN4 fun hd=>h (AIV.1 hd)
theorem AIX {a:Nat} (h:a % pN=0):DT a=true:=by
 unfold DT Ag
 rw [IC,decide_eq_true_eq,Nat.pow_mod,h,Nat.zero_pow (by decide)]
 rfl
theorem J6 (a b:Nat):Ag a b<pN:=Nat.mod_lt _ CQ
theorem neg_sq {v:Nat} (hl:v<pN):(pN-v)*(pN-v) % pN=v*v % pN:=by
 obtain ⟨u,hu⟩:∃ u,pN=u+v:=⟨pN-v,by omega⟩
 rw [show pN-v=u by omega]
 have e:u*u+v*pN=v*v+u*pN:=by rw [hu,Nat.mul_add,Nat.mul_add,Nat.mul_comm v u];omega
 have h1:(u*u+v*pN) % pN=u*u % pN:=Nat.add_mul_mod_self_right _ _ _
 have h2:(v*v+u*pN) % pN=v*v % pN:=Nat.add_mul_mod_self_right _ _ _
 rw [← h1,e,h2]
theorem AIY (w:Nat):Ag (HW w) (HW w)=Ag w w:=by
 unfold HW
 split
 ·unfold Ag DM
  rw [← Nat.mul_mod]
  by_cases h:w % pN=0
  ·rw [h,Nat.sub_zero,Nat.mul_mod pN,Nat.mod_self,Nat.mul_mod w,h]
  ·have e:(pN-w % pN)*(pN-w % pN) % pN=(w % pN)*(w % pN) % pN:=by
    have hl:=F5 w
    generalize w % pN=v at *
    exact neg_sq hl
   rw [e,← Nat.mul_mod]
 ·rfl
theorem AIZ {w:Nat} (h:w<pN):HW w % 2=0∧HW w<pN:=by
 have ho:=V4
 unfold HW
 split
 ·rename_i hs
  have h1:w % 2=1:=by unfold ED at hs;rw [Nat.mod_eq_of_lt h] at hs;omega
  have hz:w % pN≠0:=by rw [Nat.mod_eq_of_lt h];omega
  rw [AH5 hz,Nat.mod_eq_of_lt h];omega
 ·rename_i hs
  have h1:w % 2≠1:=fun e=>by apply hs;unfold ED;rw [Nat.mod_eq_of_lt h];omega
  omega
theorem uP (a e:Nat):Dx a e<pN:=by rw [IC];exact Nat.mod_lt _ CQ
theorem dV {a:Nat} (h:DT a=true):Ag (De a) (De a)=a % pN∧De a % 2=0∧De a<pN:=by
 have e:De a=HW (Dx a QN):=by unfold De;rw [if_pos h]
 obtain ⟨q1,q2⟩:=AIZ (uP a QN)
 rw [e,AIY]
 refine ⟨?_,q1,q2⟩
 unfold DT at h
 exact of_decide_eq_true h
end Go.Proofs.YtjlcdlekmpjjnaaGreat
namespace Go.Proofs.YtjlcdlekmpjjnaaGreat
open Ex
set_option maxRecDepth 100000
set_option maxHeartbeats 4000000
def lenL:List UInt8:=[0,1]++(List.replicate 2 2++(List.replicate 4 3++(List.replicate 8 4++(List.replicate 16 5++(List.replicate 32 6++(List.replicate 64 7++List.replicate 128 8))))))
def lenT:ByteArray:=⟨⟨lenL⟩⟩
def A' (x:Int) (k:Nat):Int:=Int.fdiv x (2^k)
theorem AIa (x:Int):AR Tryz.prog (AH S5 K0) Tryz.f347 [.val false [.v (.int .u64 x)]] [true,true,true] 100 =
 some ([(decide (4294967296≤x),true),(decide (0≤(32:Int)∧0≤x),true),(decide (65536≤(A' x 32)),true),(decide (0≤(16:Int)∧0≤(A' x 32)),true),(decide (256≤(A' (A' x 32) 16)),true),(decide (0≤(8:Int)∧0≤(A' (A' x 32) 16)),true),(decide (0≤AO false .u8 (A' (A' (A' x 32) 16) 8)∧AO false .u8 (A' (A' (A' x 32) 16) 8)<(lenT.size:Int)),true)],Cq (AO false .i64 (AO true .i64 (AO true .i64 (32+16)+8)+AO false .i64 (Ei lenT (AO false .u8 (A' (A' (A' x 32) 16) 8)))))):=by kernel_rfl
theorem AIb (x:Int):AR Tryz.prog (AH S5 K0) Tryz.f347 [.val false [.v (.int .u64 x)]] [true,true,false] 100 =
 some ([(decide (4294967296≤x),true),(decide (0≤(32:Int)∧0≤x),true),(decide (65536≤(A' x 32)),true),(decide (0≤(16:Int)∧0≤(A' x 32)),true),(decide (256≤(A' (A' x 32) 16)),false),(decide (0≤AO false .u8 (A' (A' x 32) 16)∧AO false .u8 (A' (A' x 32) 16)<(lenT.size:Int)),true)],Cq (AO false .i64 (AO true .i64 (32+16)+AO false .i64 (Ei lenT (AO false .u8 (A' (A' x 32) 16)))))):=by kernel_rfl
theorem AIc (x:Int):AR Tryz.prog (AH S5 K0) Tryz.f347 [.val false [.v (.int .u64 x)]] [true,false,true] 100 =
 some ([(decide (4294967296≤x),true),(decide (0≤(32:Int)∧0≤x),true),(decide (65536≤(A' x 32)),false),(decide (256≤(A' x 32)),true),(decide (0≤(8:Int)∧0≤(A' x 32)),true),(decide (0≤AO false .u8 (A' (A' x 32) 8)∧AO false .u8 (A' (A' x 32) 8)<(lenT.size:Int)),true)],Cq (AO false .i64 (AO true .i64 (32+8)+AO false .i64 (Ei lenT (AO false .u8 (A' (A' x 32) 8)))))):=by kernel_rfl
theorem AId (x:Int):AR Tryz.prog (AH S5 K0) Tryz.f347 [.val false [.v (.int .u64 x)]] [true,false,false] 100 =
 some ([(decide (4294967296≤x),true),(decide (0≤(32:Int)∧0≤x),true),(decide (65536≤(A' x 32)),false),(decide (256≤(A' x 32)),false),(decide (0≤AO false .u8 (A' x 32)∧AO false .u8 (A' x 32)<(lenT.size:Int)),true)],Cq (AO false .i64 (32+AO false .i64 (Ei lenT (AO false .u8 (A' x 32)))))):=by kernel_rfl
theorem AIe (x:Int):AR Tryz.prog (AH S5 K0) Tryz.f347 [.val false [.v (.int .u64 x)]] [false,true,true] 100 =
 some ([(decide (4294967296≤x),false),(decide (65536≤x),true),(decide (0≤(16:Int)∧0≤x),true),(decide (256≤(A' x 16)),true),(decide (0≤(8:Int)∧0≤(A' x 16)),true),(decide (0≤AO false .u8 (A' (A' x 16) 8)∧AO false .u8 (A' (A' x 16) 8)<(lenT.size:Int)),true)],Cq (AO false .i64 (AO true .i64 (AO true .i64 (0+16)+8)+AO false .i64 (Ei lenT (AO false .u8 (A' (A' x 16) 8)))))):=by kernel_rfl
theorem AIf (x:Int):AR Tryz.prog (AH S5 K0) Tryz.f347 [.val false [.v (.int .u64 x)]] [false,true,false] 100 =
 some ([(decide (4294967296≤x),false),(decide (65536≤x),true),(decide (0≤(16:Int)∧0≤x),true),(decide (256≤(A' x 16)),false),(decide (0≤AO false .u8 (A' x 16)∧AO false .u8 (A' x 16)<(lenT.size:Int)),true)],Cq (AO false .i64 (AO true .i64 (0+16)+AO false .i64 (Ei lenT (AO false .u8 (A' x 16)))))):=by kernel_rfl
theorem AIg (x:Int):AR Tryz.prog (AH S5 K0) Tryz.f347 [.val false [.v (.int .u64 x)]] [false,false,true] 100 =
 some ([(decide (4294967296≤x),false),(decide (65536≤x),false),(decide (256≤x),true),(decide (0≤(8:Int)∧0≤x),true),(decide (0≤AO false .u8 (A' x 8)∧AO false .u8 (A' x 8)<(lenT.size:Int)),true)],Cq (AO false .i64 (AO true .i64 (0+8)+AO false .i64 (Ei lenT (AO false .u8 (A' x 8)))))):=by kernel_rfl
theorem AIh (x:Int):AR Tryz.prog (AH S5 K0) Tryz.f347 [.val false [.v (.int .u64 x)]] [false,false,false] 100 =
 some ([(decide (4294967296≤x),false),(decide (65536≤x),false),(decide (256≤x),false),(decide (0≤AO false .u8 x∧AO false .u8 x<(lenT.size:Int)),true)],Cq (AO false .i64 (0+AO false .i64 (Ei lenT (AO false .u8 x))))):=by kernel_rfl
def L5 (x L top:Nat):Prop:=x<2^L∧(0<x→1≤L∧2^(L-1)≤x)∧L≤top
def EQ (v:Nat):Nat:=(lenL.getD v 0).toNat
def dW (x L:Nat):Bool:=Nat.blt x (2^L)&&((Nat.beq x 0||(Nat.ble 1 L&&Nat.ble (2^(L-1)) x))&&Nat.ble L 8)
def dX:Nat→Bool
 | 0=>true
 | n+1=>dW n (EQ n)&&dX n
theorem uQ:∀ n,dX n=true→∀ v,v<n→dW v (EQ v)=true
 | 0,_,v,h=>by omega
 | n+1,h,v,hv=>by
  simp only [dX,Bool.and_eq_true] at h
  rcases Nat.lt_or_ge v n with h1 | h1
  ·exact uQ n h.2 v h1
  ·have:v=n:=by omega
   subst this;exact h.1
theorem uR {v:Nat} (h:v<256):L5 v (EQ v) 8:=by
 have:=uQ 256 (by kernel_rfl) v h
 unfold dW at this
 simp only [Bool.and_eq_true,Bool.or_eq_true] at this
 obtain ⟨h1,h2,h3⟩:=this
 refine ⟨Nat.le_of_ble_eq_true h1,fun hp=>?_,Nat.le_of_ble_eq_true h3⟩
 rcases h2 with h2 | ⟨h2,h4⟩
 ·have:=Nat.eq_of_beq_eq_true h2;omega
 ·exact ⟨Nat.le_of_ble_eq_true h2,Nat.le_of_ble_eq_true h4⟩
theorem dY {x L top:Nat} (k:Nat) (h:L5 (x / 2^k) L top) (hx:2^k≤x):L5 x (k+L) (k+top):=by
 obtain ⟨h1,h2,h3⟩:=h
 have hp:0<2^k:=Nat.pow_pos (by decide)
 have hq:0<x / 2^k:=Nat.div_pos hx hp
 obtain ⟨h4,h5⟩:=h2 hq
 refine ⟨?_,fun _=>⟨by omega,?_⟩,by omega⟩
 ·rw [Nat.pow_add]
  exact (Nat.div_lt_iff_lt_mul hp).1 h1 |> fun q=>by rwa [Nat.mul_comm] at q
 ·rw [show k+L-1=k+(L-1) by omega,Nat.pow_add]
  have:=(Nat.le_div_iff_mul_le hp).1 h5
  rwa [Nat.mul_comm] at this
theorem dZ {x L top top':Nat} (h:L5 x L top) (hle:top≤top'):L5 x L top':=⟨h.1,h.2.1,Nat.le_trans h.2.2 hle⟩
def L6 (x:Nat):Nat:=if 256≤x then 8+EQ (x / 2^8) else EQ x
def PY (x:Nat):Nat:=if 65536≤x then 16+L6 (x / 2^16) else L6 x
def ER (x:Nat):Nat:=if 4294967296≤x then 32+PY (x / 2^32) else PY x
theorem uU {x:Nat} (h:x<65536):L5 x (L6 x) 16:=by
 unfold L6
 split
 ·exact dY 8 (uR (by omega)) (by omega)
 ·exact dZ (uR (by omega)) (by decide)
theorem uW {x:Nat} (h:x<4294967296):L5 x (PY x) 32:=by
 unfold PY
 split
 ·exact dY 16 (uU (by omega)) (by omega)
 ·exact dZ (uU (by omega)) (by decide)
theorem uZ {x:Nat} (h:x<18446744073709551616):L5 x (ER x) 64:=by
 unfold ER
 split
 ·exact dY 32 (uW (by omega)) (by omega)
 ·exact dZ (uW (by omega)) (by decide)
theorem J7 (x k:Nat):A' (x:Int) k=((x / 2^k:Nat):Int):=by
 unfold A'
 rw [Int.fdiv_eq_ediv_of_nonneg _ (by exact_mod_cast Nat.zero_le (2^k))]
 rw [Int.natCast_ediv,Int.natCast_pow];rfl
theorem V7 (c:Bool) {z:Int} (h:-9223372036854775808≤z∧z≤9223372036854775807):AO c .i64 z=z:=by
 rw [CO];exact Am h
theorem u5 {v:Nat} (h:v<256):AO false .u8 (v:Int)=v:=by
 rw [CO,IntKind.wrap_u8];omega
theorem AIi {v:Nat}:Ei lenT (v:Int)=((EQ v:Nat):Int):=by
 unfold Ei EQ lenT
 rw [Int.toNat_natCast]
theorem AIj:lenT.size=256:=by kernel_rfl
theorem AIk (v:Nat):EQ v≤255:=by
 have:=(lenL.getD v 0).toNat_lt
 unfold EQ;omega
theorem AIl (x:Nat) (hx:x<18446744073709551616):AU Tryz.prog 347 [.val false [.v (.int .u64 (x:Int))]] (Cq (ER x)):=by
 have pk:=fun (c:List (Bool×Bool)) (v:AV) (p:List Bool) (h:AR Tryz.prog (AH S5 K0) Tryz.f347 [.val false [.v (.int .u64 (x:Int))]] p 100=some (c,v)) (hc:AQ c) (hk:LZ v=true)=>AW (AK Vy Aa) AB Tryz.func347 h hc hk
 have fin:∀ (n v m:Nat),v<256→n≤56→n+EQ v=m→Cq (AO false .i64 ((n:Int)+AO false .i64 (Ei lenT (AO false .u8 (v:Int)))))=Cq (m:Int):=by
  intro n v m hv hn he
  have:=AIk v
  rw [u5 hv,AIi,V7 (z:=((EQ v:Nat):Int)) _ (by omega),V7 _ (by omega)]
  congr 1;omega
 have w0:∀ (z:Int),AO true .i64 z=wI z:=fun z=>CO ..
 have cnd:∀ v:Nat,v<256→decide (0≤AO false .u8 (v:Int)∧AO false .u8 (v:Int)<(lenT.size:Int))=true:=by
  intro v hv
  rw [u5 hv,AIj];simp;omega
 unfold ER
 by_cases h1:4294967296≤x
 ·rw [if_pos h1]
  unfold PY
  have s1:=J7 x 32
  generalize hy:x / 2^32=y at *
  have hyb:y<4294967296:=by omega
  by_cases h2:65536≤y
  ·rw [if_pos h2]
   unfold L6
   have s2:=J7 y 16
   generalize hz:y / 2^16=z at *
   have hzb:z<65536:=by omega
   by_cases h3:256≤z
   ·rw [if_pos h3]
    have s3:=J7 z 8
    have hb:z / 2^8<256:=by omega
    have r:=AIa (x:Int)
    rw [s1,s2,s3] at r
    have h:=pk _ _ _ r ⟨by simp;omega,by simp,by simp;omega,by simp,by simp;omega,by simp,cnd _ hb,trivial⟩ rfl
    have e:AO true .i64 (AO true .i64 (32+16)+8)=((56:Nat):Int):=by kernel_rfl
    rw [e,fin 56 _ (32+(16+(8+EQ (z / 2^8)))) hb (by decide) (by omega)] at h
    exact h
   ·rw [if_neg h3]
    have hb:z<256:=by omega
    have r:=AIb (x:Int)
    rw [s1,s2] at r
    have h:=pk _ _ _ r ⟨by simp;omega,by simp,by simp;omega,by simp,by simp;omega,cnd _ hb,trivial⟩ rfl
    have e:AO true .i64 (32+16)=((48:Nat):Int):=by kernel_rfl
    rw [e,fin 48 _ (32+(16+EQ z)) hb (by decide) (by omega)] at h
    exact h
  ·rw [if_neg h2]
   unfold L6
   by_cases h3:256≤y
   ·rw [if_pos h3]
    have s3:=J7 y 8
    have hb:y / 2^8<256:=by omega
    have r:=AIc (x:Int)
    rw [s1,s3] at r
    have h:=pk _ _ _ r ⟨by simp;omega,by simp,by simp;omega,by simp;omega,by simp,cnd _ hb,trivial⟩ rfl
    have e:AO true .i64 (32+8)=((40:Nat):Int):=by kernel_rfl
    rw [e,fin 40 _ (32+(8+EQ (y / 2^8))) hb (by decide) (by omega)] at h
    exact h
   ·rw [if_neg h3]
    have hb:y<256:=by omega
    have r:=AId (x:Int)
    rw [s1] at r
    have h:=pk _ _ _ r ⟨by simp;omega,by simp,by simp;omega,by simp;omega,cnd _ hb,trivial⟩ rfl
    rw [show (32:Int)=((32:Nat):Int) from rfl,fin 32 _ (32+EQ y) hb (by decide) (by omega)] at h
    exact h
 ·rw [if_neg h1]
  unfold PY
  by_cases h2:65536≤x
  ·rw [if_pos h2]
   unfold L6
   have s2:=J7 x 16
   generalize hz:x / 2^16=z at *
   have hzb:z<65536:=by omega
   by_cases h3:256≤z
   ·rw [if_pos h3]
    have s3:=J7 z 8
    have hb:z / 2^8<256:=by omega
    have r:=AIe (x:Int)
    rw [s2,s3] at r
    have h:=pk _ _ _ r ⟨by simp;omega,by simp;omega,by simp,by simp;omega,by simp,cnd _ hb,trivial⟩ rfl
    have e:AO true .i64 (AO true .i64 (0+16)+8)=((24:Nat):Int):=by kernel_rfl
    rw [e,fin 24 _ (16+(8+EQ (z / 2^8))) hb (by decide) (by omega)] at h
    exact h
   ·rw [if_neg h3]
    have hb:z<256:=by omega
    have r:=AIf (x:Int)
    rw [s2] at r
    have h:=pk _ _ _ r ⟨by simp;omega,by simp;omega,by simp,by simp;omega,cnd _ hb,trivial⟩ rfl
    have e:AO true .i64 (0+16)=((16:Nat):Int):=by kernel_rfl
    rw [e,fin 16 _ (16+EQ z) hb (by decide) (by omega)] at h
    exact h
  ·rw [if_neg h2]
   unfold L6
   by_cases h3:256≤x
   ·rw [if_pos h3]
    have s3:=J7 x 8
    have hb:x / 2^8<256:=by omega
    have r:=AIg (x:Int)
    rw [s3] at r
    have h:=pk _ _ _ r ⟨by simp;omega,by simp;omega,by simp;omega,by simp,cnd _ hb,trivial⟩ rfl
    have e:AO true .i64 (0+8)=((8:Nat):Int):=by kernel_rfl
    rw [e,fin 8 _ (8+EQ (x / 2^8)) hb (by decide) (by omega)] at h
    exact h
   ·rw [if_neg h3]
    have hb:x<256:=by omega
    have r:=AIh (x:Int)
    have h:=pk _ _ _ r ⟨by simp;omega,by simp;omega,by simp;omega,cnd _ hb,trivial⟩ rfl
    rw [show (0:Int)=((0:Nat):Int) from rfl,fin 0 _ (EQ x) hb (by decide) (by omega)] at h
    exact h
def V8:List IntKind→List AV→Option (List Int)
 | [],[]=>some []
 | k::ks,A::r=>match BJ (some A),V8 ks r with
  | some (_,k',i),some l=>match decide (k'=k) with
   | true=>some (i::l)
   | false=>none
  | _,_=>none
 | _,_=>none
def d6:List IntKind→List Int→List AV
 | k::ks,i::is=>.val false [.v (.int k i)]::d6 ks is
 | _,_=>[]
def d7:List IntKind→List Int→Prop
 | k::ks,i::is=>has k i∧d7 ks is
 | _,_=>True
theorem u6:∀ {ks:List IntKind} {args:List AV} {is:List Int} {us:List Value},V8 ks args=some is→A7 Bc args us→A7 Bc (d6 ks is) us∧d7 ks is
 | [],[],is,us,h,hr=>by
  injection h with h;subst h
  exact ⟨hr,trivial⟩
 | [],_::_,_,_,h,_=>by cases h
 | _::_,[],_,_,h,_=>by cases h
 | k::ks,A::r,is,us,h,hr=>by
  unfold V8 at h
  split at h
  ·rename_i c k' i l hi hl
   split at h
   ·rename_i hk
    injection h with h;subst h
    have hk':k'=k:=by simpa using hk
    subst hk'
    obtain ⟨u,us',r1,r2,rfl⟩:=hr
    obtain ⟨q1,q2⟩:=PQ hi r1
    obtain ⟨p1,p2⟩:=u6 hl r2
    exact ⟨⟨u,us',q1,p1,rfl⟩,q2,p2⟩
   ·cases h
  ·cases h
def PZ (ks:List IntKind) (g:List Int→Option (List (Bool×Bool)×AV)):List AV→Option (List (Bool×Bool)×AV):=fun args=>match V8 ks args with
 | some is=>g is
 | none=>none
theorem V9 {f:FuncId} {ks:List IntKind} {g:List Int→Option (List (Bool×Bool)×AV)} (h:∀ is c v,g is=some (c,v)→d7 ks is→AQ c→AU Tryz.prog f (d6 ks is) v) :
  ∀ args c v,PZ ks g args=some (c,v)→AQ c→AU Tryz.prog f args v:=by
 intro args c v hs hc us w ha
 unfold PZ at hs
 split at hs
 ·rename_i is his
  obtain ⟨q1,q2⟩:=u6 his ha
  exact h is c v hs q2 hc us w q1
 ·cases hs
def V_ (g:Int→List (Bool×Bool)×AV):List Int→Option (List (Bool×Bool)×AV)
 | [x]=>some (g x)
 | _=>none
noncomputable def S20:List (FuncId×ASpec):=(347,EE (PZ [.u64] (V_ fun x=>([],Cq (ER x.toNat)))))::S19
theorem u7:AX Tryz.prog S20:=⟨El Tryz.func347 (by kernel_rfl) (by kernel_rfl) (V9 fun is c v h hh _=>by
 unfold V_ at h
 split at h
 ·injection h with h;injection h with h1 h2;subst h1;subst h2
  rename_i x
  have hb:=DQ hh.1
  obtain ⟨X,rfl⟩:=Int.eq_ofNat_of_zero_le hb.1
  rw [Int.toNat_natCast]
  exact AIl X (by omega)
 ·cases h),AH3⟩
theorem AIm (x:Int):AR Tryz.prog (AH S20 K0) Tryz.f319 [.val false [.v (.int .u64 x)]] [] 100=some ([],Cq (wI (64-(ER x.toNat:Int)))):=by kernel_rfl
theorem AIn (x:Nat) (hx:x<18446744073709551616):AU Tryz.prog 319 [.val false [.v (.int .u64 (x:Int))]] (Cq (64-ER x:Nat)):=by
 have h:=AW (AK u7 Aa) AB Tryz.func319 (AIm x) trivial rfl
 have:=(uZ hx).2.2
 rw [Int.toNat_natCast,Am (by omega),show (64:Int)-(ER x:Int)=((64-ER x:Nat):Int) by omega] at h
 exact h
noncomputable def S21:List (FuncId×ASpec):=(319,EE (PZ [.u64] (V_ fun x=>([],Cq (64-ER x.toNat:Nat)))))::S20
theorem F9:AX Tryz.prog S21:=⟨El Tryz.func319 (by kernel_rfl) (by kernel_rfl) (V9 fun is c v h hh _=>by
 unfold V_ at h
 split at h
 ·injection h with h;injection h with h1 h2;subst h1;subst h2
  rename_i x
  have hb:=DQ hh.1
  obtain ⟨X,rfl⟩:=Int.eq_ofNat_of_zero_le hb.1
  rw [Int.toNat_natCast]
  exact AIn X (by omega)
 ·cases h),u7⟩
def dA (h l y:Int):List AV:=[.val false [.v (.int .u64 h)],.val false [.v (.int .u64 l)],.val false [.v (.int .u64 y)]]
noncomputable def AIo:List Item:=Be (AS Tryz.prog (AH S21 K0) (some 0) 300 0 none (Af Tryz.f272 (dA 0 0 0) [] 0 [false,false,false]))
def uV (x:Int):AV:=.val false [.v (.int .u64 x)]
noncomputable def dT1 (Y s y1 y0 u u1 u0 q r:Int):List AV:=.any::.any::uV Y::.any::.any::.any::.any::.any::uV s::uV y1::uV y0::uV u::.any::uV u1::uV u0::uV q::uV r::List.replicate (Tryz.f272.ntmps-17) .any
noncomputable def Iu (Y s y1 y0 u u1 u0 q r:Int) (p:List Bool):ASt:=⟨AIo,⟨dT1 Y s y1 y0 u u1 u0 q r,[],0,p⟩⟩
noncomputable def AIq:List Item:=Be (AS Tryz.prog (AH S21 K0) (some 0) 300 0 none (Iu 0 0 0 0 0 0 0 0 0 [false,false]))
noncomputable def dT2 (Y s y1 y0 u0 q r v z:Int):List AV:=.any::.any::uV Y::.any::.any::.any::.any::.any::uV s::uV y1::uV y0::.any::.any::.any::uV u0::uV q::uV r::uV v::uV z::List.replicate (Tryz.f272.ntmps-19) .any
noncomputable def HX (Y s y1 y0 u0 q r v z:Int) (p:List Bool):ASt:=⟨AIq,⟨dT2 Y s y1 y0 u0 q r v z,[],0,p⟩⟩
def TP (x s:Int):Int:=mW (x*2^min s.toNat 64)
def IF (x s:Int):Int:=Int.fdiv x (2^min s.toNat 64)
def L7 (y:Int):Int:=mW ((64-ER y.toNat:Nat):Int)
def Iv (y:Int):Int:=TP y (L7 y)
def Pa (h l y:Int):Int:=bits .or .u64 (TP h (L7 y)) (IF l (mW (64-L7 y)))
def TQ (l y:Int):Int:=TP l (L7 y)
abbrev K1:Option (List Nat×List Nat×Nat):=some ([2,8,9,10,11,13,14,15,16],[],0)
abbrev K2:Option (List Nat×List Nat×Nat):=some ([2,8,9,10,14,15,16,17,18],[],0)
theorem AIs (h l y:Int):AS Tryz.prog (AH S21 K0) (some 0) 300 0 K1 (Af Tryz.f272 (dA h l y) [] 0 [false,false,false]) =
 some ([(decide (y=0),false),(decide (y≤h),false),(decide (h=0),false),(true,true),(decide (0≤(32:Int)∧0≤Iv y),true),(true,true),(decide (0≤mW (64-L7 y)∧0≤l),true),(true,true),
  (decide (0≤(32:Int)∧0≤TQ l y),true),(decide (IF (Iv y) 32≠0),true)],[],
  Iu (Iv y) (L7 y) (IF (Iv y) 32) (bits .and .u64 (Iv y) 4294967295) (Pa h l y) (IF (TQ l y) 32) (bits .and .u64 (TQ l y) 4294967295) (mW (Int.tdiv (Pa h l y) (IF (Iv y) 32)))
   (mW (Pa h l y-mW (mW (Int.tdiv (Pa h l y) (IF (Iv y) 32))*IF (Iv y) 32))) []):=by kernel_rfl
theorem AIt (h l y:Int):Dt Tryz.prog (AH S21 K0) Tryz.f272 300 0 (Af Tryz.f272 (dA h l y) [] 0 [false,false,true]) =
 some ([(decide (y=0),false),(decide (y≤h),false),(decide (h=0),true),(decide (y≠0),true),(decide (0≤l∧0<y),true)],[],.tup [(false,[.v (.int .u64 (mW (Int.tdiv l y)))]),(false,[.v (.int .u64 (Int.tmod l y))])]):=by kernel_rfl
def Iw (q r y0 u1:Int):Bool:=decide (mW (mW (4294967296*r)+u1)<mW (q*y0))
section
variable (Y s y1 y0 u u1 u0 q r v z:Int)
theorem AIu:AS Tryz.prog (AH S21 K0) (some 0) 300 0 K1 (Iu Y s y1 y0 u u1 u0 q r [true,false]) =
 some ([(decide (4294967296≤q),true),(decide (4294967296≤mW (r+y1)),false)],[],Iu Y s y1 y0 u u1 u0 (mW (q-1)) (mW (r+y1)) []):=by kernel_rfl
theorem AIv:AS Tryz.prog (AH S21 K0) (some 0) 300 0 K1 (Iu Y s y1 y0 u u1 u0 q r [false,true,false]) =
 some ([(decide (4294967296≤q),false),(Iw q r y0 u1,true),(decide (4294967296≤mW (r+y1)),false)],[],Iu Y s y1 y0 u u1 u0 (mW (q-1)) (mW (r+y1)) []):=by kernel_rfl
def ES (Y u u1 q:Int):Int:=mW (mW (mW (u*4294967296)+u1)-mW (q*Y))
theorem AIw:AS Tryz.prog (AH S21 K0) (some 0) 300 0 K2 (Iu Y s y1 y0 u u1 u0 q r [true,true]) =
 some ([(decide (4294967296≤q),true),(decide (4294967296≤mW (r+y1)),true),(decide (y1≠0),true)],[],
  HX Y s y1 y0 u0 (mW (q-1)) (mW (ES Y u u1 (mW (q-1))-mW (mW (Int.tdiv (ES Y u u1 (mW (q-1))) y1)*y1))) (ES Y u u1 (mW (q-1))) (mW (Int.tdiv (ES Y u u1 (mW (q-1))) y1)) []):=by kernel_rfl
theorem AIx:AS Tryz.prog (AH S21 K0) (some 0) 300 0 K2 (Iu Y s y1 y0 u u1 u0 q r [false,true,true]) =
 some ([(decide (4294967296≤q),false),(Iw q r y0 u1,true),(decide (4294967296≤mW (r+y1)),true),(decide (y1≠0),true)],[],
  HX Y s y1 y0 u0 (mW (q-1)) (mW (ES Y u u1 (mW (q-1))-mW (mW (Int.tdiv (ES Y u u1 (mW (q-1))) y1)*y1))) (ES Y u u1 (mW (q-1))) (mW (Int.tdiv (ES Y u u1 (mW (q-1))) y1)) []):=by kernel_rfl
theorem u9:AS Tryz.prog (AH S21 K0) (some 0) 300 0 K2 (Iu Y s y1 y0 u u1 u0 q r [false,false]) =
 some ([(decide (4294967296≤q),false),(Iw q r y0 u1,false),(decide (y1≠0),true)],[],
  HX Y s y1 y0 u0 q (mW (ES Y u u1 q-mW (mW (Int.tdiv (ES Y u u1 q) y1)*y1))) (ES Y u u1 q) (mW (Int.tdiv (ES Y u u1 q) y1)) []):=by kernel_rfl
theorem AIy:AS Tryz.prog (AH S21 K0) (some 0) 300 0 K2 (HX Y s y1 y0 u0 q r v z [true,false]) =
 some ([(decide (4294967296≤z),true),(decide (4294967296≤mW (r+y1)),false)],[],HX Y s y1 y0 u0 q (mW (r+y1)) v (mW (z-1)) []):=by kernel_rfl
theorem AIz:AS Tryz.prog (AH S21 K0) (some 0) 300 0 K2 (HX Y s y1 y0 u0 q r v z [false,true,false]) =
 some ([(decide (4294967296≤z),false),(Iw z r y0 u0,true),(decide (4294967296≤mW (r+y1)),false)],[],HX Y s y1 y0 u0 q (mW (r+y1)) v (mW (z-1)) []):=by kernel_rfl
def TR (Y s u0 q v z:Int):AV:=.tup [(false,[.v (.int .u64 (mW (mW (q*4294967296)+z)))]),(false,[.v (.int .u64 (IF (ES Y v u0 z) s))])]
theorem AI0:Dt Tryz.prog (AH S21 K0) Tryz.f272 300 0 (HX Y s y1 y0 u0 q r v z [true,true]) =
 some ([(decide (4294967296≤z),true),(decide (4294967296≤mW (r+y1)),true),(decide (0≤s∧0≤ES Y v u0 (mW (z-1))),true)],[],TR Y s u0 q v (mW (z-1))):=by kernel_rfl
theorem AI1:Dt Tryz.prog (AH S21 K0) Tryz.f272 300 0 (HX Y s y1 y0 u0 q r v z [false,true,true]) =
 some ([(decide (4294967296≤z),false),(Iw z r y0 u0,true),(decide (4294967296≤mW (r+y1)),true),(decide (0≤s∧0≤ES Y v u0 (mW (z-1))),true)],[],TR Y s u0 q v (mW (z-1))):=by kernel_rfl
theorem vA:Dt Tryz.prog (AH S21 K0) Tryz.f272 300 0 (HX Y s y1 y0 u0 q r v z [false,false]) =
 some ([(decide (4294967296≤z),false),(Iw z r y0 u0,false),(decide (0≤s∧0≤ES Y v u0 z),true)],[],TR Y s u0 q v z):=by kernel_rfl
end
theorem V' {u u1 Y q:Nat} (hu:u<Y) (hu1:u1<4294967296) (hq:4294967296≤q):(u*4294967296+u1) / Y<q:=by
 refine Nat.lt_of_lt_of_le (Nat.div_lt_of_lt_mul ?_) hq
 rw [Nat.mul_comm Y]
 omega
theorem vB {u u1 y1 y0 Y q r:Nat} (hY:Y=y1*4294967296+y0) (hu:u=q*y1+r) (h:4294967296*r+u1<q*y0):(u*4294967296+u1) / Y<q:=by
 refine Nat.div_lt_of_lt_mul ?_
 have e1:(q*y1+r)*4294967296=q*y1*4294967296+r*4294967296:=Nat.add_mul ..
 have e2:(y1*4294967296+y0)*q=q*y1*4294967296+q*y0:=by rw [Nat.add_mul,Nat.mul_comm y0 q,Nat.mul_right_comm,Nat.mul_comm y1 q]
 rw [hY,hu,e1,e2]
 omega
theorem WA {u u1 y1 y0 Y q r:Nat} (hY:Y=y1*4294967296+y0) (hpos:0<Y) (hu:u=q*y1+r) (h:q*y0≤4294967296*r+u1) (hle:(u*4294967296+u1) / Y≤q):(u*4294967296+u1) / Y=q:=by
 refine Nat.le_antisymm hle ((Nat.le_div_iff_mul_le hpos).2 ?_)
 rw [hY,hu,Nat.mul_add,← Nat.mul_assoc]
 omega
theorem vC {q y0 r u1:Nat} (hq:q≤4294967297) (hy:y0<4294967296) (hr:4294967296≤r):q*y0≤4294967296*r+u1:=by
 have:=Nat.mul_le_mul hq (show y0≤4294967295 by omega)
 omega
theorem vD {u u1 y1 y0 Y:Nat} (hY:Y=y1*4294967296+y0) (hy1:0<y1) (hu1:u1<4294967296):(u*4294967296+u1) / Y≤u / y1:=by
 refine (Nat.le_div_iff_mul_le hy1).2 ?_
 have h:=Nat.div_mul_le_self (u*4294967296+u1) Y
 generalize (u*4294967296+u1) / Y=q at *
 rw [hY,Nat.mul_add,← Nat.mul_assoc] at h
 generalize q*y1=A at *
 generalize q*y0=B at *
 omega
theorem vE {u y1 y0 Y:Nat} (hY:Y=y1*4294967296+y0) (hy0:y0<4294967296) (hy1:2147483648≤y1) (hu:u<Y):u / y1≤4294967298:=by
 have hb:u<4294967299*y1:=by omega
 have:=(Nat.div_lt_iff_lt_mul (show 0<y1 by omega)).2 hb
 omega
theorem Pb {Y u u1 q:Nat} (h:q=(u*4294967296+u1) / Y) (hpos:0<Y) (hY:Y≤18446744073709551616):ES Y u u1 q=(((u*4294967296+u1) % Y:Nat):Int):=by
 have h1:=Nat.div_add_mod (u*4294967296+u1) Y
 have h2:=Nat.mod_lt (u*4294967296+u1) hpos
 rw [← h,Nat.mul_comm] at h1
 unfold ES
 simp only [EN]
 have e:(q:Int)*(Y:Int)=((q*Y:Nat):Int):=by rw [Int.natCast_mul]
 rw [e]
 generalize q*Y=N at *
 generalize (u*4294967296+u1) % Y=m at *
 omega
theorem WB {q r y0 u1:Nat} (hq:q<4294967296) (hr:r<4294967296) (hy:y0<4294967296) (hu1:u1<4294967296):Iw q r y0 u1=decide (4294967296*r+u1<q*y0):=by
 have hm:=Nat.mul_le_mul (show q≤4294967295 by omega) (show y0≤4294967295 by omega)
 unfold Iw
 simp only [EN]
 have e:(q:Int)*(y0:Int)=((q*y0:Nat):Int):=by rw [Int.natCast_mul]
 rw [e]
 generalize q*y0=N at *
 have e1:(4294967296*(r:Int)) % 18446744073709551616=4294967296*(r:Int):=by omega
 rw [e1]
 have e2:(4294967296*(r:Int)+u1) % 18446744073709551616=4294967296*(r:Int)+u1:=by omega
 have e3:((N:Nat):Int) % 18446744073709551616=N:=by omega
 rw [e2,e3]
 by_cases h:4294967296*r+u1<N
 ·rw [decide_eq_true h,decide_eq_true (by omega)]
 ·rw [decide_eq_false h,decide_eq_false (by omega)]
theorem vF (v y1:Nat) (hv:v<18446744073709551616) (hy1:0<y1):mW (Int.tdiv (v:Int) y1)=((v / y1:Nat):Int)∧mW ((v:Int)-mW (mW (Int.tdiv (v:Int) y1)*y1))=((v % y1:Nat):Int):=by
 have h1:=Nat.div_add_mod v y1
 have h2:=Nat.mod_lt v hy1
 have h3:=Nat.div_le_self v y1
 have e0:Int.tdiv (v:Int) y1=((v / y1:Nat):Int):=by rw [Int.tdiv_eq_ediv_of_nonneg (by omega)];rfl
 rw [e0,Ni,Nat.mod_eq_of_lt (by omega)]
 refine ⟨rfl,?_⟩
 have e1:((v / y1:Nat):Int)*(y1:Int)=((v / y1*y1:Nat):Int):=by rw [Int.natCast_mul]
 rw [e1,Ni,EN,Nat.mul_comm]
 generalize y1*(v / y1)=N at *
 omega
theorem vG {q:Nat} (h:0<q) (hq:q≤18446744073709551616):mW ((q:Int)-1)=((q-1:Nat):Int):=by rw [EN];omega
theorem vH {r y1:Nat} (hr:r<4294967296) (hy:y1<4294967296):mW ((r:Int)+y1)=((r+y1:Nat):Int):=by rw [EN];omega
def TS (q z m s:Nat):AV:=.tup [(false,[.v (.int .u64 ((q*4294967296+z:Nat):Int))]),(false,[.v (.int .u64 ((m / 2^min s 64:Nat):Int))])]
theorem d8 (x s:Nat):IF (x:Int) (s:Int)=((x / 2^min s 64:Nat):Int):=by
 unfold IF
 rw [Int.toNat_natCast]
 exact J7 x _
section
variable {Y s y1 y0 u0:Nat} (hY:Y=y1*4294967296+y0) (hy0:y0<4294967296) (hy1:2147483648≤y1) (hy1':y1<4294967296) (hu0:u0<4294967296) (w0:World)
include hY hy0 hy1 hy1' hu0
theorem AI2 {v q:Nat} (hv:v<Y) (hq:q<4294967296):∀ z r,v=z*y1+r→r<4294967296→z≤4294967298→(v*4294967296+u0) / Y≤z →
  ASafe Tryz.prog 272 Bc w0 (F4 w0 (TS q ((v*4294967296+u0) / Y) ((v*4294967296+u0) % Y) s)) Tryz.f272.ntmps [] (HX Y s y1 y0 u0 q r v z []):=by
 have hpos:0<Y:=by omega
 have hYle:Y≤18446744073709551616:=by omega
 have fin:∀ z:Nat,z=(v*4294967296+u0) / Y→TR Y s u0 q v z=TS q ((v*4294967296+u0) / Y) ((v*4294967296+u0) % Y) s:=by
  intro z hz
  have hlt:z<4294967296:=by rw [hz];exact V' hv hu0 (Nat.le_refl _)
  unfold TR TS
  rw [Pb hz hpos hYle,d8,← hz]
  have:mW (mW ((q:Int)*4294967296)+(z:Int))=((q*4294967296+z:Nat):Int):=by rw [EN,EN];omega
  rw [this]
 have pos21:∀ z:Nat,z=(v*4294967296+u0) / Y→decide (0≤(s:Int)∧0≤ES Y v u0 z)=true:=by
  intro z hz
  rw [Pb hz hpos hYle];simp only [decide_eq_true_eq];omega
 intro z
 induction z with
 | zero =>
  intro r hz hr _ hle
  have hq0:(v*4294967296+u0) / Y=0:=Nat.le_zero.1 hle
  have hdc:Iw ((0:Nat):Int) r y0 u0=false:=by rw [WB (by decide) hr hy0 hu0];simp
  rw [← fin 0 hq0.symm]
  exact Ab [false,false] (GO (AK F9 Aa) AB Tryz.func272 (vA ..) ⟨by simp,hdc,pos21 0 hq0.symm,trivial⟩ (AL (by kernel_rfl)) (fun _ _=>rfl) rfl)
 | succ z ih =>
  intro r hz hr htop hle
  have hdq:=vG (q:=z+1) (by omega) (by omega)
  have hir:=vH hr hy1'
  rw [Nat.add_sub_cancel] at hdq
  have hz':v=z*y1+(r+y1):=by rw [hz,Nat.succ_mul];omega
  have go:∀ (hlt:(v*4294967296+u0) / Y<z+1),(4294967296≤r+y1→(v*4294967296+u0) / Y=z):=fun hlt hb =>
   WA hY hpos hz' (vC (by omega) hy0 hb) (by omega)
  by_cases hbig:4294967296≤z+1
  ·have hlt:=V' hv hu0 hbig
   by_cases hb:4294967296≤r+y1
   ·have hq:=go hlt hb
    have h:=GO (w0:=w0) (β0:=Bc) (n:=Tryz.f272.ntmps) (AK F9 Aa) AB Tryz.func272 (AI0 Y s y1 y0 u0 q r v (z+1:Nat)) ⟨by simp;omega,by rw [hir];simp;omega,by rw [hdq];exact pos21 z hq.symm,trivial⟩ (AL (by kernel_rfl)) (fun _ _=>rfl) rfl
    rw [hdq,fin z hq.symm] at h
    exact Ab [true,true] h
   ·refine Ab [true,false] (Ae (AK F9 Aa) AB (AIy Y s y1 y0 u0 q r v (z+1:Nat)) ⟨by simp;omega,by rw [hir];simp;omega,trivial⟩ (AL (by kernel_rfl)) (fun _ _=>rfl) (fun _ h=>by cases h) fun _=>?_)
    rw [hdq,hir]
    exact ih (r+y1) hz' (by omega) (by omega) (by omega)
  ·have hsm:z+1<4294967296:=by omega
   have hdc:=WB (u1:=u0) hsm hr hy0 hu0
   by_cases hc:4294967296*r+u0<(z+1)*y0
   ·have hlt:=vB hY hz hc
    by_cases hb:4294967296≤r+y1
    ·have hq:=go hlt hb
     have h:=GO (w0:=w0) (β0:=Bc) (n:=Tryz.f272.ntmps) (AK F9 Aa) AB Tryz.func272 (AI1 Y s y1 y0 u0 q r v (z+1:Nat)) ⟨by simp;omega,by rw [hdc];exact decide_eq_true hc,by rw [hir];simp;omega,by rw [hdq];exact pos21 z hq.symm,trivial⟩ (AL (by kernel_rfl)) (fun _ _=>rfl) rfl
     rw [hdq,fin z hq.symm] at h
     exact Ab [false,true,true] h
    ·refine Ab [false,true,false] (Ae (AK F9 Aa) AB (AIz Y s y1 y0 u0 q r v (z+1:Nat)) ⟨by simp;omega,by rw [hdc];exact decide_eq_true hc,by rw [hir];simp;omega,trivial⟩ (AL (by kernel_rfl)) (fun _ _=>rfl) (fun _ h=>by cases h) fun _=>?_)
     rw [hdq,hir]
     exact ih (r+y1) hz' (by omega) (by omega) (by omega)
   ·have hq:=WA hY hpos hz (by omega) hle
    rw [← fin (z+1) hq.symm]
    exact Ab [false,false] (GO (AK F9 Aa) AB Tryz.func272 (vA ..) ⟨by simp;omega,by rw [hdc];exact decide_eq_false hc,pos21 _ hq.symm,trivial⟩ (AL (by kernel_rfl)) (fun _ _=>rfl) rfl)
theorem AI3 {u u1:Nat} (hu:u<Y) (hu1:u1<4294967296) {R:Ending→World→Prop}
  (hnext:ASafe Tryz.prog 272 Bc w0 R Tryz.f272.ntmps [] (HX Y s y1 y0 u0 ((u*4294967296+u1) / Y:Nat) ((u*4294967296+u1) % Y % y1:Nat) ((u*4294967296+u1) % Y:Nat) ((u*4294967296+u1) % Y / y1:Nat) [])) :
  ∀ q r,u=q*y1+r→r<4294967296→q≤4294967298→(u*4294967296+u1) / Y≤q→ASafe Tryz.prog 272 Bc w0 R Tryz.f272.ntmps [] (Iu Y s y1 y0 u u1 u0 q r []):=by
 have _h:=hu0
 have hpos:0<Y:=by omega
 have hYle:Y≤18446744073709551616:=by omega
 have hm:=Nat.mod_lt (u*4294967296+u1) hpos
 have hne:decide ((y1:Int)≠0)=true:=by simp only [decide_eq_true_eq];omega
 obtain ⟨n1,n2⟩:=vF ((u*4294967296+u1) % Y) y1 (by omega) (by omega)
 intro q
 induction q with
 | zero =>
  intro r hz hr _ hle
  have hq0:((0:Nat))=(u*4294967296+u1) / Y:=(Nat.le_zero.1 hle).symm
  have hdc:Iw ((0:Nat):Int) r y0 u1=false:=by rw [WB (by decide) hr hy0 hu1];simp
  refine Ab [false,false] (Ae (AK F9 Aa) AB (u9 Y s y1 y0 u u1 u0 (0:Nat) r) ⟨by simp,hdc,hne,trivial⟩ (AL (by kernel_rfl)) (fun _ _=>rfl) (fun _ h=>by cases h) fun _=>?_)
  rw [Pb hq0 hpos hYle,n2,n1]
  rw [hq0]
  exact hnext
 | succ q ih =>
  intro r hz hr htop hle
  have hdq:=vG (q:=q+1) (by omega) (by omega)
  have hir:=vH hr hy1'
  rw [Nat.add_sub_cancel] at hdq
  have hz':u=q*y1+(r+y1):=by rw [hz,Nat.succ_mul];omega
  have go:∀ (hlt:(u*4294967296+u1) / Y<q+1),(4294967296≤r+y1→(u*4294967296+u1) / Y=q):=fun hlt hb =>
   WA hY hpos hz' (vC (by omega) hy0 hb) (by omega)
  by_cases hbig:4294967296≤q+1
  ·have hlt:=V' hu hu1 hbig
   by_cases hb:4294967296≤r+y1
   ·have hq:=go hlt hb
    refine Ab [true,true] (Ae (AK F9 Aa) AB (AIw Y s y1 y0 u u1 u0 (q+1:Nat) r) ⟨by simp;omega,by rw [hir];simp;omega,hne,trivial⟩ (AL (by kernel_rfl)) (fun _ _=>rfl) (fun _ h=>by cases h) fun _=>?_)
    rw [hdq,Pb hq.symm hpos hYle,n2,n1]
    rw [← hq]
    exact hnext
   ·refine Ab [true,false] (Ae (AK F9 Aa) AB (AIu Y s y1 y0 u u1 u0 (q+1:Nat) r) ⟨by simp;omega,by rw [hir];simp;omega,trivial⟩ (AL (by kernel_rfl)) (fun _ _=>rfl) (fun _ h=>by cases h) fun _=>?_)
    rw [hdq,hir]
    exact ih (r+y1) hz' (by omega) (by omega) (by omega)
  ·have hsm:q+1<4294967296:=by omega
   have hdc:=WB (u1:=u1) hsm hr hy0 hu1
   by_cases hc:4294967296*r+u1<(q+1)*y0
   ·have hlt:=vB hY hz hc
    by_cases hb:4294967296≤r+y1
    ·have hq:=go hlt hb
     refine Ab [false,true,true] (Ae (AK F9 Aa) AB (AIx Y s y1 y0 u u1 u0 (q+1:Nat) r) ⟨by simp;omega,by rw [hdc];exact decide_eq_true hc,by rw [hir];simp;omega,hne,trivial⟩ (AL (by kernel_rfl)) (fun _ _=>rfl) (fun _ h=>by cases h) fun _=>?_)
     rw [hdq,Pb hq.symm hpos hYle,n2,n1]
     rw [← hq]
     exact hnext
    ·refine Ab [false,true,false] (Ae (AK F9 Aa) AB (AIv Y s y1 y0 u u1 u0 (q+1:Nat) r) ⟨by simp;omega,by rw [hdc];exact decide_eq_true hc,by rw [hir];simp;omega,trivial⟩ (AL (by kernel_rfl)) (fun _ _=>rfl) (fun _ h=>by cases h) fun _=>?_)
     rw [hdq,hir]
     exact ih (r+y1) hz' (by omega) (by omega) (by omega)
   ·have hq:=WA hY hpos hz (by omega) hle
    refine Ab [false,false] (Ae (AK F9 Aa) AB (u9 Y s y1 y0 u u1 u0 (q+1:Nat) r) ⟨by simp;omega,by rw [hdc];exact decide_eq_false hc,hne,trivial⟩ (AL (by kernel_rfl)) (fun _ _=>rfl) (fun _ h=>by cases h) fun _=>?_)
    rw [Pb hq.symm hpos hYle,n2,n1]
    rw [← hq]
    exact hnext
end
def B9:Nat:=18446744073709551616
theorem d9 {x s:Nat} (hs:s≤64):TP (x:Int) (s:Int)=((x*2^s % B9:Nat):Int):=by
 unfold TP
 rw [Int.toNat_natCast,Nat.min_eq_left hs]
 have:(x:Int)*2^s=((x*2^s:Nat):Int):=by rw [Int.natCast_mul,Int.natCast_pow];rfl
 rw [this,Ni];rfl
theorem eB {h s B:Nat} (hA:h*2^s<B9) (hB:B<2^s) (hs:s≤64):bits .or .u64 ((h*2^s:Nat):Int) (B:Int)=((h*2^s+B:Nat):Int):=by
 have hle:2^s≤2^64:=Nat.pow_le_pow_right (by decide) hs
 have:=(bits_nat .u64 64 (by decide) (fun n h0 h1=>by rw [IntKind.wrap_u64];omega) (h*2^s) B hA (by omega)).2
 rw [this,← Nat.shiftLeft_eq,Nat.shiftLeft_add_eq_or_of_lt hB]
theorem AI4 {y:Nat} (h0:0<y) (h1:y<B9):∃ s,s≤63∧64-ER y=s∧9223372036854775808≤y*2^s∧y*2^s<B9:=by
 obtain ⟨b1,b2,b3⟩:=uZ h1
 obtain ⟨b4,b5⟩:=b2 h0
 refine ⟨64-ER y,by omega,rfl,?_,?_⟩
 ·have:=Nat.mul_le_mul_right (2^(64-ER y)) b5
  rw [← Nat.pow_add,show ER y-1+(64-ER y)=63 by omega] at this
  exact this
 ·have:=Nat.mul_lt_mul_of_pos_right b1 (show 0<2^(64-ER y) from Nat.pow_pos (by decide))
  rw [← Nat.pow_add,show ER y+(64-ER y)=64 by omega] at this
  exact this
theorem AI5 {Y u u1 u0 b:Nat} (hpos:0<Y):(u*(b*b)+(u1*b+u0)) / Y=(u*b+u1) / Y*b+((u*b+u1) % Y*b+u0) / Y∧(u*(b*b)+(u1*b+u0)) % Y=((u*b+u1) % Y*b+u0) % Y:=by
 have e:u*(b*b)+(u1*b+u0)=(u*b+u1) % Y*b+u0+Y*((u*b+u1) / Y*b):=by
  have h1:=Nat.div_add_mod (u*b+u1) Y
  have:u*(b*b)+u1*b=(u*b+u1)*b:=by rw [Nat.add_mul,Nat.mul_assoc]
  rw [← Nat.add_assoc,this]
  conv=>lhs;rw [← h1,Nat.add_mul]
  rw [Nat.mul_assoc]
  omega
 rw [e,Nat.add_mul_div_left _ _ hpos,Nat.add_mul_mod_self_left]
 exact ⟨by omega,rfl⟩
theorem AI6 {l s:Nat} (hl:l<B9) (hs:s≤63):l*2^s=l / 2^(64-s)*B9+l*2^s % B9∧l / 2^(64-s)<2^s:=by
 have e:B9=2^(64-s)*2^s:=by rw [← Nat.pow_add,show 64-s+s=64 by omega];rfl
 have hp:0<2^s:=Nat.pow_pos (by decide)
 constructor
 ·have h1:=Nat.div_add_mod (l*2^s) B9
  have h2:l*2^s / B9=l / 2^(64-s):=by rw [e,Nat.mul_div_mul_right _ _ hp]
  rw [h2,Nat.mul_comm B9] at h1
  exact h1.symm
 ·refine Nat.div_lt_of_lt_mul ?_
  rw [← e];exact hl
def WC (h l y:Nat):AV:=.tup [(false,[.v (.int .u64 (((h*B9+l) / y:Nat):Int))]),(false,[.v (.int .u64 (((h*B9+l) % y:Nat):Int))])]
theorem AI7 {h l y:Nat} (hh:h<y) (hl:l<B9) (hy:y<B9):AU Tryz.prog 272 (dA h l y) (WC h l y):=by
 refine Js (path:=[]) Tryz.func272 (by kernel_rfl) (by kernel_rfl) fun w0=>?_
 have hy0:0<y:=by omega
 by_cases hz:h=0
 ·subst hz
  have h1:=GO (w0:=w0) (β0:=Bc) (n:=Tryz.f272.ntmps) (AK F9 Aa) AB Tryz.func272 (AIt ((0:Nat):Int) l y) ⟨by simp;omega,by simp;omega,by simp,by simp;omega,by simp;omega,trivial⟩ (AL (by kernel_rfl)) (fun _ _=>rfl) rfl
  have e1:mW (Int.tdiv (l:Int) y)=(((0*B9+l) / y:Nat):Int):=by
   rw [Int.tdiv_eq_ediv_of_nonneg (by omega),Nat.zero_mul,Nat.zero_add,← Int.natCast_ediv,Ni,Nat.mod_eq_of_lt (Nat.lt_of_le_of_lt (Nat.div_le_self l y) (show l<18446744073709551616 from hl))]
  have e2:Int.tmod (l:Int) y=(((0*B9+l) % y:Nat):Int):=by
   rw [Int.tmod_eq_emod_of_nonneg (by omega),Nat.zero_mul,Nat.zero_add];rfl
  rw [e1,e2] at h1
  exact Ab [false,false,true] h1
 ·obtain ⟨s,hs,hls,hY1,hY2⟩:=AI4 hy0 hy
  have hp:0<2^s:=Nat.pow_pos (by decide)
  obtain ⟨lo1,lo2⟩:=AI6 hl hs
  have es:L7 (y:Int)=(s:Int):=by
   unfold L7
   rw [Int.toNat_natCast,hls,Ni,Nat.mod_eq_of_lt (by omega)]
  have eY:Iv (y:Int)=((y*2^s:Nat):Int):=by
   unfold Iv
   rw [es,d9 (by omega),Nat.mod_eq_of_lt hY2]
  have hA:h*2^s+2^s≤y*2^s:=by
   have:=Nat.mul_le_mul_right (2^s) (show h+1≤y from hh)
   rwa [Nat.add_mul,Nat.one_mul] at this
  have eu:Pa (h:Int) (l:Int) (y:Int)=((h*2^s+l / 2^(64-s):Nat):Int):=by
   unfold Pa
   have e64:mW (64-(s:Int))=((64-s:Nat):Int):=by rw [EN];omega
   rw [es,e64,d9 (by omega),Nat.mod_eq_of_lt (by omega),d8,Nat.min_eq_left (show 64-s≤64 by omega)]
   exact eB (by omega) lo2 (by omega)
  have el:TQ (l:Int) (y:Int)=((l*2^s % B9:Nat):Int):=by
   unfold TQ
   rw [es,d9 (by omega)]
  generalize hYd:y*2^s=Y at *
  generalize hud:h*2^s+l / 2^(64-s)=u at *
  generalize hld:l*2^s % B9=ul at *
  have hul:ul<B9:=by rw [← hld];exact Nat.mod_lt _ (by decide)
  have hu:u<Y:=by omega
  unfold B9 at hul hY2
  have ent:=AIs (h:Int) (l:Int) (y:Int)
  have e32:∀ x:Nat,IF (x:Int) 32=((x / 4294967296:Nat):Int):=fun x=>d8 x 32
  have eand:∀ x:Nat,x<18446744073709551616→bits .and .u64 (x:Int) 4294967295=((x % 4294967296:Nat):Int):=fun x hx=>by
   have:=SS (x:=(x:Int)) (by omega) (by omega)
   unfold NX at this
   rw [this];omega
  have e64:mW (64-(s:Int))=((64-s:Nat):Int):=by rw [EN];omega
  rw [eY,eu,el,es,e32,e32,eand Y hY2,eand ul hul,e64] at ent
  obtain ⟨n1,n2⟩:=vF u (Y / 4294967296) (by omega) (by omega)
  rw [n2,n1] at ent
  have hYs:Y=Y / 4294967296*4294967296+Y % 4294967296:=by omega
  refine Ab [false,false,false] (Ae (AK F9 Aa) AB ent ?_ (AL (by kernel_rfl)) (fun _ _=>rfl) (fun _ h=>by cases h) fun _=>?_)
  ·refine ⟨by simp;omega,by simp;omega,by simp;omega,rfl,by simp,rfl,by simp,rfl,by simp,?_,trivial⟩
   simp only [decide_eq_true_eq];omega
  ·have hr1:=Nat.mod_lt u (show 0<Y / 4294967296 by omega)
   have hdm:=Nat.div_add_mod u (Y / 4294967296)
   rw [Nat.mul_comm] at hdm
   refine AI3 hYs (Nat.mod_lt _ (by decide)) (by omega) (by omega) (Nat.mod_lt ul (by decide)) w0 hu (by omega) ?_ (u / (Y / 4294967296)) (u % (Y / 4294967296)) hdm.symm (by omega) (vE hYs (Nat.mod_lt _ (by decide)) (by omega) hu) (vD hYs (by omega) (by omega))
   have hYpos:0<Y:=by omega
   generalize hu1:ul / 4294967296=u1 at *
   generalize hu0:ul % 4294967296=u0 at *
   have hv:=Nat.mod_lt (u*4294967296+u1) hYpos
   have hq1:(u*4294967296+u1) / Y<4294967296:=V' hu (by omega) (Nat.le_refl _)
   obtain ⟨g1,g2⟩:=AI5 (u:=u) (u1:=u1) (u0:=u0) (b:=4294967296) hYpos
   have hN:u*(4294967296*4294967296)+(u1*4294967296+u0)=(h*B9+l)*2^s:=by
    rw [Nat.add_mul,lo1,← hud]
    have:u1*4294967296+u0=ul:=by omega
    rw [this]
    show (h*2^s+l / 2^(64-s))*B9+ul=h*B9*2^s+(l / 2^(64-s)*B9+ul)
    rw [Nat.add_mul,Nat.mul_right_comm h B9];omega
   rw [hN,← hYd] at g1 g2
   rw [Nat.mul_div_mul_right _ _ hp] at g1
   rw [Nat.mul_mod_mul_right] at g2
   rw [hYd] at g1 g2
   obtain ⟨v,hv'⟩:∃ v,v=(u*4294967296+u1) % Y:=⟨_,rfl⟩
   rw [← hv'] at hv g1 g2 ⊢
   have hdm2:=Nat.div_add_mod v (Y / 4294967296)
   rw [Nat.mul_comm] at hdm2
   have hr2:=Nat.mod_lt v (show 0<Y / 4294967296 by omega)
   have fin:=AI2 (s:=s) (u0:=u0) hYs (Nat.mod_lt _ (by decide)) (by omega) (by omega) (by rw [← hu0];exact Nat.mod_lt _ (by decide)) w0 hv hq1 (v / (Y / 4294967296)) (v % (Y / 4294967296)) hdm2.symm (by omega) (vE hYs (Nat.mod_lt _ (by decide)) (by omega) hv) (vD hYs (by omega) (by rw [← hu0];exact Nat.mod_lt _ (by decide)))
   have eo:TS ((u*4294967296+u1) / Y) ((v*4294967296+u0) / Y) ((v*4294967296+u0) % Y) s=WC h l y:=by
    unfold TS WC
    rw [← g1,← g2,Nat.min_eq_left (show s≤64 by omega),Nat.mul_div_cancel _ hp]
   rw [eo] at fin
   exact fin
def vJ:List Int→Option (List (Bool×Bool)×AV)
 | [h,l,y]=>some ([(decide (h<y),true)],WC h.toNat l.toNat y.toNat)
 | _=>none
noncomputable def S22:List (FuncId×ASpec):=(272,EE (PZ [.u64,.u64,.u64] vJ))::S21
theorem Ix:AX Tryz.prog S22:=⟨El Tryz.func272 (by kernel_rfl) (by kernel_rfl) (V9 fun is c v h hh hc=>by
 unfold vJ at h
 split at h
 ·rename_i h0 l0 y0
  injection h with h;injection h with h1 h2;subst h1;subst h2
  obtain ⟨q1,q2,q3,_⟩:=hh
  have b1:=DQ q1
  have b2:=DQ q2
  have b3:=DQ q3
  obtain ⟨H,rfl⟩:=Int.eq_ofNat_of_zero_le b1.1
  obtain ⟨L,rfl⟩:=Int.eq_ofNat_of_zero_le b2.1
  obtain ⟨Y,rfl⟩:=Int.eq_ofNat_of_zero_le b3.1
  have hlt:=hc.1
  simp only [decide_eq_true_eq] at hlt
  rw [Int.toNat_natCast,Int.toNat_natCast,Int.toNat_natCast]
  exact AI7 (by omega) (show L<18446744073709551616 by omega) (show Y<18446744073709551616 by omega)
 ·cases h),F9⟩
def hw (a b:Int):Int:=bits .or .u64 (Int.fdiv a (2^min (Int.toNat 1) 64)) (mW (b*2^min (Int.toNat 63) 64))
theorem Np {a b:Int} (ha:0≤a∧a<18446744073709551616) (hb:0≤b∧b<18446744073709551616):hw a b=a / 2+b % 2*9223372036854775808:=by
 obtain ⟨A,rfl⟩:=Int.eq_ofNat_of_zero_le ha.1
 obtain ⟨B,rfl⟩:=Int.eq_ofNat_of_zero_le hb.1
 unfold hw
 have e1:Int.fdiv (A:Int) (2^min (Int.toNat 1) 64)=((A / 2:Nat):Int):=J7 A 1
 have e2:mW ((B:Int)*2^min (Int.toNat 63) 64)=((B % 2*2^63:Nat):Int):=by
  have:(B:Int)*2^min (Int.toNat 63) 64=((B*9223372036854775808:Nat):Int):=by rw [Int.natCast_mul];rfl
  rw [this,Ni];omega
 have hlt:A / 2<2^63:=by omega
 have h:=eB (h:=B % 2) (s:=63) (B:=A / 2) (by unfold B9;omega) hlt (by decide)
 have comm:∀ x y:Int,bits .or .u64 x y=bits .or .u64 y x:=fun x y=>by simp only [bits,BitVec.or_comm]
 rw [e1,e2,comm,h]
 omega
def vK (x:Nat) (h:Int):List Ch:=w6 (hw (AE x 0) (AE x 1)) (hw (AE x 1) (AE x 2)) (hw (AE x 2) (AE x 3)) (hw (AE x 3) (AE x 4)) (hw (AE x 4) (AE x 5)) (hw (AE x 5) h)
def F_ (x:Nat):Blk:=⟨30,[.num 6 x],false⟩
def G9 (x h:Nat):Nat:=(x+h % 2*RR) / 2
theorem AI8 (x:Nat) (h:Int):AM Tryz.prog (AH S22 K0) Tryz.f273 300 1 [0] (Af Tryz.f273 [.val false [.p 0 0],.val false [.v (.int .u64 h)]] [(0,some (F_ x))] 1 []) =
 some (G5 12,[0],.tup [],[(0,some ⟨30,vK x h,false⟩)]):=by kernel_rfl
theorem AI9 {x h:Nat} (hx:x<RR) (hh:h<18446744073709551616) {β:Env} {l:List Value} (hr:AN β (vK x h) l):AN β [.num 6 (G9 x h)] l:=by
 have b0:=BN x 0
 have b1:=BN x 1
 have b2:=BN x 2
 have b3:=BN x 3
 have b4:=BN x 4
 have b5:=BN x 5
 have hX:=NY (x:=x) (by rw [← CZ];exact hx)
 have e0:=Np b0 b1
 have e1:=Np b1 b2
 have e2:=Np b2 b3
 have e3:=Np b3 b4
 have e4:=Np b4 b5
 have e5:=Np (b:=(h:Int)) b5 (by omega)
 have hb:∀ {a b:Int},0≤a∧a<18446744073709551616→0≤b∧b<18446744073709551616→0≤hw a b∧hw a b<18446744073709551616:=fun ha hb=>by rw [Np ha hb];omega
 have:=Vs (β:=β) (u:=.agg ⟨l⟩) (y:=G9 x h) (hb b0 b1) (hb b1 b2) (hb b2 b3) (hb b3 b4) (hb b4 b5) (hb b5 (show 0≤(h:Int)∧(h:Int)<18446744073709551616 by omega)) (by
  unfold G9 E8 at *
  unfold RR
  omega) ⟨l,hr,rfl⟩
 obtain ⟨l',h1,h2⟩:=this
 injection h2 with h2;injection h2 with h2;subst h2
 exact h1
theorem AI_ {x h:Nat} (hx:x<RR) (hh:h<18446744073709551616):Ad Tryz.prog 273 [.val false [.p 0 0],.val false [.v (.int .u64 (h:Int))]] [(0,some (F_ x))] 1 [0] (.tup []) [(0,some (F_ (G9 x h)))]:=by
 intro β us w ha hg hf
 have:=Av Tryz.func273 (by kernel_rfl) (args0:=[.val false [.p 0 0],.val false [.v (.int .u64 (h:Int))]]) (H0:=[(0,some (F_ x))]) (k0:=1) (path:=[]) (W:=[0]) (by kernel_rfl) (fun β0 w0 hb=>As (AK Ix Aa) AB Tryz.func273 (AI8 x h) (J1 _) (AL (by kernel_rfl)) hb (fun _ h=>h)) β us w ha hg hf
 exact Calls.mono this fun e w' h=>TC (fun _ _ hr=>AI9 hx hh hr) h
def halfSpec:ASpec:=fun args H fr path =>
 match args with
 | [.val false [.p k 0],A]=>match BJ (some A),AG H k with
  | some (_,.u64,h),some ⟨ty,c,false⟩=>match Nat.beq ty 30,CP 6 c with
   | true,some x=>some (A5 [k] 1 fr 0 [0] (.tup []) [(0,some (F_ (G9 x h.toNat)))] [] path)
   | _,_=>none
  | _,_=>none
 | _=>none
theorem AI' {β:Env} {H:Heap} {w:World} {k:Nat} {b:Blk} {c:List Ch} (g:Ex.Good β H w) (hk:AG H k=some b) (hc:∀ l,AN β b.cs l→AN (A4 β [k] 1) c l):Ex.Good (A4 β [k] 1) [(0,some ⟨b.ty,c,b.opn⟩)] w:=by
 refine TA (ρ:=[k]) (bs:=[⟨b.ty,c,b.opn⟩]) g (fun j d hj=>?_) fun i j d hi hr hij hj=>?_
 ·match j,hj with
  | 0,hj=>injection hj with hj;subst hj;exact ⟨b,hk,.inr ⟨rfl,rfl⟩,hc⟩
 ·match i,j,hi,hj,hij with
  | 0,0,_,_,q=>exact absurd rfl q
theorem AJA:A6 Tryz.prog 273 halfSpec:=by
 refine FN Tryz.func273 (by kernel_rfl) (by kernel_rfl) fun args H fr path r h=>?_
 unfold halfSpec at h
 split at h
 case h_2=>cases h
 rename_i k A
 split at h
 case h_2=>cases h
 rename_i c0 i ty c hA hk
 split at h
 case h_2=>cases h
 rename_i x hty hx
 injection h with h
 have hty':=An.1 hty
 subst hty'
 refine ⟨[k],[.val false [.p 0 0],.val false [.v (.int .u64 (i.toNat:Int))]],[(0,some (F_ x))],1,0,[0],.tup [],_,[],path,h.symm,fun β us w ha hg hc=>?_⟩
 obtain ⟨u1,us1,r1,⟨u2,us2,r2,ha,rfl⟩,rfl⟩:=ha
 obtain ⟨rfl,p1⟩:=CH (β:=β) (u:=u2) (fun B hB=>by injection hB with hB;subst hB;exact r2) hA
 have hb:=DQ p1
 obtain ⟨l,g1⟩:=HT hg hk
 have hi:((i.toNat:Nat):Int)=i:=Int.toNat_of_nonneg hb.1
 refine ⟨AI_ (by rw [CZ];exact (F1 hx g1).2) (by omega),by kernel_rfl,⟨u1,_,r1,⟨_,us2,?_,ha,rfl⟩,rfl⟩,AI' (c:=[.num 6 x]) hg hk (fun l h=>EO hx h),fun j hj=>?_⟩
 ·rw [hi];exact Aw ⟨rfl,rfl,p1⟩
 ·match j,hj with
  | 0,_=>exact BZ (hg.heap _ _ hk)
noncomputable def S23:List (FuncId×ASpec):=(273,halfSpec)::S22
theorem TT:AX Tryz.prog S23:=⟨AJA,Ix⟩
def WD:List AV:=[.val false [.p 0 0],.val false [.p 1 0]]
def J8 (u x:Nat):Heap:=[(0,some (F_ u)),(1,some (F_ x))]
noncomputable def AJB:List Item:=Be (AS Tryz.prog (AH S23 K0) (some 0) 300 2 none (Af Tryz.f213 WD (J8 0 0) 2 []))
noncomputable def evT:List AV:=.val false [.p 0 0]::.val false [.p 1 0]::List.replicate (Tryz.f213.ntmps-2) .any
noncomputable def Nq (u x:Nat) (p:List Bool):ASt:=⟨AJB,⟨evT,J8 u x,2,p⟩⟩
abbrev KE:Option (List Nat×List Nat×Nat):=some ([0,1],[0,1],2)
def J9 (x:Nat):Int:=bits .and .u64 (AE x 0) 1
theorem AJD (u x:Nat):AS Tryz.prog (AH S23 K0) (some 3) 300 2 KE (Af Tryz.f213 WD (J8 u x) 2 [])=some ([],[],Nq u x []):=by kernel_rfl
theorem AJE (u x:Nat):AS Tryz.prog (AH S23 K0) (some 3) 300 2 KE (Nq u x [true,true])=some ([(decide (J9 u=0),true),(decide (J9 x=0),true)],[0,1],Nq (G9 u 0) (G9 x 0) []):=by kernel_rfl
theorem AJF (u x:Nat):AS Tryz.prog (AH S23 K0) (some 3) 300 2 KE (Nq u x [true,false]) =
 some ([(decide (J9 u=0),true),(decide (J9 x=0),false),(Bo 0,true),(Bo (BP x pN 1),true),(Bo (BP x pN 2),true),(Bo (BP x pN 3),true),(Bo (BP x pN 4),true),(Bo (BP x pN 5),true)],[0,1],
  Nq (G9 u 0) (G9 (Jz x pN) (BP x pN 6).toNat) []):=by kernel_rfl
theorem AJG (u x:Nat):AM Tryz.prog (AH S23 K0) Tryz.f213 300 2 [0,1] (Nq u x [false])=some ([(decide (J9 u=0),false)],[],.tup [],J8 u x):=by kernel_rfl
def GR (x:Nat):Nat:=if x % 2=0 then x / 2 else (x+pN) / 2
def FR:Nat→Nat→Nat→Nat×Nat
 | 0,u,x=>(u,x)
 | f+1,u,x=>if u % 2=0 then FR f (u / 2) (GR x) else (u,x)
theorem vL (x:Nat):J9 x=((x % 2:Nat):Int):=by
 unfold J9
 rw [dC,t5 _ (by omega)]
 omega
theorem eD (x:Nat):G9 x 0=x / 2:=by unfold G9;simp
theorem AJH {x:Nat} (hx:x<RR):G9 (Jz x pN) (BP x pN 6).toNat=(x+pN) / 2:=by
 obtain ⟨h1,h2⟩:=cM (y:=pN) hx (by decide)
 have:=Ej x pN 6
 unfold G9
 have h01:(BP x pN 6).toNat=0∨(BP x pN 6).toNat=1:=by omega
 rcases h01 with e | e<;>rw [e] at h1 ⊢<;>congr 1<;>omega
theorem vM {x:Nat} (h:x<RR):GR x<RR:=by
 have hp:pN<RR:=by decide
 unfold GR;split<;>omega
theorem AJI {β0:Env} {w0:World} (hb:∀ b,2≤b→β0 b=none):∀ (f u x:Nat),0<u→u≤f→u<RR→x<RR →
  ASafe Tryz.prog 213 β0 w0 (Ay β0 w0 [0,1] (.tup []) (J8 (FR f u x).1 (FR f u x).2)) Tryz.f213.ntmps [0,1] (Nq u x []):=by
 intro f
 induction f with
 | zero=>intro u x h1 h2;omega
 | succ f ih =>
  intro u x h1 h2 hu hx
  have ou:=vL u
  have ox:=vL x
  unfold FR
  by_cases h:u % 2=0
  ·rw [if_pos h]
   have hd:decide (J9 u=0)=true:=by rw [ou,h];rfl
   by_cases hx2:x % 2=0
   ·refine Ab [true,true] (Ae (AK TT Aa) AB (AJE u x) ⟨hd,by rw [ox,hx2];rfl,trivial⟩ (AL (by kernel_rfl)) hb (fun _ h=>h) fun _=>?_)
    have e:GR x=x / 2:=if_pos hx2
    rw [eD,eD,← e]
    exact ih (u / 2) (GR x) (by omega) (by omega) (by omega) (vM hx)
   ·refine Ab [true,false] (Ae (AK TT Aa) AB (AJF u x) ⟨hd,by rw [ox];simp only [decide_eq_false_iff_not];omega,rfl,Cw (Ej _ _ _),Cw (Ej _ _ _),Cw (Ej _ _ _),Cw (Ej _ _ _),Cw (Ej _ _ _),trivial⟩ (AL (by kernel_rfl)) hb (fun _ h=>h) fun _=>?_)
    have e:GR x=(x+pN) / 2:=if_neg hx2
    rw [eD,AJH hx,← e]
    exact ih (u / 2) (GR x) (by omega) (by omega) (by omega) (vM hx)
  ·rw [if_neg h]
   have hd:decide (J9 u=0)=false:=by rw [ou];simp only [decide_eq_false_iff_not];omega
   exact Ab [false] (As (AK TT Aa) AB Tryz.func213 (AJG u x) ⟨hd,trivial⟩ (AL (by kernel_rfl)) hb (fun _ h=>by cases h))
theorem AJJ {u x:Nat} (h0:0<u) (hu:u<RR) (hx:x<RR):Ad Tryz.prog 213 WD (J8 u x) 2 [0,1] (.tup []) (J8 (FR u u x).1 (FR u u x).2) :=
 Av (path:=[]) Tryz.func213 (by kernel_rfl) (by kernel_rfl) fun β0 w0 hb =>
  Ae (AK TT Aa) AB (AJD u x) trivial (AL (by kernel_rfl)) hb (fun _ h=>by cases h) fun _=>AJI hb u u x h0 (Nat.le_refl _) hu hx
def evSpec:ASpec:=fun args H fr path =>
 match args with
 | [.val false [.p k 0],.val false [.p t 0]]=>match AG H k,AG H t,Nat.beq k t with
  | some ⟨ty,c,false⟩,some ⟨ty',d,false⟩,false=>match Nat.beq ty 30,CP 6 c,Nat.beq ty' 30,CP 6 d with
   | true,some u,true,some x=>some (A5 [k,t] 2 fr 0 [0,1] (.tup []) (J8 (FR u u x).1 (FR u u x).2) [(decide (0<u),true)] path)
   | _,_,_,_=>none
  | _,_,_=>none
 | _=>none
theorem AJK:A6 Tryz.prog 213 evSpec:=by
 refine FN Tryz.func213 (by kernel_rfl) (by kernel_rfl) fun args H fr path r h=>?_
 unfold evSpec at h
 split at h
 case h_2=>cases h
 rename_i k t
 split at h
 case h_2=>cases h
 rename_i ty c ty' d hk ht hne
 split at h
 case h_2=>cases h
 rename_i u x hty hu hty' hx
 injection h with h
 have hty1:=An.1 hty
 have hty2:=An.1 hty'
 subst hty1;subst hty2
 have hne':k≠t:=fun e=>by subst e;rw [An.2 rfl] at hne;cases hne
 refine ⟨[k,t],WD,J8 u x,2,0,[0,1],.tup [],_,_,path,h.symm,fun β us w ha hg hc=>?_⟩
 obtain ⟨u1,us1,r1,⟨u2,us2,r2,ha,rfl⟩,rfl⟩:=ha
 obtain ⟨l,g1⟩:=HT hg hk
 obtain ⟨l',g2⟩:=HT hg ht
 have h0:0<u:=by simpa using hc.1
 refine ⟨AJJ h0 (by rw [CZ];exact (F1 hu g1).2) (by rw [CZ];exact (F1 hx g2).2),by kernel_rfl,⟨u1,_,r1,⟨u2,us2,r2,ha,rfl⟩,rfl⟩,tG (c:=[.num 6 u]) (e:=[.num 6 x]) hg hk ht hne' (fun l h=>EO hu h) (fun l h=>EO hx h),fun j hj=>?_⟩
 match j,hj with
 | 0,_=>exact BZ (hg.heap _ _ hk)
 | 1,_=>exact BZ (hg.heap _ _ ht)
noncomputable def S24:List (FuncId×ASpec):=(213,evSpec)::S23
theorem Nr:AX Tryz.prog S24:=⟨AJK,TT⟩
def J_ (b:Blk):Blk:=match CP 6 b.cs with
 | some x=>⟨b.ty,[.num 6 x],b.opn⟩
 | none=>b
def Ns:Heap→Heap
 | []=>[]
 | (k,some b)::r=>(k,some (J_ b))::Ns r
 | (k,none)::r=>(k,none)::Ns r
theorem TU (b:Nat):∀ H:Heap,AG (Ns H) b=(AG H b).map J_
 | []=>rfl
 | (k,some x)::r=>by
  simp only [Ns,AG]
  split
  ·rfl
  ·exact TU b r
 | (k,none)::r=>by
  simp only [Ns,AG]
  split
  ·rfl
  ·exact TU b r
theorem vN (b:Blk):(J_ b).ty=b.ty∧(J_ b).opn=b.opn:=by unfold J_;split<;>exact ⟨rfl,rfl⟩
theorem AJL {P:Program} {f:FuncId} {β0:Env} {w0:World} {R:Ending→World→Prop} {n:Nat} {W:List Nat} {todo:List Item} {T:List AV} {H:Heap} {fr:Nat} {p:List Bool} (h:ASafe P f β0 w0 R n W ⟨todo,⟨T,Ns H,fr,p⟩⟩):ASafe P f β0 w0 R n W ⟨todo,⟨T,H,fr,p⟩⟩:=by
 intro β a w hi hf
 refine h β a w { hi with good:=⟨fun b blk hb=>?_,fun b b' B n n' h1 h2 h3 h4=>?_,hi.good.lt⟩ } hf
 ·have hb':(AG H b).map J_=some blk:=by rw [← TU];exact hb
  obtain ⟨x,hx,rfl⟩:=Option.map_eq_some_iff.1 hb'
  refine S' (hi.good.heap b x hx) rfl (.inr (vN x)) fun l hl=>?_
  unfold J_
  split
  ·rename_i y hy;exact EO hy hl
  ·exact hl
 ·refine hi.good.inj b b' B n n' ?_ ?_ h3 h4
  ·obtain ⟨d,hd,hr⟩:=F0 h1
   have hd':(AG H b).map J_=some d:=by rw [← TU];exact hd
   obtain ⟨x,hx,rfl⟩:=Option.map_eq_some_iff.1 hd'
   exact Ef hx (by rw [← (vN x).1];exact hr)
  ·have h2':((AG H b').map J_).isSome=true:=by rw [← TU];exact h2
   rwa [Option.isSome_map] at h2'
noncomputable def vO:List Item:=Be (AS Tryz.prog (AH S24 K0) (some 0) 300 0 none (Af Tryz.f134 [AY 0] [] 0 [false]))
noncomputable def vP:List AV:=.any::.any::.val false [.p 1 0]::.val false [.p 2 0]::.val false [.p 3 0]::.val false [.p 4 0]::.val false [.p 5 0]::.val false [.p 6 0]::List.replicate (Tryz.f134.ntmps-8) .any
def vQ (u v x y:Nat):Heap:=[(1,some (F_ 0)),(2,some (F_ u)),(3,some (F_ v)),(4,some (F_ x)),(5,some (F_ y)),(6,some (F_ 1))]
noncomputable def Nt (u v x y:Nat) (p:List Bool):ASt:=⟨vO,⟨vP,vQ u v x y,7,p⟩⟩
abbrev KI:Option (List Nat×List Nat×Nat):=some ([2,3,4,5,6,7],[1,2,3,4,5,6],7)
def vR (a:Nat):Heap:=[(1,some ⟨30,GQ,false⟩),(2,some (F_ (a % pN))),(3,some ⟨30,Pw,false⟩),(4,some ⟨30,[.n .u64 1,.n .u64 0,.n .u64 0,.n .u64 0,.n .u64 0,.n .u64 0],false⟩),(5,some ⟨30,GQ,false⟩),(6,some ⟨30,[.n .u64 1,.n .u64 0,.n .u64 0,.n .u64 0,.n .u64 0,.n .u64 0],false⟩)]
theorem AJM (a:Nat):AS Tryz.prog (AH S24 K0) (some 0) 300 0 KI (Af Tryz.f134 [AY a] [] 0 [false])=some ([(decide (a % pN=0),false)],[],⟨vO,⟨vP,vR a,7,[]⟩⟩):=by kernel_rfl
theorem inv_zero (a:Nat):Dt Tryz.prog (AH S24 K0) Tryz.f134 300 0 (Af Tryz.f134 [AY a] [] 0 [true])=some ([(decide (a % pN=0),true)],[],AY (a % pN)):=by kernel_rfl
theorem AJN (a:Nat):Ns (vR a)=vQ (a % pN) pN 1 0:=by kernel_rfl
def E1 (u x:Nat):Nat:=(FR u u x).1
def E2 (u x:Nat):Nat:=(FR u u x).2
section
variable (u v x y:Nat)
def WE (r:List (Bool×Bool)):List (Bool×Bool):=(decide (0<u),true)::(decide (0<v),true)::r
def WF:Bool:=decide (0≤C6 (AF (AA (HV (E1 u x)) (0+0*1) (6-0))) (AF (AA (HV (E1 v y)) (0+0*1) (6-0))))
theorem AJO:Dt Tryz.prog (AH S24 K0) Tryz.f134 300 0 (Nt u v x y [true])=some (WE u v [(decide (E1 u x=1),true)],[],AY (E2 u x)):=by kernel_rfl
theorem AJP:Dt Tryz.prog (AH S24 K0) Tryz.f134 300 0 (Nt u v x y [false,true])=some (WE u v [(decide (E1 u x=1),false),(decide (E1 v y=1),true)],[],AY (E2 v y)):=by kernel_rfl
theorem AJQ:AS Tryz.prog (AH S24 K0) (some 0) 300 0 KI (Nt u v x y [false,false,true]) =
 some (WE u v ((decide (E1 u x=1),false)::(decide (E1 v y=1),false)::(G5 4++[(WF u v x y,true)])),[],Nt ((E1 u x+(RR-E1 v y)) % RR) (E1 v y) (DW (E2 u x) (E2 v y)) (E2 v y) []):=by kernel_rfl
theorem AJR:AS Tryz.prog (AH S24 K0) (some 0) 300 0 KI (Nt u v x y [false,false,false]) =
 some (WE u v ((decide (E1 u x=1),false)::(decide (E1 v y=1),false)::(G5 4++[(WF u v x y,false)])),[],Nt (E1 u x) ((E1 v y+(RR-E1 u x)) % RR) (E2 u x) (DW (E2 v y) (E2 u x)) []):=by kernel_rfl
end
end Go.Proofs.YtjlcdlekmpjjnaaGreat
namespace Go.Proofs.YtjlcdlekmpjjnaaGreat
open Ex Num
set_option maxRecDepth 100000
set_option maxHeartbeats 4000000
instance neZero_pN:NeZero pN:=⟨by decide⟩
def tf (x:Nat):Fin pN:=DD pN x
theorem L8 (x:Nat):tf (x % pN)=tf x:=uJ x
theorem Pc {x y:Nat}:tf x=tf y↔x % pN=y % pN:=V6
theorem F' (x y:Nat):tf (x+y)=tf x+tf y:=uK x y
theorem L9 (x y:Nat):tf (x*y)=tf x*tf y:=uL x y
theorem HY (x y:Nat):tf (DL x y)=tf x+tf y:=by unfold DL;rw [L8,F',L8,L8]
theorem Bu (x y:Nat):tf (Ag x y)=tf x*tf y:=by unfold Ag;rw [L8,L9]
theorem eF (x:Nat):tf (DM x)=- tf x:=by unfold DM;rw [L8];exact AIQ x
theorem GA (x y:Nat):tf (DW x y)=tf x-tf y:=by unfold DW;rw [HY,eF];grind
theorem tf_zero:tf 0=0:=uN
theorem En:tf 1=1:=AIP
theorem J' {x y:Nat} (hx:x<pN) (hy:y<pN) (h:tf x=tf y):x=y:=AIR hx hy h
theorem WG (x y:Nat):DL x y<pN:=Nat.mod_lt _ CQ
theorem GB (x y:Nat):DW x y<pN:=WG _ _
theorem WH {x:Nat}:tf x=0↔x % pN=0:=by rw [← tf_zero,Pc,Nat.zero_mod]
theorem AJS {a b:Fin pN} (h:a*b=0):a=0∨b=0:=AIS pN_prime h
noncomputable def BM (a:Nat):Nat:=Dx a (pN-2)
theorem vS (a:Nat):BM a<pN:=uP _ _
theorem vT {a:Nat} (h:a % pN=0):BM a=0:=by
 unfold BM
 rw [IC,Nat.pow_mod,h,Nat.zero_pow (by decide)];rfl
theorem vU {a:Nat} (h:a % pN≠0):tf a*tf (BM a)=1:=by
 have ha:¬ pN∣a:=fun hd=>h (Nat.mod_eq_zero_of_dvd hd)
 have hf:=Nn pN_prime ha
 rw [← L9,← En,Pc]
 unfold BM
 rw [IC]
 have e:pN-1=(pN-2)+1:=by have:=uO;omega
 rw [e,Nat.pow_succ] at hf
 rw [Nat.mul_mod_mod,Nat.mul_comm,hf];rfl
theorem vV {a x:Nat} (hx:x<pN) (h:tf a*tf x=1):x=BM a:=by
 have ha:a % pN≠0:=fun e=>by
  rw [WH.2 e] at h
  have:(0:Fin pN)*tf x=0:=by grind
  rw [this] at h
  have h2:tf 0=tf 1:=by rw [tf_zero,En];exact h
  have:=J' CQ (show 1<pN by decide) h2
  cases this
 have h2:=vU ha
 refine J' hx (vS a) ?_
 grind
theorem AJT {A B:Fin pN} (h:A+A=B+B):A=B:=by
 have h0:(A-B)*tf 2=0:=by
  have:tf 2=1+1:=by rw [← En,← F']
  rw [this];grind
 rcases AJS h0 with e | e
 ·grind
 ·exfalso
  have:=J' (show 2<pN by decide) CQ (e.trans tf_zero.symm)
  cases this
theorem AJU {x:Nat} (hx:x<pN):tf (GR x)+tf (GR x)=tf x∧GR x<pN:=by
 have hodd:=V4
 constructor
 ·rw [← F',Pc]
  unfold GR
  split
  ·congr 1;omega
  ·rw [show (x+pN) / 2+(x+pN) / 2=x+pN by omega,Nat.add_mod_right]
 ·unfold GR;split<;>omega
theorem eI {a:Nat}:∀ (f u x:Nat),0<u→u≤f→x<pN→tf a*tf x=tf u→(FR f u x).1 % 2=1∧(FR f u x).1∣u∧(FR f u x).2<pN∧tf a*tf (FR f u x).2=tf (FR f u x).1
 | 0,u,x,h1,h2,_,_=>by omega
 | f+1,u,x,h1,h2,hx,h=>by
  unfold FR
  by_cases hu:u % 2=0
  ·rw [if_pos hu]
   obtain ⟨q1,q2⟩:=AJU hx
   have e:tf (u / 2)+tf (u / 2)=tf u:=by rw [← F'];congr 1;omega
   have q3:tf a*tf (GR x)=tf (u / 2):=AJT (by rw [e,← h,← q1];grind)
   obtain ⟨i1,i2,i3,i4⟩:=eI (a:=a) f (u / 2) (GR x) (by omega) (by omega) q2 q3
   exact ⟨i1,Nat.dvd_trans i2 ⟨2,by omega⟩,i3,i4⟩
  ·rw [if_neg hu]
   exact ⟨by omega,Nat.dvd_refl u,hx,h⟩
theorem AJV {u v x y:Nat} (h1:E1 u x<RR) (h2:E1 v y<RR):WF u v x y=decide (E1 v y≤E1 u x):=by
 unfold WF
 rw [L2 h1,L2 h2]
 unfold C6
 by_cases c1:E1 u x<E1 v y
 ·rw [if_pos c1,decide_eq_false (by omega),decide_eq_false (by omega)]
 ·rw [if_neg c1]
  by_cases c2:E1 v y<E1 u x
  ·rw [if_pos c2,decide_eq_true (by omega),decide_eq_true (by omega)]
  ·rw [if_neg c2,decide_eq_true (by omega),decide_eq_true (by omega)]
theorem vW {u v:Nat} (h:v≤u) (hu:u<RR):(u+(RR-v)) % RR=u-v:=by
 rw [show u+(RR-v)=(u-v)+RR by omega,Nat.add_mod_right,Nat.mod_eq_of_lt (by omega)]
theorem AJW (a:Nat) (w0:World):∀ (m u v x y:Nat),u+v≤m→0<u→0<v→u<RR→v<RR→x<pN→y<pN→Nat.Coprime u v→tf a*tf x=tf u→tf a*tf y=tf v →
  ASafe Tryz.prog 134 Bc w0 (F4 w0 (AY (BM a))) Tryz.f134.ntmps [] (Nt u v x y []):=by
 intro m
 induction m with
 | zero=>intro u v x y h1 h2;omega
 | succ m ih =>
  intro u v x y hm hu hv hur hvr hx hy hg h1 h2
  obtain ⟨a1,a2,a3,a4⟩:=eI (a:=a) u u x hu (Nat.le_refl _) hx h1
  obtain ⟨b1,b2,b3,b4⟩:=eI (a:=a) v v y hv (Nat.le_refl _) hy h2
  have a5:=Nat.le_of_dvd hu a2
  have b5:=Nat.le_of_dvd hv b2
  change E1 u x % 2=1 at a1
  change E1 u x∣u at a2
  change E2 u x<pN at a3
  change tf a*tf (E2 u x)=tf (E1 u x) at a4
  change E1 u x≤u at a5
  change E1 v y % 2=1 at b1
  change E1 v y∣v at b2
  change E2 v y<pN at b3
  change tf a*tf (E2 v y)=tf (E1 v y) at b4
  change E1 v y≤v at b5
  have hg':Nat.Coprime (E1 u x) (E1 v y):=(hg.coprime_dvd_left a2).coprime_dvd_right b2
  have c0:decide (0<u)=true:=decide_eq_true hu
  have c1:decide (0<v)=true:=decide_eq_true hv
  have iP:=AJV (u:=u) (v:=v) (x:=x) (y:=y) (by omega) (by omega)
  by_cases hu1:E1 u x=1
  ·have h:=GO (w0:=w0) (β0:=Bc) (n:=Tryz.f134.ntmps) (AK Nr Aa) AB Tryz.func134 (AJO u v x y) ⟨c0,c1,decide_eq_true hu1,trivial⟩ (AL (by kernel_rfl)) (fun _ _=>rfl) rfl
   rw [vV (a:=a) a3 (by rw [a4,hu1,En])] at h
   exact Ab [true] h
  ·by_cases hv1:E1 v y=1
   ·have h:=GO (w0:=w0) (β0:=Bc) (n:=Tryz.f134.ntmps) (AK Nr Aa) AB Tryz.func134 (AJP u v x y) ⟨c0,c1,decide_eq_false hu1,decide_eq_true hv1,trivial⟩ (AL (by kernel_rfl)) (fun _ _=>rfl) rfl
    rw [vV (a:=a) b3 (by rw [b4,hv1,En])] at h
    exact Ab [false,true] h
   ·have hne:E1 u x≠E1 v y:=fun e=>by
     rw [← e] at hg'
     exact hu1 ((Nat.coprime_self _).1 hg')
    by_cases hle:E1 v y≤E1 u x
    ·refine Ab [false,false,true] (Ae (AK Nr Aa) AB (AJQ u v x y) ⟨c0,c1,decide_eq_false hu1,decide_eq_false hv1,rfl,rfl,rfl,rfl,by rw [iP];exact decide_eq_true hle,trivial⟩ (AL (by kernel_rfl)) (fun _ _=>rfl) (fun _ h=>by cases h) fun _=>?_)
     rw [vW hle (by omega)]
     refine ih _ _ _ _ (by omega) (by omega) (by omega) (by omega) (by omega) (GB _ _) b3 ?_ ?_ b4
     ·exact (Nat.gcd_sub_self_left hle).trans hg'
     ·have e:tf (E1 u x-E1 v y)=tf (E1 u x)-tf (E1 v y):=dR hle
      rw [GA,e,← a4,← b4];grind
    ·refine Ab [false,false,false] (Ae (AK Nr Aa) AB (AJR u v x y) ⟨c0,c1,decide_eq_false hu1,decide_eq_false hv1,rfl,rfl,rfl,rfl,by rw [iP];exact decide_eq_false hle,trivial⟩ (AL (by kernel_rfl)) (fun _ _=>rfl) (fun _ h=>by cases h) fun _=>?_)
     rw [vW (by omega) (by omega)]
     refine ih _ _ _ _ (by omega) (by omega) (by omega) (by omega) (by omega) a3 (GB _ _) ?_ a4 ?_
     ·exact Nat.Coprime.symm ((Nat.gcd_sub_self_left (show E1 u x≤E1 v y by omega)).trans hg'.symm)
     ·have e:tf (E1 v y-E1 u x)=tf (E1 v y)-tf (E1 u x):=dR (by omega)
      rw [GA,e,← a4,← b4];grind
theorem vX (a:Nat):AU Tryz.prog 134 [AY a] (AY (BM a)):=by
 refine Js (path:=[]) Tryz.func134 (by kernel_rfl) (by kernel_rfl) fun w0=>?_
 by_cases h:a % pN=0
 ·have h1:=GO (w0:=w0) (β0:=Bc) (n:=Tryz.f134.ntmps) (AK Nr Aa) AB Tryz.func134 (inv_zero a) ⟨decide_eq_true h,trivial⟩ (AL (by kernel_rfl)) (fun _ _=>rfl) rfl
  have e:a % pN=BM a:=by rw [h,vT h]
  rw [e] at h1
  exact Ab [true] h1
 ·have hp:=F5 a
  have hR:pN<RR:=by decide
  refine Ab [false] (Ae (AK Nr Aa) AB (AJM a) ⟨decide_eq_false h,trivial⟩ (AL (by kernel_rfl)) (fun _ _=>rfl) (fun _ h=>by cases h) fun _=>?_)
  refine AJL ?_
  rw [AJN]
  refine AJW a w0 (a % pN+pN) (a % pN) pN 1 0 (Nat.le_refl _) (by omega) CQ (by omega) hR (by decide) CQ ?_ ?_ ?_
  ·exact (pN_prime.coprime fun hd=>by have:=Nat.le_of_dvd (by omega) hd;omega).symm
  ·rw [En,L8];grind
  ·have:tf pN=0:=dQ
   rw [tf_zero,this];grind
noncomputable def S25:List (FuncId×ASpec):=(134,Aj (E9 fun x=>AY (BM x)))::S24
theorem WI:AX Tryz.prog S25:=⟨Ak Tryz.func134 (by kernel_rfl) (by kernel_rfl) (F6 fun x _=>vX x),Nr⟩
def vY:List (Nat×AV)→Nat→AV
 | [],_=>.any
 | (j,a)::r,i=>match Nat.beq i j with | true=>a | false=>vY r i
def vZ:Nat→Nat→List (Nat×AV)→List AV
 | 0,_,_=>[]
 | f+1,i,l=>vY l i::vZ f (i+1) l
def C8 (n:Nat) (l:List (Nat×AV)):List AV:=vZ n 0 l
def AI (k off n m:Nat):AV:=.val false [.sl k off n m]
def iA (i:Int):AV:=.val false [.v (.int .i64 i)]
def Au (xs:List Int):Heap:=[(0,some (Ai [.seq .u8 xs]))]
def G_ (f:Nat→Int) (L i:Nat):List Int:=(List.range i).map f++List.replicate (L-i) 0
theorem v0 {f:Nat→Int} {L i:Nat} (h:i≤L):(G_ f L i).length=L:=by simp [G_];omega
theorem v5 {f:Nat→Int} {L i:Nat} (h:i<L):(G_ f L i).set i (f i)=G_ f L (i+1):=by
 unfold G_
 rw [List.set_append_right _ _ (by simp),List.length_map,List.length_range,Nat.sub_self,show L-i=(L-(i+1))+1 by omega,List.replicate_succ,List.set_cons_zero,List.range_succ,List.map_append,List.append_assoc]
 rfl
theorem v6 (f:Nat→Int) (L:Nat):G_ f L 0=List.replicate L 0:=by simp [G_]
theorem AJX (f:Nat→Int) (L:Nat):G_ f L L=(List.range L).map f:=by simp [G_]
def Eo (A k:Nat):Int:=((A / 256^k % 256:Nat):Int)
def BK (A n:Nat):List Int:=(List.range n).map fun i=>Eo A (n-1-i)
def AT:List Int→Nat
 | []=>0
 | d::r=>d.toNat*256^r.length+AT r
theorem KA (k:Nat):256^k=2^(8*k):=by rw [Nat.pow_mul]
theorem WJ {n i:Nat} (hn:n≤35184372088832) (h:i<n):wI (wI ((n:Int)-1)-i)=((n-1-i:Nat):Int):=by
 rw [Am (z:=(n:Int)-1) (by omega),Am (by omega)];omega
theorem Pd (k:Nat):Int.tdiv (k:Int) 8=((k / 8:Nat):Int):=by rw [Int.tdiv_eq_ediv_of_nonneg (by omega)];rfl
theorem TV (k:Nat):Int.tmod (k:Int) 8=((k % 8:Nat):Int):=by rw [Int.tmod_eq_emod_of_nonneg (by omega)];rfl
noncomputable def AJY:List Item:=Be (AS Tryz.prog (AH S25 K0) (some 0) 100 1 none (Af Tryz.f123 [AI 0 0 0 0,iA 0] (Az []) 1 []))
noncomputable def TW (off m c:Nat) (n:Int) (xs:List Int) (L:Nat) (ys:List Int) (i:AV) (p:List Bool):ASt:=⟨AJY,⟨C8 Tryz.f123.ntmps [(0,AI 0 off m c),(1,iA n),(5,AI 1 0 L L),(10,AI 1 0 L L),(11,AI 1 0 L L),(12,iA L),(13,i)],
 [(0,some (Ai [.seq .u64 xs])),(1,some ⟨5,[.seq .u8 ys],false⟩)],2,p⟩⟩
abbrev v7:Option (List Nat×List Nat×Nat):=some ([0,1,5,10,11,12,13],[0,1],2)
def TX (n:Int):Nat:=(DC n 0).toNat
def WK (ys:List Int):Heap:=[(1,some ⟨5,[.seq .u8 ys],false⟩)]
def L_ (m sz:Int):Bool:=decide (0≤m∧m≤m∧sz*m≤281474976710656∧m≤9223372036854775807)
theorem AJZ (off m c:Nat) (n:Int) (xs:List Int):AS Tryz.prog (AH S25 K0) (some 0) 100 1 v7 (Af Tryz.f123 [AI 0 off m c,iA n] (Az xs) 1 []) =
 some ([(L_ (DC n 0) 1,true),(AJ .i64 (TX n),true)],[],TW off m c n xs (TX n) (List.replicate (TX n) 0) (.val false [.n .i64 0]) []):=by kernel_rfl
def Dy (n i:Int):Int:=wI (wI (n-1)-i)
def eJ (xs:List Int) (off m:Nat) (k:Int):Int:=AO false .u8 (Int.fdiv (Al xs off m (wI (Int.tdiv k 8))) (2^min (wI (8*Int.tmod k 8)).toNat 64))
def v8 (off m:Nat) (n:Int) (xs:List Int) (L:Nat) (ys:List Int) (i:Int):List (Bool×Bool):=[(decide (i<L),true),(true,true),(Nat.ble (off+m) xs.length,true),(AJ .i64 m,true),(decide (0≤wI (Int.tdiv (Dy n i) 8)),true),
 (decide (0≤Dy n i∧(0:Int)<8),true),(decide (0≤wI (8*Int.tmod (Dy n i) 8)∧0≤Al xs off m (wI (Int.tdiv (Dy n i) 8))),true),(decide (0≤i∧i<L),true),(decide (0+i.toNat*1<ys.length),true)]
theorem AJa (off m c:Nat) (n:Int) (xs:List Int) (L:Nat) (ys:List Int) (i:Int):AS Tryz.prog (AH S25 K0) (some 0) 100 1 v7 (TW off m c n xs L ys (iA i) [true]) =
 some (v8 off m n xs L ys i,[],TW off m c n xs L (ys.set (0+i.toNat*1) (eJ xs off m (Dy n i))) (iA (wI (i+1))) []):=by kernel_rfl
theorem AJb (off m c:Nat) (n:Int) (xs:List Int) (L:Nat) (ys:List Int) (i:Int):AM Tryz.prog (AH S25 K0) Tryz.f123 100 1 [1] (TW off m c n xs L ys (iA i) [false]) =
 some ([(decide (i<L),false)],[],AI 1 0 L L,WK ys):=by kernel_rfl
theorem v9 {xs:List Int} {off m:Nat} (hx:∀ d∈xs,0≤d∧d<18446744073709551616) {k:Nat} (hk:k≤35184372088832):eJ xs off m (k:Int)=Eo (AF (AA xs off m)) k∧0≤Al xs off m (wI (Int.tdiv (k:Int) 8)):=by
 have e1:wI (Int.tdiv (k:Int) 8)=((k / 8:Nat):Int):=by rw [Pd];exact Am (by omega)
 have e2:wI (8*Int.tmod (k:Int) 8)=((8*(k % 8):Nat):Int):=by rw [TV,Am (by omega)];omega
 unfold eJ
 rw [e1,e2,Nm hx,Int.toNat_natCast,Nat.min_eq_left (by omega)]
 refine ⟨?_,by omega⟩
 generalize AF (AA xs off m)=A
 have e3:(Int.fdiv ((A / 2^(64*(k / 8)) % 18446744073709551616:Nat):Int) (2^(8*(k % 8))))=((A / 2^(64*(k / 8)) % 18446744073709551616 / 2^(8*(k % 8)):Nat):Int):=by
  rw [Int.fdiv_eq_ediv_of_nonneg _ (by exact_mod_cast Nat.zero_le (2^(8*(k % 8)))),Int.natCast_ediv,Int.natCast_pow];rfl
 rw [e3,CO,IntKind.wrap_u8]
 unfold Eo
 have e4:(18446744073709551616:Nat)=2^(8*(k % 8))*2^(64-8*(k % 8)):=by rw [← Nat.pow_add,show 8*(k % 8)+(64-8*(k % 8))=64 by omega]
 have e5:A / 2^(64*(k / 8)) % 18446744073709551616 / 2^(8*(k % 8)) % 256=A / 256^k % 256:=by
  rw [e4,Nat.mod_mul_right_div_self,Nat.div_div_eq_div_mul,← Nat.pow_add,show 64*(k / 8)+8*(k % 8)=8*k by omega,KA]
  refine Nat.mod_mod_of_dvd _ ?_
  have:64-8*(k % 8)=8+(56-8*(k % 8)):=by omega
  rw [this,Nat.pow_add]
  exact ⟨_,rfl⟩
 rw [← e5];omega
theorem AJc {off m c:Nat} {xs:List Int} (hx:∀ d∈xs,0≤d∧d<18446744073709551616) (hl:off+m≤xs.length) (hm:AJ .i64 m=true) {n:Nat} (hn:n≤35184372088832) :
  Ad Tryz.prog 123 [AI 0 off m c,iA n] (Az xs) 1 [] (AI 1 0 n n) (WK (BK (AF (AA xs off m)) n)):=by
 refine Av (path:=[]) Tryz.func123 (by kernel_rfl) (by kernel_rfl) fun β0 w0 hb=>?_
 have h0:DC (n:Int) 0=n:=by unfold DC;split<;>omega
 have h1:TX (n:Int)=n:=by unfold TX;rw [h0];omega
 refine Ae (AK WI Aa) AB (AJZ off m c n xs) ⟨?_,?_,trivial⟩ (AL (by kernel_rfl)) hb (fun _ h=>by cases h) fun _=>?_
 ·rw [h0];unfold L_;simp only [decide_eq_true_eq];omega
 ·rw [h1];simp only [AJ,Bool.and_eq_true,decide_eq_true_eq];omega
 ·rw [h1]
  refine E_ ?_
  have loop:∀ r i,i+r=n→ASafe Tryz.prog 123 β0 w0 (Ay β0 w0 [] (AI 1 0 n n) (WK (BK (AF (AA xs off m)) n))) Tryz.f123.ntmps [] (TW off m c n xs n (G_ (fun i=>Eo (AF (AA xs off m)) (n-1-i)) n i) (iA i) []):=by
   intro r
   induction r with
   | zero =>
    intro i hi
    obtain rfl:i=n:=by omega
    rw [AJX]
    exact Ab [false] (As (AK WI Aa) AB Tryz.func123 (AJb ..) ⟨by simp,trivial⟩ (AL (by kernel_rfl)) hb (fun _ h=>by cases h))
   | succ r ih =>
    intro i hi
    have ek:Dy (n:Int) i=((n-1-i:Nat):Int):=WJ hn (by omega)
    have ev:=v9 (off:=off) (m:=m) hx (k:=n-1-i) (by omega)
    have ed:wI (Int.tdiv ((n-1-i:Nat):Int) 8)=(((n-1-i) / 8:Nat):Int):=by rw [Pd];exact Am (by omega)
    refine Ab [true] (Ae (AK WI Aa) AB (AJa ..) ?_ (AL (by kernel_rfl)) hb (fun _ h=>by cases h) fun _=>?_)
    ·rw [v8,ek]
     refine ⟨by simp;omega,rfl,Nat.ble_eq_true_of_le hl,hm,by rw [ed];simp only [decide_eq_true_eq];omega,by simp,?_,by simp;omega,by rw [v0 (by omega)];simp;omega,trivial⟩
     have:wI (8*Int.tmod ((n-1-i:Nat):Int) 8)=((8*((n-1-i) % 8):Nat):Int):=by rw [TV,Am (by omega)];omega
     rw [this]
     simp only [decide_eq_true_eq]
     exact ⟨by omega,ev.2⟩
    ·rw [ek,ev.1,Am (z:=(i:Int)+1) (by omega),show 0+(i:Int).toNat*1=i by omega,v5 (f:=fun i=>Eo (AF (AA xs off m)) (n-1-i)) (by omega)]
     exact ih (i+1) (by omega)
  have:=loop n 0 (by omega)
  rw [v6] at this
  exact this
def octSpec:ASpec:=fun args H fr path =>
 match args with
 | [.val false [.sl k off m _],I]=>match BJ (some I),AG H k with
  | some (_,.i64,i),some ⟨_,cs,_⟩=>match Ao .u64 cs with
   | some xs=>some (A5 [k] 1 fr 1 [] (AI 1 0 i.toNat i.toNat) (WK (BK (AF (AA xs off m)) i.toNat)) [(Nat.ble (off+m) xs.length,true),(AJ .i64 m,true),(decide (0≤i∧i≤35184372088832),true)] path)
   | none=>none
  | _,_=>none
 | _=>none
theorem AJd:A6 Tryz.prog 123 octSpec:=by
 refine FN Tryz.func123 (by kernel_rfl) (by kernel_rfl) fun args H fr path r h=>?_
 unfold octSpec at h
 split at h
 case h_2=>cases h
 rename_i k off m _c I
 split at h
 case h_2=>cases h
 rename_i c0 i ty cs o hI hk
 split at h
 case h_2=>cases h
 rename_i xs hxs
 injection h with h
 refine ⟨[k],[AI 0 off m _c,iA i],Az xs,1,1,[],_,_,_,path,h.symm,fun β us w ha hg hc=>?_⟩
 obtain ⟨u1,us1,r1,⟨u2,us2,r2,ha,rfl⟩,rfl⟩:=ha
 obtain ⟨g1,g2,g3⟩:=HU hg hk hxs
 obtain ⟨rfl,p1⟩:=CH (β:=β) (u:=u2) (fun A hA=>by injection hA with hA;subst hA;exact r2) hI
 have hi:=hc.2.2.1
 simp only [decide_eq_true_eq] at hi
 obtain ⟨n,rfl⟩:=Int.eq_ofNat_of_zero_le hi.1
 exact ⟨AJc g1 (Nat.le_of_ble_eq_true hc.1) hc.2.1 (by omega),by kernel_rfl,⟨u1,_,r1,⟨_,us2,Aw ⟨rfl,rfl,p1⟩,ha,rfl⟩,rfl⟩,g2,g3⟩
noncomputable def S26:List (FuncId×ASpec):=(123,octSpec)::S25
theorem WL:AX Tryz.prog S26:=⟨AJd,WI⟩
theorem wA:∀ (a b:List Int),AT (a++b)=AT a*256^b.length+AT b
 | [],b=>by simp [AT]
 | d::r,b=>by
  simp only [List.cons_append,AT,List.length_append]
  rw [wA r b,Nat.pow_add,Nat.add_mul,Nat.mul_assoc,Nat.add_assoc]
theorem wB {ws:List Int} {i:Nat} (h:i<ws.length):AT (ws.take (i+1))=AT (ws.take i)*256+(ws.getD i 0).toNat:=by
 rw [List.take_succ_eq_append_getElem h,wA]
 simp [AT,List.getD_eq_getElem?_getD,h]
theorem WM:∀ (ws:List Int),(∀ d∈ws,0≤d∧d<256)→AT ws<256^ws.length
 | [],_=>by simp [AT]
 | d::r,h=>by
  have hd:=h d (by simp)
  have ih:=WM r fun d h'=>h d (by simp [h'])
  simp only [AT,List.length_cons,Nat.pow_succ]
  have:d.toNat+1≤256:=by omega
  have h2:=Nat.mul_le_mul_right (256^r.length) this
  rw [Nat.add_mul,Nat.one_mul] at h2
  omega
theorem wC {M x k i:Nat} (hx:x<256) (hi:i≠k / 8):(M*256^(k+1)+x*256^k) / 2^(64*i) % 2^64=M*256^(k+1) / 2^(64*i) % 2^64:=by
 rw [KA,KA]
 rcases Nat.lt_or_gt_of_ne hi with h | h
 ·have e:x*2^(8*k)=2^(64*i)*(2^64*(x*2^(8*k-64*i-64))):=by
   rw [Nat.mul_left_comm (2^64),Nat.mul_left_comm (2^(64*i)),← Nat.pow_add,← Nat.pow_add];congr 2;omega
  rw [e,Nat.add_mul_div_left _ _ (Nat.pow_pos (by decide)),Nat.add_mul_mod_self_left]
 ·have e1:2^(64*i)=2^(8*k)*2^(64*i-8*k):=by rw [← Nat.pow_add];congr 1;omega
  have e2:M*2^(8*(k+1))+x*2^(8*k)=2^(8*k)*(M*256+x):=by
   rw [show 8*(k+1)=8*k+8 by omega,Nat.pow_add,Nat.mul_add,Nat.mul_comm x];congr 1;rw [Nat.mul_left_comm]
  have e3:M*2^(8*(k+1))=2^(8*k)*(M*256):=by rw [show 8*(k+1)=8*k+8 by omega,Nat.pow_add,Nat.mul_left_comm]
  have e4:2^(64*i-8*k)=256*2^(64*i-8*k-8):=by
   rw [show (256:Nat)=2^8 by rfl,← Nat.pow_add];congr 1;omega
  rw [e2,e3,e1,Nat.mul_div_mul_left _ _ (Nat.pow_pos (by decide)),Nat.mul_div_mul_left _ _ (Nat.pow_pos (by decide)),e4,← Nat.div_div_eq_div_mul,← Nat.div_div_eq_div_mul]
  congr 2;omega
theorem wD {M x k:Nat} (hx:x<256):∃ h B,(M*256^(k+1)) / 2^(64*(k / 8)) % 2^64=h*2^(8*(k % 8)+8)∧x*2^(8*(k % 8))=B∧B<2^(8*(k % 8)+8)∧h*2^(8*(k % 8)+8)<2^64 ∧
  (M*256^(k+1)+x*256^k) / 2^(64*(k / 8)) % 2^64=h*2^(8*(k % 8)+8)+B:=by
 rw [KA,KA]
 have e0:2^(8*k)=2^(64*(k / 8))*2^(8*(k % 8)):=by rw [← Nat.pow_add];congr 1;omega
 have e1:2^(8*(k+1))=2^(64*(k / 8))*2^(8*(k % 8)+8):=by rw [← Nat.pow_add];congr 1;omega
 have e2:(2:Nat)^64=2^(8*(k % 8)+8)*2^(56-8*(k % 8)):=by rw [← Nat.pow_add];congr 1;omega
 have e3:2^(8*(k % 8)+8)=2^(8*(k % 8))*256:=by rw [Nat.pow_add]
 have hp:0<2^(64*(k / 8)):=Nat.pow_pos (by decide)
 have q1:M*2^(8*(k+1)) / 2^(64*(k / 8))=M*2^(8*(k % 8)+8):=by
  rw [e1,Nat.mul_left_comm,Nat.mul_div_cancel_left _ hp]
 have q2:(M*2^(8*(k+1))+x*2^(8*k)) / 2^(64*(k / 8))=M*2^(8*(k % 8)+8)+x*2^(8*(k % 8)):=by
  rw [e1,e0,Nat.mul_left_comm M,Nat.mul_left_comm x,← Nat.mul_add,Nat.mul_div_cancel_left _ hp]
 rw [q1,q2]
 have hB:x*2^(8*(k % 8))<2^(8*(k % 8)+8):=by
  rw [e3,Nat.mul_comm];exact Nat.mul_lt_mul_of_pos_left hx (Nat.pow_pos (by decide))
 have m1:M*2^(8*(k % 8)+8) % 2^64=M % 2^(56-8*(k % 8))*2^(8*(k % 8)+8):=by
  rw [e2,Nat.mul_comm M,Nat.mul_mod_mul_left,Nat.mul_comm]
 have hlt:M % 2^(56-8*(k % 8))*2^(8*(k % 8)+8)+2^(8*(k % 8)+8)≤2^64:=by
  have:=Nat.mod_lt M (show 0<2^(56-8*(k % 8)) from Nat.pow_pos (by decide))
  have h2:=Nat.mul_le_mul_right (2^(8*(k % 8)+8)) (show M % 2^(56-8*(k % 8))+1≤2^(56-8*(k % 8)) from this)
  rw [Nat.add_mul,Nat.one_mul,Nat.mul_comm (2^(56-8*(k % 8))),← e2] at h2
  exact h2
 have hp2:0<2^(8*(k % 8)+8):=Nat.pow_pos (by decide)
 refine ⟨M % 2^(56-8*(k % 8)),_,m1,rfl,hB,by omega,?_⟩
 rw [Nat.add_mod,m1]
 have:x*2^(8*(k % 8)) % 2^64=x*2^(8*(k % 8)):=Nat.mod_eq_of_lt (by omega)
 rw [this,Nat.mod_eq_of_lt (by omega)]
def Pe (n:Nat):Nat:=(wI (Int.tdiv (wI ((n:Int)+7)) 8)).toNat
noncomputable def AJe:List Item:=Be (AS Tryz.prog (AH S26 K0) (some 0) 100 1 none (Af Tryz.f68 [AI 0 0 0 0] (Au []) 1 []))
noncomputable def TY (off n c:Nat) (xs:List Int) (L:Nat) (ys:List Int) (i:AV) (p:List Bool):ASt:=⟨AJe,⟨C8 Tryz.f68.ntmps [(0,AI 0 off n c),(3,AI 1 0 L L),(11,AI 1 0 L L),(12,AI 0 off n c),(13,iA n),(14,i)],
 [(0,some (Ai [.seq .u8 xs])),(1,some ⟨24,[.seq .u64 ys],false⟩)],2,p⟩⟩
abbrev wG:Option (List Nat×List Nat×Nat):=some ([0,3,11,12,13,14],[0,1],2)
theorem AJf (off n c:Nat) (xs:List Int):AS Tryz.prog (AH S26 K0) (some 0) 100 1 wG (Af Tryz.f68 [AI 0 off n c] (Au xs) 1 []) =
 some ([(AJ .i64 n,true),(true,true),(L_ (wI (Int.tdiv (wI ((n:Int)+7)) 8)) 8,true),(AJ .i64 n,true)],[],TY off n c xs (Pe n) (List.replicate (Pe n) 0) (.val false [.n .i64 0]) []):=by kernel_rfl
def Dl (n i:Int):Int:=wI (Int.tdiv (Dy n i) 8)
def eK (xs:List Int) (off:Nat) (n:Int) (ys:List Int) (i:Int):Int :=
 bits .or .u64 (ys.getD (0+(Dl n i).toNat*1) 0) (IntKind.u64.wrap (AO false .u64 (xs.getD (off+i.toNat*1) 0)*2^min (wI (8*Int.tmod (Dy n i) 8)).toNat 64))
def wH (off n:Nat) (xs:List Int) (L:Nat) (ys:List Int) (i:Int):List (Bool×Bool):=[(decide (i<n),true),(decide (0≤i∧i<n),true),(decide (off+i.toNat*1<xs.length),true),(AJ .i64 n,true),(true,true),
 (decide (0≤Dl n i∧Dl n i<L),true),(decide (0+(Dl n i).toNat*1<ys.length),true),(decide (0≤Dy n i∧(0:Int)<8),true),(decide (0≤wI (8*Int.tmod (Dy n i) 8)),true),(decide (0≤Dl n i∧Dl n i<L),true),(decide (0+(Dl n i).toNat*1<ys.length),true)]
theorem AJg (off n c:Nat) (xs:List Int) (L:Nat) (ys:List Int) (i:Int):AS Tryz.prog (AH S26 K0) (some 0) 100 1 wG (TY off n c xs L ys (iA i) [true]) =
 some (wH off n xs L ys i,[],TY off n c xs L (ys.set (0+(Dl n i).toNat*1) (eK xs off n ys i)) (iA (wI (i+1))) []):=by kernel_rfl
def WN (ys:List Int):Heap:=[(1,some ⟨24,[.seq .u64 ys],false⟩)]
theorem AJh (off n c:Nat) (xs:List Int) (L:Nat) (ys:List Int) (i:Int):AM Tryz.prog (AH S26 K0) Tryz.f68 100 1 [1] (TY off n c xs L ys (iA i) [false]) =
 some ([(decide (i<n),false)],[],AI 1 0 L L,WN ys):=by kernel_rfl
def DE (N L:Nat):List Int:=(List.range L).map (AE N)
theorem wJ {N N' L j:Nat} {w:Int} (hj:AE N' j=w) (ho:∀ i,i≠j→AE N' i=AE N i):(DE N L).set j w=DE N' L:=by
 unfold DE
 refine List.ext_getElem (by simp) fun i h1 h2=>?_
 rw [List.getElem_set]
 split
 ·rename_i e;subst e;simp [hj]
 ·rename_i e;simp [ho i (fun h=>e h.symm)]
theorem wK {N L j:Nat} (h:j<L):(DE N L).getD j 0=AE N j:=by simp [DE,List.getD_eq_getElem?_getD,h]
theorem wL (L:Nat):DE 0 L=List.replicate L 0:=by
 unfold DE
 refine List.ext_getElem (by simp) fun i h1 h2=>?_
 simp [AE]
theorem wM {N L:Nat} (h:N<2^(64*L)):AF (DE N L)=N:=by
 have:=AH4 (S:=N) (L:=L) h
 unfold dI AA at this
 rw [Nat.sub_self,List.replicate_zero,List.append_nil,List.drop_zero,List.take_of_length_le (by simp)] at this
 exact this
theorem wO {n:Nat} (hn:n≤35184372088832):Pe n=(n+7) / 8∧wI (Int.tdiv (wI ((n:Int)+7)) 8)=(((n+7) / 8:Nat):Int):=by
 have e:wI ((n:Int)+7)=((n+7:Nat):Int):=by rw [Am (by omega)];omega
 have e2:wI (Int.tdiv (wI ((n:Int)+7)) 8)=(((n+7) / 8:Nat):Int):=by rw [e,Pd];exact Am (by omega)
 exact ⟨by unfold Pe;rw [e2];omega,e2⟩
def eM (N L:Nat):Heap:=[(1,some ⟨24,[.num L N],false⟩)]
theorem wP {N L:Nat} (h:N<2^(64*L)) (β:Env) (l:List Value) (hr:AN β [.seq .u64 (DE N L)] l):AN β [.num L N] l:=by
 obtain ⟨l1,l2,⟨h1,_⟩,h2,h3⟩:=hr
 simp only [AN] at h2
 subst h2;subst h1;subst h3
 refine ⟨_,[],⟨h,rfl⟩,rfl,?_⟩
 simp [DE,words,Function.comp]
theorem wQ {P:Program} {f:FuncId} {β0:Env} {w0:World} {R R':Ending→World→Prop} {W':List Nat} {n:Nat} {x:ASt} (h:ASafe P f β0 w0 R n W' x) (hv:∀ e w,R e w→R' e w):ASafe P f β0 w0 R' n W' x:=by
 intro β a w hi hf b cs q1 q2
 obtain ⟨e',w',fr,q5,q4⟩:=h β a w hi hf b cs q1 q2
 exact ⟨e',w',fr,hv _ _ q5,q4⟩
theorem AJi {off n c:Nat} {xs:List Int} (hx:∀ d∈xs,0≤d∧d<256) (hl:off+n≤xs.length) (hn:n≤35184372088832) :
  Ad Tryz.prog 68 [AI 0 off n c] (Au xs) 1 [] (AI 1 0 ((n+7) / 8) ((n+7) / 8)) (eM (AT (AA xs off n)) ((n+7) / 8)):=by
 have hfin:AT (AA xs off n)<2^(64*((n+7) / 8)):=by
  have h1:=WM (AA xs off n) (Cp hx)
  have h2:(AA xs off n).length=n:=by unfold AA;rw [List.length_take,List.length_drop];omega
  rw [h2,KA] at h1
  exact Nat.lt_of_lt_of_le h1 (Nat.pow_le_pow_right (by decide) (by omega))
 refine Av (path:=[]) Tryz.func68 (by kernel_rfl) (by kernel_rfl) fun β0 w0 hb=>?_
 obtain ⟨l1,l2⟩:=wO hn
 have hw:AJ .i64 (n:Int)=true:=by simp only [AJ,Bool.and_eq_true,decide_eq_true_eq];omega
 refine Ae (AK WL Aa) AB (AJf off n c xs) ⟨hw,rfl,?_,hw,trivial⟩ (AL (by kernel_rfl)) hb (fun _ h=>by cases h) fun _=>?_
 ·rw [l2];unfold L_;simp only [decide_eq_true_eq];omega
 ·rw [l1]
  refine E_ ?_
  have hlen:(AA xs off n).length=n:=by unfold AA;rw [List.length_take,List.length_drop];omega
  have hbd:∀ d∈AA xs off n,0≤d∧d<256:=Cp hx
  have loop:∀ r i,i+r=n→ASafe Tryz.prog 68 β0 w0 (Ay β0 w0 [] (AI 1 0 ((n+7) / 8) ((n+7) / 8)) (WN (DE (AT (AA xs off n)) ((n+7) / 8)))) Tryz.f68.ntmps []
    (TY off n c xs ((n+7) / 8) (DE (AT ((AA xs off n).take i)*256^(n-i)) ((n+7) / 8)) (iA i) []):=by
   intro r
   induction r with
   | zero =>
    intro i hi
    obtain rfl:i=n:=by omega
    rw [Nat.sub_self,Nat.pow_zero,Nat.mul_one,List.take_of_length_le (by omega)]
    exact Ab [false] (As (AK WL Aa) AB Tryz.func68 (AJh ..) ⟨by simp,trivial⟩ (AL (by kernel_rfl)) hb (fun _ h=>by cases h))
   | succ r ih =>
    intro i hi
    have ek:Dy (n:Int) i=((n-1-i:Nat):Int):=WJ hn (by omega)
    have ej:Dl (n:Int) i=(((n-1-i) / 8:Nat):Int):=by unfold Dl;rw [ek,Pd];exact Am (by omega)
    have em:wI (8*Int.tmod ((n-1-i:Nat):Int) 8)=((8*((n-1-i) % 8):Nat):Int):=by rw [TV,Am (by omega)];omega
    have hjL:(n-1-i) / 8<(n+7) / 8:=by omega
    have hlenw:∀ N,(DE N ((n+7) / 8)).length=(n+7) / 8:=fun N=>by simp [DE]
    have hwx:xs.getD (off+i) 0=(AA xs off n).getD i 0:=(G8 (by omega)).symm
    have hxb:0≤(AA xs off n).getD i 0∧(AA xs off n).getD i 0<256:=by
     rw [List.getD_eq_getElem?_getD]
     cases h':(AA xs off n)[i]? with
     | none=>simp
     | some d=>exact hbd d (List.mem_of_getElem? h')
    refine Ab [true] (Ae (AK WL Aa) AB (AJg ..) ?_ (AL (by kernel_rfl)) hb (fun _ h=>by cases h) fun _=>?_)
    ·unfold wH
     rw [ej,ek,em,hlenw]
     refine ⟨by simp;omega,by simp;omega,by simp;omega,hw,rfl,by simp only [decide_eq_true_eq];omega,by simp only [decide_eq_true_eq];omega,by simp only [decide_eq_true_eq];omega,by simp only [decide_eq_true_eq];omega,by simp only [decide_eq_true_eq];omega,by simp only [decide_eq_true_eq];omega,trivial⟩
    ·have hset:((DE (AT ((AA xs off n).take i)*256^(n-i)) ((n+7) / 8)).set (0+(Dl n i).toNat*1) (eK xs off n (DE (AT ((AA xs off n).take i)*256^(n-i)) ((n+7) / 8)) i)) =
       DE (AT ((AA xs off n).take (i+1))*256^(n-(i+1))) ((n+7) / 8):=by
      have ei:0+(((n-1-i) / 8:Nat):Int).toNat*1=(n-1-i) / 8:=by omega
      have eo:off+(i:Int).toNat*1=off+i:=by omega
      unfold eK
      rw [ej,ek,em,ei,eo,hwx,wK hjL]
      obtain ⟨X,hX⟩:=Int.eq_ofNat_of_zero_le hxb.1
      have hX2:X<256:=by omega
      rw [hX,CO,IntKind.wrap_u64,IntKind.wrap_u64,Int.toNat_natCast,Nat.min_eq_left (by omega)]
      have en:n-i=(n-1-i)+1:=by omega
      have en':n-(i+1)=n-1-i:=by omega
      have et:AT ((AA xs off n).take (i+1))*256^(n-(i+1))=AT ((AA xs off n).take i)*256^(n-1-i+1)+X*256^(n-1-i):=by
       rw [wB (by omega),hX,Int.toNat_natCast,en',Nat.add_mul,Nat.mul_assoc,← Nat.pow_succ']
      rw [et,en]
      obtain ⟨hh,B,w1,w2,w3,w4,w5⟩:=wD (M:=AT ((AA xs off n).take i)) (k:=n-1-i) hX2
      refine wJ ?_ fun j hj=>?_
      ·have hle:8*((n-1-i) % 8)+8≤64:=by omega
       have hB64:X*2^(8*((n-1-i) % 8))<2^64:=by
        rw [w2];exact Nat.lt_of_lt_of_le w3 (Nat.pow_le_pow_right (by decide) hle)
       have ex:((X:Int) % 18446744073709551616*2^(8*((n-1-i) % 8))) % 18446744073709551616=(B:Int):=by
        have a1:((X:Int) % 18446744073709551616)=(X:Int):=by omega
        have a2:((X:Int)*2^(8*((n-1-i) % 8)))=((X*2^(8*((n-1-i) % 8)):Nat):Int):=by rw [Int.natCast_mul,Int.natCast_pow];rfl
        rw [a1,a2,w2]
        rw [w2] at hB64
        have:B<18446744073709551616:=hB64
        omega
       rw [ex]
       have eo:=eB (h:=hh) (s:=8*((n-1-i) % 8)+8) (B:=B) w4 w3 hle
       unfold AE
       rw [w5,w1]
       exact eo.symm
      ·unfold AE
       rw [wC hX2 hj]
     rw [hset,Am (z:=(i:Int)+1) (by omega)]
     exact ih (i+1) (by omega)
  have:=loop n 0 (by omega)
  rw [List.take_zero,show AT []=0 from rfl,Nat.zero_mul,wL] at this
  exact wQ this fun e w h=>TC (wP hfin) h
def wrdSpec:ASpec:=fun args H fr path =>
 match args with
 | [.val false [.sl k off n _]]=>match AG H k with
  | some ⟨_,cs,_⟩=>match Ao .u8 cs with
   | some xs=>some (A5 [k] 1 fr 1 [] (AI 1 0 ((n+7) / 8) ((n+7) / 8)) (eM (AT (AA xs off n)) ((n+7) / 8)) [(Nat.ble (off+n) xs.length,true),(Nat.ble n 35184372088832,true)] path)
   | none=>none
  | _=>none
 | _=>none
theorem wS {a:Int} (h:has .u8 a):0≤a∧a<256:=by
 have:=(EJ _ _).1 h
 simp only [AJ,Bool.and_eq_true,decide_eq_true_eq] at this
 omega
theorem Cx {β:Env} {H:Heap} {w:World} {k:Nat} {ty:Nat} {cs:List Ch} {o:Bool} {xs:List Int} (hg:Ex.Good β H w) (hk:AG H k=some ⟨ty,cs,o⟩) (hxs:Ao .u8 cs=some xs) :
  (∀ d∈xs,0≤d∧d<256)∧Ex.Good (A4 β [k] 1) (Au xs) w∧(∀ j,j<1→∃ X,β (nth [k] j)=some X):=by
 obtain ⟨l,g1⟩:=HT hg hk
 obtain ⟨_,g2⟩:=CY hxs g1
 refine ⟨fun d hd=>wS (g2 d hd),TB (c:=[.seq .u8 xs]) hg hk (fun l h=>?_),fun j hj=>?_⟩
 ·obtain ⟨q1,q2⟩:=CY hxs h
  exact ⟨_,[],⟨q1,q2⟩,rfl,by simp⟩
 ·match j,hj with
  | 0,_=>exact BZ (hg.heap _ _ hk)
theorem AJj:A6 Tryz.prog 68 wrdSpec:=by
 refine FN Tryz.func68 (by kernel_rfl) (by kernel_rfl) fun args H fr path r h=>?_
 unfold wrdSpec at h
 split at h
 case h_2=>cases h
 rename_i k off n c
 split at h
 case h_2=>cases h
 rename_i ty cs o hk
 split at h
 case h_2=>cases h
 rename_i xs hxs
 injection h with h
 refine ⟨[k],[AI 0 off n c],Au xs,1,1,[],_,_,_,path,h.symm,fun β us w ha hg hc=>?_⟩
 obtain ⟨u1,us1,r1,ha,rfl⟩:=ha
 obtain ⟨g1,g2,g3⟩:=Cx hg hk hxs
 exact ⟨AJi g1 (Nat.le_of_ble_eq_true hc.1) (Nat.le_of_ble_eq_true hc.2.1),by kernel_rfl,⟨u1,_,r1,ha,rfl⟩,g2,g3⟩
noncomputable def S27:List (FuncId×ASpec):=(68,wrdSpec)::S26
theorem TZ:AX Tryz.prog S27:=⟨AJj,WL⟩
def Ta (x:Nat):AV:=.val true [.seq .u8 (BK x 48)]
theorem AJk (a:Nat):AR Tryz.prog (AH S27 K0) Tryz.f139 [AY a] [] 300 =
 some (G5 4,Ta (AF (AA (HV (a % pN)) 0 6))):=by kernel_rfl
theorem AJl (a:Nat):AU Tryz.prog 139 [AY a] (Ta (a % pN)):=by
 have h:=AW (AK TZ Aa) AB Tryz.func139 (AJk a) ⟨rfl,rfl,rfl,rfl,trivial⟩ rfl
 rw [uC (HS a)] at h
 exact h
def ET (n N:Nat):Nat:=if n=48∧N<pN then N else 0
def Iy (n N:Nat):Int:=if n=48 then (if N<pN then 0 else 41) else 40
def L' (n N:Nat):AV:=.tup [(true,[.num 6 (ET n N)]),(false,[.v (.int .i64 (Iy n N))])]
def wT (e:Int):AV:=.tup [(true,GQ),(false,[.n .i64 e])]
theorem AJm (off n m:Nat) (xs:List Int):AM Tryz.prog (AH S27 K0) Tryz.f142 300 1 [] (Af Tryz.f142 [AI 0 off n m] (Au xs) 1 [true]) =
 some ([(AJ .i64 n,true),(!decide ((n:Int)=48),true)],[],wT 40,[]):=by kernel_rfl
theorem AJn (off m:Nat) (xs:List Int):AM Tryz.prog (AH S27 K0) Tryz.f142 300 1 [] (Af Tryz.f142 [AI 0 off 48 m] (Au xs) 1 [false,true]) =
 some ([(true,true),(false,false),(Nat.ble (off+48) xs.length,true),(true,true),(true,true),(!decide (AT (AA xs off 48) % pN=AT (AA xs off 48)),true)],[],wT 41,[]):=by kernel_rfl
theorem AJo (off m:Nat) (xs:List Int):AM Tryz.prog (AH S27 K0) Tryz.f142 300 1 [] (Af Tryz.f142 [AI 0 off 48 m] (Au xs) 1 [false,false]) =
 some ([(true,true),(false,false),(Nat.ble (off+48) xs.length,true),(true,true),(true,true),(!decide (AT (AA xs off 48) % pN=AT (AA xs off 48)),false)],[],.tup [(true,[.num 6 (AT (AA xs off 48))]),(false,[.n .i64 0])],[]):=by kernel_rfl
theorem Cy {β β':Env} {g g':Bool} {a a' b b':List Ch} {u:Value} (h1:∀ v,Bn β g a v→Bn β' g a' v) (h2:∀ v,Bn β g' b v→Bn β' g' b' v) (h:AP β (.tup [(g,a),(g',b)]) u):AP β' (.tup [(g,a'),(g',b')]) u:=by
 obtain ⟨us,⟨u1,l1,q1,⟨u2,l2,q2,q3,q4⟩,q5⟩,q6⟩:=h
 exact ⟨us,⟨u1,l1,h1 _ q1,⟨u2,l2,h2 _ q2,q3,q4⟩,q5⟩,q6⟩
theorem wU {β:Env} {v:Value} (h:Bn β true GQ v):Bn β true [.num 6 0] v:=by
 obtain ⟨l,q,rfl⟩:=h
 exact ⟨l,EO (k:=6) (x:=0) (by kernel_rfl) q,rfl⟩
theorem Df {β:Env} {k:IntKind} {i j:Int} {v:Value} (e:i=j) (h:Bn β false [.n k i] v):Bn β false [.v (.int k j)] v:=Nk e h
theorem eN {off n m:Nat} {xs:List Int} (hl:off+n≤xs.length) (hn:AJ .i64 n=true) :
  Ad Tryz.prog 142 [AI 0 off n m] (Au xs) 1 [] (L' n (AT (AA xs off n))) []:=by
 have hmod:∀ N:Nat,decide (N % pN=N)=decide (N<pN):=fun N=>by
  by_cases h:N<pN
  ·rw [decide_eq_true h,decide_eq_true (Nat.mod_eq_of_lt h)]
  ·rw [decide_eq_false h,decide_eq_false fun e=>h (by rw [← e];exact F5 N)]
 by_cases h:n=48
 ·subst h
  by_cases hN:AT (AA xs off 48)<pN
  ·refine BU (Av (path:=[false,false]) Tryz.func142 (by kernel_rfl) (by kernel_rfl) fun β0 w0 hb =>
    As (AK TZ Aa) AB Tryz.func142 (AJo off m xs) ⟨rfl,rfl,Nat.ble_eq_true_of_le hl,rfl,rfl,by rw [hmod,decide_eq_true hN];rfl,trivial⟩ (AL (by kernel_rfl)) hb (fun _ h=>by cases h)) fun β u hu=>?_
   unfold L' ET Iy
   rw [if_pos ⟨rfl,hN⟩,if_pos rfl,if_pos hN]
   exact Cy (fun _ q=>q) (fun _ q=>Df rfl q) hu
  ·refine BU (Av (path:=[false,true]) Tryz.func142 (by kernel_rfl) (by kernel_rfl) fun β0 w0 hb =>
    As (AK TZ Aa) AB Tryz.func142 (AJn off m xs) ⟨rfl,rfl,Nat.ble_eq_true_of_le hl,rfl,rfl,by rw [hmod,decide_eq_false hN];rfl,trivial⟩ (AL (by kernel_rfl)) hb (fun _ h=>by cases h)) fun β u hu=>?_
   unfold L' ET Iy
   rw [if_neg (fun q=>hN q.2),if_pos rfl,if_neg hN]
   exact Cy (fun _ q=>wU q) (fun _ q=>Df rfl q) hu
 ·refine BU (Av (path:=[true]) Tryz.func142 (by kernel_rfl) (by kernel_rfl) fun β0 w0 hb =>
   As (AK TZ Aa) AB Tryz.func142 (AJm off n m xs) ⟨hn,by simp;omega,trivial⟩ (AL (by kernel_rfl)) hb (fun _ h=>by cases h)) fun β u hu=>?_
  unfold L' ET Iy
  rw [if_neg (fun q=>h q.1),if_neg h]
  exact Cy (fun _ q=>wU q) (fun _ q=>Df rfl q) hu
def Tb (g:Nat→List Int→AV):ASpec:=fun args H fr path =>
 match args with
 | [.val false [.sl k off n _]]=>match AG H k with
  | some ⟨_,cs,_⟩=>match Ao .u8 cs with
   | some xs=>some (A5 [k] 1 fr 0 [] (g n (AA xs off n)) [] [(Nat.ble (off+n) xs.length,true),(AJ .i64 n,true)] path)
   | none=>none
  | _=>none
 | _=>none
theorem wV {f:FuncId} {fn:Func} {g:Nat→List Int→AV} (hfn:Tryz.prog.funcs[f]? = some fn) (hb:fn.body.isSome=true) (hname:(fn.name=="runtime.NumGoroutine")=false) (hk:∀ n l,Cu 1 0 [] (g n l) []=true)
  (h:∀ (off n m:Nat) (xs:List Int),(∀ d∈xs,0≤d∧d<256)→off+n≤xs.length→AJ .i64 n=true→Ad Tryz.prog f [AI 0 off n m] (Au xs) 1 [] (g n (AA xs off n)) []):A6 Tryz.prog f (Tb g):=by
 refine FN hfn hb hname fun args H fr path r hs=>?_
 unfold Tb at hs
 split at hs
 case h_2=>cases hs
 rename_i k off n c
 split at hs
 case h_2=>cases hs
 rename_i ty cs o hk'
 split at hs
 case h_2=>cases hs
 rename_i xs hxs
 injection hs with hs
 refine ⟨[k],[AI 0 off n c],Au xs,1,0,[],_,_,_,path,hs.symm,fun β us w ha hg hc=>?_⟩
 obtain ⟨u1,us1,r1,ha,rfl⟩:=ha
 obtain ⟨g1,g2,g3⟩:=Cx hg hk' hxs
 exact ⟨h off n c xs g1 (Nat.le_of_ble_eq_true hc.1) hc.2.1,hk _ _,⟨u1,_,r1,ha,rfl⟩,g2,g3⟩
noncomputable def S28:List (FuncId×ASpec):=(139,Aj (E9 fun x=>Ta (x % pN)))::(142,Tb fun n l=>L' n (AT l))::S27
theorem AJp:AX Tryz.prog S28:=⟨Ak Tryz.func139 (by kernel_rfl) (by kernel_rfl) (F6 fun x _=>AJl x),wV Tryz.func142 (by kernel_rfl) (by kernel_rfl) (fun _ _=>rfl) (fun _ _ _ _ _ hl hn=>eN hl hn),TZ⟩
theorem Pf:∀ (a b:List Int),BG (a++b)=BG a+((2^(64*a.length):Nat):Int)*BG b
 | [],b=>by simp [BG]
 | d::a,b=>by
  simp only [List.cons_append,BG,List.length_cons]
  rw [Pf a b,show 64*(a.length+1)=64+64*a.length by omega,Nat.pow_add,Int.natCast_mul,Int.mul_add,Int.mul_assoc,← Int.add_assoc]
  rfl
theorem Tc (x k:Nat):((x % 2^(64*(k+1)):Nat):Int)=((x % 2^(64*k):Nat):Int)+((2^(64*k):Nat):Int)*AE x k:=by
 rw [show 64*(k+1)=64*k+64 by omega,Nat.pow_add,Nat.mod_mul,Int.natCast_add,Int.natCast_mul];rfl
theorem eO (k:Nat):((2^(64*(k+1)):Nat):Int)=((2^(64*k):Nat):Int)*18446744073709551616:=by
 rw [show 64*(k+1)=64*k+64 by omega,Nat.pow_add,Int.natCast_mul];rfl
theorem wW (x y:Nat):∀ k,BG ((List.range k).map (BR x y))=((x % 2^(64*k):Nat):Int)-((y % 2^(64*k):Nat):Int)+((2^(64*k):Nat):Int)*Bf x y k
 | 0=>by simp [BG,Bf,Nat.mod_one]
 | k+1=>by
  rw [List.range_succ,List.map_append,Pf,wW x y k,Tc,Tc,eO]
  simp only [List.map_cons,List.map_nil,BG,List.length_map,List.length_range,Int.mul_zero,Int.add_zero]
  rw [NZ x y k]
  generalize ((2^(64*k):Nat):Int)=Q
  simp only [Int.mul_add,Int.mul_sub,Int.mul_assoc]
  omega
theorem wX {x y k:Nat} (hx:x<2^(64*k)) (hy:y<2^(64*k)):(((x+(2^(64*k)-y)) % 2^(64*k):Nat):Int)=BG ((List.range k).map (BR x y)):=by
 have h:=wW x y k
 rw [Nat.mod_eq_of_lt hx,Nat.mod_eq_of_lt hy] at h
 have hb:=Ek x y k
 have hs:∀ (ds:List Int),(∀ d∈ds,0≤d∧d<18446744073709551616)→0≤BG ds∧BG ds<((2^(64*ds.length):Nat):Int):=by
  intro ds
  induction ds with
  | nil=>intro _;simp [BG]
  | cons d r ih =>
   intro hd
   have h1:=hd d (by simp)
   have h2:=ih fun d h=>hd d (by simp [h])
   rw [List.length_cons,eO]
   simp only [BG]
   omega
 have hr:=hs ((List.range k).map (BR x y)) (by intro d hd;obtain ⟨i,_,rfl⟩:=List.mem_map.1 hd;exact EB x y i)
 rw [List.length_map,List.length_range,h] at hr
 rw [h]
 generalize 2^(64*k)=Q at *
 have h01:Bf x y k=0∨Bf x y k=1:=by omega
 rcases h01 with e | e
 ·rw [e,Int.mul_zero,Int.add_zero] at hr ⊢
  have e1:x+(Q-y)=(x-y)+Q:=by omega
  rw [e1,Nat.add_mod_right,Nat.mod_eq_of_lt (by omega)];omega
 ·rw [e,Int.mul_one] at hr ⊢
  rw [Nat.mod_eq_of_lt (by omega)];omega
theorem wY {x y k R:Nat} (hR:R=2^(64*k)) (hx:x<R) (hy:y<R):(((x+(R-y)) % R:Nat):Int)=BG ((List.range k).map (BR x y)):=by subst hR;exact wX hx hy
theorem wZ {f:FuncId} {args:List AV} {ds:List Int} {y:Nat} (h:AU Tryz.prog f args (.val true (Iq ds))) (e:(y:Int)=BG ds):AU Tryz.prog f args (.val true [.num ds.length y]):=by
 refine C7 h fun u hu=>?_
 obtain ⟨l,q,rfl⟩:=hu
 exact ⟨l,Vz e q,rfl⟩
theorem AJq:AR Tryz.prog (AH S0 K0) Tryz.f243 [] [] 100=some ([],.val true Pw):=by kernel_rfl
theorem AJr:AU Tryz.prog 243 [] (.val true Pw):=AW (AK G2 Aa) AB Tryz.func243 AJq trivial rfl
def eP (x y:Nat):Nat→List (Bool×Bool)
 | 0=>[]
 | k+1=>eP x y k++[(Bo (Bf x y k),true)]
theorem w7 (x y:Nat):∀ k,AQ (eP x y k)
 | 0=>trivial
 | k+1=>by
  have app:∀ (a b:List (Bool×Bool)),AQ a→AQ b→AQ (a++b):=by
   intro a
   induction a with
   | nil=>intro b _ h;exact h
   | cons c a ih=>intro b h1 h2;exact ⟨h1.1,ih b h1.2 h2⟩
  exact app _ _ (w7 x y k) ⟨Cw (Ek _ _ _),trivial⟩
theorem AJs (x y:Nat):AR Tryz.prog (AH S1 K0) Tryz.f270 [AY x,AY y] [] 300=some (eP x y 6,.val true (Iq ((List.range 6).map (BR x y)))):=by kernel_rfl
theorem AJt {x y:Nat} (hx:x<RR) (hy:y<RR):AU Tryz.prog 270 [AY x,AY y] (AY ((x+(RR-y)) % RR)):=by
 have h:=AW (AK Vr Aa) AB Tryz.func270 (AJs x y) (w7 x y 6) rfl
 exact wZ h (wY (k:=6) CZ hx hy)
def pW (i:Nat):Int:=PL.getD i 0
def Dz (q:Int):Nat→Int
 | 0=>0
 | i+1=>mW (HQ (pW i) q+B8 (Dv (pW i) q) (Dz q i) 0)
def D0 (q:Int) (i:Nat):Int:=match Nat.blt i 6 with | true=>Bd (Dv (pW i) q) (Dz q i) 0 | false=>Bd 0 (Dz q 6) 0
def Td (t:Nat) (q:Int):Nat→Int
 | 0=>0
 | i+1=>GN (AE t i) (D0 q i) (Td t q i)
def eR (t:Nat) (q:Int) (i:Nat):Int:=DK (AE t i) (D0 q i) (Td t q i)
def eS (t:Nat) (q:Int):Nat→List (Bool×Bool)
 | 0=>[]
 | k+1=>eS t q k++[(true,true),(Bo (Td t q k),true)]
noncomputable def SP:List (FuncId×ASpec):=(243,Aj Vq)::S28
theorem WO:AX Tryz.prog SP:=⟨Ak Tryz.func243 (by kernel_rfl) (by kernel_rfl) (fun args v h=>by
 unfold Vq at h
 split at h
 ·injection h with h;subst h;exact AJr
 ·cases h),AJp⟩
theorem AJu (t:Nat) (q:Int):AR Tryz.prog (AH SP K0) Tryz.f297 [.val true [.num 7 t],.val false [.v (.int .u64 q)]] [] 600=some (eS t q 7,.val true (Iq ((List.range 7).map (eR t q)))):=by kernel_rfl
theorem KB {a q c:Int} (ha:0≤a∧a<18446744073709551616) (hq:0≤q∧q<18446744073709551616) (hc:0≤c∧c<18446744073709551616) :
  a*q+c=Bd (Dv a q) c 0+18446744073709551616*mW (HQ a q+B8 (Dv a q) c 0)∧(0≤Bd (Dv a q) c 0∧Bd (Dv a q) c 0<18446744073709551616)∧(0≤mW (HQ a q+B8 (Dv a q) c 0)∧mW (HQ a q+B8 (Dv a q) c 0)<18446744073709551616):=by
 have h:=cO ha hq
 simp only [EN]
 unfold Bd B8 Dv HQ
 generalize a*q=z at *
 omega
theorem MA (i:Nat):0≤pW i∧pW i<18446744073709551616:=J5 (ws:=PL) (by decide) i
theorem KC {q:Int} (hq:0≤q∧q<18446744073709551616):∀ i,0≤Dz q i∧Dz q i<18446744073709551616
 | 0=>by simp [Dz]
 | i+1=>(KB (MA i) hq (KC hq i)).2.2
theorem xA {q:Nat} (hq:q<18446744073709551616):((pN*q:Nat):Int)=BG ((List.range 7).map (D0 q))∧∀ i,i<7→D0 (q:Int) i=AE (pN*q) i:=by
 have hq':0≤(q:Int)∧(q:Int)<18446744073709551616:=by omega
 have key:((pN*q:Nat):Int)=BG ((List.range 7).map (D0 q)):=by
  have e0:pW 0*q+Dz q 0=D0 q 0+18446744073709551616*Dz q 1:=(KB (MA 0) hq' (KC hq' 0)).1
  have e1:pW 1*q+Dz q 1=D0 q 1+18446744073709551616*Dz q 2:=(KB (MA 1) hq' (KC hq' 1)).1
  have e2:pW 2*q+Dz q 2=D0 q 2+18446744073709551616*Dz q 3:=(KB (MA 2) hq' (KC hq' 2)).1
  have e3:pW 3*q+Dz q 3=D0 q 3+18446744073709551616*Dz q 4:=(KB (MA 3) hq' (KC hq' 3)).1
  have e4:pW 4*q+Dz q 4=D0 q 4+18446744073709551616*Dz q 5:=(KB (MA 4) hq' (KC hq' 4)).1
  have e5:pW 5*q+Dz q 5=D0 q 5+18446744073709551616*Dz q 6:=(KB (MA 5) hq' (KC hq' 5)).1
  have z:Dz q 0=0:=rfl
  have c6:=KC hq' 6
  have e6:D0 q 6=Dz q 6:=by show Bd 0 (Dz q 6) 0=_;unfold Bd;omega
  have w0:pW 0=0xb9feffffffffaaab:=rfl
  have w1:pW 1=0x1eabfffeb153ffff:=rfl
  have w2:pW 2=0x6730d2a0f6b0f624:=rfl
  have w3:pW 3=0x64774b84f38512bf:=rfl
  have w4:pW 4=0x4b1ba7b6434bacd7:=rfl
  have w5:pW 5=0x1a0111ea397fe69a:=rfl
  rw [w0] at e0
  rw [w1] at e1
  rw [w2] at e2
  rw [w3] at e3
  rw [w4] at e4
  rw [w5] at e5
  show _=D0 q 0+18446744073709551616*(D0 q 1+18446744073709551616*(D0 q 2+18446744073709551616*(D0 q 3+18446744073709551616*(D0 q 4+18446744073709551616*(D0 q 5+18446744073709551616*(D0 q 6+18446744073709551616*0))))))
  rw [Int.natCast_mul]
  unfold pN
  omega
 refine ⟨key,fun i hi=>?_⟩
 have hb:∀ d∈(List.range 7).map (D0 (q:Int)),0≤d∧d<18446744073709551616:=by
  intro d hd
  obtain ⟨j,_,rfl⟩:=List.mem_map.1 hd
  unfold D0
  split
  ·exact (KB (MA j) hq' (KC hq' j)).2.1
  ·unfold Bd;omega
 obtain ⟨h1,_⟩:=S_ _ _ hb key
 have h2:=congrArg (fun l=>l.getD i 0) h1
 simp only [List.length_map,List.length_range] at h2
 simpa [List.getD_eq_getElem?_getD,hi] using h2
theorem eT {t q:Nat} (hq:q<18446744073709551616):∀ i,i≤7→Td t q i=Bf t (pN*q) i
 | 0,_=>rfl
 | i+1,h=>by simp only [Td,Bf];rw [eT hq i (by omega),(xA hq).2 i (by omega)]
theorem AJv {t q R:Nat} (hR:R=2^(64*7)) (hp:pN*18446744073709551616<R) (ht:t<R) (hq:q<18446744073709551616):AU Tryz.prog 297 [.val true [.num 7 t],.val false [.v (.int .u64 q)]] (.val true [.num 7 ((t+(R-pN*q)) % R)]):=by
 have hc:∀ k,k≤7→AQ (eS t q k):=by
  intro k
  induction k with
  | zero=>intro _;trivial
  | succ k ih =>
   intro hk
   have app:∀ (a b:List (Bool×Bool)),AQ a→AQ b→AQ (a++b):=by
    intro a
    induction a with
    | nil=>intro b _ h;exact h
    | cons c a ih=>intro b h1 h2;exact ⟨h1.1,ih b h1.2 h2⟩
   exact app _ _ (ih (by omega)) ⟨rfl,by rw [eT hq k (by omega)];exact Cw (Ek _ _ _),trivial⟩
 have h:=AW (AK WO Aa) AB Tryz.func297 (AJu t q) (hc 7 (Nat.le_refl _)) rfl
 have e:(List.range 7).map (eR t q)=(List.range 7).map (BR t (pN*q)):=by
  refine List.map_congr_left fun i hi=>?_
  have hi':i<7:=List.mem_range.1 hi
  unfold eR BR
  rw [eT hq i (by omega),(xA hq).2 i hi']
 rw [e] at h
 have hpq:pN*q<R:=Nat.lt_of_le_of_lt (Nat.mul_le_mul_left _ (by omega)) hp
 exact wZ h (wY (k:=7) hR ht hpq)
def R7:Nat:=726838724295606890549323807888004534353641360687318060281490199180639288113397923326191050713763565560762521606266177933534601628614656
theorem xB:R7=2^(64*7):=by kernel_rfl
theorem lt7:Nat.blt (pN*18446744073709551616) R7=true:=by kernel_rfl
theorem AJx {t q:Nat} (ht:t<R7) (hq:q<18446744073709551616):AU Tryz.prog 297 [.val true [.num 7 t],.val false [.v (.int .u64 q)]] (.val true [.num 7 ((t+(R7-pN*q)) % R7)]) :=
 AJv xB (A8.1 lt7) ht hq
def WP (x:Nat):Nat→List (Bool×Bool)
 | 0=>[]
 | k+1=>WP x k++[(!decide (AE x (5-k)=pW (5-k)),false)]
def eU:Nat→List Bool
 | 0=>[]
 | k+1=>false::eU k
theorem AJy (x k:Nat) (h:k<6):AR Tryz.prog (AH SP K0) Tryz.f296 [AY x] (eU k++[true]) 300 =
  some (WP x k++[(!decide (AE x (5-k)=pW (5-k)),true)],BB (decide (AE x (5-k)<pW (5-k)))):=by
 obtain rfl | rfl | rfl | rfl | rfl | rfl:k=0∨k=1∨k=2∨k=3∨k=4∨k=5:=by omega
 all_goals kernel_rfl
theorem AJz (x:Nat):AR Tryz.prog (AH SP K0) Tryz.f296 [AY x] (eU 6) 300=some (WP x 6,.val false [.b false]):=by kernel_rfl
theorem WQ {a b:List (Bool×Bool)} (h1:AQ a) (h2:AQ b):AQ (a++b):=by
 induction a with
 | nil=>exact h2
 | cons c a ih=>exact ⟨h1.1,ih h1.2⟩
theorem xC {x k:Nat} (h:∀ j,j<k→AE x (5-j)=pW (5-j)):AQ (WP x k):=by
 induction k with
 | zero=>trivial
 | succ k ih=>exact WQ (ih fun j hj=>h j (by omega)) ⟨by simp [h k (by omega)],trivial⟩
theorem xD (i:Nat) (h:i<6):pW i=AE pN i:=by
 obtain rfl | rfl | rfl | rfl | rfl | rfl:i=0∨i=1∨i=2∨i=3∨i=4∨i=5:=by omega
 all_goals kernel_rfl
theorem eV {x y:Nat} (hx:x<RR) (hy:y<RR):∀ k,k≤6→(∀ j,j<k→AE x (5-j)=AE y (5-j))→x / 2^(64*(6-k))=y / 2^(64*(6-k))
 | 0,_,_=>by
  rw [CZ] at hx hy
  have gen:∀ K z:Nat,z<2^(64*K)→z / 2^(64*(K-0))=0:=fun K z hz=>by rw [Nat.sub_zero];exact Nat.div_eq_of_lt hz
  exact (gen 6 x hx).trans (gen 6 y hy).symm
 | k+1,hk,h=>by
  have ih:=eV hx hy k (by omega) fun j hj=>h j (by omega)
  have hw:=h k (by omega)
  have e:∀ z:Nat,z / 2^(64*(6-(k+1)))=z / 2^(64*(6-k))*2^64+z / 2^(64*(5-k)) % 2^64:=by
   intro z
   rw [show 64*(6-k)=64*(5-k)+64 by omega,Nat.pow_add,← Nat.div_div_eq_div_mul,show 6-(k+1)=5-k by omega]
   have:=Nat.div_add_mod (z / 2^(64*(5-k))) (2^64)
   rw [Nat.mul_comm] at this
   exact this.symm
  unfold AE at hw
  rw [e x,e y,ih]
  omega
theorem AJ0 {x y k:Nat} (hx:x<RR) (hy:y<RR) (hk:k<6) (h:∀ j,j<k→AE x (5-j)=AE y (5-j)) (hne:AE x (5-k)≠AE y (5-k)):decide (AE x (5-k)<AE y (5-k))=decide (x<y):=by
 have ht:=eV hx hy k (by omega) h
 have es:∀ z:Nat,z / 2^(64*(5-k))=z / 2^(64*(6-k))*2^64+z / 2^(64*(5-k)) % 2^64:=by
  intro z
  rw [show 64*(6-k)=64*(5-k)+64 by omega,Nat.pow_add,← Nat.div_div_eq_div_mul]
  have:=Nat.div_add_mod (z / 2^(64*(5-k))) (2^64)
  rw [Nat.mul_comm] at this
  exact this.symm
 have e1:=es x
 have e2:=es y
 rw [ht] at e1
 unfold AE at hne ⊢
 by_cases hl:((x / 2^(64*(5-k)) % 2^64:Nat):Int)<((y / 2^(64*(5-k)) % 2^64:Nat):Int)
 ·rw [decide_eq_true hl,decide_eq_true (PW (Q:=2^(64*(5-k))) (by omega))]
 ·have:y<x:=PW (Q:=2^(64*(5-k))) (by omega)
  rw [decide_eq_false hl,decide_eq_false (by omega)]
theorem AJ1 {x y:Nat} (hx:x<RR) (hy:y<RR) (h:∀ j,j<6→AE x (5-j)=AE y (5-j)):x=y:=by
 have ht:=eV hx hy 6 (Nat.le_refl _) h
 rwa [Nat.sub_self,Nat.mul_zero,Nat.pow_zero,Nat.div_one,Nat.div_one] at ht
theorem Pg:pN<RR:=by decide
theorem AJ2 {P:Program} {f:FuncId} {args:List AV} {a b:Bool} (h:AU P f args (BB a)) (e:a=b):AU P f args (BB b):=by rw [← e];exact h
theorem AJ3 {x k:Nat} (hx:x<RR) (hk:k<6) (h:∀ j,j<k→AE x (5-j)=pW (5-j)) (hne:AE x (5-k)≠pW (5-k)):AU Tryz.prog 296 [AY x] (BB (decide (x<pN))):=by
 have hrun:=AW (AK WO Aa) AB Tryz.func296 (AJy x k hk) (WQ (xC h) ⟨by rw [decide_eq_false hne];rfl,trivial⟩) rfl
 refine AJ2 hrun ?_
 have e:∀ j,j<6→pW (5-j)=AE pN (5-j):=fun j _=>xD _ (by omega)
 rw [e k hk] at hne ⊢
 exact AJ0 hx Pg hk (fun j hj=>(h j hj).trans (e j (by omega))) hne
theorem AJ4 {x:Nat} (hx:x<RR) (h:∀ j,j<6→AE x (5-j)=pW (5-j)):AU Tryz.prog 296 [AY x] (BB (decide (x<pN))):=by
 have e:∀ j,j<6→pW (5-j)=AE pN (5-j):=fun j _=>xD _ (by omega)
 have hq:decide (x<pN)=false:=by
  have:=AJ1 hx Pg fun j hj=>(h j hj).trans (e j hj)
  exact decide_eq_false (by rw [this];exact Nat.lt_irrefl _)
 rw [hq]
 refine C7 (AW (AK WO Aa) AB Tryz.func296 (AJz x) (xC h) rfl) fun u hu=>?_
 obtain ⟨l1,l2,h1,h3,h4⟩:=hu
 exact ⟨l1,l2,⟨h1,rfl,trivial⟩,h3,h4⟩
theorem AJ5 {x:Nat} (hx:x<RR):AU Tryz.prog 296 [AY x] (BB (decide (x<pN))):=by
 have key:∀ r k,k+r=6→(∀ j,j<k→AE x (5-j)=pW (5-j))→AU Tryz.prog 296 [AY x] (BB (decide (x<pN))):=by
  intro r
  induction r with
  | zero =>
   intro k hk h
   exact AJ4 hx fun j hj=>h j (by omega)
  | succ r ih =>
   intro k hk h
   by_cases hw:AE x (5-k)=pW (5-k)
   ·exact ih (k+1) (by omega) fun j hj=>by
     rcases Nat.lt_or_ge j k with h1 | h1
     ·exact h j h1
     ·rw [show j=k by omega];exact hw
   ·exact AJ3 hx (by omega) h hw
 exact key 6 0 (by omega) fun j hj=>by omega
noncomputable def SQ:List (FuncId×ASpec):=(270,Aj (H9 fun x y=>AY ((x+(RR-y)) % RR)))::(296,Aj (E9 fun x=>BB (decide (x<pN))))::SP
theorem WR:AX Tryz.prog SQ:=⟨Ak Tryz.func270 (by kernel_rfl) (by kernel_rfl) (J0 fun _ _ hx hy=>AJt hx hy),Ak Tryz.func296 (by kernel_rfl) (by kernel_rfl) (F6 fun _ hx=>AJ5 hx),WO⟩
noncomputable def AJ6:List Item:=Be (AS Tryz.prog (AH SQ K0) (some 0) 100 0 none (Af Tryz.f242 [AY 0] [] 0 []))
noncomputable def Te (x:Nat) (p:List Bool):ASt:=⟨AJ6,⟨C8 Tryz.f242.ntmps [(1,.val false [.p 0 0]),(2,.val false [.p 1 0])],[(0,some ⟨30,[.num 6 x],false⟩),(1,some ⟨30,GQ,false⟩)],2,p⟩⟩
abbrev xE:Option (List Nat×List Nat×Nat):=some ([1,2],[0,1],2)
theorem AJ7 (x:Nat):AS Tryz.prog (AH SQ K0) (some 0) 100 0 xE (Af Tryz.f242 [AY x] [] 0 [])=some ([],[],Te x []):=by kernel_rfl
theorem AJ8 (x:Nat):AS Tryz.prog (AH SQ K0) (some 0) 100 0 xE (Te x [true])=some ([(!decide (x<pN),true)],[],Te ((x+(RR-pN)) % RR) []):=by kernel_rfl
theorem AJ9 (x:Nat):Dt Tryz.prog (AH SQ K0) Tryz.f242 100 0 (Te x [false])=some ([(!decide (x<pN),false)],[],AY x):=by kernel_rfl
theorem AJ_ (w0:World) (v:Nat):∀ (x:Nat),x<RR→x % pN=v→ASafe Tryz.prog 242 Bc w0 (F4 w0 (AY v)) Tryz.f242.ntmps [] (Te x []):=by
 intro x
 induction x using Nat.strongRecOn with
 | _ x ih =>
  intro hx hv
  rcases Nat.lt_or_ge x pN with hlt | hge
  ·rw [Nat.mod_eq_of_lt hlt] at hv
   subst hv
   exact Ab [false] (GO (AK WR Aa) AB Tryz.func242 (AJ9 x) ⟨by simp [hlt],trivial⟩ (AL (by kernel_rfl)) (fun _ _=>rfl) rfl)
  ·have hp:=CQ
   have hpR:pN≤RR:=by decide
   refine Ab [true] (Ae (AK WR Aa) AB (AJ8 x) ⟨by simp;omega,trivial⟩ (AL (by kernel_rfl)) (fun _ _=>rfl) (fun _ h=>by cases h) fun _=>?_)
   have e:(x+(RR-pN)) % RR=x-pN:=by rw [show x+(RR-pN)=(x-pN)+RR by omega,Nat.add_mod_right,Nat.mod_eq_of_lt (by omega)]
   rw [e]
   exact ih (x-pN) (by omega) (by omega) (by rw [← hv,← Nat.mod_eq_sub_mod hge])
theorem xF {x:Nat} (hx:x<RR):AU Tryz.prog 242 [AY x] (AY (x % pN)) :=
 Js (path:=[]) Tryz.func242 (by kernel_rfl) (by kernel_rfl) fun w0=>Ae (AK WR Aa) AB (AJ7 x) trivial (AL (by kernel_rfl)) (fun _ _=>rfl) (fun _ h=>by cases h) fun _=>AJ_ w0 _ x hx rfl
def Tf (t q:Nat):Nat:=(t+(R7-pN*q)) % R7
def fC:List AV→Option AV
 | [.val true a,B]=>match CP 7 a,BJ (some B) with
  | some x,some (_,.u64,h)=>some (.val true [.num 7 (Tf x h.toNat)])
  | _,_=>none
 | _=>none
theorem AJ':∀ args v,fC args=some v→AU Tryz.prog 297 args v:=by
 intro args v h us w ha
 unfold fC at h
 split at h
 case h_2=>cases h
 rename_i a B
 split at h
 case h_2=>cases h
 rename_i x c h0 hx hy
 injection h with h;subst h
 obtain ⟨u1,us1,r1,⟨u2,us2,r2,ha,rfl⟩,rfl⟩:=ha
 obtain ⟨q0,q1,hlt⟩:=Jx hx r1
 obtain ⟨q2,h2⟩:=PQ hy r2
 have bh:=DQ h2
 obtain ⟨q,rfl⟩:=Int.eq_ofNat_of_zero_le bh.1
 have hq:q<18446744073709551616:=by
  clear hlt
  omega
 exact AJx (xB▸hlt) hq _ w ⟨u1,_,q0,⟨u2,_,q2,ha,rfl⟩,rfl⟩
noncomputable def SR:List (FuncId×ASpec):=(242,Aj (E9 fun x=>AY (x % pN)))::(297,Aj fC)::SQ
theorem WS:AX Tryz.prog SR:=⟨Ak Tryz.func242 (by kernel_rfl) (by kernel_rfl) (F6 fun _ hx=>xF hx),Ak Tryz.func297 (by kernel_rfl) (by kernel_rfl) AJ',WR⟩
abbrev xG:Option (List Nat×List Nat×Nat):=some ([4,6],[1,3],4)
noncomputable def AKA:List Item:=Be (AS Tryz.prog (AH SR K0) (some 0) 100 0 none (Af Tryz.f245 [AY 0,uV 0] [] 0 []))
noncomputable def Tg (T:Nat) (p:List Bool):ASt:=⟨AKA,⟨C8 Tryz.f245.ntmps [(4,.val false [.p 1 0]),(6,.val false [.p 3 0])],[(1,some ⟨30,GQ,false⟩),(3,some ⟨248,[.num 7 T],false⟩)],4,p⟩⟩
def WT (a4 a5:Int):Nat:=Int.toNat (((a5.toNat*B9+a4.toNat) / Int.toNat (mW (1873798617647539866+1)):Nat):Int)
theorem AKB (a4 a5:Int):WT a4 a5=(a5.toNat*B9+a4.toNat) / 1873798617647539867:=by
 unfold WT
 rw [Int.toNat_natCast]
 rfl
theorem AKC (a0 a1 a2 a3 a4 a5 w:Int):AS Tryz.prog (AH SR K0) (some 0) 100 0 xG (Af Tryz.f245 [.val true (w6 a0 a1 a2 a3 a4 a5),uV w] [] 0 []) =
 some ([(decide (a5<1873798617647539867),true)],[],Tg (Tf (AF [w,a0,a1,a2,a3,a4,a5]) (WT a4 a5)) []):=by kernel_rfl
theorem AKD (T:Nat):AS Tryz.prog (AH SR K0) (some 0) 100 0 xG (Tg T [true])=some ([(decide (0<AE T 6),true)],[],Tg (Tf T 1) []):=by kernel_rfl
theorem AKE (T:Nat):Dt Tryz.prog (AH SR K0) Tryz.f245 100 0 (Tg T [false])=some ([(decide (0<AE T 6),false)],[],AY (AF ((List.range 6).map (AE T)) % pN)):=by kernel_rfl
theorem xH {T q:Nat} (hT:T<R7) (h:pN*q≤T):Tf T q=T-pN*q:=by
 unfold Tf
 generalize R7=Q at *
 rw [show T+(Q-pN*q)=(T-pN*q)+Q by omega,Nat.add_mod_right,Nat.mod_eq_of_lt (by omega)]
theorem fD {x k:Nat} (h:x<2^(64*k)):AF ((List.range k).map (AE x))=x:=wM h
theorem p7:R7=RR*18446744073709551616:=by kernel_rfl
theorem p5':RR=2^(64*5)*2^64:=by kernel_rfl
theorem AKG (w0:World) (v:Nat):∀ (T:Nat),T<R7→T % pN=v→ASafe Tryz.prog 245 Bc w0 (F4 w0 (AY v)) Tryz.f245.ntmps [] (Tg T []):=by
 intro T
 induction T using Nat.strongRecOn with
 | _ T ih =>
  intro hT hv
  have hw:AE T 6=((T / RR:Nat):Int):=by
   unfold AE
   rw [← CZ,Nat.mod_eq_of_lt]
   refine Nat.div_lt_of_lt_mul ?_
   rw [p7] at hT;exact hT
  by_cases h:0<T / RR
  ·have hp:=CQ
   have hpR:=Pg
   have hR:0<RR:=by decide
   have hge:RR≤T:=by
    rcases Nat.lt_or_ge T RR with h1 | h1
    ·rw [Nat.div_eq_of_lt h1] at h;omega
    ·exact h1
   refine Ab [true] (Ae (AK WS Aa) AB (AKD T) ⟨by rw [hw];simp only [decide_eq_true_eq];omega,trivial⟩ (AL (by kernel_rfl)) (fun _ _=>rfl) (fun _ h=>by cases h) fun _=>?_)
   rw [xH hT (by omega),Nat.mul_one]
   exact ih (T-pN) (by omega) (by omega) (by rw [← hv,← Nat.mod_eq_sub_mod (by omega)])
  ·have hlt:T<RR:=by
    rcases Nat.lt_or_ge T RR with h1 | h1
    ·exact h1
    ·exact absurd (Nat.div_pos h1 (by decide)) h
   have:=GO (w0:=w0) (β0:=Bc) (n:=Tryz.f245.ntmps) (AK WS Aa) AB Tryz.func245 (AKE T) ⟨by rw [hw];simp only [decide_eq_false_iff_not];omega,trivial⟩ (AL (by kernel_rfl)) (fun _ _=>rfl) rfl
   rw [fD (by rw [← CZ];exact hlt),hv] at this
   exact Ab [false] this
theorem xI:Nat.blt pN (2^(64*5)*1873798617647539867)=true:=by kernel_rfl
theorem xJ (k j:Nat) (h:j=k+1):2^(64*j)=2^(64*k)*18446744073709551616:=by
 subst h
 rw [show 64*(k+1)=64*k+64 by omega,Nat.pow_add]
theorem AKH (x k j:Nat) (h:j=k+1):x / 2^(64*j)*B9+(AE x k).toNat=x / 2^(64*k):=by
 rw [xJ k j h,← Nat.div_div_eq_div_mul]
 have:=Nat.div_add_mod (x / 2^(64*k)) 18446744073709551616
 unfold AE B9
 rw [Int.toNat_natCast]
 omega
theorem AKI (P:Nat) (h:Nat.blt pN (P*1873798617647539867)=true):pN≤1873798617647539867*P:=by rw [Nat.mul_comm];exact Nat.le_of_lt (A8.1 h)
theorem AKJ {p q A P Q x w:Nat} (hp:p≤1873798617647539867*P) (h1:q*1873798617647539867≤A) (h2:A*Q≤x) (e:P=Q*18446744073709551616):p*q≤w+18446744073709551616*x:=by
 calc p*q≤(1873798617647539867*P)*q:=Nat.mul_le_mul_right _ hp
  _=(q*1873798617647539867)*P:=by rw [Nat.mul_comm,Nat.mul_assoc]
  _≤A*P:=Nat.mul_le_mul_right _ h1
  _=(A*Q)*18446744073709551616:=by rw [e,Nat.mul_assoc]
  _≤x*18446744073709551616:=Nat.mul_le_mul_right _ h2
  _≤w+18446744073709551616*x:=by rw [Nat.mul_comm];exact Nat.le_add_left _ _
theorem AKK {x w:Nat} (hx:x<pN) (hw:w<18446744073709551616):AU Tryz.prog 245 [AY x,uV w] (AY ((w+18446744073709551616*x) % pN)):=by
 have hpR:=Pg
 have h5:AE x 5=((x / 2^(64*5):Nat):Int):=by
  unfold AE
  rw [Nat.mod_eq_of_lt]
  have h:x<2^(64*5)*2^64:=by rw [← p5'];exact Nat.lt_trans hx Pg
  exact Nat.div_lt_of_lt_mul h
 have hlt5:x / 2^(64*5)<1873798617647539867:=by
  refine Nat.div_lt_of_lt_mul (Nat.lt_trans hx ?_)
  exact A8.1 xI
 have h4:(AE x 5).toNat*B9+(AE x 4).toNat=x / 2^(64*4):=by
  rw [h5,Int.toNat_natCast]
  exact AKH x 4 5 rfl
 have hT:AF [(w:Int),AE x 0,AE x 1,AE x 2,AE x 3,AE x 4,AE x 5]=w+18446744073709551616*x:=by
  have:=fD (x:=x) (k:=6) (by rw [← CZ];omega)
  show (w:Int).toNat+18446744073709551616*AF [AE x 0,AE x 1,AE x 2,AE x 3,AE x 4,AE x 5]=_
  rw [Int.toNat_natCast]
  exact congrArg (fun z=>w+18446744073709551616*z) this
 have hT7:w+18446744073709551616*x<R7:=by rw [p7];omega
 have hq:pN*WT (AE x 4) (AE x 5)≤w+18446744073709551616*x:=by
  refine AKJ (AKI (2^(64*5)) xI) ?_ (Nat.div_mul_le_self x (2^(64*4))) (xJ 4 5 rfl)
  rw [AKB,h4];exact Nat.div_mul_le_self _ _
 intro us w1 ⟨u1,us1,r1,r2,r3⟩
 refine Js (args:=[.val true (w6 (AE x 0) (AE x 1) (AE x 2) (AE x 3) (AE x 4) (AE x 5)),uV w]) (path:=[]) Tryz.func245 (by kernel_rfl) (by kernel_rfl) (fun w0=>?_) us w1 ⟨u1,us1,?_,r2,r3⟩
 case refine_2 =>
  have:=(Jx (k:=6) (a:=[.num 6 x]) AGf r1).2.1
  rwa [cH] at this
 refine Ae (AK WS Aa) AB (AKC (AE x 0) (AE x 1) (AE x 2) (AE x 3) (AE x 4) (AE x 5) w) ⟨by rw [h5];simp only [decide_eq_true_eq];omega,trivial⟩ (AL (by kernel_rfl)) (fun _ _=>rfl) (fun _ h=>by cases h) fun _=>?_
 rw [hT,xH hT7 hq]
 refine AKG w0 _ _ (by omega) ?_
 exact Nat.sub_mul_mod hq
def fE:List AV→Option (List (Bool×Bool)×AV)
 | [.val true a,B]=>match CP 6 a,BJ (some B) with
  | some x,some (_,.u64,w)=>some ([(decide (x<pN),true)],AY ((w.toNat+18446744073709551616*x) % pN))
  | _,_=>none
 | _=>none
theorem AKL:∀ args c v,fE args=some (c,v)→AQ c→AU Tryz.prog 245 args v:=by
 intro args cs v h hc us w ha
 unfold fE at h
 split at h
 case h_2=>cases h
 rename_i a B
 split at h
 case h_2=>cases h
 rename_i x c h0 hx hy
 injection h with h;injection h with h1 h2;subst h1;subst h2
 obtain ⟨u1,us1,r1,⟨u2,us2,r2,ha,rfl⟩,rfl⟩:=ha
 obtain ⟨q0,q1,hlt⟩:=Jx hx r1
 obtain ⟨q2,h2⟩:=PQ hy r2
 have bh:=DQ h2
 obtain ⟨q,rfl⟩:=Int.eq_ofNat_of_zero_le bh.1
 exact AKK (of_decide_eq_true hc.1) (by omega) _ w ⟨u1,_,q0,⟨u2,_,q2,ha,rfl⟩,rfl⟩
noncomputable def ST:List (FuncId×ASpec):=(245,EE fE)::SR
theorem fF:AX Tryz.prog ST:=⟨El Tryz.func245 (by kernel_rfl) (by kernel_rfl) AKL,WS⟩
def fG:Heap→Heap→Prop
 | [],[]=>True
 | (k,some b)::r,(k',some b')::r'=>k=k'∧b'.ty=b.ty∧b'.opn=b.opn∧(∀ β l,AN β b.cs l→AN β b'.cs l)∧fG r r'
 | _,_=>False
theorem WU:∀ {H H':Heap} {j:Nat} {d:Blk},fG H H'→AG H' j=some d→∃ b,AG H j=some b∧d.ty=b.ty∧d.opn=b.opn∧∀ β l,AN β b.cs l→AN β d.cs l
 | [],[],_,_,_,h=>by cases h
 | (k,some b)::r,(k',some b')::r',j,d,⟨e,h1,h2,h3,h4⟩,h=>by
  subst e
  simp only [AG] at h ⊢
  split at h
  ·rename_i hk;injection h with h;subst h;exact ⟨b,rfl,h1,h2,h3⟩
  ·rename_i hk;exact WU h4 h
 | [],_::_,_,_,h,_=>by cases h
 | (_,none)::_,_,_,_,h,_=>by cases h
 | (_,some _)::_,[],_,_,h,_=>by cases h
 | (_,some _)::_,(_,none)::_,_,_,h,_=>by cases h
theorem Th {P:Program} {f:FuncId} {β0:Env} {w0:World} {R:Ending→World→Prop} {n:Nat} {W:List Nat} {todo:List Item} {T:List AV} {H H':Heap} {fr:Nat} {p:List Bool} (hi:fG H H') (h:ASafe P f β0 w0 R n W ⟨todo,⟨T,H',fr,p⟩⟩):ASafe P f β0 w0 R n W ⟨todo,⟨T,H,fr,p⟩⟩:=by
 intro β a w hv hf
 refine h β a w { hv with good:=⟨fun b blk hb=>?_,fun b b' B n n' h1 h2 h3 h4=>?_,hv.good.lt⟩ } hf
 ·obtain ⟨x,hx,h1,h2,h3⟩:=WU hi hb
  exact S' (hv.good.heap b x hx) rfl (.inr ⟨h1,h2⟩) (h3 β)
 ·refine hv.good.inj b b' B n n' ?_ ?_ h3 h4
  ·obtain ⟨d,hd,hr⟩:=F0 h1
   obtain ⟨x,hx,q1,_⟩:=WU hi hd
   exact Ef hx (by rw [← q1];exact hr)
  ·obtain ⟨d,hd⟩:=Option.isSome_iff_exists.1 h2
   obtain ⟨x,hx,_⟩:=WU hi hd
   rw [hx];rfl
theorem AKM {ds:List Int} {y:Nat} (e:(y:Int)=BG ds) (β:Env) (l:List Value) (h:AN β (Iq ds) l):AN β [.num ds.length y] l:=Vz e h
def fH (x y:Nat):Nat→List (Bool×Bool)
 | 0=>[]
 | k+1=>fH x y k++[(Bo (BP x y k),true)]
theorem xK (x y:Nat):∀ k,AQ (fH x y k)
 | 0=>trivial
 | k+1=>WQ (xK x y k) ⟨Cw (Ej _ _ _),trivial⟩
theorem AKN (x y:Nat):AR Tryz.prog (AH ST K0) Tryz.f204 [AY x,AY y] [] 500=some (fH (x % pN) (y % pN) 6,AY (Jz (x % pN) (y % pN) % pN)):=by kernel_rfl
theorem xL (x y:Nat):AU Tryz.prog 204 [AY x,AY y] (AY (DL x y)):=by
 have h:=AW (AK fF Aa) AB Tryz.func204 (AKN x y) (xK _ _ _) rfl
 obtain ⟨h1,h2⟩:=cM (HS x) (HS y)
 have h3:=F5 x
 have h4:=F5 y
 have h5:=Nf
 have hc:(BP (x % pN) (y % pN) 6).toNat=0:=by
  have:=Ej (x % pN) (y % pN) 6
  have h01:(BP (x % pN) (y % pN) 6).toNat=0∨(BP (x % pN) (y % pN) 6).toNat=1:=by omega
  rcases h01 with e | e
  ·exact e
  ·rw [e] at h1;omega
 rw [hc] at h1
 have:Jz (x % pN) (y % pN)=x % pN+y % pN:=by omega
 rw [this] at h
 exact h
theorem AKO (x:Nat):AR Tryz.prog (AH ST K0) Tryz.f205 [AY x] [] 500=some ([],AY (((AF PL+(RR-x % pN)) % RR) % pN)):=by kernel_rfl
theorem AKP:AF PL=pN:=by kernel_rfl
theorem xM (x:Nat):AU Tryz.prog 205 [AY x] (AY (DM x)):=by
 have h:=AW (AK fF Aa) AB Tryz.func205 (AKO x) trivial rfl
 have h3:=F5 x
 have h5:=Nf
 have:(AF PL+(RR-x % pN)) % RR=pN-x % pN:=by
  rw [AKP,show pN+(RR-x % pN)=(pN-x % pN)+RR by omega,Nat.add_mod_right,Nat.mod_eq_of_lt (by omega)]
 rw [this] at h
 exact h
noncomputable def SU:List (FuncId×ASpec):=(204,Aj (H9 fun x y=>AY (DL x y)))::(205,Aj (E9 fun x=>AY (DM x)))::ST
theorem Ti:AX Tryz.prog SU:=⟨Ak Tryz.func204 (by kernel_rfl) (by kernel_rfl) (J0 fun x y _ _=>xL x y),Ak Tryz.func205 (by kernel_rfl) (by kernel_rfl) (F6 fun x _=>xM x),fF⟩
theorem AKQ (x y:Nat):AR Tryz.prog (AH SU K0) Tryz.f207 [AY x,AY y] [] 300=some ([],AY (DW x y)):=by kernel_rfl
theorem xO (x y:Nat):AU Tryz.prog 207 [AY x,AY y] (AY (DW x y)):=AW (AK Ti Aa) AB Tryz.func207 (AKQ x y) trivial rfl
noncomputable def AKR:List Item:=Be (AS Tryz.prog (AH SU K0) (some 0) 100 0 none (Af Tryz.f190 [AY 0,AY 0] [] 0 []))
noncomputable def Ph (x y:Nat) (t:List Ch) (i:Nat) (p:List Bool):ASt:=⟨AKR,⟨C8 Tryz.f190.ntmps [(4,.val false [.p 2 0]),(5,.val false [.p 3 0]),(6,.val false [.p 4 0]),(7,.val false [.p 5 0]),(8,.val false [.n .i64 i])],
 [(2,some ⟨30,GQ,false⟩),(3,some ⟨30,[.num 6 x],false⟩),(4,some ⟨30,[.num 6 y],false⟩),(5,some ⟨229,t,false⟩)],6,p⟩⟩
abbrev xP:Option (List Nat×List Nat×Nat):=some ([4,5,6,7,8],[2,3,4,5],6)
def Pi (xi:Int) (y T i:Nat):Nat→Int
 | 0=>0
 | k+1=>mW (mW (HQ xi (AE y k)+B8 (Dv xi (AE y k)) (Pi xi y T i k) 0)+B8 (AE T (i+k)) (Bd (Dv xi (AE y k)) (Pi xi y T i k) 0) 0)
def fI (xi:Int) (y T i k:Nat):Int:=Bd (AE T (i+k)) (Bd (Dv xi (AE y k)) (Pi xi y T i k) 0) 0
def Tj (xi:Int) (y T i:Nat):List Int:=(List.range i).map (AE T)++((List.range 6).map (fI xi y T i)++(Pi xi y T i 6::(List.range (5-i)).map fun j=>AE T (i+7+j)))
theorem AKS (x y:Nat):AS Tryz.prog (AH SU K0) (some 4) 300 0 xP (Af Tryz.f190 [AY x,AY y] [] 0 [])=some ([],[],Ph (x % pN) (y % pN) (List.replicate 12 (.n .u64 0)) 0 []):=by kernel_rfl
theorem AKT (x y T i:Nat) (hi:i<6):AS Tryz.prog (AH SU K0) (some 4) 300 0 xP (Ph x y [.num 12 T] i [])=some (G5 12,[],Ph x y (Iq (Tj (AE x i) y T i)) (i+1) []):=by
 obtain rfl | rfl | rfl | rfl | rfl | rfl:i=0∨i=1∨i=2∨i=3∨i=4∨i=5:=by omega
 all_goals kernel_rfl
def mE (T:Nat):Nat→Nat
 | 0=>AF [AE T 6,AE T 7,AE T 8,AE T 9,AE T 10,AE T 11]
 | k+1=>((AE T (5-k)).toNat+18446744073709551616*mE T k) % pN
def fJ (T:Nat):Nat→List (Bool×Bool)
 | 0=>[]
 | k+1=>fJ T k++[(decide (mE T k<pN),true)]
theorem AKU (x y T:Nat):Dt Tryz.prog (AH SU K0) Tryz.f190 300 0 (Ph x y [.num 12 T] 6 [])=some (fJ T 6,[],AY (mE T 6)):=by kernel_rfl
theorem fK {xi:Int} {y T i:Nat}:∀ k,Pi xi y T i k=B5 xi y (T / 2^(64*i)) k
 | 0=>rfl
 | k+1=>by
  have hw:AE T (i+k)=AE (T / 2^(64*i)) k:=by
   unfold AE
   rw [Nat.div_div_eq_div_mul,← Nat.pow_add,show 64*i+64*k=64*(i+k) by omega]
  simp only [Pi,B5];rw [fK k,hw]
theorem xQ (T i k:Nat):AE T (i+k)=AE (T / 2^(64*i)) k:=by
 unfold AE
 rw [Nat.div_div_eq_div_mul,← Nat.pow_add,show 64*i+64*k=64*(i+k) by omega]
theorem xR {x:Int} (hx:0≤x∧x<18446744073709551616) (y T:Nat):∀ k,BG ((List.range k).map (BO x y T))+((2^(64*k):Nat):Int)*B5 x y T k=x*((y % 2^(64*k):Nat):Int)+((T % 2^(64*k):Nat):Int)
 | 0=>by simp [BG,B5,Nat.mod_one]
 | k+1=>by
  have ih:=xR hx y T k
  have he:=Nh hx y T k
  rw [List.range_succ,List.map_append,Pf,Tc,Tc,eO]
  simp only [List.map_cons,List.map_nil,BG,List.length_map,List.length_range,Int.mul_zero,Int.add_zero]
  generalize ((2^(64*k):Nat):Int)=Q at *
  have e1:Q*BO x y T k=Q*(x*AE y k)+Q*AE T k+Q*B5 x y T k-Q*18446744073709551616*B5 x y T (k+1):=by
   have:BO x y T k=x*AE y k+AE T k+B5 x y T k-18446744073709551616*B5 x y T (k+1):=by omega
   rw [this,Int.mul_sub,Int.mul_add,Int.mul_add,Int.mul_assoc]
  have e2:x*(((y % 2^(64*k):Nat):Int)+Q*AE y k)=x*((y % 2^(64*k):Nat):Int)+Q*(x*AE y k):=by
   rw [Int.mul_add,Int.mul_left_comm]
  rw [e1,e2]
  omega
theorem AKV {x y T i:Nat} (hi:i<6) (hy:y<RR) (hT:T<2^(64*(i+6))) :
  ((T+(AE x i).toNat*y*2^(64*i):Nat):Int)=BG (Tj (AE x i) y T i)∧(Tj (AE x i) y T i).length=12:=by
 have hw:=BN x i
 obtain ⟨X,hX⟩:=Int.eq_ofNat_of_zero_le hw.1
 have hB:T / 2^(64*i)<2^(64*6):=by
  refine Nat.div_lt_of_lt_mul ?_
  have e:2^(64*(i+6))=2^(64*i)*2^(64*6):=by rw [Nat.mul_add 64 i 6];exact Nat.pow_add 2 (64*i) (64*6)
  exact e▸hT
 have hz:((List.range (5-i)).map fun j=>AE T (i+7+j))=(List.range (5-i)).map fun _=>(0:Int):=by
  refine List.map_congr_left fun j _=>?_
  unfold AE
  rw [Nat.div_eq_of_lt (Nat.lt_of_lt_of_le hT (Nat.pow_le_pow_right (by decide) (by omega)))];rfl
 have hz2:∀ n,BG ((List.range n).map fun _=>(0:Int))=0:=by
  intro n
  induction n with
  | zero=>rfl
  | succ n ih=>rw [List.range_succ,List.map_append,Pf,ih];simp [BG]
 have hA:BG ((List.range i).map (AE T))=((T % 2^(64*i):Nat):Int):=by
  have:=Sz i (T % 2^(64*i)) (Nat.mod_lt _ (Nat.pow_pos (by decide)))
  rw [← this]
  refine congrArg BG (List.map_congr_left fun j hj=>?_)
  have hj':j<i:=List.mem_range.1 hj
  unfold AE
  have e:2^(64*i)=2^(64*j)*(2^64*2^(64*(i-j-1))):=by rw [← Nat.pow_add,← Nat.pow_add];congr 1;omega
  rw [e,Nat.mod_mul_right_div_self,Nat.mod_mul_right_mod]
 have hrow:(List.range 6).map (fI X y T i)=(List.range 6).map (BO X y (T / 2^(64*i))):=by
  refine List.map_congr_left fun k _=>?_
  unfold fI BO
  rw [fK,xQ]
 rw [hX]
 have hc:=xR (x:=X) (by omega) y (T / 2^(64*i)) 6
 rw [Nat.mod_eq_of_lt hB,Nat.mod_eq_of_lt (a:=y) (by rw [← CZ];exact hy)] at hc
 constructor
 ·unfold Tj
  rw [hz,Pf,Pf,hA,hrow,fK]
  simp only [BG,hz2,List.length_map,List.length_range,Int.mul_zero,Int.add_zero]
  rw [hc]
  have e:=Nat.div_add_mod T (2^(64*i))
  generalize 2^(64*i)=Q at *
  rw [Int.toNat_natCast,Int.natCast_add,Int.natCast_mul,Int.natCast_mul]
  conv=>lhs;rw [← e]
  rw [Int.natCast_add,Int.natCast_mul,Int.mul_add,Int.mul_comm ((X:Int)*y)]
  omega
 ·unfold Tj;simp;omega
theorem AKW (x i:Nat):x % 2^(64*(i+1))=x % 2^(64*i)+(AE x i).toNat*2^(64*i):=by
 have h:=Tc x i
 have hw:=BN x i
 obtain ⟨X,hX⟩:=Int.eq_ofNat_of_zero_le hw.1
 rw [hX,← Int.natCast_mul,← Int.natCast_add] at h
 rw [hX,Int.toNat_natCast,Nat.mul_comm X]
 exact Int.natCast_inj.1 h
theorem AKX (β:Env) (l:List Value) (h:AN β (List.replicate 12 (.n .u64 0)) l):AN β [.num 12 0] l:=EO (k:=12) (x:=0) (by kernel_rfl) h
theorem AKY (T:Nat):mE T 0=AF [AE T 6,AE T 7,AE T 8,AE T 9,AE T 10,AE T 11]:=rfl
theorem AKZ (z:Nat):(List.range 6).map (AE z)=[AE z 0,AE z 1,AE z 2,AE z 3,AE z 4,AE z 5]:=rfl
theorem AKa {T:Nat} (hT:T<pN*RR):mE T 0=T / RR∧T / RR<pN:=by
 have hT12:T / RR<pN:=Nat.div_lt_of_lt_mul (by rw [Nat.mul_comm];exact hT)
 refine ⟨?_,hT12⟩
 have h:=fD (x:=T / RR) (k:=6) (Nat.lt_trans hT12 (by rw [← CZ];exact Pg))
 rw [AKZ] at h
 have e:∀ j,AE T (6+j)=AE (T / RR) j:=fun j=>by rw [xQ,← CZ]
 rw [← e 0,← e 1,← e 2,← e 3,← e 4,← e 5] at h
 rw [AKY]
 exact h
theorem AKb (T k:Nat):mE T (k+1)=((AE T (5-k)).toNat+18446744073709551616*mE T k) % pN:=rfl
theorem AKc (T j:Nat):T / 2^(64*j)=(AE T j).toNat+18446744073709551616*(T / 2^(64*(j+1))):=by
 rw [show 64*(j+1)=64*j+64 by omega,Nat.pow_add,← Nat.div_div_eq_div_mul]
 have:=Nat.div_add_mod (T / 2^(64*j)) (2^64)
 unfold AE
 rw [Int.toNat_natCast]
 omega
theorem xS {T:Nat} (hT:T<pN*RR) (k:Nat) (hk:k≤6):mE T k=T / 2^(64*(6-k)) % pN∧mE T k<pN:=by
 induction k with
 | zero =>
  obtain ⟨e,h⟩:=AKa hT
  rw [e,Nat.sub_zero,← CZ]
  exact ⟨(Nat.mod_eq_of_lt h).symm,h⟩
 | succ k ih =>
  obtain ⟨i1,i2⟩:=ih (by omega)
  rw [AKb]
  refine ⟨?_,Nat.mod_lt _ CQ⟩
  rw [i1,show 6-(k+1)=5-k by omega,AKc T (5-k),show 5-k+1=6-k by omega,Nat.add_mod,Nat.mul_mod_mod,← Nat.add_mod]
theorem xU {T:Nat} (hT:T<pN*RR):∀ k,k≤6→AQ (fJ T k)
 | 0,_=>trivial
 | k+1,hk=>WQ (xU hT k (by omega)) ⟨decide_eq_true (xS hT k (by omega)).2,trivial⟩
theorem xV (x y:Nat):AU Tryz.prog 190 [AY x,AY y] (AY (Ag x y)):=by
 refine Js (path:=[]) Tryz.func190 (by kernel_rfl) (by kernel_rfl) fun w0=>?_
 refine Ae (AK Ti Aa) AB (AKS x y) trivial (AL (by kernel_rfl)) (fun _ _=>rfl) (fun _ h=>by cases h) fun _=>?_
 have hx:=F5 x
 have hy:=F5 y
 have hyR:=HS y
 have hxR:=HS x
 have e:Ag x y=(x % pN)*(y % pN) % pN:=by unfold Ag;rw [← Nat.mul_mod]
 rw [e]
 generalize x % pN=a at *
 generalize y % pN=b at *
 have loop:∀ r i,i+r=6→ASafe Tryz.prog 190 Bc w0 (F4 w0 (AY (a*b % pN))) Tryz.f190.ntmps [] (Ph a b [.num 12 ((a % 2^(64*i))*b)] i []):=by
  intro r
  induction r with
  | zero =>
   intro i hi
   obtain rfl:i=6:=by omega
   have e6:a % 2^(64*6)=a:=Nat.mod_eq_of_lt (CZ▸hxR)
   have hT:a*b<pN*RR:=Nat.mul_lt_mul'' hx hyR
   have h:=GO (w0:=w0) (β0:=Bc) (n:=Tryz.f190.ntmps) (AK Ti Aa) AB Tryz.func190 (AKU a b (a*b)) (xU hT 6 (Nat.le_refl _)) (AL (by kernel_rfl)) (fun _ _=>rfl) rfl
   rw [(xS hT 6 (Nat.le_refl _)).1,Nat.sub_self,Nat.mul_zero,Nat.pow_zero,Nat.div_one] at h
   exact (congrArg (fun z=>ASafe Tryz.prog 190 Bc w0 (F4 w0 (AY (a*b % pN))) Tryz.f190.ntmps [] (Ph a b [.num 12 (z*b)] 6 [])) e6).mpr h
  | succ r ih =>
   intro i hi
   have hlt:(a % 2^(64*i))*b<2^(64*(i+6)):=by
    rw [show 64*(i+6)=64*i+64*6 by omega,Nat.pow_add]
    exact Nat.mul_lt_mul'' (Nat.mod_lt _ (Nat.pow_pos (by decide))) (by rw [← CZ];exact hyR)
   obtain ⟨r1,r2⟩:=AKV (x:=a) (T:=(a % 2^(64*i))*b) (show i<6 by omega) hyR hlt
   have e2:(a % 2^(64*i))*b+(AE a i).toNat*b*2^(64*i)=(a % 2^(64*(i+1)))*b:=by
    rw [AKW,Nat.add_mul];congr 1;rw [Nat.mul_right_comm]
   rw [e2] at r1
   refine Ae (AK Ti Aa) AB (AKT a b _ i (by omega)) (J1 12) (AL (by kernel_rfl)) (fun _ _=>rfl) (fun _ h=>by cases h) fun _=>?_
   have:=AKM r1
   rw [r2] at this
   refine Th ?_ (ih (i+1) (by omega))
   exact ⟨rfl,rfl,rfl,fun β l h=>h,rfl,rfl,rfl,fun β l h=>h,rfl,rfl,rfl,fun β l h=>h,rfl,rfl,rfl,this,trivial⟩
 have h0:=loop 6 0 rfl
 rw [Nat.mul_zero,Nat.pow_zero,Nat.mod_one,Nat.zero_mul] at h0
 refine Th ?_ h0
 exact ⟨rfl,rfl,rfl,fun β l h=>h,rfl,rfl,rfl,fun β l h=>h,rfl,rfl,rfl,fun β l h=>h,rfl,rfl,rfl,AKX,trivial⟩
noncomputable def SV:List (FuncId×ASpec):=(207,Aj (H9 fun x y=>AY (DW x y)))::(190,Aj (H9 fun x y=>AY (Ag x y)))::SU
theorem MB:AX Tryz.prog SV:=⟨Ak Tryz.func207 (by kernel_rfl) (by kernel_rfl) (J0 fun x y _ _=>xO x y),Ak Tryz.func190 (by kernel_rfl) (by kernel_rfl) (J0 fun x y _ _=>xV x y),Ti⟩
def WV (g:Nat→List Int→AV):ASpec:=fun args H fr path =>
 match args with
 | [.val false [.sl k off n _]]=>match AG H k with
  | some ⟨_,cs,_⟩=>match Ao .u64 cs with
   | some xs=>some (A5 [k] 1 fr 0 [] (g n (AA xs off n)) [] [(Nat.ble (off+n) xs.length,true),(Nat.ble n 1125899906842624,true)] path)
   | none=>none
  | _=>none
 | _=>none
theorem xW {f:FuncId} {fn:Func} {g:Nat→List Int→AV} (hfn:Tryz.prog.funcs[f]? = some fn) (hb:fn.body.isSome=true) (hname:(fn.name=="runtime.NumGoroutine")=false) (hk:∀ n l,Cu 1 0 [] (g n l) []=true)
  (h:∀ (off n m:Nat) (xs:List Int),(∀ d∈xs,0≤d∧d<18446744073709551616)→off+n≤xs.length→n≤1125899906842624→Ad Tryz.prog f [AI 0 off n m] (Az xs) 1 [] (g n (AA xs off n)) []):A6 Tryz.prog f (WV g):=by
 refine FN hfn hb hname fun args H fr path r hs=>?_
 unfold WV at hs
 split at hs
 case h_2=>cases hs
 rename_i k off n c
 split at hs
 case h_2=>cases hs
 rename_i ty cs o hk'
 split at hs
 case h_2=>cases hs
 rename_i xs hxs
 injection hs with hs
 refine ⟨[k],[AI 0 off n c],Az xs,1,0,[],_,_,_,path,hs.symm,fun β us w ha hg hc=>?_⟩
 obtain ⟨u1,us1,r1,ha,rfl⟩:=ha
 obtain ⟨g1,g2,g3⟩:=HU hg hk' hxs
 exact ⟨h off n c xs g1 (Nat.le_of_ble_eq_true hc.1) (Nat.le_of_ble_eq_true hc.2.1),hk _ _,⟨u1,_,r1,ha,rfl⟩,g2,g3⟩
theorem Nu {n:Nat} (h:n≤1125899906842624):AJ .i64 (n:Int)=true:=by
 simp only [AJ,Bool.and_eq_true,decide_eq_true_eq];omega
theorem AKd (off n m:Nat) (i:Int) (xs:List Int):AM Tryz.prog (AH S0 K0) Tryz.f239 100 1 [] (Af Tryz.f239 (Ls off n m i) (Az xs) 1 [true]) =
 some ([(AJ .i64 n,true),(decide (i<n),true),(decide (0≤i∧i<n),true),(decide (off+i.toNat*1<xs.length),true)],[],.val false [.v (.int .u64 (xs.getD (off+i.toNat*1) 0))],[]):=by kernel_rfl
theorem AKe (off n m:Nat) (i:Int) (xs:List Int):AM Tryz.prog (AH S0 K0) Tryz.f239 100 1 [] (Af Tryz.f239 (Ls off n m i) (Az xs) 1 [false]) =
 some ([(AJ .i64 n,true),(decide (i<n),false)],[],.val false [.n .u64 0],[]):=by kernel_rfl
theorem AKf {off n m:Nat} {xs:List Int} (hlen:off+n≤xs.length) (hn:AJ .i64 n=true) {i:Int} (hi:0≤i) :
  Ad Tryz.prog 239 (Ls off n m i) (Az xs) 1 [] (.val false [.v (.int .u64 (Al xs off n i))]) []:=by
 by_cases h:i<n
 ·refine Av (path:=[true]) Tryz.func239 (by kernel_rfl) (by kernel_rfl) fun β0 w0 hb=>?_
  rw [show Al xs off n i=xs.getD (off+i.toNat*1) 0 from by rw [Nat.mul_one];exact G8 (by omega)]
  exact As (AK G2 Aa) AB Tryz.func239 (AKd off n m i xs) ⟨hn,by simp [h],by simp [hi,h],by simp;omega,trivial⟩ (AL (by kernel_rfl)) hb (fun _ h=>by cases h)
 ·have e:Al xs off n i=0:=by
   unfold Al AA
   rw [List.getD_eq_getElem?_getD,List.getElem?_eq_none (by rw [List.length_take];omega)];rfl
  rw [e]
  refine BU (v:=.val false [.n .u64 0]) (Av (path:=[false]) Tryz.func239 (by kernel_rfl) (by kernel_rfl) fun β0 w0 hb=>?_) fun _ _=>dB
  exact As (AK G2 Aa) AB Tryz.func239 (AKe off n m i xs) ⟨hn,by simp [h],trivial⟩ (AL (by kernel_rfl)) hb (fun _ h=>by cases h)
theorem AKg:A6 Tryz.prog 239 atSpec:=by
 refine FN Tryz.func239 (by kernel_rfl) (by kernel_rfl) fun args H fr path r h=>?_
 unfold atSpec at h
 split at h
 case h_2=>cases h
 rename_i k off n m I
 split at h
 case h_2=>cases h
 rename_i c0 i ty cs o hI hk
 split at h
 case h_2=>cases h
 rename_i xs hxs
 injection h with h
 refine ⟨[k],Ls off n m i,Az xs,1,0,[],_,[],_,path,h.symm,fun β us w ha hg hc=>?_⟩
 obtain ⟨u1,us1,r1,⟨u2,us2,r2,ha,rfl⟩,rfl⟩:=ha
 obtain ⟨g1,g2,g3⟩:=HU hg hk hxs
 obtain ⟨rfl,p1⟩:=CH (β:=β) (u:=u2) (fun A hA=>by injection hA with hA;subst hA;exact r2) hI
 exact ⟨AKf (Nat.le_of_ble_eq_true hc.1) hc.2.1 (by simpa using hc.2.2.1),by kernel_rfl,⟨u1,_,r1,⟨_,us2,Aw ⟨rfl,rfl,p1⟩,ha,rfl⟩,rfl⟩,g2,g3⟩
theorem AKh (i j:Int):AR Tryz.prog (AH S0 K0) Tryz.f295 [iA i,iA j] [true] 100=some ([(decide (j<i),true)],iA i):=by kernel_rfl
theorem AKi (i j:Int):AR Tryz.prog (AH S0 K0) Tryz.f295 [iA i,iA j] [false] 100=some ([(decide (j<i),false)],iA j):=by kernel_rfl
theorem AKj (i j:Int):AU Tryz.prog 295 [iA i,iA j] (iA (DC i j)):=by
 by_cases h:j<i
 ·have e:DC i j=i:=by unfold DC;split<;>omega
  rw [e]
  exact AW (AK G2 Aa) AB Tryz.func295 (AKh i j) ⟨decide_eq_true h,trivial⟩ rfl
 ·have e:DC i j=j:=by unfold DC;split<;>omega
  rw [e]
  exact AW (AK G2 Aa) AB Tryz.func295 (AKi i j) ⟨decide_eq_false h,trivial⟩ rfl
noncomputable def SW:List (FuncId×ASpec):=(239,atSpec)::(295,EE (PZ [.i64,.i64] fun l=>match l with | [i,j]=>some ([],iA (DC i j)) | _=>none))::SV
theorem AKk:AX Tryz.prog SW:=⟨AKg,El Tryz.func295 (by kernel_rfl) (by kernel_rfl) (V9 fun is c v h hh hc=>by
 split at h
 ·injection h with h;injection h with h1 h2;subst h1;subst h2;exact AKj _ _
 ·cases h),MB⟩
noncomputable def AKl:List Item:=Be (AS Tryz.prog (AH SV K0) (some 0) 100 1 none (Af Tryz.f299 [AI 0 0 0 0] (Az []) 1 []))
noncomputable def Tk (off n m:Nat) (xs:List Int) (v:List Ch) (i:Int) (p:List Bool):ASt:=⟨AKl,⟨C8 Tryz.f299.ntmps [(0,AI 0 off n m),(2,.val false [.p 1 0]),(3,.val false [.p 2 0]),(4,iA i)],
 [(0,some (Ai [.seq .u64 xs])),(1,some ⟨30,GQ,false⟩),(2,some ⟨30,v,false⟩)],3,p⟩⟩
abbrev xX:Option (List Nat×List Nat×Nat):=some ([0,2,3,4],[0,1,2],3)
theorem AKm (off n m:Nat) (xs:List Int):AS Tryz.prog (AH SV K0) (some 0) 100 1 xX (Af Tryz.f299 [AI 0 off n m] (Az xs) 1 [])=some ([(AJ .i64 n,true)],[],Tk off n m xs GQ (wI ((n:Int)-1)) []):=by kernel_rfl
def fL (xs:List Int) (off:Nat) (i:Int):Int:=xs.getD (off+i.toNat*1) 0
theorem AKn (off n m:Nat) (xs:List Int) (v:Nat) (i:Int):AS Tryz.prog (AH SV K0) (some 0) 100 1 xX (Tk off n m xs [.num 6 v] i [true]) =
 some ([(decide (0≤i),true),(decide (0≤i∧i<n),true),(decide (off+i.toNat*1<xs.length),true),(decide (v<pN),true)],[],Tk off n m xs [.num 6 (((fL xs off i).toNat+18446744073709551616*v) % pN)] (wI (i-1)) []):=by kernel_rfl
theorem AKo (off n m:Nat) (xs:List Int) (v:Nat) (i:Int):AM Tryz.prog (AH SV K0) Tryz.f299 100 1 [] (Tk off n m xs [.num 6 v] i [false])=some ([(decide (0≤i),false)],[],AY v,[]):=by kernel_rfl
theorem AKp (β:Env) (l:List Value) (h:AN β GQ l):AN β [.num 6 0] l:=EO (k:=6) (x:=0) (by kernel_rfl) h
theorem fM {off n m:Nat} {xs:List Int} (hx:∀ d∈xs,0≤d∧d<18446744073709551616) (hl:off+n≤xs.length) (hn:n≤1125899906842624):Ad Tryz.prog 299 [AI 0 off n m] (Az xs) 1 [] (AY (AF (AA xs off n) % pN)) []:=by
 refine Av (path:=[]) Tryz.func299 (by kernel_rfl) (by kernel_rfl) fun β0 w0 hb=>?_
 refine Ae (AK MB Aa) AB (AKm off n m xs) ⟨Nu hn,trivial⟩ (AL (by kernel_rfl)) hb (fun _ h=>by cases h) fun _=>?_
 have hw:∀ d∈AA xs off n,0≤d∧d<18446744073709551616:=Cp hx
 have hlen:(AA xs off n).length=n:=by unfold AA;rw [List.length_take,List.length_drop];omega
 have loop:∀ c,c≤n→ASafe Tryz.prog 299 β0 w0 (Ay β0 w0 [] (AY (AF (AA xs off n) % pN)) []) Tryz.f299.ntmps [] (Tk off n m xs [.num 6 (AF (AA xs off n) / 2^(64*c) % pN)] ((c:Int)-1) []):=by
  intro c
  induction c with
  | zero =>
   intro _
   have h:=As (w0:=w0) (W:=[]) (n:=Tryz.f299.ntmps) (AK MB Aa) AB Tryz.func299 (AKo off n m xs (AF (AA xs off n) % pN) (((0:Nat):Int)-1)) ⟨rfl,trivial⟩ (AL (by kernel_rfl)) hb (fun _ h=>by cases h)
   rw [Nat.mul_zero,Nat.pow_zero,Nat.div_one]
   exact Ab [false] h
  | succ c ih =>
   intro hc
   have hi:((c+1:Nat):Int)-1=(c:Int):=by omega
   rw [hi]
   have hs:=PX hw c
   have hv:fL xs off c=(AA xs off n).getD c 0:=by
    unfold fL
    rw [Int.toNat_natCast,Nat.mul_one]
    exact (G8 (by omega)).symm
   refine Ab [true] (Ae (AK MB Aa) AB (AKn ..) ⟨by simp,by simp;omega,by simp;omega,decide_eq_true (Nat.mod_lt _ CQ),trivial⟩ (AL (by kernel_rfl)) hb (fun _ h=>by cases h) fun _=>?_)
   rw [hv,Am (z:=(c:Int)-1) (by omega)]
   have e:((AA xs off n).getD c 0).toNat+18446744073709551616*(AF (AA xs off n) / 2^(64*(c+1)) % pN)=_+_:=rfl
   rw [Nat.add_mod,Nat.mul_mod_mod,← Nat.add_mod,← hs]
   exact ih (by omega)
 have h0:=loop n (Nat.le_refl _)
 have hlt:=G7 (AA xs off n) hw
 rw [hlen] at hlt
 rw [Nat.div_eq_of_lt hlt,Nat.zero_mod] at h0
 rw [Am (by omega)]
 refine Th ?_ h0
 exact ⟨rfl,rfl,rfl,fun β l h=>h,rfl,rfl,rfl,fun β l h=>h,rfl,rfl,rfl,AKp,trivial⟩
noncomputable def AKq:List Item:=Be (AS Tryz.prog (AH SV K0) (some 0) 100 1 none (Af Tryz.f244 (J4 0 0 0 0) (Az []) 1 []))
noncomputable def Nv (off n m:Nat) (xs:List Int) (x:Nat) (v:List Ch) (i:Int) (p:List Bool):ASt:=⟨AKq,⟨C8 Tryz.f244.ntmps [(1,AI 0 off n m),(2,.val false [.p 1 0]),(4,.val false [.p 2 0]),(5,.val false [.p 3 0]),(6,iA i)],
 [(0,some (Ai [.seq .u64 xs])),(1,some ⟨30,[.num 6 x],false⟩),(2,some ⟨30,GQ,false⟩),(3,some ⟨30,v,false⟩)],4,p⟩⟩
abbrev fN:Option (List Nat×List Nat×Nat):=some ([1,2,4,5,6],[0,1,2,3],4)
def fO:List Ch:=[.n .u64 1,.n .u64 0,.n .u64 0,.n .u64 0,.n .u64 0,.n .u64 0]
theorem AKr (x off n m:Nat) (xs:List Int):AS Tryz.prog (AH SV K0) (some 0) 100 1 fN (Af Tryz.f244 (J4 x off n m) (Az xs) 1 [])=some ([(AJ .i64 n,true)],[],Nv off n m xs x fO (wI (wI (64*(n:Int))-1)) []):=by kernel_rfl
def IG (xs:List Int) (off:Nat) (i:Int):Int:=bits .and .u64 (Int.fdiv (B6 xs off i) (2^min (AO false .u64 (Int.tmod i 64)).toNat 64)) 1
def Pj (off n:Nat) (xs:List Int) (i:Int) (Bs:Bool):List (Bool×Bool):=[(decide (0≤i),true),(true,true),(decide (0≤wI (Int.tdiv i 64)∧wI (Int.tdiv i 64)<n),true),(decide (off+(wI (Int.tdiv i 64)).toNat*1<xs.length),true),(decide (0≤i∧(0:Int)<64),true),
 (decide (0≤AO false .u64 (Int.tmod i 64)∧0≤B6 xs off i),true),(decide (IG xs off i=1),Bs)]
theorem AKs (off n m:Nat) (xs:List Int) (x v:Nat) (i:Int):AS Tryz.prog (AH SV K0) (some 0) 100 1 fN (Nv off n m xs x [.num 6 v] i [true,true])=some (Pj off n xs i true,[],Nv off n m xs x [.num 6 (Ag (Ag v v) x)] (wI (i-1)) []):=by kernel_rfl
theorem AKt (off n m:Nat) (xs:List Int) (x v:Nat) (i:Int):AS Tryz.prog (AH SV K0) (some 0) 100 1 fN (Nv off n m xs x [.num 6 v] i [true,false])=some (Pj off n xs i false,[],Nv off n m xs x [.num 6 (Ag v v)] (wI (i-1)) []):=by kernel_rfl
theorem AKu (off n m:Nat) (xs:List Int) (x v:Nat) (i:Int):AM Tryz.prog (AH SV K0) Tryz.f244 100 1 [] (Nv off n m xs x [.num 6 v] i [false])=some ([(decide (0≤i),false)],[],AY v,[]):=by kernel_rfl
theorem Pk (xs:List Int) (off:Nat) (c:Nat):IG xs off c=IB (B6 xs off c) (Int.tmod c 64)∧AO false .u64 (Int.tmod c 64)=Int.tmod c 64:=by
 have hr:Int.tmod (c:Int) 64=((c % 64:Nat):Int):=by rw [Int.tmod_eq_emod_of_nonneg (by omega)];rfl
 have e:AO false .u64 (Int.tmod (c:Int) 64)=Int.tmod c 64:=by rw [hr,CO,IntKind.wrap_u64];omega
 exact ⟨by unfold IG;rw [e];rfl,e⟩
theorem xY (x a b:Nat):Ag (x^a % pN) (x^b % pN)=x^(a+b) % pN:=by unfold Ag;rw [← Nat.mul_mod,Nat.pow_add]
theorem AKv (x a:Nat):Ag (x^a % pN) x=x^(a+1) % pN:=by unfold Ag;rw [Nat.mod_mul_mod,Nat.pow_succ]
theorem xZ {off n m:Nat} {xs:List Int} (hall:∀ d∈xs,0≤d∧d<18446744073709551616) (hlen:off+n≤xs.length) (hn:n≤1125899906842624) (x:Nat) :
  Ad Tryz.prog 244 (J4 x off n m) (Az xs) 1 [] (AY (Dx x (AF (AA xs off n)))) []:=by
 refine Av (path:=[]) Tryz.func244 (by kernel_rfl) (by kernel_rfl) fun β0 w0 hb=>?_
 refine Ae (AK MB Aa) AB (AKr x off n m xs) ⟨Nu hn,trivial⟩ (AL (by kernel_rfl)) hb (fun _ h=>by cases h) fun _=>?_
 have hlt:∀ d∈AA xs off n,0≤d∧d<18446744073709551616:=Cp hall
 have hwl:(AA xs off n).length=n:=by unfold AA;rw [List.length_take,List.length_drop];omega
 generalize hE:AF (AA xs off n)=E at *
 have loop:∀ c,c≤64*n→ASafe Tryz.prog 244 β0 w0 (Ay β0 w0 [] (AY (Dx x E)) []) Tryz.f244.ntmps [] (Nv off n m xs x [.num 6 (x^(E / 2^c) % pN)] ((c:Int)-1) []):=by
  intro c
  induction c with
  | zero =>
   intro _
   have h:=As (w0:=w0) (W:=[]) (n:=Tryz.f244.ntmps) (AK MB Aa) AB Tryz.func244 (AKu off n m xs x (x^E % pN) (((0:Nat):Int)-1)) ⟨rfl,trivial⟩ (AL (by kernel_rfl)) hb (fun _ h=>by cases h)
   rw [Nat.pow_zero,Nat.div_one,IC]
   exact Ab [false] h
  | succ c ih =>
   intro hc
   have hi:((c+1:Nat):Int)-1=(c:Int):=by omega
   rw [hi]
   have hq:Int.tdiv (c:Int) 64=((c / 64:Nat):Int):=by rw [Int.tdiv_eq_ediv_of_nonneg (by omega)];rfl
   have hr:Int.tmod (c:Int) 64=((c % 64:Nat):Int):=by rw [Int.tmod_eq_emod_of_nonneg (by omega)];rfl
   have hw:wI (Int.tdiv (c:Int) 64)=((c / 64:Nat):Int):=by rw [hq];exact Am (by omega)
   have hj:c / 64<n:=by omega
   have hv:B6 xs off c=(AA xs off n).getD (c / 64) 0:=by
    unfold B6
    rw [hw,Int.toNat_natCast,Nat.mul_one];exact (G8 hj).symm
   have hvb:0≤B6 xs off c∧B6 xs off c<18446744073709551616:=by rw [hv];exact J5 hlt _
   obtain ⟨eb,em⟩:=Pk xs off c
   have hbit:IG xs off c=((E / 2^c % 2:Nat):Int):=by
    obtain ⟨V,hV⟩:=Int.eq_ofNat_of_zero_le hvb.1
    rw [eb,hr,← hE,← TL _ c hlt,← hv,hV,Int.toNat_natCast]
    exact TJ V _ (by omega) (by omega)
   have hconds:∀ Bs,decide (IG xs off c=1)=Bs→AQ (Pj off n xs c Bs):=by
    intro Bs hbt
    refine ⟨by simp,rfl,?_,?_,by simp,?_,hbt,trivial⟩
    ·rw [hw];simp;omega
    ·rw [hw];simp;omega
    ·rw [em,hr];simp only [decide_eq_true_eq];exact ⟨by omega,hvb.1⟩
   have hdiv:E / 2^c=2*(E / 2^(c+1))+E / 2^c % 2:=by
    rw [Nat.pow_succ,← Nat.div_div_eq_div_mul];omega
   have ihc:=ih (by omega)
   rcases Nat.mod_two_eq_zero_or_one (E / 2^c) with h0 | h1
   ·refine Ab [true,false] (Ae (AK MB Aa) AB (AKt ..) (hconds false (by rw [hbit,h0];rfl)) (AL (by kernel_rfl)) hb (fun _ h=>by cases h) fun _=>?_)
    rw [Am (z:=(c:Int)-1) (by omega),xY,show E / 2^(c+1)+E / 2^(c+1)=E / 2^c by omega]
    exact ihc
   ·refine Ab [true,true] (Ae (AK MB Aa) AB (AKs ..) (hconds true (by rw [hbit,h1];rfl)) (AL (by kernel_rfl)) hb (fun _ h=>by cases h) fun _=>?_)
    rw [Am (z:=(c:Int)-1) (by omega),xY,AKv,show E / 2^(c+1)+E / 2^(c+1)+1=E / 2^c by omega]
    exact ihc
 have h0:=loop (64*n) (Nat.le_refl _)
 have hl:=G7 (AA xs off n) hlt
 rw [hwl,hE] at hl
 rw [Nat.div_eq_of_lt hl,Nat.pow_zero] at h0
 have e3:wI (wI (64*(n:Int))-1)=((64*n:Nat):Int)-1:=by
  rw [Am (z:=64*(n:Int)) (by omega),Am (by omega)];omega
 rw [e3]
 refine Th ?_ h0
 exact ⟨rfl,rfl,rfl,fun β l h=>h,rfl,rfl,rfl,fun β l h=>h,rfl,rfl,rfl,fun β l h=>h,rfl,rfl,rfl,fun β l h=>EO (k:=6) (x:=1) (by kernel_rfl) h,trivial⟩
theorem x8:A6 Tryz.prog 244 powSpec:=by
 refine FN Tryz.func244 (by kernel_rfl) (by kernel_rfl) fun args H fr path r h=>?_
 unfold powSpec at h
 split at h
 case h_2=>cases h
 rename_i a k off n m
 split at h
 case h_2=>cases h
 rename_i x ty cs o hx hk
 split at h
 case h_2=>cases h
 rename_i xs hxs
 injection h with h
 refine ⟨[k],J4 x off n m,Az xs,1,0,[],AY (Dx x (AF ((xs.drop off).take n))),[],_,path,h.symm,fun β us w ha hg hc=>?_⟩
 obtain ⟨u1,us1,r1,⟨u2,us2,r2,ha,rfl⟩,rfl⟩:=ha
 obtain ⟨g1,g2,g3⟩:=HU hg hk hxs
 refine ⟨xZ g1 (Nat.le_of_ble_eq_true hc.1) (Nat.le_of_ble_eq_true hc.2.1) x,by kernel_rfl,⟨u1,_,?_,⟨u2,us2,?_,ha,rfl⟩,rfl⟩,g2,g3⟩
 ·obtain ⟨l,q,rfl⟩:=r1;exact ⟨l,EO hx q,rfl⟩
 ·exact r2
noncomputable def SX:List (FuncId×ASpec):=(299,WV fun _ l=>AY (AF l % pN))::(244,powSpec)::SW
theorem HZ:AX Tryz.prog SX:=⟨xW Tryz.func299 (by kernel_rfl) (by kernel_rfl) (fun _ _=>rfl) (fun _ _ _ _ hx hl hn=>fM hx hl hn),x8,AKk⟩
noncomputable def AKw:List Item:=Be (AS Tryz.prog (AH SX K0) (some 0) 100 2 none (Af Tryz.f240 (EC 0 0 0 0 0 0) (Co [] []) 2 []))
abbrev x9:Option (List Nat×List Nat×Nat):=some ([0,1,5],[0,1],2)
section
variable (off n m off' n' m':Nat) (xs ys:List Int)
noncomputable def Nw (i:Int) (p:List Bool):ASt:=⟨AKw,⟨C8 Tryz.f240.ntmps [(0,AI 0 off n m),(1,AI 1 off' n' m'),(5,iA i)],Co xs ys,2,p⟩⟩
theorem AKx:AS Tryz.prog (AH SX K0) (some 0) 100 2 x9 (Af Tryz.f240 (EC off n m off' n' m') (Co xs ys) 2 []) =
 some ([(AJ .i64 n,true),(AJ .i64 n',true)],[],Nw off n m off' n' m' xs ys (wI (DC n n'-1)) []):=by kernel_rfl
def Pl (i:Int) (r:List (Bool×Bool)):List (Bool×Bool):=(Nat.ble (off+n) xs.length,true)::(AJ .i64 n,true)::(decide (0≤i),true)::(Nat.ble (off'+n') ys.length,true)::(AJ .i64 n',true)::(decide (0≤i),true)::r
theorem AKy (i:Int):AS Tryz.prog (AH SX K0) (some 0) 100 2 x9 (Nw off n m off' n' m' xs ys i [true,false,false]) =
 some ((decide (0≤i),true)::Pl off n off' n' xs ys i ((decide (Al xs off n i<Al ys off' n' i),false)::Pl off n off' n' xs ys i [(decide (Al ys off' n' i<Al xs off n i),false)]),[],Nw off n m off' n' m' xs ys (wI (i-1)) []):=by kernel_rfl
theorem AKz (i:Int):AM Tryz.prog (AH SX K0) Tryz.f240 100 2 [] (Nw off n m off' n' m' xs ys i [true,true]) =
 some ((decide (0≤i),true)::Pl off n off' n' xs ys i [(decide (Al xs off n i<Al ys off' n' i),true)],[],.val false [.n .i64 (-1)],[]):=by kernel_rfl
theorem AK0 (i:Int):AM Tryz.prog (AH SX K0) Tryz.f240 100 2 [] (Nw off n m off' n' m' xs ys i [true,false,true]) =
 some ((decide (0≤i),true)::Pl off n off' n' xs ys i ((decide (Al xs off n i<Al ys off' n' i),false)::Pl off n off' n' xs ys i [(decide (Al ys off' n' i<Al xs off n i),true)]),[],.val false [.n .i64 1],[]):=by kernel_rfl
theorem AK1 (i:Int):AM Tryz.prog (AH SX K0) Tryz.f240 100 2 [] (Nw off n m off' n' m' xs ys i [false]) =
 some ([(decide (0≤i),false)],[],.val false [.n .i64 0],[]):=by kernel_rfl
end
theorem yA {off n m off' n' m':Nat} {xs ys:List Int} (hx:∀ d∈xs,0≤d∧d<18446744073709551616) (hy:∀ d∈ys,0≤d∧d<18446744073709551616) (hl:off+n≤xs.length) (hl':off'+n'≤ys.length)
  (hn:AJ .i64 n=true) (hn':AJ .i64 n'=true):Ad Tryz.prog 240 (EC off n m off' n' m') (Co xs ys) 2 [] (.val false [.v (.int .i64 (C6 (AF (AA xs off n)) (AF (AA ys off' n'))))]) []:=by
 refine Av (path:=[]) Tryz.func240 (by kernel_rfl) (by kernel_rfl) fun β0 w0 hb=>?_
 refine Ae (AK HZ Aa) AB (AKx off n m off' n' m' xs ys) ⟨hn,hn',trivial⟩ (AL (by kernel_rfl)) hb (fun _ h=>by cases h) fun _=>?_
 have bn:n≤9223372036854775807:=by simp only [AJ,Bool.and_eq_true,decide_eq_true_eq] at hn;omega
 have bn':n'≤9223372036854775807:=by simp only [AJ,Bool.and_eq_true,decide_eq_true_eq] at hn';omega
 have e:wI (DC n n'-1)=((max n n':Nat):Int)-1:=by
  have:DC n n'=((max n n':Nat):Int):=by unfold DC;split<;>omega
  rw [this,Am (by omega)]
 rw [e]
 have loop:∀ c,c≤max n n'→AF (AA xs off n) / 2^(64*c)=AF (AA ys off' n') / 2^(64*c) →
   ASafe Tryz.prog 240 β0 w0 (Ay β0 w0 [] (.val false [.v (.int .i64 (C6 (AF (AA xs off n)) (AF (AA ys off' n'))))]) []) Tryz.f240.ntmps [] (Nw off n m off' n' m' xs ys ((c:Int)-1) []):=by
  intro c
  induction c with
  | zero =>
   intro _ heq
   rw [Nat.mul_zero,Nat.pow_zero,Nat.div_one,Nat.div_one] at heq
   have h:=As (w0:=w0) (W:=[]) (n:=Tryz.f240.ntmps) (AK HZ Aa) AB Tryz.func240 (AK1 off n m off' n' m' xs ys (((0:Nat):Int)-1)) ⟨rfl,trivial⟩ (AL (by kernel_rfl)) hb (fun _ h=>by cases h)
   exact Ab [false] (Lx h fun _ _=>Nk (by unfold C6;rw [heq];simp))
  | succ c ih =>
   intro hc heq
   have hi:((c+1:Nat):Int)-1=(c:Int):=by omega
   rw [hi]
   have sx:=PX (Cp (off:=off) (n:=n) hx) c
   have sy:=PX (Cp (off:=off') (n:=n') hy) c
   have bx:=J5 (Cp (off:=off) (n:=n) hx) c
   have byy:=J5 (Cp (off:=off') (n:=n') hy) c
   have ex:Al xs off n c=(AA xs off n).getD c 0:=by unfold Al;rw [Int.toNat_natCast]
   have ey:Al ys off' n' c=(AA ys off' n').getD c 0:=by unfold Al;rw [Int.toNat_natCast]
   have hC:∀ r,AQ r→AQ (Pl off n off' n' xs ys c r):=fun r hr=>⟨Nat.ble_eq_true_of_le hl,hn,by simp,Nat.ble_eq_true_of_le hl',hn',by simp,hr⟩
   by_cases hlt:Al xs off n c<Al ys off' n' c
   ·have h:=As (w0:=w0) (W:=[]) (n:=Tryz.f240.ntmps) (AK HZ Aa) AB Tryz.func240 (AKz off n m off' n' m' xs ys c) ⟨by simp,hC _ ⟨decide_eq_true hlt,trivial⟩⟩ (AL (by kernel_rfl)) hb (fun _ h=>by cases h)
    refine Ab [true,true] (Lx h fun _ _=>Nk ?_)
    have:AF (AA xs off n)<AF (AA ys off' n'):=PW (Q:=2^(64*c)) (by rw [sx,sy,heq];omega)
    unfold C6;rw [if_pos this]
   ·by_cases hgt:Al ys off' n' c<Al xs off n c
    ·have h:=As (w0:=w0) (W:=[]) (n:=Tryz.f240.ntmps) (AK HZ Aa) AB Tryz.func240 (AK0 off n m off' n' m' xs ys c) ⟨by simp,hC _ ⟨decide_eq_false hlt,hC _ ⟨decide_eq_true hgt,trivial⟩⟩⟩ (AL (by kernel_rfl)) hb (fun _ h=>by cases h)
     refine Ab [true,false,true] (Lx h fun _ _=>Nk ?_)
     have:AF (AA ys off' n')<AF (AA xs off n):=PW (Q:=2^(64*c)) (by rw [sx,sy,heq];omega)
     unfold C6;rw [if_neg (by omega),if_pos this]
    ·refine Ab [true,false,false] (Ae (AK HZ Aa) AB (AKy ..) ⟨by simp,hC _ ⟨decide_eq_false hlt,hC _ ⟨decide_eq_false hgt,trivial⟩⟩⟩ (AL (by kernel_rfl)) hb (fun _ h=>by cases h) fun _=>?_)
     rw [Am (z:=(c:Int)-1) (by omega)]
     exact ih (by omega) (by rw [sx,sy,heq];omega)
 refine loop _ (Nat.le_refl _) ?_
 have big:∀ (zs:List Int) (of k:Nat),(∀ d∈zs,0≤d∧d<18446744073709551616)→k≤max n n'→AF (AA zs of k) / 2^(64*max n n')=0:=by
  intro zs of k hz hk
  refine Nat.div_eq_of_lt (Nat.lt_of_lt_of_le (G7 _ (Cp hz)) (Nat.pow_le_pow_right (by decide) ?_))
  have:(AA zs of k).length≤k:=by unfold AA;rw [List.length_take];omega
  omega
 rw [big xs off n hx (by omega),big ys off' n' hy (by omega)]
theorem AK2:A6 Tryz.prog 240 cmpSpec:=by
 refine FN Tryz.func240 (by kernel_rfl) (by kernel_rfl) fun args H fr path r h=>?_
 unfold cmpSpec at h
 split at h
 case h_2=>cases h
 rename_i k off n m t off' n' m'
 split at h
 case h_2=>cases h
 rename_i ty cs o ty' ds o' hk ht
 split at h
 case h_2=>cases h
 rename_i xs ys hxs hys
 injection h with h
 refine ⟨[k,t],EC off n m off' n' m',Co xs ys,2,0,[],_,[],_,path,h.symm,fun β us w ha hg hc=>?_⟩
 obtain ⟨u1,us1,r1,⟨u2,us2,r2,ha,rfl⟩,rfl⟩:=ha
 obtain ⟨g1,g1',g2,g3⟩:=V2 hg hk ht hxs hys
 exact ⟨yA g1 g1' (Nat.le_of_ble_eq_true hc.1) (Nat.le_of_ble_eq_true hc.2.1) hc.2.2.1 hc.2.2.2.1,by kernel_rfl,⟨u1,_,r1,⟨u2,_,r2,ha,rfl⟩,rfl⟩,g2,g3⟩
noncomputable def WW:List Item:=Be (AS Tryz.prog (AH SX K0) (some 0) 100 1 none (Af Tryz.f182 [AI 0 0 0 0,iA 0] (Az []) 1 []))
noncomputable def WX (off m c:Nat) (n:Int) (s:AV) (i:AV):List AV:=C8 Tryz.f182.ntmps [(0,AI 0 off m c),(1,iA n),(5,s),(6,i)]
def yC (xs:List Int) (ys:List Int):Heap:=[(0,some (Ai [.seq .u64 xs])),(1,some ⟨5,[.seq .u8 ys],true⟩)]
noncomputable def WY (off m c:Nat) (n:Int) (xs:List Int) (L:Nat) (ys:List Int) (i:Int) (p:List Bool):ASt:=⟨WW,⟨WX off m c n (.val false [.sx 1 L 1]) (iA i),yC xs ys,2,p⟩⟩
theorem AK3 (off m c:Nat) (n:Int) (xs:List Int):AS Tryz.prog (AH SX K0) (some 0) 100 1 (some ([0,1,5,6],[0],1)) (Af Tryz.f182 [AI 0 off m c,iA n] (Az xs) 1 []) =
 some ([],[],⟨WW,⟨WX off m c n (.val false [.v (.slice none 0 0)]) (.val false [.n .i64 0]),Az xs,1,[]⟩⟩):=by kernel_rfl
theorem AK4 (off m c:Nat) (n:Int) (xs:List Int):(⟨WW,⟨(Ju 1 1 [5] 0 (WX off m c n (.val false [.v (.slice none 0 0)]) (.val false [.n .i64 0]))).map EF,Az xs++[(1,some ⟨5,[.seq .u8 []],true⟩)],1+1,[]⟩⟩:ASt)=WY off m c n xs 0 [] 0 []:=by kernel_rfl
def fP (xs:List Int) (off m:Nat) (k:Int):Int:=AO false .u8 (Int.fdiv (Al xs off m (wI (Int.tdiv k 8))) (2^min (AO false .u64 (wI (8*Int.tmod k 8))).toNat 64))
def yD (off m:Nat) (n:Int) (xs:List Int) (L:Nat) (ys:List Int) (i:Int):List (Bool×Bool):=[(decide (i<n),true),(true,true),(Nat.ble (off+m) xs.length,true),(AJ .i64 m,true),(decide (0≤wI (Int.tdiv (Dy n i) 8)),true),
 (decide (0≤Dy n i∧(0:Int)<8),true),(decide (0≤AO false .u64 (wI (8*Int.tmod (Dy n i) 8))∧0≤Al xs off m (wI (Int.tdiv (Dy n i) 8))),true),(Nat.ble L ys.length,true),(decide (1≤1∧2*(L+1)*1≤281474976710656),true)]
theorem AK5 (off m c:Nat) (n:Int) (xs:List Int) (L:Nat) (ys:List Int) (i:Int):AS Tryz.prog (AH SX K0) (some 0) 100 1 (some ([0,1,5,6],[0,3],4)) (WY off m c n xs L ys i [true]) =
 some (yD off m n xs L ys i,[],⟨WW,⟨E7 (Bt 1 [3]) (WX off m c n (.val false [.sx 1 (L+1) 1]) (iA (wI (i+1)))),EL (Bt 1 [3]) (yC xs (ys.take L++[fP xs off m (Dy n i)])),4,[]⟩⟩):=by kernel_rfl
def WZ (ys:List Int):Heap:=[(1,some ⟨5,[.seq .u8 ys],true⟩)]
theorem AK6 (off m c:Nat) (n:Int) (xs:List Int) (L:Nat) (ys:List Int) (i:Int):AM Tryz.prog (AH SX K0) Tryz.f182 100 1 [1] (WY off m c n xs L ys i [false]) =
 some ([(decide (i<n),false)],[],.val false [.sx 1 L 1],WZ ys):=by kernel_rfl
theorem AK7 {xs:List Int} {off m:Nat} (hx:∀ d∈xs,0≤d∧d<18446744073709551616) {k:Nat} (hk:k≤35184372088832):fP xs off m (k:Int)=Eo (AF (AA xs off m)) k∧0≤Al xs off m (wI (Int.tdiv (k:Int) 8))∧0≤AO false .u64 (wI (8*Int.tmod (k:Int) 8)):=by
 have e2:wI (8*Int.tmod (k:Int) 8)=((8*(k % 8):Nat):Int):=by rw [TV,Am (by omega)];omega
 have e3:AO false .u64 (wI (8*Int.tmod (k:Int) 8))=wI (8*Int.tmod (k:Int) 8):=by rw [e2,CO,IntKind.wrap_u64];omega
 obtain ⟨h1,h2⟩:=v9 (off:=off) (m:=m) hx hk
 refine ⟨by unfold fP;rw [e3];exact h1,h2,by rw [e3,e2];omega⟩
theorem AK8 {off m c:Nat} {xs:List Int} (hx:∀ d∈xs,0≤d∧d<18446744073709551616) (hl:off+m≤xs.length) (hm:AJ .i64 m=true) {n:Nat} (hn:n≤35184372088832) :
  Ad Tryz.prog 182 [AI 0 off m c,iA n] (Az xs) 1 [] (.val false [.sx 1 n 1]) (WZ (BK (AF (AA xs off m)) n)):=by
 refine Av (path:=[]) Tryz.func182 (by kernel_rfl) (by kernel_rfl) fun β0 w0 hb=>?_
 refine Ae (AK HZ Aa) AB (AK3 off m c n xs) trivial (AL (by kernel_rfl)) hb (fun _ h=>by cases h) fun _=>?_
 refine PO (ts:=[5]) (sz:=1) (ty:=5) (kd:=.u8) rfl (hb 1 (Nat.le_refl _)) (E_ ?_)
 rw [AK4]
 have loop:∀ r i,i+r=n→ASafe Tryz.prog 182 β0 w0 (Ay β0 w0 [] (.val false [.sx 1 n 1]) (WZ (BK (AF (AA xs off m)) n))) Tryz.f182.ntmps [] (WY off m c n xs i ((List.range i).map fun i=>Eo (AF (AA xs off m)) (n-1-i)) i []):=by
  intro r
  induction r with
  | zero =>
   intro i hi
   obtain rfl:i=n:=by omega
   exact Ab [false] (As (AK HZ Aa) AB Tryz.func182 (AK6 ..) ⟨by simp,trivial⟩ (AL (by kernel_rfl)) hb (fun _ h=>by cases h))
  | succ r ih =>
   intro i hi
   have ek:Dy (n:Int) i=((n-1-i:Nat):Int):=WJ hn (by omega)
   have ev:=AK7 (off:=off) (m:=m) hx (k:=n-1-i) (by omega)
   have ed:wI (Int.tdiv ((n-1-i:Nat):Int) 8)=(((n-1-i) / 8:Nat):Int):=by rw [Pd];exact Am (by omega)
   refine Ab [true] (Ae (AK HZ Aa) AB (AK5 ..) ?_ (AL (by kernel_rfl)) hb (fun _ h=>by cases h) fun _=>?_)
   ·rw [yD,ek]
    refine ⟨by simp;omega,rfl,Nat.ble_eq_true_of_le hl,hm,by rw [ed];simp only [decide_eq_true_eq];omega,by simp,by simp only [decide_eq_true_eq];exact ⟨ev.2.2,ev.2.1⟩,by simp,by simp only [decide_eq_true_eq];omega,trivial⟩
   ·refine FO (m:=2) (by kernel_rfl) hb ?_
    rw [ek,ev.1,Am (z:=(i:Int)+1) (by omega),List.take_of_length_le (by simp)]
    have:=ih (i+1) (by omega)
    rw [List.range_succ,List.map_append] at this
    exact this
 exact loop n 0 (by omega)
def roctSpec:ASpec:=fun args H fr path =>
 match args with
 | [.val false [.sl k off m _],I]=>match BJ (some I),AG H k with
  | some (_,.i64,i),some ⟨_,cs,_⟩=>match Ao .u64 cs with
   | some xs=>some (A5 [k] 1 fr 1 [] (.val false [.sx 1 i.toNat 1]) (WZ (BK (AF (AA xs off m)) i.toNat)) [(Nat.ble (off+m) xs.length,true),(AJ .i64 m,true),(decide (0≤i∧i≤35184372088832),true)] path)
   | none=>none
  | _,_=>none
 | _=>none
theorem AK9:A6 Tryz.prog 182 roctSpec:=by
 refine FN Tryz.func182 (by kernel_rfl) (by kernel_rfl) fun args H fr path r h=>?_
 unfold roctSpec at h
 split at h
 case h_2=>cases h
 rename_i k off m c I
 split at h
 case h_2=>cases h
 rename_i c0 i ty cs o hI hk
 split at h
 case h_2=>cases h
 rename_i xs hxs
 injection h with h
 refine ⟨[k],[AI 0 off m c,iA i],Az xs,1,1,[],_,_,_,path,h.symm,fun β us w ha hg hc=>?_⟩
 obtain ⟨u1,us1,r1,⟨u2,us2,r2,ha,rfl⟩,rfl⟩:=ha
 obtain ⟨g1,g2,g3⟩:=HU hg hk hxs
 obtain ⟨rfl,p1⟩:=CH (β:=β) (u:=u2) (fun A hA=>by injection hA with hA;subst hA;exact r2) hI
 have hi:=hc.2.2.1
 simp only [decide_eq_true_eq] at hi
 obtain ⟨n,rfl⟩:=Int.eq_ofNat_of_zero_le hi.1
 exact ⟨AK8 g1 (Nat.le_of_ble_eq_true hc.1) hc.2.1 (by omega),by kernel_rfl,⟨u1,_,r1,⟨_,us2,Aw ⟨rfl,rfl,p1⟩,ha,rfl⟩,rfl⟩,g2,g3⟩
noncomputable def AK_:List Item:=Be (AS Tryz.prog (AH SX K0) (some 0) 100 1 none (Af Tryz.f180 [AI 0 0 0 0] (Au []) 1 []))
noncomputable def Tl (off n c:Nat) (xs:List Int) (L:Nat) (ys:List Int) (i:AV) (p:List Bool):ASt:=⟨AK_,⟨C8 Tryz.f180.ntmps [(0,AI 0 off n c),(3,AI 1 0 L L),(4,i)],[(0,some (Ai [.seq .u8 xs])),(1,some ⟨24,[.seq .u64 ys],false⟩)],2,p⟩⟩
abbrev yE:Option (List Nat×List Nat×Nat):=some ([0,3,4],[0,1],2)
theorem AK' (off n c:Nat) (xs:List Int):AS Tryz.prog (AH SX K0) (some 0) 100 1 yE (Af Tryz.f180 [AI 0 off n c] (Au xs) 1 []) =
 some ([(AJ .i64 n,true),(true,true),(L_ (wI (Int.tdiv (wI ((n:Int)+7)) 8)) 8,true)],[],Tl off n c xs (Pe n) (List.replicate (Pe n) 0) (.val false [.n .i64 0]) []):=by kernel_rfl
def yF (xs:List Int) (off:Nat) (n:Int) (i:Int):Int:=IntKind.u64.wrap (AO false .u64 (xs.getD (off+i.toNat*1) 0)*2^min (AO false .u64 (wI (8*Int.tmod (Dy n i) 8))).toNat 64)
def fQ (xs:List Int) (off:Nat) (n:Int) (ys:List Int) (i:Int):Int:=IntKind.u64.wrap (ys.getD (0+(Dl n i).toNat*1) 0+yF xs off n i)
def yG (off n:Nat) (xs:List Int) (L:Nat) (ys:List Int) (i:Int):List (Bool×Bool):=[(AJ .i64 n,true),(decide (i<n),true),(AJ .i64 n,true),(true,true),(true,true),(decide (0≤Dl n i∧Dl n i<L),true),(decide (0+(Dl n i).toNat*1<ys.length),true),
 (decide (0≤i∧i<n),true),(decide (off+i.toNat*1<xs.length),true),(decide (0≤Dy n i∧(0:Int)<8),true),(decide (0≤AO false .u64 (wI (8*Int.tmod (Dy n i) 8))),true),(decide (0≤Dl n i∧Dl n i<L),true),(decide (0+(Dl n i).toNat*1<ys.length),true)]
theorem ALA (off n c:Nat) (xs:List Int) (L:Nat) (ys:List Int) (i:Int):AS Tryz.prog (AH SX K0) (some 0) 100 1 yE (Tl off n c xs L ys (iA i) [true]) =
 some (yG off n xs L ys i,[],Tl off n c xs L (ys.set (0+(Dl n i).toNat*1) (fQ xs off n ys i)) (iA (wI (i+1))) []):=by kernel_rfl
theorem ALB (off n c:Nat) (xs:List Int) (L:Nat) (ys:List Int) (i:Int):AM Tryz.prog (AH SX K0) Tryz.f180 100 1 [1] (Tl off n c xs L ys (iA i) [false]) =
 some ([(AJ .i64 n,true),(decide (i<n),false)],[],AI 1 0 L L,WN ys):=by kernel_rfl
theorem ALC {off n c:Nat} {xs:List Int} (hx:∀ d∈xs,0≤d∧d<256) (hl:off+n≤xs.length) (hn:n≤35184372088832) :
  Ad Tryz.prog 180 [AI 0 off n c] (Au xs) 1 [] (AI 1 0 ((n+7) / 8) ((n+7) / 8)) (eM (AT (AA xs off n)) ((n+7) / 8)):=by
 have hlen:(AA xs off n).length=n:=by unfold AA;rw [List.length_take,List.length_drop];omega
 have hfin:AT (AA xs off n)<2^(64*((n+7) / 8)):=by
  have h1:=WM (AA xs off n) (Cp hx)
  rw [hlen,KA] at h1
  exact Nat.lt_of_lt_of_le h1 (Nat.pow_le_pow_right (by decide) (by omega))
 refine Av (path:=[]) Tryz.func180 (by kernel_rfl) (by kernel_rfl) fun β0 w0 hb=>?_
 obtain ⟨l1,l2⟩:=wO hn
 have hw:AJ .i64 (n:Int)=true:=by simp only [AJ,Bool.and_eq_true,decide_eq_true_eq];omega
 refine Ae (AK HZ Aa) AB (AK' off n c xs) ⟨hw,rfl,?_,trivial⟩ (AL (by kernel_rfl)) hb (fun _ h=>by cases h) fun _=>?_
 ·rw [l2];unfold L_;simp only [decide_eq_true_eq];omega
 ·rw [l1]
  refine E_ ?_
  have hbd:∀ d∈AA xs off n,0≤d∧d<256:=Cp hx
  have loop:∀ r i,i+r=n→ASafe Tryz.prog 180 β0 w0 (Ay β0 w0 [] (AI 1 0 ((n+7) / 8) ((n+7) / 8)) (WN (DE (AT (AA xs off n)) ((n+7) / 8)))) Tryz.f180.ntmps []
    (Tl off n c xs ((n+7) / 8) (DE (AT ((AA xs off n).take i)*256^(n-i)) ((n+7) / 8)) (iA i) []):=by
   intro r
   induction r with
   | zero =>
    intro i hi
    obtain rfl:i=n:=by omega
    rw [Nat.sub_self,Nat.pow_zero,Nat.mul_one,List.take_of_length_le (by omega)]
    exact Ab [false] (As (AK HZ Aa) AB Tryz.func180 (ALB ..) ⟨hw,by simp,trivial⟩ (AL (by kernel_rfl)) hb (fun _ h=>by cases h))
   | succ r ih =>
    intro i hi
    have ek:Dy (n:Int) i=((n-1-i:Nat):Int):=WJ hn (by omega)
    have ej:Dl (n:Int) i=(((n-1-i) / 8:Nat):Int):=by unfold Dl;rw [ek,Pd];exact Am (by omega)
    have em:wI (8*Int.tmod ((n-1-i:Nat):Int) 8)=((8*((n-1-i) % 8):Nat):Int):=by rw [TV,Am (by omega)];omega
    have em':AO false .u64 (wI (8*Int.tmod ((n-1-i:Nat):Int) 8))=((8*((n-1-i) % 8):Nat):Int):=by rw [em,CO,IntKind.wrap_u64];omega
    have hjL:(n-1-i) / 8<(n+7) / 8:=by omega
    have hlenw:∀ N,(DE N ((n+7) / 8)).length=(n+7) / 8:=fun N=>by simp [DE]
    have hwx:xs.getD (off+i) 0=(AA xs off n).getD i 0:=(G8 (by omega)).symm
    have hxb:0≤(AA xs off n).getD i 0∧(AA xs off n).getD i 0<256:=by
     rw [List.getD_eq_getElem?_getD]
     cases h':(AA xs off n)[i]? with
     | none=>simp
     | some d=>exact hbd d (List.mem_of_getElem? h')
    refine Ab [true] (Ae (AK HZ Aa) AB (ALA ..) ?_ (AL (by kernel_rfl)) hb (fun _ h=>by cases h) fun _=>?_)
    ·unfold yG
     rw [ej,ek,em',hlenw]
     refine ⟨hw,by simp;omega,hw,rfl,rfl,by simp only [decide_eq_true_eq];omega,by simp only [decide_eq_true_eq];omega,by simp only [decide_eq_true_eq];omega,by simp;omega,by simp only [decide_eq_true_eq];omega,by simp only [decide_eq_true_eq];omega,by simp only [decide_eq_true_eq];omega,by simp only [decide_eq_true_eq];omega,trivial⟩
    ·have hset:((DE (AT ((AA xs off n).take i)*256^(n-i)) ((n+7) / 8)).set (0+(Dl n i).toNat*1) (fQ xs off n (DE (AT ((AA xs off n).take i)*256^(n-i)) ((n+7) / 8)) i)) =
       DE (AT ((AA xs off n).take (i+1))*256^(n-(i+1))) ((n+7) / 8):=by
      have ei:0+(((n-1-i) / 8:Nat):Int).toNat*1=(n-1-i) / 8:=by omega
      have eo:off+(i:Int).toNat*1=off+i:=by omega
      unfold fQ yF
      rw [ej,ek,em',ei,eo,hwx,wK hjL]
      obtain ⟨X,hX⟩:=Int.eq_ofNat_of_zero_le hxb.1
      have hX2:X<256:=by omega
      rw [hX,CO,IntKind.wrap_u64,IntKind.wrap_u64,IntKind.wrap_u64,Int.toNat_natCast,Nat.min_eq_left (by omega)]
      have en:n-i=(n-1-i)+1:=by omega
      have en':n-(i+1)=n-1-i:=by omega
      have et:AT ((AA xs off n).take (i+1))*256^(n-(i+1))=AT ((AA xs off n).take i)*256^(n-1-i+1)+X*256^(n-1-i):=by
       rw [wB (by omega),hX,Int.toNat_natCast,en',Nat.add_mul,Nat.mul_assoc,← Nat.pow_succ']
      rw [et,en]
      obtain ⟨hh,B,w1,w2,w3,w4,w5⟩:=wD (M:=AT ((AA xs off n).take i)) (k:=n-1-i) hX2
      have hle:8*((n-1-i) % 8)+8≤64:=by omega
      have hs64:hh*2^(8*((n-1-i) % 8)+8)+B<18446744073709551616:=by
       have:=Nat.mod_lt ((AT ((AA xs off n).take i)*256^(n-1-i+1)+X*256^(n-1-i)) / 2^(64*((n-1-i) / 8))) (show 0<2^64 by decide)
       rw [w5] at this
       exact this
      refine wJ ?_ fun j hj=>?_
      ·have hB64:X*2^(8*((n-1-i) % 8))<2^64:=by
        rw [w2];exact Nat.lt_of_lt_of_le w3 (Nat.pow_le_pow_right (by decide) hle)
       have ex:((X:Int) % 18446744073709551616*2^(8*((n-1-i) % 8))) % 18446744073709551616=(B:Int):=by
        have a1:((X:Int) % 18446744073709551616)=(X:Int):=by omega
        have a2:((X:Int)*2^(8*((n-1-i) % 8)))=((X*2^(8*((n-1-i) % 8)):Nat):Int):=by rw [Int.natCast_mul,Int.natCast_pow];rfl
        rw [a1,a2,w2]
        rw [w2] at hB64
        have:B<18446744073709551616:=hB64
        omega
       rw [ex]
       unfold AE
       rw [w5,w1]
       omega
      ·unfold AE
       rw [wC hX2 hj]
     rw [hset,Am (z:=(i:Int)+1) (by omega)]
     exact ih (i+1) (by omega)
  have:=loop n 0 (by omega)
  rw [List.take_zero,show AT []=0 from rfl,Nat.zero_mul,wL] at this
  exact wQ this fun e w h=>TC (wP hfin) h
theorem ALD:A6 Tryz.prog 180 wrdSpec:=by
 refine FN Tryz.func180 (by kernel_rfl) (by kernel_rfl) fun args H fr path r h=>?_
 unfold wrdSpec at h
 split at h
 case h_2=>cases h
 rename_i k off n c
 split at h
 case h_2=>cases h
 rename_i ty cs o hk
 split at h
 case h_2=>cases h
 rename_i xs hxs
 injection h with h
 refine ⟨[k],[AI 0 off n c],Au xs,1,1,[],_,_,_,path,h.symm,fun β us w ha hg hc=>?_⟩
 obtain ⟨u1,us1,r1,ha,rfl⟩:=ha
 obtain ⟨g1,g2,g3⟩:=Cx hg hk hxs
 exact ⟨ALC g1 (Nat.le_of_ble_eq_true hc.1) (Nat.le_of_ble_eq_true hc.2.1),by kernel_rfl,⟨u1,_,r1,ha,rfl⟩,g2,g3⟩
noncomputable def SY:List (FuncId×ASpec):=(240,cmpSpec)::(182,roctSpec)::(180,wrdSpec)::SX
theorem fR:AX Tryz.prog SY:=⟨AK2,AK9,ALD,HZ⟩
def yH:List Int:=[0xb9feffffffffaaa9,0x1eabfffeb153ffff,0x6730d2a0f6b0f624,0x64774b84f38512bf,0x4b1ba7b6434bacd7,0x1a0111ea397fe69a]
theorem ALE:AF (AA yH 0 6)=pN-2:=by kernel_rfl
theorem ALF (x:Nat):AR Tryz.prog (AH SY K0) Tryz.f189 [AY x] [] 300=some (G5 2,AY (Dx x (AF (AA yH 0 6)))):=by kernel_rfl
theorem yI (x:Nat):AU Tryz.prog 189 [AY x] (AY (BM x)):=by
 have h:=AW (AK fR Aa) AB Tryz.func189 (ALF x) (J1 2) rfl
 rw [ALE] at h
 exact h
theorem ALG (a:Nat):AR Tryz.prog (AH SY K0) Tryz.f247 [AY a] [] 3000=some (G5 99,.val true ((BK (AF (AA (HV (a % pN)) 0 6)) 48).map fun d=>.v (.int .u8 d))):=by kernel_rfl
theorem ALH {β:Env}:∀ {ds:List Int} {l:List Value},AN β (ds.map fun d=>.v (.int .u8 d)) l→AN β [.seq .u8 ds] l
 | ds,l,h=>by
  have key:∀ (ds:List Int) (l:List Value),AN β (ds.map fun d=>.v (.int .u8 d)) l→l=ds.map (.int .u8)∧∀ d∈ds,has .u8 d:=by
   intro ds
   induction ds with
   | nil=>intro l h;exact ⟨h,by simp⟩
   | cons d r ih =>
    rintro l ⟨l1,l2,⟨h1,h2⟩,h3,h4⟩
    obtain ⟨i1,i2⟩:=ih l2 h3
    subst h1;subst i1;subst h4
    refine ⟨rfl,fun x hx=>?_⟩
    rcases List.mem_cons.1 hx with rfl | hx
    ·exact h2.2
    ·exact i2 x hx
  obtain ⟨h1,h2⟩:=key ds l h
  exact ⟨l,[],⟨h1,h2⟩,rfl,by simp⟩
theorem ALI (a:Nat):AU Tryz.prog 247 [AY a] (Ta (a % pN)):=by
 have h:=AW (AK fR Aa) AB Tryz.func247 (ALG a) (J1 99) rfl
 rw [uC (HS a)] at h
 exact C7 h fun u ⟨l,q,e⟩=>⟨l,ALH q,e⟩
theorem ALJ:A6 Tryz.prog 142 (Tb fun n l=>L' n (AT l)):=wV Tryz.func142 (by kernel_rfl) (by kernel_rfl) (fun _ _=>rfl) (fun _ _ _ _ _ hl hn=>eN hl hn)
noncomputable def SZ:List (FuncId×ASpec):=(189,Aj (E9 fun x=>AY (BM x)))::(247,Aj (E9 fun x=>Ta (x % pN)))::(142,Du (Tb fun n l=>L' n (AT l)))::(144,Du powSpec)::(244,Du powSpec)::(299,Du (WV fun _ l=>AY (AF l % pN)))::SY
theorem ALK:AX Tryz.prog SZ:=⟨Ak Tryz.func189 (by kernel_rfl) (by kernel_rfl) (F6 fun x _=>yI x),Ak Tryz.func247 (by kernel_rfl) (by kernel_rfl) (F6 fun x _=>ALI x),EM ALJ,EM t0,EM x8,EM (xW Tryz.func299 (by kernel_rfl) (by kernel_rfl) (fun _ _=>rfl) (fun _ _ _ _ hx hl hn=>fM hx hl hn)),fR⟩
end Go.Proofs.YtjlcdlekmpjjnaaGreat
namespace Go.Proofs.YtjlcdlekmpjjnaaGreat
open Ex
set_option maxRecDepth 100000
set_option maxHeartbeats 4000000
theorem Hg (x n:Nat):(BK x n).length=n:=by simp [BK]
theorem yJ (x n:Nat):BK x (n+1)=Eo x n::BK x n:=by
 unfold BK
 rw [List.range_succ_eq_map,List.map_cons,List.map_map]
 congr 1
 refine List.map_congr_left fun i hi=>?_
 have:i<n:=List.mem_range.1 hi
 simp only [Function.comp]
 congr 1;omega
theorem yK:∀ (n x:Nat),AT (BK x n)=x % 256^n
 | 0,x=>by simp [BK,AT,Nat.mod_one]
 | n+1,x=>by
  rw [yJ]
  simp only [AT]
  rw [Hg,yK n x,Nat.pow_succ,Nat.mod_mul]
  unfold Eo
  rw [Int.toNat_natCast,Nat.mul_comm,Nat.add_comm]
end Go.Proofs.YtjlcdlekmpjjnaaGreat
namespace Go.Proofs.YtjlcdlekmpjjnaaGreat
open Ex
open Go.RowKit (Below)
set_option maxRecDepth 100000
set_option maxHeartbeats 4000000
def E' (ls:List Ex.Loc):Env:=fun k=>ls[k]?
theorem yL (ls:List Ex.Loc) (L:Ex.Loc):Env.le (E' ls) (E' (ls++[L])):=fun b X h=>by
 have hb:b<ls.length:=by
  rcases Nat.lt_or_ge b ls.length with q | q
  ·exact q
  ·simp only [E'] at h;rw [List.getElem?_eq_none q] at h;cases h
 simp only [E'] at h ⊢
 rw [List.getElem?_append_left hb];exact h
theorem Wb (ls:List Ex.Loc) (L:Ex.Loc):E' (ls++[L]) ls.length=some L:=by simp [E']
structure ArgsOk (W:World) (ls:List Ex.Loc) (bs:List Blk):Prop where
 len:ls.length=bs.length
 blk:∀ (j:Nat) (b:Blk),bs[j]? = some b→b.ty=CG∧EI (E' ls) b j W
 lt:∀ (j B:Nat) (n:Nat×Nat),ls[j]? = some (Ex.Loc.at_ B n)→B<W.heap.size
theorem ArgsOk.nil (W:World):ArgsOk W [] []:=⟨rfl,fun j b h=>by simp at h,fun j B n h=>by simp at h⟩
theorem ArgsOk.good {W:World} {ls:List Ex.Loc} {bs:List Blk} (h:ArgsOk W ls bs):Ex.Good (E' ls) (Ng 0 bs) W:=by
 refine ⟨fun b blk hb=>?_,fun b b' B n n' h1 _ _ _=>?_,fun b B n hb=>h.lt b B n hb⟩
 ·obtain ⟨_,hj⟩:=Ll hb
  exact (h.blk b blk (by simpa using hj)).2
 ·obtain ⟨d,hd,hr⟩:=F0 h1
  obtain ⟨_,hj⟩:=Ll hd
  exact absurd (h.blk b d (by simpa using hj)).1 hr
theorem ArgsOk.none {W:World} {ls:List Ex.Loc} {bs:List Blk} (h:ArgsOk W ls bs):∀ b,bs.length≤b→E' ls b=none:=fun b hb=>by
 simp only [E']
 rw [List.getElem?_eq_none (by rw [h.len];exact hb)]
theorem ArgsOk.snoc {W:World} {ls:List Ex.Loc} {bs:List Blk} (h:ArgsOk W ls bs) {L:Ex.Loc} {b:Blk} (hb:EI (E' (ls++[L])) b ls.length W) (hr:b.ty=CG) (hl:∀ B n,L=Ex.Loc.at_ B n→B<W.heap.size):ArgsOk W (ls++[L]) (bs++[b]):=by
 refine ⟨by simp [h.len],fun j d hd=>?_,fun j B n hj=>?_⟩
 ·rcases Nat.lt_or_ge j bs.length with q | q
  ·rw [List.getElem?_append_left q] at hd
   exact ⟨(h.blk j d hd).1,U2 (yL ls L) (h.blk j d hd).2⟩
  ·rw [List.getElem?_append_right q] at hd
   have e:j=bs.length:=by
    rcases Nat.eq_or_lt_of_le q with q' | q'
    ·exact q'.symm
    ·rw [List.getElem?_eq_none (by simp;omega)] at hd;cases hd
   subst e
   simp at hd
   subst hd
   exact ⟨hr,by rw [← h.len];exact hb⟩
 ·rcases Nat.lt_or_ge j ls.length with q | q
  ·rw [List.getElem?_append_left q] at hj;exact h.lt j B n hj
  ·rw [List.getElem?_append_right q] at hj
   have e:j-ls.length=0:=by
    rcases Nat.eq_zero_or_pos (j-ls.length) with q' | q'
    ·exact q'
    ·rw [List.getElem?_eq_none (by simp;omega)] at hj;cases hj
   rw [e] at hj
   simp at hj
   exact hl B n hj
theorem ALL {P:Program} {Bq:TypeId→Bool}:∀ (d:Nat) {e:TypeId} {count off n:Nat},rowAt P Bq d e count off n=true→off≤count*P.cellsOf e
 | 0,_,_,_,_,h=>by simp [rowAt] at h
 | d+1,e,count,off,n,h=>by
  by_cases hs:P.cellsOf e=0
  ·unfold rowAt at h
   simp [hs] at h
  ·unfold rowAt at h
   rw [if_neg hs] at h
   have hpos:0<P.cellsOf e:=Nat.pos_of_ne_zero hs
   have hdm:=Nat.div_add_mod off (P.cellsOf e)
   have hlt:=Nat.mod_lt off hpos
   have key:off / P.cellsOf e<count∨(off % P.cellsOf e=0∧off / P.cellsOf e≤count):=by
    simp only [Bool.or_eq_true,Bool.and_eq_true,decide_eq_true_eq,beq_iff_eq] at h
    rcases h with ⟨⟨h1,h2⟩,_⟩ | ⟨h1,_⟩
    ·exact .inr ⟨h1,by omega⟩
    ·exact .inl h1
   rcases key with q | ⟨q1,q2⟩
   ·have:=Nat.mul_le_mul_left (P.cellsOf e) (show off / P.cellsOf e+1≤count from q)
    rw [Nat.mul_add,Nat.mul_one] at this
    rw [Nat.mul_comm count]
    omega
   ·have:=Nat.mul_le_mul_left (P.cellsOf e) q2
    rw [Nat.mul_comm count]
    omega
theorem yM {P:Program}:∀ (d:Nat) {e u:TypeId} {count off n:Nat},liesAt P d e count off u n=true→off≤count*P.cellsOf e
 | 0,_,_,_,_,_,h=>by simp [liesAt] at h
 | d+1,e,u,count,off,n,h=>by
  unfold liesAt at h
  rw [Bool.or_eq_true] at h
  rcases h with h | h
  ·exact ALL _ h
  ·split at h
   ·exact yM d h
   ·cases h
theorem ALM {H:Type} {enc:TypeId×Value→H} {W:World} {base:Nat} {t e:TypeId} {k:IntKind} {v:Value} {d:DataW H} {p:List MemPlace} (hu:Tryz.prog.underlying t=some (.slice e)) (he:Tryz.prog.underlying e=some (.int k)) (hc:Tryz.prog.cellsOf e=1)
  (hv:Value.okWide Tryz.prog W .any base t v) (ht:DataW.Trod enc Tryz.prog W 0 (fun _=>true) true t v d p) :
  ∃ (L:Ex.Loc) (zs:List Int) (n m:Nat),(∀ x∈zs,has k x)∧n≤zs.length∧n≤maxLen∧(∀ B q,L=Ex.Loc.at_ B q→B<W.heap.size)∧∀ ls:List Ex.Loc,AP (E' (ls++[L])) (.val false [.sl ls.length 0 n m]) v∧EI (E' (ls++[L])) (Ai [.seq k zs]) ls.length W:=by
 obtain ⟨fuel,hf⟩:=ht
 obtain ⟨a0,len0,cap0,rfl⟩:=Go.WideShapes.okWide_slice hu hv
 have hcells:(Value.slice a0 len0 cap0).cells=#[Value.slice a0 len0 cap0]:=rfl
 rw [hcells] at hf
 rcases Go.ChangeShapes.open_ints hu he hc hf with ⟨hcs,_⟩ | ⟨a,len,cap,zs,hcs,hb,hl,hm,hz,_,hcell,hwf⟩
 ·have e1:Value.slice a0 len0 cap0=.slice none 0 0:=by simpa using hcs
  rw [e1]
  refine ⟨.nil,[],0,0,by simp,by simp,Nat.zero_le _,(fun B q h=>by cases h),fun ls=>⟨?_,.inr ⟨Wb _ _,.inr rfl,⟨[],[],⟨rfl,by simp⟩,rfl,rfl⟩⟩⟩⟩
  exact Aw (.inr ⟨Wb _ _,rfl,rfl,rfl,rfl⟩)
 ·have e1:Value.slice a0 len0 cap0=.slice (some a) len cap:=by simpa using hcs
  rw [e1] at hv ⊢
  simp only [if_true] at hz
  have hk:Cell.ok Tryz.prog W .any base t (.slice (some a) len cap):=by
   have:=hv
   simp only [Value.okWide,hu,Cell.okWide] at this
   exact this
  simp only [Cell.ok,hu] at hk
  obtain ⟨_,_,_,hspot,row,cells,hsh,hlies⟩:=hk
  obtain ⟨c,fz,hblk,hsz⟩:∃ c fz,W.heap[a.block]? = some (.cells c row fz)∧cells=c.size:=by
   unfold World.shape? at hsh
   split at hsh
   ·rename_i c el fz hq
    injection hsh with hsh;injection hsh with h1 h2
    exact ⟨c,fz,by rw [hq,h1],h2.symm⟩
   ·cases hsh
  have hoff:a.off≤c.size:=by
   have h1:=yM _ hlies
   have h2:=Nat.div_mul_le_self cells (Tryz.prog.cellsOf row)
   omega
  have AG:∀ i,i<zs.length→c[a.off+i]? = some (.int k (zs.getD i 0)):=by
   intro i hi
   have h1:=hcell i hi
   have e2:a.add i=⟨a.block,a.off+i,none⟩:=by
    unfold Addr.add
    split
    ·rename_i h0;subst h0
     cases a;simp only at hspot;simp [hspot]
    ·rfl
   rw [e2] at h1
   simp only [World.cell?,hblk] at h1
   simpa using h1
  have hend:a.off+zs.length≤c.size:=by
   rcases Nat.eq_zero_or_pos zs.length with h0 | hp
   ·omega
   ·have:=(Array.getElem?_eq_some_iff.1 (AG (zs.length-1) (by omega))).1
    omega
  have hlist:c.toList=c.toList.take a.off++(zs.map (.int k)++c.toList.drop (a.off+zs.length)):=by
   have hmid:(c.toList.drop a.off).take zs.length=zs.map (.int k):=by
    refine List.ext_getElem? fun i=>?_
    by_cases hi:i<zs.length
    ·rw [List.getElem?_take_of_lt hi,List.getElem?_drop,Array.getElem?_toList,AG i hi,List.getElem?_map,List.getElem?_eq_getElem hi,List.getD_eq_getElem?_getD,List.getElem?_eq_getElem hi];rfl
    ·rw [List.getElem?_eq_none (by simp;omega),List.getElem?_eq_none (by simp;omega)]
   rw [← hmid,← List.drop_drop,List.take_append_drop,List.take_append_drop]
  have ea:a=⟨a.block,a.off,none⟩:=by cases a;simp only at hspot;simp [hspot]
  have hhas:∀ x∈zs,has k x:=fun x hx=>AGW (hwf x hx)
  refine ⟨.at_ a.block (c.size,a.off),zs,len,cap,hhas,by omega,Nat.le_trans hl hm,fun B q h=>?_,fun ls=>⟨?_,.inl ⟨a.block,(c.size,a.off),zs.map (.int k),c.toList.drop (a.off+zs.length),c.toList.take a.off,row,fz,Wb _ _,⟨_,[],⟨rfl,hhas⟩,rfl,by simp⟩,?_,?_,fun hr=>absurd rfl hr⟩⟩⟩
  ·injection h with h1 h2
   rw [← h1]
   exact (Array.getElem?_eq_some_iff.1 hblk).1
  ·refine Aw (.inl ⟨a.block,(c.size,a.off),Wb _ _,?_⟩)
   rw [Nat.add_zero,← ea]
  ·rw [← hlist];exact hblk
  ·simp;omega
theorem yN {f:FuncId} {fn:Func} (h:∀ (H:Type) (enc:TypeId×Value→H) (us:List Value) (W:World) (base:Nat) (ds:List (DataW H)) (ps:List MemPlace),(∀ (j:Nat) t v,fn.params[j]? = some t→us[j]? = some v→Value.okWide Tryz.prog W .any base t v) →
  DataW.TrodAll enc Tryz.prog W 0 (fun _=>true) true fn.params.toList us ds ps→∃ ls bs args,ArgsOk W ls bs∧A7 (E' ls) args us∧Ad Tryz.prog f args (Ng 0 bs) bs.length [] (BB true) []):Vm Tryz.prog f fn:=by
 intro H enc us W base ds ps hv hA _ _
 obtain ⟨ls,bs,args,ho,ha,hc⟩:=h H enc us W base ds ps hv hA
 refine (hc (E' ls) us W ha ho.good ho.none).mono ?_
 rintro e w' ⟨u,β,rfl,out⟩
 obtain ⟨l1,l2,⟨h1,_⟩,h3,h4⟩:=out.val
 simp only [AN] at h3
 subst h1;subst h3
 injection h4 with h4 _
 refine ⟨by rw [h4],⟨out.os,out.tape,out.output,out.size,fun k hk=>out.frame k hk (fun _ _ h=>by cases h)⟩⟩
end Go.Proofs.YtjlcdlekmpjjnaaGreat
namespace Go.Proofs.YtjlcdlekmpjjnaaGreat
open Ex Num
set_option maxRecDepth 100000
set_option maxHeartbeats 4000000
def By:AV→Option (Nat×Nat×Nat)
 | .val false [.sl k off n _]=>some (k,off,n)
 | .val false [.sx k n _]=>some (k,0,n)
 | _=>none
theorem DF {β:Env} {A:AV} {k off n:Nat} {u:Value} (h:By A=some (k,off,n)) (hr:AP β A u):∃ m,AP β (AI k off n m) u:=by
 unfold By at h
 split at h
 ·rename_i k' off' n' m
  injection h with h;injection h with h1 h;injection h with h2 h3
  subst h1;subst h2;subst h3
  exact ⟨m,hr⟩
 ·rename_i k' n' sz
  injection h with h;injection h with h1 h;injection h with h2 h3
  subst h1;subst h2;subst h3
  obtain ⟨l1,l2,h1,h2,h3⟩:=hr
  rcases h1 with ⟨B,q,cap,q1,q2,q3,q4⟩ | ⟨q1,q2,q3⟩
  ·exact ⟨cap,l1,l2,.inl ⟨B,(q,0),q1,by rw [q2]⟩,h2,h3⟩
  ·exact ⟨0,l1,l2,.inr ⟨q1,rfl,q2,rfl,q3⟩,h2,h3⟩
 ·cases h
theorem CS {f:FuncId} {fn:Func} (hfn:Tryz.prog.funcs[f]? = some fn) (hbd:fn.body.isSome=true) (hname:(fn.name=="runtime.NumGoroutine")=false) {s:ASpec}
  (h:∀ args H fr path r,s args H fr path=some r→∃ (ρ:List Nat) (k0 nw:Nat) (W:List Nat) (val:AV) (H1:Heap) (conds:List (Bool×Bool)) (path':List Bool),
   r=A5 ρ k0 fr nw W val H1 conds path'∧(∀ β us w,A7 β args us→Ex.Good β H w→AQ conds→∃ args0 H0,Ad Tryz.prog f args0 H0 k0 W val H1∧Cu k0 nw W val H1=true∧A7 (A4 β ρ k0) args0 us∧Ex.Good (A4 β ρ k0) H0 w∧(∀ k,k<k0→∃ X,β (nth ρ k)=some X))):A6 Tryz.prog f s:=by
 intro args H fr path r β us w hs hc ha hg hf
 obtain ⟨ρ,k0,nw,W,val,H1,conds,path',rfl,hh⟩:=h args H fr path r hs
 obtain ⟨args0,H0,hcan,hb,ha0,hg0,hdef⟩:=hh β us w ha hg hc
 refine R6 hfn hbd hname (Calls.mono (hcan (A4 β ρ k0) us w ha0 hg0 fun b hb=>?_) ?_)
 ·have:Nat.blt b k0=false:=by cases h:Nat.blt b k0 with | false=>rfl | true=>have:=A8.1 h;omega
  simp [A4,this]
 ·rintro e w' ⟨u,β1,rfl,ho⟩
  obtain ⟨β',he⟩:=rZ (conds:=conds) (path:=path') hg ho hb hf hdef
  exact ⟨u,β',rfl,he⟩
theorem BS {β:Env} {k j off n m:Nat} {ρ:List Nat} {k0:Nat} {u:Value} (hj:j<k0) (hn:nth ρ j=k) (h:AP β (AI k off n m) u):AP (A4 β ρ k0) (AI j off n m) u:=by
 obtain ⟨l1,l2,h1,h2,h3⟩:=h
 refine ⟨l1,l2,?_,h2,h3⟩
 have e:A4 β ρ k0 j=β k:=by rw [H_ hj,hn]
 rcases h1 with ⟨B,q,q1,q2⟩ | ⟨q1,q2⟩
 ·exact .inl ⟨B,q,by rw [e];exact q1,q2⟩
 ·exact .inr ⟨by rw [e];exact q1,q2⟩
def Pm (g:Nat→List Int→AV):ASpec:=fun args H fr path =>
 match args with
 | [S]=>match By S with
  | some (k,off,n)=>match AG H k with
   | some ⟨_,cs,_⟩=>match Ao .u8 cs with
    | some xs=>some (A5 [k] 1 fr 0 [] (g n (AA xs off n)) [] [(Nat.ble (off+n) xs.length,true),(AJ .i64 n,true)] path)
    | none=>none
   | _=>none
  | none=>none
 | _=>none
theorem fS {f:FuncId} {fn:Func} {g:Nat→List Int→AV} (hfn:Tryz.prog.funcs[f]? = some fn) (hb:fn.body.isSome=true) (hname:(fn.name=="runtime.NumGoroutine")=false) (hk:∀ n l,Cu 1 0 [] (g n l) []=true)
  (h:∀ (off n m:Nat) (xs:List Int),(∀ d∈xs,0≤d∧d<256)→off+n≤xs.length→AJ .i64 n=true→Ad Tryz.prog f [AI 0 off n m] (Au xs) 1 [] (g n (AA xs off n)) []):A6 Tryz.prog f (Pm g):=by
 refine CS hfn hb hname fun args H fr path r hs=>?_
 unfold Pm at hs
 split at hs
 case h_2=>cases hs
 rename_i S
 split at hs
 case h_2=>cases hs
 rename_i k off n hS
 split at hs
 case h_2=>cases hs
 rename_i ty cs o hk'
 split at hs
 case h_2=>cases hs
 rename_i xs hxs
 injection hs with hs
 refine ⟨[k],1,0,[],_,_,_,path,hs.symm,fun β us w ha hg hc=>?_⟩
 obtain ⟨u1,us1,r1,ha,rfl⟩:=ha
 obtain ⟨m,r1⟩:=DF hS r1
 obtain ⟨g1,g2,g3⟩:=Cx hg hk' hxs
 exact ⟨[AI 0 off n m],Au xs,h off n m xs g1 (Nat.le_of_ble_eq_true hc.1) hc.2.1,hk _ _,⟨u1,_,BS (by omega) rfl r1,ha,rfl⟩,g2,g3⟩
def Tm (g:Nat→List Int→AV):ASpec:=fun args H fr path =>
 match args with
 | [S]=>match By S with
  | some (k,off,n)=>match AG H k with
   | some ⟨_,cs,_⟩=>match Ao .u64 cs with
    | some xs=>some (A5 [k] 1 fr 0 [] (g n (AA xs off n)) [] [(Nat.ble (off+n) xs.length,true),(Nat.ble n 1125899906842624,true)] path)
    | none=>none
   | _=>none
  | none=>none
 | _=>none
theorem fT {f:FuncId} {fn:Func} {g:Nat→List Int→AV} (hfn:Tryz.prog.funcs[f]? = some fn) (hb:fn.body.isSome=true) (hname:(fn.name=="runtime.NumGoroutine")=false) (hk:∀ n l,Cu 1 0 [] (g n l) []=true)
  (h:∀ (off n m:Nat) (xs:List Int),(∀ d∈xs,0≤d∧d<18446744073709551616)→off+n≤xs.length→n≤1125899906842624→Ad Tryz.prog f [AI 0 off n m] (Az xs) 1 [] (g n (AA xs off n)) []):A6 Tryz.prog f (Tm g):=by
 refine CS hfn hb hname fun args H fr path r hs=>?_
 unfold Tm at hs
 split at hs
 case h_2=>cases hs
 rename_i S
 split at hs
 case h_2=>cases hs
 rename_i k off n hS
 split at hs
 case h_2=>cases hs
 rename_i ty cs o hk'
 split at hs
 case h_2=>cases hs
 rename_i xs hxs
 injection hs with hs
 refine ⟨[k],1,0,[],_,_,_,path,hs.symm,fun β us w ha hg hc=>?_⟩
 obtain ⟨u1,us1,r1,ha,rfl⟩:=ha
 obtain ⟨m,r1⟩:=DF hS r1
 obtain ⟨g1,g2,g3⟩:=HU hg hk' hxs
 exact ⟨[AI 0 off n m],Az xs,h off n m xs g1 (Nat.le_of_ble_eq_true hc.1) (Nat.le_of_ble_eq_true hc.2.1),hk _ _,⟨u1,_,BS (by omega) rfl r1,ha,rfl⟩,g2,g3⟩
noncomputable def powSp:ASpec:=fun args H fr path =>
 match args with
 | [.val true a,S]=>match By S with
  | some (k,off,n)=>match CP 6 a,AG H k with
   | some x,some ⟨_,cs,_⟩=>match Ao .u64 cs with
    | some xs=>some (A5 [k] 1 fr 0 [] (AY (Dx x (AF (AA xs off n)))) [] [(Nat.ble (off+n) xs.length,true),(Nat.ble n 1125899906842624,true)] path)
    | none=>none
   | _,_=>none
  | none=>none
 | _=>none
theorem yO {f:FuncId} {fn:Func} (hfn:Tryz.prog.funcs[f]? = some fn) (hb:fn.body.isSome=true) (hname:(fn.name=="runtime.NumGoroutine")=false)
  (h:∀ (off n m:Nat) (xs:List Int) (x:Nat),(∀ d∈xs,0≤d∧d<18446744073709551616)→off+n≤xs.length→n≤1125899906842624→Ad Tryz.prog f (J4 x off n m) (Az xs) 1 [] (AY (Dx x (AF (AA xs off n)))) []):A6 Tryz.prog f powSp:=by
 refine CS hfn hb hname fun args H fr path r hs=>?_
 unfold powSp at hs
 split at hs
 case h_2=>cases hs
 rename_i a S
 split at hs
 case h_2=>cases hs
 rename_i k off n hS
 split at hs
 case h_2=>cases hs
 rename_i x ty cs o hx hk'
 split at hs
 case h_2=>cases hs
 rename_i xs hxs
 injection hs with hs
 refine ⟨[k],1,0,[],_,_,_,path,hs.symm,fun β us w ha hg hc=>?_⟩
 obtain ⟨u1,us1,r1,⟨u2,us2,r2,ha,rfl⟩,rfl⟩:=ha
 obtain ⟨m,r2⟩:=DF hS r2
 obtain ⟨g1,g2,g3⟩:=HU hg hk' hxs
 refine ⟨J4 x off n m,Az xs,h off n m xs x g1 (Nat.le_of_ble_eq_true hc.1) (Nat.le_of_ble_eq_true hc.2.1),by kernel_rfl,⟨u1,_,?_,⟨u2,us2,BS (by omega) rfl r2,ha,rfl⟩,rfl⟩,g2,g3⟩
 obtain ⟨l,q,rfl⟩:=r1;exact ⟨l,EO hx q,rfl⟩
noncomputable def SB:List (FuncId×ASpec):=(142,Du (Pm fun n l=>L' n (AT l)))::(144,Du powSp)::(244,Du powSp)::(299,Du (Tm fun _ l=>AY (AF l % pN)))::SZ
theorem ALN:AX Tryz.prog SB:=⟨EM (fS Tryz.func142 (by kernel_rfl) (by kernel_rfl) (fun _ _=>rfl) (fun _ _ _ _ _ hl hn=>eN hl hn)),EM (yO Tryz.func144 (by kernel_rfl) (by kernel_rfl) fun _ _ _ _ x hx hl hn=>tZ hx hl hn x),EM (yO Tryz.func244 (by kernel_rfl) (by kernel_rfl) fun _ _ _ _ x hx hl hn=>xZ hx hl hn x),EM (fT Tryz.func299 (by kernel_rfl) (by kernel_rfl) (fun _ _=>rfl) (fun _ _ _ _ hx hl hn=>fM hx hl hn)),ALK⟩
def tt:Nat→List (Bool×Bool)→List (Bool×Bool)
 | 0,r=>r
 | n+1,r=>(true,true)::tt n r
theorem Ac:∀ (n:Nat) {r:List (Bool×Bool)},AQ r→AQ (tt n r)
 | 0,_,h=>h
 | n+1,_,h=>⟨rfl,Ac n h⟩
theorem A2 {S:List (FuncId×ASpec)} {K:List (TypeId×List (Option IntKind))} (hS:AX Tryz.prog S) (hK:Jo Tryz.prog K) {f:FuncId} {fn:Func} (hfn:Tryz.prog.funcs[f]? = some fn) (hb:fn.body.isSome=true) {args:List AV} {H H1:Heap} {fuel k0:Nat} {ks:List Nat} {path:List Bool} {conds:List (Bool×Bool)} {v:AV}
  (hlen:Nat.ble (H8 args) fn.ntmps=true) (h:AM Tryz.prog (AH S K) fn fuel k0 ks (Af fn args H k0 path)=some (conds,[],v,H1)) (hw:bX fn.ntmps (Af fn args H k0 path).s=true) (hc:AQ conds):Ad Tryz.prog f args H k0 [] v H1 :=
 Av (path:=path) hfn hb hlen fun _ _ h0=>As (AK hS hK) AB hfn h hc (AL hw) h0 (fun _ h=>by cases h)
section
variable {H:Type} {enc:TypeId×Value→H} {W:World} {base:Nat} {v:Value} {d:DataW H} {p:List MemPlace}
theorem fU:Tryz.prog.underlying 28=some (.slice 5):=by kernel_rfl
theorem ALO:Tryz.prog.underlying 5=some (.int .u8):=by kernel_rfl
theorem ALP:Tryz.prog.cellsOf 5=1:=by kernel_rfl
theorem ALQ {n:Nat} (h:n≤maxLen):AJ .i64 (n:Int)=true:=by
 unfold maxLen at h
 simp only [AJ,Bool.and_eq_true,decide_eq_true_eq];omega
theorem ALR (hv:Value.okWide Tryz.prog W .any base 28 v) (ht:DataW.Trod enc Tryz.prog W 0 (fun _=>true) true 28 v d p) {ls:List Ex.Loc} {bs:List Blk} (ho:ArgsOk W ls bs) :
  ∃ (L:Ex.Loc) (zs:List Int) (n m:Nat),(∀ x∈zs,0≤x∧x<256)∧n≤zs.length∧AJ .i64 (n:Int)=true∧AP (E' (ls++[L])) (AI ls.length 0 n m) v∧ArgsOk W (ls++[L]) (bs++[Ai [.seq .u8 zs]]):=by
 obtain ⟨L,zs,n,m,h1,h2,h3,h4,h5⟩:=ALM fU ALO ALP hv ht
 exact ⟨L,zs,n,m,fun x hx=>wS (h1 x hx),h2,ALQ h3,(h5 ls).1,ho.snoc (h5 ls).2 rfl h4⟩
end
noncomputable def SC:List (FuncId×ASpec):=SB
theorem fV:AX Tryz.prog SC:=ALN
theorem ALS (a:Nat):AR Tryz.prog (AH SC K0) Tryz.f269 [AY a] [] 300=some ([(decide (0≤AE (a % pN) 0∧(0:Int)<2),true)],Cq (wI (Int.tmod (AE (a % pN) 0) 2))):=by kernel_rfl
theorem ALT (a:Nat):AU Tryz.prog 269 [AY a] (Cq (ED a)):=by
 have hb:=BN (a % pN) 0
 have h:=AW (AK fV Aa) AB Tryz.func269 (ALS a) ⟨by simp [hb.1],trivial⟩ rfl
 have e:wI (Int.tmod (AE (a % pN) 0) 2)=ED a:=by
  rw [dC,Int.tmod_eq_emod_of_nonneg (by omega),Am (by omega)]
  unfold ED;omega
 rw [e] at h
 exact h
theorem ALU (a:Nat):AR Tryz.prog (AH SC K0) Tryz.f192 [AY a] [] 300=some (tt 4 [],BB (decide (0<C6 (AF (AA (HV (a % pN)) (0+0*1) (6-0))) (AF (AA (HV (DM a)) (0+0*1) (6-0)))))):=by kernel_rfl
theorem ALV (x:Nat):AU Tryz.prog 192 [AY x] (BB (BE x)):=by
 have h:=AW (AK fV Aa) AB Tryz.func192 (ALU x) (Ac 4 trivial) rfl
 rw [L2 (HS x),L2 (Nat.lt_trans (dD x) (by decide))] at h
 have e:decide (0<C6 (x % pN) (DM x))=BE x:=by
  unfold C6 BE
  by_cases h1:x % pN<DM x
  ·rw [if_pos h1,decide_eq_false (by omega),decide_eq_false (by omega)]
  ·by_cases h2:DM x<x % pN
   ·rw [if_neg h1,if_pos h2,decide_eq_true h2];rfl
   ·rw [if_neg h1,if_neg h2,decide_eq_false h2];rfl
 rw [e] at h
 exact h
noncomputable def SD:List (FuncId×ASpec):=(269,Aj (E9 fun x=>Cq (ED x)))::(192,Aj (E9 fun x=>BB (BE x)))::SC
theorem ALW:AX Tryz.prog SD:=⟨Ak Tryz.func269 (by kernel_rfl) (by kernel_rfl) (F6 fun x _=>ALT x),Ak Tryz.func192 (by kernel_rfl) (by kernel_rfl) (F6 fun x _=>ALV x),fV⟩
noncomputable def SE:List (FuncId×ASpec):=SD
theorem fW:AX Tryz.prog SE:=ALW
end Go.Proofs.YtjlcdlekmpjjnaaGreat
namespace Go.Proofs.YtjlcdlekmpjjnaaGreat.Rg
class CR (F:Type) extends Add F,Mul F,Neg F,Sub F,Zero F,One F where
 add_assoc:∀ a b c:F,(a+b)+c=a+(b+c)
 add_comm:∀ a b:F,a+b=b+a
 zero_add:∀ a:F,0+a=a
 neg_add:∀ a:F,-a+a=0
 mul_assoc:∀ a b c:F,(a*b)*c=a*(b*c)
 mul_comm:∀ a b:F,a*b=b*a
 one_mul:∀ a:F,1*a=a
 add_mul:∀ a b c:F,(a+b)*c=a*c+b*c
 sub_eq:∀ a b:F,a-b=a+-b
section
variable {F:Type} [CR F]
theorem add_assoc (a b c:F):(a+b)+c=a+(b+c):=CR.add_assoc a b c
theorem add_comm (a b:F):a+b=b+a:=CR.add_comm a b
theorem mul_assoc (a b c:F):(a*b)*c=a*(b*c):=CR.mul_assoc a b c
theorem mul_comm (a b:F):a*b=b*a:=CR.mul_comm a b
theorem zero_add (a:F):0+a=a:=CR.zero_add a
theorem add_zero (a:F):a+0=a:=by rw [add_comm,zero_add]
theorem neg_add (a:F):-a+a=0:=CR.neg_add a
theorem add_neg (a:F):a+-a=0:=by rw [add_comm,neg_add]
theorem one_mul (a:F):1*a=a:=CR.one_mul a
theorem mul_one (a:F):a*1=a:=by rw [mul_comm,one_mul]
theorem add_mul (a b c:F):(a+b)*c=a*c+b*c:=CR.add_mul a b c
theorem mul_add (a b c:F):a*(b+c)=a*b+a*c:=by rw [mul_comm,add_mul,mul_comm b,mul_comm c]
theorem sub_eq (a b:F):a-b=a+-b:=CR.sub_eq a b
theorem yP {a b c:F} (h:a+b=a+c):b=c:=by
 have:=congrArg (fun z=>-a+z) h
 simpa [← add_assoc,neg_add,zero_add] using this
theorem zero_mul (a:F):0*a=0:=by
 have h:0*a+0*a=0*a+0:=by rw [← add_mul,zero_add,add_zero]
 exact yP h
theorem mul_zero (a:F):a*0=0:=by rw [mul_comm,zero_mul]
theorem II {a b:F} (h:a+b=0):b=-a:=yP (a:=a) (by rw [h,add_neg])
theorem Wd (a b:F):-a*b=-(a*b):=II (by rw [← add_mul,add_neg,zero_mul])
theorem neg_neg (a:F):-(-a)=a:=(II (neg_add a)).symm
theorem Pn:-(0:F)=0:=(II (zero_add 0)).symm
theorem We (a b:F):-(a+b)=-a+-b:=(II (by
 rw [add_comm a b,add_assoc,← add_assoc a,add_neg,zero_add,add_neg])).symm
theorem sub_self (a:F):a-a=0:=by rw [sub_eq,add_neg]
theorem AZ {a b:F}:a-b=0↔a=b:=by
 constructor
 ·intro h
  rw [sub_eq] at h
  have:=II ((add_comm _ _).trans h)
  rw [this,neg_neg]
 ·rintro rfl;exact sub_self a
theorem yQ (a b c:F):a+(b+c)=b+(a+c):=by rw [← add_assoc,add_comm a b,add_assoc]
theorem mul_left_comm (a b c:F):a*(b*c)=b*(a*c):=by rw [← mul_assoc,mul_comm a b,mul_assoc]
def Bg:Nat→F
 | 0=>0
 | n+1=>Bg n+1
theorem KD (a b:Nat):(Bg (a+b):F)=Bg a+Bg b:=by
 induction b with
 | zero=>simp [Bg,add_zero]
 | succ b ih=>rw [← Nat.add_assoc];simp only [Bg];rw [ih,add_assoc]
theorem Tn (a b:Nat):(Bg (a*b):F)=Bg a*Bg b:=by
 induction b with
 | zero=>simp [Bg,mul_zero]
 | succ b ih=>rw [Nat.mul_succ,KD,ih];simp only [Bg];rw [mul_add,mul_one]
def int:Int→F
 | .ofNat n=>Bg n
 | .negSucc n=>-(Bg (n+1))
theorem Po (a b:Nat):(int ((a:Int)-b):F)=Bg a+-Bg b:=by
 rcases Nat.le_total b a with h | h
 ·obtain ⟨c,rfl⟩:=Nat.exists_eq_add_of_le h
  rw [show ((b+c:Nat):Int)-b=(c:Int) by omega,KD,add_comm (Bg b) (Bg c),add_assoc,add_neg,add_zero];rfl
 ·obtain ⟨c,rfl⟩:=Nat.exists_eq_add_of_le h
  cases c with
  | zero=>rw [Nat.add_zero,add_neg,show (a:Int)-(a:Nat)=0 by omega];rfl
  | succ c =>
   rw [show (a:Int)-((a+(c+1):Nat):Int)=Int.negSucc c by omega,KD,We,← add_assoc,add_neg,zero_add];rfl
theorem Wf (i:Int):∃ a b:Nat,i=(a:Int)-b:=by
 cases i with
 | ofNat n=>exact ⟨n,0,by simp⟩
 | negSucc n=>exact ⟨0,n+1,by omega⟩
theorem yS (i j:Int):(int (i+j):F)=int i+int j:=by
 obtain ⟨a,b,rfl⟩:=Wf i
 obtain ⟨c,d,rfl⟩:=Wf j
 rw [show (a:Int)-b+(c-d)=((a+c:Nat):Int)-(b+d:Nat) by omega,Po,Po,Po,KD,KD,We]
 rw [add_assoc,add_assoc];congr 1
 rw [← add_assoc,← add_assoc];congr 1
 exact add_comm _ _
theorem yT (a b:F):a*-b=-(a*b):=by rw [mul_comm,Wd,mul_comm]
theorem ALX (i j:Int):(int (i*j):F)=int i*int j:=by
 obtain ⟨a,b,rfl⟩:=Wf i
 obtain ⟨c,d,rfl⟩:=Wf j
 rw [show ((a:Int)-b)*(c-d)=((a*c+b*d:Nat):Int)-(a*d+b*c:Nat) by
  rw [Int.natCast_add,Int.natCast_add,Int.natCast_mul,Int.natCast_mul,Int.natCast_mul,Int.natCast_mul,Int.sub_mul,Int.mul_sub,Int.mul_sub];omega]
 rw [Po,Po,Po,KD,KD,Tn,Tn,Tn,Tn]
 rw [add_mul,mul_add,mul_add,Wd,yT,Wd,yT,neg_neg,We]
 rw [add_assoc,add_assoc];congr 1
 rw [add_comm (Bg b*Bg d),add_assoc]
theorem ALY (i:Int):(int (-i):F)=-int i:=by
 refine II ?_
 rw [← yS,Int.add_right_neg];rfl
theorem ALZ:(int 0:F)=0:=rfl
theorem To:(int 1:F)=1:=by show Bg 0+1=_;exact zero_add 1
def pw (x:F):Nat→F
 | 0=>1
 | n+1=>pw x n*x
theorem Tp (x:F) (a b:Nat):pw x (a+b)=pw x a*pw x b:=by
 induction b with
 | zero=>simp [pw,mul_one]
 | succ b ih=>rw [← Nat.add_assoc];simp only [pw];rw [ih,mul_assoc]
theorem pw_mul (x y:F) (n:Nat):pw (x*y) n=pw x n*pw y n:=by
 induction n with
 | zero=>simp [pw,one_mul]
 | succ n ih=>simp only [pw];rw [ih,mul_assoc,mul_assoc];congr 1;rw [mul_left_comm]
theorem Wg (x:F) (a b:Nat):pw x (a*b)=pw (pw x a) b:=by
 induction b with
 | zero=>rfl
 | succ b ih=>rw [Nat.mul_succ,Tp,ih];rfl
end
abbrev Mon:=List Nat
abbrev Pol:=List (Mon×Int)
def Pp:Mon→Mon→Mon
 | [],b=>b
 | a::ar,b=>match b with
  | []=>a::ar
  | c::bs=>(a+c)::Pp ar bs
def Wh:Mon→Mon→Nat
 | [],b=>match b with
  | []=>0
  | _::_=>2
 | a::ar,b=>match b with
  | []=>1
  | c::bs=>match Nat.beq a c with
   | true=>Wh ar bs
   | false=>match Nat.ble a c with
    | true=>2
    | false=>1
theorem yU:∀ {a b:Mon},Wh a b=0→a=b
 | [],[],_=>rfl
 | [],_::_,h=>by cases h
 | _::_,[],h=>by cases h
 | a::ar,c::bs,h=>by
  simp only [Wh] at h
  cases hb:Nat.beq a c with
  | true=>rw [hb] at h;rw [Nat.eq_of_beq_eq_true hb,yU h]
  | false =>
   rw [hb] at h
   cases hl:Nat.ble a c<;>rw [hl] at h<;>cases h
def Wi (m:Mon) (c:Int) (p:Pol):Pol:=match c with
 | .ofNat 0=>p
 | _=>(m,c)::p
def MC:Nat→Pol→Pol→Pol
 | 0,p,q=>p++q
 | n+1,p,q=>match p with
  | []=>q
  | (a,c)::p'=>match q with
   | []=>p
   | (b,d)::q'=>match Wh a b with
    | 0=>Wi a (c+d) (MC n p' q')
    | 1=>(a,c)::MC n p' q
    | _=>(b,d)::MC n p q'
def len:Pol→Nat
 | []=>0
 | _::r=>len r+1
def MD (p q:Pol):Pol:=MC (len p+len q) p q
def Tq (m:Mon) (c:Int):Pol→Pol
 | []=>[]
 | (a,d)::r=>(Pp m a,c*d)::Tq m c r
def Pq:Pol→Pol→Pol
 | [],_=>[]
 | (a,c)::r,q=>MD (Tq a c q) (Pq r q)
def Pr:Pol→Pol
 | []=>[]
 | (a,c)::r=>(a,-c)::Pr r
section
variable {F:Type} [CR F]
def GS:List F→Mon→F
 | [],_=>1
 | x::xs,m=>match m with
  | []=>1
  | e::es=>pw x e*GS xs es
def Bk (xs:List F):Pol→F
 | []=>0
 | (m,c)::r=>int c*GS xs m+Bk xs r
theorem Tr (xs:List F):GS xs []=1:=by cases xs<;>rfl
theorem yV:∀ (xs:List F) (a b:Mon),GS xs (Pp a b)=GS xs a*GS xs b
 | [],a,b=>by simp [GS,one_mul]
 | x::xs,[],b=>by simp [Pp,Tr,one_mul]
 | x::xs,a::ar,[]=>by simp [Pp,Tr,mul_one]
 | x::xs,a::ar,c::bs=>by
  simp only [Pp,GS]
  rw [Tp,yV xs ar bs,mul_assoc,mul_assoc];congr 1;rw [mul_left_comm]
theorem yW (xs:List F) (m:Mon) (c:Int) (p:Pol):Bk xs (Wi m c p)=int c*GS xs m+Bk xs p:=by
 unfold Wi
 split
 ·show _=int 0*_+_
  rw [ALZ,zero_mul,zero_add]
 ·rfl
theorem yX (xs:List F):∀ p q:Pol,Bk xs (p++q)=Bk xs p+Bk xs q
 | [],q=>by simp [Bk,zero_add]
 | (m,c)::p,q=>by simp only [List.cons_append,Bk];rw [yX xs p q,add_assoc]
theorem Wj (xs:List F):∀ (n:Nat) (p q:Pol),Bk xs (MC n p q)=Bk xs p+Bk xs q
 | 0,p,q=>yX xs p q
 | n+1,[],q=>by simp [MC,Bk,zero_add]
 | n+1,(a,c)::p',[]=>by simp [MC,Bk,add_zero]
 | n+1,(a,c)::p',(b,d)::q'=>by
  simp only [MC]
  split
  ·rename_i h
   rw [yW,Wj xs n p' q',yU h]
   simp only [Bk]
   rw [yS,add_mul,add_assoc,add_assoc];congr 1
   rw [yQ]
  ·simp only [Bk];rw [Wj xs n p' _];simp only [Bk];rw [add_assoc]
  ·simp only [Bk];rw [Wj xs n _ q'];simp only [Bk];rw [yQ]
theorem fX (xs:List F) (p q:Pol):Bk xs (MD p q)=Bk xs p+Bk xs q:=Wj xs _ p q
theorem yY (xs:List F) (m:Mon) (c:Int):∀ p:Pol,Bk xs (Tq m c p)=int c*GS xs m*Bk xs p
 | []=>by simp [Tq,Bk,mul_zero]
 | (a,d)::r=>by
  simp only [Tq,Bk]
  rw [yY xs m c r,yV,ALX,mul_add];congr 1
  rw [mul_assoc,mul_assoc];congr 1;rw [mul_left_comm]
theorem fY (xs:List F):∀ p q:Pol,Bk xs (Pq p q)=Bk xs p*Bk xs q
 | [],q=>by simp [Pq,Bk,zero_mul]
 | (a,c)::r,q=>by simp only [Pq,Bk];rw [fX,yY,fY xs r q,add_mul]
theorem fZ (xs:List F):∀ p:Pol,Bk xs (Pr p)=- Bk xs p
 | []=>by simp [Pr,Bk,Pn]
 | (a,c)::r=>by simp only [Pr,Bk];rw [fZ xs r,ALY,Wd,We]
end
inductive E where
 | v (i:Nat)
 | c (k:Int)
 | add (a b:E)
 | sub (a b:E)
 | mul (a b:E)
 | neg (a:E)
 | pw (a:E) (n:Nat)
def Ts:Nat→Mon
 | 0=>[1]
 | i+1=>0::Ts i
def Tt (p:Pol):Nat→Pol
 | 0=>[([],1)]
 | n+1=>Pq (Tt p n) p
def E.pol:E→Pol
 | .v i=>[(Ts i,1)]
 | .c k=>Wi [] k []
 | .add a b=>MD a.pol b.pol
 | .sub a b=>MD a.pol (Pr b.pol)
 | .mul a b=>Pq a.pol b.pol
 | .neg a=>Pr a.pol
 | .pw a n=>Tt a.pol n
def nth {F:Type} [One F]:List F→Nat→F
 | [],_=>1
 | x::_,0=>x
 | _::xs,i+1=>nth xs i
section
variable {F:Type} [CR F]
def E.den (xs:List F):E→F
 | .v i=>nth xs i
 | .c k=>int k
 | .add a b=>a.den xs+b.den xs
 | .sub a b=>a.den xs-b.den xs
 | .mul a b=>a.den xs*b.den xs
 | .neg a=>- a.den xs
 | .pw a n=>Rg.pw (a.den xs) n
theorem yZ:∀ (xs:List F) (i:Nat),GS xs (Ts i)=nth xs i
 | [],i=>by simp [GS,nth]
 | x::xs,0=>by simp [Ts,GS,Tr,nth,Rg.pw,one_mul,mul_one]
 | x::xs,i+1=>by simp only [Ts,GS,nth,Rg.pw];rw [one_mul,yZ xs i]
theorem ALa (xs:List F) (p:Pol) (n:Nat):Bk xs (Tt p n)=Rg.pw (Bk xs p) n:=by
 induction n with
 | zero=>simp [Tt,Bk,Rg.pw,Tr,To,mul_one,add_zero]
 | succ n ih=>simp only [Tt,Rg.pw];rw [fY,ih]
theorem E.pol_den (xs:List F):∀ e:E,Bk xs e.pol=e.den xs
 | .v i=>by simp only [E.pol,Bk,E.den];rw [yZ,To,one_mul,add_zero]
 | .c k=>by simp only [E.pol,E.den];rw [yW];simp [Bk,Tr,mul_one,add_zero]
 | .add a b=>by simp only [E.pol,E.den];rw [fX,a.pol_den xs,b.pol_den xs]
 | .sub a b=>by simp only [E.pol,E.den];rw [fX,fZ,a.pol_den xs,b.pol_den xs,sub_eq]
 | .mul a b=>by simp only [E.pol,E.den];rw [fY,a.pol_den xs,b.pol_den xs]
 | .neg a=>by simp only [E.pol,E.den];rw [fZ,a.pol_den xs]
 | .pw a n=>by simp only [E.pol,E.den];rw [ALa,a.pol_den xs]
def Nx:List (E×E)→E
 | []=>.c 0
 | (k,r)::l=>.add (.mul k r) (Nx l)
def f6:Pol→Bool
 | []=>true
 | _::_=>false
def f7 (xs:List F):List (E×E)→Prop
 | []=>True
 | (_,r)::l=>r.den xs=0∧f7 xs l
theorem y8 (xs:List F):∀ l:List (E×E),f7 xs l→(Nx l).den xs=0
 | [],_=>rfl
 | (k,r)::l,⟨h1,h2⟩=>by simp only [Nx,E.den];rw [h1,mul_zero,y8 xs l h2,add_zero]
theorem BF (xs:List F) (g:E) (l:List (E×E)) (hz:f7 xs l) (h:f6 (E.pol (.sub g (Nx l)))=true):g.den xs=0:=by
 have e:(E.pol (.sub g (Nx l)))=[]:=by
  cases hp:E.pol (.sub g (Nx l)) with
  | nil=>rfl
  | cons a b=>rw [hp] at h;cases h
 have:=E.pol_den xs (.sub g (Nx l))
 rw [e] at this
 simp only [Bk,E.den] at this
 rw [y8 xs l hz] at this
 exact AZ.1 this.symm
theorem ALb (xs:List F) (a b:E) (h:f6 (E.pol (.sub a b))=true):a.den xs=b.den xs:=by
 have e:(E.pol (.sub a b))=[]:=by
  cases hp:E.pol (.sub a b) with
  | nil=>rfl
  | cons a b=>rw [hp] at h;cases h
 have:=E.pol_den xs (.sub a b)
 rw [e] at this
 exact AZ.1 this.symm
end
end Go.Proofs.YtjlcdlekmpjjnaaGreat.Rg
