/- Part 3 of the proof. -/
import Derived.Test.YtgnajdcdcblaoaaGreatPB
import Derived.Test.YtgnajdcdcblaoaaGreatRows
set_option maxRecDepth 100000
set_option maxHeartbeats 4000000
open Go.Proofs.Tryz renaming prog→dr
open Go.Proofs.Tryz
namespace Go.Proofs.YtgnajdcdcblaoaaGreat
open Ex
def Bj:dt→Int
 | []=>0
 | d::r=>d+18446744073709551616*Bj r
theorem XT:∀ (k x:Nat),x<2^(64*k)→Bj ((List.range k).map (AE x))=x
 | 0,x,h=>by simp only [me,kx] at h;simp [Bj];omega
 | k+1,x,h=>by
  have hq:x / 2^64<2^(64*k):=by
   apply mb
   rw [← kc]
   rwa [show 64+64*k=64*(k+1) by omega]
  have ih:=XT k (x / 2^64) hq
  rw [sr,lz,ot];have e:(AE x ∘ Nat.succ)=AE (x / 2^64):=by funext i;simp [Function.comp,FM]
  rw [e];show AE x 0+18446744073709551616*Bj _=_;rw [ih,← PR]
theorem XU:∀ (ds:dt) (y:Nat),(∀ d∈ds,0≤d∧d<18446744073709551616)→(y:Int)=Bj ds→ds=(List.range ds.length).map (AE y)∧y<2^(64*ds.length)
 | [],y,_,h=>by simp only [Bj] at h;simp;omega
 | d::ds,y,hb,h=>by
  have hd:=hb d (by simp)
  have hs:=PR y;have hw:=Bx y 0;simp only [Bj] at h;have e1:d=AE y 0:=dn
  have e2:((y / 2^64:Nat):Int)=Bj ds:=dn
  obtain ⟨i1,i2⟩:=XU ds _ (fun d h=>hb d (by simp [h])) e2
  refine ⟨?_,?_⟩
  ·rw [k_,sr,lz,ot];have e:(AE y ∘ Nat.succ)=AE (y / 2^64):=by funext i;simp [Function.comp,FM]
   rw [e,← i1,← e1]
  ·rw [k_,show 64*(ds.length+1)=64+64*ds.length by omega,kc]
   have:=Nat.lt_mul_div_succ y (show 0<2^64 by decide)
   have h2:y / 2^64+1≤2^(64*ds.length):=i2
   exact li this (nr _ h2)
def Ma (ds:dt):List Ch:=ds.map fun d=>.v (.int .u64 d)
theorem AD_ {β:Env}:∀ {ds:dt} {l:List gq},AP β (Ma ds) l→l=ds.map (.int .u64)∧∀ d∈ds,has .u64 d
 | [],l,h=>by simp [Ma,AP] at h;simp [h]
 | d::ds,l,⟨l1,l2,⟨h1,h1'⟩,h2,h3⟩=>by
  obtain ⟨i1,i2⟩:=AD_ h2;subst h1;subst i1;subst h3;refine ⟨rfl,fun x hx=>?_⟩
  rcases ka.1 hx with rfl | hx
  ·exact h1'.2
  ·exact i2 x hx
theorem cD {β β':Env} {ds:dt} {l:List gq} {y:Nat} (h:(y:Int)=Bj ds) (hr:AP β (Ma ds) l):AP β' [.num ds.length y] l:=by
 obtain ⟨h1,h2⟩:=AD_ hr;obtain ⟨h3,h4⟩:=XU ds y (fun d hd=>EH (h2 d hd)) h
 have:l=words ds.length y:=by
  rw [h1,words]
  conv=>lhs;rw [h3]
  simp [List.map_map,Function.comp]
 rw [this];exact XQ h4
theorem GI {β β':Env} {k x:Nat} {a:List Ch} {l:List gq} (h:DE k a=some x) (hr:AP β a l):AP β' [.num k x] l:=by
 obtain ⟨h2,h3⟩:=Hm h hr;subst h2;exact XQ h3
theorem E6 {β:Env} {ρ:List Nat} {k0 j:Nat} (h:j<k0):A9 β ρ k0 j=β (nth ρ j):=by simp [A9,BX.2 h]
theorem CM {β:Env} {b:ib} {k:Nat} {w:gn} (h:DK β b k w):∃ X,β k=some X:=by
 rcases h with ⟨B,n,_,_,_,_,_,h,_⟩ | ⟨_,h,_⟩ | ⟨B,_,_,_,h,_⟩<;>exact ⟨_,h⟩
theorem UU {β β':Env} {b d:ib} {k j:Nat} {w:gn} (h:DK β b k w) (he:β' j=β k) (hd:(d.ty=Br∧IQ d.cs=true∧(d.opn=true→b.opn=true∨b.ty≠Br))∨(d.ty=b.ty∧d.opn=b.opn)) (hc:∀ l,AP β b.cs l→AP β' d.cs l):DK β' d j w:=by
 rcases h with ⟨B,n,l,t,pre,ty,fz,h1,h2,h3,h4,h5⟩ | ⟨X,h1,h2,h3⟩ | ⟨B,l,es,q,h1,h2,h3,h4⟩
 ·refine .inl ⟨B,n,l,t,pre,ty,fz,by rw [he];exact h1,hc _ h2,h3,h4,fun hr=>?_⟩
  obtain ⟨e1,e2⟩:=hd.resolve_left fun h=>hr h.1
  rw [e1] at hr ⊢;rw [e2];exact h5 hr
 ·refine .inr (.inl ⟨X,by rw [he];exact h1,?_,hc _ h3⟩)
  cases X with
  | at_=>exact h2
  | nil =>
   rcases hd with ⟨e,_⟩ | ⟨e1,e2⟩
   ·exact Or.inr e
   ·exact Or.elim h2 (fun h=>Or.inl (e2.trans h)) fun h=>Or.inr (e1.trans h)
  | emp =>
   rcases hd with ⟨e,_,e3⟩ | ⟨e1,e2⟩
   ·refine ⟨?_,e⟩
    cases q:d.opn with
    | false=>rfl
    | true=>exact ((e3 q).elim (fun h=>by rw [h2.1] at h;cases h) fun h=>absurd h2.2 h)
   ·exact ⟨e2.trans h2.1,e1.trans h2.2⟩
 ·rcases hd with ⟨_,e,_⟩ | ⟨e1,e2⟩
  ·exact absurd (qr ..) (Z2 e (hc _ h3))
  ·exact .inr (.inr ⟨B,l,es,q,by rw [he];exact h1,by rw [e1];exact h2,hc _ h3,by rw [e1];exact h4⟩)
def LG:Nat→List ib→Heap
 | _,[]=>[]
 | j,b::r=>(j,some b)::LG (j+1) r
theorem PY:∀ {bs:List ib} {j k:Nat} {b:ib},AF (LG j bs) k=some b→j≤k∧bs[k-j]? = some b
 | [],_,_,_,h=>by cases h
 | d::bs,j,k,b,h=>by
  simp only [LG,AF] at h;split at h
  ·rename_i e;have:=Ar.1 e
   subst this;injection h with h;exact ⟨ju _,by simp [h]⟩
  ·rename_i e;have:=I4 e
   obtain ⟨h1,h2⟩:=PY h;refine ⟨dn,?_⟩
   rw [show k-j=(k-(j+1))+1 by omega,List.getElem?_cons_succ]
   exact h2
theorem XV {β:Env} {H:Heap} {w:gn} {ρ:List Nat} {bs:List ib} (g:Ex.Good β H w)
  (h:∀ j d,bs[j]? = some d→∃ b,AF H (nth ρ j)=some b∧((d.ty=Br∧IQ d.cs=true∧(d.opn=true→b.opn=true∨b.ty≠Br))∨(d.ty=b.ty∧d.opn=b.opn))∧∀ l,AP β b.cs l→AP (A9 β ρ bs.length) d.cs l)
  (jd:∀ i j d,bs[i]? = some d→d.ty≠Br→i≠j→j<bs.length→nth ρ i≠nth ρ j):Ex.Good (A9 β ρ bs.length) (LG 0 bs) w:=by
 have jb:∀ {j:Nat} {d:ib},bs[j]? = some d→j<bs.length:=fun hj=>by
  rcases kf _ bs.length with h | h
  ·exact h
  ·rw [mq h] at hj;cases hj
 refine ⟨fun j blk hj=>?_,fun i j B n n' h1 h2 h3 h4=>?_,fun j B n hj=>?_⟩
 ·obtain ⟨_,hj⟩:=PY hj;rw [pv] at hj;obtain ⟨b,hb,hd,hc⟩:=h j blk hj;exact UU (g.heap _ b hb) (E6 (jb hj)) hd hc
 ·obtain ⟨d,hd,hr⟩:=GU h1;obtain ⟨e,he⟩:=mc.1 h2;obtain ⟨_,hd⟩:=PY hd;obtain ⟨_,he⟩:=PY he;rw [pv] at hd he;by_cases hij:i=j
  ·exact hij
  ·exfalso
   obtain ⟨b,hb,hdd,_⟩:=h i d hd;obtain ⟨b',hb',_⟩:=h j e he;rw [E6 (jb hd)] at h3;rw [E6 (jb he)] at h4;have hbr:b.ty≠Br:=by
    obtain ⟨e1,_⟩:=hdd.resolve_left fun h=>hr h.1
    rw [← e1];exact hr
   exact jd i j d hd hr hij (jb he) (g.inj _ _ B n n' (GC hb hbr) (by rw [hb'];rfl) h3 h4)
 ·unfold A9 at hj;split at hj
  ·exact g.lt _ _ _ hj
  ·cases hj
def An (c:List Ch):ib:=⟨Br,c,false⟩
theorem cE {β:Env} {H:Heap} {w:gn} {k:Nat} {b:ib} {c:List Ch} (g:Ex.Good β H w) (hk:AF H k=some b) (hc:∀ l,AP β b.cs l→AP (A9 β [k] 1) c l) (hw:IQ c=true:=by rfl):Ex.Good (A9 β [k] 1) [(0,some (An c))] w:=by
 refine XV (ρ:=[k]) (bs:=[An c]) g (fun j d hj=>?_) fun i j d hi hr=>?_
 ·match j,hj with
  | 0,hj=>injection hj with hj;subst hj;exact ⟨b,hk,.inl ⟨rfl,hw,nofun⟩,hc⟩
 ·match i,hi with
  | 0,hi=>injection hi with hi;subst hi;exact absurd rfl hr
theorem AD' {β:Env} {H:Heap} {w:gn} {k t:Nat} {b d:ib} {c e:List Ch} (g:Ex.Good β H w) (hk:AF H k=some b) (ht:AF H t=some d)
  (hc:∀ l,AP β b.cs l→AP (A9 β [k,t] 2) c l) (he:∀ l,AP β d.cs l→AP (A9 β [k,t] 2) e l) (hw:IQ c=true:=by rfl) (hv:IQ e=true:=by rfl):Ex.Good (A9 β [k,t] 2) [(0,some (An c)),(1,some (An e))] w:=by
 refine XV (ρ:=[k,t]) (bs:=[An c,An e]) g (fun j z hj=>?_) fun i j z hi hr=>?_
 ·match j,hj with
  | 0,hj=>injection hj with hj;subst hj;exact ⟨b,hk,.inl ⟨rfl,hw,nofun⟩,hc⟩
  | 1,hj=>injection hj with hj;subst hj;exact ⟨d,ht,.inl ⟨rfl,hv,nofun⟩,he⟩
 ·match i,hi with
  | 0,hi=>injection hi with hi;subst hi;exact absurd rfl hr
  | 1,hi=>injection hi with hi;subst hi;exact absurd rfl hr
theorem AEA {β:Env} {H:Heap} {w:gn} {k t:Nat} {b d:ib} {c e:List Ch} (g:Ex.Good β H w) (hk:AF H k=some b) (ht:AF H t=some d) (jd:k≠t)
  (hc:∀ l,AP β b.cs l→AP (A9 β [k,t] 2) c l) (he:∀ l,AP β d.cs l→AP (A9 β [k,t] 2) e l):Ex.Good (A9 β [k,t] 2) [(0,some ⟨b.ty,c,b.opn⟩),(1,some ⟨d.ty,e,d.opn⟩)] w:=by
 refine XV (ρ:=[k,t]) (bs:=[⟨b.ty,c,b.opn⟩,⟨d.ty,e,d.opn⟩]) g (fun j z hj=>?_) fun i j z hi hr hij hj=>?_
 ·match j,hj with
  | 0,hj=>injection hj with hj;subst hj;exact ⟨b,hk,.inr ⟨rfl,rfl⟩,hc⟩
  | 1,hj=>injection hj with hj;subst hj;exact ⟨d,ht,.inr ⟨rfl,rfl⟩,he⟩
 ·match i,j,hi,hj,hij with
  | 0,1,_,_,_=>exact jd
  | 1,0,_,_,_=>exact jd.symm
  | 0,0,_,_,q=>exact absurd rfl q
  | 1,1,_,_,q=>exact absurd rfl q
theorem XW {β0:Env} {w0:gn} {W:List Nat} {v:AV} {j:Nat} {ty:gt} {o:Bool} {c c':List Ch} (hc:∀ (β:Env) l,AP β c l→AP β c' l) {e:Ending} {w:gn} (h:BA β0 w0 W v [(j,some ⟨ty,c,o⟩)] e w):BA β0 w0 W v [(j,some ⟨ty,c',o⟩)] e w:=by
 obtain ⟨u,β,h1,h2⟩:=h;have hg:∀ b blk,AF [(j,some (⟨ty,c',o⟩:ib))] b=some blk→b=j∧blk=⟨ty,c',o⟩∧AF [(j,some (⟨ty,c,o⟩:ib))] b=some ⟨ty,c,o⟩:=by
  intro b blk hb;simp only [AF] at hb ⊢;split at hb
  ·rename_i hbj;injection hb with hb;exact ⟨(Ar.1 hbj).symm,hb.symm,rfl⟩
  ·cases hb
 refine ⟨u,β,h1,{ h2 with good:=⟨fun b blk hb=>?_,fun b b' B n n' q1 q2 q3 q4=>?_,h2.good.lt⟩ }⟩
 ·obtain ⟨e1,e2,e3⟩:=hg b blk hb;subst e2;exact UU (d:=⟨ty,c',o⟩) (h2.good.heap b _ e3) rfl (.inr ⟨rfl,rfl⟩) (hc β)
 ·obtain ⟨x,hx,_⟩:=GU q1;obtain ⟨y,hy⟩:=mc.1 q2;rw [(hg b x hx).1,(hg b' y hy).1]
def Cu (x:Int) (y T:Nat):Nat→Int
 | 0=>0
 | i+1=>mW (mW (Jx x (AE y i)+DQ (FA x (AE y i)) (Cu x y T i) 0)+DQ (AE T i) (CT (FA x (AE y i)) (Cu x y T i) 0) 0)
def By (x:Int) (y T i:Nat):Int:=CT (AE T i) (CT (FA x (AE y i)) (Cu x y T i) 0) 0
def PZ (x:Int) (y T:Nat):Int:=CT (AE T 6) (Cu x y T 6) 0
def UV (x:Int) (y T:Nat):Int:=mW (AE T 7+DQ (AE T 6) (Cu x y T 6) 0)
theorem AEB {a T c:Int} (ha:0≤a∧a≤340282366920938463426481119284349108225) (hT:0≤T∧T<18446744073709551616) (hc:0≤c∧c<18446744073709551616) :
  a+T+c=CT T (CT (a % 18446744073709551616) c 0) 0+18446744073709551616*mW (mW (a / 18446744073709551616+DQ (a % 18446744073709551616) c 0)+DQ T (CT (a % 18446744073709551616) c 0) 0) ∧
  (0≤mW (mW (a / 18446744073709551616+DQ (a % 18446744073709551616) c 0)+DQ T (CT (a % 18446744073709551616) c 0) 0)∧mW (mW (a / 18446744073709551616+DQ (a % 18446744073709551616) c 0)+DQ T (CT (a % 18446744073709551616) c 0) 0)<18446744073709551616):=by
 simp only [Fu];unfold CT DQ;omega
theorem rP {x y:Int} (hx:0≤x∧x<18446744073709551616) (hy:0≤y∧y<18446744073709551616):0≤x*y∧x*y≤340282366920938463426481119284349108225:=by
 refine ⟨Int.mul_nonneg hx.1 hy.1,?_⟩
 have:=Int.mul_le_mul (show x≤18446744073709551615 by omega) (show y≤18446744073709551615 by omega) hy.1 dp
 omega
theorem rS {x:Int} (hx:0≤x∧x<18446744073709551616) (y T:Nat):∀ i,0≤Cu x y T i∧Cu x y T i<18446744073709551616
 | 0=>by simp [Cu]
 | i+1=>(AEB (rP hx (Bx y i)) (Bx T i) (rS hx y T i)).2
theorem RV {x:Int} (hx:0≤x∧x<18446744073709551616) (y T i:Nat):x*AE y i+AE T i+Cu x y T i=By x y T i+18446744073709551616*Cu x y T (i+1) :=
 (AEB (rP hx (Bx y i)) (Bx T i) (rS hx y T i)).1
def R8:Nat:=13407807929942597099574024998205846127479365820592393377723561443721764030073546976801874298166903427690031858186486050853753882811946569946433649006084096
theorem AEC:R8=2^(64*8):=dm
def Hs (T:Nat) (x:Int) (y:Nat):Nat:=(T+x.toNat*y) % R8
def Ml (x:Int) (y T:Nat):dt:=[By x y T 0,By x y T 1,By x y T 2,By x y T 3,By x y T 4,By x y T 5,PZ x y T,UV x y T]
def XY (x:Int) (y T:Nat):dt:=[By x y T 1,By x y T 2,By x y T 3,By x y T 4,By x y T 5,PZ x y T,UV x y T,0]
theorem APr {x:Int} (hx:0≤x∧x<18446744073709551616) {y T:Nat} (hy:y<RR) (hT:T<R8) :
  ((Hs T x y:Nat):Int)=Bj (Ml x y T)∧((Hs T x y / 18446744073709551616:Nat):Int)=Bj (XY x y T):=by
 have e0:x*AE y 0+AE T 0+Cu x y T 0=By x y T 0+18446744073709551616*Cu x y T 1:=RV hx y T 0
 have e1:x*AE y 1+AE T 1+Cu x y T 1=By x y T 1+18446744073709551616*Cu x y T 2:=RV hx y T 1
 have e2:x*AE y 2+AE T 2+Cu x y T 2=By x y T 2+18446744073709551616*Cu x y T 3:=RV hx y T 2
 have e3:x*AE y 3+AE T 3+Cu x y T 3=By x y T 3+18446744073709551616*Cu x y T 4:=RV hx y T 3
 have e4:x*AE y 4+AE T 4+Cu x y T 4=By x y T 4+18446744073709551616*Cu x y T 5:=RV hx y T 4
 have e5:x*AE y 5+AE T 5+Cu x y T 5=By x y T 5+18446744073709551616*Cu x y T 6:=RV hx y T 5
 have z:Cu x y T 0=0:=rfl
 have c6:=rS hx y T 6;have t6:=Bx T 6;have t7:=Bx T 7;have e6:AE T 6+Cu x y T 6=PZ x y T+18446744073709551616*DQ (AE T 6) (Cu x y T 6) 0:=by unfold PZ CT DQ;omega
 have b0:0≤By x y T 0∧By x y T 0<18446744073709551616:=by unfold By CT;omega
 have b1:0≤By x y T 1∧By x y T 1<18446744073709551616:=by unfold By CT;omega
 have b2:0≤By x y T 2∧By x y T 2<18446744073709551616:=by unfold By CT;omega
 have b3:0≤By x y T 3∧By x y T 3<18446744073709551616:=by unfold By CT;omega
 have b4:0≤By x y T 4∧By x y T 4<18446744073709551616:=by unfold By CT;omega
 have b5:0≤By x y T 5∧By x y T 5<18446744073709551616:=by unfold By CT;omega
 have b6:0≤PZ x y T∧PZ x y T<18446744073709551616:=by unfold PZ CT;omega
 have e7:UV x y T=(AE T 7+DQ (AE T 6) (Cu x y T 6) 0) % 18446744073709551616:=Fu _
 have dT:=XT 8 T (by rw [← AEC];exact hT)
 have dy:=XT 6 y (by rw [← DM];exact hy)
 have dT':Bj [AE T 0,AE T 1,AE T 2,AE T 3,AE T 4,AE T 5,AE T 6,AE T 7]=T:=dT
 have dy':Bj [AE y 0,AE y 1,AE y 2,AE y 3,AE y 4,AE y 5]=y:=dy
 have em:x*(y:Int)=Bj [x*AE y 0,x*AE y 1,x*AE y 2,x*AE y 3,x*AE y 4,x*AE y 5]:=by
  rw [← dy'];simp only [Bj,qz,Int.mul_zero,Int.mul_left_comm x 18446744073709551616]
 have key:((T+x.toNat*y:Nat):Int)=Bj (Ml x y T)+(R8:Nat)*((AE T 7+DQ (AE T 6) (Cu x y T 6) 0) / 18446744073709551616):=by
  have:((x.toNat*y:Nat):Int)=x*y:=by rw [lu,uq hx.1]
  rw [qo,this,em,← dT'];clear em this dT dy dT' dy';generalize x*AE y 0=q0 at *
  generalize x*AE y 1=q1 at *
  generalize x*AE y 2=q2 at *
  generalize x*AE y 3=q3 at *
  generalize x*AE y 4=q4 at *
  generalize x*AE y 5=q5 at *
  generalize DQ (AE T 6) (Cu x y T 6) 0=o at *
  unfold Ml R8;simp only [Bj];omega
 have hbd:0≤Bj (Ml x y T)∧Bj (Ml x y T)<(R8:Nat):=by
  have b7:0≤UV x y T∧UV x y T<18446744073709551616:=dn
  clear key em dT dy dT' dy' e0 e1 e2 e3 e4 e5 e6 e7;unfold Ml R8;simp only [Bj];omega
 have h0:((Hs T x y:Nat):Int)=Bj (Ml x y T):=by
  unfold Hs;rw [Int.natCast_emod,key,Int.add_mul_emod_self_left,Int.emod_eq_of_lt hbd.1 hbd.2]
 refine ⟨h0,?_⟩
 rw [se,h0];have:Bj (Ml x y T)=By x y T 0+18446744073709551616*Bj (XY x y T):=by
  unfold Ml XY;simp only [Bj];omega
 omega
def Pa (y T:Nat):Heap:=[(0,some ⟨40,[.num 6 y],false⟩),(1,some ⟨186,[.num 8 T],false⟩)]
def Pb (x s:Int):List AV:=[.val false [.v (.int .u64 x)],.val false [.p 0 0],.val false [.n .i64 s],.val false [.p 1 0]]
def JE:Nat→du
 | 0=>[]
 | n+1=>(true,true)::JE n
theorem Nt:∀ n,AM (JE n)
 | 0=>trivial
 | n+1=>⟨rfl,Nt n⟩
theorem APs (x:Int) (y T:Nat):AU dr (AG S5 K0) f202 600 2 [1] (Ak f202 (Pb x 0) (Pa y T) 2 []) =
 some (JE 15,[1],.tup [],[(1,some ⟨186,Ma (Ml x y T),false⟩)]):=dm
def nv:Ch→Ch
 | .n k i=>.v (.int k i)
 | c=>c
theorem APt {β:Env} {c:Ch} {l:List gq} (h:BM β c l):BM β (nv c) l:=by
 cases c<;>try exact h
 exact ⟨h.1,rfl,h.2⟩
theorem XZ {β:Env}:∀ {cs:List Ch} {l:List gq},AP β cs l→AP β (cs.map nv) l
 | [],_,h=>h
 | _::_,_,⟨l1,l2,h1,h2,h3⟩=>⟨l1,l2,APt h1,XZ h2,h3⟩
def AED (x:Int) (y T:Nat):List Ch:=[.v (.int .u64 (By x y T 1)),.v (.int .u64 (By x y T 2)),.v (.int .u64 (By x y T 3)),.v (.int .u64 (By x y T 4)),.v (.int .u64 (By x y T 5)),.v (.int .u64 (PZ x y T)),.v (.int .u64 (UV x y T)),.n .u64 0]
theorem APu (x:Int) (y T:Nat):AU dr (AG S5 K0) f202 600 2 [1] (Ak f202 (Pb x 1) (Pa y T) 2 []) =
 some (JE 15,[1],.tup [],[(1,some ⟨186,AED x y T,false⟩)]):=dm
theorem APv (x:Int) (y T:Nat):Ma (XY x y T)=(AED x y T).map nv:=rfl
def Xa (T:Nat):Heap:=[(1,some ⟨186,[.num 8 T],false⟩)]
theorem AEE {x:Int} (hx:0≤x∧x<18446744073709551616) {y T:Nat} (hy:y<RR) (hT:T<R8) :
  Ab dr 202 (Pb x 0) (Pa y T) 2 [1] (.tup []) (Xa (Hs T x y))∧Ab dr 202 (Pb x 1) (Pa y T) 2 [1] (.tup []) (Xa (Hs T x y / 18446744073709551616)):=by
 obtain ⟨h0,h1⟩:=APr hx hy hT;constructor
 ·intro β us w ha hg hf;have:=A_ func202 dm (iw:=Pb x 0) (H0:=Pa y T) (k0:=2) (ie:=[]) (W:=[1]) dm (fun β0 w0 hb=>A6 (AH cC Ac) AB func202 (APs x y T) (Nt _) (AR dm) hb (fun _ h=>h)) β us w ha hg hf
  exact Calls.mono this fun e w' h=>XW (fun _ _ hr=>cD h0 hr) h
 ·intro β us w ha hg hf;have:=A_ func202 dm (iw:=Pb x 1) (H0:=Pa y T) (k0:=2) (ie:=[]) (W:=[1]) dm (fun β0 w0 hb=>A6 (AH cC Ac) AB func202 (APu x y T) (Nt _) (AR dm) hb (fun _ h=>h)) β us w ha hg hf
  exact Calls.mono this fun e w' h=>XW (fun _ _ hr=>cD (ds:=XY x y T) h1 (by rw [APv];exact XZ hr)) h
def rT (k t fr:Nat) (T:Nat) (ie:List Bool):R:=BP [k,t] 2 fr 0 [1] (.tup []) (Xa T) [] ie
def stepSpec:ASpec:=fun args H fr ie =>
 match args with
 | [X,.val false [.p k 0],.val false [.n .i64 s],.val false [.p t 0]]=>match Bp (some X),AF H k,AF H t with
  | some (_,.u64,x),some ⟨ty1,c1,false⟩,some ⟨ty2,c2,false⟩=>match Nat.beq ty1 40,Nat.beq ty2 186,DE 6 c1,DE 8 c2,Nat.beq k t with
   | true,true,some y,some T,false=>match s with
    | .ofNat 0=>some (rT k t fr (Hs T x y) ie)
    | .ofNat 1=>some (rT k t fr (Hs T x y / 18446744073709551616) ie)
    | _=>none
   | _,_,_,_,_=>none
  | _,_,_=>none
 | _=>none
theorem J0 {β:Env} {H:Heap} {w:gn} {k:Nat} {b:ib} (g:Ex.Good β H w) (h:AF H k=some b):∃ l,AP β b.cs l:=by
 rcases g.heap k b h with ⟨_,_,l,_,_,_,_,_,h,_⟩ | ⟨_,_,_,h⟩ | ⟨_,l,_,_,_,_,h,_⟩
 ·exact ⟨l,h⟩
 ·exact ⟨_,h⟩
 ·exact ⟨_,h⟩
theorem APw:BI dr 202 stepSpec:=by
 refine GW func202 dm dm fun args H fr ie r h=>?_
 unfold stepSpec at h;split at h;case h_2=>cases h
 rename_i X k s t;split at h;case h_2=>cases h
 rename_i c0 x ty1 c1 ty2 c2 hX hk ht;split at h;case h_2=>cases h
 rename_i y T q1 q2 hy hT jd;have q1':=Ar.1 q1;have q2':=Ar.1 q2;subst q1';subst q2';have hne':k≠t:=fun e=>by subst e;rw [Ar.2 rfl] at jd;cases jd
 have core:∀ (v:Nat) (r:R),r=rT k t fr v ie→(∀ (hx:0≤x∧x<18446744073709551616) (_:y<RR) (_:T<R8),Ab dr 202 (Pb x s) (Pa y T) 2 [1] (.tup []) (Xa v))→∃ (ρ:List Nat) (iw:List AV) (H0:Heap) (k0 nw:Nat) (W:List Nat) (val:AV) (H1:Heap) (conds:du) (path':List Bool),
   r=BP ρ k0 fr nw W val H1 conds path'∧(∀ β us w,BL β [X,.val false [.p k 0],.val false [.n .i64 s],.val false [.p t 0]] us→Ex.Good β H w→AM conds→Ab dr 202 iw H0 k0 W val H1∧EJ k0 nw W val H1=true∧BL (A9 β ρ k0) iw us∧Ex.Good (A9 β ρ k0) H0 w∧(∀ k,k<k0→∃ X,β (nth ρ k)=some X)):=by
  intro v r hr hc;refine ⟨[k,t],Pb x s,Pa y T,2,0,[1],.tup [],Xa v,[],ie,hr,fun β us w ha hg _=>?_⟩
  obtain ⟨u1,jf,r1,⟨u2,jg,r2,⟨u3,us3,r3,⟨u4,us4,r4,ha,rfl⟩,rfl⟩,rfl⟩,rfl⟩:=ha;obtain ⟨rfl,p1⟩:=C3 (β:=β) (u:=u1) (fv r1) hX
  obtain ⟨l1,g1⟩:=J0 hg hk;obtain ⟨l2,g2⟩:=J0 hg ht;refine ⟨hc (EH p1) (by rw [DM];exact (Hm hy g1).2) (by rw [AEC];exact (Hm hT g2).2),dm,⟨_,_,Az ⟨rfl,rfl,p1⟩,⟨u2,_,?_,⟨u3,_,?_,⟨u4,us4,?_,ha,rfl⟩,rfl⟩,rfl⟩,rfl⟩,AEA hg hk ht hne' (fun l h=>GI hy h) (fun l h=>GI hT h),fun j hj=>?_⟩
  ·exact r2
  ·exact r3
  ·exact r4
  ·match j,hj with
   | 0,_=>exact CM (hg.heap _ _ hk)
   | 1,_=>exact CM (hg.heap _ _ ht)
 split at h
 ·injection h with h;exact core _ _ h.symm fun a b c=>(AEE a b c).1
 ·injection h with h;exact core _ _ h.symm fun a b c=>(AEE a b c).2
 ·cases h
def S6:dw:=(202,stepSpec)::S5
theorem rU:AX dr S6:=⟨APw,cC⟩
def mP:Int:=0x89f3fffcfffcfffd
def Xb (T:Nat) (x:Int) (b:Nat):Nat:=Hs (Hs T x b) (mW (AE (Hs T x b) 0*mP)) pN / 18446744073709551616
def LI (a b:Nat):Nat→Nat
 | 0=>0
 | i+1=>Xb (LI a b i) (AE a i) b
def rV (T:Nat):Nat:=JD (PX (AE T 0) (AE T 1) (AE T 2) (AE T 3) (AE T 4) (AE T 5)) (AE T 6).toNat
theorem APx (x y:Nat):AJ dr (AG S6 K0) f135 [Ad x,Ad y] [] 3000=some (JE 2,Ad (rV (LI x y 6))):=dm
def RI:Nat:=3231460744492646417066832100176244795738767926513225105051837195607029917124509527734802654356338138714468589979680
theorem AEF:RR*RI % pN=1:=dm
theorem rZ (x i:Nat):(AE x i).toNat=x / 2^(64*i) % 2^64:=by unfold AE;omega
theorem APy:0x89f3fffcfffcfffd*pN % 18446744073709551616=18446744073709551615:=dm
theorem APz {s q:Nat} (h:q % 18446744073709551616=s % 18446744073709551616*18446744073709551615 % 18446744073709551616):(s+q) % 18446744073709551616=0:=dn
theorem AP0 (s:Nat):(s+(s % 18446744073709551616*0x89f3fffcfffcfffd % 18446744073709551616)*pN) % 18446744073709551616=0:=by
 apply APz
 rw [qm,lm,kz (s % 18446744073709551616) (0x89f3fffcfffcfffd*pN),APy,nu]
theorem RW (n:Nat):mW (n:Int)=((n % 18446744073709551616:Nat):Int):=by rw [Fu];omega
theorem AP1 {T:Nat} {x:Int} {b:Nat} (hx:0≤x∧x<18446744073709551616) (hb:b<pN) (hT:T<b+pN):∃ m,Xb T x b*18446744073709551616=T+x.toNat*b+m*pN∧Xb T x b<b+pN:=by
 have hp:pN+pN<RR:=RU
 have hx2:x.toNat≤18446744073709551615:=dn
 have h1:x.toNat*b≤18446744073709551615*b:=my b hx2
 have s1:Hs T x b=T+x.toNat*b:=by
  unfold Hs;refine jv ?_
  unfold RR at hp;unfold R8;omega
 have hm:(mW (AE (T+x.toNat*b) 0*mP)).toNat=(T+x.toNat*b) % 18446744073709551616*0x89f3fffcfffcfffd % 18446744073709551616:=by
  have e1:AE (T+x.toNat*b) 0=(((T+x.toNat*b) % 18446744073709551616:Nat):Int):=by
   simp only [AE,me,kx,ld]
  have e2:mP=((0x89f3fffcfffcfffd:Nat):Int):=rfl
  rw [e1,e2,← lu,RW,jz]
 have hz:=AP0 (T+x.toNat*b)
 unfold Xb;rw [s1];have h2:Hs (T+x.toNat*b) (mW (AE (T+x.toNat*b) 0*mP)) pN=T+x.toNat*b+(T+x.toNat*b) % 18446744073709551616*0x89f3fffcfffcfffd % 18446744073709551616*pN:=by
  unfold Hs;rw [hm];refine jv ?_
  have h3:(T+x.toNat*b) % 18446744073709551616*0x89f3fffcfffcfffd % 18446744073709551616≤18446744073709551615:=dn
  have h4:=my pN h3;unfold RR at hp;unfold R8;omega
 rw [h2];refine ⟨(T+x.toNat*b) % 18446744073709551616*0x89f3fffcfffcfffd % 18446744073709551616,?_,?_⟩
 ·omega
 ·have h3:(T+x.toNat*b) % 18446744073709551616*0x89f3fffcfffcfffd % 18446744073709551616≤18446744073709551615:=dn
  have h4:=my pN h3;generalize (T+x.toNat*b) % 18446744073709551616*0x89f3fffcfffcfffd % 18446744073709551616*pN=q at *
  generalize x.toNat*b=r at *
  omega
theorem AEG {a b:Nat} (hb:b<pN):∀ i,∃ k,LI a b i*2^(64*i)=a % 2^(64*i)*b+k*pN∧LI a b i<b+pN
 | 0=>⟨0,by simp [LI,Nat.mod_one],by have:=C6;simp only [LI];omega⟩
 | i+1=>by
  obtain ⟨k,h1,h2⟩:=AEG (a:=a) hb i
  obtain ⟨m,h3,h4⟩:=AP1 (EH (Z0 a i)) hb h2
  refine ⟨k+m*2^(64*i),?_,h4⟩
  rw [rZ] at h3;have e:2^(64*(i+1))=18446744073709551616*2^(64*i):=by rw [show 64*(i+1)=64+64*i by omega,kc]
  have e2:a % 2^(64*(i+1))=a % 2^(64*i)+2^(64*i)*(a / 2^(64*i) % 2^64):=by
   rw [show 64*(i+1)=64*i+64 by omega,kc,Nat.mod_mul]
  rw [e2,e];show Xb (LI a b i) (AE a i) b*_=_;rw [← lm,h3,lv,lv,h1,lv,lv];rw [si (a / 2^(64*i) % 2^64) b,ko (a / 2^(64*i) % 2^64) (2^(64*i)),si m pN];omega
def EL (x y:Nat):Nat:=rV (LI x y 6)
theorem AEH {x:Nat} (h:x<RR):PX (AE x 0) (AE x 1) (AE x 2) (AE x 3) (AE x 4) (AE x 5)=x:=by
 have h1:=RS (x:=x) (by rw [← DM];exact h)
 have h2:=(cA (Bx x 0) (Bx x 1) (Bx x 2) (Bx x 3) (Bx x 4) (Bx x 5)).1
 omega
theorem UW {x y:Nat} (hx:x<RR) (hy:y<pN):EL x y=x*y*RI % pN:=by
 obtain ⟨k,h1,h2⟩:=AEG (a:=x) hy 6
 have hp:=RU;have jb:LI x y 6<RR:=dn
 unfold EL rV;rw [AEH jb,rZ,← DM] at *
 have e6:LI x y 6 / RR=0:=mf jb
 rw [e6,pr,rO dn]
 try rw [jv hx] at h1
 have h3:LI x y 6*RR*RI % pN=x*y*RI % pN:=by
  rw [h1,lv,si k pN,Nat.add_mul_mod_self_right]
 rw [← h3,lm,kz,AEF,kt,nu]
theorem AP2 (x y:Nat):AT dr 135 [Ad x,Ad y] (Ad (EL x y)):=AN (AH rU Ac) AB func135 (APx x y) (Nt _) rfl
def JF:Nat:=2708263910654730174793787626328176511836455197166317677006154293982164122222515399004018013397331347120527951271750
theorem AP3:AJ dr (AG S6 K0) f136 [] [] 100=some ([],.val true [.n .u64 0xf4df1f341c341746,.n .u64 0xa76e6a609d104f1,.n .u64 0x8de5476c4c95b6d5,.n .u64 0x67eb88a9939d83c0,.n .u64 0x9a793e85b519952d,.n .u64 0x11988fe592cae3aa]):=dm
theorem RX {f:gp} {v v':AV} (h:AT dr f [] v) (hv:∀ u,AO CB v u→AO CB v' u):∀ args w,(match args with | []=>some v' | _=>none)=some w→AT dr f args w:=by
 intro args w hs;split at hs
 ·injection hs with hs;subst hs;intro us w ha;refine Calls.mono (h us w ha) ?_
  rintro e w' ⟨u,h1,h2,h3⟩
  exact ⟨u,h1,hv u h2,h3⟩
 ·cases hs
theorem AP4:AT dr 136 [] (.val true [.n .u64 0xf4df1f341c341746,.n .u64 0xa76e6a609d104f1,.n .u64 0x8de5476c4c95b6d5,.n .u64 0x67eb88a9939d83c0,.n .u64 0x9a793e85b519952d,.n .u64 0x11988fe592cae3aa]):=AN (AH rU Ac) AB func136 AP3 trivial rfl
theorem Xc {β:Env} {a:List Ch} {x:Nat} (h:DE 6 a=some x) {u:gq} (hr:AO β (.val true a) u):AO β (Ad x) u:=(Np h hr).1
def S7:dw:=(136,Af fun args=>match args with | []=>some (Ad JF) | _=>none)::(135,Af (LF fun x y=>Ad (EL x y)))::S6
theorem AEI:AX dr S7:=⟨Ah func136 dm dm (RX AP4 fun u h=>Xc dm h),Ah func135 dm dm (Ns fun x y _ _=>AP2 x y),rU⟩
theorem AP5 (x y:Nat):AJ dr (AG S7 K0) f62 [Ad x,Ad y] [] 300=some ([],Ad (EL (EL (x % pN) (y % pN)) JF)):=dm
def Ae (x y:Nat):Nat:=x*y % pN
theorem AP6:JF*RI % pN*RI % pN=1:=dm
theorem AEJ:JF<pN:=dp
theorem AP7 {x y:Nat} (hx:x<RR) (hy:y<pN):EL x y<pN:=by rw [UW hx hy];exact ki _ C6
theorem AP8 (x y:Nat):EL (EL (x % pN) (y % pN)) JF=Ae x y:=by
 have h1:=Jz x;have h2:=Hr y;have h3:=AP7 h1 h2;rw [UW (nl h3 dp) AEJ,UW h1 h2];unfold Ae;have:=AP6
 rw [qm] at this;rw [lm,qm,show x % pN*(y % pN)*RI*(JF*RI)=(x % pN*(y % pN))*(JF*RI*RI) by simp only [ko,nb],kz,this,kt,nu,← kz]
theorem AEK (x y:Nat):AT dr 62 [Ad x,Ad y] (Ad (Ae x y)):=by
 rw [← AP8];exact AN (AH AEI Ac) AB func62 (AP5 x y) trivial rfl
def S8:dw:=(62,Af (LF fun x y=>Ad (Ae x y)))::S7
theorem Xd:AX dr S8:=⟨Ah func62 dm dm (Ns fun x y _ _=>AEK x y),AEI⟩
abbrev d_:List Bool:=[true,true]
abbrev eg:List Bool:=[true,false]
open Ex
set_option maxRecDepth 100000
set_option maxHeartbeats 4000000
def wI (z:Int):Int:=IntKind.i64.wrap z
theorem Au {z:Int} (h:-9223372036854775808≤z∧z≤9223372036854775807):wI z=z:=by unfold wI;rw [IntKind.wrap_i64];omega
def JG (v s:Int):Int:=bits .and .u64 (Int.fdiv v (2^min s.toNat 64)) 1
theorem Xe (v s:Nat) (hv:v<18446744073709551616) (hs:s<64):JG v s=((v / 2^s % 2:Nat):Int):=by
 unfold JG;rw [jz,mr dn,q_ _ (by exact_mod_cast qt (2^s))]
 have e:((v:Int) / 2^s)=((v / 2^s:Nat):Int):=by
  rw [se,ql];rfl
 rw [e];have jb:v / 2^s<18446744073709551616:=qj (ra _ _) hv
 have h:=(bits_nat .u64 64 dp (fun n h0 h1=>by rw [IntKind.wrap_u64];omega) (v / 2^s) 1 dn dp).1
 refine Eq.trans h ?_
 rw [Nat.and_one_is_mod]
def AI:dt→Nat
 | []=>0
 | d::r=>d.toNat+18446744073709551616*AI r
theorem Xf:∀ (ws:dt) (j:Nat),(∀ d∈ws,0≤d∧d<18446744073709551616)→AI ws / 2^(64*j) % 2^64=(ws.getD j 0).toNat
 | [],j,_=>by simp [AI]
 | d::r,0,h=>by
  have:=h d (by simp)
  simp only [AI,me,kx,ld,List.getD_cons_zero];omega
 | d::r,j+1,h=>by
  have hd:=h d (by simp)
  have ih:=Xf r j fun d h'=>h d (by simp [h'])
  rw [show 64*(j+1)=64+64*j by omega,kc,← ll]
  have:AI (d::r) / 2^64=AI r:=by simp only [AI];omega
  rw [this,ih];rfl
theorem JH:∀ (ws:dt),(∀ d∈ws,0≤d∧d<18446744073709551616)→AI ws<2^(64*ws.length)
 | [],_=>by simp [AI]
 | d::r,h=>by
  have hd:=h d (by simp)
  have ih:=JH r fun d h'=>h d (by simp [h'])
  rw [k_,show 64*(r.length+1)=64+64*r.length by omega,kc]
  simp only [AI];generalize 2^(64*r.length)=Q at *
  omega
theorem Xg (ws:dt) (i:Nat) (h:∀ d∈ws,0≤d∧d<18446744073709551616):(ws.getD (i / 64) 0).toNat / 2^(i % 64) % 2=AI ws / 2^i % 2:=by
 rw [← Xf ws (i / 64) h];have e:2^64=2^(i % 64)*2^(64-i % 64):=by rw [← kc];congr 1;omega
 rw [e,Nat.mod_mul_right_div_self,ll,← kc,show 64*(i / 64)+i % 64=i by omega]
 refine vd _ ?_
 have:64-i % 64=(63-i % 64)+1:=dn
 rw [this,lj];exact Nat.dvd_mul_left _ _
def HL (y:Nat):Nat:=y*RR % pN
theorem r7 (y:Nat):HL y<pN:=ki _ C6
theorem AEL:∀ y,y*(RR*RI) % pN=y % pN:=fun y=>by rw [kz,AEF,kt,nu]
theorem r9 (a b:Nat):EL (HL a) (HL b)=HL (a*b):=by
 rw [UW (nl (r7 a) dp) (r7 b)];unfold HL;rw [lm,qm,nb,qm,← lm,show b*RR*(a*RR)*RI=a*b*RR*(RR*RI) by simp only [ko,nb],AEL]
theorem AP9:JF*RI % pN=RR % pN:=dm
theorem AEM {x:Nat} (hx:x<RR):EL x JF=HL x:=by
 rw [UW hx AEJ,lm,kz,AP9,← kz];rfl
theorem AP_ (y:Nat):EL (HL y) 1=y % pN:=by
 rw [UW (nl (r7 y) dp) dp,kt];unfold HL;rw [qm,lm,AEL]
theorem AP' (y:Nat):HL (y % pN)=HL y:=by unfold HL;rw [qm]
noncomputable def AQA:List Item:=B6 (AZ dr (AG S8 K0) (some 0) 100 1 (some ([1,4,5,6,7],[0,2,3,4],5)) (Ak f130 [Ad 0,.val false [.sl 0 0 0 0]] [(0,some ⟨0,[.seq .u64 []],false⟩)] 1 []))
noncomputable def AQB (ic n m:Nat) (i:Int):List AV:=.any::.val false [.sl 0 ic n m]::.any::.any::.val false [.p 2 0]::.val false [.p 3 0]::.val false [.p 4 0]::.val false [.v (.int .i64 i)]::List.replicate (f130.ntmps-8) .any
noncomputable def Nu (ic n m:Nat) (xs:dt) (b acc:Nat) (i:Int) (ie:List Bool):h_:=⟨AQA,⟨AQB ic n m i,
 [(0,some (An [.seq .u64 xs])),(2,some ⟨40,GY,false⟩),(3,some ⟨40,[.num 6 b],false⟩),(4,some ⟨40,[.num 6 acc],false⟩)],5,ie⟩⟩
def Nv (x ic n m:Nat):List AV:=[Ad x,.val false [.sl 0 ic n m]]
def BE (xs:dt):Heap:=[(0,some (An [.seq .u64 xs]))]
theorem AQC (x ic n m:Nat) (xs:dt):AZ dr (AG S8 K0) (some 0) 100 1 (some ([1,4,5,6,7],[0,2,3,4],5)) (Ak f130 (Nv x ic n m) (BE xs) 1 []) =
 some ([(AK .i64 n,true)],[],Nu ic n m xs (EL (x % pN) JF) (EL 1 JF) (wI (wI (64*(n:Int))-1)) []):=dm
def CU (xs:dt) (ic:Nat) (i:Int):Int:=xs.getD (ic+(wI (Int.tdiv i 64)).toNat*1) 0
def sA (ic n:Nat) (xs:dt) (i:Int) (bit:Bool):du:=[(decide (0≤i),true),(true,true),(decide (0≤wI (Int.tdiv i 64)∧wI (Int.tdiv i 64)<n),true),
 (decide (ic+(wI (Int.tdiv i 64)).toNat*1<xs.length),true),(decide (0≤i∧(0:Int)<64),true),(decide (0≤Int.tmod i 64∧0≤CU xs ic i),true),(decide (JG (CU xs ic i) (Int.tmod i 64)=1),bit)]
theorem pow_one (ic n m b acc:Nat) (xs:dt) (i:Int):AZ dr (AG S8 K0) (some 0) 100 1 (some ([1,4,5,6,7],[0,2,3,4],5)) (Nu ic n m xs b acc i d_) =
 some (sA ic n xs i true,[],Nu ic n m xs b (EL (EL acc acc) b) (wI (i-1)) []):=dm
theorem pow_zero (ic n m b acc:Nat) (xs:dt) (i:Int):AZ dr (AG S8 K0) (some 0) 100 1 (some ([1,4,5,6,7],[0,2,3,4],5)) (Nu ic n m xs b acc i eg) =
 some (sA ic n xs i false,[],Nu ic n m xs b (EL acc acc) (wI (i-1)) []):=dm
theorem AQD (ic n m b acc:Nat) (xs:dt) (i:Int):AU dr (AG S8 K0) f130 100 1 [] (Nu ic n m xs b acc i dx) =
 some ([(decide (0≤i),false)],[],Ad (EL acc 1),[]):=dm
theorem sF (ic n m b acc:Nat) (xs:dt) (i:Int) (p:List Bool):BW f130.ntmps (Nu ic n m xs b acc i p).s:=AR dm
theorem AEN (x E:Nat):∃ y,y=x^E % pN:=⟨_,rfl⟩
noncomputable def C8 (x E:Nat):Nat:=Classical.choose (AEN x E)
theorem LJ (x E:Nat):C8 x E=x^E % pN:=lf (AEN x E)
def Ht (x E c:Nat):Nat:=HL (x^(E / 2^c))
theorem JI {xs:dt} {ic n:Nat} {j:Nat} (hj:j<n):((xs.drop ic).take n).getD j 0=xs.getD (ic+j) 0:=by
 rw [kq,kq,rx hj,qv]
section
variable {ic n m:Nat} {xs:dt} (ip:∀ d∈xs,0≤d∧d<18446744073709551616) (ii:ic+n≤xs.length) (hn:n≤1125899906842624) {x:Nat} {β0:Env} {w0:gn} (hb:∀ b,1≤b→β0 b=none)
include ip ii hn hb
theorem AQE:∀ c,c≤64*n→gz dr 130 β0 w0 (BA β0 w0 [] (Ad (C8 x (AI ((xs.drop ic).take n)))) []) f130.ntmps [] (Nu ic n m xs (HL x) (Ht x (AI ((xs.drop ic).take n)) c) ((c:Int)-1) []):=by
 intro c;induction c with
 | zero =>
  intro _;have h:gz dr 130 β0 w0 (BA β0 w0 [] (Ad (EL (Ht x (AI ((xs.drop ic).take n)) 0) 1)) []) f130.ntmps [] (Nu ic n m xs (HL x) (Ht x (AI ((xs.drop ic).take n)) 0) (((0:Nat):Int)-1) dx) :=
   A6 (AH Xd Ac) AB func130 (AQD ..) ⟨rfl,trivial⟩ (sF ..) hb jl
  rw [show EL (Ht x (AI ((xs.drop ic).take n)) 0) 1=C8 x (AI ((xs.drop ic).take n)) from by unfold Ht;rw [LJ,kx,ld,AP_]] at h
  exact Ai dx h
 | succ c ih =>
  intro hc;have hi:((c+1:Nat):Int)-1=(c:Int):=dn
  rw [hi];have jb:∀ d∈(xs.drop ic).take n,0≤d∧d<18446744073709551616:=fun d hd=>ip d (pn (qh hd))
  have hq:Int.tdiv (c:Int) 64=((c / 64:Nat):Int):=by rw [qk dn];rfl
  have hr:Int.tmod (c:Int) 64=((c % 64:Nat):Int):=by rw [o_ dn];rfl
  have hw:wI (Int.tdiv (c:Int) 64)=((c / 64:Nat):Int):=by rw [hq];exact Au dn
  have hj:c / 64<n:=dn
  have hv:CU xs ic c=((xs.drop ic).take n).getD (c / 64) 0:=by
   unfold CU;rw [hw,jz,kt,JI hj]
  have hvb:0≤CU xs ic c∧CU xs ic c<18446744073709551616:=by
   rw [hv,kq];cases h:((xs.drop ic).take n)[c / 64]? with
   | none=>simp
   | some d=>exact jb d (pm h)
  have hbit:JG (CU xs ic c) (Int.tmod c 64)=((AI ((xs.drop ic).take n) / 2^c % 2:Nat):Int):=by
   obtain ⟨V,hV⟩:=kw hvb.1;rw [hr,← Xg _ c jb,← hv,hV,jz];exact Xe V _ dn dn
  have ja:wI ((c:Int)-1)=(c:Int)-1:=Au dn
  have iu:∀ bit,decide (JG (CU xs ic c) (Int.tmod c 64)=1)=bit→AM (sA ic n xs c bit):=by
   intro bit hbt;refine ⟨by simp,rfl,?_,?_,?_,?_,hbt,trivial⟩
   ·rw [hw];simp;omega
   ·rw [hw];simp;omega
   ·simp
   ·simp only [jt];rw [hr];exact ⟨dn,hvb.1⟩
  have hdiv:AI ((xs.drop ic).take n) / 2^c=2*(AI ((xs.drop ic).take n) / 2^(c+1))+AI ((xs.drop ic).take n) / 2^c % 2:=by
   rw [lj,← ll];omega
  have ihc:=ih dn;rcases nz (AI ((xs.drop ic).take n) / 2^c) with h0 | h1
  ·refine Ai eg (Aj (AH Xd Ac) AB (pow_zero ..) (iu false (by rw [hbit,h0];rfl)) (sF ..) hb jl fun _=>?_)
   rw [ja];have:EL (Ht x (AI ((xs.drop ic).take n)) (c+1)) (Ht x (AI ((xs.drop ic).take n)) (c+1))=Ht x (AI ((xs.drop ic).take n)) c:=by
    unfold Ht;rw [r9,← kc];congr 2;omega
   rw [this];exact ihc
  ·refine Ai d_ (Aj (AH Xd Ac) AB (pow_one ..) (iu true (by rw [hbit,h1];rfl)) (sF ..) hb jl fun _=>?_)
   rw [ja];have:EL (EL (Ht x (AI ((xs.drop ic).take n)) (c+1)) (Ht x (AI ((xs.drop ic).take n)) (c+1))) (HL x)=Ht x (AI ((xs.drop ic).take n)) c:=by
    unfold Ht;rw [r9,← kc,r9,← lj];congr 2;omega
   rw [this];exact ihc
end
theorem AEO {ic n m:Nat} {xs:dt} (ip:∀ d∈xs,0≤d∧d<18446744073709551616) (ii:ic+n≤xs.length) (hn:n≤1125899906842624) (x:Nat) :
  Ab dr 130 (Nv x ic n m) (BE xs) 1 [] (Ad (C8 x (AI ((xs.drop ic).take n)))) []:=by
 refine A_ (ie:=[]) func130 dm dm fun β0 w0 hb=>?_
 refine Aj (AH Xd Ac) AB (AQC x ic n m xs) ⟨?_,trivial⟩ (AR dm) hb jl fun _=>?_
 ·simp only [AK,jx,jt];omega
 ·have h:=AQE ip ii hn (x:=x) (m:=m) (w0:=w0) hb (64*n) (ju _)
  have e1:EL (x % pN) JF=HL x:=by rw [AEM (Jz x),AP']
  have e2:EL 1 JF=Ht x (AI ((xs.drop ic).take n)) (64*n):=by
   rw [AEM dp];unfold Ht;have hl:AI ((xs.drop ic).take n)<2^(64*n):=by
    have:=JH ((xs.drop ic).take n) fun d hd=>ip d (pn (qh hd))
    rwa [kv,lk,mr dn] at this
   rw [mf hl,kx]
  have e3:wI (wI (64*(n:Int))-1)=((64*n:Nat):Int)-1:=by
   rw [Au (z:=64*(n:Int)) dn,Au dn];omega
  rw [e1,e2,e3];exact h
noncomputable def powSpec:ASpec:=fun args H fr ie =>
 match args with
 | [.val true a,.val false [.sl k ic n _]]=>match DE 6 a,AF H k with
  | some x,some ⟨_,cs,_⟩=>match A' .u64 cs with
   | some xs=>some (BP [k] 1 fr 0 [] (Ad (C8 x (AI ((xs.drop ic).take n)))) [] [(Nat.ble (ic+n) xs.length,true),(Nat.ble n 1125899906842624,true)] ie)
   | none=>none
  | _,_=>none
 | _=>none
theorem AEP:BI dr 130 powSpec:=by
 refine GW func130 dm dm fun args H fr ie r h=>?_
 unfold powSpec at h;split at h;case h_2=>cases h
 rename_i a k ic n m;split at h;case h_2=>cases h
 rename_i x ty cs o hx hk;split at h;case h_2=>cases h
 rename_i xs jh;injection h with h;refine ⟨[k],Nv x ic n m,BE xs,1,0,[],Ad (C8 x (AI ((xs.drop ic).take n))),[],_,ie,h.symm,fun β us w ha hg hc=>?_⟩
 obtain ⟨u1,jf,r1,⟨u2,jg,r2,ha,rfl⟩,rfl⟩:=ha;obtain ⟨l,g1⟩:=J0 hg hk;obtain ⟨_,g2⟩:=DL jh g1;refine ⟨AEO (fun d hd=>EH (g2 d hd)) (jp hc.1) (jp hc.2.1) x,dm,⟨u1,_,?_,⟨u2,jg,?_,ha,rfl⟩,rfl⟩,cE (c:=[.seq .u64 xs]) hg hk (fun l h=>?_),fun j hj=>?_⟩
 ·obtain ⟨l,q,rfl⟩:=r1;exact ⟨l,GI hx q,rfl⟩
 ·exact r2
 ·obtain ⟨q1,q2⟩:=DL jh h;exact ⟨_,[],⟨q1,q2⟩,rfl,by simp⟩
 ·match j,hj with
  | 0,_=>exact CM (hg.heap _ _ hk)
noncomputable def S9:dw:=(130,powSpec)::S8
theorem AQF:AX dr S9:=⟨AEP,Xd⟩
open Ex
def AA (xs:dt) (ic n:Nat):dt:=(xs.drop ic).take n
theorem DG {xs:dt} {ic n:Nat} {P:Int→Prop} (h:∀ d∈xs,P d):∀ d∈AA xs ic n,P d:=fun d hd=>h d (pn (qh hd))
def BS (xs:dt) (ic n:Nat) (i:Int):Int:=(AA xs ic n).getD i.toNat 0
def Pc (ic n m:Nat) (i:Int):List AV:=[.val false [.sl 0 ic n m],.val false [.v (.int .i64 i)]]
theorem AQG (ic n m:Nat) (i:Int) (xs:dt):AU dr (AG S0 K0) f170 100 1 [] (Ak f170 (Pc ic n m i) (BE xs) 1 dz) =
 some ([(AK .i64 n,true),(decide (i<n),true),(decide (0≤i∧i<n),true),(decide (ic+i.toNat*1<xs.length),true)],[],.val false [.v (.int .u64 (xs.getD (ic+i.toNat*1) 0))],[]):=dm
theorem AQH (ic n m:Nat) (i:Int) (xs:dt):AU dr (AG S0 K0) f170 100 1 [] (Ak f170 (Pc ic n m i) (BE xs) 1 dx) =
 some ([(AK .i64 n,true),(decide (i<n),false)],[],.val false [.n .u64 0],[]):=dm
theorem BN {P:gr} {f:gp} {iw:List AV} {H0 H1:Heap} {k0:Nat} {W:List Nat} {v v':AV} (h:Ab P f iw H0 k0 W v H1) (hv:∀ β u,AO β v u→AO β v' u):Ab P f iw H0 k0 W v' H1 :=
 fun β us w a b c=>Calls.mono (h β us w a b c) fun _ _ ⟨u,β',q1,q2⟩=>⟨u,β',q1,{ q2 with val:=hv _ _ q2.val }⟩
theorem sG {β:Env} {k:IntKind} {i:Int} {u:gq} (h:AO β (.val false [.n k i]) u):AO β (.val false [.v (.int k i)]) u:=XZ (cs:=[.n k i]) h
theorem AQI {ic n m:Nat} {xs:dt} (ii:ic+n≤xs.length) (hn:AK .i64 n=true) {i:Int} (hi:0≤i) :
  Ab dr 170 (Pc ic n m i) (BE xs) 1 [] (.val false [.v (.int .u64 (BS xs ic n i))]) []:=by
 by_cases h:i<n
 ·refine A_ (ie:=dz) func170 dm dm fun β0 w0 hb=>?_
  rw [show BS xs ic n i=xs.getD (ic+i.toNat*1) 0 from by rw [kt];exact JI dn]
  exact A6 (AH IV Ac) AB func170 (AQG ic n m i xs) ⟨hn,by simp [h],by simp [hi,h],by simp;omega,trivial⟩ (AR dm) hb jl
 ·have e:BS xs ic n i=0:=by
   unfold BS AA;rw [kq,mq (by rw [kv];omega)];rfl
  rw [e];refine BN (v:=.val false [.n .u64 0]) (A_ (ie:=dx) func170 dm dm fun β0 w0 hb=>?_) fun _ _=>sG
  exact A6 (AH IV Ac) AB func170 (AQH ic n m i xs) ⟨hn,by simp [h],trivial⟩ (AR dm) hb jl
def atSpec:ASpec:=fun args H fr ie =>
 match args with
 | [.val false [.sl k ic n _],I]=>match Bp (some I),AF H k with
  | some (_,.i64,i),some ⟨_,cs,_⟩=>match A' .u64 cs with
   | some xs=>some (BP [k] 1 fr 0 [] (.val false [.v (.int .u64 (BS xs ic n i))]) [] [(Nat.ble (ic+n) xs.length,true),(AK .i64 n,true),(decide (0≤i),true)] ie)
   | none=>none
  | _,_=>none
 | _=>none
theorem LL {β:Env} {H:Heap} {w:gn} {k:Nat} {ty:Nat} {cs:List Ch} {o:Bool} {xs:dt} (hg:Ex.Good β H w) (hk:AF H k=some ⟨ty,cs,o⟩) (jh:A' .u64 cs=some xs) :
  (∀ d∈xs,0≤d∧d<18446744073709551616)∧Ex.Good (A9 β [k] 1) (BE xs) w∧(∀ j,j<1→∃ X,β (nth [k] j)=some X):=by
 obtain ⟨l,g1⟩:=J0 hg hk;obtain ⟨_,g2⟩:=DL jh g1;refine ⟨fun d hd=>EH (g2 d hd),cE (c:=[.seq .u64 xs]) hg hk (fun l h=>?_),fun j hj=>?_⟩
 ·obtain ⟨q1,q2⟩:=DL jh h;exact ⟨_,[],⟨q1,q2⟩,rfl,by simp⟩
 ·match j,hj with
  | 0,_=>exact CM (hg.heap _ _ hk)
theorem AQJ:BI dr 170 atSpec:=by
 refine GW func170 dm dm fun args H fr ie r h=>?_
 unfold atSpec at h;split at h;case h_2=>cases h
 rename_i k ic n m I;split at h;case h_2=>cases h
 rename_i c0 i ty cs o hI hk;split at h;case h_2=>cases h
 rename_i xs jh;injection h with h;refine ⟨[k],Pc ic n m i,BE xs,1,0,[],_,[],_,ie,h.symm,fun β us w ha hg hc=>?_⟩
 obtain ⟨u1,jf,r1,⟨u2,jg,r2,ha,rfl⟩,rfl⟩:=ha;obtain ⟨g1,g2,g3⟩:=LL hg hk jh;obtain ⟨rfl,p1⟩:=C3 (β:=β) (u:=u2) (fv r2) hI
 exact ⟨AQI (jp hc.1) hc.2.1 (by simpa using hc.2.2.1),dm,⟨u1,_,r1,⟨_,jg,Az ⟨rfl,rfl,p1⟩,ha,rfl⟩,rfl⟩,g2,g3⟩
noncomputable def S10:dw:=(170,atSpec)::S9
theorem LM:AX dr S10:=⟨AQJ,AQF⟩
abbrev ew:List Bool:=[true,false,true]
abbrev e_:List Bool:=[true,false,false]
open Ex
set_option maxRecDepth 100000
set_option maxHeartbeats 4000000
def Gu (xs ys:dt):Heap:=[(0,some (An [.seq .u64 xs])),(1,some (An [.seq .u64 ys]))]
def J1 (ic n m ig n' m':Nat):List AV:=[.val false [.sl 0 ic n m],.val false [.sl 1 ig n' m']]
noncomputable def AQK:List Item:=B6 (AZ dr (AG S10 K0) (some 0) 100 2 none (Ak f113 (J1 0 0 0 0 0 0) (Gu [] []) 2 []))
noncomputable def AQL (ic n m ig n' m':Nat) (i:Int):List AV:=.val false [.sl 0 ic n m]::.val false [.sl 1 ig n' m']::.any::.any::.val false [.n .i64 0]::.val false [.v (.int .i64 i)]::List.replicate (f113.ntmps-6) .any
section
variable (ic n m ig n' m':Nat) (xs ys:dt)
noncomputable def Pd (i:Int) (p:List Bool):h_:=⟨AQK,⟨AQL ic n m ig n' m' i,Gu xs ys,2,p⟩⟩
def GJ (a b:Int):Int:=if b > a then b else a
theorem AQM:AZ dr (AG S10 K0) (some 0) 100 2 (some ([0,1,4,5],[0,1],2)) (Ak f113 (J1 ic n m ig n' m') (Gu xs ys) 2 []) =
 some ([(AK .i64 n,true),(AK .i64 n',true)],[],Pd ic n m ig n' m' xs ys (wI (GJ n n'-1)) []):=dm
def cF (i:Int) (r:du):du:=(decide (0≤i),true)::(Nat.ble (ic+n) xs.length,true)::(AK .i64 n,true)::(decide (0≤i),true)::(Nat.ble (ig+n') ys.length,true)::(AK .i64 n',true)::(decide (0≤i),true)::r
theorem AQN (i:Int):AZ dr (AG S10 K0) (some 0) 100 2 (some ([0,1,4,5],[0,1],2)) (Pd ic n m ig n' m' xs ys i d_) =
 some (cF ic n ig n' xs ys i [(decide (BS xs ic n i=BS ys ig n' i),true)],[],Pd ic n m ig n' m' xs ys (wI (i-1)) []):=dm
theorem AQO (i:Int):AU dr (AG S10 K0) f113 100 2 [] (Pd ic n m ig n' m' xs ys i ew) =
 some (cF ic n ig n' xs ys i [(decide (BS xs ic n i=BS ys ig n' i),false),(decide (BS xs ic n i<BS ys ig n' i),true)],[],.val false [.n .i64 (-1)],[]):=dm
theorem AQP (i:Int):AU dr (AG S10 K0) f113 100 2 [] (Pd ic n m ig n' m' xs ys i e_) =
 some (cF ic n ig n' xs ys i [(decide (BS xs ic n i=BS ys ig n' i),false),(decide (BS xs ic n i<BS ys ig n' i),false)],[],.val false [.n .i64 1],[]):=dm
theorem AQQ (i:Int):AU dr (AG S10 K0) f113 100 2 [] (Pd ic n m ig n' m' xs ys i dx) =
 some ([(decide (0≤i),false)],[],.val false [.n .i64 0],[]):=dm
theorem cG (i:Int) (p:List Bool):BW f113.ntmps (Pd ic n m ig n' m' xs ys i p).s:=AR dm
end
theorem IW {P:gr} {f:gp} {β0:Env} {w0:gn} {W W':List Nat} {v v':AV} {H:Heap} {n:Nat} {x:h_} (h:gz P f β0 w0 (BA β0 w0 W v H) n W' x) (hv:∀ β u,AO β v u→AO β v' u):gz P f β0 w0 (BA β0 w0 W v' H) n W' x:=by
 intro β a w hi hf b cs q1 q2;obtain ⟨e',w',fr,⟨u,β',q5,q6⟩,q4⟩:=h β a w hi hf b cs q1 q2;exact ⟨e',w',fr,⟨u,β',q5,{ q6 with val:=hv _ _ q6.val }⟩,q4⟩
theorem UX {x y Q:Nat} (h:x / Q<y / Q):x<y:=Nat.lt_of_not_le fun je=>absurd (Nat.div_le_div_right (c:=Q) je) dn
def EO (x y:Nat):Int:=if x<y then -1 else if y<x then 1 else 0
theorem UY {ws:dt} (h:∀ d∈ws,0≤d∧d<18446744073709551616) (c:Nat):AI ws / 2^(64*c)=(ws.getD c 0).toNat+18446744073709551616*(AI ws / 2^(64*(c+1))):=by
 rw [← Xf ws c h,show 64*(c+1)=64*c+64 by omega,kc,← ll]
 omega
theorem Nw {ws:dt} (h:∀ d∈ws,0≤d∧d<18446744073709551616) (c:Nat):0≤ws.getD c 0∧ws.getD c 0<18446744073709551616:=by
 rw [kq];cases h':ws[c]? with
 | none=>simp
 | some d=>exact h d (pm h')
theorem RY {β:Env} {k:IntKind} {i j:Int} {u:gq} (e:i=j) (h:AO β (.val false [.n k i]) u):AO β (.val false [.v (.int k j)]) u:=by subst e;exact sG h
section
variable {ic n m ig n' m':Nat} {xs ys:dt} (hx:∀ d∈xs,0≤d∧d<18446744073709551616) (hy:∀ d∈ys,0≤d∧d<18446744073709551616) (hl:ic+n≤xs.length) (hl':ig+n'≤ys.length)
 (hn:AK .i64 n=true) (hn':AK .i64 n'=true) {β0:Env} {w0:gn} (hb:∀ b,2≤b→β0 b=none)
include hx hy hl hl' hn hn' hb
theorem AQR:∀ c,c≤max n n'→AI (AA xs ic n) / 2^(64*c)=AI (AA ys ig n') / 2^(64*c) →
  gz dr 113 β0 w0 (BA β0 w0 [] (.val false [.v (.int .i64 (EO (AI (AA xs ic n)) (AI (AA ys ig n'))))]) []) f113.ntmps [] (Pd ic n m ig n' m' xs ys ((c:Int)-1) []):=by
 intro c;induction c with
 | zero =>
  intro _ heq;rw [me,kx,ld,ld] at heq;have h:=A6 (w0:=w0) (W:=[]) (n:=f113.ntmps) (AH LM Ac) AB func113 (AQQ ic n m ig n' m' xs ys (((0:Nat):Int)-1)) ⟨rfl,trivial⟩ (cG ..) hb jl
  exact Ai dx (IW h fun _ _=>RY (by unfold EO;rw [heq];simp))
 | succ c ih =>
  intro hc heq;have hi:((c+1:Nat):Int)-1=(c:Int):=dn
  rw [hi];have bn:n≤9223372036854775807:=by simp only [AK,jx,jt] at hn;omega
  have bn':n'≤9223372036854775807:=by simp only [AK,jx,jt] at hn';omega
  have sx:=UY (DG (ic:=ic) (n:=n) hx) c
  have sy:=UY (DG (ic:=ig) (n:=n') hy) c
  have bx:=Nw (DG (ic:=ic) (n:=n) hx) c
  have byy:=Nw (DG (ic:=ig) (n:=n') hy) c
  have ex:BS xs ic n c=(AA xs ic n).getD c 0:=by unfold BS;rw [jz]
  have ey:BS ys ig n' c=(AA ys ig n').getD c 0:=by unfold BS;rw [jz]
  have hC:∀ r,AM r→AM (cF ic n ig n' xs ys c r):=fun r hr=>⟨by simp,jr hl,hn,by simp,jr hl',hn',by simp,hr⟩
  by_cases he:BS xs ic n c=BS ys ig n' c
  ·refine Ai d_ (Aj (AH LM Ac) AB (AQN ..) (hC _ ⟨by simp [he],trivial⟩) (cG ..) hb jl fun _=>?_)
   rw [Au (z:=(c:Int)-1) dn];exact ih dn (by rw [sx,sy,heq,← ex,← ey,he])
  ·by_cases jb:BS xs ic n c<BS ys ig n' c
   ·have h:=A6 (w0:=w0) (W:=[]) (n:=f113.ntmps) (AH LM Ac) AB func113 (AQO ic n m ig n' m' xs ys c) (hC _ ⟨by simp [he],by simp [jb],trivial⟩) (cG ..) hb jl
    refine Ai ew (IW h fun _ _=>RY ?_)
    have:AI (AA xs ic n)<AI (AA ys ig n'):=UX (Q:=2^(64*c)) (by rw [sx,sy,heq];omega)
    unfold EO;rw [jo this]
   ·have h:=A6 (w0:=w0) (W:=[]) (n:=f113.ntmps) (AH LM Ac) AB func113 (AQP ic n m ig n' m' xs ys c) (hC _ ⟨by simp [he],by simp [jb],trivial⟩) (cG ..) hb jl
    refine Ai e_ (IW h fun _ _=>RY ?_)
    have:AI (AA ys ig n')<AI (AA xs ic n):=UX (Q:=2^(64*c)) (by rw [sx,sy,heq];omega)
    unfold EO;rw [jn dn,jo this]
end
theorem AQS {ic n m ig n' m':Nat} {xs ys:dt} (hx:∀ d∈xs,0≤d∧d<18446744073709551616) (hy:∀ d∈ys,0≤d∧d<18446744073709551616) (hl:ic+n≤xs.length) (hl':ig+n'≤ys.length)
  (hn:AK .i64 n=true) (hn':AK .i64 n'=true):Ab dr 113 (J1 ic n m ig n' m') (Gu xs ys) 2 [] (.val false [.v (.int .i64 (EO (AI (AA xs ic n)) (AI (AA ys ig n'))))]) []:=by
 refine A_ (ie:=[]) func113 dm dm fun β0 w0 hb=>?_
 refine Aj (AH LM Ac) AB (AQM ic n m ig n' m' xs ys) ⟨hn,hn',trivial⟩ (AR dm) hb jl fun _=>?_
 have bn:n≤9223372036854775807:=by simp only [AK,jx,jt] at hn;omega
 have bn':n'≤9223372036854775807:=by simp only [AK,jx,jt] at hn';omega
 have e:wI (GJ n n'-1)=((max n n':Nat):Int)-1:=by
  have:GJ n n'=((max n n':Nat):Int):=by unfold GJ;split<;>omega
  rw [this,Au dn]
 rw [e];refine AQR hx hy hl hl' hn hn' hb _ (ju _) ?_
 have jk:∀ (zs:dt) (of k:Nat),(∀ d∈zs,0≤d∧d<18446744073709551616)→k≤max n n'→AI (AA zs of k) / 2^(64*max n n')=0:=by
  intro zs of k hz hk;refine mf (li (JH _ (DG hz)) (pq dp ?_))
  have:(AA zs of k).length≤k:=by unfold AA;rw [kv];omega
  omega
 rw [jk xs ic n hx dn,jk ys ig n' hy dn]
theorem cH {β:Env} {H:Heap} {w:gn} {k t:Nat} {ty ty':Nat} {cs ds:List Ch} {o o':Bool} {xs ys:dt} (hg:Ex.Good β H w) (hk:AF H k=some ⟨ty,cs,o⟩) (ht:AF H t=some ⟨ty',ds,o'⟩) (jh:A' .u64 cs=some xs) (hys:A' .u64 ds=some ys) :
  (∀ d∈xs,0≤d∧d<18446744073709551616)∧(∀ d∈ys,0≤d∧d<18446744073709551616)∧Ex.Good (A9 β [k,t] 2) (Gu xs ys) w∧(∀ j,j<2→∃ X,β (nth [k,t] j)=some X):=by
 obtain ⟨l,g1⟩:=J0 hg hk;obtain ⟨_,g2⟩:=DL jh g1;obtain ⟨l',g1'⟩:=J0 hg ht;obtain ⟨_,g2'⟩:=DL hys g1';refine ⟨fun d hd=>EH (g2 d hd),fun d hd=>EH (g2' d hd),AD' (c:=[.seq .u64 xs]) (e:=[.seq .u64 ys]) hg hk ht (fun l h=>?_) (fun l h=>?_),fun j hj=>?_⟩
 ·obtain ⟨q1,q2⟩:=DL jh h;exact ⟨_,[],⟨q1,q2⟩,rfl,by simp⟩
 ·obtain ⟨q1,q2⟩:=DL hys h;exact ⟨_,[],⟨q1,q2⟩,rfl,by simp⟩
 ·match j,hj with
  | 0,_=>exact CM (hg.heap _ _ hk)
  | 1,_=>exact CM (hg.heap _ _ ht)
def cmpSpec:ASpec:=fun args H fr ie =>
 match args with
 | [.val false [.sl k ic n _],.val false [.sl t ig n' _]]=>match AF H k,AF H t with
  | some ⟨_,cs,_⟩,some ⟨_,ds,_⟩=>match A' .u64 cs,A' .u64 ds with
   | some xs,some ys=>some (BP [k,t] 2 fr 0 [] (.val false [.v (.int .i64 (EO (AI (AA xs ic n)) (AI (AA ys ig n'))))]) [] [(Nat.ble (ic+n) xs.length,true),(Nat.ble (ig+n') ys.length,true),(AK .i64 n,true),(AK .i64 n',true)] ie)
   | _,_=>none
  | _,_=>none
 | _=>none
theorem AQT:BI dr 113 cmpSpec:=by
 refine GW func113 dm dm fun args H fr ie r h=>?_
 unfold cmpSpec at h;split at h;case h_2=>cases h
 rename_i k ic n m t ig n' m';split at h;case h_2=>cases h
 rename_i ty cs o ty' ds o' hk ht;split at h;case h_2=>cases h
 rename_i xs ys jh hys;injection h with h;refine ⟨[k,t],J1 ic n m ig n' m',Gu xs ys,2,0,[],_,[],_,ie,h.symm,fun β us w ha hg hc=>?_⟩
 obtain ⟨u1,jf,r1,⟨u2,jg,r2,ha,rfl⟩,rfl⟩:=ha;obtain ⟨g1,g1',g2,g3⟩:=cH hg hk ht jh hys;exact ⟨AQS g1 g1' (jp hc.1) (jp hc.2.1) hc.2.2.1 hc.2.2.2.1,dm,⟨u1,_,r1,⟨u2,jg,r2,ha,rfl⟩,rfl⟩,g2,g3⟩
noncomputable def S11:dw:=(113,cmpSpec)::S10
theorem cI:AX dr S11:=⟨AQT,LM⟩
open Ex
def IX (x:Nat):dt:=(List.range 6).map (AE x)++[]
theorem Pe {x:Nat} (h:x<RR):AI (AA (IX x) (0+0*1) (6-0))=x :=
 (show AI (AA (IX x) (0+0*1) (6-0))=PX (AE x 0) (AE x 1) (AE x 2) (AE x 3) (AE x 4) (AE x 5) by kernel_rfl).trans (AEH h)
def DR (i:Int):AV:=.val false [.v (.int .i64 i)]
def Aw (b:Bool):AV:=.val false [.v (.bool b)]
theorem AQU (x:Nat):AJ dr (AG S11 K0) f132 [Ad x] [] 300=some ([],DR (wI (bits .and .u64 (AE (x % pN) 0) 1))):=dm
def EV (x:Nat):Int:=((x % pN % 2:Nat):Int)
theorem sH (x:Nat):AE x 0=((x % 18446744073709551616:Nat):Int):=by simp only [AE,me,kx,ld]
theorem AEQ (v:Nat) (hv:v<18446744073709551616):bits .and .u64 (v:Int) 1=((v % 2:Nat):Int):=by
 have h:=(bits_nat .u64 64 dp (fun n h0 h1=>by rw [IntKind.wrap_u64];omega) v 1 dn dp).1
 refine Eq.trans h ?_
 rw [Nat.and_one_is_mod]
theorem AQV (x:Nat):AT dr 132 [Ad x] (DR (EV x)):=by
 have h:=AN (AH cI Ac) AB func132 (AQU x) trivial rfl
 have e:wI (bits .and .u64 (AE (x % pN) 0) 1)=EV x:=by
  rw [sH,AEQ _ dn,Au dn];unfold EV;omega
 rw [e] at h;exact h
theorem AQW (x:Nat):AJ dr (AG S11 K0) f52 [Ad x] [] 300=some (JE 4,Aw (decide (0<EO (AI (AA (IX (x % pN)) (0+0*1) (6-0))) (AI (AA (IX (C7 x)) (0+0*1) (6-0)))))):=dm
def BG (x:Nat):Bool:=decide (C7 x<x % pN)
theorem cJ (x:Nat):C7 x<pN:=ki _ C6
theorem AQX (x:Nat):AT dr 52 [Ad x] (Aw (BG x)):=by
 have h:=AN (AH cI Ac) AB func52 (AQW x) (Nt _) rfl
 rw [Pe (Jz x),Pe (nl (cJ x) dp)] at h;have e:decide (0<EO (x % pN) (C7 x))=BG x:=by
  unfold EO BG;by_cases h1:x % pN<C7 x
  ·rw [jo h1,jq dn,jq dn]
  ·by_cases h2:C7 x<x % pN
   ·rw [jn h1,jo h2,jm h2];rfl
   ·rw [jn h1,jn h2,jq h2];rfl
 rw [e] at h;exact h
def QN:Nat:=1000602388805416848354447456433976039139220704984751971333014534031007912622709466110671907282253916009473568139947
def QC:List Ch:=[.n .u64 0xee7fbfffffffeaab,.n .u64 0x7aaffffac54ffff,.n .u64 0xd9cc34a83dac3d89,.n .u64 0xd91dd2e13ce144af,.n .u64 0x92c6e9ed90d2eb35,.n .u64 0x680447a8e5ff9a6]
theorem AQY:AJ dr (AG S11 K0) f129 [] [] 300=some ([],.val true QC):=dm
theorem AQZ:AT dr 129 [] (.val true QC):=AN (AH cI Ac) AB func129 AQY trivial rfl
noncomputable def S12:dw:=(129,Af fun args=>match args with | []=>some (Ad QN) | _=>none)::(132,Af (Fv fun x=>DR (EV x)))::(52,Af (Fv fun x=>Aw (BG x)))::S11
theorem sI:AX dr S12:=⟨Ah func129 dm dm (RX AQZ fun u h=>Xc dm h),Ah func132 dm dm (GZ fun x _=>AQV x),Ah func52 dm dm (GZ fun x _=>AQX x),cI⟩
def Hu (y:Nat):Nat:=if EV y=1 then C7 y else y
theorem AQa (y:Nat):AJ dr (AG S12 K0) f131 [Ad y] dz 300=some ([(decide (EV y=1),true)],Ad (C7 y)):=dm
theorem AQb (y:Nat):AJ dr (AG S12 K0) f131 [Ad y] dx 300=some ([(decide (EV y=1),false)],Ad y):=dm
theorem AQc (y:Nat):AT dr 131 [Ad y] (Ad (Hu y)):=by
 unfold Hu;by_cases h:EV y=1
 ·rw [jo h];exact AN (AH sI Ac) AB func131 (AQa y) ⟨by simp [h],trivial⟩ rfl
 ·rw [jn h];exact AN (AH sI Ac) AB func131 (AQb y) ⟨by simp [h],trivial⟩ rfl
noncomputable def S13:dw:=(131,Af (Fv fun x=>Ad (Hu x)))::S12
theorem sJ:AX dr S13:=⟨Ah func131 dm dm (GZ fun x _=>AQc x),sI⟩
noncomputable def RZ (a:Nat):Nat:=C8 a (AI (AA (IX QN) (0+0*1) (6-0)))
theorem AQd (a:Nat):AJ dr (AG S13 K0) f60 [Ad a] dz 300=some ([(true,true),(true,true),(!decide (Ae (RZ a) (RZ a)=a % pN),true)],.tup [(true,GY),(false,[.b false])]):=dm
theorem AQe (a:Nat):AJ dr (AG S13 K0) f60 [Ad a] dx 300=some ([(true,true),(true,true),(!decide (Ae (RZ a) (RZ a)=a % pN),false)],.tup [(true,[.num 6 (Hu (RZ a))]),(false,[.b true])]):=dm
noncomputable def CX (a:Nat):Bool:=decide (Ae (C8 a QN) (C8 a QN)=a % pN)
noncomputable def D4 (a:Nat):Nat:=if CX a=true then Hu (C8 a QN) else 0
theorem sK (a:Nat):RZ a=C8 a QN:=by unfold RZ;rw [Pe dp]
noncomputable def UZ (a:Nat):AV:=.tup [(true,[.num 6 (D4 a)]),(false,[.v (.bool (CX a))])]
theorem CG {P:gr} {f:gp} {args:List AV} {v v':AV} (h:AT P f args v) (hv:∀ u,AO CB v u→AO CB v' u):AT P f args v' :=
 fun us w a=>Calls.mono (h us w a) fun _ _ ⟨u,q1,q2,q3⟩=>⟨u,q1,hv u q2,q3⟩
theorem Gw {b b':Bool} {u:gq} (e:b=b') (h:Bt CB false [.b b] u):Bt CB false [.v (.bool b')] u:=by
 subst e;obtain ⟨l1,l2,p1,p2,p3⟩:=h;exact ⟨l1,l2,⟨p1,rfl,trivial⟩,p2,p3⟩
theorem AQf (a:Nat):AT dr 60 [Ad a] (UZ a):=by
 by_cases h:CX a=true
 ·have h1:=AN (AH sJ Ac) AB func60 (AQe a) ⟨rfl,rfl,by rw [sK];unfold CX at h;rw [h];rfl,trivial⟩ rfl
  refine CG h1 ?_
  rintro u ⟨us,⟨u1,l1,q1,⟨u2,l2,q2,q3,rfl⟩,rfl⟩,rfl⟩
  refine ⟨_,⟨u1,_,?_,⟨u2,l2,Gw h.symm q2,q3,rfl⟩,rfl⟩,rfl⟩
  unfold D4;rw [jo h,← sK];exact q1
 ·have h0:CX a=false:=by simpa using h
  have h1:=AN (AH sJ Ac) AB func60 (AQd a) ⟨rfl,rfl,by rw [sK];unfold CX at h0;rw [h0];rfl,trivial⟩ rfl
  refine CG h1 ?_
  rintro u ⟨us,⟨u1,l1,q1,⟨u2,l2,q2,q3,rfl⟩,rfl⟩,rfl⟩
  refine ⟨_,⟨u1,_,?_,⟨u2,l2,Gw h0.symm q2,q3,rfl⟩,rfl⟩,rfl⟩
  unfold D4;rw [jn h];exact Xc dm q1
noncomputable def S14:dw:=(60,Af (Fv UZ))::S13
theorem AQg:AX dr S14:=⟨Ah func60 dm dm (GZ fun x _=>AQf x),sJ⟩
noncomputable def S15:dw:=S14
theorem AQh:AX dr S15:=AQg
def FO (sp:List AV→Option (du×AV)):ASpec:=fun args _ _ ie =>
 match a9 args,sp args with
 | true,some (c,v)=>match Nj v with
  | true=>some { CK v ie with conds:=c }
  | false=>none
 | _,_=>none
theorem GK {P:gr} {f:gp} {fn:Func} {sp:List AV→Option (du×AV)} (jc:P.funcs[f]? = some fn) (hb:fn.body.isSome=true) (iq:fw fn) (h:∀ args c v,sp args=some (c,v)→AM c→AT P f args v):BI P f (FO sp):=by
 intro args H fr ie r β us w hs hc ha hg hf;unfold FO at hs;split at hs
 ·rename_i c v hk hv;split at hs
  ·rename_i hkv;injection hs with hs;subst hs;refine UF jc hb iq (Calls.mono (h args c v hv hc us w (qF hk ha)) ?_)
   rintro e w' ⟨u,rfl,hu,hbl⟩
   refine ⟨u,β,rfl,?_⟩
   exact ⟨Env.le_refl _,fun _ _ h=>.inl h,fun b B n hb=>li (hg.lt b B n hb) hbl.size,fun b b' _ _ _ h1 _ h3=>by simp [CK] at h3;omega,MT hkv hu,fun _ _ h=>(by cases h),fun B hB _=>hbl.block B hB,hbl.size,hbl.os,hbl.tape,hbl.output⟩
  ·cases hs
 ·cases hs
noncomputable def S16:dw:=S15
theorem AQi:AX dr S16:=AQh
def GL:AV→AV
 | .val g cs=>.val g (cs.map nv)
 | a=>a
theorem AER {β:Env} {a:AV} {u:gq} (h:AO β a u):AO β (GL a) u:=by
 cases a with
 | val g cs=>cases g with
  | false=>exact XZ h
  | true=>obtain ⟨l,q,e⟩:=h;exact ⟨l,XZ q,e⟩
 | tup xs=>exact h
 | any=>exact h
theorem AES:∀ (T:List AV) (t:Nat),Aq (T.map GL) t=GL (Aq T t)∨Aq (T.map GL) t=Aq T t
 | [],_=>.inr rfl
 | _::_,0=>.inl rfl
 | _::r,t+1=>AES r t
theorem Hv {P:gr} {f:gp} {β0:Env} {w0:gn} {R:Ending→gn→Prop} {n:Nat} {W:List Nat} {todo:List Item} {T:List AV} {H:Heap} {fr:Nat} {p:List Bool} (h:gz P f β0 w0 R n W ⟨todo,⟨T.map GL,H,fr,p⟩⟩):gz P f β0 w0 R n W ⟨todo,⟨T,H,fr,p⟩⟩:=by
 intro β a w hi hf;refine h β a w { hi with tmp:=fun t=>?_ } hf
 rcases AES T t with e | e
 ·show AO β (Aq (T.map GL) t) _;rw [e];exact AER (hi.tmp t)
 ·show AO β (Aq (T.map GL) t) _;rw [e];exact hi.tmp t
def outL (S L i:Nat):dt:=(List.range i).map (AE S)++List.replicate (L-i) 0
theorem sL {xs:dt} {ic n:Nat} (h:∀ d∈xs,0≤d∧d<18446744073709551616) (i:Nat):BS xs ic n i=((AI (AA xs ic n) / 2^(64*i) % 18446744073709551616:Nat):Int):=by
 have:=Xf (AA xs ic n) i (DG h)
 have hb:=Nw (DG (ic:=ic) (n:=n) h) i
 unfold BS;rw [jz];have e:(2:Nat)^64=18446744073709551616:=rfl
 rw [e] at this;omega
noncomputable def S17:dw:=S16
theorem AQj:AX dr S17:=AQi
noncomputable def S18:dw:=S17
theorem AQk:AX dr S18:=AQj
def Pf (m x:Nat):Nat→Nat→Nat
 | 0,_=>1 % m
 | f+1,e=>(match e % 2 with
  | 0=>Pf m (x*x % m) f (e / 2)
  | _=>x*Pf m (x*x % m) f (e / 2) % m)
theorem sM (m:Nat):∀ (f x e:Nat),e<2^f→Pf m x f e=x^e % m
 | 0,x,e,h=>by
  have:e=0:=by simpa using h
  subst this;rfl
 | f+1,x,e,h=>by
  have ih:=sM m f (x*x % m) (e / 2) (by rw [lj] at h;omega)
  have h2:(x*x % m)^(e / 2) % m=x^(2*(e / 2)) % m:=by
   rw [← ow,qi,ss]
  unfold Pf;rcases nz e with h0 | h1
  ·rw [h0];show Pf m (x*x % m) f (e / 2)=_;rw [ih,h2,show 2*(e / 2)=e by omega]
  ·rw [h1];show x*Pf m (x*x % m) f (e / 2) % m=_;rw [ih,h2,kz,nu,← kz,← s_,show (2*(e / 2)).succ=e by omega]
theorem AET:(2:Nat)^384=RR:=dm
noncomputable def S19:dw:=S18
theorem AQl:AX dr S19:=AQk
open Ex
open Go.RowKit (Below)
theorem own:ownKnob dr.godebug=none:=dm
theorem laidOut:laidOutB dr=true:=dm
theorem under_bool:dr.underlying 4=some .bool:=dm
theorem iw {ts:List gt} {H:Type} {enc:gt×gq→H} {W:gn} {us:List gq} {ds:List (DataW H)} {ps:List MemPlace} (hA:DataW.TrodAll enc dr W 0 (fun _=>true) true ts us ds ps) (ht:ts=[]):us=[]:=by
 subst ht;cases us with
 | nil=>rfl
 | cons=>cases ds<;>cases hA
theorem sN {H:Type} {enc:gt×gq→H} {W:gn} {t:gt} {ts:List gt} {us:List gq} {ds:List (DataW H)} {ps:List MemPlace} (hA:DataW.TrodAll enc dr W 0 (fun _=>true) true (t::ts) us ds ps) :
  ∃ v us' d ds' p q,us=v::us'∧ds=d::ds'∧DataW.Trod enc dr W 0 (fun _=>true) true t v d p∧DataW.TrodAll enc dr W 0 (fun _=>true) true ts us' ds' q:=by
 cases us with
 | nil=>cases ds<;>cases hA
 | cons v us'=>cases ds with
  | nil=>cases hA
  | cons d ds' =>
   obtain ⟨p,q,h1,h2,_⟩:=hA;exact ⟨v,us',d,ds',p,q,rfl,rfl,h1,h2⟩
theorem len3 {α:Type} {l:List α} (h:l.length=3):∃ a b c,l=[a,b,c]:=by
 match l,h with
 | [a,b,c],_=>exact ⟨a,b,c,rfl⟩
theorem allHeard:Tryz.pinned.checked.prog.stopsHeard=true:=dm
theorem allEnter:Tryz.pinned.checked.prog.mayEnter=true:=dm
theorem allLifts:Tryz.pinned.checked.prog.liftsFinal=false:=dm
theorem allKeys:Tryz.pinned.checked.prog.plainKeys=true:=dm
theorem allLaid:laidOutB Tryz.pinned.checked.prog=true:=dm
theorem allMaps:mapsRowed Tryz.pinned.checked.prog=true:=dm
open Ex
def PL:dt:=[0xb9feffffffffaaab,0x1eabfffeb153ffff,0x6730d2a0f6b0f624,0x64774b84f38512bf,0x4b1ba7b6434bacd7,0x1a0111ea397fe69a]
theorem cK {x:Nat} (h:x<RR):AI (AA (IX x) 0 6)=x:=Pe h
theorem AQm {S L:Nat} (h:S<2^(64*L)):AI (AA (outL S L L) 0 L)=S:=by
 unfold outL AA;rw [pe,List.replicate_zero,lh,qf,oi (by simp)]
 have gen:∀ (L S:Nat),S<2^(64*L)→AI ((List.range L).map (AE S))=S:=by
  intro L;induction L with
  | zero=>intro S h;simp at h;subst h;rfl
  | succ L ih =>
   intro S h;rw [sr,lz,ot];have e:(AE S ∘ Nat.succ)=AE (S / 2^64):=by
    funext i
    exact FM S i |>.symm▸rfl
   rw [e];simp only [AI];rw [ih (S / 2^64) (by rw [show 64*(L+1)=64+64*L by omega,kc] at h;exact mb h),rZ,me,kx,ld]
   omega
 exact gen L S h
theorem AQn:AI (AA PL 0 6)=pN:=dm
theorem AQo {a:Nat} (h:a % pN≠0):C7 a=pN-a % pN:=by
 have hp:=Hr a;unfold C7;rw [jv dn]
theorem AQp {a:Nat} (h:a % pN=0):C7 a=0:=by
 unfold C7;rw [h,pv,Nat.mod_self]
theorem Xh:pN % 2=1:=dm
end Go.Proofs.YtgnajdcdcblaoaaGreat
namespace Go.Proofs.YtgnajdcdcblaoaaGreat.Num
def Prime (p:Nat):Prop:=2≤p∧∀ d,d∣p→d=1∨d=p
theorem Prime.coprime {p a:Nat} (hp:Prime p) (h:¬ p∣a):Nat.Coprime p a:=by
 rcases hp.2 (Nat.gcd p a) (Nat.gcd_dvd_left _ _) with e | e
 ·exact e
 ·exact absurd (e▸Nat.gcd_dvd_right p a) h
theorem Prime.dvd_mul {p a b:Nat} (hp:Prime p) (h:p∣a*b):p∣a∨p∣b:=by
 by_cases ha:p∣a
 ·exact .inl ha
 ·exact .inr ((hp.coprime ha).dvd_of_dvd_mul_left h)
theorem Xi {a b n:Nat} (h:a % n=b % n) (je:b≤a):n∣a-b:=by
 have h1:=mv a n;have h2:=mv b n;exact ⟨a / n-b / n,by rw [Nat.mul_sub];omega⟩
theorem AQq {a b n:Nat} (h:n∣a-b) (je:b≤a):a % n=b % n:=by
 obtain ⟨k,hk⟩:=h;have:a=b+n*k:=dn
 rw [this,uv]
def BT:List Nat→Nat
 | []=>1
 | x::l=>x*BT l
theorem AQr {l m:List Nat} (h:l.Perm m):BT l=BT m:=by
 induction h with
 | nil=>rfl
 | cons x _ ih=>simp [BT,ih]
 | swap x y l=>simp only [BT];rw [nb]
 | trans _ _ h1 h2=>exact h1.trans h2
theorem sO:∀ {l m:List Nat},l.Nodup→(∀ x∈l,x∈m)→m.length≤l.length→l.Perm m
 | [],m,_,_,h=>by
  have:m=[]:=sv.1 (by simpa using h)
  subst this;exact .refl _
 | a::l,m,hn,hs,ii=>by
  have ham:=hs a (by simp)
  have hp:=List.perm_cons_erase ham;have hn':=rf.1 hn;refine .trans (.cons a (sO hn'.2 (fun x hx=>?_) ?_)) hp.symm
  ·have:x≠a:=fun e=>hn'.1 (e▸hx)
   exact (List.mem_erase_of_ne this).2 (hs x (by simp [hx]))
  ·rw [List.length_erase_of_mem ham];simp at ii;omega
theorem AEU (a p:Nat):∀ l:List Nat,BT (l.map fun x=>a*x % p) % p=a^l.length*BT l % p
 | []=>by simp [BT]
 | x::l=>by
  simp only [lz,BT,k_];rw [kz,AEU a p l,nu,← kz,lj];refine jw (· % p) ?_
  show a*x*(a^l.length*BT l)=a^l.length*a*(x*BT l)
  ac_rfl
theorem sP {p:Nat} (hp:Prime p):∀ {l:List Nat},(∀ x∈l,¬ p∣x)→¬ p∣BT l
 | [],_,h=>by
  have:=mn dp h
  have:=hp.1
  simp only [BT] at *;omega
 | x::l,hx,h=>by
  rcases hp.dvd_mul h with h | h
  ·exact hx x (by simp) h
  ·exact sP hp (fun y hy=>hx y (by simp [hy])) h
theorem Ri {p a:Nat} (hp:Prime p) (ha:¬ p∣a):a^(p-1) % p=1:=by
 have h2:=hp.1;have hL:∀ x,x∈List.range' 1 (p-1)↔1≤x∧x<p:=by intro x;rw [List.mem_range'_1];omega
 have hnd:∀ x∈List.range' 1 (p-1),¬ p∣x:=fun x hx hd=>by
  have:=(hL x).1 hx
  have:=mn dn hd
  omega
 have hperm:((List.range' 1 (p-1)).map fun x=>a*x % p).Perm (List.range' 1 (p-1)):=by
  refine sO ?_ ?_ (by simp)
  ·have hq:∀ {l:List Nat},l.Nodup→(∀ x∈l,1≤x∧x<p)→(l.map fun x=>a*x % p).Nodup:=by
    intro l;induction l with
    | nil=>intro _ _;exact List.nodup_nil
    | cons x l ih =>
     intro hn hb;have hn':=rf.1 hn;rw [lz,rf];refine ⟨fun hm=>?_,ih hn'.2 fun y hy=>hb y (by simp [hy])⟩
     obtain ⟨y,hy,he⟩:=ml.1 hm;have b1:=hb x (by simp)
     have b2:=hb y (by simp [hy])
     have hxy:x≠y:=fun e=>hn'.1 (e▸hy)
     rcases kf x y with jb | hge
     ·have:=Xi (a:=a*y) (b:=a*x) he (nr a dn)
      rw [← Nat.mul_sub] at this;rcases hp.dvd_mul this with h | h
      ·exact ha h
      ·have:=mn dn h;omega
     ·have:=Xi (a:=a*x) (b:=a*y) he.symm (nr a dn)
      rw [← Nat.mul_sub] at this;rcases hp.dvd_mul this with h | h
      ·exact ha h
      ·have:=mn dn h;omega
   exact hq List.nodup_range' fun x hx=>(hL x).1 hx
  ·intro y hy;obtain ⟨x,hx,rfl⟩:=ml.1 hy;have b:=(hL x).1 hx
   refine (hL _).2 ⟨?_,ki _ dn⟩
   rcases md (a*x % p) with h | h
   ·rcases hp.dvd_mul (sd h) with h | h
    ·exact absurd h ha
    ·exact absurd h (hnd x hx)
   ·exact h
 have e:=AEU a p (List.range' 1 (p-1))
 rw [AQr hperm,List.length_range'] at e;have iy:1≤a^(p-1):=m_ (sm fun h=>ha (h▸Nat.dvd_zero p))
 have hd:=Xi (a:=a^(p-1)*BT (List.range' 1 (p-1))) (b:=BT (List.range' 1 (p-1))) e.symm (Nat.le_mul_of_pos_left _ iy)
 have:a^(p-1)*BT (List.range' 1 (p-1))-BT (List.range' 1 (p-1))=(a^(p-1)-1)*BT (List.range' 1 (p-1)):=by rw [Nat.sub_mul,qd]
 rw [this] at hd;rcases hp.dvd_mul hd with h | h
 ·rw [AQq h iy,jv dn]
 ·exact absurd h (sP hp hnd)
theorem exists_prime_dvd:∀ n,2≤n→∃ q,Prime q∧q∣n:=by
 intro n;induction n using Nat.strongRecOn with
 | ind n ih =>
  intro h;by_cases hp:Prime n
  ·exact ⟨n,hp,Nat.dvd_refl n⟩
  ·have:∃ d,d∣n∧d≠1∧d≠n:=ux fun ji=>hp ⟨h,fun d hd=>ux fun hd2=>ji ⟨d,hd,fun e=>hd2 (.inl e),fun e=>hd2 (.inr e)⟩⟩
   obtain ⟨d,hd,h1,h2⟩:=this;have je:=mn dn hd;have h0:d≠0:=fun e=>by subst e;have:=Nat.eq_zero_of_zero_dvd hd;omega
   obtain ⟨q,hq,hqd⟩:=ih d dn dn;exact ⟨q,hq,Nat.dvd_trans hqd hd⟩
theorem cL {n:Nat} (h:2≤n) (hf:∀ q,Prime q→q∣n→n<q*q):Prime n:=by
 refine ⟨h,fun d hd=>?_⟩
 obtain ⟨e,rfl⟩:=hd;by_cases h1:d=1
 ·exact .inl h1
 ·by_cases h2:e=1
  ·subst h2;exact .inr (by simp)
  ·exfalso
   have d0:d≠0:=fun e'=>by subst e';simp at h
   have e0:e≠0:=fun e'=>by subst e';simp at h
   obtain ⟨q,hq,hqd⟩:=exists_prime_dvd d dn;obtain ⟨r,hr,hre⟩:=exists_prime_dvd e dn;have a1:=hf q hq (Nat.dvd_mul_right_of_dvd hqd e)
   have a2:=hf r hr (Nat.dvd_mul_left_of_dvd hre d)
   have b1:=mn dn hqd;have b2:=mn dn hre;rcases kf d e with jb | hge
   ·have:=po b1 b1
    have:=nr d (Nat.le_of_lt jb)
    omega
   ·have:=po b2 b2
    have:=my e hge
    omega
theorem AQs {r x m:Nat} (h:x^m % r=1 % r) (k:Nat):x^(m*k) % r=1 % r:=by
 rw [qi,ow,h,← ow,Nat.one_pow]
theorem AQt {r x:Nat}:∀ (m n:Nat),x^m % r=1 % r→x^n % r=1 % r→x^(Nat.gcd m n) % r=1 % r:=by
 intro m n;induction m,n using Nat.gcd.induction with
 | H0 n=>intro _ h;rwa [Nat.gcd_zero_left]
 | H1 m n hm ih =>
  intro h1 h2;rw [Nat.gcd_rec];refine ih ?_ h1
  have e:=mv n m;rw [← e,kc,kz,AQs h1,← kz,qd] at h2;exact h2
theorem cM {N q h a r:Nat} (hN:N=h*q+1) (hq:Prime q) (h1:a^(N-1) % N=1) (h2:Nat.gcd (a^h % N+N-1) N=1) (hr:Prime r) (hrN:r∣N):q∣r-1:=by
 have hr2:=hr.1;have e1:(a^h)^q % r=1 % r:=by
  rw [← qi,show h*q=N-1 by omega,← vd _ hrN,h1]
 have hN1:1≤N:=dn
 have e2:a^h % r≠1:=fun e=>by
  have hd:r∣a^h % N+N-1:=by
   refine sd ?_
   have:(a^h % N+N-1+1) % r=1 % r:=by
    rw [Nat.sub_add_cancel dn,pc,vd _ hrN,e,rb hrN,og]
   have:=Xi this dn
   exact rb (by simpa using this)
  have:=Nat.dvd_gcd hd hrN
  rw [h2] at this;have:=mn dp this
  omega
 have hnd:¬ r∣a^h:=fun hd=>by
  have:r∣(a^h)^q:=by
   obtain ⟨k,hk⟩:=hd;have hq2:=hq.1;obtain ⟨j,rfl⟩:∃ j,q=j+1:=⟨q-1,dn⟩
   exact ⟨(a^h)^j*k,by rw [lj,nb,← hk]⟩
  rw [rb this,jv dn] at e1;cases e1
 have e3:=Ri hr hnd;by_cases hd:q∣r-1
 ·exact hd
 ·exfalso
  have hc:=hq.coprime hd;have:=AQt q (r-1) e1 (by rw [e3,jv dn])
  rw [hc,Nat.pow_one,jv (a:=1) dn] at this;exact e2 this
theorem AQu {N q h a:Nat} (hN:N=h*q+1) (hq:Prime q) (hh:h<q) (h0:0<h) (h1:a^(N-1) % N=1) (h2:Nat.gcd (a^h % N+N-1) N=1):Prime N:=by
 have hq2:=hq.1;have iy:1*1≤h*q:=po h0 dn
 refine cL dn fun r hr hrN=>?_
 have:=mn (by have:=hr.1;omega) (cM hN hq h1 h2 hr hrN)
 have je:q+1≤r:=by have:=hr.1;omega
 have:=po je je
 have h3:h*q≤q*q:=my q dn
 rw [rk,Nat.mul_succ] at this;omega
theorem AQv {N q h a q' h' a':Nat} (hN:N=h*q+1) (hq:Prime q) (h1:a^(N-1) % N=1) (h2:Nat.gcd (a^h % N+N-1) N=1) (hN':N=h'*q'+1) (hq':Prime q') (h1':a'^(N-1) % N=1) (h2':Nat.gcd (a'^h' % N+N-1) N=1)
  (jd:q<q') (hbig:N<(q*q'+1)*(q*q'+1)) (hN2:2≤N):Prime N:=by
 refine cL hN2 fun r hr hrN=>?_
 have d1:=cM hN hq h1 h2 hr hrN;have d2:=cM hN' hq' h1' h2' hr hrN;have hc:Nat.Coprime q q':=hq.coprime fun hd=>by
  rcases hq'.2 q hd with e | e
  ·have:=hq.1;omega
  ·omega
 have:=mn (by have:=hr.1;omega) (hc.mul_dvd_of_dvd_of_dvd d1 d2)
 have je:q*q'+1≤r:=by have:=hr.1;omega
 exact li hbig (po je je)
def Xj (n:Nat):Nat→Nat→Bool
 | 0,_=>true
 | f+1,d=>match n % d with
  | 0=>false
  | _+1=>Xj n f (d+1)
theorem AEV (n:Nat):∀ (f d:Nat),Xj n f d=true→∀ e,d≤e→e<d+f→¬ e∣n
 | 0,d,_,e,h1,h2=>dn
 | f+1,d,h,e,h1,h2=>by
  unfold Xj at h;split at h
  ·cases h
  ·rename_i k hk;rcases Nat.eq_or_lt_of_le h1 with rfl | jb
   ·intro hd;rw [rb hd] at hk;cases hk
   ·exact AEV n f (d+1) h e dn dn
theorem AQw {n f:Nat} (h2:2≤n) (h:Xj n f 2=true) (hb:n<(f+2)*(f+2)):Prime n:=by
 refine cL h2 fun q hq hd=>?_
 rcases kf q (f+2) with jb | hge
 ·exact absurd hd (AEV n f 2 h q hq.1 dn)
 ·exact li hb (po hge hge)
def Pg (m x:Nat):Nat→Nat→Nat
 | 0,_=>1 % m
 | f+1,e=>(match e % 2 with
  | 0=>Pg m (x*x % m) f (e / 2)
  | _=>x*Pg m (x*x % m) f (e / 2) % m)
theorem sQ (m:Nat):∀ (f x e:Nat),e<2^f→Pg m x f e=x^e % m
 | 0,x,e,h=>by
  have:e=0:=by simpa using h
  subst this;rfl
 | f+1,x,e,h=>by
  have ih:=sQ m f (x*x % m) (e / 2) (by rw [lj] at h;omega)
  have h2:(x*x % m)^(e / 2) % m=x^(2*(e / 2)) % m:=by
   rw [← ow,qi,ss]
  unfold Pg;rcases nz e with h0 | h1
  ·rw [h0];show Pg m (x*x % m) f (e / 2)=_;rw [ih,h2,show 2*(e / 2)=e by omega]
  ·rw [h1];show x*Pg m (x*x % m) f (e / 2) % m=_;rw [ih,h2,kz,nu,← kz,← s_,show (2*(e / 2)).succ=e by omega]
def Rj (N q h a f:Nat):Bool:=Nat.beq N (h*q+1)&&(Nat.ble (N-1+1) (2^f)&&(Nat.beq (Pg N a f (N-1)) 1&&Nat.beq (Nat.gcd (Pg N a f h+N-1) N) 1))
theorem cN {N q h a f:Nat} (h0:Rj N q h a f=true) (hq:0<q):N=h*q+1∧a^(N-1) % N=1∧Nat.gcd (a^h % N+N-1) N=1:=by
 unfold Rj at h0;simp only [jx] at h0;obtain ⟨c1,c2,c3,c4⟩:=h0;have e1:=nf c1;have e2:=jp c2;have e3:=nf c3;have e4:=nf c4;have je:h*1≤h*q:=nr h hq
 rw [sQ N f a _ dn] at e3;rw [sQ N f a _ dn] at e4;exact ⟨e1,e3,e4⟩
theorem Hw {n f:Nat} (h:(Nat.ble 2 n&&(Xj n f 2&&Nat.blt n ((f+2)*(f+2))))=true):Prime n:=by
 simp only [jx] at h;exact AQw (jp h.1) h.2.1 (jp h.2.2)
theorem J3 {N q h a f:Nat} (hq:Prime q) (hb:(Rj N q h a f&&(Nat.blt h q&&Nat.blt 0 h))=true):Prime N:=by
 simp only [jx] at hb;have hq2:=hq.1;obtain ⟨e1,e2,e3⟩:=cN hb.1 dn;exact AQu e1 hq (jp hb.2.1) (jp hb.2.2) e2 e3
theorem AQx:Prime 421987:=Hw (f:=650) dm
theorem AQy:Prime 755057:=Hw (f:=870) dm
theorem AQz:Prime 13090036741:=J3 (q:=421987) (h:=31020) (a:=2) (f:=64) AQx dm
theorem AQ0 {N q h a q' h' a' f:Nat} (hq:Prime q) (hq':Prime q') (hb:(Rj N q h a f&&(Rj N q' h' a' f&&(Nat.blt q q'&&(Nat.blt N ((q*q'+1)*(q*q'+1))&&Nat.ble 2 N))))=true):Prime N:=by
 simp only [jx] at hb;obtain ⟨b1,b2,b3,b4,b5⟩:=hb;have hq2:=hq.1;have hq2':=hq'.1;obtain ⟨e1,e2,e3⟩:=cN b1 dn;obtain ⟨d1,d2,d3⟩:=cN b2 dn;exact AQv e1 hq e2 e3 d1 hq' d2 d3 (jp b3) (jp b4) (jp b5)
theorem AQ1:Prime 3819663927398918131021:=AQ0 (h:=(3819663927398918131021-1) / 755057) (a:=2) (h':=(3819663927398918131021-1) / 13090036741) (a':=2) (f:=128) AQy AQz dm
theorem AQ2:Prime 1125266252156850182658904441386709967:=J3 (h:=294598235223046) (a:=2) (f:=128) AQ1 dm
theorem prQ:Prime 15778400344354997994418419698270088123916926905054652752758194827714659:=J3 (h:=14021926201120671579994175730661374) (a:=2) (f:=256) AQ2 dm
theorem prp:Prime 4002409555221667393417789825735904156556882819939007885332058136124031650490837864442687629129015664037894272559787:=J3 (h:=253663835868735594330404923636534084567099854) (a:=2) (f:=384) prQ dm
theorem AQ5 {p x y:Nat} (hp:Prime p) (hx:x<p) (hy:y<p) (h:x*x % p=y*y % p):x=y∨x+y=p:=by
 have gen:∀ {x y:Nat},x<p→y≤x→x*x % p=y*y % p→x=y∨x+y=p:=by
  intro x y hx je h;have hd:=Xi h (po je je)
  have e:x*x-y*y=(x+y)*(x-y):=Nat.mul_self_sub_mul_self_eq x y
  rw [e] at hd;rcases hp.dvd_mul hd with h1 | h1
  ·rcases md (x+y) with h0 | h0
   ·left;omega
   ·obtain ⟨k,hk⟩:=h1;right
    have:k=1:=by
     rcases kf k 2 with h2 | h2
     ·rcases md k with h3 | h3
      ·subst h3;omega
      ·omega
     ·have:=nr p h2;omega
    subst this;omega
  ·left
   rcases md (x-y) with h0 | h0
   ·omega
   ·have:=mn h0 h1;omega
 rcases kf x y with h1 | h1
 ·rcases gen hy (Nat.le_of_lt h1) h.symm with e | e
  ·exact .inl e.symm
  ·exact .inr dn
 ·exact gen hx h1 h
theorem AQ6 {p x:Nat} (hp:Prime p) (h2:2<p) (h:x*x % p=1):x % p=1∨x % p=p-1:=by
 have h':x % p*(x % p) % p=1*1 % p:=by rw [← kz,h,kt,jv dn]
 rcases AQ5 hp (ki x dn) (show 1<p by omega) h' with e | e
 ·exact .inl e
 ·exact .inr dn
theorem AEW {p a:Nat} (hp:Prime p) (h2:2<p) (hodd:p % 2=1) (ha:¬ p∣a):a^((p-1) / 2) % p=1∨a^((p-1) / 2) % p=p-1:=by
 refine AQ6 hp h2 ?_
 rw [← ss,← qi,show (p-1) / 2*2=p-1 by omega]
 exact Ri hp ha
theorem AQ7 {p a:Nat} (h4:p % 4=3):a^((p+1) / 4) % p*(a^((p+1) / 4) % p) % p=a*(a^((p-1) / 2)) % p:=by
 rw [← kz,← kc,← s_];congr 2
 omega
theorem AQ8 {p a:Nat} (hp:0<p):a*(p-1) % p=(p-a % p) % p:=by
 have h1:(a*(p-1)+a) % p=0:=by
  have:a*(p-1)+a=a*p:=by
   have:=Nat.mul_sub a p 1
   have h2:a*1≤a*p:=nr a hp
   omega
  rw [this,Nat.mul_mod_left]
 have hl:=ki a hp;have hl2:=ki (a*(p-1)) hp
 have h3:(a*(p-1) % p+a % p) % p=0:=by rw [← pc];exact h1
 have h4:=mv (a*(p-1) % p+a % p) p
 rw [h3] at h4;rcases md (a % p) with h0 | h0
 ·rw [h0] at h4 ⊢;have:(a*(p-1) % p+0) / p=0:=mf dn
  rw [this] at h4;rw [pv,Nat.mod_self];omega
 ·rw [jv (a:=p-a % p) dn];have:(a*(p-1) % p+a % p) / p=1:=by
   have l1:(a*(p-1) % p+a % p) / p<2:=mb dn
   rcases md ((a*(p-1) % p+a % p) / p) with e | e
   ·rw [e] at h4;omega
   ·omega
  rw [this] at h4;omega
theorem AQ9 {p a:Nat} (hp:Prime p) (h4:p % 4=3) (ha:¬ p∣a):a^((p+1) / 4) % p*(a^((p+1) / 4) % p) % p=a % p↔a^((p-1) / 2) % p=1:=by
 have h2:2<p:=dn
 have hz:a % p≠0:=fun h=>ha (sd h)
 have jb:=ki a (show 0<p by omega)
 rw [AQ7 h4,kz];rcases AEW hp h2 dn ha with h | h
 ·rw [h,kt,nu];simp
 ·rw [h,AQ8 dn,nu,jv (a:=p-a % p) dn];constructor
  ·intro h3;omega
  ·intro h3;omega
theorem AQ_ (p a b e:Nat):(a*b % p)^e % p=(a^e % p)*(b^e % p) % p:=by
 rw [← ow,Nat.mul_pow,kz]
section
variable {p:Nat} [NeZero p]
def D5 (p:Nat) [NeZero p] (x:Nat):Fin p:=Fin.ofNat p x
theorem LN (x:Nat):(D5 p x).val=x % p:=rfl
theorem cO {x y:Nat}:D5 p x=D5 p y↔x % p=y % p:=by
 rw [pj,LN,LN]
theorem AEX (x:Nat):D5 p (x % p)=D5 p x:=by rw [cO,nu]
theorem AEY (x y:Nat):D5 p (x+y)=D5 p x+D5 p y:=by
 rw [pj,Fin.val_add,LN,LN,LN,← pc]
theorem AEZ (x y:Nat):D5 p (x*y)=D5 p x*D5 p y:=by
 rw [pj,Fin.val_mul,LN,LN,LN,← kz]
theorem AEa:D5 p 0=0:=by rw [pj,LN];simp
theorem AQ':D5 p 1=1:=rfl
theorem sR:D5 p p=0:=by rw [pj,LN];simp
theorem sS {x y:Nat} (h:y≤x):D5 p (x-y)=D5 p x-D5 p y:=by
 have:D5 p (x-y)+D5 p y=D5 p x:=by rw [← AEY,Nat.sub_add_cancel h]
 rw [← this];grind
theorem ARA (x:Nat):D5 p (p-x % p)=- D5 p x:=by
 have hp:0<p:=sm (NeZero.ne p)
 rw [sS (Nat.le_of_lt (ki x hp)),sR,AEX];grind
theorem sU {x:Nat}:D5 p x=0↔p∣x:=by
 rw [← AEa,cO,pr];exact ⟨sd,rb⟩
theorem ARB {x y:Nat} (hx:x<p) (hy:y<p) (h:D5 p x=D5 p y):x=y:=by
 have:=cO.1 h
 rwa [jv hx,jv hy] at this
theorem ARC (hp:Prime p) {a b:Fin p} (h:a*b=0):a=0∨b=0:=by
 have e:∀ x:Fin p,D5 p x.val=x:=fun x=>by rw [pj,LN,jv x.isLt]
 rw [← e a,← e b,← AEZ,sU] at h;rw [← e a,← e b,sU,sU];exact hp.dvd_mul h
end
end Go.Proofs.YtgnajdcdcblaoaaGreat.Num
namespace Go.Proofs.YtgnajdcdcblaoaaGreat
abbrev gc:Nat:=0x73eda753299d7d483339d80809a1d80553bda402fffe5bfeffffffff00000001
end Go.Proofs.YtgnajdcdcblaoaaGreat
namespace Go.Proofs.YtgnajdcdcblaoaaGreat.Num
set_option maxRecDepth 100000
set_option maxHeartbeats 4000000
theorem AEb {m:Nat}:∀ {l:List Nat},(∀ q∈l,Prime q)→l.Nodup→(∀ q∈l,q∣m)→BT l∣m
 | [],_,_,_=>Nat.one_dvd m
 | q::l,hp,hn,hd=>by
  obtain ⟨h1,h2⟩:=rf.1 hn;have hq:=hp q (by simp)
  have hc:Nat.Coprime q (BT l):=hq.coprime (sP hq fun x hx e=>by
   rcases (hp x (by simp [hx])).2 q e with e | e
   ·have:=hq.1;omega
   ·exact h1 (e▸hx))
  exact hc.mul_dvd_of_dvd_of_dvd (hd q (by simp)) (AEb (fun x hx=>hp x (by simp [hx])) h2 fun x hx=>hd x (by simp [hx]))
def sV (N a f:Nat):List Nat→Bool
 | []=>true
 | q::l=>Rj N q ((N-1) / q) a f&&sV N a f l
theorem AEc {N a f:Nat}:∀ {l:List Nat},sV N a f l=true→∀ q∈l,Rj N q ((N-1) / q) a f=true
 | [],_,_,h=>by cases h
 | x::l,h,q,hq=>by
  have h':=jy.1 h;rcases ka.1 hq with rfl | hq
  ·exact h'.1
  ·exact AEc h'.2 q hq
theorem AEd {N a f:Nat} {l:List Nat} (hl:∀ q∈l,Prime q) (hn:l.Nodup) (hb:(sV N a f l&&(Nat.blt N ((BT l+1)*(BT l+1))&&Nat.ble 2 N))=true):Prime N:=by
 simp only [jx] at hb;obtain ⟨b1,b2,b3⟩:=hb;have hN2:=jp b3;refine cL hN2 fun r hr hrN=>?_
 have hd:BT l∣r-1:=AEb hl hn fun q hq=>by
  have:=(hl q hq).1
  obtain ⟨e1,e2,e3⟩:=cN (AEc b1 q hq) dn
  exact cM e1 (hl q hq) e2 e3 hr hrN
 have hr2:=hr.1;have:=mn dn hd
 have je:BT l+1≤r:=dn
 exact li (jp b2) (po je je)
theorem ARD:Prime 254760293:=Hw (f:=15962) dm
theorem ARE:Prime 52437899:=Hw (f:=7242) dm
theorem ARF:Prime 2529403:=Hw (f:=1591) dm
theorem ARG:Prime 2508409:=Hw (f:=1584) dm
theorem ARH:Prime 906349:=Hw (f:=953) dm
theorem ARI:Prime 859267:=Hw (f:=927) dm
theorem prR:Prime gc :=
 AEd (a:=2) (f:=255) (l:=[254760293,52437899,2529403,2508409,906349,859267])
  (by
   intro q hq;simp only [ka,List.not_mem_nil,or_false] at hq;rcases hq with rfl | rfl | rfl | rfl | rfl | rfl
   ·exact ARD
   ·exact ARE
   ·exact ARF
   ·exact ARG
   ·exact ARH
   ·exact ARI)
  dp dm
end Go.Proofs.YtgnajdcdcblaoaaGreat.Num
namespace Go.Proofs.YtgnajdcdcblaoaaGreat.Num
theorem ARK:Prime 1367711:=Hw (f:=1170) dm
theorem ARL:Prime 541:=Hw (f:=30) dm
theorem ARM:Prime 12192593745179 :=
 AEd (a:=2) (f:=64) (l:=[1367711,541])
  (by
   intro q hq;simp only [ka,List.not_mem_nil,or_false] at hq;rcases hq with rfl | rfl
   ·exact ARK
   ·exact ARL)
  dp dm
theorem ARN:Prime 512088937297519:=J3 (q:=12192593745179) (h:=42) (a:=2) (f:=64) ARM dm
theorem ARO:Prime 1857858664515398933:=J3 (q:=512088937297519) (h:=3628) (a:=2) (f:=64) ARN dm
theorem ARP:Prime 22294303974184787197:=J3 (q:=1857858664515398933) (h:=12) (a:=2) (f:=128) ARO dm
theorem ARQ:Prime 19931107752921199754119:=J3 (q:=22294303974184787197) (h:=894) (a:=2) (f:=128) ARP dm
theorem ARR:Prime 81162125843606155545104998607900118769099783:=J3 (q:=19931107752921199754119) (h:=4072133212551150901578) (a:=2) (f:=192) ARQ dm
theorem ARS:Prime 26935696298915610574513298451669528361624243820491956655650666425177:=J3 (q:=81162125843606155545104998607900118769099783) (h:=331875194481953911837672) (a:=2) (f:=256) ARR dm
theorem ART:Prime 4638704574076146691498289350639807119782054683906549022985642612861209609656189848749536921852444848596916990932297:=J3 (q:=26935696298915610574513298451669528361624243820491956655650666425177) (h:=172214021222941014338396330402661971150362189448) (a:=2) (f:=384) ARS dm
theorem prT:Prime 402096035359507321594726366720466575392706800671181159425656785868777272553337714697862511267018014931937703598282857976535744623203249:=J3 (q:=4638704574076146691498289350639807119782054683906549022985642612861209609656189848749536921852444848596916990932297) (h:=86682828996409959984) (a:=2) (f:=448) ART dm
end Go.Proofs.YtgnajdcdcblaoaaGreat.Num
namespace Go.Proofs.YtgnajdcdcblaoaaGreat
open Ex Num
theorem pN_prime:Num.Prime pN:=prp
theorem pN4:pN % 4=3:=dm
theorem sW:2<pN:=dp
theorem ARW:QN=(pN+1) / 4:=dm
noncomputable def Nx (a:Nat):Nat:=a^((pN-1) / 2) % pN
theorem AEe {a:Nat}:pN∣a↔a % pN=0:=⟨rb,sd⟩
theorem AEf {a:Nat} (h:a % pN≠0):CX a=true↔Nx a=1:=by
 unfold CX Ae Nx;rw [LJ,ARW,jt];exact AQ9 pN_prime pN4 fun hd=>h (AEe.1 hd)
theorem ARX {a:Nat} (h:a % pN=0):CX a=true:=by
 unfold CX Ae;rw [LJ,jt,ow,h,Nat.zero_pow dp];rfl
theorem AEg {a:Nat} (h:a % pN≠0):Nx a=1∨Nx a=pN-1:=AEW pN_prime sW Xh fun hd=>h (AEe.1 hd)
theorem ARY (a b:Nat):Nx (Ae a b)=Nx a*Nx b % pN:=AQ_ pN a b _
theorem sZ {a:Nat} (h:a % pN≠0):CX a=decide (Nx a=1):=by
 have:=AEf h
 cases hb:CX a with
 | true=>rw [jm (this.1 hb)]
 | false=>rw [jq fun e=>by rw [this.2 e] at hb;cases hb]
theorem mm:(pN-1)*(pN-1) % pN=1:=dm
theorem m1:(pN-1)*1 % pN=pN-1:=dm
theorem m1':1*(pN-1) % pN=pN-1:=dm
theorem ARa {a b:Nat} (h:Ae a b≠0):a % pN≠0∧b % pN≠0:=by
 constructor
 ·intro e;apply h;unfold Ae;rw [kz,e,p_,pr]
 ·intro e;apply h;unfold Ae;rw [kz,e,me,pr]
theorem LO (a b:Nat):Ae a b<pN:=ki _ C6
theorem ARb {a b:Nat} (h:Ae a b≠0):CX (Ae a b)=(CX a==CX b):=by
 obtain ⟨ha,hb⟩:=ARa h;rw [sZ (by rw [jv (LO a b)];exact h),sZ ha,sZ hb,ARY]
 rcases AEg ha with e | e<;>rcases AEg hb with e' | e'<;>rw [e,e']
 ·rfl
 ·rw [m1'];rfl
 ·rw [m1];rfl
 ·rw [mm];rfl
theorem neg_sq {v:Nat} (hl:v<pN):(pN-v)*(pN-v) % pN=v*v % pN:=by
 obtain ⟨u,hu⟩:∃ u,pN=u+v:=⟨pN-v,dn⟩
 rw [show pN-v=u by omega]
 have e:u*u+v*pN=v*v+u*pN:=by rw [hu,oe,oe,ko v u];omega
 have h1:(u*u+v*pN) % pN=u*u % pN:=Nat.add_mul_mod_self_right _ _ _
 have h2:(v*v+u*pN) % pN=v*v % pN:=Nat.add_mul_mod_self_right _ _ _
 rw [← h1,e,h2]
theorem ARc (w:Nat):Ae (Hu w) (Hu w)=Ae w w:=by
 unfold Hu;split
 ·unfold Ae C7;rw [← kz];by_cases h:w % pN=0
  ·rw [h,pv,kz pN,Nat.mod_self,kz w,h]
  ·have e:(pN-w % pN)*(pN-w % pN) % pN=(w % pN)*(w % pN) % pN:=by
    have hl:=Hr w;generalize w % pN=v at *
    exact neg_sq hl
   rw [e,← kz]
 ·rfl
theorem ARd {w:Nat} (h:w<pN):Hu w % 2=0∧Hu w<pN:=by
 have ho:=Xh;unfold Hu;split
 ·rename_i hs;have h1:w % 2=1:=by unfold EV at hs;rw [jv h] at hs;omega
  have hz:w % pN≠0:=by rw [jv h];omega
  rw [AQo hz,jv h];omega
 ·rename_i hs;have h1:w % 2≠1:=fun e=>by apply hs;unfold EV;rw [jv h];omega
  omega
theorem AEh (a e:Nat):C8 a e<pN:=by rw [LJ];exact ki _ C6
theorem s6 {a:Nat} (h:CX a=true):Ae (D4 a) (D4 a)=a % pN∧D4 a % 2=0∧D4 a<pN:=by
 have e:D4 a=Hu (C8 a QN):=by unfold D4;rw [jo h]
 obtain ⟨q1,q2⟩:=ARd (AEh a QN)
 rw [e,ARc];refine ⟨?_,q1,q2⟩
 unfold CX at h;exact kj h
abbrev fb:List Bool:=[false,false,true]
abbrev fe:List Bool:=[false,true,true]
abbrev fh:List Bool:=[false,false,false]
abbrev fl:List Bool:=[false,true,false]
open Ex
set_option maxRecDepth 100000
set_option maxHeartbeats 4000000
def lenL:List UInt8:=[0,1]++(List.replicate 2 2++(List.replicate 4 3++(List.replicate 8 4++(List.replicate 16 5++(List.replicate 32 6++(List.replicate 64 7++List.replicate 128 8))))))
def lenT:ByteArray:=⟨⟨lenL⟩⟩
def BY (x:Int) (k:Nat):Int:=Int.fdiv x (2^k)
theorem ARe (x:Int):AJ dr (AG S5 K0) f285 [.val false [.v (.int .u64 x)]] [true,true,true] 100 =
 some ([(decide (4294967296≤x),true),(decide (0≤(32:Int)∧0≤x),true),(decide (65536≤(BY x 32)),true),(decide (0≤(16:Int)∧0≤(BY x 32)),true),(decide (256≤(BY (BY x 32) 16)),true),(decide (0≤(8:Int)∧0≤(BY (BY x 32) 16)),true),(decide (0≤AW false .u8 (BY (BY (BY x 32) 16) 8)∧AW false .u8 (BY (BY (BY x 32) 16) 8)<(lenT.size:Int)),true)],DR (AW false .i64 (AW true .i64 (AW true .i64 (32+16)+8)+AW false .i64 (GE lenT (AW false .u8 (BY (BY (BY x 32) 16) 8)))))):=dm
theorem ARf (x:Int):AJ dr (AG S5 K0) f285 [.val false [.v (.int .u64 x)]] [true,true,false] 100 =
 some ([(decide (4294967296≤x),true),(decide (0≤(32:Int)∧0≤x),true),(decide (65536≤(BY x 32)),true),(decide (0≤(16:Int)∧0≤(BY x 32)),true),(decide (256≤(BY (BY x 32) 16)),false),(decide (0≤AW false .u8 (BY (BY x 32) 16)∧AW false .u8 (BY (BY x 32) 16)<(lenT.size:Int)),true)],DR (AW false .i64 (AW true .i64 (32+16)+AW false .i64 (GE lenT (AW false .u8 (BY (BY x 32) 16)))))):=dm
theorem ARg (x:Int):AJ dr (AG S5 K0) f285 [.val false [.v (.int .u64 x)]] ew 100 =
 some ([(decide (4294967296≤x),true),(decide (0≤(32:Int)∧0≤x),true),(decide (65536≤(BY x 32)),false),(decide (256≤(BY x 32)),true),(decide (0≤(8:Int)∧0≤(BY x 32)),true),(decide (0≤AW false .u8 (BY (BY x 32) 8)∧AW false .u8 (BY (BY x 32) 8)<(lenT.size:Int)),true)],DR (AW false .i64 (AW true .i64 (32+8)+AW false .i64 (GE lenT (AW false .u8 (BY (BY x 32) 8)))))):=dm
theorem ARh (x:Int):AJ dr (AG S5 K0) f285 [.val false [.v (.int .u64 x)]] e_ 100 =
 some ([(decide (4294967296≤x),true),(decide (0≤(32:Int)∧0≤x),true),(decide (65536≤(BY x 32)),false),(decide (256≤(BY x 32)),false),(decide (0≤AW false .u8 (BY x 32)∧AW false .u8 (BY x 32)<(lenT.size:Int)),true)],DR (AW false .i64 (32+AW false .i64 (GE lenT (AW false .u8 (BY x 32)))))):=dm
theorem ARi (x:Int):AJ dr (AG S5 K0) f285 [.val false [.v (.int .u64 x)]] fe 100 =
 some ([(decide (4294967296≤x),false),(decide (65536≤x),true),(decide (0≤(16:Int)∧0≤x),true),(decide (256≤(BY x 16)),true),(decide (0≤(8:Int)∧0≤(BY x 16)),true),(decide (0≤AW false .u8 (BY (BY x 16) 8)∧AW false .u8 (BY (BY x 16) 8)<(lenT.size:Int)),true)],DR (AW false .i64 (AW true .i64 (AW true .i64 (0+16)+8)+AW false .i64 (GE lenT (AW false .u8 (BY (BY x 16) 8)))))):=dm
theorem ARj (x:Int):AJ dr (AG S5 K0) f285 [.val false [.v (.int .u64 x)]] fl 100 =
 some ([(decide (4294967296≤x),false),(decide (65536≤x),true),(decide (0≤(16:Int)∧0≤x),true),(decide (256≤(BY x 16)),false),(decide (0≤AW false .u8 (BY x 16)∧AW false .u8 (BY x 16)<(lenT.size:Int)),true)],DR (AW false .i64 (AW true .i64 (0+16)+AW false .i64 (GE lenT (AW false .u8 (BY x 16)))))):=dm
theorem ARk (x:Int):AJ dr (AG S5 K0) f285 [.val false [.v (.int .u64 x)]] fb 100 =
 some ([(decide (4294967296≤x),false),(decide (65536≤x),false),(decide (256≤x),true),(decide (0≤(8:Int)∧0≤x),true),(decide (0≤AW false .u8 (BY x 8)∧AW false .u8 (BY x 8)<(lenT.size:Int)),true)],DR (AW false .i64 (AW true .i64 (0+8)+AW false .i64 (GE lenT (AW false .u8 (BY x 8)))))):=dm
theorem ARl (x:Int):AJ dr (AG S5 K0) f285 [.val false [.v (.int .u64 x)]] fh 100 =
 some ([(decide (4294967296≤x),false),(decide (65536≤x),false),(decide (256≤x),false),(decide (0≤AW false .u8 x∧AW false .u8 x<(lenT.size:Int)),true)],DR (AW false .i64 (0+AW false .i64 (GE lenT (AW false .u8 x))))):=dm
def Ph (x L top:Nat):Prop:=x<2^L∧(0<x→1≤L∧2^(L-1)≤x)∧L≤top
def Fw (v:Nat):Nat:=(lenL.getD v 0).toNat
def s7 (x L:Nat):Bool:=Nat.blt x (2^L)&&((Nat.beq x 0||(Nat.ble 1 L&&Nat.ble (2^(L-1)) x))&&Nat.ble L 8)
def s8:Nat→Bool
 | 0=>true
 | n+1=>s7 n (Fw n)&&s8 n
theorem AEi:∀ n,s8 n=true→∀ v,v<n→s7 v (Fw v)=true
 | 0,_,v,h=>dn
 | n+1,h,v,hv=>by
  simp only [s8,jx] at h;rcases kf v n with h1 | h1
  ·exact AEi n h.2 v h1
  ·have:v=n:=dn
   subst this;exact h.1
theorem AEj {v:Nat} (h:v<256):Ph v (Fw v) 8:=by
 have:=AEi 256 dm v h
 unfold s7 at this;simp only [jx,sn] at this;obtain ⟨h1,h2,h3⟩:=this;refine ⟨jp h1,fun hp=>?_,jp h3⟩
 rcases h2 with h2 | ⟨h2,h4⟩
 ·have:=nf h2;omega
 ·exact ⟨jp h2,jp h4⟩
theorem s9 {x L top:Nat} (k:Nat) (h:Ph (x / 2^k) L top) (hx:2^k≤x):Ph x (k+L) (k+top):=by
 obtain ⟨h1,h2,h3⟩:=h;have hp:0<2^k:=m_ dp
 have hq:0<x / 2^k:=Nat.div_pos hx hp
 obtain ⟨h4,h5⟩:=h2 hq;refine ⟨?_,fun _=>⟨dn,?_⟩,dn⟩
 ·rw [kc];exact (ua hp).1 h1 |> fun q=>by rwa [ko] at q
 ·rw [show k+L-1=k+(L-1) by omega,kc]
  have:=(Nat.le_div_iff_mul_le hp).1 h5
  rwa [ko] at this
theorem tA {x L top top':Nat} (h:Ph x L top) (je:top≤top'):Ph x L top':=⟨h.1,h.2.1,mw h.2.2 je⟩
def Pi (x:Nat):Nat:=if 256≤x then 8+Fw (x / 2^8) else Fw x
def Uf (x:Nat):Nat:=if 65536≤x then 16+Pi (x / 2^16) else Pi x
def Fx (x:Nat):Nat:=if 4294967296≤x then 32+Uf (x / 2^32) else Uf x
theorem AEk {x:Nat} (h:x<65536):Ph x (Pi x) 16:=by
 unfold Pi;split
 ·exact s9 8 (AEj dn) dn
 ·exact tA (AEj dn) dp
theorem AEl {x:Nat} (h:x<4294967296):Ph x (Uf x) 32:=by
 unfold Uf;split
 ·exact s9 16 (AEk dn) dn
 ·exact tA (AEk dn) dp
theorem AEm {x:Nat} (h:x<18446744073709551616):Ph x (Fx x) 64:=by
 unfold Fx;split
 ·exact s9 32 (AEl dn) dn
 ·exact tA (AEl dn) dp
theorem Ny (x k:Nat):BY (x:Int) k=((x / 2^k:Nat):Int):=by
 unfold BY;rw [q_ _ (by exact_mod_cast qt (2^k))]
 rw [se,ql];rfl
theorem Xk (c:Bool) {z:Int} (h:-9223372036854775808≤z∧z≤9223372036854775807):AW c .i64 z=z:=by
 rw [DD];exact Au h
theorem AEn {v:Nat} (h:v<256):AW false .u8 (v:Int)=v:=by
 rw [DD,IntKind.wrap_u8];omega
theorem ARm {v:Nat}:GE lenT (v:Int)=((Fw v:Nat):Int):=by
 unfold GE Fw lenT;rw [jz]
theorem ARn:lenT.size=256:=dm
theorem ARo (v:Nat):Fw v≤255:=by
 have:=(lenL.getD v 0).toNat_lt
 unfold Fw;omega
theorem ARp (x:Nat) (hx:x<18446744073709551616):AT dr 285 [.val false [.v (.int .u64 (x:Int))]] (DR (Fx x)):=by
 have pk:=fun (c:du) (v:AV) (p:List Bool) (h:AJ dr (AG S5 K0) f285 [.val false [.v (.int .u64 (x:Int))]] p 100=some (c,v)) (hc:AM c) (hk:Nj v=true)=>AN (AH cC Ac) AB func285 h hc hk
 have fin:∀ (n v m:Nat),v<256→n≤56→n+Fw v=m→DR (AW false .i64 ((n:Int)+AW false .i64 (GE lenT (AW false .u8 (v:Int)))))=DR (m:Int):=by
  intro n v m hv hn he;have:=ARo v
  rw [AEn hv,ARm,Xk (z:=((Fw v:Nat):Int)) _ dn,Xk _ dn];congr 1;omega
 have w0:∀ (z:Int),AW true .i64 z=wI z:=fun z=>DD ..
 have cnd:∀ v:Nat,v<256→decide (0≤AW false .u8 (v:Int)∧AW false .u8 (v:Int)<(lenT.size:Int))=true:=by
  intro v hv;rw [AEn hv,ARn];simp;omega
 unfold Fx;by_cases h1:4294967296≤x
 ·rw [jo h1];unfold Uf;have s1:=Ny x 32;generalize hy:x / 2^32=y at *
  have hyb:y<4294967296:=dn
  by_cases h2:65536≤y
  ·rw [jo h2];unfold Pi;have s2:=Ny y 16;generalize hz:y / 2^16=z at *
   have hzb:z<65536:=dn
   by_cases h3:256≤z
   ·rw [jo h3];have s3:=Ny z 8;have hb:z / 2^8<256:=dn
    have r:=ARe (x:Int)
    rw [s1,s2,s3] at r;have h:=pk _ _ _ r ⟨by simp;omega,by simp,by simp;omega,by simp,by simp;omega,by simp,cnd _ hb,trivial⟩ rfl
    have e:AW true .i64 (AW true .i64 (32+16)+8)=((56:Nat):Int):=dm
    rw [e,fin 56 _ (32+(16+(8+Fw (z / 2^8)))) hb dp dn] at h;exact h
   ·rw [jn h3];have hb:z<256:=dn
    have r:=ARf (x:Int)
    rw [s1,s2] at r;have h:=pk _ _ _ r ⟨by simp;omega,by simp,by simp;omega,by simp,by simp;omega,cnd _ hb,trivial⟩ rfl
    have e:AW true .i64 (32+16)=((48:Nat):Int):=dm
    rw [e,fin 48 _ (32+(16+Fw z)) hb dp dn] at h;exact h
  ·rw [jn h2];unfold Pi;by_cases h3:256≤y
   ·rw [jo h3];have s3:=Ny y 8;have hb:y / 2^8<256:=dn
    have r:=ARg (x:Int)
    rw [s1,s3] at r;have h:=pk _ _ _ r ⟨by simp;omega,by simp,by simp;omega,by simp;omega,by simp,cnd _ hb,trivial⟩ rfl
    have e:AW true .i64 (32+8)=((40:Nat):Int):=dm
    rw [e,fin 40 _ (32+(8+Fw (y / 2^8))) hb dp dn] at h;exact h
   ·rw [jn h3];have hb:y<256:=dn
    have r:=ARh (x:Int)
    rw [s1] at r;have h:=pk _ _ _ r ⟨by simp;omega,by simp,by simp;omega,by simp;omega,cnd _ hb,trivial⟩ rfl
    rw [show (32:Int)=((32:Nat):Int) from rfl,fin 32 _ (32+Fw y) hb dp dn] at h
    exact h
 ·rw [jn h1];unfold Uf;by_cases h2:65536≤x
  ·rw [jo h2];unfold Pi;have s2:=Ny x 16;generalize hz:x / 2^16=z at *
   have hzb:z<65536:=dn
   by_cases h3:256≤z
   ·rw [jo h3];have s3:=Ny z 8;have hb:z / 2^8<256:=dn
    have r:=ARi (x:Int)
    rw [s2,s3] at r;have h:=pk _ _ _ r ⟨by simp;omega,by simp;omega,by simp,by simp;omega,by simp,cnd _ hb,trivial⟩ rfl
    have e:AW true .i64 (AW true .i64 (0+16)+8)=((24:Nat):Int):=dm
    rw [e,fin 24 _ (16+(8+Fw (z / 2^8))) hb dp dn] at h;exact h
   ·rw [jn h3];have hb:z<256:=dn
    have r:=ARj (x:Int)
    rw [s2] at r;have h:=pk _ _ _ r ⟨by simp;omega,by simp;omega,by simp,by simp;omega,cnd _ hb,trivial⟩ rfl
    have e:AW true .i64 (0+16)=((16:Nat):Int):=dm
    rw [e,fin 16 _ (16+Fw z) hb dp dn] at h;exact h
  ·rw [jn h2];unfold Pi;by_cases h3:256≤x
   ·rw [jo h3];have s3:=Ny x 8;have hb:x / 2^8<256:=dn
    have r:=ARk (x:Int)
    rw [s3] at r;have h:=pk _ _ _ r ⟨by simp;omega,by simp;omega,by simp;omega,by simp,cnd _ hb,trivial⟩ rfl
    have e:AW true .i64 (0+8)=((8:Nat):Int):=dm
    rw [e,fin 8 _ (8+Fw (x / 2^8)) hb dp dn] at h;exact h
   ·rw [jn h3];have hb:x<256:=dn
    have r:=ARl (x:Int)
    have h:=pk _ _ _ r ⟨by simp;omega,by simp;omega,by simp;omega,cnd _ hb,trivial⟩ rfl
    rw [show (0:Int)=((0:Nat):Int) from rfl,fin 0 _ (Fw x) hb dp dn] at h
    exact h
open Ex
def cS:List IntKind→List AV→Option (dt)
 | [],[]=>some []
 | k::ks,A::r=>match Bp (some A),cS ks r with
  | some (_,k',i),some l=>match decide (k'=k) with
   | true=>some (i::l)
   | false=>none
  | _,_=>none
 | _,_=>none
def tB:List IntKind→dt→List AV
 | k::ks,i::is=>.val false [.v (.int k i)]::tB ks is
 | _,_=>[]
def tC:List IntKind→dt→Prop
 | k::ks,i::is=>has k i∧tC ks is
 | _,_=>True
theorem AEo:∀ {ks:List IntKind} {args:List AV} {is:dt} {us:List gq},cS ks args=some is→BL CB args us→BL CB (tB ks is) us∧tC ks is
 | [],[],is,us,h,hr=>by
  injection h with h;subst h;exact ⟨hr,trivial⟩
 | [],_::_,_,_,h,_=>by cases h
 | _::_,[],_,_,h,_=>by cases h
 | k::ks,A::r,is,us,h,hr=>by
  unfold cS at h;split at h
  ·rename_i c k' i l hi hl;split at h
   ·rename_i hk;injection h with h;subst h;have hk':k'=k:=by simpa using hk
    subst hk';obtain ⟨u,us',r1,r2,rfl⟩:=hr;obtain ⟨q1,q2⟩:=UQ hi r1;obtain ⟨p1,p2⟩:=AEo hl r2;exact ⟨⟨u,us',q1,p1,rfl⟩,q2,p2⟩
   ·cases h
  ·cases h
def Ug (ks:List IntKind) (g:dt→Option (du×AV)):List AV→Option (du×AV):=fun args=>match cS ks args with
 | some is=>g is
 | none=>none
theorem cT {f:gp} {ks:List IntKind} {g:dt→Option (du×AV)} (h:∀ is c v,g is=some (c,v)→tC ks is→AM c→AT dr f (tB ks is) v) :
  ∀ args c v,Ug ks g args=some (c,v)→AM c→AT dr f args v:=by
 intro args c v hs hc us w ha;unfold Ug at hs;split at hs
 ·rename_i is his;obtain ⟨q1,q2⟩:=AEo his ha;exact h is c v hs q2 hc us w q1
 ·cases hs
def cU (g:Int→du×AV):dt→Option (du×AV)
 | [x]=>some (g x)
 | _=>none
noncomputable def S20:dw:=(285,FO (Ug [.u64] (cU fun x=>([],DR (Fx x.toNat)))))::S19
theorem AEp:AX dr S20:=⟨GK func285 dm dm (cT fun is c v h hh _=>by
 unfold cU at h;split at h
 ·injection h with h;injection h with h1 h2;subst h1;subst h2;rename_i x;have hb:=EH hh.1;obtain ⟨X,rfl⟩:=kw hb.1;rw [jz];exact ARp X dn
 ·cases h),AQl⟩
theorem ARq (x:Int):AJ dr (AG S20 K0) f258 [.val false [.v (.int .u64 x)]] [] 100=some ([],DR (wI (64-(Fx x.toNat:Int)))):=dm
theorem ARr (x:Nat) (hx:x<18446744073709551616):AT dr 258 [.val false [.v (.int .u64 (x:Int))]] (DR (64-Fx x:Nat)):=by
 have h:=AN (AH AEp Ac) AB func258 (ARq x) trivial rfl
 have:=(AEm hx).2.2
 rw [jz,Au dn,show (64:Int)-(Fx x:Int)=((64-Fx x:Nat):Int) by omega] at h
 exact h
noncomputable def S21:dw:=(258,FO (Ug [.u64] (cU fun x=>([],DR (64-Fx x.toNat:Nat)))))::S20
theorem Hx:AX dr S21:=⟨GK func258 dm dm (cT fun is c v h hh _=>by
 unfold cU at h;split at h
 ·injection h with h;injection h with h1 h2;subst h1;subst h2;rename_i x;have hb:=EH hh.1;obtain ⟨X,rfl⟩:=kw hb.1;rw [jz];exact ARr X dn
 ·cases h),AEp⟩
abbrev ef:List Bool:=[false,false]
open Ex
set_option maxRecDepth 100000
set_option maxHeartbeats 4000000
def dA (h l y:Int):List AV:=[.val false [.v (.int .u64 h)],.val false [.v (.int .u64 l)],.val false [.v (.int .u64 y)]]
noncomputable def ARs:List Item:=B6 (AZ dr (AG S21 K0) (some 0) 300 0 none (Ak f204 (dA 0 0 0) [] 0 fh))
def uV (x:Int):AV:=.val false [.v (.int .u64 x)]
noncomputable def dT1 (Y s y1 y0 u u1 u0 q r:Int):List AV:=.any::.any::uV Y::.any::.any::.any::.any::.any::uV s::uV y1::uV y0::uV u::.any::uV u1::uV u0::uV q::uV r::List.replicate (f204.ntmps-17) .any
noncomputable def Mm (Y s y1 y0 u u1 u0 q r:Int) (p:List Bool):h_:=⟨ARs,⟨dT1 Y s y1 y0 u u1 u0 q r,[],0,p⟩⟩
noncomputable def ARu:List Item:=B6 (AZ dr (AG S21 K0) (some 0) 300 0 none (Mm 0 0 0 0 0 0 0 0 0 ef))
noncomputable def dT2 (Y s y1 y0 u0 q r v z:Int):List AV:=.any::.any::uV Y::.any::.any::.any::.any::.any::uV s::uV y1::uV y0::.any::.any::.any::uV u0::uV q::uV r::uV v::uV z::List.replicate (f204.ntmps-19) .any
noncomputable def J4 (Y s y1 y0 u0 q r v z:Int) (p:List Bool):h_:=⟨ARu,⟨dT2 Y s y1 y0 u0 q r v z,[],0,p⟩⟩
def Xl (x s:Int):Int:=mW (x*2^min s.toNat 64)
def LP (x s:Int):Int:=Int.fdiv x (2^min s.toNat 64)
def Pj (y:Int):Int:=mW ((64-Fx y.toNat:Nat):Int)
def Mn (y:Int):Int:=Xl y (Pj y)
def Uh (h l y:Int):Int:=bits .or .u64 (Xl h (Pj y)) (LP l (mW (64-Pj y)))
def Xm (l y:Int):Int:=Xl l (Pj y)
abbrev K1:Option (List Nat×List Nat×Nat):=some ([2,8,9,10,11,13,14,15,16],[],0)
abbrev K2:Option (List Nat×List Nat×Nat):=some ([2,8,9,10,14,15,16,17,18],[],0)
theorem ARw (h l y:Int):AZ dr (AG S21 K0) (some 0) 300 0 K1 (Ak f204 (dA h l y) [] 0 fh) =
 some ([(decide (y=0),false),(decide (y≤h),false),(decide (h=0),false),(true,true),(decide (0≤(32:Int)∧0≤Mn y),true),(true,true),(decide (0≤mW (64-Pj y)∧0≤l),true),(true,true),
  (decide (0≤(32:Int)∧0≤Xm l y),true),(decide (LP (Mn y) 32≠0),true)],[],
  Mm (Mn y) (Pj y) (LP (Mn y) 32) (bits .and .u64 (Mn y) 4294967295) (Uh h l y) (LP (Xm l y) 32) (bits .and .u64 (Xm l y) 4294967295) (mW (Int.tdiv (Uh h l y) (LP (Mn y) 32)))
   (mW (Uh h l y-mW (mW (Int.tdiv (Uh h l y) (LP (Mn y) 32))*LP (Mn y) 32))) []):=dm
theorem ARx (h l y:Int):E' dr (AG S21 K0) f204 300 0 (Ak f204 (dA h l y) [] 0 fb) =
 some ([(decide (y=0),false),(decide (y≤h),false),(decide (h=0),true),(decide (y≠0),true),(decide (0≤l∧0<y),true)],[],.tup [(false,[.v (.int .u64 (mW (Int.tdiv l y)))]),(false,[.v (.int .u64 (Int.tmod l y))])]):=dm
def Mo (q r y0 u1:Int):Bool:=decide (mW (mW (4294967296*r)+u1)<mW (q*y0))
section
variable (Y s y1 y0 u u1 u0 q r v z:Int)
theorem ARy:AZ dr (AG S21 K0) (some 0) 300 0 K1 (Mm Y s y1 y0 u u1 u0 q r eg) =
 some ([(decide (4294967296≤q),true),(decide (4294967296≤mW (r+y1)),false)],[],Mm Y s y1 y0 u u1 u0 (mW (q-1)) (mW (r+y1)) []):=dm
theorem ARz:AZ dr (AG S21 K0) (some 0) 300 0 K1 (Mm Y s y1 y0 u u1 u0 q r fl) =
 some ([(decide (4294967296≤q),false),(Mo q r y0 u1,true),(decide (4294967296≤mW (r+y1)),false)],[],Mm Y s y1 y0 u u1 u0 (mW (q-1)) (mW (r+y1)) []):=dm
def Fy (Y u u1 q:Int):Int:=mW (mW (mW (u*4294967296)+u1)-mW (q*Y))
theorem AR0:AZ dr (AG S21 K0) (some 0) 300 0 K2 (Mm Y s y1 y0 u u1 u0 q r d_) =
 some ([(decide (4294967296≤q),true),(decide (4294967296≤mW (r+y1)),true),(decide (y1≠0),true)],[],
  J4 Y s y1 y0 u0 (mW (q-1)) (mW (Fy Y u u1 (mW (q-1))-mW (mW (Int.tdiv (Fy Y u u1 (mW (q-1))) y1)*y1))) (Fy Y u u1 (mW (q-1))) (mW (Int.tdiv (Fy Y u u1 (mW (q-1))) y1)) []):=dm
theorem AR1:AZ dr (AG S21 K0) (some 0) 300 0 K2 (Mm Y s y1 y0 u u1 u0 q r fe) =
 some ([(decide (4294967296≤q),false),(Mo q r y0 u1,true),(decide (4294967296≤mW (r+y1)),true),(decide (y1≠0),true)],[],
  J4 Y s y1 y0 u0 (mW (q-1)) (mW (Fy Y u u1 (mW (q-1))-mW (mW (Int.tdiv (Fy Y u u1 (mW (q-1))) y1)*y1))) (Fy Y u u1 (mW (q-1))) (mW (Int.tdiv (Fy Y u u1 (mW (q-1))) y1)) []):=dm
theorem AEq:AZ dr (AG S21 K0) (some 0) 300 0 K2 (Mm Y s y1 y0 u u1 u0 q r ef) =
 some ([(decide (4294967296≤q),false),(Mo q r y0 u1,false),(decide (y1≠0),true)],[],
  J4 Y s y1 y0 u0 q (mW (Fy Y u u1 q-mW (mW (Int.tdiv (Fy Y u u1 q) y1)*y1))) (Fy Y u u1 q) (mW (Int.tdiv (Fy Y u u1 q) y1)) []):=dm
theorem AR2:AZ dr (AG S21 K0) (some 0) 300 0 K2 (J4 Y s y1 y0 u0 q r v z eg) =
 some ([(decide (4294967296≤z),true),(decide (4294967296≤mW (r+y1)),false)],[],J4 Y s y1 y0 u0 q (mW (r+y1)) v (mW (z-1)) []):=dm
theorem AR3:AZ dr (AG S21 K0) (some 0) 300 0 K2 (J4 Y s y1 y0 u0 q r v z fl) =
 some ([(decide (4294967296≤z),false),(Mo z r y0 u0,true),(decide (4294967296≤mW (r+y1)),false)],[],J4 Y s y1 y0 u0 q (mW (r+y1)) v (mW (z-1)) []):=dm
def Xn (Y s u0 q v z:Int):AV:=.tup [(false,[.v (.int .u64 (mW (mW (q*4294967296)+z)))]),(false,[.v (.int .u64 (LP (Fy Y v u0 z) s))])]
theorem AR4:E' dr (AG S21 K0) f204 300 0 (J4 Y s y1 y0 u0 q r v z d_) =
 some ([(decide (4294967296≤z),true),(decide (4294967296≤mW (r+y1)),true),(decide (0≤s∧0≤Fy Y v u0 (mW (z-1))),true)],[],Xn Y s u0 q v (mW (z-1))):=dm
theorem AR5:E' dr (AG S21 K0) f204 300 0 (J4 Y s y1 y0 u0 q r v z fe) =
 some ([(decide (4294967296≤z),false),(Mo z r y0 u0,true),(decide (4294967296≤mW (r+y1)),true),(decide (0≤s∧0≤Fy Y v u0 (mW (z-1))),true)],[],Xn Y s u0 q v (mW (z-1))):=dm
theorem AEr:E' dr (AG S21 K0) f204 300 0 (J4 Y s y1 y0 u0 q r v z ef) =
 some ([(decide (4294967296≤z),false),(Mo z r y0 u0,false),(decide (0≤s∧0≤Fy Y v u0 z),true)],[],Xn Y s u0 q v z):=dm
end
open Ex
theorem cV {u u1 Y q:Nat} (hu:u<Y) (hu1:u1<4294967296) (hq:4294967296≤q):(u*4294967296+u1) / Y<q:=by
 refine li (mb ?_) hq
 rw [ko Y];omega
theorem AEs {u u1 y1 y0 Y q r:Nat} (hY:Y=y1*4294967296+y0) (hu:u=q*y1+r) (h:4294967296*r+u1<q*y0):(u*4294967296+u1) / Y<q:=by
 refine mb ?_
 have e1:(q*y1+r)*4294967296=q*y1*4294967296+r*4294967296:=lv ..
 have e2:(y1*4294967296+y0)*q=q*y1*4294967296+q*y0:=by rw [lv,ko y0 q,si,ko y1 q]
 rw [hY,hu,e1,e2];omega
theorem cW {u u1 y1 y0 Y q r:Nat} (hY:Y=y1*4294967296+y0) (iy:0<Y) (hu:u=q*y1+r) (h:q*y0≤4294967296*r+u1) (je:(u*4294967296+u1) / Y≤q):(u*4294967296+u1) / Y=q:=by
 refine Nat.le_antisymm je ((Nat.le_div_iff_mul_le iy).2 ?_)
 rw [hY,hu,oe,← lm];omega
theorem AEt {q y0 r u1:Nat} (hq:q≤4294967297) (hy:y0<4294967296) (hr:4294967296≤r):q*y0≤4294967296*r+u1:=by
 have:=po hq (show y0≤4294967295 by omega)
 omega
theorem AEu {u u1 y1 y0 Y:Nat} (hY:Y=y1*4294967296+y0) (hy1:0<y1) (hu1:u1<4294967296):(u*4294967296+u1) / Y≤u / y1:=by
 refine (Nat.le_div_iff_mul_le hy1).2 ?_
 have h:=qu (u*4294967296+u1) Y
 generalize (u*4294967296+u1) / Y=q at *
 rw [hY,oe,← lm] at h;generalize q*y1=A at *
 generalize q*y0=B at *
 omega
theorem AEv {u y1 y0 Y:Nat} (hY:Y=y1*4294967296+y0) (hy0:y0<4294967296) (hy1:2147483648≤y1) (hu:u<Y):u / y1≤4294967298:=by
 have hb:u<4294967299*y1:=dn
 have:=(ua (show 0<y1 by omega)).2 hb
 omega
theorem Uj {Y u u1 q:Nat} (h:q=(u*4294967296+u1) / Y) (iy:0<Y) (hY:Y≤18446744073709551616):Fy Y u u1 q=(((u*4294967296+u1) % Y:Nat):Int):=by
 have h1:=mv (u*4294967296+u1) Y
 have h2:=ki (u*4294967296+u1) iy
 rw [← h,ko] at h1;unfold Fy;simp only [Fu];have e:(q:Int)*(Y:Int)=((q*Y:Nat):Int):=by rw [lu]
 rw [e];generalize q*Y=N at *
 generalize (u*4294967296+u1) % Y=m at *
 omega
theorem cX {q r y0 u1:Nat} (hq:q<4294967296) (hr:r<4294967296) (hy:y0<4294967296) (hu1:u1<4294967296):Mo q r y0 u1=decide (4294967296*r+u1<q*y0):=by
 have hm:=po (show q≤4294967295 by omega) (show y0≤4294967295 by omega)
 unfold Mo;simp only [Fu];have e:(q:Int)*(y0:Int)=((q*y0:Nat):Int):=by rw [lu]
 rw [e];generalize q*y0=N at *
 have e1:(4294967296*(r:Int)) % 18446744073709551616=4294967296*(r:Int):=dn
 rw [e1];have e2:(4294967296*(r:Int)+u1) % 18446744073709551616=4294967296*(r:Int)+u1:=dn
 have e3:((N:Nat):Int) % 18446744073709551616=N:=dn
 rw [e2,e3];by_cases h:4294967296*r+u1<N
 ·rw [jm h,jm dn]
 ·rw [jq h,jq dn]
theorem AEw (v y1:Nat) (hv:v<18446744073709551616) (hy1:0<y1):mW (Int.tdiv (v:Int) y1)=((v / y1:Nat):Int)∧mW ((v:Int)-mW (mW (Int.tdiv (v:Int) y1)*y1))=((v % y1:Nat):Int):=by
 have h1:=mv v y1;have h2:=ki v hy1;have h3:=ra v y1;have e0:Int.tdiv (v:Int) y1=((v / y1:Nat):Int):=by rw [qk dn];rfl
 rw [e0,RW,jv dn];refine ⟨rfl,?_⟩
 have e1:((v / y1:Nat):Int)*(y1:Int)=((v / y1*y1:Nat):Int):=by rw [lu]
 rw [e1,RW,Fu,ko];generalize y1*(v / y1)=N at *
 omega
theorem AEx {q:Nat} (h:0<q) (hq:q≤18446744073709551616):mW ((q:Int)-1)=((q-1:Nat):Int):=by rw [Fu];omega
theorem AEy {r y1:Nat} (hr:r<4294967296) (hy:y1<4294967296):mW ((r:Int)+y1)=((r+y1:Nat):Int):=by rw [Fu];omega
def Xo (q z m s:Nat):AV:=.tup [(false,[.v (.int .u64 ((q*4294967296+z:Nat):Int))]),(false,[.v (.int .u64 ((m / 2^min s 64:Nat):Int))])]
theorem tD (x s:Nat):LP (x:Int) (s:Int)=((x / 2^min s 64:Nat):Int):=by
 unfold LP;rw [jz];exact Ny x _
section
variable {Y s y1 y0 u0:Nat} (hY:Y=y1*4294967296+y0) (hy0:y0<4294967296) (hy1:2147483648≤y1) (hy1':y1<4294967296) (hu0:u0<4294967296) (w0:gn)
include hY hy0 hy1 hy1' hu0
theorem AR6 {v q:Nat} (hv:v<Y) (hq:q<4294967296):∀ z r,v=z*y1+r→r<4294967296→z≤4294967298→(v*4294967296+u0) / Y≤z →
  gz dr 204 CB w0 (Hp w0 (Xo q ((v*4294967296+u0) / Y) ((v*4294967296+u0) % Y) s)) f204.ntmps [] (J4 Y s y1 y0 u0 q r v z []):=by
 have iy:0<Y:=dn
 have hYle:Y≤18446744073709551616:=dn
 have fin:∀ z:Nat,z=(v*4294967296+u0) / Y→Xn Y s u0 q v z=Xo q ((v*4294967296+u0) / Y) ((v*4294967296+u0) % Y) s:=by
  intro z hz;have jb:z<4294967296:=by rw [hz];exact cV hv hu0 (ju _)
  unfold Xn Xo;rw [Uj hz iy hYle,tD,← hz];have:mW (mW ((q:Int)*4294967296)+(z:Int))=((q*4294967296+z:Nat):Int):=by rw [Fu,Fu];omega
  rw [this]
 have pos21:∀ z:Nat,z=(v*4294967296+u0) / Y→decide (0≤(s:Int)∧0≤Fy Y v u0 z)=true:=by
  intro z hz;rw [Uj hz iy hYle];simp only [jt];omega
 intro z;induction z with
 | zero =>
  intro r hz hr _ je;have hq0:(v*4294967296+u0) / Y=0:=Nat.le_zero.1 je
  have hdc:Mo ((0:Nat):Int) r y0 u0=false:=by rw [cX dp hr hy0 hu0];simp
  rw [← fin 0 hq0.symm];exact Ai ef (IS (AH Hx Ac) AB func204 (AEr ..) ⟨by simp,hdc,pos21 0 hq0.symm,trivial⟩ (AR dm) (fun _ _=>rfl) rfl)
 | succ z ih =>
  intro r hz hr htop je;have hdq:=AEx (q:=z+1) dn dn
  have hir:=AEy hr hy1';rw [Nat.add_sub_cancel] at hdq;have hz':v=z*y1+(r+y1):=by rw [hz,rk];omega
  have go:∀ (jb:(v*4294967296+u0) / Y<z+1),(4294967296≤r+y1→(v*4294967296+u0) / Y=z):=fun jb hb =>
   cW hY iy hz' (AEt dn hy0 hb) dn
  by_cases hbig:4294967296≤z+1
  ·have jb:=cV hv hu0 hbig;by_cases hb:4294967296≤r+y1
   ·have hq:=go jb hb;have h:=IS (w0:=w0) (β0:=CB) (n:=f204.ntmps) (AH Hx Ac) AB func204 (AR4 Y s y1 y0 u0 q r v (z+1:Nat)) ⟨by simp;omega,by rw [hir];simp;omega,by rw [hdq];exact pos21 z hq.symm,trivial⟩ (AR dm) (fun _ _=>rfl) rfl
    rw [hdq,fin z hq.symm] at h;exact Ai d_ h
   ·refine Ai eg (Aj (AH Hx Ac) AB (AR2 Y s y1 y0 u0 q r v (z+1:Nat)) ⟨by simp;omega,by rw [hir];simp;omega,trivial⟩ (AR dm) (fun _ _=>rfl) jl fun _=>?_)
    rw [hdq,hir];exact ih (r+y1) hz' dn dn dn
  ·have hsm:z+1<4294967296:=dn
   have hdc:=cX (u1:=u0) hsm hr hy0 hu0
   by_cases hc:4294967296*r+u0<(z+1)*y0
   ·have jb:=AEs hY hz hc;by_cases hb:4294967296≤r+y1
    ·have hq:=go jb hb;have h:=IS (w0:=w0) (β0:=CB) (n:=f204.ntmps) (AH Hx Ac) AB func204 (AR5 Y s y1 y0 u0 q r v (z+1:Nat)) ⟨by simp;omega,by rw [hdc];exact jm hc,by rw [hir];simp;omega,by rw [hdq];exact pos21 z hq.symm,trivial⟩ (AR dm) (fun _ _=>rfl) rfl
     rw [hdq,fin z hq.symm] at h;exact Ai fe h
    ·refine Ai fl (Aj (AH Hx Ac) AB (AR3 Y s y1 y0 u0 q r v (z+1:Nat)) ⟨by simp;omega,by rw [hdc];exact jm hc,by rw [hir];simp;omega,trivial⟩ (AR dm) (fun _ _=>rfl) jl fun _=>?_)
     rw [hdq,hir];exact ih (r+y1) hz' dn dn dn
   ·have hq:=cW hY iy hz dn je;rw [← fin (z+1) hq.symm];exact Ai ef (IS (AH Hx Ac) AB func204 (AEr ..) ⟨by simp;omega,by rw [hdc];exact jq hc,pos21 _ hq.symm,trivial⟩ (AR dm) (fun _ _=>rfl) rfl)
theorem AR7 {u u1:Nat} (hu:u<Y) (hu1:u1<4294967296) {R:Ending→gn→Prop}
  (ja:gz dr 204 CB w0 R f204.ntmps [] (J4 Y s y1 y0 u0 ((u*4294967296+u1) / Y:Nat) ((u*4294967296+u1) % Y % y1:Nat) ((u*4294967296+u1) % Y:Nat) ((u*4294967296+u1) % Y / y1:Nat) [])) :
  ∀ q r,u=q*y1+r→r<4294967296→q≤4294967298→(u*4294967296+u1) / Y≤q→gz dr 204 CB w0 R f204.ntmps [] (Mm Y s y1 y0 u u1 u0 q r []):=by
 have _h:=hu0;have iy:0<Y:=dn
 have hYle:Y≤18446744073709551616:=dn
 have hm:=ki (u*4294967296+u1) iy
 have jd:decide ((y1:Int)≠0)=true:=by simp only [jt];omega
 obtain ⟨n1,n2⟩:=AEw ((u*4294967296+u1) % Y) y1 dn dn
 intro q;induction q with
 | zero =>
  intro r hz hr _ je;have hq0:((0:Nat))=(u*4294967296+u1) / Y:=(Nat.le_zero.1 je).symm
  have hdc:Mo ((0:Nat):Int) r y0 u1=false:=by rw [cX dp hr hy0 hu1];simp
  refine Ai ef (Aj (AH Hx Ac) AB (AEq Y s y1 y0 u u1 u0 (0:Nat) r) ⟨by simp,hdc,jd,trivial⟩ (AR dm) (fun _ _=>rfl) jl fun _=>?_)
  rw [Uj hq0 iy hYle,n2,n1];rw [hq0];exact ja
 | succ q ih =>
  intro r hz hr htop je;have hdq:=AEx (q:=q+1) dn dn
  have hir:=AEy hr hy1';rw [Nat.add_sub_cancel] at hdq;have hz':u=q*y1+(r+y1):=by rw [hz,rk];omega
  have go:∀ (jb:(u*4294967296+u1) / Y<q+1),(4294967296≤r+y1→(u*4294967296+u1) / Y=q):=fun jb hb =>
   cW hY iy hz' (AEt dn hy0 hb) dn
  by_cases hbig:4294967296≤q+1
  ·have jb:=cV hu hu1 hbig;by_cases hb:4294967296≤r+y1
   ·have hq:=go jb hb;refine Ai d_ (Aj (AH Hx Ac) AB (AR0 Y s y1 y0 u u1 u0 (q+1:Nat) r) ⟨by simp;omega,by rw [hir];simp;omega,jd,trivial⟩ (AR dm) (fun _ _=>rfl) jl fun _=>?_)
    rw [hdq,Uj hq.symm iy hYle,n2,n1];rw [← hq];exact ja
   ·refine Ai eg (Aj (AH Hx Ac) AB (ARy Y s y1 y0 u u1 u0 (q+1:Nat) r) ⟨by simp;omega,by rw [hir];simp;omega,trivial⟩ (AR dm) (fun _ _=>rfl) jl fun _=>?_)
    rw [hdq,hir];exact ih (r+y1) hz' dn dn dn
  ·have hsm:q+1<4294967296:=dn
   have hdc:=cX (u1:=u1) hsm hr hy0 hu1
   by_cases hc:4294967296*r+u1<(q+1)*y0
   ·have jb:=AEs hY hz hc;by_cases hb:4294967296≤r+y1
    ·have hq:=go jb hb;refine Ai fe (Aj (AH Hx Ac) AB (AR1 Y s y1 y0 u u1 u0 (q+1:Nat) r) ⟨by simp;omega,by rw [hdc];exact jm hc,by rw [hir];simp;omega,jd,trivial⟩ (AR dm) (fun _ _=>rfl) jl fun _=>?_)
     rw [hdq,Uj hq.symm iy hYle,n2,n1];rw [← hq];exact ja
    ·refine Ai fl (Aj (AH Hx Ac) AB (ARz Y s y1 y0 u u1 u0 (q+1:Nat) r) ⟨by simp;omega,by rw [hdc];exact jm hc,by rw [hir];simp;omega,trivial⟩ (AR dm) (fun _ _=>rfl) jl fun _=>?_)
     rw [hdq,hir];exact ih (r+y1) hz' dn dn dn
   ·have hq:=cW hY iy hz dn je;refine Ai ef (Aj (AH Hx Ac) AB (AEq Y s y1 y0 u u1 u0 (q+1:Nat) r) ⟨by simp;omega,by rw [hdc];exact jq hc,jd,trivial⟩ (AR dm) (fun _ _=>rfl) jl fun _=>?_)
    rw [Uj hq.symm iy hYle,n2,n1];rw [← hq];exact ja
end
def Cx:Nat:=18446744073709551616
theorem tE {x s:Nat} (hs:s≤64):Xl (x:Int) (s:Int)=((x*2^s % Cx:Nat):Int):=by
 unfold Xl;rw [jz,mr hs];have:(x:Int)*2^s=((x*2^s:Nat):Int):=by rw [lu,ql];rfl
 rw [this,RW];rfl
theorem tG {h s B:Nat} (hA:h*2^s<Cx) (hB:B<2^s) (hs:s≤64):bits .or .u64 ((h*2^s:Nat):Int) (B:Int)=((h*2^s+B:Nat):Int):=by
 have je:2^s≤2^64:=pq dp hs
 have:=(bits_nat .u64 64 dp (fun n h0 h1=>by rw [IntKind.wrap_u64];omega) (h*2^s) B hA dn).2
 rw [this,← Nat.shiftLeft_eq,Nat.shiftLeft_add_eq_or_of_lt hB]
theorem AR8 {y:Nat} (h0:0<y) (h1:y<Cx):∃ s,s≤63∧64-Fx y=s∧9223372036854775808≤y*2^s∧y*2^s<Cx:=by
 obtain ⟨b1,b2,b3⟩:=AEm h1;obtain ⟨b4,b5⟩:=b2 h0;refine ⟨64-Fx y,dn,rfl,?_,?_⟩
 ·have:=my (2^(64-Fx y)) b5
  rw [← kc,show Fx y-1+(64-Fx y)=63 by omega] at this
  exact this
 ·have:=Nat.mul_lt_mul_of_pos_right b1 (show 0<2^(64-Fx y) from m_ dp)
  rw [← kc,show Fx y+(64-Fx y)=64 by omega] at this
  exact this
theorem AR9 {Y u u1 u0 b:Nat} (iy:0<Y):(u*(b*b)+(u1*b+u0)) / Y=(u*b+u1) / Y*b+((u*b+u1) % Y*b+u0) / Y∧(u*(b*b)+(u1*b+u0)) % Y=((u*b+u1) % Y*b+u0) % Y:=by
 have e:u*(b*b)+(u1*b+u0)=(u*b+u1) % Y*b+u0+Y*((u*b+u1) / Y*b):=by
  have h1:=mv (u*b+u1) Y
  have:u*(b*b)+u1*b=(u*b+u1)*b:=by rw [lv,lm]
  rw [← ni,this]
  conv=>lhs;rw [← h1,lv]
  rw [lm];omega
 rw [e,ut _ _ iy,uv];exact ⟨dn,rfl⟩
theorem AR_ {l s:Nat} (hl:l<Cx) (hs:s≤63):l*2^s=l / 2^(64-s)*Cx+l*2^s % Cx∧l / 2^(64-s)<2^s:=by
 have e:Cx=2^(64-s)*2^s:=by rw [← kc,show 64-s+s=64 by omega];rfl
 have hp:0<2^s:=m_ dp
 constructor
 ·have h1:=mv (l*2^s) Cx
  have h2:l*2^s / Cx=l / 2^(64-s):=by rw [e,Nat.mul_div_mul_right _ _ hp]
  rw [h2,ko Cx] at h1;exact h1.symm
 ·refine mb ?_
  rw [← e];exact hl
def cY (h l y:Nat):AV:=.tup [(false,[.v (.int .u64 (((h*Cx+l) / y:Nat):Int))]),(false,[.v (.int .u64 (((h*Cx+l) % y:Nat):Int))])]
theorem AR' {h l y:Nat} (hh:h<y) (hl:l<Cx) (hy:y<Cx):AT dr 204 (dA h l y) (cY h l y):=by
 refine Nk (ie:=[]) func204 dm dm fun w0=>?_
 have hy0:0<y:=dn
 by_cases hz:h=0
 ·subst hz;have h1:=IS (w0:=w0) (β0:=CB) (n:=f204.ntmps) (AH Hx Ac) AB func204 (ARx ((0:Nat):Int) l y) ⟨by simp;omega,by simp;omega,by simp,by simp;omega,by simp;omega,trivial⟩ (AR dm) (fun _ _=>rfl) rfl
  have e1:mW (Int.tdiv (l:Int) y)=(((0*Cx+l) / y:Nat):Int):=by
   rw [qk dn,p_,kr,← se,RW,jv (qj (ra l y) (show l<18446744073709551616 from hl))]
  have e2:Int.tmod (l:Int) y=(((0*Cx+l) % y:Nat):Int):=by
   rw [o_ dn,p_,kr];rfl
  rw [e1,e2] at h1;exact Ai fb h1
 ·obtain ⟨s,hs,hls,hY1,hY2⟩:=AR8 hy0 hy;have hp:0<2^s:=m_ dp
  obtain ⟨lo1,lo2⟩:=AR_ hl hs;have es:Pj (y:Int)=(s:Int):=by
   unfold Pj;rw [jz,hls,RW,jv dn]
  have eY:Mn (y:Int)=((y*2^s:Nat):Int):=by
   unfold Mn;rw [es,tE dn,jv hY2]
  have hA:h*2^s+2^s≤y*2^s:=by
   have:=my (2^s) (show h+1≤y from hh)
   rwa [lv,qd] at this
  have eu:Uh (h:Int) (l:Int) (y:Int)=((h*2^s+l / 2^(64-s):Nat):Int):=by
   unfold Uh;have e64:mW (64-(s:Int))=((64-s:Nat):Int):=by rw [Fu];omega
   rw [es,e64,tE dn,jv dn,tD,mr (show 64-s≤64 by omega)]
   exact tG dn lo2 dn
  have el:Xm (l:Int) (y:Int)=((l*2^s % Cx:Nat):Int):=by
   unfold Xm;rw [es,tE dn]
  generalize hYd:y*2^s=Y at *
  generalize hud:h*2^s+l / 2^(64-s)=u at *
  generalize hld:l*2^s % Cx=ul at *
  have hul:ul<Cx:=by rw [← hld];exact ki _ dp
  have hu:u<Y:=dn
  unfold Cx at hul hY2;have ent:=ARw (h:Int) (l:Int) (y:Int)
  have e32:∀ x:Nat,LP (x:Int) 32=((x / 4294967296:Nat):Int):=fun x=>tD x 32
  have eand:∀ x:Nat,x<18446744073709551616→bits .and .u64 (x:Int) 4294967295=((x % 4294967296:Nat):Int):=fun x hx=>by
   have:=XS (x:=(x:Int)) dn dn
   unfold RQ at this;rw [this];omega
  have e64:mW (64-(s:Int))=((64-s:Nat):Int):=by rw [Fu];omega
  rw [eY,eu,el,es,e32,e32,eand Y hY2,eand ul hul,e64] at ent;obtain ⟨n1,n2⟩:=AEw u (Y / 4294967296) dn dn
  rw [n2,n1] at ent;have hYs:Y=Y / 4294967296*4294967296+Y % 4294967296:=dn
  refine Ai fh (Aj (AH Hx Ac) AB ent ?_ (AR dm) (fun _ _=>rfl) jl fun _=>?_)
  ·refine ⟨by simp;omega,by simp;omega,by simp;omega,rfl,by simp,rfl,by simp,rfl,by simp,?_,trivial⟩
   simp only [jt];omega
  ·have hr1:=ki u (show 0<Y / 4294967296 by omega)
   have hdm:=mv u (Y / 4294967296)
   rw [ko] at hdm;refine AR7 hYs (ki _ dp) dn dn (ki ul dp) w0 hu dn ?_ (u / (Y / 4294967296)) (u % (Y / 4294967296)) hdm.symm dn (AEv hYs (ki _ dp) dn hu) (AEu hYs dn dn)
   have hYpos:0<Y:=dn
   generalize hu1:ul / 4294967296=u1 at *
   generalize hu0:ul % 4294967296=u0 at *
   have hv:=ki (u*4294967296+u1) hYpos
   have hq1:(u*4294967296+u1) / Y<4294967296:=cV hu dn (ju _)
   obtain ⟨g1,g2⟩:=AR9 (u:=u) (u1:=u1) (u0:=u0) (b:=4294967296) hYpos
   have hN:u*(4294967296*4294967296)+(u1*4294967296+u0)=(h*Cx+l)*2^s:=by
    rw [lv,lo1,← hud];have:u1*4294967296+u0=ul:=dn
    rw [this];show (h*2^s+l / 2^(64-s))*Cx+ul=h*Cx*2^s+(l / 2^(64-s)*Cx+ul);rw [lv,si h Cx];omega
   rw [hN,← hYd] at g1 g2;rw [Nat.mul_div_mul_right _ _ hp] at g1;rw [Nat.mul_mod_mul_right] at g2;rw [hYd] at g1 g2;obtain ⟨v,hv'⟩:∃ v,v=(u*4294967296+u1) % Y:=⟨_,rfl⟩
   rw [← hv'] at hv g1 g2 ⊢;have hdm2:=mv v (Y / 4294967296)
   rw [ko] at hdm2;have hr2:=ki v (show 0<Y / 4294967296 by omega)
   have fin:=AR6 (s:=s) (u0:=u0) hYs (ki _ dp) dn dn (by rw [← hu0];exact ki _ dp) w0 hv hq1 (v / (Y / 4294967296)) (v % (Y / 4294967296)) hdm2.symm dn (AEv hYs (ki _ dp) dn hv) (AEu hYs dn (by rw [← hu0];exact ki _ dp))
   have eo:Xo ((u*4294967296+u1) / Y) ((v*4294967296+u0) / Y) ((v*4294967296+u0) % Y) s=cY h l y:=by
    unfold Xo cY;rw [← g1,← g2,mr (show s≤64 by omega),Nat.mul_div_cancel _ hp]
   rw [eo] at fin;exact fin
def AEz:dt→Option (du×AV)
 | [h,l,y]=>some ([(decide (h<y),true)],cY h.toNat l.toNat y.toNat)
 | _=>none
noncomputable def S22:dw:=(204,FO (Ug [.u64,.u64,.u64] AEz))::S21
theorem Mp:AX dr S22:=⟨GK func204 dm dm (cT fun is c v h hh hc=>by
 unfold AEz at h;split at h
 ·rename_i h0 l0 y0;injection h with h;injection h with h1 h2;subst h1;subst h2;obtain ⟨q1,q2,q3,_⟩:=hh;have b1:=EH q1;have b2:=EH q2;have b3:=EH q3;obtain ⟨H,rfl⟩:=kw b1.1;obtain ⟨L,rfl⟩:=kw b2.1;obtain ⟨Y,rfl⟩:=kw b3.1;have jb:=hc.1;simp only [jt] at jb;rw [jz,jz,jz];exact AR' dn (show L<18446744073709551616 by omega) (show Y<18446744073709551616 by omega)
 ·cases h),Hx⟩
def hw (a b:Int):Int:=bits .or .u64 (Int.fdiv a (2^min (Int.toNat 1) 64)) (mW (b*2^min (Int.toNat 63) 64))
theorem Rk {a b:Int} (ha:0≤a∧a<18446744073709551616) (hb:0≤b∧b<18446744073709551616):hw a b=a / 2+b % 2*9223372036854775808:=by
 obtain ⟨A,rfl⟩:=kw ha.1;obtain ⟨B,rfl⟩:=kw hb.1;unfold hw;have e1:Int.fdiv (A:Int) (2^min (Int.toNat 1) 64)=((A / 2:Nat):Int):=Ny A 1
 have e2:mW ((B:Int)*2^min (Int.toNat 63) 64)=((B % 2*2^63:Nat):Int):=by
  have:(B:Int)*2^min (Int.toNat 63) 64=((B*9223372036854775808:Nat):Int):=by rw [lu];rfl
  rw [this,RW];omega
 have jb:A / 2<2^63:=dn
 have h:=tG (h:=B % 2) (s:=63) (B:=A / 2) (by unfold Cx;omega) jb dp
 have comm:∀ x y:Int,bits .or .u64 x y=bits .or .u64 y x:=fun x y=>by simp only [bits,BitVec.or_comm]
 rw [e1,e2,comm,h];omega
def hwL (x:Nat) (h:Int):List Ch:=w6 (hw (AE x 0) (AE x 1)) (hw (AE x 1) (AE x 2)) (hw (AE x 2) (AE x 3)) (hw (AE x 3) (AE x 4)) (hw (AE x 4) (AE x 5)) (hw (AE x 5) h)
def Hy (x:Nat):ib:=⟨40,[.num 6 x],false⟩
def JJ (x h:Nat):Nat:=(x+h % 2*RR) / 2
theorem ASA (x:Nat) (h:Int):AU dr (AG S22 K0) f213 300 1 [0] (Ak f213 [.val false [.p 0 0],.val false [.v (.int .u64 h)]] [(0,some (Hy x))] 1 []) =
 some (JE 12,[0],.tup [],[(0,some ⟨40,hwL x h,false⟩)]):=dm
theorem ASB {x h:Nat} (hx:x<RR) (hh:h<18446744073709551616) {β:Env} {l:List gq} (hr:AP β (hwL x h) l):AP β [.num 6 (JJ x h)] l:=by
 have b0:=Bx x 0;have b1:=Bx x 1;have b2:=Bx x 2;have b3:=Bx x 3;have b4:=Bx x 4;have b5:=Bx x 5;have hX:=RS (x:=x) (by rw [← DM];exact hx)
 have e0:=Rk b0 b1;have e1:=Rk b1 b2;have e2:=Rk b2 b3;have e3:=Rk b3 b4;have e4:=Rk b4 b5;have e5:=Rk (b:=(h:Int)) b5 dn
 have hb:∀ {a b:Int},0≤a∧a<18446744073709551616→0≤b∧b<18446744073709551616→0≤hw a b∧hw a b<18446744073709551616:=fun ha hb=>by rw [Rk ha hb];omega
 have:=bY (β:=β) (u:=.agg ⟨l⟩) (y:=JJ x h) (hb b0 b1) (hb b1 b2) (hb b2 b3) (hb b3 b4) (hb b4 b5) (hb b5 (show 0≤(h:Int)∧(h:Int)<18446744073709551616 by omega)) (by
  unfold JJ GX at *
  unfold RR;omega) ⟨l,hr,rfl⟩
 obtain ⟨l',h1,h2⟩:=this;injection h2 with h2;injection h2 with h2;subst h2;exact h1
theorem ASC {x h:Nat} (hx:x<RR) (hh:h<18446744073709551616):Ab dr 213 [.val false [.p 0 0],.val false [.v (.int .u64 (h:Int))]] [(0,some (Hy x))] 1 [0] (.tup []) [(0,some (Hy (JJ x h)))]:=by
 intro β us w ha hg hf;have:=A_ func213 dm (iw:=[.val false [.p 0 0],.val false [.v (.int .u64 (h:Int))]]) (H0:=[(0,some (Hy x))]) (k0:=1) (ie:=[]) (W:=[0]) dm (fun β0 w0 hb=>A6 (AH Mp Ac) AB func213 (ASA x h) (Nt _) (AR dm) hb (fun _ h=>h)) β us w ha hg hf
 exact Calls.mono this fun e w' h=>XW (fun _ _ hr=>ASB hx hh hr) h
def halfSpec:ASpec:=fun args H fr ie =>
 match args with
 | [.val false [.p k 0],A]=>match Bp (some A),AF H k with
  | some (_,.u64,h),some ⟨ty,c,false⟩=>match Nat.beq ty 40,DE 6 c with
   | true,some x=>some (BP [k] 1 fr 0 [0] (.tup []) [(0,some (Hy (JJ x h.toNat)))] [] ie)
   | _,_=>none
  | _,_=>none
 | _=>none
theorem ASD {β:Env} {H:Heap} {w:gn} {k:Nat} {b:ib} {c:List Ch} (g:Ex.Good β H w) (hk:AF H k=some b) (hc:∀ l,AP β b.cs l→AP (A9 β [k] 1) c l):Ex.Good (A9 β [k] 1) [(0,some ⟨b.ty,c,b.opn⟩)] w:=by
 refine XV (ρ:=[k]) (bs:=[⟨b.ty,c,b.opn⟩]) g (fun j d hj=>?_) fun i j d hi hr hij hj=>?_
 ·match j,hj with
  | 0,hj=>injection hj with hj;subst hj;exact ⟨b,hk,.inr ⟨rfl,rfl⟩,hc⟩
 ·match i,j,hi,hj,hij with
  | 0,0,_,_,q=>exact absurd rfl q
theorem ASE:BI dr 213 halfSpec:=by
 refine GW func213 dm dm fun args H fr ie r h=>?_
 unfold halfSpec at h;split at h;case h_2=>cases h
 rename_i k A;split at h;case h_2=>cases h
 rename_i c0 i ty c hA hk;split at h;case h_2=>cases h
 rename_i x hty hx;injection h with h;have hty':=Ar.1 hty;subst hty';refine ⟨[k],[.val false [.p 0 0],.val false [.v (.int .u64 (i.toNat:Int))]],[(0,some (Hy x))],1,0,[0],.tup [],_,[],ie,h.symm,fun β us w ha hg hc=>?_⟩
 obtain ⟨u1,jf,r1,⟨u2,jg,r2,ha,rfl⟩,rfl⟩:=ha;obtain ⟨rfl,p1⟩:=C3 (β:=β) (u:=u2) (fun B hB=>by injection hB with hB;subst hB;exact r2) hA
 have hb:=EH p1;obtain ⟨l,g1⟩:=J0 hg hk;have hi:((i.toNat:Nat):Int)=i:=uq hb.1
 refine ⟨ASC (by rw [DM];exact (Hm hx g1).2) dn,dm,⟨u1,_,r1,⟨_,jg,?_,ha,rfl⟩,rfl⟩,ASD (c:=[.num 6 x]) hg hk (fun l h=>GI hx h),fun j hj=>?_⟩
 ·rw [hi];exact Az ⟨rfl,rfl,p1⟩
 ·match j,hj with
  | 0,_=>exact CM (hg.heap _ _ hk)
noncomputable def S23:dw:=(213,halfSpec)::S22
theorem Xp:AX dr S23:=⟨ASE,Mp⟩
def cZ:List AV:=[.val false [.p 0 0],.val false [.p 1 0]]
def Nz (u x:Nat):Heap:=[(0,some (Hy u)),(1,some (Hy x))]
noncomputable def ASF:List Item:=B6 (AZ dr (AG S23 K0) (some 0) 300 2 none (Ak f152 cZ (Nz 0 0) 2 []))
noncomputable def evT:List AV:=.val false [.p 0 0]::.val false [.p 1 0]::List.replicate (f152.ntmps-2) .any
noncomputable def Rl (u x:Nat) (p:List Bool):h_:=⟨ASF,⟨evT,Nz u x,2,p⟩⟩
abbrev KE:Option (List Nat×List Nat×Nat):=some ([0,1],[0,1],2)
def N0 (x:Nat):Int:=bits .and .u64 (AE x 0) 1
theorem ASH (u x:Nat):AZ dr (AG S23 K0) (some 3) 300 2 KE (Ak f152 cZ (Nz u x) 2 [])=some ([],[],Rl u x []):=dm
theorem ASI (u x:Nat):AZ dr (AG S23 K0) (some 3) 300 2 KE (Rl u x d_)=some ([(decide (N0 u=0),true),(decide (N0 x=0),true)],[0,1],Rl (JJ u 0) (JJ x 0) []):=dm
theorem ASJ (u x:Nat):AZ dr (AG S23 K0) (some 3) 300 2 KE (Rl u x eg) =
 some ([(decide (N0 u=0),true),(decide (N0 x=0),false),(CL 0,true),(CL (B0 x pN 1),true),(CL (B0 x pN 2),true),(CL (B0 x pN 3),true),(CL (B0 x pN 4),true),(CL (B0 x pN 5),true)],[0,1],
  Rl (JJ u 0) (JJ (Nr x pN) (B0 x pN 6).toNat) []):=dm
theorem ASK (u x:Nat):AU dr (AG S23 K0) f152 300 2 [0,1] (Rl u x dx)=some ([(decide (N0 u=0),false)],[],.tup [],Nz u x):=dm
def IY (x:Nat):Nat:=if x % 2=0 then x / 2 else (x+pN) / 2
def HM:Nat→Nat→Nat→Nat×Nat
 | 0,u,x=>(u,x)
 | f+1,u,x=>if u % 2=0 then HM f (u / 2) (IY x) else (u,x)
theorem AE1 (x:Nat):N0 x=((x % 2:Nat):Int):=by
 unfold N0;rw [sH,AEQ _ dn];omega
theorem tH (x:Nat):JJ x 0=x / 2:=by unfold JJ;simp
theorem ASL {x:Nat} (hx:x<RR):JJ (Nr x pN) (B0 x pN 6).toNat=(x+pN) / 2:=by
 obtain ⟨h1,h2⟩:=rM (y:=pN) hx dp
 have:=GG x pN 6
 unfold JJ;have h01:(B0 x pN 6).toNat=0∨(B0 x pN 6).toNat=1:=dn
 rcases h01 with e | e<;>rw [e] at h1 ⊢<;>congr 1<;>omega
theorem AE2 {x:Nat} (h:x<RR):IY x<RR:=by
 have hp:pN<RR:=dp
 unfold IY;split<;>omega
theorem ASM {β0:Env} {w0:gn} (hb:∀ b,2≤b→β0 b=none):∀ (f u x:Nat),0<u→u≤f→u<RR→x<RR →
  gz dr 152 β0 w0 (BA β0 w0 [0,1] (.tup []) (Nz (HM f u x).1 (HM f u x).2)) f152.ntmps [0,1] (Rl u x []):=by
 intro f;induction f with
 | zero=>intro u x h1 h2;omega
 | succ f ih =>
  intro u x h1 h2 hu hx;have ou:=AE1 u;have ox:=AE1 x;unfold HM;by_cases h:u % 2=0
  ·rw [jo h];have hd:decide (N0 u=0)=true:=by rw [ou,h];rfl
   by_cases hx2:x % 2=0
   ·refine Ai d_ (Aj (AH Xp Ac) AB (ASI u x) ⟨hd,by rw [ox,hx2];rfl,trivial⟩ (AR dm) hb (fun _ h=>h) fun _=>?_)
    have e:IY x=x / 2:=jo hx2
    rw [tH,tH,← e];exact ih (u / 2) (IY x) dn dn dn (AE2 hx)
   ·refine Ai eg (Aj (AH Xp Ac) AB (ASJ u x) ⟨hd,by rw [ox];simp only [decide_eq_false_iff_not];omega,rfl,DU (GG _ _ _),DU (GG _ _ _),DU (GG _ _ _),DU (GG _ _ _),DU (GG _ _ _),trivial⟩ (AR dm) hb (fun _ h=>h) fun _=>?_)
    have e:IY x=(x+pN) / 2:=jn hx2
    rw [tH,ASL hx,← e];exact ih (u / 2) (IY x) dn dn dn (AE2 hx)
  ·rw [jn h];have hd:decide (N0 u=0)=false:=by rw [ou];simp only [decide_eq_false_iff_not];omega
   exact Ai dx (A6 (AH Xp Ac) AB func152 (ASK u x) ⟨hd,trivial⟩ (AR dm) hb jl)
theorem ASN {u x:Nat} (h0:0<u) (hu:u<RR) (hx:x<RR):Ab dr 152 cZ (Nz u x) 2 [0,1] (.tup []) (Nz (HM u u x).1 (HM u u x).2) :=
 A_ (ie:=[]) func152 dm dm fun β0 w0 hb =>
  Aj (AH Xp Ac) AB (ASH u x) trivial (AR dm) hb jl fun _=>ASM hb u u x h0 (ju _) hu hx
def evSpec:ASpec:=fun args H fr ie =>
 match args with
 | [.val false [.p k 0],.val false [.p t 0]]=>match AF H k,AF H t,Nat.beq k t with
  | some ⟨ty,c,false⟩,some ⟨ty',d,false⟩,false=>match Nat.beq ty 40,DE 6 c,Nat.beq ty' 40,DE 6 d with
   | true,some u,true,some x=>some (BP [k,t] 2 fr 0 [0,1] (.tup []) (Nz (HM u u x).1 (HM u u x).2) [(decide (0<u),true)] ie)
   | _,_,_,_=>none
  | _,_,_=>none
 | _=>none
theorem ASO:BI dr 152 evSpec:=by
 refine GW func152 dm dm fun args H fr ie r h=>?_
 unfold evSpec at h;split at h;case h_2=>cases h
 rename_i k t;split at h;case h_2=>cases h
 rename_i ty c ty' d hk ht jd;split at h;case h_2=>cases h
 rename_i u x hty hu hty' hx;injection h with h;have hty1:=Ar.1 hty;have hty2:=Ar.1 hty';subst hty1;subst hty2;have hne':k≠t:=fun e=>by subst e;rw [Ar.2 rfl] at jd;cases jd
 refine ⟨[k,t],cZ,Nz u x,2,0,[0,1],.tup [],_,_,ie,h.symm,fun β us w ha hg hc=>?_⟩
 obtain ⟨u1,jf,r1,⟨u2,jg,r2,ha,rfl⟩,rfl⟩:=ha;obtain ⟨l,g1⟩:=J0 hg hk;obtain ⟨l',g2⟩:=J0 hg ht;have h0:0<u:=by simpa using hc.1
 refine ⟨ASN h0 (by rw [DM];exact (Hm hu g1).2) (by rw [DM];exact (Hm hx g2).2),dm,⟨u1,_,r1,⟨u2,jg,r2,ha,rfl⟩,rfl⟩,AEA (c:=[.num 6 u]) (e:=[.num 6 x]) hg hk ht hne' (fun l h=>GI hu h) (fun l h=>GI hx h),fun j hj=>?_⟩
 match j,hj with
 | 0,_=>exact CM (hg.heap _ _ hk)
 | 1,_=>exact CM (hg.heap _ _ ht)
noncomputable def S24:dw:=(152,evSpec)::S23
theorem Rm:AX dr S24:=⟨ASO,Xp⟩
abbrev ee:List Bool:=[false,true]
open Ex
set_option maxRecDepth 100000
set_option maxHeartbeats 4000000
def N1 (b:ib):ib:=match DE 6 b.cs with
 | some x=>⟨b.ty,[.num 6 x],b.opn⟩
 | none=>b
def Rn:Heap→Heap
 | []=>[]
 | (k,some b)::r=>(k,some (N1 b))::Rn r
 | (k,none)::r=>(k,none)::Rn r
theorem Xq (b:Nat):∀ H:Heap,AF (Rn H) b=(AF H b).map N1
 | []=>rfl
 | (k,some x)::r=>by
  simp only [Rn,AF];split
  ·rfl
  ·exact Xq b r
 | (k,none)::r=>by
  simp only [Rn,AF];split
  ·rfl
  ·exact Xq b r
theorem AE3 (b:ib):(N1 b).ty=b.ty∧(N1 b).opn=b.opn:=by unfold N1;split<;>exact ⟨rfl,rfl⟩
theorem ASP {P:gr} {f:gp} {β0:Env} {w0:gn} {R:Ending→gn→Prop} {n:Nat} {W:List Nat} {todo:List Item} {T:List AV} {H:Heap} {fr:Nat} {p:List Bool} (h:gz P f β0 w0 R n W ⟨todo,⟨T,Rn H,fr,p⟩⟩):gz P f β0 w0 R n W ⟨todo,⟨T,H,fr,p⟩⟩:=by
 intro β a w hi hf;refine h β a w { hi with good:=⟨fun b blk hb=>?_,fun b b' B n n' h1 h2 h3 h4=>?_,hi.good.lt⟩ } hf
 ·have hb':(AF H b).map N1=some blk:=by rw [← Xq];exact hb
  obtain ⟨x,hx,rfl⟩:=ry.1 hb';refine UU (hi.good.heap b x hx) rfl (.inr (AE3 x)) fun l hl=>?_
  unfold N1;split
  ·rename_i y hy;exact GI hy hl
  ·exact hl
 ·refine hi.good.inj b b' B n n' ?_ ?_ h3 h4
  ·obtain ⟨d,hd,hr⟩:=GU h1;have hd':(AF H b).map N1=some d:=by rw [← Xq];exact hd
   obtain ⟨x,hx,rfl⟩:=ry.1 hd';exact GC hx (by rw [← (AE3 x).1];exact hr)
  ·have h2':((AF H b').map N1).isSome=true:=by rw [← Xq];exact h2
   rwa [Option.isSome_map] at h2'
noncomputable def AE4:List Item:=B6 (AZ dr (AG S24 K0) (some 0) 300 0 none (Ak f75 [Ad 0] [] 0 dx))
noncomputable def AE5:List AV:=.any::.any::.val false [.p 1 0]::.val false [.p 2 0]::.val false [.p 3 0]::.val false [.p 4 0]::.val false [.p 5 0]::.val false [.p 6 0]::List.replicate (f75.ntmps-8) .any
def AE6 (u v x y:Nat):Heap:=[(1,some (Hy 0)),(2,some (Hy u)),(3,some (Hy v)),(4,some (Hy x)),(5,some (Hy y)),(6,some (Hy 1))]
noncomputable def Ro (u v x y:Nat) (p:List Bool):h_:=⟨AE4,⟨AE5,AE6 u v x y,7,p⟩⟩
abbrev KI:Option (List Nat×List Nat×Nat):=some ([2,3,4,5,6,7],[1,2,3,4,5,6],7)
def AE7 (a:Nat):Heap:=[(1,some ⟨40,GY,false⟩),(2,some (Hy (a % pN))),(3,some ⟨40,Pw,false⟩),(4,some ⟨40,[.n .u64 1,.n .u64 0,.n .u64 0,.n .u64 0,.n .u64 0,.n .u64 0],false⟩),(5,some ⟨40,GY,false⟩),(6,some ⟨40,[.n .u64 1,.n .u64 0,.n .u64 0,.n .u64 0,.n .u64 0,.n .u64 0],false⟩)]
theorem ASQ (a:Nat):AZ dr (AG S24 K0) (some 0) 300 0 KI (Ak f75 [Ad a] [] 0 dx)=some ([(decide (a % pN=0),false)],[],⟨AE4,⟨AE5,AE7 a,7,[]⟩⟩):=dm
theorem inv_zero (a:Nat):E' dr (AG S24 K0) f75 300 0 (Ak f75 [Ad a] [] 0 dz)=some ([(decide (a % pN=0),true)],[],Ad (a % pN)):=dm
theorem ASR (a:Nat):Rn (AE7 a)=AE6 (a % pN) pN 1 0:=dm
def E1 (u x:Nat):Nat:=(HM u u x).1
def E2 (u x:Nat):Nat:=(HM u u x).2
section
variable (u v x y:Nat)
def c8 (r:du):du:=(decide (0<u),true)::(decide (0<v),true)::r
def c9:Bool:=decide (0≤EO (AI (AA (IX (E1 u x)) (0+0*1) (6-0))) (AI (AA (IX (E1 v y)) (0+0*1) (6-0))))
theorem ASS:E' dr (AG S24 K0) f75 300 0 (Ro u v x y dz)=some (c8 u v [(decide (E1 u x=1),true)],[],Ad (E2 u x)):=dm
theorem AST:E' dr (AG S24 K0) f75 300 0 (Ro u v x y ee)=some (c8 u v [(decide (E1 u x=1),false),(decide (E1 v y=1),true)],[],Ad (E2 v y)):=dm
theorem ASU:AZ dr (AG S24 K0) (some 0) 300 0 KI (Ro u v x y fb) =
 some (c8 u v ((decide (E1 u x=1),false)::(decide (E1 v y=1),false)::(JE 4++[(c9 u v x y,true)])),[],Ro ((E1 u x+(RR-E1 v y)) % RR) (E1 v y) (DF (E2 u x) (E2 v y)) (E2 v y) []):=dm
theorem ASV:AZ dr (AG S24 K0) (some 0) 300 0 KI (Ro u v x y fh) =
 some (c8 u v ((decide (E1 u x=1),false)::(decide (E1 v y=1),false)::(JE 4++[(c9 u v x y,false)])),[],Ro (E1 u x) ((E1 v y+(RR-E1 u x)) % RR) (E2 u x) (DF (E2 v y) (E2 u x)) []):=dm
end
open Ex Num
instance neZero_pN:NeZero pN:=⟨dp⟩
def tf (x:Nat):Fin pN:=D5 pN x
theorem Pk (x:Nat):tf (x % pN)=tf x:=AEX x
theorem Rp {x y:Nat}:tf x=tf y↔x % pN=y % pN:=cO
theorem Gx (x y:Nat):tf (x+y)=tf x+tf y:=AEY x y
theorem Pl (x y:Nat):tf (x*y)=tf x*tf y:=AEZ x y
theorem Hz (x y:Nat):tf (DV x y)=tf x+tf y:=by unfold DV;rw [Pk,Gx,Pk,Pk]
theorem Bu (x y:Nat):tf (Ae x y)=tf x*tf y:=by unfold Ae;rw [Pk,Pl]
theorem dB (x:Nat):tf (C7 x)=- tf x:=by unfold C7;rw [Pk];exact ARA x
theorem EW (x y:Nat):tf (DF x y)=tf x-tf y:=by unfold DF;rw [Hz,dB];grind
theorem tf_zero:tf 0=0:=AEa
theorem D6:tf 1=1:=AQ'
theorem N2 {x y:Nat} (hx:x<pN) (hy:y<pN) (h:tf x=tf y):x=y:=ARB hx hy h
theorem Xr (x y:Nat):DV x y<pN:=ki _ C6
theorem FQ (x y:Nat):DF x y<pN:=Xr _ _
theorem dC {x:Nat}:tf x=0↔x % pN=0:=by rw [← tf_zero,Rp,pr]
theorem ASW {a b:Fin pN} (h:a*b=0):a=0∨b=0:=ARC pN_prime h
noncomputable def Bl (a:Nat):Nat:=C8 a (pN-2)
theorem AE8 (a:Nat):Bl a<pN:=AEh _ _
theorem AE9 {a:Nat} (h:a % pN=0):Bl a=0:=by
 unfold Bl;rw [LJ,ow,h,Nat.zero_pow dp];rfl
theorem AE_ {a:Nat} (h:a % pN≠0):tf a*tf (Bl a)=1:=by
 have ha:¬ pN∣a:=fun hd=>h (rb hd)
 have hf:=Ri pN_prime ha;rw [← Pl,← D6,Rp];unfold Bl;rw [LJ];have e:pN-1=(pN-2)+1:=by have:=sW;omega
 rw [e,lj] at hf;rw [Nat.mul_mod_mod,ko,hf];rfl
theorem AE' {a x:Nat} (hx:x<pN) (h:tf a*tf x=1):x=Bl a:=by
 have ha:a % pN≠0:=fun e=>by
  rw [dC.2 e] at h;have:(0:Fin pN)*tf x=0:=by grind
  rw [this] at h;have h2:tf 0=tf 1:=by rw [tf_zero,D6];exact h
  have:=N2 C6 (show 1<pN by decide) h2
  cases this
 have h2:=AE_ ha;refine N2 hx (AE8 a) ?_
 grind
theorem ASX {A B:Fin pN} (h:A+A=B+B):A=B:=by
 have h0:(A-B)*tf 2=0:=by
  have:tf 2=1+1:=by rw [← D6,← Gx]
  rw [this];grind
 rcases ASW h0 with e | e
 ·grind
 ·exfalso
  have:=N2 (show 2<pN by decide) C6 (e.trans tf_zero.symm)
  cases this
theorem ASY {x:Nat} (hx:x<pN):tf (IY x)+tf (IY x)=tf x∧IY x<pN:=by
 have hodd:=Xh;constructor
 ·rw [← Gx,Rp];unfold IY;split
  ·congr 1;omega
  ·rw [show (x+pN) / 2+(x+pN) / 2=x+pN by omega,qb]
 ·unfold IY;split<;>omega
theorem tI {a:Nat}:∀ (f u x:Nat),0<u→u≤f→x<pN→tf a*tf x=tf u→(HM f u x).1 % 2=1∧(HM f u x).1∣u∧(HM f u x).2<pN∧tf a*tf (HM f u x).2=tf (HM f u x).1
 | 0,u,x,h1,h2,_,_=>dn
 | f+1,u,x,h1,h2,hx,h=>by
  unfold HM;by_cases hu:u % 2=0
  ·rw [jo hu];obtain ⟨q1,q2⟩:=ASY hx;have e:tf (u / 2)+tf (u / 2)=tf u:=by rw [← Gx];congr 1;omega
   have q3:tf a*tf (IY x)=tf (u / 2):=ASX (by rw [e,← h,← q1];grind)
   obtain ⟨i1,i2,i3,i4⟩:=tI (a:=a) f (u / 2) (IY x) dn dn q2 q3
   exact ⟨i1,Nat.dvd_trans i2 ⟨2,dn⟩,i3,i4⟩
  ·rw [jn hu];exact ⟨dn,Nat.dvd_refl u,hx,h⟩
theorem ASZ {u v x y:Nat} (h1:E1 u x<RR) (h2:E1 v y<RR):c9 u v x y=decide (E1 v y≤E1 u x):=by
 unfold c9;rw [Pe h1,Pe h2];unfold EO;by_cases c1:E1 u x<E1 v y
 ·rw [jo c1,jq dn,jq dn]
 ·rw [jn c1];by_cases c2:E1 v y<E1 u x
  ·rw [jo c2,jm dn,jm dn]
  ·rw [jn c2,jm dn,jm dn]
theorem AFA {u v:Nat} (h:v≤u) (hu:u<RR):(u+(RR-v)) % RR=u-v:=by
 rw [show u+(RR-v)=(u-v)+RR by omega,qb,jv dn]
theorem ASa (a:Nat) (w0:gn):∀ (m u v x y:Nat),u+v≤m→0<u→0<v→u<RR→v<RR→x<pN→y<pN→Nat.Coprime u v→tf a*tf x=tf u→tf a*tf y=tf v →
  gz dr 75 CB w0 (Hp w0 (Ad (Bl a))) f75.ntmps [] (Ro u v x y []):=by
 intro m;induction m with
 | zero=>intro u v x y h1 h2;omega
 | succ m ih =>
  intro u v x y hm hu hv hur hvr hx hy hg h1 h2;obtain ⟨a1,a2,a3,a4⟩:=tI (a:=a) u u x hu (ju _) hx h1
  obtain ⟨b1,b2,b3,b4⟩:=tI (a:=a) v v y hv (ju _) hy h2
  have a5:=mn hu a2;have b5:=mn hv b2;change E1 u x % 2=1 at a1
  change E1 u x∣u at a2
  change E2 u x<pN at a3
  change tf a*tf (E2 u x)=tf (E1 u x) at a4
  change E1 u x≤u at a5
  change E1 v y % 2=1 at b1
  change E1 v y∣v at b2
  change E2 v y<pN at b3
  change tf a*tf (E2 v y)=tf (E1 v y) at b4
  change E1 v y≤v at b5
  have hg':Nat.Coprime (E1 u x) (E1 v y):=(hg.coprime_dvd_left a2).coprime_dvd_right b2
  have c0:decide (0<u)=true:=jm hu
  have c1:decide (0<v)=true:=jm hv
  have iP:=ASZ (u:=u) (v:=v) (x:=x) (y:=y) dn dn
  by_cases hu1:E1 u x=1
  ·have h:=IS (w0:=w0) (β0:=CB) (n:=f75.ntmps) (AH Rm Ac) AB func75 (ASS u v x y) ⟨c0,c1,jm hu1,trivial⟩ (AR dm) (fun _ _=>rfl) rfl
   rw [AE' (a:=a) a3 (by rw [a4,hu1,D6])] at h
   exact Ai dz h
  ·by_cases hv1:E1 v y=1
   ·have h:=IS (w0:=w0) (β0:=CB) (n:=f75.ntmps) (AH Rm Ac) AB func75 (AST u v x y) ⟨c0,c1,jq hu1,jm hv1,trivial⟩ (AR dm) (fun _ _=>rfl) rfl
    rw [AE' (a:=a) b3 (by rw [b4,hv1,D6])] at h
    exact Ai ee h
   ·have jd:E1 u x≠E1 v y:=fun e=>by
     rw [← e] at hg';exact hu1 ((Nat.coprime_self _).1 hg')
    by_cases je:E1 v y≤E1 u x
    ·refine Ai fb (Aj (AH Rm Ac) AB (ASU u v x y) ⟨c0,c1,jq hu1,jq hv1,rfl,rfl,rfl,rfl,by rw [iP];exact jm je,trivial⟩ (AR dm) (fun _ _=>rfl) jl fun _=>?_)
     rw [AFA je dn];refine ih _ _ _ _ dn dn dn dn dn (FQ _ _) b3 ?_ ?_ b4
     ·exact (Nat.gcd_sub_self_left je).trans hg'
     ·have e:tf (E1 u x-E1 v y)=tf (E1 u x)-tf (E1 v y):=sS je
      rw [EW,e,← a4,← b4];grind
    ·refine Ai fh (Aj (AH Rm Ac) AB (ASV u v x y) ⟨c0,c1,jq hu1,jq hv1,rfl,rfl,rfl,rfl,by rw [iP];exact jq je,trivial⟩ (AR dm) (fun _ _=>rfl) jl fun _=>?_)
     rw [AFA dn dn];refine ih _ _ _ _ dn dn dn dn dn a3 (FQ _ _) ?_ a4 ?_
     ·exact Nat.Coprime.symm ((Nat.gcd_sub_self_left (show E1 u x≤E1 v y by omega)).trans hg'.symm)
     ·have e:tf (E1 v y-E1 u x)=tf (E1 v y)-tf (E1 u x):=sS dn
      rw [EW,e,← a4,← b4];grind
theorem AFB (a:Nat):AT dr 75 [Ad a] (Ad (Bl a)):=by
 refine Nk (ie:=[]) func75 dm dm fun w0=>?_
 by_cases h:a % pN=0
 ·have h1:=IS (w0:=w0) (β0:=CB) (n:=f75.ntmps) (AH Rm Ac) AB func75 (inv_zero a) ⟨jm h,trivial⟩ (AR dm) (fun _ _=>rfl) rfl
  have e:a % pN=Bl a:=by rw [h,AE9 h]
  rw [e] at h1;exact Ai dz h1
 ·have hp:=Hr a;have hR:pN<RR:=dp
  refine Ai dx (Aj (AH Rm Ac) AB (ASQ a) ⟨jq h,trivial⟩ (AR dm) (fun _ _=>rfl) jl fun _=>?_)
  refine ASP ?_
  rw [ASR];refine ASa a w0 (a % pN+pN) (a % pN) pN 1 0 (ju _) dn C6 dn hR dp C6 ?_ ?_ ?_
  ·exact (pN_prime.coprime fun hd=>by have:=mn dn hd;omega).symm
  ·rw [D6,Pk];grind
  ·have:tf pN=0:=sR
   rw [tf_zero,this];grind
noncomputable def S25:dw:=(75,Af (Fv fun x=>Ad (Bl x)))::S24
theorem dD:AX dr S25:=⟨Ah func75 dm dm (GZ fun x _=>AFB x),Rm⟩
def AFC:List (Nat×AV)→Nat→AV
 | [],_=>.any
 | (j,a)::r,i=>match Nat.beq i j with | true=>a | false=>AFC r i
def AFD:Nat→Nat→List (Nat×AV)→List AV
 | 0,_,_=>[]
 | f+1,i,l=>AFC l i::AFD f (i+1) l
def Dx (n:Nat) (l:List (Nat×AV)):List AV:=AFD n 0 l
def AQ (k ic n m:Nat):AV:=.val false [.sl k ic n m]
def iA (i:Int):AV:=.val false [.v (.int .i64 i)]
def A7 (xs:dt):Heap:=[(0,some (An [.seq .u8 xs]))]
def JK (f:Nat→Int) (L i:Nat):dt:=(List.range i).map f++List.replicate (L-i) 0
theorem AFE {f:Nat→Int} {L i:Nat} (h:i≤L):(JK f L i).length=L:=by simp [JK];omega
theorem AFF {f:Nat→Int} {L i:Nat} (h:i<L):(JK f L i).set i (f i)=JK f L (i+1):=by
 unfold JK;rw [te _ _ (by simp),ma,pp,pe,show L-i=(L-(i+1))+1 by omega,sk,List.set_cons_zero,tc,pi,ol]
 rfl
theorem AFG (f:Nat→Int) (L:Nat):JK f L 0=List.replicate L 0:=by simp [JK]
theorem ASb (f:Nat→Int) (L:Nat):JK f L L=(List.range L).map f:=by simp [JK]
def FC (A k:Nat):Int:=((A / 256^k % 256:Nat):Int)
def Bv (A n:Nat):dt:=(List.range n).map fun i=>FC A (n-1-i)
def Ap:dt→Nat
 | []=>0
 | d::r=>d.toNat*256^r.length+Ap r
theorem N3 (k:Nat):256^k=2^(8*k):=by rw [qi]
theorem dF {n i:Nat} (hn:n≤35184372088832) (h:i<n):wI (wI ((n:Int)-1)-i)=((n-1-i:Nat):Int):=by
 rw [Au (z:=(n:Int)-1) dn,Au dn];omega
theorem Uk (k:Nat):Int.tdiv (k:Int) 8=((k / 8:Nat):Int):=by rw [qk dn];rfl
theorem Xs (k:Nat):Int.tmod (k:Int) 8=((k % 8:Nat):Int):=by rw [o_ dn];rfl
noncomputable def ASc:List Item:=B6 (AZ dr (AG S25 K0) (some 0) 100 1 none (Ak f93 [AQ 0 0 0 0,iA 0] (BE []) 1 []))
noncomputable def Xt (ic m c:Nat) (n:Int) (xs:dt) (L:Nat) (ys:dt) (i:AV) (p:List Bool):h_:=⟨ASc,⟨Dx f93.ntmps [(0,AQ 0 ic m c),(1,iA n),(5,AQ 1 0 L L),(10,AQ 1 0 L L),(11,AQ 1 0 L L),(12,iA L),(13,i)],
 [(0,some (An [.seq .u64 xs])),(1,some ⟨5,[.seq .u8 ys],false⟩)],2,p⟩⟩
abbrev AFH:Option (List Nat×List Nat×Nat):=some ([0,1,5,10,11,12,13],[0,1],2)
def Xu (n:Int):Nat:=(GJ n 0).toNat
def dG (ys:dt):Heap:=[(1,some ⟨5,[.seq .u8 ys],false⟩)]
def Pm (m sz:Int):Bool:=decide (0≤m∧m≤m∧sz*m≤281474976710656∧m≤9223372036854775807)
theorem ASd (ic m c:Nat) (n:Int) (xs:dt):AZ dr (AG S25 K0) (some 0) 100 1 AFH (Ak f93 [AQ 0 ic m c,iA n] (BE xs) 1 []) =
 some ([(Pm (GJ n 0) 1,true),(AK .i64 (Xu n),true)],[],Xt ic m c n xs (Xu n) (List.replicate (Xu n) 0) (.val false [.n .i64 0]) []):=dm
def FE (n i:Int):Int:=wI (wI (n-1)-i)
def tJ (xs:dt) (ic m:Nat) (k:Int):Int:=AW false .u8 (Int.fdiv (BS xs ic m (wI (Int.tdiv k 8))) (2^min (wI (8*Int.tmod k 8)).toNat 64))
def AFI (ic m:Nat) (n:Int) (xs:dt) (L:Nat) (ys:dt) (i:Int):du:=[(decide (i<L),true),(true,true),(Nat.ble (ic+m) xs.length,true),(AK .i64 m,true),(decide (0≤wI (Int.tdiv (FE n i) 8)),true),
 (decide (0≤FE n i∧(0:Int)<8),true),(decide (0≤wI (8*Int.tmod (FE n i) 8)∧0≤BS xs ic m (wI (Int.tdiv (FE n i) 8))),true),(decide (0≤i∧i<L),true),(decide (0+i.toNat*1<ys.length),true)]
theorem ASe (ic m c:Nat) (n:Int) (xs:dt) (L:Nat) (ys:dt) (i:Int):AZ dr (AG S25 K0) (some 0) 100 1 AFH (Xt ic m c n xs L ys (iA i) dz) =
 some (AFI ic m n xs L ys i,[],Xt ic m c n xs L (ys.set (0+i.toNat*1) (tJ xs ic m (FE n i))) (iA (wI (i+1))) []):=dm
theorem ASf (ic m c:Nat) (n:Int) (xs:dt) (L:Nat) (ys:dt) (i:Int):AU dr (AG S25 K0) f93 100 1 [1] (Xt ic m c n xs L ys (iA i) dx) =
 some ([(decide (i<L),false)],[],AQ 1 0 L L,dG ys):=dm
theorem AFJ {xs:dt} {ic m:Nat} (hx:∀ d∈xs,0≤d∧d<18446744073709551616) {k:Nat} (hk:k≤35184372088832):tJ xs ic m (k:Int)=FC (AI (AA xs ic m)) k∧0≤BS xs ic m (wI (Int.tdiv (k:Int) 8)):=by
 have e1:wI (Int.tdiv (k:Int) 8)=((k / 8:Nat):Int):=by rw [Uk];exact Au dn
 have e2:wI (8*Int.tmod (k:Int) 8)=((8*(k % 8):Nat):Int):=by rw [Xs,Au dn];omega
 unfold tJ;rw [e1,e2,sL hx,jz,mr dn];refine ⟨?_,dn⟩
 generalize AI (AA xs ic m)=A
 have e3:(Int.fdiv ((A / 2^(64*(k / 8)) % 18446744073709551616:Nat):Int) (2^(8*(k % 8))))=((A / 2^(64*(k / 8)) % 18446744073709551616 / 2^(8*(k % 8)):Nat):Int):=by
  rw [q_ _ (by exact_mod_cast qt (2^(8*(k % 8)))),se,ql];rfl
 rw [e3,DD,IntKind.wrap_u8];unfold FC;have e4:(18446744073709551616:Nat)=2^(8*(k % 8))*2^(64-8*(k % 8)):=by rw [← kc,show 8*(k % 8)+(64-8*(k % 8))=64 by omega]
 have e5:A / 2^(64*(k / 8)) % 18446744073709551616 / 2^(8*(k % 8)) % 256=A / 256^k % 256:=by
  rw [e4,Nat.mod_mul_right_div_self,ll,← kc,show 64*(k / 8)+8*(k % 8)=8*k by omega,N3]
  refine vd _ ?_
  have:64-8*(k % 8)=8+(56-8*(k % 8)):=dn
  rw [this,kc];exact ⟨_,rfl⟩
 rw [← e5];omega
theorem ASg {ic m c:Nat} {xs:dt} (hx:∀ d∈xs,0≤d∧d<18446744073709551616) (hl:ic+m≤xs.length) (hm:AK .i64 m=true) {n:Nat} (hn:n≤35184372088832) :
  Ab dr 93 [AQ 0 ic m c,iA n] (BE xs) 1 [] (AQ 1 0 n n) (dG (Bv (AI (AA xs ic m)) n)):=by
 refine A_ (ie:=[]) func93 dm dm fun β0 w0 hb=>?_
 have h0:GJ (n:Int) 0=n:=by unfold GJ;split<;>omega
 have h1:Xu (n:Int)=n:=by unfold Xu;rw [h0];omega
 refine Aj (AH dD Ac) AB (ASd ic m c n xs) ⟨?_,?_,trivial⟩ (AR dm) hb jl fun _=>?_
 ·rw [h0];unfold Pm;simp only [jt];omega
 ·rw [h1];simp only [AK,jx,jt];omega
 ·rw [h1];refine Hv ?_
  have loop:∀ r i,i+r=n→gz dr 93 β0 w0 (BA β0 w0 [] (AQ 1 0 n n) (dG (Bv (AI (AA xs ic m)) n))) f93.ntmps [] (Xt ic m c n xs n (JK (fun i=>FC (AI (AA xs ic m)) (n-1-i)) n i) (iA i) []):=by
   intro r;induction r with
   | zero =>
    intro i hi;obtain rfl:i=n:=dn
    rw [ASb];exact Ai dx (A6 (AH dD Ac) AB func93 (ASf ..) ⟨by simp,trivial⟩ (AR dm) hb jl)
   | succ r ih =>
    intro i hi;have ek:FE (n:Int) i=((n-1-i:Nat):Int):=dF hn dn
    have ev:=AFJ (ic:=ic) (m:=m) hx (k:=n-1-i) dn
    have ed:wI (Int.tdiv ((n-1-i:Nat):Int) 8)=(((n-1-i) / 8:Nat):Int):=by rw [Uk];exact Au dn
    refine Ai dz (Aj (AH dD Ac) AB (ASe ..) ?_ (AR dm) hb jl fun _=>?_)
    ·rw [AFI,ek];refine ⟨by simp;omega,rfl,jr hl,hm,by rw [ed];simp only [jt];omega,by simp,?_,by simp;omega,by rw [AFE dn];simp;omega,trivial⟩
     have:wI (8*Int.tmod ((n-1-i:Nat):Int) 8)=((8*((n-1-i) % 8):Nat):Int):=by rw [Xs,Au dn];omega
     rw [this];simp only [jt];exact ⟨dn,ev.2⟩
    ·rw [ek,ev.1,Au (z:=(i:Int)+1) dn,show 0+(i:Int).toNat*1=i by omega,AFF (f:=fun i=>FC (AI (AA xs ic m)) (n-1-i)) dn]
     exact ih (i+1) dn
  have:=loop n 0 dn
  rw [AFG] at this;exact this
def octSpec:ASpec:=fun args H fr ie =>
 match args with
 | [.val false [.sl k ic m _],I]=>match Bp (some I),AF H k with
  | some (_,.i64,i),some ⟨_,cs,_⟩=>match A' .u64 cs with
   | some xs=>some (BP [k] 1 fr 1 [] (AQ 1 0 i.toNat i.toNat) (dG (Bv (AI (AA xs ic m)) i.toNat)) [(Nat.ble (ic+m) xs.length,true),(AK .i64 m,true),(decide (0≤i∧i≤35184372088832),true)] ie)
   | none=>none
  | _,_=>none
 | _=>none
theorem ASh:BI dr 93 octSpec:=by
 refine GW func93 dm dm fun args H fr ie r h=>?_
 unfold octSpec at h;split at h;case h_2=>cases h
 rename_i k ic m _c I;split at h;case h_2=>cases h
 rename_i c0 i ty cs o hI hk;split at h;case h_2=>cases h
 rename_i xs jh;injection h with h;refine ⟨[k],[AQ 0 ic m _c,iA i],BE xs,1,1,[],_,_,_,ie,h.symm,fun β us w ha hg hc=>?_⟩
 obtain ⟨u1,jf,r1,⟨u2,jg,r2,ha,rfl⟩,rfl⟩:=ha;obtain ⟨g1,g2,g3⟩:=LL hg hk jh;obtain ⟨rfl,p1⟩:=C3 (β:=β) (u:=u2) (fv r2) hI
 have hi:=hc.2.2.1;simp only [jt] at hi;obtain ⟨n,rfl⟩:=kw hi.1;exact ⟨ASg g1 (jp hc.1) hc.2.1 dn,dm,⟨u1,_,r1,⟨_,jg,Az ⟨rfl,rfl,p1⟩,ha,rfl⟩,rfl⟩,g2,g3⟩
noncomputable def S26:dw:=(93,octSpec)::S25
theorem dH:AX dr S26:=⟨ASh,dD⟩
theorem AFK:∀ (a b:dt),Ap (a++b)=Ap a*256^b.length+Ap b
 | [],b=>by simp [Ap]
 | d::r,b=>by
  simp only [n_,Ap,ku];rw [AFK r b,kc,lv,lm,ni]
theorem AFL {ws:dt} {i:Nat} (h:i<ws.length):Ap (ws.take (i+1))=Ap (ws.take i)*256+(ws.getD i 0).toNat:=by
 rw [List.take_succ_eq_append_getElem h,AFK];simp [Ap,List.getD_eq_getElem?_getD,h]
theorem Ul:∀ (ws:dt),(∀ d∈ws,0≤d∧d<256)→Ap ws<256^ws.length
 | [],_=>by simp [Ap]
 | d::r,h=>by
  have hd:=h d (by simp)
  have ih:=Ul r fun d h'=>h d (by simp [h'])
  simp only [Ap,k_,lj];have:d.toNat+1≤256:=dn
  have h2:=my (256^r.length) this
  rw [lv,qd] at h2;omega
theorem AFM {M x k i:Nat} (hx:x<256) (hi:i≠k / 8):(M*256^(k+1)+x*256^k) / 2^(64*i) % 2^64=M*256^(k+1) / 2^(64*i) % 2^64:=by
 rw [N3,N3];rcases Nat.lt_or_gt_of_ne hi with h | h
 ·have e:x*2^(8*k)=2^(64*i)*(2^64*(x*2^(8*k-64*i-64))):=by
   rw [nb (2^64),nb (2^(64*i)),← kc,← kc];congr 2;omega
  rw [e,ut _ _ (m_ dp),uv]
 ·have e1:2^(64*i)=2^(8*k)*2^(64*i-8*k):=by rw [← kc];congr 1;omega
  have e2:M*2^(8*(k+1))+x*2^(8*k)=2^(8*k)*(M*256+x):=by
   rw [show 8*(k+1)=8*k+8 by omega,kc,oe,ko x];congr 1;rw [nb]
  have e3:M*2^(8*(k+1))=2^(8*k)*(M*256):=by rw [show 8*(k+1)=8*k+8 by omega,kc,nb]
  have e4:2^(64*i-8*k)=256*2^(64*i-8*k-8):=by
   rw [show (256:Nat)=2^8 by rfl,← kc];congr 1;omega
  rw [e2,e3,e1,Nat.mul_div_mul_left _ _ (m_ dp),Nat.mul_div_mul_left _ _ (m_ dp),e4,← ll,← ll];congr 2;omega
theorem AFN {M x k:Nat} (hx:x<256):∃ h B,(M*256^(k+1)) / 2^(64*(k / 8)) % 2^64=h*2^(8*(k % 8)+8)∧x*2^(8*(k % 8))=B∧B<2^(8*(k % 8)+8)∧h*2^(8*(k % 8)+8)<2^64 ∧
  (M*256^(k+1)+x*256^k) / 2^(64*(k / 8)) % 2^64=h*2^(8*(k % 8)+8)+B:=by
 rw [N3,N3];have e0:2^(8*k)=2^(64*(k / 8))*2^(8*(k % 8)):=by rw [← kc];congr 1;omega
 have e1:2^(8*(k+1))=2^(64*(k / 8))*2^(8*(k % 8)+8):=by rw [← kc];congr 1;omega
 have e2:(2:Nat)^64=2^(8*(k % 8)+8)*2^(56-8*(k % 8)):=by rw [← kc];congr 1;omega
 have e3:2^(8*(k % 8)+8)=2^(8*(k % 8))*256:=by rw [kc]
 have hp:0<2^(64*(k / 8)):=m_ dp
 have q1:M*2^(8*(k+1)) / 2^(64*(k / 8))=M*2^(8*(k % 8)+8):=by
  rw [e1,nb,Nat.mul_div_cancel_left _ hp]
 have q2:(M*2^(8*(k+1))+x*2^(8*k)) / 2^(64*(k / 8))=M*2^(8*(k % 8)+8)+x*2^(8*(k % 8)):=by
  rw [e1,e0,nb M,nb x,← oe,Nat.mul_div_cancel_left _ hp]
 rw [q1,q2];have hB:x*2^(8*(k % 8))<2^(8*(k % 8)+8):=by
  rw [e3,ko];exact Nat.mul_lt_mul_of_pos_left hx (m_ dp)
 have m1:M*2^(8*(k % 8)+8) % 2^64=M % 2^(56-8*(k % 8))*2^(8*(k % 8)+8):=by
  rw [e2,ko M,Nat.mul_mod_mul_left,ko]
 have jb:M % 2^(56-8*(k % 8))*2^(8*(k % 8)+8)+2^(8*(k % 8)+8)≤2^64:=by
  have:=ki M (show 0<2^(56-8*(k % 8)) from m_ dp)
  have h2:=my (2^(8*(k % 8)+8)) (show M % 2^(56-8*(k % 8))+1≤2^(56-8*(k % 8)) from this)
  rw [lv,qd,ko (2^(56-8*(k % 8))),← e2] at h2;exact h2
 have hp2:0<2^(8*(k % 8)+8):=m_ dp
 refine ⟨M % 2^(56-8*(k % 8)),_,m1,rfl,hB,dn,?_⟩
 rw [pc,m1];have:x*2^(8*(k % 8)) % 2^64=x*2^(8*(k % 8)):=jv dn
 rw [this,jv dn]
def Um (n:Nat):Nat:=(wI (Int.tdiv (wI ((n:Int)+7)) 8)).toNat
noncomputable def ASi:List Item:=B6 (AZ dr (AG S26 K0) (some 0) 100 1 none (Ak f91 [AQ 0 0 0 0] (A7 []) 1 []))
noncomputable def Xv (ic n c:Nat) (xs:dt) (L:Nat) (ys:dt) (i:AV) (p:List Bool):h_:=⟨ASi,⟨Dx f91.ntmps [(0,AQ 0 ic n c),(3,AQ 1 0 L L),(11,AQ 1 0 L L),(12,AQ 0 ic n c),(13,iA n),(14,i)],
 [(0,some (An [.seq .u8 xs])),(1,some ⟨38,[.seq .u64 ys],false⟩)],2,p⟩⟩
abbrev AFO:Option (List Nat×List Nat×Nat):=some ([0,3,11,12,13,14],[0,1],2)
theorem ASj (ic n c:Nat) (xs:dt):AZ dr (AG S26 K0) (some 0) 100 1 AFO (Ak f91 [AQ 0 ic n c] (A7 xs) 1 []) =
 some ([(AK .i64 n,true),(true,true),(Pm (wI (Int.tdiv (wI ((n:Int)+7)) 8)) 8,true),(AK .i64 n,true)],[],Xv ic n c xs (Um n) (List.replicate (Um n) 0) (.val false [.n .i64 0]) []):=dm
def E7 (n i:Int):Int:=wI (Int.tdiv (FE n i) 8)
def tK (xs:dt) (ic:Nat) (n:Int) (ys:dt) (i:Int):Int :=
 bits .or .u64 (ys.getD (0+(E7 n i).toNat*1) 0) (IntKind.u64.wrap (AW false .u64 (xs.getD (ic+i.toNat*1) 0)*2^min (wI (8*Int.tmod (FE n i) 8)).toNat 64))
def AFP (ic n:Nat) (xs:dt) (L:Nat) (ys:dt) (i:Int):du:=[(decide (i<n),true),(decide (0≤i∧i<n),true),(decide (ic+i.toNat*1<xs.length),true),(AK .i64 n,true),(true,true),
 (decide (0≤E7 n i∧E7 n i<L),true),(decide (0+(E7 n i).toNat*1<ys.length),true),(decide (0≤FE n i∧(0:Int)<8),true),(decide (0≤wI (8*Int.tmod (FE n i) 8)),true),(decide (0≤E7 n i∧E7 n i<L),true),(decide (0+(E7 n i).toNat*1<ys.length),true)]
theorem ASk (ic n c:Nat) (xs:dt) (L:Nat) (ys:dt) (i:Int):AZ dr (AG S26 K0) (some 0) 100 1 AFO (Xv ic n c xs L ys (iA i) dz) =
 some (AFP ic n xs L ys i,[],Xv ic n c xs L (ys.set (0+(E7 n i).toNat*1) (tK xs ic n ys i)) (iA (wI (i+1))) []):=dm
def dI (ys:dt):Heap:=[(1,some ⟨38,[.seq .u64 ys],false⟩)]
theorem ASl (ic n c:Nat) (xs:dt) (L:Nat) (ys:dt) (i:Int):AU dr (AG S26 K0) f91 100 1 [1] (Xv ic n c xs L ys (iA i) dx) =
 some ([(decide (i<n),false)],[],AQ 1 0 L L,dI ys):=dm
def D7 (N L:Nat):dt:=(List.range L).map (AE N)
theorem AFQ {N N' L j:Nat} {w:Int} (hj:AE N' j=w) (ho:∀ i,i≠j→AE N' i=AE N i):(D7 N L).set j w=D7 N' L:=by
 unfold D7;refine sf (by simp) fun i h1 h2=>?_
 rw [List.getElem_set];split
 ·rename_i e;subst e;simp [hj]
 ·rename_i e;simp [ho i (fun h=>e h.symm)]
theorem AFR {N L j:Nat} (h:j<L):(D7 N L).getD j 0=AE N j:=by simp [D7,List.getD_eq_getElem?_getD,h]
theorem AFS (L:Nat):D7 0 L=List.replicate L 0:=by
 unfold D7;refine sf (by simp) fun i h1 h2=>?_
 simp [AE]
theorem AFT {N L:Nat} (h:N<2^(64*L)):AI (D7 N L)=N:=by
 have:=AQm (S:=N) (L:=L) h
 unfold outL AA at this;rw [pe,List.replicate_zero,lh,qf,oi (by simp)] at this
 exact this
theorem AFU {n:Nat} (hn:n≤35184372088832):Um n=(n+7) / 8∧wI (Int.tdiv (wI ((n:Int)+7)) 8)=(((n+7) / 8:Nat):Int):=by
 have e:wI ((n:Int)+7)=((n+7:Nat):Int):=by rw [Au dn];omega
 have e2:wI (Int.tdiv (wI ((n:Int)+7)) 8)=(((n+7) / 8:Nat):Int):=by rw [e,Uk];exact Au dn
 exact ⟨by unfold Um;rw [e2];omega,e2⟩
def tM (N L:Nat):Heap:=[(1,some ⟨38,[.num L N],false⟩)]
theorem AFV {N L:Nat} (h:N<2^(64*L)) (β:Env) (l:List gq) (hr:AP β [.seq .u64 (D7 N L)] l):AP β [.num L N] l:=by
 obtain ⟨l1,l2,⟨h1,_⟩,h2,h3⟩:=hr;simp only [AP] at h2;subst h2;subst h1;subst h3;refine ⟨_,[],⟨h,rfl⟩,rfl,?_⟩
 simp [D7,words,Function.comp]
theorem AFW {P:gr} {f:gp} {β0:Env} {w0:gn} {R R':Ending→gn→Prop} {W':List Nat} {n:Nat} {x:h_} (h:gz P f β0 w0 R n W' x) (hv:∀ e w,R e w→R' e w):gz P f β0 w0 R' n W' x:=by
 intro β a w hi hf b cs q1 q2;obtain ⟨e',w',fr,q5,q4⟩:=h β a w hi hf b cs q1 q2;exact ⟨e',w',fr,hv _ _ q5,q4⟩
theorem ASm {ic n c:Nat} {xs:dt} (hx:∀ d∈xs,0≤d∧d<256) (hl:ic+n≤xs.length) (hn:n≤35184372088832) :
  Ab dr 91 [AQ 0 ic n c] (A7 xs) 1 [] (AQ 1 0 ((n+7) / 8) ((n+7) / 8)) (tM (Ap (AA xs ic n)) ((n+7) / 8)):=by
 have hfin:Ap (AA xs ic n)<2^(64*((n+7) / 8)):=by
  have h1:=Ul (AA xs ic n) (DG hx)
  have h2:(AA xs ic n).length=n:=by unfold AA;rw [kv,lk];omega
  rw [h2,N3] at h1;exact li h1 (pq dp dn)
 refine A_ (ie:=[]) func91 dm dm fun β0 w0 hb=>?_
 obtain ⟨l1,l2⟩:=AFU hn;have hw:AK .i64 (n:Int)=true:=by simp only [AK,jx,jt];omega
 refine Aj (AH dH Ac) AB (ASj ic n c xs) ⟨hw,rfl,?_,hw,trivial⟩ (AR dm) hb jl fun _=>?_
 ·rw [l2];unfold Pm;simp only [jt];omega
 ·rw [l1];refine Hv ?_
  have ii:(AA xs ic n).length=n:=by unfold AA;rw [kv,lk];omega
  have hbd:∀ d∈AA xs ic n,0≤d∧d<256:=DG hx
  have loop:∀ r i,i+r=n→gz dr 91 β0 w0 (BA β0 w0 [] (AQ 1 0 ((n+7) / 8) ((n+7) / 8)) (dI (D7 (Ap (AA xs ic n)) ((n+7) / 8)))) f91.ntmps []
    (Xv ic n c xs ((n+7) / 8) (D7 (Ap ((AA xs ic n).take i)*256^(n-i)) ((n+7) / 8)) (iA i) []):=by
   intro r;induction r with
   | zero =>
    intro i hi;obtain rfl:i=n:=dn
    rw [pe,kx,kt,oi dn];exact Ai dx (A6 (AH dH Ac) AB func91 (ASl ..) ⟨by simp,trivial⟩ (AR dm) hb jl)
   | succ r ih =>
    intro i hi;have ek:FE (n:Int) i=((n-1-i:Nat):Int):=dF hn dn
    have ej:E7 (n:Int) i=(((n-1-i) / 8:Nat):Int):=by unfold E7;rw [ek,Uk];exact Au dn
    have em:wI (8*Int.tmod ((n-1-i:Nat):Int) 8)=((8*((n-1-i) % 8):Nat):Int):=by rw [Xs,Au dn];omega
    have hjL:(n-1-i) / 8<(n+7) / 8:=dn
    have hlenw:∀ N,(D7 N ((n+7) / 8)).length=(n+7) / 8:=fun N=>by simp [D7]
    have hwx:xs.getD (ic+i) 0=(AA xs ic n).getD i 0:=(JI dn).symm
    have hxb:0≤(AA xs ic n).getD i 0∧(AA xs ic n).getD i 0<256:=by
     rw [kq];cases h':(AA xs ic n)[i]? with
     | none=>simp
     | some d=>exact hbd d (pm h')
    refine Ai dz (Aj (AH dH Ac) AB (ASk ..) ?_ (AR dm) hb jl fun _=>?_)
    ·unfold AFP;rw [ej,ek,em,hlenw];refine ⟨by simp;omega,by simp;omega,by simp;omega,hw,rfl,by simp only [jt];omega,by simp only [jt];omega,by simp only [jt];omega,by simp only [jt];omega,by simp only [jt];omega,by simp only [jt];omega,trivial⟩
    ·have hset:((D7 (Ap ((AA xs ic n).take i)*256^(n-i)) ((n+7) / 8)).set (0+(E7 n i).toNat*1) (tK xs ic n (D7 (Ap ((AA xs ic n).take i)*256^(n-i)) ((n+7) / 8)) i)) =
       D7 (Ap ((AA xs ic n).take (i+1))*256^(n-(i+1))) ((n+7) / 8):=by
      have ei:0+(((n-1-i) / 8:Nat):Int).toNat*1=(n-1-i) / 8:=dn
      have eo:ic+(i:Int).toNat*1=ic+i:=dn
      unfold tK;rw [ej,ek,em,ei,eo,hwx,AFR hjL];obtain ⟨X,hX⟩:=kw hxb.1;have hX2:X<256:=dn
      rw [hX,DD,IntKind.wrap_u64,IntKind.wrap_u64,jz,mr dn];have en:n-i=(n-1-i)+1:=dn
      have en':n-(i+1)=n-1-i:=dn
      have et:Ap ((AA xs ic n).take (i+1))*256^(n-(i+1))=Ap ((AA xs ic n).take i)*256^(n-1-i+1)+X*256^(n-1-i):=by
       rw [AFL dn,hX,jz,en',lv,lm,← s_]
      rw [et,en];obtain ⟨hh,B,w1,w2,w3,w4,w5⟩:=AFN (M:=Ap ((AA xs ic n).take i)) (k:=n-1-i) hX2
      refine AFQ ?_ fun j hj=>?_
      ·have je:8*((n-1-i) % 8)+8≤64:=dn
       have hB64:X*2^(8*((n-1-i) % 8))<2^64:=by
        rw [w2];exact li w3 (pq dp je)
       have ex:((X:Int) % 18446744073709551616*2^(8*((n-1-i) % 8))) % 18446744073709551616=(B:Int):=by
        have a1:((X:Int) % 18446744073709551616)=(X:Int):=dn
        have a2:((X:Int)*2^(8*((n-1-i) % 8)))=((X*2^(8*((n-1-i) % 8)):Nat):Int):=by rw [lu,ql];rfl
        rw [a1,a2,w2];rw [w2] at hB64;have:B<18446744073709551616:=hB64
        omega
       rw [ex];have eo:=tG (h:=hh) (s:=8*((n-1-i) % 8)+8) (B:=B) w4 w3 je
       unfold AE;rw [w5,w1];exact eo.symm
      ·unfold AE;rw [AFM hX2 hj]
     rw [hset,Au (z:=(i:Int)+1) dn];exact ih (i+1) dn
  have:=loop n 0 dn
  rw [List.take_zero,show Ap []=0 from rfl,p_,AFS] at this
  exact AFW this fun e w h=>XW (AFV hfin) h
def wrdSpec:ASpec:=fun args H fr ie =>
 match args with
 | [.val false [.sl k ic n _]]=>match AF H k with
  | some ⟨_,cs,_⟩=>match A' .u8 cs with
   | some xs=>some (BP [k] 1 fr 1 [] (AQ 1 0 ((n+7) / 8) ((n+7) / 8)) (tM (Ap (AA xs ic n)) ((n+7) / 8)) [(Nat.ble (ic+n) xs.length,true),(Nat.ble n 35184372088832,true)] ie)
   | none=>none
  | _=>none
 | _=>none
theorem tN {a:Int} (h:has .u8 a):0≤a∧a<256:=by
 have:=(FX _ _).1 h
 simp only [AK,jx,jt] at this;omega
theorem EP {β:Env} {H:Heap} {w:gn} {k:Nat} {ty:Nat} {cs:List Ch} {o:Bool} {xs:dt} (hg:Ex.Good β H w) (hk:AF H k=some ⟨ty,cs,o⟩) (jh:A' .u8 cs=some xs) :
  (∀ d∈xs,0≤d∧d<256)∧Ex.Good (A9 β [k] 1) (A7 xs) w∧(∀ j,j<1→∃ X,β (nth [k] j)=some X):=by
 obtain ⟨l,g1⟩:=J0 hg hk;obtain ⟨_,g2⟩:=DL jh g1;refine ⟨fun d hd=>tN (g2 d hd),cE (c:=[.seq .u8 xs]) hg hk (fun l h=>?_),fun j hj=>?_⟩
 ·obtain ⟨q1,q2⟩:=DL jh h;exact ⟨_,[],⟨q1,q2⟩,rfl,by simp⟩
 ·match j,hj with
  | 0,_=>exact CM (hg.heap _ _ hk)
theorem ASn:BI dr 91 wrdSpec:=by
 refine GW func91 dm dm fun args H fr ie r h=>?_
 unfold wrdSpec at h;split at h;case h_2=>cases h
 rename_i k ic n c;split at h;case h_2=>cases h
 rename_i ty cs o hk;split at h;case h_2=>cases h
 rename_i xs jh;injection h with h;refine ⟨[k],[AQ 0 ic n c],A7 xs,1,1,[],_,_,_,ie,h.symm,fun β us w ha hg hc=>?_⟩
 obtain ⟨u1,jf,r1,ha,rfl⟩:=ha;obtain ⟨g1,g2,g3⟩:=EP hg hk jh;exact ⟨ASm g1 (jp hc.1) (jp hc.2.1),dm,⟨u1,_,r1,ha,rfl⟩,g2,g3⟩
noncomputable def S27:dw:=(91,wrdSpec)::S26
theorem Xw:AX dr S27:=⟨ASn,dH⟩
def Xx (x:Nat):AV:=.val true [.seq .u8 (Bv x 48)]
theorem ASo (a:Nat):AJ dr (AG S27 K0) f111 [Ad a] [] 300 =
 some (JE 4,Xx (AI (AA (IX (a % pN)) 0 6))):=dm
theorem ASp (a:Nat):AT dr 111 [Ad a] (Xx (a % pN)):=by
 have h:=AN (AH Xw Ac) AB func111 (ASo a) ⟨rfl,rfl,rfl,rfl,trivial⟩ rfl
 rw [cK (Jz a)] at h;exact h
def Gy (n N:Nat):Nat:=if n=48∧N<pN then N else 0
def H3 (n N:Nat):Int:=if n=48 then (if N<pN then 0 else 41) else 40
def IZ (n N:Nat):AV:=.tup [(true,[.num 6 (Gy n N)]),(false,[.v (.int .i64 (H3 n N))])]
def dJ (e:Int):AV:=.tup [(true,GY),(false,[.n .i64 e])]
theorem ASq (ic n m:Nat) (xs:dt):AU dr (AG S27 K0) f128 300 1 [] (Ak f128 [AQ 0 ic n m] (A7 xs) 1 dz) =
 some ([(AK .i64 n,true),(!decide ((n:Int)=48),true)],[],dJ 40,[]):=dm
theorem ASr (ic m:Nat) (xs:dt):AU dr (AG S27 K0) f128 300 1 [] (Ak f128 [AQ 0 ic 48 m] (A7 xs) 1 ee) =
 some ([(true,true),(false,false),(Nat.ble (ic+48) xs.length,true),(true,true),(true,true),(!decide (Ap (AA xs ic 48) % pN=Ap (AA xs ic 48)),true)],[],dJ 41,[]):=dm
theorem ASs (ic m:Nat) (xs:dt):AU dr (AG S27 K0) f128 300 1 [] (Ak f128 [AQ 0 ic 48 m] (A7 xs) 1 ef) =
 some ([(true,true),(false,false),(Nat.ble (ic+48) xs.length,true),(true,true),(true,true),(!decide (Ap (AA xs ic 48) % pN=Ap (AA xs ic 48)),false)],[],.tup [(true,[.num 6 (Ap (AA xs ic 48))]),(false,[.n .i64 0])],[]):=dm
theorem CQ {β β':Env} {g g':Bool} {a a' b b':List Ch} {u:gq} (h1:∀ v,Bt β g a v→Bt β' g a' v) (h2:∀ v,Bt β g' b v→Bt β' g' b' v) (h:AO β (.tup [(g,a),(g',b)]) u):AO β' (.tup [(g,a'),(g',b')]) u:=by
 obtain ⟨us,⟨u1,l1,q1,⟨u2,l2,q2,q3,q4⟩,q5⟩,q6⟩:=h;exact ⟨us,⟨u1,l1,h1 _ q1,⟨u2,l2,h2 _ q2,q3,q4⟩,q5⟩,q6⟩
theorem Rq {β:Env} {v:gq} (h:Bt β true GY v):Bt β true [.num 6 0] v:=by
 obtain ⟨l,q,rfl⟩:=h;exact ⟨l,GI (k:=6) (x:=0) dm q,rfl⟩
theorem EM {β:Env} {k:IntKind} {i j:Int} {v:gq} (e:i=j) (h:Bt β false [.n k i] v):Bt β false [.v (.int k j)] v:=RY e h
theorem tO {ic n m:Nat} {xs:dt} (hl:ic+n≤xs.length) (hn:AK .i64 n=true) :
  Ab dr 128 [AQ 0 ic n m] (A7 xs) 1 [] (IZ n (Ap (AA xs ic n))) []:=by
 have hmod:∀ N:Nat,decide (N % pN=N)=decide (N<pN):=fun N=>by
  by_cases h:N<pN
  ·rw [jm h,jm (jv h)]
  ·rw [jq h,jq fun e=>h (by rw [← e];exact Hr N)]
 by_cases h:n=48
 ·subst h;by_cases hN:Ap (AA xs ic 48)<pN
  ·refine BN (A_ (ie:=ef) func128 dm dm fun β0 w0 hb =>
    A6 (AH Xw Ac) AB func128 (ASs ic m xs) ⟨rfl,rfl,jr hl,rfl,rfl,by rw [hmod,jm hN];rfl,trivial⟩ (AR dm) hb jl) fun β u hu=>?_
   unfold IZ Gy H3;rw [jo ⟨rfl,hN⟩,jo rfl,jo hN];exact CQ (fun _ q=>q) (fun _ q=>EM rfl q) hu
  ·refine BN (A_ (ie:=ee) func128 dm dm fun β0 w0 hb =>
    A6 (AH Xw Ac) AB func128 (ASr ic m xs) ⟨rfl,rfl,jr hl,rfl,rfl,by rw [hmod,jq hN];rfl,trivial⟩ (AR dm) hb jl) fun β u hu=>?_
   unfold IZ Gy H3;rw [jn (fun q=>hN q.2),jo rfl,jn hN]
   exact CQ (fun _ q=>Rq q) (fun _ q=>EM rfl q) hu
 ·refine BN (A_ (ie:=dz) func128 dm dm fun β0 w0 hb =>
   A6 (AH Xw Ac) AB func128 (ASq ic n m xs) ⟨hn,by simp;omega,trivial⟩ (AR dm) hb jl) fun β u hu=>?_
  unfold IZ Gy H3;rw [jn (fun q=>h q.1),jn h]
  exact CQ (fun _ q=>Rq q) (fun _ q=>EM rfl q) hu
def Un (g:Nat→dt→AV):ASpec:=fun args H fr ie =>
 match args with
 | [.val false [.sl k ic n _]]=>match AF H k with
  | some ⟨_,cs,_⟩=>match A' .u8 cs with
   | some xs=>some (BP [k] 1 fr 0 [] (g n (AA xs ic n)) [] [(Nat.ble (ic+n) xs.length,true),(AK .i64 n,true)] ie)
   | none=>none
  | _=>none
 | _=>none
theorem tP {f:gp} {fn:Func} {g:Nat→dt→AV} (jc:dr.funcs[f]? = some fn) (hb:fn.body.isSome=true) (iq:fw fn) (hk:∀ n l,EJ 1 0 [] (g n l) []=true)
  (h:∀ (ic n m:Nat) (xs:dt),(∀ d∈xs,0≤d∧d<256)→ic+n≤xs.length→AK .i64 n=true→Ab dr f [AQ 0 ic n m] (A7 xs) 1 [] (g n (AA xs ic n)) []):BI dr f (Un g):=by
 refine GW jc hb iq fun args H fr ie r hs=>?_
 unfold Un at hs;split at hs;case h_2=>cases hs
 rename_i k ic n c;split at hs;case h_2=>cases hs
 rename_i ty cs o hk';split at hs;case h_2=>cases hs
 rename_i xs jh;injection hs with hs;refine ⟨[k],[AQ 0 ic n c],A7 xs,1,0,[],_,_,_,ie,hs.symm,fun β us w ha hg hc=>?_⟩
 obtain ⟨u1,jf,r1,ha,rfl⟩:=ha;obtain ⟨g1,g2,g3⟩:=EP hg hk' jh;exact ⟨h ic n c xs g1 (jp hc.1) hc.2.1,hk _ _,⟨u1,_,r1,ha,rfl⟩,g2,g3⟩
noncomputable def S28:dw:=(111,Af (Fv fun x=>Xx (x % pN)))::(128,Un fun n l=>IZ n (Ap l))::S27
theorem ASu:AX dr S28:=⟨Ah func111 dm dm (GZ fun x _=>ASp x),tP func128 dm dm (fun _ _=>rfl) (fun _ _ _ _ _ hl hn=>tO hl hn),Xw⟩
theorem Uo:∀ (a b:dt),Bj (a++b)=Bj a+((2^(64*a.length):Nat):Int)*Bj b
 | [],b=>by simp [Bj]
 | d::a,b=>by
  simp only [n_,Bj,k_];rw [Uo a b,show 64*(a.length+1)=64+64*a.length by omega,kc,lu,qz,ta,← Int.add_assoc]
  rfl
theorem Xy (x k:Nat):((x % 2^(64*(k+1)):Nat):Int)=((x % 2^(64*k):Nat):Int)+((2^(64*k):Nat):Int)*AE x k:=by
 rw [show 64*(k+1)=64*k+64 by omega,kc,Nat.mod_mul,qo,lu];rfl
theorem tQ (k:Nat):((2^(64*(k+1)):Nat):Int)=((2^(64*k):Nat):Int)*18446744073709551616:=by
 rw [show 64*(k+1)=64*k+64 by omega,kc,lu];rfl
theorem AFX (x y:Nat):∀ k,Bj ((List.range k).map (B3 x y))=((x % 2^(64*k):Nat):Int)-((y % 2^(64*k):Nat):Int)+((2^(64*k):Nat):Int)*CC x y k
 | 0=>by simp [Bj,CC,Nat.mod_one]
 | k+1=>by
  rw [tc,pi,Uo,AFX x y k,Xy,Xy,tQ];simp only [lz,List.map_nil,Bj,ma,pp,Int.mul_zero,Int.add_zero];rw [RT x y k];generalize ((2^(64*k):Nat):Int)=Q
  simp only [qz,Int.mul_sub,ta];omega
theorem AFY {x y k:Nat} (hx:x<2^(64*k)) (hy:y<2^(64*k)):(((x+(2^(64*k)-y)) % 2^(64*k):Nat):Int)=Bj ((List.range k).map (B3 x y)):=by
 have h:=AFX x y k;rw [jv hx,jv hy] at h;have hb:=GH x y k;have hs:∀ (ds:dt),(∀ d∈ds,0≤d∧d<18446744073709551616)→0≤Bj ds∧Bj ds<((2^(64*ds.length):Nat):Int):=by
  intro ds;induction ds with
  | nil=>intro _;simp [Bj]
  | cons d r ih =>
   intro hd;have h1:=hd d (by simp)
   have h2:=ih fun d h=>hd d (by simp [h])
   rw [k_,tQ];simp only [Bj];omega
 have hr:=hs ((List.range k).map (B3 x y)) (by intro d hd;obtain ⟨i,_,rfl⟩:=ml.1 hd;exact FN x y i)
 rw [ma,pp,h] at hr;rw [h];generalize 2^(64*k)=Q at *
 have h01:CC x y k=0∨CC x y k=1:=dn
 rcases h01 with e | e
 ·rw [e,Int.mul_zero,Int.add_zero] at hr ⊢;have e1:x+(Q-y)=(x-y)+Q:=dn
  rw [e1,qb,jv dn];omega
 ·rw [e,Int.mul_one] at hr ⊢;rw [jv dn];omega
theorem AFZ {x y k R:Nat} (hR:R=2^(64*k)) (hx:x<R) (hy:y<R):(((x+(R-y)) % R:Nat):Int)=Bj ((List.range k).map (B3 x y)):=by subst hR;exact AFY hx hy
theorem AFa {f:gp} {args:List AV} {ds:dt} {y:Nat} (h:AT dr f args (.val true (Ma ds))) (e:(y:Int)=Bj ds):AT dr f args (.val true [.num ds.length y]):=by
 refine CG h fun u hu=>?_
 obtain ⟨l,q,rfl⟩:=hu;exact ⟨l,cD e q,rfl⟩
theorem ASv:AJ dr (AG S0 K0) f148 [] [] 100=some ([],.val true Pw):=dm
theorem ASw:AT dr 148 [] (.val true Pw):=AN (AH IV Ac) AB func148 ASv trivial rfl
def tS (x y:Nat):Nat→du
 | 0=>[]
 | k+1=>tS x y k++[(CL (CC x y k),true)]
theorem AFb (x y:Nat):∀ k,AM (tS x y k)
 | 0=>trivial
 | k+1=>by
  have app:∀ (a b:du),AM a→AM b→AM (a++b):=by
   intro a;induction a with
   | nil=>intro b _ h;exact h
   | cons c a ih=>intro b h1 h2;exact ⟨h1.1,ih b h1.2 h2⟩
  exact app _ _ (AFb x y k) ⟨DU (GH _ _ _),trivial⟩
theorem ASx (x y:Nat):AJ dr (AG S1 K0) f147 [Ad x,Ad y] [] 300=some (tS x y 6,.val true (Ma ((List.range 6).map (B3 x y)))):=dm
theorem ASy {x y:Nat} (hx:x<RR) (hy:y<RR):AT dr 147 [Ad x,Ad y] (Ad ((x+(RR-y)) % RR)):=by
 have h:=AN (AH bX Ac) AB func147 (ASx x y) (AFb x y 6) rfl
 exact AFa h (AFZ (k:=6) DM hx hy)
def pW (i:Nat):Int:=PL.getD i 0
def FF (q:Int):Nat→Int
 | 0=>0
 | i+1=>mW (Jx (pW i) q+DQ (FA (pW i) q) (FF q i) 0)
def FG (q:Int) (i:Nat):Int:=match Nat.blt i 6 with | true=>CT (FA (pW i) q) (FF q i) 0 | false=>CT 0 (FF q 6) 0
def Xz (t:Nat) (q:Int):Nat→Int
 | 0=>0
 | i+1=>IR (AE t i) (FG q i) (Xz t q i)
def tU (t:Nat) (q:Int) (i:Nat):Int:=EA (AE t i) (FG q i) (Xz t q i)
def tW (t:Nat) (q:Int):Nat→du
 | 0=>[]
 | k+1=>tW t q k++[(true,true),(CL (Xz t q k),true)]
noncomputable def SP:dw:=(148,Af bW)::S28
theorem dK:AX dr SP:=⟨Ah func148 dm dm (fun args v h=>by
 unfold bW at h;split at h
 ·injection h with h;subst h;exact ASw
 ·cases h),ASu⟩
theorem ASz (t:Nat) (q:Int):AJ dr (AG SP K0) f205 [.val true [.num 7 t],.val false [.v (.int .u64 q)]] [] 600=some (tW t q 7,.val true (Ma ((List.range 7).map (tU t q)))):=dm
theorem N4 {a q c:Int} (ha:0≤a∧a<18446744073709551616) (hq:0≤q∧q<18446744073709551616) (hc:0≤c∧c<18446744073709551616) :
  a*q+c=CT (FA a q) c 0+18446744073709551616*mW (Jx a q+DQ (FA a q) c 0)∧(0≤CT (FA a q) c 0∧CT (FA a q) c 0<18446744073709551616)∧(0≤mW (Jx a q+DQ (FA a q) c 0)∧mW (Jx a q+DQ (FA a q) c 0)<18446744073709551616):=by
 have h:=rP ha hq;simp only [Fu];unfold CT DQ FA Jx;generalize a*q=z at *
 omega
theorem Pn (i:Nat):0≤pW i∧pW i<18446744073709551616:=Nw (ws:=PL) dp i
theorem N5 {q:Int} (hq:0≤q∧q<18446744073709551616):∀ i,0≤FF q i∧FF q i<18446744073709551616
 | 0=>by simp [FF]
 | i+1=>(N4 (Pn i) hq (N5 hq i)).2.2
theorem AFc {q:Nat} (hq:q<18446744073709551616):((pN*q:Nat):Int)=Bj ((List.range 7).map (FG q))∧∀ i,i<7→FG (q:Int) i=AE (pN*q) i:=by
 have hq':0≤(q:Int)∧(q:Int)<18446744073709551616:=dn
 have key:((pN*q:Nat):Int)=Bj ((List.range 7).map (FG q)):=by
  have e0:pW 0*q+FF q 0=FG q 0+18446744073709551616*FF q 1:=(N4 (Pn 0) hq' (N5 hq' 0)).1
  have e1:pW 1*q+FF q 1=FG q 1+18446744073709551616*FF q 2:=(N4 (Pn 1) hq' (N5 hq' 1)).1
  have e2:pW 2*q+FF q 2=FG q 2+18446744073709551616*FF q 3:=(N4 (Pn 2) hq' (N5 hq' 2)).1
  have e3:pW 3*q+FF q 3=FG q 3+18446744073709551616*FF q 4:=(N4 (Pn 3) hq' (N5 hq' 3)).1
  have e4:pW 4*q+FF q 4=FG q 4+18446744073709551616*FF q 5:=(N4 (Pn 4) hq' (N5 hq' 4)).1
  have e5:pW 5*q+FF q 5=FG q 5+18446744073709551616*FF q 6:=(N4 (Pn 5) hq' (N5 hq' 5)).1
  have z:FF q 0=0:=rfl
  have c6:=N5 hq' 6;have e6:FG q 6=FF q 6:=by show CT 0 (FF q 6) 0=_;unfold CT;omega
  have w0:pW 0=0xb9feffffffffaaab:=rfl
  have w1:pW 1=0x1eabfffeb153ffff:=rfl
  have w2:pW 2=0x6730d2a0f6b0f624:=rfl
  have w3:pW 3=0x64774b84f38512bf:=rfl
  have w4:pW 4=0x4b1ba7b6434bacd7:=rfl
  have w5:pW 5=0x1a0111ea397fe69a:=rfl
  rw [w0] at e0;rw [w1] at e1;rw [w2] at e2;rw [w3] at e3;rw [w4] at e4;rw [w5] at e5;show _=FG q 0+18446744073709551616*(FG q 1+18446744073709551616*(FG q 2+18446744073709551616*(FG q 3+18446744073709551616*(FG q 4+18446744073709551616*(FG q 5+18446744073709551616*(FG q 6+18446744073709551616*0))))));rw [lu];unfold pN;omega
 refine ⟨key,fun i hi=>?_⟩
 have hb:∀ d∈(List.range 7).map (FG (q:Int)),0≤d∧d<18446744073709551616:=by
  intro d hd;obtain ⟨j,_,rfl⟩:=ml.1 hd;unfold FG;split
  ·exact (N4 (Pn j) hq' (N5 hq' j)).2.1
  ·unfold CT;omega
 obtain ⟨h1,_⟩:=XU _ _ hb key;have h2:=jw (fun l=>l.getD i 0) h1
 simp only [ma,pp] at h2;simpa [List.getD_eq_getElem?_getD,hi] using h2
theorem tY {t q:Nat} (hq:q<18446744073709551616):∀ i,i≤7→Xz t q i=CC t (pN*q) i
 | 0,_=>rfl
 | i+1,h=>by simp only [Xz,CC];rw [tY hq i dn,(AFc hq).2 i dn]
theorem AS0 {t q R:Nat} (hR:R=2^(64*7)) (hp:pN*18446744073709551616<R) (ht:t<R) (hq:q<18446744073709551616):AT dr 205 [.val true [.num 7 t],.val false [.v (.int .u64 q)]] (.val true [.num 7 ((t+(R-pN*q)) % R)]):=by
 have hc:∀ k,k≤7→AM (tW t q k):=by
  intro k;induction k with
  | zero=>intro _;trivial
  | succ k ih =>
   intro hk;have app:∀ (a b:du),AM a→AM b→AM (a++b):=by
    intro a;induction a with
    | nil=>intro b _ h;exact h
    | cons c a ih=>intro b h1 h2;exact ⟨h1.1,ih b h1.2 h2⟩
   exact app _ _ (ih dn) ⟨rfl,by rw [tY hq k dn];exact DU (GH _ _ _),trivial⟩
 have h:=AN (AH dK Ac) AB func205 (ASz t q) (hc 7 (ju _)) rfl
 have e:(List.range 7).map (tU t q)=(List.range 7).map (B3 t (pN*q)):=by
  refine nx fun i hi=>?_
  have hi':i<7:=mj.1 hi
  unfold tU B3;rw [tY hq i dn,(AFc hq).2 i hi']
 rw [e] at h;have hpq:pN*q<R:=qj (nr _ dn) hp
 exact AFa h (AFZ (k:=7) hR ht hpq)
def R7:Nat:=726838724295606890549323807888004534353641360687318060281490199180639288113397923326191050713763565560762521606266177933534601628614656
theorem AFd:R7=2^(64*7):=dm
theorem lt7:Nat.blt (pN*18446744073709551616) R7=true:=dm
theorem AS2 {t q:Nat} (ht:t<R7) (hq:q<18446744073709551616):AT dr 205 [.val true [.num 7 t],.val false [.v (.int .u64 q)]] (.val true [.num 7 ((t+(R7-pN*q)) % R7)]) :=
 AS0 AFd (BX.1 lt7) ht hq
def dL (x:Nat):Nat→du
 | 0=>[]
 | k+1=>dL x k++[(!decide (AE x (5-k)=pW (5-k)),false)]
def tZ:Nat→List Bool
 | 0=>[]
 | k+1=>false::tZ k
theorem AS3 (x k:Nat) (h:k<6):AJ dr (AG SP K0) f203 [Ad x] (tZ k++dz) 300 =
  some (dL x k++[(!decide (AE x (5-k)=pW (5-k)),true)],Aw (decide (AE x (5-k)<pW (5-k)))):=by
 obtain rfl | rfl | rfl | rfl | rfl | rfl:k=0∨k=1∨k=2∨k=3∨k=4∨k=5:=dn
 all_goals kernel_rfl
theorem AS4 (x:Nat):AJ dr (AG SP K0) f203 [Ad x] (tZ 6) 300=some (dL x 6,.val false [.b false]):=dm
theorem dM {a b:du} (h1:AM a) (h2:AM b):AM (a++b):=by
 induction a with
 | nil=>exact h2
 | cons c a ih=>exact ⟨h1.1,ih h1.2⟩
theorem AFe {x k:Nat} (h:∀ j,j<k→AE x (5-j)=pW (5-j)):AM (dL x k):=by
 induction k with
 | zero=>trivial
 | succ k ih=>exact dM (ih fun j hj=>h j dn) ⟨by simp [h k dn],trivial⟩
theorem AFf (i:Nat) (h:i<6):pW i=AE pN i:=by
 obtain rfl | rfl | rfl | rfl | rfl | rfl:i=0∨i=1∨i=2∨i=3∨i=4∨i=5:=dn
 all_goals kernel_rfl
theorem uA {x y:Nat} (hx:x<RR) (hy:y<RR):∀ k,k≤6→(∀ j,j<k→AE x (5-j)=AE y (5-j))→x / 2^(64*(6-k))=y / 2^(64*(6-k))
 | 0,_,_=>by
  rw [DM] at hx hy;have gen:∀ K z:Nat,z<2^(64*K)→z / 2^(64*(K-0))=0:=fun K z hz=>by rw [pv];exact mf hz
  exact (gen 6 x hx).trans (gen 6 y hy).symm
 | k+1,hk,h=>by
  have ih:=uA hx hy k dn fun j hj=>h j dn
  have hw:=h k dn;have e:∀ z:Nat,z / 2^(64*(6-(k+1)))=z / 2^(64*(6-k))*2^64+z / 2^(64*(5-k)) % 2^64:=by
   intro z;rw [show 64*(6-k)=64*(5-k)+64 by omega,kc,← ll,show 6-(k+1)=5-k by omega]
   have:=mv (z / 2^(64*(5-k))) (2^64)
   rw [ko] at this;exact this.symm
  unfold AE at hw;rw [e x,e y,ih];omega
theorem AS5 {x y k:Nat} (hx:x<RR) (hy:y<RR) (hk:k<6) (h:∀ j,j<k→AE x (5-j)=AE y (5-j)) (jd:AE x (5-k)≠AE y (5-k)):decide (AE x (5-k)<AE y (5-k))=decide (x<y):=by
 have ht:=uA hx hy k dn h;have es:∀ z:Nat,z / 2^(64*(5-k))=z / 2^(64*(6-k))*2^64+z / 2^(64*(5-k)) % 2^64:=by
  intro z;rw [show 64*(6-k)=64*(5-k)+64 by omega,kc,← ll]
  have:=mv (z / 2^(64*(5-k))) (2^64)
  rw [ko] at this;exact this.symm
 have e1:=es x;have e2:=es y;rw [ht] at e1;unfold AE at jd ⊢
 by_cases hl:((x / 2^(64*(5-k)) % 2^64:Nat):Int)<((y / 2^(64*(5-k)) % 2^64:Nat):Int)
 ·rw [jm hl,jm (UX (Q:=2^(64*(5-k))) dn)]
 ·have:y<x:=UX (Q:=2^(64*(5-k))) dn
  rw [jq hl,jq dn]
theorem AS6 {x y:Nat} (hx:x<RR) (hy:y<RR) (h:∀ j,j<6→AE x (5-j)=AE y (5-j)):x=y:=by
 have ht:=uA hx hy 6 (ju _) h
 rwa [pe,me,kx,ld,ld] at ht
theorem Up:pN<RR:=dp
theorem AS7 {P:gr} {f:gp} {args:List AV} {a b:Bool} (h:AT P f args (Aw a)) (e:a=b):AT P f args (Aw b):=by rw [← e];exact h
theorem AS8 {x k:Nat} (hx:x<RR) (hk:k<6) (h:∀ j,j<k→AE x (5-j)=pW (5-j)) (jd:AE x (5-k)≠pW (5-k)):AT dr 203 [Ad x] (Aw (decide (x<pN))):=by
 have i_:=AN (AH dK Ac) AB func203 (AS3 x k hk) (dM (AFe h) ⟨by rw [jq jd];rfl,trivial⟩) rfl
 refine AS7 i_ ?_
 have e:∀ j,j<6→pW (5-j)=AE pN (5-j):=fun j _=>AFf _ dn
 rw [e k hk] at jd ⊢;exact AS5 hx Up hk (fun j hj=>(h j hj).trans (e j dn)) jd
theorem AS9 {x:Nat} (hx:x<RR) (h:∀ j,j<6→AE x (5-j)=pW (5-j)):AT dr 203 [Ad x] (Aw (decide (x<pN))):=by
 have e:∀ j,j<6→pW (5-j)=AE pN (5-j):=fun j _=>AFf _ dn
 have hq:decide (x<pN)=false:=by
  have:=AS6 hx Up fun j hj=>(h j hj).trans (e j hj)
  exact jq (by rw [this];exact ri _)
 rw [hq];refine CG (AN (AH dK Ac) AB func203 (AS4 x) (AFe h) rfl) fun u hu=>?_
 obtain ⟨l1,l2,h1,h3,h4⟩:=hu;exact ⟨l1,l2,⟨h1,rfl,trivial⟩,h3,h4⟩
theorem AS_ {x:Nat} (hx:x<RR):AT dr 203 [Ad x] (Aw (decide (x<pN))):=by
 have key:∀ r k,k+r=6→(∀ j,j<k→AE x (5-j)=pW (5-j))→AT dr 203 [Ad x] (Aw (decide (x<pN))):=by
  intro r;induction r with
  | zero =>
   intro k hk h;exact AS9 hx fun j hj=>h j dn
  | succ r ih =>
   intro k hk h;by_cases hw:AE x (5-k)=pW (5-k)
   ·exact ih (k+1) dn fun j hj=>by
     rcases kf j k with h1 | h1
     ·exact h j h1
     ·rw [show j=k by omega];exact hw
   ·exact AS8 hx dn h hw
 exact key 6 0 dn fun j hj=>dn
noncomputable def SQ:dw:=(147,Af (LF fun x y=>Ad ((x+(RR-y)) % RR)))::(203,Af (Fv fun x=>Aw (decide (x<pN))))::SP
theorem dN:AX dr SQ:=⟨Ah func147 dm dm (Ns fun _ _ hx hy=>ASy hx hy),Ah func203 dm dm (GZ fun _ hx=>AS_ hx),dK⟩
noncomputable def AS':List Item:=B6 (AZ dr (AG SQ K0) (some 0) 100 0 none (Ak f141 [Ad 0] [] 0 []))
noncomputable def X0 (x:Nat) (p:List Bool):h_:=⟨AS',⟨Dx f141.ntmps [(1,.val false [.p 0 0]),(2,.val false [.p 1 0])],[(0,some ⟨40,[.num 6 x],false⟩),(1,some ⟨40,GY,false⟩)],2,p⟩⟩
abbrev rrK:Option (List Nat×List Nat×Nat):=some ([1,2],[0,1],2)
theorem ATA (x:Nat):AZ dr (AG SQ K0) (some 0) 100 0 rrK (Ak f141 [Ad x] [] 0 [])=some ([],[],X0 x []):=dm
theorem ATB (x:Nat):AZ dr (AG SQ K0) (some 0) 100 0 rrK (X0 x dz)=some ([(!decide (x<pN),true)],[],X0 ((x+(RR-pN)) % RR) []):=dm
theorem ATC (x:Nat):E' dr (AG SQ K0) f141 100 0 (X0 x dx)=some ([(!decide (x<pN),false)],[],Ad x):=dm
theorem ATD (w0:gn) (v:Nat):∀ (x:Nat),x<RR→x % pN=v→gz dr 141 CB w0 (Hp w0 (Ad v)) f141.ntmps [] (X0 x []):=by
 intro x;induction x using Nat.strongRecOn with
 | _ x ih =>
  intro hx hv;rcases kf x pN with jb | hge
  ·rw [jv jb] at hv;subst hv;exact Ai dx (IS (AH dN Ac) AB func141 (ATC x) ⟨by simp [jb],trivial⟩ (AR dm) (fun _ _=>rfl) rfl)
  ·have hp:=C6;have hpR:pN≤RR:=dp
   refine Ai dz (Aj (AH dN Ac) AB (ATB x) ⟨by simp;omega,trivial⟩ (AR dm) (fun _ _=>rfl) jl fun _=>?_)
   have e:(x+(RR-pN)) % RR=x-pN:=by rw [show x+(RR-pN)=(x-pN)+RR by omega,qb,jv dn]
   rw [e];exact ih (x-pN) dn dn (by rw [← hv,← ub hge])
theorem AFh {x:Nat} (hx:x<RR):AT dr 141 [Ad x] (Ad (x % pN)) :=
 Nk (ie:=[]) func141 dm dm fun w0=>Aj (AH dN Ac) AB (ATA x) trivial (AR dm) (fun _ _=>rfl) jl fun _=>ATD w0 _ x hx rfl
def X1 (t q:Nat):Nat:=(t+(R7-pN*q)) % R7
def uB:List AV→Option AV
 | [.val true a,B]=>match DE 7 a,Bp (some B) with
  | some x,some (_,.u64,h)=>some (.val true [.num 7 (X1 x h.toNat)])
  | _,_=>none
 | _=>none
theorem ATE:∀ args v,uB args=some v→AT dr 205 args v:=by
 intro args v h us w ha;unfold uB at h;split at h;case h_2=>cases h
 rename_i a B;split at h;case h_2=>cases h
 rename_i x c h0 hx hy;injection h with h;subst h;obtain ⟨u1,jf,r1,⟨u2,jg,r2,ha,rfl⟩,rfl⟩:=ha;obtain ⟨q0,q1,jb⟩:=Np hx r1;obtain ⟨q2,h2⟩:=UQ hy r2;have bh:=EH h2;obtain ⟨q,rfl⟩:=kw bh.1;have hq:q<18446744073709551616:=by
  clear jb;omega
 exact AS2 (AFd▸jb) hq _ w ⟨u1,_,q0,⟨u2,_,q2,ha,rfl⟩,rfl⟩
noncomputable def SR:dw:=(141,Af (Fv fun x=>Ad (x % pN)))::(205,Af uB)::SQ
theorem dO:AX dr SR:=⟨Ah func141 dm dm (GZ fun _ hx=>AFh hx),Ah func205 dm dm ATE,dN⟩
abbrev nxK:Option (List Nat×List Nat×Nat):=some ([4,6],[1,3],4)
noncomputable def ATF:List Item:=B6 (AZ dr (AG SR K0) (some 0) 100 0 none (Ak f143 [Ad 0,uV 0] [] 0 []))
noncomputable def X2 (T:Nat) (p:List Bool):h_:=⟨ATF,⟨Dx f143.ntmps [(4,.val false [.p 1 0]),(6,.val false [.p 3 0])],[(1,some ⟨40,GY,false⟩),(3,some ⟨188,[.num 7 T],false⟩)],4,p⟩⟩
def dQ (a4 a5:Int):Nat:=Int.toNat (((a5.toNat*Cx+a4.toNat) / Int.toNat (mW (1873798617647539866+1)):Nat):Int)
theorem ATG (a4 a5:Int):dQ a4 a5=(a5.toNat*Cx+a4.toNat) / 1873798617647539867:=by
 unfold dQ;rw [jz];rfl
theorem ATH (a0 a1 a2 a3 a4 a5 w:Int):AZ dr (AG SR K0) (some 0) 100 0 nxK (Ak f143 [.val true (w6 a0 a1 a2 a3 a4 a5),uV w] [] 0 []) =
 some ([(decide (a5<1873798617647539867),true)],[],X2 (X1 (AI [w,a0,a1,a2,a3,a4,a5]) (dQ a4 a5)) []):=dm
theorem ATI (T:Nat):AZ dr (AG SR K0) (some 0) 100 0 nxK (X2 T dz)=some ([(decide (0<AE T 6),true)],[],X2 (X1 T 1) []):=dm
theorem ATJ (T:Nat):E' dr (AG SR K0) f143 100 0 (X2 T dx)=some ([(decide (0<AE T 6),false)],[],Ad (AI ((List.range 6).map (AE T)) % pN)):=dm
theorem AFj {T q:Nat} (hT:T<R7) (h:pN*q≤T):X1 T q=T-pN*q:=by
 unfold X1;generalize R7=Q at *
 rw [show T+(Q-pN*q)=(T-pN*q)+Q by omega,qb,jv dn]
theorem uC {x k:Nat} (h:x<2^(64*k)):AI ((List.range k).map (AE x))=x:=AFT h
theorem p7:R7=RR*18446744073709551616:=dm
theorem p5':RR=2^(64*5)*2^64:=dm
theorem ATL (w0:gn) (v:Nat):∀ (T:Nat),T<R7→T % pN=v→gz dr 143 CB w0 (Hp w0 (Ad v)) f143.ntmps [] (X2 T []):=by
 intro T;induction T using Nat.strongRecOn with
 | _ T ih =>
  intro hT hv;have hw:AE T 6=((T / RR:Nat):Int):=by
   unfold AE;rw [← DM,jv];refine mb ?_
   rw [p7] at hT;exact hT
  by_cases h:0<T / RR
  ·have hp:=C6;have hpR:=Up;have hR:0<RR:=dp
   have hge:RR≤T:=by
    rcases kf T RR with h1 | h1
    ·rw [mf h1] at h;omega
    ·exact h1
   refine Ai dz (Aj (AH dO Ac) AB (ATI T) ⟨by rw [hw];simp only [jt];omega,trivial⟩ (AR dm) (fun _ _=>rfl) jl fun _=>?_)
   rw [AFj hT dn,kt];exact ih (T-pN) dn dn (by rw [← hv,← ub dn])
  ·have jb:T<RR:=by
    rcases kf T RR with h1 | h1
    ·exact h1
    ·exact absurd (Nat.div_pos h1 dp) h
   have:=IS (w0:=w0) (β0:=CB) (n:=f143.ntmps) (AH dO Ac) AB func143 (ATJ T) ⟨by rw [hw];simp only [decide_eq_false_iff_not];omega,trivial⟩ (AR dm) (fun _ _=>rfl) rfl
   rw [uC (by rw [← DM];exact jb),hv] at this
   exact Ai dx this
theorem AFk:Nat.blt pN (2^(64*5)*1873798617647539867)=true:=dm
theorem AFl (k j:Nat) (h:j=k+1):2^(64*j)=2^(64*k)*18446744073709551616:=by
 subst h;rw [show 64*(k+1)=64*k+64 by omega,kc]
theorem ATM (x k j:Nat) (h:j=k+1):x / 2^(64*j)*Cx+(AE x k).toNat=x / 2^(64*k):=by
 rw [AFl k j h,← ll];have:=mv (x / 2^(64*k)) 18446744073709551616
 unfold AE Cx;rw [jz];omega
theorem ATN (P:Nat) (h:Nat.blt pN (P*1873798617647539867)=true):pN≤1873798617647539867*P:=by rw [ko];exact Nat.le_of_lt (BX.1 h)
theorem ATO {p q A P Q x w:Nat} (hp:p≤1873798617647539867*P) (h1:q*1873798617647539867≤A) (h2:A*Q≤x) (e:P=Q*18446744073709551616):p*q≤w+18446744073709551616*x:=by
 calc p*q≤(1873798617647539867*P)*q:=my _ hp
  _=(q*1873798617647539867)*P:=by rw [ko,lm]
  _≤A*P:=my _ h1
  _=(A*Q)*18446744073709551616:=by rw [e,lm]
  _≤x*18446744073709551616:=my _ h2
  _≤w+18446744073709551616*x:=by rw [ko];exact Nat.le_add_left _ _
theorem ATP {x w:Nat} (hx:x<pN) (hw:w<18446744073709551616):AT dr 143 [Ad x,uV w] (Ad ((w+18446744073709551616*x) % pN)):=by
 have hpR:=Up;have h5:AE x 5=((x / 2^(64*5):Nat):Int):=by
  unfold AE;rw [jv];have h:x<2^(64*5)*2^64:=by rw [← p5'];exact nl hx Up
  exact mb h
 have hlt5:x / 2^(64*5)<1873798617647539867:=by
  refine mb (nl hx ?_)
  exact BX.1 AFk
 have h4:(AE x 5).toNat*Cx+(AE x 4).toNat=x / 2^(64*4):=by
  rw [h5,jz];exact ATM x 4 5 rfl
 have hT:AI [(w:Int),AE x 0,AE x 1,AE x 2,AE x 3,AE x 4,AE x 5]=w+18446744073709551616*x:=by
  have:=uC (x:=x) (k:=6) (by rw [← DM];omega)
  show (w:Int).toNat+18446744073709551616*AI [AE x 0,AE x 1,AE x 2,AE x 3,AE x 4,AE x 5]=_;rw [jz];exact jw (fun z=>w+18446744073709551616*z) this
 have hT7:w+18446744073709551616*x<R7:=by rw [p7];omega
 have hq:pN*dQ (AE x 4) (AE x 5)≤w+18446744073709551616*x:=by
  refine ATO (ATN (2^(64*5)) AFk) ?_ (qu x (2^(64*4))) (AFl 4 5 rfl)
  rw [ATG,h4];exact qu _ _
 intro us w1 ⟨u1,jf,r1,r2,r3⟩
 refine Nk (args:=[.val true (w6 (AE x 0) (AE x 1) (AE x 2) (AE x 3) (AE x 4) (AE x 5)),uV w]) (ie:=[]) func143 dm dm (fun w0=>?_) us w1 ⟨u1,jf,?_,r2,r3⟩
 case refine_2 =>
  have:=(Np (k:=6) (a:=[.num 6 x]) APR r1).2.1
  rwa [rH] at this
 refine Aj (AH dO Ac) AB (ATH (AE x 0) (AE x 1) (AE x 2) (AE x 3) (AE x 4) (AE x 5) w) ⟨by rw [h5];simp only [jt];omega,trivial⟩ (AR dm) (fun _ _=>rfl) jl fun _=>?_
 rw [hT,AFj hT7 hq];refine ATL w0 _ _ dn ?_
 exact Nat.sub_mul_mod hq
def uD:List AV→Option (du×AV)
 | [.val true a,B]=>match DE 6 a,Bp (some B) with
  | some x,some (_,.u64,w)=>some ([(decide (x<pN),true)],Ad ((w.toNat+18446744073709551616*x) % pN))
  | _,_=>none
 | _=>none
theorem ATQ:∀ args c v,uD args=some (c,v)→AM c→AT dr 143 args v:=by
 intro args cs v h hc us w ha;unfold uD at h;split at h;case h_2=>cases h
 rename_i a B;split at h;case h_2=>cases h
 rename_i x c h0 hx hy;injection h with h;injection h with h1 h2;subst h1;subst h2;obtain ⟨u1,jf,r1,⟨u2,jg,r2,ha,rfl⟩,rfl⟩:=ha;obtain ⟨q0,q1,jb⟩:=Np hx r1;obtain ⟨q2,h2⟩:=UQ hy r2;have bh:=EH h2;obtain ⟨q,rfl⟩:=kw bh.1;exact ATP (kj hc.1) dn _ w ⟨u1,_,q0,⟨u2,_,q2,ha,rfl⟩,rfl⟩
noncomputable def ST:dw:=(143,FO uD)::SR
theorem uE:AX dr ST:=⟨GK func143 dm dm ATQ,dO⟩
def uF:Heap→Heap→Prop
 | [],[]=>True
 | (k,some b)::r,(k',some b')::r'=>k=k'∧b'.ty=b.ty∧b'.opn=b.opn∧(∀ β l,AP β b.cs l→AP β b'.cs l)∧uF r r'
 | _,_=>False
theorem dR:∀ {H H':Heap} {j:Nat} {d:ib},uF H H'→AF H' j=some d→∃ b,AF H j=some b∧d.ty=b.ty∧d.opn=b.opn∧∀ β l,AP β b.cs l→AP β d.cs l
 | [],[],_,_,_,h=>by cases h
 | (k,some b)::r,(k',some b')::r',j,d,⟨e,h1,h2,h3,h4⟩,h=>by
  subst e;simp only [AF] at h ⊢;split at h
  ·rename_i hk;injection h with h;subst h;exact ⟨b,rfl,h1,h2,h3⟩
  ·rename_i hk;exact dR h4 h
 | [],_::_,_,_,h,_=>by cases h
 | (_,none)::_,_,_,_,h,_=>by cases h
 | (_,some _)::_,[],_,_,h,_=>by cases h
 | (_,some _)::_,(_,none)::_,_,_,h,_=>by cases h
theorem N6 {P:gr} {f:gp} {β0:Env} {w0:gn} {R:Ending→gn→Prop} {n:Nat} {W:List Nat} {todo:List Item} {T:List AV} {H H':Heap} {fr:Nat} {p:List Bool} (hi:uF H H') (h:gz P f β0 w0 R n W ⟨todo,⟨T,H',fr,p⟩⟩):gz P f β0 w0 R n W ⟨todo,⟨T,H,fr,p⟩⟩:=by
 intro β a w hv hf;refine h β a w { hv with good:=⟨fun b blk hb=>?_,fun b b' B n n' h1 h2 h3 h4=>?_,hv.good.lt⟩ } hf
 ·obtain ⟨x,hx,h1,h2,h3⟩:=dR hi hb;exact UU (hv.good.heap b x hx) rfl (.inr ⟨h1,h2⟩) (h3 β)
 ·refine hv.good.inj b b' B n n' ?_ ?_ h3 h4
  ·obtain ⟨d,hd,hr⟩:=GU h1;obtain ⟨x,hx,q1,_⟩:=dR hi hd;exact GC hx (by rw [← q1];exact hr)
  ·obtain ⟨d,hd⟩:=mc.1 h2;obtain ⟨x,hx,_⟩:=dR hi hd;rw [hx];rfl
theorem ATR {ds:dt} {y:Nat} (e:(y:Int)=Bj ds) (β:Env) (l:List gq) (h:AP β (Ma ds) l):AP β [.num ds.length y] l:=cD e h
def uG (x y:Nat):Nat→du
 | 0=>[]
 | k+1=>uG x y k++[(CL (B0 x y k),true)]
theorem AFm (x y:Nat):∀ k,AM (uG x y k)
 | 0=>trivial
 | k+1=>dM (AFm x y k) ⟨DU (GG _ _ _),trivial⟩
theorem ATS (x y:Nat):AJ dr (AG ST K0) f68 [Ad x,Ad y] [] 500=some (uG (x % pN) (y % pN) 6,Ad (Nr (x % pN) (y % pN) % pN)):=dm
theorem AFn (x y:Nat):AT dr 68 [Ad x,Ad y] (Ad (DV x y)):=by
 have h:=AN (AH uE Ac) AB func68 (ATS x y) (AFm _ _ _) rfl
 obtain ⟨h1,h2⟩:=rM (Jz x) (Jz y)
 have h3:=Hr x;have h4:=Hr y;have h5:=RU;have hc:(B0 (x % pN) (y % pN) 6).toNat=0:=by
  have:=GG (x % pN) (y % pN) 6
  have h01:(B0 (x % pN) (y % pN) 6).toNat=0∨(B0 (x % pN) (y % pN) 6).toNat=1:=dn
  rcases h01 with e | e
  ·exact e
  ·rw [e] at h1;omega
 rw [hc] at h1;have:Nr (x % pN) (y % pN)=x % pN+y % pN:=dn
 rw [this] at h;exact h
theorem ATT (x:Nat):AJ dr (AG ST K0) f70 [Ad x] [] 500=some ([],Ad (((AI PL+(RR-x % pN)) % RR) % pN)):=dm
theorem ATU:AI PL=pN:=dm
theorem AFo (x:Nat):AT dr 70 [Ad x] (Ad (C7 x)):=by
 have h:=AN (AH uE Ac) AB func70 (ATT x) trivial rfl
 have h3:=Hr x;have h5:=RU;have:(AI PL+(RR-x % pN)) % RR=pN-x % pN:=by
  rw [ATU,show pN+(RR-x % pN)=(pN-x % pN)+RR by omega,qb,jv dn]
 rw [this] at h;exact h
noncomputable def SU:dw:=(68,Af (LF fun x y=>Ad (DV x y)))::(70,Af (Fv fun x=>Ad (C7 x)))::ST
theorem X3:AX dr SU:=⟨Ah func68 dm dm (Ns fun x y _ _=>AFn x y),Ah func70 dm dm (GZ fun x _=>AFo x),uE⟩
theorem ATV (x y:Nat):AJ dr (AG SU K0) f83 [Ad x,Ad y] [] 300=some ([],Ad (DF x y)):=dm
theorem AFp (x y:Nat):AT dr 83 [Ad x,Ad y] (Ad (DF x y)):=AN (AH X3 Ac) AB func83 (ATV x y) trivial rfl
noncomputable def ATW:List Item:=B6 (AZ dr (AG SU K0) (some 0) 100 0 none (Ak f66 [Ad 0,Ad 0] [] 0 []))
noncomputable def Uq (x y:Nat) (t:List Ch) (i:Nat) (p:List Bool):h_:=⟨ATW,⟨Dx f66.ntmps [(4,.val false [.p 2 0]),(5,.val false [.p 3 0]),(6,.val false [.p 4 0]),(7,.val false [.p 5 0]),(8,.val false [.n .i64 i])],
 [(2,some ⟨40,GY,false⟩),(3,some ⟨40,[.num 6 x],false⟩),(4,some ⟨40,[.num 6 y],false⟩),(5,some ⟨152,t,false⟩)],6,p⟩⟩
abbrev rmK:Option (List Nat×List Nat×Nat):=some ([4,5,6,7,8],[2,3,4,5],6)
def Ur (xi:Int) (y T i:Nat):Nat→Int
 | 0=>0
 | k+1=>mW (mW (Jx xi (AE y k)+DQ (FA xi (AE y k)) (Ur xi y T i k) 0)+DQ (AE T (i+k)) (CT (FA xi (AE y k)) (Ur xi y T i k) 0) 0)
def uH (xi:Int) (y T i k:Nat):Int:=CT (AE T (i+k)) (CT (FA xi (AE y k)) (Ur xi y T i k) 0) 0
def X4 (xi:Int) (y T i:Nat):dt:=(List.range i).map (AE T)++((List.range 6).map (uH xi y T i)++(Ur xi y T i 6::(List.range (5-i)).map fun j=>AE T (i+7+j)))
theorem ATX (x y:Nat):AZ dr (AG SU K0) (some 4) 300 0 rmK (Ak f66 [Ad x,Ad y] [] 0 [])=some ([],[],Uq (x % pN) (y % pN) (List.replicate 12 (.n .u64 0)) 0 []):=dm
theorem ATY (x y T i:Nat) (hi:i<6):AZ dr (AG SU K0) (some 4) 300 0 rmK (Uq x y [.num 12 T] i [])=some (JE 12,[],Uq x y (Ma (X4 (AE x i) y T i)) (i+1) []):=by
 obtain rfl | rfl | rfl | rfl | rfl | rfl:i=0∨i=1∨i=2∨i=3∨i=4∨i=5:=dn
 all_goals kernel_rfl
def mE (T:Nat):Nat→Nat
 | 0=>AI [AE T 6,AE T 7,AE T 8,AE T 9,AE T 10,AE T 11]
 | k+1=>((AE T (5-k)).toNat+18446744073709551616*mE T k) % pN
def uI (T:Nat):Nat→du
 | 0=>[]
 | k+1=>uI T k++[(decide (mE T k<pN),true)]
theorem ATZ (x y T:Nat):E' dr (AG SU K0) f66 300 0 (Uq x y [.num 12 T] 6 [])=some (uI T 6,[],Ad (mE T 6)):=dm
theorem uJ {xi:Int} {y T i:Nat}:∀ k,Ur xi y T i k=Cu xi y (T / 2^(64*i)) k
 | 0=>rfl
 | k+1=>by
  have hw:AE T (i+k)=AE (T / 2^(64*i)) k:=by
   unfold AE;rw [ll,← kc,show 64*i+64*k=64*(i+k) by omega]
  simp only [Ur,Cu];rw [uJ k,hw]
theorem AFr (T i k:Nat):AE T (i+k)=AE (T / 2^(64*i)) k:=by
 unfold AE;rw [ll,← kc,show 64*i+64*k=64*(i+k) by omega]
theorem AFs {x:Int} (hx:0≤x∧x<18446744073709551616) (y T:Nat):∀ k,Bj ((List.range k).map (By x y T))+((2^(64*k):Nat):Int)*Cu x y T k=x*((y % 2^(64*k):Nat):Int)+((T % 2^(64*k):Nat):Int)
 | 0=>by simp [Bj,Cu,Nat.mod_one]
 | k+1=>by
  have ih:=AFs hx y T k;have he:=RV hx y T k;rw [tc,pi,Uo,Xy,Xy,tQ];simp only [lz,List.map_nil,Bj,ma,pp,Int.mul_zero,Int.add_zero];generalize ((2^(64*k):Nat):Int)=Q at *
  have e1:Q*By x y T k=Q*(x*AE y k)+Q*AE T k+Q*Cu x y T k-Q*18446744073709551616*Cu x y T (k+1):=by
   have:By x y T k=x*AE y k+AE T k+Cu x y T k-18446744073709551616*Cu x y T (k+1):=dn
   rw [this,Int.mul_sub,qz,qz,ta]
  have e2:x*(((y % 2^(64*k):Nat):Int)+Q*AE y k)=x*((y % 2^(64*k):Nat):Int)+Q*(x*AE y k):=by
   rw [qz,Int.mul_left_comm]
  rw [e1,e2];omega
theorem ATa {x y T i:Nat} (hi:i<6) (hy:y<RR) (hT:T<2^(64*(i+6))) :
  ((T+(AE x i).toNat*y*2^(64*i):Nat):Int)=Bj (X4 (AE x i) y T i)∧(X4 (AE x i) y T i).length=12:=by
 have hw:=Bx x i;obtain ⟨X,hX⟩:=kw hw.1;have hB:T / 2^(64*i)<2^(64*6):=by
  refine mb ?_
  have e:2^(64*(i+6))=2^(64*i)*2^(64*6):=by rw [oe 64 i 6];exact kc 2 (64*i) (64*6)
  exact e▸hT
 have hz:((List.range (5-i)).map fun j=>AE T (i+7+j))=(List.range (5-i)).map fun _=>(0:Int):=by
  refine nx fun j _=>?_
  unfold AE;rw [mf (li hT (pq dp dn))];rfl
 have hz2:∀ n,Bj ((List.range n).map fun _=>(0:Int))=0:=by
  intro n;induction n with
  | zero=>rfl
  | succ n ih=>rw [tc,pi,Uo,ih];simp [Bj]
 have hA:Bj ((List.range i).map (AE T))=((T % 2^(64*i):Nat):Int):=by
  have:=XT i (T % 2^(64*i)) (ki _ (m_ dp))
  rw [← this];refine jw Bj (nx fun j hj=>?_)
  have hj':j<i:=mj.1 hj
  unfold AE;have e:2^(64*i)=2^(64*j)*(2^64*2^(64*(i-j-1))):=by rw [← kc,← kc];congr 1;omega
  rw [e,Nat.mod_mul_right_div_self,Nat.mod_mul_right_mod]
 have hrow:(List.range 6).map (uH X y T i)=(List.range 6).map (By X y (T / 2^(64*i))):=by
  refine nx fun k _=>?_
  unfold uH By;rw [uJ,AFr]
 rw [hX];have hc:=AFs (x:=X) dn y (T / 2^(64*i)) 6
 rw [jv hB,jv (a:=y) (by rw [← DM];exact hy)] at hc
 constructor
 ·unfold X4;rw [hz,Uo,Uo,hA,hrow,uJ];simp only [Bj,hz2,ma,pp,Int.mul_zero,Int.add_zero];rw [hc];have e:=mv T (2^(64*i))
  generalize 2^(64*i)=Q at *
  rw [jz,qo,lu,lu]
  conv=>lhs;rw [← e]
  rw [qo,lu,qz,Int.mul_comm ((X:Int)*y)];omega
 ·unfold X4;simp;omega
theorem ATb (x i:Nat):x % 2^(64*(i+1))=x % 2^(64*i)+(AE x i).toNat*2^(64*i):=by
 have h:=Xy x i;have hw:=Bx x i;obtain ⟨X,hX⟩:=kw hw.1;rw [hX,← lu,← qo] at h;rw [hX,jz,ko X];exact Int.natCast_inj.1 h
theorem ATc (β:Env) (l:List gq) (h:AP β (List.replicate 12 (.n .u64 0)) l):AP β [.num 12 0] l:=GI (k:=12) (x:=0) dm h
theorem ATd (T:Nat):mE T 0=AI [AE T 6,AE T 7,AE T 8,AE T 9,AE T 10,AE T 11]:=rfl
theorem ATe (z:Nat):(List.range 6).map (AE z)=[AE z 0,AE z 1,AE z 2,AE z 3,AE z 4,AE z 5]:=rfl
theorem ATf {T:Nat} (hT:T<pN*RR):mE T 0=T / RR∧T / RR<pN:=by
 have hT12:T / RR<pN:=mb (by rw [ko];exact hT)
 refine ⟨?_,hT12⟩
 have h:=uC (x:=T / RR) (k:=6) (nl hT12 (by rw [← DM];exact Up))
 rw [ATe] at h;have e:∀ j,AE T (6+j)=AE (T / RR) j:=fun j=>by rw [AFr,← DM]
 rw [← e 0,← e 1,← e 2,← e 3,← e 4,← e 5] at h;rw [ATd];exact h
theorem ATg (T k:Nat):mE T (k+1)=((AE T (5-k)).toNat+18446744073709551616*mE T k) % pN:=rfl
theorem ATh (T j:Nat):T / 2^(64*j)=(AE T j).toNat+18446744073709551616*(T / 2^(64*(j+1))):=by
 rw [show 64*(j+1)=64*j+64 by omega,kc,← ll]
 have:=mv (T / 2^(64*j)) (2^64)
 unfold AE;rw [jz];omega
theorem AFt {T:Nat} (hT:T<pN*RR) (k:Nat) (hk:k≤6):mE T k=T / 2^(64*(6-k)) % pN∧mE T k<pN:=by
 induction k with
 | zero =>
  obtain ⟨e,h⟩:=ATf hT;rw [e,pv,← DM];exact ⟨(jv h).symm,h⟩
 | succ k ih =>
  obtain ⟨i1,i2⟩:=ih dn;rw [ATg];refine ⟨?_,ki _ C6⟩
  rw [i1,show 6-(k+1)=5-k by omega,ATh T (5-k),show 5-k+1=6-k by omega,pc,Nat.mul_mod_mod,← pc]
theorem AFu {T:Nat} (hT:T<pN*RR):∀ k,k≤6→AM (uI T k)
 | 0,_=>trivial
 | k+1,hk=>dM (AFu hT k dn) ⟨jm (AFt hT k dn).2,trivial⟩
theorem AFv (x y:Nat):AT dr 66 [Ad x,Ad y] (Ad (Ae x y)):=by
 refine Nk (ie:=[]) func66 dm dm fun w0=>?_
 refine Aj (AH X3 Ac) AB (ATX x y) trivial (AR dm) (fun _ _=>rfl) jl fun _=>?_
 have hx:=Hr x;have hy:=Hr y;have hyR:=Jz y;have hxR:=Jz x;have e:Ae x y=(x % pN)*(y % pN) % pN:=by unfold Ae;rw [← kz]
 rw [e];generalize x % pN=a at *
 generalize y % pN=b at *
 have loop:∀ r i,i+r=6→gz dr 66 CB w0 (Hp w0 (Ad (a*b % pN))) f66.ntmps [] (Uq a b [.num 12 ((a % 2^(64*i))*b)] i []):=by
  intro r;induction r with
  | zero =>
   intro i hi;obtain rfl:i=6:=dn
   have e6:a % 2^(64*6)=a:=jv (DM▸hxR)
   have hT:a*b<pN*RR:=Nat.mul_lt_mul'' hx hyR
   have h:=IS (w0:=w0) (β0:=CB) (n:=f66.ntmps) (AH X3 Ac) AB func66 (ATZ a b (a*b)) (AFu hT 6 (ju _)) (AR dm) (fun _ _=>rfl) rfl
   rw [(AFt hT 6 (ju _)).1,pe,me,kx,ld] at h;exact (jw (fun z=>gz dr 66 CB w0 (Hp w0 (Ad (a*b % pN))) f66.ntmps [] (Uq a b [.num 12 (z*b)] 6 [])) e6).mpr h
  | succ r ih =>
   intro i hi;have jb:(a % 2^(64*i))*b<2^(64*(i+6)):=by
    rw [show 64*(i+6)=64*i+64*6 by omega,kc]
    exact Nat.mul_lt_mul'' (ki _ (m_ dp)) (by rw [← DM];exact hyR)
   obtain ⟨r1,r2⟩:=ATa (x:=a) (T:=(a % 2^(64*i))*b) (show i<6 by omega) hyR jb
   have e2:(a % 2^(64*i))*b+(AE a i).toNat*b*2^(64*i)=(a % 2^(64*(i+1)))*b:=by
    rw [ATb,lv];congr 1;rw [si]
   rw [e2] at r1;refine Aj (AH X3 Ac) AB (ATY a b _ i dn) (Nt 12) (AR dm) (fun _ _=>rfl) jl fun _=>?_
   have:=ATR r1
   rw [r2] at this;refine N6 ?_ (ih (i+1) dn)
   exact ⟨rfl,rfl,rfl,fun β l h=>h,rfl,rfl,rfl,fun β l h=>h,rfl,rfl,rfl,fun β l h=>h,rfl,rfl,rfl,this,trivial⟩
 have h0:=loop 6 0 rfl;rw [me,kx,qp,p_] at h0;refine N6 ?_ h0
 exact ⟨rfl,rfl,rfl,fun β l h=>h,rfl,rfl,rfl,fun β l h=>h,rfl,rfl,rfl,fun β l h=>h,rfl,rfl,rfl,ATc,trivial⟩
noncomputable def SV:dw:=(83,Af (LF fun x y=>Ad (DF x y)))::(66,Af (LF fun x y=>Ad (Ae x y)))::SU
theorem Po:AX dr SV:=⟨Ah func83 dm dm (Ns fun x y _ _=>AFp x y),Ah func66 dm dm (Ns fun x y _ _=>AFv x y),X3⟩
def dS (g:Nat→dt→AV):ASpec:=fun args H fr ie =>
 match args with
 | [.val false [.sl k ic n _]]=>match AF H k with
  | some ⟨_,cs,_⟩=>match A' .u64 cs with
   | some xs=>some (BP [k] 1 fr 0 [] (g n (AA xs ic n)) [] [(Nat.ble (ic+n) xs.length,true),(Nat.ble n 1125899906842624,true)] ie)
   | none=>none
  | _=>none
 | _=>none
theorem AFw {f:gp} {fn:Func} {g:Nat→dt→AV} (jc:dr.funcs[f]? = some fn) (hb:fn.body.isSome=true) (iq:fw fn) (hk:∀ n l,EJ 1 0 [] (g n l) []=true)
  (h:∀ (ic n m:Nat) (xs:dt),(∀ d∈xs,0≤d∧d<18446744073709551616)→ic+n≤xs.length→n≤1125899906842624→Ab dr f [AQ 0 ic n m] (BE xs) 1 [] (g n (AA xs ic n)) []):BI dr f (dS g):=by
 refine GW jc hb iq fun args H fr ie r hs=>?_
 unfold dS at hs;split at hs;case h_2=>cases hs
 rename_i k ic n c;split at hs;case h_2=>cases hs
 rename_i ty cs o hk';split at hs;case h_2=>cases hs
 rename_i xs jh;injection hs with hs;refine ⟨[k],[AQ 0 ic n c],BE xs,1,0,[],_,_,_,ie,hs.symm,fun β us w ha hg hc=>?_⟩
 obtain ⟨u1,jf,r1,ha,rfl⟩:=ha;obtain ⟨g1,g2,g3⟩:=LL hg hk' jh;exact ⟨h ic n c xs g1 (jp hc.1) (jp hc.2.1),hk _ _,⟨u1,_,r1,ha,rfl⟩,g2,g3⟩
theorem Mq {n:Nat} (h:n≤1125899906842624):AK .i64 (n:Int)=true:=by
 simp only [AK,jx,jt];omega
theorem ATi (ic n m:Nat) (i:Int) (xs:dt):AU dr (AG S0 K0) f209 100 1 [] (Ak f209 (Pc ic n m i) (BE xs) 1 dz) =
 some ([(AK .i64 n,true),(decide (i<n),true),(decide (0≤i∧i<n),true),(decide (ic+i.toNat*1<xs.length),true)],[],.val false [.v (.int .u64 (xs.getD (ic+i.toNat*1) 0))],[]):=dm
theorem ATj (ic n m:Nat) (i:Int) (xs:dt):AU dr (AG S0 K0) f209 100 1 [] (Ak f209 (Pc ic n m i) (BE xs) 1 dx) =
 some ([(AK .i64 n,true),(decide (i<n),false)],[],.val false [.n .u64 0],[]):=dm
theorem ATk {ic n m:Nat} {xs:dt} (ii:ic+n≤xs.length) (hn:AK .i64 n=true) {i:Int} (hi:0≤i) :
  Ab dr 209 (Pc ic n m i) (BE xs) 1 [] (.val false [.v (.int .u64 (BS xs ic n i))]) []:=by
 by_cases h:i<n
 ·refine A_ (ie:=dz) func209 dm dm fun β0 w0 hb=>?_
  rw [show BS xs ic n i=xs.getD (ic+i.toNat*1) 0 from by rw [kt];exact JI dn]
  exact A6 (AH IV Ac) AB func209 (ATi ic n m i xs) ⟨hn,by simp [h],by simp [hi,h],by simp;omega,trivial⟩ (AR dm) hb jl
 ·have e:BS xs ic n i=0:=by
   unfold BS AA;rw [kq,mq (by rw [kv];omega)];rfl
  rw [e];refine BN (v:=.val false [.n .u64 0]) (A_ (ie:=dx) func209 dm dm fun β0 w0 hb=>?_) fun _ _=>sG
  exact A6 (AH IV Ac) AB func209 (ATj ic n m i xs) ⟨hn,by simp [h],trivial⟩ (AR dm) hb jl
theorem ATl:BI dr 209 atSpec:=by
 refine GW func209 dm dm fun args H fr ie r h=>?_
 unfold atSpec at h;split at h;case h_2=>cases h
 rename_i k ic n m I;split at h;case h_2=>cases h
 rename_i c0 i ty cs o hI hk;split at h;case h_2=>cases h
 rename_i xs jh;injection h with h;refine ⟨[k],Pc ic n m i,BE xs,1,0,[],_,[],_,ie,h.symm,fun β us w ha hg hc=>?_⟩
 obtain ⟨u1,jf,r1,⟨u2,jg,r2,ha,rfl⟩,rfl⟩:=ha;obtain ⟨g1,g2,g3⟩:=LL hg hk jh;obtain ⟨rfl,p1⟩:=C3 (β:=β) (u:=u2) (fv r2) hI
 exact ⟨ATk (jp hc.1) hc.2.1 (by simpa using hc.2.2.1),dm,⟨u1,_,r1,⟨_,jg,Az ⟨rfl,rfl,p1⟩,ha,rfl⟩,rfl⟩,g2,g3⟩
theorem ATm (i j:Int):AJ dr (AG S0 K0) f208 [iA i,iA j] dz 100=some ([(decide (j<i),true)],iA i):=dm
theorem ATn (i j:Int):AJ dr (AG S0 K0) f208 [iA i,iA j] dx 100=some ([(decide (j<i),false)],iA j):=dm
theorem ATo (i j:Int):AT dr 208 [iA i,iA j] (iA (GJ i j)):=by
 by_cases h:j<i
 ·have e:GJ i j=i:=by unfold GJ;split<;>omega
  rw [e];exact AN (AH IV Ac) AB func208 (ATm i j) ⟨jm h,trivial⟩ rfl
 ·have e:GJ i j=j:=by unfold GJ;split<;>omega
  rw [e];exact AN (AH IV Ac) AB func208 (ATn i j) ⟨jq h,trivial⟩ rfl
noncomputable def SW:dw:=(209,atSpec)::(208,FO (Ug [.i64,.i64] fun l=>match l with | [i,j]=>some ([],iA (GJ i j)) | _=>none))::SV
theorem ATp:AX dr SW:=⟨ATl,GK func208 dm dm (cT fun is c v h hh hc=>by
 split at h
 ·injection h with h;injection h with h1 h2;subst h1;subst h2;exact ATo _ _
 ·cases h),Po⟩
noncomputable def ATq:List Item:=B6 (AZ dr (AG SV K0) (some 0) 100 1 none (Ak f188 [AQ 0 0 0 0] (BE []) 1 []))
noncomputable def X5 (ic n m:Nat) (xs:dt) (v:List Ch) (i:Int) (p:List Bool):h_:=⟨ATq,⟨Dx f188.ntmps [(0,AQ 0 ic n m),(2,.val false [.p 1 0]),(3,.val false [.p 2 0]),(4,iA i)],
 [(0,some (An [.seq .u64 xs])),(1,some ⟨40,GY,false⟩),(2,some ⟨40,v,false⟩)],3,p⟩⟩
abbrev wdK:Option (List Nat×List Nat×Nat):=some ([0,2,3,4],[0,1,2],3)
theorem ATr (ic n m:Nat) (xs:dt):AZ dr (AG SV K0) (some 0) 100 1 wdK (Ak f188 [AQ 0 ic n m] (BE xs) 1 [])=some ([(AK .i64 n,true)],[],X5 ic n m xs GY (wI ((n:Int)-1)) []):=dm
def uK (xs:dt) (ic:Nat) (i:Int):Int:=xs.getD (ic+i.toNat*1) 0
theorem ATs (ic n m:Nat) (xs:dt) (v:Nat) (i:Int):AZ dr (AG SV K0) (some 0) 100 1 wdK (X5 ic n m xs [.num 6 v] i dz) =
 some ([(decide (0≤i),true),(decide (0≤i∧i<n),true),(decide (ic+i.toNat*1<xs.length),true),(decide (v<pN),true)],[],X5 ic n m xs [.num 6 (((uK xs ic i).toNat+18446744073709551616*v) % pN)] (wI (i-1)) []):=dm
theorem ATt (ic n m:Nat) (xs:dt) (v:Nat) (i:Int):AU dr (AG SV K0) f188 100 1 [] (X5 ic n m xs [.num 6 v] i dx)=some ([(decide (0≤i),false)],[],Ad v,[]):=dm
theorem ATu (β:Env) (l:List gq) (h:AP β GY l):AP β [.num 6 0] l:=GI (k:=6) (x:=0) dm h
theorem uL {ic n m:Nat} {xs:dt} (hx:∀ d∈xs,0≤d∧d<18446744073709551616) (hl:ic+n≤xs.length) (hn:n≤1125899906842624):Ab dr 188 [AQ 0 ic n m] (BE xs) 1 [] (Ad (AI (AA xs ic n) % pN)) []:=by
 refine A_ (ie:=[]) func188 dm dm fun β0 w0 hb=>?_
 refine Aj (AH Po Ac) AB (ATr ic n m xs) ⟨Mq hn,trivial⟩ (AR dm) hb jl fun _=>?_
 have hw:∀ d∈AA xs ic n,0≤d∧d<18446744073709551616:=DG hx
 have ii:(AA xs ic n).length=n:=by unfold AA;rw [kv,lk];omega
 have loop:∀ c,c≤n→gz dr 188 β0 w0 (BA β0 w0 [] (Ad (AI (AA xs ic n) % pN)) []) f188.ntmps [] (X5 ic n m xs [.num 6 (AI (AA xs ic n) / 2^(64*c) % pN)] ((c:Int)-1) []):=by
  intro c;induction c with
  | zero =>
   intro _;have h:=A6 (w0:=w0) (W:=[]) (n:=f188.ntmps) (AH Po Ac) AB func188 (ATt ic n m xs (AI (AA xs ic n) % pN) (((0:Nat):Int)-1)) ⟨rfl,trivial⟩ (AR dm) hb jl
   rw [me,kx,ld];exact Ai dx h
  | succ c ih =>
   intro hc;have hi:((c+1:Nat):Int)-1=(c:Int):=dn
   rw [hi];have hs:=UY hw c;have hv:uK xs ic c=(AA xs ic n).getD c 0:=by
    unfold uK;rw [jz,kt];exact (JI dn).symm
   refine Ai dz (Aj (AH Po Ac) AB (ATs ..) ⟨by simp,by simp;omega,by simp;omega,jm (ki _ C6),trivial⟩ (AR dm) hb jl fun _=>?_)
   rw [hv,Au (z:=(c:Int)-1) dn];have e:((AA xs ic n).getD c 0).toNat+18446744073709551616*(AI (AA xs ic n) / 2^(64*(c+1)) % pN)=_+_:=rfl
   rw [pc,Nat.mul_mod_mod,← pc,← hs];exact ih dn
 have h0:=loop n (ju _)
 have jb:=JH (AA xs ic n) hw
 rw [ii] at jb;rw [mf jb,pr] at h0;rw [Au dn];refine N6 ?_ h0
 exact ⟨rfl,rfl,rfl,fun β l h=>h,rfl,rfl,rfl,fun β l h=>h,rfl,rfl,rfl,ATu,trivial⟩
noncomputable def ATv:List Item:=B6 (AZ dr (AG SV K0) (some 0) 100 1 none (Ak f206 (Nv 0 0 0 0) (BE []) 1 []))
noncomputable def Rr (ic n m:Nat) (xs:dt) (x:Nat) (v:List Ch) (i:Int) (p:List Bool):h_:=⟨ATv,⟨Dx f206.ntmps [(1,AQ 0 ic n m),(2,.val false [.p 1 0]),(4,.val false [.p 2 0]),(5,.val false [.p 3 0]),(6,iA i)],
 [(0,some (An [.seq .u64 xs])),(1,some ⟨40,[.num 6 x],false⟩),(2,some ⟨40,GY,false⟩),(3,some ⟨40,v,false⟩)],4,p⟩⟩
abbrev uN:Option (List Nat×List Nat×Nat):=some ([1,2,4,5,6],[0,1,2,3],4)
def uO:List Ch:=[.n .u64 1,.n .u64 0,.n .u64 0,.n .u64 0,.n .u64 0,.n .u64 0]
theorem ATw (x ic n m:Nat) (xs:dt):AZ dr (AG SV K0) (some 0) 100 1 uN (Ak f206 (Nv x ic n m) (BE xs) 1 [])=some ([(AK .i64 n,true)],[],Rr ic n m xs x uO (wI (wI (64*(n:Int))-1)) []):=dm
def LQ (xs:dt) (ic:Nat) (i:Int):Int:=bits .and .u64 (Int.fdiv (CU xs ic i) (2^min (AW false .u64 (Int.tmod i 64)).toNat 64)) 1
def LR (ic n:Nat) (xs:dt) (i:Int) (bit:Bool):du:=[(decide (0≤i),true),(true,true),(decide (0≤wI (Int.tdiv i 64)∧wI (Int.tdiv i 64)<n),true),(decide (ic+(wI (Int.tdiv i 64)).toNat*1<xs.length),true),(decide (0≤i∧(0:Int)<64),true),
 (decide (0≤AW false .u64 (Int.tmod i 64)∧0≤CU xs ic i),true),(decide (LQ xs ic i=1),bit)]
theorem ATx (ic n m:Nat) (xs:dt) (x v:Nat) (i:Int):AZ dr (AG SV K0) (some 0) 100 1 uN (Rr ic n m xs x [.num 6 v] i d_)=some (LR ic n xs i true,[],Rr ic n m xs x [.num 6 (Ae (Ae v v) x)] (wI (i-1)) []):=dm
theorem ATy (ic n m:Nat) (xs:dt) (x v:Nat) (i:Int):AZ dr (AG SV K0) (some 0) 100 1 uN (Rr ic n m xs x [.num 6 v] i eg)=some (LR ic n xs i false,[],Rr ic n m xs x [.num 6 (Ae v v)] (wI (i-1)) []):=dm
theorem ATz (ic n m:Nat) (xs:dt) (x v:Nat) (i:Int):AU dr (AG SV K0) f206 100 1 [] (Rr ic n m xs x [.num 6 v] i dx)=some ([(decide (0≤i),false)],[],Ad v,[]):=dm
theorem X6 (xs:dt) (ic:Nat) (c:Nat):LQ xs ic c=JG (CU xs ic c) (Int.tmod c 64)∧AW false .u64 (Int.tmod c 64)=Int.tmod c 64:=by
 have hr:Int.tmod (c:Int) 64=((c % 64:Nat):Int):=by rw [o_ dn];rfl
 have e:AW false .u64 (Int.tmod (c:Int) 64)=Int.tmod c 64:=by rw [hr,DD,IntKind.wrap_u64];omega
 exact ⟨by unfold LQ;rw [e];rfl,e⟩
theorem AFy (x a b:Nat):Ae (x^a % pN) (x^b % pN)=x^(a+b) % pN:=by unfold Ae;rw [← kz,kc]
theorem AT0 (x a:Nat):Ae (x^a % pN) x=x^(a+1) % pN:=by unfold Ae;rw [qm,lj]
theorem AFz {ic n m:Nat} {xs:dt} (ip:∀ d∈xs,0≤d∧d<18446744073709551616) (ii:ic+n≤xs.length) (hn:n≤1125899906842624) (x:Nat) :
  Ab dr 206 (Nv x ic n m) (BE xs) 1 [] (Ad (C8 x (AI (AA xs ic n)))) []:=by
 refine A_ (ie:=[]) func206 dm dm fun β0 w0 hb=>?_
 refine Aj (AH Po Ac) AB (ATw x ic n m xs) ⟨Mq hn,trivial⟩ (AR dm) hb jl fun _=>?_
 have jb:∀ d∈AA xs ic n,0≤d∧d<18446744073709551616:=DG ip
 have hwl:(AA xs ic n).length=n:=by unfold AA;rw [kv,lk];omega
 generalize hE:AI (AA xs ic n)=E at *
 have loop:∀ c,c≤64*n→gz dr 206 β0 w0 (BA β0 w0 [] (Ad (C8 x E)) []) f206.ntmps [] (Rr ic n m xs x [.num 6 (x^(E / 2^c) % pN)] ((c:Int)-1) []):=by
  intro c;induction c with
  | zero =>
   intro _;have h:=A6 (w0:=w0) (W:=[]) (n:=f206.ntmps) (AH Po Ac) AB func206 (ATz ic n m xs x (x^E % pN) (((0:Nat):Int)-1)) ⟨rfl,trivial⟩ (AR dm) hb jl
   rw [kx,ld,LJ];exact Ai dx h
  | succ c ih =>
   intro hc;have hi:((c+1:Nat):Int)-1=(c:Int):=dn
   rw [hi];have hq:Int.tdiv (c:Int) 64=((c / 64:Nat):Int):=by rw [qk dn];rfl
   have hr:Int.tmod (c:Int) 64=((c % 64:Nat):Int):=by rw [o_ dn];rfl
   have hw:wI (Int.tdiv (c:Int) 64)=((c / 64:Nat):Int):=by rw [hq];exact Au dn
   have hj:c / 64<n:=dn
   have hv:CU xs ic c=(AA xs ic n).getD (c / 64) 0:=by
    unfold CU;rw [hw,jz,kt];exact (JI hj).symm
   have hvb:0≤CU xs ic c∧CU xs ic c<18446744073709551616:=by rw [hv];exact Nw jb _
   obtain ⟨eb,em⟩:=X6 xs ic c;have hbit:LQ xs ic c=((E / 2^c % 2:Nat):Int):=by
    obtain ⟨V,hV⟩:=kw hvb.1;rw [eb,hr,← hE,← Xg _ c jb,← hv,hV,jz];exact Xe V _ dn dn
   have iu:∀ bit,decide (LQ xs ic c=1)=bit→AM (LR ic n xs c bit):=by
    intro bit hbt;refine ⟨by simp,rfl,?_,?_,by simp,?_,hbt,trivial⟩
    ·rw [hw];simp;omega
    ·rw [hw];simp;omega
    ·rw [em,hr];simp only [jt];exact ⟨dn,hvb.1⟩
   have hdiv:E / 2^c=2*(E / 2^(c+1))+E / 2^c % 2:=by
    rw [lj,← ll];omega
   have ihc:=ih dn;rcases nz (E / 2^c) with h0 | h1
   ·refine Ai eg (Aj (AH Po Ac) AB (ATy ..) (iu false (by rw [hbit,h0];rfl)) (AR dm) hb jl fun _=>?_)
    rw [Au (z:=(c:Int)-1) dn,AFy,show E / 2^(c+1)+E / 2^(c+1)=E / 2^c by omega]
    exact ihc
   ·refine Ai d_ (Aj (AH Po Ac) AB (ATx ..) (iu true (by rw [hbit,h1];rfl)) (AR dm) hb jl fun _=>?_)
    rw [Au (z:=(c:Int)-1) dn,AFy,AT0,show E / 2^(c+1)+E / 2^(c+1)+1=E / 2^c by omega]
    exact ihc
 have h0:=loop (64*n) (ju _)
 have hl:=JH (AA xs ic n) jb
 rw [hwl,hE] at hl;rw [mf hl,kx] at h0;have e3:wI (wI (64*(n:Int))-1)=((64*n:Nat):Int)-1:=by
  rw [Au (z:=64*(n:Int)) dn,Au dn];omega
 rw [e3];refine N6 ?_ h0
 exact ⟨rfl,rfl,rfl,fun β l h=>h,rfl,rfl,rfl,fun β l h=>h,rfl,rfl,rfl,fun β l h=>h,rfl,rfl,rfl,fun β l h=>GI (k:=6) (x:=1) dm h,trivial⟩
theorem AF0:BI dr 206 powSpec:=by
 refine GW func206 dm dm fun args H fr ie r h=>?_
 unfold powSpec at h;split at h;case h_2=>cases h
 rename_i a k ic n m;split at h;case h_2=>cases h
 rename_i x ty cs o hx hk;split at h;case h_2=>cases h
 rename_i xs jh;injection h with h;refine ⟨[k],Nv x ic n m,BE xs,1,0,[],Ad (C8 x (AI ((xs.drop ic).take n))),[],_,ie,h.symm,fun β us w ha hg hc=>?_⟩
 obtain ⟨u1,jf,r1,⟨u2,jg,r2,ha,rfl⟩,rfl⟩:=ha;obtain ⟨g1,g2,g3⟩:=LL hg hk jh;refine ⟨AFz g1 (jp hc.1) (jp hc.2.1) x,dm,⟨u1,_,?_,⟨u2,jg,?_,ha,rfl⟩,rfl⟩,g2,g3⟩
 ·obtain ⟨l,q,rfl⟩:=r1;exact ⟨l,GI hx q,rfl⟩
 ·exact r2
noncomputable def SX:dw:=(188,dS fun _ l=>Ad (AI l % pN))::(206,powSpec)::SW
theorem J5:AX dr SX:=⟨AFw func188 dm dm (fun _ _=>rfl) (fun _ _ _ _ hx hl hn=>uL hx hl hn),AF0,ATp⟩
noncomputable def AT1:List Item:=B6 (AZ dr (AG SX K0) (some 0) 100 2 none (Ak f146 (J1 0 0 0 0 0 0) (Gu [] []) 2 []))
abbrev rcK:Option (List Nat×List Nat×Nat):=some ([0,1,5],[0,1],2)
section
variable (ic n m ig n' m':Nat) (xs ys:dt)
noncomputable def Rs (i:Int) (p:List Bool):h_:=⟨AT1,⟨Dx f146.ntmps [(0,AQ 0 ic n m),(1,AQ 1 ig n' m'),(5,iA i)],Gu xs ys,2,p⟩⟩
theorem AT2:AZ dr (AG SX K0) (some 0) 100 2 rcK (Ak f146 (J1 ic n m ig n' m') (Gu xs ys) 2 []) =
 some ([(AK .i64 n,true),(AK .i64 n',true)],[],Rs ic n m ig n' m' xs ys (wI (GJ n n'-1)) []):=dm
def Us (i:Int) (r:du):du:=(Nat.ble (ic+n) xs.length,true)::(AK .i64 n,true)::(decide (0≤i),true)::(Nat.ble (ig+n') ys.length,true)::(AK .i64 n',true)::(decide (0≤i),true)::r
theorem AT3 (i:Int):AZ dr (AG SX K0) (some 0) 100 2 rcK (Rs ic n m ig n' m' xs ys i e_) =
 some ((decide (0≤i),true)::Us ic n ig n' xs ys i ((decide (BS xs ic n i<BS ys ig n' i),false)::Us ic n ig n' xs ys i [(decide (BS ys ig n' i<BS xs ic n i),false)]),[],Rs ic n m ig n' m' xs ys (wI (i-1)) []):=dm
theorem AT4 (i:Int):AU dr (AG SX K0) f146 100 2 [] (Rs ic n m ig n' m' xs ys i d_) =
 some ((decide (0≤i),true)::Us ic n ig n' xs ys i [(decide (BS xs ic n i<BS ys ig n' i),true)],[],.val false [.n .i64 (-1)],[]):=dm
theorem AT5 (i:Int):AU dr (AG SX K0) f146 100 2 [] (Rs ic n m ig n' m' xs ys i ew) =
 some ((decide (0≤i),true)::Us ic n ig n' xs ys i ((decide (BS xs ic n i<BS ys ig n' i),false)::Us ic n ig n' xs ys i [(decide (BS ys ig n' i<BS xs ic n i),true)]),[],.val false [.n .i64 1],[]):=dm
theorem AT6 (i:Int):AU dr (AG SX K0) f146 100 2 [] (Rs ic n m ig n' m' xs ys i dx) =
 some ([(decide (0≤i),false)],[],.val false [.n .i64 0],[]):=dm
end
theorem AF2 {ic n m ig n' m':Nat} {xs ys:dt} (hx:∀ d∈xs,0≤d∧d<18446744073709551616) (hy:∀ d∈ys,0≤d∧d<18446744073709551616) (hl:ic+n≤xs.length) (hl':ig+n'≤ys.length)
  (hn:AK .i64 n=true) (hn':AK .i64 n'=true):Ab dr 146 (J1 ic n m ig n' m') (Gu xs ys) 2 [] (.val false [.v (.int .i64 (EO (AI (AA xs ic n)) (AI (AA ys ig n'))))]) []:=by
 refine A_ (ie:=[]) func146 dm dm fun β0 w0 hb=>?_
 refine Aj (AH J5 Ac) AB (AT2 ic n m ig n' m' xs ys) ⟨hn,hn',trivial⟩ (AR dm) hb jl fun _=>?_
 have bn:n≤9223372036854775807:=by simp only [AK,jx,jt] at hn;omega
 have bn':n'≤9223372036854775807:=by simp only [AK,jx,jt] at hn';omega
 have e:wI (GJ n n'-1)=((max n n':Nat):Int)-1:=by
  have:GJ n n'=((max n n':Nat):Int):=by unfold GJ;split<;>omega
  rw [this,Au dn]
 rw [e];have loop:∀ c,c≤max n n'→AI (AA xs ic n) / 2^(64*c)=AI (AA ys ig n') / 2^(64*c) →
   gz dr 146 β0 w0 (BA β0 w0 [] (.val false [.v (.int .i64 (EO (AI (AA xs ic n)) (AI (AA ys ig n'))))]) []) f146.ntmps [] (Rs ic n m ig n' m' xs ys ((c:Int)-1) []):=by
  intro c;induction c with
  | zero =>
   intro _ heq;rw [me,kx,ld,ld] at heq;have h:=A6 (w0:=w0) (W:=[]) (n:=f146.ntmps) (AH J5 Ac) AB func146 (AT6 ic n m ig n' m' xs ys (((0:Nat):Int)-1)) ⟨rfl,trivial⟩ (AR dm) hb jl
   exact Ai dx (IW h fun _ _=>RY (by unfold EO;rw [heq];simp))
  | succ c ih =>
   intro hc heq;have hi:((c+1:Nat):Int)-1=(c:Int):=dn
   rw [hi];have sx:=UY (DG (ic:=ic) (n:=n) hx) c
   have sy:=UY (DG (ic:=ig) (n:=n') hy) c
   have bx:=Nw (DG (ic:=ic) (n:=n) hx) c
   have byy:=Nw (DG (ic:=ig) (n:=n') hy) c
   have ex:BS xs ic n c=(AA xs ic n).getD c 0:=by unfold BS;rw [jz]
   have ey:BS ys ig n' c=(AA ys ig n').getD c 0:=by unfold BS;rw [jz]
   have hC:∀ r,AM r→AM (Us ic n ig n' xs ys c r):=fun r hr=>⟨jr hl,hn,by simp,jr hl',hn',by simp,hr⟩
   by_cases jb:BS xs ic n c<BS ys ig n' c
   ·have h:=A6 (w0:=w0) (W:=[]) (n:=f146.ntmps) (AH J5 Ac) AB func146 (AT4 ic n m ig n' m' xs ys c) ⟨by simp,hC _ ⟨jm jb,trivial⟩⟩ (AR dm) hb jl
    refine Ai d_ (IW h fun _ _=>RY ?_)
    have:AI (AA xs ic n)<AI (AA ys ig n'):=UX (Q:=2^(64*c)) (by rw [sx,sy,heq];omega)
    unfold EO;rw [jo this]
   ·by_cases hgt:BS ys ig n' c<BS xs ic n c
    ·have h:=A6 (w0:=w0) (W:=[]) (n:=f146.ntmps) (AH J5 Ac) AB func146 (AT5 ic n m ig n' m' xs ys c) ⟨by simp,hC _ ⟨jq jb,hC _ ⟨jm hgt,trivial⟩⟩⟩ (AR dm) hb jl
     refine Ai ew (IW h fun _ _=>RY ?_)
     have:AI (AA ys ig n')<AI (AA xs ic n):=UX (Q:=2^(64*c)) (by rw [sx,sy,heq];omega)
     unfold EO;rw [jn dn,jo this]
    ·refine Ai e_ (Aj (AH J5 Ac) AB (AT3 ..) ⟨by simp,hC _ ⟨jq jb,hC _ ⟨jq hgt,trivial⟩⟩⟩ (AR dm) hb jl fun _=>?_)
     rw [Au (z:=(c:Int)-1) dn];exact ih dn (by rw [sx,sy,heq];omega)
 refine loop _ (ju _) ?_
 have jk:∀ (zs:dt) (of k:Nat),(∀ d∈zs,0≤d∧d<18446744073709551616)→k≤max n n'→AI (AA zs of k) / 2^(64*max n n')=0:=by
  intro zs of k hz hk;refine mf (li (JH _ (DG hz)) (pq dp ?_))
  have:(AA zs of k).length≤k:=by unfold AA;rw [kv];omega
  omega
 rw [jk xs ic n hx dn,jk ys ig n' hy dn]
theorem AT7:BI dr 146 cmpSpec:=by
 refine GW func146 dm dm fun args H fr ie r h=>?_
 unfold cmpSpec at h;split at h;case h_2=>cases h
 rename_i k ic n m t ig n' m';split at h;case h_2=>cases h
 rename_i ty cs o ty' ds o' hk ht;split at h;case h_2=>cases h
 rename_i xs ys jh hys;injection h with h;refine ⟨[k,t],J1 ic n m ig n' m',Gu xs ys,2,0,[],_,[],_,ie,h.symm,fun β us w ha hg hc=>?_⟩
 obtain ⟨u1,jf,r1,⟨u2,jg,r2,ha,rfl⟩,rfl⟩:=ha;obtain ⟨g1,g1',g2,g3⟩:=cH hg hk ht jh hys;exact ⟨AF2 g1 g1' (jp hc.1) (jp hc.2.1) hc.2.2.1 hc.2.2.2.1,dm,⟨u1,_,r1,⟨u2,_,r2,ha,rfl⟩,rfl⟩,g2,g3⟩
noncomputable def dU:List Item:=B6 (AZ dr (AG SX K0) (some 0) 100 1 none (Ak f232 [AQ 0 0 0 0,iA 0] (BE []) 1 []))
noncomputable def dV (ic m c:Nat) (n:Int) (s:AV) (i:AV):List AV:=Dx f232.ntmps [(0,AQ 0 ic m c),(1,iA n),(5,s),(6,i)]
def roH (xs:dt) (ys:dt):Heap:=[(0,some (An [.seq .u64 xs])),(1,some ⟨5,[.seq .u8 ys],true⟩)]
noncomputable def dW (ic m c:Nat) (n:Int) (xs:dt) (L:Nat) (ys:dt) (i:Int) (p:List Bool):h_:=⟨dU,⟨dV ic m c n (.val false [.sx 1 L 1]) (iA i),roH xs ys,2,p⟩⟩
theorem AT8 (ic m c:Nat) (n:Int) (xs:dt):AZ dr (AG SX K0) (some 0) 100 1 (some ([0,1,5,6],[0],1)) (Ak f232 [AQ 0 ic m c,iA n] (BE xs) 1 []) =
 some ([],[],⟨dU,⟨dV ic m c n (.val false [.v (.slice none 0 0)]) (.val false [.n .i64 0]),BE xs,1,[]⟩⟩):=dm
theorem AT9 (ic m c:Nat) (n:Int) (xs:dt):(⟨dU,⟨(RG 1 1 [5] 0 (dV ic m c n (.val false [.v (.slice none 0 0)]) (.val false [.n .i64 0]))).map GL,BE xs++[(1,some ⟨5,[.seq .u8 []],true⟩)],1+1,[]⟩⟩:h_)=dW ic m c n xs 0 [] 0 []:=dm
def uP (xs:dt) (ic m:Nat) (k:Int):Int:=AW false .u8 (Int.fdiv (BS xs ic m (wI (Int.tdiv k 8))) (2^min (AW false .u64 (wI (8*Int.tmod k 8))).toNat 64))
def roC (ic m:Nat) (n:Int) (xs:dt) (L:Nat) (ys:dt) (i:Int):du:=[(decide (i<n),true),(true,true),(Nat.ble (ic+m) xs.length,true),(AK .i64 m,true),(decide (0≤wI (Int.tdiv (FE n i) 8)),true),
 (decide (0≤FE n i∧(0:Int)<8),true),(decide (0≤AW false .u64 (wI (8*Int.tmod (FE n i) 8))∧0≤BS xs ic m (wI (Int.tdiv (FE n i) 8))),true),(Nat.ble L ys.length,true),(decide (1≤1∧2*(L+1)*1≤281474976710656),true)]
theorem AT_ (ic m c:Nat) (n:Int) (xs:dt) (L:Nat) (ys:dt) (i:Int):AZ dr (AG SX K0) (some 0) 100 1 (some ([0,1,5,6],[0,3],4)) (dW ic m c n xs L ys i dz) =
 some (roC ic m n xs L ys i,[],⟨dU,⟨Jw (Dw 1 [3]) (dV ic m c n (.val false [.sx 1 (L+1) 1]) (iA (wI (i+1)))),IU (Dw 1 [3]) (roH xs (ys.take L++[uP xs ic m (FE n i)])),4,[]⟩⟩):=dm
def dZ (ys:dt):Heap:=[(1,some ⟨5,[.seq .u8 ys],true⟩)]
theorem AT' (ic m c:Nat) (n:Int) (xs:dt) (L:Nat) (ys:dt) (i:Int):AU dr (AG SX K0) f232 100 1 [1] (dW ic m c n xs L ys i dx) =
 some ([(decide (i<n),false)],[],.val false [.sx 1 L 1],dZ ys):=dm
theorem AUA {xs:dt} {ic m:Nat} (hx:∀ d∈xs,0≤d∧d<18446744073709551616) {k:Nat} (hk:k≤35184372088832):uP xs ic m (k:Int)=FC (AI (AA xs ic m)) k∧0≤BS xs ic m (wI (Int.tdiv (k:Int) 8))∧0≤AW false .u64 (wI (8*Int.tmod (k:Int) 8)):=by
 have e2:wI (8*Int.tmod (k:Int) 8)=((8*(k % 8):Nat):Int):=by rw [Xs,Au dn];omega
 have e3:AW false .u64 (wI (8*Int.tmod (k:Int) 8))=wI (8*Int.tmod (k:Int) 8):=by rw [e2,DD,IntKind.wrap_u64];omega
 obtain ⟨h1,h2⟩:=AFJ (ic:=ic) (m:=m) hx hk
 refine ⟨by unfold uP;rw [e3];exact h1,h2,by rw [e3,e2];omega⟩
theorem AUB {ic m c:Nat} {xs:dt} (hx:∀ d∈xs,0≤d∧d<18446744073709551616) (hl:ic+m≤xs.length) (hm:AK .i64 m=true) {n:Nat} (hn:n≤35184372088832) :
  Ab dr 232 [AQ 0 ic m c,iA n] (BE xs) 1 [] (.val false [.sx 1 n 1]) (dZ (Bv (AI (AA xs ic m)) n)):=by
 refine A_ (ie:=[]) func232 dm dm fun β0 w0 hb=>?_
 refine Aj (AH J5 Ac) AB (AT8 ic m c n xs) trivial (AR dm) hb jl fun _=>?_
 refine bO (ts:=[5]) (sz:=1) (ty:=5) (kd:=.u8) rfl (hb 1 (ju _)) (Hv ?_)
 rw [AT9];have loop:∀ r i,i+r=n→gz dr 232 β0 w0 (BA β0 w0 [] (.val false [.sx 1 n 1]) (dZ (Bv (AI (AA xs ic m)) n))) f232.ntmps [] (dW ic m c n xs i ((List.range i).map fun i=>FC (AI (AA xs ic m)) (n-1-i)) i []):=by
  intro r;induction r with
  | zero =>
   intro i hi;obtain rfl:i=n:=dn
   exact Ai dx (A6 (AH J5 Ac) AB func232 (AT' ..) ⟨by simp,trivial⟩ (AR dm) hb jl)
  | succ r ih =>
   intro i hi;have ek:FE (n:Int) i=((n-1-i:Nat):Int):=dF hn dn
   have ev:=AUA (ic:=ic) (m:=m) hx (k:=n-1-i) dn
   have ed:wI (Int.tdiv ((n-1-i:Nat):Int) 8)=(((n-1-i) / 8:Nat):Int):=by rw [Uk];exact Au dn
   refine Ai dz (Aj (AH J5 Ac) AB (AT_ ..) ?_ (AR dm) hb jl fun _=>?_)
   ·rw [roC,ek];refine ⟨by simp;omega,rfl,jr hl,hm,by rw [ed];simp only [jt];omega,by simp,by simp only [jt];exact ⟨ev.2.2,ev.2.1⟩,by simp,by simp only [jt];omega,trivial⟩
   ·refine Nm (m:=2) dm hb ?_
    rw [ek,ev.1,Au (z:=(i:Int)+1) dn,oi (by simp)]
    have:=ih (i+1) dn
    rw [tc,pi] at this;exact this
 exact loop n 0 dn
def roctSpec:ASpec:=fun args H fr ie =>
 match args with
 | [.val false [.sl k ic m _],I]=>match Bp (some I),AF H k with
  | some (_,.i64,i),some ⟨_,cs,_⟩=>match A' .u64 cs with
   | some xs=>some (BP [k] 1 fr 1 [] (.val false [.sx 1 i.toNat 1]) (dZ (Bv (AI (AA xs ic m)) i.toNat)) [(Nat.ble (ic+m) xs.length,true),(AK .i64 m,true),(decide (0≤i∧i≤35184372088832),true)] ie)
   | none=>none
  | _,_=>none
 | _=>none
theorem AUC:BI dr 232 roctSpec:=by
 refine GW func232 dm dm fun args H fr ie r h=>?_
 unfold roctSpec at h;split at h;case h_2=>cases h
 rename_i k ic m c I;split at h;case h_2=>cases h
 rename_i c0 i ty cs o hI hk;split at h;case h_2=>cases h
 rename_i xs jh;injection h with h;refine ⟨[k],[AQ 0 ic m c,iA i],BE xs,1,1,[],_,_,_,ie,h.symm,fun β us w ha hg hc=>?_⟩
 obtain ⟨u1,jf,r1,⟨u2,jg,r2,ha,rfl⟩,rfl⟩:=ha;obtain ⟨g1,g2,g3⟩:=LL hg hk jh;obtain ⟨rfl,p1⟩:=C3 (β:=β) (u:=u2) (fv r2) hI
 have hi:=hc.2.2.1;simp only [jt] at hi;obtain ⟨n,rfl⟩:=kw hi.1;exact ⟨AUB g1 (jp hc.1) hc.2.1 dn,dm,⟨u1,_,r1,⟨_,jg,Az ⟨rfl,rfl,p1⟩,ha,rfl⟩,rfl⟩,g2,g3⟩
noncomputable def AUD:List Item:=B6 (AZ dr (AG SX K0) (some 0) 100 1 none (Ak f189 [AQ 0 0 0 0] (A7 []) 1 []))
noncomputable def X7 (ic n c:Nat) (xs:dt) (L:Nat) (ys:dt) (i:AV) (p:List Bool):h_:=⟨AUD,⟨Dx f189.ntmps [(0,AQ 0 ic n c),(3,AQ 1 0 L L),(4,i)],[(0,some (An [.seq .u8 xs])),(1,some ⟨38,[.seq .u64 ys],false⟩)],2,p⟩⟩
abbrev AF5:Option (List Nat×List Nat×Nat):=some ([0,3,4],[0,1],2)
theorem AUE (ic n c:Nat) (xs:dt):AZ dr (AG SX K0) (some 0) 100 1 AF5 (Ak f189 [AQ 0 ic n c] (A7 xs) 1 []) =
 some ([(AK .i64 n,true),(true,true),(Pm (wI (Int.tdiv (wI ((n:Int)+7)) 8)) 8,true)],[],X7 ic n c xs (Um n) (List.replicate (Um n) 0) (.val false [.n .i64 0]) []):=dm
def rwX (xs:dt) (ic:Nat) (n:Int) (i:Int):Int:=IntKind.u64.wrap (AW false .u64 (xs.getD (ic+i.toNat*1) 0)*2^min (AW false .u64 (wI (8*Int.tmod (FE n i) 8))).toNat 64)
def uQ (xs:dt) (ic:Nat) (n:Int) (ys:dt) (i:Int):Int:=IntKind.u64.wrap (ys.getD (0+(E7 n i).toNat*1) 0+rwX xs ic n i)
def rwC (ic n:Nat) (xs:dt) (L:Nat) (ys:dt) (i:Int):du:=[(AK .i64 n,true),(decide (i<n),true),(AK .i64 n,true),(true,true),(true,true),(decide (0≤E7 n i∧E7 n i<L),true),(decide (0+(E7 n i).toNat*1<ys.length),true),
 (decide (0≤i∧i<n),true),(decide (ic+i.toNat*1<xs.length),true),(decide (0≤FE n i∧(0:Int)<8),true),(decide (0≤AW false .u64 (wI (8*Int.tmod (FE n i) 8))),true),(decide (0≤E7 n i∧E7 n i<L),true),(decide (0+(E7 n i).toNat*1<ys.length),true)]
theorem AUF (ic n c:Nat) (xs:dt) (L:Nat) (ys:dt) (i:Int):AZ dr (AG SX K0) (some 0) 100 1 AF5 (X7 ic n c xs L ys (iA i) dz) =
 some (rwC ic n xs L ys i,[],X7 ic n c xs L (ys.set (0+(E7 n i).toNat*1) (uQ xs ic n ys i)) (iA (wI (i+1))) []):=dm
theorem AUG (ic n c:Nat) (xs:dt) (L:Nat) (ys:dt) (i:Int):AU dr (AG SX K0) f189 100 1 [1] (X7 ic n c xs L ys (iA i) dx) =
 some ([(AK .i64 n,true),(decide (i<n),false)],[],AQ 1 0 L L,dI ys):=dm
theorem AUH {ic n c:Nat} {xs:dt} (hx:∀ d∈xs,0≤d∧d<256) (hl:ic+n≤xs.length) (hn:n≤35184372088832) :
  Ab dr 189 [AQ 0 ic n c] (A7 xs) 1 [] (AQ 1 0 ((n+7) / 8) ((n+7) / 8)) (tM (Ap (AA xs ic n)) ((n+7) / 8)):=by
 have ii:(AA xs ic n).length=n:=by unfold AA;rw [kv,lk];omega
 have hfin:Ap (AA xs ic n)<2^(64*((n+7) / 8)):=by
  have h1:=Ul (AA xs ic n) (DG hx)
  rw [ii,N3] at h1;exact li h1 (pq dp dn)
 refine A_ (ie:=[]) func189 dm dm fun β0 w0 hb=>?_
 obtain ⟨l1,l2⟩:=AFU hn;have hw:AK .i64 (n:Int)=true:=by simp only [AK,jx,jt];omega
 refine Aj (AH J5 Ac) AB (AUE ic n c xs) ⟨hw,rfl,?_,trivial⟩ (AR dm) hb jl fun _=>?_
 ·rw [l2];unfold Pm;simp only [jt];omega
 ·rw [l1];refine Hv ?_
  have hbd:∀ d∈AA xs ic n,0≤d∧d<256:=DG hx
  have loop:∀ r i,i+r=n→gz dr 189 β0 w0 (BA β0 w0 [] (AQ 1 0 ((n+7) / 8) ((n+7) / 8)) (dI (D7 (Ap (AA xs ic n)) ((n+7) / 8)))) f189.ntmps []
    (X7 ic n c xs ((n+7) / 8) (D7 (Ap ((AA xs ic n).take i)*256^(n-i)) ((n+7) / 8)) (iA i) []):=by
   intro r;induction r with
   | zero =>
    intro i hi;obtain rfl:i=n:=dn
    rw [pe,kx,kt,oi dn];exact Ai dx (A6 (AH J5 Ac) AB func189 (AUG ..) ⟨hw,by simp,trivial⟩ (AR dm) hb jl)
   | succ r ih =>
    intro i hi;have ek:FE (n:Int) i=((n-1-i:Nat):Int):=dF hn dn
    have ej:E7 (n:Int) i=(((n-1-i) / 8:Nat):Int):=by unfold E7;rw [ek,Uk];exact Au dn
    have em:wI (8*Int.tmod ((n-1-i:Nat):Int) 8)=((8*((n-1-i) % 8):Nat):Int):=by rw [Xs,Au dn];omega
    have em':AW false .u64 (wI (8*Int.tmod ((n-1-i:Nat):Int) 8))=((8*((n-1-i) % 8):Nat):Int):=by rw [em,DD,IntKind.wrap_u64];omega
    have hjL:(n-1-i) / 8<(n+7) / 8:=dn
    have hlenw:∀ N,(D7 N ((n+7) / 8)).length=(n+7) / 8:=fun N=>by simp [D7]
    have hwx:xs.getD (ic+i) 0=(AA xs ic n).getD i 0:=(JI dn).symm
    have hxb:0≤(AA xs ic n).getD i 0∧(AA xs ic n).getD i 0<256:=by
     rw [kq];cases h':(AA xs ic n)[i]? with
     | none=>simp
     | some d=>exact hbd d (pm h')
    refine Ai dz (Aj (AH J5 Ac) AB (AUF ..) ?_ (AR dm) hb jl fun _=>?_)
    ·unfold rwC;rw [ej,ek,em',hlenw];refine ⟨hw,by simp;omega,hw,rfl,rfl,by simp only [jt];omega,by simp only [jt];omega,by simp only [jt];omega,by simp;omega,by simp only [jt];omega,by simp only [jt];omega,by simp only [jt];omega,by simp only [jt];omega,trivial⟩
    ·have hset:((D7 (Ap ((AA xs ic n).take i)*256^(n-i)) ((n+7) / 8)).set (0+(E7 n i).toNat*1) (uQ xs ic n (D7 (Ap ((AA xs ic n).take i)*256^(n-i)) ((n+7) / 8)) i)) =
       D7 (Ap ((AA xs ic n).take (i+1))*256^(n-(i+1))) ((n+7) / 8):=by
      have ei:0+(((n-1-i) / 8:Nat):Int).toNat*1=(n-1-i) / 8:=dn
      have eo:ic+(i:Int).toNat*1=ic+i:=dn
      unfold uQ rwX;rw [ej,ek,em',ei,eo,hwx,AFR hjL];obtain ⟨X,hX⟩:=kw hxb.1;have hX2:X<256:=dn
      rw [hX,DD,IntKind.wrap_u64,IntKind.wrap_u64,IntKind.wrap_u64,jz,mr dn];have en:n-i=(n-1-i)+1:=dn
      have en':n-(i+1)=n-1-i:=dn
      have et:Ap ((AA xs ic n).take (i+1))*256^(n-(i+1))=Ap ((AA xs ic n).take i)*256^(n-1-i+1)+X*256^(n-1-i):=by
       rw [AFL dn,hX,jz,en',lv,lm,← s_]
      rw [et,en];obtain ⟨hh,B,w1,w2,w3,w4,w5⟩:=AFN (M:=Ap ((AA xs ic n).take i)) (k:=n-1-i) hX2
      have je:8*((n-1-i) % 8)+8≤64:=dn
      have hs64:hh*2^(8*((n-1-i) % 8)+8)+B<18446744073709551616:=by
       have:=ki ((Ap ((AA xs ic n).take i)*256^(n-1-i+1)+X*256^(n-1-i)) / 2^(64*((n-1-i) / 8))) (show 0<2^64 by decide)
       rw [w5] at this;exact this
      refine AFQ ?_ fun j hj=>?_
      ·have hB64:X*2^(8*((n-1-i) % 8))<2^64:=by
        rw [w2];exact li w3 (pq dp je)
       have ex:((X:Int) % 18446744073709551616*2^(8*((n-1-i) % 8))) % 18446744073709551616=(B:Int):=by
        have a1:((X:Int) % 18446744073709551616)=(X:Int):=dn
        have a2:((X:Int)*2^(8*((n-1-i) % 8)))=((X*2^(8*((n-1-i) % 8)):Nat):Int):=by rw [lu,ql];rfl
        rw [a1,a2,w2];rw [w2] at hB64;have:B<18446744073709551616:=hB64
        omega
       rw [ex];unfold AE;rw [w5,w1];omega
      ·unfold AE;rw [AFM hX2 hj]
     rw [hset,Au (z:=(i:Int)+1) dn];exact ih (i+1) dn
  have:=loop n 0 dn
  rw [List.take_zero,show Ap []=0 from rfl,p_,AFS] at this
  exact AFW this fun e w h=>XW (AFV hfin) h
theorem AUI:BI dr 189 wrdSpec:=by
 refine GW func189 dm dm fun args H fr ie r h=>?_
 unfold wrdSpec at h;split at h;case h_2=>cases h
 rename_i k ic n c;split at h;case h_2=>cases h
 rename_i ty cs o hk;split at h;case h_2=>cases h
 rename_i xs jh;injection h with h;refine ⟨[k],[AQ 0 ic n c],A7 xs,1,1,[],_,_,_,ie,h.symm,fun β us w ha hg hc=>?_⟩
 obtain ⟨u1,jf,r1,ha,rfl⟩:=ha;obtain ⟨g1,g2,g3⟩:=EP hg hk jh;exact ⟨AUH g1 (jp hc.1) (jp hc.2.1),dm,⟨u1,_,r1,ha,rfl⟩,g2,g3⟩
noncomputable def SY:dw:=(146,cmpSpec)::(232,roctSpec)::(189,wrdSpec)::SX
theorem Ut:AX dr SY:=⟨AT7,AUC,AUI,J5⟩
def PM2:dt:=[0xb9feffffffffaaa9,0x1eabfffeb153ffff,0x6730d2a0f6b0f624,0x64774b84f38512bf,0x4b1ba7b6434bacd7,0x1a0111ea397fe69a]
theorem AUJ:AI (AA PM2 0 6)=pN-2:=dm
theorem AUK (x:Nat):AJ dr (AG SY K0) f161 [Ad x] [] 300=some (JE 2,Ad (C8 x (AI (AA PM2 0 6)))):=dm
theorem AF9 (x:Nat):AT dr 161 [Ad x] (Ad (Bl x)):=by
 have h:=AN (AH Ut Ac) AB func161 (AUK x) (Nt 2) rfl
 rw [AUJ] at h;exact h
theorem AUL (a:Nat):AJ dr (AG SY K0) f162 [Ad a] [] 3000=some (JE 99,.val true ((Bv (AI (AA (IX (a % pN)) 0 6)) 48).map fun d=>.v (.int .u8 d))):=dm
theorem AUM {β:Env}:∀ {ds:dt} {l:List gq},AP β (ds.map fun d=>.v (.int .u8 d)) l→AP β [.seq .u8 ds] l
 | ds,l,h=>by
  have key:∀ (ds:dt) (l:List gq),AP β (ds.map fun d=>.v (.int .u8 d)) l→l=ds.map (.int .u8)∧∀ d∈ds,has .u8 d:=by
   intro ds;induction ds with
   | nil=>intro l h;exact ⟨h,by simp⟩
   | cons d r ih =>
    rintro l ⟨l1,l2,⟨h1,h2⟩,h3,h4⟩
    obtain ⟨i1,i2⟩:=ih l2 h3;subst h1;subst i1;subst h4;refine ⟨rfl,fun x hx=>?_⟩
    rcases ka.1 hx with rfl | hx
    ·exact h2.2
    ·exact i2 x hx
  obtain ⟨h1,h2⟩:=key ds l h;exact ⟨l,[],⟨h1,h2⟩,rfl,by simp⟩
theorem AUN (a:Nat):AT dr 162 [Ad a] (Xx (a % pN)):=by
 have h:=AN (AH Ut Ac) AB func162 (AUL a) (Nt 99) rfl
 rw [cK (Jz a)] at h;exact CG h fun u ⟨l,q,e⟩=>⟨l,AUM q,e⟩
theorem AUO (ic n m:Nat) (xs:dt):AU dr (AG SY K0) f140 300 1 [] (Ak f140 [AQ 0 ic n m] (A7 xs) 1 dz) =
 some ([(AK .i64 n,true),(!decide ((n:Int)=48),true)],[],dJ 40,[]):=dm
def eB (N:Nat):Bool:=decide (0≤EO (AI (AA (IX N) 0 6)) (AI (AA PL 0 6)))
theorem AUP (ic m:Nat) (xs:dt):AU dr (AG SY K0) f140 300 1 [] (Ak f140 [AQ 0 ic 48 m] (A7 xs) 1 ee) =
 some ([(true,true),(false,false),(Nat.ble (ic+48) xs.length,true),(true,true),(true,true),(true,true),(true,true),(true,true),(eB (Ap (AA xs ic 48)),true)],[],dJ 41,[]):=dm
theorem AUQ (ic m:Nat) (xs:dt):AU dr (AG SY K0) f140 300 1 [] (Ak f140 [AQ 0 ic 48 m] (A7 xs) 1 ef) =
 some ([(true,true),(false,false),(Nat.ble (ic+48) xs.length,true),(true,true),(true,true),(true,true),(true,true),(true,true),(eB (Ap (AA xs ic 48)),false),(true,true),(true,true)],[],
  .tup [(true,[.num 6 (AI (AA (IX (Ap (AA xs ic 48))) 0 6) % pN)]),(false,[.n .i64 0])],[]):=dm
theorem AF_ {N:Nat} (hN:N<RR):eB N=!decide (N<pN):=by
 unfold eB;rw [cK hN,AQn];unfold EO;by_cases h:N<pN
 ·rw [jo h,jm h];rfl
 ·rw [jn h,jq h];split<;>rfl
theorem AF' {ic n m:Nat} {xs:dt} (hx:∀ d∈xs,0≤d∧d<256) (hl:ic+n≤xs.length) (hn:AK .i64 n=true) :
  Ab dr 140 [AQ 0 ic n m] (A7 xs) 1 [] (IZ n (Ap (AA xs ic n))) []:=by
 by_cases h:n=48
 ·subst h;have hR:Ap (AA xs ic 48)<RR:=by
   have h1:=Ul (AA xs ic 48) (DG hx)
   have h2:(AA xs ic 48).length=48:=by unfold AA;rw [kv,lk];omega
   rw [h2] at h1;exact Nat.lt_of_lt_of_eq h1 dm
  by_cases hN:Ap (AA xs ic 48)<pN
  ·refine BN (A_ (ie:=ef) func140 dm dm fun β0 w0 hb =>
    A6 (AH Ut Ac) AB func140 (AUQ ic m xs) ⟨rfl,rfl,jr hl,rfl,rfl,rfl,rfl,rfl,by rw [AF_ hR,jm hN];rfl,rfl,rfl,trivial⟩ (AR dm) hb jl) fun β u hu=>?_
   unfold IZ Gy H3;rw [jo ⟨rfl,hN⟩,jo rfl,jo hN];rw [cK hR,jv hN] at hu;exact CQ (fun _ q=>q) (fun _ q=>EM rfl q) hu
  ·refine BN (A_ (ie:=ee) func140 dm dm fun β0 w0 hb =>
    A6 (AH Ut Ac) AB func140 (AUP ic m xs) ⟨rfl,rfl,jr hl,rfl,rfl,rfl,rfl,rfl,by rw [AF_ hR,jq hN];rfl,trivial⟩ (AR dm) hb jl) fun β u hu=>?_
   unfold IZ Gy H3;rw [jn (fun q=>hN q.2),jo rfl,jn hN]
   exact CQ (fun _ q=>Rq q) (fun _ q=>EM rfl q) hu
 ·refine BN (A_ (ie:=dz) func140 dm dm fun β0 w0 hb =>
   A6 (AH Ut Ac) AB func140 (AUO ic n m xs) ⟨hn,by simp;omega,trivial⟩ (AR dm) hb jl) fun β u hu=>?_
  unfold IZ Gy H3;rw [jn (fun q=>h q.1),jn h]
  exact CQ (fun _ q=>Rq q) (fun _ q=>EM rfl q) hu
theorem AUR:BI dr 128 (Un fun n l=>IZ n (Ap l)):=tP func128 dm dm (fun _ _=>rfl) (fun _ _ _ _ _ hl hn=>tO hl hn)
noncomputable def SZ:dw:=(161,Af (Fv fun x=>Ad (Bl x)))::(162,Af (Fv fun x=>Xx (x % pN)))::(140,D3 (Un fun n l=>IZ n (Ap l)))::(128,D3 (Un fun n l=>IZ n (Ap l)))::(130,D3 powSpec)::(206,D3 powSpec)::(188,D3 (dS fun _ l=>Ad (AI l % pN)))::SY
theorem AUS:AX dr SZ:=⟨Ah func161 dm dm (GZ fun x _=>AF9 x),Ah func162 dm dm (GZ fun x _=>AUN x),EK (tP func140 dm dm (fun _ _=>rfl) (fun _ _ _ _ hx hl hn=>AF' hx hl hn)),EK AUR,EK AEP,EK AF0,EK (AFw func188 dm dm (fun _ _=>rfl) (fun _ _ _ _ hx hl hn=>uL hx hl hn)),Ut⟩
end Go.Proofs.YtgnajdcdcblaoaaGreat
