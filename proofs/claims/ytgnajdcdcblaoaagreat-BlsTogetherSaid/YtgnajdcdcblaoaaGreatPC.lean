/- Part 3 of the proof. -/
import Derived.Test.YtgnajdcdcblaoaaGreatPB
import Derived.Test.YtgnajdcdcblaoaaGreatRows
set_option maxRecDepth 100000
set_option maxHeartbeats 4000000
open Go.Proofs.Tryz renaming prog→dm
open Go.Proofs.Tryz
namespace Go.Proofs.YtgnajdcdcblaoaaGreat
open Ex
def Bo:dn→Int
 | []=>0
 | d::r=>d+18446744073709551616*Bo r
theorem XD:∀ (k x:Nat),x<2^(64*k)→Bo ((List.range k).map (AF x))=x
 | 0,x,h=>by simp only [ll,kf] at h;simp [Bo];omega
 | k+1,x,h=>by
  have hq:x / 2^64<2^(64*k):=by
   apply li
   rw [← jr]
   rwa [show 64+64*k=64*(k+1) by omega]
  have ih:=XD k (x / 2^64) hq
  rw [ry,lf,ny];have e:(AF x ∘ Nat.succ)=AF (x / 2^64):=by funext i;simp [Function.comp,FW]
  rw [e];show AF x 0+18446744073709551616*Bo _=_;rw [ih,← PO]
theorem XE:∀ (ds:dn) (y:Nat),(∀ d∈ds,0≤d∧d<18446744073709551616)→(y:Int)=Bo ds→ds=(List.range ds.length).map (AF y)∧y<2^(64*ds.length)
 | [],y,_,h=>by simp only [Bo] at h;simp;omega
 | d::ds,y,hb,h=>by
  have hd:=hb d (by simp)
  have hs:=PO y;have hw:=B3 y 0;simp only [Bo] at h;have e1:d=AF y 0:=dk
  have e2:((y / 2^64:Nat):Int)=Bo ds:=dk
  obtain ⟨i1,i2⟩:=XE ds _ (fun d h=>hb d (by simp [h])) e2
  refine ⟨?_,?_⟩
  ·rw [kp,ry,lf,ny];have e:(AF y ∘ Nat.succ)=AF (y / 2^64):=by funext i;simp [Function.comp,FW]
   rw [e,← i1,← e1]
  ·rw [kp,show 64*(ds.length+1)=64+64*ds.length by omega,jr]
   have:=Nat.lt_mul_div_succ y (show 0<2^64 by decide)
   have h2:y / 2^64+1≤2^(64*ds.length):=i2
   exact kr this (mz _ h2)
def MZ (ds:dn):List Ch:=ds.map fun d=>.v (.int .u64 d)
theorem ADU {β:Env}:∀ {ds:dn} {l:List Value},AQ β (MZ ds) l→l=ds.map (.int .u64)∧∀ d∈ds,has .u64 d
 | [],l,h=>by simp [MZ,AQ] at h;simp [h]
 | d::ds,l,⟨l1,l2,⟨h1,h1'⟩,h2,h3⟩=>by
  obtain ⟨i1,i2⟩:=ADU h2;subst h1;subst i1;subst h3;refine ⟨rfl,fun x hx=>?_⟩
  rcases ju.1 hx with rfl | hx
  ·exact h1'.2
  ·exact i2 x hx
theorem bG {β β':Env} {ds:dn} {l:List Value} {y:Nat} (h:(y:Int)=Bo ds) (hr:AQ β (MZ ds) l):AQ β' [.num ds.length y] l:=by
 obtain ⟨h1,h2⟩:=ADU hr;obtain ⟨h3,h4⟩:=XE ds y (fun d hd=>ES (h2 d hd)) h
 have:l=words ds.length y:=by
  rw [h1,words]
  conv=>lhs;rw [h3]
  simp [List.map_map,Function.comp]
 rw [this];exact XA h4
theorem GQ {β β':Env} {k x:Nat} {a:List Ch} {l:List Value} (h:DL k a=some x) (hr:AQ β a l):AQ β' [.num k x] l:=by
 obtain ⟨h2,h3⟩:=Hm h hr;subst h2;exact XA h3
theorem FK {β:Env} {ρ:List Nat} {k0 j:Nat} (h:j<k0):A9 β ρ k0 j=β (nth ρ j):=by simp [A9,Bf.2 h]
theorem CS {β:Env} {b:gt} {k:Nat} {w:World} (h:DS β b k w):∃ X,β k=some X:=by
 rcases h with ⟨B,n,_,_,_,_,_,h,_⟩ | ⟨_,h,_⟩ | ⟨B,_,_,_,h,_⟩<;>exact ⟨_,h⟩
theorem UJ {β β':Env} {b d:gt} {k j:Nat} {w:World} (h:DS β b k w) (he:β' j=β k) (hd:(d.ty=Bu∧IS d.cs=true∧(d.opn=true→b.opn=true∨b.ty≠Bu))∨(d.ty=b.ty∧d.opn=b.opn)) (hc:∀ l,AQ β b.cs l→AQ β' d.cs l):DS β' d j w:=by
 rcases h with ⟨B,n,l,t,pre,ty,fz,h1,h2,h3,h4,h5⟩ | ⟨X,h1,h2,h3⟩ | ⟨B,l,es,q,h1,h2,h3,h4⟩
 ·refine .inl ⟨B,n,l,t,pre,ty,fz,by rw [he];exact h1,hc _ h2,h3,h4,fun hr=>?_⟩
  obtain ⟨e1,e2⟩:=hd.resolve_left fun h=>hr h.1
  rw [e1] at hr ⊢;rw [e2];exact h5 hr
 ·refine .inr (.inl ⟨X,by rw [he];exact h1,?_,hc _ h3⟩)
  cases X with
  | at_=>exact h2
  | nil =>
   rcases hd with ⟨e,_⟩ | ⟨e1,e2⟩
   ·exact Or.inr e
   ·exact Or.elim h2 (fun h=>Or.inl (e2.trans h)) fun h=>Or.inr (e1.trans h)
  | emp =>
   rcases hd with ⟨e,_,e3⟩ | ⟨e1,e2⟩
   ·refine ⟨?_,e⟩
    cases q:d.opn with
    | false=>rfl
    | true=>exact ((e3 q).elim (fun h=>by rw [h2.1] at h;cases h) fun h=>absurd h2.2 h)
   ·exact ⟨e2.trans h2.1,e1.trans h2.2⟩
 ·rcases hd with ⟨_,e,_⟩ | ⟨e1,e2⟩
  ·exact absurd (qg ..) (Zi e (hc _ h3))
  ·exact .inr (.inr ⟨B,l,es,q,by rw [he];exact h1,by rw [e1];exact h2,hc _ h3,by rw [e1];exact h4⟩)
def LF:Nat→List gt→Heap
 | _,[]=>[]
 | j,b::r=>(j,some b)::LF (j+1) r
theorem PV:∀ {bs:List gt} {j k:Nat} {b:gt},AG (LF j bs) k=some b→j≤k∧bs[k-j]? = some b
 | [],_,_,_,h=>by cases h
 | d::bs,j,k,b,h=>by
  simp only [LF,AG] at h;split at h
  ·rename_i e;have:=Ar.1 e
   subst this;injection h with h;exact ⟨jj _,by simp [h]⟩
  ·rename_i e;have:=I4 e
   obtain ⟨h1,h2⟩:=PV h;refine ⟨dk,?_⟩
   rw [show k-j=(k-(j+1))+1 by omega,List.getElem?_cons_succ]
   exact h2
theorem XF {β:Env} {H:Heap} {w:World} {ρ:List Nat} {bs:List gt} (g:Ex.Good β H w)
  (h:∀ j d,bs[j]? = some d→∃ b,AG H (nth ρ j)=some b∧((d.ty=Bu∧IS d.cs=true∧(d.opn=true→b.opn=true∨b.ty≠Bu))∨(d.ty=b.ty∧d.opn=b.opn))∧∀ l,AQ β b.cs l→AQ (A9 β ρ bs.length) d.cs l)
  (iq:∀ i j d,bs[i]? = some d→d.ty≠Bu→i≠j→j<bs.length→nth ρ i≠nth ρ j):Ex.Good (A9 β ρ bs.length) (LF 0 bs) w:=by
 have ik:∀ {j:Nat} {d:gt},bs[j]? = some d→j<bs.length:=fun hj=>by
  rcases jv _ bs.length with h | h
  ·exact h
  ·rw [ma h] at hj;cases hj
 refine ⟨fun j blk hj=>?_,fun i j B n n' h1 h2 h3 h4=>?_,fun j B n hj=>?_⟩
 ·obtain ⟨_,hj⟩:=PV hj;rw [pc] at hj;obtain ⟨b,hb,hd,hc⟩:=h j blk hj;exact UJ (g.heap _ b hb) (FK (ik hj)) hd hc
 ·obtain ⟨d,hd,hr⟩:=GZ h1;obtain ⟨e,he⟩:=lj.1 h2;obtain ⟨_,hd⟩:=PV hd;obtain ⟨_,he⟩:=PV he;rw [pc] at hd he;by_cases hij:i=j
  ·exact hij
  ·exfalso
   obtain ⟨b,hb,hdd,_⟩:=h i d hd;obtain ⟨b',hb',_⟩:=h j e he;rw [FK (ik hd)] at h3;rw [FK (ik he)] at h4;have hbr:b.ty≠Bu:=by
    obtain ⟨e1,_⟩:=hdd.resolve_left fun h=>hr h.1
    rw [← e1];exact hr
   exact iq i j d hd hr hij (ik he) (g.inj _ _ B n n' (GJ hb hbr) (by rw [hb'];rfl) h3 h4)
 ·unfold A9 at hj;split at hj
  ·exact g.lt _ _ _ hj
  ·cases hj
def Ak (c:List Ch):gt:=⟨Bu,c,false⟩
theorem bH {β:Env} {H:Heap} {w:World} {k:Nat} {b:gt} {c:List Ch} (g:Ex.Good β H w) (hk:AG H k=some b) (hc:∀ l,AQ β b.cs l→AQ (A9 β [k] 1) c l) (hw:IS c=true:=by rfl):Ex.Good (A9 β [k] 1) [(0,some (Ak c))] w:=by
 refine XF (ρ:=[k]) (bs:=[Ak c]) g (fun j d hj=>?_) fun i j d hi hr=>?_
 ·match j,hj with
  | 0,hj=>injection hj with hj;subst hj;exact ⟨b,hk,.inl ⟨rfl,hw,nofun⟩,hc⟩
 ·match i,hi with
  | 0,hi=>injection hi with hi;subst hi;exact absurd rfl hr
theorem ADV {β:Env} {H:Heap} {w:World} {k t:Nat} {b d:gt} {c e:List Ch} (g:Ex.Good β H w) (hk:AG H k=some b) (ht:AG H t=some d)
  (hc:∀ l,AQ β b.cs l→AQ (A9 β [k,t] 2) c l) (he:∀ l,AQ β d.cs l→AQ (A9 β [k,t] 2) e l) (hw:IS c=true:=by rfl) (hv:IS e=true:=by rfl):Ex.Good (A9 β [k,t] 2) [(0,some (Ak c)),(1,some (Ak e))] w:=by
 refine XF (ρ:=[k,t]) (bs:=[Ak c,Ak e]) g (fun j z hj=>?_) fun i j z hi hr=>?_
 ·match j,hj with
  | 0,hj=>injection hj with hj;subst hj;exact ⟨b,hk,.inl ⟨rfl,hw,nofun⟩,hc⟩
  | 1,hj=>injection hj with hj;subst hj;exact ⟨d,ht,.inl ⟨rfl,hv,nofun⟩,he⟩
 ·match i,hi with
  | 0,hi=>injection hi with hi;subst hi;exact absurd rfl hr
  | 1,hi=>injection hi with hi;subst hi;exact absurd rfl hr
theorem ADW {β:Env} {H:Heap} {w:World} {k t:Nat} {b d:gt} {c e:List Ch} (g:Ex.Good β H w) (hk:AG H k=some b) (ht:AG H t=some d) (iq:k≠t)
  (hc:∀ l,AQ β b.cs l→AQ (A9 β [k,t] 2) c l) (he:∀ l,AQ β d.cs l→AQ (A9 β [k,t] 2) e l):Ex.Good (A9 β [k,t] 2) [(0,some ⟨b.ty,c,b.opn⟩),(1,some ⟨d.ty,e,d.opn⟩)] w:=by
 refine XF (ρ:=[k,t]) (bs:=[⟨b.ty,c,b.opn⟩,⟨d.ty,e,d.opn⟩]) g (fun j z hj=>?_) fun i j z hi hr hij hj=>?_
 ·match j,hj with
  | 0,hj=>injection hj with hj;subst hj;exact ⟨b,hk,.inr ⟨rfl,rfl⟩,hc⟩
  | 1,hj=>injection hj with hj;subst hj;exact ⟨d,ht,.inr ⟨rfl,rfl⟩,he⟩
 ·match i,j,hi,hj,hij with
  | 0,1,_,_,_=>exact iq
  | 1,0,_,_,_=>exact iq.symm
  | 0,0,_,_,q=>exact absurd rfl q
  | 1,1,_,_,q=>exact absurd rfl q
theorem XG {β0:Env} {w0:World} {W:List Nat} {v:AV} {j:Nat} {ty:TypeId} {o:Bool} {c c':List Ch} (hc:∀ (β:Env) l,AQ β c l→AQ β c' l) {e:Ending} {w:World} (h:A_ β0 w0 W v [(j,some ⟨ty,c,o⟩)] e w):A_ β0 w0 W v [(j,some ⟨ty,c',o⟩)] e w:=by
 obtain ⟨u,β,h1,h2⟩:=h;have hg:∀ b blk,AG [(j,some (⟨ty,c',o⟩:gt))] b=some blk→b=j∧blk=⟨ty,c',o⟩∧AG [(j,some (⟨ty,c,o⟩:gt))] b=some ⟨ty,c,o⟩:=by
  intro b blk hb;simp only [AG] at hb ⊢;split at hb
  ·rename_i hbj;injection hb with hb;exact ⟨(Ar.1 hbj).symm,hb.symm,rfl⟩
  ·cases hb
 refine ⟨u,β,h1,{ h2 with good:=⟨fun b blk hb=>?_,fun b b' B n n' q1 q2 q3 q4=>?_,h2.good.lt⟩ }⟩
 ·obtain ⟨e1,e2,e3⟩:=hg b blk hb;subst e2;exact UJ (d:=⟨ty,c',o⟩) (h2.good.heap b _ e3) rfl (.inr ⟨rfl,rfl⟩) (hc β)
 ·obtain ⟨x,hx,_⟩:=GZ q1;obtain ⟨y,hy⟩:=lj.1 q2;rw [(hg b x hx).1,(hg b' y hy).1]
def C0 (x:Int) (y T:Nat):Nat→Int
 | 0=>0
 | i+1=>mW (mW (Jw x (AF y i)+DX (FI x (AF y i)) (C0 x y T i) 0)+DX (AF T i) (CX (FI x (AF y i)) (C0 x y T i) 0) 0)
def B4 (x:Int) (y T i:Nat):Int:=CX (AF T i) (CX (FI x (AF y i)) (C0 x y T i) 0) 0
def PW (x:Int) (y T:Nat):Int:=CX (AF T 6) (C0 x y T 6) 0
def UK (x:Int) (y T:Nat):Int:=mW (AF T 7+DX (AF T 6) (C0 x y T 6) 0)
theorem ADX {a T c:Int} (ha:0≤a∧a≤340282366920938463426481119284349108225) (hT:0≤T∧T<18446744073709551616) (hc:0≤c∧c<18446744073709551616) :
  a+T+c=CX T (CX (a % 18446744073709551616) c 0) 0+18446744073709551616*mW (mW (a / 18446744073709551616+DX (a % 18446744073709551616) c 0)+DX T (CX (a % 18446744073709551616) c 0) 0) ∧
  (0≤mW (mW (a / 18446744073709551616+DX (a % 18446744073709551616) c 0)+DX T (CX (a % 18446744073709551616) c 0) 0)∧mW (mW (a / 18446744073709551616+DX (a % 18446744073709551616) c 0)+DX T (CX (a % 18446744073709551616) c 0) 0)<18446744073709551616):=by
 simp only [F4];unfold CX DX;omega
theorem qK {x y:Int} (hx:0≤x∧x<18446744073709551616) (hy:0≤y∧y<18446744073709551616):0≤x*y∧x*y≤340282366920938463426481119284349108225:=by
 refine ⟨Int.mul_nonneg hx.1 hy.1,?_⟩
 have:=Int.mul_le_mul (show x≤18446744073709551615 by omega) (show y≤18446744073709551615 by omega) hy.1 dl
 omega
theorem qL {x:Int} (hx:0≤x∧x<18446744073709551616) (y T:Nat):∀ i,0≤C0 x y T i∧C0 x y T i<18446744073709551616
 | 0=>by simp [C0]
 | i+1=>(ADX (qK hx (B3 y i)) (B3 T i) (qL hx y T i)).2
theorem RP {x:Int} (hx:0≤x∧x<18446744073709551616) (y T i:Nat):x*AF y i+AF T i+C0 x y T i=B4 x y T i+18446744073709551616*C0 x y T (i+1) :=
 (ADX (qK hx (B3 y i)) (B3 T i) (qL hx y T i)).1
def R8:Nat:=13407807929942597099574024998205846127479365820592393377723561443721764030073546976801874298166903427690031858186486050853753882811946569946433649006084096
theorem ADY:R8=2^(64*8):=dj
def Ht (T:Nat) (x:Int) (y:Nat):Nat:=(T+x.toNat*y) % R8
def Ma (x:Int) (y T:Nat):dn:=[B4 x y T 0,B4 x y T 1,B4 x y T 2,B4 x y T 3,B4 x y T 4,B4 x y T 5,PW x y T,UK x y T]
def XH (x:Int) (y T:Nat):dn:=[B4 x y T 1,B4 x y T 2,B4 x y T 3,B4 x y T 4,B4 x y T 5,PW x y T,UK x y T,0]
theorem AOu {x:Int} (hx:0≤x∧x<18446744073709551616) {y T:Nat} (hy:y<RR) (hT:T<R8) :
  ((Ht T x y:Nat):Int)=Bo (Ma x y T)∧((Ht T x y / 18446744073709551616:Nat):Int)=Bo (XH x y T):=by
 have e0:x*AF y 0+AF T 0+C0 x y T 0=B4 x y T 0+18446744073709551616*C0 x y T 1:=RP hx y T 0
 have e1:x*AF y 1+AF T 1+C0 x y T 1=B4 x y T 1+18446744073709551616*C0 x y T 2:=RP hx y T 1
 have e2:x*AF y 2+AF T 2+C0 x y T 2=B4 x y T 2+18446744073709551616*C0 x y T 3:=RP hx y T 2
 have e3:x*AF y 3+AF T 3+C0 x y T 3=B4 x y T 3+18446744073709551616*C0 x y T 4:=RP hx y T 3
 have e4:x*AF y 4+AF T 4+C0 x y T 4=B4 x y T 4+18446744073709551616*C0 x y T 5:=RP hx y T 4
 have e5:x*AF y 5+AF T 5+C0 x y T 5=B4 x y T 5+18446744073709551616*C0 x y T 6:=RP hx y T 5
 have z:C0 x y T 0=0:=rfl
 have c6:=qL hx y T 6;have t6:=B3 T 6;have t7:=B3 T 7;have e6:AF T 6+C0 x y T 6=PW x y T+18446744073709551616*DX (AF T 6) (C0 x y T 6) 0:=by unfold PW CX DX;omega
 have b0:0≤B4 x y T 0∧B4 x y T 0<18446744073709551616:=by unfold B4 CX;omega
 have b1:0≤B4 x y T 1∧B4 x y T 1<18446744073709551616:=by unfold B4 CX;omega
 have b2:0≤B4 x y T 2∧B4 x y T 2<18446744073709551616:=by unfold B4 CX;omega
 have b3:0≤B4 x y T 3∧B4 x y T 3<18446744073709551616:=by unfold B4 CX;omega
 have b4:0≤B4 x y T 4∧B4 x y T 4<18446744073709551616:=by unfold B4 CX;omega
 have b5:0≤B4 x y T 5∧B4 x y T 5<18446744073709551616:=by unfold B4 CX;omega
 have b6:0≤PW x y T∧PW x y T<18446744073709551616:=by unfold PW CX;omega
 have e7:UK x y T=(AF T 7+DX (AF T 6) (C0 x y T 6) 0) % 18446744073709551616:=F4 _
 have dT:=XD 8 T (by rw [← ADY];exact hT)
 have dy:=XD 6 y (by rw [← DV];exact hy)
 have dT':Bo [AF T 0,AF T 1,AF T 2,AF T 3,AF T 4,AF T 5,AF T 6,AF T 7]=T:=dT
 have dy':Bo [AF y 0,AF y 1,AF y 2,AF y 3,AF y 4,AF y 5]=y:=dy
 have em:x*(y:Int)=Bo [x*AF y 0,x*AF y 1,x*AF y 2,x*AF y 3,x*AF y 4,x*AF y 5]:=by
  rw [← dy'];simp only [Bo,ql,Int.mul_zero,Int.mul_left_comm x 18446744073709551616]
 have key:((T+x.toNat*y:Nat):Int)=Bo (Ma x y T)+(R8:Nat)*((AF T 7+DX (AF T 6) (C0 x y T 6) 0) / 18446744073709551616):=by
  have:((x.toNat*y:Nat):Int)=x*y:=by rw [kz,ud hx.1]
  rw [qd,this,em,← dT'];clear em this dT dy dT' dy';generalize x*AF y 0=q0 at *
  generalize x*AF y 1=q1 at *
  generalize x*AF y 2=q2 at *
  generalize x*AF y 3=q3 at *
  generalize x*AF y 4=q4 at *
  generalize x*AF y 5=q5 at *
  generalize DX (AF T 6) (C0 x y T 6) 0=o at *
  unfold Ma R8;simp only [Bo];omega
 have hbd:0≤Bo (Ma x y T)∧Bo (Ma x y T)<(R8:Nat):=by
  have b7:0≤UK x y T∧UK x y T<18446744073709551616:=dk
  clear key em dT dy dT' dy' e0 e1 e2 e3 e4 e5 e6 e7;unfold Ma R8;simp only [Bo];omega
 have h0:((Ht T x y:Nat):Int)=Bo (Ma x y T):=by
  unfold Ht;rw [Int.natCast_emod,key,Int.add_mul_emod_self_left,Int.emod_eq_of_lt hbd.1 hbd.2]
 refine ⟨h0,?_⟩
 rw [ri,h0];have:Bo (Ma x y T)=B4 x y T 0+18446744073709551616*Bo (XH x y T):=by
  unfold Ma XH;simp only [Bo];omega
 omega
def PX (y T:Nat):Heap:=[(0,some ⟨40,[.num 6 y],false⟩),(1,some ⟨186,[.num 8 T],false⟩)]
def PY (x s:Int):List AV:=[.val false [.v (.int .u64 x)],.val false [.p 0 0],.val false [.n .i64 s],.val false [.p 1 0]]
def Jy:Nat→dp
 | 0=>[]
 | n+1=>(true,true)::Jy n
theorem PZ:∀ n,AO (Jy n)
 | 0=>trivial
 | n+1=>⟨rfl,PZ n⟩
theorem AOv (x:Int) (y T:Nat):AT dm (AH S5 K0) f202 600 2 [1] (Aj f202 (PY x 0) (PX y T) 2 []) =
 some (Jy 15,[1],.tup [],[(1,some ⟨186,MZ (Ma x y T),false⟩)]):=dj
def nv:Ch→Ch
 | .n k i=>.v (.int k i)
 | c=>c
theorem AOw {β:Env} {c:Ch} {l:List Value} (h:BM β c l):BM β (nv c) l:=by
 cases c<;>try exact h
 exact ⟨h.1,rfl,h.2⟩
theorem XI {β:Env}:∀ {cs:List Ch} {l:List Value},AQ β cs l→AQ β (cs.map nv) l
 | [],_,h=>h
 | _::_,_,⟨l1,l2,h1,h2,h3⟩=>⟨l1,l2,AOw h1,XI h2,h3⟩
def ADZ (x:Int) (y T:Nat):List Ch:=[.v (.int .u64 (B4 x y T 1)),.v (.int .u64 (B4 x y T 2)),.v (.int .u64 (B4 x y T 3)),.v (.int .u64 (B4 x y T 4)),.v (.int .u64 (B4 x y T 5)),.v (.int .u64 (PW x y T)),.v (.int .u64 (UK x y T)),.n .u64 0]
theorem AOx (x:Int) (y T:Nat):AT dm (AH S5 K0) f202 600 2 [1] (Aj f202 (PY x 1) (PX y T) 2 []) =
 some (Jy 15,[1],.tup [],[(1,some ⟨186,ADZ x y T,false⟩)]):=dj
theorem AOy (x:Int) (y T:Nat):MZ (XH x y T)=(ADZ x y T).map nv:=rfl
def XJ (T:Nat):Heap:=[(1,some ⟨186,[.num 8 T],false⟩)]
theorem ADa {x:Int} (hx:0≤x∧x<18446744073709551616) {y T:Nat} (hy:y<RR) (hT:T<R8) :
  Ab dm 202 (PY x 0) (PX y T) 2 [1] (.tup []) (XJ (Ht T x y))∧Ab dm 202 (PY x 1) (PX y T) 2 [1] (.tup []) (XJ (Ht T x y / 18446744073709551616)):=by
 obtain ⟨h0,h1⟩:=AOu hx hy hT;constructor
 ·intro β us w ha hg hf;have:=A7 func202 dj (ic:=PY x 0) (H0:=PX y T) (k0:=2) (gv:=[]) (W:=[1]) dj (fun β0 w0 hb=>Ay (AJ bD Ae) AB func202 (AOv x y T) (PZ _) (AS dj) hb (fun _ h=>h)) β us w ha hg hf
  exact Calls.mono this fun e w' h=>XG (fun _ _ hr=>bG h0 hr) h
 ·intro β us w ha hg hf;have:=A7 func202 dj (ic:=PY x 1) (H0:=PX y T) (k0:=2) (gv:=[]) (W:=[1]) dj (fun β0 w0 hb=>Ay (AJ bD Ae) AB func202 (AOx x y T) (PZ _) (AS dj) hb (fun _ h=>h)) β us w ha hg hf
  exact Calls.mono this fun e w' h=>XG (fun _ _ hr=>bG (ds:=XH x y T) h1 (by rw [AOy];exact XI hr)) h
def qN (k t fr:Nat) (T:Nat) (gv:List Bool):R:=BR [k,t] 2 fr 0 [1] (.tup []) (XJ T) [] gv
def stepSpec:ASpec:=fun args H fr gv =>
 match args with
 | [X,.val false [.p k 0],.val false [.n .i64 s],.val false [.p t 0]]=>match Bv (some X),AG H k,AG H t with
  | some (_,.u64,x),some ⟨ty1,c1,false⟩,some ⟨ty2,c2,false⟩=>match Nat.beq ty1 40,Nat.beq ty2 186,DL 6 c1,DL 8 c2,Nat.beq k t with
   | true,true,some y,some T,false=>match s with
    | .ofNat 0=>some (qN k t fr (Ht T x y) gv)
    | .ofNat 1=>some (qN k t fr (Ht T x y / 18446744073709551616) gv)
    | _=>none
   | _,_,_,_,_=>none
  | _,_,_=>none
 | _=>none
theorem Jz {β:Env} {H:Heap} {w:World} {k:Nat} {b:gt} (g:Ex.Good β H w) (h:AG H k=some b):∃ l,AQ β b.cs l:=by
 rcases g.heap k b h with ⟨_,_,l,_,_,_,_,_,h,_⟩ | ⟨_,_,_,h⟩ | ⟨_,l,_,_,_,_,h,_⟩
 ·exact ⟨l,h⟩
 ·exact ⟨_,h⟩
 ·exact ⟨_,h⟩
theorem AOz:BJ dm 202 stepSpec:=by
 refine HH func202 dj dj fun args H fr gv r h=>?_
 unfold stepSpec at h;split at h;case h_2=>cases h
 rename_i X k s t;split at h;case h_2=>cases h
 rename_i c0 x ty1 c1 ty2 c2 hX hk ht;split at h;case h_2=>cases h
 rename_i y T q1 q2 hy hT iq;have q1':=Ar.1 q1;have q2':=Ar.1 q2;subst q1';subst q2';have hne':k≠t:=fun e=>by subst e;rw [Ar.2 rfl] at iq;cases iq
 have core:∀ (v:Nat) (r:R),r=qN k t fr v gv→(∀ (hx:0≤x∧x<18446744073709551616) (_:y<RR) (_:T<R8),Ab dm 202 (PY x s) (PX y T) 2 [1] (.tup []) (XJ v))→∃ (ρ:List Nat) (ic:List AV) (H0:Heap) (k0 nw:Nat) (W:List Nat) (val:AV) (H1:Heap) (conds:dp) (path':List Bool),
   r=BR ρ k0 fr nw W val H1 conds path'∧(∀ β us w,BI β [X,.val false [.p k 0],.val false [.n .i64 s],.val false [.p t 0]] us→Ex.Good β H w→AO conds→Ab dm 202 ic H0 k0 W val H1∧EU k0 nw W val H1=true∧BI (A9 β ρ k0) ic us∧Ex.Good (A9 β ρ k0) H0 w∧(∀ k,k<k0→∃ X,β (nth ρ k)=some X)):=by
  intro v r hr hc;refine ⟨[k,t],PY x s,PX y T,2,0,[1],.tup [],XJ v,[],gv,hr,fun β us w ha hg _=>?_⟩
  obtain ⟨u1,iu,r1,⟨u2,iw,r2,⟨u3,us3,r3,⟨u4,us4,r4,ha,rfl⟩,rfl⟩,rfl⟩,rfl⟩:=ha;obtain ⟨rfl,p1⟩:=DJ (β:=β) (u:=u1) (fm r1) hX
  obtain ⟨l1,g1⟩:=Jz hg hk;obtain ⟨l2,g2⟩:=Jz hg ht;refine ⟨hc (ES p1) (by rw [DV];exact (Hm hy g1).2) (by rw [ADY];exact (Hm hT g2).2),dj,⟨_,_,Aw ⟨rfl,rfl,p1⟩,⟨u2,_,?_,⟨u3,_,?_,⟨u4,us4,?_,ha,rfl⟩,rfl⟩,rfl⟩,rfl⟩,ADW hg hk ht hne' (fun l h=>GQ hy h) (fun l h=>GQ hT h),fun j hj=>?_⟩
  ·exact r2
  ·exact r3
  ·exact r4
  ·match j,hj with
   | 0,_=>exact CS (hg.heap _ _ hk)
   | 1,_=>exact CS (hg.heap _ _ ht)
 split at h
 ·injection h with h;exact core _ _ h.symm fun a b c=>(ADa a b c).1
 ·injection h with h;exact core _ _ h.symm fun a b c=>(ADa a b c).2
 ·cases h
def S6:dr:=(202,stepSpec)::S5
theorem qO:AW dm S6:=⟨AOz,bD⟩
def mP:Int:=0x89f3fffcfffcfffd
def XK (T:Nat) (x:Int) (b:Nat):Nat:=Ht (Ht T x b) (mW (AF (Ht T x b) 0*mP)) pN / 18446744073709551616
def LG (a b:Nat):Nat→Nat
 | 0=>0
 | i+1=>XK (LG a b i) (AF a i) b
def qP (T:Nat):Nat:=JE (PU (AF T 0) (AF T 1) (AF T 2) (AF T 3) (AF T 4) (AF T 5)) (AF T 6).toNat
theorem AO0 (x y:Nat):AM dm (AH S6 K0) f135 [Aa x,Aa y] [] 3000=some (Jy 2,Aa (qP (LG x y 6))):=dj
def RI:Nat:=3231460744492646417066832100176244795738767926513225105051837195607029917124509527734802654356338138714468589979680
theorem ADb:RR*RI % pN=1:=dj
theorem qQ (x i:Nat):(AF x i).toNat=x / 2^(64*i) % 2^64:=by unfold AF;omega
theorem AO1:0x89f3fffcfffcfffd*pN % 18446744073709551616=18446744073709551615:=dj
theorem AO2 {s q:Nat} (h:q % 18446744073709551616=s % 18446744073709551616*18446744073709551615 % 18446744073709551616):(s+q) % 18446744073709551616=0:=dk
theorem AO3 (s:Nat):(s+(s % 18446744073709551616*0x89f3fffcfffcfffd % 18446744073709551616)*pN) % 18446744073709551616=0:=by
 apply AO2
 rw [qa,kx,kj (s % 18446744073709551616) (0x89f3fffcfffcfffd*pN),AO1,m_]
theorem RQ (n:Nat):mW (n:Int)=((n % 18446744073709551616:Nat):Int):=by rw [F4];omega
theorem AO4 {T:Nat} {x:Int} {b:Nat} (hx:0≤x∧x<18446744073709551616) (hb:b<pN) (hT:T<b+pN):∃ m,XK T x b*18446744073709551616=T+x.toNat*b+m*pN∧XK T x b<b+pN:=by
 have hp:pN+pN<RR:=RO
 have hx2:x.toNat≤18446744073709551615:=dk
 have h1:x.toNat*b≤18446744073709551615*b:=me b hx2
 have s1:Ht T x b=T+x.toNat*b:=by
  unfold Ht;refine jk ?_
  unfold RR at hp;unfold R8;omega
 have hm:(mW (AF (T+x.toNat*b) 0*mP)).toNat=(T+x.toNat*b) % 18446744073709551616*0x89f3fffcfffcfffd % 18446744073709551616:=by
  have e1:AF (T+x.toNat*b) 0=(((T+x.toNat*b) % 18446744073709551616:Nat):Int):=by
   simp only [AF,ll,kf,ko]
  have e2:mP=((0x89f3fffcfffcfffd:Nat):Int):=rfl
  rw [e1,e2,← kz,RQ,jn]
 have hz:=AO3 (T+x.toNat*b)
 unfold XK;rw [s1];have h2:Ht (T+x.toNat*b) (mW (AF (T+x.toNat*b) 0*mP)) pN=T+x.toNat*b+(T+x.toNat*b) % 18446744073709551616*0x89f3fffcfffcfffd % 18446744073709551616*pN:=by
  unfold Ht;rw [hm];refine jk ?_
  have h3:(T+x.toNat*b) % 18446744073709551616*0x89f3fffcfffcfffd % 18446744073709551616≤18446744073709551615:=dk
  have h4:=me pN h3;unfold RR at hp;unfold R8;omega
 rw [h2];refine ⟨(T+x.toNat*b) % 18446744073709551616*0x89f3fffcfffcfffd % 18446744073709551616,?_,?_⟩
 ·omega
 ·have h3:(T+x.toNat*b) % 18446744073709551616*0x89f3fffcfffcfffd % 18446744073709551616≤18446744073709551615:=dk
  have h4:=me pN h3;generalize (T+x.toNat*b) % 18446744073709551616*0x89f3fffcfffcfffd % 18446744073709551616*pN=q at *
  generalize x.toNat*b=r at *
  omega
theorem ADc {a b:Nat} (hb:b<pN):∀ i,∃ k,LG a b i*2^(64*i)=a % 2^(64*i)*b+k*pN∧LG a b i<b+pN
 | 0=>⟨0,by simp [LG,Nat.mod_one],by have:=DB;simp only [LG];omega⟩
 | i+1=>by
  obtain ⟨k,h1,h2⟩:=ADc (a:=a) hb i
  obtain ⟨m,h3,h4⟩:=AO4 (ES (Zg a i)) hb h2
  refine ⟨k+m*2^(64*i),?_,h4⟩
  rw [qQ] at h3;have e:2^(64*(i+1))=18446744073709551616*2^(64*i):=by rw [show 64*(i+1)=64+64*i by omega,jr]
  have e2:a % 2^(64*(i+1))=a % 2^(64*i)+2^(64*i)*(a / 2^(64*i) % 2^64):=by
   rw [show 64*(i+1)=64*i+64 by omega,jr,Nat.mod_mul]
  rw [e2,e];show XK (LG a b i) (AF a i) b*_=_;rw [← kx,h3,k_,k_,h1,k_,k_];rw [rp (a / 2^(64*i) % 2^64) b,jy (a / 2^(64*i) % 2^64) (2^(64*i)),rp m pN];omega
def EW (x y:Nat):Nat:=qP (LG x y 6)
theorem ADd {x:Nat} (h:x<RR):PU (AF x 0) (AF x 1) (AF x 2) (AF x 3) (AF x 4) (AF x 5)=x:=by
 have h1:=RM (x:=x) (by rw [← DV];exact h)
 have h2:=(a9 (B3 x 0) (B3 x 1) (B3 x 2) (B3 x 3) (B3 x 4) (B3 x 5)).1
 omega
theorem UL {x y:Nat} (hx:x<RR) (hy:y<pN):EW x y=x*y*RI % pN:=by
 obtain ⟨k,h1,h2⟩:=ADc (a:=x) hy 6
 have hp:=RO;have ik:LG x y 6<RR:=dk
 unfold EW qP;rw [ADd ik,qQ,← DV] at *
 have e6:LG x y 6 / RR=0:=lm ik
 rw [e6,oz,qJ dk]
 try rw [jk hx] at h1
 have h3:LG x y 6*RR*RI % pN=x*y*RI % pN:=by
  rw [h1,k_,rp k pN,Nat.add_mul_mod_self_right]
 rw [← h3,kx,kj,ADb,kb,m_]
theorem AO5 (x y:Nat):AU dm 135 [Aa x,Aa y] (Aa (EW x y)):=AP (AJ qO Ae) AB func135 (AO0 x y) (PZ _) rfl
def JF:Nat:=2708263910654730174793787626328176511836455197166317677006154293982164122222515399004018013397331347120527951271750
theorem AO6:AM dm (AH S6 K0) f136 [] [] 100=some ([],.val true [.n .u64 0xf4df1f341c341746,.n .u64 0xa76e6a609d104f1,.n .u64 0x8de5476c4c95b6d5,.n .u64 0x67eb88a9939d83c0,.n .u64 0x9a793e85b519952d,.n .u64 0x11988fe592cae3aa]):=dj
theorem RS {f:FuncId} {v v':AV} (h:AU dm f [] v) (hv:∀ u,AN CE v u→AN CE v' u):∀ args w,(match args with | []=>some v' | _=>none)=some w→AU dm f args w:=by
 intro args w hs;split at hs
 ·injection hs with hs;subst hs;intro us w ha;refine Calls.mono (h us w ha) ?_
  rintro e w' ⟨u,h1,h2,h3⟩
  exact ⟨u,h1,hv u h2,h3⟩
 ·cases hs
theorem AO7:AU dm 136 [] (.val true [.n .u64 0xf4df1f341c341746,.n .u64 0xa76e6a609d104f1,.n .u64 0x8de5476c4c95b6d5,.n .u64 0x67eb88a9939d83c0,.n .u64 0x9a793e85b519952d,.n .u64 0x11988fe592cae3aa]):=AP (AJ qO Ae) AB func136 AO6 trivial rfl
theorem XL {β:Env} {a:List Ch} {x:Nat} (h:DL 6 a=some x) {u:Value} (hr:AN β (.val true a) u):AN β (Aa x) u:=(Nl h hr).1
def S7:dr:=(136,Ac fun args=>match args with | []=>some (Aa JF) | _=>none)::(135,Ac (LD fun x y=>Aa (EW x y)))::S6
theorem ADe:AW dm S7:=⟨Ad func136 dj dj (RS AO7 fun u h=>XL dj h),Ad func135 dj dj (Np fun x y _ _=>AO5 x y),qO⟩
theorem AO8 (x y:Nat):AM dm (AH S7 K0) f62 [Aa x,Aa y] [] 300=some ([],Aa (EW (EW (x % pN) (y % pN)) JF)):=dj
def Ah (x y:Nat):Nat:=x*y % pN
theorem AO9:JF*RI % pN*RI % pN=1:=dj
theorem ADf:JF<pN:=dl
theorem AO_ {x y:Nat} (hx:x<RR) (hy:y<pN):EW x y<pN:=by rw [UL hx hy];exact jw _ DB
theorem AO' (x y:Nat):EW (EW (x % pN) (y % pN)) JF=Ah x y:=by
 have h1:=LE x;have h2:=Hs y;have h3:=AO_ h1 h2;rw [UL (mv h3 dl) ADf,UL h1 h2];unfold Ah;have:=AO9
 rw [qa] at this;rw [kx,qa,show x % pN*(y % pN)*RI*(JF*RI)=(x % pN*(y % pN))*(JF*RI*RI) by simp only [jy,mj],kj,this,kb,m_,← kj]
theorem ADg (x y:Nat):AU dm 62 [Aa x,Aa y] (Aa (Ah x y)):=by
 rw [← AO'];exact AP (AJ ADe Ae) AB func62 (AO8 x y) trivial rfl
def S8:dr:=(62,Ac (LD fun x y=>Aa (Ah x y)))::S7
theorem XM:AW dm S8:=⟨Ad func62 dj dj (Np fun x y _ _=>ADg x y),ADe⟩
abbrev dw:List Bool:=[true,true]
abbrev d_:List Bool:=[true,false]
open Ex
set_option maxRecDepth 100000
set_option maxHeartbeats 4000000
def wI (z:Int):Int:=IntKind.i64.wrap z
theorem Au {z:Int} (h:-9223372036854775808≤z∧z≤9223372036854775807):wI z=z:=by unfold wI;rw [IntKind.wrap_i64];omega
def JG (v s:Int):Int:=bits .and .u64 (Int.fdiv v (2^min s.toNat 64)) 1
theorem XN (v s:Nat) (hv:v<18446744073709551616) (hs:s<64):JG v s=((v / 2^s % 2:Nat):Int):=by
 unfold JG;rw [jn,mc dk,qm _ (by exact_mod_cast qi (2^s))]
 have e:((v:Int) / 2^s)=((v / 2^s:Nat):Int):=by
  rw [ri,p_];rfl
 rw [e];have ik:v / 2^s<18446744073709551616:=pr (qn _ _) hv
 have h:=(bits_nat .u64 64 dl (fun n h0 h1=>by rw [IntKind.wrap_u64];omega) (v / 2^s) 1 dk dl).1
 refine Eq.trans h ?_
 rw [Nat.and_one_is_mod]
def AK:dn→Nat
 | []=>0
 | d::r=>d.toNat+18446744073709551616*AK r
theorem XO:∀ (ws:dn) (j:Nat),(∀ d∈ws,0≤d∧d<18446744073709551616)→AK ws / 2^(64*j) % 2^64=(ws.getD j 0).toNat
 | [],j,_=>by simp [AK]
 | d::r,0,h=>by
  have:=h d (by simp)
  simp only [AK,ll,kf,ko,List.getD_cons_zero];omega
 | d::r,j+1,h=>by
  have hd:=h d (by simp)
  have ih:=XO r j fun d h'=>h d (by simp [h'])
  rw [show 64*(j+1)=64+64*j by omega,jr,← kw]
  have:AK (d::r) / 2^64=AK r:=by simp only [AK];omega
  rw [this,ih];rfl
theorem JH:∀ (ws:dn),(∀ d∈ws,0≤d∧d<18446744073709551616)→AK ws<2^(64*ws.length)
 | [],_=>by simp [AK]
 | d::r,h=>by
  have hd:=h d (by simp)
  have ih:=JH r fun d h'=>h d (by simp [h'])
  rw [kp,show 64*(r.length+1)=64+64*r.length by omega,jr]
  simp only [AK];generalize 2^(64*r.length)=Q at *
  omega
theorem XP (ws:dn) (i:Nat) (h:∀ d∈ws,0≤d∧d<18446744073709551616):(ws.getD (i / 64) 0).toNat / 2^(i % 64) % 2=AK ws / 2^i % 2:=by
 rw [← XO ws (i / 64) h];have e:2^64=2^(i % 64)*2^(64-i % 64):=by rw [← jr];congr 1;omega
 rw [e,Nat.mod_mul_right_div_self,kw,← jr,show 64*(i / 64)+i % 64=i by omega]
 refine uo _ ?_
 have:64-i % 64=(63-i % 64)+1:=dk
 rw [this,kt];exact Nat.dvd_mul_left _ _
def HJ (y:Nat):Nat:=y*RR % pN
theorem qS (y:Nat):HJ y<pN:=jw _ DB
theorem ADh:∀ y,y*(RR*RI) % pN=y % pN:=fun y=>by rw [kj,ADb,kb,m_]
theorem qU (a b:Nat):EW (HJ a) (HJ b)=HJ (a*b):=by
 rw [UL (mv (qS a) dl) (qS b)];unfold HJ;rw [kx,qa,mj,qa,← kx,show b*RR*(a*RR)*RI=a*b*RR*(RR*RI) by simp only [jy,mj],ADh]
theorem APA:JF*RI % pN=RR % pN:=dj
theorem ADi {x:Nat} (hx:x<RR):EW x JF=HJ x:=by
 rw [UL hx ADf,kx,kj,APA,← kj];rfl
theorem APB (y:Nat):EW (HJ y) 1=y % pN:=by
 rw [UL (mv (qS y) dl) dl,kb];unfold HJ;rw [qa,kx,ADh]
theorem APC (y:Nat):HJ (y % pN)=HJ y:=by unfold HJ;rw [qa]
noncomputable def APD:List Item:=CB (AY dm (AH S8 K0) (some 0) 100 1 (some ([1,4,5,6,7],[0,2,3,4],5)) (Aj f130 [Aa 0,.val false [.sl 0 0 0 0]] [(0,some ⟨0,[.seq .u64 []],false⟩)] 1 []))
noncomputable def APE (gu n m:Nat) (i:Int):List AV:=.any::.val false [.sl 0 gu n m]::.any::.any::.val false [.p 2 0]::.val false [.p 3 0]::.val false [.p 4 0]::.val false [.v (.int .i64 i)]::List.replicate (f130.ntmps-8) .any
noncomputable def Nq (gu n m:Nat) (xs:dn) (b acc:Nat) (i:Int) (gv:List Bool):gq:=⟨APD,⟨APE gu n m i,
 [(0,some (Ak [.seq .u64 xs])),(2,some ⟨40,Hr,false⟩),(3,some ⟨40,[.num 6 b],false⟩),(4,some ⟨40,[.num 6 acc],false⟩)],5,gv⟩⟩
def Nr (x gu n m:Nat):List AV:=[Aa x,.val false [.sl 0 gu n m]]
def BG (xs:dn):Heap:=[(0,some (Ak [.seq .u64 xs]))]
theorem APF (x gu n m:Nat) (xs:dn):AY dm (AH S8 K0) (some 0) 100 1 (some ([1,4,5,6,7],[0,2,3,4],5)) (Aj f130 (Nr x gu n m) (BG xs) 1 []) =
 some ([(AL .i64 n,true)],[],Nq gu n m xs (EW (x % pN) JF) (EW 1 JF) (wI (wI (64*(n:Int))-1)) []):=dj
def CY (xs:dn) (gu:Nat) (i:Int):Int:=xs.getD (gu+(wI (Int.tdiv i 64)).toNat*1) 0
def qV (gu n:Nat) (xs:dn) (i:Int) (bit:Bool):dp:=[(decide (0≤i),true),(true,true),(decide (0≤wI (Int.tdiv i 64)∧wI (Int.tdiv i 64)<n),true),
 (decide (gu+(wI (Int.tdiv i 64)).toNat*1<xs.length),true),(decide (0≤i∧(0:Int)<64),true),(decide (0≤Int.tmod i 64∧0≤CY xs gu i),true),(decide (JG (CY xs gu i) (Int.tmod i 64)=1),bit)]
theorem pow_one (gu n m b acc:Nat) (xs:dn) (i:Int):AY dm (AH S8 K0) (some 0) 100 1 (some ([1,4,5,6,7],[0,2,3,4],5)) (Nq gu n m xs b acc i dw) =
 some (qV gu n xs i true,[],Nq gu n m xs b (EW (EW acc acc) b) (wI (i-1)) []):=dj
theorem pow_zero (gu n m b acc:Nat) (xs:dn) (i:Int):AY dm (AH S8 K0) (some 0) 100 1 (some ([1,4,5,6,7],[0,2,3,4],5)) (Nq gu n m xs b acc i d_) =
 some (qV gu n xs i false,[],Nq gu n m xs b (EW acc acc) (wI (i-1)) []):=dj
theorem APG (gu n m b acc:Nat) (xs:dn) (i:Int):AT dm (AH S8 K0) f130 100 1 [] (Nq gu n m xs b acc i dt) =
 some ([(decide (0≤i),false)],[],Aa (EW acc 1),[]):=dj
theorem qW (gu n m b acc:Nat) (xs:dn) (i:Int) (p:List Bool):Be f130.ntmps (Nq gu n m xs b acc i p).s:=AS dj
theorem ADj (x E:Nat):∃ y,y=x^E % pN:=⟨_,rfl⟩
noncomputable def DD (x E:Nat):Nat:=Classical.choose (ADj x E)
theorem LI (x E:Nat):DD x E=x^E % pN:=kq (ADj x E)
def Hu (x E c:Nat):Nat:=HJ (x^(E / 2^c))
theorem JI {xs:dn} {gu n:Nat} {j:Nat} (hj:j<n):((xs.drop gu).take n).getD j 0=xs.getD (gu+j) 0:=by
 rw [j_,j_,qz hj,qk]
section
variable {gu n m:Nat} {xs:dn} (g_:∀ d∈xs,0≤d∧d<18446744073709551616) (gx:gu+n≤xs.length) (hn:n≤1125899906842624) {x:Nat} {β0:Env} {w0:World} (hb:∀ b,1≤b→β0 b=none)
include g_ gx hn hb
theorem APH:∀ c,c≤64*n→gn dm 130 β0 w0 (A_ β0 w0 [] (Aa (DD x (AK ((xs.drop gu).take n)))) []) f130.ntmps [] (Nq gu n m xs (HJ x) (Hu x (AK ((xs.drop gu).take n)) c) ((c:Int)-1) []):=by
 intro c;induction c with
 | zero =>
  intro _;have h:gn dm 130 β0 w0 (A_ β0 w0 [] (Aa (EW (Hu x (AK ((xs.drop gu).take n)) 0) 1)) []) f130.ntmps [] (Nq gu n m xs (HJ x) (Hu x (AK ((xs.drop gu).take n)) 0) (((0:Nat):Int)-1) dt) :=
   Ay (AJ XM Ae) AB func130 (APG ..) ⟨rfl,trivial⟩ (qW ..) hb jb
  rw [show EW (Hu x (AK ((xs.drop gu).take n)) 0) 1=DD x (AK ((xs.drop gu).take n)) from by unfold Hu;rw [LI,kf,ko,APB]] at h
  exact Af dt h
 | succ c ih =>
  intro hc;have hi:((c+1:Nat):Int)-1=(c:Int):=dk
  rw [hi];have ik:∀ d∈(xs.drop gu).take n,0≤d∧d<18446744073709551616:=fun d hd=>g_ d (om (pp hd))
  have hq:Int.tdiv (c:Int) 64=((c / 64:Nat):Int):=by rw [pv dk];rfl
  have hr:Int.tmod (c:Int) 64=((c % 64:Nat):Int):=by rw [oe dk];rfl
  have hw:wI (Int.tdiv (c:Int) 64)=((c / 64:Nat):Int):=by rw [hq];exact Au dk
  have hj:c / 64<n:=dk
  have hv:CY xs gu c=((xs.drop gu).take n).getD (c / 64) 0:=by
   unfold CY;rw [hw,jn,kb,JI hj]
  have hvb:0≤CY xs gu c∧CY xs gu c<18446744073709551616:=by
   rw [hv,j_];cases h:((xs.drop gu).take n)[c / 64]? with
   | none=>simp
   | some d=>exact ik d (ol h)
  have hbit:JG (CY xs gu c) (Int.tmod c 64)=((AK ((xs.drop gu).take n) / 2^c % 2:Nat):Int):=by
   obtain ⟨V,hV⟩:=ki hvb.1;rw [hr,← XP _ c ik,← hv,hV,jn];exact XN V _ dk dk
  have ij:wI ((c:Int)-1)=(c:Int)-1:=Au dk
  have ib:∀ bit,decide (JG (CY xs gu c) (Int.tmod c 64)=1)=bit→AO (qV gu n xs c bit):=by
   intro bit hbt;refine ⟨by simp,rfl,?_,?_,?_,?_,hbt,trivial⟩
   ·rw [hw];simp;omega
   ·rw [hw];simp;omega
   ·simp
   ·simp only [ji];rw [hr];exact ⟨dk,hvb.1⟩
  have hdiv:AK ((xs.drop gu).take n) / 2^c=2*(AK ((xs.drop gu).take n) / 2^(c+1))+AK ((xs.drop gu).take n) / 2^c % 2:=by
   rw [kt,← kw];omega
  have ihc:=ih dk;rcases nf (AK ((xs.drop gu).take n) / 2^c) with h0 | h1
  ·refine Af d_ (Ai (AJ XM Ae) AB (pow_zero ..) (ib false (by rw [hbit,h0];rfl)) (qW ..) hb jb fun _=>?_)
   rw [ij];have:EW (Hu x (AK ((xs.drop gu).take n)) (c+1)) (Hu x (AK ((xs.drop gu).take n)) (c+1))=Hu x (AK ((xs.drop gu).take n)) c:=by
    unfold Hu;rw [qU,← jr];congr 2;omega
   rw [this];exact ihc
  ·refine Af dw (Ai (AJ XM Ae) AB (pow_one ..) (ib true (by rw [hbit,h1];rfl)) (qW ..) hb jb fun _=>?_)
   rw [ij];have:EW (EW (Hu x (AK ((xs.drop gu).take n)) (c+1)) (Hu x (AK ((xs.drop gu).take n)) (c+1))) (HJ x)=Hu x (AK ((xs.drop gu).take n)) c:=by
    unfold Hu;rw [qU,← jr,qU,← kt];congr 2;omega
   rw [this];exact ihc
end
theorem ADk {gu n m:Nat} {xs:dn} (g_:∀ d∈xs,0≤d∧d<18446744073709551616) (gx:gu+n≤xs.length) (hn:n≤1125899906842624) (x:Nat) :
  Ab dm 130 (Nr x gu n m) (BG xs) 1 [] (Aa (DD x (AK ((xs.drop gu).take n)))) []:=by
 refine A7 (gv:=[]) func130 dj dj fun β0 w0 hb=>?_
 refine Ai (AJ XM Ae) AB (APF x gu n m xs) ⟨?_,trivial⟩ (AS dj) hb jb fun _=>?_
 ·simp only [AL,jm,ji];omega
 ·have h:=APH g_ gx hn (x:=x) (m:=m) (w0:=w0) hb (64*n) (jj _)
  have e1:EW (x % pN) JF=HJ x:=by rw [ADi (LE x),APC]
  have e2:EW 1 JF=Hu x (AK ((xs.drop gu).take n)) (64*n):=by
   rw [ADi dl];unfold Hu;have hl:AK ((xs.drop gu).take n)<2^(64*n):=by
    have:=JH ((xs.drop gu).take n) fun d hd=>g_ d (om (pp hd))
    rwa [ke,kv,mc dk] at this
   rw [lm hl,kf]
  have e3:wI (wI (64*(n:Int))-1)=((64*n:Nat):Int)-1:=by
   rw [Au (z:=64*(n:Int)) dk,Au dk];omega
  rw [e1,e2,e3];exact h
noncomputable def powSpec:ASpec:=fun args H fr gv =>
 match args with
 | [.val true a,.val false [.sl k gu n _]]=>match DL 6 a,AG H k with
  | some x,some ⟨_,cs,_⟩=>match A8 .u64 cs with
   | some xs=>some (BR [k] 1 fr 0 [] (Aa (DD x (AK ((xs.drop gu).take n)))) [] [(Nat.ble (gu+n) xs.length,true),(Nat.ble n 1125899906842624,true)] gv)
   | none=>none
  | _,_=>none
 | _=>none
theorem ADl:BJ dm 130 powSpec:=by
 refine HH func130 dj dj fun args H fr gv r h=>?_
 unfold powSpec at h;split at h;case h_2=>cases h
 rename_i a k gu n m;split at h;case h_2=>cases h
 rename_i x ty cs o hx hk;split at h;case h_2=>cases h
 rename_i xs iy;injection h with h;refine ⟨[k],Nr x gu n m,BG xs,1,0,[],Aa (DD x (AK ((xs.drop gu).take n))),[],_,gv,h.symm,fun β us w ha hg hc=>?_⟩
 obtain ⟨u1,iu,r1,⟨u2,iw,r2,ha,rfl⟩,rfl⟩:=ha;obtain ⟨l,g1⟩:=Jz hg hk;obtain ⟨_,g2⟩:=DU iy g1;refine ⟨ADk (fun d hd=>ES (g2 d hd)) (jf hc.1) (jf hc.2.1) x,dj,⟨u1,_,?_,⟨u2,iw,?_,ha,rfl⟩,rfl⟩,bH (c:=[.seq .u64 xs]) hg hk (fun l h=>?_),fun j hj=>?_⟩
 ·obtain ⟨l,q,rfl⟩:=r1;exact ⟨l,GQ hx q,rfl⟩
 ·exact r2
 ·obtain ⟨q1,q2⟩:=DU iy h;exact ⟨_,[],⟨q1,q2⟩,rfl,by simp⟩
 ·match j,hj with
  | 0,_=>exact CS (hg.heap _ _ hk)
noncomputable def S9:dr:=(130,powSpec)::S8
theorem API:AW dm S9:=⟨ADl,XM⟩
open Ex
def AA (xs:dn) (gu n:Nat):dn:=(xs.drop gu).take n
theorem DM {xs:dn} {gu n:Nat} {P:Int→Prop} (h:∀ d∈xs,P d):∀ d∈AA xs gu n,P d:=fun d hd=>h d (om (pp hd))
def Bk (xs:dn) (gu n:Nat) (i:Int):Int:=(AA xs gu n).getD i.toNat 0
def Pa (gu n m:Nat) (i:Int):List AV:=[.val false [.sl 0 gu n m],.val false [.v (.int .i64 i)]]
theorem APJ (gu n m:Nat) (i:Int) (xs:dn):AT dm (AH S0 K0) f170 100 1 [] (Aj f170 (Pa gu n m i) (BG xs) 1 du) =
 some ([(AL .i64 n,true),(decide (i<n),true),(decide (0≤i∧i<n),true),(decide (gu+i.toNat*1<xs.length),true)],[],.val false [.v (.int .u64 (xs.getD (gu+i.toNat*1) 0))],[]):=dj
theorem APK (gu n m:Nat) (i:Int) (xs:dn):AT dm (AH S0 K0) f170 100 1 [] (Aj f170 (Pa gu n m i) (BG xs) 1 dt) =
 some ([(AL .i64 n,true),(decide (i<n),false)],[],.val false [.n .u64 0],[]):=dj
theorem BL {P:Program} {f:FuncId} {ic:List AV} {H0 H1:Heap} {k0:Nat} {W:List Nat} {v v':AV} (h:Ab P f ic H0 k0 W v H1) (hv:∀ β u,AN β v u→AN β v' u):Ab P f ic H0 k0 W v' H1 :=
 fun β us w a b c=>Calls.mono (h β us w a b c) fun _ _ ⟨u,β',q1,q2⟩=>⟨u,β',q1,{ q2 with val:=hv _ _ q2.val }⟩
theorem qZ {β:Env} {k:IntKind} {i:Int} {u:Value} (h:AN β (.val false [.n k i]) u):AN β (.val false [.v (.int k i)]) u:=XI (cs:=[.n k i]) h
theorem APL {gu n m:Nat} {xs:dn} (gx:gu+n≤xs.length) (hn:AL .i64 n=true) {i:Int} (hi:0≤i) :
  Ab dm 170 (Pa gu n m i) (BG xs) 1 [] (.val false [.v (.int .u64 (Bk xs gu n i))]) []:=by
 by_cases h:i<n
 ·refine A7 (gv:=du) func170 dj dj fun β0 w0 hb=>?_
  rw [show Bk xs gu n i=xs.getD (gu+i.toNat*1) 0 from by rw [kb];exact JI dk]
  exact Ay (AJ IW Ae) AB func170 (APJ gu n m i xs) ⟨hn,by simp [h],by simp [hi,h],by simp;omega,trivial⟩ (AS dj) hb jb
 ·have e:Bk xs gu n i=0:=by
   unfold Bk AA;rw [j_,ma (by rw [ke];omega)];rfl
  rw [e];refine BL (v:=.val false [.n .u64 0]) (A7 (gv:=dt) func170 dj dj fun β0 w0 hb=>?_) fun _ _=>qZ
  exact Ay (AJ IW Ae) AB func170 (APK gu n m i xs) ⟨hn,by simp [h],trivial⟩ (AS dj) hb jb
def atSpec:ASpec:=fun args H fr gv =>
 match args with
 | [.val false [.sl k gu n _],I]=>match Bv (some I),AG H k with
  | some (_,.i64,i),some ⟨_,cs,_⟩=>match A8 .u64 cs with
   | some xs=>some (BR [k] 1 fr 0 [] (.val false [.v (.int .u64 (Bk xs gu n i))]) [] [(Nat.ble (gu+n) xs.length,true),(AL .i64 n,true),(decide (0≤i),true)] gv)
   | none=>none
  | _,_=>none
 | _=>none
theorem Ml {β:Env} {H:Heap} {w:World} {k:Nat} {ty:Nat} {cs:List Ch} {o:Bool} {xs:dn} (hg:Ex.Good β H w) (hk:AG H k=some ⟨ty,cs,o⟩) (iy:A8 .u64 cs=some xs) :
  (∀ d∈xs,0≤d∧d<18446744073709551616)∧Ex.Good (A9 β [k] 1) (BG xs) w∧(∀ j,j<1→∃ X,β (nth [k] j)=some X):=by
 obtain ⟨l,g1⟩:=Jz hg hk;obtain ⟨_,g2⟩:=DU iy g1;refine ⟨fun d hd=>ES (g2 d hd),bH (c:=[.seq .u64 xs]) hg hk (fun l h=>?_),fun j hj=>?_⟩
 ·obtain ⟨q1,q2⟩:=DU iy h;exact ⟨_,[],⟨q1,q2⟩,rfl,by simp⟩
 ·match j,hj with
  | 0,_=>exact CS (hg.heap _ _ hk)
theorem APM:BJ dm 170 atSpec:=by
 refine HH func170 dj dj fun args H fr gv r h=>?_
 unfold atSpec at h;split at h;case h_2=>cases h
 rename_i k gu n m I;split at h;case h_2=>cases h
 rename_i c0 i ty cs o hI hk;split at h;case h_2=>cases h
 rename_i xs iy;injection h with h;refine ⟨[k],Pa gu n m i,BG xs,1,0,[],_,[],_,gv,h.symm,fun β us w ha hg hc=>?_⟩
 obtain ⟨u1,iu,r1,⟨u2,iw,r2,ha,rfl⟩,rfl⟩:=ha;obtain ⟨g1,g2,g3⟩:=Ml hg hk iy;obtain ⟨rfl,p1⟩:=DJ (β:=β) (u:=u2) (fm r2) hI
 exact ⟨APL (jf hc.1) hc.2.1 (by simpa using hc.2.2.1),dj,⟨u1,_,r1,⟨_,iw,Aw ⟨rfl,rfl,p1⟩,ha,rfl⟩,rfl⟩,g2,g3⟩
noncomputable def S10:dr:=(170,atSpec)::S9
theorem LJ:AW dm S10:=⟨APM,API⟩
abbrev eg:List Bool:=[true,false,true]
abbrev ew:List Bool:=[true,false,false]
open Ex
set_option maxRecDepth 100000
set_option maxHeartbeats 4000000
def Gx (xs ys:dn):Heap:=[(0,some (Ak [.seq .u64 xs])),(1,some (Ak [.seq .u64 ys]))]
def J0 (gu n m gw n' m':Nat):List AV:=[.val false [.sl 0 gu n m],.val false [.sl 1 gw n' m']]
noncomputable def APN:List Item:=CB (AY dm (AH S10 K0) (some 0) 100 2 none (Aj f113 (J0 0 0 0 0 0 0) (Gx [] []) 2 []))
noncomputable def APO (gu n m gw n' m':Nat) (i:Int):List AV:=.val false [.sl 0 gu n m]::.val false [.sl 1 gw n' m']::.any::.any::.val false [.n .i64 0]::.val false [.v (.int .i64 i)]::List.replicate (f113.ntmps-6) .any
section
variable (gu n m gw n' m':Nat) (xs ys:dn)
noncomputable def Pb (i:Int) (p:List Bool):gq:=⟨APN,⟨APO gu n m gw n' m' i,Gx xs ys,2,p⟩⟩
def GR (a b:Int):Int:=if b > a then b else a
theorem APP:AY dm (AH S10 K0) (some 0) 100 2 (some ([0,1,4,5],[0,1],2)) (Aj f113 (J0 gu n m gw n' m') (Gx xs ys) 2 []) =
 some ([(AL .i64 n,true),(AL .i64 n',true)],[],Pb gu n m gw n' m' xs ys (wI (GR n n'-1)) []):=dj
def bI (i:Int) (r:dp):dp:=(decide (0≤i),true)::(Nat.ble (gu+n) xs.length,true)::(AL .i64 n,true)::(decide (0≤i),true)::(Nat.ble (gw+n') ys.length,true)::(AL .i64 n',true)::(decide (0≤i),true)::r
theorem APQ (i:Int):AY dm (AH S10 K0) (some 0) 100 2 (some ([0,1,4,5],[0,1],2)) (Pb gu n m gw n' m' xs ys i dw) =
 some (bI gu n gw n' xs ys i [(decide (Bk xs gu n i=Bk ys gw n' i),true)],[],Pb gu n m gw n' m' xs ys (wI (i-1)) []):=dj
theorem APR (i:Int):AT dm (AH S10 K0) f113 100 2 [] (Pb gu n m gw n' m' xs ys i eg) =
 some (bI gu n gw n' xs ys i [(decide (Bk xs gu n i=Bk ys gw n' i),false),(decide (Bk xs gu n i<Bk ys gw n' i),true)],[],.val false [.n .i64 (-1)],[]):=dj
theorem APS (i:Int):AT dm (AH S10 K0) f113 100 2 [] (Pb gu n m gw n' m' xs ys i ew) =
 some (bI gu n gw n' xs ys i [(decide (Bk xs gu n i=Bk ys gw n' i),false),(decide (Bk xs gu n i<Bk ys gw n' i),false)],[],.val false [.n .i64 1],[]):=dj
theorem APT (i:Int):AT dm (AH S10 K0) f113 100 2 [] (Pb gu n m gw n' m' xs ys i dt) =
 some ([(decide (0≤i),false)],[],.val false [.n .i64 0],[]):=dj
theorem bJ (i:Int) (p:List Bool):Be f113.ntmps (Pb gu n m gw n' m' xs ys i p).s:=AS dj
end
theorem IX {P:Program} {f:FuncId} {β0:Env} {w0:World} {W W':List Nat} {v v':AV} {H:Heap} {n:Nat} {x:gq} (h:gn P f β0 w0 (A_ β0 w0 W v H) n W' x) (hv:∀ β u,AN β v u→AN β v' u):gn P f β0 w0 (A_ β0 w0 W v' H) n W' x:=by
 intro β a w hi hf b cs q1 q2;obtain ⟨e',w',fr,⟨u,β',q5,q6⟩,q4⟩:=h β a w hi hf b cs q1 q2;exact ⟨e',w',fr,⟨u,β',q5,{ q6 with val:=hv _ _ q6.val }⟩,q4⟩
theorem UM {x y Q:Nat} (h:x / Q<y / Q):x<y:=Nat.lt_of_not_le fun ir=>absurd (Nat.div_le_div_right (c:=Q) ir) dk
def Et (x y:Nat):Int:=if x<y then -1 else if y<x then 1 else 0
theorem UN {ws:dn} (h:∀ d∈ws,0≤d∧d<18446744073709551616) (c:Nat):AK ws / 2^(64*c)=(ws.getD c 0).toNat+18446744073709551616*(AK ws / 2^(64*(c+1))):=by
 rw [← XO ws c h,show 64*(c+1)=64*c+64 by omega,jr,← kw]
 omega
theorem Ns {ws:dn} (h:∀ d∈ws,0≤d∧d<18446744073709551616) (c:Nat):0≤ws.getD c 0∧ws.getD c 0<18446744073709551616:=by
 rw [j_];cases h':ws[c]? with
 | none=>simp
 | some d=>exact h d (ol h')
theorem RT {β:Env} {k:IntKind} {i j:Int} {u:Value} (e:i=j) (h:AN β (.val false [.n k i]) u):AN β (.val false [.v (.int k j)]) u:=by subst e;exact qZ h
section
variable {gu n m gw n' m':Nat} {xs ys:dn} (hx:∀ d∈xs,0≤d∧d<18446744073709551616) (hy:∀ d∈ys,0≤d∧d<18446744073709551616) (hl:gu+n≤xs.length) (hl':gw+n'≤ys.length)
 (hn:AL .i64 n=true) (hn':AL .i64 n'=true) {β0:Env} {w0:World} (hb:∀ b,2≤b→β0 b=none)
include hx hy hl hl' hn hn' hb
theorem APU:∀ c,c≤max n n'→AK (AA xs gu n) / 2^(64*c)=AK (AA ys gw n') / 2^(64*c) →
  gn dm 113 β0 w0 (A_ β0 w0 [] (.val false [.v (.int .i64 (Et (AK (AA xs gu n)) (AK (AA ys gw n'))))]) []) f113.ntmps [] (Pb gu n m gw n' m' xs ys ((c:Int)-1) []):=by
 intro c;induction c with
 | zero =>
  intro _ heq;rw [ll,kf,ko,ko] at heq;have h:=Ay (w0:=w0) (W:=[]) (n:=f113.ntmps) (AJ LJ Ae) AB func113 (APT gu n m gw n' m' xs ys (((0:Nat):Int)-1)) ⟨rfl,trivial⟩ (bJ ..) hb jb
  exact Af dt (IX h fun _ _=>RT (by unfold Et;rw [heq];simp))
 | succ c ih =>
  intro hc heq;have hi:((c+1:Nat):Int)-1=(c:Int):=dk
  rw [hi];have bn:n≤9223372036854775807:=by simp only [AL,jm,ji] at hn;omega
  have bn':n'≤9223372036854775807:=by simp only [AL,jm,ji] at hn';omega
  have sx:=UN (DM (gu:=gu) (n:=n) hx) c
  have sy:=UN (DM (gu:=gw) (n:=n') hy) c
  have bx:=Ns (DM (gu:=gu) (n:=n) hx) c
  have byy:=Ns (DM (gu:=gw) (n:=n') hy) c
  have ex:Bk xs gu n c=(AA xs gu n).getD c 0:=by unfold Bk;rw [jn]
  have ey:Bk ys gw n' c=(AA ys gw n').getD c 0:=by unfold Bk;rw [jn]
  have hC:∀ r,AO r→AO (bI gu n gw n' xs ys c r):=fun r hr=>⟨by simp,jh hl,hn,by simp,jh hl',hn',by simp,hr⟩
  by_cases he:Bk xs gu n c=Bk ys gw n' c
  ·refine Af dw (Ai (AJ LJ Ae) AB (APQ ..) (hC _ ⟨by simp [he],trivial⟩) (bJ ..) hb jb fun _=>?_)
   rw [Au (z:=(c:Int)-1) dk];exact ih dk (by rw [sx,sy,heq,← ex,← ey,he])
  ·by_cases ik:Bk xs gu n c<Bk ys gw n' c
   ·have h:=Ay (w0:=w0) (W:=[]) (n:=f113.ntmps) (AJ LJ Ae) AB func113 (APR gu n m gw n' m' xs ys c) (hC _ ⟨by simp [he],by simp [ik],trivial⟩) (bJ ..) hb jb
    refine Af eg (IX h fun _ _=>RT ?_)
    have:AK (AA xs gu n)<AK (AA ys gw n'):=UM (Q:=2^(64*c)) (by rw [sx,sy,heq];omega)
    unfold Et;rw [je this]
   ·have h:=Ay (w0:=w0) (W:=[]) (n:=f113.ntmps) (AJ LJ Ae) AB func113 (APS gu n m gw n' m' xs ys c) (hC _ ⟨by simp [he],by simp [ik],trivial⟩) (bJ ..) hb jb
    refine Af ew (IX h fun _ _=>RT ?_)
    have:AK (AA ys gw n')<AK (AA xs gu n):=UM (Q:=2^(64*c)) (by rw [sx,sy,heq];omega)
    unfold Et;rw [jd dk,je this]
end
theorem APV {gu n m gw n' m':Nat} {xs ys:dn} (hx:∀ d∈xs,0≤d∧d<18446744073709551616) (hy:∀ d∈ys,0≤d∧d<18446744073709551616) (hl:gu+n≤xs.length) (hl':gw+n'≤ys.length)
  (hn:AL .i64 n=true) (hn':AL .i64 n'=true):Ab dm 113 (J0 gu n m gw n' m') (Gx xs ys) 2 [] (.val false [.v (.int .i64 (Et (AK (AA xs gu n)) (AK (AA ys gw n'))))]) []:=by
 refine A7 (gv:=[]) func113 dj dj fun β0 w0 hb=>?_
 refine Ai (AJ LJ Ae) AB (APP gu n m gw n' m' xs ys) ⟨hn,hn',trivial⟩ (AS dj) hb jb fun _=>?_
 have bn:n≤9223372036854775807:=by simp only [AL,jm,ji] at hn;omega
 have bn':n'≤9223372036854775807:=by simp only [AL,jm,ji] at hn';omega
 have e:wI (GR n n'-1)=((max n n':Nat):Int)-1:=by
  have:GR n n'=((max n n':Nat):Int):=by unfold GR;split<;>omega
  rw [this,Au dk]
 rw [e];refine APU hx hy hl hl' hn hn' hb _ (jj _) ?_
 have ja:∀ (zs:dn) (of k:Nat),(∀ d∈zs,0≤d∧d<18446744073709551616)→k≤max n n'→AK (AA zs of k) / 2^(64*max n n')=0:=by
  intro zs of k hz hk;refine lm (kr (JH _ (DM hz)) (oy dl ?_))
  have:(AA zs of k).length≤k:=by unfold AA;rw [ke];omega
  omega
 rw [ja xs gu n hx dk,ja ys gw n' hy dk]
theorem bK {β:Env} {H:Heap} {w:World} {k t:Nat} {ty ty':Nat} {cs ds:List Ch} {o o':Bool} {xs ys:dn} (hg:Ex.Good β H w) (hk:AG H k=some ⟨ty,cs,o⟩) (ht:AG H t=some ⟨ty',ds,o'⟩) (iy:A8 .u64 cs=some xs) (hys:A8 .u64 ds=some ys) :
  (∀ d∈xs,0≤d∧d<18446744073709551616)∧(∀ d∈ys,0≤d∧d<18446744073709551616)∧Ex.Good (A9 β [k,t] 2) (Gx xs ys) w∧(∀ j,j<2→∃ X,β (nth [k,t] j)=some X):=by
 obtain ⟨l,g1⟩:=Jz hg hk;obtain ⟨_,g2⟩:=DU iy g1;obtain ⟨l',g1'⟩:=Jz hg ht;obtain ⟨_,g2'⟩:=DU hys g1';refine ⟨fun d hd=>ES (g2 d hd),fun d hd=>ES (g2' d hd),ADV (c:=[.seq .u64 xs]) (e:=[.seq .u64 ys]) hg hk ht (fun l h=>?_) (fun l h=>?_),fun j hj=>?_⟩
 ·obtain ⟨q1,q2⟩:=DU iy h;exact ⟨_,[],⟨q1,q2⟩,rfl,by simp⟩
 ·obtain ⟨q1,q2⟩:=DU hys h;exact ⟨_,[],⟨q1,q2⟩,rfl,by simp⟩
 ·match j,hj with
  | 0,_=>exact CS (hg.heap _ _ hk)
  | 1,_=>exact CS (hg.heap _ _ ht)
def cmpSpec:ASpec:=fun args H fr gv =>
 match args with
 | [.val false [.sl k gu n _],.val false [.sl t gw n' _]]=>match AG H k,AG H t with
  | some ⟨_,cs,_⟩,some ⟨_,ds,_⟩=>match A8 .u64 cs,A8 .u64 ds with
   | some xs,some ys=>some (BR [k,t] 2 fr 0 [] (.val false [.v (.int .i64 (Et (AK (AA xs gu n)) (AK (AA ys gw n'))))]) [] [(Nat.ble (gu+n) xs.length,true),(Nat.ble (gw+n') ys.length,true),(AL .i64 n,true),(AL .i64 n',true)] gv)
   | _,_=>none
  | _,_=>none
 | _=>none
theorem APW:BJ dm 113 cmpSpec:=by
 refine HH func113 dj dj fun args H fr gv r h=>?_
 unfold cmpSpec at h;split at h;case h_2=>cases h
 rename_i k gu n m t gw n' m';split at h;case h_2=>cases h
 rename_i ty cs o ty' ds o' hk ht;split at h;case h_2=>cases h
 rename_i xs ys iy hys;injection h with h;refine ⟨[k,t],J0 gu n m gw n' m',Gx xs ys,2,0,[],_,[],_,gv,h.symm,fun β us w ha hg hc=>?_⟩
 obtain ⟨u1,iu,r1,⟨u2,iw,r2,ha,rfl⟩,rfl⟩:=ha;obtain ⟨g1,g1',g2,g3⟩:=bK hg hk ht iy hys;exact ⟨APV g1 g1' (jf hc.1) (jf hc.2.1) hc.2.2.1 hc.2.2.2.1,dj,⟨u1,_,r1,⟨u2,iw,r2,ha,rfl⟩,rfl⟩,g2,g3⟩
noncomputable def S11:dr:=(113,cmpSpec)::S10
theorem bL:AW dm S11:=⟨APW,LJ⟩
open Ex
def JJ (x:Nat):dn:=(List.range 6).map (AF x)++[]
theorem Pc {x:Nat} (h:x<RR):AK (AA (JJ x) (0+0*1) (6-0))=x :=
 (show AK (AA (JJ x) (0+0*1) (6-0))=PU (AF x 0) (AF x 1) (AF x 2) (AF x 3) (AF x 4) (AF x 5) by kernel_rfl).trans (ADd h)
def DY (i:Int):AV:=.val false [.v (.int .i64 i)]
def Av (b:Bool):AV:=.val false [.v (.bool b)]
theorem APX (x:Nat):AM dm (AH S11 K0) f132 [Aa x] [] 300=some ([],DY (wI (bits .and .u64 (AF (x % pN) 0) 1))):=dj
def E3 (x:Nat):Int:=((x % pN % 2:Nat):Int)
theorem rA (x:Nat):AF x 0=((x % 18446744073709551616:Nat):Int):=by simp only [AF,ll,kf,ko]
theorem ADm (v:Nat) (hv:v<18446744073709551616):bits .and .u64 (v:Int) 1=((v % 2:Nat):Int):=by
 have h:=(bits_nat .u64 64 dl (fun n h0 h1=>by rw [IntKind.wrap_u64];omega) v 1 dk dl).1
 refine Eq.trans h ?_
 rw [Nat.and_one_is_mod]
theorem APY (x:Nat):AU dm 132 [Aa x] (DY (E3 x)):=by
 have h:=AP (AJ bL Ae) AB func132 (APX x) trivial rfl
 have e:wI (bits .and .u64 (AF (x % pN) 0) 1)=E3 x:=by
  rw [rA,ADm _ dk,Au dk];unfold E3;omega
 rw [e] at h;exact h
theorem APZ (x:Nat):AM dm (AH S11 K0) f52 [Aa x] [] 300=some (Jy 4,Av (decide (0<Et (AK (AA (JJ (x % pN)) (0+0*1) (6-0))) (AK (AA (JJ (DC x)) (0+0*1) (6-0)))))):=dj
def BP (x:Nat):Bool:=decide (DC x<x % pN)
theorem bM (x:Nat):DC x<pN:=jw _ DB
theorem APa (x:Nat):AU dm 52 [Aa x] (Av (BP x)):=by
 have h:=AP (AJ bL Ae) AB func52 (APZ x) (PZ _) rfl
 rw [Pc (LE x),Pc (mv (bM x) dl)] at h;have e:decide (0<Et (x % pN) (DC x))=BP x:=by
  unfold Et BP;by_cases h1:x % pN<DC x
  ·rw [je h1,jg dk,jg dk]
  ·by_cases h2:DC x<x % pN
   ·rw [jd h1,je h2,jc h2];rfl
   ·rw [jd h1,jd h2,jg h2];rfl
 rw [e] at h;exact h
def QN:Nat:=1000602388805416848354447456433976039139220704984751971333014534031007912622709466110671907282253916009473568139947
def QC:List Ch:=[.n .u64 0xee7fbfffffffeaab,.n .u64 0x7aaffffac54ffff,.n .u64 0xd9cc34a83dac3d89,.n .u64 0xd91dd2e13ce144af,.n .u64 0x92c6e9ed90d2eb35,.n .u64 0x680447a8e5ff9a6]
theorem APb:AM dm (AH S11 K0) f129 [] [] 300=some ([],.val true QC):=dj
theorem APc:AU dm 129 [] (.val true QC):=AP (AJ bL Ae) AB func129 APb trivial rfl
noncomputable def S12:dr:=(129,Ac fun args=>match args with | []=>some (Aa QN) | _=>none)::(132,Ac (GP fun x=>DY (E3 x)))::(52,Ac (GP fun x=>Av (BP x)))::S11
theorem rB:AW dm S12:=⟨Ad func129 dj dj (RS APc fun u h=>XL dj h),Ad func132 dj dj (HI fun x _=>APY x),Ad func52 dj dj (HI fun x _=>APa x),bL⟩
def Hv (y:Nat):Nat:=if E3 y=1 then DC y else y
theorem APd (y:Nat):AM dm (AH S12 K0) f131 [Aa y] du 300=some ([(decide (E3 y=1),true)],Aa (DC y)):=dj
theorem APe (y:Nat):AM dm (AH S12 K0) f131 [Aa y] dt 300=some ([(decide (E3 y=1),false)],Aa y):=dj
theorem APf (y:Nat):AU dm 131 [Aa y] (Aa (Hv y)):=by
 unfold Hv;by_cases h:E3 y=1
 ·rw [je h];exact AP (AJ rB Ae) AB func131 (APd y) ⟨by simp [h],trivial⟩ rfl
 ·rw [jd h];exact AP (AJ rB Ae) AB func131 (APe y) ⟨by simp [h],trivial⟩ rfl
noncomputable def S13:dr:=(131,Ac (GP fun x=>Aa (Hv x)))::S12
theorem rC:AW dm S13:=⟨Ad func131 dj dj (HI fun x _=>APf x),rB⟩
noncomputable def RU (a:Nat):Nat:=DD a (AK (AA (JJ QN) (0+0*1) (6-0)))
theorem APg (a:Nat):AM dm (AH S13 K0) f60 [Aa a] du 300=some ([(true,true),(true,true),(!decide (Ah (RU a) (RU a)=a % pN),true)],.tup [(true,Hr),(false,[.b false])]):=dj
theorem APh (a:Nat):AM dm (AH S13 K0) f60 [Aa a] dt 300=some ([(true,true),(true,true),(!decide (Ah (RU a) (RU a)=a % pN),false)],.tup [(true,[.num 6 (Hv (RU a))]),(false,[.b true])]):=dj
noncomputable def Cq (a:Nat):Bool:=decide (Ah (DD a QN) (DD a QN)=a % pN)
noncomputable def D_ (a:Nat):Nat:=if Cq a=true then Hv (DD a QN) else 0
theorem rD (a:Nat):RU a=DD a QN:=by unfold RU;rw [Pc dl]
noncomputable def UO (a:Nat):AV:=.tup [(true,[.num 6 (D_ a)]),(false,[.v (.bool (Cq a))])]
theorem C3 {P:Program} {f:FuncId} {args:List AV} {v v':AV} (h:AU P f args v) (hv:∀ u,AN CE v u→AN CE v' u):AU P f args v' :=
 fun us w a=>Calls.mono (h us w a) fun _ _ ⟨u,q1,q2,q3⟩=>⟨u,q1,hv u q2,q3⟩
theorem JK {b b':Bool} {u:Value} (e:b=b') (h:Bx CE false [.b b] u):Bx CE false [.v (.bool b')] u:=by
 subst e;obtain ⟨l1,l2,p1,p2,p3⟩:=h;exact ⟨l1,l2,⟨p1,rfl,trivial⟩,p2,p3⟩
theorem APi (a:Nat):AU dm 60 [Aa a] (UO a):=by
 by_cases h:Cq a=true
 ·have h1:=AP (AJ rC Ae) AB func60 (APh a) ⟨rfl,rfl,by rw [rD];unfold Cq at h;rw [h];rfl,trivial⟩ rfl
  refine C3 h1 ?_
  rintro u ⟨us,⟨u1,l1,q1,⟨u2,l2,q2,q3,rfl⟩,rfl⟩,rfl⟩
  refine ⟨_,⟨u1,_,?_,⟨u2,l2,JK h.symm q2,q3,rfl⟩,rfl⟩,rfl⟩
  unfold D_;rw [je h,← rD];exact q1
 ·have h0:Cq a=false:=by simpa using h
  have h1:=AP (AJ rC Ae) AB func60 (APg a) ⟨rfl,rfl,by rw [rD];unfold Cq at h0;rw [h0];rfl,trivial⟩ rfl
  refine C3 h1 ?_
  rintro u ⟨us,⟨u1,l1,q1,⟨u2,l2,q2,q3,rfl⟩,rfl⟩,rfl⟩
  refine ⟨_,⟨u1,_,?_,⟨u2,l2,JK h0.symm q2,q3,rfl⟩,rfl⟩,rfl⟩
  unfold D_;rw [jd h];exact XL dj q1
noncomputable def S14:dr:=(60,Ac (GP UO))::S13
theorem APj:AW dm S14:=⟨Ad func60 dj dj (HI fun x _=>APi x),rC⟩
noncomputable def S15:dr:=S14
theorem APk:AW dm S15:=APj
def FY (sp:List AV→Option (dp×AV)):ASpec:=fun args _ _ gv =>
 match aB args,sp args with
 | true,some (c,v)=>match PK v with
  | true=>some { CP v gv with conds:=c }
  | false=>none
 | _,_=>none
theorem GS {P:Program} {f:FuncId} {fn:Func} {sp:List AV→Option (dp×AV)} (ip:P.funcs[f]? = some fn) (hb:fn.body.isSome=true) (h_:fo fn) (h:∀ args c v,sp args=some (c,v)→AO c→AU P f args v):BJ P f (FY sp):=by
 intro args H fr gv r β us w hs hc ha hg hf;unfold FY at hs;split at hs
 ·rename_i c v hk hv;split at hs
  ·rename_i hkv;injection hs with hs;subst hs;refine T5 ip hb h_ (Calls.mono (h args c v hv hc us w (o7 hk ha)) ?_)
   rintro e w' ⟨u,rfl,hu,hbl⟩
   refine ⟨u,β,rfl,?_⟩
   exact ⟨Env.le_refl _,fun _ _ h=>.inl h,fun b B n hb=>kr (hg.lt b B n hb) hbl.size,fun b b' _ _ _ h1 _ h3=>by simp [CP] at h3;omega,MS hkv hu,fun _ _ h=>(by cases h),fun B hB _=>hbl.block B hB,hbl.size,hbl.os,hbl.tape,hbl.output⟩
  ·cases hs
 ·cases hs
noncomputable def S16:dr:=S15
theorem APl:AW dm S16:=APk
def Gy:AV→AV
 | .val g cs=>.val g (cs.map nv)
 | a=>a
theorem ADn {β:Env} {a:AV} {u:Value} (h:AN β a u):AN β (Gy a) u:=by
 cases a with
 | val g cs=>cases g with
  | false=>exact XI h
  | true=>obtain ⟨l,q,e⟩:=h;exact ⟨l,XI q,e⟩
 | tup xs=>exact h
 | any=>exact h
theorem ADo:∀ (T:List AV) (t:Nat),Ap (T.map Gy) t=Gy (Ap T t)∨Ap (T.map Gy) t=Ap T t
 | [],_=>.inr rfl
 | _::_,0=>.inl rfl
 | _::r,t+1=>ADo r t
theorem IY {P:Program} {f:FuncId} {β0:Env} {w0:World} {R:Ending→World→Prop} {n:Nat} {W:List Nat} {todo:List Item} {T:List AV} {H:Heap} {fr:Nat} {p:List Bool} (h:gn P f β0 w0 R n W ⟨todo,⟨T.map Gy,H,fr,p⟩⟩):gn P f β0 w0 R n W ⟨todo,⟨T,H,fr,p⟩⟩:=by
 intro β a w hi hf;refine h β a w { hi with tmp:=fun t=>?_ } hf
 rcases ADo T t with e | e
 ·show AN β (Ap (T.map Gy) t) _;rw [e];exact ADn (hi.tmp t)
 ·show AN β (Ap (T.map Gy) t) _;rw [e];exact hi.tmp t
def outL (S L i:Nat):dn:=(List.range i).map (AF S)++List.replicate (L-i) 0
theorem rE {xs:dn} {gu n:Nat} (h:∀ d∈xs,0≤d∧d<18446744073709551616) (i:Nat):Bk xs gu n i=((AK (AA xs gu n) / 2^(64*i) % 18446744073709551616:Nat):Int):=by
 have:=XO (AA xs gu n) i (DM h)
 have hb:=Ns (DM (gu:=gu) (n:=n) h) i
 unfold Bk;rw [jn];have e:(2:Nat)^64=18446744073709551616:=rfl
 rw [e] at this;omega
noncomputable def S17:dr:=S16
theorem APm:AW dm S17:=APl
noncomputable def S18:dr:=S17
theorem APn:AW dm S18:=APm
def Pd (m x:Nat):Nat→Nat→Nat
 | 0,_=>1 % m
 | f+1,e=>(match e % 2 with
  | 0=>Pd m (x*x % m) f (e / 2)
  | _=>x*Pd m (x*x % m) f (e / 2) % m)
theorem rF (m:Nat):∀ (f x e:Nat),e<2^f→Pd m x f e=x^e % m
 | 0,x,e,h=>by
  have:e=0:=by simpa using h
  subst this;rfl
 | f+1,x,e,h=>by
  have ih:=rF m f (x*x % m) (e / 2) (by rw [kt] at h;omega)
  have h2:(x*x % m)^(e / 2) % m=x^(2*(e / 2)) % m:=by
   rw [← nz,pq,r_]
  unfold Pd;rcases nf e with h0 | h1
  ·rw [h0];show Pd m (x*x % m) f (e / 2)=_;rw [ih,h2,show 2*(e / 2)=e by omega]
  ·rw [h1];show x*Pd m (x*x % m) f (e / 2) % m=_;rw [ih,h2,kj,m_,← kj,← se,show (2*(e / 2)).succ=e by omega]
theorem ADp:(2:Nat)^384=RR:=dj
noncomputable def S19:dr:=S18
theorem APo:AW dm S19:=APn
open Ex
open Go.RowKit (Below)
theorem own:ownKnob dm.godebug=none:=dj
theorem laidOut:laidOutB dm=true:=dj
theorem under_bool:dm.underlying 4=some .bool:=dj
theorem ic {ts:List TypeId} {H:Type} {enc:TypeId×Value→H} {W:World} {us:List Value} {ds:List (DataW H)} {ps:List MemPlace} (hA:DataW.TrodAll enc dm W 0 (fun _=>true) true ts us ds ps) (ht:ts=[]):us=[]:=by
 subst ht;cases us with
 | nil=>rfl
 | cons=>cases ds<;>cases hA
theorem rG {H:Type} {enc:TypeId×Value→H} {W:World} {t:TypeId} {ts:List TypeId} {us:List Value} {ds:List (DataW H)} {ps:List MemPlace} (hA:DataW.TrodAll enc dm W 0 (fun _=>true) true (t::ts) us ds ps) :
  ∃ v us' d ds' p q,us=v::us'∧ds=d::ds'∧DataW.Trod enc dm W 0 (fun _=>true) true t v d p∧DataW.TrodAll enc dm W 0 (fun _=>true) true ts us' ds' q:=by
 cases us with
 | nil=>cases ds<;>cases hA
 | cons v us'=>cases ds with
  | nil=>cases hA
  | cons d ds' =>
   obtain ⟨p,q,h1,h2,_⟩:=hA;exact ⟨v,us',d,ds',p,q,rfl,rfl,h1,h2⟩
theorem len3 {α:Type} {l:List α} (h:l.length=3):∃ a b c,l=[a,b,c]:=by
 match l,h with
 | [a,b,c],_=>exact ⟨a,b,c,rfl⟩
theorem allHeard:Tryz.pinned.checked.prog.stopsHeard=true:=dj
theorem allEnter:Tryz.pinned.checked.prog.mayEnter=true:=dj
theorem allLifts:Tryz.pinned.checked.prog.liftsFinal=false:=dj
theorem allKeys:Tryz.pinned.checked.prog.plainKeys=true:=dj
theorem allLaid:laidOutB Tryz.pinned.checked.prog=true:=dj
theorem allMaps:mapsRowed Tryz.pinned.checked.prog=true:=dj
open Ex
def PL:dn:=[0xb9feffffffffaaab,0x1eabfffeb153ffff,0x6730d2a0f6b0f624,0x64774b84f38512bf,0x4b1ba7b6434bacd7,0x1a0111ea397fe69a]
theorem rH {x:Nat} (h:x<RR):AK (AA (JJ x) 0 6)=x:=Pc h
theorem APp {S L:Nat} (h:S<2^(64*L)):AK (AA (outL S L L) 0 L)=S:=by
 unfold outL AA;rw [oh,List.replicate_zero,ku,pn,nu (by simp)]
 have gen:∀ (L S:Nat),S<2^(64*L)→AK ((List.range L).map (AF S))=S:=by
  intro L;induction L with
  | zero=>intro S h;simp at h;subst h;rfl
  | succ L ih =>
   intro S h;rw [ry,lf,ny];have e:(AF S ∘ Nat.succ)=AF (S / 2^64):=by
    funext i
    exact FW S i |>.symm▸rfl
   rw [e];simp only [AK];rw [ih (S / 2^64) (by rw [show 64*(L+1)=64+64*L by omega,jr] at h;exact li h),qQ,ll,kf,ko]
   omega
 exact gen L S h
theorem APq:AK (AA PL 0 6)=pN:=dj
theorem APr {a:Nat} (h:a % pN≠0):DC a=pN-a % pN:=by
 have hp:=Hs a;unfold DC;rw [jk dk]
theorem APs {a:Nat} (h:a % pN=0):DC a=0:=by
 unfold DC;rw [h,pc,Nat.mod_self]
theorem XQ:pN % 2=1:=dj
end Go.Proofs.YtgnajdcdcblaoaaGreat
namespace Go.Proofs.YtgnajdcdcblaoaaGreat.Num
def Prime (p:Nat):Prop:=2≤p∧∀ d,d∣p→d=1∨d=p
theorem Prime.coprime {p a:Nat} (hp:Prime p) (h:¬ p∣a):Nat.Coprime p a:=by
 rcases hp.2 (Nat.gcd p a) (Nat.gcd_dvd_left _ _) with e | e
 ·exact e
 ·exact absurd (e▸Nat.gcd_dvd_right p a) h
theorem Prime.dvd_mul {p a b:Nat} (hp:Prime p) (h:p∣a*b):p∣a∨p∣b:=by
 by_cases ha:p∣a
 ·exact .inl ha
 ·exact .inr ((hp.coprime ha).dvd_of_dvd_mul_left h)
theorem XR {a b n:Nat} (h:a % n=b % n) (ir:b≤a):n∣a-b:=by
 have h1:=md a n;have h2:=md b n;exact ⟨a / n-b / n,by rw [Nat.mul_sub];omega⟩
theorem APt {a b n:Nat} (h:n∣a-b) (ir:b≤a):a % n=b % n:=by
 obtain ⟨k,hk⟩:=h;have:a=b+n*k:=dk
 rw [this,ug]
def BV:List Nat→Nat
 | []=>1
 | x::l=>x*BV l
theorem APu {l m:List Nat} (h:l.Perm m):BV l=BV m:=by
 induction h with
 | nil=>rfl
 | cons x _ ih=>simp [BV,ih]
 | swap x y l=>simp only [BV];rw [mj]
 | trans _ _ h1 h2=>exact h1.trans h2
theorem rI:∀ {l m:List Nat},l.Nodup→(∀ x∈l,x∈m)→m.length≤l.length→l.Perm m
 | [],m,_,_,h=>by
  have:m=[]:=sd.1 (by simpa using h)
  subst this;exact .refl _
 | a::l,m,hn,hs,gx=>by
  have ham:=hs a (by simp)
  have hp:=List.perm_cons_erase ham;have hn':=qp.1 hn;refine .trans (.cons a (rI hn'.2 (fun x hx=>?_) ?_)) hp.symm
  ·have:x≠a:=fun e=>hn'.1 (e▸hx)
   exact (List.mem_erase_of_ne this).2 (hs x (by simp [hx]))
  ·rw [List.length_erase_of_mem ham];simp at gx;omega
theorem ADq (a p:Nat):∀ l:List Nat,BV (l.map fun x=>a*x % p) % p=a^l.length*BV l % p
 | []=>by simp [BV]
 | x::l=>by
  simp only [lf,BV,kp];rw [kj,ADq a p l,m_,← kj,kt];refine jl (· % p) ?_
  show a*x*(a^l.length*BV l)=a^l.length*a*(x*BV l)
  ac_rfl
theorem rJ {p:Nat} (hp:Prime p):∀ {l:List Nat},(∀ x∈l,¬ p∣x)→¬ p∣BV l
 | [],_,h=>by
  have:=l_ dl h
  have:=hp.1
  simp only [BV] at *;omega
 | x::l,hx,h=>by
  rcases hp.dvd_mul h with h | h
  ·exact hx x (by simp) h
  ·exact rJ hp (fun y hy=>hx y (by simp [hy])) h
theorem RV {p a:Nat} (hp:Prime p) (ha:¬ p∣a):a^(p-1) % p=1:=by
 have h2:=hp.1;have hL:∀ x,x∈List.range' 1 (p-1)↔1≤x∧x<p:=by intro x;rw [List.mem_range'_1];omega
 have hnd:∀ x∈List.range' 1 (p-1),¬ p∣x:=fun x hx hd=>by
  have:=(hL x).1 hx
  have:=l_ dk hd
  omega
 have hperm:((List.range' 1 (p-1)).map fun x=>a*x % p).Perm (List.range' 1 (p-1)):=by
  refine rI ?_ ?_ (by simp)
  ·have hq:∀ {l:List Nat},l.Nodup→(∀ x∈l,1≤x∧x<p)→(l.map fun x=>a*x % p).Nodup:=by
    intro l;induction l with
    | nil=>intro _ _;exact List.nodup_nil
    | cons x l ih =>
     intro hn hb;have hn':=qp.1 hn;rw [lf,qp];refine ⟨fun hm=>?_,ih hn'.2 fun y hy=>hb y (by simp [hy])⟩
     obtain ⟨y,hy,he⟩:=lv.1 hm;have b1:=hb x (by simp)
     have b2:=hb y (by simp [hy])
     have hxy:x≠y:=fun e=>hn'.1 (e▸hy)
     rcases jv x y with ik | hge
     ·have:=XR (a:=a*y) (b:=a*x) he (mz a dk)
      rw [← Nat.mul_sub] at this;rcases hp.dvd_mul this with h | h
      ·exact ha h
      ·have:=l_ dk h;omega
     ·have:=XR (a:=a*x) (b:=a*y) he.symm (mz a dk)
      rw [← Nat.mul_sub] at this;rcases hp.dvd_mul this with h | h
      ·exact ha h
      ·have:=l_ dk h;omega
   exact hq List.nodup_range' fun x hx=>(hL x).1 hx
  ·intro y hy;obtain ⟨x,hx,rfl⟩:=lv.1 hy;have b:=(hL x).1 hx
   refine (hL _).2 ⟨?_,jw _ dk⟩
   rcases lk (a*x % p) with h | h
   ·rcases hp.dvd_mul (rf h) with h | h
    ·exact absurd h ha
    ·exact absurd h (hnd x hx)
   ·exact h
 have e:=ADq a p (List.range' 1 (p-1))
 rw [APu hperm,List.length_range'] at e;have ie:1≤a^(p-1):=mi (rv fun h=>ha (h▸Nat.dvd_zero p))
 have hd:=XR (a:=a^(p-1)*BV (List.range' 1 (p-1))) (b:=BV (List.range' 1 (p-1))) e.symm (Nat.le_mul_of_pos_left _ ie)
 have:a^(p-1)*BV (List.range' 1 (p-1))-BV (List.range' 1 (p-1))=(a^(p-1)-1)*BV (List.range' 1 (p-1)):=by rw [Nat.sub_mul,pj]
 rw [this] at hd;rcases hp.dvd_mul hd with h | h
 ·rw [APt h ie,jk dk]
 ·exact absurd h (rJ hp hnd)
theorem exists_prime_dvd:∀ n,2≤n→∃ q,Prime q∧q∣n:=by
 intro n;induction n using Nat.strongRecOn with
 | ind n ih =>
  intro h;by_cases hp:Prime n
  ·exact ⟨n,hp,Nat.dvd_refl n⟩
  ·have:∃ d,d∣n∧d≠1∧d≠n:=ui fun iz=>hp ⟨h,fun d hd=>ui fun hd2=>iz ⟨d,hd,fun e=>hd2 (.inl e),fun e=>hd2 (.inr e)⟩⟩
   obtain ⟨d,hd,h1,h2⟩:=this;have ir:=l_ dk hd;have h0:d≠0:=fun e=>by subst e;have:=Nat.eq_zero_of_zero_dvd hd;omega
   obtain ⟨q,hq,hqd⟩:=ih d dk dk;exact ⟨q,hq,Nat.dvd_trans hqd hd⟩
theorem bO {n:Nat} (h:2≤n) (hf:∀ q,Prime q→q∣n→n<q*q):Prime n:=by
 refine ⟨h,fun d hd=>?_⟩
 obtain ⟨e,rfl⟩:=hd;by_cases h1:d=1
 ·exact .inl h1
 ·by_cases h2:e=1
  ·subst h2;exact .inr (by simp)
  ·exfalso
   have d0:d≠0:=fun e'=>by subst e';simp at h
   have e0:e≠0:=fun e'=>by subst e';simp at h
   obtain ⟨q,hq,hqd⟩:=exists_prime_dvd d dk;obtain ⟨r,hr,hre⟩:=exists_prime_dvd e dk;have a1:=hf q hq (Nat.dvd_mul_right_of_dvd hqd e)
   have a2:=hf r hr (Nat.dvd_mul_left_of_dvd hre d)
   have b1:=l_ dk hqd;have b2:=l_ dk hre;rcases jv d e with ik | hge
   ·have:=ot b1 b1
    have:=mz d (Nat.le_of_lt ik)
    omega
   ·have:=ot b2 b2
    have:=me e hge
    omega
theorem APv {r x m:Nat} (h:x^m % r=1 % r) (k:Nat):x^(m*k) % r=1 % r:=by
 rw [pq,nz,h,← nz,Nat.one_pow]
theorem APw {r x:Nat}:∀ (m n:Nat),x^m % r=1 % r→x^n % r=1 % r→x^(Nat.gcd m n) % r=1 % r:=by
 intro m n;induction m,n using Nat.gcd.induction with
 | H0 n=>intro _ h;rwa [Nat.gcd_zero_left]
 | H1 m n hm ih =>
  intro h1 h2;rw [Nat.gcd_rec];refine ih ?_ h1
  have e:=md n m;rw [← e,jr,kj,APv h1,← kj,pj] at h2;exact h2
theorem bP {N q h a r:Nat} (hN:N=h*q+1) (hq:Prime q) (h1:a^(N-1) % N=1) (h2:Nat.gcd (a^h % N+N-1) N=1) (hr:Prime r) (hrN:r∣N):q∣r-1:=by
 have hr2:=hr.1;have e1:(a^h)^q % r=1 % r:=by
  rw [← pq,show h*q=N-1 by omega,← uo _ hrN,h1]
 have hN1:1≤N:=dk
 have e2:a^h % r≠1:=fun e=>by
  have hd:r∣a^h % N+N-1:=by
   refine rf ?_
   have:(a^h % N+N-1+1) % r=1 % r:=by
    rw [Nat.sub_add_cancel dk,og,uo _ hrN,e,qo hrN,nl]
   have:=XR this dk
   exact qo (by simpa using this)
  have:=Nat.dvd_gcd hd hrN
  rw [h2] at this;have:=l_ dl this
  omega
 have hnd:¬ r∣a^h:=fun hd=>by
  have:r∣(a^h)^q:=by
   obtain ⟨k,hk⟩:=hd;have hq2:=hq.1;obtain ⟨j,rfl⟩:∃ j,q=j+1:=⟨q-1,dk⟩
   exact ⟨(a^h)^j*k,by rw [kt,mj,← hk]⟩
  rw [qo this,jk dk] at e1;cases e1
 have e3:=RV hr hnd;by_cases hd:q∣r-1
 ·exact hd
 ·exfalso
  have hc:=hq.coprime hd;have:=APw q (r-1) e1 (by rw [e3,jk dk])
  rw [hc,Nat.pow_one,jk (a:=1) dk] at this;exact e2 this
theorem APx {N q h a:Nat} (hN:N=h*q+1) (hq:Prime q) (hh:h<q) (h0:0<h) (h1:a^(N-1) % N=1) (h2:Nat.gcd (a^h % N+N-1) N=1):Prime N:=by
 have hq2:=hq.1;have ie:1*1≤h*q:=ot h0 dk
 refine bO dk fun r hr hrN=>?_
 have:=l_ (by have:=hr.1;omega) (bP hN hq h1 h2 hr hrN)
 have ir:q+1≤r:=by have:=hr.1;omega
 have:=ot ir ir
 have h3:h*q≤q*q:=me q dk
 rw [qs,Nat.mul_succ] at this;omega
theorem APy {N q h a q' h' a':Nat} (hN:N=h*q+1) (hq:Prime q) (h1:a^(N-1) % N=1) (h2:Nat.gcd (a^h % N+N-1) N=1) (hN':N=h'*q'+1) (hq':Prime q') (h1':a'^(N-1) % N=1) (h2':Nat.gcd (a'^h' % N+N-1) N=1)
  (iq:q<q') (hbig:N<(q*q'+1)*(q*q'+1)) (hN2:2≤N):Prime N:=by
 refine bO hN2 fun r hr hrN=>?_
 have d1:=bP hN hq h1 h2 hr hrN;have d2:=bP hN' hq' h1' h2' hr hrN;have hc:Nat.Coprime q q':=hq.coprime fun hd=>by
  rcases hq'.2 q hd with e | e
  ·have:=hq.1;omega
  ·omega
 have:=l_ (by have:=hr.1;omega) (hc.mul_dvd_of_dvd_of_dvd d1 d2)
 have ir:q*q'+1≤r:=by have:=hr.1;omega
 exact kr hbig (ot ir ir)
def XS (n:Nat):Nat→Nat→Bool
 | 0,_=>true
 | f+1,d=>match n % d with
  | 0=>false
  | _+1=>XS n f (d+1)
theorem ADr (n:Nat):∀ (f d:Nat),XS n f d=true→∀ e,d≤e→e<d+f→¬ e∣n
 | 0,d,_,e,h1,h2=>dk
 | f+1,d,h,e,h1,h2=>by
  unfold XS at h;split at h
  ·cases h
  ·rename_i k hk;rcases Nat.eq_or_lt_of_le h1 with rfl | ik
   ·intro hd;rw [qo hd] at hk;cases hk
   ·exact ADr n f (d+1) h e dk dk
theorem APz {n f:Nat} (h2:2≤n) (h:XS n f 2=true) (hb:n<(f+2)*(f+2)):Prime n:=by
 refine bO h2 fun q hq hd=>?_
 rcases jv q (f+2) with ik | hge
 ·exact absurd hd (ADr n f 2 h q hq.1 dk)
 ·exact kr hb (ot hge hge)
def Pe (m x:Nat):Nat→Nat→Nat
 | 0,_=>1 % m
 | f+1,e=>(match e % 2 with
  | 0=>Pe m (x*x % m) f (e / 2)
  | _=>x*Pe m (x*x % m) f (e / 2) % m)
theorem rK (m:Nat):∀ (f x e:Nat),e<2^f→Pe m x f e=x^e % m
 | 0,x,e,h=>by
  have:e=0:=by simpa using h
  subst this;rfl
 | f+1,x,e,h=>by
  have ih:=rK m f (x*x % m) (e / 2) (by rw [kt] at h;omega)
  have h2:(x*x % m)^(e / 2) % m=x^(2*(e / 2)) % m:=by
   rw [← nz,pq,r_]
  unfold Pe;rcases nf e with h0 | h1
  ·rw [h0];show Pe m (x*x % m) f (e / 2)=_;rw [ih,h2,show 2*(e / 2)=e by omega]
  ·rw [h1];show x*Pe m (x*x % m) f (e / 2) % m=_;rw [ih,h2,kj,m_,← kj,← se,show (2*(e / 2)).succ=e by omega]
def RW (N q h a f:Nat):Bool:=Nat.beq N (h*q+1)&&(Nat.ble (N-1+1) (2^f)&&(Nat.beq (Pe N a f (N-1)) 1&&Nat.beq (Nat.gcd (Pe N a f h+N-1) N) 1))
theorem bQ {N q h a f:Nat} (h0:RW N q h a f=true) (hq:0<q):N=h*q+1∧a^(N-1) % N=1∧Nat.gcd (a^h % N+N-1) N=1:=by
 unfold RW at h0;simp only [jm] at h0;obtain ⟨c1,c2,c3,c4⟩:=h0;have e1:=mn c1;have e2:=jf c2;have e3:=mn c3;have e4:=mn c4;have ir:h*1≤h*q:=mz h hq
 rw [rK N f a _ dk] at e3;rw [rK N f a _ dk] at e4;exact ⟨e1,e3,e4⟩
theorem Hw {n f:Nat} (h:(Nat.ble 2 n&&(XS n f 2&&Nat.blt n ((f+2)*(f+2))))=true):Prime n:=by
 simp only [jm] at h;exact APz (jf h.1) h.2.1 (jf h.2.2)
theorem J1 {N q h a f:Nat} (hq:Prime q) (hb:(RW N q h a f&&(Nat.blt h q&&Nat.blt 0 h))=true):Prime N:=by
 simp only [jm] at hb;have hq2:=hq.1;obtain ⟨e1,e2,e3⟩:=bQ hb.1 dk;exact APx e1 hq (jf hb.2.1) (jf hb.2.2) e2 e3
theorem AP0:Prime 421987:=Hw (f:=650) dj
theorem AP1:Prime 755057:=Hw (f:=870) dj
theorem AP2:Prime 13090036741:=J1 (q:=421987) (h:=31020) (a:=2) (f:=64) AP0 dj
theorem AP3 {N q h a q' h' a' f:Nat} (hq:Prime q) (hq':Prime q') (hb:(RW N q h a f&&(RW N q' h' a' f&&(Nat.blt q q'&&(Nat.blt N ((q*q'+1)*(q*q'+1))&&Nat.ble 2 N))))=true):Prime N:=by
 simp only [jm] at hb;obtain ⟨b1,b2,b3,b4,b5⟩:=hb;have hq2:=hq.1;have hq2':=hq'.1;obtain ⟨e1,e2,e3⟩:=bQ b1 dk;obtain ⟨d1,d2,d3⟩:=bQ b2 dk;exact APy e1 hq e2 e3 d1 hq' d2 d3 (jf b3) (jf b4) (jf b5)
theorem AP4:Prime 3819663927398918131021:=AP3 (h:=(3819663927398918131021-1) / 755057) (a:=2) (h':=(3819663927398918131021-1) / 13090036741) (a':=2) (f:=128) AP1 AP2 dj
theorem AP5:Prime 1125266252156850182658904441386709967:=J1 (h:=294598235223046) (a:=2) (f:=128) AP4 dj
theorem prQ:Prime 15778400344354997994418419698270088123916926905054652752758194827714659:=J1 (h:=14021926201120671579994175730661374) (a:=2) (f:=256) AP5 dj
theorem prp:Prime 4002409555221667393417789825735904156556882819939007885332058136124031650490837864442687629129015664037894272559787:=J1 (h:=253663835868735594330404923636534084567099854) (a:=2) (f:=384) prQ dj
theorem AP8 {p x y:Nat} (hp:Prime p) (hx:x<p) (hy:y<p) (h:x*x % p=y*y % p):x=y∨x+y=p:=by
 have gen:∀ {x y:Nat},x<p→y≤x→x*x % p=y*y % p→x=y∨x+y=p:=by
  intro x y hx ir h;have hd:=XR h (ot ir ir)
  have e:x*x-y*y=(x+y)*(x-y):=Nat.mul_self_sub_mul_self_eq x y
  rw [e] at hd;rcases hp.dvd_mul hd with h1 | h1
  ·rcases lk (x+y) with h0 | h0
   ·left;omega
   ·obtain ⟨k,hk⟩:=h1;right
    have:k=1:=by
     rcases jv k 2 with h2 | h2
     ·rcases lk k with h3 | h3
      ·subst h3;omega
      ·omega
     ·have:=mz p h2;omega
    subst this;omega
  ·left
   rcases lk (x-y) with h0 | h0
   ·omega
   ·have:=l_ h0 h1;omega
 rcases jv x y with h1 | h1
 ·rcases gen hy (Nat.le_of_lt h1) h.symm with e | e
  ·exact .inl e.symm
  ·exact .inr dk
 ·exact gen hx h1 h
theorem AP9 {p x:Nat} (hp:Prime p) (h2:2<p) (h:x*x % p=1):x % p=1∨x % p=p-1:=by
 have h':x % p*(x % p) % p=1*1 % p:=by rw [← kj,h,kb,jk dk]
 rcases AP8 hp (jw x dk) (show 1<p by omega) h' with e | e
 ·exact .inl e
 ·exact .inr dk
theorem ADs {p a:Nat} (hp:Prime p) (h2:2<p) (hodd:p % 2=1) (ha:¬ p∣a):a^((p-1) / 2) % p=1∨a^((p-1) / 2) % p=p-1:=by
 refine AP9 hp h2 ?_
 rw [← r_,← pq,show (p-1) / 2*2=p-1 by omega]
 exact RV hp ha
theorem AP_ {p a:Nat} (h4:p % 4=3):a^((p+1) / 4) % p*(a^((p+1) / 4) % p) % p=a*(a^((p-1) / 2)) % p:=by
 rw [← kj,← jr,← se];congr 2
 omega
theorem AP' {p a:Nat} (hp:0<p):a*(p-1) % p=(p-a % p) % p:=by
 have h1:(a*(p-1)+a) % p=0:=by
  have:a*(p-1)+a=a*p:=by
   have:=Nat.mul_sub a p 1
   have h2:a*1≤a*p:=mz a hp
   omega
  rw [this,Nat.mul_mod_left]
 have hl:=jw a hp;have hl2:=jw (a*(p-1)) hp
 have h3:(a*(p-1) % p+a % p) % p=0:=by rw [← og];exact h1
 have h4:=md (a*(p-1) % p+a % p) p
 rw [h3] at h4;rcases lk (a % p) with h0 | h0
 ·rw [h0] at h4 ⊢;have:(a*(p-1) % p+0) / p=0:=lm dk
  rw [this] at h4;rw [pc,Nat.mod_self];omega
 ·rw [jk (a:=p-a % p) dk];have:(a*(p-1) % p+a % p) / p=1:=by
   have l1:(a*(p-1) % p+a % p) / p<2:=li dk
   rcases lk ((a*(p-1) % p+a % p) / p) with e | e
   ·rw [e] at h4;omega
   ·omega
  rw [this] at h4;omega
theorem AQA {p a:Nat} (hp:Prime p) (h4:p % 4=3) (ha:¬ p∣a):a^((p+1) / 4) % p*(a^((p+1) / 4) % p) % p=a % p↔a^((p-1) / 2) % p=1:=by
 have h2:2<p:=dk
 have hz:a % p≠0:=fun h=>ha (rf h)
 have ik:=jw a (show 0<p by omega)
 rw [AP_ h4,kj];rcases ADs hp h2 dk ha with h | h
 ·rw [h,kb,m_];simp
 ·rw [h,AP' dk,m_,jk (a:=p-a % p) dk];constructor
  ·intro h3;omega
  ·intro h3;omega
theorem AQB (p a b e:Nat):(a*b % p)^e % p=(a^e % p)*(b^e % p) % p:=by
 rw [← nz,Nat.mul_pow,kj]
section
variable {p:Nat} [NeZero p]
def EA (p:Nat) [NeZero p] (x:Nat):Fin p:=Fin.ofNat p x
theorem LL (x:Nat):(EA p x).val=x % p:=rfl
theorem bS {x y:Nat}:EA p x=EA p y↔x % p=y % p:=by
 rw [pu,LL,LL]
theorem ADt (x:Nat):EA p (x % p)=EA p x:=by rw [bS,m_]
theorem ADu (x y:Nat):EA p (x+y)=EA p x+EA p y:=by
 rw [pu,Fin.val_add,LL,LL,LL,← og]
theorem ADv (x y:Nat):EA p (x*y)=EA p x*EA p y:=by
 rw [pu,Fin.val_mul,LL,LL,LL,← kj]
theorem ADw:EA p 0=0:=by rw [pu,LL];simp
theorem AQC:EA p 1=1:=rfl
theorem rL:EA p p=0:=by rw [pu,LL];simp
theorem rM {x y:Nat} (h:y≤x):EA p (x-y)=EA p x-EA p y:=by
 have:EA p (x-y)+EA p y=EA p x:=by rw [← ADu,Nat.sub_add_cancel h]
 rw [← this];grind
theorem AQD (x:Nat):EA p (p-x % p)=- EA p x:=by
 have hp:0<p:=rv (NeZero.ne p)
 rw [rM (Nat.le_of_lt (jw x hp)),rL,ADt];grind
theorem rO {x:Nat}:EA p x=0↔p∣x:=by
 rw [← ADw,bS,oz];exact ⟨rf,qo⟩
theorem AQE {x y:Nat} (hx:x<p) (hy:y<p) (h:EA p x=EA p y):x=y:=by
 have:=bS.1 h
 rwa [jk hx,jk hy] at this
theorem AQF (hp:Prime p) {a b:Fin p} (h:a*b=0):a=0∨b=0:=by
 have e:∀ x:Fin p,EA p x.val=x:=fun x=>by rw [pu,LL,jk x.isLt]
 rw [← e a,← e b,← ADv,rO] at h;rw [← e a,← e b,rO,rO];exact hp.dvd_mul h
end
end Go.Proofs.YtgnajdcdcblaoaaGreat.Num
namespace Go.Proofs.YtgnajdcdcblaoaaGreat
abbrev fv:Nat:=0x73eda753299d7d483339d80809a1d80553bda402fffe5bfeffffffff00000001
end Go.Proofs.YtgnajdcdcblaoaaGreat
namespace Go.Proofs.YtgnajdcdcblaoaaGreat.Num
set_option maxRecDepth 100000
set_option maxHeartbeats 4000000
theorem ADx {m:Nat}:∀ {l:List Nat},(∀ q∈l,Prime q)→l.Nodup→(∀ q∈l,q∣m)→BV l∣m
 | [],_,_,_=>Nat.one_dvd m
 | q::l,hp,hn,hd=>by
  obtain ⟨h1,h2⟩:=qp.1 hn;have hq:=hp q (by simp)
  have hc:Nat.Coprime q (BV l):=hq.coprime (rJ hq fun x hx e=>by
   rcases (hp x (by simp [hx])).2 q e with e | e
   ·have:=hq.1;omega
   ·exact h1 (e▸hx))
  exact hc.mul_dvd_of_dvd_of_dvd (hd q (by simp)) (ADx (fun x hx=>hp x (by simp [hx])) h2 fun x hx=>hd x (by simp [hx]))
def rP (N a f:Nat):List Nat→Bool
 | []=>true
 | q::l=>RW N q ((N-1) / q) a f&&rP N a f l
theorem ADy {N a f:Nat}:∀ {l:List Nat},rP N a f l=true→∀ q∈l,RW N q ((N-1) / q) a f=true
 | [],_,_,h=>by cases h
 | x::l,h,q,hq=>by
  have h':=jo.1 h;rcases ju.1 hq with rfl | hq
  ·exact h'.1
  ·exact ADy h'.2 q hq
theorem ADz {N a f:Nat} {l:List Nat} (hl:∀ q∈l,Prime q) (hn:l.Nodup) (hb:(rP N a f l&&(Nat.blt N ((BV l+1)*(BV l+1))&&Nat.ble 2 N))=true):Prime N:=by
 simp only [jm] at hb;obtain ⟨b1,b2,b3⟩:=hb;have hN2:=jf b3;refine bO hN2 fun r hr hrN=>?_
 have hd:BV l∣r-1:=ADx hl hn fun q hq=>by
  have:=(hl q hq).1
  obtain ⟨e1,e2,e3⟩:=bQ (ADy b1 q hq) dk
  exact bP e1 (hl q hq) e2 e3 hr hrN
 have hr2:=hr.1;have:=l_ dk hd
 have ir:BV l+1≤r:=dk
 exact kr (jf b2) (ot ir ir)
theorem AQG:Prime 254760293:=Hw (f:=15962) dj
theorem AQH:Prime 52437899:=Hw (f:=7242) dj
theorem AQI:Prime 2529403:=Hw (f:=1591) dj
theorem AQJ:Prime 2508409:=Hw (f:=1584) dj
theorem AQK:Prime 906349:=Hw (f:=953) dj
theorem AQL:Prime 859267:=Hw (f:=927) dj
theorem prR:Prime fv :=
 ADz (a:=2) (f:=255) (l:=[254760293,52437899,2529403,2508409,906349,859267])
  (by
   intro q hq;simp only [ju,List.not_mem_nil,or_false] at hq;rcases hq with rfl | rfl | rfl | rfl | rfl | rfl
   ·exact AQG
   ·exact AQH
   ·exact AQI
   ·exact AQJ
   ·exact AQK
   ·exact AQL)
  dl dj
end Go.Proofs.YtgnajdcdcblaoaaGreat.Num
namespace Go.Proofs.YtgnajdcdcblaoaaGreat.Num
theorem AQN:Prime 1367711:=Hw (f:=1170) dj
theorem AQO:Prime 541:=Hw (f:=30) dj
theorem AQP:Prime 12192593745179 :=
 ADz (a:=2) (f:=64) (l:=[1367711,541])
  (by
   intro q hq;simp only [ju,List.not_mem_nil,or_false] at hq;rcases hq with rfl | rfl
   ·exact AQN
   ·exact AQO)
  dl dj
theorem AQQ:Prime 512088937297519:=J1 (q:=12192593745179) (h:=42) (a:=2) (f:=64) AQP dj
theorem AQR:Prime 1857858664515398933:=J1 (q:=512088937297519) (h:=3628) (a:=2) (f:=64) AQQ dj
theorem AQS:Prime 22294303974184787197:=J1 (q:=1857858664515398933) (h:=12) (a:=2) (f:=128) AQR dj
theorem AQT:Prime 19931107752921199754119:=J1 (q:=22294303974184787197) (h:=894) (a:=2) (f:=128) AQS dj
theorem AQU:Prime 81162125843606155545104998607900118769099783:=J1 (q:=19931107752921199754119) (h:=4072133212551150901578) (a:=2) (f:=192) AQT dj
theorem AQV:Prime 26935696298915610574513298451669528361624243820491956655650666425177:=J1 (q:=81162125843606155545104998607900118769099783) (h:=331875194481953911837672) (a:=2) (f:=256) AQU dj
theorem AQW:Prime 4638704574076146691498289350639807119782054683906549022985642612861209609656189848749536921852444848596916990932297:=J1 (q:=26935696298915610574513298451669528361624243820491956655650666425177) (h:=172214021222941014338396330402661971150362189448) (a:=2) (f:=384) AQV dj
theorem prT:Prime 402096035359507321594726366720466575392706800671181159425656785868777272553337714697862511267018014931937703598282857976535744623203249:=J1 (q:=4638704574076146691498289350639807119782054683906549022985642612861209609656189848749536921852444848596916990932297) (h:=86682828996409959984) (a:=2) (f:=448) AQW dj
end Go.Proofs.YtgnajdcdcblaoaaGreat.Num
namespace Go.Proofs.YtgnajdcdcblaoaaGreat
open Ex Num
theorem pN_prime:Num.Prime pN:=prp
theorem pN4:pN % 4=3:=dj
theorem rS:2<pN:=dl
theorem AQZ:QN=(pN+1) / 4:=dj
noncomputable def Nt (a:Nat):Nat:=a^((pN-1) / 2) % pN
theorem AD0 {a:Nat}:pN∣a↔a % pN=0:=⟨qo,rf⟩
theorem AD1 {a:Nat} (h:a % pN≠0):Cq a=true↔Nt a=1:=by
 unfold Cq Ah Nt;rw [LI,AQZ,ji];exact AQA pN_prime pN4 fun hd=>h (AD0.1 hd)
theorem AQa {a:Nat} (h:a % pN=0):Cq a=true:=by
 unfold Cq Ah;rw [LI,ji,nz,h,Nat.zero_pow dl];rfl
theorem AD2 {a:Nat} (h:a % pN≠0):Nt a=1∨Nt a=pN-1:=ADs pN_prime rS XQ fun hd=>h (AD0.1 hd)
theorem AQb (a b:Nat):Nt (Ah a b)=Nt a*Nt b % pN:=AQB pN a b _
theorem rT {a:Nat} (h:a % pN≠0):Cq a=decide (Nt a=1):=by
 have:=AD1 h
 cases hb:Cq a with
 | true=>rw [jc (this.1 hb)]
 | false=>rw [jg fun e=>by rw [this.2 e] at hb;cases hb]
theorem mm:(pN-1)*(pN-1) % pN=1:=dj
theorem m1:(pN-1)*1 % pN=pN-1:=dj
theorem m1':1*(pN-1) % pN=pN-1:=dj
theorem AQd {a b:Nat} (h:Ah a b≠0):a % pN≠0∧b % pN≠0:=by
 constructor
 ·intro e;apply h;unfold Ah;rw [kj,e,pe,oz]
 ·intro e;apply h;unfold Ah;rw [kj,e,ll,oz]
theorem Mm (a b:Nat):Ah a b<pN:=jw _ DB
theorem AQe {a b:Nat} (h:Ah a b≠0):Cq (Ah a b)=(Cq a==Cq b):=by
 obtain ⟨ha,hb⟩:=AQd h;rw [rT (by rw [jk (Mm a b)];exact h),rT ha,rT hb,AQb]
 rcases AD2 ha with e | e<;>rcases AD2 hb with e' | e'<;>rw [e,e']
 ·rfl
 ·rw [m1'];rfl
 ·rw [m1];rfl
 ·rw [mm];rfl
theorem neg_sq {v:Nat} (hl:v<pN):(pN-v)*(pN-v) % pN=v*v % pN:=by
 obtain ⟨u,hu⟩:∃ u,pN=u+v:=⟨pN-v,dk⟩
 rw [show pN-v=u by omega]
 have e:u*u+v*pN=v*v+u*pN:=by rw [hu,nj,nj,jy v u];omega
 have h1:(u*u+v*pN) % pN=u*u % pN:=Nat.add_mul_mod_self_right _ _ _
 have h2:(v*v+u*pN) % pN=v*v % pN:=Nat.add_mul_mod_self_right _ _ _
 rw [← h1,e,h2]
theorem AQf (w:Nat):Ah (Hv w) (Hv w)=Ah w w:=by
 unfold Hv;split
 ·unfold Ah DC;rw [← kj];by_cases h:w % pN=0
  ·rw [h,pc,kj pN,Nat.mod_self,kj w,h]
  ·have e:(pN-w % pN)*(pN-w % pN) % pN=(w % pN)*(w % pN) % pN:=by
    have hl:=Hs w;generalize w % pN=v at *
    exact neg_sq hl
   rw [e,← kj]
 ·rfl
theorem AQg {w:Nat} (h:w<pN):Hv w % 2=0∧Hv w<pN:=by
 have ho:=XQ;unfold Hv;split
 ·rename_i hs;have h1:w % 2=1:=by unfold E3 at hs;rw [jk h] at hs;omega
  have hz:w % pN≠0:=by rw [jk h];omega
  rw [APr hz,jk h];omega
 ·rename_i hs;have h1:w % 2≠1:=fun e=>by apply hs;unfold E3;rw [jk h];omega
  omega
theorem AD3 (a e:Nat):DD a e<pN:=by rw [LI];exact jw _ DB
theorem rU {a:Nat} (h:Cq a=true):Ah (D_ a) (D_ a)=a % pN∧D_ a % 2=0∧D_ a<pN:=by
 have e:D_ a=Hv (DD a QN):=by unfold D_;rw [je h]
 obtain ⟨q1,q2⟩:=AQg (AD3 a QN)
 rw [e,AQf];refine ⟨?_,q1,q2⟩
 unfold Cq at h;exact jx h
abbrev ep:List Bool:=[false,false,true]
abbrev e_:List Bool:=[false,true,true]
abbrev fb:List Bool:=[false,false,false]
abbrev fh:List Bool:=[false,true,false]
open Ex
set_option maxRecDepth 100000
set_option maxHeartbeats 4000000
def lenL:List UInt8:=[0,1]++(List.replicate 2 2++(List.replicate 4 3++(List.replicate 8 4++(List.replicate 16 5++(List.replicate 32 6++(List.replicate 64 7++List.replicate 128 8))))))
def lenT:ByteArray:=⟨⟨lenL⟩⟩
def Bh (x:Int) (k:Nat):Int:=Int.fdiv x (2^k)
theorem AQh (x:Int):AM dm (AH S5 K0) f285 [.val false [.v (.int .u64 x)]] [true,true,true] 100 =
 some ([(decide (4294967296≤x),true),(decide (0≤(32:Int)∧0≤x),true),(decide (65536≤(Bh x 32)),true),(decide (0≤(16:Int)∧0≤(Bh x 32)),true),(decide (256≤(Bh (Bh x 32) 16)),true),(decide (0≤(8:Int)∧0≤(Bh (Bh x 32) 16)),true),(decide (0≤AX false .u8 (Bh (Bh (Bh x 32) 16) 8)∧AX false .u8 (Bh (Bh (Bh x 32) 16) 8)<(lenT.size:Int)),true)],DY (AX false .i64 (AX true .i64 (AX true .i64 (32+16)+8)+AX false .i64 (GL lenT (AX false .u8 (Bh (Bh (Bh x 32) 16) 8)))))):=dj
theorem AQi (x:Int):AM dm (AH S5 K0) f285 [.val false [.v (.int .u64 x)]] [true,true,false] 100 =
 some ([(decide (4294967296≤x),true),(decide (0≤(32:Int)∧0≤x),true),(decide (65536≤(Bh x 32)),true),(decide (0≤(16:Int)∧0≤(Bh x 32)),true),(decide (256≤(Bh (Bh x 32) 16)),false),(decide (0≤AX false .u8 (Bh (Bh x 32) 16)∧AX false .u8 (Bh (Bh x 32) 16)<(lenT.size:Int)),true)],DY (AX false .i64 (AX true .i64 (32+16)+AX false .i64 (GL lenT (AX false .u8 (Bh (Bh x 32) 16)))))):=dj
theorem AQj (x:Int):AM dm (AH S5 K0) f285 [.val false [.v (.int .u64 x)]] eg 100 =
 some ([(decide (4294967296≤x),true),(decide (0≤(32:Int)∧0≤x),true),(decide (65536≤(Bh x 32)),false),(decide (256≤(Bh x 32)),true),(decide (0≤(8:Int)∧0≤(Bh x 32)),true),(decide (0≤AX false .u8 (Bh (Bh x 32) 8)∧AX false .u8 (Bh (Bh x 32) 8)<(lenT.size:Int)),true)],DY (AX false .i64 (AX true .i64 (32+8)+AX false .i64 (GL lenT (AX false .u8 (Bh (Bh x 32) 8)))))):=dj
theorem AQk (x:Int):AM dm (AH S5 K0) f285 [.val false [.v (.int .u64 x)]] ew 100 =
 some ([(decide (4294967296≤x),true),(decide (0≤(32:Int)∧0≤x),true),(decide (65536≤(Bh x 32)),false),(decide (256≤(Bh x 32)),false),(decide (0≤AX false .u8 (Bh x 32)∧AX false .u8 (Bh x 32)<(lenT.size:Int)),true)],DY (AX false .i64 (32+AX false .i64 (GL lenT (AX false .u8 (Bh x 32)))))):=dj
theorem AQl (x:Int):AM dm (AH S5 K0) f285 [.val false [.v (.int .u64 x)]] e_ 100 =
 some ([(decide (4294967296≤x),false),(decide (65536≤x),true),(decide (0≤(16:Int)∧0≤x),true),(decide (256≤(Bh x 16)),true),(decide (0≤(8:Int)∧0≤(Bh x 16)),true),(decide (0≤AX false .u8 (Bh (Bh x 16) 8)∧AX false .u8 (Bh (Bh x 16) 8)<(lenT.size:Int)),true)],DY (AX false .i64 (AX true .i64 (AX true .i64 (0+16)+8)+AX false .i64 (GL lenT (AX false .u8 (Bh (Bh x 16) 8)))))):=dj
theorem AQm (x:Int):AM dm (AH S5 K0) f285 [.val false [.v (.int .u64 x)]] fh 100 =
 some ([(decide (4294967296≤x),false),(decide (65536≤x),true),(decide (0≤(16:Int)∧0≤x),true),(decide (256≤(Bh x 16)),false),(decide (0≤AX false .u8 (Bh x 16)∧AX false .u8 (Bh x 16)<(lenT.size:Int)),true)],DY (AX false .i64 (AX true .i64 (0+16)+AX false .i64 (GL lenT (AX false .u8 (Bh x 16)))))):=dj
theorem AQn (x:Int):AM dm (AH S5 K0) f285 [.val false [.v (.int .u64 x)]] ep 100 =
 some ([(decide (4294967296≤x),false),(decide (65536≤x),false),(decide (256≤x),true),(decide (0≤(8:Int)∧0≤x),true),(decide (0≤AX false .u8 (Bh x 8)∧AX false .u8 (Bh x 8)<(lenT.size:Int)),true)],DY (AX false .i64 (AX true .i64 (0+8)+AX false .i64 (GL lenT (AX false .u8 (Bh x 8)))))):=dj
theorem AQo (x:Int):AM dm (AH S5 K0) f285 [.val false [.v (.int .u64 x)]] fb 100 =
 some ([(decide (4294967296≤x),false),(decide (65536≤x),false),(decide (256≤x),false),(decide (0≤AX false .u8 x∧AX false .u8 x<(lenT.size:Int)),true)],DY (AX false .i64 (0+AX false .i64 (GL lenT (AX false .u8 x))))):=dj
def Pf (x L top:Nat):Prop:=x<2^L∧(0<x→1≤L∧2^(L-1)≤x)∧L≤top
def F5 (v:Nat):Nat:=(lenL.getD v 0).toNat
def rV (x L:Nat):Bool:=Nat.blt x (2^L)&&((Nat.beq x 0||(Nat.ble 1 L&&Nat.ble (2^(L-1)) x))&&Nat.ble L 8)
def rZ:Nat→Bool
 | 0=>true
 | n+1=>rV n (F5 n)&&rZ n
theorem AD4:∀ n,rZ n=true→∀ v,v<n→rV v (F5 v)=true
 | 0,_,v,h=>dk
 | n+1,h,v,hv=>by
  simp only [rZ,jm] at h;rcases jv v n with h1 | h1
  ·exact AD4 n h.2 v h1
  ·have:v=n:=dk
   subst this;exact h.1
theorem AD5 {v:Nat} (h:v<256):Pf v (F5 v) 8:=by
 have:=AD4 256 dj v h
 unfold rV at this;simp only [jm,rx] at this;obtain ⟨h1,h2,h3⟩:=this;refine ⟨jf h1,fun hp=>?_,jf h3⟩
 rcases h2 with h2 | ⟨h2,h4⟩
 ·have:=mn h2;omega
 ·exact ⟨jf h2,jf h4⟩
theorem r7 {x L top:Nat} (k:Nat) (h:Pf (x / 2^k) L top) (hx:2^k≤x):Pf x (k+L) (k+top):=by
 obtain ⟨h1,h2,h3⟩:=h;have hp:0<2^k:=mi dl
 have hq:0<x / 2^k:=Nat.div_pos hx hp
 obtain ⟨h4,h5⟩:=h2 hq;refine ⟨?_,fun _=>⟨dk,?_⟩,dk⟩
 ·rw [jr];exact (tk hp).1 h1 |> fun q=>by rwa [jy] at q
 ·rw [show k+L-1=k+(L-1) by omega,jr]
  have:=(Nat.le_div_iff_mul_le hp).1 h5
  rwa [jy] at this
theorem r9 {x L top top':Nat} (h:Pf x L top) (ir:top≤top'):Pf x L top':=⟨h.1,h.2.1,mb h.2.2 ir⟩
def Pg (x:Nat):Nat:=if 256≤x then 8+F5 (x / 2^8) else F5 x
def UP (x:Nat):Nat:=if 65536≤x then 16+Pg (x / 2^16) else Pg x
def F6 (x:Nat):Nat:=if 4294967296≤x then 32+UP (x / 2^32) else UP x
theorem AD6 {x:Nat} (h:x<65536):Pf x (Pg x) 16:=by
 unfold Pg;split
 ·exact r7 8 (AD5 dk) dk
 ·exact r9 (AD5 dk) dl
theorem AD7 {x:Nat} (h:x<4294967296):Pf x (UP x) 32:=by
 unfold UP;split
 ·exact r7 16 (AD6 dk) dk
 ·exact r9 (AD6 dk) dl
theorem AD8 {x:Nat} (h:x<18446744073709551616):Pf x (F6 x) 64:=by
 unfold F6;split
 ·exact r7 32 (AD7 dk) dk
 ·exact r9 (AD7 dk) dl
theorem Nu (x k:Nat):Bh (x:Int) k=((x / 2^k:Nat):Int):=by
 unfold Bh;rw [qm _ (by exact_mod_cast qi (2^k))]
 rw [ri,p_];rfl
theorem XT (c:Bool) {z:Int} (h:-9223372036854775808≤z∧z≤9223372036854775807):AX c .i64 z=z:=by
 rw [DT];exact Au h
theorem AD9 {v:Nat} (h:v<256):AX false .u8 (v:Int)=v:=by
 rw [DT,IntKind.wrap_u8];omega
theorem AQp {v:Nat}:GL lenT (v:Int)=((F5 v:Nat):Int):=by
 unfold GL F5 lenT;rw [jn]
theorem AQq:lenT.size=256:=dj
theorem AQr (v:Nat):F5 v≤255:=by
 have:=(lenL.getD v 0).toNat_lt
 unfold F5;omega
theorem AQs (x:Nat) (hx:x<18446744073709551616):AU dm 285 [.val false [.v (.int .u64 (x:Int))]] (DY (F6 x)):=by
 have pk:=fun (c:dp) (v:AV) (p:List Bool) (h:AM dm (AH S5 K0) f285 [.val false [.v (.int .u64 (x:Int))]] p 100=some (c,v)) (hc:AO c) (hk:PK v=true)=>AP (AJ bD Ae) AB func285 h hc hk
 have fin:∀ (n v m:Nat),v<256→n≤56→n+F5 v=m→DY (AX false .i64 ((n:Int)+AX false .i64 (GL lenT (AX false .u8 (v:Int)))))=DY (m:Int):=by
  intro n v m hv hn he;have:=AQr v
  rw [AD9 hv,AQp,XT (z:=((F5 v:Nat):Int)) _ dk,XT _ dk];congr 1;omega
 have w0:∀ (z:Int),AX true .i64 z=wI z:=fun z=>DT ..
 have cnd:∀ v:Nat,v<256→decide (0≤AX false .u8 (v:Int)∧AX false .u8 (v:Int)<(lenT.size:Int))=true:=by
  intro v hv;rw [AD9 hv,AQq];simp;omega
 unfold F6;by_cases h1:4294967296≤x
 ·rw [je h1];unfold UP;have s1:=Nu x 32;generalize hy:x / 2^32=y at *
  have hyb:y<4294967296:=dk
  by_cases h2:65536≤y
  ·rw [je h2];unfold Pg;have s2:=Nu y 16;generalize hz:y / 2^16=z at *
   have hzb:z<65536:=dk
   by_cases h3:256≤z
   ·rw [je h3];have s3:=Nu z 8;have hb:z / 2^8<256:=dk
    have r:=AQh (x:Int)
    rw [s1,s2,s3] at r;have h:=pk _ _ _ r ⟨by simp;omega,by simp,by simp;omega,by simp,by simp;omega,by simp,cnd _ hb,trivial⟩ rfl
    have e:AX true .i64 (AX true .i64 (32+16)+8)=((56:Nat):Int):=dj
    rw [e,fin 56 _ (32+(16+(8+F5 (z / 2^8)))) hb dl dk] at h;exact h
   ·rw [jd h3];have hb:z<256:=dk
    have r:=AQi (x:Int)
    rw [s1,s2] at r;have h:=pk _ _ _ r ⟨by simp;omega,by simp,by simp;omega,by simp,by simp;omega,cnd _ hb,trivial⟩ rfl
    have e:AX true .i64 (32+16)=((48:Nat):Int):=dj
    rw [e,fin 48 _ (32+(16+F5 z)) hb dl dk] at h;exact h
  ·rw [jd h2];unfold Pg;by_cases h3:256≤y
   ·rw [je h3];have s3:=Nu y 8;have hb:y / 2^8<256:=dk
    have r:=AQj (x:Int)
    rw [s1,s3] at r;have h:=pk _ _ _ r ⟨by simp;omega,by simp,by simp;omega,by simp;omega,by simp,cnd _ hb,trivial⟩ rfl
    have e:AX true .i64 (32+8)=((40:Nat):Int):=dj
    rw [e,fin 40 _ (32+(8+F5 (y / 2^8))) hb dl dk] at h;exact h
   ·rw [jd h3];have hb:y<256:=dk
    have r:=AQk (x:Int)
    rw [s1] at r;have h:=pk _ _ _ r ⟨by simp;omega,by simp,by simp;omega,by simp;omega,cnd _ hb,trivial⟩ rfl
    rw [show (32:Int)=((32:Nat):Int) from rfl,fin 32 _ (32+F5 y) hb dl dk] at h
    exact h
 ·rw [jd h1];unfold UP;by_cases h2:65536≤x
  ·rw [je h2];unfold Pg;have s2:=Nu x 16;generalize hz:x / 2^16=z at *
   have hzb:z<65536:=dk
   by_cases h3:256≤z
   ·rw [je h3];have s3:=Nu z 8;have hb:z / 2^8<256:=dk
    have r:=AQl (x:Int)
    rw [s2,s3] at r;have h:=pk _ _ _ r ⟨by simp;omega,by simp;omega,by simp,by simp;omega,by simp,cnd _ hb,trivial⟩ rfl
    have e:AX true .i64 (AX true .i64 (0+16)+8)=((24:Nat):Int):=dj
    rw [e,fin 24 _ (16+(8+F5 (z / 2^8))) hb dl dk] at h;exact h
   ·rw [jd h3];have hb:z<256:=dk
    have r:=AQm (x:Int)
    rw [s2] at r;have h:=pk _ _ _ r ⟨by simp;omega,by simp;omega,by simp,by simp;omega,cnd _ hb,trivial⟩ rfl
    have e:AX true .i64 (0+16)=((16:Nat):Int):=dj
    rw [e,fin 16 _ (16+F5 z) hb dl dk] at h;exact h
  ·rw [jd h2];unfold Pg;by_cases h3:256≤x
   ·rw [je h3];have s3:=Nu x 8;have hb:x / 2^8<256:=dk
    have r:=AQn (x:Int)
    rw [s3] at r;have h:=pk _ _ _ r ⟨by simp;omega,by simp;omega,by simp;omega,by simp,cnd _ hb,trivial⟩ rfl
    have e:AX true .i64 (0+8)=((8:Nat):Int):=dj
    rw [e,fin 8 _ (8+F5 (x / 2^8)) hb dl dk] at h;exact h
   ·rw [jd h3];have hb:x<256:=dk
    have r:=AQo (x:Int)
    have h:=pk _ _ _ r ⟨by simp;omega,by simp;omega,by simp;omega,cnd _ hb,trivial⟩ rfl
    rw [show (0:Int)=((0:Nat):Int) from rfl,fin 0 _ (F5 x) hb dl dk] at h
    exact h
open Ex
def bT:List IntKind→List AV→Option (dn)
 | [],[]=>some []
 | k::ks,A::r=>match Bv (some A),bT ks r with
  | some (_,k',i),some l=>match decide (k'=k) with
   | true=>some (i::l)
   | false=>none
  | _,_=>none
 | _,_=>none
def sA:List IntKind→dn→List AV
 | k::ks,i::is=>.val false [.v (.int k i)]::sA ks is
 | _,_=>[]
def sF:List IntKind→dn→Prop
 | k::ks,i::is=>has k i∧sF ks is
 | _,_=>True
theorem AD_:∀ {ks:List IntKind} {args:List AV} {is:dn} {us:List Value},bT ks args=some is→BI CE args us→BI CE (sA ks is) us∧sF ks is
 | [],[],is,us,h,hr=>by
  injection h with h;subst h;exact ⟨hr,trivial⟩
 | [],_::_,_,_,h,_=>by cases h
 | _::_,[],_,_,h,_=>by cases h
 | k::ks,A::r,is,us,h,hr=>by
  unfold bT at h;split at h
  ·rename_i c k' i l hi hl;split at h
   ·rename_i hk;injection h with h;subst h;have hk':k'=k:=by simpa using hk
    subst hk';obtain ⟨u,us',r1,r2,rfl⟩:=hr;obtain ⟨q1,q2⟩:=UF hi r1;obtain ⟨p1,p2⟩:=AD_ hl r2;exact ⟨⟨u,us',q1,p1,rfl⟩,q2,p2⟩
   ·cases h
  ·cases h
def UQ (ks:List IntKind) (g:dn→Option (dp×AV)):List AV→Option (dp×AV):=fun args=>match bT ks args with
 | some is=>g is
 | none=>none
theorem bU {f:FuncId} {ks:List IntKind} {g:dn→Option (dp×AV)} (h:∀ is c v,g is=some (c,v)→sF ks is→AO c→AU dm f (sA ks is) v) :
  ∀ args c v,UQ ks g args=some (c,v)→AO c→AU dm f args v:=by
 intro args c v hs hc us w ha;unfold UQ at hs;split at hs
 ·rename_i is his;obtain ⟨q1,q2⟩:=AD_ his ha;exact h is c v hs q2 hc us w q1
 ·cases hs
def bV (g:Int→dp×AV):dn→Option (dp×AV)
 | [x]=>some (g x)
 | _=>none
noncomputable def S20:dr:=(285,FY (UQ [.u64] (bV fun x=>([],DY (F6 x.toNat)))))::S19
theorem AD':AW dm S20:=⟨GS func285 dj dj (bU fun is c v h hh _=>by
 unfold bV at h;split at h
 ·injection h with h;injection h with h1 h2;subst h1;subst h2;rename_i x;have hb:=ES hh.1;obtain ⟨X,rfl⟩:=ki hb.1;rw [jn];exact AQs X dk
 ·cases h),APo⟩
theorem AQt (x:Int):AM dm (AH S20 K0) f258 [.val false [.v (.int .u64 x)]] [] 100=some ([],DY (wI (64-(F6 x.toNat:Int)))):=dj
theorem AQu (x:Nat) (hx:x<18446744073709551616):AU dm 258 [.val false [.v (.int .u64 (x:Int))]] (DY (64-F6 x:Nat)):=by
 have h:=AP (AJ AD' Ae) AB func258 (AQt x) trivial rfl
 have:=(AD8 hx).2.2
 rw [jn,Au dk,show (64:Int)-(F6 x:Int)=((64-F6 x:Nat):Int) by omega] at h
 exact h
noncomputable def S21:dr:=(258,FY (UQ [.u64] (bV fun x=>([],DY (64-F6 x.toNat:Nat)))))::S20
theorem Hx:AW dm S21:=⟨GS func258 dj dj (bU fun is c v h hh _=>by
 unfold bV at h;split at h
 ·injection h with h;injection h with h1 h2;subst h1;subst h2;rename_i x;have hb:=ES hh.1;obtain ⟨X,rfl⟩:=ki hb.1;rw [jn];exact AQu X dk
 ·cases h),AD'⟩
abbrev dz:List Bool:=[false,false]
open Ex
set_option maxRecDepth 100000
set_option maxHeartbeats 4000000
def dA (h l y:Int):List AV:=[.val false [.v (.int .u64 h)],.val false [.v (.int .u64 l)],.val false [.v (.int .u64 y)]]
noncomputable def AQv:List Item:=CB (AY dm (AH S21 K0) (some 0) 300 0 none (Aj f204 (dA 0 0 0) [] 0 fb))
def uV (x:Int):AV:=.val false [.v (.int .u64 x)]
noncomputable def dT1 (Y s y1 y0 u u1 u0 q r:Int):List AV:=.any::.any::uV Y::.any::.any::.any::.any::.any::uV s::uV y1::uV y0::uV u::.any::uV u1::uV u0::uV q::uV r::List.replicate (f204.ntmps-17) .any
noncomputable def Mn (Y s y1 y0 u u1 u0 q r:Int) (p:List Bool):gq:=⟨AQv,⟨dT1 Y s y1 y0 u u1 u0 q r,[],0,p⟩⟩
noncomputable def AQx:List Item:=CB (AY dm (AH S21 K0) (some 0) 300 0 none (Mn 0 0 0 0 0 0 0 0 0 dz))
noncomputable def dT2 (Y s y1 y0 u0 q r v z:Int):List AV:=.any::.any::uV Y::.any::.any::.any::.any::.any::uV s::uV y1::uV y0::.any::.any::.any::uV u0::uV q::uV r::uV v::uV z::List.replicate (f204.ntmps-19) .any
noncomputable def J3 (Y s y1 y0 u0 q r v z:Int) (p:List Bool):gq:=⟨AQx,⟨dT2 Y s y1 y0 u0 q r v z,[],0,p⟩⟩
def XU (x s:Int):Int:=mW (x*2^min s.toNat 64)
def LM (x s:Int):Int:=Int.fdiv x (2^min s.toNat 64)
def Ph (y:Int):Int:=mW ((64-F6 y.toNat:Nat):Int)
def Mo (y:Int):Int:=XU y (Ph y)
def UR (h l y:Int):Int:=bits .or .u64 (XU h (Ph y)) (LM l (mW (64-Ph y)))
def XV (l y:Int):Int:=XU l (Ph y)
abbrev K1:Option (List Nat×List Nat×Nat):=some ([2,8,9,10,11,13,14,15,16],[],0)
abbrev K2:Option (List Nat×List Nat×Nat):=some ([2,8,9,10,14,15,16,17,18],[],0)
theorem AQz (h l y:Int):AY dm (AH S21 K0) (some 0) 300 0 K1 (Aj f204 (dA h l y) [] 0 fb) =
 some ([(decide (y=0),false),(decide (y≤h),false),(decide (h=0),false),(true,true),(decide (0≤(32:Int)∧0≤Mo y),true),(true,true),(decide (0≤mW (64-Ph y)∧0≤l),true),(true,true),
  (decide (0≤(32:Int)∧0≤XV l y),true),(decide (LM (Mo y) 32≠0),true)],[],
  Mn (Mo y) (Ph y) (LM (Mo y) 32) (bits .and .u64 (Mo y) 4294967295) (UR h l y) (LM (XV l y) 32) (bits .and .u64 (XV l y) 4294967295) (mW (Int.tdiv (UR h l y) (LM (Mo y) 32)))
   (mW (UR h l y-mW (mW (Int.tdiv (UR h l y) (LM (Mo y) 32))*LM (Mo y) 32))) []):=dj
theorem AQ0 (h l y:Int):FH dm (AH S21 K0) f204 300 0 (Aj f204 (dA h l y) [] 0 ep) =
 some ([(decide (y=0),false),(decide (y≤h),false),(decide (h=0),true),(decide (y≠0),true),(decide (0≤l∧0<y),true)],[],.tup [(false,[.v (.int .u64 (mW (Int.tdiv l y)))]),(false,[.v (.int .u64 (Int.tmod l y))])]):=dj
def Mp (q r y0 u1:Int):Bool:=decide (mW (mW (4294967296*r)+u1)<mW (q*y0))
section
variable (Y s y1 y0 u u1 u0 q r v z:Int)
theorem AQ1:AY dm (AH S21 K0) (some 0) 300 0 K1 (Mn Y s y1 y0 u u1 u0 q r d_) =
 some ([(decide (4294967296≤q),true),(decide (4294967296≤mW (r+y1)),false)],[],Mn Y s y1 y0 u u1 u0 (mW (q-1)) (mW (r+y1)) []):=dj
theorem AQ2:AY dm (AH S21 K0) (some 0) 300 0 K1 (Mn Y s y1 y0 u u1 u0 q r fh) =
 some ([(decide (4294967296≤q),false),(Mp q r y0 u1,true),(decide (4294967296≤mW (r+y1)),false)],[],Mn Y s y1 y0 u u1 u0 (mW (q-1)) (mW (r+y1)) []):=dj
def F7 (Y u u1 q:Int):Int:=mW (mW (mW (u*4294967296)+u1)-mW (q*Y))
theorem AQ3:AY dm (AH S21 K0) (some 0) 300 0 K2 (Mn Y s y1 y0 u u1 u0 q r dw) =
 some ([(decide (4294967296≤q),true),(decide (4294967296≤mW (r+y1)),true),(decide (y1≠0),true)],[],
  J3 Y s y1 y0 u0 (mW (q-1)) (mW (F7 Y u u1 (mW (q-1))-mW (mW (Int.tdiv (F7 Y u u1 (mW (q-1))) y1)*y1))) (F7 Y u u1 (mW (q-1))) (mW (Int.tdiv (F7 Y u u1 (mW (q-1))) y1)) []):=dj
theorem AQ4:AY dm (AH S21 K0) (some 0) 300 0 K2 (Mn Y s y1 y0 u u1 u0 q r e_) =
 some ([(decide (4294967296≤q),false),(Mp q r y0 u1,true),(decide (4294967296≤mW (r+y1)),true),(decide (y1≠0),true)],[],
  J3 Y s y1 y0 u0 (mW (q-1)) (mW (F7 Y u u1 (mW (q-1))-mW (mW (Int.tdiv (F7 Y u u1 (mW (q-1))) y1)*y1))) (F7 Y u u1 (mW (q-1))) (mW (Int.tdiv (F7 Y u u1 (mW (q-1))) y1)) []):=dj
theorem AEA:AY dm (AH S21 K0) (some 0) 300 0 K2 (Mn Y s y1 y0 u u1 u0 q r dz) =
 some ([(decide (4294967296≤q),false),(Mp q r y0 u1,false),(decide (y1≠0),true)],[],
  J3 Y s y1 y0 u0 q (mW (F7 Y u u1 q-mW (mW (Int.tdiv (F7 Y u u1 q) y1)*y1))) (F7 Y u u1 q) (mW (Int.tdiv (F7 Y u u1 q) y1)) []):=dj
theorem AQ5:AY dm (AH S21 K0) (some 0) 300 0 K2 (J3 Y s y1 y0 u0 q r v z d_) =
 some ([(decide (4294967296≤z),true),(decide (4294967296≤mW (r+y1)),false)],[],J3 Y s y1 y0 u0 q (mW (r+y1)) v (mW (z-1)) []):=dj
theorem AQ6:AY dm (AH S21 K0) (some 0) 300 0 K2 (J3 Y s y1 y0 u0 q r v z fh) =
 some ([(decide (4294967296≤z),false),(Mp z r y0 u0,true),(decide (4294967296≤mW (r+y1)),false)],[],J3 Y s y1 y0 u0 q (mW (r+y1)) v (mW (z-1)) []):=dj
def XW (Y s u0 q v z:Int):AV:=.tup [(false,[.v (.int .u64 (mW (mW (q*4294967296)+z)))]),(false,[.v (.int .u64 (LM (F7 Y v u0 z) s))])]
theorem AQ7:FH dm (AH S21 K0) f204 300 0 (J3 Y s y1 y0 u0 q r v z dw) =
 some ([(decide (4294967296≤z),true),(decide (4294967296≤mW (r+y1)),true),(decide (0≤s∧0≤F7 Y v u0 (mW (z-1))),true)],[],XW Y s u0 q v (mW (z-1))):=dj
theorem AQ8:FH dm (AH S21 K0) f204 300 0 (J3 Y s y1 y0 u0 q r v z e_) =
 some ([(decide (4294967296≤z),false),(Mp z r y0 u0,true),(decide (4294967296≤mW (r+y1)),true),(decide (0≤s∧0≤F7 Y v u0 (mW (z-1))),true)],[],XW Y s u0 q v (mW (z-1))):=dj
theorem AEB:FH dm (AH S21 K0) f204 300 0 (J3 Y s y1 y0 u0 q r v z dz) =
 some ([(decide (4294967296≤z),false),(Mp z r y0 u0,false),(decide (0≤s∧0≤F7 Y v u0 z),true)],[],XW Y s u0 q v z):=dj
end
open Ex
theorem bW {u u1 Y q:Nat} (hu:u<Y) (hu1:u1<4294967296) (hq:4294967296≤q):(u*4294967296+u1) / Y<q:=by
 refine kr (li ?_) hq
 rw [jy Y];omega
theorem AEC {u u1 y1 y0 Y q r:Nat} (hY:Y=y1*4294967296+y0) (hu:u=q*y1+r) (h:4294967296*r+u1<q*y0):(u*4294967296+u1) / Y<q:=by
 refine li ?_
 have e1:(q*y1+r)*4294967296=q*y1*4294967296+r*4294967296:=k_ ..
 have e2:(y1*4294967296+y0)*q=q*y1*4294967296+q*y0:=by rw [k_,jy y0 q,rp,jy y1 q]
 rw [hY,hu,e1,e2];omega
theorem bX {u u1 y1 y0 Y q r:Nat} (hY:Y=y1*4294967296+y0) (ie:0<Y) (hu:u=q*y1+r) (h:q*y0≤4294967296*r+u1) (ir:(u*4294967296+u1) / Y≤q):(u*4294967296+u1) / Y=q:=by
 refine Nat.le_antisymm ir ((Nat.le_div_iff_mul_le ie).2 ?_)
 rw [hY,hu,nj,← kx];omega
theorem AED {q y0 r u1:Nat} (hq:q≤4294967297) (hy:y0<4294967296) (hr:4294967296≤r):q*y0≤4294967296*r+u1:=by
 have:=ot hq (show y0≤4294967295 by omega)
 omega
theorem AEE {u u1 y1 y0 Y:Nat} (hY:Y=y1*4294967296+y0) (hy1:0<y1) (hu1:u1<4294967296):(u*4294967296+u1) / Y≤u / y1:=by
 refine (Nat.le_div_iff_mul_le hy1).2 ?_
 have h:=qj (u*4294967296+u1) Y
 generalize (u*4294967296+u1) / Y=q at *
 rw [hY,nj,← kx] at h;generalize q*y1=A at *
 generalize q*y0=B at *
 omega
theorem AEF {u y1 y0 Y:Nat} (hY:Y=y1*4294967296+y0) (hy0:y0<4294967296) (hy1:2147483648≤y1) (hu:u<Y):u / y1≤4294967298:=by
 have hb:u<4294967299*y1:=dk
 have:=(tk (show 0<y1 by omega)).2 hb
 omega
theorem US {Y u u1 q:Nat} (h:q=(u*4294967296+u1) / Y) (ie:0<Y) (hY:Y≤18446744073709551616):F7 Y u u1 q=(((u*4294967296+u1) % Y:Nat):Int):=by
 have h1:=md (u*4294967296+u1) Y
 have h2:=jw (u*4294967296+u1) ie
 rw [← h,jy] at h1;unfold F7;simp only [F4];have e:(q:Int)*(Y:Int)=((q*Y:Nat):Int):=by rw [kz]
 rw [e];generalize q*Y=N at *
 generalize (u*4294967296+u1) % Y=m at *
 omega
theorem bY {q r y0 u1:Nat} (hq:q<4294967296) (hr:r<4294967296) (hy:y0<4294967296) (hu1:u1<4294967296):Mp q r y0 u1=decide (4294967296*r+u1<q*y0):=by
 have hm:=ot (show q≤4294967295 by omega) (show y0≤4294967295 by omega)
 unfold Mp;simp only [F4];have e:(q:Int)*(y0:Int)=((q*y0:Nat):Int):=by rw [kz]
 rw [e];generalize q*y0=N at *
 have e1:(4294967296*(r:Int)) % 18446744073709551616=4294967296*(r:Int):=dk
 rw [e1];have e2:(4294967296*(r:Int)+u1) % 18446744073709551616=4294967296*(r:Int)+u1:=dk
 have e3:((N:Nat):Int) % 18446744073709551616=N:=dk
 rw [e2,e3];by_cases h:4294967296*r+u1<N
 ·rw [jc h,jc dk]
 ·rw [jg h,jg dk]
theorem AEG (v y1:Nat) (hv:v<18446744073709551616) (hy1:0<y1):mW (Int.tdiv (v:Int) y1)=((v / y1:Nat):Int)∧mW ((v:Int)-mW (mW (Int.tdiv (v:Int) y1)*y1))=((v % y1:Nat):Int):=by
 have h1:=md v y1;have h2:=jw v hy1;have h3:=qn v y1;have e0:Int.tdiv (v:Int) y1=((v / y1:Nat):Int):=by rw [pv dk];rfl
 rw [e0,RQ,jk dk];refine ⟨rfl,?_⟩
 have e1:((v / y1:Nat):Int)*(y1:Int)=((v / y1*y1:Nat):Int):=by rw [kz]
 rw [e1,RQ,F4,jy];generalize y1*(v / y1)=N at *
 omega
theorem AEH {q:Nat} (h:0<q) (hq:q≤18446744073709551616):mW ((q:Int)-1)=((q-1:Nat):Int):=by rw [F4];omega
theorem AEI {r y1:Nat} (hr:r<4294967296) (hy:y1<4294967296):mW ((r:Int)+y1)=((r+y1:Nat):Int):=by rw [F4];omega
def XY (q z m s:Nat):AV:=.tup [(false,[.v (.int .u64 ((q*4294967296+z:Nat):Int))]),(false,[.v (.int .u64 ((m / 2^min s 64:Nat):Int))])]
theorem sG (x s:Nat):LM (x:Int) (s:Int)=((x / 2^min s 64:Nat):Int):=by
 unfold LM;rw [jn];exact Nu x _
section
variable {Y s y1 y0 u0:Nat} (hY:Y=y1*4294967296+y0) (hy0:y0<4294967296) (hy1:2147483648≤y1) (hy1':y1<4294967296) (hu0:u0<4294967296) (w0:World)
include hY hy0 hy1 hy1' hu0
theorem AQ9 {v q:Nat} (hv:v<Y) (hq:q<4294967296):∀ z r,v=z*y1+r→r<4294967296→z≤4294967298→(v*4294967296+u0) / Y≤z →
  gn dm 204 CE w0 (Hp w0 (XY q ((v*4294967296+u0) / Y) ((v*4294967296+u0) % Y) s)) f204.ntmps [] (J3 Y s y1 y0 u0 q r v z []):=by
 have ie:0<Y:=dk
 have hYle:Y≤18446744073709551616:=dk
 have fin:∀ z:Nat,z=(v*4294967296+u0) / Y→XW Y s u0 q v z=XY q ((v*4294967296+u0) / Y) ((v*4294967296+u0) % Y) s:=by
  intro z hz;have ik:z<4294967296:=by rw [hz];exact bW hv hu0 (jj _)
  unfold XW XY;rw [US hz ie hYle,sG,← hz];have:mW (mW ((q:Int)*4294967296)+(z:Int))=((q*4294967296+z:Nat):Int):=by rw [F4,F4];omega
  rw [this]
 have pos21:∀ z:Nat,z=(v*4294967296+u0) / Y→decide (0≤(s:Int)∧0≤F7 Y v u0 z)=true:=by
  intro z hz;rw [US hz ie hYle];simp only [ji];omega
 intro z;induction z with
 | zero =>
  intro r hz hr _ ir;have hq0:(v*4294967296+u0) / Y=0:=Nat.le_zero.1 ir
  have hdc:Mp ((0:Nat):Int) r y0 u0=false:=by rw [bY dl hr hy0 hu0];simp
  rw [← fin 0 hq0.symm];exact Af dz (IU (AJ Hx Ae) AB func204 (AEB ..) ⟨by simp,hdc,pos21 0 hq0.symm,trivial⟩ (AS dj) (fun _ _=>rfl) rfl)
 | succ z ih =>
  intro r hz hr htop ir;have hdq:=AEH (q:=z+1) dk dk
  have hir:=AEI hr hy1';rw [Nat.add_sub_cancel] at hdq;have hz':v=z*y1+(r+y1):=by rw [hz,qs];omega
  have go:∀ (ik:(v*4294967296+u0) / Y<z+1),(4294967296≤r+y1→(v*4294967296+u0) / Y=z):=fun ik hb =>
   bX hY ie hz' (AED dk hy0 hb) dk
  by_cases hbig:4294967296≤z+1
  ·have ik:=bW hv hu0 hbig;by_cases hb:4294967296≤r+y1
   ·have hq:=go ik hb;have h:=IU (w0:=w0) (β0:=CE) (n:=f204.ntmps) (AJ Hx Ae) AB func204 (AQ7 Y s y1 y0 u0 q r v (z+1:Nat)) ⟨by simp;omega,by rw [hir];simp;omega,by rw [hdq];exact pos21 z hq.symm,trivial⟩ (AS dj) (fun _ _=>rfl) rfl
    rw [hdq,fin z hq.symm] at h;exact Af dw h
   ·refine Af d_ (Ai (AJ Hx Ae) AB (AQ5 Y s y1 y0 u0 q r v (z+1:Nat)) ⟨by simp;omega,by rw [hir];simp;omega,trivial⟩ (AS dj) (fun _ _=>rfl) jb fun _=>?_)
    rw [hdq,hir];exact ih (r+y1) hz' dk dk dk
  ·have hsm:z+1<4294967296:=dk
   have hdc:=bY (u1:=u0) hsm hr hy0 hu0
   by_cases hc:4294967296*r+u0<(z+1)*y0
   ·have ik:=AEC hY hz hc;by_cases hb:4294967296≤r+y1
    ·have hq:=go ik hb;have h:=IU (w0:=w0) (β0:=CE) (n:=f204.ntmps) (AJ Hx Ae) AB func204 (AQ8 Y s y1 y0 u0 q r v (z+1:Nat)) ⟨by simp;omega,by rw [hdc];exact jc hc,by rw [hir];simp;omega,by rw [hdq];exact pos21 z hq.symm,trivial⟩ (AS dj) (fun _ _=>rfl) rfl
     rw [hdq,fin z hq.symm] at h;exact Af e_ h
    ·refine Af fh (Ai (AJ Hx Ae) AB (AQ6 Y s y1 y0 u0 q r v (z+1:Nat)) ⟨by simp;omega,by rw [hdc];exact jc hc,by rw [hir];simp;omega,trivial⟩ (AS dj) (fun _ _=>rfl) jb fun _=>?_)
     rw [hdq,hir];exact ih (r+y1) hz' dk dk dk
   ·have hq:=bX hY ie hz dk ir;rw [← fin (z+1) hq.symm];exact Af dz (IU (AJ Hx Ae) AB func204 (AEB ..) ⟨by simp;omega,by rw [hdc];exact jg hc,pos21 _ hq.symm,trivial⟩ (AS dj) (fun _ _=>rfl) rfl)
theorem AQ_ {u u1:Nat} (hu:u<Y) (hu1:u1<4294967296) {R:Ending→World→Prop}
  (ij:gn dm 204 CE w0 R f204.ntmps [] (J3 Y s y1 y0 u0 ((u*4294967296+u1) / Y:Nat) ((u*4294967296+u1) % Y % y1:Nat) ((u*4294967296+u1) % Y:Nat) ((u*4294967296+u1) % Y / y1:Nat) [])) :
  ∀ q r,u=q*y1+r→r<4294967296→q≤4294967298→(u*4294967296+u1) / Y≤q→gn dm 204 CE w0 R f204.ntmps [] (Mn Y s y1 y0 u u1 u0 q r []):=by
 have _h:=hu0;have ie:0<Y:=dk
 have hYle:Y≤18446744073709551616:=dk
 have hm:=jw (u*4294967296+u1) ie
 have iq:decide ((y1:Int)≠0)=true:=by simp only [ji];omega
 obtain ⟨n1,n2⟩:=AEG ((u*4294967296+u1) % Y) y1 dk dk
 intro q;induction q with
 | zero =>
  intro r hz hr _ ir;have hq0:((0:Nat))=(u*4294967296+u1) / Y:=(Nat.le_zero.1 ir).symm
  have hdc:Mp ((0:Nat):Int) r y0 u1=false:=by rw [bY dl hr hy0 hu1];simp
  refine Af dz (Ai (AJ Hx Ae) AB (AEA Y s y1 y0 u u1 u0 (0:Nat) r) ⟨by simp,hdc,iq,trivial⟩ (AS dj) (fun _ _=>rfl) jb fun _=>?_)
  rw [US hq0 ie hYle,n2,n1];rw [hq0];exact ij
 | succ q ih =>
  intro r hz hr htop ir;have hdq:=AEH (q:=q+1) dk dk
  have hir:=AEI hr hy1';rw [Nat.add_sub_cancel] at hdq;have hz':u=q*y1+(r+y1):=by rw [hz,qs];omega
  have go:∀ (ik:(u*4294967296+u1) / Y<q+1),(4294967296≤r+y1→(u*4294967296+u1) / Y=q):=fun ik hb =>
   bX hY ie hz' (AED dk hy0 hb) dk
  by_cases hbig:4294967296≤q+1
  ·have ik:=bW hu hu1 hbig;by_cases hb:4294967296≤r+y1
   ·have hq:=go ik hb;refine Af dw (Ai (AJ Hx Ae) AB (AQ3 Y s y1 y0 u u1 u0 (q+1:Nat) r) ⟨by simp;omega,by rw [hir];simp;omega,iq,trivial⟩ (AS dj) (fun _ _=>rfl) jb fun _=>?_)
    rw [hdq,US hq.symm ie hYle,n2,n1];rw [← hq];exact ij
   ·refine Af d_ (Ai (AJ Hx Ae) AB (AQ1 Y s y1 y0 u u1 u0 (q+1:Nat) r) ⟨by simp;omega,by rw [hir];simp;omega,trivial⟩ (AS dj) (fun _ _=>rfl) jb fun _=>?_)
    rw [hdq,hir];exact ih (r+y1) hz' dk dk dk
  ·have hsm:q+1<4294967296:=dk
   have hdc:=bY (u1:=u1) hsm hr hy0 hu1
   by_cases hc:4294967296*r+u1<(q+1)*y0
   ·have ik:=AEC hY hz hc;by_cases hb:4294967296≤r+y1
    ·have hq:=go ik hb;refine Af e_ (Ai (AJ Hx Ae) AB (AQ4 Y s y1 y0 u u1 u0 (q+1:Nat) r) ⟨by simp;omega,by rw [hdc];exact jc hc,by rw [hir];simp;omega,iq,trivial⟩ (AS dj) (fun _ _=>rfl) jb fun _=>?_)
     rw [hdq,US hq.symm ie hYle,n2,n1];rw [← hq];exact ij
    ·refine Af fh (Ai (AJ Hx Ae) AB (AQ2 Y s y1 y0 u u1 u0 (q+1:Nat) r) ⟨by simp;omega,by rw [hdc];exact jc hc,by rw [hir];simp;omega,trivial⟩ (AS dj) (fun _ _=>rfl) jb fun _=>?_)
     rw [hdq,hir];exact ih (r+y1) hz' dk dk dk
   ·have hq:=bX hY ie hz dk ir;refine Af dz (Ai (AJ Hx Ae) AB (AEA Y s y1 y0 u u1 u0 (q+1:Nat) r) ⟨by simp;omega,by rw [hdc];exact jg hc,iq,trivial⟩ (AS dj) (fun _ _=>rfl) jb fun _=>?_)
    rw [US hq.symm ie hYle,n2,n1];rw [← hq];exact ij
end
def C6:Nat:=18446744073709551616
theorem sH {x s:Nat} (hs:s≤64):XU (x:Int) (s:Int)=((x*2^s % C6:Nat):Int):=by
 unfold XU;rw [jn,mc hs];have:(x:Int)*2^s=((x*2^s:Nat):Int):=by rw [kz,p_];rfl
 rw [this,RQ];rfl
theorem sI {h s B:Nat} (hA:h*2^s<C6) (hB:B<2^s) (hs:s≤64):bits .or .u64 ((h*2^s:Nat):Int) (B:Int)=((h*2^s+B:Nat):Int):=by
 have ir:2^s≤2^64:=oy dl hs
 have:=(bits_nat .u64 64 dl (fun n h0 h1=>by rw [IntKind.wrap_u64];omega) (h*2^s) B hA dk).2
 rw [this,← Nat.shiftLeft_eq,Nat.shiftLeft_add_eq_or_of_lt hB]
theorem AQ' {y:Nat} (h0:0<y) (h1:y<C6):∃ s,s≤63∧64-F6 y=s∧9223372036854775808≤y*2^s∧y*2^s<C6:=by
 obtain ⟨b1,b2,b3⟩:=AD8 h1;obtain ⟨b4,b5⟩:=b2 h0;refine ⟨64-F6 y,dk,rfl,?_,?_⟩
 ·have:=me (2^(64-F6 y)) b5
  rw [← jr,show F6 y-1+(64-F6 y)=63 by omega] at this
  exact this
 ·have:=Nat.mul_lt_mul_of_pos_right b1 (show 0<2^(64-F6 y) from mi dl)
  rw [← jr,show F6 y+(64-F6 y)=64 by omega] at this
  exact this
theorem ARA {Y u u1 u0 b:Nat} (ie:0<Y):(u*(b*b)+(u1*b+u0)) / Y=(u*b+u1) / Y*b+((u*b+u1) % Y*b+u0) / Y∧(u*(b*b)+(u1*b+u0)) % Y=((u*b+u1) % Y*b+u0) % Y:=by
 have e:u*(b*b)+(u1*b+u0)=(u*b+u1) % Y*b+u0+Y*((u*b+u1) / Y*b):=by
  have h1:=md (u*b+u1) Y
  have:u*(b*b)+u1*b=(u*b+u1)*b:=by rw [k_,kx]
  rw [← mr,this]
  conv=>lhs;rw [← h1,k_]
  rw [kx];omega
 rw [e,uf _ _ ie,ug];exact ⟨dk,rfl⟩
theorem ARB {l s:Nat} (hl:l<C6) (hs:s≤63):l*2^s=l / 2^(64-s)*C6+l*2^s % C6∧l / 2^(64-s)<2^s:=by
 have e:C6=2^(64-s)*2^s:=by rw [← jr,show 64-s+s=64 by omega];rfl
 have hp:0<2^s:=mi dl
 constructor
 ·have h1:=md (l*2^s) C6
  have h2:l*2^s / C6=l / 2^(64-s):=by rw [e,Nat.mul_div_mul_right _ _ hp]
  rw [h2,jy C6] at h1;exact h1.symm
 ·refine li ?_
  rw [← e];exact hl
def bZ (h l y:Nat):AV:=.tup [(false,[.v (.int .u64 (((h*C6+l) / y:Nat):Int))]),(false,[.v (.int .u64 (((h*C6+l) % y:Nat):Int))])]
theorem ARC {h l y:Nat} (hh:h<y) (hl:l<C6) (hy:y<C6):AU dm 204 (dA h l y) (bZ h l y):=by
 refine Ni (gv:=[]) func204 dj dj fun w0=>?_
 have hy0:0<y:=dk
 by_cases hz:h=0
 ·subst hz;have h1:=IU (w0:=w0) (β0:=CE) (n:=f204.ntmps) (AJ Hx Ae) AB func204 (AQ0 ((0:Nat):Int) l y) ⟨by simp;omega,by simp;omega,by simp,by simp;omega,by simp;omega,trivial⟩ (AS dj) (fun _ _=>rfl) rfl
  have e1:mW (Int.tdiv (l:Int) y)=(((0*C6+l) / y:Nat):Int):=by
   rw [pv dk,pe,ka,← ri,RQ,jk (pr (qn l y) (show l<18446744073709551616 from hl))]
  have e2:Int.tmod (l:Int) y=(((0*C6+l) % y:Nat):Int):=by
   rw [oe dk,pe,ka];rfl
  rw [e1,e2] at h1;exact Af ep h1
 ·obtain ⟨s,hs,hls,hY1,hY2⟩:=AQ' hy0 hy;have hp:0<2^s:=mi dl
  obtain ⟨lo1,lo2⟩:=ARB hl hs;have es:Ph (y:Int)=(s:Int):=by
   unfold Ph;rw [jn,hls,RQ,jk dk]
  have eY:Mo (y:Int)=((y*2^s:Nat):Int):=by
   unfold Mo;rw [es,sH dk,jk hY2]
  have hA:h*2^s+2^s≤y*2^s:=by
   have:=me (2^s) (show h+1≤y from hh)
   rwa [k_,pj] at this
  have eu:UR (h:Int) (l:Int) (y:Int)=((h*2^s+l / 2^(64-s):Nat):Int):=by
   unfold UR;have e64:mW (64-(s:Int))=((64-s:Nat):Int):=by rw [F4];omega
   rw [es,e64,sH dk,jk dk,sG,mc (show 64-s≤64 by omega)]
   exact sI dk lo2 dk
  have el:XV (l:Int) (y:Int)=((l*2^s % C6:Nat):Int):=by
   unfold XV;rw [es,sH dk]
  generalize hYd:y*2^s=Y at *
  generalize hud:h*2^s+l / 2^(64-s)=u at *
  generalize hld:l*2^s % C6=ul at *
  have hul:ul<C6:=by rw [← hld];exact jw _ dl
  have hu:u<Y:=dk
  unfold C6 at hul hY2;have ent:=AQz (h:Int) (l:Int) (y:Int)
  have e32:∀ x:Nat,LM (x:Int) 32=((x / 4294967296:Nat):Int):=fun x=>sG x 32
  have eand:∀ x:Nat,x<18446744073709551616→bits .and .u64 (x:Int) 4294967295=((x % 4294967296:Nat):Int):=fun x hx=>by
   have:=XC (x:=(x:Int)) dk dk
   unfold RK at this;rw [this];omega
  have e64:mW (64-(s:Int))=((64-s:Nat):Int):=by rw [F4];omega
  rw [eY,eu,el,es,e32,e32,eand Y hY2,eand ul hul,e64] at ent;obtain ⟨n1,n2⟩:=AEG u (Y / 4294967296) dk dk
  rw [n2,n1] at ent;have hYs:Y=Y / 4294967296*4294967296+Y % 4294967296:=dk
  refine Af fb (Ai (AJ Hx Ae) AB ent ?_ (AS dj) (fun _ _=>rfl) jb fun _=>?_)
  ·refine ⟨by simp;omega,by simp;omega,by simp;omega,rfl,by simp,rfl,by simp,rfl,by simp,?_,trivial⟩
   simp only [ji];omega
  ·have hr1:=jw u (show 0<Y / 4294967296 by omega)
   have hdm:=md u (Y / 4294967296)
   rw [jy] at hdm;refine AQ_ hYs (jw _ dl) dk dk (jw ul dl) w0 hu dk ?_ (u / (Y / 4294967296)) (u % (Y / 4294967296)) hdm.symm dk (AEF hYs (jw _ dl) dk hu) (AEE hYs dk dk)
   have hYpos:0<Y:=dk
   generalize hu1:ul / 4294967296=u1 at *
   generalize hu0:ul % 4294967296=u0 at *
   have hv:=jw (u*4294967296+u1) hYpos
   have hq1:(u*4294967296+u1) / Y<4294967296:=bW hu dk (jj _)
   obtain ⟨g1,g2⟩:=ARA (u:=u) (u1:=u1) (u0:=u0) (b:=4294967296) hYpos
   have hN:u*(4294967296*4294967296)+(u1*4294967296+u0)=(h*C6+l)*2^s:=by
    rw [k_,lo1,← hud];have:u1*4294967296+u0=ul:=dk
    rw [this];show (h*2^s+l / 2^(64-s))*C6+ul=h*C6*2^s+(l / 2^(64-s)*C6+ul);rw [k_,rp h C6];omega
   rw [hN,← hYd] at g1 g2;rw [Nat.mul_div_mul_right _ _ hp] at g1;rw [Nat.mul_mod_mul_right] at g2;rw [hYd] at g1 g2;obtain ⟨v,hv'⟩:∃ v,v=(u*4294967296+u1) % Y:=⟨_,rfl⟩
   rw [← hv'] at hv g1 g2 ⊢;have hdm2:=md v (Y / 4294967296)
   rw [jy] at hdm2;have hr2:=jw v (show 0<Y / 4294967296 by omega)
   have fin:=AQ9 (s:=s) (u0:=u0) hYs (jw _ dl) dk dk (by rw [← hu0];exact jw _ dl) w0 hv hq1 (v / (Y / 4294967296)) (v % (Y / 4294967296)) hdm2.symm dk (AEF hYs (jw _ dl) dk hv) (AEE hYs dk (by rw [← hu0];exact jw _ dl))
   have eo:XY ((u*4294967296+u1) / Y) ((v*4294967296+u0) / Y) ((v*4294967296+u0) % Y) s=bZ h l y:=by
    unfold XY bZ;rw [← g1,← g2,mc (show s≤64 by omega),Nat.mul_div_cancel _ hp]
   rw [eo] at fin;exact fin
def AEJ:dn→Option (dp×AV)
 | [h,l,y]=>some ([(decide (h<y),true)],bZ h.toNat l.toNat y.toNat)
 | _=>none
noncomputable def S22:dr:=(204,FY (UQ [.u64,.u64,.u64] AEJ))::S21
theorem Mq:AW dm S22:=⟨GS func204 dj dj (bU fun is c v h hh hc=>by
 unfold AEJ at h;split at h
 ·rename_i h0 l0 y0;injection h with h;injection h with h1 h2;subst h1;subst h2;obtain ⟨q1,q2,q3,_⟩:=hh;have b1:=ES q1;have b2:=ES q2;have b3:=ES q3;obtain ⟨H,rfl⟩:=ki b1.1;obtain ⟨L,rfl⟩:=ki b2.1;obtain ⟨Y,rfl⟩:=ki b3.1;have ik:=hc.1;simp only [ji] at ik;rw [jn,jn,jn];exact ARC dk (show L<18446744073709551616 by omega) (show Y<18446744073709551616 by omega)
 ·cases h),Hx⟩
def hw (a b:Int):Int:=bits .or .u64 (Int.fdiv a (2^min (Int.toNat 1) 64)) (mW (b*2^min (Int.toNat 63) 64))
theorem RX {a b:Int} (ha:0≤a∧a<18446744073709551616) (hb:0≤b∧b<18446744073709551616):hw a b=a / 2+b % 2*9223372036854775808:=by
 obtain ⟨A,rfl⟩:=ki ha.1;obtain ⟨B,rfl⟩:=ki hb.1;unfold hw;have e1:Int.fdiv (A:Int) (2^min (Int.toNat 1) 64)=((A / 2:Nat):Int):=Nu A 1
 have e2:mW ((B:Int)*2^min (Int.toNat 63) 64)=((B % 2*2^63:Nat):Int):=by
  have:(B:Int)*2^min (Int.toNat 63) 64=((B*9223372036854775808:Nat):Int):=by rw [kz];rfl
  rw [this,RQ];omega
 have ik:A / 2<2^63:=dk
 have h:=sI (h:=B % 2) (s:=63) (B:=A / 2) (by unfold C6;omega) ik dl
 have comm:∀ x y:Int,bits .or .u64 x y=bits .or .u64 y x:=fun x y=>by simp only [bits,BitVec.or_comm]
 rw [e1,e2,comm,h];omega
def hwL (x:Nat) (h:Int):List Ch:=w6 (hw (AF x 0) (AF x 1)) (hw (AF x 1) (AF x 2)) (hw (AF x 2) (AF x 3)) (hw (AF x 3) (AF x 4)) (hw (AF x 4) (AF x 5)) (hw (AF x 5) h)
def Hy (x:Nat):gt:=⟨40,[.num 6 x],false⟩
def JL (x h:Nat):Nat:=(x+h % 2*RR) / 2
theorem ARD (x:Nat) (h:Int):AT dm (AH S22 K0) f213 300 1 [0] (Aj f213 [.val false [.p 0 0],.val false [.v (.int .u64 h)]] [(0,some (Hy x))] 1 []) =
 some (Jy 12,[0],.tup [],[(0,some ⟨40,hwL x h,false⟩)]):=dj
theorem ARE {x h:Nat} (hx:x<RR) (hh:h<18446744073709551616) {β:Env} {l:List Value} (hr:AQ β (hwL x h) l):AQ β [.num 6 (JL x h)] l:=by
 have b0:=B3 x 0;have b1:=B3 x 1;have b2:=B3 x 2;have b3:=B3 x 3;have b4:=B3 x 4;have b5:=B3 x 5;have hX:=RM (x:=x) (by rw [← DV];exact hx)
 have e0:=RX b0 b1;have e1:=RX b1 b2;have e2:=RX b2 b3;have e3:=RX b3 b4;have e4:=RX b4 b5;have e5:=RX (b:=(h:Int)) b5 dk
 have hb:∀ {a b:Int},0≤a∧a<18446744073709551616→0≤b∧b<18446744073709551616→0≤hw a b∧hw a b<18446744073709551616:=fun ha hb=>by rw [RX ha hb];omega
 have:=aW (β:=β) (u:=.agg ⟨l⟩) (y:=JL x h) (hb b0 b1) (hb b1 b2) (hb b2 b3) (hb b3 b4) (hb b4 b5) (hb b5 (show 0≤(h:Int)∧(h:Int)<18446744073709551616 by omega)) (by
  unfold JL Gw at *
  unfold RR;omega) ⟨l,hr,rfl⟩
 obtain ⟨l',h1,h2⟩:=this;injection h2 with h2;injection h2 with h2;subst h2;exact h1
theorem ARF {x h:Nat} (hx:x<RR) (hh:h<18446744073709551616):Ab dm 213 [.val false [.p 0 0],.val false [.v (.int .u64 (h:Int))]] [(0,some (Hy x))] 1 [0] (.tup []) [(0,some (Hy (JL x h)))]:=by
 intro β us w ha hg hf;have:=A7 func213 dj (ic:=[.val false [.p 0 0],.val false [.v (.int .u64 (h:Int))]]) (H0:=[(0,some (Hy x))]) (k0:=1) (gv:=[]) (W:=[0]) dj (fun β0 w0 hb=>Ay (AJ Mq Ae) AB func213 (ARD x h) (PZ _) (AS dj) hb (fun _ h=>h)) β us w ha hg hf
 exact Calls.mono this fun e w' h=>XG (fun _ _ hr=>ARE hx hh hr) h
def halfSpec:ASpec:=fun args H fr gv =>
 match args with
 | [.val false [.p k 0],A]=>match Bv (some A),AG H k with
  | some (_,.u64,h),some ⟨ty,c,false⟩=>match Nat.beq ty 40,DL 6 c with
   | true,some x=>some (BR [k] 1 fr 0 [0] (.tup []) [(0,some (Hy (JL x h.toNat)))] [] gv)
   | _,_=>none
  | _,_=>none
 | _=>none
theorem ARG {β:Env} {H:Heap} {w:World} {k:Nat} {b:gt} {c:List Ch} (g:Ex.Good β H w) (hk:AG H k=some b) (hc:∀ l,AQ β b.cs l→AQ (A9 β [k] 1) c l):Ex.Good (A9 β [k] 1) [(0,some ⟨b.ty,c,b.opn⟩)] w:=by
 refine XF (ρ:=[k]) (bs:=[⟨b.ty,c,b.opn⟩]) g (fun j d hj=>?_) fun i j d hi hr hij hj=>?_
 ·match j,hj with
  | 0,hj=>injection hj with hj;subst hj;exact ⟨b,hk,.inr ⟨rfl,rfl⟩,hc⟩
 ·match i,j,hi,hj,hij with
  | 0,0,_,_,q=>exact absurd rfl q
theorem ARH:BJ dm 213 halfSpec:=by
 refine HH func213 dj dj fun args H fr gv r h=>?_
 unfold halfSpec at h;split at h;case h_2=>cases h
 rename_i k A;split at h;case h_2=>cases h
 rename_i c0 i ty c hA hk;split at h;case h_2=>cases h
 rename_i x hty hx;injection h with h;have hty':=Ar.1 hty;subst hty';refine ⟨[k],[.val false [.p 0 0],.val false [.v (.int .u64 (i.toNat:Int))]],[(0,some (Hy x))],1,0,[0],.tup [],_,[],gv,h.symm,fun β us w ha hg hc=>?_⟩
 obtain ⟨u1,iu,r1,⟨u2,iw,r2,ha,rfl⟩,rfl⟩:=ha;obtain ⟨rfl,p1⟩:=DJ (β:=β) (u:=u2) (fun B hB=>by injection hB with hB;subst hB;exact r2) hA
 have hb:=ES p1;obtain ⟨l,g1⟩:=Jz hg hk;have hi:((i.toNat:Nat):Int)=i:=ud hb.1
 refine ⟨ARF (by rw [DV];exact (Hm hx g1).2) dk,dj,⟨u1,_,r1,⟨_,iw,?_,ha,rfl⟩,rfl⟩,ARG (c:=[.num 6 x]) hg hk (fun l h=>GQ hx h),fun j hj=>?_⟩
 ·rw [hi];exact Aw ⟨rfl,rfl,p1⟩
 ·match j,hj with
  | 0,_=>exact CS (hg.heap _ _ hk)
noncomputable def S23:dr:=(213,halfSpec)::S22
theorem XZ:AW dm S23:=⟨ARH,Mq⟩
def b8:List AV:=[.val false [.p 0 0],.val false [.p 1 0]]
def Nv (u x:Nat):Heap:=[(0,some (Hy u)),(1,some (Hy x))]
noncomputable def ARI:List Item:=CB (AY dm (AH S23 K0) (some 0) 300 2 none (Aj f152 b8 (Nv 0 0) 2 []))
noncomputable def evT:List AV:=.val false [.p 0 0]::.val false [.p 1 0]::List.replicate (f152.ntmps-2) .any
noncomputable def RY (u x:Nat) (p:List Bool):gq:=⟨ARI,⟨evT,Nv u x,2,p⟩⟩
abbrev KE:Option (List Nat×List Nat×Nat):=some ([0,1],[0,1],2)
def Nw (x:Nat):Int:=bits .and .u64 (AF x 0) 1
theorem ARK (u x:Nat):AY dm (AH S23 K0) (some 3) 300 2 KE (Aj f152 b8 (Nv u x) 2 [])=some ([],[],RY u x []):=dj
theorem ARL (u x:Nat):AY dm (AH S23 K0) (some 3) 300 2 KE (RY u x dw)=some ([(decide (Nw u=0),true),(decide (Nw x=0),true)],[0,1],RY (JL u 0) (JL x 0) []):=dj
theorem ARM (u x:Nat):AY dm (AH S23 K0) (some 3) 300 2 KE (RY u x d_) =
 some ([(decide (Nw u=0),true),(decide (Nw x=0),false),(CQ 0,true),(CQ (B6 x pN 1),true),(CQ (B6 x pN 2),true),(CQ (B6 x pN 3),true),(CQ (B6 x pN 4),true),(CQ (B6 x pN 5),true)],[0,1],
  RY (JL u 0) (JL (Nn x pN) (B6 x pN 6).toNat) []):=dj
theorem ARN (u x:Nat):AT dm (AH S23 K0) f152 300 2 [0,1] (RY u x dt)=some ([(decide (Nw u=0),false)],[],.tup [],Nv u x):=dj
def IZ (x:Nat):Nat:=if x % 2=0 then x / 2 else (x+pN) / 2
def HK:Nat→Nat→Nat→Nat×Nat
 | 0,u,x=>(u,x)
 | f+1,u,x=>if u % 2=0 then HK f (u / 2) (IZ x) else (u,x)
theorem AEL (x:Nat):Nw x=((x % 2:Nat):Int):=by
 unfold Nw;rw [rA,ADm _ dk];omega
theorem sJ (x:Nat):JL x 0=x / 2:=by unfold JL;simp
theorem ARO {x:Nat} (hx:x<RR):JL (Nn x pN) (B6 x pN 6).toNat=(x+pN) / 2:=by
 obtain ⟨h1,h2⟩:=qG (y:=pN) hx dl
 have:=GN x pN 6
 unfold JL;have h01:(B6 x pN 6).toNat=0∨(B6 x pN 6).toNat=1:=dk
 rcases h01 with e | e<;>rw [e] at h1 ⊢<;>congr 1<;>omega
theorem AEM {x:Nat} (h:x<RR):IZ x<RR:=by
 have hp:pN<RR:=dl
 unfold IZ;split<;>omega
theorem ARP {β0:Env} {w0:World} (hb:∀ b,2≤b→β0 b=none):∀ (f u x:Nat),0<u→u≤f→u<RR→x<RR →
  gn dm 152 β0 w0 (A_ β0 w0 [0,1] (.tup []) (Nv (HK f u x).1 (HK f u x).2)) f152.ntmps [0,1] (RY u x []):=by
 intro f;induction f with
 | zero=>intro u x h1 h2;omega
 | succ f ih =>
  intro u x h1 h2 hu hx;have ou:=AEL u;have ox:=AEL x;unfold HK;by_cases h:u % 2=0
  ·rw [je h];have hd:decide (Nw u=0)=true:=by rw [ou,h];rfl
   by_cases hx2:x % 2=0
   ·refine Af dw (Ai (AJ XZ Ae) AB (ARL u x) ⟨hd,by rw [ox,hx2];rfl,trivial⟩ (AS dj) hb (fun _ h=>h) fun _=>?_)
    have e:IZ x=x / 2:=je hx2
    rw [sJ,sJ,← e];exact ih (u / 2) (IZ x) dk dk dk (AEM hx)
   ·refine Af d_ (Ai (AJ XZ Ae) AB (ARM u x) ⟨hd,by rw [ox];simp only [decide_eq_false_iff_not];omega,rfl,Dw (GN _ _ _),Dw (GN _ _ _),Dw (GN _ _ _),Dw (GN _ _ _),Dw (GN _ _ _),trivial⟩ (AS dj) hb (fun _ h=>h) fun _=>?_)
    have e:IZ x=(x+pN) / 2:=jd hx2
    rw [sJ,ARO hx,← e];exact ih (u / 2) (IZ x) dk dk dk (AEM hx)
  ·rw [jd h];have hd:decide (Nw u=0)=false:=by rw [ou];simp only [decide_eq_false_iff_not];omega
   exact Af dt (Ay (AJ XZ Ae) AB func152 (ARN u x) ⟨hd,trivial⟩ (AS dj) hb jb)
theorem ARQ {u x:Nat} (h0:0<u) (hu:u<RR) (hx:x<RR):Ab dm 152 b8 (Nv u x) 2 [0,1] (.tup []) (Nv (HK u u x).1 (HK u u x).2) :=
 A7 (gv:=[]) func152 dj dj fun β0 w0 hb =>
  Ai (AJ XZ Ae) AB (ARK u x) trivial (AS dj) hb jb fun _=>ARP hb u u x h0 (jj _) hu hx
def evSpec:ASpec:=fun args H fr gv =>
 match args with
 | [.val false [.p k 0],.val false [.p t 0]]=>match AG H k,AG H t,Nat.beq k t with
  | some ⟨ty,c,false⟩,some ⟨ty',d,false⟩,false=>match Nat.beq ty 40,DL 6 c,Nat.beq ty' 40,DL 6 d with
   | true,some u,true,some x=>some (BR [k,t] 2 fr 0 [0,1] (.tup []) (Nv (HK u u x).1 (HK u u x).2) [(decide (0<u),true)] gv)
   | _,_,_,_=>none
  | _,_,_=>none
 | _=>none
theorem ARR:BJ dm 152 evSpec:=by
 refine HH func152 dj dj fun args H fr gv r h=>?_
 unfold evSpec at h;split at h;case h_2=>cases h
 rename_i k t;split at h;case h_2=>cases h
 rename_i ty c ty' d hk ht iq;split at h;case h_2=>cases h
 rename_i u x hty hu hty' hx;injection h with h;have hty1:=Ar.1 hty;have hty2:=Ar.1 hty';subst hty1;subst hty2;have hne':k≠t:=fun e=>by subst e;rw [Ar.2 rfl] at iq;cases iq
 refine ⟨[k,t],b8,Nv u x,2,0,[0,1],.tup [],_,_,gv,h.symm,fun β us w ha hg hc=>?_⟩
 obtain ⟨u1,iu,r1,⟨u2,iw,r2,ha,rfl⟩,rfl⟩:=ha;obtain ⟨l,g1⟩:=Jz hg hk;obtain ⟨l',g2⟩:=Jz hg ht;have h0:0<u:=by simpa using hc.1
 refine ⟨ARQ h0 (by rw [DV];exact (Hm hu g1).2) (by rw [DV];exact (Hm hx g2).2),dj,⟨u1,_,r1,⟨u2,iw,r2,ha,rfl⟩,rfl⟩,ADW (c:=[.num 6 u]) (e:=[.num 6 x]) hg hk ht hne' (fun l h=>GQ hu h) (fun l h=>GQ hx h),fun j hj=>?_⟩
 match j,hj with
 | 0,_=>exact CS (hg.heap _ _ hk)
 | 1,_=>exact CS (hg.heap _ _ ht)
noncomputable def S24:dr:=(152,evSpec)::S23
theorem RZ:AW dm S24:=⟨ARR,XZ⟩
abbrev dx:List Bool:=[false,true]
open Ex
set_option maxRecDepth 100000
set_option maxHeartbeats 4000000
def Nx (b:gt):gt:=match DL 6 b.cs with
 | some x=>⟨b.ty,[.num 6 x],b.opn⟩
 | none=>b
def Ri:Heap→Heap
 | []=>[]
 | (k,some b)::r=>(k,some (Nx b))::Ri r
 | (k,none)::r=>(k,none)::Ri r
theorem Xa (b:Nat):∀ H:Heap,AG (Ri H) b=(AG H b).map Nx
 | []=>rfl
 | (k,some x)::r=>by
  simp only [Ri,AG];split
  ·rfl
  ·exact Xa b r
 | (k,none)::r=>by
  simp only [Ri,AG];split
  ·rfl
  ·exact Xa b r
theorem AEN (b:gt):(Nx b).ty=b.ty∧(Nx b).opn=b.opn:=by unfold Nx;split<;>exact ⟨rfl,rfl⟩
theorem ARS {P:Program} {f:FuncId} {β0:Env} {w0:World} {R:Ending→World→Prop} {n:Nat} {W:List Nat} {todo:List Item} {T:List AV} {H:Heap} {fr:Nat} {p:List Bool} (h:gn P f β0 w0 R n W ⟨todo,⟨T,Ri H,fr,p⟩⟩):gn P f β0 w0 R n W ⟨todo,⟨T,H,fr,p⟩⟩:=by
 intro β a w hi hf;refine h β a w { hi with good:=⟨fun b blk hb=>?_,fun b b' B n n' h1 h2 h3 h4=>?_,hi.good.lt⟩ } hf
 ·have hb':(AG H b).map Nx=some blk:=by rw [← Xa];exact hb
  obtain ⟨x,hx,rfl⟩:=q_.1 hb';refine UJ (hi.good.heap b x hx) rfl (.inr (AEN x)) fun l hl=>?_
  unfold Nx;split
  ·rename_i y hy;exact GQ hy hl
  ·exact hl
 ·refine hi.good.inj b b' B n n' ?_ ?_ h3 h4
  ·obtain ⟨d,hd,hr⟩:=GZ h1;have hd':(AG H b).map Nx=some d:=by rw [← Xa];exact hd
   obtain ⟨x,hx,rfl⟩:=q_.1 hd';exact GJ hx (by rw [← (AEN x).1];exact hr)
  ·have h2':((AG H b').map Nx).isSome=true:=by rw [← Xa];exact h2
   rwa [Option.isSome_map] at h2'
noncomputable def AEO:List Item:=CB (AY dm (AH S24 K0) (some 0) 300 0 none (Aj f75 [Aa 0] [] 0 dt))
noncomputable def AEP:List AV:=.any::.any::.val false [.p 1 0]::.val false [.p 2 0]::.val false [.p 3 0]::.val false [.p 4 0]::.val false [.p 5 0]::.val false [.p 6 0]::List.replicate (f75.ntmps-8) .any
def AEQ (u v x y:Nat):Heap:=[(1,some (Hy 0)),(2,some (Hy u)),(3,some (Hy v)),(4,some (Hy x)),(5,some (Hy y)),(6,some (Hy 1))]
noncomputable def Rj (u v x y:Nat) (p:List Bool):gq:=⟨AEO,⟨AEP,AEQ u v x y,7,p⟩⟩
abbrev KI:Option (List Nat×List Nat×Nat):=some ([2,3,4,5,6,7],[1,2,3,4,5,6],7)
def AER (a:Nat):Heap:=[(1,some ⟨40,Hr,false⟩),(2,some (Hy (a % pN))),(3,some ⟨40,Pw,false⟩),(4,some ⟨40,[.n .u64 1,.n .u64 0,.n .u64 0,.n .u64 0,.n .u64 0,.n .u64 0],false⟩),(5,some ⟨40,Hr,false⟩),(6,some ⟨40,[.n .u64 1,.n .u64 0,.n .u64 0,.n .u64 0,.n .u64 0,.n .u64 0],false⟩)]
theorem ART (a:Nat):AY dm (AH S24 K0) (some 0) 300 0 KI (Aj f75 [Aa a] [] 0 dt)=some ([(decide (a % pN=0),false)],[],⟨AEO,⟨AEP,AER a,7,[]⟩⟩):=dj
theorem inv_zero (a:Nat):FH dm (AH S24 K0) f75 300 0 (Aj f75 [Aa a] [] 0 du)=some ([(decide (a % pN=0),true)],[],Aa (a % pN)):=dj
theorem ARU (a:Nat):Ri (AER a)=AEQ (a % pN) pN 1 0:=dj
def E1 (u x:Nat):Nat:=(HK u u x).1
def E2 (u x:Nat):Nat:=(HK u u x).2
section
variable (u v x y:Nat)
def b9 (r:dp):dp:=(decide (0<u),true)::(decide (0<v),true)::r
def cA:Bool:=decide (0≤Et (AK (AA (JJ (E1 u x)) (0+0*1) (6-0))) (AK (AA (JJ (E1 v y)) (0+0*1) (6-0))))
theorem ARV:FH dm (AH S24 K0) f75 300 0 (Rj u v x y du)=some (b9 u v [(decide (E1 u x=1),true)],[],Aa (E2 u x)):=dj
theorem ARW:FH dm (AH S24 K0) f75 300 0 (Rj u v x y dx)=some (b9 u v [(decide (E1 u x=1),false),(decide (E1 v y=1),true)],[],Aa (E2 v y)):=dj
theorem ARX:AY dm (AH S24 K0) (some 0) 300 0 KI (Rj u v x y ep) =
 some (b9 u v ((decide (E1 u x=1),false)::(decide (E1 v y=1),false)::(Jy 4++[(cA u v x y,true)])),[],Rj ((E1 u x+(RR-E1 v y)) % RR) (E1 v y) (Es (E2 u x) (E2 v y)) (E2 v y) []):=dj
theorem ARY:AY dm (AH S24 K0) (some 0) 300 0 KI (Rj u v x y fb) =
 some (b9 u v ((decide (E1 u x=1),false)::(decide (E1 v y=1),false)::(Jy 4++[(cA u v x y,false)])),[],Rj (E1 u x) ((E1 v y+(RR-E1 u x)) % RR) (E2 u x) (Es (E2 v y) (E2 u x)) []):=dj
end
open Ex Num
instance neZero_pN:NeZero pN:=⟨dl⟩
def tf (x:Nat):Fin pN:=EA pN x
theorem Pi (x:Nat):tf (x % pN)=tf x:=ADt x
theorem Rk {x y:Nat}:tf x=tf y↔x % pN=y % pN:=bS
theorem Gz (x y:Nat):tf (x+y)=tf x+tf y:=ADu x y
theorem Pj (x y:Nat):tf (x*y)=tf x*tf y:=ADv x y
theorem J4 (x y:Nat):tf (EP x y)=tf x+tf y:=by unfold EP;rw [Pi,Gz,Pi,Pi]
theorem CZ (x y:Nat):tf (Ah x y)=tf x*tf y:=by unfold Ah;rw [Pi,Pj]
theorem cB (x:Nat):tf (DC x)=- tf x:=by unfold DC;rw [Pi];exact AQD x
theorem Hz (x y:Nat):tf (Es x y)=tf x-tf y:=by unfold Es;rw [J4,cB];grind
theorem tf_zero:tf 0=0:=ADw
theorem EB:tf 1=1:=AQC
theorem Ny {x y:Nat} (hx:x<pN) (hy:y<pN) (h:tf x=tf y):x=y:=AQE hx hy h
theorem cC (x y:Nat):EP x y<pN:=jw _ DB
theorem H3 (x y:Nat):Es x y<pN:=cC _ _
theorem cD {x:Nat}:tf x=0↔x % pN=0:=by rw [← tf_zero,Rk,oz]
theorem ARZ {a b:Fin pN} (h:a*b=0):a=0∨b=0:=AQF pN_prime h
noncomputable def Bz (a:Nat):Nat:=DD a (pN-2)
theorem AES (a:Nat):Bz a<pN:=AD3 _ _
theorem AET {a:Nat} (h:a % pN=0):Bz a=0:=by
 unfold Bz;rw [LI,nz,h,Nat.zero_pow dl];rfl
theorem AEU {a:Nat} (h:a % pN≠0):tf a*tf (Bz a)=1:=by
 have ha:¬ pN∣a:=fun hd=>h (qo hd)
 have hf:=RV pN_prime ha;rw [← Pj,← EB,Rk];unfold Bz;rw [LI];have e:pN-1=(pN-2)+1:=by have:=rS;omega
 rw [e,kt] at hf;rw [Nat.mul_mod_mod,jy,hf];rfl
theorem AEV {a x:Nat} (hx:x<pN) (h:tf a*tf x=1):x=Bz a:=by
 have ha:a % pN≠0:=fun e=>by
  rw [cD.2 e] at h;have:(0:Fin pN)*tf x=0:=by grind
  rw [this] at h;have h2:tf 0=tf 1:=by rw [tf_zero,EB];exact h
  have:=Ny DB (show 1<pN by decide) h2
  cases this
 have h2:=AEU ha;refine Ny hx (AES a) ?_
 grind
theorem ARa {A B:Fin pN} (h:A+A=B+B):A=B:=by
 have h0:(A-B)*tf 2=0:=by
  have:tf 2=1+1:=by rw [← EB,← Gz]
  rw [this];grind
 rcases ARZ h0 with e | e
 ·grind
 ·exfalso
  have:=Ny (show 2<pN by decide) DB (e.trans tf_zero.symm)
  cases this
theorem ARb {x:Nat} (hx:x<pN):tf (IZ x)+tf (IZ x)=tf x∧IZ x<pN:=by
 have hodd:=XQ;constructor
 ·rw [← Gz,Rk];unfold IZ;split
  ·congr 1;omega
  ·rw [show (x+pN) / 2+(x+pN) / 2=x+pN by omega,pi]
 ·unfold IZ;split<;>omega
theorem sK {a:Nat}:∀ (f u x:Nat),0<u→u≤f→x<pN→tf a*tf x=tf u→(HK f u x).1 % 2=1∧(HK f u x).1∣u∧(HK f u x).2<pN∧tf a*tf (HK f u x).2=tf (HK f u x).1
 | 0,u,x,h1,h2,_,_=>dk
 | f+1,u,x,h1,h2,hx,h=>by
  unfold HK;by_cases hu:u % 2=0
  ·rw [je hu];obtain ⟨q1,q2⟩:=ARb hx;have e:tf (u / 2)+tf (u / 2)=tf u:=by rw [← Gz];congr 1;omega
   have q3:tf a*tf (IZ x)=tf (u / 2):=ARa (by rw [e,← h,← q1];grind)
   obtain ⟨i1,i2,i3,i4⟩:=sK (a:=a) f (u / 2) (IZ x) dk dk q2 q3
   exact ⟨i1,Nat.dvd_trans i2 ⟨2,dk⟩,i3,i4⟩
  ·rw [jd hu];exact ⟨dk,Nat.dvd_refl u,hx,h⟩
theorem ARc {u v x y:Nat} (h1:E1 u x<RR) (h2:E1 v y<RR):cA u v x y=decide (E1 v y≤E1 u x):=by
 unfold cA;rw [Pc h1,Pc h2];unfold Et;by_cases c1:E1 u x<E1 v y
 ·rw [je c1,jg dk,jg dk]
 ·rw [jd c1];by_cases c2:E1 v y<E1 u x
  ·rw [je c2,jc dk,jc dk]
  ·rw [jd c2,jc dk,jc dk]
theorem AEW {u v:Nat} (h:v≤u) (hu:u<RR):(u+(RR-v)) % RR=u-v:=by
 rw [show u+(RR-v)=(u-v)+RR by omega,pi,jk dk]
theorem ARd (a:Nat) (w0:World):∀ (m u v x y:Nat),u+v≤m→0<u→0<v→u<RR→v<RR→x<pN→y<pN→Nat.Coprime u v→tf a*tf x=tf u→tf a*tf y=tf v →
  gn dm 75 CE w0 (Hp w0 (Aa (Bz a))) f75.ntmps [] (Rj u v x y []):=by
 intro m;induction m with
 | zero=>intro u v x y h1 h2;omega
 | succ m ih =>
  intro u v x y hm hu hv hur hvr hx hy hg h1 h2;obtain ⟨a1,a2,a3,a4⟩:=sK (a:=a) u u x hu (jj _) hx h1
  obtain ⟨b1,b2,b3,b4⟩:=sK (a:=a) v v y hv (jj _) hy h2
  have a5:=l_ hu a2;have b5:=l_ hv b2;change E1 u x % 2=1 at a1
  change E1 u x∣u at a2
  change E2 u x<pN at a3
  change tf a*tf (E2 u x)=tf (E1 u x) at a4
  change E1 u x≤u at a5
  change E1 v y % 2=1 at b1
  change E1 v y∣v at b2
  change E2 v y<pN at b3
  change tf a*tf (E2 v y)=tf (E1 v y) at b4
  change E1 v y≤v at b5
  have hg':Nat.Coprime (E1 u x) (E1 v y):=(hg.coprime_dvd_left a2).coprime_dvd_right b2
  have c0:decide (0<u)=true:=jc hu
  have c1:decide (0<v)=true:=jc hv
  have iP:=ARc (u:=u) (v:=v) (x:=x) (y:=y) dk dk
  by_cases hu1:E1 u x=1
  ·have h:=IU (w0:=w0) (β0:=CE) (n:=f75.ntmps) (AJ RZ Ae) AB func75 (ARV u v x y) ⟨c0,c1,jc hu1,trivial⟩ (AS dj) (fun _ _=>rfl) rfl
   rw [AEV (a:=a) a3 (by rw [a4,hu1,EB])] at h
   exact Af du h
  ·by_cases hv1:E1 v y=1
   ·have h:=IU (w0:=w0) (β0:=CE) (n:=f75.ntmps) (AJ RZ Ae) AB func75 (ARW u v x y) ⟨c0,c1,jg hu1,jc hv1,trivial⟩ (AS dj) (fun _ _=>rfl) rfl
    rw [AEV (a:=a) b3 (by rw [b4,hv1,EB])] at h
    exact Af dx h
   ·have iq:E1 u x≠E1 v y:=fun e=>by
     rw [← e] at hg';exact hu1 ((Nat.coprime_self _).1 hg')
    by_cases ir:E1 v y≤E1 u x
    ·refine Af ep (Ai (AJ RZ Ae) AB (ARX u v x y) ⟨c0,c1,jg hu1,jg hv1,rfl,rfl,rfl,rfl,by rw [iP];exact jc ir,trivial⟩ (AS dj) (fun _ _=>rfl) jb fun _=>?_)
     rw [AEW ir dk];refine ih _ _ _ _ dk dk dk dk dk (H3 _ _) b3 ?_ ?_ b4
     ·exact (Nat.gcd_sub_self_left ir).trans hg'
     ·have e:tf (E1 u x-E1 v y)=tf (E1 u x)-tf (E1 v y):=rM ir
      rw [Hz,e,← a4,← b4];grind
    ·refine Af fb (Ai (AJ RZ Ae) AB (ARY u v x y) ⟨c0,c1,jg hu1,jg hv1,rfl,rfl,rfl,rfl,by rw [iP];exact jg ir,trivial⟩ (AS dj) (fun _ _=>rfl) jb fun _=>?_)
     rw [AEW dk dk];refine ih _ _ _ _ dk dk dk dk dk a3 (H3 _ _) ?_ a4 ?_
     ·exact Nat.Coprime.symm ((Nat.gcd_sub_self_left (show E1 u x≤E1 v y by omega)).trans hg'.symm)
     ·have e:tf (E1 v y-E1 u x)=tf (E1 v y)-tf (E1 u x):=rM dk
      rw [Hz,e,← a4,← b4];grind
theorem AEX (a:Nat):AU dm 75 [Aa a] (Aa (Bz a)):=by
 refine Ni (gv:=[]) func75 dj dj fun w0=>?_
 by_cases h:a % pN=0
 ·have h1:=IU (w0:=w0) (β0:=CE) (n:=f75.ntmps) (AJ RZ Ae) AB func75 (inv_zero a) ⟨jc h,trivial⟩ (AS dj) (fun _ _=>rfl) rfl
  have e:a % pN=Bz a:=by rw [h,AET h]
  rw [e] at h1;exact Af du h1
 ·have hp:=Hs a;have hR:pN<RR:=dl
  refine Af dt (Ai (AJ RZ Ae) AB (ART a) ⟨jg h,trivial⟩ (AS dj) (fun _ _=>rfl) jb fun _=>?_)
  refine ARS ?_
  rw [ARU];refine ARd a w0 (a % pN+pN) (a % pN) pN 1 0 (jj _) dk DB dk hR dl DB ?_ ?_ ?_
  ·exact (pN_prime.coprime fun hd=>by have:=l_ dk hd;omega).symm
  ·rw [EB,Pi];grind
  ·have:tf pN=0:=rL
   rw [tf_zero,this];grind
noncomputable def S25:dr:=(75,Ac (GP fun x=>Aa (Bz x)))::S24
theorem cE:AW dm S25:=⟨Ad func75 dj dj (HI fun x _=>AEX x),RZ⟩
def AEY:List (Nat×AV)→Nat→AV
 | [],_=>.any
 | (j,a)::r,i=>match Nat.beq i j with | true=>a | false=>AEY r i
def AEZ:Nat→Nat→List (Nat×AV)→List AV
 | 0,_,_=>[]
 | f+1,i,l=>AEY l i::AEZ f (i+1) l
def EC (n:Nat) (l:List (Nat×AV)):List AV:=AEZ n 0 l
def AR (k gu n m:Nat):AV:=.val false [.sl k gu n m]
def iA (i:Int):AV:=.val false [.v (.int .i64 i)]
def A5 (xs:dn):Heap:=[(0,some (Ak [.seq .u8 xs]))]
def JM (f:Nat→Int) (L i:Nat):dn:=(List.range i).map f++List.replicate (L-i) 0
theorem AEa {f:Nat→Int} {L i:Nat} (h:i≤L):(JM f L i).length=L:=by simp [JM];omega
theorem AEb {f:Nat→Int} {L i:Nat} (h:i<L):(JM f L i).set i (f i)=JM f L (i+1):=by
 unfold JM;rw [sh _ _ (by simp),lh,ow,oh,show L-i=(L-(i+1))+1 by omega,ru,List.set_cons_zero,ta,oq,nq]
 rfl
theorem AEc (f:Nat→Int) (L:Nat):JM f L 0=List.replicate L 0:=by simp [JM]
theorem ARe (f:Nat→Int) (L:Nat):JM f L L=(List.range L).map f:=by simp [JM]
def F8 (A k:Nat):Int:=((A / 256^k % 256:Nat):Int)
def Co (A n:Nat):dn:=(List.range n).map fun i=>F8 A (n-1-i)
def Ao:dn→Nat
 | []=>0
 | d::r=>d.toNat*256^r.length+Ao r
theorem Nz (k:Nat):256^k=2^(8*k):=by rw [pq]
theorem sL {n i:Nat} (hn:n≤35184372088832) (h:i<n):wI (wI ((n:Int)-1)-i)=((n-1-i:Nat):Int):=by
 rw [Au (z:=(n:Int)-1) dk,Au dk];omega
theorem Xb (k:Nat):Int.tdiv (k:Int) 8=((k / 8:Nat):Int):=by rw [pv dk];rfl
theorem cF (k:Nat):Int.tmod (k:Int) 8=((k % 8:Nat):Int):=by rw [oe dk];rfl
noncomputable def ARf:List Item:=CB (AY dm (AH S25 K0) (some 0) 100 1 none (Aj f93 [AR 0 0 0 0,iA 0] (BG []) 1 []))
noncomputable def Xc (gu m c:Nat) (n:Int) (xs:dn) (L:Nat) (ys:dn) (i:AV) (p:List Bool):gq:=⟨ARf,⟨EC f93.ntmps [(0,AR 0 gu m c),(1,iA n),(5,AR 1 0 L L),(10,AR 1 0 L L),(11,AR 1 0 L L),(12,iA L),(13,i)],
 [(0,some (Ak [.seq .u64 xs])),(1,some ⟨5,[.seq .u8 ys],false⟩)],2,p⟩⟩
abbrev AEd:Option (List Nat×List Nat×Nat):=some ([0,1,5,10,11,12,13],[0,1],2)
def Xd (n:Int):Nat:=(GR n 0).toNat
def cG (ys:dn):Heap:=[(1,some ⟨5,[.seq .u8 ys],false⟩)]
def Pk (m sz:Int):Bool:=decide (0≤m∧m≤m∧sz*m≤281474976710656∧m≤9223372036854775807)
theorem ARg (gu m c:Nat) (n:Int) (xs:dn):AY dm (AH S25 K0) (some 0) 100 1 AEd (Aj f93 [AR 0 gu m c,iA n] (BG xs) 1 []) =
 some ([(Pk (GR n 0) 1,true),(AL .i64 (Xd n),true)],[],Xc gu m c n xs (Xd n) (List.replicate (Xd n) 0) (.val false [.n .i64 0]) []):=dj
def H4 (n i:Int):Int:=wI (wI (n-1)-i)
def sM (xs:dn) (gu m:Nat) (k:Int):Int:=AX false .u8 (Int.fdiv (Bk xs gu m (wI (Int.tdiv k 8))) (2^min (wI (8*Int.tmod k 8)).toNat 64))
def AEe (gu m:Nat) (n:Int) (xs:dn) (L:Nat) (ys:dn) (i:Int):dp:=[(decide (i<L),true),(true,true),(Nat.ble (gu+m) xs.length,true),(AL .i64 m,true),(decide (0≤wI (Int.tdiv (H4 n i) 8)),true),
 (decide (0≤H4 n i∧(0:Int)<8),true),(decide (0≤wI (8*Int.tmod (H4 n i) 8)∧0≤Bk xs gu m (wI (Int.tdiv (H4 n i) 8))),true),(decide (0≤i∧i<L),true),(decide (0+i.toNat*1<ys.length),true)]
theorem ARh (gu m c:Nat) (n:Int) (xs:dn) (L:Nat) (ys:dn) (i:Int):AY dm (AH S25 K0) (some 0) 100 1 AEd (Xc gu m c n xs L ys (iA i) du) =
 some (AEe gu m n xs L ys i,[],Xc gu m c n xs L (ys.set (0+i.toNat*1) (sM xs gu m (H4 n i))) (iA (wI (i+1))) []):=dj
theorem ARi (gu m c:Nat) (n:Int) (xs:dn) (L:Nat) (ys:dn) (i:Int):AT dm (AH S25 K0) f93 100 1 [1] (Xc gu m c n xs L ys (iA i) dt) =
 some ([(decide (i<L),false)],[],AR 1 0 L L,cG ys):=dj
theorem ARj {xs:dn} {gu m:Nat} (hx:∀ d∈xs,0≤d∧d<18446744073709551616) {k:Nat} (hk:k≤35184372088832):sM xs gu m (k:Int)=F8 (AK (AA xs gu m)) k∧0≤Bk xs gu m (wI (Int.tdiv (k:Int) 8)):=by
 have e1:wI (Int.tdiv (k:Int) 8)=((k / 8:Nat):Int):=by rw [Xb];exact Au dk
 have e2:wI (8*Int.tmod (k:Int) 8)=((8*(k % 8):Nat):Int):=by rw [cF,Au dk];omega
 unfold sM;rw [e1,e2,rE hx,jn,mc dk];refine ⟨?_,dk⟩
 generalize AK (AA xs gu m)=A
 have e3:(Int.fdiv ((A / 2^(64*(k / 8)) % 18446744073709551616:Nat):Int) (2^(8*(k % 8))))=((A / 2^(64*(k / 8)) % 18446744073709551616 / 2^(8*(k % 8)):Nat):Int):=by
  rw [qm _ (by exact_mod_cast qi (2^(8*(k % 8)))),ri,p_];rfl
 rw [e3,DT,IntKind.wrap_u8];unfold F8;have e4:(18446744073709551616:Nat)=2^(8*(k % 8))*2^(64-8*(k % 8)):=by rw [← jr,show 8*(k % 8)+(64-8*(k % 8))=64 by omega]
 have e5:A / 2^(64*(k / 8)) % 18446744073709551616 / 2^(8*(k % 8)) % 256=A / 256^k % 256:=by
  rw [e4,Nat.mod_mul_right_div_self,kw,← jr,show 64*(k / 8)+8*(k % 8)=8*k by omega,Nz]
  refine uo _ ?_
  have:64-8*(k % 8)=8+(56-8*(k % 8)):=dk
  rw [this,jr];exact ⟨_,rfl⟩
 rw [← e5];omega
theorem ARk {gu m c:Nat} {xs:dn} (hx:∀ d∈xs,0≤d∧d<18446744073709551616) (hl:gu+m≤xs.length) (hm:AL .i64 m=true) {n:Nat} (hn:n≤35184372088832) :
  Ab dm 93 [AR 0 gu m c,iA n] (BG xs) 1 [] (AR 1 0 n n) (cG (Co (AK (AA xs gu m)) n)):=by
 refine A7 (gv:=[]) func93 dj dj fun β0 w0 hb=>?_
 have h0:GR (n:Int) 0=n:=by unfold GR;split<;>omega
 have h1:Xd (n:Int)=n:=by unfold Xd;rw [h0];omega
 refine Ai (AJ cE Ae) AB (ARg gu m c n xs) ⟨?_,?_,trivial⟩ (AS dj) hb jb fun _=>?_
 ·rw [h0];unfold Pk;simp only [ji];omega
 ·rw [h1];simp only [AL,jm,ji];omega
 ·rw [h1];refine IY ?_
  have loop:∀ r i,i+r=n→gn dm 93 β0 w0 (A_ β0 w0 [] (AR 1 0 n n) (cG (Co (AK (AA xs gu m)) n))) f93.ntmps [] (Xc gu m c n xs n (JM (fun i=>F8 (AK (AA xs gu m)) (n-1-i)) n i) (iA i) []):=by
   intro r;induction r with
   | zero =>
    intro i hi;obtain rfl:i=n:=dk
    rw [ARe];exact Af dt (Ay (AJ cE Ae) AB func93 (ARi ..) ⟨by simp,trivial⟩ (AS dj) hb jb)
   | succ r ih =>
    intro i hi;have ek:H4 (n:Int) i=((n-1-i:Nat):Int):=sL hn dk
    have ev:=ARj (gu:=gu) (m:=m) hx (k:=n-1-i) dk
    have ed:wI (Int.tdiv ((n-1-i:Nat):Int) 8)=(((n-1-i) / 8:Nat):Int):=by rw [Xb];exact Au dk
    refine Af du (Ai (AJ cE Ae) AB (ARh ..) ?_ (AS dj) hb jb fun _=>?_)
    ·rw [AEe,ek];refine ⟨by simp;omega,rfl,jh hl,hm,by rw [ed];simp only [ji];omega,by simp,?_,by simp;omega,by rw [AEa dk];simp;omega,trivial⟩
     have:wI (8*Int.tmod ((n-1-i:Nat):Int) 8)=((8*((n-1-i) % 8):Nat):Int):=by rw [cF,Au dk];omega
     rw [this];simp only [ji];exact ⟨dk,ev.2⟩
    ·rw [ek,ev.1,Au (z:=(i:Int)+1) dk,show 0+(i:Int).toNat*1=i by omega,AEb (f:=fun i=>F8 (AK (AA xs gu m)) (n-1-i)) dk]
     exact ih (i+1) dk
  have:=loop n 0 dk
  rw [AEc] at this;exact this
def octSpec:ASpec:=fun args H fr gv =>
 match args with
 | [.val false [.sl k gu m _],I]=>match Bv (some I),AG H k with
  | some (_,.i64,i),some ⟨_,cs,_⟩=>match A8 .u64 cs with
   | some xs=>some (BR [k] 1 fr 1 [] (AR 1 0 i.toNat i.toNat) (cG (Co (AK (AA xs gu m)) i.toNat)) [(Nat.ble (gu+m) xs.length,true),(AL .i64 m,true),(decide (0≤i∧i≤35184372088832),true)] gv)
   | none=>none
  | _,_=>none
 | _=>none
theorem ARl:BJ dm 93 octSpec:=by
 refine HH func93 dj dj fun args H fr gv r h=>?_
 unfold octSpec at h;split at h;case h_2=>cases h
 rename_i k gu m _c I;split at h;case h_2=>cases h
 rename_i c0 i ty cs o hI hk;split at h;case h_2=>cases h
 rename_i xs iy;injection h with h;refine ⟨[k],[AR 0 gu m _c,iA i],BG xs,1,1,[],_,_,_,gv,h.symm,fun β us w ha hg hc=>?_⟩
 obtain ⟨u1,iu,r1,⟨u2,iw,r2,ha,rfl⟩,rfl⟩:=ha;obtain ⟨g1,g2,g3⟩:=Ml hg hk iy;obtain ⟨rfl,p1⟩:=DJ (β:=β) (u:=u2) (fm r2) hI
 have hi:=hc.2.2.1;simp only [ji] at hi;obtain ⟨n,rfl⟩:=ki hi.1;exact ⟨ARk g1 (jf hc.1) hc.2.1 dk,dj,⟨u1,_,r1,⟨_,iw,Aw ⟨rfl,rfl,p1⟩,ha,rfl⟩,rfl⟩,g2,g3⟩
noncomputable def S26:dr:=(93,octSpec)::S25
theorem cH:AW dm S26:=⟨ARl,cE⟩
theorem AEf:∀ (a b:dn),Ao (a++b)=Ao a*256^b.length+Ao b
 | [],b=>by simp [Ao]
 | d::r,b=>by
  simp only [nh,Ao,kc];rw [AEf r b,jr,k_,kx,mr]
theorem AEg {ws:dn} {i:Nat} (h:i<ws.length):Ao (ws.take (i+1))=Ao (ws.take i)*256+(ws.getD i 0).toNat:=by
 rw [List.take_succ_eq_append_getElem h,AEf];simp [Ao,List.getD_eq_getElem?_getD,h]
theorem UT:∀ (ws:dn),(∀ d∈ws,0≤d∧d<256)→Ao ws<256^ws.length
 | [],_=>by simp [Ao]
 | d::r,h=>by
  have hd:=h d (by simp)
  have ih:=UT r fun d h'=>h d (by simp [h'])
  simp only [Ao,kp,kt];have:d.toNat+1≤256:=dk
  have h2:=me (256^r.length) this
  rw [k_,pj] at h2;omega
theorem AEh {M x k i:Nat} (hx:x<256) (hi:i≠k / 8):(M*256^(k+1)+x*256^k) / 2^(64*i) % 2^64=M*256^(k+1) / 2^(64*i) % 2^64:=by
 rw [Nz,Nz];rcases Nat.lt_or_gt_of_ne hi with h | h
 ·have e:x*2^(8*k)=2^(64*i)*(2^64*(x*2^(8*k-64*i-64))):=by
   rw [mj (2^64),mj (2^(64*i)),← jr,← jr];congr 2;omega
  rw [e,uf _ _ (mi dl),ug]
 ·have e1:2^(64*i)=2^(8*k)*2^(64*i-8*k):=by rw [← jr];congr 1;omega
  have e2:M*2^(8*(k+1))+x*2^(8*k)=2^(8*k)*(M*256+x):=by
   rw [show 8*(k+1)=8*k+8 by omega,jr,nj,jy x];congr 1;rw [mj]
  have e3:M*2^(8*(k+1))=2^(8*k)*(M*256):=by rw [show 8*(k+1)=8*k+8 by omega,jr,mj]
  have e4:2^(64*i-8*k)=256*2^(64*i-8*k-8):=by
   rw [show (256:Nat)=2^8 by rfl,← jr];congr 1;omega
  rw [e2,e3,e1,Nat.mul_div_mul_left _ _ (mi dl),Nat.mul_div_mul_left _ _ (mi dl),e4,← kw,← kw];congr 2;omega
theorem AEi {M x k:Nat} (hx:x<256):∃ h B,(M*256^(k+1)) / 2^(64*(k / 8)) % 2^64=h*2^(8*(k % 8)+8)∧x*2^(8*(k % 8))=B∧B<2^(8*(k % 8)+8)∧h*2^(8*(k % 8)+8)<2^64 ∧
  (M*256^(k+1)+x*256^k) / 2^(64*(k / 8)) % 2^64=h*2^(8*(k % 8)+8)+B:=by
 rw [Nz,Nz];have e0:2^(8*k)=2^(64*(k / 8))*2^(8*(k % 8)):=by rw [← jr];congr 1;omega
 have e1:2^(8*(k+1))=2^(64*(k / 8))*2^(8*(k % 8)+8):=by rw [← jr];congr 1;omega
 have e2:(2:Nat)^64=2^(8*(k % 8)+8)*2^(56-8*(k % 8)):=by rw [← jr];congr 1;omega
 have e3:2^(8*(k % 8)+8)=2^(8*(k % 8))*256:=by rw [jr]
 have hp:0<2^(64*(k / 8)):=mi dl
 have q1:M*2^(8*(k+1)) / 2^(64*(k / 8))=M*2^(8*(k % 8)+8):=by
  rw [e1,mj,Nat.mul_div_cancel_left _ hp]
 have q2:(M*2^(8*(k+1))+x*2^(8*k)) / 2^(64*(k / 8))=M*2^(8*(k % 8)+8)+x*2^(8*(k % 8)):=by
  rw [e1,e0,mj M,mj x,← nj,Nat.mul_div_cancel_left _ hp]
 rw [q1,q2];have hB:x*2^(8*(k % 8))<2^(8*(k % 8)+8):=by
  rw [e3,jy];exact Nat.mul_lt_mul_of_pos_left hx (mi dl)
 have m1:M*2^(8*(k % 8)+8) % 2^64=M % 2^(56-8*(k % 8))*2^(8*(k % 8)+8):=by
  rw [e2,jy M,Nat.mul_mod_mul_left,jy]
 have ik:M % 2^(56-8*(k % 8))*2^(8*(k % 8)+8)+2^(8*(k % 8)+8)≤2^64:=by
  have:=jw M (show 0<2^(56-8*(k % 8)) from mi dl)
  have h2:=me (2^(8*(k % 8)+8)) (show M % 2^(56-8*(k % 8))+1≤2^(56-8*(k % 8)) from this)
  rw [k_,pj,jy (2^(56-8*(k % 8))),← e2] at h2;exact h2
 have hp2:0<2^(8*(k % 8)+8):=mi dl
 refine ⟨M % 2^(56-8*(k % 8)),_,m1,rfl,hB,dk,?_⟩
 rw [og,m1];have:x*2^(8*(k % 8)) % 2^64=x*2^(8*(k % 8)):=jk dk
 rw [this,jk dk]
def UU (n:Nat):Nat:=(wI (Int.tdiv (wI ((n:Int)+7)) 8)).toNat
noncomputable def ARm:List Item:=CB (AY dm (AH S26 K0) (some 0) 100 1 none (Aj f91 [AR 0 0 0 0] (A5 []) 1 []))
noncomputable def Xe (gu n c:Nat) (xs:dn) (L:Nat) (ys:dn) (i:AV) (p:List Bool):gq:=⟨ARm,⟨EC f91.ntmps [(0,AR 0 gu n c),(3,AR 1 0 L L),(11,AR 1 0 L L),(12,AR 0 gu n c),(13,iA n),(14,i)],
 [(0,some (Ak [.seq .u8 xs])),(1,some ⟨38,[.seq .u64 ys],false⟩)],2,p⟩⟩
abbrev AEj:Option (List Nat×List Nat×Nat):=some ([0,3,11,12,13,14],[0,1],2)
theorem ARn (gu n c:Nat) (xs:dn):AY dm (AH S26 K0) (some 0) 100 1 AEj (Aj f91 [AR 0 gu n c] (A5 xs) 1 []) =
 some ([(AL .i64 n,true),(true,true),(Pk (wI (Int.tdiv (wI ((n:Int)+7)) 8)) 8,true),(AL .i64 n,true)],[],Xe gu n c xs (UU n) (List.replicate (UU n) 0) (.val false [.n .i64 0]) []):=dj
def FC (n i:Int):Int:=wI (Int.tdiv (H4 n i) 8)
def sN (xs:dn) (gu:Nat) (n:Int) (ys:dn) (i:Int):Int :=
 bits .or .u64 (ys.getD (0+(FC n i).toNat*1) 0) (IntKind.u64.wrap (AX false .u64 (xs.getD (gu+i.toNat*1) 0)*2^min (wI (8*Int.tmod (H4 n i) 8)).toNat 64))
def AEk (gu n:Nat) (xs:dn) (L:Nat) (ys:dn) (i:Int):dp:=[(decide (i<n),true),(decide (0≤i∧i<n),true),(decide (gu+i.toNat*1<xs.length),true),(AL .i64 n,true),(true,true),
 (decide (0≤FC n i∧FC n i<L),true),(decide (0+(FC n i).toNat*1<ys.length),true),(decide (0≤H4 n i∧(0:Int)<8),true),(decide (0≤wI (8*Int.tmod (H4 n i) 8)),true),(decide (0≤FC n i∧FC n i<L),true),(decide (0+(FC n i).toNat*1<ys.length),true)]
theorem ARo (gu n c:Nat) (xs:dn) (L:Nat) (ys:dn) (i:Int):AY dm (AH S26 K0) (some 0) 100 1 AEj (Xe gu n c xs L ys (iA i) du) =
 some (AEk gu n xs L ys i,[],Xe gu n c xs L (ys.set (0+(FC n i).toNat*1) (sN xs gu n ys i)) (iA (wI (i+1))) []):=dj
def cI (ys:dn):Heap:=[(1,some ⟨38,[.seq .u64 ys],false⟩)]
theorem ARp (gu n c:Nat) (xs:dn) (L:Nat) (ys:dn) (i:Int):AT dm (AH S26 K0) f91 100 1 [1] (Xe gu n c xs L ys (iA i) dt) =
 some ([(decide (i<n),false)],[],AR 1 0 L L,cI ys):=dj
def ED (N L:Nat):dn:=(List.range L).map (AF N)
theorem AEl {N N' L j:Nat} {w:Int} (hj:AF N' j=w) (ho:∀ i,i≠j→AF N' i=AF N i):(ED N L).set j w=ED N' L:=by
 unfold ED;refine rj (by simp) fun i h1 h2=>?_
 rw [List.getElem_set];split
 ·rename_i e;subst e;simp [hj]
 ·rename_i e;simp [ho i (fun h=>e h.symm)]
theorem AEm {N L j:Nat} (h:j<L):(ED N L).getD j 0=AF N j:=by simp [ED,List.getD_eq_getElem?_getD,h]
theorem AEn (L:Nat):ED 0 L=List.replicate L 0:=by
 unfold ED;refine rj (by simp) fun i h1 h2=>?_
 simp [AF]
theorem AEo {N L:Nat} (h:N<2^(64*L)):AK (ED N L)=N:=by
 have:=APp (S:=N) (L:=L) h
 unfold outL AA at this;rw [oh,List.replicate_zero,ku,pn,nu (by simp)] at this
 exact this
theorem AEp {n:Nat} (hn:n≤35184372088832):UU n=(n+7) / 8∧wI (Int.tdiv (wI ((n:Int)+7)) 8)=(((n+7) / 8:Nat):Int):=by
 have e:wI ((n:Int)+7)=((n+7:Nat):Int):=by rw [Au dk];omega
 have e2:wI (Int.tdiv (wI ((n:Int)+7)) 8)=(((n+7) / 8:Nat):Int):=by rw [e,Xb];exact Au dk
 exact ⟨by unfold UU;rw [e2];omega,e2⟩
def sO (N L:Nat):Heap:=[(1,some ⟨38,[.num L N],false⟩)]
theorem AEq {N L:Nat} (h:N<2^(64*L)) (β:Env) (l:List Value) (hr:AQ β [.seq .u64 (ED N L)] l):AQ β [.num L N] l:=by
 obtain ⟨l1,l2,⟨h1,_⟩,h2,h3⟩:=hr;simp only [AQ] at h2;subst h2;subst h1;subst h3;refine ⟨_,[],⟨h,rfl⟩,rfl,?_⟩
 simp [ED,words,Function.comp]
theorem AEr {P:Program} {f:FuncId} {β0:Env} {w0:World} {R R':Ending→World→Prop} {W':List Nat} {n:Nat} {x:gq} (h:gn P f β0 w0 R n W' x) (hv:∀ e w,R e w→R' e w):gn P f β0 w0 R' n W' x:=by
 intro β a w hi hf b cs q1 q2;obtain ⟨e',w',fr,q5,q4⟩:=h β a w hi hf b cs q1 q2;exact ⟨e',w',fr,hv _ _ q5,q4⟩
theorem ARq {gu n c:Nat} {xs:dn} (hx:∀ d∈xs,0≤d∧d<256) (hl:gu+n≤xs.length) (hn:n≤35184372088832) :
  Ab dm 91 [AR 0 gu n c] (A5 xs) 1 [] (AR 1 0 ((n+7) / 8) ((n+7) / 8)) (sO (Ao (AA xs gu n)) ((n+7) / 8)):=by
 have hfin:Ao (AA xs gu n)<2^(64*((n+7) / 8)):=by
  have h1:=UT (AA xs gu n) (DM hx)
  have h2:(AA xs gu n).length=n:=by unfold AA;rw [ke,kv];omega
  rw [h2,Nz] at h1;exact kr h1 (oy dl dk)
 refine A7 (gv:=[]) func91 dj dj fun β0 w0 hb=>?_
 obtain ⟨l1,l2⟩:=AEp hn;have hw:AL .i64 (n:Int)=true:=by simp only [AL,jm,ji];omega
 refine Ai (AJ cH Ae) AB (ARn gu n c xs) ⟨hw,rfl,?_,hw,trivial⟩ (AS dj) hb jb fun _=>?_
 ·rw [l2];unfold Pk;simp only [ji];omega
 ·rw [l1];refine IY ?_
  have gx:(AA xs gu n).length=n:=by unfold AA;rw [ke,kv];omega
  have hbd:∀ d∈AA xs gu n,0≤d∧d<256:=DM hx
  have loop:∀ r i,i+r=n→gn dm 91 β0 w0 (A_ β0 w0 [] (AR 1 0 ((n+7) / 8) ((n+7) / 8)) (cI (ED (Ao (AA xs gu n)) ((n+7) / 8)))) f91.ntmps []
    (Xe gu n c xs ((n+7) / 8) (ED (Ao ((AA xs gu n).take i)*256^(n-i)) ((n+7) / 8)) (iA i) []):=by
   intro r;induction r with
   | zero =>
    intro i hi;obtain rfl:i=n:=dk
    rw [oh,kf,kb,nu dk];exact Af dt (Ay (AJ cH Ae) AB func91 (ARp ..) ⟨by simp,trivial⟩ (AS dj) hb jb)
   | succ r ih =>
    intro i hi;have ek:H4 (n:Int) i=((n-1-i:Nat):Int):=sL hn dk
    have ej:FC (n:Int) i=(((n-1-i) / 8:Nat):Int):=by unfold FC;rw [ek,Xb];exact Au dk
    have em:wI (8*Int.tmod ((n-1-i:Nat):Int) 8)=((8*((n-1-i) % 8):Nat):Int):=by rw [cF,Au dk];omega
    have hjL:(n-1-i) / 8<(n+7) / 8:=dk
    have hlenw:∀ N,(ED N ((n+7) / 8)).length=(n+7) / 8:=fun N=>by simp [ED]
    have hwx:xs.getD (gu+i) 0=(AA xs gu n).getD i 0:=(JI dk).symm
    have hxb:0≤(AA xs gu n).getD i 0∧(AA xs gu n).getD i 0<256:=by
     rw [j_];cases h':(AA xs gu n)[i]? with
     | none=>simp
     | some d=>exact hbd d (ol h')
    refine Af du (Ai (AJ cH Ae) AB (ARo ..) ?_ (AS dj) hb jb fun _=>?_)
    ·unfold AEk;rw [ej,ek,em,hlenw];refine ⟨by simp;omega,by simp;omega,by simp;omega,hw,rfl,by simp only [ji];omega,by simp only [ji];omega,by simp only [ji];omega,by simp only [ji];omega,by simp only [ji];omega,by simp only [ji];omega,trivial⟩
    ·have hset:((ED (Ao ((AA xs gu n).take i)*256^(n-i)) ((n+7) / 8)).set (0+(FC n i).toNat*1) (sN xs gu n (ED (Ao ((AA xs gu n).take i)*256^(n-i)) ((n+7) / 8)) i)) =
       ED (Ao ((AA xs gu n).take (i+1))*256^(n-(i+1))) ((n+7) / 8):=by
      have ei:0+(((n-1-i) / 8:Nat):Int).toNat*1=(n-1-i) / 8:=dk
      have eo:gu+(i:Int).toNat*1=gu+i:=dk
      unfold sN;rw [ej,ek,em,ei,eo,hwx,AEm hjL];obtain ⟨X,hX⟩:=ki hxb.1;have hX2:X<256:=dk
      rw [hX,DT,IntKind.wrap_u64,IntKind.wrap_u64,jn,mc dk];have en:n-i=(n-1-i)+1:=dk
      have en':n-(i+1)=n-1-i:=dk
      have et:Ao ((AA xs gu n).take (i+1))*256^(n-(i+1))=Ao ((AA xs gu n).take i)*256^(n-1-i+1)+X*256^(n-1-i):=by
       rw [AEg dk,hX,jn,en',k_,kx,← se]
      rw [et,en];obtain ⟨hh,B,w1,w2,w3,w4,w5⟩:=AEi (M:=Ao ((AA xs gu n).take i)) (k:=n-1-i) hX2
      refine AEl ?_ fun j hj=>?_
      ·have ir:8*((n-1-i) % 8)+8≤64:=dk
       have hB64:X*2^(8*((n-1-i) % 8))<2^64:=by
        rw [w2];exact kr w3 (oy dl ir)
       have ex:((X:Int) % 18446744073709551616*2^(8*((n-1-i) % 8))) % 18446744073709551616=(B:Int):=by
        have a1:((X:Int) % 18446744073709551616)=(X:Int):=dk
        have a2:((X:Int)*2^(8*((n-1-i) % 8)))=((X*2^(8*((n-1-i) % 8)):Nat):Int):=by rw [kz,p_];rfl
        rw [a1,a2,w2];rw [w2] at hB64;have:B<18446744073709551616:=hB64
        omega
       rw [ex];have eo:=sI (h:=hh) (s:=8*((n-1-i) % 8)+8) (B:=B) w4 w3 ir
       unfold AF;rw [w5,w1];exact eo.symm
      ·unfold AF;rw [AEh hX2 hj]
     rw [hset,Au (z:=(i:Int)+1) dk];exact ih (i+1) dk
  have:=loop n 0 dk
  rw [List.take_zero,show Ao []=0 from rfl,pe,AEn] at this
  exact AEr this fun e w h=>XG (AEq hfin) h
def wrdSpec:ASpec:=fun args H fr gv =>
 match args with
 | [.val false [.sl k gu n _]]=>match AG H k with
  | some ⟨_,cs,_⟩=>match A8 .u8 cs with
   | some xs=>some (BR [k] 1 fr 1 [] (AR 1 0 ((n+7) / 8) ((n+7) / 8)) (sO (Ao (AA xs gu n)) ((n+7) / 8)) [(Nat.ble (gu+n) xs.length,true),(Nat.ble n 35184372088832,true)] gv)
   | none=>none
  | _=>none
 | _=>none
theorem sP {a:Int} (h:has .u8 a):0≤a∧a<256:=by
 have:=(Fy _ _).1 h
 simp only [AL,jm,ji] at this;omega
theorem Eu {β:Env} {H:Heap} {w:World} {k:Nat} {ty:Nat} {cs:List Ch} {o:Bool} {xs:dn} (hg:Ex.Good β H w) (hk:AG H k=some ⟨ty,cs,o⟩) (iy:A8 .u8 cs=some xs) :
  (∀ d∈xs,0≤d∧d<256)∧Ex.Good (A9 β [k] 1) (A5 xs) w∧(∀ j,j<1→∃ X,β (nth [k] j)=some X):=by
 obtain ⟨l,g1⟩:=Jz hg hk;obtain ⟨_,g2⟩:=DU iy g1;refine ⟨fun d hd=>sP (g2 d hd),bH (c:=[.seq .u8 xs]) hg hk (fun l h=>?_),fun j hj=>?_⟩
 ·obtain ⟨q1,q2⟩:=DU iy h;exact ⟨_,[],⟨q1,q2⟩,rfl,by simp⟩
 ·match j,hj with
  | 0,_=>exact CS (hg.heap _ _ hk)
theorem ARr:BJ dm 91 wrdSpec:=by
 refine HH func91 dj dj fun args H fr gv r h=>?_
 unfold wrdSpec at h;split at h;case h_2=>cases h
 rename_i k gu n c;split at h;case h_2=>cases h
 rename_i ty cs o hk;split at h;case h_2=>cases h
 rename_i xs iy;injection h with h;refine ⟨[k],[AR 0 gu n c],A5 xs,1,1,[],_,_,_,gv,h.symm,fun β us w ha hg hc=>?_⟩
 obtain ⟨u1,iu,r1,ha,rfl⟩:=ha;obtain ⟨g1,g2,g3⟩:=Eu hg hk iy;exact ⟨ARq g1 (jf hc.1) (jf hc.2.1),dj,⟨u1,_,r1,ha,rfl⟩,g2,g3⟩
noncomputable def S27:dr:=(91,wrdSpec)::S26
theorem Xf:AW dm S27:=⟨ARr,cH⟩
def sQ (x:Nat):AV:=.val true [.seq .u8 (Co x 48)]
theorem ARs (a:Nat):AM dm (AH S27 K0) f111 [Aa a] [] 300 =
 some (Jy 4,sQ (AK (AA (JJ (a % pN)) 0 6))):=dj
theorem ARt (a:Nat):AU dm 111 [Aa a] (sQ (a % pN)):=by
 have h:=AP (AJ Xf Ae) AB func111 (ARs a) ⟨rfl,rfl,rfl,rfl,trivial⟩ rfl
 rw [rH (LE a)] at h;exact h
def G0 (n N:Nat):Nat:=if n=48∧N<pN then N else 0
def H5 (n N:Nat):Int:=if n=48 then (if N<pN then 0 else 41) else 40
def Ie (n N:Nat):AV:=.tup [(true,[.num 6 (G0 n N)]),(false,[.v (.int .i64 (H5 n N))])]
def cJ (e:Int):AV:=.tup [(true,Hr),(false,[.n .i64 e])]
theorem ARu (gu n m:Nat) (xs:dn):AT dm (AH S27 K0) f128 300 1 [] (Aj f128 [AR 0 gu n m] (A5 xs) 1 du) =
 some ([(AL .i64 n,true),(!decide ((n:Int)=48),true)],[],cJ 40,[]):=dj
theorem ARv (gu m:Nat) (xs:dn):AT dm (AH S27 K0) f128 300 1 [] (Aj f128 [AR 0 gu 48 m] (A5 xs) 1 dx) =
 some ([(true,true),(false,false),(Nat.ble (gu+48) xs.length,true),(true,true),(true,true),(!decide (Ao (AA xs gu 48) % pN=Ao (AA xs gu 48)),true)],[],cJ 41,[]):=dj
theorem ARw (gu m:Nat) (xs:dn):AT dm (AH S27 K0) f128 300 1 [] (Aj f128 [AR 0 gu 48 m] (A5 xs) 1 dz) =
 some ([(true,true),(false,false),(Nat.ble (gu+48) xs.length,true),(true,true),(true,true),(!decide (Ao (AA xs gu 48) % pN=Ao (AA xs gu 48)),false)],[],.tup [(true,[.num 6 (Ao (AA xs gu 48))]),(false,[.n .i64 0])],[]):=dj
theorem C7 {β β':Env} {g g':Bool} {a a' b b':List Ch} {u:Value} (h1:∀ v,Bx β g a v→Bx β' g a' v) (h2:∀ v,Bx β g' b v→Bx β' g' b' v) (h:AN β (.tup [(g,a),(g',b)]) u):AN β' (.tup [(g,a'),(g',b')]) u:=by
 obtain ⟨us,⟨u1,l1,q1,⟨u2,l2,q2,q3,q4⟩,q5⟩,q6⟩:=h;exact ⟨us,⟨u1,l1,h1 _ q1,⟨u2,l2,h2 _ q2,q3,q4⟩,q5⟩,q6⟩
theorem Xg {β:Env} {v:Value} (h:Bx β true Hr v):Bx β true [.num 6 0] v:=by
 obtain ⟨l,q,rfl⟩:=h;exact ⟨l,GQ (k:=6) (x:=0) dj q,rfl⟩
theorem EX {β:Env} {k:IntKind} {i j:Int} {v:Value} (e:i=j) (h:Bx β false [.n k i] v):Bx β false [.v (.int k j)] v:=RT e h
theorem sR {gu n m:Nat} {xs:dn} (hl:gu+n≤xs.length) (hn:AL .i64 n=true) :
  Ab dm 128 [AR 0 gu n m] (A5 xs) 1 [] (Ie n (Ao (AA xs gu n))) []:=by
 have hmod:∀ N:Nat,decide (N % pN=N)=decide (N<pN):=fun N=>by
  by_cases h:N<pN
  ·rw [jc h,jc (jk h)]
  ·rw [jg h,jg fun e=>h (by rw [← e];exact Hs N)]
 by_cases h:n=48
 ·subst h;by_cases hN:Ao (AA xs gu 48)<pN
  ·refine BL (A7 (gv:=dz) func128 dj dj fun β0 w0 hb =>
    Ay (AJ Xf Ae) AB func128 (ARw gu m xs) ⟨rfl,rfl,jh hl,rfl,rfl,by rw [hmod,jc hN];rfl,trivial⟩ (AS dj) hb jb) fun β u hu=>?_
   unfold Ie G0 H5;rw [je ⟨rfl,hN⟩,je rfl,je hN];exact C7 (fun _ q=>q) (fun _ q=>EX rfl q) hu
  ·refine BL (A7 (gv:=dx) func128 dj dj fun β0 w0 hb =>
    Ay (AJ Xf Ae) AB func128 (ARv gu m xs) ⟨rfl,rfl,jh hl,rfl,rfl,by rw [hmod,jg hN];rfl,trivial⟩ (AS dj) hb jb) fun β u hu=>?_
   unfold Ie G0 H5;rw [jd (fun q=>hN q.2),je rfl,jd hN]
   exact C7 (fun _ q=>Xg q) (fun _ q=>EX rfl q) hu
 ·refine BL (A7 (gv:=du) func128 dj dj fun β0 w0 hb =>
   Ay (AJ Xf Ae) AB func128 (ARu gu n m xs) ⟨hn,by simp;omega,trivial⟩ (AS dj) hb jb) fun β u hu=>?_
  unfold Ie G0 H5;rw [jd (fun q=>h q.1),jd h]
  exact C7 (fun _ q=>Xg q) (fun _ q=>EX rfl q) hu
def UV (g:Nat→dn→AV):ASpec:=fun args H fr gv =>
 match args with
 | [.val false [.sl k gu n _]]=>match AG H k with
  | some ⟨_,cs,_⟩=>match A8 .u8 cs with
   | some xs=>some (BR [k] 1 fr 0 [] (g n (AA xs gu n)) [] [(Nat.ble (gu+n) xs.length,true),(AL .i64 n,true)] gv)
   | none=>none
  | _=>none
 | _=>none
theorem sS {f:FuncId} {fn:Func} {g:Nat→dn→AV} (ip:dm.funcs[f]? = some fn) (hb:fn.body.isSome=true) (h_:fo fn) (hk:∀ n l,EU 1 0 [] (g n l) []=true)
  (h:∀ (gu n m:Nat) (xs:dn),(∀ d∈xs,0≤d∧d<256)→gu+n≤xs.length→AL .i64 n=true→Ab dm f [AR 0 gu n m] (A5 xs) 1 [] (g n (AA xs gu n)) []):BJ dm f (UV g):=by
 refine HH ip hb h_ fun args H fr gv r hs=>?_
 unfold UV at hs;split at hs;case h_2=>cases hs
 rename_i k gu n c;split at hs;case h_2=>cases hs
 rename_i ty cs o hk';split at hs;case h_2=>cases hs
 rename_i xs iy;injection hs with hs;refine ⟨[k],[AR 0 gu n c],A5 xs,1,0,[],_,_,_,gv,hs.symm,fun β us w ha hg hc=>?_⟩
 obtain ⟨u1,iu,r1,ha,rfl⟩:=ha;obtain ⟨g1,g2,g3⟩:=Eu hg hk' iy;exact ⟨h gu n c xs g1 (jf hc.1) hc.2.1,hk _ _,⟨u1,_,r1,ha,rfl⟩,g2,g3⟩
noncomputable def S28:dr:=(111,Ac (GP fun x=>sQ (x % pN)))::(128,UV fun n l=>Ie n (Ao l))::S27
theorem ARx:AW dm S28:=⟨Ad func111 dj dj (HI fun x _=>ARt x),sS func128 dj dj (fun _ _=>rfl) (fun _ _ _ _ _ hl hn=>sR hl hn),Xf⟩
theorem UW:∀ (a b:dn),Bo (a++b)=Bo a+((2^(64*a.length):Nat):Int)*Bo b
 | [],b=>by simp [Bo]
 | d::a,b=>by
  simp only [nh,Bo,kp];rw [UW a b,show 64*(a.length+1)=64+64*a.length by omega,jr,kz,ql,sf,← Int.add_assoc]
  rfl
theorem Xh (x k:Nat):((x % 2^(64*(k+1)):Nat):Int)=((x % 2^(64*k):Nat):Int)+((2^(64*k):Nat):Int)*AF x k:=by
 rw [show 64*(k+1)=64*k+64 by omega,jr,Nat.mod_mul,qd,kz];rfl
theorem sU (k:Nat):((2^(64*(k+1)):Nat):Int)=((2^(64*k):Nat):Int)*18446744073709551616:=by
 rw [show 64*(k+1)=64*k+64 by omega,jr,kz];rfl
theorem AEs (x y:Nat):∀ k,Bo ((List.range k).map (B7 x y))=((x % 2^(64*k):Nat):Int)-((y % 2^(64*k):Nat):Int)+((2^(64*k):Nat):Int)*CF x y k
 | 0=>by simp [Bo,CF,Nat.mod_one]
 | k+1=>by
  rw [ta,oq,UW,AEs x y k,Xh,Xh,sU];simp only [lf,List.map_nil,Bo,lh,ow,Int.mul_zero,Int.add_zero];rw [RN x y k];generalize ((2^(64*k):Nat):Int)=Q
  simp only [ql,Int.mul_sub,sf];omega
theorem AEt {x y k:Nat} (hx:x<2^(64*k)) (hy:y<2^(64*k)):(((x+(2^(64*k)-y)) % 2^(64*k):Nat):Int)=Bo ((List.range k).map (B7 x y)):=by
 have h:=AEs x y k;rw [jk hx,jk hy] at h;have hb:=GO x y k;have hs:∀ (ds:dn),(∀ d∈ds,0≤d∧d<18446744073709551616)→0≤Bo ds∧Bo ds<((2^(64*ds.length):Nat):Int):=by
  intro ds;induction ds with
  | nil=>intro _;simp [Bo]
  | cons d r ih =>
   intro hd;have h1:=hd d (by simp)
   have h2:=ih fun d h=>hd d (by simp [h])
   rw [kp,sU];simp only [Bo];omega
 have hr:=hs ((List.range k).map (B7 x y)) (by intro d hd;obtain ⟨i,_,rfl⟩:=lv.1 hd;exact FX x y i)
 rw [lh,ow,h] at hr;rw [h];generalize 2^(64*k)=Q at *
 have h01:CF x y k=0∨CF x y k=1:=dk
 rcases h01 with e | e
 ·rw [e,Int.mul_zero,Int.add_zero] at hr ⊢;have e1:x+(Q-y)=(x-y)+Q:=dk
  rw [e1,pi,jk dk];omega
 ·rw [e,Int.mul_one] at hr ⊢;rw [jk dk];omega
theorem AEu {x y k R:Nat} (hR:R=2^(64*k)) (hx:x<R) (hy:y<R):(((x+(R-y)) % R:Nat):Int)=Bo ((List.range k).map (B7 x y)):=by subst hR;exact AEt hx hy
theorem AEv {f:FuncId} {args:List AV} {ds:dn} {y:Nat} (h:AU dm f args (.val true (MZ ds))) (e:(y:Int)=Bo ds):AU dm f args (.val true [.num ds.length y]):=by
 refine C3 h fun u hu=>?_
 obtain ⟨l,q,rfl⟩:=hu;exact ⟨l,bG e q,rfl⟩
theorem ARy:AM dm (AH S0 K0) f148 [] [] 100=some ([],.val true Pw):=dj
theorem ARz:AU dm 148 [] (.val true Pw):=AP (AJ IW Ae) AB func148 ARy trivial rfl
def sV (x y:Nat):Nat→dp
 | 0=>[]
 | k+1=>sV x y k++[(CQ (CF x y k),true)]
theorem AEw (x y:Nat):∀ k,AO (sV x y k)
 | 0=>trivial
 | k+1=>by
  have app:∀ (a b:dp),AO a→AO b→AO (a++b):=by
   intro a;induction a with
   | nil=>intro b _ h;exact h
   | cons c a ih=>intro b h1 h2;exact ⟨h1.1,ih b h1.2 h2⟩
  exact app _ _ (AEw x y k) ⟨Dw (GO _ _ _),trivial⟩
theorem AR0 (x y:Nat):AM dm (AH S1 K0) f147 [Aa x,Aa y] [] 300=some (sV x y 6,.val true (MZ ((List.range 6).map (B7 x y)))):=dj
theorem AR1 {x y:Nat} (hx:x<RR) (hy:y<RR):AU dm 147 [Aa x,Aa y] (Aa ((x+(RR-y)) % RR)):=by
 have h:=AP (AJ aV Ae) AB func147 (AR0 x y) (AEw x y 6) rfl
 exact AEv h (AEu (k:=6) DV hx hy)
def pW (i:Nat):Int:=PL.getD i 0
def FL (q:Int):Nat→Int
 | 0=>0
 | i+1=>mW (Jw (pW i) q+DX (FI (pW i) q) (FL q i) 0)
def FM (q:Int) (i:Nat):Int:=match Nat.blt i 6 with | true=>CX (FI (pW i) q) (FL q i) 0 | false=>CX 0 (FL q 6) 0
def Xi (t:Nat) (q:Int):Nat→Int
 | 0=>0
 | i+1=>IT (AF t i) (FM q i) (Xi t q i)
def sW (t:Nat) (q:Int) (i:Nat):Int:=EL (AF t i) (FM q i) (Xi t q i)
def sZ (t:Nat) (q:Int):Nat→dp
 | 0=>[]
 | k+1=>sZ t q k++[(true,true),(CQ (Xi t q k),true)]
noncomputable def SP:dr:=(148,Ac aU)::S28
theorem cK:AW dm SP:=⟨Ad func148 dj dj (fun args v h=>by
 unfold aU at h;split at h
 ·injection h with h;subst h;exact ARz
 ·cases h),ARx⟩
theorem AR2 (t:Nat) (q:Int):AM dm (AH SP K0) f205 [.val true [.num 7 t],.val false [.v (.int .u64 q)]] [] 600=some (sZ t q 7,.val true (MZ ((List.range 7).map (sW t q)))):=dj
theorem N0 {a q c:Int} (ha:0≤a∧a<18446744073709551616) (hq:0≤q∧q<18446744073709551616) (hc:0≤c∧c<18446744073709551616) :
  a*q+c=CX (FI a q) c 0+18446744073709551616*mW (Jw a q+DX (FI a q) c 0)∧(0≤CX (FI a q) c 0∧CX (FI a q) c 0<18446744073709551616)∧(0≤mW (Jw a q+DX (FI a q) c 0)∧mW (Jw a q+DX (FI a q) c 0)<18446744073709551616):=by
 have h:=qK ha hq;simp only [F4];unfold CX DX FI Jw;generalize a*q=z at *
 omega
theorem Pl (i:Nat):0≤pW i∧pW i<18446744073709551616:=Ns (ws:=PL) dl i
theorem N1 {q:Int} (hq:0≤q∧q<18446744073709551616):∀ i,0≤FL q i∧FL q i<18446744073709551616
 | 0=>by simp [FL]
 | i+1=>(N0 (Pl i) hq (N1 hq i)).2.2
theorem AEx {q:Nat} (hq:q<18446744073709551616):((pN*q:Nat):Int)=Bo ((List.range 7).map (FM q))∧∀ i,i<7→FM (q:Int) i=AF (pN*q) i:=by
 have hq':0≤(q:Int)∧(q:Int)<18446744073709551616:=dk
 have key:((pN*q:Nat):Int)=Bo ((List.range 7).map (FM q)):=by
  have e0:pW 0*q+FL q 0=FM q 0+18446744073709551616*FL q 1:=(N0 (Pl 0) hq' (N1 hq' 0)).1
  have e1:pW 1*q+FL q 1=FM q 1+18446744073709551616*FL q 2:=(N0 (Pl 1) hq' (N1 hq' 1)).1
  have e2:pW 2*q+FL q 2=FM q 2+18446744073709551616*FL q 3:=(N0 (Pl 2) hq' (N1 hq' 2)).1
  have e3:pW 3*q+FL q 3=FM q 3+18446744073709551616*FL q 4:=(N0 (Pl 3) hq' (N1 hq' 3)).1
  have e4:pW 4*q+FL q 4=FM q 4+18446744073709551616*FL q 5:=(N0 (Pl 4) hq' (N1 hq' 4)).1
  have e5:pW 5*q+FL q 5=FM q 5+18446744073709551616*FL q 6:=(N0 (Pl 5) hq' (N1 hq' 5)).1
  have z:FL q 0=0:=rfl
  have c6:=N1 hq' 6;have e6:FM q 6=FL q 6:=by show CX 0 (FL q 6) 0=_;unfold CX;omega
  have w0:pW 0=0xb9feffffffffaaab:=rfl
  have w1:pW 1=0x1eabfffeb153ffff:=rfl
  have w2:pW 2=0x6730d2a0f6b0f624:=rfl
  have w3:pW 3=0x64774b84f38512bf:=rfl
  have w4:pW 4=0x4b1ba7b6434bacd7:=rfl
  have w5:pW 5=0x1a0111ea397fe69a:=rfl
  rw [w0] at e0;rw [w1] at e1;rw [w2] at e2;rw [w3] at e3;rw [w4] at e4;rw [w5] at e5;show _=FM q 0+18446744073709551616*(FM q 1+18446744073709551616*(FM q 2+18446744073709551616*(FM q 3+18446744073709551616*(FM q 4+18446744073709551616*(FM q 5+18446744073709551616*(FM q 6+18446744073709551616*0))))));rw [kz];unfold pN;omega
 refine ⟨key,fun i hi=>?_⟩
 have hb:∀ d∈(List.range 7).map (FM (q:Int)),0≤d∧d<18446744073709551616:=by
  intro d hd;obtain ⟨j,_,rfl⟩:=lv.1 hd;unfold FM;split
  ·exact (N0 (Pl j) hq' (N1 hq' j)).2.1
  ·unfold CX;omega
 obtain ⟨h1,_⟩:=XE _ _ hb key;have h2:=jl (fun l=>l.getD i 0) h1
 simp only [lh,ow] at h2;simpa [List.getD_eq_getElem?_getD,hi] using h2
theorem s6 {t q:Nat} (hq:q<18446744073709551616):∀ i,i≤7→Xi t q i=CF t (pN*q) i
 | 0,_=>rfl
 | i+1,h=>by simp only [Xi,CF];rw [s6 hq i dk,(AEx hq).2 i dk]
theorem AR3 {t q R:Nat} (hR:R=2^(64*7)) (hp:pN*18446744073709551616<R) (ht:t<R) (hq:q<18446744073709551616):AU dm 205 [.val true [.num 7 t],.val false [.v (.int .u64 q)]] (.val true [.num 7 ((t+(R-pN*q)) % R)]):=by
 have hc:∀ k,k≤7→AO (sZ t q k):=by
  intro k;induction k with
  | zero=>intro _;trivial
  | succ k ih =>
   intro hk;have app:∀ (a b:dp),AO a→AO b→AO (a++b):=by
    intro a;induction a with
    | nil=>intro b _ h;exact h
    | cons c a ih=>intro b h1 h2;exact ⟨h1.1,ih b h1.2 h2⟩
   exact app _ _ (ih dk) ⟨rfl,by rw [s6 hq k dk];exact Dw (GO _ _ _),trivial⟩
 have h:=AP (AJ cK Ae) AB func205 (AR2 t q) (hc 7 (jj _)) rfl
 have e:(List.range 7).map (sW t q)=(List.range 7).map (B7 t (pN*q)):=by
  refine nb fun i hi=>?_
  have hi':i<7:=lz.1 hi
  unfold sW B7;rw [s6 hq i dk,(AEx hq).2 i hi']
 rw [e] at h;have hpq:pN*q<R:=pr (mz _ dk) hp
 exact AEv h (AEu (k:=7) hR ht hpq)
def R7:Nat:=726838724295606890549323807888004534353641360687318060281490199180639288113397923326191050713763565560762521606266177933534601628614656
theorem AEy:R7=2^(64*7):=dj
theorem lt7:Nat.blt (pN*18446744073709551616) R7=true:=dj
theorem AR5 {t q:Nat} (ht:t<R7) (hq:q<18446744073709551616):AU dm 205 [.val true [.num 7 t],.val false [.v (.int .u64 q)]] (.val true [.num 7 ((t+(R7-pN*q)) % R7)]) :=
 AR3 AEy (Bf.1 lt7) ht hq
def cL (x:Nat):Nat→dp
 | 0=>[]
 | k+1=>cL x k++[(!decide (AF x (5-k)=pW (5-k)),false)]
def s7:Nat→List Bool
 | 0=>[]
 | k+1=>false::s7 k
theorem AR6 (x k:Nat) (h:k<6):AM dm (AH SP K0) f203 [Aa x] (s7 k++du) 300 =
  some (cL x k++[(!decide (AF x (5-k)=pW (5-k)),true)],Av (decide (AF x (5-k)<pW (5-k)))):=by
 obtain rfl | rfl | rfl | rfl | rfl | rfl:k=0∨k=1∨k=2∨k=3∨k=4∨k=5:=dk
 all_goals kernel_rfl
theorem AR7 (x:Nat):AM dm (AH SP K0) f203 [Aa x] (s7 6) 300=some (cL x 6,.val false [.b false]):=dj
theorem cM {a b:dp} (h1:AO a) (h2:AO b):AO (a++b):=by
 induction a with
 | nil=>exact h2
 | cons c a ih=>exact ⟨h1.1,ih h1.2⟩
theorem AEz {x k:Nat} (h:∀ j,j<k→AF x (5-j)=pW (5-j)):AO (cL x k):=by
 induction k with
 | zero=>trivial
 | succ k ih=>exact cM (ih fun j hj=>h j dk) ⟨by simp [h k dk],trivial⟩
theorem AE0 (i:Nat) (h:i<6):pW i=AF pN i:=by
 obtain rfl | rfl | rfl | rfl | rfl | rfl:i=0∨i=1∨i=2∨i=3∨i=4∨i=5:=dk
 all_goals kernel_rfl
theorem s8 {x y:Nat} (hx:x<RR) (hy:y<RR):∀ k,k≤6→(∀ j,j<k→AF x (5-j)=AF y (5-j))→x / 2^(64*(6-k))=y / 2^(64*(6-k))
 | 0,_,_=>by
  rw [DV] at hx hy;have gen:∀ K z:Nat,z<2^(64*K)→z / 2^(64*(K-0))=0:=fun K z hz=>by rw [pc];exact lm hz
  exact (gen 6 x hx).trans (gen 6 y hy).symm
 | k+1,hk,h=>by
  have ih:=s8 hx hy k dk fun j hj=>h j dk
  have hw:=h k dk;have e:∀ z:Nat,z / 2^(64*(6-(k+1)))=z / 2^(64*(6-k))*2^64+z / 2^(64*(5-k)) % 2^64:=by
   intro z;rw [show 64*(6-k)=64*(5-k)+64 by omega,jr,← kw,show 6-(k+1)=5-k by omega]
   have:=md (z / 2^(64*(5-k))) (2^64)
   rw [jy] at this;exact this.symm
  unfold AF at hw;rw [e x,e y,ih];omega
theorem AR8 {x y k:Nat} (hx:x<RR) (hy:y<RR) (hk:k<6) (h:∀ j,j<k→AF x (5-j)=AF y (5-j)) (iq:AF x (5-k)≠AF y (5-k)):decide (AF x (5-k)<AF y (5-k))=decide (x<y):=by
 have ht:=s8 hx hy k dk h;have es:∀ z:Nat,z / 2^(64*(5-k))=z / 2^(64*(6-k))*2^64+z / 2^(64*(5-k)) % 2^64:=by
  intro z;rw [show 64*(6-k)=64*(5-k)+64 by omega,jr,← kw]
  have:=md (z / 2^(64*(5-k))) (2^64)
  rw [jy] at this;exact this.symm
 have e1:=es x;have e2:=es y;rw [ht] at e1;unfold AF at iq ⊢
 by_cases hl:((x / 2^(64*(5-k)) % 2^64:Nat):Int)<((y / 2^(64*(5-k)) % 2^64:Nat):Int)
 ·rw [jc hl,jc (UM (Q:=2^(64*(5-k))) dk)]
 ·have:y<x:=UM (Q:=2^(64*(5-k))) dk
  rw [jg hl,jg dk]
theorem AR9 {x y:Nat} (hx:x<RR) (hy:y<RR) (h:∀ j,j<6→AF x (5-j)=AF y (5-j)):x=y:=by
 have ht:=s8 hx hy 6 (jj _) h
 rwa [oh,ll,kf,ko,ko] at ht
theorem UX:pN<RR:=dl
theorem AR_ {P:Program} {f:FuncId} {args:List AV} {a b:Bool} (h:AU P f args (Av a)) (e:a=b):AU P f args (Av b):=by rw [← e];exact h
theorem AR' {x k:Nat} (hx:x<RR) (hk:k<6) (h:∀ j,j<k→AF x (5-j)=pW (5-j)) (iq:AF x (5-k)≠pW (5-k)):AU dm 203 [Aa x] (Av (decide (x<pN))):=by
 have ii:=AP (AJ cK Ae) AB func203 (AR6 x k hk) (cM (AEz h) ⟨by rw [jg iq];rfl,trivial⟩) rfl
 refine AR_ ii ?_
 have e:∀ j,j<6→pW (5-j)=AF pN (5-j):=fun j _=>AE0 _ dk
 rw [e k hk] at iq ⊢;exact AR8 hx UX hk (fun j hj=>(h j hj).trans (e j dk)) iq
theorem ASA {x:Nat} (hx:x<RR) (h:∀ j,j<6→AF x (5-j)=pW (5-j)):AU dm 203 [Aa x] (Av (decide (x<pN))):=by
 have e:∀ j,j<6→pW (5-j)=AF pN (5-j):=fun j _=>AE0 _ dk
 have hq:decide (x<pN)=false:=by
  have:=AR9 hx UX fun j hj=>(h j hj).trans (e j hj)
  exact jg (by rw [this];exact qq _)
 rw [hq];refine C3 (AP (AJ cK Ae) AB func203 (AR7 x) (AEz h) rfl) fun u hu=>?_
 obtain ⟨l1,l2,h1,h3,h4⟩:=hu;exact ⟨l1,l2,⟨h1,rfl,trivial⟩,h3,h4⟩
theorem ASB {x:Nat} (hx:x<RR):AU dm 203 [Aa x] (Av (decide (x<pN))):=by
 have key:∀ r k,k+r=6→(∀ j,j<k→AF x (5-j)=pW (5-j))→AU dm 203 [Aa x] (Av (decide (x<pN))):=by
  intro r;induction r with
  | zero =>
   intro k hk h;exact ASA hx fun j hj=>h j dk
  | succ r ih =>
   intro k hk h;by_cases hw:AF x (5-k)=pW (5-k)
   ·exact ih (k+1) dk fun j hj=>by
     rcases jv j k with h1 | h1
     ·exact h j h1
     ·rw [show j=k by omega];exact hw
   ·exact AR' hx dk h hw
 exact key 6 0 dk fun j hj=>dk
noncomputable def SQ:dr:=(147,Ac (LD fun x y=>Aa ((x+(RR-y)) % RR)))::(203,Ac (GP fun x=>Av (decide (x<pN))))::SP
theorem cN:AW dm SQ:=⟨Ad func147 dj dj (Np fun _ _ hx hy=>AR1 hx hy),Ad func203 dj dj (HI fun _ hx=>ASB hx),cK⟩
noncomputable def ASC:List Item:=CB (AY dm (AH SQ K0) (some 0) 100 0 none (Aj f141 [Aa 0] [] 0 []))
noncomputable def Xj (x:Nat) (p:List Bool):gq:=⟨ASC,⟨EC f141.ntmps [(1,.val false [.p 0 0]),(2,.val false [.p 1 0])],[(0,some ⟨40,[.num 6 x],false⟩),(1,some ⟨40,Hr,false⟩)],2,p⟩⟩
abbrev rrK:Option (List Nat×List Nat×Nat):=some ([1,2],[0,1],2)
theorem ASD (x:Nat):AY dm (AH SQ K0) (some 0) 100 0 rrK (Aj f141 [Aa x] [] 0 [])=some ([],[],Xj x []):=dj
theorem ASE (x:Nat):AY dm (AH SQ K0) (some 0) 100 0 rrK (Xj x du)=some ([(!decide (x<pN),true)],[],Xj ((x+(RR-pN)) % RR) []):=dj
theorem ASF (x:Nat):FH dm (AH SQ K0) f141 100 0 (Xj x dt)=some ([(!decide (x<pN),false)],[],Aa x):=dj
theorem ASG (w0:World) (v:Nat):∀ (x:Nat),x<RR→x % pN=v→gn dm 141 CE w0 (Hp w0 (Aa v)) f141.ntmps [] (Xj x []):=by
 intro x;induction x using Nat.strongRecOn with
 | _ x ih =>
  intro hx hv;rcases jv x pN with ik | hge
  ·rw [jk ik] at hv;subst hv;exact Af dt (IU (AJ cN Ae) AB func141 (ASF x) ⟨by simp [ik],trivial⟩ (AS dj) (fun _ _=>rfl) rfl)
  ·have hp:=DB;have hpR:pN≤RR:=dl
   refine Af du (Ai (AJ cN Ae) AB (ASE x) ⟨by simp;omega,trivial⟩ (AS dj) (fun _ _=>rfl) jb fun _=>?_)
   have e:(x+(RR-pN)) % RR=x-pN:=by rw [show x+(RR-pN)=(x-pN)+RR by omega,pi,jk dk]
   rw [e];exact ih (x-pN) dk dk (by rw [← hv,← tn hge])
theorem AE2 {x:Nat} (hx:x<RR):AU dm 141 [Aa x] (Aa (x % pN)) :=
 Ni (gv:=[]) func141 dj dj fun w0=>Ai (AJ cN Ae) AB (ASD x) trivial (AS dj) (fun _ _=>rfl) jb fun _=>ASG w0 _ x hx rfl
def Xk (t q:Nat):Nat:=(t+(R7-pN*q)) % R7
def s9:List AV→Option AV
 | [.val true a,B]=>match DL 7 a,Bv (some B) with
  | some x,some (_,.u64,h)=>some (.val true [.num 7 (Xk x h.toNat)])
  | _,_=>none
 | _=>none
theorem ASH:∀ args v,s9 args=some v→AU dm 205 args v:=by
 intro args v h us w ha;unfold s9 at h;split at h;case h_2=>cases h
 rename_i a B;split at h;case h_2=>cases h
 rename_i x c h0 hx hy;injection h with h;subst h;obtain ⟨u1,iu,r1,⟨u2,iw,r2,ha,rfl⟩,rfl⟩:=ha;obtain ⟨q0,q1,ik⟩:=Nl hx r1;obtain ⟨q2,h2⟩:=UF hy r2;have bh:=ES h2;obtain ⟨q,rfl⟩:=ki bh.1;have hq:q<18446744073709551616:=by
  clear ik;omega
 exact AR5 (AEy▸ik) hq _ w ⟨u1,_,q0,⟨u2,_,q2,ha,rfl⟩,rfl⟩
noncomputable def SR:dr:=(141,Ac (GP fun x=>Aa (x % pN)))::(205,Ac s9)::SQ
theorem cO:AW dm SR:=⟨Ad func141 dj dj (HI fun _ hx=>AE2 hx),Ad func205 dj dj ASH,cN⟩
abbrev nxK:Option (List Nat×List Nat×Nat):=some ([4,6],[1,3],4)
noncomputable def ASI:List Item:=CB (AY dm (AH SR K0) (some 0) 100 0 none (Aj f143 [Aa 0,uV 0] [] 0 []))
noncomputable def Xl (T:Nat) (p:List Bool):gq:=⟨ASI,⟨EC f143.ntmps [(4,.val false [.p 1 0]),(6,.val false [.p 3 0])],[(1,some ⟨40,Hr,false⟩),(3,some ⟨188,[.num 7 T],false⟩)],4,p⟩⟩
def cS (a4 a5:Int):Nat:=Int.toNat (((a5.toNat*C6+a4.toNat) / Int.toNat (mW (1873798617647539866+1)):Nat):Int)
theorem ASJ (a4 a5:Int):cS a4 a5=(a5.toNat*C6+a4.toNat) / 1873798617647539867:=by
 unfold cS;rw [jn];rfl
theorem ASK (a0 a1 a2 a3 a4 a5 w:Int):AY dm (AH SR K0) (some 0) 100 0 nxK (Aj f143 [.val true (w6 a0 a1 a2 a3 a4 a5),uV w] [] 0 []) =
 some ([(decide (a5<1873798617647539867),true)],[],Xl (Xk (AK [w,a0,a1,a2,a3,a4,a5]) (cS a4 a5)) []):=dj
theorem ASL (T:Nat):AY dm (AH SR K0) (some 0) 100 0 nxK (Xl T du)=some ([(decide (0<AF T 6),true)],[],Xl (Xk T 1) []):=dj
theorem ASM (T:Nat):FH dm (AH SR K0) f143 100 0 (Xl T dt)=some ([(decide (0<AF T 6),false)],[],Aa (AK ((List.range 6).map (AF T)) % pN)):=dj
theorem AE4 {T q:Nat} (hT:T<R7) (h:pN*q≤T):Xk T q=T-pN*q:=by
 unfold Xk;generalize R7=Q at *
 rw [show T+(Q-pN*q)=(T-pN*q)+Q by omega,pi,jk dk]
theorem tA {x k:Nat} (h:x<2^(64*k)):AK ((List.range k).map (AF x))=x:=AEo h
theorem p7:R7=RR*18446744073709551616:=dj
theorem p5':RR=2^(64*5)*2^64:=dj
theorem ASO (w0:World) (v:Nat):∀ (T:Nat),T<R7→T % pN=v→gn dm 143 CE w0 (Hp w0 (Aa v)) f143.ntmps [] (Xl T []):=by
 intro T;induction T using Nat.strongRecOn with
 | _ T ih =>
  intro hT hv;have hw:AF T 6=((T / RR:Nat):Int):=by
   unfold AF;rw [← DV,jk];refine li ?_
   rw [p7] at hT;exact hT
  by_cases h:0<T / RR
  ·have hp:=DB;have hpR:=UX;have hR:0<RR:=dl
   have hge:RR≤T:=by
    rcases jv T RR with h1 | h1
    ·rw [lm h1] at h;omega
    ·exact h1
   refine Af du (Ai (AJ cO Ae) AB (ASL T) ⟨by rw [hw];simp only [ji];omega,trivial⟩ (AS dj) (fun _ _=>rfl) jb fun _=>?_)
   rw [AE4 hT dk,kb];exact ih (T-pN) dk dk (by rw [← hv,← tn dk])
  ·have ik:T<RR:=by
    rcases jv T RR with h1 | h1
    ·exact h1
    ·exact absurd (Nat.div_pos h1 dl) h
   have:=IU (w0:=w0) (β0:=CE) (n:=f143.ntmps) (AJ cO Ae) AB func143 (ASM T) ⟨by rw [hw];simp only [decide_eq_false_iff_not];omega,trivial⟩ (AS dj) (fun _ _=>rfl) rfl
   rw [tA (by rw [← DV];exact ik),hv] at this
   exact Af dt this
theorem AE5:Nat.blt pN (2^(64*5)*1873798617647539867)=true:=dj
theorem AE6 (k j:Nat) (h:j=k+1):2^(64*j)=2^(64*k)*18446744073709551616:=by
 subst h;rw [show 64*(k+1)=64*k+64 by omega,jr]
theorem ASP (x k j:Nat) (h:j=k+1):x / 2^(64*j)*C6+(AF x k).toNat=x / 2^(64*k):=by
 rw [AE6 k j h,← kw];have:=md (x / 2^(64*k)) 18446744073709551616
 unfold AF C6;rw [jn];omega
theorem ASQ (P:Nat) (h:Nat.blt pN (P*1873798617647539867)=true):pN≤1873798617647539867*P:=by rw [jy];exact Nat.le_of_lt (Bf.1 h)
theorem ASR {p q A P Q x w:Nat} (hp:p≤1873798617647539867*P) (h1:q*1873798617647539867≤A) (h2:A*Q≤x) (e:P=Q*18446744073709551616):p*q≤w+18446744073709551616*x:=by
 calc p*q≤(1873798617647539867*P)*q:=me _ hp
  _=(q*1873798617647539867)*P:=by rw [jy,kx]
  _≤A*P:=me _ h1
  _=(A*Q)*18446744073709551616:=by rw [e,kx]
  _≤x*18446744073709551616:=me _ h2
  _≤w+18446744073709551616*x:=by rw [jy];exact Nat.le_add_left _ _
theorem ASS {x w:Nat} (hx:x<pN) (hw:w<18446744073709551616):AU dm 143 [Aa x,uV w] (Aa ((w+18446744073709551616*x) % pN)):=by
 have hpR:=UX;have h5:AF x 5=((x / 2^(64*5):Nat):Int):=by
  unfold AF;rw [jk];have h:x<2^(64*5)*2^64:=by rw [← p5'];exact mv hx UX
  exact li h
 have hlt5:x / 2^(64*5)<1873798617647539867:=by
  refine li (mv hx ?_)
  exact Bf.1 AE5
 have h4:(AF x 5).toNat*C6+(AF x 4).toNat=x / 2^(64*4):=by
  rw [h5,jn];exact ASP x 4 5 rfl
 have hT:AK [(w:Int),AF x 0,AF x 1,AF x 2,AF x 3,AF x 4,AF x 5]=w+18446744073709551616*x:=by
  have:=tA (x:=x) (k:=6) (by rw [← DV];omega)
  show (w:Int).toNat+18446744073709551616*AK [AF x 0,AF x 1,AF x 2,AF x 3,AF x 4,AF x 5]=_;rw [jn];exact jl (fun z=>w+18446744073709551616*z) this
 have hT7:w+18446744073709551616*x<R7:=by rw [p7];omega
 have hq:pN*cS (AF x 4) (AF x 5)≤w+18446744073709551616*x:=by
  refine ASR (ASQ (2^(64*5)) AE5) ?_ (qj x (2^(64*4))) (AE6 4 5 rfl)
  rw [ASJ,h4];exact qj _ _
 intro us w1 ⟨u1,iu,r1,r2,r3⟩
 refine Ni (args:=[.val true (w6 (AF x 0) (AF x 1) (AF x 2) (AF x 3) (AF x 4) (AF x 5)),uV w]) (gv:=[]) func143 dj dj (fun w0=>?_) us w1 ⟨u1,iu,?_,r2,r3⟩
 case refine_2 =>
  have:=(Nl (k:=6) (a:=[.num 6 x]) AOU r1).2.1
  rwa [p8] at this
 refine Ai (AJ cO Ae) AB (ASK (AF x 0) (AF x 1) (AF x 2) (AF x 3) (AF x 4) (AF x 5) w) ⟨by rw [h5];simp only [ji];omega,trivial⟩ (AS dj) (fun _ _=>rfl) jb fun _=>?_
 rw [hT,AE4 hT7 hq];refine ASO w0 _ _ dk ?_
 exact Nat.sub_mul_mod hq
def tB:List AV→Option (dp×AV)
 | [.val true a,B]=>match DL 6 a,Bv (some B) with
  | some x,some (_,.u64,w)=>some ([(decide (x<pN),true)],Aa ((w.toNat+18446744073709551616*x) % pN))
  | _,_=>none
 | _=>none
theorem AST:∀ args c v,tB args=some (c,v)→AO c→AU dm 143 args v:=by
 intro args cs v h hc us w ha;unfold tB at h;split at h;case h_2=>cases h
 rename_i a B;split at h;case h_2=>cases h
 rename_i x c h0 hx hy;injection h with h;injection h with h1 h2;subst h1;subst h2;obtain ⟨u1,iu,r1,⟨u2,iw,r2,ha,rfl⟩,rfl⟩:=ha;obtain ⟨q0,q1,ik⟩:=Nl hx r1;obtain ⟨q2,h2⟩:=UF hy r2;have bh:=ES h2;obtain ⟨q,rfl⟩:=ki bh.1;exact ASS (jx hc.1) dk _ w ⟨u1,_,q0,⟨u2,_,q2,ha,rfl⟩,rfl⟩
noncomputable def ST:dr:=(143,FY tB)::SR
theorem tC:AW dm ST:=⟨GS func143 dj dj AST,cO⟩
def tD:Heap→Heap→Prop
 | [],[]=>True
 | (k,some b)::r,(k',some b')::r'=>k=k'∧b'.ty=b.ty∧b'.opn=b.opn∧(∀ β l,AQ β b.cs l→AQ β b'.cs l)∧tD r r'
 | _,_=>False
theorem cT:∀ {H H':Heap} {j:Nat} {d:gt},tD H H'→AG H' j=some d→∃ b,AG H j=some b∧d.ty=b.ty∧d.opn=b.opn∧∀ β l,AQ β b.cs l→AQ β d.cs l
 | [],[],_,_,_,h=>by cases h
 | (k,some b)::r,(k',some b')::r',j,d,⟨e,h1,h2,h3,h4⟩,h=>by
  subst e;simp only [AG] at h ⊢;split at h
  ·rename_i hk;injection h with h;subst h;exact ⟨b,rfl,h1,h2,h3⟩
  ·rename_i hk;exact cT h4 h
 | [],_::_,_,_,h,_=>by cases h
 | (_,none)::_,_,_,_,h,_=>by cases h
 | (_,some _)::_,[],_,_,h,_=>by cases h
 | (_,some _)::_,(_,none)::_,_,_,h,_=>by cases h
theorem N2 {P:Program} {f:FuncId} {β0:Env} {w0:World} {R:Ending→World→Prop} {n:Nat} {W:List Nat} {todo:List Item} {T:List AV} {H H':Heap} {fr:Nat} {p:List Bool} (hi:tD H H') (h:gn P f β0 w0 R n W ⟨todo,⟨T,H',fr,p⟩⟩):gn P f β0 w0 R n W ⟨todo,⟨T,H,fr,p⟩⟩:=by
 intro β a w hv hf;refine h β a w { hv with good:=⟨fun b blk hb=>?_,fun b b' B n n' h1 h2 h3 h4=>?_,hv.good.lt⟩ } hf
 ·obtain ⟨x,hx,h1,h2,h3⟩:=cT hi hb;exact UJ (hv.good.heap b x hx) rfl (.inr ⟨h1,h2⟩) (h3 β)
 ·refine hv.good.inj b b' B n n' ?_ ?_ h3 h4
  ·obtain ⟨d,hd,hr⟩:=GZ h1;obtain ⟨x,hx,q1,_⟩:=cT hi hd;exact GJ hx (by rw [← q1];exact hr)
  ·obtain ⟨d,hd⟩:=lj.1 h2;obtain ⟨x,hx,_⟩:=cT hi hd;rw [hx];rfl
theorem ASU {ds:dn} {y:Nat} (e:(y:Int)=Bo ds) (β:Env) (l:List Value) (h:AQ β (MZ ds) l):AQ β [.num ds.length y] l:=bG e h
def tE (x y:Nat):Nat→dp
 | 0=>[]
 | k+1=>tE x y k++[(CQ (B6 x y k),true)]
theorem AE7 (x y:Nat):∀ k,AO (tE x y k)
 | 0=>trivial
 | k+1=>cM (AE7 x y k) ⟨Dw (GN _ _ _),trivial⟩
theorem ASV (x y:Nat):AM dm (AH ST K0) f68 [Aa x,Aa y] [] 500=some (tE (x % pN) (y % pN) 6,Aa (Nn (x % pN) (y % pN) % pN)):=dj
theorem AE8 (x y:Nat):AU dm 68 [Aa x,Aa y] (Aa (EP x y)):=by
 have h:=AP (AJ tC Ae) AB func68 (ASV x y) (AE7 _ _ _) rfl
 obtain ⟨h1,h2⟩:=qG (LE x) (LE y)
 have h3:=Hs x;have h4:=Hs y;have h5:=RO;have hc:(B6 (x % pN) (y % pN) 6).toNat=0:=by
  have:=GN (x % pN) (y % pN) 6
  have h01:(B6 (x % pN) (y % pN) 6).toNat=0∨(B6 (x % pN) (y % pN) 6).toNat=1:=dk
  rcases h01 with e | e
  ·exact e
  ·rw [e] at h1;omega
 rw [hc] at h1;have:Nn (x % pN) (y % pN)=x % pN+y % pN:=dk
 rw [this] at h;exact h
theorem ASW (x:Nat):AM dm (AH ST K0) f70 [Aa x] [] 500=some ([],Aa (((AK PL+(RR-x % pN)) % RR) % pN)):=dj
theorem ASX:AK PL=pN:=dj
theorem AE9 (x:Nat):AU dm 70 [Aa x] (Aa (DC x)):=by
 have h:=AP (AJ tC Ae) AB func70 (ASW x) trivial rfl
 have h3:=Hs x;have h5:=RO;have:(AK PL+(RR-x % pN)) % RR=pN-x % pN:=by
  rw [ASX,show pN+(RR-x % pN)=(pN-x % pN)+RR by omega,pi,jk dk]
 rw [this] at h;exact h
noncomputable def SU:dr:=(68,Ac (LD fun x y=>Aa (EP x y)))::(70,Ac (GP fun x=>Aa (DC x)))::ST
theorem Xm:AW dm SU:=⟨Ad func68 dj dj (Np fun x y _ _=>AE8 x y),Ad func70 dj dj (HI fun x _=>AE9 x),tC⟩
theorem ASY (x y:Nat):AM dm (AH SU K0) f83 [Aa x,Aa y] [] 300=some ([],Aa (Es x y)):=dj
theorem AE_ (x y:Nat):AU dm 83 [Aa x,Aa y] (Aa (Es x y)):=AP (AJ Xm Ae) AB func83 (ASY x y) trivial rfl
noncomputable def ASZ:List Item:=CB (AY dm (AH SU K0) (some 0) 100 0 none (Aj f66 [Aa 0,Aa 0] [] 0 []))
noncomputable def UY (x y:Nat) (t:List Ch) (i:Nat) (p:List Bool):gq:=⟨ASZ,⟨EC f66.ntmps [(4,.val false [.p 2 0]),(5,.val false [.p 3 0]),(6,.val false [.p 4 0]),(7,.val false [.p 5 0]),(8,.val false [.n .i64 i])],
 [(2,some ⟨40,Hr,false⟩),(3,some ⟨40,[.num 6 x],false⟩),(4,some ⟨40,[.num 6 y],false⟩),(5,some ⟨152,t,false⟩)],6,p⟩⟩
abbrev rmK:Option (List Nat×List Nat×Nat):=some ([4,5,6,7,8],[2,3,4,5],6)
def UZ (xi:Int) (y T i:Nat):Nat→Int
 | 0=>0
 | k+1=>mW (mW (Jw xi (AF y k)+DX (FI xi (AF y k)) (UZ xi y T i k) 0)+DX (AF T (i+k)) (CX (FI xi (AF y k)) (UZ xi y T i k) 0) 0)
def tG (xi:Int) (y T i k:Nat):Int:=CX (AF T (i+k)) (CX (FI xi (AF y k)) (UZ xi y T i k) 0) 0
def Xn (xi:Int) (y T i:Nat):dn:=(List.range i).map (AF T)++((List.range 6).map (tG xi y T i)++(UZ xi y T i 6::(List.range (5-i)).map fun j=>AF T (i+7+j)))
theorem ASa (x y:Nat):AY dm (AH SU K0) (some 4) 300 0 rmK (Aj f66 [Aa x,Aa y] [] 0 [])=some ([],[],UY (x % pN) (y % pN) (List.replicate 12 (.n .u64 0)) 0 []):=dj
theorem ASb (x y T i:Nat) (hi:i<6):AY dm (AH SU K0) (some 4) 300 0 rmK (UY x y [.num 12 T] i [])=some (Jy 12,[],UY x y (MZ (Xn (AF x i) y T i)) (i+1) []):=by
 obtain rfl | rfl | rfl | rfl | rfl | rfl:i=0∨i=1∨i=2∨i=3∨i=4∨i=5:=dk
 all_goals kernel_rfl
def mE (T:Nat):Nat→Nat
 | 0=>AK [AF T 6,AF T 7,AF T 8,AF T 9,AF T 10,AF T 11]
 | k+1=>((AF T (5-k)).toNat+18446744073709551616*mE T k) % pN
def tH (T:Nat):Nat→dp
 | 0=>[]
 | k+1=>tH T k++[(decide (mE T k<pN),true)]
theorem ASc (x y T:Nat):FH dm (AH SU K0) f66 300 0 (UY x y [.num 12 T] 6 [])=some (tH T 6,[],Aa (mE T 6)):=dj
theorem tI {xi:Int} {y T i:Nat}:∀ k,UZ xi y T i k=C0 xi y (T / 2^(64*i)) k
 | 0=>rfl
 | k+1=>by
  have hw:AF T (i+k)=AF (T / 2^(64*i)) k:=by
   unfold AF;rw [kw,← jr,show 64*i+64*k=64*(i+k) by omega]
  simp only [UZ,C0];rw [tI k,hw]
theorem AFA (T i k:Nat):AF T (i+k)=AF (T / 2^(64*i)) k:=by
 unfold AF;rw [kw,← jr,show 64*i+64*k=64*(i+k) by omega]
theorem AFB {x:Int} (hx:0≤x∧x<18446744073709551616) (y T:Nat):∀ k,Bo ((List.range k).map (B4 x y T))+((2^(64*k):Nat):Int)*C0 x y T k=x*((y % 2^(64*k):Nat):Int)+((T % 2^(64*k):Nat):Int)
 | 0=>by simp [Bo,C0,Nat.mod_one]
 | k+1=>by
  have ih:=AFB hx y T k;have he:=RP hx y T k;rw [ta,oq,UW,Xh,Xh,sU];simp only [lf,List.map_nil,Bo,lh,ow,Int.mul_zero,Int.add_zero];generalize ((2^(64*k):Nat):Int)=Q at *
  have e1:Q*B4 x y T k=Q*(x*AF y k)+Q*AF T k+Q*C0 x y T k-Q*18446744073709551616*C0 x y T (k+1):=by
   have:B4 x y T k=x*AF y k+AF T k+C0 x y T k-18446744073709551616*C0 x y T (k+1):=dk
   rw [this,Int.mul_sub,ql,ql,sf]
  have e2:x*(((y % 2^(64*k):Nat):Int)+Q*AF y k)=x*((y % 2^(64*k):Nat):Int)+Q*(x*AF y k):=by
   rw [ql,Int.mul_left_comm]
  rw [e1,e2];omega
theorem ASd {x y T i:Nat} (hi:i<6) (hy:y<RR) (hT:T<2^(64*(i+6))) :
  ((T+(AF x i).toNat*y*2^(64*i):Nat):Int)=Bo (Xn (AF x i) y T i)∧(Xn (AF x i) y T i).length=12:=by
 have hw:=B3 x i;obtain ⟨X,hX⟩:=ki hw.1;have hB:T / 2^(64*i)<2^(64*6):=by
  refine li ?_
  have e:2^(64*(i+6))=2^(64*i)*2^(64*6):=by rw [nj 64 i 6];exact jr 2 (64*i) (64*6)
  exact e▸hT
 have hz:((List.range (5-i)).map fun j=>AF T (i+7+j))=(List.range (5-i)).map fun _=>(0:Int):=by
  refine nb fun j _=>?_
  unfold AF;rw [lm (kr hT (oy dl dk))];rfl
 have hz2:∀ n,Bo ((List.range n).map fun _=>(0:Int))=0:=by
  intro n;induction n with
  | zero=>rfl
  | succ n ih=>rw [ta,oq,UW,ih];simp [Bo]
 have hA:Bo ((List.range i).map (AF T))=((T % 2^(64*i):Nat):Int):=by
  have:=XD i (T % 2^(64*i)) (jw _ (mi dl))
  rw [← this];refine jl Bo (nb fun j hj=>?_)
  have hj':j<i:=lz.1 hj
  unfold AF;have e:2^(64*i)=2^(64*j)*(2^64*2^(64*(i-j-1))):=by rw [← jr,← jr];congr 1;omega
  rw [e,Nat.mod_mul_right_div_self,Nat.mod_mul_right_mod]
 have hrow:(List.range 6).map (tG X y T i)=(List.range 6).map (B4 X y (T / 2^(64*i))):=by
  refine nb fun k _=>?_
  unfold tG B4;rw [tI,AFA]
 rw [hX];have hc:=AFB (x:=X) dk y (T / 2^(64*i)) 6
 rw [jk hB,jk (a:=y) (by rw [← DV];exact hy)] at hc
 constructor
 ·unfold Xn;rw [hz,UW,UW,hA,hrow,tI];simp only [Bo,hz2,lh,ow,Int.mul_zero,Int.add_zero];rw [hc];have e:=md T (2^(64*i))
  generalize 2^(64*i)=Q at *
  rw [jn,qd,kz,kz]
  conv=>lhs;rw [← e]
  rw [qd,kz,ql,Int.mul_comm ((X:Int)*y)];omega
 ·unfold Xn;simp;omega
theorem ASe (x i:Nat):x % 2^(64*(i+1))=x % 2^(64*i)+(AF x i).toNat*2^(64*i):=by
 have h:=Xh x i;have hw:=B3 x i;obtain ⟨X,hX⟩:=ki hw.1;rw [hX,← kz,← qd] at h;rw [hX,jn,jy X];exact Int.natCast_inj.1 h
theorem ASf (β:Env) (l:List Value) (h:AQ β (List.replicate 12 (.n .u64 0)) l):AQ β [.num 12 0] l:=GQ (k:=12) (x:=0) dj h
theorem ASg (T:Nat):mE T 0=AK [AF T 6,AF T 7,AF T 8,AF T 9,AF T 10,AF T 11]:=rfl
theorem ASh (z:Nat):(List.range 6).map (AF z)=[AF z 0,AF z 1,AF z 2,AF z 3,AF z 4,AF z 5]:=rfl
theorem ASi {T:Nat} (hT:T<pN*RR):mE T 0=T / RR∧T / RR<pN:=by
 have hT12:T / RR<pN:=li (by rw [jy];exact hT)
 refine ⟨?_,hT12⟩
 have h:=tA (x:=T / RR) (k:=6) (mv hT12 (by rw [← DV];exact UX))
 rw [ASh] at h;have e:∀ j,AF T (6+j)=AF (T / RR) j:=fun j=>by rw [AFA,← DV]
 rw [← e 0,← e 1,← e 2,← e 3,← e 4,← e 5] at h;rw [ASg];exact h
theorem ASj (T k:Nat):mE T (k+1)=((AF T (5-k)).toNat+18446744073709551616*mE T k) % pN:=rfl
theorem ASk (T j:Nat):T / 2^(64*j)=(AF T j).toNat+18446744073709551616*(T / 2^(64*(j+1))):=by
 rw [show 64*(j+1)=64*j+64 by omega,jr,← kw]
 have:=md (T / 2^(64*j)) (2^64)
 unfold AF;rw [jn];omega
theorem AFC {T:Nat} (hT:T<pN*RR) (k:Nat) (hk:k≤6):mE T k=T / 2^(64*(6-k)) % pN∧mE T k<pN:=by
 induction k with
 | zero =>
  obtain ⟨e,h⟩:=ASi hT;rw [e,pc,← DV];exact ⟨(jk h).symm,h⟩
 | succ k ih =>
  obtain ⟨i1,i2⟩:=ih dk;rw [ASj];refine ⟨?_,jw _ DB⟩
  rw [i1,show 6-(k+1)=5-k by omega,ASk T (5-k),show 5-k+1=6-k by omega,og,Nat.mul_mod_mod,← og]
theorem AFD {T:Nat} (hT:T<pN*RR):∀ k,k≤6→AO (tH T k)
 | 0,_=>trivial
 | k+1,hk=>cM (AFD hT k dk) ⟨jc (AFC hT k dk).2,trivial⟩
theorem AFE (x y:Nat):AU dm 66 [Aa x,Aa y] (Aa (Ah x y)):=by
 refine Ni (gv:=[]) func66 dj dj fun w0=>?_
 refine Ai (AJ Xm Ae) AB (ASa x y) trivial (AS dj) (fun _ _=>rfl) jb fun _=>?_
 have hx:=Hs x;have hy:=Hs y;have hyR:=LE y;have hxR:=LE x;have e:Ah x y=(x % pN)*(y % pN) % pN:=by unfold Ah;rw [← kj]
 rw [e];generalize x % pN=a at *
 generalize y % pN=b at *
 have loop:∀ r i,i+r=6→gn dm 66 CE w0 (Hp w0 (Aa (a*b % pN))) f66.ntmps [] (UY a b [.num 12 ((a % 2^(64*i))*b)] i []):=by
  intro r;induction r with
  | zero =>
   intro i hi;obtain rfl:i=6:=dk
   have e6:a % 2^(64*6)=a:=jk (DV▸hxR)
   have hT:a*b<pN*RR:=Nat.mul_lt_mul'' hx hyR
   have h:=IU (w0:=w0) (β0:=CE) (n:=f66.ntmps) (AJ Xm Ae) AB func66 (ASc a b (a*b)) (AFD hT 6 (jj _)) (AS dj) (fun _ _=>rfl) rfl
   rw [(AFC hT 6 (jj _)).1,oh,ll,kf,ko] at h;exact (jl (fun z=>gn dm 66 CE w0 (Hp w0 (Aa (a*b % pN))) f66.ntmps [] (UY a b [.num 12 (z*b)] 6 [])) e6).mpr h
  | succ r ih =>
   intro i hi;have ik:(a % 2^(64*i))*b<2^(64*(i+6)):=by
    rw [show 64*(i+6)=64*i+64*6 by omega,jr]
    exact Nat.mul_lt_mul'' (jw _ (mi dl)) (by rw [← DV];exact hyR)
   obtain ⟨r1,r2⟩:=ASd (x:=a) (T:=(a % 2^(64*i))*b) (show i<6 by omega) hyR ik
   have e2:(a % 2^(64*i))*b+(AF a i).toNat*b*2^(64*i)=(a % 2^(64*(i+1)))*b:=by
    rw [ASe,k_];congr 1;rw [rp]
   rw [e2] at r1;refine Ai (AJ Xm Ae) AB (ASb a b _ i dk) (PZ 12) (AS dj) (fun _ _=>rfl) jb fun _=>?_
   have:=ASU r1
   rw [r2] at this;refine N2 ?_ (ih (i+1) dk)
   exact ⟨rfl,rfl,rfl,fun β l h=>h,rfl,rfl,rfl,fun β l h=>h,rfl,rfl,rfl,fun β l h=>h,rfl,rfl,rfl,this,trivial⟩
 have h0:=loop 6 0 rfl;rw [ll,kf,qe,pe] at h0;refine N2 ?_ h0
 exact ⟨rfl,rfl,rfl,fun β l h=>h,rfl,rfl,rfl,fun β l h=>h,rfl,rfl,rfl,fun β l h=>h,rfl,rfl,rfl,ASf,trivial⟩
noncomputable def SV:dr:=(83,Ac (LD fun x y=>Aa (Es x y)))::(66,Ac (LD fun x y=>Aa (Ah x y)))::SU
theorem Pm:AW dm SV:=⟨Ad func83 dj dj (Np fun x y _ _=>AE_ x y),Ad func66 dj dj (Np fun x y _ _=>AFE x y),Xm⟩
def cU (g:Nat→dn→AV):ASpec:=fun args H fr gv =>
 match args with
 | [.val false [.sl k gu n _]]=>match AG H k with
  | some ⟨_,cs,_⟩=>match A8 .u64 cs with
   | some xs=>some (BR [k] 1 fr 0 [] (g n (AA xs gu n)) [] [(Nat.ble (gu+n) xs.length,true),(Nat.ble n 1125899906842624,true)] gv)
   | none=>none
  | _=>none
 | _=>none
theorem AFF {f:FuncId} {fn:Func} {g:Nat→dn→AV} (ip:dm.funcs[f]? = some fn) (hb:fn.body.isSome=true) (h_:fo fn) (hk:∀ n l,EU 1 0 [] (g n l) []=true)
  (h:∀ (gu n m:Nat) (xs:dn),(∀ d∈xs,0≤d∧d<18446744073709551616)→gu+n≤xs.length→n≤1125899906842624→Ab dm f [AR 0 gu n m] (BG xs) 1 [] (g n (AA xs gu n)) []):BJ dm f (cU g):=by
 refine HH ip hb h_ fun args H fr gv r hs=>?_
 unfold cU at hs;split at hs;case h_2=>cases hs
 rename_i k gu n c;split at hs;case h_2=>cases hs
 rename_i ty cs o hk';split at hs;case h_2=>cases hs
 rename_i xs iy;injection hs with hs;refine ⟨[k],[AR 0 gu n c],BG xs,1,0,[],_,_,_,gv,hs.symm,fun β us w ha hg hc=>?_⟩
 obtain ⟨u1,iu,r1,ha,rfl⟩:=ha;obtain ⟨g1,g2,g3⟩:=Ml hg hk' iy;exact ⟨h gu n c xs g1 (jf hc.1) (jf hc.2.1),hk _ _,⟨u1,_,r1,ha,rfl⟩,g2,g3⟩
theorem Mr {n:Nat} (h:n≤1125899906842624):AL .i64 (n:Int)=true:=by
 simp only [AL,jm,ji];omega
theorem ASl (gu n m:Nat) (i:Int) (xs:dn):AT dm (AH S0 K0) f209 100 1 [] (Aj f209 (Pa gu n m i) (BG xs) 1 du) =
 some ([(AL .i64 n,true),(decide (i<n),true),(decide (0≤i∧i<n),true),(decide (gu+i.toNat*1<xs.length),true)],[],.val false [.v (.int .u64 (xs.getD (gu+i.toNat*1) 0))],[]):=dj
theorem ASm (gu n m:Nat) (i:Int) (xs:dn):AT dm (AH S0 K0) f209 100 1 [] (Aj f209 (Pa gu n m i) (BG xs) 1 dt) =
 some ([(AL .i64 n,true),(decide (i<n),false)],[],.val false [.n .u64 0],[]):=dj
theorem ASn {gu n m:Nat} {xs:dn} (gx:gu+n≤xs.length) (hn:AL .i64 n=true) {i:Int} (hi:0≤i) :
  Ab dm 209 (Pa gu n m i) (BG xs) 1 [] (.val false [.v (.int .u64 (Bk xs gu n i))]) []:=by
 by_cases h:i<n
 ·refine A7 (gv:=du) func209 dj dj fun β0 w0 hb=>?_
  rw [show Bk xs gu n i=xs.getD (gu+i.toNat*1) 0 from by rw [kb];exact JI dk]
  exact Ay (AJ IW Ae) AB func209 (ASl gu n m i xs) ⟨hn,by simp [h],by simp [hi,h],by simp;omega,trivial⟩ (AS dj) hb jb
 ·have e:Bk xs gu n i=0:=by
   unfold Bk AA;rw [j_,ma (by rw [ke];omega)];rfl
  rw [e];refine BL (v:=.val false [.n .u64 0]) (A7 (gv:=dt) func209 dj dj fun β0 w0 hb=>?_) fun _ _=>qZ
  exact Ay (AJ IW Ae) AB func209 (ASm gu n m i xs) ⟨hn,by simp [h],trivial⟩ (AS dj) hb jb
theorem ASo:BJ dm 209 atSpec:=by
 refine HH func209 dj dj fun args H fr gv r h=>?_
 unfold atSpec at h;split at h;case h_2=>cases h
 rename_i k gu n m I;split at h;case h_2=>cases h
 rename_i c0 i ty cs o hI hk;split at h;case h_2=>cases h
 rename_i xs iy;injection h with h;refine ⟨[k],Pa gu n m i,BG xs,1,0,[],_,[],_,gv,h.symm,fun β us w ha hg hc=>?_⟩
 obtain ⟨u1,iu,r1,⟨u2,iw,r2,ha,rfl⟩,rfl⟩:=ha;obtain ⟨g1,g2,g3⟩:=Ml hg hk iy;obtain ⟨rfl,p1⟩:=DJ (β:=β) (u:=u2) (fm r2) hI
 exact ⟨ASn (jf hc.1) hc.2.1 (by simpa using hc.2.2.1),dj,⟨u1,_,r1,⟨_,iw,Aw ⟨rfl,rfl,p1⟩,ha,rfl⟩,rfl⟩,g2,g3⟩
theorem ASp (i j:Int):AM dm (AH S0 K0) f208 [iA i,iA j] du 100=some ([(decide (j<i),true)],iA i):=dj
theorem ASq (i j:Int):AM dm (AH S0 K0) f208 [iA i,iA j] dt 100=some ([(decide (j<i),false)],iA j):=dj
theorem ASr (i j:Int):AU dm 208 [iA i,iA j] (iA (GR i j)):=by
 by_cases h:j<i
 ·have e:GR i j=i:=by unfold GR;split<;>omega
  rw [e];exact AP (AJ IW Ae) AB func208 (ASp i j) ⟨jc h,trivial⟩ rfl
 ·have e:GR i j=j:=by unfold GR;split<;>omega
  rw [e];exact AP (AJ IW Ae) AB func208 (ASq i j) ⟨jg h,trivial⟩ rfl
noncomputable def SW:dr:=(209,atSpec)::(208,FY (UQ [.i64,.i64] fun l=>match l with | [i,j]=>some ([],iA (GR i j)) | _=>none))::SV
theorem ASs:AW dm SW:=⟨ASo,GS func208 dj dj (bU fun is c v h hh hc=>by
 split at h
 ·injection h with h;injection h with h1 h2;subst h1;subst h2;exact ASr _ _
 ·cases h),Pm⟩
noncomputable def ASu:List Item:=CB (AY dm (AH SV K0) (some 0) 100 1 none (Aj f188 [AR 0 0 0 0] (BG []) 1 []))
noncomputable def Xo (gu n m:Nat) (xs:dn) (v:List Ch) (i:Int) (p:List Bool):gq:=⟨ASu,⟨EC f188.ntmps [(0,AR 0 gu n m),(2,.val false [.p 1 0]),(3,.val false [.p 2 0]),(4,iA i)],
 [(0,some (Ak [.seq .u64 xs])),(1,some ⟨40,Hr,false⟩),(2,some ⟨40,v,false⟩)],3,p⟩⟩
abbrev wdK:Option (List Nat×List Nat×Nat):=some ([0,2,3,4],[0,1,2],3)
theorem ASv (gu n m:Nat) (xs:dn):AY dm (AH SV K0) (some 0) 100 1 wdK (Aj f188 [AR 0 gu n m] (BG xs) 1 [])=some ([(AL .i64 n,true)],[],Xo gu n m xs Hr (wI ((n:Int)-1)) []):=dj
def tJ (xs:dn) (gu:Nat) (i:Int):Int:=xs.getD (gu+i.toNat*1) 0
theorem ASw (gu n m:Nat) (xs:dn) (v:Nat) (i:Int):AY dm (AH SV K0) (some 0) 100 1 wdK (Xo gu n m xs [.num 6 v] i du) =
 some ([(decide (0≤i),true),(decide (0≤i∧i<n),true),(decide (gu+i.toNat*1<xs.length),true),(decide (v<pN),true)],[],Xo gu n m xs [.num 6 (((tJ xs gu i).toNat+18446744073709551616*v) % pN)] (wI (i-1)) []):=dj
theorem ASx (gu n m:Nat) (xs:dn) (v:Nat) (i:Int):AT dm (AH SV K0) f188 100 1 [] (Xo gu n m xs [.num 6 v] i dt)=some ([(decide (0≤i),false)],[],Aa v,[]):=dj
theorem ASy (β:Env) (l:List Value) (h:AQ β Hr l):AQ β [.num 6 0] l:=GQ (k:=6) (x:=0) dj h
theorem tK {gu n m:Nat} {xs:dn} (hx:∀ d∈xs,0≤d∧d<18446744073709551616) (hl:gu+n≤xs.length) (hn:n≤1125899906842624):Ab dm 188 [AR 0 gu n m] (BG xs) 1 [] (Aa (AK (AA xs gu n) % pN)) []:=by
 refine A7 (gv:=[]) func188 dj dj fun β0 w0 hb=>?_
 refine Ai (AJ Pm Ae) AB (ASv gu n m xs) ⟨Mr hn,trivial⟩ (AS dj) hb jb fun _=>?_
 have hw:∀ d∈AA xs gu n,0≤d∧d<18446744073709551616:=DM hx
 have gx:(AA xs gu n).length=n:=by unfold AA;rw [ke,kv];omega
 have loop:∀ c,c≤n→gn dm 188 β0 w0 (A_ β0 w0 [] (Aa (AK (AA xs gu n) % pN)) []) f188.ntmps [] (Xo gu n m xs [.num 6 (AK (AA xs gu n) / 2^(64*c) % pN)] ((c:Int)-1) []):=by
  intro c;induction c with
  | zero =>
   intro _;have h:=Ay (w0:=w0) (W:=[]) (n:=f188.ntmps) (AJ Pm Ae) AB func188 (ASx gu n m xs (AK (AA xs gu n) % pN) (((0:Nat):Int)-1)) ⟨rfl,trivial⟩ (AS dj) hb jb
   rw [ll,kf,ko];exact Af dt h
  | succ c ih =>
   intro hc;have hi:((c+1:Nat):Int)-1=(c:Int):=dk
   rw [hi];have hs:=UN hw c;have hv:tJ xs gu c=(AA xs gu n).getD c 0:=by
    unfold tJ;rw [jn,kb];exact (JI dk).symm
   refine Af du (Ai (AJ Pm Ae) AB (ASw ..) ⟨by simp,by simp;omega,by simp;omega,jc (jw _ DB),trivial⟩ (AS dj) hb jb fun _=>?_)
   rw [hv,Au (z:=(c:Int)-1) dk];have e:((AA xs gu n).getD c 0).toNat+18446744073709551616*(AK (AA xs gu n) / 2^(64*(c+1)) % pN)=_+_:=rfl
   rw [og,Nat.mul_mod_mod,← og,← hs];exact ih dk
 have h0:=loop n (jj _)
 have ik:=JH (AA xs gu n) hw
 rw [gx] at ik;rw [lm ik,oz] at h0;rw [Au dk];refine N2 ?_ h0
 exact ⟨rfl,rfl,rfl,fun β l h=>h,rfl,rfl,rfl,fun β l h=>h,rfl,rfl,rfl,ASy,trivial⟩
noncomputable def ASz:List Item:=CB (AY dm (AH SV K0) (some 0) 100 1 none (Aj f206 (Nr 0 0 0 0) (BG []) 1 []))
noncomputable def Rl (gu n m:Nat) (xs:dn) (x:Nat) (v:List Ch) (i:Int) (p:List Bool):gq:=⟨ASz,⟨EC f206.ntmps [(1,AR 0 gu n m),(2,.val false [.p 1 0]),(4,.val false [.p 2 0]),(5,.val false [.p 3 0]),(6,iA i)],
 [(0,some (Ak [.seq .u64 xs])),(1,some ⟨40,[.num 6 x],false⟩),(2,some ⟨40,Hr,false⟩),(3,some ⟨40,v,false⟩)],4,p⟩⟩
abbrev tM:Option (List Nat×List Nat×Nat):=some ([1,2,4,5,6],[0,1,2,3],4)
def tN:List Ch:=[.n .u64 1,.n .u64 0,.n .u64 0,.n .u64 0,.n .u64 0,.n .u64 0]
theorem AS0 (x gu n m:Nat) (xs:dn):AY dm (AH SV K0) (some 0) 100 1 tM (Aj f206 (Nr x gu n m) (BG xs) 1 [])=some ([(AL .i64 n,true)],[],Rl gu n m xs x tN (wI (wI (64*(n:Int))-1)) []):=dj
def LN (xs:dn) (gu:Nat) (i:Int):Int:=bits .and .u64 (Int.fdiv (CY xs gu i) (2^min (AX false .u64 (Int.tmod i 64)).toNat 64)) 1
def LO (gu n:Nat) (xs:dn) (i:Int) (bit:Bool):dp:=[(decide (0≤i),true),(true,true),(decide (0≤wI (Int.tdiv i 64)∧wI (Int.tdiv i 64)<n),true),(decide (gu+(wI (Int.tdiv i 64)).toNat*1<xs.length),true),(decide (0≤i∧(0:Int)<64),true),
 (decide (0≤AX false .u64 (Int.tmod i 64)∧0≤CY xs gu i),true),(decide (LN xs gu i=1),bit)]
theorem AS1 (gu n m:Nat) (xs:dn) (x v:Nat) (i:Int):AY dm (AH SV K0) (some 0) 100 1 tM (Rl gu n m xs x [.num 6 v] i dw)=some (LO gu n xs i true,[],Rl gu n m xs x [.num 6 (Ah (Ah v v) x)] (wI (i-1)) []):=dj
theorem AS2 (gu n m:Nat) (xs:dn) (x v:Nat) (i:Int):AY dm (AH SV K0) (some 0) 100 1 tM (Rl gu n m xs x [.num 6 v] i d_)=some (LO gu n xs i false,[],Rl gu n m xs x [.num 6 (Ah v v)] (wI (i-1)) []):=dj
theorem AS3 (gu n m:Nat) (xs:dn) (x v:Nat) (i:Int):AT dm (AH SV K0) f206 100 1 [] (Rl gu n m xs x [.num 6 v] i dt)=some ([(decide (0≤i),false)],[],Aa v,[]):=dj
theorem Xp (xs:dn) (gu:Nat) (c:Nat):LN xs gu c=JG (CY xs gu c) (Int.tmod c 64)∧AX false .u64 (Int.tmod c 64)=Int.tmod c 64:=by
 have hr:Int.tmod (c:Int) 64=((c % 64:Nat):Int):=by rw [oe dk];rfl
 have e:AX false .u64 (Int.tmod (c:Int) 64)=Int.tmod c 64:=by rw [hr,DT,IntKind.wrap_u64];omega
 exact ⟨by unfold LN;rw [e];rfl,e⟩
theorem AFH (x a b:Nat):Ah (x^a % pN) (x^b % pN)=x^(a+b) % pN:=by unfold Ah;rw [← kj,jr]
theorem AS4 (x a:Nat):Ah (x^a % pN) x=x^(a+1) % pN:=by unfold Ah;rw [qa,kt]
theorem AFI {gu n m:Nat} {xs:dn} (g_:∀ d∈xs,0≤d∧d<18446744073709551616) (gx:gu+n≤xs.length) (hn:n≤1125899906842624) (x:Nat) :
  Ab dm 206 (Nr x gu n m) (BG xs) 1 [] (Aa (DD x (AK (AA xs gu n)))) []:=by
 refine A7 (gv:=[]) func206 dj dj fun β0 w0 hb=>?_
 refine Ai (AJ Pm Ae) AB (AS0 x gu n m xs) ⟨Mr hn,trivial⟩ (AS dj) hb jb fun _=>?_
 have ik:∀ d∈AA xs gu n,0≤d∧d<18446744073709551616:=DM g_
 have hwl:(AA xs gu n).length=n:=by unfold AA;rw [ke,kv];omega
 generalize hE:AK (AA xs gu n)=E at *
 have loop:∀ c,c≤64*n→gn dm 206 β0 w0 (A_ β0 w0 [] (Aa (DD x E)) []) f206.ntmps [] (Rl gu n m xs x [.num 6 (x^(E / 2^c) % pN)] ((c:Int)-1) []):=by
  intro c;induction c with
  | zero =>
   intro _;have h:=Ay (w0:=w0) (W:=[]) (n:=f206.ntmps) (AJ Pm Ae) AB func206 (AS3 gu n m xs x (x^E % pN) (((0:Nat):Int)-1)) ⟨rfl,trivial⟩ (AS dj) hb jb
   rw [kf,ko,LI];exact Af dt h
  | succ c ih =>
   intro hc;have hi:((c+1:Nat):Int)-1=(c:Int):=dk
   rw [hi];have hq:Int.tdiv (c:Int) 64=((c / 64:Nat):Int):=by rw [pv dk];rfl
   have hr:Int.tmod (c:Int) 64=((c % 64:Nat):Int):=by rw [oe dk];rfl
   have hw:wI (Int.tdiv (c:Int) 64)=((c / 64:Nat):Int):=by rw [hq];exact Au dk
   have hj:c / 64<n:=dk
   have hv:CY xs gu c=(AA xs gu n).getD (c / 64) 0:=by
    unfold CY;rw [hw,jn,kb];exact (JI hj).symm
   have hvb:0≤CY xs gu c∧CY xs gu c<18446744073709551616:=by rw [hv];exact Ns ik _
   obtain ⟨eb,em⟩:=Xp xs gu c;have hbit:LN xs gu c=((E / 2^c % 2:Nat):Int):=by
    obtain ⟨V,hV⟩:=ki hvb.1;rw [eb,hr,← hE,← XP _ c ik,← hv,hV,jn];exact XN V _ dk dk
   have ib:∀ bit,decide (LN xs gu c=1)=bit→AO (LO gu n xs c bit):=by
    intro bit hbt;refine ⟨by simp,rfl,?_,?_,by simp,?_,hbt,trivial⟩
    ·rw [hw];simp;omega
    ·rw [hw];simp;omega
    ·rw [em,hr];simp only [ji];exact ⟨dk,hvb.1⟩
   have hdiv:E / 2^c=2*(E / 2^(c+1))+E / 2^c % 2:=by
    rw [kt,← kw];omega
   have ihc:=ih dk;rcases nf (E / 2^c) with h0 | h1
   ·refine Af d_ (Ai (AJ Pm Ae) AB (AS2 ..) (ib false (by rw [hbit,h0];rfl)) (AS dj) hb jb fun _=>?_)
    rw [Au (z:=(c:Int)-1) dk,AFH,show E / 2^(c+1)+E / 2^(c+1)=E / 2^c by omega]
    exact ihc
   ·refine Af dw (Ai (AJ Pm Ae) AB (AS1 ..) (ib true (by rw [hbit,h1];rfl)) (AS dj) hb jb fun _=>?_)
    rw [Au (z:=(c:Int)-1) dk,AFH,AS4,show E / 2^(c+1)+E / 2^(c+1)+1=E / 2^c by omega]
    exact ihc
 have h0:=loop (64*n) (jj _)
 have hl:=JH (AA xs gu n) ik
 rw [hwl,hE] at hl;rw [lm hl,kf] at h0;have e3:wI (wI (64*(n:Int))-1)=((64*n:Nat):Int)-1:=by
  rw [Au (z:=64*(n:Int)) dk,Au dk];omega
 rw [e3];refine N2 ?_ h0
 exact ⟨rfl,rfl,rfl,fun β l h=>h,rfl,rfl,rfl,fun β l h=>h,rfl,rfl,rfl,fun β l h=>h,rfl,rfl,rfl,fun β l h=>GQ (k:=6) (x:=1) dj h,trivial⟩
theorem AFJ:BJ dm 206 powSpec:=by
 refine HH func206 dj dj fun args H fr gv r h=>?_
 unfold powSpec at h;split at h;case h_2=>cases h
 rename_i a k gu n m;split at h;case h_2=>cases h
 rename_i x ty cs o hx hk;split at h;case h_2=>cases h
 rename_i xs iy;injection h with h;refine ⟨[k],Nr x gu n m,BG xs,1,0,[],Aa (DD x (AK ((xs.drop gu).take n))),[],_,gv,h.symm,fun β us w ha hg hc=>?_⟩
 obtain ⟨u1,iu,r1,⟨u2,iw,r2,ha,rfl⟩,rfl⟩:=ha;obtain ⟨g1,g2,g3⟩:=Ml hg hk iy;refine ⟨AFI g1 (jf hc.1) (jf hc.2.1) x,dj,⟨u1,_,?_,⟨u2,iw,?_,ha,rfl⟩,rfl⟩,g2,g3⟩
 ·obtain ⟨l,q,rfl⟩:=r1;exact ⟨l,GQ hx q,rfl⟩
 ·exact r2
noncomputable def SX:dr:=(188,cU fun _ l=>Aa (AK l % pN))::(206,powSpec)::SW
theorem N3:AW dm SX:=⟨AFF func188 dj dj (fun _ _=>rfl) (fun _ _ _ _ hx hl hn=>tK hx hl hn),AFJ,ASs⟩
noncomputable def AS5:List Item:=CB (AY dm (AH SX K0) (some 0) 100 2 none (Aj f146 (J0 0 0 0 0 0 0) (Gx [] []) 2 []))
abbrev rcK:Option (List Nat×List Nat×Nat):=some ([0,1,5],[0,1],2)
section
variable (gu n m gw n' m':Nat) (xs ys:dn)
noncomputable def Rm (i:Int) (p:List Bool):gq:=⟨AS5,⟨EC f146.ntmps [(0,AR 0 gu n m),(1,AR 1 gw n' m'),(5,iA i)],Gx xs ys,2,p⟩⟩
theorem AS6:AY dm (AH SX K0) (some 0) 100 2 rcK (Aj f146 (J0 gu n m gw n' m') (Gx xs ys) 2 []) =
 some ([(AL .i64 n,true),(AL .i64 n',true)],[],Rm gu n m gw n' m' xs ys (wI (GR n n'-1)) []):=dj
def Uf (i:Int) (r:dp):dp:=(Nat.ble (gu+n) xs.length,true)::(AL .i64 n,true)::(decide (0≤i),true)::(Nat.ble (gw+n') ys.length,true)::(AL .i64 n',true)::(decide (0≤i),true)::r
theorem AS7 (i:Int):AY dm (AH SX K0) (some 0) 100 2 rcK (Rm gu n m gw n' m' xs ys i ew) =
 some ((decide (0≤i),true)::Uf gu n gw n' xs ys i ((decide (Bk xs gu n i<Bk ys gw n' i),false)::Uf gu n gw n' xs ys i [(decide (Bk ys gw n' i<Bk xs gu n i),false)]),[],Rm gu n m gw n' m' xs ys (wI (i-1)) []):=dj
theorem AS8 (i:Int):AT dm (AH SX K0) f146 100 2 [] (Rm gu n m gw n' m' xs ys i dw) =
 some ((decide (0≤i),true)::Uf gu n gw n' xs ys i [(decide (Bk xs gu n i<Bk ys gw n' i),true)],[],.val false [.n .i64 (-1)],[]):=dj
theorem AS9 (i:Int):AT dm (AH SX K0) f146 100 2 [] (Rm gu n m gw n' m' xs ys i eg) =
 some ((decide (0≤i),true)::Uf gu n gw n' xs ys i ((decide (Bk xs gu n i<Bk ys gw n' i),false)::Uf gu n gw n' xs ys i [(decide (Bk ys gw n' i<Bk xs gu n i),true)]),[],.val false [.n .i64 1],[]):=dj
theorem AS_ (i:Int):AT dm (AH SX K0) f146 100 2 [] (Rm gu n m gw n' m' xs ys i dt) =
 some ([(decide (0≤i),false)],[],.val false [.n .i64 0],[]):=dj
end
theorem AFL {gu n m gw n' m':Nat} {xs ys:dn} (hx:∀ d∈xs,0≤d∧d<18446744073709551616) (hy:∀ d∈ys,0≤d∧d<18446744073709551616) (hl:gu+n≤xs.length) (hl':gw+n'≤ys.length)
  (hn:AL .i64 n=true) (hn':AL .i64 n'=true):Ab dm 146 (J0 gu n m gw n' m') (Gx xs ys) 2 [] (.val false [.v (.int .i64 (Et (AK (AA xs gu n)) (AK (AA ys gw n'))))]) []:=by
 refine A7 (gv:=[]) func146 dj dj fun β0 w0 hb=>?_
 refine Ai (AJ N3 Ae) AB (AS6 gu n m gw n' m' xs ys) ⟨hn,hn',trivial⟩ (AS dj) hb jb fun _=>?_
 have bn:n≤9223372036854775807:=by simp only [AL,jm,ji] at hn;omega
 have bn':n'≤9223372036854775807:=by simp only [AL,jm,ji] at hn';omega
 have e:wI (GR n n'-1)=((max n n':Nat):Int)-1:=by
  have:GR n n'=((max n n':Nat):Int):=by unfold GR;split<;>omega
  rw [this,Au dk]
 rw [e];have loop:∀ c,c≤max n n'→AK (AA xs gu n) / 2^(64*c)=AK (AA ys gw n') / 2^(64*c) →
   gn dm 146 β0 w0 (A_ β0 w0 [] (.val false [.v (.int .i64 (Et (AK (AA xs gu n)) (AK (AA ys gw n'))))]) []) f146.ntmps [] (Rm gu n m gw n' m' xs ys ((c:Int)-1) []):=by
  intro c;induction c with
  | zero =>
   intro _ heq;rw [ll,kf,ko,ko] at heq;have h:=Ay (w0:=w0) (W:=[]) (n:=f146.ntmps) (AJ N3 Ae) AB func146 (AS_ gu n m gw n' m' xs ys (((0:Nat):Int)-1)) ⟨rfl,trivial⟩ (AS dj) hb jb
   exact Af dt (IX h fun _ _=>RT (by unfold Et;rw [heq];simp))
  | succ c ih =>
   intro hc heq;have hi:((c+1:Nat):Int)-1=(c:Int):=dk
   rw [hi];have sx:=UN (DM (gu:=gu) (n:=n) hx) c
   have sy:=UN (DM (gu:=gw) (n:=n') hy) c
   have bx:=Ns (DM (gu:=gu) (n:=n) hx) c
   have byy:=Ns (DM (gu:=gw) (n:=n') hy) c
   have ex:Bk xs gu n c=(AA xs gu n).getD c 0:=by unfold Bk;rw [jn]
   have ey:Bk ys gw n' c=(AA ys gw n').getD c 0:=by unfold Bk;rw [jn]
   have hC:∀ r,AO r→AO (Uf gu n gw n' xs ys c r):=fun r hr=>⟨jh hl,hn,by simp,jh hl',hn',by simp,hr⟩
   by_cases ik:Bk xs gu n c<Bk ys gw n' c
   ·have h:=Ay (w0:=w0) (W:=[]) (n:=f146.ntmps) (AJ N3 Ae) AB func146 (AS8 gu n m gw n' m' xs ys c) ⟨by simp,hC _ ⟨jc ik,trivial⟩⟩ (AS dj) hb jb
    refine Af dw (IX h fun _ _=>RT ?_)
    have:AK (AA xs gu n)<AK (AA ys gw n'):=UM (Q:=2^(64*c)) (by rw [sx,sy,heq];omega)
    unfold Et;rw [je this]
   ·by_cases hgt:Bk ys gw n' c<Bk xs gu n c
    ·have h:=Ay (w0:=w0) (W:=[]) (n:=f146.ntmps) (AJ N3 Ae) AB func146 (AS9 gu n m gw n' m' xs ys c) ⟨by simp,hC _ ⟨jg ik,hC _ ⟨jc hgt,trivial⟩⟩⟩ (AS dj) hb jb
     refine Af eg (IX h fun _ _=>RT ?_)
     have:AK (AA ys gw n')<AK (AA xs gu n):=UM (Q:=2^(64*c)) (by rw [sx,sy,heq];omega)
     unfold Et;rw [jd dk,je this]
    ·refine Af ew (Ai (AJ N3 Ae) AB (AS7 ..) ⟨by simp,hC _ ⟨jg ik,hC _ ⟨jg hgt,trivial⟩⟩⟩ (AS dj) hb jb fun _=>?_)
     rw [Au (z:=(c:Int)-1) dk];exact ih dk (by rw [sx,sy,heq];omega)
 refine loop _ (jj _) ?_
 have ja:∀ (zs:dn) (of k:Nat),(∀ d∈zs,0≤d∧d<18446744073709551616)→k≤max n n'→AK (AA zs of k) / 2^(64*max n n')=0:=by
  intro zs of k hz hk;refine lm (kr (JH _ (DM hz)) (oy dl ?_))
  have:(AA zs of k).length≤k:=by unfold AA;rw [ke];omega
  omega
 rw [ja xs gu n hx dk,ja ys gw n' hy dk]
theorem AS':BJ dm 146 cmpSpec:=by
 refine HH func146 dj dj fun args H fr gv r h=>?_
 unfold cmpSpec at h;split at h;case h_2=>cases h
 rename_i k gu n m t gw n' m';split at h;case h_2=>cases h
 rename_i ty cs o ty' ds o' hk ht;split at h;case h_2=>cases h
 rename_i xs ys iy hys;injection h with h;refine ⟨[k,t],J0 gu n m gw n' m',Gx xs ys,2,0,[],_,[],_,gv,h.symm,fun β us w ha hg hc=>?_⟩
 obtain ⟨u1,iu,r1,⟨u2,iw,r2,ha,rfl⟩,rfl⟩:=ha;obtain ⟨g1,g1',g2,g3⟩:=bK hg hk ht iy hys;exact ⟨AFL g1 g1' (jf hc.1) (jf hc.2.1) hc.2.2.1 hc.2.2.2.1,dj,⟨u1,_,r1,⟨u2,_,r2,ha,rfl⟩,rfl⟩,g2,g3⟩
noncomputable def ATA:List Item:=CB (AY dm (AH SX K0) (some 0) 100 1 none (Aj f189 [AR 0 0 0 0] (A5 []) 1 []))
noncomputable def Xq (gu n c:Nat) (xs:dn) (L:Nat) (ys:dn) (i:AV) (p:List Bool):gq:=⟨ATA,⟨EC f189.ntmps [(0,AR 0 gu n c),(3,AR 1 0 L L),(4,i)],[(0,some (Ak [.seq .u8 xs])),(1,some ⟨38,[.seq .u64 ys],false⟩)],2,p⟩⟩
abbrev AFM:Option (List Nat×List Nat×Nat):=some ([0,3,4],[0,1],2)
theorem ATB (gu n c:Nat) (xs:dn):AY dm (AH SX K0) (some 0) 100 1 AFM (Aj f189 [AR 0 gu n c] (A5 xs) 1 []) =
 some ([(AL .i64 n,true),(true,true),(Pk (wI (Int.tdiv (wI ((n:Int)+7)) 8)) 8,true)],[],Xq gu n c xs (UU n) (List.replicate (UU n) 0) (.val false [.n .i64 0]) []):=dj
def rwX (xs:dn) (gu:Nat) (n:Int) (i:Int):Int:=IntKind.u64.wrap (AX false .u64 (xs.getD (gu+i.toNat*1) 0)*2^min (AX false .u64 (wI (8*Int.tmod (H4 n i) 8))).toNat 64)
def tO (xs:dn) (gu:Nat) (n:Int) (ys:dn) (i:Int):Int:=IntKind.u64.wrap (ys.getD (0+(FC n i).toNat*1) 0+rwX xs gu n i)
def rwC (gu n:Nat) (xs:dn) (L:Nat) (ys:dn) (i:Int):dp:=[(AL .i64 n,true),(decide (i<n),true),(AL .i64 n,true),(true,true),(true,true),(decide (0≤FC n i∧FC n i<L),true),(decide (0+(FC n i).toNat*1<ys.length),true),
 (decide (0≤i∧i<n),true),(decide (gu+i.toNat*1<xs.length),true),(decide (0≤H4 n i∧(0:Int)<8),true),(decide (0≤AX false .u64 (wI (8*Int.tmod (H4 n i) 8))),true),(decide (0≤FC n i∧FC n i<L),true),(decide (0+(FC n i).toNat*1<ys.length),true)]
theorem ATC (gu n c:Nat) (xs:dn) (L:Nat) (ys:dn) (i:Int):AY dm (AH SX K0) (some 0) 100 1 AFM (Xq gu n c xs L ys (iA i) du) =
 some (rwC gu n xs L ys i,[],Xq gu n c xs L (ys.set (0+(FC n i).toNat*1) (tO xs gu n ys i)) (iA (wI (i+1))) []):=dj
theorem ATD (gu n c:Nat) (xs:dn) (L:Nat) (ys:dn) (i:Int):AT dm (AH SX K0) f189 100 1 [1] (Xq gu n c xs L ys (iA i) dt) =
 some ([(AL .i64 n,true),(decide (i<n),false)],[],AR 1 0 L L,cI ys):=dj
theorem ATE {gu n c:Nat} {xs:dn} (hx:∀ d∈xs,0≤d∧d<256) (hl:gu+n≤xs.length) (hn:n≤35184372088832) :
  Ab dm 189 [AR 0 gu n c] (A5 xs) 1 [] (AR 1 0 ((n+7) / 8) ((n+7) / 8)) (sO (Ao (AA xs gu n)) ((n+7) / 8)):=by
 have gx:(AA xs gu n).length=n:=by unfold AA;rw [ke,kv];omega
 have hfin:Ao (AA xs gu n)<2^(64*((n+7) / 8)):=by
  have h1:=UT (AA xs gu n) (DM hx)
  rw [gx,Nz] at h1;exact kr h1 (oy dl dk)
 refine A7 (gv:=[]) func189 dj dj fun β0 w0 hb=>?_
 obtain ⟨l1,l2⟩:=AEp hn;have hw:AL .i64 (n:Int)=true:=by simp only [AL,jm,ji];omega
 refine Ai (AJ N3 Ae) AB (ATB gu n c xs) ⟨hw,rfl,?_,trivial⟩ (AS dj) hb jb fun _=>?_
 ·rw [l2];unfold Pk;simp only [ji];omega
 ·rw [l1];refine IY ?_
  have hbd:∀ d∈AA xs gu n,0≤d∧d<256:=DM hx
  have loop:∀ r i,i+r=n→gn dm 189 β0 w0 (A_ β0 w0 [] (AR 1 0 ((n+7) / 8) ((n+7) / 8)) (cI (ED (Ao (AA xs gu n)) ((n+7) / 8)))) f189.ntmps []
    (Xq gu n c xs ((n+7) / 8) (ED (Ao ((AA xs gu n).take i)*256^(n-i)) ((n+7) / 8)) (iA i) []):=by
   intro r;induction r with
   | zero =>
    intro i hi;obtain rfl:i=n:=dk
    rw [oh,kf,kb,nu dk];exact Af dt (Ay (AJ N3 Ae) AB func189 (ATD ..) ⟨hw,by simp,trivial⟩ (AS dj) hb jb)
   | succ r ih =>
    intro i hi;have ek:H4 (n:Int) i=((n-1-i:Nat):Int):=sL hn dk
    have ej:FC (n:Int) i=(((n-1-i) / 8:Nat):Int):=by unfold FC;rw [ek,Xb];exact Au dk
    have em:wI (8*Int.tmod ((n-1-i:Nat):Int) 8)=((8*((n-1-i) % 8):Nat):Int):=by rw [cF,Au dk];omega
    have em':AX false .u64 (wI (8*Int.tmod ((n-1-i:Nat):Int) 8))=((8*((n-1-i) % 8):Nat):Int):=by rw [em,DT,IntKind.wrap_u64];omega
    have hjL:(n-1-i) / 8<(n+7) / 8:=dk
    have hlenw:∀ N,(ED N ((n+7) / 8)).length=(n+7) / 8:=fun N=>by simp [ED]
    have hwx:xs.getD (gu+i) 0=(AA xs gu n).getD i 0:=(JI dk).symm
    have hxb:0≤(AA xs gu n).getD i 0∧(AA xs gu n).getD i 0<256:=by
     rw [j_];cases h':(AA xs gu n)[i]? with
     | none=>simp
     | some d=>exact hbd d (ol h')
    refine Af du (Ai (AJ N3 Ae) AB (ATC ..) ?_ (AS dj) hb jb fun _=>?_)
    ·unfold rwC;rw [ej,ek,em',hlenw];refine ⟨hw,by simp;omega,hw,rfl,rfl,by simp only [ji];omega,by simp only [ji];omega,by simp only [ji];omega,by simp;omega,by simp only [ji];omega,by simp only [ji];omega,by simp only [ji];omega,by simp only [ji];omega,trivial⟩
    ·have hset:((ED (Ao ((AA xs gu n).take i)*256^(n-i)) ((n+7) / 8)).set (0+(FC n i).toNat*1) (tO xs gu n (ED (Ao ((AA xs gu n).take i)*256^(n-i)) ((n+7) / 8)) i)) =
       ED (Ao ((AA xs gu n).take (i+1))*256^(n-(i+1))) ((n+7) / 8):=by
      have ei:0+(((n-1-i) / 8:Nat):Int).toNat*1=(n-1-i) / 8:=dk
      have eo:gu+(i:Int).toNat*1=gu+i:=dk
      unfold tO rwX;rw [ej,ek,em',ei,eo,hwx,AEm hjL];obtain ⟨X,hX⟩:=ki hxb.1;have hX2:X<256:=dk
      rw [hX,DT,IntKind.wrap_u64,IntKind.wrap_u64,IntKind.wrap_u64,jn,mc dk];have en:n-i=(n-1-i)+1:=dk
      have en':n-(i+1)=n-1-i:=dk
      have et:Ao ((AA xs gu n).take (i+1))*256^(n-(i+1))=Ao ((AA xs gu n).take i)*256^(n-1-i+1)+X*256^(n-1-i):=by
       rw [AEg dk,hX,jn,en',k_,kx,← se]
      rw [et,en];obtain ⟨hh,B,w1,w2,w3,w4,w5⟩:=AEi (M:=Ao ((AA xs gu n).take i)) (k:=n-1-i) hX2
      have ir:8*((n-1-i) % 8)+8≤64:=dk
      have hs64:hh*2^(8*((n-1-i) % 8)+8)+B<18446744073709551616:=by
       have:=jw ((Ao ((AA xs gu n).take i)*256^(n-1-i+1)+X*256^(n-1-i)) / 2^(64*((n-1-i) / 8))) (show 0<2^64 by decide)
       rw [w5] at this;exact this
      refine AEl ?_ fun j hj=>?_
      ·have hB64:X*2^(8*((n-1-i) % 8))<2^64:=by
        rw [w2];exact kr w3 (oy dl ir)
       have ex:((X:Int) % 18446744073709551616*2^(8*((n-1-i) % 8))) % 18446744073709551616=(B:Int):=by
        have a1:((X:Int) % 18446744073709551616)=(X:Int):=dk
        have a2:((X:Int)*2^(8*((n-1-i) % 8)))=((X*2^(8*((n-1-i) % 8)):Nat):Int):=by rw [kz,p_];rfl
        rw [a1,a2,w2];rw [w2] at hB64;have:B<18446744073709551616:=hB64
        omega
       rw [ex];unfold AF;rw [w5,w1];omega
      ·unfold AF;rw [AEh hX2 hj]
     rw [hset,Au (z:=(i:Int)+1) dk];exact ih (i+1) dk
  have:=loop n 0 dk
  rw [List.take_zero,show Ao []=0 from rfl,pe,AEn] at this
  exact AEr this fun e w h=>XG (AEq hfin) h
theorem ATF:BJ dm 189 wrdSpec:=by
 refine HH func189 dj dj fun args H fr gv r h=>?_
 unfold wrdSpec at h;split at h;case h_2=>cases h
 rename_i k gu n c;split at h;case h_2=>cases h
 rename_i ty cs o hk;split at h;case h_2=>cases h
 rename_i xs iy;injection h with h;refine ⟨[k],[AR 0 gu n c],A5 xs,1,1,[],_,_,_,gv,h.symm,fun β us w ha hg hc=>?_⟩
 obtain ⟨u1,iu,r1,ha,rfl⟩:=ha;obtain ⟨g1,g2,g3⟩:=Eu hg hk iy;exact ⟨ATE g1 (jf hc.1) (jf hc.2.1),dj,⟨u1,_,r1,ha,rfl⟩,g2,g3⟩
noncomputable def SY:dr:=(146,cmpSpec)::(189,wrdSpec)::SX
theorem Xr:AW dm SY:=⟨AS',ATF,N3⟩
def PM2:dn:=[0xb9feffffffffaaa9,0x1eabfffeb153ffff,0x6730d2a0f6b0f624,0x64774b84f38512bf,0x4b1ba7b6434bacd7,0x1a0111ea397fe69a]
theorem ATG:AK (AA PM2 0 6)=pN-2:=dj
theorem ATH (x:Nat):AM dm (AH SY K0) f161 [Aa x] [] 300=some (Jy 2,Aa (DD x (AK (AA PM2 0 6)))):=dj
theorem AFQ (x:Nat):AU dm 161 [Aa x] (Aa (Bz x)):=by
 have h:=AP (AJ Xr Ae) AB func161 (ATH x) (PZ 2) rfl
 rw [ATG] at h;exact h
theorem ATI (gu n m:Nat) (xs:dn):AT dm (AH SY K0) f140 300 1 [] (Aj f140 [AR 0 gu n m] (A5 xs) 1 du) =
 some ([(AL .i64 n,true),(!decide ((n:Int)=48),true)],[],cJ 40,[]):=dj
def cV (N:Nat):Bool:=decide (0≤Et (AK (AA (JJ N) 0 6)) (AK (AA PL 0 6)))
theorem ATJ (gu m:Nat) (xs:dn):AT dm (AH SY K0) f140 300 1 [] (Aj f140 [AR 0 gu 48 m] (A5 xs) 1 dx) =
 some ([(true,true),(false,false),(Nat.ble (gu+48) xs.length,true),(true,true),(true,true),(true,true),(true,true),(true,true),(cV (Ao (AA xs gu 48)),true)],[],cJ 41,[]):=dj
theorem ATK (gu m:Nat) (xs:dn):AT dm (AH SY K0) f140 300 1 [] (Aj f140 [AR 0 gu 48 m] (A5 xs) 1 dz) =
 some ([(true,true),(false,false),(Nat.ble (gu+48) xs.length,true),(true,true),(true,true),(true,true),(true,true),(true,true),(cV (Ao (AA xs gu 48)),false),(true,true),(true,true)],[],
  .tup [(true,[.num 6 (AK (AA (JJ (Ao (AA xs gu 48))) 0 6) % pN)]),(false,[.n .i64 0])],[]):=dj
theorem AFR {N:Nat} (hN:N<RR):cV N=!decide (N<pN):=by
 unfold cV;rw [rH hN,APq];unfold Et;by_cases h:N<pN
 ·rw [je h,jc h];rfl
 ·rw [jd h,jg h];split<;>rfl
theorem AFS {gu n m:Nat} {xs:dn} (hx:∀ d∈xs,0≤d∧d<256) (hl:gu+n≤xs.length) (hn:AL .i64 n=true) :
  Ab dm 140 [AR 0 gu n m] (A5 xs) 1 [] (Ie n (Ao (AA xs gu n))) []:=by
 by_cases h:n=48
 ·subst h;have hR:Ao (AA xs gu 48)<RR:=by
   have h1:=UT (AA xs gu 48) (DM hx)
   have h2:(AA xs gu 48).length=48:=by unfold AA;rw [ke,kv];omega
   rw [h2] at h1;exact Nat.lt_of_lt_of_eq h1 dj
  by_cases hN:Ao (AA xs gu 48)<pN
  ·refine BL (A7 (gv:=dz) func140 dj dj fun β0 w0 hb =>
    Ay (AJ Xr Ae) AB func140 (ATK gu m xs) ⟨rfl,rfl,jh hl,rfl,rfl,rfl,rfl,rfl,by rw [AFR hR,jc hN];rfl,rfl,rfl,trivial⟩ (AS dj) hb jb) fun β u hu=>?_
   unfold Ie G0 H5;rw [je ⟨rfl,hN⟩,je rfl,je hN];rw [rH hR,jk hN] at hu;exact C7 (fun _ q=>q) (fun _ q=>EX rfl q) hu
  ·refine BL (A7 (gv:=dx) func140 dj dj fun β0 w0 hb =>
    Ay (AJ Xr Ae) AB func140 (ATJ gu m xs) ⟨rfl,rfl,jh hl,rfl,rfl,rfl,rfl,rfl,by rw [AFR hR,jg hN];rfl,trivial⟩ (AS dj) hb jb) fun β u hu=>?_
   unfold Ie G0 H5;rw [jd (fun q=>hN q.2),je rfl,jd hN]
   exact C7 (fun _ q=>Xg q) (fun _ q=>EX rfl q) hu
 ·refine BL (A7 (gv:=du) func140 dj dj fun β0 w0 hb =>
   Ay (AJ Xr Ae) AB func140 (ATI gu n m xs) ⟨hn,by simp;omega,trivial⟩ (AS dj) hb jb) fun β u hu=>?_
  unfold Ie G0 H5;rw [jd (fun q=>h q.1),jd h]
  exact C7 (fun _ q=>Xg q) (fun _ q=>EX rfl q) hu
theorem ATL:BJ dm 128 (UV fun n l=>Ie n (Ao l)):=sS func128 dj dj (fun _ _=>rfl) (fun _ _ _ _ _ hl hn=>sR hl hn)
noncomputable def SZ:dr:=(161,Ac (GP fun x=>Aa (Bz x)))::(140,D9 (UV fun n l=>Ie n (Ao l)))::(128,D9 (UV fun n l=>Ie n (Ao l)))::(130,D9 powSpec)::(206,D9 powSpec)::(188,D9 (cU fun _ l=>Aa (AK l % pN)))::SY
theorem ATM:AW dm SZ:=⟨Ad func161 dj dj (HI fun x _=>AFQ x),EV (sS func140 dj dj (fun _ _=>rfl) (fun _ _ _ _ hx hl hn=>AFS hx hl hn)),EV ATL,EV ADl,EV AFJ,EV (AFF func188 dj dj (fun _ _=>rfl) (fun _ _ _ _ hx hl hn=>tK hx hl hn)),Xr⟩
open Ex
theorem J5 (x n:Nat):(Co x n).length=n:=by simp [Co]
theorem tP (x n:Nat):Co x (n+1)=F8 x n::Co x n:=by
 unfold Co;rw [ry,lf,ny];congr 1
 refine nb fun i hi=>?_
 have:i<n:=lz.1 hi
 simp only [Function.comp];congr 1;omega
theorem AFT:∀ (n x:Nat),Ao (Co x n)=x % 256^n
 | 0,x=>by simp [Co,Ao,Nat.mod_one]
 | n+1,x=>by
  rw [tP];simp only [Ao];rw [J5,AFT n x,kt,Nat.mod_mul];unfold F8;rw [jn,jy,Nat.add_comm]
theorem AFU:∀ (l:dn),(∀ d∈l,0≤d∧d<256)→Co (Ao l) l.length=l
 | [],_=>rfl
 | d::r,h=>by
  have hd:=h d (by simp)
  have hr:∀ d∈r,0≤d∧d<256:=fun x hx=>h x (by simp [hx])
  have ik:=UT r hr;have ih:=AFU r hr;rw [kp,tP];have e1:F8 (Ao (d::r)) r.length=d:=by
   unfold F8;simp only [Ao];rw [jy,Nat.mul_add_div (mi dl),lm ik];omega
  have e2:Co (Ao (d::r)) r.length=Co (Ao r) r.length:=by
   unfold Co;refine nb fun i hi=>?_
   have hi':i<r.length:=lz.1 hi
   unfold F8;simp only [Ao];have e:256^r.length=256^(r.length-1-i)*(256*256^i):=by
    rw [← se,← jr];congr 1;omega
   rw [e,mj,Nat.mul_add_div (mi dl),mj d.toNat,Nat.mul_add_mod]
  rw [e1,e2,ih]
end Go.Proofs.YtgnajdcdcblaoaaGreat
