/- Part 3 of the proof. -/
import Derived.Test.YtgnajdcdcblaoaaGreatPB
import Derived.Test.YtgnajdcdcblaoaaGreatRows
set_option maxRecDepth 100000
set_option maxHeartbeats 4000000
open Go.Proofs.Tryz renaming prog→dn
namespace Go.Proofs.YtgnajdcdcblaoaaGreat
open Ex
def BX:dp→Int
 | []=>0
 | d::r=>d+18446744073709551616*BX r
theorem WM:∀ (k x:Nat),x<2^(64*k)→BX ((List.range k).map (AE x))=x
 | 0,x,h=>by simp only [je,ia] at h;simp [BX];omega
 | k+1,x,h=>by
  have hq:x / 2^64<2^(64*k):=by
   apply jb
   rw [← gp]
   rwa [show 64+64*k=64*(k+1) by omega]
  have ih:=WM k (x / 2^64) hq
  rw [pc,i_,kp];have e:(AE x ∘ Nat.succ)=AE (x / 2^64):=by funext i;simp [Function.comp,Ew]
  rw [e];show AE x 0+18446744073709551616*BX _=_;rw [ih,← OZ]
theorem WN:∀ (ds:dp) (y:Nat),(∀ d∈ds,0≤d∧d<18446744073709551616)→(y:Int)=BX ds→ds=(List.range ds.length).map (AE y)∧y<2^(64*ds.length)
 | [],y,_,h=>by simp only [BX] at h;simp;omega
 | d::ds,y,hb,h=>by
  have hd:=hb d (by simp)
  have hs:=OZ y;have hw:=Bm y 0;simp only [BX] at h;have e1:d=AE y 0:=dl
  have e2:((y / 2^64:Nat):Int)=BX ds:=dl
  obtain ⟨i1,i2⟩:=WN ds _ (fun d h=>hb d (by simp [h])) e2
  refine ⟨?_,?_⟩
  ·rw [ii,pc,i_,kp];have e:(AE y ∘ Nat.succ)=AE (y / 2^64):=by funext i;simp [Function.comp,Ew]
   rw [e,← i1,← e1]
  ·rw [ii,show 64*(ds.length+1)=64+64*ds.length by omega,gp]
   have:=Nat.lt_mul_div_succ y (show 0<2^64 by decide)
   have h2:y / 2^64+1≤2^(64*ds.length):=i2
   exact ik this (j_ _ h2)
def Li (ds:dp):List Ch:=ds.map fun d=>.v (.int .u64 d)
theorem ACT {β:Env}:∀ {ds:dp} {l:List Value},AO β (Li ds) l→l=ds.map (.int .u64)∧∀ d∈ds,has .u64 d
 | [],l,h=>by simp [Li,AO] at h;simp [h]
 | d::ds,l,⟨l1,l2,⟨h1,h1'⟩,h2,h3⟩=>by
  obtain ⟨i1,i2⟩:=ACT h2;subst h1;subst i1;subst h3;refine ⟨rfl,fun x hx=>?_⟩
  rcases gr.1 hx with rfl | hx
  ·exact h1'.2
  ·exact i2 x hx
theorem Zl {β β':Env} {ds:dp} {l:List Value} {y:Nat} (h:(y:Int)=BX ds) (hr:AO β (Li ds) l):AO β' [.num ds.length y] l:=by
 obtain ⟨h1,h2⟩:=ACT hr;obtain ⟨h3,h4⟩:=WN ds y (fun d hd=>D3 (h2 d hd)) h
 have:l=words ds.length y:=by
  rw [h1,words]
  conv=>lhs;rw [h3]
  simp [List.map_map,Function.comp]
 rw [this];exact WJ h4
theorem FZ {β β':Env} {k x:Nat} {a:List Ch} {l:List Value} (h:C0 k a=some x) (hr:AO β a l):AO β' [.num k x] l:=by
 obtain ⟨h2,h3⟩:=G' h hr;subst h2;exact WJ h3
theorem Ed {β:Env} {ρ:List Nat} {k0 j:Nat} (h:j<k0):A3 β ρ k0 j=β (nth ρ j):=by simp [A3,BP.2 h]
theorem CC {β:Env} {b:Blk} {k:Nat} {w:World} (h:DN β b k w):∃ X,β k=some X:=by
 rcases h with ⟨B,n,_,_,_,_,_,h,_⟩ | ⟨_,h,_⟩ | ⟨B,_,_,_,h,_⟩<;>exact ⟨_,h⟩
theorem TV {β β':Env} {b d:Blk} {k j:Nat} {w:World} (h:DN β b k w) (he:β' j=β k) (hd:(d.ty=Bf∧Hp d.cs=true∧(d.opn=true→b.opn=true∨b.ty≠Bf))∨(d.ty=b.ty∧d.opn=b.opn)) (hc:∀ l,AO β b.cs l→AO β' d.cs l):DN β' d j w:=by
 rcases h with ⟨B,n,l,t,pre,ty,fz,h1,h2,h3,h4,h5⟩ | ⟨X,h1,h2,h3⟩ | ⟨B,l,es,q,h1,h2,h3,h4⟩
 ·refine .inl ⟨B,n,l,t,pre,ty,fz,by rw [he];exact h1,hc _ h2,h3,h4,fun hr=>?_⟩
  obtain ⟨e1,e2⟩:=hd.resolve_left fun h=>hr h.1
  rw [e1] at hr ⊢;rw [e2];exact h5 hr
 ·refine .inr (.inl ⟨X,by rw [he];exact h1,?_,hc _ h3⟩)
  cases X with
  | at_=>exact h2
  | nil =>
   rcases hd with ⟨e,_⟩ | ⟨e1,e2⟩
   ·exact Or.inr e
   ·exact Or.elim h2 (fun h=>Or.inl (e2.trans h)) fun h=>Or.inr (e1.trans h)
  | emp =>
   rcases hd with ⟨e,_,e3⟩ | ⟨e1,e2⟩
   ·refine ⟨?_,e⟩
    cases q:d.opn with
    | false=>rfl
    | true=>exact ((e3 q).elim (fun h=>by rw [h2.1] at h;cases h) fun h=>absurd h2.2 h)
   ·exact ⟨e2.trans h2.1,e1.trans h2.2⟩
 ·rcases hd with ⟨_,e,_⟩ | ⟨e1,e2⟩
  ·exact absurd (ni ..) (Ys e (hc _ h3))
  ·exact .inr (.inr ⟨B,l,es,q,by rw [he];exact h1,by rw [e1];exact h2,hc _ h3,by rw [e1];exact h4⟩)
def M2:Nat→List Blk→Heap
 | _,[]=>[]
 | j,b::r=>(j,some b)::M2 (j+1) r
theorem Oq:∀ {bs:List Blk} {j k:Nat} {b:Blk},AF (M2 j bs) k=some b→j≤k∧bs[k-j]? = some b
 | [],_,_,_,h=>by cases h
 | d::bs,j,k,b,h=>by
  simp only [M2,AF] at h;split at h
  ·rename_i e;have:=An.1 e
   subst this;injection h with h;exact ⟨gd _,by simp [h]⟩
  ·rename_i e;have:=IR e
   obtain ⟨h1,h2⟩:=Oq h;refine ⟨dl,?_⟩
   rw [show k-j=(k-(j+1))+1 by omega,List.getElem?_cons_succ]
   exact h2
theorem WO {β:Env} {H:Heap} {w:World} {ρ:List Nat} {bs:List Blk} (g:Ex.Good β H w)
  (h:∀ j d,bs[j]? = some d→∃ b,AF H (nth ρ j)=some b∧((d.ty=Bf∧Hp d.cs=true∧(d.opn=true→b.opn=true∨b.ty≠Bf))∨(d.ty=b.ty∧d.opn=b.opn))∧∀ l,AO β b.cs l→AO (A3 β ρ bs.length) d.cs l)
  (hne:∀ i j d,bs[i]? = some d→d.ty≠Bf→i≠j→j<bs.length→nth ρ i≠nth ρ j):Ex.Good (A3 β ρ bs.length) (M2 0 bs) w:=by
 have hlt:∀ {j:Nat} {d:Blk},bs[j]? = some d→j<bs.length:=fun hj=>by
  rcases gt _ bs.length with h | h
  ·exact h
  ·rw [jw h] at hj;cases hj
 refine ⟨fun j blk hj=>?_,fun i j B n n' h1 h2 h3 h4=>?_,fun j B n hj=>?_⟩
 ·obtain ⟨_,hj⟩:=Oq hj;rw [lz] at hj;obtain ⟨b,hb,hd,hc⟩:=h j blk hj;exact TV (g.heap _ b hb) (Ed (hlt hj)) hd hc
 ·obtain ⟨d,hd,hr⟩:=F1 h1;obtain ⟨e,he⟩:=jd.1 h2;obtain ⟨_,hd⟩:=Oq hd;obtain ⟨_,he⟩:=Oq he;rw [lz] at hd he;by_cases hij:i=j
  ·exact hij
  ·exfalso
   obtain ⟨b,hb,hdd,_⟩:=h i d hd;obtain ⟨b',hb',_⟩:=h j e he;rw [Ed (hlt hd)] at h3;rw [Ed (hlt he)] at h4;have hbr:b.ty≠Bf:=by
    obtain ⟨e1,_⟩:=hdd.resolve_left fun h=>hr h.1
    rw [← e1];exact hr
   exact hne i j d hd hr hij (hlt he) (g.inj _ _ B n n' (FS hb hbr) (by rw [hb'];rfl) h3 h4)
 ·unfold A3 at hj;split at hj
  ·exact g.lt _ _ _ hj
  ·cases hj
def Am (c:List Ch):Blk:=⟨Bf,c,false⟩
theorem Zm {β:Env} {H:Heap} {w:World} {k:Nat} {b:Blk} {c:List Ch} (g:Ex.Good β H w) (hk:AF H k=some b) (hc:∀ l,AO β b.cs l→AO (A3 β [k] 1) c l) (hw:Hp c=true:=by rfl):Ex.Good (A3 β [k] 1) [(0,some (Am c))] w:=by
 refine WO (ρ:=[k]) (bs:=[Am c]) g (fun j d hj=>?_) fun i j d hi hr=>?_
 ·match j,hj with
  | 0,hj=>injection hj with hj;subst hj;exact ⟨b,hk,.inl ⟨rfl,hw,nofun⟩,hc⟩
 ·match i,hi with
  | 0,hi=>injection hi with hi;subst hi;exact absurd rfl hr
theorem ACU {β:Env} {H:Heap} {w:World} {k t:Nat} {b d:Blk} {c e:List Ch} (g:Ex.Good β H w) (hk:AF H k=some b) (ht:AF H t=some d)
  (hc:∀ l,AO β b.cs l→AO (A3 β [k,t] 2) c l) (he:∀ l,AO β d.cs l→AO (A3 β [k,t] 2) e l) (hw:Hp c=true:=by rfl) (hv:Hp e=true:=by rfl):Ex.Good (A3 β [k,t] 2) [(0,some (Am c)),(1,some (Am e))] w:=by
 refine WO (ρ:=[k,t]) (bs:=[Am c,Am e]) g (fun j z hj=>?_) fun i j z hi hr=>?_
 ·match j,hj with
  | 0,hj=>injection hj with hj;subst hj;exact ⟨b,hk,.inl ⟨rfl,hw,nofun⟩,hc⟩
  | 1,hj=>injection hj with hj;subst hj;exact ⟨d,ht,.inl ⟨rfl,hv,nofun⟩,he⟩
 ·match i,hi with
  | 0,hi=>injection hi with hi;subst hi;exact absurd rfl hr
  | 1,hi=>injection hi with hi;subst hi;exact absurd rfl hr
theorem ACV {β:Env} {H:Heap} {w:World} {k t:Nat} {b d:Blk} {c e:List Ch} (g:Ex.Good β H w) (hk:AF H k=some b) (ht:AF H t=some d) (hne:k≠t)
  (hc:∀ l,AO β b.cs l→AO (A3 β [k,t] 2) c l) (he:∀ l,AO β d.cs l→AO (A3 β [k,t] 2) e l):Ex.Good (A3 β [k,t] 2) [(0,some ⟨b.ty,c,b.opn⟩),(1,some ⟨d.ty,e,d.opn⟩)] w:=by
 refine WO (ρ:=[k,t]) (bs:=[⟨b.ty,c,b.opn⟩,⟨d.ty,e,d.opn⟩]) g (fun j z hj=>?_) fun i j z hi hr hij hj=>?_
 ·match j,hj with
  | 0,hj=>injection hj with hj;subst hj;exact ⟨b,hk,.inr ⟨rfl,rfl⟩,hc⟩
  | 1,hj=>injection hj with hj;subst hj;exact ⟨d,ht,.inr ⟨rfl,rfl⟩,he⟩
 ·match i,j,hi,hj,hij with
  | 0,1,_,_,_=>exact hne
  | 1,0,_,_,_=>exact hne.symm
  | 0,0,_,_,q=>exact absurd rfl q
  | 1,1,_,_,q=>exact absurd rfl q
theorem WP {β0:Env} {w0:World} {W:List Nat} {v:AV} {j:Nat} {ty:TypeId} {o:Bool} {c c':List Ch} (hc:∀ (β:Env) l,AO β c l→AO β c' l) {e:Ending} {w:World} (h:A4 β0 w0 W v [(j,some ⟨ty,c,o⟩)] e w):A4 β0 w0 W v [(j,some ⟨ty,c',o⟩)] e w:=by
 obtain ⟨u,β,h1,h2⟩:=h;have hg:∀ b blk,AF [(j,some (⟨ty,c',o⟩:Blk))] b=some blk→b=j∧blk=⟨ty,c',o⟩∧AF [(j,some (⟨ty,c,o⟩:Blk))] b=some ⟨ty,c,o⟩:=by
  intro b blk hb;simp only [AF] at hb ⊢;split at hb
  ·rename_i hbj;injection hb with hb;exact ⟨(An.1 hbj).symm,hb.symm,rfl⟩
  ·cases hb
 refine ⟨u,β,h1,{ h2 with good:=⟨fun b blk hb=>?_,fun b b' B n n' q1 q2 q3 q4=>?_,h2.good.lt⟩ }⟩
 ·obtain ⟨e1,e2,e3⟩:=hg b blk hb;subst e2;exact TV (d:=⟨ty,c',o⟩) (h2.good.heap b _ e3) rfl (.inr ⟨rfl,rfl⟩) (hc β)
 ·obtain ⟨x,hx,_⟩:=F1 q1;obtain ⟨y,hy⟩:=jd.1 q2;rw [(hg b x hx).1,(hg b' y hy).1]
def CV (x:Int) (y T:Nat):Nat→Int
 | 0=>0
 | i+1=>mW (mW (JB x (AE y i)+C' (EY x (AE y i)) (CV x y T i) 0)+C' (AE T i) (CF (EY x (AE y i)) (CV x y T i) 0) 0)
def Bn (x:Int) (y T i:Nat):Int:=CF (AE T i) (CF (EY x (AE y i)) (CV x y T i) 0) 0
def Ot (x:Int) (y T:Nat):Int:=CF (AE T 6) (CV x y T 6) 0
def TW (x:Int) (y T:Nat):Int:=mW (AE T 7+C' (AE T 6) (CV x y T 6) 0)
theorem ACW {a T c:Int} (ha:0≤a∧a≤340282366920938463426481119284349108225) (hT:0≤T∧T<18446744073709551616) (hc:0≤c∧c<18446744073709551616) :
  a+T+c=CF T (CF (a % 18446744073709551616) c 0) 0+18446744073709551616*mW (mW (a / 18446744073709551616+C' (a % 18446744073709551616) c 0)+C' T (CF (a % 18446744073709551616) c 0) 0) ∧
  (0≤mW (mW (a / 18446744073709551616+C' (a % 18446744073709551616) c 0)+C' T (CF (a % 18446744073709551616) c 0) 0)∧mW (mW (a / 18446744073709551616+C' (a % 18446744073709551616) c 0)+C' T (CF (a % 18446744073709551616) c 0) 0)<18446744073709551616):=by
 simp only [E'];unfold CF C';omega
theorem oB {x y:Int} (hx:0≤x∧x<18446744073709551616) (hy:0≤y∧y<18446744073709551616):0≤x*y∧x*y≤340282366920938463426481119284349108225:=by
 refine ⟨Int.mul_nonneg hx.1 hy.1,?_⟩
 have:=Int.mul_le_mul (show x≤18446744073709551615 by omega) (show y≤18446744073709551615 by omega) hy.1 dm
 omega
theorem oC {x:Int} (hx:0≤x∧x<18446744073709551616) (y T:Nat):∀ i,0≤CV x y T i∧CV x y T i<18446744073709551616
 | 0=>by simp [CV]
 | i+1=>(ACW (oB hx (Bm y i)) (Bm T i) (oC hx y T i)).2
theorem QX {x:Int} (hx:0≤x∧x<18446744073709551616) (y T i:Nat):x*AE y i+AE T i+CV x y T i=Bn x y T i+18446744073709551616*CV x y T (i+1) :=
 (ACW (oB hx (Bm y i)) (Bm T i) (oC hx y T i)).1
def R8:Nat:=13407807929942597099574024998205846127479365820592393377723561443721764030073546976801874298166903427690031858186486050853753882811946569946433649006084096
theorem ACX:R8=2^(64*8):=dk
def HG (T:Nat) (x:Int) (y:Nat):Nat:=(T+x.toNat*y) % R8
def Lj (x:Int) (y T:Nat):dp:=[Bn x y T 0,Bn x y T 1,Bn x y T 2,Bn x y T 3,Bn x y T 4,Bn x y T 5,Ot x y T,TW x y T]
def WQ (x:Int) (y T:Nat):dp:=[Bn x y T 1,Bn x y T 2,Bn x y T 3,Bn x y T 4,Bn x y T 5,Ot x y T,TW x y T,0]
theorem AN8 {x:Int} (hx:0≤x∧x<18446744073709551616) {y T:Nat} (hy:y<RR) (hT:T<R8) :
  ((HG T x y:Nat):Int)=BX (Lj x y T)∧((HG T x y / 18446744073709551616:Nat):Int)=BX (WQ x y T):=by
 have e0:x*AE y 0+AE T 0+CV x y T 0=Bn x y T 0+18446744073709551616*CV x y T 1:=QX hx y T 0
 have e1:x*AE y 1+AE T 1+CV x y T 1=Bn x y T 1+18446744073709551616*CV x y T 2:=QX hx y T 1
 have e2:x*AE y 2+AE T 2+CV x y T 2=Bn x y T 2+18446744073709551616*CV x y T 3:=QX hx y T 2
 have e3:x*AE y 3+AE T 3+CV x y T 3=Bn x y T 3+18446744073709551616*CV x y T 4:=QX hx y T 3
 have e4:x*AE y 4+AE T 4+CV x y T 4=Bn x y T 4+18446744073709551616*CV x y T 5:=QX hx y T 4
 have e5:x*AE y 5+AE T 5+CV x y T 5=Bn x y T 5+18446744073709551616*CV x y T 6:=QX hx y T 5
 have z:CV x y T 0=0:=rfl
 have c6:=oC hx y T 6;have t6:=Bm T 6;have t7:=Bm T 7;have e6:AE T 6+CV x y T 6=Ot x y T+18446744073709551616*C' (AE T 6) (CV x y T 6) 0:=by unfold Ot CF C';omega
 have b0:0≤Bn x y T 0∧Bn x y T 0<18446744073709551616:=by unfold Bn CF;omega
 have b1:0≤Bn x y T 1∧Bn x y T 1<18446744073709551616:=by unfold Bn CF;omega
 have b2:0≤Bn x y T 2∧Bn x y T 2<18446744073709551616:=by unfold Bn CF;omega
 have b3:0≤Bn x y T 3∧Bn x y T 3<18446744073709551616:=by unfold Bn CF;omega
 have b4:0≤Bn x y T 4∧Bn x y T 4<18446744073709551616:=by unfold Bn CF;omega
 have b5:0≤Bn x y T 5∧Bn x y T 5<18446744073709551616:=by unfold Bn CF;omega
 have b6:0≤Ot x y T∧Ot x y T<18446744073709551616:=by unfold Ot CF;omega
 have e7:TW x y T=(AE T 7+C' (AE T 6) (CV x y T 6) 0) % 18446744073709551616:=E' _
 have dT:=WM 8 T (by rw [← ACX];exact hT)
 have dy:=WM 6 y (by rw [← C9];exact hy)
 have dT':BX [AE T 0,AE T 1,AE T 2,AE T 3,AE T 4,AE T 5,AE T 6,AE T 7]=T:=dT
 have dy':BX [AE y 0,AE y 1,AE y 2,AE y 3,AE y 4,AE y 5]=y:=dy
 have em:x*(y:Int)=BX [x*AE y 0,x*AE y 1,x*AE y 2,x*AE y 3,x*AE y 4,x*AE y 5]:=by
  rw [← dy'];simp only [BX,m_,Int.mul_zero,Int.mul_left_comm x 18446744073709551616]
 have key:((T+x.toNat*y:Nat):Int)=BX (Lj x y T)+(R8:Nat)*((AE T 7+C' (AE T 6) (CV x y T 6) 0) / 18446744073709551616):=by
  have:((x.toNat*y:Nat):Int)=x*y:=by rw [iy,qu hx.1]
  rw [mr,this,em,← dT'];clear em this dT dy dT' dy';generalize x*AE y 0=q0 at *
  generalize x*AE y 1=q1 at *
  generalize x*AE y 2=q2 at *
  generalize x*AE y 3=q3 at *
  generalize x*AE y 4=q4 at *
  generalize x*AE y 5=q5 at *
  generalize C' (AE T 6) (CV x y T 6) 0=o at *
  unfold Lj R8;simp only [BX];omega
 have hbd:0≤BX (Lj x y T)∧BX (Lj x y T)<(R8:Nat):=by
  have b7:0≤TW x y T∧TW x y T<18446744073709551616:=dl
  clear key em dT dy dT' dy' e0 e1 e2 e3 e4 e5 e6 e7;unfold Lj R8;simp only [BX];omega
 have h0:((HG T x y:Nat):Int)=BX (Lj x y T):=by
  unfold HG;rw [Int.natCast_emod,key,Int.add_mul_emod_self_left,Int.emod_eq_of_lt hbd.1 hbd.2]
 refine ⟨h0,?_⟩
 rw [oe,h0];have:BX (Lj x y T)=Bn x y T 0+18446744073709551616*BX (WQ x y T):=by
  unfold Lj WQ;simp only [BX];omega
 omega
def Ou (y T:Nat):Heap:=[(0,some ⟨40,[.num 6 y],false⟩),(1,some ⟨186,[.num 8 T],false⟩)]
def Ov (x s:Int):List AV:=[.val false [.v (.int .u64 x)],.val false [.p 0 0],.val false [.n .i64 s],.val false [.p 1 0]]
def JD:Nat→dr
 | 0=>[]
 | n+1=>(true,true)::JD n
theorem Ow:∀ n,AM (JD n)
 | 0=>trivial
 | n+1=>⟨rfl,Ow n⟩
theorem AN9 (x:Int) (y T:Nat):AR dn (AG S5 K0) Tryz.f202 600 2 [1] (Ah Tryz.f202 (Ov x 0) (Ou y T) 2 []) =
 some (JD 15,[1],.tup [],[(1,some ⟨186,Li (Lj x y T),false⟩)]):=dk
def nv:Ch→Ch
 | .n k i=>.v (.int k i)
 | c=>c
theorem AN_ {β:Env} {c:Ch} {l:List Value} (h:BF β c l):BF β (nv c) l:=by
 cases c<;>try exact h
 exact ⟨h.1,rfl,h.2⟩
theorem WR {β:Env}:∀ {cs:List Ch} {l:List Value},AO β cs l→AO β (cs.map nv) l
 | [],_,h=>h
 | _::_,_,⟨l1,l2,h1,h2,h3⟩=>⟨l1,l2,AN_ h1,WR h2,h3⟩
def ACY (x:Int) (y T:Nat):List Ch:=[.v (.int .u64 (Bn x y T 1)),.v (.int .u64 (Bn x y T 2)),.v (.int .u64 (Bn x y T 3)),.v (.int .u64 (Bn x y T 4)),.v (.int .u64 (Bn x y T 5)),.v (.int .u64 (Ot x y T)),.v (.int .u64 (TW x y T)),.n .u64 0]
theorem AN' (x:Int) (y T:Nat):AR dn (AG S5 K0) Tryz.f202 600 2 [1] (Ah Tryz.f202 (Ov x 1) (Ou y T) 2 []) =
 some (JD 15,[1],.tup [],[(1,some ⟨186,ACY x y T,false⟩)]):=dk
theorem AOA (x:Int) (y T:Nat):Li (WQ x y T)=(ACY x y T).map nv:=rfl
def WS (T:Nat):Heap:=[(1,some ⟨186,[.num 8 T],false⟩)]
theorem ACZ {x:Int} (hx:0≤x∧x<18446744073709551616) {y T:Nat} (hy:y<RR) (hT:T<R8) :
  Ac dn 202 (Ov x 0) (Ou y T) 2 [1] (.tup []) (WS (HG T x y))∧Ac dn 202 (Ov x 1) (Ou y T) 2 [1] (.tup []) (WS (HG T x y / 18446744073709551616)):=by
 obtain ⟨h0,h1⟩:=AN8 hx hy hT;constructor
 ·intro β us w ha hg hf;have:=Ay Tryz.func202 dk (args0:=Ov x 0) (H0:=Ou y T) (k0:=2) (path:=[]) (W:=[1]) dk (fun β0 w0 hb=>Av (AH Zk Ab) AB Tryz.func202 (AN9 x y T) (Ow _) (AQ dk) hb (fun _ h=>h)) β us w ha hg hf
  exact Calls.mono this fun e w' h=>WP (fun _ _ hr=>Zl h0 hr) h
 ·intro β us w ha hg hf;have:=Ay Tryz.func202 dk (args0:=Ov x 1) (H0:=Ou y T) (k0:=2) (path:=[]) (W:=[1]) dk (fun β0 w0 hb=>Av (AH Zk Ab) AB Tryz.func202 (AN' x y T) (Ow _) (AQ dk) hb (fun _ h=>h)) β us w ha hg hf
  exact Calls.mono this fun e w' h=>WP (fun _ _ hr=>Zl (ds:=WQ x y T) h1 (by rw [AOA];exact WR hr)) h
def oD (k t fr:Nat) (T:Nat) (path:List Bool):R:=BI [k,t] 2 fr 0 [1] (.tup []) (WS T) [] path
def stepSpec:ASpec:=fun args H fr path =>
 match args with
 | [X,.val false [.p k 0],.val false [.n .i64 s],.val false [.p t 0]]=>match Bg (some X),AF H k,AF H t with
  | some (_,.u64,x),some ⟨ty1,c1,false⟩,some ⟨ty2,c2,false⟩=>match Nat.beq ty1 40,Nat.beq ty2 186,C0 6 c1,C0 8 c2,Nat.beq k t with
   | true,true,some y,some T,false=>match s with
    | .ofNat 0=>some (oD k t fr (HG T x y) path)
    | .ofNat 1=>some (oD k t fr (HG T x y / 18446744073709551616) path)
    | _=>none
   | _,_,_,_,_=>none
  | _,_,_=>none
 | _=>none
theorem JE {β:Env} {H:Heap} {w:World} {k:Nat} {b:Blk} (g:Ex.Good β H w) (h:AF H k=some b):∃ l,AO β b.cs l:=by
 rcases g.heap k b h with ⟨_,_,l,_,_,_,_,_,h,_⟩ | ⟨_,_,_,h⟩ | ⟨_,l,_,_,_,_,h,_⟩
 ·exact ⟨l,h⟩
 ·exact ⟨_,h⟩
 ·exact ⟨_,h⟩
theorem AOB:A' dn 202 stepSpec:=by
 refine GQ Tryz.func202 dk dk fun args H fr path r h=>?_
 unfold stepSpec at h;split at h;case h_2=>cases h
 rename_i X k s t;split at h;case h_2=>cases h
 rename_i c0 x ty1 c1 ty2 c2 hX hk ht;split at h;case h_2=>cases h
 rename_i y T q1 q2 hy hT hne;have q1':=An.1 q1;have q2':=An.1 q2;subst q1';subst q2';have hne':k≠t:=fun e=>by subst e;rw [An.2 rfl] at hne;cases hne
 have core:∀ (v:Nat) (r:R),r=oD k t fr v path→(∀ (hx:0≤x∧x<18446744073709551616) (_:y<RR) (_:T<R8),Ac dn 202 (Ov x s) (Ou y T) 2 [1] (.tup []) (WS v))→∃ (ρ:List Nat) (args0:List AV) (H0:Heap) (k0 nw:Nat) (W:List Nat) (val:AV) (H1:Heap) (conds:dr) (path':List Bool),
   r=BI ρ k0 fr nw W val H1 conds path'∧(∀ β us w,A_ β [X,.val false [.p k 0],.val false [.n .i64 s],.val false [.p t 0]] us→Ex.Good β H w→AM conds→Ac dn 202 args0 H0 k0 W val H1∧D5 k0 nw W val H1=true∧A_ (A3 β ρ k0) args0 us∧Ex.Good (A3 β ρ k0) H0 w∧(∀ k,k<k0→∃ X,β (nth ρ k)=some X)):=by
  intro v r hr hc;refine ⟨[k,t],Ov x s,Ou y T,2,0,[1],.tup [],WS v,[],path,hr,fun β us w ha hg _=>?_⟩
  obtain ⟨u1,us1,r1,⟨u2,us2,r2,⟨u3,us3,r3,⟨u4,us4,r4,ha,rfl⟩,rfl⟩,rfl⟩,rfl⟩:=ha;obtain ⟨rfl,p1⟩:=Cy (β:=β) (u:=u1) (fun A hA=>by injection hA with hA;subst hA;exact r1) hX
  obtain ⟨l1,g1⟩:=JE hg hk;obtain ⟨l2,g2⟩:=JE hg ht;refine ⟨hc (D3 p1) (by rw [C9];exact (G' hy g1).2) (by rw [ACX];exact (G' hT g2).2),dk,⟨_,_,Aq ⟨rfl,rfl,p1⟩,⟨u2,_,?_,⟨u3,_,?_,⟨u4,us4,?_,ha,rfl⟩,rfl⟩,rfl⟩,rfl⟩,ACV hg hk ht hne' (fun l h=>FZ hy h) (fun l h=>FZ hT h),fun j hj=>?_⟩
  ·exact r2
  ·exact r3
  ·exact r4
  ·match j,hj with
   | 0,_=>exact CC (hg.heap _ _ hk)
   | 1,_=>exact CC (hg.heap _ _ ht)
 split at h
 ·injection h with h;exact core _ _ h.symm fun a b c=>(ACZ a b c).1
 ·injection h with h;exact core _ _ h.symm fun a b c=>(ACZ a b c).2
 ·cases h
def S6:dt:=(202,stepSpec)::S5
theorem oE:AT dn S6:=⟨AOB,Zk⟩
def mP:Int:=0x89f3fffcfffcfffd
def WT (T:Nat) (x:Int) (b:Nat):Nat:=HG (HG T x b) (mW (AE (HG T x b) 0*mP)) pN / 18446744073709551616
def KN (a b:Nat):Nat→Nat
 | 0=>0
 | i+1=>WT (KN a b i) (AE a i) b
def oF (T:Nat):Nat:=Ih (Oo (AE T 0) (AE T 1) (AE T 2) (AE T 3) (AE T 4) (AE T 5)) (AE T 6).toNat
theorem AOC (x y:Nat):AK dn (AG S6 K0) Tryz.f135 [AY x,AY y] [] 3000=some (JD 2,AY (oF (KN x y 6))):=dk
def RI:Nat:=3231460744492646417066832100176244795738767926513225105051837195607029917124509527734802654356338138714468589979680
theorem ACa:RR*RI % pN=1:=dk
theorem oG (x i:Nat):(AE x i).toNat=x / 2^(64*i) % 2^64:=by unfold AE;omega
theorem AOD:0x89f3fffcfffcfffd*pN % 18446744073709551616=18446744073709551615:=dk
theorem AOE {s q:Nat} (h:q % 18446744073709551616=s % 18446744073709551616*18446744073709551615 % 18446744073709551616):(s+q) % 18446744073709551616=0:=dl
theorem AOF (s:Nat):(s+(s % 18446744073709551616*0x89f3fffcfffcfffd % 18446744073709551616)*pN) % 18446744073709551616=0:=by
 apply AOE
 rw [mn,iw,ie (s % 18446744073709551616) (0x89f3fffcfffcfffd*pN),AOD,ka]
theorem QY (n:Nat):mW (n:Int)=((n % 18446744073709551616:Nat):Int):=by rw [E'];omega
theorem AOG {T:Nat} {x:Int} {b:Nat} (hx:0≤x∧x<18446744073709551616) (hb:b<pN) (hT:T<b+pN):∃ m,WT T x b*18446744073709551616=T+x.toNat*b+m*pN∧WT T x b<b+pN:=by
 have hp:pN+pN<RR:=QW
 have hx2:x.toNat≤18446744073709551615:=dl
 have h1:x.toNat*b≤18446744073709551615*b:=jp b hx2
 have s1:HG T x b=T+x.toNat*b:=by
  unfold HG;refine ge ?_
  unfold RR at hp;unfold R8;omega
 have hm:(mW (AE (T+x.toNat*b) 0*mP)).toNat=(T+x.toNat*b) % 18446744073709551616*0x89f3fffcfffcfffd % 18446744073709551616:=by
  have e1:AE (T+x.toNat*b) 0=(((T+x.toNat*b) % 18446744073709551616:Nat):Int):=by
   simp only [AE,je,ia,ig]
  have e2:mP=((0x89f3fffcfffcfffd:Nat):Int):=rfl
  rw [e1,e2,← iy,QY,gj]
 have hz:=AOF (T+x.toNat*b)
 unfold WT;rw [s1];have h2:HG (T+x.toNat*b) (mW (AE (T+x.toNat*b) 0*mP)) pN=T+x.toNat*b+(T+x.toNat*b) % 18446744073709551616*0x89f3fffcfffcfffd % 18446744073709551616*pN:=by
  unfold HG;rw [hm];refine ge ?_
  have h3:(T+x.toNat*b) % 18446744073709551616*0x89f3fffcfffcfffd % 18446744073709551616≤18446744073709551615:=dl
  have h4:=jp pN h3;unfold RR at hp;unfold R8;omega
 rw [h2];refine ⟨(T+x.toNat*b) % 18446744073709551616*0x89f3fffcfffcfffd % 18446744073709551616,?_,?_⟩
 ·omega
 ·have h3:(T+x.toNat*b) % 18446744073709551616*0x89f3fffcfffcfffd % 18446744073709551616≤18446744073709551615:=dl
  have h4:=jp pN h3;generalize (T+x.toNat*b) % 18446744073709551616*0x89f3fffcfffcfffd % 18446744073709551616*pN=q at *
  generalize x.toNat*b=r at *
  omega
theorem ACb {a b:Nat} (hb:b<pN):∀ i,∃ k,KN a b i*2^(64*i)=a % 2^(64*i)*b+k*pN∧KN a b i<b+pN
 | 0=>⟨0,by simp [KN,Nat.mod_one],by have:=Cs;simp only [KN];omega⟩
 | i+1=>by
  obtain ⟨k,h1,h2⟩:=ACb (a:=a) hb i
  obtain ⟨m,h3,h4⟩:=AOG (D3 (Yq a i)) hb h2
  refine ⟨k+m*2^(64*i),?_,h4⟩
  rw [oG] at h3;have e:2^(64*(i+1))=18446744073709551616*2^(64*i):=by rw [show 64*(i+1)=64+64*i by omega,gp]
  have e2:a % 2^(64*(i+1))=a % 2^(64*i)+2^(64*i)*(a / 2^(64*i) % 2^64):=by
   rw [show 64*(i+1)=64*i+64 by omega,gp,Nat.mod_mul]
  rw [e2,e];show WT (KN a b i) (AE a i) b*_=_;rw [← iw,h3,iz,iz,h1,iz,iz];rw [oi (a / 2^(64*i) % 2^64) b,gw (a / 2^(64*i) % 2^64) (2^(64*i)),oi m pN];omega
def D7 (x y:Nat):Nat:=oF (KN x y 6)
theorem ACc {x:Nat} (h:x<RR):Oo (AE x 0) (AE x 1) (AE x 2) (AE x 3) (AE x 4) (AE x 5)=x:=by
 have h1:=QU (x:=x) (by rw [← C9];exact h)
 have h2:=(Zi (Bm x 0) (Bm x 1) (Bm x 2) (Bm x 3) (Bm x 4) (Bm x 5)).1
 omega
theorem TX {x y:Nat} (hx:x<RR) (hy:y<pN):D7 x y=x*y*RI % pN:=by
 obtain ⟨k,h1,h2⟩:=ACb (a:=x) hy 6
 have hp:=QW;have hlt:KN x y 6<RR:=dl
 unfold D7 oF;rw [ACc hlt,oG,← C9] at *
 have e6:KN x y 6 / RR=0:=jf hlt
 rw [e6,lv,oA dl]
 try rw [ge hx] at h1
 have h3:KN x y 6*RR*RI % pN=x*y*RI % pN:=by
  rw [h1,iz,oi k pN,Nat.add_mul_mod_self_right]
 rw [← h3,iw,ie,ACa,g_,ka]
theorem AOH (x y:Nat):AS dn 135 [AY x,AY y] (AY (D7 x y)):=AN (AH oE Ab) AB Tryz.func135 (AOC x y) (Ow _) rfl
def Ii:Nat:=2708263910654730174793787626328176511836455197166317677006154293982164122222515399004018013397331347120527951271750
theorem AOI:AK dn (AG S6 K0) Tryz.f136 [] [] 100=some ([],.val true [.n .u64 0xf4df1f341c341746,.n .u64 0xa76e6a609d104f1,.n .u64 0x8de5476c4c95b6d5,.n .u64 0x67eb88a9939d83c0,.n .u64 0x9a793e85b519952d,.n .u64 0x11988fe592cae3aa]):=dk
theorem QZ {f:FuncId} {v v':AV} (h:AS dn f [] v) (hv:∀ u,AL By v u→AL By v' u):∀ args w,(match args with | []=>some v' | _=>none)=some w→AS dn f args w:=by
 intro args w hs;split at hs
 ·injection hs with hs;subst hs;intro us w ha;refine Calls.mono (h us w ha) ?_
  rintro e w' ⟨u,h1,h2,h3⟩
  exact ⟨u,h1,hv u h2,h3⟩
 ·cases hs
theorem AOJ:AS dn 136 [] (.val true [.n .u64 0xf4df1f341c341746,.n .u64 0xa76e6a609d104f1,.n .u64 0x8de5476c4c95b6d5,.n .u64 0x67eb88a9939d83c0,.n .u64 0x9a793e85b519952d,.n .u64 0x11988fe592cae3aa]):=AN (AH oE Ab) AB Tryz.func136 AOI trivial rfl
theorem WU {β:Env} {a:List Ch} {x:Nat} (h:C0 6 a=some x) {u:Value} (hr:AL β (.val true a) u):AL β (AY x) u:=(Mx h hr).1
def S7:dt:=(136,AZ fun args=>match args with | []=>some (AY Ii) | _=>none)::(135,AZ (KL fun x y=>AY (D7 x y)))::S6
theorem ACd:AT dn S7:=⟨Aa Tryz.func136 dk dk (QZ AOJ fun u h=>WU dk h),Aa Tryz.func135 dk dk (M0 fun x y _ _=>AOH x y),oE⟩
theorem AOK (x y:Nat):AK dn (AG S7 K0) Tryz.f62 [AY x,AY y] [] 300=some ([],AY (D7 (D7 (x % pN) (y % pN)) Ii)):=dk
def Af (x y:Nat):Nat:=x*y % pN
theorem AOL:Ii*RI % pN*RI % pN=1:=dk
theorem ACe:Ii<pN:=dm
theorem AOM {x y:Nat} (hx:x<RR) (hy:y<pN):D7 x y<pN:=by rw [TX hx hy];exact gu _ Cs
theorem AON (x y:Nat):D7 (D7 (x % pN) (y % pN)) Ii=Af x y:=by
 have h1:=KM x;have h2:=HF y;have h3:=AOM h1 h2;rw [TX (jy h3 dm) ACe,TX h1 h2];unfold Af;have:=AOL
 rw [mn] at this;rw [iw,mn,show x % pN*(y % pN)*RI*(Ii*RI)=(x % pN*(y % pN))*(Ii*RI*RI) by simp only [gw,jt],ie,this,g_,ka,← ie]
theorem ACf (x y:Nat):AS dn 62 [AY x,AY y] (AY (Af x y)):=by
 rw [← AON];exact AN (AH ACd Ab) AB Tryz.func62 (AOK x y) trivial rfl
def S8:dt:=(62,AZ (KL fun x y=>AY (Af x y)))::S7
theorem WV:AT dn S8:=⟨Aa Tryz.func62 dk dk (M0 fun x y _ _=>ACf x y),ACd⟩
abbrev dx:List Bool:=[true,true]
abbrev ee:List Bool:=[true,false]
open Ex
set_option maxRecDepth 100000
set_option maxHeartbeats 4000000
def wI (z:Int):Int:=IntKind.i64.wrap z
theorem Ao {z:Int} (h:-9223372036854775808≤z∧z≤9223372036854775807):wI z=z:=by unfold wI;rw [IntKind.wrap_i64];omega
def Ij (v s:Int):Int:=bits .and .u64 (Int.fdiv v (2^min s.toNat 64)) 1
theorem WW (v s:Nat) (hv:v<18446744073709551616) (hs:s<64):Ij v s=((v / 2^s % 2:Nat):Int):=by
 unfold Ij;rw [gj,jn dl,nb _ (by exact_mod_cast nq (2^s))]
 have e:((v:Int) / 2^s)=((v / 2^s:Nat):Int):=by
  rw [oe,ml];rfl
 rw [e];have hlt:v / 2^s<18446744073709551616:=mg (nc _ _) hv
 have h:=(bits_nat .u64 64 dm (fun n h0 h1=>by rw [IntKind.wrap_u64];omega) (v / 2^s) 1 dl dm).1
 refine Eq.trans h ?_
 rw [Nat.and_one_is_mod]
def AI:dp→Nat
 | []=>0
 | d::r=>d.toNat+18446744073709551616*AI r
theorem WX:∀ (ws:dp) (j:Nat),(∀ d∈ws,0≤d∧d<18446744073709551616)→AI ws / 2^(64*j) % 2^64=(ws.getD j 0).toNat
 | [],j,_=>by simp [AI]
 | d::r,0,h=>by
  have:=h d (by simp)
  simp only [AI,je,ia,ig,List.getD_cons_zero];omega
 | d::r,j+1,h=>by
  have hd:=h d (by simp)
  have ih:=WX r j fun d h'=>h d (by simp [h'])
  rw [show 64*(j+1)=64+64*j by omega,gp,← iu]
  have:AI (d::r) / 2^64=AI r:=by simp only [AI];omega
  rw [this,ih];rfl
theorem Ik:∀ (ws:dp),(∀ d∈ws,0≤d∧d<18446744073709551616)→AI ws<2^(64*ws.length)
 | [],_=>by simp [AI]
 | d::r,h=>by
  have hd:=h d (by simp)
  have ih:=Ik r fun d h'=>h d (by simp [h'])
  rw [ii,show 64*(r.length+1)=64+64*r.length by omega,gp]
  simp only [AI];generalize 2^(64*r.length)=Q at *
  omega
theorem WY (ws:dp) (i:Nat) (h:∀ d∈ws,0≤d∧d<18446744073709551616):(ws.getD (i / 64) 0).toNat / 2^(i % 64) % 2=AI ws / 2^i % 2:=by
 rw [← WX ws (i / 64) h];have e:2^64=2^(i % 64)*2^(64-i % 64):=by rw [← gp];congr 1;omega
 rw [e,Nat.mod_mul_right_div_self,iu,← gp,show 64*(i / 64)+i % 64=i by omega]
 refine rk _ ?_
 have:64-i % 64=(63-i % 64)+1:=dl
 rw [this,ip];exact Nat.dvd_mul_left _ _
def GS (y:Nat):Nat:=y*RR % pN
theorem oH (y:Nat):GS y<pN:=gu _ Cs
theorem ACg:∀ y,y*(RR*RI) % pN=y % pN:=fun y=>by rw [ie,ACa,g_,ka]
theorem oI (a b:Nat):D7 (GS a) (GS b)=GS (a*b):=by
 rw [TX (jy (oH a) dm) (oH b)];unfold GS;rw [iw,mn,jt,mn,← iw,show b*RR*(a*RR)*RI=a*b*RR*(RR*RI) by simp only [gw,jt],ACg]
theorem AOO:Ii*RI % pN=RR % pN:=dk
theorem ACh {x:Nat} (hx:x<RR):D7 x Ii=GS x:=by
 rw [TX hx ACe,iw,ie,AOO,← ie];rfl
theorem AOP (y:Nat):D7 (GS y) 1=y % pN:=by
 rw [TX (jy (oH y) dm) dm,g_];unfold GS;rw [mn,iw,ACg]
theorem AOQ (y:Nat):GS (y % pN)=GS y:=by unfold GS;rw [mn]
noncomputable def AOR:List Item:=Bv (AW dn (AG S8 K0) (some 0) 100 1 (some ([1,4,5,6,7],[0,2,3,4],5)) (Ah Tryz.f130 [AY 0,.val false [.sl 0 0 0 0]] [(0,some ⟨0,[.seq .u64 []],false⟩)] 1 []))
noncomputable def AOS (off n m:Nat) (i:Int):List AV:=.any::.val false [.sl 0 off n m]::.any::.any::.val false [.p 2 0]::.val false [.p 3 0]::.val false [.p 4 0]::.val false [.v (.int .i64 i)]::List.replicate (Tryz.f130.ntmps-8) .any
noncomputable def M3 (off n m:Nat) (xs:dp) (b acc:Nat) (i:Int) (path:List Bool):ASt:=⟨AOR,⟨AOS off n m i,
 [(0,some (Am [.seq .u64 xs])),(2,some ⟨40,HE,false⟩),(3,some ⟨40,[.num 6 b],false⟩),(4,some ⟨40,[.num 6 acc],false⟩)],5,path⟩⟩
def M4 (x off n m:Nat):List AV:=[AY x,.val false [.sl 0 off n m]]
def A8 (xs:dp):Heap:=[(0,some (Am [.seq .u64 xs]))]
theorem AOT (x off n m:Nat) (xs:dp):AW dn (AG S8 K0) (some 0) 100 1 (some ([1,4,5,6,7],[0,2,3,4],5)) (Ah Tryz.f130 (M4 x off n m) (A8 xs) 1 []) =
 some ([(AJ .i64 n,true)],[],M3 off n m xs (D7 (x % pN) Ii) (D7 1 Ii) (wI (wI (64*(n:Int))-1)) []):=dk
def CG (xs:dp) (off:Nat) (i:Int):Int:=xs.getD (off+(wI (Int.tdiv i 64)).toNat*1) 0
def oJ (off n:Nat) (xs:dp) (i:Int) (bit:Bool):dr:=[(decide (0≤i),true),(true,true),(decide (0≤wI (Int.tdiv i 64)∧wI (Int.tdiv i 64)<n),true),
 (decide (off+(wI (Int.tdiv i 64)).toNat*1<xs.length),true),(decide (0≤i∧(0:Int)<64),true),(decide (0≤Int.tmod i 64∧0≤CG xs off i),true),(decide (Ij (CG xs off i) (Int.tmod i 64)=1),bit)]
theorem pow_one (off n m b acc:Nat) (xs:dp) (i:Int):AW dn (AG S8 K0) (some 0) 100 1 (some ([1,4,5,6,7],[0,2,3,4],5)) (M3 off n m xs b acc i dx) =
 some (oJ off n xs i true,[],M3 off n m xs b (D7 (D7 acc acc) b) (wI (i-1)) []):=dk
theorem pow_zero (off n m b acc:Nat) (xs:dp) (i:Int):AW dn (AG S8 K0) (some 0) 100 1 (some ([1,4,5,6,7],[0,2,3,4],5)) (M3 off n m xs b acc i ee) =
 some (oJ off n xs i false,[],M3 off n m xs b (D7 acc acc) (wI (i-1)) []):=dk
theorem AOU (off n m b acc:Nat) (xs:dp) (i:Int):AR dn (AG S8 K0) Tryz.f130 100 1 [] (M3 off n m xs b acc i du) =
 some ([(decide (0≤i),false)],[],AY (D7 acc 1),[]):=dk
theorem oK (off n m b acc:Nat) (xs:dp) (i:Int) (p:List Bool):BO Tryz.f130.ntmps (M3 off n m xs b acc i p).s:=AQ dk
theorem ACi (x E:Nat):∃ y,y=x^E % pN:=⟨_,rfl⟩
noncomputable def Cu (x E:Nat):Nat:=Classical.choose (ACi x E)
theorem KO (x E:Nat):Cu x E=x^E % pN:=ij (ACi x E)
def HH (x E c:Nat):Nat:=GS (x^(E / 2^c))
theorem Il {xs:dp} {off n:Nat} {j:Nat} (hj:j<n):((xs.drop off).take n).getD j 0=xs.getD (off+j) 0:=by
 rw [gy,gy,o_ hj,nu]
section
variable {off n m:Nat} {xs:dp} (hall:∀ d∈xs,0≤d∧d<18446744073709551616) (hlen:off+n≤xs.length) (hn:n≤1125899906842624) {x:Nat} {β0:Env} {w0:World} (hb:∀ b,1≤b→β0 b=none)
include hall hlen hn hb
theorem AOV:∀ c,c≤64*n→ASafe dn 130 β0 w0 (A4 β0 w0 [] (AY (Cu x (AI ((xs.drop off).take n)))) []) Tryz.f130.ntmps [] (M3 off n m xs (GS x) (HH x (AI ((xs.drop off).take n)) c) ((c:Int)-1) []):=by
 intro c;induction c with
 | zero =>
  intro _;have h:ASafe dn 130 β0 w0 (A4 β0 w0 [] (AY (D7 (HH x (AI ((xs.drop off).take n)) 0) 1)) []) Tryz.f130.ntmps [] (M3 off n m xs (GS x) (HH x (AI ((xs.drop off).take n)) 0) (((0:Nat):Int)-1) du) :=
   Av (AH WV Ab) AB Tryz.func130 (AOU ..) ⟨rfl,trivial⟩ (oK ..) hb ft
  rw [show D7 (HH x (AI ((xs.drop off).take n)) 0) 1=Cu x (AI ((xs.drop off).take n)) from by unfold HH;rw [KO,ia,ig,AOP]] at h
  exact Ae du h
 | succ c ih =>
  intro hc;have hi:((c+1:Nat):Int)-1=(c:Int):=dl
  rw [hi];have hlt:∀ d∈(xs.drop off).take n,0≤d∧d<18446744073709551616:=fun d hd=>hall d (lj (me hd))
  have hq:Int.tdiv (c:Int) 64=((c / 64:Nat):Int):=by rw [mj dl];rfl
  have hr:Int.tmod (c:Int) 64=((c % 64:Nat):Int):=by rw [ku dl];rfl
  have hw:wI (Int.tdiv (c:Int) 64)=((c / 64:Nat):Int):=by rw [hq];exact Ao dl
  have hj:c / 64<n:=dl
  have hv:CG xs off c=((xs.drop off).take n).getD (c / 64) 0:=by
   unfold CG;rw [hw,gj,g_,Il hj]
  have hvb:0≤CG xs off c∧CG xs off c<18446744073709551616:=by
   rw [hv,gy];cases h:((xs.drop off).take n)[c / 64]? with
   | none=>simp
   | some d=>exact hlt d (lg h)
  have hbit:Ij (CG xs off c) (Int.tmod c 64)=((AI ((xs.drop off).take n) / 2^c % 2:Nat):Int):=by
   obtain ⟨V,hV⟩:=ic hvb.1;rw [hr,← WY _ c hlt,← hv,hV,gj];exact WW V _ dl dl
  have hnext:wI ((c:Int)-1)=(c:Int)-1:=Ao dl
  have hconds:∀ bit,decide (Ij (CG xs off c) (Int.tmod c 64)=1)=bit→AM (oJ off n xs c bit):=by
   intro bit hbt;refine ⟨by simp,rfl,?_,?_,?_,?_,hbt,trivial⟩
   ·rw [hw];simp;omega
   ·rw [hw];simp;omega
   ·simp
   ·simp only [gc];rw [hr];exact ⟨dl,hvb.1⟩
  have hdiv:AI ((xs.drop off).take n) / 2^c=2*(AI ((xs.drop off).take n) / 2^(c+1))+AI ((xs.drop off).take n) / 2^c % 2:=by
   rw [ip,← iu];omega
  have ihc:=ih dl;rcases ke (AI ((xs.drop off).take n) / 2^c) with h0 | h1
  ·refine Ae ee (Ag (AH WV Ab) AB (pow_zero ..) (hconds false (by rw [hbit,h0];rfl)) (oK ..) hb ft fun _=>?_)
   rw [hnext];have:D7 (HH x (AI ((xs.drop off).take n)) (c+1)) (HH x (AI ((xs.drop off).take n)) (c+1))=HH x (AI ((xs.drop off).take n)) c:=by
    unfold HH;rw [oI,← gp];congr 2;omega
   rw [this];exact ihc
  ·refine Ae dx (Ag (AH WV Ab) AB (pow_one ..) (hconds true (by rw [hbit,h1];rfl)) (oK ..) hb ft fun _=>?_)
   rw [hnext];have:D7 (D7 (HH x (AI ((xs.drop off).take n)) (c+1)) (HH x (AI ((xs.drop off).take n)) (c+1))) (GS x)=HH x (AI ((xs.drop off).take n)) c:=by
    unfold HH;rw [oI,← gp,oI,← ip];congr 2;omega
   rw [this];exact ihc
end
theorem ACj {off n m:Nat} {xs:dp} (hall:∀ d∈xs,0≤d∧d<18446744073709551616) (hlen:off+n≤xs.length) (hn:n≤1125899906842624) (x:Nat) :
  Ac dn 130 (M4 x off n m) (A8 xs) 1 [] (AY (Cu x (AI ((xs.drop off).take n)))) []:=by
 refine Ay (path:=[]) Tryz.func130 dk dk fun β0 w0 hb=>?_
 refine Ag (AH WV Ab) AB (AOT x off n m xs) ⟨?_,trivial⟩ (AQ dk) hb ft fun _=>?_
 ·simp only [AJ,gi,gc];omega
 ·have h:=AOV hall hlen hn (x:=x) (m:=m) (w0:=w0) hb (64*n) (gd _)
  have e1:D7 (x % pN) Ii=GS x:=by rw [ACh (KM x),AOQ]
  have e2:D7 1 Ii=HH x (AI ((xs.drop off).take n)) (64*n):=by
   rw [ACh dm];unfold HH;have hl:AI ((xs.drop off).take n)<2^(64*n):=by
    have:=Ik ((xs.drop off).take n) fun d hd=>hall d (lj (me hd))
    rwa [h_,ir,jn dl] at this
   rw [jf hl,ia]
  have e3:wI (wI (64*(n:Int))-1)=((64*n:Nat):Int)-1:=by
   rw [Ao (z:=64*(n:Int)) dl,Ao dl];omega
  rw [e1,e2,e3];exact h
noncomputable def powSpec:ASpec:=fun args H fr path =>
 match args with
 | [.val true a,.val false [.sl k off n _]]=>match C0 6 a,AF H k with
  | some x,some ⟨_,cs,_⟩=>match Az .u64 cs with
   | some xs=>some (BI [k] 1 fr 0 [] (AY (Cu x (AI ((xs.drop off).take n)))) [] [(Nat.ble (off+n) xs.length,true),(Nat.ble n 1125899906842624,true)] path)
   | none=>none
  | _,_=>none
 | _=>none
theorem ACk:A' dn 130 powSpec:=by
 refine GQ Tryz.func130 dk dk fun args H fr path r h=>?_
 unfold powSpec at h;split at h;case h_2=>cases h
 rename_i a k off n m;split at h;case h_2=>cases h
 rename_i x ty cs o hx hk;split at h;case h_2=>cases h
 rename_i xs hxs;injection h with h;refine ⟨[k],M4 x off n m,A8 xs,1,0,[],AY (Cu x (AI ((xs.drop off).take n))),[],_,path,h.symm,fun β us w ha hg hc=>?_⟩
 obtain ⟨u1,us1,r1,⟨u2,us2,r2,ha,rfl⟩,rfl⟩:=ha;obtain ⟨l,g1⟩:=JE hg hk;obtain ⟨_,g2⟩:=C8 hxs g1;refine ⟨ACj (fun d hd=>D3 (g2 d hd)) (f_ hc.1) (f_ hc.2.1) x,dk,⟨u1,_,?_,⟨u2,us2,?_,ha,rfl⟩,rfl⟩,Zm (c:=[.seq .u64 xs]) hg hk (fun l h=>?_),fun j hj=>?_⟩
 ·obtain ⟨l,q,rfl⟩:=r1;exact ⟨l,FZ hx q,rfl⟩
 ·exact r2
 ·obtain ⟨q1,q2⟩:=C8 hxs h;exact ⟨_,[],⟨q1,q2⟩,rfl,by simp⟩
 ·match j,hj with
  | 0,_=>exact CC (hg.heap _ _ hk)
noncomputable def S9:dt:=(130,powSpec)::S8
theorem AOW:AT dn S9:=⟨ACk,WV⟩
open Ex
def AA (xs:dp) (off n:Nat):dp:=(xs.drop off).take n
theorem C3 {xs:dp} {off n:Nat} {P:Int→Prop} (h:∀ d∈xs,P d):∀ d∈AA xs off n,P d:=fun d hd=>h d (lj (me hd))
def BT (xs:dp) (off n:Nat) (i:Int):Int:=(AA xs off n).getD i.toNat 0
def Ox (off n m:Nat) (i:Int):List AV:=[.val false [.sl 0 off n m],.val false [.v (.int .i64 i)]]
theorem AOX (off n m:Nat) (i:Int) (xs:dp):AR dn (AG S0 K0) Tryz.f170 100 1 [] (Ah Tryz.f170 (Ox off n m i) (A8 xs) 1 dw) =
 some ([(AJ .i64 n,true),(decide (i<n),true),(decide (0≤i∧i<n),true),(decide (off+i.toNat*1<xs.length),true)],[],.val false [.v (.int .u64 (xs.getD (off+i.toNat*1) 0))],[]):=dk
theorem AOY (off n m:Nat) (i:Int) (xs:dp):AR dn (AG S0 K0) Tryz.f170 100 1 [] (Ah Tryz.f170 (Ox off n m i) (A8 xs) 1 du) =
 some ([(AJ .i64 n,true),(decide (i<n),false)],[],.val false [.n .u64 0],[]):=dk
theorem BA {P:Program} {f:FuncId} {args0:List AV} {H0 H1:Heap} {k0:Nat} {W:List Nat} {v v':AV} (h:Ac P f args0 H0 k0 W v H1) (hv:∀ β u,AL β v u→AL β v' u):Ac P f args0 H0 k0 W v' H1 :=
 fun β us w a b c=>Calls.mono (h β us w a b c) fun _ _ ⟨u,β',q1,q2⟩=>⟨u,β',q1,{ q2 with val:=hv _ _ q2.val }⟩
theorem oL {β:Env} {k:IntKind} {i:Int} {u:Value} (h:AL β (.val false [.n k i]) u):AL β (.val false [.v (.int k i)]) u:=WR (cs:=[.n k i]) h
theorem AOZ {off n m:Nat} {xs:dp} (hlen:off+n≤xs.length) (hn:AJ .i64 n=true) {i:Int} (hi:0≤i) :
  Ac dn 170 (Ox off n m i) (A8 xs) 1 [] (.val false [.v (.int .u64 (BT xs off n i))]) []:=by
 by_cases h:i<n
 ·refine Ay (path:=dw) Tryz.func170 dk dk fun β0 w0 hb=>?_
  rw [show BT xs off n i=xs.getD (off+i.toNat*1) 0 from by rw [g_];exact Il dl]
  exact Av (AH Ht Ab) AB Tryz.func170 (AOX off n m i xs) ⟨hn,by simp [h],by simp [hi,h],by simp;omega,trivial⟩ (AQ dk) hb ft
 ·have e:BT xs off n i=0:=by
   unfold BT AA;rw [gy,jw (by rw [h_];omega)];rfl
  rw [e];refine BA (v:=.val false [.n .u64 0]) (Ay (path:=du) Tryz.func170 dk dk fun β0 w0 hb=>?_) fun _ _=>oL
  exact Av (AH Ht Ab) AB Tryz.func170 (AOY off n m i xs) ⟨hn,by simp [h],trivial⟩ (AQ dk) hb ft
def atSpec:ASpec:=fun args H fr path =>
 match args with
 | [.val false [.sl k off n _],I]=>match Bg (some I),AF H k with
  | some (_,.i64,i),some ⟨_,cs,_⟩=>match Az .u64 cs with
   | some xs=>some (BI [k] 1 fr 0 [] (.val false [.v (.int .u64 (BT xs off n i))]) [] [(Nat.ble (off+n) xs.length,true),(AJ .i64 n,true),(decide (0≤i),true)] path)
   | none=>none
  | _,_=>none
 | _=>none
theorem Lk {β:Env} {H:Heap} {w:World} {k:Nat} {ty:Nat} {cs:List Ch} {o:Bool} {xs:dp} (hg:Ex.Good β H w) (hk:AF H k=some ⟨ty,cs,o⟩) (hxs:Az .u64 cs=some xs) :
  (∀ d∈xs,0≤d∧d<18446744073709551616)∧Ex.Good (A3 β [k] 1) (A8 xs) w∧(∀ j,j<1→∃ X,β (nth [k] j)=some X):=by
 obtain ⟨l,g1⟩:=JE hg hk;obtain ⟨_,g2⟩:=C8 hxs g1;refine ⟨fun d hd=>D3 (g2 d hd),Zm (c:=[.seq .u64 xs]) hg hk (fun l h=>?_),fun j hj=>?_⟩
 ·obtain ⟨q1,q2⟩:=C8 hxs h;exact ⟨_,[],⟨q1,q2⟩,rfl,by simp⟩
 ·match j,hj with
  | 0,_=>exact CC (hg.heap _ _ hk)
theorem AOa:A' dn 170 atSpec:=by
 refine GQ Tryz.func170 dk dk fun args H fr path r h=>?_
 unfold atSpec at h;split at h;case h_2=>cases h
 rename_i k off n m I;split at h;case h_2=>cases h
 rename_i c0 i ty cs o hI hk;split at h;case h_2=>cases h
 rename_i xs hxs;injection h with h;refine ⟨[k],Ox off n m i,A8 xs,1,0,[],_,[],_,path,h.symm,fun β us w ha hg hc=>?_⟩
 obtain ⟨u1,us1,r1,⟨u2,us2,r2,ha,rfl⟩,rfl⟩:=ha;obtain ⟨g1,g2,g3⟩:=Lk hg hk hxs;obtain ⟨rfl,p1⟩:=Cy (β:=β) (u:=u2) (fun A hA=>by injection hA with hA;subst hA;exact r2) hI
 exact ⟨AOZ (f_ hc.1) hc.2.1 (by simpa using hc.2.2.1),dk,⟨u1,_,r1,⟨_,us2,Aq ⟨rfl,rfl,p1⟩,ha,rfl⟩,rfl⟩,g2,g3⟩
noncomputable def S10:dt:=(170,atSpec)::S9
theorem KP:AT dn S10:=⟨AOa,AOW⟩
abbrev ep:List Bool:=[true,false,true]
abbrev eq:List Bool:=[true,false,false]
open Ex
set_option maxRecDepth 100000
set_option maxHeartbeats 4000000
def F5 (xs ys:dp):Heap:=[(0,some (Am [.seq .u64 xs])),(1,some (Am [.seq .u64 ys]))]
def JF (off n m off' n' m':Nat):List AV:=[.val false [.sl 0 off n m],.val false [.sl 1 off' n' m']]
noncomputable def AOb:List Item:=Bv (AW dn (AG S10 K0) (some 0) 100 2 none (Ah Tryz.f113 (JF 0 0 0 0 0 0) (F5 [] []) 2 []))
noncomputable def AOc (off n m off' n' m':Nat) (i:Int):List AV:=.val false [.sl 0 off n m]::.val false [.sl 1 off' n' m']::.any::.any::.val false [.n .i64 0]::.val false [.v (.int .i64 i)]::List.replicate (Tryz.f113.ntmps-6) .any
section
variable (off n m off' n' m':Nat) (xs ys:dp)
noncomputable def Oy (i:Int) (p:List Bool):ASt:=⟨AOb,⟨AOc off n m off' n' m' i,F5 xs ys,2,p⟩⟩
def Fs (a b:Int):Int:=if b > a then b else a
theorem AOd:AW dn (AG S10 K0) (some 0) 100 2 (some ([0,1,4,5],[0,1],2)) (Ah Tryz.f113 (JF off n m off' n' m') (F5 xs ys) 2 []) =
 some ([(AJ .i64 n,true),(AJ .i64 n',true)],[],Oy off n m off' n' m' xs ys (wI (Fs n n'-1)) []):=dk
def Zn (i:Int) (r:dr):dr:=(decide (0≤i),true)::(Nat.ble (off+n) xs.length,true)::(AJ .i64 n,true)::(decide (0≤i),true)::(Nat.ble (off'+n') ys.length,true)::(AJ .i64 n',true)::(decide (0≤i),true)::r
theorem AOe (i:Int):AW dn (AG S10 K0) (some 0) 100 2 (some ([0,1,4,5],[0,1],2)) (Oy off n m off' n' m' xs ys i dx) =
 some (Zn off n off' n' xs ys i [(decide (BT xs off n i=BT ys off' n' i),true)],[],Oy off n m off' n' m' xs ys (wI (i-1)) []):=dk
theorem AOf (i:Int):AR dn (AG S10 K0) Tryz.f113 100 2 [] (Oy off n m off' n' m' xs ys i ep) =
 some (Zn off n off' n' xs ys i [(decide (BT xs off n i=BT ys off' n' i),false),(decide (BT xs off n i<BT ys off' n' i),true)],[],.val false [.n .i64 (-1)],[]):=dk
theorem AOg (i:Int):AR dn (AG S10 K0) Tryz.f113 100 2 [] (Oy off n m off' n' m' xs ys i eq) =
 some (Zn off n off' n' xs ys i [(decide (BT xs off n i=BT ys off' n' i),false),(decide (BT xs off n i<BT ys off' n' i),false)],[],.val false [.n .i64 1],[]):=dk
theorem AOh (i:Int):AR dn (AG S10 K0) Tryz.f113 100 2 [] (Oy off n m off' n' m' xs ys i du) =
 some ([(decide (0≤i),false)],[],.val false [.n .i64 0],[]):=dk
theorem Zo (i:Int) (p:List Bool):BO Tryz.f113.ntmps (Oy off n m off' n' m' xs ys i p).s:=AQ dk
end
theorem Hu {P:Program} {f:FuncId} {β0:Env} {w0:World} {W W':List Nat} {v v':AV} {H:Heap} {n:Nat} {x:ASt} (h:ASafe P f β0 w0 (A4 β0 w0 W v H) n W' x) (hv:∀ β u,AL β v u→AL β v' u):ASafe P f β0 w0 (A4 β0 w0 W v' H) n W' x:=by
 intro β a w hi hf b cs q1 q2;obtain ⟨e',w',fr,⟨u,β',q5,q6⟩,q4⟩:=h β a w hi hf b cs q1 q2;exact ⟨e',w',fr,⟨u,β',q5,{ q6 with val:=hv _ _ q6.val }⟩,q4⟩
theorem TY {x y Q:Nat} (h:x / Q<y / Q):x<y:=Nat.lt_of_not_le fun hle=>absurd (Nat.div_le_div_right (c:=Q) hle) dl
def EC (x y:Nat):Int:=if x<y then -1 else if y<x then 1 else 0
theorem TZ {ws:dp} (h:∀ d∈ws,0≤d∧d<18446744073709551616) (c:Nat):AI ws / 2^(64*c)=(ws.getD c 0).toNat+18446744073709551616*(AI ws / 2^(64*(c+1))):=by
 rw [← WX ws c h,show 64*(c+1)=64*c+64 by omega,gp,← iu]
 omega
theorem M5 {ws:dp} (h:∀ d∈ws,0≤d∧d<18446744073709551616) (c:Nat):0≤ws.getD c 0∧ws.getD c 0<18446744073709551616:=by
 rw [gy];cases h':ws[c]? with
 | none=>simp
 | some d=>exact h d (lg h')
theorem Qi {β:Env} {k:IntKind} {i j:Int} {u:Value} (e:i=j) (h:AL β (.val false [.n k i]) u):AL β (.val false [.v (.int k j)]) u:=by subst e;exact oL h
section
variable {off n m off' n' m':Nat} {xs ys:dp} (hx:∀ d∈xs,0≤d∧d<18446744073709551616) (hy:∀ d∈ys,0≤d∧d<18446744073709551616) (hl:off+n≤xs.length) (hl':off'+n'≤ys.length)
 (hn:AJ .i64 n=true) (hn':AJ .i64 n'=true) {β0:Env} {w0:World} (hb:∀ b,2≤b→β0 b=none)
include hx hy hl hl' hn hn' hb
theorem AOi:∀ c,c≤max n n'→AI (AA xs off n) / 2^(64*c)=AI (AA ys off' n') / 2^(64*c) →
  ASafe dn 113 β0 w0 (A4 β0 w0 [] (.val false [.v (.int .i64 (EC (AI (AA xs off n)) (AI (AA ys off' n'))))]) []) Tryz.f113.ntmps [] (Oy off n m off' n' m' xs ys ((c:Int)-1) []):=by
 intro c;induction c with
 | zero =>
  intro _ heq;rw [je,ia,ig,ig] at heq;have h:=Av (w0:=w0) (W:=[]) (n:=Tryz.f113.ntmps) (AH KP Ab) AB Tryz.func113 (AOh off n m off' n' m' xs ys (((0:Nat):Int)-1)) ⟨rfl,trivial⟩ (Zo ..) hb ft
  exact Ae du (Hu h fun _ _=>Qi (by unfold EC;rw [heq];simp))
 | succ c ih =>
  intro hc heq;have hi:((c+1:Nat):Int)-1=(c:Int):=dl
  rw [hi];have bn:n≤9223372036854775807:=by simp only [AJ,gi,gc] at hn;omega
  have bn':n'≤9223372036854775807:=by simp only [AJ,gi,gc] at hn';omega
  have sx:=TZ (C3 (off:=off) (n:=n) hx) c
  have sy:=TZ (C3 (off:=off') (n:=n') hy) c
  have bx:=M5 (C3 (off:=off) (n:=n) hx) c
  have byy:=M5 (C3 (off:=off') (n:=n') hy) c
  have ex:BT xs off n c=(AA xs off n).getD c 0:=by unfold BT;rw [gj]
  have ey:BT ys off' n' c=(AA ys off' n').getD c 0:=by unfold BT;rw [gj]
  have hC:∀ r,AM r→AM (Zn off n off' n' xs ys c r):=fun r hr=>⟨by simp,gb hl,hn,by simp,gb hl',hn',by simp,hr⟩
  by_cases he:BT xs off n c=BT ys off' n' c
  ·refine Ae dx (Ag (AH KP Ab) AB (AOe ..) (hC _ ⟨by simp [he],trivial⟩) (Zo ..) hb ft fun _=>?_)
   rw [Ao (z:=(c:Int)-1) dl];exact ih dl (by rw [sx,sy,heq,← ex,← ey,he])
  ·by_cases hlt:BT xs off n c<BT ys off' n' c
   ·have h:=Av (w0:=w0) (W:=[]) (n:=Tryz.f113.ntmps) (AH KP Ab) AB Tryz.func113 (AOf off n m off' n' m' xs ys c) (hC _ ⟨by simp [he],by simp [hlt],trivial⟩) (Zo ..) hb ft
    refine Ae ep (Hu h fun _ _=>Qi ?_)
    have:AI (AA xs off n)<AI (AA ys off' n'):=TY (Q:=2^(64*c)) (by rw [sx,sy,heq];omega)
    unfold EC;rw [fw this]
   ·have h:=Av (w0:=w0) (W:=[]) (n:=Tryz.f113.ntmps) (AH KP Ab) AB Tryz.func113 (AOg off n m off' n' m' xs ys c) (hC _ ⟨by simp [he],by simp [hlt],trivial⟩) (Zo ..) hb ft
    refine Ae eq (Hu h fun _ _=>Qi ?_)
    have:AI (AA ys off' n')<AI (AA xs off n):=TY (Q:=2^(64*c)) (by rw [sx,sy,heq];omega)
    unfold EC;rw [fv dl,fw this]
end
theorem AOj {off n m off' n' m':Nat} {xs ys:dp} (hx:∀ d∈xs,0≤d∧d<18446744073709551616) (hy:∀ d∈ys,0≤d∧d<18446744073709551616) (hl:off+n≤xs.length) (hl':off'+n'≤ys.length)
  (hn:AJ .i64 n=true) (hn':AJ .i64 n'=true):Ac dn 113 (JF off n m off' n' m') (F5 xs ys) 2 [] (.val false [.v (.int .i64 (EC (AI (AA xs off n)) (AI (AA ys off' n'))))]) []:=by
 refine Ay (path:=[]) Tryz.func113 dk dk fun β0 w0 hb=>?_
 refine Ag (AH KP Ab) AB (AOd off n m off' n' m' xs ys) ⟨hn,hn',trivial⟩ (AQ dk) hb ft fun _=>?_
 have bn:n≤9223372036854775807:=by simp only [AJ,gi,gc] at hn;omega
 have bn':n'≤9223372036854775807:=by simp only [AJ,gi,gc] at hn';omega
 have e:wI (Fs n n'-1)=((max n n':Nat):Int)-1:=by
  have:Fs n n'=((max n n':Nat):Int):=by unfold Fs;split<;>omega
  rw [this,Ao dl]
 rw [e];refine AOi hx hy hl hl' hn hn' hb _ (gd _) ?_
 have big:∀ (zs:dp) (of k:Nat),(∀ d∈zs,0≤d∧d<18446744073709551616)→k≤max n n'→AI (AA zs of k) / 2^(64*max n n')=0:=by
  intro zs of k hz hk;refine jf (ik (Ik _ (C3 hz)) (lu dm ?_))
  have:(AA zs of k).length≤k:=by unfold AA;rw [h_];omega
  omega
 rw [big xs off n hx dl,big ys off' n' hy dl]
theorem Zp {β:Env} {H:Heap} {w:World} {k t:Nat} {ty ty':Nat} {cs ds:List Ch} {o o':Bool} {xs ys:dp} (hg:Ex.Good β H w) (hk:AF H k=some ⟨ty,cs,o⟩) (ht:AF H t=some ⟨ty',ds,o'⟩) (hxs:Az .u64 cs=some xs) (hys:Az .u64 ds=some ys) :
  (∀ d∈xs,0≤d∧d<18446744073709551616)∧(∀ d∈ys,0≤d∧d<18446744073709551616)∧Ex.Good (A3 β [k,t] 2) (F5 xs ys) w∧(∀ j,j<2→∃ X,β (nth [k,t] j)=some X):=by
 obtain ⟨l,g1⟩:=JE hg hk;obtain ⟨_,g2⟩:=C8 hxs g1;obtain ⟨l',g1'⟩:=JE hg ht;obtain ⟨_,g2'⟩:=C8 hys g1';refine ⟨fun d hd=>D3 (g2 d hd),fun d hd=>D3 (g2' d hd),ACU (c:=[.seq .u64 xs]) (e:=[.seq .u64 ys]) hg hk ht (fun l h=>?_) (fun l h=>?_),fun j hj=>?_⟩
 ·obtain ⟨q1,q2⟩:=C8 hxs h;exact ⟨_,[],⟨q1,q2⟩,rfl,by simp⟩
 ·obtain ⟨q1,q2⟩:=C8 hys h;exact ⟨_,[],⟨q1,q2⟩,rfl,by simp⟩
 ·match j,hj with
  | 0,_=>exact CC (hg.heap _ _ hk)
  | 1,_=>exact CC (hg.heap _ _ ht)
def cmpSpec:ASpec:=fun args H fr path =>
 match args with
 | [.val false [.sl k off n _],.val false [.sl t off' n' _]]=>match AF H k,AF H t with
  | some ⟨_,cs,_⟩,some ⟨_,ds,_⟩=>match Az .u64 cs,Az .u64 ds with
   | some xs,some ys=>some (BI [k,t] 2 fr 0 [] (.val false [.v (.int .i64 (EC (AI (AA xs off n)) (AI (AA ys off' n'))))]) [] [(Nat.ble (off+n) xs.length,true),(Nat.ble (off'+n') ys.length,true),(AJ .i64 n,true),(AJ .i64 n',true)] path)
   | _,_=>none
  | _,_=>none
 | _=>none
theorem AOk:A' dn 113 cmpSpec:=by
 refine GQ Tryz.func113 dk dk fun args H fr path r h=>?_
 unfold cmpSpec at h;split at h;case h_2=>cases h
 rename_i k off n m t off' n' m';split at h;case h_2=>cases h
 rename_i ty cs o ty' ds o' hk ht;split at h;case h_2=>cases h
 rename_i xs ys hxs hys;injection h with h;refine ⟨[k,t],JF off n m off' n' m',F5 xs ys,2,0,[],_,[],_,path,h.symm,fun β us w ha hg hc=>?_⟩
 obtain ⟨u1,us1,r1,⟨u2,us2,r2,ha,rfl⟩,rfl⟩:=ha;obtain ⟨g1,g1',g2,g3⟩:=Zp hg hk ht hxs hys;exact ⟨AOj g1 g1' (f_ hc.1) (f_ hc.2.1) hc.2.2.1 hc.2.2.2.1,dk,⟨u1,_,r1,⟨u2,us2,r2,ha,rfl⟩,rfl⟩,g2,g3⟩
noncomputable def S11:dt:=(113,cmpSpec)::S10
theorem Zq:AT dn S11:=⟨AOk,KP⟩
open Ex
def Im (x:Nat):dp:=(List.range 6).map (AE x)++[]
theorem Oz {x:Nat} (h:x<RR):AI (AA (Im x) (0+0*1) (6-0))=x :=
 (show AI (AA (Im x) (0+0*1) (6-0))=Oo (AE x 0) (AE x 1) (AE x 2) (AE x 3) (AE x 4) (AE x 5) by kernel_rfl).trans (ACc h)
def DA (i:Int):AV:=.val false [.v (.int .i64 i)]
def Au (b:Bool):AV:=.val false [.v (.bool b)]
theorem AOl (x:Nat):AK dn (AG S11 K0) Tryz.f132 [AY x] [] 300=some ([],DA (wI (bits .and .u64 (AE (x % pN) 0) 1))):=dk
def EI (x:Nat):Int:=((x % pN % 2:Nat):Int)
theorem oM (x:Nat):AE x 0=((x % 18446744073709551616:Nat):Int):=by simp only [AE,je,ia,ig]
theorem ACl (v:Nat) (hv:v<18446744073709551616):bits .and .u64 (v:Int) 1=((v % 2:Nat):Int):=by
 have h:=(bits_nat .u64 64 dm (fun n h0 h1=>by rw [IntKind.wrap_u64];omega) v 1 dl dm).1
 refine Eq.trans h ?_
 rw [Nat.and_one_is_mod]
theorem AOm (x:Nat):AS dn 132 [AY x] (DA (EI x)):=by
 have h:=AN (AH Zq Ab) AB Tryz.func132 (AOl x) trivial rfl
 have e:wI (bits .and .u64 (AE (x % pN) 0) 1)=EI x:=by
  rw [oM,ACl _ dl,Ao dl];unfold EI;omega
 rw [e] at h;exact h
theorem AOn (x:Nat):AK dn (AG S11 K0) Tryz.f52 [AY x] [] 300=some (JD 4,Au (decide (0<EC (AI (AA (Im (x % pN)) (0+0*1) (6-0))) (AI (AA (Im (Ct x)) (0+0*1) (6-0)))))):=dk
def BG (x:Nat):Bool:=decide (Ct x<x % pN)
theorem Zr (x:Nat):Ct x<pN:=gu _ Cs
theorem AOo (x:Nat):AS dn 52 [AY x] (Au (BG x)):=by
 have h:=AN (AH Zq Ab) AB Tryz.func52 (AOn x) (Ow _) rfl
 rw [Oz (KM x),Oz (jy (Zr x) dm)] at h;have e:decide (0<EC (x % pN) (Ct x))=BG x:=by
  unfold EC BG;by_cases h1:x % pN<Ct x
  ·rw [fw h1,ga dl,ga dl]
  ·by_cases h2:Ct x<x % pN
   ·rw [fv h1,fw h2,fu h2];rfl
   ·rw [fv h1,fv h2,ga h2];rfl
 rw [e] at h;exact h
def QN:Nat:=1000602388805416848354447456433976039139220704984751971333014534031007912622709466110671907282253916009473568139947
def QC:List Ch:=[.n .u64 0xee7fbfffffffeaab,.n .u64 0x7aaffffac54ffff,.n .u64 0xd9cc34a83dac3d89,.n .u64 0xd91dd2e13ce144af,.n .u64 0x92c6e9ed90d2eb35,.n .u64 0x680447a8e5ff9a6]
theorem AOp:AK dn (AG S11 K0) Tryz.f129 [] [] 300=some ([],.val true QC):=dk
theorem AOq:AS dn 129 [] (.val true QC):=AN (AH Zq Ab) AB Tryz.func129 AOp trivial rfl
noncomputable def S12:dt:=(129,AZ fun args=>match args with | []=>some (AY QN) | _=>none)::(132,AZ (FY fun x=>DA (EI x)))::(52,AZ (FY fun x=>Au (BG x)))::S11
theorem oO:AT dn S12:=⟨Aa Tryz.func129 dk dk (QZ AOq fun u h=>WU dk h),Aa Tryz.func132 dk dk (GR fun x _=>AOm x),Aa Tryz.func52 dk dk (GR fun x _=>AOo x),Zq⟩
def HI (y:Nat):Nat:=if EI y=1 then Ct y else y
theorem AOr (y:Nat):AK dn (AG S12 K0) Tryz.f131 [AY y] dw 300=some ([(decide (EI y=1),true)],AY (Ct y)):=dk
theorem AOs (y:Nat):AK dn (AG S12 K0) Tryz.f131 [AY y] du 300=some ([(decide (EI y=1),false)],AY y):=dk
theorem AOt (y:Nat):AS dn 131 [AY y] (AY (HI y)):=by
 unfold HI;by_cases h:EI y=1
 ·rw [fw h];exact AN (AH oO Ab) AB Tryz.func131 (AOr y) ⟨by simp [h],trivial⟩ rfl
 ·rw [fv h];exact AN (AH oO Ab) AB Tryz.func131 (AOs y) ⟨by simp [h],trivial⟩ rfl
noncomputable def S13:dt:=(131,AZ (FY fun x=>AY (HI x)))::S12
theorem oP:AT dn S13:=⟨Aa Tryz.func131 dk dk (GR fun x _=>AOt x),oO⟩
noncomputable def Qj (a:Nat):Nat:=Cu a (AI (AA (Im QN) (0+0*1) (6-0)))
theorem AOu (a:Nat):AK dn (AG S13 K0) Tryz.f60 [AY a] dw 300=some ([(true,true),(true,true),(!decide (Af (Qj a) (Qj a)=a % pN),true)],.tup [(true,HE),(false,[.b false])]):=dk
theorem AOv (a:Nat):AK dn (AG S13 K0) Tryz.f60 [AY a] du 300=some ([(true,true),(true,true),(!decide (Af (Qj a) (Qj a)=a % pN),false)],.tup [(true,[.num 6 (HI (Qj a))]),(false,[.b true])]):=dk
noncomputable def CL (a:Nat):Bool:=decide (Af (Cu a QN) (Cu a QN)=a % pN)
noncomputable def DQ (a:Nat):Nat:=if CL a=true then HI (Cu a QN) else 0
theorem oQ (a:Nat):Qj a=Cu a QN:=by unfold Qj;rw [Oz dm]
noncomputable def Ta (a:Nat):AV:=.tup [(true,[.num 6 (DQ a)]),(false,[.v (.bool (CL a))])]
theorem CW {P:Program} {f:FuncId} {args:List AV} {v v':AV} (h:AS P f args v) (hv:∀ u,AL By v u→AL By v' u):AS P f args v' :=
 fun us w a=>Calls.mono (h us w a) fun _ _ ⟨u,q1,q2,q3⟩=>⟨u,q1,hv u q2,q3⟩
theorem In {b b':Bool} {u:Value} (e:b=b') (h:Bi By false [.b b] u):Bi By false [.v (.bool b')] u:=by
 subst e;obtain ⟨l1,l2,p1,p2,p3⟩:=h;exact ⟨l1,l2,⟨p1,rfl,trivial⟩,p2,p3⟩
theorem AOw (a:Nat):AS dn 60 [AY a] (Ta a):=by
 by_cases h:CL a=true
 ·have h1:=AN (AH oP Ab) AB Tryz.func60 (AOv a) ⟨rfl,rfl,by rw [oQ];unfold CL at h;rw [h];rfl,trivial⟩ rfl
  refine CW h1 ?_
  rintro u ⟨us,⟨u1,l1,q1,⟨u2,l2,q2,q3,rfl⟩,rfl⟩,rfl⟩
  refine ⟨_,⟨u1,_,?_,⟨u2,l2,In h.symm q2,q3,rfl⟩,rfl⟩,rfl⟩
  unfold DQ;rw [fw h,← oQ];exact q1
 ·have h0:CL a=false:=by simpa using h
  have h1:=AN (AH oP Ab) AB Tryz.func60 (AOu a) ⟨rfl,rfl,by rw [oQ];unfold CL at h0;rw [h0];rfl,trivial⟩ rfl
  refine CW h1 ?_
  rintro u ⟨us,⟨u1,l1,q1,⟨u2,l2,q2,q3,rfl⟩,rfl⟩,rfl⟩
  refine ⟨_,⟨u1,_,?_,⟨u2,l2,In h0.symm q2,q3,rfl⟩,rfl⟩,rfl⟩
  unfold DQ;rw [fv h];exact WU dk q1
noncomputable def S14:dt:=(60,AZ (FY Ta))::S13
theorem AOx:AT dn S14:=⟨Aa Tryz.func60 dk dk (GR fun x _=>AOw x),oP⟩
noncomputable def S15:dt:=S14
theorem AOy:AT dn S15:=AOx
def Ez (sp:List AV→Option (dr×AV)):ASpec:=fun args _ _ path =>
 match ZM args,sp args with
 | true,some (c,v)=>match OW v with
  | true=>some { CA v path with conds:=c }
  | false=>none
 | _,_=>none
theorem Ft {P:Program} {f:FuncId} {fn:Func} {sp:List AV→Option (dr×AV)} (hfn:P.funcs[f]? = some fn) (hb:fn.body.isSome=true) (hname:(fn.name=="runtime.NumGoroutine")=false) (h:∀ args c v,sp args=some (c,v)→AM c→AS P f args v):A' P f (Ez sp):=by
 intro args H fr path r β us w hs hc ha hg hf;unfold Ez at hs;split at hs
 ·rename_i c v hk hv;split at hs
  ·rename_i hkv;injection hs with hs;subst hs;refine TF hfn hb hname (Calls.mono (h args c v hv hc us w (mX hk ha)) ?_)
   rintro e w' ⟨u,rfl,hu,hbl⟩
   refine ⟨u,β,rfl,?_⟩
   exact ⟨Env.le_refl _,fun _ _ h=>.inl h,fun b B n hb=>ik (hg.lt b B n hb) hbl.size,fun b b' _ _ _ h1 _ h3=>by simp [CA] at h3;omega,LZ hkv hu,fun _ _ h=>(by cases h),fun B hB _=>hbl.block B hB,hbl.size,hbl.os,hbl.tape,hbl.output⟩
  ·cases hs
 ·cases hs
noncomputable def S16:dt:=S15
theorem AOz:AT dn S16:=AOy
def F6:AV→AV
 | .val g cs=>.val g (cs.map nv)
 | a=>a
theorem ACm {β:Env} {a:AV} {u:Value} (h:AL β a u):AL β (F6 a) u:=by
 cases a with
 | val g cs=>cases g with
  | false=>exact WR h
  | true=>obtain ⟨l,q,e⟩:=h;exact ⟨l,WR q,e⟩
 | tup xs=>exact h
 | any=>exact h
theorem ACn:∀ (T:List AV) (t:Nat),Al (T.map F6) t=F6 (Al T t)∨Al (T.map F6) t=Al T t
 | [],_=>.inr rfl
 | _::_,0=>.inl rfl
 | _::r,t+1=>ACn r t
theorem Hv {P:Program} {f:FuncId} {β0:Env} {w0:World} {R:Ending→World→Prop} {n:Nat} {W:List Nat} {todo:List Item} {T:List AV} {H:Heap} {fr:Nat} {p:List Bool} (h:ASafe P f β0 w0 R n W ⟨todo,⟨T.map F6,H,fr,p⟩⟩):ASafe P f β0 w0 R n W ⟨todo,⟨T,H,fr,p⟩⟩:=by
 intro β a w hi hf;refine h β a w { hi with tmp:=fun t=>?_ } hf
 rcases ACn T t with e | e
 ·show AL β (Al (T.map F6) t) _;rw [e];exact ACm (hi.tmp t)
 ·show AL β (Al (T.map F6) t) _;rw [e];exact hi.tmp t
def outL (S L i:Nat):dp:=(List.range i).map (AE S)++List.replicate (L-i) 0
theorem oS {xs:dp} {off n:Nat} (h:∀ d∈xs,0≤d∧d<18446744073709551616) (i:Nat):BT xs off n i=((AI (AA xs off n) / 2^(64*i) % 18446744073709551616:Nat):Int):=by
 have:=WX (AA xs off n) i (C3 h)
 have hb:=M5 (C3 (off:=off) (n:=n) h) i
 unfold BT;rw [gj];have e:(2:Nat)^64=18446744073709551616:=rfl
 rw [e] at this;omega
noncomputable def S17:dt:=S16
theorem AO0:AT dn S17:=AOz
noncomputable def S18:dt:=S17
theorem AO1:AT dn S18:=AO0
def O0 (m x:Nat):Nat→Nat→Nat
 | 0,_=>1 % m
 | f+1,e=>(match e % 2 with
  | 0=>O0 m (x*x % m) f (e / 2)
  | _=>x*O0 m (x*x % m) f (e / 2) % m)
theorem oT (m:Nat):∀ (f x e:Nat),e<2^f→O0 m x f e=x^e % m
 | 0,x,e,h=>by
  have:e=0:=by simpa using h
  subst this;rfl
 | f+1,x,e,h=>by
  have ih:=oT m f (x*x % m) (e / 2) (by rw [ip] at h;omega)
  have h2:(x*x % m)^(e / 2) % m=x^(2*(e / 2)) % m:=by
   rw [← kq,mf,pe]
  unfold O0;rcases ke e with h0 | h1
  ·rw [h0];show O0 m (x*x % m) f (e / 2)=_;rw [ih,h2,show 2*(e / 2)=e by omega]
  ·rw [h1];show x*O0 m (x*x % m) f (e / 2) % m=_;rw [ih,h2,ie,ka,← ie,← pi,show (2*(e / 2)).succ=e by omega]
theorem ACo:(2:Nat)^384=RR:=dk
noncomputable def S19:dt:=S18
theorem AO2:AT dn S19:=AO1
open Ex
open Go.RowKit (Below)
theorem own:ownKnob dn.godebug=none:=dk
theorem laidOut:laidOutB dn=true:=dk
theorem under_bool:dn.underlying 4=some .bool:=dk
theorem args0 {ts:List TypeId} {H:Type} {enc:TypeId×Value→H} {W:World} {us:List Value} {ds:List (DataW H)} {ps:List MemPlace} (hA:DataW.TrodAll enc dn W 0 (fun _=>true) true ts us ds ps) (ht:ts=[]):us=[]:=by
 subst ht;cases us with
 | nil=>rfl
 | cons=>cases ds<;>cases hA
theorem WZ {H:Type} {enc:TypeId×Value→H} {W:World} {t:TypeId} {ts:List TypeId} {us:List Value} {ds:List (DataW H)} {ps:List MemPlace} (hA:DataW.TrodAll enc dn W 0 (fun _=>true) true (t::ts) us ds ps) :
  ∃ v us' d ds' p q,us=v::us'∧ds=d::ds'∧DataW.Trod enc dn W 0 (fun _=>true) true t v d p∧DataW.TrodAll enc dn W 0 (fun _=>true) true ts us' ds' q:=by
 cases us with
 | nil=>cases ds<;>cases hA
 | cons v us'=>cases ds with
  | nil=>cases hA
  | cons d ds' =>
   obtain ⟨p,q,h1,h2,_⟩:=hA;exact ⟨v,us',d,ds',p,q,rfl,rfl,h1,h2⟩
theorem len2 {α:Type} {l:List α} (h:l.length=2):∃ a b,l=[a,b]:=by
 match l,h with
 | [a,b],_=>exact ⟨a,b,rfl⟩
theorem len3 {α:Type} {l:List α} (h:l.length=3):∃ a b c,l=[a,b,c]:=by
 match l,h with
 | [a,b,c],_=>exact ⟨a,b,c,rfl⟩
theorem allHeard:Tryz.pinned.checked.prog.stopsHeard=true:=dk
theorem allEnter:Tryz.pinned.checked.prog.mayEnter=true:=dk
theorem allLifts:Tryz.pinned.checked.prog.liftsFinal=false:=dk
theorem allKeys:Tryz.pinned.checked.prog.plainKeys=true:=dk
theorem allLaid:laidOutB Tryz.pinned.checked.prog=true:=dk
theorem allMaps:mapsRowed Tryz.pinned.checked.prog=true:=dk
open Ex
def PL:dp:=[0xb9feffffffffaaab,0x1eabfffeb153ffff,0x6730d2a0f6b0f624,0x64774b84f38512bf,0x4b1ba7b6434bacd7,0x1a0111ea397fe69a]
theorem oU {x:Nat} (h:x<RR):AI (AA (Im x) 0 6)=x:=Oz h
theorem AO3 {S L:Nat} (h:S<2^(64*L)):AI (AA (outL S L L) 0 L)=S:=by
 unfold outL AA;rw [kw,List.replicate_zero,iq,mc,ko (by simp)]
 have gen:∀ (L S:Nat),S<2^(64*L)→AI ((List.range L).map (AE S))=S:=by
  intro L;induction L with
  | zero=>intro S h;simp at h;subst h;rfl
  | succ L ih =>
   intro S h;rw [pc,i_,kp];have e:(AE S ∘ Nat.succ)=AE (S / 2^64):=by
    funext i
    exact Ew S i |>.symm▸rfl
   rw [e];simp only [AI];rw [ih (S / 2^64) (by rw [show 64*(L+1)=64+64*L by omega,gp] at h;exact jb h),oG,je,ia,ig]
   omega
 exact gen L S h
theorem AO4:AI (AA PL 0 6)=pN:=dk
theorem AO5 {a:Nat} (h:a % pN≠0):Ct a=pN-a % pN:=by
 have hp:=HF a;unfold Ct;rw [ge dl]
theorem AO6 {a:Nat} (h:a % pN=0):Ct a=0:=by
 unfold Ct;rw [h,lz,Nat.mod_self]
theorem Wb:pN % 2=1:=dk
end Go.Proofs.YtgnajdcdcblaoaaGreat
namespace Go.Proofs.YtgnajdcdcblaoaaGreat.Num
def Prime (p:Nat):Prop:=2≤p∧∀ d,d∣p→d=1∨d=p
theorem Prime.coprime {p a:Nat} (hp:Prime p) (h:¬ p∣a):Nat.Coprime p a:=by
 rcases hp.2 (Nat.gcd p a) (Nat.gcd_dvd_left _ _) with e | e
 ·exact e
 ·exact absurd (e▸Nat.gcd_dvd_right p a) h
theorem Prime.dvd_mul {p a b:Nat} (hp:Prime p) (h:p∣a*b):p∣a∨p∣b:=by
 by_cases ha:p∣a
 ·exact .inl ha
 ·exact .inr ((hp.coprime ha).dvd_of_dvd_mul_left h)
theorem We {a b n:Nat} (h:a % n=b % n) (hle:b≤a):n∣a-b:=by
 have h1:=jo a n;have h2:=jo b n;exact ⟨a / n-b / n,by rw [Nat.mul_sub];omega⟩
theorem AO7 {a b n:Nat} (h:n∣a-b) (hle:b≤a):a % n=b % n:=by
 obtain ⟨k,hk⟩:=h;have:a=b+n*k:=dl
 rw [this,qz]
def BK:List Nat→Nat
 | []=>1
 | x::l=>x*BK l
theorem AO8 {l m:List Nat} (h:l.Perm m):BK l=BK m:=by
 induction h with
 | nil=>rfl
 | cons x _ ih=>simp [BK,ih]
 | swap x y l=>simp only [BK];rw [jt]
 | trans _ _ h1 h2=>exact h1.trans h2
theorem oV:∀ {l m:List Nat},l.Nodup→(∀ x∈l,x∈m)→m.length≤l.length→l.Perm m
 | [],m,_,_,h=>by
  have:m=[]:=pf.1 (by simpa using h)
  subst this;exact .refl _
 | a::l,m,hn,hs,hlen=>by
  have ham:=hs a (by simp)
  have hp:=List.perm_cons_erase ham;have hn':=nh.1 hn;refine .trans (.cons a (oV hn'.2 (fun x hx=>?_) ?_)) hp.symm
  ·have:x≠a:=fun e=>hn'.1 (e▸hx)
   exact (List.mem_erase_of_ne this).2 (hs x (by simp [hx]))
  ·rw [List.length_erase_of_mem ham];simp at hlen;omega
theorem ACp (a p:Nat):∀ l:List Nat,BK (l.map fun x=>a*x % p) % p=a^l.length*BK l % p
 | []=>by simp [BK]
 | x::l=>by
  simp only [i_,BK,ii];rw [ie,ACp a p l,ka,← ie,ip];refine gh (· % p) ?_
  show a*x*(a^l.length*BK l)=a^l.length*a*(x*BK l)
  ac_rfl
theorem oW {p:Nat} (hp:Prime p):∀ {l:List Nat},(∀ x∈l,¬ p∣x)→¬ p∣BK l
 | [],_,h=>by
  have:=jm dm h
  have:=hp.1
  simp only [BK] at *;omega
 | x::l,hx,h=>by
  rcases hp.dvd_mul h with h | h
  ·exact hx x (by simp) h
  ·exact oW hp (fun y hy=>hx y (by simp [hy])) h
theorem Qk {p a:Nat} (hp:Prime p) (ha:¬ p∣a):a^(p-1) % p=1:=by
 have h2:=hp.1;have hL:∀ x,x∈List.range' 1 (p-1)↔1≤x∧x<p:=by intro x;rw [List.mem_range'_1];omega
 have hnd:∀ x∈List.range' 1 (p-1),¬ p∣x:=fun x hx hd=>by
  have:=(hL x).1 hx
  have:=jm dl hd
  omega
 have hperm:((List.range' 1 (p-1)).map fun x=>a*x % p).Perm (List.range' 1 (p-1)):=by
  refine oV ?_ ?_ (by simp)
  ·have hq:∀ {l:List Nat},l.Nodup→(∀ x∈l,1≤x∧x<p)→(l.map fun x=>a*x % p).Nodup:=by
    intro l;induction l with
    | nil=>intro _ _;exact List.nodup_nil
    | cons x l ih =>
     intro hn hb;have hn':=nh.1 hn;rw [i_,nh];refine ⟨fun hm=>?_,ih hn'.2 fun y hy=>hb y (by simp [hy])⟩
     obtain ⟨y,hy,he⟩:=jj.1 hm;have b1:=hb x (by simp)
     have b2:=hb y (by simp [hy])
     have hxy:x≠y:=fun e=>hn'.1 (e▸hy)
     rcases gt x y with hlt | hge
     ·have:=We (a:=a*y) (b:=a*x) he (j_ a dl)
      rw [← Nat.mul_sub] at this;rcases hp.dvd_mul this with h | h
      ·exact ha h
      ·have:=jm dl h;omega
     ·have:=We (a:=a*x) (b:=a*y) he.symm (j_ a dl)
      rw [← Nat.mul_sub] at this;rcases hp.dvd_mul this with h | h
      ·exact ha h
      ·have:=jm dl h;omega
   exact hq List.nodup_range' fun x hx=>(hL x).1 hx
  ·intro y hy;obtain ⟨x,hx,rfl⟩:=jj.1 hy;have b:=(hL x).1 hx
   refine (hL _).2 ⟨?_,gu _ dl⟩
   rcases jh (a*x % p) with h | h
   ·rcases hp.dvd_mul (od h) with h | h
    ·exact absurd h ha
    ·exact absurd h (hnd x hx)
   ·exact h
 have e:=ACp a p (List.range' 1 (p-1))
 rw [AO8 hperm,List.length_range'] at e;have hpos:1≤a^(p-1):=jr (oy fun h=>ha (h▸Nat.dvd_zero p))
 have hd:=We (a:=a^(p-1)*BK (List.range' 1 (p-1))) (b:=BK (List.range' 1 (p-1))) e.symm (Nat.le_mul_of_pos_left _ hpos)
 have:a^(p-1)*BK (List.range' 1 (p-1))-BK (List.range' 1 (p-1))=(a^(p-1)-1)*BK (List.range' 1 (p-1)):=by rw [Nat.sub_mul,mb]
 rw [this] at hd;rcases hp.dvd_mul hd with h | h
 ·rw [AO7 h hpos,ge dl]
 ·exact absurd h (oW hp hnd)
theorem exists_prime_dvd:∀ n,2≤n→∃ q,Prime q∧q∣n:=by
 intro n;induction n using Nat.strongRecOn with
 | ind n ih =>
  intro h;by_cases hp:Prime n
  ·exact ⟨n,hp,Nat.dvd_refl n⟩
  ·have:∃ d,d∣n∧d≠1∧d≠n:=ra fun hno=>hp ⟨h,fun d hd=>ra fun hd2=>hno ⟨d,hd,fun e=>hd2 (.inl e),fun e=>hd2 (.inr e)⟩⟩
   obtain ⟨d,hd,h1,h2⟩:=this;have hle:=jm dl hd;have h0:d≠0:=fun e=>by subst e;have:=Nat.eq_zero_of_zero_dvd hd;omega
   obtain ⟨q,hq,hqd⟩:=ih d dl dl;exact ⟨q,hq,Nat.dvd_trans hqd hd⟩
theorem Zs {n:Nat} (h:2≤n) (hf:∀ q,Prime q→q∣n→n<q*q):Prime n:=by
 refine ⟨h,fun d hd=>?_⟩
 obtain ⟨e,rfl⟩:=hd;by_cases h1:d=1
 ·exact .inl h1
 ·by_cases h2:e=1
  ·subst h2;exact .inr (by simp)
  ·exfalso
   have d0:d≠0:=fun e'=>by subst e';simp at h
   have e0:e≠0:=fun e'=>by subst e';simp at h
   obtain ⟨q,hq,hqd⟩:=exists_prime_dvd d dl;obtain ⟨r,hr,hre⟩:=exists_prime_dvd e dl;have a1:=hf q hq (Nat.dvd_mul_right_of_dvd hqd e)
   have a2:=hf r hr (Nat.dvd_mul_left_of_dvd hre d)
   have b1:=jm dl hqd;have b2:=jm dl hre;rcases gt d e with hlt | hge
   ·have:=ll b1 b1
    have:=j_ d (Nat.le_of_lt hlt)
    omega
   ·have:=ll b2 b2
    have:=jp e hge
    omega
theorem AO9 {r x m:Nat} (h:x^m % r=1 % r) (k:Nat):x^(m*k) % r=1 % r:=by
 rw [mf,kq,h,← kq,Nat.one_pow]
theorem AO_ {r x:Nat}:∀ (m n:Nat),x^m % r=1 % r→x^n % r=1 % r→x^(Nat.gcd m n) % r=1 % r:=by
 intro m n;induction m,n using Nat.gcd.induction with
 | H0 n=>intro _ h;rwa [Nat.gcd_zero_left]
 | H1 m n hm ih =>
  intro h1 h2;rw [Nat.gcd_rec];refine ih ?_ h1
  have e:=jo n m;rw [← e,gp,ie,AO9 h1,← ie,mb] at h2;exact h2
theorem Zt {N q h a r:Nat} (hN:N=h*q+1) (hq:Prime q) (h1:a^(N-1) % N=1) (h2:Nat.gcd (a^h % N+N-1) N=1) (hr:Prime r) (hrN:r∣N):q∣r-1:=by
 have hr2:=hr.1;have e1:(a^h)^q % r=1 % r:=by
  rw [← mf,show h*q=N-1 by omega,← rk _ hrN,h1]
 have hN1:1≤N:=dl
 have e2:a^h % r≠1:=fun e=>by
  have hd:r∣a^h % N+N-1:=by
   refine od ?_
   have:(a^h % N+N-1+1) % r=1 % r:=by
    rw [Nat.sub_add_cancel dl,kv,rk _ hrN,e,nf hrN,kz]
   have:=We this dl
   exact nf (by simpa using this)
  have:=Nat.dvd_gcd hd hrN
  rw [h2] at this;have:=jm dm this
  omega
 have hnd:¬ r∣a^h:=fun hd=>by
  have:r∣(a^h)^q:=by
   obtain ⟨k,hk⟩:=hd;have hq2:=hq.1;obtain ⟨j,rfl⟩:∃ j,q=j+1:=⟨q-1,dl⟩
   exact ⟨(a^h)^j*k,by rw [ip,jt,← hk]⟩
  rw [nf this,ge dl] at e1;cases e1
 have e3:=Qk hr hnd;by_cases hd:q∣r-1
 ·exact hd
 ·exfalso
  have hc:=hq.coprime hd;have:=AO_ q (r-1) e1 (by rw [e3,ge dl])
  rw [hc,Nat.pow_one,ge (a:=1) dl] at this;exact e2 this
theorem AO' {N q h a:Nat} (hN:N=h*q+1) (hq:Prime q) (hh:h<q) (h0:0<h) (h1:a^(N-1) % N=1) (h2:Nat.gcd (a^h % N+N-1) N=1):Prime N:=by
 have hq2:=hq.1;have hpos:1*1≤h*q:=ll h0 dl
 refine Zs dl fun r hr hrN=>?_
 have:=jm (by have:=hr.1;omega) (Zt hN hq h1 h2 hr hrN)
 have hle:q+1≤r:=by have:=hr.1;omega
 have:=ll hle hle
 have h3:h*q≤q*q:=jp q dl
 rw [oq,Nat.mul_succ] at this;omega
theorem APA {N q h a q' h' a':Nat} (hN:N=h*q+1) (hq:Prime q) (h1:a^(N-1) % N=1) (h2:Nat.gcd (a^h % N+N-1) N=1) (hN':N=h'*q'+1) (hq':Prime q') (h1':a'^(N-1) % N=1) (h2':Nat.gcd (a'^h' % N+N-1) N=1)
  (hne:q<q') (hbig:N<(q*q'+1)*(q*q'+1)) (hN2:2≤N):Prime N:=by
 refine Zs hN2 fun r hr hrN=>?_
 have d1:=Zt hN hq h1 h2 hr hrN;have d2:=Zt hN' hq' h1' h2' hr hrN;have hc:Nat.Coprime q q':=hq.coprime fun hd=>by
  rcases hq'.2 q hd with e | e
  ·have:=hq.1;omega
  ·omega
 have:=jm (by have:=hr.1;omega) (hc.mul_dvd_of_dvd_of_dvd d1 d2)
 have hle:q*q'+1≤r:=by have:=hr.1;omega
 exact ik hbig (ll hle hle)
def Wf (n:Nat):Nat→Nat→Bool
 | 0,_=>true
 | f+1,d=>match n % d with
  | 0=>false
  | _+1=>Wf n f (d+1)
theorem ACq (n:Nat):∀ (f d:Nat),Wf n f d=true→∀ e,d≤e→e<d+f→¬ e∣n
 | 0,d,_,e,h1,h2=>dl
 | f+1,d,h,e,h1,h2=>by
  unfold Wf at h;split at h
  ·cases h
  ·rename_i k hk;rcases Nat.eq_or_lt_of_le h1 with rfl | hlt
   ·intro hd;rw [nf hd] at hk;cases hk
   ·exact ACq n f (d+1) h e dl dl
theorem APB {n f:Nat} (h2:2≤n) (h:Wf n f 2=true) (hb:n<(f+2)*(f+2)):Prime n:=by
 refine Zs h2 fun q hq hd=>?_
 rcases gt q (f+2) with hlt | hge
 ·exact absurd hd (ACq n f 2 h q hq.1 dl)
 ·exact ik hb (ll hge hge)
def O1 (m x:Nat):Nat→Nat→Nat
 | 0,_=>1 % m
 | f+1,e=>(match e % 2 with
  | 0=>O1 m (x*x % m) f (e / 2)
  | _=>x*O1 m (x*x % m) f (e / 2) % m)
theorem oX (m:Nat):∀ (f x e:Nat),e<2^f→O1 m x f e=x^e % m
 | 0,x,e,h=>by
  have:e=0:=by simpa using h
  subst this;rfl
 | f+1,x,e,h=>by
  have ih:=oX m f (x*x % m) (e / 2) (by rw [ip] at h;omega)
  have h2:(x*x % m)^(e / 2) % m=x^(2*(e / 2)) % m:=by
   rw [← kq,mf,pe]
  unfold O1;rcases ke e with h0 | h1
  ·rw [h0];show O1 m (x*x % m) f (e / 2)=_;rw [ih,h2,show 2*(e / 2)=e by omega]
  ·rw [h1];show x*O1 m (x*x % m) f (e / 2) % m=_;rw [ih,h2,ie,ka,← ie,← pi,show (2*(e / 2)).succ=e by omega]
def Ql (N q h a f:Nat):Bool:=Nat.beq N (h*q+1)&&(Nat.ble (N-1+1) (2^f)&&(Nat.beq (O1 N a f (N-1)) 1&&Nat.beq (Nat.gcd (O1 N a f h+N-1) N) 1))
theorem Zu {N q h a f:Nat} (h0:Ql N q h a f=true) (hq:0<q):N=h*q+1∧a^(N-1) % N=1∧Nat.gcd (a^h % N+N-1) N=1:=by
 unfold Ql at h0;simp only [gi] at h0;obtain ⟨c1,c2,c3,c4⟩:=h0;have e1:=jv c1;have e2:=f_ c2;have e3:=jv c3;have e4:=jv c4;have hle:h*1≤h*q:=j_ h hq
 rw [oX N f a _ dl] at e3;rw [oX N f a _ dl] at e4;exact ⟨e1,e3,e4⟩
theorem HJ {n f:Nat} (h:(Nat.ble 2 n&&(Wf n f 2&&Nat.blt n ((f+2)*(f+2))))=true):Prime n:=by
 simp only [gi] at h;exact APB (f_ h.1) h.2.1 (f_ h.2.2)
theorem JG {N q h a f:Nat} (hq:Prime q) (hb:(Ql N q h a f&&(Nat.blt h q&&Nat.blt 0 h))=true):Prime N:=by
 simp only [gi] at hb;have hq2:=hq.1;obtain ⟨e1,e2,e3⟩:=Zu hb.1 dl;exact AO' e1 hq (f_ hb.2.1) (f_ hb.2.2) e2 e3
theorem APC:Prime 421987:=HJ (f:=650) dk
theorem APD:Prime 755057:=HJ (f:=870) dk
theorem APE:Prime 13090036741:=JG (q:=421987) (h:=31020) (a:=2) (f:=64) APC dk
theorem APF {N q h a q' h' a' f:Nat} (hq:Prime q) (hq':Prime q') (hb:(Ql N q h a f&&(Ql N q' h' a' f&&(Nat.blt q q'&&(Nat.blt N ((q*q'+1)*(q*q'+1))&&Nat.ble 2 N))))=true):Prime N:=by
 simp only [gi] at hb;obtain ⟨b1,b2,b3,b4,b5⟩:=hb;have hq2:=hq.1;have hq2':=hq'.1;obtain ⟨e1,e2,e3⟩:=Zu b1 dl;obtain ⟨d1,d2,d3⟩:=Zu b2 dl;exact APA e1 hq e2 e3 d1 hq' d2 d3 (f_ b3) (f_ b4) (f_ b5)
theorem APG:Prime 3819663927398918131021:=APF (h:=(3819663927398918131021-1) / 755057) (a:=2) (h':=(3819663927398918131021-1) / 13090036741) (a':=2) (f:=128) APD APE dk
theorem APH:Prime 1125266252156850182658904441386709967:=JG (h:=294598235223046) (a:=2) (f:=128) APG dk
theorem prQ:Prime 15778400344354997994418419698270088123916926905054652752758194827714659:=JG (h:=14021926201120671579994175730661374) (a:=2) (f:=256) APH dk
theorem prp:Prime 4002409555221667393417789825735904156556882819939007885332058136124031650490837864442687629129015664037894272559787:=JG (h:=253663835868735594330404923636534084567099854) (a:=2) (f:=384) prQ dk
theorem APK {p x y:Nat} (hp:Prime p) (hx:x<p) (hy:y<p) (h:x*x % p=y*y % p):x=y∨x+y=p:=by
 have gen:∀ {x y:Nat},x<p→y≤x→x*x % p=y*y % p→x=y∨x+y=p:=by
  intro x y hx hle h;have hd:=We h (ll hle hle)
  have e:x*x-y*y=(x+y)*(x-y):=Nat.mul_self_sub_mul_self_eq x y
  rw [e] at hd;rcases hp.dvd_mul hd with h1 | h1
  ·rcases jh (x+y) with h0 | h0
   ·left;omega
   ·obtain ⟨k,hk⟩:=h1;right
    have:k=1:=by
     rcases gt k 2 with h2 | h2
     ·rcases jh k with h3 | h3
      ·subst h3;omega
      ·omega
     ·have:=j_ p h2;omega
    subst this;omega
  ·left
   rcases jh (x-y) with h0 | h0
   ·omega
   ·have:=jm h0 h1;omega
 rcases gt x y with h1 | h1
 ·rcases gen hy (Nat.le_of_lt h1) h.symm with e | e
  ·exact .inl e.symm
  ·exact .inr dl
 ·exact gen hx h1 h
theorem APL {p x:Nat} (hp:Prime p) (h2:2<p) (h:x*x % p=1):x % p=1∨x % p=p-1:=by
 have h':x % p*(x % p) % p=1*1 % p:=by rw [← ie,h,g_,ge dl]
 rcases APK hp (gu x dl) (show 1<p by omega) h' with e | e
 ·exact .inl e
 ·exact .inr dl
theorem ACr {p a:Nat} (hp:Prime p) (h2:2<p) (hodd:p % 2=1) (ha:¬ p∣a):a^((p-1) / 2) % p=1∨a^((p-1) / 2) % p=p-1:=by
 refine APL hp h2 ?_
 rw [← pe,← mf,show (p-1) / 2*2=p-1 by omega]
 exact Qk hp ha
theorem APM {p a:Nat} (h4:p % 4=3):a^((p+1) / 4) % p*(a^((p+1) / 4) % p) % p=a*(a^((p-1) / 2)) % p:=by
 rw [← ie,← gp,← pi];congr 2
 omega
theorem APN {p a:Nat} (hp:0<p):a*(p-1) % p=(p-a % p) % p:=by
 have h1:(a*(p-1)+a) % p=0:=by
  have:a*(p-1)+a=a*p:=by
   have:=Nat.mul_sub a p 1
   have h2:a*1≤a*p:=j_ a hp
   omega
  rw [this,Nat.mul_mod_left]
 have hl:=gu a hp;have hl2:=gu (a*(p-1)) hp
 have h3:(a*(p-1) % p+a % p) % p=0:=by rw [← kv];exact h1
 have h4:=jo (a*(p-1) % p+a % p) p
 rw [h3] at h4;rcases jh (a % p) with h0 | h0
 ·rw [h0] at h4 ⊢;have:(a*(p-1) % p+0) / p=0:=jf dl
  rw [this] at h4;rw [lz,Nat.mod_self];omega
 ·rw [ge (a:=p-a % p) dl];have:(a*(p-1) % p+a % p) / p=1:=by
   have l1:(a*(p-1) % p+a % p) / p<2:=jb dl
   rcases jh ((a*(p-1) % p+a % p) / p) with e | e
   ·rw [e] at h4;omega
   ·omega
  rw [this] at h4;omega
theorem APO {p a:Nat} (hp:Prime p) (h4:p % 4=3) (ha:¬ p∣a):a^((p+1) / 4) % p*(a^((p+1) / 4) % p) % p=a % p↔a^((p-1) / 2) % p=1:=by
 have h2:2<p:=dl
 have hz:a % p≠0:=fun h=>ha (od h)
 have hlt:=gu a (show 0<p by omega)
 rw [APM h4,ie];rcases ACr hp h2 dl ha with h | h
 ·rw [h,g_,ka];simp
 ·rw [h,APN dl,ka,ge (a:=p-a % p) dl];constructor
  ·intro h3;omega
  ·intro h3;omega
theorem APP (p a b e:Nat):(a*b % p)^e % p=(a^e % p)*(b^e % p) % p:=by
 rw [← kq,Nat.mul_pow,ie]
section
variable {p:Nat} [NeZero p]
def DR (p:Nat) [NeZero p] (x:Nat):Fin p:=Fin.ofNat p x
theorem KR (x:Nat):(DR p x).val=x % p:=rfl
theorem Zv {x y:Nat}:DR p x=DR p y↔x % p=y % p:=by
 rw [mi,KR,KR]
theorem ACs (x:Nat):DR p (x % p)=DR p x:=by rw [Zv,ka]
theorem ACt (x y:Nat):DR p (x+y)=DR p x+DR p y:=by
 rw [mi,Fin.val_add,KR,KR,KR,← kv]
theorem ACu (x y:Nat):DR p (x*y)=DR p x*DR p y:=by
 rw [mi,Fin.val_mul,KR,KR,KR,← ie]
theorem ACv:DR p 0=0:=by rw [mi,KR];simp
theorem APQ:DR p 1=1:=rfl
theorem oY:DR p p=0:=by rw [mi,KR];simp
theorem oZ {x y:Nat} (h:y≤x):DR p (x-y)=DR p x-DR p y:=by
 have:DR p (x-y)+DR p y=DR p x:=by rw [← ACt,Nat.sub_add_cancel h]
 rw [← this];grind
theorem APR (x:Nat):DR p (p-x % p)=- DR p x:=by
 have hp:0<p:=oy (NeZero.ne p)
 rw [oZ (Nat.le_of_lt (gu x hp)),oY,ACs];grind
theorem o5 {x:Nat}:DR p x=0↔p∣x:=by
 rw [← ACv,Zv,lv];exact ⟨od,nf⟩
theorem APS {x y:Nat} (hx:x<p) (hy:y<p) (h:DR p x=DR p y):x=y:=by
 have:=Zv.1 h
 rwa [ge hx,ge hy] at this
theorem APT (hp:Prime p) {a b:Fin p} (h:a*b=0):a=0∨b=0:=by
 have e:∀ x:Fin p,DR p x.val=x:=fun x=>by rw [mi,KR,ge x.isLt]
 rw [← e a,← e b,← ACu,o5] at h;rw [← e a,← e b,o5,o5];exact hp.dvd_mul h
end
theorem ACw {m:Nat}:∀ {l:List Nat},(∀ q∈l,Prime q)→l.Nodup→(∀ q∈l,q∣m)→BK l∣m
 | [],_,_,_=>Nat.one_dvd m
 | q::l,hp,hn,hd=>by
  obtain ⟨h1,h2⟩:=nh.1 hn;have hq:=hp q (by simp)
  have hc:Nat.Coprime q (BK l):=hq.coprime (oW hq fun x hx e=>by
   rcases (hp x (by simp [hx])).2 q e with e | e
   ·have:=hq.1;omega
   ·exact h1 (e▸hx))
  exact hc.mul_dvd_of_dvd_of_dvd (hd q (by simp)) (ACw (fun x hx=>hp x (by simp [hx])) h2 fun x hx=>hd x (by simp [hx]))
def o6 (N a f:Nat):List Nat→Bool
 | []=>true
 | q::l=>Ql N q ((N-1) / q) a f&&o6 N a f l
theorem ACx {N a f:Nat}:∀ {l:List Nat},o6 N a f l=true→∀ q∈l,Ql N q ((N-1) / q) a f=true
 | [],_,_,h=>by cases h
 | x::l,h,q,hq=>by
  have h':=gk.1 h;rcases gr.1 hq with rfl | hq
  ·exact h'.1
  ·exact ACx h'.2 q hq
theorem ACy {N a f:Nat} {l:List Nat} (hl:∀ q∈l,Prime q) (hn:l.Nodup) (hb:(o6 N a f l&&(Nat.blt N ((BK l+1)*(BK l+1))&&Nat.ble 2 N))=true):Prime N:=by
 simp only [gi] at hb;obtain ⟨b1,b2,b3⟩:=hb;have hN2:=f_ b3;refine Zs hN2 fun r hr hrN=>?_
 have hd:BK l∣r-1:=ACw hl hn fun q hq=>by
  have:=(hl q hq).1
  obtain ⟨e1,e2,e3⟩:=Zu (ACx b1 q hq) dl
  exact Zt e1 (hl q hq) e2 e3 hr hrN
 have hr2:=hr.1;have:=jm dl hd
 have hle:BK l+1≤r:=dl
 exact ik (f_ b2) (ll hle hle)
theorem APU:Prime 254760293:=HJ (f:=15962) dk
theorem APV:Prime 52437899:=HJ (f:=7242) dk
theorem APW:Prime 2529403:=HJ (f:=1591) dk
theorem APX:Prime 2508409:=HJ (f:=1584) dk
theorem APY:Prime 906349:=HJ (f:=953) dk
theorem APZ:Prime 859267:=HJ (f:=927) dk
theorem prR:Prime 0x73eda753299d7d483339d80809a1d80553bda402fffe5bfeffffffff00000001 :=
 ACy (a:=2) (f:=255) (l:=[254760293,52437899,2529403,2508409,906349,859267])
  (by
   intro q hq;simp only [gr,List.not_mem_nil,or_false] at hq;rcases hq with rfl | rfl | rfl | rfl | rfl | rfl
   ·exact APU
   ·exact APV
   ·exact APW
   ·exact APX
   ·exact APY
   ·exact APZ)
  dm dk
theorem APb:Prime 1367711:=HJ (f:=1170) dk
theorem APc:Prime 541:=HJ (f:=30) dk
theorem APd:Prime 12192593745179 :=
 ACy (a:=2) (f:=64) (l:=[1367711,541])
  (by
   intro q hq;simp only [gr,List.not_mem_nil,or_false] at hq;rcases hq with rfl | rfl
   ·exact APb
   ·exact APc)
  dm dk
theorem APe:Prime 512088937297519:=JG (q:=12192593745179) (h:=42) (a:=2) (f:=64) APd dk
theorem APf:Prime 1857858664515398933:=JG (q:=512088937297519) (h:=3628) (a:=2) (f:=64) APe dk
theorem APg:Prime 22294303974184787197:=JG (q:=1857858664515398933) (h:=12) (a:=2) (f:=128) APf dk
theorem APh:Prime 19931107752921199754119:=JG (q:=22294303974184787197) (h:=894) (a:=2) (f:=128) APg dk
theorem APi:Prime 81162125843606155545104998607900118769099783:=JG (q:=19931107752921199754119) (h:=4072133212551150901578) (a:=2) (f:=192) APh dk
theorem APj:Prime 26935696298915610574513298451669528361624243820491956655650666425177:=JG (q:=81162125843606155545104998607900118769099783) (h:=331875194481953911837672) (a:=2) (f:=256) APi dk
theorem APk:Prime 4638704574076146691498289350639807119782054683906549022985642612861209609656189848749536921852444848596916990932297:=JG (q:=26935696298915610574513298451669528361624243820491956655650666425177) (h:=172214021222941014338396330402661971150362189448) (a:=2) (f:=384) APj dk
theorem prT:Prime 402096035359507321594726366720466575392706800671181159425656785868777272553337714697862511267018014931937703598282857976535744623203249:=JG (q:=4638704574076146691498289350639807119782054683906549022985642612861209609656189848749536921852444848596916990932297) (h:=86682828996409959984) (a:=2) (f:=448) APk dk
end Go.Proofs.YtgnajdcdcblaoaaGreat.Num
namespace Go.Proofs.YtgnajdcdcblaoaaGreat
open Ex Num
theorem pN_prime:Num.Prime pN:=prp
theorem pN4:pN % 4=3:=dk
theorem o7:2<pN:=dm
theorem APn:QN=(pN+1) / 4:=dk
noncomputable def M6 (a:Nat):Nat:=a^((pN-1) / 2) % pN
theorem ACz {a:Nat}:pN∣a↔a % pN=0:=⟨nf,od⟩
theorem AC0 {a:Nat} (h:a % pN≠0):CL a=true↔M6 a=1:=by
 unfold CL Af M6;rw [KO,APn,gc];exact APO pN_prime pN4 fun hd=>h (ACz.1 hd)
theorem APo {a:Nat} (h:a % pN=0):CL a=true:=by
 unfold CL Af;rw [KO,gc,kq,h,Nat.zero_pow dm];rfl
theorem AC1 {a:Nat} (h:a % pN≠0):M6 a=1∨M6 a=pN-1:=ACr pN_prime o7 Wb fun hd=>h (ACz.1 hd)
theorem APp (a b:Nat):M6 (Af a b)=M6 a*M6 b % pN:=APP pN a b _
theorem o8 {a:Nat} (h:a % pN≠0):CL a=decide (M6 a=1):=by
 have:=AC0 h
 cases hb:CL a with
 | true=>rw [fu (this.1 hb)]
 | false=>rw [ga fun e=>by rw [this.2 e] at hb;cases hb]
theorem mm:(pN-1)*(pN-1) % pN=1:=dk
theorem m1:(pN-1)*1 % pN=pN-1:=dk
theorem m1':1*(pN-1) % pN=pN-1:=dk
theorem APr {a b:Nat} (h:Af a b≠0):a % pN≠0∧b % pN≠0:=by
 constructor
 ·intro e;apply h;unfold Af;rw [ie,e,mw,lv]
 ·intro e;apply h;unfold Af;rw [ie,e,je,lv]
theorem Ll (a b:Nat):Af a b<pN:=gu _ Cs
theorem APs {a b:Nat} (h:Af a b≠0):CL (Af a b)=(CL a==CL b):=by
 obtain ⟨ha,hb⟩:=APr h;rw [o8 (by rw [ge (Ll a b)];exact h),o8 ha,o8 hb,APp]
 rcases AC1 ha with e | e<;>rcases AC1 hb with e' | e'<;>rw [e,e']
 ·rfl
 ·rw [m1'];rfl
 ·rw [m1];rfl
 ·rw [mm];rfl
theorem neg_sq {v:Nat} (hl:v<pN):(pN-v)*(pN-v) % pN=v*v % pN:=by
 obtain ⟨u,hu⟩:∃ u,pN=u+v:=⟨pN-v,dl⟩
 rw [show pN-v=u by omega]
 have e:u*u+v*pN=v*v+u*pN:=by rw [hu,kf,kf,gw v u];omega
 have h1:(u*u+v*pN) % pN=u*u % pN:=Nat.add_mul_mod_self_right _ _ _
 have h2:(v*v+u*pN) % pN=v*v % pN:=Nat.add_mul_mod_self_right _ _ _
 rw [← h1,e,h2]
theorem APt (w:Nat):Af (HI w) (HI w)=Af w w:=by
 unfold HI;split
 ·unfold Af Ct;rw [← ie];by_cases h:w % pN=0
  ·rw [h,lz,ie pN,Nat.mod_self,ie w,h]
  ·have e:(pN-w % pN)*(pN-w % pN) % pN=(w % pN)*(w % pN) % pN:=by
    have hl:=HF w;generalize w % pN=v at *
    exact neg_sq hl
   rw [e,← ie]
 ·rfl
theorem APu {w:Nat} (h:w<pN):HI w % 2=0∧HI w<pN:=by
 have ho:=Wb;unfold HI;split
 ·rename_i hs;have h1:w % 2=1:=by unfold EI at hs;rw [ge h] at hs;omega
  have hz:w % pN≠0:=by rw [ge h];omega
  rw [AO5 hz,ge h];omega
 ·rename_i hs;have h1:w % 2≠1:=fun e=>by apply hs;unfold EI;rw [ge h];omega
  omega
theorem AC2 (a e:Nat):Cu a e<pN:=by rw [KO];exact gu _ Cs
theorem o9 {a:Nat} (h:CL a=true):Af (DQ a) (DQ a)=a % pN∧DQ a % 2=0∧DQ a<pN:=by
 have e:DQ a=HI (Cu a QN):=by unfold DQ;rw [fw h]
 obtain ⟨q1,q2⟩:=APu (AC2 a QN)
 rw [e,APt];refine ⟨?_,q1,q2⟩
 unfold CL at h;exact gv h
abbrev ew:List Bool:=[false,true,true]
abbrev e_:List Bool:=[false,false,true]
abbrev fb:List Bool:=[false,false,false]
abbrev fi:List Bool:=[false,true,false]
open Ex
set_option maxRecDepth 100000
set_option maxHeartbeats 4000000
def lenL:List UInt8:=[0,1]++(List.replicate 2 2++(List.replicate 4 3++(List.replicate 8 4++(List.replicate 16 5++(List.replicate 32 6++(List.replicate 64 7++List.replicate 128 8))))))
def lenT:ByteArray:=⟨⟨lenL⟩⟩
def BQ (x:Int) (k:Nat):Int:=Int.fdiv x (2^k)
theorem APv (x:Int):AK dn (AG S5 K0) Tryz.f285 [.val false [.v (.int .u64 x)]] [true,true,true] 100 =
 some ([(decide (4294967296≤x),true),(decide (0≤(32:Int)∧0≤x),true),(decide (65536≤(BQ x 32)),true),(decide (0≤(16:Int)∧0≤(BQ x 32)),true),(decide (256≤(BQ (BQ x 32) 16)),true),(decide (0≤(8:Int)∧0≤(BQ (BQ x 32) 16)),true),(decide (0≤AU false .u8 (BQ (BQ (BQ x 32) 16) 8)∧AU false .u8 (BQ (BQ (BQ x 32) 16) 8)<(lenT.size:Int)),true)],DA (AU false .i64 (AU true .i64 (AU true .i64 (32+16)+8)+AU false .i64 (FU lenT (AU false .u8 (BQ (BQ (BQ x 32) 16) 8)))))):=dk
theorem APw (x:Int):AK dn (AG S5 K0) Tryz.f285 [.val false [.v (.int .u64 x)]] [true,true,false] 100 =
 some ([(decide (4294967296≤x),true),(decide (0≤(32:Int)∧0≤x),true),(decide (65536≤(BQ x 32)),true),(decide (0≤(16:Int)∧0≤(BQ x 32)),true),(decide (256≤(BQ (BQ x 32) 16)),false),(decide (0≤AU false .u8 (BQ (BQ x 32) 16)∧AU false .u8 (BQ (BQ x 32) 16)<(lenT.size:Int)),true)],DA (AU false .i64 (AU true .i64 (32+16)+AU false .i64 (FU lenT (AU false .u8 (BQ (BQ x 32) 16)))))):=dk
theorem APx (x:Int):AK dn (AG S5 K0) Tryz.f285 [.val false [.v (.int .u64 x)]] ep 100 =
 some ([(decide (4294967296≤x),true),(decide (0≤(32:Int)∧0≤x),true),(decide (65536≤(BQ x 32)),false),(decide (256≤(BQ x 32)),true),(decide (0≤(8:Int)∧0≤(BQ x 32)),true),(decide (0≤AU false .u8 (BQ (BQ x 32) 8)∧AU false .u8 (BQ (BQ x 32) 8)<(lenT.size:Int)),true)],DA (AU false .i64 (AU true .i64 (32+8)+AU false .i64 (FU lenT (AU false .u8 (BQ (BQ x 32) 8)))))):=dk
theorem APy (x:Int):AK dn (AG S5 K0) Tryz.f285 [.val false [.v (.int .u64 x)]] eq 100 =
 some ([(decide (4294967296≤x),true),(decide (0≤(32:Int)∧0≤x),true),(decide (65536≤(BQ x 32)),false),(decide (256≤(BQ x 32)),false),(decide (0≤AU false .u8 (BQ x 32)∧AU false .u8 (BQ x 32)<(lenT.size:Int)),true)],DA (AU false .i64 (32+AU false .i64 (FU lenT (AU false .u8 (BQ x 32)))))):=dk
theorem APz (x:Int):AK dn (AG S5 K0) Tryz.f285 [.val false [.v (.int .u64 x)]] ew 100 =
 some ([(decide (4294967296≤x),false),(decide (65536≤x),true),(decide (0≤(16:Int)∧0≤x),true),(decide (256≤(BQ x 16)),true),(decide (0≤(8:Int)∧0≤(BQ x 16)),true),(decide (0≤AU false .u8 (BQ (BQ x 16) 8)∧AU false .u8 (BQ (BQ x 16) 8)<(lenT.size:Int)),true)],DA (AU false .i64 (AU true .i64 (AU true .i64 (0+16)+8)+AU false .i64 (FU lenT (AU false .u8 (BQ (BQ x 16) 8)))))):=dk
theorem AP0 (x:Int):AK dn (AG S5 K0) Tryz.f285 [.val false [.v (.int .u64 x)]] fi 100 =
 some ([(decide (4294967296≤x),false),(decide (65536≤x),true),(decide (0≤(16:Int)∧0≤x),true),(decide (256≤(BQ x 16)),false),(decide (0≤AU false .u8 (BQ x 16)∧AU false .u8 (BQ x 16)<(lenT.size:Int)),true)],DA (AU false .i64 (AU true .i64 (0+16)+AU false .i64 (FU lenT (AU false .u8 (BQ x 16)))))):=dk
theorem AP1 (x:Int):AK dn (AG S5 K0) Tryz.f285 [.val false [.v (.int .u64 x)]] e_ 100 =
 some ([(decide (4294967296≤x),false),(decide (65536≤x),false),(decide (256≤x),true),(decide (0≤(8:Int)∧0≤x),true),(decide (0≤AU false .u8 (BQ x 8)∧AU false .u8 (BQ x 8)<(lenT.size:Int)),true)],DA (AU false .i64 (AU true .i64 (0+8)+AU false .i64 (FU lenT (AU false .u8 (BQ x 8)))))):=dk
theorem AP2 (x:Int):AK dn (AG S5 K0) Tryz.f285 [.val false [.v (.int .u64 x)]] fb 100 =
 some ([(decide (4294967296≤x),false),(decide (65536≤x),false),(decide (256≤x),false),(decide (0≤AU false .u8 x∧AU false .u8 x<(lenT.size:Int)),true)],DA (AU false .i64 (0+AU false .i64 (FU lenT (AU false .u8 x))))):=dk
def O2 (x L top:Nat):Prop:=x<2^L∧(0<x→1≤L∧2^(L-1)≤x)∧L≤top
def FA (v:Nat):Nat:=(lenL.getD v 0).toNat
def pA (x L:Nat):Bool:=Nat.blt x (2^L)&&((Nat.beq x 0||(Nat.ble 1 L&&Nat.ble (2^(L-1)) x))&&Nat.ble L 8)
def pB:Nat→Bool
 | 0=>true
 | n+1=>pA n (FA n)&&pB n
theorem AC3:∀ n,pB n=true→∀ v,v<n→pA v (FA v)=true
 | 0,_,v,h=>dl
 | n+1,h,v,hv=>by
  simp only [pB,gi] at h;rcases gt v n with h1 | h1
  ·exact AC3 n h.2 v h1
  ·have:v=n:=dl
   subst this;exact h.1
theorem AC4 {v:Nat} (h:v<256):O2 v (FA v) 8:=by
 have:=AC3 256 dk v h
 unfold pA at this;simp only [gi,oz] at this;obtain ⟨h1,h2,h3⟩:=this;refine ⟨f_ h1,fun hp=>?_,f_ h3⟩
 rcases h2 with h2 | ⟨h2,h4⟩
 ·have:=jv h2;omega
 ·exact ⟨f_ h2,f_ h4⟩
theorem pC {x L top:Nat} (k:Nat) (h:O2 (x / 2^k) L top) (hx:2^k≤x):O2 x (k+L) (k+top):=by
 obtain ⟨h1,h2,h3⟩:=h;have hp:0<2^k:=jr dm
 have hq:0<x / 2^k:=Nat.div_pos hx hp
 obtain ⟨h4,h5⟩:=h2 hq;refine ⟨?_,fun _=>⟨dl,?_⟩,dl⟩
 ·rw [gp];exact (qg hp).1 h1 |> fun q=>by rwa [gw] at q
 ·rw [show k+L-1=k+(L-1) by omega,gp]
  have:=(Nat.le_div_iff_mul_le hp).1 h5
  rwa [gw] at this
theorem pD {x L top top':Nat} (h:O2 x L top) (hle:top≤top'):O2 x L top':=⟨h.1,h.2.1,ji h.2.2 hle⟩
def O3 (x:Nat):Nat:=if 256≤x then 8+FA (x / 2^8) else FA x
def Tb (x:Nat):Nat:=if 65536≤x then 16+O3 (x / 2^16) else O3 x
def FB (x:Nat):Nat:=if 4294967296≤x then 32+Tb (x / 2^32) else Tb x
theorem AC5 {x:Nat} (h:x<65536):O2 x (O3 x) 16:=by
 unfold O3;split
 ·exact pC 8 (AC4 dl) dl
 ·exact pD (AC4 dl) dm
theorem AC6 {x:Nat} (h:x<4294967296):O2 x (Tb x) 32:=by
 unfold Tb;split
 ·exact pC 16 (AC5 dl) dl
 ·exact pD (AC5 dl) dm
theorem AC7 {x:Nat} (h:x<18446744073709551616):O2 x (FB x) 64:=by
 unfold FB;split
 ·exact pC 32 (AC6 dl) dl
 ·exact pD (AC6 dl) dm
theorem M7 (x k:Nat):BQ (x:Int) k=((x / 2^k:Nat):Int):=by
 unfold BQ;rw [nb _ (by exact_mod_cast nq (2^k))]
 rw [oe,ml];rfl
theorem Wg (c:Bool) {z:Int} (h:-9223372036854775808≤z∧z≤9223372036854775807):AU c .i64 z=z:=by
 rw [C7];exact Ao h
theorem AC8 {v:Nat} (h:v<256):AU false .u8 (v:Int)=v:=by
 rw [C7,IntKind.wrap_u8];omega
theorem AP3 {v:Nat}:FU lenT (v:Int)=((FA v:Nat):Int):=by
 unfold FU FA lenT;rw [gj]
theorem AP4:lenT.size=256:=dk
theorem AP5 (v:Nat):FA v≤255:=by
 have:=(lenL.getD v 0).toNat_lt
 unfold FA;omega
theorem AP6 (x:Nat) (hx:x<18446744073709551616):AS dn 285 [.val false [.v (.int .u64 (x:Int))]] (DA (FB x)):=by
 have pk:=fun (c:dr) (v:AV) (p:List Bool) (h:AK dn (AG S5 K0) Tryz.f285 [.val false [.v (.int .u64 (x:Int))]] p 100=some (c,v)) (hc:AM c) (hk:OW v=true)=>AN (AH Zk Ab) AB Tryz.func285 h hc hk
 have fin:∀ (n v m:Nat),v<256→n≤56→n+FA v=m→DA (AU false .i64 ((n:Int)+AU false .i64 (FU lenT (AU false .u8 (v:Int)))))=DA (m:Int):=by
  intro n v m hv hn he;have:=AP5 v
  rw [AC8 hv,AP3,Wg (z:=((FA v:Nat):Int)) _ dl,Wg _ dl];congr 1;omega
 have w0:∀ (z:Int),AU true .i64 z=wI z:=fun z=>C7 ..
 have cnd:∀ v:Nat,v<256→decide (0≤AU false .u8 (v:Int)∧AU false .u8 (v:Int)<(lenT.size:Int))=true:=by
  intro v hv;rw [AC8 hv,AP4];simp;omega
 unfold FB;by_cases h1:4294967296≤x
 ·rw [fw h1];unfold Tb;have s1:=M7 x 32;generalize hy:x / 2^32=y at *
  have hyb:y<4294967296:=dl
  by_cases h2:65536≤y
  ·rw [fw h2];unfold O3;have s2:=M7 y 16;generalize hz:y / 2^16=z at *
   have hzb:z<65536:=dl
   by_cases h3:256≤z
   ·rw [fw h3];have s3:=M7 z 8;have hb:z / 2^8<256:=dl
    have r:=APv (x:Int)
    rw [s1,s2,s3] at r;have h:=pk _ _ _ r ⟨by simp;omega,by simp,by simp;omega,by simp,by simp;omega,by simp,cnd _ hb,trivial⟩ rfl
    have e:AU true .i64 (AU true .i64 (32+16)+8)=((56:Nat):Int):=dk
    rw [e,fin 56 _ (32+(16+(8+FA (z / 2^8)))) hb dm dl] at h;exact h
   ·rw [fv h3];have hb:z<256:=dl
    have r:=APw (x:Int)
    rw [s1,s2] at r;have h:=pk _ _ _ r ⟨by simp;omega,by simp,by simp;omega,by simp,by simp;omega,cnd _ hb,trivial⟩ rfl
    have e:AU true .i64 (32+16)=((48:Nat):Int):=dk
    rw [e,fin 48 _ (32+(16+FA z)) hb dm dl] at h;exact h
  ·rw [fv h2];unfold O3;by_cases h3:256≤y
   ·rw [fw h3];have s3:=M7 y 8;have hb:y / 2^8<256:=dl
    have r:=APx (x:Int)
    rw [s1,s3] at r;have h:=pk _ _ _ r ⟨by simp;omega,by simp,by simp;omega,by simp;omega,by simp,cnd _ hb,trivial⟩ rfl
    have e:AU true .i64 (32+8)=((40:Nat):Int):=dk
    rw [e,fin 40 _ (32+(8+FA (y / 2^8))) hb dm dl] at h;exact h
   ·rw [fv h3];have hb:y<256:=dl
    have r:=APy (x:Int)
    rw [s1] at r;have h:=pk _ _ _ r ⟨by simp;omega,by simp,by simp;omega,by simp;omega,cnd _ hb,trivial⟩ rfl
    rw [show (32:Int)=((32:Nat):Int) from rfl,fin 32 _ (32+FA y) hb dm dl] at h
    exact h
 ·rw [fv h1];unfold Tb;by_cases h2:65536≤x
  ·rw [fw h2];unfold O3;have s2:=M7 x 16;generalize hz:x / 2^16=z at *
   have hzb:z<65536:=dl
   by_cases h3:256≤z
   ·rw [fw h3];have s3:=M7 z 8;have hb:z / 2^8<256:=dl
    have r:=APz (x:Int)
    rw [s2,s3] at r;have h:=pk _ _ _ r ⟨by simp;omega,by simp;omega,by simp,by simp;omega,by simp,cnd _ hb,trivial⟩ rfl
    have e:AU true .i64 (AU true .i64 (0+16)+8)=((24:Nat):Int):=dk
    rw [e,fin 24 _ (16+(8+FA (z / 2^8))) hb dm dl] at h;exact h
   ·rw [fv h3];have hb:z<256:=dl
    have r:=AP0 (x:Int)
    rw [s2] at r;have h:=pk _ _ _ r ⟨by simp;omega,by simp;omega,by simp,by simp;omega,cnd _ hb,trivial⟩ rfl
    have e:AU true .i64 (0+16)=((16:Nat):Int):=dk
    rw [e,fin 16 _ (16+FA z) hb dm dl] at h;exact h
  ·rw [fv h2];unfold O3;by_cases h3:256≤x
   ·rw [fw h3];have s3:=M7 x 8;have hb:x / 2^8<256:=dl
    have r:=AP1 (x:Int)
    rw [s3] at r;have h:=pk _ _ _ r ⟨by simp;omega,by simp;omega,by simp;omega,by simp,cnd _ hb,trivial⟩ rfl
    have e:AU true .i64 (0+8)=((8:Nat):Int):=dk
    rw [e,fin 8 _ (8+FA (x / 2^8)) hb dm dl] at h;exact h
   ·rw [fv h3];have hb:x<256:=dl
    have r:=AP2 (x:Int)
    have h:=pk _ _ _ r ⟨by simp;omega,by simp;omega,by simp;omega,cnd _ hb,trivial⟩ rfl
    rw [show (0:Int)=((0:Nat):Int) from rfl,fin 0 _ (FA x) hb dm dl] at h
    exact h
open Ex
def Zw:List IntKind→List AV→Option (dp)
 | [],[]=>some []
 | k::ks,A::r=>match Bg (some A),Zw ks r with
  | some (_,k',i),some l=>match decide (k'=k) with
   | true=>some (i::l)
   | false=>none
  | _,_=>none
 | _,_=>none
def pE:List IntKind→dp→List AV
 | k::ks,i::is=>.val false [.v (.int k i)]::pE ks is
 | _,_=>[]
def pF:List IntKind→dp→Prop
 | k::ks,i::is=>has k i∧pF ks is
 | _,_=>True
theorem AC9:∀ {ks:List IntKind} {args:List AV} {is:dp} {us:List Value},Zw ks args=some is→A_ By args us→A_ By (pE ks is) us∧pF ks is
 | [],[],is,us,h,hr=>by
  injection h with h;subst h;exact ⟨hr,trivial⟩
 | [],_::_,_,_,h,_=>by cases h
 | _::_,[],_,_,h,_=>by cases h
 | k::ks,A::r,is,us,h,hr=>by
  unfold Zw at h;split at h
  ·rename_i c k' i l hi hl;split at h
   ·rename_i hk;injection h with h;subst h;have hk':k'=k:=by simpa using hk
    subst hk';obtain ⟨u,us',r1,r2,rfl⟩:=hr;obtain ⟨q1,q2⟩:=TR hi r1;obtain ⟨p1,p2⟩:=AC9 hl r2;exact ⟨⟨u,us',q1,p1,rfl⟩,q2,p2⟩
   ·cases h
  ·cases h
def Tc (ks:List IntKind) (g:dp→Option (dr×AV)):List AV→Option (dr×AV):=fun args=>match Zw ks args with
 | some is=>g is
 | none=>none
theorem Zx {f:FuncId} {ks:List IntKind} {g:dp→Option (dr×AV)} (h:∀ is c v,g is=some (c,v)→pF ks is→AM c→AS dn f (pE ks is) v) :
  ∀ args c v,Tc ks g args=some (c,v)→AM c→AS dn f args v:=by
 intro args c v hs hc us w ha;unfold Tc at hs;split at hs
 ·rename_i is his;obtain ⟨q1,q2⟩:=AC9 his ha;exact h is c v hs q2 hc us w q1
 ·cases hs
def Zy (g:Int→dr×AV):dp→Option (dr×AV)
 | [x]=>some (g x)
 | _=>none
noncomputable def S20:dt:=(285,Ez (Tc [.u64] (Zy fun x=>([],DA (FB x.toNat)))))::S19
theorem AC_:AT dn S20:=⟨Ft Tryz.func285 dk dk (Zx fun is c v h hh _=>by
 unfold Zy at h;split at h
 ·injection h with h;injection h with h1 h2;subst h1;subst h2;rename_i x;have hb:=D3 hh.1;obtain ⟨X,rfl⟩:=ic hb.1;rw [gj];exact AP6 X dl
 ·cases h),AO2⟩
theorem AP7 (x:Int):AK dn (AG S20 K0) Tryz.f258 [.val false [.v (.int .u64 x)]] [] 100=some ([],DA (wI (64-(FB x.toNat:Int)))):=dk
theorem AP8 (x:Nat) (hx:x<18446744073709551616):AS dn 258 [.val false [.v (.int .u64 (x:Int))]] (DA (64-FB x:Nat)):=by
 have h:=AN (AH AC_ Ab) AB Tryz.func258 (AP7 x) trivial rfl
 have:=(AC7 hx).2.2
 rw [gj,Ao dl,show (64:Int)-(FB x:Int)=((64-FB x:Nat):Int) by omega] at h
 exact h
noncomputable def S21:dt:=(258,Ez (Tc [.u64] (Zy fun x=>([],DA (64-FB x.toNat:Nat)))))::S20
theorem HK:AT dn S21:=⟨Ft Tryz.func258 dk dk (Zx fun is c v h hh _=>by
 unfold Zy at h;split at h
 ·injection h with h;injection h with h1 h2;subst h1;subst h2;rename_i x;have hb:=D3 hh.1;obtain ⟨X,rfl⟩:=ic hb.1;rw [gj];exact AP8 X dl
 ·cases h),AC_⟩
abbrev d_:List Bool:=[false,false]
open Ex
set_option maxRecDepth 100000
set_option maxHeartbeats 4000000
def dA (h l y:Int):List AV:=[.val false [.v (.int .u64 h)],.val false [.v (.int .u64 l)],.val false [.v (.int .u64 y)]]
noncomputable def AP9:List Item:=Bv (AW dn (AG S21 K0) (some 0) 300 0 none (Ah Tryz.f204 (dA 0 0 0) [] 0 fb))
def uV (x:Int):AV:=.val false [.v (.int .u64 x)]
noncomputable def dT1 (Y s y1 y0 u u1 u0 q r:Int):List AV:=.any::.any::uV Y::.any::.any::.any::.any::.any::uV s::uV y1::uV y0::uV u::.any::uV u1::uV u0::uV q::uV r::List.replicate (Tryz.f204.ntmps-17) .any
noncomputable def Lm (Y s y1 y0 u u1 u0 q r:Int) (p:List Bool):ASt:=⟨AP9,⟨dT1 Y s y1 y0 u u1 u0 q r,[],0,p⟩⟩
noncomputable def AP':List Item:=Bv (AW dn (AG S21 K0) (some 0) 300 0 none (Lm 0 0 0 0 0 0 0 0 0 d_))
noncomputable def dT2 (Y s y1 y0 u0 q r v z:Int):List AV:=.any::.any::uV Y::.any::.any::.any::.any::.any::uV s::uV y1::uV y0::.any::.any::.any::uV u0::uV q::uV r::uV v::uV z::List.replicate (Tryz.f204.ntmps-19) .any
noncomputable def JH (Y s y1 y0 u0 q r v z:Int) (p:List Bool):ASt:=⟨AP',⟨dT2 Y s y1 y0 u0 q r v z,[],0,p⟩⟩
def Wh (x s:Int):Int:=mW (x*2^min s.toNat 64)
def KS (x s:Int):Int:=Int.fdiv x (2^min s.toNat 64)
def O4 (y:Int):Int:=mW ((64-FB y.toNat:Nat):Int)
def Lo (y:Int):Int:=Wh y (O4 y)
def Td (h l y:Int):Int:=bits .or .u64 (Wh h (O4 y)) (KS l (mW (64-O4 y)))
def Wi (l y:Int):Int:=Wh l (O4 y)
abbrev K1:Option (List Nat×List Nat×Nat):=some ([2,8,9,10,11,13,14,15,16],[],0)
abbrev K2:Option (List Nat×List Nat×Nat):=some ([2,8,9,10,14,15,16,17,18],[],0)
theorem AQB (h l y:Int):AW dn (AG S21 K0) (some 0) 300 0 K1 (Ah Tryz.f204 (dA h l y) [] 0 fb) =
 some ([(decide (y=0),false),(decide (y≤h),false),(decide (h=0),false),(true,true),(decide (0≤(32:Int)∧0≤Lo y),true),(true,true),(decide (0≤mW (64-O4 y)∧0≤l),true),(true,true),
  (decide (0≤(32:Int)∧0≤Wi l y),true),(decide (KS (Lo y) 32≠0),true)],[],
  Lm (Lo y) (O4 y) (KS (Lo y) 32) (bits .and .u64 (Lo y) 4294967295) (Td h l y) (KS (Wi l y) 32) (bits .and .u64 (Wi l y) 4294967295) (mW (Int.tdiv (Td h l y) (KS (Lo y) 32)))
   (mW (Td h l y-mW (mW (Int.tdiv (Td h l y) (KS (Lo y) 32))*KS (Lo y) 32))) []):=dk
theorem AQC (h l y:Int):EX dn (AG S21 K0) Tryz.f204 300 0 (Ah Tryz.f204 (dA h l y) [] 0 e_) =
 some ([(decide (y=0),false),(decide (y≤h),false),(decide (h=0),true),(decide (y≠0),true),(decide (0≤l∧0<y),true)],[],.tup [(false,[.v (.int .u64 (mW (Int.tdiv l y)))]),(false,[.v (.int .u64 (Int.tmod l y))])]):=dk
def Ls (q r y0 u1:Int):Bool:=decide (mW (mW (4294967296*r)+u1)<mW (q*y0))
section
variable (Y s y1 y0 u u1 u0 q r v z:Int)
theorem AQD:AW dn (AG S21 K0) (some 0) 300 0 K1 (Lm Y s y1 y0 u u1 u0 q r ee) =
 some ([(decide (4294967296≤q),true),(decide (4294967296≤mW (r+y1)),false)],[],Lm Y s y1 y0 u u1 u0 (mW (q-1)) (mW (r+y1)) []):=dk
theorem AQE:AW dn (AG S21 K0) (some 0) 300 0 K1 (Lm Y s y1 y0 u u1 u0 q r fi) =
 some ([(decide (4294967296≤q),false),(Ls q r y0 u1,true),(decide (4294967296≤mW (r+y1)),false)],[],Lm Y s y1 y0 u u1 u0 (mW (q-1)) (mW (r+y1)) []):=dk
def FC (Y u u1 q:Int):Int:=mW (mW (mW (u*4294967296)+u1)-mW (q*Y))
theorem AQF:AW dn (AG S21 K0) (some 0) 300 0 K2 (Lm Y s y1 y0 u u1 u0 q r dx) =
 some ([(decide (4294967296≤q),true),(decide (4294967296≤mW (r+y1)),true),(decide (y1≠0),true)],[],
  JH Y s y1 y0 u0 (mW (q-1)) (mW (FC Y u u1 (mW (q-1))-mW (mW (Int.tdiv (FC Y u u1 (mW (q-1))) y1)*y1))) (FC Y u u1 (mW (q-1))) (mW (Int.tdiv (FC Y u u1 (mW (q-1))) y1)) []):=dk
theorem AQG:AW dn (AG S21 K0) (some 0) 300 0 K2 (Lm Y s y1 y0 u u1 u0 q r ew) =
 some ([(decide (4294967296≤q),false),(Ls q r y0 u1,true),(decide (4294967296≤mW (r+y1)),true),(decide (y1≠0),true)],[],
  JH Y s y1 y0 u0 (mW (q-1)) (mW (FC Y u u1 (mW (q-1))-mW (mW (Int.tdiv (FC Y u u1 (mW (q-1))) y1)*y1))) (FC Y u u1 (mW (q-1))) (mW (Int.tdiv (FC Y u u1 (mW (q-1))) y1)) []):=dk
theorem AC':AW dn (AG S21 K0) (some 0) 300 0 K2 (Lm Y s y1 y0 u u1 u0 q r d_) =
 some ([(decide (4294967296≤q),false),(Ls q r y0 u1,false),(decide (y1≠0),true)],[],
  JH Y s y1 y0 u0 q (mW (FC Y u u1 q-mW (mW (Int.tdiv (FC Y u u1 q) y1)*y1))) (FC Y u u1 q) (mW (Int.tdiv (FC Y u u1 q) y1)) []):=dk
theorem AQH:AW dn (AG S21 K0) (some 0) 300 0 K2 (JH Y s y1 y0 u0 q r v z ee) =
 some ([(decide (4294967296≤z),true),(decide (4294967296≤mW (r+y1)),false)],[],JH Y s y1 y0 u0 q (mW (r+y1)) v (mW (z-1)) []):=dk
theorem AQI:AW dn (AG S21 K0) (some 0) 300 0 K2 (JH Y s y1 y0 u0 q r v z fi) =
 some ([(decide (4294967296≤z),false),(Ls z r y0 u0,true),(decide (4294967296≤mW (r+y1)),false)],[],JH Y s y1 y0 u0 q (mW (r+y1)) v (mW (z-1)) []):=dk
def Wj (Y s u0 q v z:Int):AV:=.tup [(false,[.v (.int .u64 (mW (mW (q*4294967296)+z)))]),(false,[.v (.int .u64 (KS (FC Y v u0 z) s))])]
theorem AQJ:EX dn (AG S21 K0) Tryz.f204 300 0 (JH Y s y1 y0 u0 q r v z dx) =
 some ([(decide (4294967296≤z),true),(decide (4294967296≤mW (r+y1)),true),(decide (0≤s∧0≤FC Y v u0 (mW (z-1))),true)],[],Wj Y s u0 q v (mW (z-1))):=dk
theorem AQK:EX dn (AG S21 K0) Tryz.f204 300 0 (JH Y s y1 y0 u0 q r v z ew) =
 some ([(decide (4294967296≤z),false),(Ls z r y0 u0,true),(decide (4294967296≤mW (r+y1)),true),(decide (0≤s∧0≤FC Y v u0 (mW (z-1))),true)],[],Wj Y s u0 q v (mW (z-1))):=dk
theorem ADA:EX dn (AG S21 K0) Tryz.f204 300 0 (JH Y s y1 y0 u0 q r v z d_) =
 some ([(decide (4294967296≤z),false),(Ls z r y0 u0,false),(decide (0≤s∧0≤FC Y v u0 z),true)],[],Wj Y s u0 q v z):=dk
end
open Ex
theorem Zz {u u1 Y q:Nat} (hu:u<Y) (hu1:u1<4294967296) (hq:4294967296≤q):(u*4294967296+u1) / Y<q:=by
 refine ik (jb ?_) hq
 rw [gw Y];omega
theorem ADB {u u1 y1 y0 Y q r:Nat} (hY:Y=y1*4294967296+y0) (hu:u=q*y1+r) (h:4294967296*r+u1<q*y0):(u*4294967296+u1) / Y<q:=by
 refine jb ?_
 have e1:(q*y1+r)*4294967296=q*y1*4294967296+r*4294967296:=iz ..
 have e2:(y1*4294967296+y0)*q=q*y1*4294967296+q*y0:=by rw [iz,gw y0 q,oi,gw y1 q]
 rw [hY,hu,e1,e2];omega
theorem Z0 {u u1 y1 y0 Y q r:Nat} (hY:Y=y1*4294967296+y0) (hpos:0<Y) (hu:u=q*y1+r) (h:q*y0≤4294967296*r+u1) (hle:(u*4294967296+u1) / Y≤q):(u*4294967296+u1) / Y=q:=by
 refine Nat.le_antisymm hle ((Nat.le_div_iff_mul_le hpos).2 ?_)
 rw [hY,hu,kf,← iw];omega
theorem ADC {q y0 r u1:Nat} (hq:q≤4294967297) (hy:y0<4294967296) (hr:4294967296≤r):q*y0≤4294967296*r+u1:=by
 have:=ll hq (show y0≤4294967295 by omega)
 omega
theorem ADD {u u1 y1 y0 Y:Nat} (hY:Y=y1*4294967296+y0) (hy1:0<y1) (hu1:u1<4294967296):(u*4294967296+u1) / Y≤u / y1:=by
 refine (Nat.le_div_iff_mul_le hy1).2 ?_
 have h:=nr (u*4294967296+u1) Y
 generalize (u*4294967296+u1) / Y=q at *
 rw [hY,kf,← iw] at h;generalize q*y1=A at *
 generalize q*y0=B at *
 omega
theorem ADE {u y1 y0 Y:Nat} (hY:Y=y1*4294967296+y0) (hy0:y0<4294967296) (hy1:2147483648≤y1) (hu:u<Y):u / y1≤4294967298:=by
 have hb:u<4294967299*y1:=dl
 have:=(qg (show 0<y1 by omega)).2 hb
 omega
theorem Te {Y u u1 q:Nat} (h:q=(u*4294967296+u1) / Y) (hpos:0<Y) (hY:Y≤18446744073709551616):FC Y u u1 q=(((u*4294967296+u1) % Y:Nat):Int):=by
 have h1:=jo (u*4294967296+u1) Y
 have h2:=gu (u*4294967296+u1) hpos
 rw [← h,gw] at h1;unfold FC;simp only [E'];have e:(q:Int)*(Y:Int)=((q*Y:Nat):Int):=by rw [iy]
 rw [e];generalize q*Y=N at *
 generalize (u*4294967296+u1) % Y=m at *
 omega
theorem Z1 {q r y0 u1:Nat} (hq:q<4294967296) (hr:r<4294967296) (hy:y0<4294967296) (hu1:u1<4294967296):Ls q r y0 u1=decide (4294967296*r+u1<q*y0):=by
 have hm:=ll (show q≤4294967295 by omega) (show y0≤4294967295 by omega)
 unfold Ls;simp only [E'];have e:(q:Int)*(y0:Int)=((q*y0:Nat):Int):=by rw [iy]
 rw [e];generalize q*y0=N at *
 have e1:(4294967296*(r:Int)) % 18446744073709551616=4294967296*(r:Int):=dl
 rw [e1];have e2:(4294967296*(r:Int)+u1) % 18446744073709551616=4294967296*(r:Int)+u1:=dl
 have e3:((N:Nat):Int) % 18446744073709551616=N:=dl
 rw [e2,e3];by_cases h:4294967296*r+u1<N
 ·rw [fu h,fu dl]
 ·rw [ga h,ga dl]
theorem ADF (v y1:Nat) (hv:v<18446744073709551616) (hy1:0<y1):mW (Int.tdiv (v:Int) y1)=((v / y1:Nat):Int)∧mW ((v:Int)-mW (mW (Int.tdiv (v:Int) y1)*y1))=((v % y1:Nat):Int):=by
 have h1:=jo v y1;have h2:=gu v hy1;have h3:=nc v y1;have e0:Int.tdiv (v:Int) y1=((v / y1:Nat):Int):=by rw [mj dl];rfl
 rw [e0,QY,ge dl];refine ⟨rfl,?_⟩
 have e1:((v / y1:Nat):Int)*(y1:Int)=((v / y1*y1:Nat):Int):=by rw [iy]
 rw [e1,QY,E',gw];generalize y1*(v / y1)=N at *
 omega
theorem ADG {q:Nat} (h:0<q) (hq:q≤18446744073709551616):mW ((q:Int)-1)=((q-1:Nat):Int):=by rw [E'];omega
theorem ADH {r y1:Nat} (hr:r<4294967296) (hy:y1<4294967296):mW ((r:Int)+y1)=((r+y1:Nat):Int):=by rw [E'];omega
def Wk (q z m s:Nat):AV:=.tup [(false,[.v (.int .u64 ((q*4294967296+z:Nat):Int))]),(false,[.v (.int .u64 ((m / 2^min s 64:Nat):Int))])]
theorem pG (x s:Nat):KS (x:Int) (s:Int)=((x / 2^min s 64:Nat):Int):=by
 unfold KS;rw [gj];exact M7 x _
section
variable {Y s y1 y0 u0:Nat} (hY:Y=y1*4294967296+y0) (hy0:y0<4294967296) (hy1:2147483648≤y1) (hy1':y1<4294967296) (hu0:u0<4294967296) (w0:World)
include hY hy0 hy1 hy1' hu0
theorem AQL {v q:Nat} (hv:v<Y) (hq:q<4294967296):∀ z r,v=z*y1+r→r<4294967296→z≤4294967298→(v*4294967296+u0) / Y≤z →
  ASafe dn 204 By w0 (HC w0 (Wk q ((v*4294967296+u0) / Y) ((v*4294967296+u0) % Y) s)) Tryz.f204.ntmps [] (JH Y s y1 y0 u0 q r v z []):=by
 have hpos:0<Y:=dl
 have hYle:Y≤18446744073709551616:=dl
 have fin:∀ z:Nat,z=(v*4294967296+u0) / Y→Wj Y s u0 q v z=Wk q ((v*4294967296+u0) / Y) ((v*4294967296+u0) % Y) s:=by
  intro z hz;have hlt:z<4294967296:=by rw [hz];exact Zz hv hu0 (gd _)
  unfold Wj Wk;rw [Te hz hpos hYle,pG,← hz];have:mW (mW ((q:Int)*4294967296)+(z:Int))=((q*4294967296+z:Nat):Int):=by rw [E',E'];omega
  rw [this]
 have pos21:∀ z:Nat,z=(v*4294967296+u0) / Y→decide (0≤(s:Int)∧0≤FC Y v u0 z)=true:=by
  intro z hz;rw [Te hz hpos hYle];simp only [gc];omega
 intro z;induction z with
 | zero =>
  intro r hz hr _ hle;have hq0:(v*4294967296+u0) / Y=0:=Nat.le_zero.1 hle
  have hdc:Ls ((0:Nat):Int) r y0 u0=false:=by rw [Z1 dm hr hy0 hu0];simp
  rw [← fin 0 hq0.symm];exact Ae d_ (Hr (AH HK Ab) AB Tryz.func204 (ADA ..) ⟨by simp,hdc,pos21 0 hq0.symm,trivial⟩ (AQ dk) (fun _ _=>rfl) rfl)
 | succ z ih =>
  intro r hz hr htop hle;have hdq:=ADG (q:=z+1) dl dl
  have hir:=ADH hr hy1';rw [Nat.add_sub_cancel] at hdq;have hz':v=z*y1+(r+y1):=by rw [hz,oq];omega
  have go:∀ (hlt:(v*4294967296+u0) / Y<z+1),(4294967296≤r+y1→(v*4294967296+u0) / Y=z):=fun hlt hb =>
   Z0 hY hpos hz' (ADC dl hy0 hb) dl
  by_cases hbig:4294967296≤z+1
  ·have hlt:=Zz hv hu0 hbig;by_cases hb:4294967296≤r+y1
   ·have hq:=go hlt hb;have h:=Hr (w0:=w0) (β0:=By) (n:=Tryz.f204.ntmps) (AH HK Ab) AB Tryz.func204 (AQJ Y s y1 y0 u0 q r v (z+1:Nat)) ⟨by simp;omega,by rw [hir];simp;omega,by rw [hdq];exact pos21 z hq.symm,trivial⟩ (AQ dk) (fun _ _=>rfl) rfl
    rw [hdq,fin z hq.symm] at h;exact Ae dx h
   ·refine Ae ee (Ag (AH HK Ab) AB (AQH Y s y1 y0 u0 q r v (z+1:Nat)) ⟨by simp;omega,by rw [hir];simp;omega,trivial⟩ (AQ dk) (fun _ _=>rfl) ft fun _=>?_)
    rw [hdq,hir];exact ih (r+y1) hz' dl dl dl
  ·have hsm:z+1<4294967296:=dl
   have hdc:=Z1 (u1:=u0) hsm hr hy0 hu0
   by_cases hc:4294967296*r+u0<(z+1)*y0
   ·have hlt:=ADB hY hz hc;by_cases hb:4294967296≤r+y1
    ·have hq:=go hlt hb;have h:=Hr (w0:=w0) (β0:=By) (n:=Tryz.f204.ntmps) (AH HK Ab) AB Tryz.func204 (AQK Y s y1 y0 u0 q r v (z+1:Nat)) ⟨by simp;omega,by rw [hdc];exact fu hc,by rw [hir];simp;omega,by rw [hdq];exact pos21 z hq.symm,trivial⟩ (AQ dk) (fun _ _=>rfl) rfl
     rw [hdq,fin z hq.symm] at h;exact Ae ew h
    ·refine Ae fi (Ag (AH HK Ab) AB (AQI Y s y1 y0 u0 q r v (z+1:Nat)) ⟨by simp;omega,by rw [hdc];exact fu hc,by rw [hir];simp;omega,trivial⟩ (AQ dk) (fun _ _=>rfl) ft fun _=>?_)
     rw [hdq,hir];exact ih (r+y1) hz' dl dl dl
   ·have hq:=Z0 hY hpos hz dl hle;rw [← fin (z+1) hq.symm];exact Ae d_ (Hr (AH HK Ab) AB Tryz.func204 (ADA ..) ⟨by simp;omega,by rw [hdc];exact ga hc,pos21 _ hq.symm,trivial⟩ (AQ dk) (fun _ _=>rfl) rfl)
theorem AQM {u u1:Nat} (hu:u<Y) (hu1:u1<4294967296) {R:Ending→World→Prop}
  (hnext:ASafe dn 204 By w0 R Tryz.f204.ntmps [] (JH Y s y1 y0 u0 ((u*4294967296+u1) / Y:Nat) ((u*4294967296+u1) % Y % y1:Nat) ((u*4294967296+u1) % Y:Nat) ((u*4294967296+u1) % Y / y1:Nat) [])) :
  ∀ q r,u=q*y1+r→r<4294967296→q≤4294967298→(u*4294967296+u1) / Y≤q→ASafe dn 204 By w0 R Tryz.f204.ntmps [] (Lm Y s y1 y0 u u1 u0 q r []):=by
 have _h:=hu0;have hpos:0<Y:=dl
 have hYle:Y≤18446744073709551616:=dl
 have hm:=gu (u*4294967296+u1) hpos
 have hne:decide ((y1:Int)≠0)=true:=by simp only [gc];omega
 obtain ⟨n1,n2⟩:=ADF ((u*4294967296+u1) % Y) y1 dl dl
 intro q;induction q with
 | zero =>
  intro r hz hr _ hle;have hq0:((0:Nat))=(u*4294967296+u1) / Y:=(Nat.le_zero.1 hle).symm
  have hdc:Ls ((0:Nat):Int) r y0 u1=false:=by rw [Z1 dm hr hy0 hu1];simp
  refine Ae d_ (Ag (AH HK Ab) AB (AC' Y s y1 y0 u u1 u0 (0:Nat) r) ⟨by simp,hdc,hne,trivial⟩ (AQ dk) (fun _ _=>rfl) ft fun _=>?_)
  rw [Te hq0 hpos hYle,n2,n1];rw [hq0];exact hnext
 | succ q ih =>
  intro r hz hr htop hle;have hdq:=ADG (q:=q+1) dl dl
  have hir:=ADH hr hy1';rw [Nat.add_sub_cancel] at hdq;have hz':u=q*y1+(r+y1):=by rw [hz,oq];omega
  have go:∀ (hlt:(u*4294967296+u1) / Y<q+1),(4294967296≤r+y1→(u*4294967296+u1) / Y=q):=fun hlt hb =>
   Z0 hY hpos hz' (ADC dl hy0 hb) dl
  by_cases hbig:4294967296≤q+1
  ·have hlt:=Zz hu hu1 hbig;by_cases hb:4294967296≤r+y1
   ·have hq:=go hlt hb;refine Ae dx (Ag (AH HK Ab) AB (AQF Y s y1 y0 u u1 u0 (q+1:Nat) r) ⟨by simp;omega,by rw [hir];simp;omega,hne,trivial⟩ (AQ dk) (fun _ _=>rfl) ft fun _=>?_)
    rw [hdq,Te hq.symm hpos hYle,n2,n1];rw [← hq];exact hnext
   ·refine Ae ee (Ag (AH HK Ab) AB (AQD Y s y1 y0 u u1 u0 (q+1:Nat) r) ⟨by simp;omega,by rw [hir];simp;omega,trivial⟩ (AQ dk) (fun _ _=>rfl) ft fun _=>?_)
    rw [hdq,hir];exact ih (r+y1) hz' dl dl dl
  ·have hsm:q+1<4294967296:=dl
   have hdc:=Z1 (u1:=u1) hsm hr hy0 hu1
   by_cases hc:4294967296*r+u1<(q+1)*y0
   ·have hlt:=ADB hY hz hc;by_cases hb:4294967296≤r+y1
    ·have hq:=go hlt hb;refine Ae ew (Ag (AH HK Ab) AB (AQG Y s y1 y0 u u1 u0 (q+1:Nat) r) ⟨by simp;omega,by rw [hdc];exact fu hc,by rw [hir];simp;omega,hne,trivial⟩ (AQ dk) (fun _ _=>rfl) ft fun _=>?_)
     rw [hdq,Te hq.symm hpos hYle,n2,n1];rw [← hq];exact hnext
    ·refine Ae fi (Ag (AH HK Ab) AB (AQE Y s y1 y0 u u1 u0 (q+1:Nat) r) ⟨by simp;omega,by rw [hdc];exact fu hc,by rw [hir];simp;omega,trivial⟩ (AQ dk) (fun _ _=>rfl) ft fun _=>?_)
     rw [hdq,hir];exact ih (r+y1) hz' dl dl dl
   ·have hq:=Z0 hY hpos hz dl hle;refine Ae d_ (Ag (AH HK Ab) AB (AC' Y s y1 y0 u u1 u0 (q+1:Nat) r) ⟨by simp;omega,by rw [hdc];exact ga hc,hne,trivial⟩ (AQ dk) (fun _ _=>rfl) ft fun _=>?_)
    rw [Te hq.symm hpos hYle,n2,n1];rw [← hq];exact hnext
end
def CY:Nat:=18446744073709551616
theorem pI {x s:Nat} (hs:s≤64):Wh (x:Int) (s:Int)=((x*2^s % CY:Nat):Int):=by
 unfold Wh;rw [gj,jn hs];have:(x:Int)*2^s=((x*2^s:Nat):Int):=by rw [iy,ml];rfl
 rw [this,QY];rfl
theorem pJ {h s B:Nat} (hA:h*2^s<CY) (hB:B<2^s) (hs:s≤64):bits .or .u64 ((h*2^s:Nat):Int) (B:Int)=((h*2^s+B:Nat):Int):=by
 have hle:2^s≤2^64:=lu dm hs
 have:=(bits_nat .u64 64 dm (fun n h0 h1=>by rw [IntKind.wrap_u64];omega) (h*2^s) B hA dl).2
 rw [this,← Nat.shiftLeft_eq,Nat.shiftLeft_add_eq_or_of_lt hB]
theorem AQN {y:Nat} (h0:0<y) (h1:y<CY):∃ s,s≤63∧64-FB y=s∧9223372036854775808≤y*2^s∧y*2^s<CY:=by
 obtain ⟨b1,b2,b3⟩:=AC7 h1;obtain ⟨b4,b5⟩:=b2 h0;refine ⟨64-FB y,dl,rfl,?_,?_⟩
 ·have:=jp (2^(64-FB y)) b5
  rw [← gp,show FB y-1+(64-FB y)=63 by omega] at this
  exact this
 ·have:=Nat.mul_lt_mul_of_pos_right b1 (show 0<2^(64-FB y) from jr dm)
  rw [← gp,show FB y+(64-FB y)=64 by omega] at this
  exact this
theorem AQO {Y u u1 u0 b:Nat} (hpos:0<Y):(u*(b*b)+(u1*b+u0)) / Y=(u*b+u1) / Y*b+((u*b+u1) % Y*b+u0) / Y∧(u*(b*b)+(u1*b+u0)) % Y=((u*b+u1) % Y*b+u0) % Y:=by
 have e:u*(b*b)+(u1*b+u0)=(u*b+u1) % Y*b+u0+Y*((u*b+u1) / Y*b):=by
  have h1:=jo (u*b+u1) Y
  have:u*(b*b)+u1*b=(u*b+u1)*b:=by rw [iz,iw]
  rw [← jx,this]
  conv=>lhs;rw [← h1,iz]
  rw [iw];omega
 rw [e,qw _ _ hpos,qz];exact ⟨dl,rfl⟩
theorem AQP {l s:Nat} (hl:l<CY) (hs:s≤63):l*2^s=l / 2^(64-s)*CY+l*2^s % CY∧l / 2^(64-s)<2^s:=by
 have e:CY=2^(64-s)*2^s:=by rw [← gp,show 64-s+s=64 by omega];rfl
 have hp:0<2^s:=jr dm
 constructor
 ·have h1:=jo (l*2^s) CY
  have h2:l*2^s / CY=l / 2^(64-s):=by rw [e,Nat.mul_div_mul_right _ _ hp]
  rw [h2,gw CY] at h1;exact h1.symm
 ·refine jb ?_
  rw [← e];exact hl
def Z2 (h l y:Nat):AV:=.tup [(false,[.v (.int .u64 (((h*CY+l) / y:Nat):Int))]),(false,[.v (.int .u64 (((h*CY+l) % y:Nat):Int))])]
theorem AQQ {h l y:Nat} (hh:h<y) (hl:l<CY) (hy:y<CY):AS dn 204 (dA h l y) (Z2 h l y):=by
 refine Mu (path:=[]) Tryz.func204 dk dk fun w0=>?_
 have hy0:0<y:=dl
 by_cases hz:h=0
 ·subst hz;have h1:=Hr (w0:=w0) (β0:=By) (n:=Tryz.f204.ntmps) (AH HK Ab) AB Tryz.func204 (AQC ((0:Nat):Int) l y) ⟨by simp;omega,by simp;omega,by simp,by simp;omega,by simp;omega,trivial⟩ (AQ dk) (fun _ _=>rfl) rfl
  have e1:mW (Int.tdiv (l:Int) y)=(((0*CY+l) / y:Nat):Int):=by
   rw [mj dl,mw,gz,← oe,QY,ge (mg (nc l y) (show l<18446744073709551616 from hl))]
  have e2:Int.tmod (l:Int) y=(((0*CY+l) % y:Nat):Int):=by
   rw [ku dl,mw,gz];rfl
  rw [e1,e2] at h1;exact Ae e_ h1
 ·obtain ⟨s,hs,hls,hY1,hY2⟩:=AQN hy0 hy;have hp:0<2^s:=jr dm
  obtain ⟨lo1,lo2⟩:=AQP hl hs;have es:O4 (y:Int)=(s:Int):=by
   unfold O4;rw [gj,hls,QY,ge dl]
  have eY:Lo (y:Int)=((y*2^s:Nat):Int):=by
   unfold Lo;rw [es,pI dl,ge hY2]
  have hA:h*2^s+2^s≤y*2^s:=by
   have:=jp (2^s) (show h+1≤y from hh)
   rwa [iz,mb] at this
  have eu:Td (h:Int) (l:Int) (y:Int)=((h*2^s+l / 2^(64-s):Nat):Int):=by
   unfold Td;have e64:mW (64-(s:Int))=((64-s:Nat):Int):=by rw [E'];omega
   rw [es,e64,pI dl,ge dl,pG,jn (show 64-s≤64 by omega)]
   exact pJ dl lo2 dl
  have el:Wi (l:Int) (y:Int)=((l*2^s % CY:Nat):Int):=by
   unfold Wi;rw [es,pI dl]
  generalize hYd:y*2^s=Y at *
  generalize hud:h*2^s+l / 2^(64-s)=u at *
  generalize hld:l*2^s % CY=ul at *
  have hul:ul<CY:=by rw [← hld];exact gu _ dm
  have hu:u<Y:=dl
  unfold CY at hul hY2;have ent:=AQB (h:Int) (l:Int) (y:Int)
  have e32:∀ x:Nat,KS (x:Int) 32=((x / 4294967296:Nat):Int):=fun x=>pG x 32
  have eand:∀ x:Nat,x<18446744073709551616→bits .and .u64 (x:Int) 4294967295=((x % 4294967296:Nat):Int):=fun x hx=>by
   have:=WL (x:=(x:Int)) dl dl
   unfold QT at this;rw [this];omega
  have e64:mW (64-(s:Int))=((64-s:Nat):Int):=by rw [E'];omega
  rw [eY,eu,el,es,e32,e32,eand Y hY2,eand ul hul,e64] at ent;obtain ⟨n1,n2⟩:=ADF u (Y / 4294967296) dl dl
  rw [n2,n1] at ent;have hYs:Y=Y / 4294967296*4294967296+Y % 4294967296:=dl
  refine Ae fb (Ag (AH HK Ab) AB ent ?_ (AQ dk) (fun _ _=>rfl) ft fun _=>?_)
  ·refine ⟨by simp;omega,by simp;omega,by simp;omega,rfl,by simp,rfl,by simp,rfl,by simp,?_,trivial⟩
   simp only [gc];omega
  ·have hr1:=gu u (show 0<Y / 4294967296 by omega)
   have hdm:=jo u (Y / 4294967296)
   rw [gw] at hdm;refine AQM hYs (gu _ dm) dl dl (gu ul dm) w0 hu dl ?_ (u / (Y / 4294967296)) (u % (Y / 4294967296)) hdm.symm dl (ADE hYs (gu _ dm) dl hu) (ADD hYs dl dl)
   have hYpos:0<Y:=dl
   generalize hu1:ul / 4294967296=u1 at *
   generalize hu0:ul % 4294967296=u0 at *
   have hv:=gu (u*4294967296+u1) hYpos
   have hq1:(u*4294967296+u1) / Y<4294967296:=Zz hu dl (gd _)
   obtain ⟨g1,g2⟩:=AQO (u:=u) (u1:=u1) (u0:=u0) (b:=4294967296) hYpos
   have hN:u*(4294967296*4294967296)+(u1*4294967296+u0)=(h*CY+l)*2^s:=by
    rw [iz,lo1,← hud];have:u1*4294967296+u0=ul:=dl
    rw [this];show (h*2^s+l / 2^(64-s))*CY+ul=h*CY*2^s+(l / 2^(64-s)*CY+ul);rw [iz,oi h CY];omega
   rw [hN,← hYd] at g1 g2;rw [Nat.mul_div_mul_right _ _ hp] at g1;rw [Nat.mul_mod_mul_right] at g2;rw [hYd] at g1 g2;obtain ⟨v,hv'⟩:∃ v,v=(u*4294967296+u1) % Y:=⟨_,rfl⟩
   rw [← hv'] at hv g1 g2 ⊢;have hdm2:=jo v (Y / 4294967296)
   rw [gw] at hdm2;have hr2:=gu v (show 0<Y / 4294967296 by omega)
   have fin:=AQL (s:=s) (u0:=u0) hYs (gu _ dm) dl dl (by rw [← hu0];exact gu _ dm) w0 hv hq1 (v / (Y / 4294967296)) (v % (Y / 4294967296)) hdm2.symm dl (ADE hYs (gu _ dm) dl hv) (ADD hYs dl (by rw [← hu0];exact gu _ dm))
   have eo:Wk ((u*4294967296+u1) / Y) ((v*4294967296+u0) / Y) ((v*4294967296+u0) % Y) s=Z2 h l y:=by
    unfold Wk Z2;rw [← g1,← g2,jn (show s≤64 by omega),Nat.mul_div_cancel _ hp]
   rw [eo] at fin;exact fin
def ADI:dp→Option (dr×AV)
 | [h,l,y]=>some ([(decide (h<y),true)],Z2 h.toNat l.toNat y.toNat)
 | _=>none
noncomputable def S22:dt:=(204,Ez (Tc [.u64,.u64,.u64] ADI))::S21
theorem Lt:AT dn S22:=⟨Ft Tryz.func204 dk dk (Zx fun is c v h hh hc=>by
 unfold ADI at h;split at h
 ·rename_i h0 l0 y0;injection h with h;injection h with h1 h2;subst h1;subst h2;obtain ⟨q1,q2,q3,_⟩:=hh;have b1:=D3 q1;have b2:=D3 q2;have b3:=D3 q3;obtain ⟨H,rfl⟩:=ic b1.1;obtain ⟨L,rfl⟩:=ic b2.1;obtain ⟨Y,rfl⟩:=ic b3.1;have hlt:=hc.1;simp only [gc] at hlt;rw [gj,gj,gj];exact AQQ dl (show L<18446744073709551616 by omega) (show Y<18446744073709551616 by omega)
 ·cases h),HK⟩
def hw (a b:Int):Int:=bits .or .u64 (Int.fdiv a (2^min (Int.toNat 1) 64)) (mW (b*2^min (Int.toNat 63) 64))
theorem Qm {a b:Int} (ha:0≤a∧a<18446744073709551616) (hb:0≤b∧b<18446744073709551616):hw a b=a / 2+b % 2*9223372036854775808:=by
 obtain ⟨A,rfl⟩:=ic ha.1;obtain ⟨B,rfl⟩:=ic hb.1;unfold hw;have e1:Int.fdiv (A:Int) (2^min (Int.toNat 1) 64)=((A / 2:Nat):Int):=M7 A 1
 have e2:mW ((B:Int)*2^min (Int.toNat 63) 64)=((B % 2*2^63:Nat):Int):=by
  have:(B:Int)*2^min (Int.toNat 63) 64=((B*9223372036854775808:Nat):Int):=by rw [iy];rfl
  rw [this,QY];omega
 have hlt:A / 2<2^63:=dl
 have h:=pJ (h:=B % 2) (s:=63) (B:=A / 2) (by unfold CY;omega) hlt dm
 have comm:∀ x y:Int,bits .or .u64 x y=bits .or .u64 y x:=fun x y=>by simp only [bits,BitVec.or_comm]
 rw [e1,e2,comm,h];omega
def hwL (x:Nat) (h:Int):List Ch:=w6 (hw (AE x 0) (AE x 1)) (hw (AE x 1) (AE x 2)) (hw (AE x 2) (AE x 3)) (hw (AE x 3) (AE x 4)) (hw (AE x 4) (AE x 5)) (hw (AE x 5) h)
def HL (x:Nat):Blk:=⟨40,[.num 6 x],false⟩
def Io (x h:Nat):Nat:=(x+h % 2*RR) / 2
theorem AQR (x:Nat) (h:Int):AR dn (AG S22 K0) Tryz.f213 300 1 [0] (Ah Tryz.f213 [.val false [.p 0 0],.val false [.v (.int .u64 h)]] [(0,some (HL x))] 1 []) =
 some (JD 12,[0],.tup [],[(0,some ⟨40,hwL x h,false⟩)]):=dk
theorem AQS {x h:Nat} (hx:x<RR) (hh:h<18446744073709551616) {β:Env} {l:List Value} (hr:AO β (hwL x h) l):AO β [.num 6 (Io x h)] l:=by
 have b0:=Bm x 0;have b1:=Bm x 1;have b2:=Bm x 2;have b3:=Bm x 3;have b4:=Bm x 4;have b5:=Bm x 5;have hX:=QU (x:=x) (by rw [← C9];exact hx)
 have e0:=Qm b0 b1;have e1:=Qm b1 b2;have e2:=Qm b2 b3;have e3:=Qm b3 b4;have e4:=Qm b4 b5;have e5:=Qm (b:=(h:Int)) b5 dl
 have hb:∀ {a b:Int},0≤a∧a<18446744073709551616→0≤b∧b<18446744073709551616→0≤hw a b∧hw a b<18446744073709551616:=fun ha hb=>by rw [Qm ha hb];omega
 have:=Ze (β:=β) (u:=.agg ⟨l⟩) (y:=Io x h) (hb b0 b1) (hb b1 b2) (hb b2 b3) (hb b3 b4) (hb b4 b5) (hb b5 (show 0≤(h:Int)∧(h:Int)<18446744073709551616 by omega)) (by
  unfold Io F4 at *
  unfold RR;omega) ⟨l,hr,rfl⟩
 obtain ⟨l',h1,h2⟩:=this;injection h2 with h2;injection h2 with h2;subst h2;exact h1
theorem AQT {x h:Nat} (hx:x<RR) (hh:h<18446744073709551616):Ac dn 213 [.val false [.p 0 0],.val false [.v (.int .u64 (h:Int))]] [(0,some (HL x))] 1 [0] (.tup []) [(0,some (HL (Io x h)))]:=by
 intro β us w ha hg hf;have:=Ay Tryz.func213 dk (args0:=[.val false [.p 0 0],.val false [.v (.int .u64 (h:Int))]]) (H0:=[(0,some (HL x))]) (k0:=1) (path:=[]) (W:=[0]) dk (fun β0 w0 hb=>Av (AH Lt Ab) AB Tryz.func213 (AQR x h) (Ow _) (AQ dk) hb (fun _ h=>h)) β us w ha hg hf
 exact Calls.mono this fun e w' h=>WP (fun _ _ hr=>AQS hx hh hr) h
def halfSpec:ASpec:=fun args H fr path =>
 match args with
 | [.val false [.p k 0],A]=>match Bg (some A),AF H k with
  | some (_,.u64,h),some ⟨ty,c,false⟩=>match Nat.beq ty 40,C0 6 c with
   | true,some x=>some (BI [k] 1 fr 0 [0] (.tup []) [(0,some (HL (Io x h.toNat)))] [] path)
   | _,_=>none
  | _,_=>none
 | _=>none
theorem AQU {β:Env} {H:Heap} {w:World} {k:Nat} {b:Blk} {c:List Ch} (g:Ex.Good β H w) (hk:AF H k=some b) (hc:∀ l,AO β b.cs l→AO (A3 β [k] 1) c l):Ex.Good (A3 β [k] 1) [(0,some ⟨b.ty,c,b.opn⟩)] w:=by
 refine WO (ρ:=[k]) (bs:=[⟨b.ty,c,b.opn⟩]) g (fun j d hj=>?_) fun i j d hi hr hij hj=>?_
 ·match j,hj with
  | 0,hj=>injection hj with hj;subst hj;exact ⟨b,hk,.inr ⟨rfl,rfl⟩,hc⟩
 ·match i,j,hi,hj,hij with
  | 0,0,_,_,q=>exact absurd rfl q
theorem AQV:A' dn 213 halfSpec:=by
 refine GQ Tryz.func213 dk dk fun args H fr path r h=>?_
 unfold halfSpec at h;split at h;case h_2=>cases h
 rename_i k A;split at h;case h_2=>cases h
 rename_i c0 i ty c hA hk;split at h;case h_2=>cases h
 rename_i x hty hx;injection h with h;have hty':=An.1 hty;subst hty';refine ⟨[k],[.val false [.p 0 0],.val false [.v (.int .u64 (i.toNat:Int))]],[(0,some (HL x))],1,0,[0],.tup [],_,[],path,h.symm,fun β us w ha hg hc=>?_⟩
 obtain ⟨u1,us1,r1,⟨u2,us2,r2,ha,rfl⟩,rfl⟩:=ha;obtain ⟨rfl,p1⟩:=Cy (β:=β) (u:=u2) (fun B hB=>by injection hB with hB;subst hB;exact r2) hA
 have hb:=D3 p1;obtain ⟨l,g1⟩:=JE hg hk;have hi:((i.toNat:Nat):Int)=i:=qu hb.1
 refine ⟨AQT (by rw [C9];exact (G' hx g1).2) dl,dk,⟨u1,_,r1,⟨_,us2,?_,ha,rfl⟩,rfl⟩,AQU (c:=[.num 6 x]) hg hk (fun l h=>FZ hx h),fun j hj=>?_⟩
 ·rw [hi];exact Aq ⟨rfl,rfl,p1⟩
 ·match j,hj with
  | 0,_=>exact CC (hg.heap _ _ hk)
noncomputable def S23:dt:=(213,halfSpec)::S22
theorem Wl:AT dn S23:=⟨AQV,Lt⟩
def Z3:List AV:=[.val false [.p 0 0],.val false [.p 1 0]]
def M8 (u x:Nat):Heap:=[(0,some (HL u)),(1,some (HL x))]
noncomputable def AQW:List Item:=Bv (AW dn (AG S23 K0) (some 0) 300 2 none (Ah Tryz.f152 Z3 (M8 0 0) 2 []))
noncomputable def evT:List AV:=.val false [.p 0 0]::.val false [.p 1 0]::List.replicate (Tryz.f152.ntmps-2) .any
noncomputable def Qn (u x:Nat) (p:List Bool):ASt:=⟨AQW,⟨evT,M8 u x,2,p⟩⟩
abbrev KE:Option (List Nat×List Nat×Nat):=some ([0,1],[0,1],2)
def M9 (x:Nat):Int:=bits .and .u64 (AE x 0) 1
theorem AQY (u x:Nat):AW dn (AG S23 K0) (some 3) 300 2 KE (Ah Tryz.f152 Z3 (M8 u x) 2 [])=some ([],[],Qn u x []):=dk
theorem AQZ (u x:Nat):AW dn (AG S23 K0) (some 3) 300 2 KE (Qn u x dx)=some ([(decide (M9 u=0),true),(decide (M9 x=0),true)],[0,1],Qn (Io u 0) (Io x 0) []):=dk
theorem AQa (u x:Nat):AW dn (AG S23 K0) (some 3) 300 2 KE (Qn u x ee) =
 some ([(decide (M9 u=0),true),(decide (M9 x=0),false),(CB 0,true),(CB (Bp x pN 1),true),(CB (Bp x pN 2),true),(CB (Bp x pN 3),true),(CB (Bp x pN 4),true),(CB (Bp x pN 5),true)],[0,1],
  Qn (Io u 0) (Io (Mz x pN) (Bp x pN 6).toNat) []):=dk
theorem AQb (u x:Nat):AR dn (AG S23 K0) Tryz.f152 300 2 [0,1] (Qn u x du)=some ([(decide (M9 u=0),false)],[],.tup [],M8 u x):=dk
def Hw (x:Nat):Nat:=if x % 2=0 then x / 2 else (x+pN) / 2
def GT:Nat→Nat→Nat→Nat×Nat
 | 0,u,x=>(u,x)
 | f+1,u,x=>if u % 2=0 then GT f (u / 2) (Hw x) else (u,x)
theorem ADK (x:Nat):M9 x=((x % 2:Nat):Int):=by
 unfold M9;rw [oM,ACl _ dl];omega
theorem pK (x:Nat):Io x 0=x / 2:=by unfold Io;simp
theorem AQc {x:Nat} (hx:x<RR):Io (Mz x pN) (Bp x pN 6).toNat=(x+pN) / 2:=by
 obtain ⟨h1,h2⟩:=n9 (y:=pN) hx dm
 have:=FW x pN 6
 unfold Io;have h01:(Bp x pN 6).toNat=0∨(Bp x pN 6).toNat=1:=dl
 rcases h01 with e | e<;>rw [e] at h1 ⊢<;>congr 1<;>omega
theorem ADL {x:Nat} (h:x<RR):Hw x<RR:=by
 have hp:pN<RR:=dm
 unfold Hw;split<;>omega
theorem AQd {β0:Env} {w0:World} (hb:∀ b,2≤b→β0 b=none):∀ (f u x:Nat),0<u→u≤f→u<RR→x<RR →
  ASafe dn 152 β0 w0 (A4 β0 w0 [0,1] (.tup []) (M8 (GT f u x).1 (GT f u x).2)) Tryz.f152.ntmps [0,1] (Qn u x []):=by
 intro f;induction f with
 | zero=>intro u x h1 h2;omega
 | succ f ih =>
  intro u x h1 h2 hu hx;have ou:=ADK u;have ox:=ADK x;unfold GT;by_cases h:u % 2=0
  ·rw [fw h];have hd:decide (M9 u=0)=true:=by rw [ou,h];rfl
   by_cases hx2:x % 2=0
   ·refine Ae dx (Ag (AH Wl Ab) AB (AQZ u x) ⟨hd,by rw [ox,hx2];rfl,trivial⟩ (AQ dk) hb (fun _ h=>h) fun _=>?_)
    have e:Hw x=x / 2:=fw hx2
    rw [pK,pK,← e];exact ih (u / 2) (Hw x) dl dl dl (ADL hx)
   ·refine Ae ee (Ag (AH Wl Ab) AB (AQa u x) ⟨hd,by rw [ox];simp only [decide_eq_false_iff_not];omega,rfl,DG (FW _ _ _),DG (FW _ _ _),DG (FW _ _ _),DG (FW _ _ _),DG (FW _ _ _),trivial⟩ (AQ dk) hb (fun _ h=>h) fun _=>?_)
    have e:Hw x=(x+pN) / 2:=fv hx2
    rw [pK,AQc hx,← e];exact ih (u / 2) (Hw x) dl dl dl (ADL hx)
  ·rw [fv h];have hd:decide (M9 u=0)=false:=by rw [ou];simp only [decide_eq_false_iff_not];omega
   exact Ae du (Av (AH Wl Ab) AB Tryz.func152 (AQb u x) ⟨hd,trivial⟩ (AQ dk) hb ft)
theorem AQe {u x:Nat} (h0:0<u) (hu:u<RR) (hx:x<RR):Ac dn 152 Z3 (M8 u x) 2 [0,1] (.tup []) (M8 (GT u u x).1 (GT u u x).2) :=
 Ay (path:=[]) Tryz.func152 dk dk fun β0 w0 hb =>
  Ag (AH Wl Ab) AB (AQY u x) trivial (AQ dk) hb ft fun _=>AQd hb u u x h0 (gd _) hu hx
def evSpec:ASpec:=fun args H fr path =>
 match args with
 | [.val false [.p k 0],.val false [.p t 0]]=>match AF H k,AF H t,Nat.beq k t with
  | some ⟨ty,c,false⟩,some ⟨ty',d,false⟩,false=>match Nat.beq ty 40,C0 6 c,Nat.beq ty' 40,C0 6 d with
   | true,some u,true,some x=>some (BI [k,t] 2 fr 0 [0,1] (.tup []) (M8 (GT u u x).1 (GT u u x).2) [(decide (0<u),true)] path)
   | _,_,_,_=>none
  | _,_,_=>none
 | _=>none
theorem AQf:A' dn 152 evSpec:=by
 refine GQ Tryz.func152 dk dk fun args H fr path r h=>?_
 unfold evSpec at h;split at h;case h_2=>cases h
 rename_i k t;split at h;case h_2=>cases h
 rename_i ty c ty' d hk ht hne;split at h;case h_2=>cases h
 rename_i u x hty hu hty' hx;injection h with h;have hty1:=An.1 hty;have hty2:=An.1 hty';subst hty1;subst hty2;have hne':k≠t:=fun e=>by subst e;rw [An.2 rfl] at hne;cases hne
 refine ⟨[k,t],Z3,M8 u x,2,0,[0,1],.tup [],_,_,path,h.symm,fun β us w ha hg hc=>?_⟩
 obtain ⟨u1,us1,r1,⟨u2,us2,r2,ha,rfl⟩,rfl⟩:=ha;obtain ⟨l,g1⟩:=JE hg hk;obtain ⟨l',g2⟩:=JE hg ht;have h0:0<u:=by simpa using hc.1
 refine ⟨AQe h0 (by rw [C9];exact (G' hu g1).2) (by rw [C9];exact (G' hx g2).2),dk,⟨u1,_,r1,⟨u2,us2,r2,ha,rfl⟩,rfl⟩,ACV (c:=[.num 6 u]) (e:=[.num 6 x]) hg hk ht hne' (fun l h=>FZ hu h) (fun l h=>FZ hx h),fun j hj=>?_⟩
 match j,hj with
 | 0,_=>exact CC (hg.heap _ _ hk)
 | 1,_=>exact CC (hg.heap _ _ ht)
noncomputable def S24:dt:=(152,evSpec)::S23
theorem Qo:AT dn S24:=⟨AQf,Wl⟩
abbrev dz:List Bool:=[false,true]
open Ex
set_option maxRecDepth 100000
set_option maxHeartbeats 4000000
def M_ (b:Blk):Blk:=match C0 6 b.cs with
 | some x=>⟨b.ty,[.num 6 x],b.opn⟩
 | none=>b
def Qp:Heap→Heap
 | []=>[]
 | (k,some b)::r=>(k,some (M_ b))::Qp r
 | (k,none)::r=>(k,none)::Qp r
theorem Wm (b:Nat):∀ H:Heap,AF (Qp H) b=(AF H b).map M_
 | []=>rfl
 | (k,some x)::r=>by
  simp only [Qp,AF];split
  ·rfl
  ·exact Wm b r
 | (k,none)::r=>by
  simp only [Qp,AF];split
  ·rfl
  ·exact Wm b r
theorem ADM (b:Blk):(M_ b).ty=b.ty∧(M_ b).opn=b.opn:=by unfold M_;split<;>exact ⟨rfl,rfl⟩
theorem AQg {P:Program} {f:FuncId} {β0:Env} {w0:World} {R:Ending→World→Prop} {n:Nat} {W:List Nat} {todo:List Item} {T:List AV} {H:Heap} {fr:Nat} {p:List Bool} (h:ASafe P f β0 w0 R n W ⟨todo,⟨T,Qp H,fr,p⟩⟩):ASafe P f β0 w0 R n W ⟨todo,⟨T,H,fr,p⟩⟩:=by
 intro β a w hi hf;refine h β a w { hi with good:=⟨fun b blk hb=>?_,fun b b' B n n' h1 h2 h3 h4=>?_,hi.good.lt⟩ } hf
 ·have hb':(AF H b).map M_=some blk:=by rw [← Wm];exact hb
  obtain ⟨x,hx,rfl⟩:=ny.1 hb';refine TV (hi.good.heap b x hx) rfl (.inr (ADM x)) fun l hl=>?_
  unfold M_;split
  ·rename_i y hy;exact FZ hy hl
  ·exact hl
 ·refine hi.good.inj b b' B n n' ?_ ?_ h3 h4
  ·obtain ⟨d,hd,hr⟩:=F1 h1;have hd':(AF H b).map M_=some d:=by rw [← Wm];exact hd
   obtain ⟨x,hx,rfl⟩:=ny.1 hd';exact FS hx (by rw [← (ADM x).1];exact hr)
  ·have h2':((AF H b').map M_).isSome=true:=by rw [← Wm];exact h2
   rwa [Option.isSome_map] at h2'
noncomputable def ADN:List Item:=Bv (AW dn (AG S24 K0) (some 0) 300 0 none (Ah Tryz.f75 [AY 0] [] 0 du))
noncomputable def ADO:List AV:=.any::.any::.val false [.p 1 0]::.val false [.p 2 0]::.val false [.p 3 0]::.val false [.p 4 0]::.val false [.p 5 0]::.val false [.p 6 0]::List.replicate (Tryz.f75.ntmps-8) .any
def ADP (u v x y:Nat):Heap:=[(1,some (HL 0)),(2,some (HL u)),(3,some (HL v)),(4,some (HL x)),(5,some (HL y)),(6,some (HL 1))]
noncomputable def Qq (u v x y:Nat) (p:List Bool):ASt:=⟨ADN,⟨ADO,ADP u v x y,7,p⟩⟩
abbrev KI:Option (List Nat×List Nat×Nat):=some ([2,3,4,5,6,7],[1,2,3,4,5,6],7)
def ADQ (a:Nat):Heap:=[(1,some ⟨40,HE,false⟩),(2,some (HL (a % pN))),(3,some ⟨40,Pw,false⟩),(4,some ⟨40,[.n .u64 1,.n .u64 0,.n .u64 0,.n .u64 0,.n .u64 0,.n .u64 0],false⟩),(5,some ⟨40,HE,false⟩),(6,some ⟨40,[.n .u64 1,.n .u64 0,.n .u64 0,.n .u64 0,.n .u64 0,.n .u64 0],false⟩)]
theorem AQh (a:Nat):AW dn (AG S24 K0) (some 0) 300 0 KI (Ah Tryz.f75 [AY a] [] 0 du)=some ([(decide (a % pN=0),false)],[],⟨ADN,⟨ADO,ADQ a,7,[]⟩⟩):=dk
theorem inv_zero (a:Nat):EX dn (AG S24 K0) Tryz.f75 300 0 (Ah Tryz.f75 [AY a] [] 0 dw)=some ([(decide (a % pN=0),true)],[],AY (a % pN)):=dk
theorem AQi (a:Nat):Qp (ADQ a)=ADP (a % pN) pN 1 0:=dk
def E1 (u x:Nat):Nat:=(GT u u x).1
def E2 (u x:Nat):Nat:=(GT u u x).2
section
variable (u v x y:Nat)
def Z4 (r:dr):dr:=(decide (0<u),true)::(decide (0<v),true)::r
def Z5:Bool:=decide (0≤EC (AI (AA (Im (E1 u x)) (0+0*1) (6-0))) (AI (AA (Im (E1 v y)) (0+0*1) (6-0))))
theorem AQj:EX dn (AG S24 K0) Tryz.f75 300 0 (Qq u v x y dw)=some (Z4 u v [(decide (E1 u x=1),true)],[],AY (E2 u x)):=dk
theorem AQk:EX dn (AG S24 K0) Tryz.f75 300 0 (Qq u v x y dz)=some (Z4 u v [(decide (E1 u x=1),false),(decide (E1 v y=1),true)],[],AY (E2 v y)):=dk
theorem AQl:AW dn (AG S24 K0) (some 0) 300 0 KI (Qq u v x y e_) =
 some (Z4 u v ((decide (E1 u x=1),false)::(decide (E1 v y=1),false)::(JD 4++[(Z5 u v x y,true)])),[],Qq ((E1 u x+(RR-E1 v y)) % RR) (E1 v y) (EB (E2 u x) (E2 v y)) (E2 v y) []):=dk
theorem AQm:AW dn (AG S24 K0) (some 0) 300 0 KI (Qq u v x y fb) =
 some (Z4 u v ((decide (E1 u x=1),false)::(decide (E1 v y=1),false)::(JD 4++[(Z5 u v x y,false)])),[],Qq (E1 u x) ((E1 v y+(RR-E1 u x)) % RR) (E2 u x) (EB (E2 v y) (E2 u x)) []):=dk
end
open Ex Num
instance neZero_pN:NeZero pN:=⟨dm⟩
def tf (x:Nat):Fin pN:=DR pN x
theorem O5 (x:Nat):tf (x % pN)=tf x:=ACs x
theorem Qr {x y:Nat}:tf x=tf y↔x % pN=y % pN:=Zv
theorem F7 (x y:Nat):tf (x+y)=tf x+tf y:=ACt x y
theorem O6 (x y:Nat):tf (x*y)=tf x*tf y:=ACu x y
theorem JI (x y:Nat):tf (D0 x y)=tf x+tf y:=by unfold D0;rw [O5,F7,O5,O5]
theorem CH (x y:Nat):tf (Af x y)=tf x*tf y:=by unfold Af;rw [O5,O6]
theorem Z6 (x:Nat):tf (Ct x)=- tf x:=by unfold Ct;rw [O5];exact APR x
theorem HM (x y:Nat):tf (EB x y)=tf x-tf y:=by unfold EB;rw [JI,Z6];grind
theorem tf_zero:tf 0=0:=ACv
theorem DS:tf 1=1:=APQ
theorem NA {x y:Nat} (hx:x<pN) (hy:y<pN) (h:tf x=tf y):x=y:=APS hx hy h
theorem Z7 (x y:Nat):D0 x y<pN:=gu _ Cs
theorem HN (x y:Nat):EB x y<pN:=Z7 _ _
theorem Z8 {x:Nat}:tf x=0↔x % pN=0:=by rw [← tf_zero,Qr,lv]
theorem AQn {a b:Fin pN} (h:a*b=0):a=0∨b=0:=APT pN_prime h
noncomputable def Bk (a:Nat):Nat:=Cu a (pN-2)
theorem ADR (a:Nat):Bk a<pN:=AC2 _ _
theorem ADS {a:Nat} (h:a % pN=0):Bk a=0:=by
 unfold Bk;rw [KO,kq,h,Nat.zero_pow dm];rfl
theorem ADT {a:Nat} (h:a % pN≠0):tf a*tf (Bk a)=1:=by
 have ha:¬ pN∣a:=fun hd=>h (nf hd)
 have hf:=Qk pN_prime ha;rw [← O6,← DS,Qr];unfold Bk;rw [KO];have e:pN-1=(pN-2)+1:=by have:=o7;omega
 rw [e,ip] at hf;rw [Nat.mul_mod_mod,gw,hf];rfl
theorem ADU {a x:Nat} (hx:x<pN) (h:tf a*tf x=1):x=Bk a:=by
 have ha:a % pN≠0:=fun e=>by
  rw [Z8.2 e] at h;have:(0:Fin pN)*tf x=0:=by grind
  rw [this] at h;have h2:tf 0=tf 1:=by rw [tf_zero,DS];exact h
  have:=NA Cs (show 1<pN by decide) h2
  cases this
 have h2:=ADT ha;refine NA hx (ADR a) ?_
 grind
theorem AQo {A B:Fin pN} (h:A+A=B+B):A=B:=by
 have h0:(A-B)*tf 2=0:=by
  have:tf 2=1+1:=by rw [← DS,← F7]
  rw [this];grind
 rcases AQn h0 with e | e
 ·grind
 ·exfalso
  have:=NA (show 2<pN by decide) Cs (e.trans tf_zero.symm)
  cases this
theorem AQp {x:Nat} (hx:x<pN):tf (Hw x)+tf (Hw x)=tf x∧Hw x<pN:=by
 have hodd:=Wb;constructor
 ·rw [← F7,Qr];unfold Hw;split
  ·congr 1;omega
  ·rw [show (x+pN) / 2+(x+pN) / 2=x+pN by omega,ma]
 ·unfold Hw;split<;>omega
theorem pL {a:Nat}:∀ (f u x:Nat),0<u→u≤f→x<pN→tf a*tf x=tf u→(GT f u x).1 % 2=1∧(GT f u x).1∣u∧(GT f u x).2<pN∧tf a*tf (GT f u x).2=tf (GT f u x).1
 | 0,u,x,h1,h2,_,_=>dl
 | f+1,u,x,h1,h2,hx,h=>by
  unfold GT;by_cases hu:u % 2=0
  ·rw [fw hu];obtain ⟨q1,q2⟩:=AQp hx;have e:tf (u / 2)+tf (u / 2)=tf u:=by rw [← F7];congr 1;omega
   have q3:tf a*tf (Hw x)=tf (u / 2):=AQo (by rw [e,← h,← q1];grind)
   obtain ⟨i1,i2,i3,i4⟩:=pL (a:=a) f (u / 2) (Hw x) dl dl q2 q3
   exact ⟨i1,Nat.dvd_trans i2 ⟨2,dl⟩,i3,i4⟩
  ·rw [fv hu];exact ⟨dl,Nat.dvd_refl u,hx,h⟩
theorem AQq {u v x y:Nat} (h1:E1 u x<RR) (h2:E1 v y<RR):Z5 u v x y=decide (E1 v y≤E1 u x):=by
 unfold Z5;rw [Oz h1,Oz h2];unfold EC;by_cases c1:E1 u x<E1 v y
 ·rw [fw c1,ga dl,ga dl]
 ·rw [fv c1];by_cases c2:E1 v y<E1 u x
  ·rw [fw c2,fu dl,fu dl]
  ·rw [fv c2,fu dl,fu dl]
theorem ADV {u v:Nat} (h:v≤u) (hu:u<RR):(u+(RR-v)) % RR=u-v:=by
 rw [show u+(RR-v)=(u-v)+RR by omega,ma,ge dl]
theorem AQr (a:Nat) (w0:World):∀ (m u v x y:Nat),u+v≤m→0<u→0<v→u<RR→v<RR→x<pN→y<pN→Nat.Coprime u v→tf a*tf x=tf u→tf a*tf y=tf v →
  ASafe dn 75 By w0 (HC w0 (AY (Bk a))) Tryz.f75.ntmps [] (Qq u v x y []):=by
 intro m;induction m with
 | zero=>intro u v x y h1 h2;omega
 | succ m ih =>
  intro u v x y hm hu hv hur hvr hx hy hg h1 h2;obtain ⟨a1,a2,a3,a4⟩:=pL (a:=a) u u x hu (gd _) hx h1
  obtain ⟨b1,b2,b3,b4⟩:=pL (a:=a) v v y hv (gd _) hy h2
  have a5:=jm hu a2;have b5:=jm hv b2;change E1 u x % 2=1 at a1
  change E1 u x∣u at a2
  change E2 u x<pN at a3
  change tf a*tf (E2 u x)=tf (E1 u x) at a4
  change E1 u x≤u at a5
  change E1 v y % 2=1 at b1
  change E1 v y∣v at b2
  change E2 v y<pN at b3
  change tf a*tf (E2 v y)=tf (E1 v y) at b4
  change E1 v y≤v at b5
  have hg':Nat.Coprime (E1 u x) (E1 v y):=(hg.coprime_dvd_left a2).coprime_dvd_right b2
  have c0:decide (0<u)=true:=fu hu
  have c1:decide (0<v)=true:=fu hv
  have iP:=AQq (u:=u) (v:=v) (x:=x) (y:=y) dl dl
  by_cases hu1:E1 u x=1
  ·have h:=Hr (w0:=w0) (β0:=By) (n:=Tryz.f75.ntmps) (AH Qo Ab) AB Tryz.func75 (AQj u v x y) ⟨c0,c1,fu hu1,trivial⟩ (AQ dk) (fun _ _=>rfl) rfl
   rw [ADU (a:=a) a3 (by rw [a4,hu1,DS])] at h
   exact Ae dw h
  ·by_cases hv1:E1 v y=1
   ·have h:=Hr (w0:=w0) (β0:=By) (n:=Tryz.f75.ntmps) (AH Qo Ab) AB Tryz.func75 (AQk u v x y) ⟨c0,c1,ga hu1,fu hv1,trivial⟩ (AQ dk) (fun _ _=>rfl) rfl
    rw [ADU (a:=a) b3 (by rw [b4,hv1,DS])] at h
    exact Ae dz h
   ·have hne:E1 u x≠E1 v y:=fun e=>by
     rw [← e] at hg';exact hu1 ((Nat.coprime_self _).1 hg')
    by_cases hle:E1 v y≤E1 u x
    ·refine Ae e_ (Ag (AH Qo Ab) AB (AQl u v x y) ⟨c0,c1,ga hu1,ga hv1,rfl,rfl,rfl,rfl,by rw [iP];exact fu hle,trivial⟩ (AQ dk) (fun _ _=>rfl) ft fun _=>?_)
     rw [ADV hle dl];refine ih _ _ _ _ dl dl dl dl dl (HN _ _) b3 ?_ ?_ b4
     ·exact (Nat.gcd_sub_self_left hle).trans hg'
     ·have e:tf (E1 u x-E1 v y)=tf (E1 u x)-tf (E1 v y):=oZ hle
      rw [HM,e,← a4,← b4];grind
    ·refine Ae fb (Ag (AH Qo Ab) AB (AQm u v x y) ⟨c0,c1,ga hu1,ga hv1,rfl,rfl,rfl,rfl,by rw [iP];exact ga hle,trivial⟩ (AQ dk) (fun _ _=>rfl) ft fun _=>?_)
     rw [ADV dl dl];refine ih _ _ _ _ dl dl dl dl dl a3 (HN _ _) ?_ a4 ?_
     ·exact Nat.Coprime.symm ((Nat.gcd_sub_self_left (show E1 u x≤E1 v y by omega)).trans hg'.symm)
     ·have e:tf (E1 v y-E1 u x)=tf (E1 v y)-tf (E1 u x):=oZ dl
      rw [HM,e,← a4,← b4];grind
theorem ADW (a:Nat):AS dn 75 [AY a] (AY (Bk a)):=by
 refine Mu (path:=[]) Tryz.func75 dk dk fun w0=>?_
 by_cases h:a % pN=0
 ·have h1:=Hr (w0:=w0) (β0:=By) (n:=Tryz.f75.ntmps) (AH Qo Ab) AB Tryz.func75 (inv_zero a) ⟨fu h,trivial⟩ (AQ dk) (fun _ _=>rfl) rfl
  have e:a % pN=Bk a:=by rw [h,ADS h]
  rw [e] at h1;exact Ae dw h1
 ·have hp:=HF a;have hR:pN<RR:=dm
  refine Ae du (Ag (AH Qo Ab) AB (AQh a) ⟨ga h,trivial⟩ (AQ dk) (fun _ _=>rfl) ft fun _=>?_)
  refine AQg ?_
  rw [AQi];refine AQr a w0 (a % pN+pN) (a % pN) pN 1 0 (gd _) dl Cs dl hR dm Cs ?_ ?_ ?_
  ·exact (pN_prime.coprime fun hd=>by have:=jm dl hd;omega).symm
  ·rw [DS,O5];grind
  ·have:tf pN=0:=oY
   rw [tf_zero,this];grind
noncomputable def S25:dt:=(75,AZ (FY fun x=>AY (Bk x)))::S24
theorem Z9:AT dn S25:=⟨Aa Tryz.func75 dk dk (GR fun x _=>ADW x),Qo⟩
def ADX:List (Nat×AV)→Nat→AV
 | [],_=>.any
 | (j,a)::r,i=>match Nat.beq i j with | true=>a | false=>ADX r i
def ADY:Nat→Nat→List (Nat×AV)→List AV
 | 0,_,_=>[]
 | f+1,i,l=>ADX l i::ADY f (i+1) l
def DT (n:Nat) (l:List (Nat×AV)):List AV:=ADY n 0 l
def AP (k off n m:Nat):AV:=.val false [.sl k off n m]
def iA (i:Int):AV:=.val false [.v (.int .i64 i)]
def Ax (xs:dp):Heap:=[(0,some (Am [.seq .u8 xs]))]
def Ip (f:Nat→Int) (L i:Nat):dp:=(List.range i).map f++List.replicate (L-i) 0
theorem ADZ {f:Nat→Int} {L i:Nat} (h:i≤L):(Ip f L i).length=L:=by simp [Ip];omega
theorem ADa {f:Nat→Int} {L i:Nat} (h:i<L):(Ip f L i).set i (f i)=Ip f L (i+1):=by
 unfold Ip;rw [pm _ _ (by simp),jk,lm,kw,show L-i=(L-(i+1))+1 by omega,om,List.set_cons_zero,p_,lk,lf]
 rfl
theorem ADb (f:Nat→Int) (L:Nat):Ip f L 0=List.replicate L 0:=by simp [Ip]
theorem AQs (f:Nat→Int) (L:Nat):Ip f L L=(List.range L).map f:=by simp [Ip]
def FE (A k:Nat):Int:=((A / 256^k % 256:Nat):Int)
def CI (A n:Nat):dp:=(List.range n).map fun i=>FE A (n-1-i)
def Ak:dp→Nat
 | []=>0
 | d::r=>d.toNat*256^r.length+Ak r
theorem NB (k:Nat):256^k=2^(8*k):=by rw [mf]
theorem pM {n i:Nat} (hn:n≤35184372088832) (h:i<n):wI (wI ((n:Int)-1)-i)=((n-1-i:Nat):Int):=by
 rw [Ao (z:=(n:Int)-1) dl,Ao dl];omega
theorem Wn (k:Nat):Int.tdiv (k:Int) 8=((k / 8:Nat):Int):=by rw [mj dl];rfl
theorem Z_ (k:Nat):Int.tmod (k:Int) 8=((k % 8:Nat):Int):=by rw [ku dl];rfl
noncomputable def AQt:List Item:=Bv (AW dn (AG S25 K0) (some 0) 100 1 none (Ah Tryz.f93 [AP 0 0 0 0,iA 0] (A8 []) 1 []))
noncomputable def Wo (off m c:Nat) (n:Int) (xs:dp) (L:Nat) (ys:dp) (i:AV) (p:List Bool):ASt:=⟨AQt,⟨DT Tryz.f93.ntmps [(0,AP 0 off m c),(1,iA n),(5,AP 1 0 L L),(10,AP 1 0 L L),(11,AP 1 0 L L),(12,iA L),(13,i)],
 [(0,some (Am [.seq .u64 xs])),(1,some ⟨5,[.seq .u8 ys],false⟩)],2,p⟩⟩
abbrev ADc:Option (List Nat×List Nat×Nat):=some ([0,1,5,10,11,12,13],[0,1],2)
def Wp (n:Int):Nat:=(Fs n 0).toNat
def Z' (ys:dp):Heap:=[(1,some ⟨5,[.seq .u8 ys],false⟩)]
def O7 (m sz:Int):Bool:=decide (0≤m∧m≤m∧sz*m≤281474976710656∧m≤9223372036854775807)
theorem AQu (off m c:Nat) (n:Int) (xs:dp):AW dn (AG S25 K0) (some 0) 100 1 ADc (Ah Tryz.f93 [AP 0 off m c,iA n] (A8 xs) 1 []) =
 some ([(O7 (Fs n 0) 1,true),(AJ .i64 (Wp n),true)],[],Wo off m c n xs (Wp n) (List.replicate (Wp n) 0) (.val false [.n .i64 0]) []):=dk
def HO (n i:Int):Int:=wI (wI (n-1)-i)
def pO (xs:dp) (off m:Nat) (k:Int):Int:=AU false .u8 (Int.fdiv (BT xs off m (wI (Int.tdiv k 8))) (2^min (wI (8*Int.tmod k 8)).toNat 64))
def ADd (off m:Nat) (n:Int) (xs:dp) (L:Nat) (ys:dp) (i:Int):dr:=[(decide (i<L),true),(true,true),(Nat.ble (off+m) xs.length,true),(AJ .i64 m,true),(decide (0≤wI (Int.tdiv (HO n i) 8)),true),
 (decide (0≤HO n i∧(0:Int)<8),true),(decide (0≤wI (8*Int.tmod (HO n i) 8)∧0≤BT xs off m (wI (Int.tdiv (HO n i) 8))),true),(decide (0≤i∧i<L),true),(decide (0+i.toNat*1<ys.length),true)]
theorem AQv (off m c:Nat) (n:Int) (xs:dp) (L:Nat) (ys:dp) (i:Int):AW dn (AG S25 K0) (some 0) 100 1 ADc (Wo off m c n xs L ys (iA i) dw) =
 some (ADd off m n xs L ys i,[],Wo off m c n xs L (ys.set (0+i.toNat*1) (pO xs off m (HO n i))) (iA (wI (i+1))) []):=dk
theorem AQw (off m c:Nat) (n:Int) (xs:dp) (L:Nat) (ys:dp) (i:Int):AR dn (AG S25 K0) Tryz.f93 100 1 [1] (Wo off m c n xs L ys (iA i) du) =
 some ([(decide (i<L),false)],[],AP 1 0 L L,Z' ys):=dk
theorem AQx {xs:dp} {off m:Nat} (hx:∀ d∈xs,0≤d∧d<18446744073709551616) {k:Nat} (hk:k≤35184372088832):pO xs off m (k:Int)=FE (AI (AA xs off m)) k∧0≤BT xs off m (wI (Int.tdiv (k:Int) 8)):=by
 have e1:wI (Int.tdiv (k:Int) 8)=((k / 8:Nat):Int):=by rw [Wn];exact Ao dl
 have e2:wI (8*Int.tmod (k:Int) 8)=((8*(k % 8):Nat):Int):=by rw [Z_,Ao dl];omega
 unfold pO;rw [e1,e2,oS hx,gj,jn dl];refine ⟨?_,dl⟩
 generalize AI (AA xs off m)=A
 have e3:(Int.fdiv ((A / 2^(64*(k / 8)) % 18446744073709551616:Nat):Int) (2^(8*(k % 8))))=((A / 2^(64*(k / 8)) % 18446744073709551616 / 2^(8*(k % 8)):Nat):Int):=by
  rw [nb _ (by exact_mod_cast nq (2^(8*(k % 8)))),oe,ml];rfl
 rw [e3,C7,IntKind.wrap_u8];unfold FE;have e4:(18446744073709551616:Nat)=2^(8*(k % 8))*2^(64-8*(k % 8)):=by rw [← gp,show 8*(k % 8)+(64-8*(k % 8))=64 by omega]
 have e5:A / 2^(64*(k / 8)) % 18446744073709551616 / 2^(8*(k % 8)) % 256=A / 256^k % 256:=by
  rw [e4,Nat.mod_mul_right_div_self,iu,← gp,show 64*(k / 8)+8*(k % 8)=8*k by omega,NB]
  refine rk _ ?_
  have:64-8*(k % 8)=8+(56-8*(k % 8)):=dl
  rw [this,gp];exact ⟨_,rfl⟩
 rw [← e5];omega
theorem AQy {off m c:Nat} {xs:dp} (hx:∀ d∈xs,0≤d∧d<18446744073709551616) (hl:off+m≤xs.length) (hm:AJ .i64 m=true) {n:Nat} (hn:n≤35184372088832) :
  Ac dn 93 [AP 0 off m c,iA n] (A8 xs) 1 [] (AP 1 0 n n) (Z' (CI (AI (AA xs off m)) n)):=by
 refine Ay (path:=[]) Tryz.func93 dk dk fun β0 w0 hb=>?_
 have h0:Fs (n:Int) 0=n:=by unfold Fs;split<;>omega
 have h1:Wp (n:Int)=n:=by unfold Wp;rw [h0];omega
 refine Ag (AH Z9 Ab) AB (AQu off m c n xs) ⟨?_,?_,trivial⟩ (AQ dk) hb ft fun _=>?_
 ·rw [h0];unfold O7;simp only [gc];omega
 ·rw [h1];simp only [AJ,gi,gc];omega
 ·rw [h1];refine Hv ?_
  have loop:∀ r i,i+r=n→ASafe dn 93 β0 w0 (A4 β0 w0 [] (AP 1 0 n n) (Z' (CI (AI (AA xs off m)) n))) Tryz.f93.ntmps [] (Wo off m c n xs n (Ip (fun i=>FE (AI (AA xs off m)) (n-1-i)) n i) (iA i) []):=by
   intro r;induction r with
   | zero =>
    intro i hi;obtain rfl:i=n:=dl
    rw [AQs];exact Ae du (Av (AH Z9 Ab) AB Tryz.func93 (AQw ..) ⟨by simp,trivial⟩ (AQ dk) hb ft)
   | succ r ih =>
    intro i hi;have ek:HO (n:Int) i=((n-1-i:Nat):Int):=pM hn dl
    have ev:=AQx (off:=off) (m:=m) hx (k:=n-1-i) dl
    have ed:wI (Int.tdiv ((n-1-i:Nat):Int) 8)=(((n-1-i) / 8:Nat):Int):=by rw [Wn];exact Ao dl
    refine Ae dw (Ag (AH Z9 Ab) AB (AQv ..) ?_ (AQ dk) hb ft fun _=>?_)
    ·rw [ADd,ek];refine ⟨by simp;omega,rfl,gb hl,hm,by rw [ed];simp only [gc];omega,by simp,?_,by simp;omega,by rw [ADZ dl];simp;omega,trivial⟩
     have:wI (8*Int.tmod ((n-1-i:Nat):Int) 8)=((8*((n-1-i) % 8):Nat):Int):=by rw [Z_,Ao dl];omega
     rw [this];simp only [gc];exact ⟨dl,ev.2⟩
    ·rw [ek,ev.1,Ao (z:=(i:Int)+1) dl,show 0+(i:Int).toNat*1=i by omega,ADa (f:=fun i=>FE (AI (AA xs off m)) (n-1-i)) dl]
     exact ih (i+1) dl
  have:=loop n 0 dl
  rw [ADb] at this;exact this
def octSpec:ASpec:=fun args H fr path =>
 match args with
 | [.val false [.sl k off m _],I]=>match Bg (some I),AF H k with
  | some (_,.i64,i),some ⟨_,cs,_⟩=>match Az .u64 cs with
   | some xs=>some (BI [k] 1 fr 1 [] (AP 1 0 i.toNat i.toNat) (Z' (CI (AI (AA xs off m)) i.toNat)) [(Nat.ble (off+m) xs.length,true),(AJ .i64 m,true),(decide (0≤i∧i≤35184372088832),true)] path)
   | none=>none
  | _,_=>none
 | _=>none
theorem AQz:A' dn 93 octSpec:=by
 refine GQ Tryz.func93 dk dk fun args H fr path r h=>?_
 unfold octSpec at h;split at h;case h_2=>cases h
 rename_i k off m _c I;split at h;case h_2=>cases h
 rename_i c0 i ty cs o hI hk;split at h;case h_2=>cases h
 rename_i xs hxs;injection h with h;refine ⟨[k],[AP 0 off m _c,iA i],A8 xs,1,1,[],_,_,_,path,h.symm,fun β us w ha hg hc=>?_⟩
 obtain ⟨u1,us1,r1,⟨u2,us2,r2,ha,rfl⟩,rfl⟩:=ha;obtain ⟨g1,g2,g3⟩:=Lk hg hk hxs;obtain ⟨rfl,p1⟩:=Cy (β:=β) (u:=u2) (fun A hA=>by injection hA with hA;subst hA;exact r2) hI
 have hi:=hc.2.2.1;simp only [gc] at hi;obtain ⟨n,rfl⟩:=ic hi.1;exact ⟨AQy g1 (f_ hc.1) hc.2.1 dl,dk,⟨u1,_,r1,⟨_,us2,Aq ⟨rfl,rfl,p1⟩,ha,rfl⟩,rfl⟩,g2,g3⟩
noncomputable def S26:dt:=(93,octSpec)::S25
theorem aA:AT dn S26:=⟨AQz,Z9⟩
theorem ADe:∀ (a b:dp),Ak (a++b)=Ak a*256^b.length+Ak b
 | [],b=>by simp [Ak]
 | d::r,b=>by
  simp only [kx,Ak,ib];rw [ADe r b,gp,iz,iw,jx]
theorem ADf {ws:dp} {i:Nat} (h:i<ws.length):Ak (ws.take (i+1))=Ak (ws.take i)*256+(ws.getD i 0).toNat:=by
 rw [List.take_succ_eq_append_getElem h,ADe];simp [Ak,List.getD_eq_getElem?_getD,h]
theorem Tf:∀ (ws:dp),(∀ d∈ws,0≤d∧d<256)→Ak ws<256^ws.length
 | [],_=>by simp [Ak]
 | d::r,h=>by
  have hd:=h d (by simp)
  have ih:=Tf r fun d h'=>h d (by simp [h'])
  simp only [Ak,ii,ip];have:d.toNat+1≤256:=dl
  have h2:=jp (256^r.length) this
  rw [iz,mb] at h2;omega
theorem ADg {M x k i:Nat} (hx:x<256) (hi:i≠k / 8):(M*256^(k+1)+x*256^k) / 2^(64*i) % 2^64=M*256^(k+1) / 2^(64*i) % 2^64:=by
 rw [NB,NB];rcases Nat.lt_or_gt_of_ne hi with h | h
 ·have e:x*2^(8*k)=2^(64*i)*(2^64*(x*2^(8*k-64*i-64))):=by
   rw [jt (2^64),jt (2^(64*i)),← gp,← gp];congr 2;omega
  rw [e,qw _ _ (jr dm),qz]
 ·have e1:2^(64*i)=2^(8*k)*2^(64*i-8*k):=by rw [← gp];congr 1;omega
  have e2:M*2^(8*(k+1))+x*2^(8*k)=2^(8*k)*(M*256+x):=by
   rw [show 8*(k+1)=8*k+8 by omega,gp,kf,gw x];congr 1;rw [jt]
  have e3:M*2^(8*(k+1))=2^(8*k)*(M*256):=by rw [show 8*(k+1)=8*k+8 by omega,gp,jt]
  have e4:2^(64*i-8*k)=256*2^(64*i-8*k-8):=by
   rw [show (256:Nat)=2^8 by rfl,← gp];congr 1;omega
  rw [e2,e3,e1,Nat.mul_div_mul_left _ _ (jr dm),Nat.mul_div_mul_left _ _ (jr dm),e4,← iu,← iu];congr 2;omega
theorem ADh {M x k:Nat} (hx:x<256):∃ h B,(M*256^(k+1)) / 2^(64*(k / 8)) % 2^64=h*2^(8*(k % 8)+8)∧x*2^(8*(k % 8))=B∧B<2^(8*(k % 8)+8)∧h*2^(8*(k % 8)+8)<2^64 ∧
  (M*256^(k+1)+x*256^k) / 2^(64*(k / 8)) % 2^64=h*2^(8*(k % 8)+8)+B:=by
 rw [NB,NB];have e0:2^(8*k)=2^(64*(k / 8))*2^(8*(k % 8)):=by rw [← gp];congr 1;omega
 have e1:2^(8*(k+1))=2^(64*(k / 8))*2^(8*(k % 8)+8):=by rw [← gp];congr 1;omega
 have e2:(2:Nat)^64=2^(8*(k % 8)+8)*2^(56-8*(k % 8)):=by rw [← gp];congr 1;omega
 have e3:2^(8*(k % 8)+8)=2^(8*(k % 8))*256:=by rw [gp]
 have hp:0<2^(64*(k / 8)):=jr dm
 have q1:M*2^(8*(k+1)) / 2^(64*(k / 8))=M*2^(8*(k % 8)+8):=by
  rw [e1,jt,Nat.mul_div_cancel_left _ hp]
 have q2:(M*2^(8*(k+1))+x*2^(8*k)) / 2^(64*(k / 8))=M*2^(8*(k % 8)+8)+x*2^(8*(k % 8)):=by
  rw [e1,e0,jt M,jt x,← kf,Nat.mul_div_cancel_left _ hp]
 rw [q1,q2];have hB:x*2^(8*(k % 8))<2^(8*(k % 8)+8):=by
  rw [e3,gw];exact Nat.mul_lt_mul_of_pos_left hx (jr dm)
 have m1:M*2^(8*(k % 8)+8) % 2^64=M % 2^(56-8*(k % 8))*2^(8*(k % 8)+8):=by
  rw [e2,gw M,Nat.mul_mod_mul_left,gw]
 have hlt:M % 2^(56-8*(k % 8))*2^(8*(k % 8)+8)+2^(8*(k % 8)+8)≤2^64:=by
  have:=gu M (show 0<2^(56-8*(k % 8)) from jr dm)
  have h2:=jp (2^(8*(k % 8)+8)) (show M % 2^(56-8*(k % 8))+1≤2^(56-8*(k % 8)) from this)
  rw [iz,mb,gw (2^(56-8*(k % 8))),← e2] at h2;exact h2
 have hp2:0<2^(8*(k % 8)+8):=jr dm
 refine ⟨M % 2^(56-8*(k % 8)),_,m1,rfl,hB,dl,?_⟩
 rw [kv,m1];have:x*2^(8*(k % 8)) % 2^64=x*2^(8*(k % 8)):=ge dl
 rw [this,ge dl]
def Tg (n:Nat):Nat:=(wI (Int.tdiv (wI ((n:Int)+7)) 8)).toNat
noncomputable def AQ0:List Item:=Bv (AW dn (AG S26 K0) (some 0) 100 1 none (Ah Tryz.f91 [AP 0 0 0 0] (Ax []) 1 []))
noncomputable def Wq (off n c:Nat) (xs:dp) (L:Nat) (ys:dp) (i:AV) (p:List Bool):ASt:=⟨AQ0,⟨DT Tryz.f91.ntmps [(0,AP 0 off n c),(3,AP 1 0 L L),(11,AP 1 0 L L),(12,AP 0 off n c),(13,iA n),(14,i)],
 [(0,some (Am [.seq .u8 xs])),(1,some ⟨38,[.seq .u64 ys],false⟩)],2,p⟩⟩
abbrev ADi:Option (List Nat×List Nat×Nat):=some ([0,3,11,12,13,14],[0,1],2)
theorem AQ1 (off n c:Nat) (xs:dp):AW dn (AG S26 K0) (some 0) 100 1 ADi (Ah Tryz.f91 [AP 0 off n c] (Ax xs) 1 []) =
 some ([(AJ .i64 n,true),(true,true),(O7 (wI (Int.tdiv (wI ((n:Int)+7)) 8)) 8,true),(AJ .i64 n,true)],[],Wq off n c xs (Tg n) (List.replicate (Tg n) 0) (.val false [.n .i64 0]) []):=dk
def ET (n i:Int):Int:=wI (Int.tdiv (HO n i) 8)
def pP (xs:dp) (off:Nat) (n:Int) (ys:dp) (i:Int):Int :=
 bits .or .u64 (ys.getD (0+(ET n i).toNat*1) 0) (IntKind.u64.wrap (AU false .u64 (xs.getD (off+i.toNat*1) 0)*2^min (wI (8*Int.tmod (HO n i) 8)).toNat 64))
def ADj (off n:Nat) (xs:dp) (L:Nat) (ys:dp) (i:Int):dr:=[(decide (i<n),true),(decide (0≤i∧i<n),true),(decide (off+i.toNat*1<xs.length),true),(AJ .i64 n,true),(true,true),
 (decide (0≤ET n i∧ET n i<L),true),(decide (0+(ET n i).toNat*1<ys.length),true),(decide (0≤HO n i∧(0:Int)<8),true),(decide (0≤wI (8*Int.tmod (HO n i) 8)),true),(decide (0≤ET n i∧ET n i<L),true),(decide (0+(ET n i).toNat*1<ys.length),true)]
theorem AQ2 (off n c:Nat) (xs:dp) (L:Nat) (ys:dp) (i:Int):AW dn (AG S26 K0) (some 0) 100 1 ADi (Wq off n c xs L ys (iA i) dw) =
 some (ADj off n xs L ys i,[],Wq off n c xs L (ys.set (0+(ET n i).toNat*1) (pP xs off n ys i)) (iA (wI (i+1))) []):=dk
def aB (ys:dp):Heap:=[(1,some ⟨38,[.seq .u64 ys],false⟩)]
theorem AQ3 (off n c:Nat) (xs:dp) (L:Nat) (ys:dp) (i:Int):AR dn (AG S26 K0) Tryz.f91 100 1 [1] (Wq off n c xs L ys (iA i) du) =
 some ([(decide (i<n),false)],[],AP 1 0 L L,aB ys):=dk
def DU (N L:Nat):dp:=(List.range L).map (AE N)
theorem ADk {N N' L j:Nat} {w:Int} (hj:AE N' j=w) (ho:∀ i,i≠j→AE N' i=AE N i):(DU N L).set j w=DU N' L:=by
 unfold DU;refine og (by simp) fun i h1 h2=>?_
 rw [List.getElem_set];split
 ·rename_i e;subst e;simp [hj]
 ·rename_i e;simp [ho i (fun h=>e h.symm)]
theorem ADl {N L j:Nat} (h:j<L):(DU N L).getD j 0=AE N j:=by simp [DU,List.getD_eq_getElem?_getD,h]
theorem ADm (L:Nat):DU 0 L=List.replicate L 0:=by
 unfold DU;refine og (by simp) fun i h1 h2=>?_
 simp [AE]
theorem ADn {N L:Nat} (h:N<2^(64*L)):AI (DU N L)=N:=by
 have:=AO3 (S:=N) (L:=L) h
 unfold outL AA at this;rw [kw,List.replicate_zero,iq,mc,ko (by simp)] at this
 exact this
theorem ADo {n:Nat} (hn:n≤35184372088832):Tg n=(n+7) / 8∧wI (Int.tdiv (wI ((n:Int)+7)) 8)=(((n+7) / 8:Nat):Int):=by
 have e:wI ((n:Int)+7)=((n+7:Nat):Int):=by rw [Ao dl];omega
 have e2:wI (Int.tdiv (wI ((n:Int)+7)) 8)=(((n+7) / 8:Nat):Int):=by rw [e,Wn];exact Ao dl
 exact ⟨by unfold Tg;rw [e2];omega,e2⟩
def pQ (N L:Nat):Heap:=[(1,some ⟨38,[.num L N],false⟩)]
theorem ADp {N L:Nat} (h:N<2^(64*L)) (β:Env) (l:List Value) (hr:AO β [.seq .u64 (DU N L)] l):AO β [.num L N] l:=by
 obtain ⟨l1,l2,⟨h1,_⟩,h2,h3⟩:=hr;simp only [AO] at h2;subst h2;subst h1;subst h3;refine ⟨_,[],⟨h,rfl⟩,rfl,?_⟩
 simp [DU,words,Function.comp]
theorem ADq {P:Program} {f:FuncId} {β0:Env} {w0:World} {R R':Ending→World→Prop} {W':List Nat} {n:Nat} {x:ASt} (h:ASafe P f β0 w0 R n W' x) (hv:∀ e w,R e w→R' e w):ASafe P f β0 w0 R' n W' x:=by
 intro β a w hi hf b cs q1 q2;obtain ⟨e',w',fr,q5,q4⟩:=h β a w hi hf b cs q1 q2;exact ⟨e',w',fr,hv _ _ q5,q4⟩
theorem AQ4 {off n c:Nat} {xs:dp} (hx:∀ d∈xs,0≤d∧d<256) (hl:off+n≤xs.length) (hn:n≤35184372088832) :
  Ac dn 91 [AP 0 off n c] (Ax xs) 1 [] (AP 1 0 ((n+7) / 8) ((n+7) / 8)) (pQ (Ak (AA xs off n)) ((n+7) / 8)):=by
 have hfin:Ak (AA xs off n)<2^(64*((n+7) / 8)):=by
  have h1:=Tf (AA xs off n) (C3 hx)
  have h2:(AA xs off n).length=n:=by unfold AA;rw [h_,ir];omega
  rw [h2,NB] at h1;exact ik h1 (lu dm dl)
 refine Ay (path:=[]) Tryz.func91 dk dk fun β0 w0 hb=>?_
 obtain ⟨l1,l2⟩:=ADo hn;have hw:AJ .i64 (n:Int)=true:=by simp only [AJ,gi,gc];omega
 refine Ag (AH aA Ab) AB (AQ1 off n c xs) ⟨hw,rfl,?_,hw,trivial⟩ (AQ dk) hb ft fun _=>?_
 ·rw [l2];unfold O7;simp only [gc];omega
 ·rw [l1];refine Hv ?_
  have hlen:(AA xs off n).length=n:=by unfold AA;rw [h_,ir];omega
  have hbd:∀ d∈AA xs off n,0≤d∧d<256:=C3 hx
  have loop:∀ r i,i+r=n→ASafe dn 91 β0 w0 (A4 β0 w0 [] (AP 1 0 ((n+7) / 8) ((n+7) / 8)) (aB (DU (Ak (AA xs off n)) ((n+7) / 8)))) Tryz.f91.ntmps []
    (Wq off n c xs ((n+7) / 8) (DU (Ak ((AA xs off n).take i)*256^(n-i)) ((n+7) / 8)) (iA i) []):=by
   intro r;induction r with
   | zero =>
    intro i hi;obtain rfl:i=n:=dl
    rw [kw,ia,g_,ko dl];exact Ae du (Av (AH aA Ab) AB Tryz.func91 (AQ3 ..) ⟨by simp,trivial⟩ (AQ dk) hb ft)
   | succ r ih =>
    intro i hi;have ek:HO (n:Int) i=((n-1-i:Nat):Int):=pM hn dl
    have ej:ET (n:Int) i=(((n-1-i) / 8:Nat):Int):=by unfold ET;rw [ek,Wn];exact Ao dl
    have em:wI (8*Int.tmod ((n-1-i:Nat):Int) 8)=((8*((n-1-i) % 8):Nat):Int):=by rw [Z_,Ao dl];omega
    have hjL:(n-1-i) / 8<(n+7) / 8:=dl
    have hlenw:∀ N,(DU N ((n+7) / 8)).length=(n+7) / 8:=fun N=>by simp [DU]
    have hwx:xs.getD (off+i) 0=(AA xs off n).getD i 0:=(Il dl).symm
    have hxb:0≤(AA xs off n).getD i 0∧(AA xs off n).getD i 0<256:=by
     rw [gy];cases h':(AA xs off n)[i]? with
     | none=>simp
     | some d=>exact hbd d (lg h')
    refine Ae dw (Ag (AH aA Ab) AB (AQ2 ..) ?_ (AQ dk) hb ft fun _=>?_)
    ·unfold ADj;rw [ej,ek,em,hlenw];refine ⟨by simp;omega,by simp;omega,by simp;omega,hw,rfl,by simp only [gc];omega,by simp only [gc];omega,by simp only [gc];omega,by simp only [gc];omega,by simp only [gc];omega,by simp only [gc];omega,trivial⟩
    ·have hset:((DU (Ak ((AA xs off n).take i)*256^(n-i)) ((n+7) / 8)).set (0+(ET n i).toNat*1) (pP xs off n (DU (Ak ((AA xs off n).take i)*256^(n-i)) ((n+7) / 8)) i)) =
       DU (Ak ((AA xs off n).take (i+1))*256^(n-(i+1))) ((n+7) / 8):=by
      have ei:0+(((n-1-i) / 8:Nat):Int).toNat*1=(n-1-i) / 8:=dl
      have eo:off+(i:Int).toNat*1=off+i:=dl
      unfold pP;rw [ej,ek,em,ei,eo,hwx,ADl hjL];obtain ⟨X,hX⟩:=ic hxb.1;have hX2:X<256:=dl
      rw [hX,C7,IntKind.wrap_u64,IntKind.wrap_u64,gj,jn dl];have en:n-i=(n-1-i)+1:=dl
      have en':n-(i+1)=n-1-i:=dl
      have et:Ak ((AA xs off n).take (i+1))*256^(n-(i+1))=Ak ((AA xs off n).take i)*256^(n-1-i+1)+X*256^(n-1-i):=by
       rw [ADf dl,hX,gj,en',iz,iw,← pi]
      rw [et,en];obtain ⟨hh,B,w1,w2,w3,w4,w5⟩:=ADh (M:=Ak ((AA xs off n).take i)) (k:=n-1-i) hX2
      refine ADk ?_ fun j hj=>?_
      ·have hle:8*((n-1-i) % 8)+8≤64:=dl
       have hB64:X*2^(8*((n-1-i) % 8))<2^64:=by
        rw [w2];exact ik w3 (lu dm hle)
       have ex:((X:Int) % 18446744073709551616*2^(8*((n-1-i) % 8))) % 18446744073709551616=(B:Int):=by
        have a1:((X:Int) % 18446744073709551616)=(X:Int):=dl
        have a2:((X:Int)*2^(8*((n-1-i) % 8)))=((X*2^(8*((n-1-i) % 8)):Nat):Int):=by rw [iy,ml];rfl
        rw [a1,a2,w2];rw [w2] at hB64;have:B<18446744073709551616:=hB64
        omega
       rw [ex];have eo:=pJ (h:=hh) (s:=8*((n-1-i) % 8)+8) (B:=B) w4 w3 hle
       unfold AE;rw [w5,w1];exact eo.symm
      ·unfold AE;rw [ADg hX2 hj]
     rw [hset,Ao (z:=(i:Int)+1) dl];exact ih (i+1) dl
  have:=loop n 0 dl
  rw [List.take_zero,show Ak []=0 from rfl,mw,ADm] at this
  exact ADq this fun e w h=>WP (ADp hfin) h
def wrdSpec:ASpec:=fun args H fr path =>
 match args with
 | [.val false [.sl k off n _]]=>match AF H k with
  | some ⟨_,cs,_⟩=>match Az .u8 cs with
   | some xs=>some (BI [k] 1 fr 1 [] (AP 1 0 ((n+7) / 8) ((n+7) / 8)) (pQ (Ak (AA xs off n)) ((n+7) / 8)) [(Nat.ble (off+n) xs.length,true),(Nat.ble n 35184372088832,true)] path)
   | none=>none
  | _=>none
 | _=>none
theorem ADr {a:Int} (h:has .u8 a):0≤a∧a<256:=by
 have:=(E7 _ _).1 h
 simp only [AJ,gi,gc] at this;omega
theorem ED {β:Env} {H:Heap} {w:World} {k:Nat} {ty:Nat} {cs:List Ch} {o:Bool} {xs:dp} (hg:Ex.Good β H w) (hk:AF H k=some ⟨ty,cs,o⟩) (hxs:Az .u8 cs=some xs) :
  (∀ d∈xs,0≤d∧d<256)∧Ex.Good (A3 β [k] 1) (Ax xs) w∧(∀ j,j<1→∃ X,β (nth [k] j)=some X):=by
 obtain ⟨l,g1⟩:=JE hg hk;obtain ⟨_,g2⟩:=C8 hxs g1;refine ⟨fun d hd=>ADr (g2 d hd),Zm (c:=[.seq .u8 xs]) hg hk (fun l h=>?_),fun j hj=>?_⟩
 ·obtain ⟨q1,q2⟩:=C8 hxs h;exact ⟨_,[],⟨q1,q2⟩,rfl,by simp⟩
 ·match j,hj with
  | 0,_=>exact CC (hg.heap _ _ hk)
theorem AQ5:A' dn 91 wrdSpec:=by
 refine GQ Tryz.func91 dk dk fun args H fr path r h=>?_
 unfold wrdSpec at h;split at h;case h_2=>cases h
 rename_i k off n c;split at h;case h_2=>cases h
 rename_i ty cs o hk;split at h;case h_2=>cases h
 rename_i xs hxs;injection h with h;refine ⟨[k],[AP 0 off n c],Ax xs,1,1,[],_,_,_,path,h.symm,fun β us w ha hg hc=>?_⟩
 obtain ⟨u1,us1,r1,ha,rfl⟩:=ha;obtain ⟨g1,g2,g3⟩:=ED hg hk hxs;exact ⟨AQ4 g1 (f_ hc.1) (f_ hc.2.1),dk,⟨u1,_,r1,ha,rfl⟩,g2,g3⟩
noncomputable def S27:dt:=(91,wrdSpec)::S26
theorem Wr:AT dn S27:=⟨AQ5,aA⟩
def pS (x:Nat):AV:=.val true [.seq .u8 (CI x 48)]
theorem AQ6 (a:Nat):AK dn (AG S27 K0) Tryz.f111 [AY a] [] 300 =
 some (JD 4,pS (AI (AA (Im (a % pN)) 0 6))):=dk
theorem AQ7 (a:Nat):AS dn 111 [AY a] (pS (a % pN)):=by
 have h:=AN (AH Wr Ab) AB Tryz.func111 (AQ6 a) ⟨rfl,rfl,rfl,rfl,trivial⟩ rfl
 rw [oU (KM a)] at h;exact h
def F8 (n N:Nat):Nat:=if n=48∧N<pN then N else 0
def HP (n N:Nat):Int:=if n=48 then (if N<pN then 0 else 41) else 40
def Hx (n N:Nat):AV:=.tup [(true,[.num 6 (F8 n N)]),(false,[.v (.int .i64 (HP n N))])]
def aC (e:Int):AV:=.tup [(true,HE),(false,[.n .i64 e])]
theorem AQ8 (off n m:Nat) (xs:dp):AR dn (AG S27 K0) Tryz.f128 300 1 [] (Ah Tryz.f128 [AP 0 off n m] (Ax xs) 1 dw) =
 some ([(AJ .i64 n,true),(!decide ((n:Int)=48),true)],[],aC 40,[]):=dk
theorem AQ9 (off m:Nat) (xs:dp):AR dn (AG S27 K0) Tryz.f128 300 1 [] (Ah Tryz.f128 [AP 0 off 48 m] (Ax xs) 1 dz) =
 some ([(true,true),(false,false),(Nat.ble (off+48) xs.length,true),(true,true),(true,true),(!decide (Ak (AA xs off 48) % pN=Ak (AA xs off 48)),true)],[],aC 41,[]):=dk
theorem AQ_ (off m:Nat) (xs:dp):AR dn (AG S27 K0) Tryz.f128 300 1 [] (Ah Tryz.f128 [AP 0 off 48 m] (Ax xs) 1 d_) =
 some ([(true,true),(false,false),(Nat.ble (off+48) xs.length,true),(true,true),(true,true),(!decide (Ak (AA xs off 48) % pN=Ak (AA xs off 48)),false)],[],.tup [(true,[.num 6 (Ak (AA xs off 48))]),(false,[.n .i64 0])],[]):=dk
theorem CZ {β β':Env} {g g':Bool} {a a' b b':List Ch} {u:Value} (h1:∀ v,Bi β g a v→Bi β' g a' v) (h2:∀ v,Bi β g' b v→Bi β' g' b' v) (h:AL β (.tup [(g,a),(g',b)]) u):AL β' (.tup [(g,a'),(g',b')]) u:=by
 obtain ⟨us,⟨u1,l1,q1,⟨u2,l2,q2,q3,q4⟩,q5⟩,q6⟩:=h;exact ⟨us,⟨u1,l1,h1 _ q1,⟨u2,l2,h2 _ q2,q3,q4⟩,q5⟩,q6⟩
theorem Ws {β:Env} {v:Value} (h:Bi β true HE v):Bi β true [.num 6 0] v:=by
 obtain ⟨l,q,rfl⟩:=h;exact ⟨l,FZ (k:=6) (x:=0) dk q,rfl⟩
theorem D8 {β:Env} {k:IntKind} {i j:Int} {v:Value} (e:i=j) (h:Bi β false [.n k i] v):Bi β false [.v (.int k j)] v:=Qi e h
theorem pT {off n m:Nat} {xs:dp} (hl:off+n≤xs.length) (hn:AJ .i64 n=true) :
  Ac dn 128 [AP 0 off n m] (Ax xs) 1 [] (Hx n (Ak (AA xs off n))) []:=by
 have hmod:∀ N:Nat,decide (N % pN=N)=decide (N<pN):=fun N=>by
  by_cases h:N<pN
  ·rw [fu h,fu (ge h)]
  ·rw [ga h,ga fun e=>h (by rw [← e];exact HF N)]
 by_cases h:n=48
 ·subst h;by_cases hN:Ak (AA xs off 48)<pN
  ·refine BA (Ay (path:=d_) Tryz.func128 dk dk fun β0 w0 hb =>
    Av (AH Wr Ab) AB Tryz.func128 (AQ_ off m xs) ⟨rfl,rfl,gb hl,rfl,rfl,by rw [hmod,fu hN];rfl,trivial⟩ (AQ dk) hb ft) fun β u hu=>?_
   unfold Hx F8 HP;rw [fw ⟨rfl,hN⟩,fw rfl,fw hN];exact CZ (fun _ q=>q) (fun _ q=>D8 rfl q) hu
  ·refine BA (Ay (path:=dz) Tryz.func128 dk dk fun β0 w0 hb =>
    Av (AH Wr Ab) AB Tryz.func128 (AQ9 off m xs) ⟨rfl,rfl,gb hl,rfl,rfl,by rw [hmod,ga hN];rfl,trivial⟩ (AQ dk) hb ft) fun β u hu=>?_
   unfold Hx F8 HP;rw [fv (fun q=>hN q.2),fw rfl,fv hN]
   exact CZ (fun _ q=>Ws q) (fun _ q=>D8 rfl q) hu
 ·refine BA (Ay (path:=dw) Tryz.func128 dk dk fun β0 w0 hb =>
   Av (AH Wr Ab) AB Tryz.func128 (AQ8 off n m xs) ⟨hn,by simp;omega,trivial⟩ (AQ dk) hb ft) fun β u hu=>?_
  unfold Hx F8 HP;rw [fv (fun q=>h q.1),fv h]
  exact CZ (fun _ q=>Ws q) (fun _ q=>D8 rfl q) hu
def Th (g:Nat→dp→AV):ASpec:=fun args H fr path =>
 match args with
 | [.val false [.sl k off n _]]=>match AF H k with
  | some ⟨_,cs,_⟩=>match Az .u8 cs with
   | some xs=>some (BI [k] 1 fr 0 [] (g n (AA xs off n)) [] [(Nat.ble (off+n) xs.length,true),(AJ .i64 n,true)] path)
   | none=>none
  | _=>none
 | _=>none
theorem pU {f:FuncId} {fn:Func} {g:Nat→dp→AV} (hfn:dn.funcs[f]? = some fn) (hb:fn.body.isSome=true) (hname:(fn.name=="runtime.NumGoroutine")=false) (hk:∀ n l,D5 1 0 [] (g n l) []=true)
  (h:∀ (off n m:Nat) (xs:dp),(∀ d∈xs,0≤d∧d<256)→off+n≤xs.length→AJ .i64 n=true→Ac dn f [AP 0 off n m] (Ax xs) 1 [] (g n (AA xs off n)) []):A' dn f (Th g):=by
 refine GQ hfn hb hname fun args H fr path r hs=>?_
 unfold Th at hs;split at hs;case h_2=>cases hs
 rename_i k off n c;split at hs;case h_2=>cases hs
 rename_i ty cs o hk';split at hs;case h_2=>cases hs
 rename_i xs hxs;injection hs with hs;refine ⟨[k],[AP 0 off n c],Ax xs,1,0,[],_,_,_,path,hs.symm,fun β us w ha hg hc=>?_⟩
 obtain ⟨u1,us1,r1,ha,rfl⟩:=ha;obtain ⟨g1,g2,g3⟩:=ED hg hk' hxs;exact ⟨h off n c xs g1 (f_ hc.1) hc.2.1,hk _ _,⟨u1,_,r1,ha,rfl⟩,g2,g3⟩
noncomputable def S28:dt:=(111,AZ (FY fun x=>pS (x % pN)))::(128,Th fun n l=>Hx n (Ak l))::S27
theorem AQ':AT dn S28:=⟨Aa Tryz.func111 dk dk (GR fun x _=>AQ7 x),pU Tryz.func128 dk dk (fun _ _=>rfl) (fun _ _ _ _ _ hl hn=>pT hl hn),Wr⟩
theorem Ti:∀ (a b:dp),BX (a++b)=BX a+((2^(64*a.length):Nat):Int)*BX b
 | [],b=>by simp [BX]
 | d::a,b=>by
  simp only [kx,BX,ii];rw [Ti a b,show 64*(a.length+1)=64+64*a.length by omega,gp,iy,m_,pj,← Int.add_assoc]
  rfl
theorem Wt (x k:Nat):((x % 2^(64*(k+1)):Nat):Int)=((x % 2^(64*k):Nat):Int)+((2^(64*k):Nat):Int)*AE x k:=by
 rw [show 64*(k+1)=64*k+64 by omega,gp,Nat.mod_mul,mr,iy];rfl
theorem pV (k:Nat):((2^(64*(k+1)):Nat):Int)=((2^(64*k):Nat):Int)*18446744073709551616:=by
 rw [show 64*(k+1)=64*k+64 by omega,gp,iy];rfl
theorem ADs (x y:Nat):∀ k,BX ((List.range k).map (Bq x y))=((x % 2^(64*k):Nat):Int)-((y % 2^(64*k):Nat):Int)+((2^(64*k):Nat):Int)*Bz x y k
 | 0=>by simp [BX,Bz,Nat.mod_one]
 | k+1=>by
  rw [p_,lk,Ti,ADs x y k,Wt,Wt,pV];simp only [i_,List.map_nil,BX,jk,lm,Int.mul_zero,Int.add_zero];rw [QV x y k];generalize ((2^(64*k):Nat):Int)=Q
  simp only [m_,Int.mul_sub,pj];omega
theorem ADt {x y k:Nat} (hx:x<2^(64*k)) (hy:y<2^(64*k)):(((x+(2^(64*k)-y)) % 2^(64*k):Nat):Int)=BX ((List.range k).map (Bq x y)):=by
 have h:=ADs x y k;rw [ge hx,ge hy] at h;have hb:=FX x y k;have hs:∀ (ds:dp),(∀ d∈ds,0≤d∧d<18446744073709551616)→0≤BX ds∧BX ds<((2^(64*ds.length):Nat):Int):=by
  intro ds;induction ds with
  | nil=>intro _;simp [BX]
  | cons d r ih =>
   intro hd;have h1:=hd d (by simp)
   have h2:=ih fun d h=>hd d (by simp [h])
   rw [ii,pV];simp only [BX];omega
 have hr:=hs ((List.range k).map (Bq x y)) (by intro d hd;obtain ⟨i,_,rfl⟩:=jj.1 hd;exact Ey x y i)
 rw [jk,lm,h] at hr;rw [h];generalize 2^(64*k)=Q at *
 have h01:Bz x y k=0∨Bz x y k=1:=dl
 rcases h01 with e | e
 ·rw [e,Int.mul_zero,Int.add_zero] at hr ⊢;have e1:x+(Q-y)=(x-y)+Q:=dl
  rw [e1,ma,ge dl];omega
 ·rw [e,Int.mul_one] at hr ⊢;rw [ge dl];omega
theorem ADu {x y k R:Nat} (hR:R=2^(64*k)) (hx:x<R) (hy:y<R):(((x+(R-y)) % R:Nat):Int)=BX ((List.range k).map (Bq x y)):=by subst hR;exact ADt hx hy
theorem ADv {f:FuncId} {args:List AV} {ds:dp} {y:Nat} (h:AS dn f args (.val true (Li ds))) (e:(y:Int)=BX ds):AS dn f args (.val true [.num ds.length y]):=by
 refine CW h fun u hu=>?_
 obtain ⟨l,q,rfl⟩:=hu;exact ⟨l,Zl e q,rfl⟩
theorem ARA:AK dn (AG S0 K0) Tryz.f148 [] [] 100=some ([],.val true Pw):=dk
theorem ARB:AS dn 148 [] (.val true Pw):=AN (AH Ht Ab) AB Tryz.func148 ARA trivial rfl
def pZ (x y:Nat):Nat→dr
 | 0=>[]
 | k+1=>pZ x y k++[(CB (Bz x y k),true)]
theorem ADw (x y:Nat):∀ k,AM (pZ x y k)
 | 0=>trivial
 | k+1=>by
  have app:∀ (a b:dr),AM a→AM b→AM (a++b):=by
   intro a;induction a with
   | nil=>intro b _ h;exact h
   | cons c a ih=>intro b h1 h2;exact ⟨h1.1,ih b h1.2 h2⟩
  exact app _ _ (ADw x y k) ⟨DG (FX _ _ _),trivial⟩
theorem ARC (x y:Nat):AK dn (AG S1 K0) Tryz.f147 [AY x,AY y] [] 300=some (pZ x y 6,.val true (Li ((List.range 6).map (Bq x y)))):=dk
theorem ARD {x y:Nat} (hx:x<RR) (hy:y<RR):AS dn 147 [AY x,AY y] (AY ((x+(RR-y)) % RR)):=by
 have h:=AN (AH Zd Ab) AB Tryz.func147 (ARC x y) (ADw x y 6) rfl
 exact ADv h (ADu (k:=6) C9 hx hy)
def pW (i:Nat):Int:=PL.getD i 0
def El (q:Int):Nat→Int
 | 0=>0
 | i+1=>mW (JB (pW i) q+C' (EY (pW i) q) (El q i) 0)
def Em (q:Int) (i:Nat):Int:=match Nat.blt i 6 with | true=>CF (EY (pW i) q) (El q i) 0 | false=>CF 0 (El q 6) 0
def Wu (t:Nat) (q:Int):Nat→Int
 | 0=>0
 | i+1=>Hq (AE t i) (Em q i) (Wu t q i)
def p8 (t:Nat) (q:Int) (i:Nat):Int:=Da (AE t i) (Em q i) (Wu t q i)
def p9 (t:Nat) (q:Int):Nat→dr
 | 0=>[]
 | k+1=>p9 t q k++[(true,true),(CB (Wu t q k),true)]
noncomputable def SP:dt:=(148,AZ Zc)::S28
theorem aD:AT dn SP:=⟨Aa Tryz.func148 dk dk (fun args v h=>by
 unfold Zc at h;split at h
 ·injection h with h;subst h;exact ARB
 ·cases h),AQ'⟩
theorem ARE (t:Nat) (q:Int):AK dn (AG SP K0) Tryz.f205 [.val true [.num 7 t],.val false [.v (.int .u64 q)]] [] 600=some (p9 t q 7,.val true (Li ((List.range 7).map (p8 t q)))):=dk
theorem NC {a q c:Int} (ha:0≤a∧a<18446744073709551616) (hq:0≤q∧q<18446744073709551616) (hc:0≤c∧c<18446744073709551616) :
  a*q+c=CF (EY a q) c 0+18446744073709551616*mW (JB a q+C' (EY a q) c 0)∧(0≤CF (EY a q) c 0∧CF (EY a q) c 0<18446744073709551616)∧(0≤mW (JB a q+C' (EY a q) c 0)∧mW (JB a q+C' (EY a q) c 0)<18446744073709551616):=by
 have h:=oB ha hq;simp only [E'];unfold CF C' EY JB;generalize a*q=z at *
 omega
theorem O8 (i:Nat):0≤pW i∧pW i<18446744073709551616:=M5 (ws:=PL) dm i
theorem ND {q:Int} (hq:0≤q∧q<18446744073709551616):∀ i,0≤El q i∧El q i<18446744073709551616
 | 0=>by simp [El]
 | i+1=>(NC (O8 i) hq (ND hq i)).2.2
theorem ADx {q:Nat} (hq:q<18446744073709551616):((pN*q:Nat):Int)=BX ((List.range 7).map (Em q))∧∀ i,i<7→Em (q:Int) i=AE (pN*q) i:=by
 have hq':0≤(q:Int)∧(q:Int)<18446744073709551616:=dl
 have key:((pN*q:Nat):Int)=BX ((List.range 7).map (Em q)):=by
  have e0:pW 0*q+El q 0=Em q 0+18446744073709551616*El q 1:=(NC (O8 0) hq' (ND hq' 0)).1
  have e1:pW 1*q+El q 1=Em q 1+18446744073709551616*El q 2:=(NC (O8 1) hq' (ND hq' 1)).1
  have e2:pW 2*q+El q 2=Em q 2+18446744073709551616*El q 3:=(NC (O8 2) hq' (ND hq' 2)).1
  have e3:pW 3*q+El q 3=Em q 3+18446744073709551616*El q 4:=(NC (O8 3) hq' (ND hq' 3)).1
  have e4:pW 4*q+El q 4=Em q 4+18446744073709551616*El q 5:=(NC (O8 4) hq' (ND hq' 4)).1
  have e5:pW 5*q+El q 5=Em q 5+18446744073709551616*El q 6:=(NC (O8 5) hq' (ND hq' 5)).1
  have z:El q 0=0:=rfl
  have c6:=ND hq' 6;have e6:Em q 6=El q 6:=by show CF 0 (El q 6) 0=_;unfold CF;omega
  have w0:pW 0=0xb9feffffffffaaab:=rfl
  have w1:pW 1=0x1eabfffeb153ffff:=rfl
  have w2:pW 2=0x6730d2a0f6b0f624:=rfl
  have w3:pW 3=0x64774b84f38512bf:=rfl
  have w4:pW 4=0x4b1ba7b6434bacd7:=rfl
  have w5:pW 5=0x1a0111ea397fe69a:=rfl
  rw [w0] at e0;rw [w1] at e1;rw [w2] at e2;rw [w3] at e3;rw [w4] at e4;rw [w5] at e5;show _=Em q 0+18446744073709551616*(Em q 1+18446744073709551616*(Em q 2+18446744073709551616*(Em q 3+18446744073709551616*(Em q 4+18446744073709551616*(Em q 5+18446744073709551616*(Em q 6+18446744073709551616*0))))));rw [iy];unfold pN;omega
 refine ⟨key,fun i hi=>?_⟩
 have hb:∀ d∈(List.range 7).map (Em (q:Int)),0≤d∧d<18446744073709551616:=by
  intro d hd;obtain ⟨j,_,rfl⟩:=jj.1 hd;unfold Em;split
  ·exact (NC (O8 j) hq' (ND hq' j)).2.1
  ·unfold CF;omega
 obtain ⟨h1,_⟩:=WN _ _ hb key;have h2:=gh (fun l=>l.getD i 0) h1
 simp only [jk,lm] at h2;simpa [List.getD_eq_getElem?_getD,hi] using h2
theorem qB {t q:Nat} (hq:q<18446744073709551616):∀ i,i≤7→Wu t q i=Bz t (pN*q) i
 | 0,_=>rfl
 | i+1,h=>by simp only [Wu,Bz];rw [qB hq i dl,(ADx hq).2 i dl]
theorem ARF {t q R:Nat} (hR:R=2^(64*7)) (hp:pN*18446744073709551616<R) (ht:t<R) (hq:q<18446744073709551616):AS dn 205 [.val true [.num 7 t],.val false [.v (.int .u64 q)]] (.val true [.num 7 ((t+(R-pN*q)) % R)]):=by
 have hc:∀ k,k≤7→AM (p9 t q k):=by
  intro k;induction k with
  | zero=>intro _;trivial
  | succ k ih =>
   intro hk;have app:∀ (a b:dr),AM a→AM b→AM (a++b):=by
    intro a;induction a with
    | nil=>intro b _ h;exact h
    | cons c a ih=>intro b h1 h2;exact ⟨h1.1,ih b h1.2 h2⟩
   exact app _ _ (ih dl) ⟨rfl,by rw [qB hq k dl];exact DG (FX _ _ _),trivial⟩
 have h:=AN (AH aD Ab) AB Tryz.func205 (ARE t q) (hc 7 (gd _)) rfl
 have e:(List.range 7).map (p8 t q)=(List.range 7).map (Bq t (pN*q)):=by
  refine kb fun i hi=>?_
  have hi':i<7:=jl.1 hi
  unfold p8 Bq;rw [qB hq i dl,(ADx hq).2 i hi']
 rw [e] at h;have hpq:pN*q<R:=mg (j_ _ dl) hp
 exact ADv h (ADu (k:=7) hR ht hpq)
def R7:Nat:=726838724295606890549323807888004534353641360687318060281490199180639288113397923326191050713763565560762521606266177933534601628614656
theorem ADy:R7=2^(64*7):=dk
theorem lt7:Nat.blt (pN*18446744073709551616) R7=true:=dk
theorem ARH {t q:Nat} (ht:t<R7) (hq:q<18446744073709551616):AS dn 205 [.val true [.num 7 t],.val false [.v (.int .u64 q)]] (.val true [.num 7 ((t+(R7-pN*q)) % R7)]) :=
 ARF ADy (BP.1 lt7) ht hq
def aE (x:Nat):Nat→dr
 | 0=>[]
 | k+1=>aE x k++[(!decide (AE x (5-k)=pW (5-k)),false)]
def qC:Nat→List Bool
 | 0=>[]
 | k+1=>false::qC k
theorem ARI (x k:Nat) (h:k<6):AK dn (AG SP K0) Tryz.f203 [AY x] (qC k++dw) 300 =
  some (aE x k++[(!decide (AE x (5-k)=pW (5-k)),true)],Au (decide (AE x (5-k)<pW (5-k)))):=by
 obtain rfl | rfl | rfl | rfl | rfl | rfl:k=0∨k=1∨k=2∨k=3∨k=4∨k=5:=dl
 all_goals kernel_rfl
theorem ARJ (x:Nat):AK dn (AG SP K0) Tryz.f203 [AY x] (qC 6) 300=some (aE x 6,.val false [.b false]):=dk
theorem aG {a b:dr} (h1:AM a) (h2:AM b):AM (a++b):=by
 induction a with
 | nil=>exact h2
 | cons c a ih=>exact ⟨h1.1,ih h1.2⟩
theorem ADz {x k:Nat} (h:∀ j,j<k→AE x (5-j)=pW (5-j)):AM (aE x k):=by
 induction k with
 | zero=>trivial
 | succ k ih=>exact aG (ih fun j hj=>h j dl) ⟨by simp [h k dl],trivial⟩
theorem AD0 (i:Nat) (h:i<6):pW i=AE pN i:=by
 obtain rfl | rfl | rfl | rfl | rfl | rfl:i=0∨i=1∨i=2∨i=3∨i=4∨i=5:=dl
 all_goals kernel_rfl
theorem qF {x y:Nat} (hx:x<RR) (hy:y<RR):∀ k,k≤6→(∀ j,j<k→AE x (5-j)=AE y (5-j))→x / 2^(64*(6-k))=y / 2^(64*(6-k))
 | 0,_,_=>by
  rw [C9] at hx hy;have gen:∀ K z:Nat,z<2^(64*K)→z / 2^(64*(K-0))=0:=fun K z hz=>by rw [lz];exact jf hz
  exact (gen 6 x hx).trans (gen 6 y hy).symm
 | k+1,hk,h=>by
  have ih:=qF hx hy k dl fun j hj=>h j dl
  have hw:=h k dl;have e:∀ z:Nat,z / 2^(64*(6-(k+1)))=z / 2^(64*(6-k))*2^64+z / 2^(64*(5-k)) % 2^64:=by
   intro z;rw [show 64*(6-k)=64*(5-k)+64 by omega,gp,← iu,show 6-(k+1)=5-k by omega]
   have:=jo (z / 2^(64*(5-k))) (2^64)
   rw [gw] at this;exact this.symm
  unfold AE at hw;rw [e x,e y,ih];omega
theorem ARK {x y k:Nat} (hx:x<RR) (hy:y<RR) (hk:k<6) (h:∀ j,j<k→AE x (5-j)=AE y (5-j)) (hne:AE x (5-k)≠AE y (5-k)):decide (AE x (5-k)<AE y (5-k))=decide (x<y):=by
 have ht:=qF hx hy k dl h;have es:∀ z:Nat,z / 2^(64*(5-k))=z / 2^(64*(6-k))*2^64+z / 2^(64*(5-k)) % 2^64:=by
  intro z;rw [show 64*(6-k)=64*(5-k)+64 by omega,gp,← iu]
  have:=jo (z / 2^(64*(5-k))) (2^64)
  rw [gw] at this;exact this.symm
 have e1:=es x;have e2:=es y;rw [ht] at e1;unfold AE at hne ⊢
 by_cases hl:((x / 2^(64*(5-k)) % 2^64:Nat):Int)<((y / 2^(64*(5-k)) % 2^64:Nat):Int)
 ·rw [fu hl,fu (TY (Q:=2^(64*(5-k))) dl)]
 ·have:y<x:=TY (Q:=2^(64*(5-k))) dl
  rw [ga hl,ga dl]
theorem ARL {x y:Nat} (hx:x<RR) (hy:y<RR) (h:∀ j,j<6→AE x (5-j)=AE y (5-j)):x=y:=by
 have ht:=qF hx hy 6 (gd _) h
 rwa [kw,je,ia,ig,ig] at ht
theorem Tj:pN<RR:=dm
theorem ARM {P:Program} {f:FuncId} {args:List AV} {a b:Bool} (h:AS P f args (Au a)) (e:a=b):AS P f args (Au b):=by rw [← e];exact h
theorem ARN {x k:Nat} (hx:x<RR) (hk:k<6) (h:∀ j,j<k→AE x (5-j)=pW (5-j)) (hne:AE x (5-k)≠pW (5-k)):AS dn 203 [AY x] (Au (decide (x<pN))):=by
 have hrun:=AN (AH aD Ab) AB Tryz.func203 (ARI x k hk) (aG (ADz h) ⟨by rw [ga hne];rfl,trivial⟩) rfl
 refine ARM hrun ?_
 have e:∀ j,j<6→pW (5-j)=AE pN (5-j):=fun j _=>AD0 _ dl
 rw [e k hk] at hne ⊢;exact ARK hx Tj hk (fun j hj=>(h j hj).trans (e j dl)) hne
theorem ARO {x:Nat} (hx:x<RR) (h:∀ j,j<6→AE x (5-j)=pW (5-j)):AS dn 203 [AY x] (Au (decide (x<pN))):=by
 have e:∀ j,j<6→pW (5-j)=AE pN (5-j):=fun j _=>AD0 _ dl
 have hq:decide (x<pN)=false:=by
  have:=ARL hx Tj fun j hj=>(h j hj).trans (e j hj)
  exact ga (by rw [this];exact nj _)
 rw [hq];refine CW (AN (AH aD Ab) AB Tryz.func203 (ARJ x) (ADz h) rfl) fun u hu=>?_
 obtain ⟨l1,l2,h1,h3,h4⟩:=hu;exact ⟨l1,l2,⟨h1,rfl,trivial⟩,h3,h4⟩
theorem ARP {x:Nat} (hx:x<RR):AS dn 203 [AY x] (Au (decide (x<pN))):=by
 have key:∀ r k,k+r=6→(∀ j,j<k→AE x (5-j)=pW (5-j))→AS dn 203 [AY x] (Au (decide (x<pN))):=by
  intro r;induction r with
  | zero =>
   intro k hk h;exact ARO hx fun j hj=>h j dl
  | succ r ih =>
   intro k hk h;by_cases hw:AE x (5-k)=pW (5-k)
   ·exact ih (k+1) dl fun j hj=>by
     rcases gt j k with h1 | h1
     ·exact h j h1
     ·rw [show j=k by omega];exact hw
   ·exact ARN hx dl h hw
 exact key 6 0 dl fun j hj=>dl
noncomputable def SQ:dt:=(147,AZ (KL fun x y=>AY ((x+(RR-y)) % RR)))::(203,AZ (FY fun x=>Au (decide (x<pN))))::SP
theorem aH:AT dn SQ:=⟨Aa Tryz.func147 dk dk (M0 fun _ _ hx hy=>ARD hx hy),Aa Tryz.func203 dk dk (GR fun _ hx=>ARP hx),aD⟩
noncomputable def ARQ:List Item:=Bv (AW dn (AG SQ K0) (some 0) 100 0 none (Ah Tryz.f141 [AY 0] [] 0 []))
noncomputable def Wv (x:Nat) (p:List Bool):ASt:=⟨ARQ,⟨DT Tryz.f141.ntmps [(1,.val false [.p 0 0]),(2,.val false [.p 1 0])],[(0,some ⟨40,[.num 6 x],false⟩),(1,some ⟨40,HE,false⟩)],2,p⟩⟩
abbrev rrK:Option (List Nat×List Nat×Nat):=some ([1,2],[0,1],2)
theorem ARR (x:Nat):AW dn (AG SQ K0) (some 0) 100 0 rrK (Ah Tryz.f141 [AY x] [] 0 [])=some ([],[],Wv x []):=dk
theorem ARS (x:Nat):AW dn (AG SQ K0) (some 0) 100 0 rrK (Wv x dw)=some ([(!decide (x<pN),true)],[],Wv ((x+(RR-pN)) % RR) []):=dk
theorem ART (x:Nat):EX dn (AG SQ K0) Tryz.f141 100 0 (Wv x du)=some ([(!decide (x<pN),false)],[],AY x):=dk
theorem ARU (w0:World) (v:Nat):∀ (x:Nat),x<RR→x % pN=v→ASafe dn 141 By w0 (HC w0 (AY v)) Tryz.f141.ntmps [] (Wv x []):=by
 intro x;induction x using Nat.strongRecOn with
 | _ x ih =>
  intro hx hv;rcases gt x pN with hlt | hge
  ·rw [ge hlt] at hv;subst hv;exact Ae du (Hr (AH aH Ab) AB Tryz.func141 (ART x) ⟨by simp [hlt],trivial⟩ (AQ dk) (fun _ _=>rfl) rfl)
  ·have hp:=Cs;have hpR:pN≤RR:=dm
   refine Ae dw (Ag (AH aH Ab) AB (ARS x) ⟨by simp;omega,trivial⟩ (AQ dk) (fun _ _=>rfl) ft fun _=>?_)
   have e:(x+(RR-pN)) % RR=x-pN:=by rw [show x+(RR-pN)=(x-pN)+RR by omega,ma,ge dl]
   rw [e];exact ih (x-pN) dl dl (by rw [← hv,← qh hge])
theorem AD2 {x:Nat} (hx:x<RR):AS dn 141 [AY x] (AY (x % pN)) :=
 Mu (path:=[]) Tryz.func141 dk dk fun w0=>Ag (AH aH Ab) AB (ARR x) trivial (AQ dk) (fun _ _=>rfl) ft fun _=>ARU w0 _ x hx rfl
def Ww (t q:Nat):Nat:=(t+(R7-pN*q)) % R7
def qG:List AV→Option AV
 | [.val true a,B]=>match C0 7 a,Bg (some B) with
  | some x,some (_,.u64,h)=>some (.val true [.num 7 (Ww x h.toNat)])
  | _,_=>none
 | _=>none
theorem ARV:∀ args v,qG args=some v→AS dn 205 args v:=by
 intro args v h us w ha;unfold qG at h;split at h;case h_2=>cases h
 rename_i a B;split at h;case h_2=>cases h
 rename_i x c h0 hx hy;injection h with h;subst h;obtain ⟨u1,us1,r1,⟨u2,us2,r2,ha,rfl⟩,rfl⟩:=ha;obtain ⟨q0,q1,hlt⟩:=Mx hx r1;obtain ⟨q2,h2⟩:=TR hy r2;have bh:=D3 h2;obtain ⟨q,rfl⟩:=ic bh.1;have hq:q<18446744073709551616:=by
  clear hlt;omega
 exact ARH (ADy▸hlt) hq _ w ⟨u1,_,q0,⟨u2,_,q2,ha,rfl⟩,rfl⟩
noncomputable def SR:dt:=(141,AZ (FY fun x=>AY (x % pN)))::(205,AZ qG)::SQ
theorem aI:AT dn SR:=⟨Aa Tryz.func141 dk dk (GR fun _ hx=>AD2 hx),Aa Tryz.func205 dk dk ARV,aH⟩
abbrev nxK:Option (List Nat×List Nat×Nat):=some ([4,6],[1,3],4)
noncomputable def ARW:List Item:=Bv (AW dn (AG SR K0) (some 0) 100 0 none (Ah Tryz.f143 [AY 0,uV 0] [] 0 []))
noncomputable def Wx (T:Nat) (p:List Bool):ASt:=⟨ARW,⟨DT Tryz.f143.ntmps [(4,.val false [.p 1 0]),(6,.val false [.p 3 0])],[(1,some ⟨40,HE,false⟩),(3,some ⟨188,[.num 7 T],false⟩)],4,p⟩⟩
def aJ (a4 a5:Int):Nat:=Int.toNat (((a5.toNat*CY+a4.toNat) / Int.toNat (mW (1873798617647539866+1)):Nat):Int)
theorem ARX (a4 a5:Int):aJ a4 a5=(a5.toNat*CY+a4.toNat) / 1873798617647539867:=by
 unfold aJ;rw [gj];rfl
theorem ARY (a0 a1 a2 a3 a4 a5 w:Int):AW dn (AG SR K0) (some 0) 100 0 nxK (Ah Tryz.f143 [.val true (w6 a0 a1 a2 a3 a4 a5),uV w] [] 0 []) =
 some ([(decide (a5<1873798617647539867),true)],[],Wx (Ww (AI [w,a0,a1,a2,a3,a4,a5]) (aJ a4 a5)) []):=dk
theorem ARZ (T:Nat):AW dn (AG SR K0) (some 0) 100 0 nxK (Wx T dw)=some ([(decide (0<AE T 6),true)],[],Wx (Ww T 1) []):=dk
theorem ARa (T:Nat):EX dn (AG SR K0) Tryz.f143 100 0 (Wx T du)=some ([(decide (0<AE T 6),false)],[],AY (AI ((List.range 6).map (AE T)) % pN)):=dk
theorem AD4 {T q:Nat} (hT:T<R7) (h:pN*q≤T):Ww T q=T-pN*q:=by
 unfold Ww;generalize R7=Q at *
 rw [show T+(Q-pN*q)=(T-pN*q)+Q by omega,ma,ge dl]
theorem qJ {x k:Nat} (h:x<2^(64*k)):AI ((List.range k).map (AE x))=x:=ADn h
theorem p7:R7=RR*18446744073709551616:=dk
theorem p5':RR=2^(64*5)*2^64:=dk
theorem ARc (w0:World) (v:Nat):∀ (T:Nat),T<R7→T % pN=v→ASafe dn 143 By w0 (HC w0 (AY v)) Tryz.f143.ntmps [] (Wx T []):=by
 intro T;induction T using Nat.strongRecOn with
 | _ T ih =>
  intro hT hv;have hw:AE T 6=((T / RR:Nat):Int):=by
   unfold AE;rw [← C9,ge];refine jb ?_
   rw [p7] at hT;exact hT
  by_cases h:0<T / RR
  ·have hp:=Cs;have hpR:=Tj;have hR:0<RR:=dm
   have hge:RR≤T:=by
    rcases gt T RR with h1 | h1
    ·rw [jf h1] at h;omega
    ·exact h1
   refine Ae dw (Ag (AH aI Ab) AB (ARZ T) ⟨by rw [hw];simp only [gc];omega,trivial⟩ (AQ dk) (fun _ _=>rfl) ft fun _=>?_)
   rw [AD4 hT dl,g_];exact ih (T-pN) dl dl (by rw [← hv,← qh dl])
  ·have hlt:T<RR:=by
    rcases gt T RR with h1 | h1
    ·exact h1
    ·exact absurd (Nat.div_pos h1 dm) h
   have:=Hr (w0:=w0) (β0:=By) (n:=Tryz.f143.ntmps) (AH aI Ab) AB Tryz.func143 (ARa T) ⟨by rw [hw];simp only [decide_eq_false_iff_not];omega,trivial⟩ (AQ dk) (fun _ _=>rfl) rfl
   rw [qJ (by rw [← C9];exact hlt),hv] at this
   exact Ae du this
theorem AD5:Nat.blt pN (2^(64*5)*1873798617647539867)=true:=dk
theorem AD6 (k j:Nat) (h:j=k+1):2^(64*j)=2^(64*k)*18446744073709551616:=by
 subst h;rw [show 64*(k+1)=64*k+64 by omega,gp]
theorem ARd (x k j:Nat) (h:j=k+1):x / 2^(64*j)*CY+(AE x k).toNat=x / 2^(64*k):=by
 rw [AD6 k j h,← iu];have:=jo (x / 2^(64*k)) 18446744073709551616
 unfold AE CY;rw [gj];omega
theorem ARe (P:Nat) (h:Nat.blt pN (P*1873798617647539867)=true):pN≤1873798617647539867*P:=by rw [gw];exact Nat.le_of_lt (BP.1 h)
theorem ARf {p q A P Q x w:Nat} (hp:p≤1873798617647539867*P) (h1:q*1873798617647539867≤A) (h2:A*Q≤x) (e:P=Q*18446744073709551616):p*q≤w+18446744073709551616*x:=by
 calc p*q≤(1873798617647539867*P)*q:=jp _ hp
  _=(q*1873798617647539867)*P:=by rw [gw,iw]
  _≤A*P:=jp _ h1
  _=(A*Q)*18446744073709551616:=by rw [e,iw]
  _≤x*18446744073709551616:=jp _ h2
  _≤w+18446744073709551616*x:=by rw [gw];exact Nat.le_add_left _ _
theorem ARg {x w:Nat} (hx:x<pN) (hw:w<18446744073709551616):AS dn 143 [AY x,uV w] (AY ((w+18446744073709551616*x) % pN)):=by
 have hpR:=Tj;have h5:AE x 5=((x / 2^(64*5):Nat):Int):=by
  unfold AE;rw [ge];have h:x<2^(64*5)*2^64:=by rw [← p5'];exact jy hx Tj
  exact jb h
 have hlt5:x / 2^(64*5)<1873798617647539867:=by
  refine jb (jy hx ?_)
  exact BP.1 AD5
 have h4:(AE x 5).toNat*CY+(AE x 4).toNat=x / 2^(64*4):=by
  rw [h5,gj];exact ARd x 4 5 rfl
 have hT:AI [(w:Int),AE x 0,AE x 1,AE x 2,AE x 3,AE x 4,AE x 5]=w+18446744073709551616*x:=by
  have:=qJ (x:=x) (k:=6) (by rw [← C9];omega)
  show (w:Int).toNat+18446744073709551616*AI [AE x 0,AE x 1,AE x 2,AE x 3,AE x 4,AE x 5]=_;rw [gj];exact gh (fun z=>w+18446744073709551616*z) this
 have hT7:w+18446744073709551616*x<R7:=by rw [p7];omega
 have hq:pN*aJ (AE x 4) (AE x 5)≤w+18446744073709551616*x:=by
  refine ARf (ARe (2^(64*5)) AD5) ?_ (nr x (2^(64*4))) (AD6 4 5 rfl)
  rw [ARX,h4];exact nr _ _
 intro us w1 ⟨u1,us1,r1,r2,r3⟩
 refine Mu (args:=[.val true (w6 (AE x 0) (AE x 1) (AE x 2) (AE x 3) (AE x 4) (AE x 5)),uV w]) (path:=[]) Tryz.func143 dk dk (fun w0=>?_) us w1 ⟨u1,us1,?_,r2,r3⟩
 case refine_2 =>
  have:=(Mx (k:=6) (a:=[.num 6 x]) ANi r1).2.1
  rwa [nV] at this
 refine Ag (AH aI Ab) AB (ARY (AE x 0) (AE x 1) (AE x 2) (AE x 3) (AE x 4) (AE x 5) w) ⟨by rw [h5];simp only [gc];omega,trivial⟩ (AQ dk) (fun _ _=>rfl) ft fun _=>?_
 rw [hT,AD4 hT7 hq];refine ARc w0 _ _ dl ?_
 exact Nat.sub_mul_mod hq
def qK:List AV→Option (dr×AV)
 | [.val true a,B]=>match C0 6 a,Bg (some B) with
  | some x,some (_,.u64,w)=>some ([(decide (x<pN),true)],AY ((w.toNat+18446744073709551616*x) % pN))
  | _,_=>none
 | _=>none
theorem ARh:∀ args c v,qK args=some (c,v)→AM c→AS dn 143 args v:=by
 intro args cs v h hc us w ha;unfold qK at h;split at h;case h_2=>cases h
 rename_i a B;split at h;case h_2=>cases h
 rename_i x c h0 hx hy;injection h with h;injection h with h1 h2;subst h1;subst h2;obtain ⟨u1,us1,r1,⟨u2,us2,r2,ha,rfl⟩,rfl⟩:=ha;obtain ⟨q0,q1,hlt⟩:=Mx hx r1;obtain ⟨q2,h2⟩:=TR hy r2;have bh:=D3 h2;obtain ⟨q,rfl⟩:=ic bh.1;exact ARg (gv hc.1) dl _ w ⟨u1,_,q0,⟨u2,_,q2,ha,rfl⟩,rfl⟩
noncomputable def ST:dt:=(143,Ez qK)::SR
theorem qL:AT dn ST:=⟨Ft Tryz.func143 dk dk ARh,aI⟩
def qN:Heap→Heap→Prop
 | [],[]=>True
 | (k,some b)::r,(k',some b')::r'=>k=k'∧b'.ty=b.ty∧b'.opn=b.opn∧(∀ β l,AO β b.cs l→AO β b'.cs l)∧qN r r'
 | _,_=>False
theorem aK:∀ {H H':Heap} {j:Nat} {d:Blk},qN H H'→AF H' j=some d→∃ b,AF H j=some b∧d.ty=b.ty∧d.opn=b.opn∧∀ β l,AO β b.cs l→AO β d.cs l
 | [],[],_,_,_,h=>by cases h
 | (k,some b)::r,(k',some b')::r',j,d,⟨e,h1,h2,h3,h4⟩,h=>by
  subst e;simp only [AF] at h ⊢;split at h
  ·rename_i hk;injection h with h;subst h;exact ⟨b,rfl,h1,h2,h3⟩
  ·rename_i hk;exact aK h4 h
 | [],_::_,_,_,h,_=>by cases h
 | (_,none)::_,_,_,_,h,_=>by cases h
 | (_,some _)::_,[],_,_,h,_=>by cases h
 | (_,some _)::_,(_,none)::_,_,_,h,_=>by cases h
theorem NE {P:Program} {f:FuncId} {β0:Env} {w0:World} {R:Ending→World→Prop} {n:Nat} {W:List Nat} {todo:List Item} {T:List AV} {H H':Heap} {fr:Nat} {p:List Bool} (hi:qN H H') (h:ASafe P f β0 w0 R n W ⟨todo,⟨T,H',fr,p⟩⟩):ASafe P f β0 w0 R n W ⟨todo,⟨T,H,fr,p⟩⟩:=by
 intro β a w hv hf;refine h β a w { hv with good:=⟨fun b blk hb=>?_,fun b b' B n n' h1 h2 h3 h4=>?_,hv.good.lt⟩ } hf
 ·obtain ⟨x,hx,h1,h2,h3⟩:=aK hi hb;exact TV (hv.good.heap b x hx) rfl (.inr ⟨h1,h2⟩) (h3 β)
 ·refine hv.good.inj b b' B n n' ?_ ?_ h3 h4
  ·obtain ⟨d,hd,hr⟩:=F1 h1;obtain ⟨x,hx,q1,_⟩:=aK hi hd;exact FS hx (by rw [← q1];exact hr)
  ·obtain ⟨d,hd⟩:=jd.1 h2;obtain ⟨x,hx,_⟩:=aK hi hd;rw [hx];rfl
theorem ARi {ds:dp} {y:Nat} (e:(y:Int)=BX ds) (β:Env) (l:List Value) (h:AO β (Li ds) l):AO β [.num ds.length y] l:=Zl e h
def qO (x y:Nat):Nat→dr
 | 0=>[]
 | k+1=>qO x y k++[(CB (Bp x y k),true)]
theorem AD7 (x y:Nat):∀ k,AM (qO x y k)
 | 0=>trivial
 | k+1=>aG (AD7 x y k) ⟨DG (FW _ _ _),trivial⟩
theorem ARj (x y:Nat):AK dn (AG ST K0) Tryz.f68 [AY x,AY y] [] 500=some (qO (x % pN) (y % pN) 6,AY (Mz (x % pN) (y % pN) % pN)):=dk
theorem AD8 (x y:Nat):AS dn 68 [AY x,AY y] (AY (D0 x y)):=by
 have h:=AN (AH qL Ab) AB Tryz.func68 (ARj x y) (AD7 _ _ _) rfl
 obtain ⟨h1,h2⟩:=n9 (KM x) (KM y)
 have h3:=HF x;have h4:=HF y;have h5:=QW;have hc:(Bp (x % pN) (y % pN) 6).toNat=0:=by
  have:=FW (x % pN) (y % pN) 6
  have h01:(Bp (x % pN) (y % pN) 6).toNat=0∨(Bp (x % pN) (y % pN) 6).toNat=1:=dl
  rcases h01 with e | e
  ·exact e
  ·rw [e] at h1;omega
 rw [hc] at h1;have:Mz (x % pN) (y % pN)=x % pN+y % pN:=dl
 rw [this] at h;exact h
theorem ARk (x:Nat):AK dn (AG ST K0) Tryz.f70 [AY x] [] 500=some ([],AY (((AI PL+(RR-x % pN)) % RR) % pN)):=dk
theorem ARl:AI PL=pN:=dk
theorem AD9 (x:Nat):AS dn 70 [AY x] (AY (Ct x)):=by
 have h:=AN (AH qL Ab) AB Tryz.func70 (ARk x) trivial rfl
 have h3:=HF x;have h5:=QW;have:(AI PL+(RR-x % pN)) % RR=pN-x % pN:=by
  rw [ARl,show pN+(RR-x % pN)=(pN-x % pN)+RR by omega,ma,ge dl]
 rw [this] at h;exact h
noncomputable def SU:dt:=(68,AZ (KL fun x y=>AY (D0 x y)))::(70,AZ (FY fun x=>AY (Ct x)))::ST
theorem Wy:AT dn SU:=⟨Aa Tryz.func68 dk dk (M0 fun x y _ _=>AD8 x y),Aa Tryz.func70 dk dk (GR fun x _=>AD9 x),qL⟩
theorem ARm (x y:Nat):AK dn (AG SU K0) Tryz.f83 [AY x,AY y] [] 300=some ([],AY (EB x y)):=dk
theorem AD_ (x y:Nat):AS dn 83 [AY x,AY y] (AY (EB x y)):=AN (AH Wy Ab) AB Tryz.func83 (ARm x y) trivial rfl
noncomputable def ARn:List Item:=Bv (AW dn (AG SU K0) (some 0) 100 0 none (Ah Tryz.f66 [AY 0,AY 0] [] 0 []))
noncomputable def Tk (x y:Nat) (t:List Ch) (i:Nat) (p:List Bool):ASt:=⟨ARn,⟨DT Tryz.f66.ntmps [(4,.val false [.p 2 0]),(5,.val false [.p 3 0]),(6,.val false [.p 4 0]),(7,.val false [.p 5 0]),(8,.val false [.n .i64 i])],
 [(2,some ⟨40,HE,false⟩),(3,some ⟨40,[.num 6 x],false⟩),(4,some ⟨40,[.num 6 y],false⟩),(5,some ⟨152,t,false⟩)],6,p⟩⟩
abbrev rmK:Option (List Nat×List Nat×Nat):=some ([4,5,6,7,8],[2,3,4,5],6)
def Tl (xi:Int) (y T i:Nat):Nat→Int
 | 0=>0
 | k+1=>mW (mW (JB xi (AE y k)+C' (EY xi (AE y k)) (Tl xi y T i k) 0)+C' (AE T (i+k)) (CF (EY xi (AE y k)) (Tl xi y T i k) 0) 0)
def qP (xi:Int) (y T i k:Nat):Int:=CF (AE T (i+k)) (CF (EY xi (AE y k)) (Tl xi y T i k) 0) 0
def Wz (xi:Int) (y T i:Nat):dp:=(List.range i).map (AE T)++((List.range 6).map (qP xi y T i)++(Tl xi y T i 6::(List.range (5-i)).map fun j=>AE T (i+7+j)))
theorem ARo (x y:Nat):AW dn (AG SU K0) (some 4) 300 0 rmK (Ah Tryz.f66 [AY x,AY y] [] 0 [])=some ([],[],Tk (x % pN) (y % pN) (List.replicate 12 (.n .u64 0)) 0 []):=dk
theorem ARp (x y T i:Nat) (hi:i<6):AW dn (AG SU K0) (some 4) 300 0 rmK (Tk x y [.num 12 T] i [])=some (JD 12,[],Tk x y (Li (Wz (AE x i) y T i)) (i+1) []):=by
 obtain rfl | rfl | rfl | rfl | rfl | rfl:i=0∨i=1∨i=2∨i=3∨i=4∨i=5:=dl
 all_goals kernel_rfl
def mE (T:Nat):Nat→Nat
 | 0=>AI [AE T 6,AE T 7,AE T 8,AE T 9,AE T 10,AE T 11]
 | k+1=>((AE T (5-k)).toNat+18446744073709551616*mE T k) % pN
def qQ (T:Nat):Nat→dr
 | 0=>[]
 | k+1=>qQ T k++[(decide (mE T k<pN),true)]
theorem ARq (x y T:Nat):EX dn (AG SU K0) Tryz.f66 300 0 (Tk x y [.num 12 T] 6 [])=some (qQ T 6,[],AY (mE T 6)):=dk
theorem qS {xi:Int} {y T i:Nat}:∀ k,Tl xi y T i k=CV xi y (T / 2^(64*i)) k
 | 0=>rfl
 | k+1=>by
  have hw:AE T (i+k)=AE (T / 2^(64*i)) k:=by
   unfold AE;rw [iu,← gp,show 64*i+64*k=64*(i+k) by omega]
  simp only [Tl,CV];rw [qS k,hw]
theorem AEA (T i k:Nat):AE T (i+k)=AE (T / 2^(64*i)) k:=by
 unfold AE;rw [iu,← gp,show 64*i+64*k=64*(i+k) by omega]
theorem AEB {x:Int} (hx:0≤x∧x<18446744073709551616) (y T:Nat):∀ k,BX ((List.range k).map (Bn x y T))+((2^(64*k):Nat):Int)*CV x y T k=x*((y % 2^(64*k):Nat):Int)+((T % 2^(64*k):Nat):Int)
 | 0=>by simp [BX,CV,Nat.mod_one]
 | k+1=>by
  have ih:=AEB hx y T k;have he:=QX hx y T k;rw [p_,lk,Ti,Wt,Wt,pV];simp only [i_,List.map_nil,BX,jk,lm,Int.mul_zero,Int.add_zero];generalize ((2^(64*k):Nat):Int)=Q at *
  have e1:Q*Bn x y T k=Q*(x*AE y k)+Q*AE T k+Q*CV x y T k-Q*18446744073709551616*CV x y T (k+1):=by
   have:Bn x y T k=x*AE y k+AE T k+CV x y T k-18446744073709551616*CV x y T (k+1):=dl
   rw [this,Int.mul_sub,m_,m_,pj]
  have e2:x*(((y % 2^(64*k):Nat):Int)+Q*AE y k)=x*((y % 2^(64*k):Nat):Int)+Q*(x*AE y k):=by
   rw [m_,Int.mul_left_comm]
  rw [e1,e2];omega
theorem ARr {x y T i:Nat} (hi:i<6) (hy:y<RR) (hT:T<2^(64*(i+6))) :
  ((T+(AE x i).toNat*y*2^(64*i):Nat):Int)=BX (Wz (AE x i) y T i)∧(Wz (AE x i) y T i).length=12:=by
 have hw:=Bm x i;obtain ⟨X,hX⟩:=ic hw.1;have hB:T / 2^(64*i)<2^(64*6):=by
  refine jb ?_
  have e:2^(64*(i+6))=2^(64*i)*2^(64*6):=by rw [kf 64 i 6];exact gp 2 (64*i) (64*6)
  exact e▸hT
 have hz:((List.range (5-i)).map fun j=>AE T (i+7+j))=(List.range (5-i)).map fun _=>(0:Int):=by
  refine kb fun j _=>?_
  unfold AE;rw [jf (ik hT (lu dm dl))];rfl
 have hz2:∀ n,BX ((List.range n).map fun _=>(0:Int))=0:=by
  intro n;induction n with
  | zero=>rfl
  | succ n ih=>rw [p_,lk,Ti,ih];simp [BX]
 have hA:BX ((List.range i).map (AE T))=((T % 2^(64*i):Nat):Int):=by
  have:=WM i (T % 2^(64*i)) (gu _ (jr dm))
  rw [← this];refine gh BX (kb fun j hj=>?_)
  have hj':j<i:=jl.1 hj
  unfold AE;have e:2^(64*i)=2^(64*j)*(2^64*2^(64*(i-j-1))):=by rw [← gp,← gp];congr 1;omega
  rw [e,Nat.mod_mul_right_div_self,Nat.mod_mul_right_mod]
 have hrow:(List.range 6).map (qP X y T i)=(List.range 6).map (Bn X y (T / 2^(64*i))):=by
  refine kb fun k _=>?_
  unfold qP Bn;rw [qS,AEA]
 rw [hX];have hc:=AEB (x:=X) dl y (T / 2^(64*i)) 6
 rw [ge hB,ge (a:=y) (by rw [← C9];exact hy)] at hc
 constructor
 ·unfold Wz;rw [hz,Ti,Ti,hA,hrow,qS];simp only [BX,hz2,jk,lm,Int.mul_zero,Int.add_zero];rw [hc];have e:=jo T (2^(64*i))
  generalize 2^(64*i)=Q at *
  rw [gj,mr,iy,iy]
  conv=>lhs;rw [← e]
  rw [mr,iy,m_,Int.mul_comm ((X:Int)*y)];omega
 ·unfold Wz;simp;omega
theorem ARs (x i:Nat):x % 2^(64*(i+1))=x % 2^(64*i)+(AE x i).toNat*2^(64*i):=by
 have h:=Wt x i;have hw:=Bm x i;obtain ⟨X,hX⟩:=ic hw.1;rw [hX,← iy,← mr] at h;rw [hX,gj,gw X];exact Int.natCast_inj.1 h
theorem ARt (β:Env) (l:List Value) (h:AO β (List.replicate 12 (.n .u64 0)) l):AO β [.num 12 0] l:=FZ (k:=12) (x:=0) dk h
theorem ARu (T:Nat):mE T 0=AI [AE T 6,AE T 7,AE T 8,AE T 9,AE T 10,AE T 11]:=rfl
theorem ARv (z:Nat):(List.range 6).map (AE z)=[AE z 0,AE z 1,AE z 2,AE z 3,AE z 4,AE z 5]:=rfl
theorem ARw {T:Nat} (hT:T<pN*RR):mE T 0=T / RR∧T / RR<pN:=by
 have hT12:T / RR<pN:=jb (by rw [gw];exact hT)
 refine ⟨?_,hT12⟩
 have h:=qJ (x:=T / RR) (k:=6) (jy hT12 (by rw [← C9];exact Tj))
 rw [ARv] at h;have e:∀ j,AE T (6+j)=AE (T / RR) j:=fun j=>by rw [AEA,← C9]
 rw [← e 0,← e 1,← e 2,← e 3,← e 4,← e 5] at h;rw [ARu];exact h
theorem ARx (T k:Nat):mE T (k+1)=((AE T (5-k)).toNat+18446744073709551616*mE T k) % pN:=rfl
theorem ARy (T j:Nat):T / 2^(64*j)=(AE T j).toNat+18446744073709551616*(T / 2^(64*(j+1))):=by
 rw [show 64*(j+1)=64*j+64 by omega,gp,← iu]
 have:=jo (T / 2^(64*j)) (2^64)
 unfold AE;rw [gj];omega
theorem AEC {T:Nat} (hT:T<pN*RR) (k:Nat) (hk:k≤6):mE T k=T / 2^(64*(6-k)) % pN∧mE T k<pN:=by
 induction k with
 | zero =>
  obtain ⟨e,h⟩:=ARw hT;rw [e,lz,← C9];exact ⟨(ge h).symm,h⟩
 | succ k ih =>
  obtain ⟨i1,i2⟩:=ih dl;rw [ARx];refine ⟨?_,gu _ Cs⟩
  rw [i1,show 6-(k+1)=5-k by omega,ARy T (5-k),show 5-k+1=6-k by omega,kv,Nat.mul_mod_mod,← kv]
theorem AED {T:Nat} (hT:T<pN*RR):∀ k,k≤6→AM (qQ T k)
 | 0,_=>trivial
 | k+1,hk=>aG (AED hT k dl) ⟨fu (AEC hT k dl).2,trivial⟩
theorem AEE (x y:Nat):AS dn 66 [AY x,AY y] (AY (Af x y)):=by
 refine Mu (path:=[]) Tryz.func66 dk dk fun w0=>?_
 refine Ag (AH Wy Ab) AB (ARo x y) trivial (AQ dk) (fun _ _=>rfl) ft fun _=>?_
 have hx:=HF x;have hy:=HF y;have hyR:=KM y;have hxR:=KM x;have e:Af x y=(x % pN)*(y % pN) % pN:=by unfold Af;rw [← ie]
 rw [e];generalize x % pN=a at *
 generalize y % pN=b at *
 have loop:∀ r i,i+r=6→ASafe dn 66 By w0 (HC w0 (AY (a*b % pN))) Tryz.f66.ntmps [] (Tk a b [.num 12 ((a % 2^(64*i))*b)] i []):=by
  intro r;induction r with
  | zero =>
   intro i hi;obtain rfl:i=6:=dl
   have e6:a % 2^(64*6)=a:=ge (C9▸hxR)
   have hT:a*b<pN*RR:=Nat.mul_lt_mul'' hx hyR
   have h:=Hr (w0:=w0) (β0:=By) (n:=Tryz.f66.ntmps) (AH Wy Ab) AB Tryz.func66 (ARq a b (a*b)) (AED hT 6 (gd _)) (AQ dk) (fun _ _=>rfl) rfl
   rw [(AEC hT 6 (gd _)).1,kw,je,ia,ig] at h;exact (gh (fun z=>ASafe dn 66 By w0 (HC w0 (AY (a*b % pN))) Tryz.f66.ntmps [] (Tk a b [.num 12 (z*b)] 6 [])) e6).mpr h
  | succ r ih =>
   intro i hi;have hlt:(a % 2^(64*i))*b<2^(64*(i+6)):=by
    rw [show 64*(i+6)=64*i+64*6 by omega,gp]
    exact Nat.mul_lt_mul'' (gu _ (jr dm)) (by rw [← C9];exact hyR)
   obtain ⟨r1,r2⟩:=ARr (x:=a) (T:=(a % 2^(64*i))*b) (show i<6 by omega) hyR hlt
   have e2:(a % 2^(64*i))*b+(AE a i).toNat*b*2^(64*i)=(a % 2^(64*(i+1)))*b:=by
    rw [ARs,iz];congr 1;rw [oi]
   rw [e2] at r1;refine Ag (AH Wy Ab) AB (ARp a b _ i dl) (Ow 12) (AQ dk) (fun _ _=>rfl) ft fun _=>?_
   have:=ARi r1
   rw [r2] at this;refine NE ?_ (ih (i+1) dl)
   exact ⟨rfl,rfl,rfl,fun β l h=>h,rfl,rfl,rfl,fun β l h=>h,rfl,rfl,rfl,fun β l h=>h,rfl,rfl,rfl,this,trivial⟩
 have h0:=loop 6 0 rfl;rw [je,ia,mv,mw] at h0;refine NE ?_ h0
 exact ⟨rfl,rfl,rfl,fun β l h=>h,rfl,rfl,rfl,fun β l h=>h,rfl,rfl,rfl,fun β l h=>h,rfl,rfl,rfl,ARt,trivial⟩
noncomputable def SV:dt:=(83,AZ (KL fun x y=>AY (EB x y)))::(66,AZ (KL fun x y=>AY (Af x y)))::SU
theorem O9:AT dn SV:=⟨Aa Tryz.func83 dk dk (M0 fun x y _ _=>AD_ x y),Aa Tryz.func66 dk dk (M0 fun x y _ _=>AEE x y),Wy⟩
def aM (g:Nat→dp→AV):ASpec:=fun args H fr path =>
 match args with
 | [.val false [.sl k off n _]]=>match AF H k with
  | some ⟨_,cs,_⟩=>match Az .u64 cs with
   | some xs=>some (BI [k] 1 fr 0 [] (g n (AA xs off n)) [] [(Nat.ble (off+n) xs.length,true),(Nat.ble n 1125899906842624,true)] path)
   | none=>none
  | _=>none
 | _=>none
theorem AEF {f:FuncId} {fn:Func} {g:Nat→dp→AV} (hfn:dn.funcs[f]? = some fn) (hb:fn.body.isSome=true) (hname:(fn.name=="runtime.NumGoroutine")=false) (hk:∀ n l,D5 1 0 [] (g n l) []=true)
  (h:∀ (off n m:Nat) (xs:dp),(∀ d∈xs,0≤d∧d<18446744073709551616)→off+n≤xs.length→n≤1125899906842624→Ac dn f [AP 0 off n m] (A8 xs) 1 [] (g n (AA xs off n)) []):A' dn f (aM g):=by
 refine GQ hfn hb hname fun args H fr path r hs=>?_
 unfold aM at hs;split at hs;case h_2=>cases hs
 rename_i k off n c;split at hs;case h_2=>cases hs
 rename_i ty cs o hk';split at hs;case h_2=>cases hs
 rename_i xs hxs;injection hs with hs;refine ⟨[k],[AP 0 off n c],A8 xs,1,0,[],_,_,_,path,hs.symm,fun β us w ha hg hc=>?_⟩
 obtain ⟨u1,us1,r1,ha,rfl⟩:=ha;obtain ⟨g1,g2,g3⟩:=Lk hg hk' hxs;exact ⟨h off n c xs g1 (f_ hc.1) (f_ hc.2.1),hk _ _,⟨u1,_,r1,ha,rfl⟩,g2,g3⟩
theorem Lx {n:Nat} (h:n≤1125899906842624):AJ .i64 (n:Int)=true:=by
 simp only [AJ,gi,gc];omega
theorem ARz (off n m:Nat) (i:Int) (xs:dp):AR dn (AG S0 K0) Tryz.f209 100 1 [] (Ah Tryz.f209 (Ox off n m i) (A8 xs) 1 dw) =
 some ([(AJ .i64 n,true),(decide (i<n),true),(decide (0≤i∧i<n),true),(decide (off+i.toNat*1<xs.length),true)],[],.val false [.v (.int .u64 (xs.getD (off+i.toNat*1) 0))],[]):=dk
theorem AR0 (off n m:Nat) (i:Int) (xs:dp):AR dn (AG S0 K0) Tryz.f209 100 1 [] (Ah Tryz.f209 (Ox off n m i) (A8 xs) 1 du) =
 some ([(AJ .i64 n,true),(decide (i<n),false)],[],.val false [.n .u64 0],[]):=dk
theorem AR1 {off n m:Nat} {xs:dp} (hlen:off+n≤xs.length) (hn:AJ .i64 n=true) {i:Int} (hi:0≤i) :
  Ac dn 209 (Ox off n m i) (A8 xs) 1 [] (.val false [.v (.int .u64 (BT xs off n i))]) []:=by
 by_cases h:i<n
 ·refine Ay (path:=dw) Tryz.func209 dk dk fun β0 w0 hb=>?_
  rw [show BT xs off n i=xs.getD (off+i.toNat*1) 0 from by rw [g_];exact Il dl]
  exact Av (AH Ht Ab) AB Tryz.func209 (ARz off n m i xs) ⟨hn,by simp [h],by simp [hi,h],by simp;omega,trivial⟩ (AQ dk) hb ft
 ·have e:BT xs off n i=0:=by
   unfold BT AA;rw [gy,jw (by rw [h_];omega)];rfl
  rw [e];refine BA (v:=.val false [.n .u64 0]) (Ay (path:=du) Tryz.func209 dk dk fun β0 w0 hb=>?_) fun _ _=>oL
  exact Av (AH Ht Ab) AB Tryz.func209 (AR0 off n m i xs) ⟨hn,by simp [h],trivial⟩ (AQ dk) hb ft
theorem AR2:A' dn 209 atSpec:=by
 refine GQ Tryz.func209 dk dk fun args H fr path r h=>?_
 unfold atSpec at h;split at h;case h_2=>cases h
 rename_i k off n m I;split at h;case h_2=>cases h
 rename_i c0 i ty cs o hI hk;split at h;case h_2=>cases h
 rename_i xs hxs;injection h with h;refine ⟨[k],Ox off n m i,A8 xs,1,0,[],_,[],_,path,h.symm,fun β us w ha hg hc=>?_⟩
 obtain ⟨u1,us1,r1,⟨u2,us2,r2,ha,rfl⟩,rfl⟩:=ha;obtain ⟨g1,g2,g3⟩:=Lk hg hk hxs;obtain ⟨rfl,p1⟩:=Cy (β:=β) (u:=u2) (fun A hA=>by injection hA with hA;subst hA;exact r2) hI
 exact ⟨AR1 (f_ hc.1) hc.2.1 (by simpa using hc.2.2.1),dk,⟨u1,_,r1,⟨_,us2,Aq ⟨rfl,rfl,p1⟩,ha,rfl⟩,rfl⟩,g2,g3⟩
theorem AR3 (i j:Int):AK dn (AG S0 K0) Tryz.f208 [iA i,iA j] dw 100=some ([(decide (j<i),true)],iA i):=dk
theorem AR4 (i j:Int):AK dn (AG S0 K0) Tryz.f208 [iA i,iA j] du 100=some ([(decide (j<i),false)],iA j):=dk
theorem AR5 (i j:Int):AS dn 208 [iA i,iA j] (iA (Fs i j)):=by
 by_cases h:j<i
 ·have e:Fs i j=i:=by unfold Fs;split<;>omega
  rw [e];exact AN (AH Ht Ab) AB Tryz.func208 (AR3 i j) ⟨fu h,trivial⟩ rfl
 ·have e:Fs i j=j:=by unfold Fs;split<;>omega
  rw [e];exact AN (AH Ht Ab) AB Tryz.func208 (AR4 i j) ⟨ga h,trivial⟩ rfl
noncomputable def SW:dt:=(209,atSpec)::(208,Ez (Tc [.i64,.i64] fun l=>match l with | [i,j]=>some ([],iA (Fs i j)) | _=>none))::SV
theorem AR6:AT dn SW:=⟨AR2,Ft Tryz.func208 dk dk (Zx fun is c v h hh hc=>by
 split at h
 ·injection h with h;injection h with h1 h2;subst h1;subst h2;exact AR5 _ _
 ·cases h),O9⟩
noncomputable def AR7:List Item:=Bv (AW dn (AG SV K0) (some 0) 100 1 none (Ah Tryz.f188 [AP 0 0 0 0] (A8 []) 1 []))
noncomputable def W0 (off n m:Nat) (xs:dp) (v:List Ch) (i:Int) (p:List Bool):ASt:=⟨AR7,⟨DT Tryz.f188.ntmps [(0,AP 0 off n m),(2,.val false [.p 1 0]),(3,.val false [.p 2 0]),(4,iA i)],
 [(0,some (Am [.seq .u64 xs])),(1,some ⟨40,HE,false⟩),(2,some ⟨40,v,false⟩)],3,p⟩⟩
abbrev wdK:Option (List Nat×List Nat×Nat):=some ([0,2,3,4],[0,1,2],3)
theorem AR8 (off n m:Nat) (xs:dp):AW dn (AG SV K0) (some 0) 100 1 wdK (Ah Tryz.f188 [AP 0 off n m] (A8 xs) 1 [])=some ([(AJ .i64 n,true)],[],W0 off n m xs HE (wI ((n:Int)-1)) []):=dk
def qU (xs:dp) (off:Nat) (i:Int):Int:=xs.getD (off+i.toNat*1) 0
theorem AR9 (off n m:Nat) (xs:dp) (v:Nat) (i:Int):AW dn (AG SV K0) (some 0) 100 1 wdK (W0 off n m xs [.num 6 v] i dw) =
 some ([(decide (0≤i),true),(decide (0≤i∧i<n),true),(decide (off+i.toNat*1<xs.length),true),(decide (v<pN),true)],[],W0 off n m xs [.num 6 (((qU xs off i).toNat+18446744073709551616*v) % pN)] (wI (i-1)) []):=dk
theorem AR_ (off n m:Nat) (xs:dp) (v:Nat) (i:Int):AR dn (AG SV K0) Tryz.f188 100 1 [] (W0 off n m xs [.num 6 v] i du)=some ([(decide (0≤i),false)],[],AY v,[]):=dk
theorem AR' (β:Env) (l:List Value) (h:AO β HE l):AO β [.num 6 0] l:=FZ (k:=6) (x:=0) dk h
theorem qV {off n m:Nat} {xs:dp} (hx:∀ d∈xs,0≤d∧d<18446744073709551616) (hl:off+n≤xs.length) (hn:n≤1125899906842624):Ac dn 188 [AP 0 off n m] (A8 xs) 1 [] (AY (AI (AA xs off n) % pN)) []:=by
 refine Ay (path:=[]) Tryz.func188 dk dk fun β0 w0 hb=>?_
 refine Ag (AH O9 Ab) AB (AR8 off n m xs) ⟨Lx hn,trivial⟩ (AQ dk) hb ft fun _=>?_
 have hw:∀ d∈AA xs off n,0≤d∧d<18446744073709551616:=C3 hx
 have hlen:(AA xs off n).length=n:=by unfold AA;rw [h_,ir];omega
 have loop:∀ c,c≤n→ASafe dn 188 β0 w0 (A4 β0 w0 [] (AY (AI (AA xs off n) % pN)) []) Tryz.f188.ntmps [] (W0 off n m xs [.num 6 (AI (AA xs off n) / 2^(64*c) % pN)] ((c:Int)-1) []):=by
  intro c;induction c with
  | zero =>
   intro _;have h:=Av (w0:=w0) (W:=[]) (n:=Tryz.f188.ntmps) (AH O9 Ab) AB Tryz.func188 (AR_ off n m xs (AI (AA xs off n) % pN) (((0:Nat):Int)-1)) ⟨rfl,trivial⟩ (AQ dk) hb ft
   rw [je,ia,ig];exact Ae du h
  | succ c ih =>
   intro hc;have hi:((c+1:Nat):Int)-1=(c:Int):=dl
   rw [hi];have hs:=TZ hw c;have hv:qU xs off c=(AA xs off n).getD c 0:=by
    unfold qU;rw [gj,g_];exact (Il dl).symm
   refine Ae dw (Ag (AH O9 Ab) AB (AR9 ..) ⟨by simp,by simp;omega,by simp;omega,fu (gu _ Cs),trivial⟩ (AQ dk) hb ft fun _=>?_)
   rw [hv,Ao (z:=(c:Int)-1) dl];have e:((AA xs off n).getD c 0).toNat+18446744073709551616*(AI (AA xs off n) / 2^(64*(c+1)) % pN)=_+_:=rfl
   rw [kv,Nat.mul_mod_mod,← kv,← hs];exact ih dl
 have h0:=loop n (gd _)
 have hlt:=Ik (AA xs off n) hw
 rw [hlen] at hlt;rw [jf hlt,lv] at h0;rw [Ao dl];refine NE ?_ h0
 exact ⟨rfl,rfl,rfl,fun β l h=>h,rfl,rfl,rfl,fun β l h=>h,rfl,rfl,rfl,AR',trivial⟩
noncomputable def ASA:List Item:=Bv (AW dn (AG SV K0) (some 0) 100 1 none (Ah Tryz.f206 (M4 0 0 0 0) (A8 []) 1 []))
noncomputable def Qs (off n m:Nat) (xs:dp) (x:Nat) (v:List Ch) (i:Int) (p:List Bool):ASt:=⟨ASA,⟨DT Tryz.f206.ntmps [(1,AP 0 off n m),(2,.val false [.p 1 0]),(4,.val false [.p 2 0]),(5,.val false [.p 3 0]),(6,iA i)],
 [(0,some (Am [.seq .u64 xs])),(1,some ⟨40,[.num 6 x],false⟩),(2,some ⟨40,HE,false⟩),(3,some ⟨40,v,false⟩)],4,p⟩⟩
abbrev qW:Option (List Nat×List Nat×Nat):=some ([1,2,4,5,6],[0,1,2,3],4)
def qZ:List Ch:=[.n .u64 1,.n .u64 0,.n .u64 0,.n .u64 0,.n .u64 0,.n .u64 0]
theorem ASB (x off n m:Nat) (xs:dp):AW dn (AG SV K0) (some 0) 100 1 qW (Ah Tryz.f206 (M4 x off n m) (A8 xs) 1 [])=some ([(AJ .i64 n,true)],[],Qs off n m xs x qZ (wI (wI (64*(n:Int))-1)) []):=dk
def KT (xs:dp) (off:Nat) (i:Int):Int:=bits .and .u64 (Int.fdiv (CG xs off i) (2^min (AU false .u64 (Int.tmod i 64)).toNat 64)) 1
def KU (off n:Nat) (xs:dp) (i:Int) (bit:Bool):dr:=[(decide (0≤i),true),(true,true),(decide (0≤wI (Int.tdiv i 64)∧wI (Int.tdiv i 64)<n),true),(decide (off+(wI (Int.tdiv i 64)).toNat*1<xs.length),true),(decide (0≤i∧(0:Int)<64),true),
 (decide (0≤AU false .u64 (Int.tmod i 64)∧0≤CG xs off i),true),(decide (KT xs off i=1),bit)]
theorem ASC (off n m:Nat) (xs:dp) (x v:Nat) (i:Int):AW dn (AG SV K0) (some 0) 100 1 qW (Qs off n m xs x [.num 6 v] i dx)=some (KU off n xs i true,[],Qs off n m xs x [.num 6 (Af (Af v v) x)] (wI (i-1)) []):=dk
theorem ASD (off n m:Nat) (xs:dp) (x v:Nat) (i:Int):AW dn (AG SV K0) (some 0) 100 1 qW (Qs off n m xs x [.num 6 v] i ee)=some (KU off n xs i false,[],Qs off n m xs x [.num 6 (Af v v)] (wI (i-1)) []):=dk
theorem ASE (off n m:Nat) (xs:dp) (x v:Nat) (i:Int):AR dn (AG SV K0) Tryz.f206 100 1 [] (Qs off n m xs x [.num 6 v] i du)=some ([(decide (0≤i),false)],[],AY v,[]):=dk
theorem W2 (xs:dp) (off:Nat) (c:Nat):KT xs off c=Ij (CG xs off c) (Int.tmod c 64)∧AU false .u64 (Int.tmod c 64)=Int.tmod c 64:=by
 have hr:Int.tmod (c:Int) 64=((c % 64:Nat):Int):=by rw [ku dl];rfl
 have e:AU false .u64 (Int.tmod (c:Int) 64)=Int.tmod c 64:=by rw [hr,C7,IntKind.wrap_u64];omega
 exact ⟨by unfold KT;rw [e];rfl,e⟩
theorem AEH (x a b:Nat):Af (x^a % pN) (x^b % pN)=x^(a+b) % pN:=by unfold Af;rw [← ie,gp]
theorem ASF (x a:Nat):Af (x^a % pN) x=x^(a+1) % pN:=by unfold Af;rw [mn,ip]
theorem AEI {off n m:Nat} {xs:dp} (hall:∀ d∈xs,0≤d∧d<18446744073709551616) (hlen:off+n≤xs.length) (hn:n≤1125899906842624) (x:Nat) :
  Ac dn 206 (M4 x off n m) (A8 xs) 1 [] (AY (Cu x (AI (AA xs off n)))) []:=by
 refine Ay (path:=[]) Tryz.func206 dk dk fun β0 w0 hb=>?_
 refine Ag (AH O9 Ab) AB (ASB x off n m xs) ⟨Lx hn,trivial⟩ (AQ dk) hb ft fun _=>?_
 have hlt:∀ d∈AA xs off n,0≤d∧d<18446744073709551616:=C3 hall
 have hwl:(AA xs off n).length=n:=by unfold AA;rw [h_,ir];omega
 generalize hE:AI (AA xs off n)=E at *
 have loop:∀ c,c≤64*n→ASafe dn 206 β0 w0 (A4 β0 w0 [] (AY (Cu x E)) []) Tryz.f206.ntmps [] (Qs off n m xs x [.num 6 (x^(E / 2^c) % pN)] ((c:Int)-1) []):=by
  intro c;induction c with
  | zero =>
   intro _;have h:=Av (w0:=w0) (W:=[]) (n:=Tryz.f206.ntmps) (AH O9 Ab) AB Tryz.func206 (ASE off n m xs x (x^E % pN) (((0:Nat):Int)-1)) ⟨rfl,trivial⟩ (AQ dk) hb ft
   rw [ia,ig,KO];exact Ae du h
  | succ c ih =>
   intro hc;have hi:((c+1:Nat):Int)-1=(c:Int):=dl
   rw [hi];have hq:Int.tdiv (c:Int) 64=((c / 64:Nat):Int):=by rw [mj dl];rfl
   have hr:Int.tmod (c:Int) 64=((c % 64:Nat):Int):=by rw [ku dl];rfl
   have hw:wI (Int.tdiv (c:Int) 64)=((c / 64:Nat):Int):=by rw [hq];exact Ao dl
   have hj:c / 64<n:=dl
   have hv:CG xs off c=(AA xs off n).getD (c / 64) 0:=by
    unfold CG;rw [hw,gj,g_];exact (Il hj).symm
   have hvb:0≤CG xs off c∧CG xs off c<18446744073709551616:=by rw [hv];exact M5 hlt _
   obtain ⟨eb,em⟩:=W2 xs off c;have hbit:KT xs off c=((E / 2^c % 2:Nat):Int):=by
    obtain ⟨V,hV⟩:=ic hvb.1;rw [eb,hr,← hE,← WY _ c hlt,← hv,hV,gj];exact WW V _ dl dl
   have hconds:∀ bit,decide (KT xs off c=1)=bit→AM (KU off n xs c bit):=by
    intro bit hbt;refine ⟨by simp,rfl,?_,?_,by simp,?_,hbt,trivial⟩
    ·rw [hw];simp;omega
    ·rw [hw];simp;omega
    ·rw [em,hr];simp only [gc];exact ⟨dl,hvb.1⟩
   have hdiv:E / 2^c=2*(E / 2^(c+1))+E / 2^c % 2:=by
    rw [ip,← iu];omega
   have ihc:=ih dl;rcases ke (E / 2^c) with h0 | h1
   ·refine Ae ee (Ag (AH O9 Ab) AB (ASD ..) (hconds false (by rw [hbit,h0];rfl)) (AQ dk) hb ft fun _=>?_)
    rw [Ao (z:=(c:Int)-1) dl,AEH,show E / 2^(c+1)+E / 2^(c+1)=E / 2^c by omega]
    exact ihc
   ·refine Ae dx (Ag (AH O9 Ab) AB (ASC ..) (hconds true (by rw [hbit,h1];rfl)) (AQ dk) hb ft fun _=>?_)
    rw [Ao (z:=(c:Int)-1) dl,AEH,ASF,show E / 2^(c+1)+E / 2^(c+1)+1=E / 2^c by omega]
    exact ihc
 have h0:=loop (64*n) (gd _)
 have hl:=Ik (AA xs off n) hlt
 rw [hwl,hE] at hl;rw [jf hl,ia] at h0;have e3:wI (wI (64*(n:Int))-1)=((64*n:Nat):Int)-1:=by
  rw [Ao (z:=64*(n:Int)) dl,Ao dl];omega
 rw [e3];refine NE ?_ h0
 exact ⟨rfl,rfl,rfl,fun β l h=>h,rfl,rfl,rfl,fun β l h=>h,rfl,rfl,rfl,fun β l h=>h,rfl,rfl,rfl,fun β l h=>FZ (k:=6) (x:=1) dk h,trivial⟩
theorem AEJ:A' dn 206 powSpec:=by
 refine GQ Tryz.func206 dk dk fun args H fr path r h=>?_
 unfold powSpec at h;split at h;case h_2=>cases h
 rename_i a k off n m;split at h;case h_2=>cases h
 rename_i x ty cs o hx hk;split at h;case h_2=>cases h
 rename_i xs hxs;injection h with h;refine ⟨[k],M4 x off n m,A8 xs,1,0,[],AY (Cu x (AI ((xs.drop off).take n))),[],_,path,h.symm,fun β us w ha hg hc=>?_⟩
 obtain ⟨u1,us1,r1,⟨u2,us2,r2,ha,rfl⟩,rfl⟩:=ha;obtain ⟨g1,g2,g3⟩:=Lk hg hk hxs;refine ⟨AEI g1 (f_ hc.1) (f_ hc.2.1) x,dk,⟨u1,_,?_,⟨u2,us2,?_,ha,rfl⟩,rfl⟩,g2,g3⟩
 ·obtain ⟨l,q,rfl⟩:=r1;exact ⟨l,FZ hx q,rfl⟩
 ·exact r2
noncomputable def SX:dt:=(188,aM fun _ l=>AY (AI l % pN))::(206,powSpec)::SW
theorem NF:AT dn SX:=⟨AEF Tryz.func188 dk dk (fun _ _=>rfl) (fun _ _ _ _ hx hl hn=>qV hx hl hn),AEJ,AR6⟩
noncomputable def ASG:List Item:=Bv (AW dn (AG SX K0) (some 0) 100 2 none (Ah Tryz.f146 (JF 0 0 0 0 0 0) (F5 [] []) 2 []))
abbrev rcK:Option (List Nat×List Nat×Nat):=some ([0,1,5],[0,1],2)
section
variable (off n m off' n' m':Nat) (xs ys:dp)
noncomputable def Qt (i:Int) (p:List Bool):ASt:=⟨ASG,⟨DT Tryz.f146.ntmps [(0,AP 0 off n m),(1,AP 1 off' n' m'),(5,iA i)],F5 xs ys,2,p⟩⟩
theorem ASH:AW dn (AG SX K0) (some 0) 100 2 rcK (Ah Tryz.f146 (JF off n m off' n' m') (F5 xs ys) 2 []) =
 some ([(AJ .i64 n,true),(AJ .i64 n',true)],[],Qt off n m off' n' m' xs ys (wI (Fs n n'-1)) []):=dk
def Tm (i:Int) (r:dr):dr:=(Nat.ble (off+n) xs.length,true)::(AJ .i64 n,true)::(decide (0≤i),true)::(Nat.ble (off'+n') ys.length,true)::(AJ .i64 n',true)::(decide (0≤i),true)::r
theorem ASI (i:Int):AW dn (AG SX K0) (some 0) 100 2 rcK (Qt off n m off' n' m' xs ys i eq) =
 some ((decide (0≤i),true)::Tm off n off' n' xs ys i ((decide (BT xs off n i<BT ys off' n' i),false)::Tm off n off' n' xs ys i [(decide (BT ys off' n' i<BT xs off n i),false)]),[],Qt off n m off' n' m' xs ys (wI (i-1)) []):=dk
theorem ASJ (i:Int):AR dn (AG SX K0) Tryz.f146 100 2 [] (Qt off n m off' n' m' xs ys i dx) =
 some ((decide (0≤i),true)::Tm off n off' n' xs ys i [(decide (BT xs off n i<BT ys off' n' i),true)],[],.val false [.n .i64 (-1)],[]):=dk
theorem ASK (i:Int):AR dn (AG SX K0) Tryz.f146 100 2 [] (Qt off n m off' n' m' xs ys i ep) =
 some ((decide (0≤i),true)::Tm off n off' n' xs ys i ((decide (BT xs off n i<BT ys off' n' i),false)::Tm off n off' n' xs ys i [(decide (BT ys off' n' i<BT xs off n i),true)]),[],.val false [.n .i64 1],[]):=dk
theorem ASL (i:Int):AR dn (AG SX K0) Tryz.f146 100 2 [] (Qt off n m off' n' m' xs ys i du) =
 some ([(decide (0≤i),false)],[],.val false [.n .i64 0],[]):=dk
end
theorem AEL {off n m off' n' m':Nat} {xs ys:dp} (hx:∀ d∈xs,0≤d∧d<18446744073709551616) (hy:∀ d∈ys,0≤d∧d<18446744073709551616) (hl:off+n≤xs.length) (hl':off'+n'≤ys.length)
  (hn:AJ .i64 n=true) (hn':AJ .i64 n'=true):Ac dn 146 (JF off n m off' n' m') (F5 xs ys) 2 [] (.val false [.v (.int .i64 (EC (AI (AA xs off n)) (AI (AA ys off' n'))))]) []:=by
 refine Ay (path:=[]) Tryz.func146 dk dk fun β0 w0 hb=>?_
 refine Ag (AH NF Ab) AB (ASH off n m off' n' m' xs ys) ⟨hn,hn',trivial⟩ (AQ dk) hb ft fun _=>?_
 have bn:n≤9223372036854775807:=by simp only [AJ,gi,gc] at hn;omega
 have bn':n'≤9223372036854775807:=by simp only [AJ,gi,gc] at hn';omega
 have e:wI (Fs n n'-1)=((max n n':Nat):Int)-1:=by
  have:Fs n n'=((max n n':Nat):Int):=by unfold Fs;split<;>omega
  rw [this,Ao dl]
 rw [e];have loop:∀ c,c≤max n n'→AI (AA xs off n) / 2^(64*c)=AI (AA ys off' n') / 2^(64*c) →
   ASafe dn 146 β0 w0 (A4 β0 w0 [] (.val false [.v (.int .i64 (EC (AI (AA xs off n)) (AI (AA ys off' n'))))]) []) Tryz.f146.ntmps [] (Qt off n m off' n' m' xs ys ((c:Int)-1) []):=by
  intro c;induction c with
  | zero =>
   intro _ heq;rw [je,ia,ig,ig] at heq;have h:=Av (w0:=w0) (W:=[]) (n:=Tryz.f146.ntmps) (AH NF Ab) AB Tryz.func146 (ASL off n m off' n' m' xs ys (((0:Nat):Int)-1)) ⟨rfl,trivial⟩ (AQ dk) hb ft
   exact Ae du (Hu h fun _ _=>Qi (by unfold EC;rw [heq];simp))
  | succ c ih =>
   intro hc heq;have hi:((c+1:Nat):Int)-1=(c:Int):=dl
   rw [hi];have sx:=TZ (C3 (off:=off) (n:=n) hx) c
   have sy:=TZ (C3 (off:=off') (n:=n') hy) c
   have bx:=M5 (C3 (off:=off) (n:=n) hx) c
   have byy:=M5 (C3 (off:=off') (n:=n') hy) c
   have ex:BT xs off n c=(AA xs off n).getD c 0:=by unfold BT;rw [gj]
   have ey:BT ys off' n' c=(AA ys off' n').getD c 0:=by unfold BT;rw [gj]
   have hC:∀ r,AM r→AM (Tm off n off' n' xs ys c r):=fun r hr=>⟨gb hl,hn,by simp,gb hl',hn',by simp,hr⟩
   by_cases hlt:BT xs off n c<BT ys off' n' c
   ·have h:=Av (w0:=w0) (W:=[]) (n:=Tryz.f146.ntmps) (AH NF Ab) AB Tryz.func146 (ASJ off n m off' n' m' xs ys c) ⟨by simp,hC _ ⟨fu hlt,trivial⟩⟩ (AQ dk) hb ft
    refine Ae dx (Hu h fun _ _=>Qi ?_)
    have:AI (AA xs off n)<AI (AA ys off' n'):=TY (Q:=2^(64*c)) (by rw [sx,sy,heq];omega)
    unfold EC;rw [fw this]
   ·by_cases hgt:BT ys off' n' c<BT xs off n c
    ·have h:=Av (w0:=w0) (W:=[]) (n:=Tryz.f146.ntmps) (AH NF Ab) AB Tryz.func146 (ASK off n m off' n' m' xs ys c) ⟨by simp,hC _ ⟨ga hlt,hC _ ⟨fu hgt,trivial⟩⟩⟩ (AQ dk) hb ft
     refine Ae ep (Hu h fun _ _=>Qi ?_)
     have:AI (AA ys off' n')<AI (AA xs off n):=TY (Q:=2^(64*c)) (by rw [sx,sy,heq];omega)
     unfold EC;rw [fv dl,fw this]
    ·refine Ae eq (Ag (AH NF Ab) AB (ASI ..) ⟨by simp,hC _ ⟨ga hlt,hC _ ⟨ga hgt,trivial⟩⟩⟩ (AQ dk) hb ft fun _=>?_)
     rw [Ao (z:=(c:Int)-1) dl];exact ih dl (by rw [sx,sy,heq];omega)
 refine loop _ (gd _) ?_
 have big:∀ (zs:dp) (of k:Nat),(∀ d∈zs,0≤d∧d<18446744073709551616)→k≤max n n'→AI (AA zs of k) / 2^(64*max n n')=0:=by
  intro zs of k hz hk;refine jf (ik (Ik _ (C3 hz)) (lu dm ?_))
  have:(AA zs of k).length≤k:=by unfold AA;rw [h_];omega
  omega
 rw [big xs off n hx dl,big ys off' n' hy dl]
theorem ASM:A' dn 146 cmpSpec:=by
 refine GQ Tryz.func146 dk dk fun args H fr path r h=>?_
 unfold cmpSpec at h;split at h;case h_2=>cases h
 rename_i k off n m t off' n' m';split at h;case h_2=>cases h
 rename_i ty cs o ty' ds o' hk ht;split at h;case h_2=>cases h
 rename_i xs ys hxs hys;injection h with h;refine ⟨[k,t],JF off n m off' n' m',F5 xs ys,2,0,[],_,[],_,path,h.symm,fun β us w ha hg hc=>?_⟩
 obtain ⟨u1,us1,r1,⟨u2,us2,r2,ha,rfl⟩,rfl⟩:=ha;obtain ⟨g1,g1',g2,g3⟩:=Zp hg hk ht hxs hys;exact ⟨AEL g1 g1' (f_ hc.1) (f_ hc.2.1) hc.2.2.1 hc.2.2.2.1,dk,⟨u1,_,r1,⟨u2,_,r2,ha,rfl⟩,rfl⟩,g2,g3⟩
noncomputable def ASN:List Item:=Bv (AW dn (AG SX K0) (some 0) 100 1 none (Ah Tryz.f189 [AP 0 0 0 0] (Ax []) 1 []))
noncomputable def W3 (off n c:Nat) (xs:dp) (L:Nat) (ys:dp) (i:AV) (p:List Bool):ASt:=⟨ASN,⟨DT Tryz.f189.ntmps [(0,AP 0 off n c),(3,AP 1 0 L L),(4,i)],[(0,some (Am [.seq .u8 xs])),(1,some ⟨38,[.seq .u64 ys],false⟩)],2,p⟩⟩
abbrev AEM:Option (List Nat×List Nat×Nat):=some ([0,3,4],[0,1],2)
theorem ASO (off n c:Nat) (xs:dp):AW dn (AG SX K0) (some 0) 100 1 AEM (Ah Tryz.f189 [AP 0 off n c] (Ax xs) 1 []) =
 some ([(AJ .i64 n,true),(true,true),(O7 (wI (Int.tdiv (wI ((n:Int)+7)) 8)) 8,true)],[],W3 off n c xs (Tg n) (List.replicate (Tg n) 0) (.val false [.n .i64 0]) []):=dk
def rwX (xs:dp) (off:Nat) (n:Int) (i:Int):Int:=IntKind.u64.wrap (AU false .u64 (xs.getD (off+i.toNat*1) 0)*2^min (AU false .u64 (wI (8*Int.tmod (HO n i) 8))).toNat 64)
def rA (xs:dp) (off:Nat) (n:Int) (ys:dp) (i:Int):Int:=IntKind.u64.wrap (ys.getD (0+(ET n i).toNat*1) 0+rwX xs off n i)
def rwC (off n:Nat) (xs:dp) (L:Nat) (ys:dp) (i:Int):dr:=[(AJ .i64 n,true),(decide (i<n),true),(AJ .i64 n,true),(true,true),(true,true),(decide (0≤ET n i∧ET n i<L),true),(decide (0+(ET n i).toNat*1<ys.length),true),
 (decide (0≤i∧i<n),true),(decide (off+i.toNat*1<xs.length),true),(decide (0≤HO n i∧(0:Int)<8),true),(decide (0≤AU false .u64 (wI (8*Int.tmod (HO n i) 8))),true),(decide (0≤ET n i∧ET n i<L),true),(decide (0+(ET n i).toNat*1<ys.length),true)]
theorem ASP (off n c:Nat) (xs:dp) (L:Nat) (ys:dp) (i:Int):AW dn (AG SX K0) (some 0) 100 1 AEM (W3 off n c xs L ys (iA i) dw) =
 some (rwC off n xs L ys i,[],W3 off n c xs L (ys.set (0+(ET n i).toNat*1) (rA xs off n ys i)) (iA (wI (i+1))) []):=dk
theorem ASQ (off n c:Nat) (xs:dp) (L:Nat) (ys:dp) (i:Int):AR dn (AG SX K0) Tryz.f189 100 1 [1] (W3 off n c xs L ys (iA i) du) =
 some ([(AJ .i64 n,true),(decide (i<n),false)],[],AP 1 0 L L,aB ys):=dk
theorem ASR {off n c:Nat} {xs:dp} (hx:∀ d∈xs,0≤d∧d<256) (hl:off+n≤xs.length) (hn:n≤35184372088832) :
  Ac dn 189 [AP 0 off n c] (Ax xs) 1 [] (AP 1 0 ((n+7) / 8) ((n+7) / 8)) (pQ (Ak (AA xs off n)) ((n+7) / 8)):=by
 have hlen:(AA xs off n).length=n:=by unfold AA;rw [h_,ir];omega
 have hfin:Ak (AA xs off n)<2^(64*((n+7) / 8)):=by
  have h1:=Tf (AA xs off n) (C3 hx)
  rw [hlen,NB] at h1;exact ik h1 (lu dm dl)
 refine Ay (path:=[]) Tryz.func189 dk dk fun β0 w0 hb=>?_
 obtain ⟨l1,l2⟩:=ADo hn;have hw:AJ .i64 (n:Int)=true:=by simp only [AJ,gi,gc];omega
 refine Ag (AH NF Ab) AB (ASO off n c xs) ⟨hw,rfl,?_,trivial⟩ (AQ dk) hb ft fun _=>?_
 ·rw [l2];unfold O7;simp only [gc];omega
 ·rw [l1];refine Hv ?_
  have hbd:∀ d∈AA xs off n,0≤d∧d<256:=C3 hx
  have loop:∀ r i,i+r=n→ASafe dn 189 β0 w0 (A4 β0 w0 [] (AP 1 0 ((n+7) / 8) ((n+7) / 8)) (aB (DU (Ak (AA xs off n)) ((n+7) / 8)))) Tryz.f189.ntmps []
    (W3 off n c xs ((n+7) / 8) (DU (Ak ((AA xs off n).take i)*256^(n-i)) ((n+7) / 8)) (iA i) []):=by
   intro r;induction r with
   | zero =>
    intro i hi;obtain rfl:i=n:=dl
    rw [kw,ia,g_,ko dl];exact Ae du (Av (AH NF Ab) AB Tryz.func189 (ASQ ..) ⟨hw,by simp,trivial⟩ (AQ dk) hb ft)
   | succ r ih =>
    intro i hi;have ek:HO (n:Int) i=((n-1-i:Nat):Int):=pM hn dl
    have ej:ET (n:Int) i=(((n-1-i) / 8:Nat):Int):=by unfold ET;rw [ek,Wn];exact Ao dl
    have em:wI (8*Int.tmod ((n-1-i:Nat):Int) 8)=((8*((n-1-i) % 8):Nat):Int):=by rw [Z_,Ao dl];omega
    have em':AU false .u64 (wI (8*Int.tmod ((n-1-i:Nat):Int) 8))=((8*((n-1-i) % 8):Nat):Int):=by rw [em,C7,IntKind.wrap_u64];omega
    have hjL:(n-1-i) / 8<(n+7) / 8:=dl
    have hlenw:∀ N,(DU N ((n+7) / 8)).length=(n+7) / 8:=fun N=>by simp [DU]
    have hwx:xs.getD (off+i) 0=(AA xs off n).getD i 0:=(Il dl).symm
    have hxb:0≤(AA xs off n).getD i 0∧(AA xs off n).getD i 0<256:=by
     rw [gy];cases h':(AA xs off n)[i]? with
     | none=>simp
     | some d=>exact hbd d (lg h')
    refine Ae dw (Ag (AH NF Ab) AB (ASP ..) ?_ (AQ dk) hb ft fun _=>?_)
    ·unfold rwC;rw [ej,ek,em',hlenw];refine ⟨hw,by simp;omega,hw,rfl,rfl,by simp only [gc];omega,by simp only [gc];omega,by simp only [gc];omega,by simp;omega,by simp only [gc];omega,by simp only [gc];omega,by simp only [gc];omega,by simp only [gc];omega,trivial⟩
    ·have hset:((DU (Ak ((AA xs off n).take i)*256^(n-i)) ((n+7) / 8)).set (0+(ET n i).toNat*1) (rA xs off n (DU (Ak ((AA xs off n).take i)*256^(n-i)) ((n+7) / 8)) i)) =
       DU (Ak ((AA xs off n).take (i+1))*256^(n-(i+1))) ((n+7) / 8):=by
      have ei:0+(((n-1-i) / 8:Nat):Int).toNat*1=(n-1-i) / 8:=dl
      have eo:off+(i:Int).toNat*1=off+i:=dl
      unfold rA rwX;rw [ej,ek,em',ei,eo,hwx,ADl hjL];obtain ⟨X,hX⟩:=ic hxb.1;have hX2:X<256:=dl
      rw [hX,C7,IntKind.wrap_u64,IntKind.wrap_u64,IntKind.wrap_u64,gj,jn dl];have en:n-i=(n-1-i)+1:=dl
      have en':n-(i+1)=n-1-i:=dl
      have et:Ak ((AA xs off n).take (i+1))*256^(n-(i+1))=Ak ((AA xs off n).take i)*256^(n-1-i+1)+X*256^(n-1-i):=by
       rw [ADf dl,hX,gj,en',iz,iw,← pi]
      rw [et,en];obtain ⟨hh,B,w1,w2,w3,w4,w5⟩:=ADh (M:=Ak ((AA xs off n).take i)) (k:=n-1-i) hX2
      have hle:8*((n-1-i) % 8)+8≤64:=dl
      have hs64:hh*2^(8*((n-1-i) % 8)+8)+B<18446744073709551616:=by
       have:=gu ((Ak ((AA xs off n).take i)*256^(n-1-i+1)+X*256^(n-1-i)) / 2^(64*((n-1-i) / 8))) (show 0<2^64 by decide)
       rw [w5] at this;exact this
      refine ADk ?_ fun j hj=>?_
      ·have hB64:X*2^(8*((n-1-i) % 8))<2^64:=by
        rw [w2];exact ik w3 (lu dm hle)
       have ex:((X:Int) % 18446744073709551616*2^(8*((n-1-i) % 8))) % 18446744073709551616=(B:Int):=by
        have a1:((X:Int) % 18446744073709551616)=(X:Int):=dl
        have a2:((X:Int)*2^(8*((n-1-i) % 8)))=((X*2^(8*((n-1-i) % 8)):Nat):Int):=by rw [iy,ml];rfl
        rw [a1,a2,w2];rw [w2] at hB64;have:B<18446744073709551616:=hB64
        omega
       rw [ex];unfold AE;rw [w5,w1];omega
      ·unfold AE;rw [ADg hX2 hj]
     rw [hset,Ao (z:=(i:Int)+1) dl];exact ih (i+1) dl
  have:=loop n 0 dl
  rw [List.take_zero,show Ak []=0 from rfl,mw,ADm] at this
  exact ADq this fun e w h=>WP (ADp hfin) h
theorem ASS:A' dn 189 wrdSpec:=by
 refine GQ Tryz.func189 dk dk fun args H fr path r h=>?_
 unfold wrdSpec at h;split at h;case h_2=>cases h
 rename_i k off n c;split at h;case h_2=>cases h
 rename_i ty cs o hk;split at h;case h_2=>cases h
 rename_i xs hxs;injection h with h;refine ⟨[k],[AP 0 off n c],Ax xs,1,1,[],_,_,_,path,h.symm,fun β us w ha hg hc=>?_⟩
 obtain ⟨u1,us1,r1,ha,rfl⟩:=ha;obtain ⟨g1,g2,g3⟩:=ED hg hk hxs;exact ⟨ASR g1 (f_ hc.1) (f_ hc.2.1),dk,⟨u1,_,r1,ha,rfl⟩,g2,g3⟩
noncomputable def SY:dt:=(146,cmpSpec)::(189,wrdSpec)::SX
theorem W4:AT dn SY:=⟨ASM,ASS,NF⟩
def PM2:dp:=[0xb9feffffffffaaa9,0x1eabfffeb153ffff,0x6730d2a0f6b0f624,0x64774b84f38512bf,0x4b1ba7b6434bacd7,0x1a0111ea397fe69a]
theorem AST:AI (AA PM2 0 6)=pN-2:=dk
theorem ASU (x:Nat):AK dn (AG SY K0) Tryz.f161 [AY x] [] 300=some (JD 2,AY (Cu x (AI (AA PM2 0 6)))):=dk
theorem AEQ (x:Nat):AS dn 161 [AY x] (AY (Bk x)):=by
 have h:=AN (AH W4 Ab) AB Tryz.func161 (ASU x) (Ow 2) rfl
 rw [AST] at h;exact h
theorem ASV (off n m:Nat) (xs:dp):AR dn (AG SY K0) Tryz.f140 300 1 [] (Ah Tryz.f140 [AP 0 off n m] (Ax xs) 1 dw) =
 some ([(AJ .i64 n,true),(!decide ((n:Int)=48),true)],[],aC 40,[]):=dk
def aN (N:Nat):Bool:=decide (0≤EC (AI (AA (Im N) 0 6)) (AI (AA PL 0 6)))
theorem ASW (off m:Nat) (xs:dp):AR dn (AG SY K0) Tryz.f140 300 1 [] (Ah Tryz.f140 [AP 0 off 48 m] (Ax xs) 1 dz) =
 some ([(true,true),(false,false),(Nat.ble (off+48) xs.length,true),(true,true),(true,true),(true,true),(true,true),(true,true),(aN (Ak (AA xs off 48)),true)],[],aC 41,[]):=dk
theorem ASX (off m:Nat) (xs:dp):AR dn (AG SY K0) Tryz.f140 300 1 [] (Ah Tryz.f140 [AP 0 off 48 m] (Ax xs) 1 d_) =
 some ([(true,true),(false,false),(Nat.ble (off+48) xs.length,true),(true,true),(true,true),(true,true),(true,true),(true,true),(aN (Ak (AA xs off 48)),false),(true,true),(true,true)],[],
  .tup [(true,[.num 6 (AI (AA (Im (Ak (AA xs off 48))) 0 6) % pN)]),(false,[.n .i64 0])],[]):=dk
theorem AER {N:Nat} (hN:N<RR):aN N=!decide (N<pN):=by
 unfold aN;rw [oU hN,AO4];unfold EC;by_cases h:N<pN
 ·rw [fw h,fu h];rfl
 ·rw [fv h,ga h];split<;>rfl
theorem AES {off n m:Nat} {xs:dp} (hx:∀ d∈xs,0≤d∧d<256) (hl:off+n≤xs.length) (hn:AJ .i64 n=true) :
  Ac dn 140 [AP 0 off n m] (Ax xs) 1 [] (Hx n (Ak (AA xs off n))) []:=by
 by_cases h:n=48
 ·subst h;have hR:Ak (AA xs off 48)<RR:=by
   have h1:=Tf (AA xs off 48) (C3 hx)
   have h2:(AA xs off 48).length=48:=by unfold AA;rw [h_,ir];omega
   rw [h2] at h1;exact Nat.lt_of_lt_of_eq h1 dk
  by_cases hN:Ak (AA xs off 48)<pN
  ·refine BA (Ay (path:=d_) Tryz.func140 dk dk fun β0 w0 hb =>
    Av (AH W4 Ab) AB Tryz.func140 (ASX off m xs) ⟨rfl,rfl,gb hl,rfl,rfl,rfl,rfl,rfl,by rw [AER hR,fu hN];rfl,rfl,rfl,trivial⟩ (AQ dk) hb ft) fun β u hu=>?_
   unfold Hx F8 HP;rw [fw ⟨rfl,hN⟩,fw rfl,fw hN];rw [oU hR,ge hN] at hu;exact CZ (fun _ q=>q) (fun _ q=>D8 rfl q) hu
  ·refine BA (Ay (path:=dz) Tryz.func140 dk dk fun β0 w0 hb =>
    Av (AH W4 Ab) AB Tryz.func140 (ASW off m xs) ⟨rfl,rfl,gb hl,rfl,rfl,rfl,rfl,rfl,by rw [AER hR,ga hN];rfl,trivial⟩ (AQ dk) hb ft) fun β u hu=>?_
   unfold Hx F8 HP;rw [fv (fun q=>hN q.2),fw rfl,fv hN]
   exact CZ (fun _ q=>Ws q) (fun _ q=>D8 rfl q) hu
 ·refine BA (Ay (path:=dw) Tryz.func140 dk dk fun β0 w0 hb =>
   Av (AH W4 Ab) AB Tryz.func140 (ASV off n m xs) ⟨hn,by simp;omega,trivial⟩ (AQ dk) hb ft) fun β u hu=>?_
  unfold Hx F8 HP;rw [fv (fun q=>h q.1),fv h]
  exact CZ (fun _ q=>Ws q) (fun _ q=>D8 rfl q) hu
theorem ASY:A' dn 128 (Th fun n l=>Hx n (Ak l)):=pU Tryz.func128 dk dk (fun _ _=>rfl) (fun _ _ _ _ _ hl hn=>pT hl hn)
noncomputable def SZ:dt:=(161,AZ (FY fun x=>AY (Bk x)))::(140,DP (Th fun n l=>Hx n (Ak l)))::(128,DP (Th fun n l=>Hx n (Ak l)))::(130,DP powSpec)::(206,DP powSpec)::(188,DP (aM fun _ l=>AY (AI l % pN)))::SY
theorem ASZ:AT dn SZ:=⟨Aa Tryz.func161 dk dk (GR fun x _=>AEQ x),D6 (pU Tryz.func140 dk dk (fun _ _=>rfl) (fun _ _ _ _ hx hl hn=>AES hx hl hn)),D6 ASY,D6 ACk,D6 AEJ,D6 (AEF Tryz.func188 dk dk (fun _ _=>rfl) (fun _ _ _ _ hx hl hn=>qV hx hl hn)),W4⟩
open Ex
theorem JJ (x n:Nat):(CI x n).length=n:=by simp [CI]
theorem rB (x n:Nat):CI x (n+1)=FE x n::CI x n:=by
 unfold CI;rw [pc,i_,kp];congr 1
 refine kb fun i hi=>?_
 have:i<n:=jl.1 hi
 simp only [Function.comp];congr 1;omega
theorem AET:∀ (n x:Nat),Ak (CI x n)=x % 256^n
 | 0,x=>by simp [CI,Ak,Nat.mod_one]
 | n+1,x=>by
  rw [rB];simp only [Ak];rw [JJ,AET n x,ip,Nat.mod_mul];unfold FE;rw [gj,gw,Nat.add_comm]
theorem AEU:∀ (l:dp),(∀ d∈l,0≤d∧d<256)→CI (Ak l) l.length=l
 | [],_=>rfl
 | d::r,h=>by
  have hd:=h d (by simp)
  have hr:∀ d∈r,0≤d∧d<256:=fun x hx=>h x (by simp [hx])
  have hlt:=Tf r hr;have ih:=AEU r hr;rw [ii,rB];have e1:FE (Ak (d::r)) r.length=d:=by
   unfold FE;simp only [Ak];rw [gw,Nat.mul_add_div (jr dm),jf hlt];omega
  have e2:CI (Ak (d::r)) r.length=CI (Ak r) r.length:=by
   unfold CI;refine kb fun i hi=>?_
   have hi':i<r.length:=jl.1 hi
   unfold FE;simp only [Ak];have e:256^r.length=256^(r.length-1-i)*(256*256^i):=by
    rw [← pi,← gp];congr 1;omega
   rw [e,jt,Nat.mul_add_div (jr dm),jt d.toNat,Nat.mul_add_mod]
  rw [e1,e2,ih]
end Go.Proofs.YtgnajdcdcblaoaaGreat
