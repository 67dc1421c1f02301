/- Part 2 of the proof. -/
import Derived.Test.YtgnajdcdcblaoaaGreatPA
import Derived.Below
import Derived.ProofKit
import Derived.OpenShut
import Derived.ChangeOld
import Derived.SizedLaws
import Derived.Recover
import Derived.RangeFuncRecord
import Derived.OrdersIn
import Derived.Test.YtgnajdcdcblaoaaGreatProg
set_option maxRecDepth 100000
set_option maxHeartbeats 4000000
open Go.Proofs.Tryz renaming prog→dn
namespace Go.Proofs.YtgnajdcdcblaoaaGreat.Ex
structure Rec where
 dst:Option Nat
 r:R
 ts:List Nat
 ks:List Nat
 fr:Nat
structure St where
 T:List AV
 H:Heap
 fr:Nat
 path:List Bool
structure Fz where
 n:Nat
 D:List Deferred
instance:Coe Nat Fz:=⟨fun n=>⟨n,[]⟩⟩
structure Inv (β0:Env) (w0:World) (W:List Nat) (n:Fz) (β:Env) (τ:Nat→AV) (H:Heap) (a:Act) (w:World):Prop where
 tmp:∀ t,AL β (τ t) (a.tmps.getD t undef)
 good:Good β H w
 sz:a.tmps.size=n.n
 dfr:a.defers=n.D
 new:∀ b X,β b=some X→β0 b=some X∨∀ B m,X=.at_ B m→w0.heap.size≤B∨∃ k m',k∈W∧β0 k=some (.at_ B m')
 ext:Env.le β0 β
 frame:∀ B,B<w0.heap.size→(∀ k m,k∈W→β0 k≠some (.at_ B m))→w.heap[B]? = w0.heap[B]?
 size:w0.heap.size≤w.heap.size
 os:w.os=w0.os
 tape:w.tape=w0.tape
 output:w.output=w0.output
theorem Good.congr {β:Env} {H H':Heap} {w:World} (g:Good β H w) (h:∀ b,AF H b=AF H' b):Good β H' w where
 heap:=fun b blk hb=>g.heap b blk (by rw [h];exact hb)
 inj:=fun b b' B n n' h1 h2=>g.inj b b' B n n' (by rw [AAy (h b)];exact h1) (by rw [h];exact h2)
 lt:=g.lt
theorem Inv.congr {β0:Env} {w0:World} {W:List Nat} {n:Fz} {β:Env} {τ τ':Nat→AV} {H H':Heap} {a:Act} {w:World} (i:Inv β0 w0 W n β τ H a w) (h1:∀ t,τ t=τ' t) (h2:∀ b,AF H b=AF H' b) :
  Inv β0 w0 W n β τ' H' a w :=
 { i with tmp:=fun t=>by rw [← h1];exact i.tmp t,good:=i.good.congr h2 }
theorem Inv.drew {β0:Env} {w0:World} {W:List Nat} {n:Fz} {β:Env} {τ:Nat→AV} {H:Heap} {a:Act} {w:World} (i:Inv β0 w0 W n β τ H a w):Inv β0 w0 W n β τ H a { w with drawn:=w.drawn+1 } :=
 { i with good:=⟨i.good.heap,i.good.inj,i.good.lt⟩ }
def Vy (τ:Nat→AV) (d:Option Nat) (v:AV):Nat→AV:=fun t=>match d with
 | some d=>match Nat.beq d t with | true=>v | false=>τ t
 | none=>τ t
theorem Inv.step {β0:Env} {w0:World} {W:List Nat} {n:Fz} {β β':Env} {τ:Nat→AV} {H:Heap} {a:Act} {w w':World} {fr:Nat} {r:R} {u:Value} {d:Option Nat} (i:Inv β0 w0 W n β τ H a w)
  (he:Eff β fr r w u w' β') (hg:Good β' (FR H r.upd) w') (hW:∀ k y,(k,y)∈r.upd→k∈W) (hd:∀ t,d=some t→t<n.n) :
  Inv β0 w0 W n β' (Vy τ d r.val) (FR H r.upd) (a.put d u) w' where
 tmp:=fun t=>by
  cases d with
  | none=>exact G_ he.ext (i.tmp t)
  | some d =>
   simp only [Vy,Act.put];have hlt:=hd d rfl;split
   ·rename_i e;have:=An.1 e
    subst this;rw [jg,si (by rw [i.sz];exact hlt)]
    exact he.val
   ·rename_i e;have:=IR e
    rw [jg,pr this,← jg];exact G_ he.ext (i.tmp t)
 good:=hg
 sz:=by cases d<;>simp [Act.put,i.sz]
 dfr:=by cases d<;>simp [Act.put,i.dfr]
 new:=fun b X hb=>by
  rcases he.new b X hb with h | ⟨_,_,h3⟩
  ·exact i.new b X h
  ·refine .inr fun B m e=>?_
   rcases h3 B m e with h | ⟨k,m',hk,hk2⟩
   ·exact .inl (ji i.size h)
   ·rcases i.new k _ hk2 with h | h
    ·exact .inr ⟨k,m',hW _ _ hk,h⟩
    ·exact h B m' rfl
 ext:=Env.le_trans i.ext he.ext
 frame:=fun B hB hno=>by
  rw [he.frame B (ik hB i.size) ?_,i.frame B hB hno];intro k y m hky hk;rcases i.new k _ hk with h | h
  ·exact hno k m (hW _ _ hky) h
  ·rcases h B m rfl with h | ⟨k',m',h1,h2⟩
   ·omega
   ·exact hno k' m' h1 h2
 size:=ji i.size he.size
 os:=by rw [he.os,i.os]
 tape:=by rw [he.tape,i.tape]
 output:=by rw [he.output,i.output]
def Vz (T:List AV) (d:Option Nat) (v:AV):List AV:=match d with
 | some d=>I9 T d v
 | none=>T
theorem ZD:∀ {T:List AV} {d t:Nat} {v:AV},d<T.length→Al (I9 T d v) t=match Nat.beq d t with | true=>v | false=>Al T t
 | [],d,t,v,h=>by simp at h
 | x::r,0,0,v,_=>rfl
 | x::r,0,t+1,v,_=>by simp [I9,Al,FQ (a:=0) (b:=t+1) dl]
 | x::r,d+1,0,v,_=>by simp [I9,Al,FQ (a:=d+1) (b:=0) dl]
 | x::r,d+1,t+1,v,h=>by
  simp only [I9,Al];rw [ZD (T:=r) (d:=d) (t:=t) (v:=v) (by simpa using h)]
  by_cases e:d=t
  ·subst e;rfl
  ·rw [FQ e,FQ (a:=d+1) (b:=t+1) dl]
theorem V0:∀ {T:List AV} {d:Nat} {v:AV},(I9 T d v).length=T.length
 | [],_,_=>rfl
 | _::_,0,_=>rfl
 | _::r,d+1,v=>by simp [I9,V0 (T:=r)]
def S_ (d:Nat):List AV→Bool
 | []=>false
 | _::r=>match d with | 0=>true | d+1=>S_ d r
theorem QF:∀ {T:List AV} {d:Nat},S_ d T=true→d<T.length
 | [],d,h=>by simp [S_] at h
 | x::r,0,_=>by simp
 | x::r,d+1,h=>by simp only [S_] at h;simp [QF h]
def ABZ (d:Option Nat) (T:List AV):Bool:=match d with
 | some d=>S_ d T
 | none=>true
theorem ZE {T:List AV} {d:Option Nat} {v:AV} (h:ABZ d T=true) (t:Nat):Al (Vz T d v) t=Vy (Al T) d v t:=by
 cases d with
 | none=>rfl
 | some d=>exact ZD (QF h)
theorem V1 {T:List AV} {d:Option Nat} {v:AV}:(Vz T d v).length=T.length:=by
 cases d with
 | none=>rfl
 | some d=>exact V0
def DO (P:Program) (O:Orc) (ops:Array Oper):List Oper→Nat→St→Option (List Rec×St)
 | [],_,s=>some ([],s)
 | o::rest,i,s =>
  match J_ P O ops i o (Mr ops o) (Al s.T) s.H s.fr s.path with
  | some e=>match ABZ o.dst s.T with
   | true=>match DO P O ops rest (i+1) ⟨Vz s.T o.dst e.val,FR s.H e.upd,s.fr+e.nw,e.path⟩ with
    | some (recs,s')=>some (⟨o.dst,e,Mr ops o,IU o (GP (Al s.T) (Mr ops o)) (Mr ops o) s.H,s.fr⟩::recs,s')
    | none=>none
   | false=>none
  | none=>none
def IW:List Rec→dr
 | []=>[]
 | r::L=>r.r.conds++IW L
def LX:Heap→List Nat
 | []=>[]
 | (k,_)::r=>k::LX r
def DZ:List Rec→List Nat
 | []=>[]
 | r::L=>cat (LX r.r.upd) (DZ L)
theorem OQ {u:Heap} {k:Nat}:k∈LX u↔∃ y,(k,y)∈u:=by
 induction u with
 | nil=>simp [LX]
 | cons e u ih =>
  obtain ⟨j,y⟩:=e;simp only [LX,gr,ih,gx];constructor
  ·rintro (rfl | ⟨z,hz⟩)
   ·exact ⟨y,.inl ⟨rfl,rfl⟩⟩
   ·exact ⟨z,.inr hz⟩
  ·rintro ⟨z,⟨rfl,_⟩ | hz⟩
   ·exact .inl rfl
   ·exact .inr ⟨z,hz⟩
theorem S' {P:Program} {O:Orc} {ops:Array Oper} {i:Nat} {o:Oper} {ts:List Nat} {τ:Nat→AV} {H:Heap} {fr:Nat} {path:List Bool} {r:R} (h:J_ P O ops i o ts τ H fr path=some r) (hfH:∀ b,fr≤b→b<fr+r.nw→AF H b=none) :
  IV H fr r.nw r.upd=true:=by
 unfold J_ at h;split at h
 ·injection h with h;subst h;rfl
 ·split at h
  ·rename_i r0 ha;split at h
   ·rename_i hu;unfold Vw at h;split at h
    ·split at h
     ·injection h with h;subst h;exact Vx hu hfH
     ·cases h
    ·injection h with h;subst h;exact Vx hu hfH
   ·cases h
  ·cases h
 ·cases h
theorem V2 {H:Heap} {fr nw:Nat} {u:Heap} (hu:IV H fr nw u=true) (hf:∀ b,fr≤b→AF H b=none):∀ b,fr+nw≤b→AF (FR H u) b=none:=by
 intro b hb;obtain ⟨u1,u2⟩:=Sz hu;by_cases hk:∃ y,(b,y)∈u
 ·obtain ⟨y,hy⟩:=hk;rcases u1 _ _ hy with h | ⟨_,h,_⟩
  ·have h:=Vk h;rw [hf b dl] at h;cases h
  ·omega
 ·rw [(OP u2).2 (fun y hy=>hk ⟨y,hy⟩)]
  exact hf b dl
section
variable {P:Program} {O:Orc} (hO:OrcOk P O) {ops:Array Oper} {β0:Env} {w0:World} {W:List Nat} {n:Fz}
include hO
omit hO in
theorem ZF:∀ {rest:List Oper} {i:Nat} {s s':St} {recs:List Rec},DO P O ops rest i s=some (recs,s')→(∀ b,s.fr≤b→AF s.H b=none) →
  (∀ b,s'.fr≤b→AF s'.H b=none)∧s.fr≤s'.fr∧s'.T.length=s.T.length
 | [],i,s,s',recs,h,hf=>by simp only [DO,gq,gx] at h;obtain ⟨rfl,rfl⟩:=h;exact ⟨hf,gd _,rfl⟩
 | o::rest,i,s,s',recs,h,hf=>by
  simp only [DO] at h;split at h
  ·rename_i e he;split at h
   ·rename_i hd;split at h
    ·rename_i recs' s'' hr;injection h with h;injection h with h1 h2;subst h1;subst h2;have hu:=S' he (fun b h1 _=>hf b h1)
     obtain ⟨j1,j2,j3⟩:=ZF hr (V2 hu hf)
     exact ⟨j1,by simp at j2;omega,by rw [j3];exact V1⟩
    ·cases h
   ·cases h
  ·cases h
theorem ABa {Q:Exit→Act→World→Prop}:∀ (rest:List Oper) (i:Nat) (s s':St) (recs:List Rec) (β:Env) (a:Act) (w:World),ops.toList.drop i=rest→DO P O ops rest i s=some (recs,s')→AM (IW recs) →
  Inv β0 w0 W n β (Al s.T) s.H a w→(∀ b,s.fr≤b→β b=none)→(∀ b,s.fr≤b→AF s.H b=none)→s.T.length=n.n→(∀ k∈DZ recs,k∈W) →
  (∀ β a w,Inv β0 w0 W n β (Al s'.T) s'.H a w→(∀ b,s'.fr≤b→β b=none)→Q .normal a w)→wpOps P ops Q (List.range' i rest.length) a w
 | [],i,s,s',recs,β,a,w,_,h,_,hi,hf,_,_,_,hQ=>by
  simp only [DO,gq,gx] at h;obtain ⟨rfl,rfl⟩:=h;exact hQ β a w hi hf
 | o::rest,i,s,s',recs,β,a,w,hdrop,h,hc,hi,hf,hfH,hn,hW,hQ=>by
  simp only [DO] at h;split at h
  ·rename_i e he;split at h
   ·rename_i hd;split at h
    ·rename_i recs' s'' hr;injection h with h;injection h with h1 h2;subst h1;subst h2;obtain ⟨c1,c2⟩:=Bo.1 hc;have ho:ops[i]? = some o:=by
      have:=gh (·[0]?) hdrop
      simpa using this
     have hdrop':ops.toList.drop (i+1)=rest:=by
      rw [← ki,hdrop];rfl
     have hu:=S' he (fun b h1 _=>hfH b h1)
     rw [ii,pp,wpOps_cons];refine ZC hO hi.tmp hi.good he c1 (fun b h1 _=>hf b h1) (fun b h1 _=>hfH b h1) ho fun u w' β' hE hG=>?_
     have hi':=hi.step hE hG (fun k y hk=>hW k (by simp only [DZ,CU,gl];exact .inl (OQ.2 ⟨y,hk⟩))) (d:=o.dst) (fun t ht=>by
      rw [ht] at hd;have:=QF hd
      omega)
     refine ABa rest (i+1) _ _ recs' β' _ w' hdrop' hr c2 (hi'.congr (fun t=>(ZE hd t).symm) (fun _=>rfl)) ?_ (V2 hu hfH) (by rw [← hn];exact V1) (fun k hk=>hW k (by simp only [DZ,CU,gl];exact .inr hk)) hQ
     intro b hb;cases hβ:β' b with
     | none=>rfl
     | some X =>
      simp only at hb
      rcases hE.new b X hβ with h | ⟨_,h,_⟩
      ·rw [hf b dl] at h;cases h
      ·omega
    ·cases h
   ·cases h
  ·cases h
end
def EW {X:Type} (f:Nat→Option X) (s:Nat→X):Nat→X:=fun k=>match f k with | some x=>x | none=>s k
def Cr {X:Type} (D:Nat→Bool):Nat→List (Nat→Option X)→(Nat→X)→(Nat→X)
 | _,[],s=>s
 | i,f::L,s=>Cr D (i+1) L (match D i with | true=>EW f s | false=>s)
theorem OR {X:Type} {D D':Nat→Bool} {k:Nat}:∀ {L:List (Nat→Option X)} {i:Nat} {s s':Nat→X},(∀ j f,L[j]? = some f→D (i+j)≠D' (i+j)→f k=none)→s k=s' k→Cr D i L s k=Cr D' i L s' k
 | [],_,_,_,_,h=>h
 | f::L,i,s,s',h1,h2=>by
  simp only [Cr];refine OR (fun j g hg hne=>h1 (j+1) g (by simpa using hg) (by rw [show i+(j+1)=i+1+j by omega];exact hne)) ?_
  have h0:=h1 0 f rfl;simp only [kz] at h0;cases hD:D i<;>cases hD':D' i<;>simp only
  ·exact h2
  ·have:=h0 (by rw [hD,hD'];simp);simp [EW,this,h2]
  ·have:=h0 (by rw [hD,hD'];simp);simp [EW,this,h2]
  ·simp only [EW];cases f k<;>simp [h2]
theorem mH {X:Type} {D D':Nat→Bool} {k:Nat}:∀ {L:List (Nat→Option X)} {i j0:Nat} {s:Nat→X} {f:Nat→Option X},L[j0]? = some f→D (i+j0)=false→D' (i+j0)=true→(∀ j,j≠j0→D' (i+j)=D (i+j)) →
  (∀ j g,L[j]? = some g→j0<j→D (i+j)=true→g k=none∨f k=none)→Cr D' i L s k=EW f (Cr D i L s) k
 | [],_,_,_,_,h,_,_,_,_=>by simp at h
 | g::L,i,0,s,f,h,hD,hD',hsame,hno=>by
  simp only [md,gq] at h;subst h;simp only [kz] at hD hD';simp only [Cr,hD,hD'];cases hf:g k with
  | none =>
   simp only [EW,hf];refine OR (fun j q hq hne=>absurd ?_ hne) (by simp [EW,hf])
   have:=hsame (j+1) dl
   rwa [show i+(j+1)=i+1+j by omega] at this
  | some x =>
   simp only [EW,hf];have e1:Cr D' (i+1) L (EW g s) k=Cr (fun _=>false) (i+1) L (EW g s) k:=by
    refine OR (fun j q hq hne=>?_) rfl
    have h1:D' (i+1+j)=true:=by cases h:D' (i+1+j)<;>simp_all
    have h2:D (i+(j+1))=true:=by
     rw [← hsame (j+1) dl,show i+(j+1)=i+1+j by omega];exact h1
    rcases hno (j+1) q (by simpa using hq) dl h2 with h | h
    ·exact h
    ·rw [hf] at h;cases h
   have e2:∀ (L:List (Nat→Option X)) (i:Nat) (s:Nat→X),Cr (fun _=>false) i L s=s:=by
    intro L;induction L with
    | nil=>intro i s;rfl
    | cons f L ih=>intro i s;simp only [Cr];exact ih _ _
   have e3:EW g s k=x:=by simp [EW,hf]
   show Cr D' (i+1) L (EW g s) k=x;rw [e1,e2,e3]
 | g::L,i,j0+1,s,f,h,hD,hD',hsame,hno=>by
  simp only [Cr];have h0:=hsame 0 dl;simp only [kz] at h0;rw [h0];exact mH (L:=L) (i:=i+1) (j0:=j0) (by simpa using h) (by rw [show i+1+j0=i+(j0+1) by omega];exact hD) (by rw [show i+1+j0=i+(j0+1) by omega];exact hD')
   (fun j hj=>by rw [show i+1+j=i+(j+1) by omega];exact hsame (j+1) dl)
   (fun j q hq hlt hd=>hno (j+1) q (by simpa using hq) dl (by rw [show i+(j+1)=i+1+j by omega];exact hd))
def IX:Heap→Nat→Option (Option Blk)
 | [],_=>none
 | (k,y)::r,b=>match Nat.beq k b with | true=>some y | false=>IX r b
theorem V3 {b:Nat}:∀ {u:Heap},(∀ y,IX u b=some y→(b,y)∈u)∧(IX u b=none→∀ y,(b,y) ∉ u)
 | []=>⟨by simp [IX],by simp⟩
 | (k,z)::r=>by
  simp only [IX];split
  ·rename_i h;have:=An.1 h;subst this
   exact ⟨fun y hy=>by injection hy with hy;simp [hy],fun h=>by cases h⟩
  ·rename_i h;have:=IR h
   refine ⟨fun y hy=>by simp [(V3 (u:=r)).1 y hy],fun hn y hy=>?_⟩
   simp only [gr,gx] at hy;rcases hy with ⟨e,_⟩ | hy
   ·exact this e.symm
   ·exact (V3 (u:=r)).2 hn y hy
theorem mI {u H:Heap} (hu:∀ k y y',(k,y)∈u→(k,y')∈u→y=y') (b:Nat):AF (FR H u) b=EW (IX u) (AF H) b:=by
 obtain ⟨h1,h2⟩:=OP (b:=b) (H:=H) hu
 simp only [EW];cases hl:IX u b with
 | none=>exact h2 (V3.2 hl)
 | some y=>exact h1 y (V3.1 y hl)
def OS (d:Option Nat) (v:AV):Nat→Option AV:=fun t=>match d with
 | some d=>match Nat.beq d t with | true=>some v | false=>none
 | none=>none
theorem ABb (τ:Nat→AV) (d:Option Nat) (v:AV) (t:Nat):Vy τ d v t=EW (OS d v) τ t:=by
 unfold Vy EW OS;cases d with
 | none=>rfl
 | some d=>simp only;cases Nat.beq d t<;>rfl
def hD (D:Nat→Bool):Nat→List Rec→Heap→Heap
 | _,[],H=>H
 | i,r::L,H=>hD D (i+1) L (match D i with | true=>FR H r.r.upd | false=>H)
def LT (L:List Rec):List (Nat→Option AV):=L.map fun r=>OS r.dst r.r.val
def LH (L:List Rec):List (Nat→Option (Option Blk)):=L.map fun r=>IX r.r.upd
theorem QG {D:Nat→Bool}:∀ {L:List Rec} {i:Nat} {H:Heap},(∀ r∈L,∀ k y y',(k,y)∈r.r.upd→(k,y')∈r.r.upd→y=y')→∀ b,AF (hD D i L H) b=Cr D i (LH L) (AF H) b
 | [],_,_,_,_=>rfl
 | r::L,i,H,hu,b=>by
  simp only [hD,LH,i_,Cr];rw [QG (L:=L) (fun q hq=>hu q (by simp [hq]))]
  have hfun:AF (match D i with | true=>FR H r.r.upd | false=>H)=(match D i with | true=>EW (IX r.r.upd) (AF H) | false=>AF H):=by
   funext x
   cases D i
   ·rfl
   ·exact mI (hu r (by simp)) x
  rw [hfun];rfl
theorem mJ {P:Program} {O:Orc} {ops:Array Oper}:∀ {rest:List Oper} {i:Nat} {s s':St} {recs:List Rec},DO P O ops rest i s=some (recs,s')→(∀ b,s.fr≤b→AF s.H b=none) →
  recs.length=rest.length∧(∀ r∈recs,∀ k y y',(k,y)∈r.r.upd→(k,y')∈r.r.upd→y=y') ∧
  (∀ t,Al s'.T t=Cr (fun _=>true) 0 (LT recs) (Al s.T) t)∧(∀ b,AF s'.H b=Cr (fun _=>true) 0 (LH recs) (AF s.H) b) ∧
  (∀ (j:Nat) (r:Rec),recs[j]? = some r→∃ (o:Oper) (T:List AV) (H:Heap) (path:List Bool),rest[j]? = some o∧J_ P O ops (i+j) o (Mr ops o) (Al T) H r.fr path=some r.r∧r.dst=o.dst∧r.ts=Mr ops o∧r.ks=IU o (GP (Al T) r.ts) r.ts H ∧
   (∀ t,Al T t=Cr (fun x=>Nat.blt x j) 0 (LT recs) (Al s.T) t)∧(∀ b,AF H b=Cr (fun x=>Nat.blt x j) 0 (LH recs) (AF s.H) b)∧(∀ t,o.dst=some t→t<s.T.length)∧s.fr≤r.fr∧r.fr+r.r.nw≤s'.fr∧(∀ b,r.fr≤b→AF H b=none)) ∧
  (∀ (j j':Nat) (r r':Rec),recs[j]? = some r→recs[j']? = some r'→j<j'→r.fr+r.r.nw≤r'.fr)
 | [],i,s,s',recs,h,hf=>by
  simp only [DO,gq,gx] at h;obtain ⟨rfl,rfl⟩:=h;exact ⟨rfl,by simp,fun _=>rfl,fun _=>rfl,by simp,by simp⟩
 | o::rest,i,s,s',recs,h,hf=>by
  simp only [DO] at h;split at h
  ·rename_i e he;split at h
   ·rename_i hd;split at h
    ·rename_i recs' s'' hr;injection h with h;injection h with h1 h2;subst h1;subst h2;have hu:=S' he (fun b h1 _=>hf b h1)
     have hf':=V2 hu hf;obtain ⟨_,u2⟩:=Sz hu;obtain ⟨i1,i2,i3,i4,i5,i6⟩:=mJ hr hf';have shift:∀ {X:Type} (D:Nat→Bool) (L:List (Nat→Option X)) (q:Nat) (x:Nat→X),Cr D (q+1) L x=Cr (fun y=>D (y+1)) q L x:=by
      intro X D L;induction L with
      | nil=>intro q x;rfl
      | cons f L ih=>intro q x;simp only [Cr];rw [ih]
     have tT:∀ t,Al (Vz s.T o.dst e.val) t=EW (OS o.dst e.val) (Al s.T) t:=fun t=>by rw [ZE hd,ABb]
     have tTf:Al (Vz s.T o.dst e.val)=EW (OS o.dst e.val) (Al s.T):=funext tT
     have tHf:AF (FR s.H e.upd)=EW (IX e.upd) (AF s.H):=funext (mI u2)
     have frs:s.fr+e.nw≤s''.fr:=by
      have:∀ {rest:List Oper} {i:Nat} {s s':St} {recs:List Rec},DO P O ops rest i s=some (recs,s')→s.fr≤s'.fr:=by
       intro rest;induction rest with
       | nil=>intro i s s' recs h;simp only [DO,gq,gx] at h;rw [← h.2];exact gd _
       | cons o rest ih =>
        intro i s s' recs h;simp only [DO] at h;split at h
        ·split at h
         ·split at h
          ·rename_i hq;injection h with h;injection h with h1 h2;subst h2;have:=ih hq
           simp at this;omega
          ·cases h
         ·cases h
        ·cases h
      exact this hr
     refine ⟨by simp [i1],?_,?_,?_,?_,?_⟩
     ·intro r hr';rcases gr.1 hr' with rfl | hr'
      ·exact u2
      ·exact i2 r hr'
     ·intro t;rw [i3];simp only [LT,i_,Cr];rw [shift,tTf]
     ·intro b;rw [i4];simp only [LH,i_,Cr];rw [shift,tHf]
     ·intro j r hj;cases j with
      | zero =>
       simp only [md,gq] at hj;subst hj;have e2:∀ {X:Type} (L:List (Nat→Option X)) (i:Nat) (s:Nat→X),Cr (fun x=>Nat.blt x 0) i L s=s:=by
        intro X L;induction L with
        | nil=>intro i s;rfl
        | cons f L ih =>
         intro i s;simp only [Cr];have:Nat.blt i 0=false:=by cases i<;>rfl
         rw [this];exact ih _ _
       refine ⟨o,s.T,s.H,s.path,rfl,he,rfl,rfl,rfl,fun t=>by rw [e2],fun b=>by rw [e2],?_,gd _,frs,hf⟩
       intro t ht;rw [ht] at hd;exact QF hd
      | succ j =>
       obtain ⟨o',T,H,path,q1,q2,q3,q4,q5,q6,q7,q8,q9,q10,q11⟩:=i5 j r (by simpa using hj)
       refine ⟨o',T,H,path,by simpa using q1,by rw [show i+(j+1)=i+1+j by omega];exact q2,q3,q4,q5,?_,?_,?_,?_,q10,q11⟩
       ·intro t;rw [q6];simp only [LT,i_,Cr];rw [shift,tTf];have:Nat.blt 0 (j+1)=true:=rfl
        rw [this];rfl
       ·intro b;rw [q7];simp only [LH,i_,Cr];rw [shift,tHf];have:Nat.blt 0 (j+1)=true:=rfl
        rw [this];rfl
       ·intro t ht;have:=q8 t ht
        rwa [V1] at this
       ·simp at q9;omega
     ·intro j j' r r' hj hj' hlt;cases j' with
      | zero=>omega
      | succ j' =>
       cases j with
       | zero =>
        simp only [md,gq] at hj;subst hj;obtain ⟨_,_,_,_,_,_,_,_,_,_,_,_,q9,_⟩:=i5 j' r' (by simpa using hj')
        exact q9
       | succ j=>exact i6 j j' r r' (by simpa using hj) (by simpa using hj') dl
    ·cases h
   ·cases h
  ·cases h
def LY (acc:List Nat):List Edge→Nat
 | []=>0
 | e::r=>match Region.binds .any e with
  | true=>2^e.on ||| (acc.getD e.on 0 ||| LY acc r)
  | false=>LY acc r
theorem mK {acc:List Nat} {k:Nat}:∀ {es:List Edge},(LY acc es).testBit k=true→∃ e∈es,Region.binds .any e=true∧(k=e.on∨(acc.getD e.on 0).testBit k=true)
 | [],h=>by simp [LY] at h
 | e::r,h=>by
  simp only [LY] at h;split at h
  ·rename_i hb;rw [Nat.testBit_or,Nat.testBit_or,oz,oz] at h;rcases h with h | h | h
   ·rw [Nat.testBit_two_pow] at h;exact ⟨e,by simp,hb,.inl (by simpa using (gv h).symm)⟩
   ·exact ⟨e,by simp,hb,.inr h⟩
   ·obtain ⟨e',h1,h2⟩:=mK h;exact ⟨e',by simp [h1],h2⟩
  ·obtain ⟨e',h1,h2⟩:=mK h;exact ⟨e',by simp [h1],h2⟩
def IY:List Oper→List Nat→List Nat
 | [],acc=>acc
 | o::r,acc=>IY r (acc++[LY acc o.after.toList])
theorem mL:∀ {l:List Oper} {acc:List Nat} {j:Nat},j<acc.length→(IY l acc).getD j 0=acc.getD j 0
 | [],_,_,_=>rfl
 | o::r,acc,j,h=>by
  simp only [IY];rw [mL (by simp;omega)]
  simp only [gy];rw [li h]
theorem ABc:∀ {l:List Oper} {acc:List Nat} {j k:Nat} {o:Oper},l[j]? = some o→((IY l acc).getD (acc.length+j) 0).testBit k=true →
  ∃ e∈o.after.toList,Region.binds .any e=true∧(k=e.on∨((IY l acc).getD e.on 0).testBit k=true)
 | [],_,_,_,_,h,_=>by simp at h
 | o::r,acc,0,k,o',h,hb=>by
  simp only [md,gq] at h;subst h;simp only [IY,kz] at hb ⊢;rw [mL (by simp)] at hb
  have:(acc++[LY acc o.after.toList]).getD acc.length 0=LY acc o.after.toList:=by simp [List.getD_eq_getElem?_getD]
  rw [this] at hb;obtain ⟨e,h1,h2,h3⟩:=mK hb;refine ⟨e,h1,h2,h3.imp id fun h=>?_⟩
  rcases gt e.on acc.length with hlt | hge
  ·rw [mL (by simp;omega)]
   have:(acc++[LY acc o.after.toList]).getD e.on 0=acc.getD e.on 0:=by
    simp only [gy];rw [li hlt]
   rw [this];exact h
  ·have:acc.getD e.on 0=0:=by simp [List.getD_eq_getElem?_getD,List.getElem?_eq_none hge]
   rw [this] at h;simp at h
 | o::r,acc,j+1,k,o',h,hb=>by
  simp only [IY] at hb ⊢;have e1:acc.length+(j+1)=(acc++[LY acc o.after.toList]).length+j:=by simp;omega
  rw [e1] at hb;exact ABc (by simpa using h) hb
def V4:List Edge→Nat→Bool
 | [],_=>true
 | e::r,i=>match Region.binds .any e with
  | true=>match Nat.blt e.on i with | true=>V4 r i | false=>false
  | false=>V4 r i
theorem mM:∀ {es:List Edge} {i:Nat},V4 es i=true→∀ e∈es,Region.binds .any e=true→e.on<i
 | [],_,_,e,h,_=>by cases h
 | e'::r,i,h,e,he,hb=>by
  simp only [V4] at h;split at h
  ·split at h
   ·rename_i hlt;rcases gr.1 he with rfl | he
    ·unfold Nat.blt at hlt;exact f_ hlt
    ·exact mM h e he hb
   ·cases h
  ·rename_i hnb;rcases gr.1 he with rfl | he
   ·rw [hb] at hnb;cases hnb
   ·exact mM h e he hb
def TA:List Oper→Nat→Bool
 | [],_=>true
 | o::r,i=>match V4 o.after.toList i with | true=>TA r (i+1) | false=>false
theorem ABd:∀ {l:List Oper} {i j:Nat} {o:Oper},TA l i=true→l[j]? = some o→∀ e∈o.after.toList,Region.binds .any e=true→e.on<i+j
 | [],_,_,_,_,h=>by simp at h
 | o::r,i,0,o',h,hj=>by
  simp only [md,gq] at hj;subst hj;simp only [TA] at h;split at h
  ·rename_i he;exact mM he
  ·cases h
 | o::r,i,j+1,o',h,hj=>by
  simp only [TA] at h;split at h
  ·have:=ABd h (by simpa using hj)
   intro e he hb;have:=this e he hb
   omega
  ·cases h
def Ms:List Nat→List Nat→Bool
 | [],_=>true
 | x::r,l=>match EH x l with | true=>false | false=>Ms r l
theorem QH:∀ {a b:List Nat},Ms a b=true→∀ x∈a,x ∉ b
 | [],_,_,x,h=>by cases h
 | y::r,b,h,x,hx=>by
  simp only [Ms] at h;split at h
  ·cases h
  ·rename_i hm;rcases gr.1 hx with rfl | hx
   ·intro hb;rw [QD.2 hb] at hm;cases hm
   ·exact QH h x hx
def OT (d:Option Nat):List Nat:=match d with | some d=>[d] | none=>[]
def ABe (r s:Rec):Bool :=
 Ms (OT r.dst) s.ts&&(Ms (OT s.dst) r.ts&&(Ms (OT r.dst) (OT s.dst)&&(Ms (LX r.r.upd) s.ks&&(Ms (LX s.r.upd) r.ks&&Ms (LX r.r.upd) (LX s.r.upd)))))
def ZG (l:List Nat) (fr nw:Nat):Bool:=match l with
 | []=>true
 | k::r=>match Nat.ble fr k&&Nat.blt k (fr+nw) with | true=>false | false=>ZG r fr nw
theorem ABf:∀ {l:List Nat} {fr nw:Nat},ZG l fr nw=true→∀ k∈l,fr≤k→¬ k<fr+nw
 | [],_,_,_,k,h,_=>by cases h
 | x::r,fr,nw,h,k,hk,h1=>by
  intro h2;simp only [ZG] at h;split at h
  ·cases h
  ·rename_i hb;rcases gr.1 hk with rfl | hk
   ·have e1:=gb h1;have e2:Nat.blt k (fr+nw)=true:=by unfold Nat.blt;exact gb h2
    rw [e1,e2] at hb;cases hb
   ·exact ABf h k hk h1 h2
def TB (r s:Rec):Bool :=
 ZG s.ks r.fr r.r.nw&&ABe r s
def bit (m i:Nat):Bool:=Nat.testBit m i
def OU (i:Nat) (r:Rec):List Rec→List Nat→Bool
 | [],_=>true
 | s::L,m::ms=>match bit m i with
  | true=>OU i r L ms
  | false=>match TB r s with | true=>OU i r L ms | false=>false
 | _::_,[]=>false
def QI:List Rec→List Nat→Nat→Bool
 | [],_,_=>true
 | r::L,_::ms,i=>match OU i r L ms with | true=>QI L ms (i+1) | false=>false
 | _::_,[],_=>false
theorem ABg {i:Nat} {r:Rec}:∀ {L:List Rec} {ms:List Nat} {j:Nat} {s:Rec},OU i r L ms=true→L[j]? = some s→(ms.getD j 0).testBit i=false→TB r s=true
 | [],_,_,_,_,h,_=>by simp at h
 | s::L,[],j,s',h,_,_=>by simp [OU] at h
 | s::L,m::ms,0,s',h,hj,hb=>by
  simp only [md,gq] at hj;subst hj;simp only [OU,bit] at h;have hb':m.testBit i=false:=by simpa using hb
  rw [hb'] at h;simp only at h
  split at h
  ·assumption
  ·cases h
 | s::L,m::ms,j+1,s',h,hj,hb=>by
  simp only [OU] at h;have key:OU i r L ms=true:=by
   split at h
   ·exact h
   ·split at h
    ·exact h
    ·cases h
  exact ABg key (by simpa using hj) (by simpa using hb)
theorem mN:∀ {L:List Rec} {ms:List Nat} {i j j':Nat} {r s:Rec},QI L ms i=true→L[j]? = some r→L[j']? = some s→j<j'→(ms.getD j' 0).testBit (i+j)=false→TB r s=true
 | [],_,_,_,_,_,_,_,h,_,_,_=>by simp at h
 | q::L,[],_,_,_,_,_,h,_,_,_,_=>by simp [QI] at h
 | q::L,m::ms,i,0,j'+1,r,s,h,hj,hj',_,hb=>by
  simp only [md,gq] at hj;subst hj;simp only [QI] at h;split at h
  ·rename_i h1;exact ABg h1 (by simpa using hj') (by simpa using hb)
  ·cases h
 | q::L,m::ms,i,j+1,j'+1,r,s,h,hj,hj',hlt,hb=>by
  simp only [QI] at h;split at h
  ·exact mN h (by simpa using hj) (by simpa using hj') dl (by rw [show i+1+j=i+(j+1) by omega];simpa using hb)
  ·cases h
 | q::L,m::ms,i,j,0,r,s,h,hj,hj',hlt,hb=>dl
theorem ZH {r s:Rec} (h:TB r s=true) :
  (∀ d,r.dst=some d→d ∉ s.ts)∧(∀ d,s.dst=some d→d ∉ r.ts)∧(∀ d,r.dst=some d→s.dst≠some d)∧(∀ k y,(k,y)∈r.r.upd→k ∉ s.ks)∧(∀ k y,(k,y)∈s.r.upd→k ∉ r.ks)∧(∀ k y y',(k,y)∈r.r.upd→(k,y') ∉ s.r.upd):=by
 have h:=(gk.1 h).2
 unfold ABe at h;simp only [gi] at h;obtain ⟨h1,h2,h3,h4,h5,h6⟩:=h;refine ⟨fun d hd=>QH h1 d (by simp [OT,hd]),fun d hd=>QH h2 d (by simp [OT,hd]),fun d hd he=>QH h3 d (by simp [OT,hd]) (by simp [OT,he]),
  fun k y hk=>QH h4 k (OQ.2 ⟨y,hk⟩),fun k y hk=>QH h5 k (OQ.2 ⟨y,hk⟩),fun k y y' hk hk'=>QH h6 k (OQ.2 ⟨y,hk⟩) (OQ.2 ⟨y',hk'⟩)⟩
theorem mO {H:Heap} {b:Nat}:∀ {ks:List Nat},(AF (restrict H ks) b).isSome=true→b∈ks
 | [],h=>by simp [restrict,AF] at h
 | k::r,h=>by
  simp only [restrict] at h;split at h
  ·simp only [AF] at h;split at h
   ·rename_i e;rw [← An.1 e];simp
   ·exact k_ _ (mO h)
  ·exact k_ _ (mO h)
theorem AM0 {P:Program} {O:Orc} {ops:Array Oper} {i:Nat} {o:Oper} {ts:List Nat} {τ:Nat→AV} {H:Heap} {fr:Nat} {path:List Bool} {r:R} (h:J_ P O ops i o ts τ H fr path=some r) :
  ∀ k y,(k,y)∈r.upd→k∈IU o (GP τ ts) ts H∨(fr≤k∧k<fr+r.nw):=by
 have key:∀ (r0:R),IV (restrict H (IU o (GP τ ts) ts H)) fr r0.nw r0.upd=true→∀ k y,(k,y)∈r0.upd→k∈IU o (GP τ ts) ts H∨(fr≤k∧k<fr+r0.nw):=by
  intro r0 hu k y hk;rcases (Sz hu).1 k y hk with h | ⟨h1,h2,_⟩
  ·exact .inl (mO (Vk h))
  ·exact .inr ⟨h1,h2⟩
 unfold J_ at h;split at h
 ·injection h with h;subst h;intro k y hk;cases hk
 ·split at h
  ·rename_i r0 ha;split at h
   ·rename_i hu;unfold Vw at h;split at h
    ·split at h
     ·injection h with h;subst h;exact key r0 hu
     ·cases h
    ·injection h with h;subst h;exact key r0 hu
   ·cases h
  ·cases h
 ·cases h
theorem mQ {d:Option Nat} {v:AV} {t:Nat} (h:d≠some t):OS d v t=none:=by
 unfold OS;cases d with
 | none=>rfl
 | some d=>simp only;rw [FQ (fun e=>h (by rw [e]))]
theorem ZI {u:Heap} {b:Nat} (h:∀ y,(b,y) ∉ u):IX u b=none:=by
 cases hl:IX u b with
 | none=>rfl
 | some y=>exact absurd (V3.1 y hl) (h y)
def left (listed:Array Bool) (m:Nat):Nat:=(List.range m).countP fun i=>!listed.getD i true
theorem ABh {α:Type} (p q:α→Bool):∀ (l:List α),(∀ x∈l,q x=true→p x=true)→l.countP q≤l.countP p
 | [],_=>gd _
 | x::l,h=>by
  have ih:=ABh p q l (fun y hy=>h y (by simp [hy]))
  rw [List.countP_cons,List.countP_cons];cases hq:q x with
  | false=>simp;cases p x<;>simp<;>omega
  | true=>rw [h x (by simp) hq];simp;exact ih
theorem ABi {α:Type} (p q:α→Bool):∀ (l:List α) (y:α),y∈l→p y=true→q y=false→(∀ x∈l,q x=true→p x=true)→l.countP q<l.countP p
 | x::l,y,hy,hp,hq,h=>by
  rw [List.countP_cons,List.countP_cons];rcases gr.1 hy with rfl | hy'
  ·have:=ABh p q l (fun z hz=>h z (by simp [hz]))
   rw [hp,hq];simp;omega
  ·have:=ABi p q l y hy' hp hq (fun z hz=>h z (by simp [hz]))
   cases hqx:q x with
   | false=>simp;cases p x<;>simp<;>omega
   | true=>rw [h x (by simp) hqx];simp;exact this
section
variable {P:Program} {O:Orc} (hO:OrcOk P O) {ops:Array Oper} {β0:Env} {w0:World} {W:List Nat} {n:Fz}
include hO
theorem AM1 {Q:Exit→Act→World→Prop} {s s':St} {recs:List Rec} (hrun:DO P O ops ops.toList 0 s=some (recs,s')) (hchk:QI recs (IY ops.toList []) 0=true) (hedge:TA ops.toList 0=true)
  (hc:AM (IW recs)) (hfH:∀ b,s.fr≤b→AF s.H b=none) (hn:s.T.length=n.n) (hW:∀ k∈DZ recs,k∈W)
  (hQ:∀ β a w,Inv β0 w0 W n β (Al s'.T) s'.H a w→(∀ b,s'.fr≤b→β b=none)→Q .normal a w) :
  ∀ (fuel:Nat) (listed:Array Bool) (β:Env) (a:Act) (w:World),listed.size=ops.size→left listed ops.size≤fuel →
   Inv β0 w0 W n β (Cr (fun i=>listed.getD i false) 0 (LT recs) (Al s.T)) (hD (fun i=>listed.getD i false) 0 recs s.H) a w →
   (∀ b,s'.fr≤b→β b=none)→(∀ j r,recs[j]? = some r→listed.getD j false=false→∀ b,r.fr≤b→b<r.fr+r.r.nw→β b=none) →
   (∀ j,listed.getD j false=true→∀ k,((IY ops.toList []).getD j 0).testBit k=true→listed.getD k false=true) →
   wpAny P .any ops Q fuel listed a w:=by
 obtain ⟨r1,r2,r3,r4,r5,r6⟩:=mJ hrun hfH;have hlen:recs.length=ops.size:=by rw [r1];simp
 have done:∀ (listed:Array Bool),listed.size=ops.size→Region.ready .any ops listed=[]→∀ i,i<ops.size→listed.getD i false=true:=by
  intro listed hsz hr i;induction i using Nat.strongRecOn with
  | _ i ih =>
   intro hi;cases hl:listed.getD i false with
   | true=>rfl
   | false =>
    exfalso
    have ho:ops[i]? = some ops[i]:=ql hi
    have hmem:i∈Region.ready .any ops listed:=by
     unfold Region.ready;rw [List.mem_filter];refine ⟨jl.2 hi,?_⟩
     have hl':listed.getD i true=false:=by
      rw [jg] at hl ⊢;rw [ql dl] at hl ⊢;simpa using hl
     rw [ho];simp only [hl',nz,jc,Option.map_some,Option.getD_some];rw [Array.all_eq_true_iff_forall_mem];intro e he;cases hb:Region.binds .any e with
     | false=>rfl
     | true =>
      have:=ABd hedge (j:=i) (o:=ops[i]) (by simp) e (by simpa using he) hb
      rw [ih e.on dl dl];rfl
    rw [hr] at hmem;cases hmem
 have fin:∀ (listed:Array Bool) (β:Env) (a:Act) (w:World),listed.size=ops.size→Region.ready .any ops listed=[] →
   Inv β0 w0 W n β (Cr (fun i=>listed.getD i false) 0 (LT recs) (Al s.T)) (hD (fun i=>listed.getD i false) 0 recs s.H) a w→(∀ b,s'.fr≤b→β b=none)→Q .normal a w:=by
  intro listed β a w hsz hr hi hf;have hd:=done listed hsz hr;refine hQ β a w (hi.congr (fun t=>?_) (fun b=>?_)) hf
  ·rw [r3];refine OR (fun j f hj hne=>?_) rfl
   have:j<ops.size:=by
    have:=(List.getElem?_eq_some_iff.1 hj).1
    simp [LT] at this;omega
   rw [gz,hd j this] at hne;exact absurd rfl hne
  ·rw [r4,QG r2];refine OR (fun j f hj hne=>?_) rfl
   have:j<ops.size:=by
    have:=(List.getElem?_eq_some_iff.1 hj).1
    simp [LH] at this;omega
   rw [gz,hd j this] at hne;exact absurd rfl hne
 intro fuel;induction fuel with
 | zero =>
  intro listed β a w hsz hleft hi hf _ _;have hr:Region.ready .any ops listed=[]:=by
   apply List.eq_nil_iff_forall_not_mem.2
   intro i hm;unfold Region.ready at hm;rw [List.mem_filter] at hm;have h1:(!listed.getD i true)=true:=(gk.1 hm.2).1
   have:0<left listed ops.size:=List.countP_pos_iff.2 ⟨i,hm.1,h1⟩
   omega
  exact ⟨hr,fin listed β a w hsz hr hi hf⟩
 | succ fuel ih =>
  intro listed β a w hsz hleft hi hf hfr hclosed;refine ⟨fun hr=>fin listed β a w hsz hr hi hf,fun i hmem=>?_⟩
  unfold Region.ready at hmem;rw [List.mem_filter] at hmem;obtain ⟨hrange,hready⟩:=hmem;have hilt:=jl.1 hrange;obtain ⟨hnl,hedges⟩:=gk.1 hready;have hnl':listed.getD i false=false:=by
   rw [jg] at hnl ⊢;rw [ql dl] at hnl ⊢;simpa using hnl
  have ho:ops[i]? = some ops[i]:=ql hilt
  rw [ho] at hedges;simp only [Option.map_some,Option.getD_some] at hedges;have hdeps:∀ e∈ops[i].after.toList,Region.binds .any e=true→listed.getD e.on false=true:=by
   intro e he hb;have:=Array.all_eq_true_iff_forall_mem.1 hedges e (by simpa using he)
   rw [hb] at this;simpa using this
  have hbits:∀ k,((IY ops.toList []).getD i 0).testBit k=true→listed.getD k false=true:=by
   intro k hk;obtain ⟨e,h1,h2,h3⟩:=ABc (l:=ops.toList) (acc:=[]) (j:=i) (k:=k) (o:=ops[i]) (by simp) (by simpa using hk)
   have:=hdeps e h1 h2
   rcases h3 with h3 | h3
   ·rw [h3];exact this
   ·exact hclosed e.on this k h3
  have hrec:recs[i]? = some recs[i]:=kn dl
  obtain ⟨o,T,H,path,q1,q2,q3,q4,q5,q6,q7,q8,q9,q10,q11⟩:=r5 i _ hrec;have ho':o=ops[i]:=by
   rw [ot,ho] at q1;injection q1 with q1;exact q1.symm
  subst ho';rw [gz] at q2;have later:∀ j r,recs[j]? = some r→i<j→listed.getD j false=true→TB recs[i] r=true:=by
   intro j r hj hlt hl;refine mN hchk hrec hj hlt ?_
   rw [gz];cases hb:((IY ops.toList []).getD j 0).testBit i with
   | false=>rfl
   | true=>rw [hclosed j hl i hb] at hnl';cases hnl'
  have earlier:∀ j r,recs[j]? = some r→j<i→listed.getD j false=false→TB r recs[i]=true:=by
   intro j r hj hlt hl;refine mN hchk hj hrec hlt ?_
   rw [gz];cases hb:((IY ops.toList []).getD i 0).testBit j with
   | false=>rfl
   | true=>rw [hbits j hb] at hl;cases hl
  have blt:∀ j,Nat.blt j i=true↔j<i:=fun j=>by unfold Nat.blt;exact ⟨f_,gb⟩
  have side:∀ j r,recs[j]? = some r→(fun x=>Nat.blt x i) (0+j)≠(fun i=>listed.getD i false) (0+j)→(∀ t∈recs[i].ts,r.dst≠some t)∧(∀ k∈recs[i].ks,∀ y,(k,y) ∉ r.r.upd):=by
   intro j r hj hne;simp only [gz] at hne;rcases Nat.lt_trichotomy j i with hlt | rfl | hlt
   ·have hb:=(blt j).2 hlt
    rw [hb] at hne;have hl:listed.getD j false=false:=by cases h:listed.getD j false with | false=>rfl | true=>rw [h] at hne;exact absurd rfl hne
    obtain ⟨p1,_,_,p4,_,_⟩:=ZH (earlier j r hj hlt hl)
    exact ⟨fun t ht hd=>p1 t hd ht,fun k hk y hy=>p4 k y hy hk⟩
   ·have hb:Nat.blt j j=false:=by cases h:Nat.blt j j with | false=>rfl | true=>exact absurd ((blt j).1 h) dl
    rw [hb,hnl'] at hne;exact absurd rfl hne
   ·have hb:Nat.blt j i=false:=by cases h:Nat.blt j i with | false=>rfl | true=>exact absurd ((blt j).1 h) dl
    rw [hb] at hne;have hl:listed.getD j false=true:=by cases h:listed.getD j false with | true=>rfl | false=>rw [h] at hne;exact absurd rfl hne
    obtain ⟨_,p2,_,_,p5,_⟩:=ZH (later j r hj hlt hl)
    exact ⟨fun t ht hd=>p2 t hd ht,fun k hk y hy=>p5 k y hy hk⟩
  have agT:∀ t∈Mr ops ops[i],Al T t=Cr (fun i=>listed.getD i false) 0 (LT recs) (Al s.T) t:=by
   intro t ht;rw [q6];refine OR (fun j f hj hne=>?_) rfl
   simp only [LT,nx,ny] at hj;obtain ⟨r,hr,rfl⟩:=hj;exact mQ ((side j r hr hne).1 t (by rw [q4];exact ht))
  have agH:∀ k∈IU ops[i] (GP (Al T) (Mr ops ops[i])) (Mr ops ops[i]) H,AF H k=AF (hD (fun i=>listed.getD i false) 0 recs s.H) k:=by
   intro k hk;rw [q7,QG r2];refine OR (fun j f hj hne=>?_) rfl
   simp only [LH,nx,ny] at hj;obtain ⟨r,hr,rfl⟩:=hj;exact ZI fun y=>(side j r hr hne).2 k (by rw [q5,q4];exact hk) y
  rw [AMz agT agH] at q2;have hcr:AM recs[i].r.conds:=by
   have:∀ (L:List Rec) (j:Nat) (r:Rec),AM (IW L)→L[j]? = some r→AM r.r.conds:=by
    intro L;induction L with
    | nil=>intro j r _ h;simp at h
    | cons q L ihL =>
     intro j r hcL hj;obtain ⟨c1,c2⟩:=Bo.1 hcL;cases j with
     | zero=>simp at hj;subst hj;exact c1
     | succ j=>exact ihL j r c2 (by simpa using hj)
   exact this recs i _ hc hrec
  have keysW:∀ k y,(k,y)∈recs[i].r.upd→k∈W:=by
   intro k y hk;refine hW k ?_
   have:∀ (L:List Rec) (r:Rec),r∈L→k∈LX r.r.upd→k∈DZ L:=by
    intro L;induction L with
    | nil=>intro r h;cases h
    | cons q L ihL =>
     intro r hr hkr;simp only [DZ,CU,gl];rcases gr.1 hr with rfl | hr
     ·exact .inl hkr
     ·exact .inr (ihL r hr hkr)
   exact this recs _ (List.getElem_mem _) (OQ.2 ⟨y,hk⟩)
  have freeH:∀ b,recs[i].fr≤b→b<recs[i].fr+recs[i].r.nw→AF (hD (fun i=>listed.getD i false) 0 recs s.H) b=none:=by
   intro b h1 h2;have e:=q11 b h1;rw [q7] at e;rw [QG r2,← e];refine OR (fun j f hj hne=>?_) rfl
   simp only [LH,nx,ny] at hj;obtain ⟨r,hr,rfl⟩:=hj;refine ZI fun y hy=>?_
   obtain ⟨o2,T2,H2,path2,w1,w2,_,w4,w5,_,_,_,w9,w10,w11⟩:=r5 j r hr;have hu2:=S' w2 (fun b h1 _=>w11 b h1)
   simp only [gz] at hne;rcases Nat.lt_trichotomy j i with hlt | rfl | hlt
   ·have:=r6 j i r _ hr hrec hlt
    rcases (Sz hu2).1 b y hy with hh | ⟨_,hh,_⟩
    ·have hh:=Vk hh;rw [w11 b dl] at hh;cases hh
    ·omega
   ·have hb:Nat.blt j j=false:=by cases h:Nat.blt j j with | false=>rfl | true=>exact absurd ((blt j).1 h) dl
    rw [hb,hnl'] at hne;exact absurd rfl hne
   ·have hb:Nat.blt j i=false:=by cases h:Nat.blt j i with | false=>rfl | true=>exact absurd ((blt j).1 h) dl
    rw [hb] at hne;have hl:listed.getD j false=true:=by cases h:listed.getD j false with | true=>rfl | false=>rw [h] at hne;exact absurd rfl hne
    have hind:=later j r hr hlt hl;have h6:=r6 i j _ r hrec hr hlt;rcases AM0 w2 b y hy with hh | ⟨hh,_⟩
    ·rw [← w4,← w5] at hh;exact ABf (gk.1 hind).1 b hh h1 h2
    ·omega
  refine ZC hO hi.tmp hi.good q2 hcr (hfr i _ hrec hnl') freeH ho fun u w' β' hE hG=>?_
  have hset:∀ j,(listed.setIfInBounds i true).getD j false=if j=i then true else listed.getD j false:=by
   intro j;rw [jg,jg];by_cases hji:j=i
   ·subst hji;rw [si dl];simp
   ·rw [pr (Ne.symm hji),fv hji]
  have hst:=hi.step hE hG keysW (d:=ops[i].dst) (fun t ht=>by rw [← hn];exact q8 t ht)
  refine ih _ β' _ w' (by simpa using hsz) ?_ (hst.congr (fun t=>?_) (fun b=>?_)) ?_ ?_ ?_
  ·have hlt:left (listed.setIfInBounds i true) ops.size<left listed ops.size:=by
    refine ABi _ _ _ i hrange hnl ?_ ?_
    ·rw [jg,si dl];rfl
    ·intro j _ hj;by_cases hji:j=i
     ·subst hji;exact hnl
     ·rw [jg,pr (Ne.symm hji),← jg] at hj;exact hj
   omega
  ·rw [ABb];have hf:(LT recs)[i]? = some (OS ops[i].dst recs[i].r.val):=by simp [LT,hrec,q3]
   refine (mH hf (by rw [gz];exact hnl') (by rw [gz,hset,fw rfl]) (fun j hj=>by rw [gz,hset,fv hj]) ?_).symm
   intro j g hg hlt hl;simp only [LT,nx,ny] at hg;obtain ⟨r,hr,rfl⟩:=hg;rw [gz] at hl;obtain ⟨_,_,p3,_⟩:=ZH (later j r hr hlt hl)
   by_cases hd:ops[i].dst=some t
   ·exact .inl (mQ (p3 t (by rw [q3];exact hd)))
   ·exact .inr (mQ hd)
  ·rw [mI (r2 _ (List.getElem_mem _)),QG r2];have hf:(LH recs)[i]? = some (IX recs[i].r.upd):=by simp [LH,hrec]
   have hfun:AF (hD (fun i=>listed.getD i false) 0 recs s.H)=Cr (fun i=>listed.getD i false) 0 (LH recs) (AF s.H):=funext (QG r2)
   rw [hfun];refine (mH hf (by rw [gz];exact hnl') (by rw [gz,hset,fw rfl]) (fun j hj=>by rw [gz,hset,fv hj]) ?_).symm
   intro j g hg hlt hl;simp only [LH,nx,ny] at hg;obtain ⟨r,hr,rfl⟩:=hg;rw [gz] at hl;obtain ⟨_,_,_,_,_,p6⟩:=ZH (later j r hr hlt hl)
   by_cases hk:∃ y,(b,y)∈recs[i].r.upd
   ·obtain ⟨y,hy⟩:=hk;exact .inl (ZI fun y' hy'=>p6 b y y' hy hy')
   ·exact .inr (ZI fun y hy=>hk ⟨y,hy⟩)
  ·intro b hb;cases hβ:β' b with
   | none=>rfl
   | some X =>
    rcases hE.new b X hβ with h | ⟨_,h,_⟩
    ·rw [hf b hb] at h;cases h
    ·omega
  ·intro j r hj hl b h1 h2;rw [hset] at hl;by_cases hji:j=i
   ·rw [fw hji] at hl;cases hl
   ·rw [fv hji] at hl;cases hβ:β' b with
    | none=>rfl
    | some X =>
     rcases hE.new b X hβ with h | ⟨h3,h4,_⟩
     ·rw [hfr j r hj hl b h1 h2] at h;cases h
     ·rcases gt j i with hlt | hge
      ·have:=r6 j i r _ hj hrec hlt;omega
      ·have:=r6 i j _ r hrec hj dl;omega
  ·intro j hj k hk;rw [hset] at hj ⊢;by_cases hki:k=i
   ·rw [fw hki]
   ·rw [fv hki];by_cases hji:j=i
    ·subst hji;exact hbits k hk
    ·rw [fv hji] at hj;exact hclosed j hj k hk
end
structure ASt where
 todo:List Item
 s:St
structure Log where
 conds:dr
 keys:List Nat
def ZJ (P:Program) (O:Orc) (ops:Array Oper) (draw:Bool) (s:St):Option (Log×St) :=
 match DO P O ops ops.toList 0 s with
 | some (recs,s')=>match draw with
  | false=>some (⟨IW recs,DZ recs⟩,s')
  | true=>match QI recs (IY ops.toList []) 0,TA ops.toList 0 with
   | true,true=>some (⟨IW recs,DZ recs⟩,s')
   | _,_=>none
 | none=>none
def Mt (P:Program) (O:Orc) (x:ASt):Option (Log×ASt) :=
 match x.todo with
 | .code .skip::k=>some (⟨[],[]⟩,⟨k,x.s⟩)
 | .code (.label _)::k=>some (⟨[],[]⟩,⟨k,x.s⟩)
 | .inBlock _::k=>some (⟨[],[]⟩,⟨k,x.s⟩)
 | .inScope _::k=>some (⟨[],[]⟩,⟨k,x.s⟩)
 | .code (.seq a b)::k=>some (⟨[],[]⟩,⟨.code a::.code b::k,x.s⟩)
 | .code (.cond c a b)::k=>match Br (Al x.s.T) c with
  | some (.val false [.b true])=>some (⟨[],[]⟩,⟨.code a::k,x.s⟩)
  | some (.val false [.b false])=>some (⟨[],[]⟩,⟨.code b::k,x.s⟩)
  | some (.val false [.v (.bool z)])=>match x.s.path with
   | true::rest=>some (⟨[(z,true)],[]⟩,⟨.code a::k,{ x.s with path:=rest }⟩)
   | false::rest=>some (⟨[(z,false)],[]⟩,⟨.code b::k,{ x.s with path:=rest }⟩)
   | []=>none
  | _=>none
 | .code (.block id c)::k=>some (⟨[],[]⟩,⟨.code c::.inBlock id::k,x.s⟩)
 | .code (.loop c)::k=>some (⟨[],[]⟩,⟨.code c::.inLoop c::k,x.s⟩)
 | .inLoop c::k=>some (⟨[],[]⟩,⟨.code c::.inLoop c::k,x.s⟩)
 | .code (.scope c)::k=>some (⟨[],[]⟩,⟨.code c::.inScope c::k,x.s⟩)
 | .code (.exit id)::k=>match exitTo id k with
  | some k'=>some (⟨[],[]⟩,⟨k',x.s⟩)
  | none=>none
 | .code (.goto l)::k=>match gotoIn l k with
  | some k'=>some (⟨[],[]⟩,⟨k',x.s⟩)
  | none=>none
 | .code (.region _ ops draw)::k=>match ZJ P O ops draw x.s with
  | some (g,s')=>some (g,⟨k,s'⟩)
  | none=>none
 | _=>none
def Safe (P:Program) (f:FuncId) (R:Ending→World→Prop) (todo:List Item) (a:Act) (w:World):Prop :=
 ∀ (b:Frame) (cs:List Frame),b.fn=f→b.kind=.normal→∃ e w' fr,R e w'∧Comes P (lone (b.at a todo) cs w) (lone fr cs w') e∧fr.fn=f∧fr.leaving P w' e
section
variable {P:Program} {f:FuncId} {R:Ending→World→Prop} {a:Act} {w:World} {k:List Item}
theorem Safe.of_step {todo todo':List Item} (h:∀ (b:Frame) (cs:List Frame),step P (lone (b.at a todo) cs w)=.next (lone (b.at a todo') cs w)) (hs:Safe P f R todo' a w):Safe P f R todo a w:=by
 intro b cs hb hk;obtain ⟨e,w',fr,h1,h2,h3,h4⟩:=hs b cs hb hk;exact ⟨e,w',fr,h1,.of_steps (.one (h b cs)) h2,h3,h4⟩
theorem Safe.of_wp {c:Code} {k:List Item} (h:c.wp P (fun e a' w'=>e=.normal∧Safe P f R k a' w') a w):Safe P f R (.code c::k) a w:=by
 intro b cs hb hk;obtain ⟨e,a',w',⟨he,hs⟩,harr⟩:=h b k cs;subst he;obtain ⟨e,w'',fr,h1,h2,h3,h4⟩:=hs b cs hb hk;exact ⟨e,w'',fr,h1,.of_steps harr h2,h3,h4⟩
theorem AM2 {b:Frame} {cs:List Frame} {c:Code}:step P (lone (b.at a (.code (.scope c)::k)) cs w)=.next (lone (b.at a (.code c::.inScope c::k)) cs w) :=
 step_lone_go (by simp [stepG,stepG.exec,Frame.at])
theorem AM3 {b:Frame} {cs:List Frame} {c:Code}:step P (lone (b.at a (.inScope c::k)) cs w)=.next (lone (b.at a k) cs w) :=
 step_lone_go (by simp [stepG,stepG.exec,Frame.at])
theorem Safe.done {fn:Func} {v:Value} {todo:List Item} (hfn:P.funcs[f]? = some fn) (hd:a.defers=[]) (hr:(results fn a.tmps).run P w=.ok v w) (hR:R (.returned v) w)
  (ht:(∃ k,todo=.code .ret::k)∨todo=[]):Safe P f R todo a w:=by
 intro b cs hb hk;rcases ht with ⟨k,rfl⟩ | rfl
 ·exact ⟨.returned v,w,{ b.at a (.code .ret::k) with mode:=.returning },hR,Steps.one step_ret,hb,rfl,hd,hk,fn,by show P.funcs[b.fn]? = some fn;rw [hb];exact hfn,hr⟩
 ·exact ⟨.returned v,w,{ b.at a [] with mode:=.returning },hR,Steps.one step_end,hb,rfl,hd,hk,fn,by show P.funcs[b.fn]? = some fn;rw [hb];exact hfn,hr⟩
end
def ASafe (P:Program) (f:FuncId) (β0:Env) (w0:World) (R:Ending→World→Prop) (n:Fz) (W:List Nat) (x:ASt):Prop :=
 ∀ (β:Env) (a:Act) (w:World),Inv β0 w0 W n β (Al x.s.T) x.s.H a w→(∀ b,x.s.fr≤b→β b=none)→Safe P f R x.todo a w
def BO (n:Fz) (s:St):Prop:=(∀ b,s.fr≤b→AF s.H b=none)∧s.T.length=n.n
theorem Inv.mono {β0:Env} {w0:World} {W W':List Nat} {n:Fz} {β:Env} {τ:Nat→AV} {H:Heap} {a:Act} {w:World} (i:Inv β0 w0 W n β τ H a w) (h:∀ k∈W,k∈W'):Inv β0 w0 W' n β τ H a w :=
 { i with
  new:=fun b X hb=>(i.new b X hb).imp id fun q B m e=>(q B m e).imp id fun ⟨k,m',h1,h2⟩=>⟨k,m',h k h1,h2⟩
  frame:=fun B hB hno=>i.frame B hB fun k m hk=>hno k m (h k hk) }
section
variable {P:Program} {O:Orc} (hO:OrcOk P O) (hm:P.follows .mixedOrders=true) {f:FuncId} {β0:Env} {w0:World} {R:Ending→World→Prop} {n:Fz} {W:List Nat}
include hO hm
theorem AM4 {id:Nat} {ops:Array Oper} {draw:Bool} {s s':St} {g:Log} {k:List Item} (h:ZJ P O ops draw s=some (g,s')) (hc:AM g.conds) (hwf:BO n s)
  (hs:ASafe P f β0 w0 R n (W++g.keys) ⟨k,s'⟩):ASafe P f β0 w0 R n W ⟨.code (.region id ops draw)::k,s⟩:=by
 intro β a w hi hf;obtain ⟨hfH,hn⟩:=hwf;have hi':=hi.mono (W':=W++g.keys) (fun k hk=>gl.2 (.inl hk))
 unfold ZJ at h;split at h
 ·rename_i recs s1 hrun;split at h
  ·injection h with h;injection h with h1 h2;subst h1;subst h2;refine Safe.of_wp (wp_region ?_)
   have:=ABa hO (Q:=fun e a' w'=>e=.normal∧Safe P f R k a' w') ops.toList 0 s s1 recs β a w (by simp) hrun hc hi' hf hfH hn (fun k hk=>gl.2 (.inr hk)) (fun β a w hi hf=>⟨rfl,hs β a w hi hf⟩)
   rw [qi];simpa using this
  ·split at h
   ·rename_i hchk hedge;injection h with h;injection h with h1 h2;subst h1;subst h2;refine Safe.of_wp (wp_region_any hm ?_)
    obtain ⟨r1,r2,r3,r4,r5,r6⟩:=mJ hrun hfH;have hlist:∀ j,(Array.replicate ops.size false).getD j false=false:=by
     intro j;rw [jg,Array.getElem?_replicate];split<;>rfl
    have e2:∀ {X:Type} (L:List (Nat→Option X)) (i:Nat) (s:Nat→X),Cr (fun i=>(Array.replicate ops.size false).getD i false) i L s=s:=by
     intro X L;induction L with
     | nil=>intro i s;rfl
     | cons f L ih=>intro i s;rw [Cr,hlist];exact ih _ _
    refine AM1 hO (Q:=fun e a' w'=>e=.normal∧Safe P f R k a' w') hrun hchk hedge hc hfH hn (fun k hk=>gl.2 (.inr hk)) (fun β a w hi hf=>⟨rfl,hs β a w hi hf⟩) _ _ β a _ (by simp) ?_ ?_ ?_ ?_ ?_
    ·refine ji List.countP_le_length ?_
     simp
    ·refine (hi'.drew).congr (fun t=>by rw [e2]) (fun b=>by rw [QG r2,e2])
    ·intro b hb;have:s.fr≤s1.fr:=(ZF hrun hfH).2.1
     exact hf b (ji this hb)
    ·intro j r hj _ b h1 h2;obtain ⟨_,_,_,_,_,_,_,_,_,_,_,_,q9,_⟩:=r5 j r hj;exact hf b (ji q9 h1)
    ·intro j hj;rw [hlist] at hj;cases hj
   ·cases h
 ·cases h
theorem V5 {x y:ASt} {g:Log} (h:Mt P O x=some (g,y)) (hc:AM g.conds) (hwf:BO n x.s) (hs:ASafe P f β0 w0 R n (W++g.keys) y):ASafe P f β0 w0 R n W x:=by
 obtain ⟨todo,s⟩:=x;unfold Mt at h;simp only at h
 have pl:∀ {k':List Item},(⟨[],[]⟩,⟨k',s⟩)=(g,y)→(∀ (a:Act) (w:World) (b:Frame) (cs:List Frame),step P (lone (b.at a todo) cs w)=.next (lone (b.at a k') cs w))→ASafe P f β0 w0 R n W ⟨todo,s⟩:=by
  intro k' he hst β a w hi hf;injection he with h1 h2;subst h1;subst h2;exact Safe.of_step (hst a w) (hs β a w (by simpa using hi) hf)
 split at h
 all_goals first | (cases h;done) | skip
 ·injection h with h;exact pl h (fun _ _ _ _=>step_skip)
 ·injection h with h;exact pl h (fun _ _ _ _=>step_label)
 ·injection h with h;exact pl h (fun _ _ _ _=>step_inBlock)
 ·injection h with h;exact pl h (fun _ _ _ _=>AM3)
 ·injection h with h;exact pl h (fun _ _ _ _=>step_seq)
 ·rename_i c ca cb k;have cond:∀ (z:Bool) (path':List Bool) (cc:dr),(⟨cc,[]⟩,⟨.code (if z then ca else cb)::k,{ s with path:=path' }⟩)=(g,y)→(AM cc→∀ (β:Env) (a:Act),(∀ t,AL β (Al s.T t) (a.tmps.getD t undef))→a.eval c=.bool z)→ASafe P f β0 w0 R n W ⟨.code (.cond c ca cb)::k,s⟩:=by
   intro z path' cc he hev β a w hi hf;injection he with h1 h2;subst h1;subst h2;refine Safe.of_step (fun b cs=>step_cond (hev hc β a hi.tmp)) (hs β a w (by simpa using hi) hf)
  split at h
  ·rename_i hev;injection h with h;refine cond true s.path [] (by simpa using h) fun _ β a ht=>?_
   have:=Aw (IS ht hev)
   simpa [BF] using this
  ·rename_i hev;injection h with h;refine cond false s.path [] (by simpa using h) fun _ β a ht=>?_
   have:=Aw (IS ht hev)
   simpa [BF] using this
  ·rename_i z hev;split at h
   ·rename_i rest hp;injection h with h;refine cond true rest [(z,true)] (by simpa using h) fun hz β a ht=>?_
    have:=(Aw (IS ht hev)).1
    injection this with this _;rw [this,hz.1]
   ·rename_i rest hp;injection h with h;refine cond false rest [(z,false)] (by simpa using h) fun hz β a ht=>?_
    have:=(Aw (IS ht hev)).1
    injection this with this _;rw [this,hz.1]
   ·cases h
  ·cases h
 ·injection h with h;exact pl h (fun _ _ _ _=>step_block)
 ·injection h with h;exact pl h (fun _ _ _ _=>step_loop)
 ·injection h with h;exact pl h (fun _ _ _ _=>step_inLoop)
 ·injection h with h;exact pl h (fun _ _ _ _=>AM2)
 ·split at h
  ·rename_i k' he;injection h with h;exact pl h (fun _ _ _ _=>step_exit he)
  ·cases h
 ·split at h
  ·rename_i k' he;injection h with h;exact pl h (fun _ _ _ _=>step_goto he)
  ·cases h
 ·split at h
  ·rename_i g' s' hr;injection h with h;injection h with h1 h2;subst h1;subst h2;exact AM4 hO hm hr hc hwf hs
  ·cases h
omit hO hm in
theorem V6 {x y:ASt} {g:Log} (h:Mt P O x=some (g,y)) (hwf:BO n x.s):BO n y.s:=by
 obtain ⟨todo,s⟩:=x;unfold Mt at h;simp only at h hwf
 have pl:∀ {k':List Item} {c:Log},(c,(⟨k',s⟩:ASt))=(g,y)→BO n y.s:=by
  intro k' c he;injection he with h1 h2;subst h2;exact hwf
 split at h
 all_goals first | (cases h;done) | skip
 all_goals first | (injection h with h;exact pl h) | skip
 ·split at h
  ·injection h with h;exact pl h
  ·injection h with h;exact pl h
  ·split at h
   ·injection h with h;injection h with h1 h2;subst h2;exact hwf
   ·injection h with h;injection h with h1 h2;subst h2;exact hwf
   ·cases h
  ·cases h
 ·split at h
  ·injection h with h;exact pl h
  ·cases h
 ·split at h
  ·injection h with h;exact pl h
  ·cases h
 ·split at h
  ·rename_i g' s' hr;injection h with h;injection h with h1 h2;subst h2;unfold ZJ at hr;split at hr
   ·rename_i recs s1 hrun;have:=ZF hrun hwf.1
    have hw:BO n s1:=⟨this.1,by rw [this.2.2];exact hwf.2⟩
    split at hr
    ·injection hr with hr;injection hr with _ hr;subst hr;exact hw
    ·split at hr
     ·injection hr with hr;injection hr with _ hr;subst hr;exact hw
     ·cases hr
   ·cases hr
  ·cases h
end
def AM5 (stop:Option Nat) (before:List Item) (after:List Item):Bool :=
 match stop,before with
 | some d,.inLoop _::_=>match d with | 0=>true | d+1=>Nat.beq after.length (d+1)
 | some d,.code (.loop _)::_=>match d with | 0=>true | d+1=>Nat.beq after.length (d+1)
 | _,_=>false
def J':List Item→Bool
 | []=>true
 | .code .ret::_=>true
 | _=>false
def KA (P:Program) (O:Orc) (stop:Option Nat):Nat→ASt→Option (Log×ASt)
 | 0,_=>none
 | n+1,x=>match J' x.todo with
  | true=>some (⟨[],[]⟩,x)
  | false=>match Mt P O x with
   | some (g,y)=>match AM5 stop x.todo y.todo with
    | true=>some (g,y)
    | false=>match KA P O stop n y with
     | some (g',z)=>some (⟨g.conds++g'.conds,cat g.keys g'.keys⟩,z)
     | none=>none
   | none=>none
section
variable {P:Program} {O:Orc} (hO:OrcOk P O) (hm:P.follows .mixedOrders=true) {f:FuncId} {β0:Env} {w0:World} {R:Ending→World→Prop} {n:Fz}
include hO hm
theorem V7 {stop:Option Nat}:∀ {m:Nat} {W:List Nat} {x y:ASt} {g:Log},KA P O stop m x=some (g,y)→AM g.conds→BO n x.s→(BO n y.s→ASafe P f β0 w0 R n (W++g.keys) y)→ASafe P f β0 w0 R n W x
 | 0,_,_,_,_,h,_,_,_=>by simp [KA] at h
 | m+1,W,x,y,g,h,hc,hwf,hs=>by
  simp only [KA] at h;split at h
  ·injection h with h;injection h with h1 h2;subst h1;subst h2;have:=hs hwf
   simpa using this
  ·split at h
   ·rename_i g1 y1 hst;split at h
    ·injection h with h;injection h with h1 h2;subst h1;subst h2;exact V5 hO hm hst hc hwf (hs (V6 hst hwf))
    ·split at h
     ·rename_i g2 z hr;injection h with h;injection h with h1 h2;subst h1;subst h2;obtain ⟨c1,c2⟩:=Bo.1 hc;refine V5 hO hm hst c1 hwf (V7 hr c2 (V6 hst hwf) fun hw=>?_)
      have:=hs hw
      simpa [CU] using this
     ·cases h
   ·cases h
end
def mR (P:Program) (T:List AV) (H:Heap):ResultVar→Option (Bool×List Ch)
 | .tmp t=>match Al T t with
  | .val g cs=>some (g,cs)
  | _=>none
 | .cell a t=>match Al T a with
  | .val false [.p bk off]=>match LO H bk with
   | some blk=>match SJ P t blk.cs off [] with
    | some r=>match r.conds,r.val with
     | [],.val g cs=>some (g,cs)
     | _,_=>none
    | none=>none
   | none=>none
  | _=>none
def OV (P:Program) (T:List AV) (H:Heap):List ResultVar→Option (List (Bool×List Ch))
 | []=>some []
 | x::r=>match mR P T H x,OV P T H r with
  | some a,some l=>some (a::l)
  | _,_=>none
def TC (l:List (Bool×List Ch)):AV:=match l with
 | [(g,cs)]=>.val g cs
 | l=>.tup l
theorem AM6 {P:Program} {β:Env} {T:List AV} {H:Heap} {tmps:Array Value} {w:World} (ht:∀ t,AL β (Al T t) (tmps.getD t undef)) (g:Good β H w) {x:ResultVar} {a:Bool×List Ch} (h:mR P T H x=some a) :
  ∃ u,((match x with | .tmp t=>pure (tmps.getD t undef) | .cell a t=>do loadVar t (← asAddr (tmps.getD a undef)):Sem Value)).run P w=.ok u w∧Bi β a.1 a.2 u:=by
 unfold mR at h;split at h
 ·rename_i t;split at h
  ·rename_i gg cs hT;injection h with h;subst h;have:=ht t
   rw [hT] at this;exact ⟨_,rfl,this⟩
  ·cases h
 ·rename_i ad t;split at h
  ·rename_i bk off hT;split at h
   ·rename_i blk hb;split at h
    ·rename_i r hl;split at h
     ·rename_i gg cs hcv hvv;injection h with h;subst h;have:=ht ad
      rw [hT] at this;obtain ⟨B',n',e4,e5⟩:=Aw this;injection e5 with e5 _;rcases g.cells hb with ⟨B,n,l,t',pre,ty',fz,e1,e2,e3,e0,_⟩ | ⟨X,e1,e2,_⟩
      ·rw [e1] at e4;injection e4 with e4;injection e4 with e4 e4';subst e4;subst e4';obtain ⟨v,hv,he⟩:=Yu g e2 e3 hl (by rw [hcv];trivial) 0
       rw [e0] at hv;refine ⟨v,?_,?_⟩
       ·simp only [e5,asAddr,Sem.run_bind,Sem.run_pure,Result.andThen_ok,hv]
       ·have:=he.val
        rw [hvv] at this;exact this
      ·rw [e1] at e4;injection e4 with e4;subst e4;exact e2.elim
     ·cases h
    ·cases h
   ·cases h
  ·cases h
theorem ZK {P:Program} {β:Env} {T:List AV} {H:Heap} {fn:Func} {tmps:Array Value} {w:World} (ht:∀ t,AL β (Al T t) (tmps.getD t undef)) (g:Good β H w) {l:List (Bool×List Ch)} (h:OV P T H fn.results.toList=some l) :
  ∃ v,(results fn tmps).run P w=.ok v w∧AL β (TC l) v:=by
 have key:∀ (rs:List ResultVar) (l:List (Bool×List Ch)),OV P T H rs=some l →
   ∃ us,(rs.mapM (m:=Sem) fun | .tmp t=>pure (tmps.getD t undef) | .cell a t=>do loadVar t (← asAddr (tmps.getD a undef))).run P w=.ok us w∧FN β l us:=by
  intro rs;induction rs with
  | nil=>intro l h;simp only [OV,gq] at h;subst h;exact ⟨[],by simp,rfl⟩
  | cons x rs ih =>
   intro l h;simp only [OV] at h;split at h
   ·rename_i a l' h1 h2;injection h with h;subst h;obtain ⟨u,hu,hr⟩:=AM6 ht g h1;obtain ⟨us,hus,hrs⟩:=ih l' h2;refine ⟨u::us,?_,u,us,hr,hrs,rfl⟩
    rw [List.mapM_cons,Sem.run_bind,hu];simp only [Result.andThen_ok,Sem.run_bind,hus,Sem.run_pure]
   ·cases h
 obtain ⟨us,hus,hrel⟩:=key _ _ h;unfold results;rw [Array.mapM_eq_mapM_toList,Sem.run_bind,Sem.run_map];refine ⟨if h:us.toArray.size=1 then us.toArray[0] else .tuple us.toArray,?_,?_⟩
 ·have e:∀ (x:Sem (List Value)),x.run P w=.ok us w→((x.run P w).andThen fun a w'=>Result.ok a.toArray w').andThen (fun vs w'=>Result.ok (if h:vs.size=1 then vs[0] else Value.tuple vs) w')=.ok (if h:us.toArray.size=1 then us.toArray[0] else .tuple us.toArray) w:=by
   intro x hx;rw [hx];rfl
  exact e _ hus
 unfold TC;split
 ·rename_i gg cs;obtain ⟨u,l',h1,h2,h3⟩:=hrel;simp only [FN] at h2;subst h2;subst h3;show AL β (.val gg cs) u;exact h1
 ·rename_i hno;have hlen:us.length=l.length:=by
   have:∀ (l:List (Bool×List Ch)) (us:List Value),FN β l us→us.length=l.length:=by
    intro l;induction l with
    | nil=>intro us h;simp only [FN] at h;simp [h]
    | cons x l ih=>intro us ⟨u,l',h1,h2,h3⟩;simp [h3,ih _ h2]
   exact this _ _ hrel
  rw [dif_neg (by
   intro h1;have:l.length=1:=by rw [← hlen];simpa using h1
   obtain ⟨⟨gg,cs⟩,rfl⟩:=pq.1 this;exact hno gg cs rfl)]
  exact ⟨us,hrel,rfl⟩
end Go.Proofs.YtgnajdcdcblaoaaGreat.Ex
namespace Go.Proofs.YtgnajdcdcblaoaaGreat
abbrev dt:=List (FuncId×Ex.ASpec)
end Go.Proofs.YtgnajdcdcblaoaaGreat
namespace Go.Proofs.YtgnajdcdcblaoaaGreat.Ex
open Go.RowKit (Below)
def TD:Nat→List AV
 | 0=>[]
 | n+1=>.tup []::TD n
def ZL:List AV→List AV→List AV
 | [],l=>l
 | x::r,l=>x::ZL r l
theorem TE:∀ (a b:List AV),ZL a b=a++b
 | [],_=>rfl
 | x::r,b=>by simp [ZL,TE r b]
theorem V8:∀ n,(TD n).length=n
 | 0=>rfl
 | n+1=>by simp [TD,V8 n]
def F2:List AV→Nat
 | []=>0
 | _::r=>F2 r+1
theorem IZ:∀ l:List AV,F2 l=l.length
 | []=>rfl
 | _::r=>by simp [F2,IZ r]
def F3 (args:List AV) (n:Nat):List AV:=ZL args (TD (n-F2 args))
theorem mS {β:Env}:∀ {xs:List AV} {us:List Value},A_ β xs us→us.length=xs.length
 | [],us,h=>by simp only [A_] at h;simp [h]
 | x::xs,us,⟨u,us',_,h2,h3⟩=>by simp [h3,mS h2]
theorem mT {β:Env}:∀ {xs:List AV} {us:List Value} (m:Nat),A_ β xs us→∀ t,AL β (Al (xs++TD m) t) ((us++List.replicate m undef).getD t undef)
 | [],us,0,h,t=>by simp only [A_] at h;subst h;exact trivial
 | [],us,m+1,h,0=>by
  simp only [A_] at h;subst h;exact ⟨[],rfl,rfl⟩
 | [],us,m+1,h,t+1=>by
  simp only [A_] at h;subst h;have:=mT (β:=β) (xs:=[]) (us:=[]) m rfl t
  simpa [TD,Al,List.replicate_succ] using this
 | x::xs,us,m,⟨u,us',h1,h2,h3⟩,0=>by subst h3;exact h1
 | x::xs,us,m,⟨u,us',h1,h2,h3⟩,t+1=>by
  subst h3;have:=mT m h2 t
  simpa [Al] using this
structure Out (β0:Env) (w0:World) (W:List Nat) (val:AV) (H:Heap) (u:Value) (w:World) (β:Env):Prop where
 val:AL β val u
 good:Good β H w
 new:∀ b X,β b=some X→β0 b=some X∨∀ B m,X=.at_ B m→w0.heap.size≤B∨∃ k m',k∈W∧β0 k=some (.at_ B m')
 ext:Env.le β0 β
 frame:∀ B,B<w0.heap.size→(∀ k m,k∈W→β0 k≠some (.at_ B m))→w.heap[B]? = w0.heap[B]?
 size:w0.heap.size≤w.heap.size
 os:w.os=w0.os
 tape:w.tape=w0.tape
 output:w.output=w0.output
def A4 (β0:Env) (w0:World) (W:List Nat) (val:AV) (H:Heap):Ending→World→Prop:=fun e w=>∃ u β,e=.returned u∧Out β0 w0 W val H u w β
section
variable {P:Program} {O:Orc} (hO:OrcOk P O) (hm:P.follows .mixedOrders=true) {f:FuncId} {fn:Func} {c:Code}
theorem V9 {R:Ending→World→Prop} (hfn:P.funcs[f]? = some fn) (hb:fn.body=some c) {args:List AV} {H:Heap} {fr:Nat} {path:List Bool} {β:Env} {us:List Value} {w:World} (hlen:args.length≤fn.ntmps)
  (h:ASafe P f β w R fn.ntmps [] ⟨[.code c],⟨F3 args fn.ntmps,H,fr,path⟩⟩) (ha:A_ β args us) (hg:Good β H w) (hf:∀ b,fr≤b→β b=none):Calls P f ⟨us⟩ w R:=by
 have hul:=mS ha;have hs:=h β { tmps:=(⟨us⟩:Array Value)++Array.replicate (fn.ntmps-us.length) undef,defers:=[] } w ?_ hf
 ·intro cs
  let b:Frame:={ (default:Frame) with fn:=f,kind:=.normal }
  have henter:Frame.enter P f ⟨us⟩ .normal=b.at { tmps:=(⟨us⟩:Array Value)++Array.replicate (fn.ntmps-us.length) undef,defers:=[] } [.code c]:=by
   simp [Frame.enter,Frame.at,hfn,hb,b]
  rw [henter];exact hs b cs rfl rfl
 ·have hT:∀ t,AL β (Al (F3 args fn.ntmps) t) (((⟨us⟩:Array Value)++Array.replicate (fn.ntmps-us.length) undef).getD t undef):=by
   intro t;have:=mT (fn.ntmps-us.length) ha t
   have e:((⟨us⟩:Array Value)++Array.replicate (fn.ntmps-us.length) undef).getD t undef=(us++List.replicate (fn.ntmps-us.length) undef).getD t undef:=by
    rw [jg,gy,← ot];simp
   rw [e,F3,TE,IZ,← hul];exact this
  exact ⟨hT,hg,by simp;omega,rfl,fun b X hb=>.inl hb,Env.le_refl _,fun _ _ _=>rfl,gd _,rfl,rfl,rfl⟩
theorem mU {β0:Env} {w0:World} {n:Fz} {W:List Nat} {y:ASt} {l:List (Bool×List Ch)} (hD:n.D=[]) (hfn:P.funcs[f]? = some fn) (hend:J' y.todo=true) (hres:OV P y.s.T y.s.H fn.results.toList=some l) :
  ASafe P f β0 w0 (A4 β0 w0 W (TC l) y.s.H) n W y:=by
 intro β a w hi _;obtain ⟨v,hv,hr⟩:=ZK hi.tmp hi.good hres;refine Safe.done hfn (hi.dfr.trans hD) hv ⟨v,β,rfl,hr,hi.good,hi.new,hi.ext,hi.frame,hi.size,hi.os,hi.tape,hi.output⟩ ?_
 unfold J' at hend;split at hend
 ·rename_i h;exact .inr h
 ·rename_i k h;exact .inl ⟨k,h⟩
 ·cases hend
def OW:AV→Bool
 | .val _ cs=>GO (D2 cs)
 | .tup xs=>GO (J9 xs)
 | .any=>false
def ZM:List AV→Bool
 | []=>true
 | x::r=>OW x&&ZM r
theorem AM7 {β β':Env}:∀ {caps:List (Nat×Nat)} {l:List Value},caps.map (·.1)=[]→FM β caps l→FM β' caps l
 | [],_,_,h=>h
 | _::_,_,h,_=>by simp at h
theorem AM8 {β β':Env} {c:Ch} {l:List Value} (hk:Mo c=[]) (h:BF β c l):BF β' c l:=by
 cases c<;>simp only [Mo] at hk<;>simp only [BF] at h ⊢
 case n=>exact h
 case b=>exact h
 case v=>exact h
 case p=>cases hk
 case sl=>cases hk
 case sx=>cases hk
 case num=>exact h
 case seq=>exact h
 case clo=>obtain ⟨ps,h1,h2⟩:=h;exact ⟨ps,AM7 hk h1,h2⟩
 case mth=>cases hk
 case yl=>cases hk
 case mp=>cases hk
 case mk=>exact h
theorem mV {β β':Env}:∀ {cs:List Ch} {l:List Value},D2 cs=[]→AO β cs l→AO β' cs l
 | [],_,_,h=>h
 | c::cs,l,hk,⟨l1,l2,h1,h2,h3⟩=>by
  simp only [D2,CU,List.append_eq_nil_iff] at hk;exact ⟨l1,l2,AM8 hk.1 h1,mV hk.2 h2,h3⟩
theorem ABj {β β':Env} {g:Bool} {cs:List Ch} {u:Value} (hk:D2 cs=[]) (h:Bi β g cs u):Bi β' g cs u:=by
 cases g
 ·exact mV hk h
 ·obtain ⟨l,h1,h2⟩:=h;exact ⟨l,mV hk h1,h2⟩
theorem ABk {β β':Env}:∀ {xs:List (Bool×List Ch)} {l:List Value},J9 xs=[]→FN β xs l→FN β' xs l
 | [],_,_,h=>h
 | (g,cs)::xs,l,hk,⟨u,l',h1,h2,h3⟩=>by
  simp only [J9,CU,List.append_eq_nil_iff] at hk;exact ⟨u,l',ABj hk.1 h1,ABk hk.2 h2,h3⟩
theorem LZ {β β':Env} {x:AV} {u:Value} (hk:OW x=true) (h:AL β x u):AL β' x u:=by
 cases x with
 | val g cs=>exact ABj (Yx hk) h
 | tup xs=>obtain ⟨us,h1,h2⟩:=h;exact ⟨us,ABk (Yx hk) h1,h2⟩
 | any=>cases hk
theorem mX {β β':Env}:∀ {xs:List AV} {us:List Value},ZM xs=true→A_ β xs us→A_ β' xs us
 | [],_,_,h=>h
 | x::xs,us,hk,⟨u,us',h1,h2,h3⟩=>by
  have hk':=gk.1 hk;exact ⟨u,us',LZ hk'.1 h1,mX hk'.2 h2,h3⟩
def By:Env:=fun _=>none
def AS (P:Program) (f:FuncId) (args:List AV) (v:AV):Prop :=
 ∀ (us:List Value) (w:World),A_ By args us→Calls P f ⟨us⟩ w fun e w'=>∃ u,e=.returned u∧AL By v u∧Below w.heap.size w w'
def AK (P:Program) (O:Orc) (fn:Func) (args:List AV) (path:List Bool) (fuel:Nat):Option (dr×AV) :=
 match fn.body with
 | some c=>match KA P O none fuel ⟨[.code c],⟨F3 args fn.ntmps,[],0,path⟩⟩ with
  | some (g,y)=>match J' y.todo,OV P y.s.T y.s.H fn.results.toList,Nat.ble (F2 args) fn.ntmps with
   | true,some l,true=>some (g.conds,TC l)
   | _,_,_=>none
  | none=>none
 | none=>none
theorem Good.none_ (w:World):Good By [] w where
 heap:=fun b blk h=>by cases h
 inj:=fun b b' B n n' h=>by cases h
 lt:=fun b B n h=>by cases h
include hO hm in
theorem AN (hfn:P.funcs[f]? = some fn) {args:List AV} {path:List Bool} {fuel:Nat} {conds:dr} {v:AV} (h:AK P O fn args path fuel=some (conds,v)) (hc:AM conds) (hk:OW v=true):AS P f args v:=by
 unfold AK at h;split at h;case h_2=>cases h
 rename_i c hb;split at h;case h_2=>cases h
 rename_i g y hrun;split at h;case h_2=>cases h
 rename_i l hend hres hlen;injection h with h;injection h with h1 h2;subst h1;subst h2;intro us w ha;have hlen':=f_ hlen;rw [IZ] at hlen';refine Calls.mono (V9 (R:=A4 By w g.keys (TC l) y.s.H) (fr:=0) (path:=path) hfn hb hlen' ?_ ha (Good.none_ w) (fun _ _=>rfl)) ?_
 ·refine V7 hO hm hrun hc ⟨fun _ _=>rfl,?_⟩ fun _=>?_
  ·simp only [F3,TE,IZ,ib,V8];omega
  ·rw [lh];exact mU rfl hfn hend hres
 ·rintro e w' ⟨u,β,rfl,ho⟩
  exact ⟨u,rfl,LZ hk ho.val,ho.os,ho.tape,ho.output,ho.size,fun k hk=>ho.frame k hk (fun _ _ _ h=>by cases h)⟩
theorem TF {us:Array Value} {w:World} {R:Ending→World→Prop} (hfn:P.funcs[f]? = some fn) (hb:fn.body.isSome=true) (hname:(fn.name=="runtime.NumGoroutine")=false) (h:Calls P f us w R):Mn P f us w R:=by
 unfold Mn;have h1:fn.name≠"runtime.NumGoroutine":=by simpa using hname
 have h2:¬ fn.body=none:=by cases hq:fn.body<;>simp [hq] at hb ⊢
 have:(callFunc f us).run P w=.ok (.enter f us) w:=by
  simp [callFunc,hfn,h1,h2]
 rw [this];exact h
def AZ (sp:List AV→Option AV):ASpec:=fun args _ _ path =>
 match ZM args,sp args with
 | true,some v=>match OW v with
  | true=>some (CA v path)
  | false=>none
 | _,_=>none
theorem Aa {sp:List AV→Option AV} (hfn:P.funcs[f]? = some fn) (hb:fn.body.isSome=true) (hname:(fn.name=="runtime.NumGoroutine")=false) (h:∀ args v,sp args=some v→AS P f args v):A' P f (AZ sp):=by
 intro args H fr path r β us w hs hc ha hg hf;unfold AZ at hs;split at hs
 ·rename_i v hk hv;split at hs
  ·rename_i hkv;injection hs with hs;subst hs;refine TF hfn hb hname (Calls.mono (h args v hv us w (mX hk ha)) ?_)
   rintro e w' ⟨u,rfl,hu,hbl⟩
   refine ⟨u,β,rfl,?_⟩
   exact ⟨Env.le_refl _,fun _ _ h=>.inl h,fun b B n hb=>ik (hg.lt b B n hb) hbl.size,fun b b' _ _ _ h1 _ h3=>by simp [CA] at h3;omega,LZ hkv hu,fun _ _ h=>(by cases h),fun B hB _=>hbl.block B hB,hbl.size,hbl.os,hbl.tape,hbl.output⟩
  ·cases hs
 ·cases hs
def CF (a b c:Int):Int:=(a+b+c) % 18446744073709551616
def C' (a b c:Int):Int:=(a+b+c) / 18446744073709551616
def Da (a b c:Int):Int:=(a-b-c) % 18446744073709551616
def Hq (a b c:Int):Int:=if a<b+c then 1 else 0
def CB (c:Int):Bool:=decide (0≤c∧c≤1)
def addSpec:ASpec:=fun args _ _ path =>
 match args with
 | [x,y,z]=>match Bg (some x),Bg (some y),Bg (some z) with
  | some (_,.u64,a),some (_,.u64,b),some (_,.u64,c)=>some ⟨.tup [(false,[.v (.int .u64 (CF a b c))]),(false,[.v (.int .u64 (C' a b c))])],[],0,[(CB c,true)],path⟩
  | _,_,_=>none
 | _=>none
def subSpec:ASpec:=fun args _ _ path =>
 match args with
 | [x,y,z]=>match Bg (some x),Bg (some y),Bg (some z) with
  | some (_,.u64,a),some (_,.u64,b),some (_,.u64,c)=>some ⟨.tup [(false,[.v (.int .u64 (Da a b c))]),(false,[.v (.int .u64 (Hq a b c))])],[],0,[(CB c,true)],path⟩
  | _,_,_=>none
 | _=>none
def mY:Array Value→Sem Value:=fun args=>do
 let (x,y,b) ← Extern.MathBitsCarry.three "Sub64" args
 pure (Extern.MathBitsCarry.pair ((x+Extern.MathBitsCarry.m64-y-b) % Extern.MathBitsCarry.m64) (if x<y+b then 1 else 0))
theorem ABl {e:Array Value→Sem Value} {us:Array Value} {w w':World} {v:Value} {R:Ending→World→Prop} (hfn:P.funcs[f]? = some fn) (hname:(fn.name=="runtime.NumGoroutine")=false) (hb:fn.body.isNone=true) (hn:Extern.findNext fn=none) (he:Extern.find fn=some e)
  (hr:(e us).run P w=.ok v w') (h:R (.returned v) w'):Mn P f us w R:=by
 unfold Mn;rw [run_callFunc_extern hfn hname hb hn he us w,hr];exact h
theorem D3 {a:Int} (h:has .u64 a):0≤a∧a<18446744073709551616:=by
 have:=(E7 _ _).1 h
 simp only [AJ,gi,gc] at this;omega
theorem ZN {a:Int} (h1:0≤a) (h2:a<18446744073709551616):has .u64 a:=by
 rw [E7];simp only [AJ,gi,gc];omega
theorem AM9 (hfn:P.funcs[f]? = some fn) (hname:(fn.name=="runtime.NumGoroutine")=false) (hb:fn.body.isNone=true) (hn:Extern.findNext fn=none) (he:Extern.find fn=some add64Entry):A' P f addSpec:=by
 intro args H fr path r β us w hs hc ha hg hf;unfold addSpec at hs;split at hs;case h_2=>cases hs
 rename_i x y z;split at hs;case h_2=>cases hs
 rename_i c1 a c2 b c3 c hx hy hz;injection hs with hs;subst hs;obtain ⟨u1,us1,r1,ha,rfl⟩:=ha;obtain ⟨u2,us2,r2,ha,rfl⟩:=ha;obtain ⟨u3,us3,r3,ha,rfl⟩:=ha;simp only [A_] at ha;subst ha;obtain ⟨rfl,p1⟩:=Cy (β:=β) (u:=u1) (fun A hA=>by injection hA with hA;subst hA;exact r1) hx
 obtain ⟨rfl,p2⟩:=Cy (β:=β) (u:=u2) (fun A hA=>by injection hA with hA;subst hA;exact r2) hy
 obtain ⟨rfl,p3⟩:=Cy (β:=β) (u:=u3) (fun A hA=>by injection hA with hA;subst hA;exact r3) hz
 have hcc:=hc.1;simp only [CB,gc] at hcc;have b1:=D3 p1;have b2:=D3 p2;refine ABl hfn hname hb hn he (run_add64 a b c b1.1 b2.1 hcc.1 hcc.2 w) ⟨_,β,rfl,Eff.pure_ hg ⟨_,⟨_,_,Aq ⟨rfl,rfl,?_⟩,⟨_,_,Aq ⟨rfl,rfl,?_⟩,rfl,rfl⟩,rfl⟩,rfl⟩⟩
 ·show has .u64 ((a+b+c) % 18446744073709551616);exact ZN dl dl
 ·show has .u64 ((a+b+c) / 18446744073709551616);exact ZN dl dl
theorem AM_ (x y c:Int) (hx:0≤x∧x<18446744073709551616) (hy:0≤y∧y<18446744073709551616) (hc0:0≤c) (hc:c≤1) (w:World) :
  (mY #[.int .u64 x,.int .u64 y,.int .u64 c]).run P w=.ok (.tuple #[.int .u64 ((x-y-c) % 18446744073709551616),.int .u64 (if x<y+c then 1 else 0)]) w:=by
 have key:∀ k:Nat,k≤1→(mY #[.int .u64 x,.int .u64 y,.int .u64 (k:Int)]).run P w =
   .ok (Extern.MathBitsCarry.pair ((x.toNat+Extern.MathBitsCarry.m64-y.toNat-k) % Extern.MathBitsCarry.m64) (if x.toNat<y.toNat+k then 1 else 0)) w:=by
  intro k hk;have:k=0∨k=1:=dl
  rcases this with rfl | rfl<;>rfl
 obtain ⟨k,rfl⟩:=ic hc0;rw [key k dl];obtain ⟨X,rfl⟩:=ic hx.1;obtain ⟨Y,rfl⟩:=ic hy.1;simp only [Extern.MathBitsCarry.pair,Extern.MathBitsCarry.m64,gj];have e1:(Int.ofNat ((X+2^64-Y-k) % 2^64))=((X:Int)-Y-k) % 18446744073709551616:=by
  have:(X+2^64-Y-k:Nat)=(X+18446744073709551616-Y-k:Nat):=rfl
  show (((X+18446744073709551616-Y-k) % 18446744073709551616:Nat):Int)=_;omega
 have e2:(Int.ofNat (if X<Y+k then 1 else 0))=if (X:Int)<Y+k then 1 else 0:=by
  by_cases h:X<Y+k
  ·rw [fw h,fw dl];rfl
  ·rw [fv h,fv dl];rfl
 rw [e1,e2]
theorem AM' (hfn:P.funcs[f]? = some fn) (hname:(fn.name=="runtime.NumGoroutine")=false) (hb:fn.body.isNone=true) (hn:Extern.findNext fn=none) (he:Extern.find fn=some mY):A' P f subSpec:=by
 intro args H fr path r β us w hs hc ha hg hf;unfold subSpec at hs;split at hs;case h_2=>cases hs
 rename_i x y z;split at hs;case h_2=>cases hs
 rename_i c1 a c2 b c3 c hx hy hz;injection hs with hs;subst hs;obtain ⟨u1,us1,r1,ha,rfl⟩:=ha;obtain ⟨u2,us2,r2,ha,rfl⟩:=ha;obtain ⟨u3,us3,r3,ha,rfl⟩:=ha;simp only [A_] at ha;subst ha;obtain ⟨rfl,p1⟩:=Cy (β:=β) (u:=u1) (fun A hA=>by injection hA with hA;subst hA;exact r1) hx
 obtain ⟨rfl,p2⟩:=Cy (β:=β) (u:=u2) (fun A hA=>by injection hA with hA;subst hA;exact r2) hy
 obtain ⟨rfl,p3⟩:=Cy (β:=β) (u:=u3) (fun A hA=>by injection hA with hA;subst hA;exact r3) hz
 have hcc:=hc.1;simp only [CB,gc] at hcc;have b1:=D3 p1;have b2:=D3 p2;refine ABl hfn hname hb hn he (AM_ a b c b1 b2 hcc.1 hcc.2 w) ⟨_,β,rfl,Eff.pure_ hg ⟨_,⟨_,_,Aq ⟨rfl,rfl,?_⟩,⟨_,_,Aq ⟨rfl,rfl,?_⟩,rfl,rfl⟩,rfl⟩,rfl⟩⟩
 ·show has .u64 ((a-b-c) % 18446744073709551616);exact ZN dl dl
 ·show has .u64 (if a<b+c then 1 else 0)
  split<;>exact ZN dl dl
def ZO:dt→FuncId→Option ASpec
 | [],_=>none
 | (k,s)::r,f=>match Nat.beq k f with | true=>some s | false=>ZO r f
def ZP:List (TypeId×List (Option IntKind))→TypeId→Option (List (Option IntKind))
 | [],_=>none
 | (k,s)::r,f=>match Nat.beq k f with | true=>some s | false=>ZP r f
def AG (L:dt) (K:List (TypeId×List (Option IntKind))):Orc:=⟨ZO L,ZP K⟩
def AT (P:Program):dt→Prop
 | []=>True
 | (f,s)::r=>A' P f s∧AT P r
def Lb (P:Program):List (TypeId×List (Option IntKind))→Prop
 | []=>True
 | (t,ks)::r=>(FT P 20 t=some ks∧P.eqGuardType P.depth t=false∧(match P.underlying t with | some d=>wide d | none=>false)=true)∧Lb P r
theorem ANA {L:dt} (h:AT P L) {f:FuncId} {s:ASpec} (hl:ZO L f=some s):A' P f s:=by
 induction L with
 | nil=>cases hl
 | cons e L ih =>
  obtain ⟨k,q⟩:=e;simp only [ZO] at hl;split at hl
  ·rename_i hb;injection hl with hl;subst hl;rw [← An.1 hb];exact h.1
  ·exact ih h.2 hl
theorem ANB {L:List (TypeId×List (Option IntKind))} (h:Lb P L) {f:TypeId} {s:List (Option IntKind)} (hl:ZP L f=some s) :
  FT P 20 f=some s∧P.eqGuardType P.depth f=false∧(match P.underlying f with | some d=>wide d | none=>false)=true:=by
 induction L with
 | nil=>cases hl
 | cons e L ih =>
  obtain ⟨k,q⟩:=e;simp only [ZP] at hl;split at hl
  ·rename_i hb;injection hl with hl;subst hl;rw [← An.1 hb];exact h.1
  ·exact ih h.2 hl
theorem AH {L:dt} {K:List (TypeId×List (Option IntKind))} (h:AT P L) (k:Lb P K):OrcOk P (AG L K) :=
 ⟨fun _ _ hl=>ANA h hl,fun _ _ hl=>ANB k hl⟩
end
end Go.Proofs.YtgnajdcdcblaoaaGreat.Ex
namespace Go.Proofs.YtgnajdcdcblaoaaGreat
theorem ft {α} {P:α→Prop}:∀ x∈([]:List α),P x:=fun _ h=>by cases h
end Go.Proofs.YtgnajdcdcblaoaaGreat
namespace Go.Proofs.YtgnajdcdcblaoaaGreat.Ex
def Ld (keep:List Nat):Nat→List AV→List AV
 | _,[]=>[]
 | i,x::r=>match EH i keep with
  | true=>x::Ld keep (i+1) r
  | false=>.any::Ld keep (i+1) r
def KB (n:Nat):List Nat→Bool
 | []=>true
 | k::r=>match Nat.blt k n with | true=>KB n r | false=>false
def TG (n:Nat):List AV→Bool
 | []=>true
 | x::r=>match KB n (I_ x) with | true=>TG n r | false=>false
def I' (n:Nat):Heap→Bool
 | []=>true
 | (k,y)::r=>match Nat.blt k n,y with
  | true,some blk=>match KB n (D2 blk.cs) with | true=>I' n r | false=>false
  | true,none=>I' n r
  | false,_=>false
theorem BP {a b:Nat}:Nat.blt a b=true↔a<b:=by unfold Nat.blt;exact ⟨f_,gb⟩
theorem TH {n:Nat}:∀ {l:List Nat},KB n l=true→∀ k∈l,k<n
 | [],_,k,h=>by cases h
 | x::r,h,k,hk=>by
  simp only [KB] at h;split at h
  ·rename_i hb;rcases gr.1 hk with rfl | hk
   ·exact BP.1 hb
   ·exact TH h k hk
  ·cases h
def KC (β:Env) (n:Nat):Env:=fun b=>match Nat.blt b n with | true=>β b | false=>none
theorem Dw {β:Env} {n b:Nat} (h:b<n):KC β n b=β b:=by simp [KC,BP.2 h]
theorem QJ {β:Env} {n b:Nat} (h:n≤b):KC β n b=none:=by
 have:Nat.blt b n=false:=by cases hb:Nat.blt b n with | false=>rfl | true=>have:=BP.1 hb;omega
 simp [KC,this]
theorem KD {β:Env} {n b:Nat} {X:Loc} (h:KC β n b=some X):β b=some X∧b<n:=by
 rcases gt b n with hlt | hge
 ·rw [Dw hlt] at h;exact ⟨h,hlt⟩
 ·rw [QJ hge] at h;cases h
section
variable {β β':Env}
theorem ABm:∀ {caps:List (Nat×Nat)} {l:List Value},(∀ k∈caps.map (·.1),β' k=β k)→FM β caps l→FM β' caps l
 | [],_,_,h=>h
 | (b,o)::r,l,hk,⟨B,n,l',h1,h2,h3⟩=>⟨B,n,l',by rw [hk b (by simp)];exact h1,ABm (fun k h=>hk k (by simp at h ⊢;exact .inr h)) h2,h3⟩
theorem ANC {c:Ch} {l:List Value} (hk:∀ k∈Mo c,β' k=β k) (h:BF β c l):BF β' c l:=by
 cases c<;>simp only [Mo] at hk<;>simp only [BF] at h ⊢
 case n=>exact h
 case b=>exact h
 case v=>exact h
 case p=>rw [hk _ (by simp)];exact h
 case sl=>rw [hk _ (by simp)];exact h
 case sx=>rw [hk _ (by simp)];exact h
 case num=>exact h
 case seq=>exact h
 case clo=>obtain ⟨ps,h1,h2⟩:=h;exact ⟨ps,ABm hk h1,h2⟩
 case mth=>rw [hk _ (by simp)];exact h
 case yl=>rw [hk _ (by simp)];exact h
 case mp=>rw [hk _ (by simp)];exact h
 case mk=>exact h
theorem HB:∀ {cs:List Ch} {l:List Value},(∀ k∈D2 cs,β' k=β k)→AO β cs l→AO β' cs l
 | [],_,_,h=>h
 | c::cs,l,hk,⟨l1,l2,h1,h2,h3⟩=>by
  simp only [D2,CU,gl] at hk;exact ⟨l1,l2,ANC (fun k h=>hk k (.inl h)) h1,HB (fun k h=>hk k (.inr h)) h2,h3⟩
theorem ABn {g:Bool} {cs:List Ch} {u:Value} (hk:∀ k∈D2 cs,β' k=β k) (h:Bi β g cs u):Bi β' g cs u:=by
 cases g
 ·exact HB hk h
 ·obtain ⟨l,h1,h2⟩:=h;exact ⟨l,HB hk h1,h2⟩
theorem ABo:∀ {xs:List (Bool×List Ch)} {l:List Value},(∀ k∈J9 xs,β' k=β k)→FN β xs l→FN β' xs l
 | [],_,_,h=>h
 | (g,cs)::xs,l,hk,⟨u,l',h1,h2,h3⟩=>by
  simp only [J9,CU,gl] at hk;exact ⟨u,l',ABn (fun k h=>hk k (.inl h)) h1,ABo (fun k h=>hk k (.inr h)) h2,h3⟩
theorem mZ {x:AV} {u:Value} (hk:∀ k∈I_ x,β' k=β k) (h:AL β x u):AL β' x u:=by
 cases x with
 | val g cs=>exact ABn hk h
 | tup xs=>obtain ⟨us,h1,h2⟩:=h;exact ⟨us,ABo hk h1,h2⟩
 | any=>trivial
end
def V_ (keep ks:List Nat) (fr:Nat) (path:List Bool) (s:St):Option St :=
 match TG fr (Ld keep 0 s.T),I' fr (restrict s.H ks) with
 | true,true=>some ⟨Ld keep 0 s.T,restrict s.H ks,fr,path⟩
 | _,_=>none
theorem m6 {n:Nat}:∀ {T:List AV} {t:Nat},TG n T=true→∀ k∈I_ (Al T t),k<n
 | [],_,_,k,h=>by simp [Al,I_] at h
 | x::r,0,h,k,hk=>by
  simp only [TG] at h;split at h
  ·rename_i h1;exact TH h1 k hk
  ·cases h
 | x::r,t+1,h,k,hk=>by
  simp only [TG] at h;split at h
  ·exact m6 h k hk
  ·cases h
theorem KF {n:Nat}:∀ {H:Heap} {b:Nat} {blk:Blk},I' n H=true→AF H b=some blk→b<n∧∀ k∈D2 blk.cs,k<n
 | [],_,_,_,h=>by cases h
 | (k,y)::r,b,blk,h,hb=>by
  simp only [I'] at h;simp only [AF] at hb;split at h
  ·rename_i hk;split at h
   ·rename_i hall;split at hb
    ·rename_i e;rw [← An.1 e];injection hb with hb;subst hb;exact ⟨BP.1 hk,TH hall⟩
    ·exact KF h hb
   ·cases h
  ·rename_i hk;split at hb
   ·cases hb
   ·exact KF h hb
  ·cases h
theorem ABp (keep:List Nat):∀ {T:List AV} {i t:Nat},Al (Ld keep i T) t=Al T t∨Al (Ld keep i T) t=.any
 | [],i,t=>.inl rfl
 | x::r,i,0=>by
  simp only [Ld];split
  ·exact .inl rfl
  ·exact .inr rfl
 | x::r,i,t+1=>by
  simp only [Ld];split<;>exact ABp keep
theorem ABq (keep:List Nat):∀ {T:List AV} {i:Nat},(Ld keep i T).length=T.length
 | [],_=>rfl
 | x::r,i=>by simp only [Ld];split<;>simp [ABq keep]
section
variable {P:Program} {O:Orc} {f:FuncId} {β0:Env} {w0:World} {R:Ending→World→Prop} {n:Fz} {W:List Nat}
theorem AND {keep ks:List Nat} {fr:Nat} {path:List Bool} {s s':St} (h:V_ keep ks fr path s=some s') (hwf:BO n s):BO n s':=by
 unfold V_ at h;split at h
 ·rename_i h1 h2;injection h with h;subst h;refine ⟨fun b hb=>?_,by simp only [ABq];exact hwf.2⟩
  cases hq:AF (restrict s.H ks) b with
  | none=>rfl
  | some blk=>have:=(KF h2 hq).1;simp only at hb;omega
 ·cases h
theorem ANE {keep ks:List Nat} {fr:Nat} {path:List Bool} {s s':St} {todo:List Item} (h:V_ keep ks fr path s=some s') (hβ0:∀ b,fr≤b→β0 b=none)
  (hs:ASafe P f β0 w0 R n W ⟨todo,s'⟩):ASafe P f β0 w0 R n W ⟨todo,s⟩:=by
 unfold V_ at h;split at h
 ·rename_i h1 h2;injection h with h;subst h;intro β a w hi hf;refine hs (KC β fr) a w ?_ (fun b hb=>QJ hb)
  refine { hi with tmp:=fun t=>?_,good:=?_,new:=fun b X hb=>?_,ext:=fun b B hb=>?_ }
  ·have hk:=m6 (t:=t) h1
   simp only
   rcases ABp keep (T:=s.T) (i:=0) (t:=t) with e | e
   ·rw [e] at hk ⊢;exact mZ (fun k hkk=>Dw (hk k hkk)) (hi.tmp t)
   ·rw [e];trivial
  ·refine ⟨fun b blk hb=>?_,fun b b' B m m' h3 h4 h5 h6=>?_,fun b B m hb=>hi.good.lt b B m (KD hb).1⟩
   ·obtain ⟨e1,e2⟩:=KF h2 hb;rcases hi.good.heap b blk (Mq hb) with ⟨B,m,l,t,pre,ty,fz,q1,q2,q3⟩ | ⟨X,q1,q2,q3⟩ | ⟨B,l,es,q,q1,q2,q3,q4⟩
    ·exact .inl ⟨B,m,l,t,pre,ty,fz,by rw [Dw e1];exact q1,HB (fun k hk=>Dw (e2 k hk)) q2,q3⟩
    ·exact .inr (.inl ⟨X,by rw [Dw e1];exact q1,q2,HB (fun k hk=>Dw (e2 k hk)) q3⟩)
    ·exact .inr (.inr ⟨B,l,es,q,by rw [Dw e1];exact q1,q2,HB (fun k hk=>Dw (e2 k hk)) q3,q4⟩)
   ·obtain ⟨x,hx,hr⟩:=F1 h3;obtain ⟨y,hy⟩:=jd.1 h4;exact hi.good.inj b b' B m m' (FS (Mq hx) hr) (by rw [Mq hy];rfl) (KD h5).1 (KD h6).1
  ·exact hi.new b X (KD hb).1
  ·have hlt:b<fr:=by
    rcases gt b fr with h | h
    ·exact h
    ·rw [hβ0 b h] at hb;cases hb
   rw [Dw hlt];exact hi.ext b B hb
 ·cases h
def D4 (k0:Nat):List Nat→List Nat
 | []=>[]
 | k::r=>match Nat.blt k k0,EH k (D4 k0 r) with
  | true,false=>k::D4 k0 r
  | _,_=>D4 k0 r
theorem ZQ {k0 k:Nat}:∀ {l:List Nat},k∈l→k<k0→k∈D4 k0 l
 | [],h,_=>by cases h
 | x::r,h,hlt=>by
  simp only [D4];rcases gr.1 h with rfl | h
  ·rw [BP.2 hlt];cases hm:EH k (D4 k0 r) with
   | true=>simp only;exact QD.1 hm
   | false=>simp
  ·have ih:=ZQ h hlt;split
   ·exact k_ _ ih
   ·exact ih
theorem Inv.old {W W':List Nat} {k0:Nat} {β:Env} {τ:Nat→AV} {H:Heap} {a:Act} {w:World} (i:Inv β0 w0 W n β τ H a w) (h0:∀ b,k0≤b→β0 b=none) (h:∀ k∈W,k<k0→k∈W'):Inv β0 w0 W' n β τ H a w :=
 { i with
  new:=fun b X hb=>(i.new b X hb).imp id fun q B m e=>(q B m e).imp id fun ⟨k,m',h1,h2⟩=>⟨k,m',h k h1 (by
   rcases gt k k0 with h | h
   ·exact h
   ·rw [h0 k h] at h2;cases h2),h2⟩
  frame:=fun B hB hno=>i.frame B hB fun k m hk hk2=>hno k m (h k hk (by
   rcases gt k k0 with h | h
   ·exact h
   ·rw [h0 k h] at hk2;cases hk2)) hk2 }
theorem ASafe.old {W W':List Nat} {k0:Nat} {x:ASt} (h0:∀ b,k0≤b→β0 b=none) (h:∀ k∈W,k<k0→k∈W') (hs:ASafe P f β0 w0 R n W' x):ASafe P f β0 w0 R n W x :=
 fun β a w hi hf=>hs β a w (hi.old h0 h) hf
def AW (P:Program) (O:Orc) (stop:Option Nat) (fuel k0:Nat) (fg:Option (List Nat×List Nat×Nat)) (x:ASt):Option (dr×List Nat×ASt) :=
 match KA P O stop fuel x with
 | some (g,y)=>match fg with
  | some (keep,ks,fr)=>match V_ keep ks fr [] y.s,Nat.ble k0 fr with
   | some s',true=>some (g.conds,D4 k0 g.keys,⟨y.todo,s'⟩)
   | _,_=>none
  | none=>some (g.conds,D4 k0 g.keys,y)
 | none=>none
theorem Ag (hO:OrcOk P O) (hm:P.follows .mixedOrders=true) {stop:Option Nat} {fuel k0:Nat} {fg:Option (List Nat×List Nat×Nat)} {x y:ASt} {conds:dr} {ks:List Nat} (h:AW P O stop fuel k0 fg x=some (conds,ks,y))
  (hc:AM conds) (hwf:BO n x.s) (h0:∀ b,k0≤b→β0 b=none) (hks:∀ k∈ks,k∈W) (hs:BO n y.s→ASafe P f β0 w0 R n W y):ASafe P f β0 w0 R n W x:=by
 unfold AW at h;split at h;case h_2=>cases h
 rename_i g y1 hrun;have hW:∀ k∈W++g.keys,k<k0→D4 k0 g.keys=ks→k∈W:=by
  intro k hk hlt he;rcases gl.1 hk with hk | hk
  ·exact hk
  ·exact hks k (by rw [← he];exact ZQ hk hlt)
 split at h
 ·rename_i keep ks' fr;split at h
  ·rename_i s' hfg hle;injection h with h;injection h with h1 h;injection h with h2 h3;subst h1;subst h3;refine V7 hO hm hrun hc hwf fun hw=>?_
   have hle':=f_ hle;refine ASafe.old h0 (fun k hk hlt=>hW k hk hlt h2) ?_
   exact ANE hfg (fun b hb=>h0 b dl) (hs (AND hfg hw))
  ·cases h
 ·injection h with h;injection h with h1 h;injection h with h2 h3;subst h1;subst h3;refine V7 hO hm hrun hc hwf fun hw=>?_
  exact ASafe.old h0 (fun k hk hlt=>hW k hk hlt h2) (hs hw)
def V' (n:Fz) (s:St):Bool:=I' s.fr s.H&&Nat.beq (F2 s.T) n.n
theorem AQ {s:St} (h:V' n s=true):BO n s:=by
 have h':=gk.1 h;refine ⟨fun b hb=>?_,by have:=An.1 h'.2;rwa [IZ] at this⟩
 cases hq:AF s.H b with
 | none=>rfl
 | some blk=>have:=(KF h'.1 hq).1;omega
def Ah (fn:Func) (args:List AV) (H:Heap) (k0:Nat) (path:List Bool):ASt :=
 ⟨match fn.body with | some c=>[.code c] | none=>[],⟨F3 args fn.ntmps,H,k0,path⟩⟩
def Ie (P:Program) (fn:Func) (y:ASt):Option AV :=
 match J' y.todo,OV P y.s.T y.s.H fn.results.toList with
 | true,some l=>some (TC l)
 | _,_=>none
theorem ABr {fn:Func} {y:ASt} {v:AV} (hfn:P.funcs[f]? = some fn) (h:Ie P fn y=some v) (hR:∀ e w,A4 β0 w0 W v y.s.H e w→R e w) (hD:n.D=[]:=by rfl):ASafe P f β0 w0 R n W y:=by
 unfold Ie at h;split at h
 ·rename_i l h1 h2;injection h with h;subst h;intro β a w hi hf;have:=mU (P:=P) (n:=n) (W:=W) (β0:=β0) (w0:=w0) hD hfn h1 h2 β a w hi hf
  intro b cs hb hk;obtain ⟨e,w',fr,q1,q2⟩:=this b cs hb hk;exact ⟨e,w',fr,hR _ _ q1,q2⟩
 ·cases h
end
section
variable {P:Program} {f:FuncId} {fn:Func}
theorem WA {R:Ending→World→Prop} (hfn:P.funcs[f]? = some fn) (hb:fn.body.isSome=true) {args:List AV} {H:Heap} {k0:Nat} {path:List Bool} {β:Env} {us:List Value} {w:World} (hlen:Nat.ble (F2 args) fn.ntmps=true)
  (h:ASafe P f β w R fn.ntmps [] (Ah fn args H k0 path)) (ha:A_ β args us) (hg:Good β H w) (hf:∀ b,k0≤b→β b=none):Calls P f ⟨us⟩ w R:=by
 obtain ⟨c,hc⟩:=jd.1 hb;have hl:=f_ hlen;rw [IZ] at hl;unfold Ah at h;rw [hc] at h;exact V9 hfn hc hl h ha hg hf
end
open Go.RowKit (Below)
def HC (w0:World) (v:AV):Ending→World→Prop:=fun e w'=>∃ u,e=.returned u∧AL By v u∧Below w0.heap.size w0 w'
def EX (P:Program) (O:Orc) (fn:Func) (fuel k0:Nat) (x:ASt):Option (dr×List Nat×AV) :=
 match KA P O none fuel x with
 | some (g,y)=>match Ie P fn y with
  | some v=>some (g.conds,D4 k0 g.keys,v)
  | none=>none
 | none=>none
section
variable {P:Program} {O:Orc} {f:FuncId} {fn:Func} {β0:Env} {w0:World} {n:Fz}
theorem Hr (hO:OrcOk P O) (hm:P.follows .mixedOrders=true) (hfn:P.funcs[f]? = some fn) {fuel k0:Nat} {x:ASt} {conds:dr} {v:AV} (h:EX P O fn fuel k0 x=some (conds,[],v)) (hc:AM conds) (hwf:BO n x.s)
  (h0:∀ b,k0≤b→β0 b=none) (hk:OW v=true) (hD:n.D=[]:=by rfl):ASafe P f β0 w0 (HC w0 v) n [] x:=by
 unfold EX at h;split at h;case h_2=>cases h
 rename_i g y hrun;split at h;case h_2=>cases h
 rename_i v' hv;injection h with h;injection h with h1 h;injection h with h2 h3;subst h1;subst h3;refine Ag (W:=[]) hO hm (fuel:=fuel) (k0:=k0) (fg:=none) (stop:=none) (ks:=[]) (y:=y) (by unfold AW;rw [hrun];simp only;rw [h2]) hc hwf h0 ft fun _=>?_
 intro β a w hi hf;unfold Ie at hv;split at hv;case h_2=>cases hv
 rename_i l e1 e2;injection hv with hv;subst hv;have:=mU (P:=P) (n:=n) (W:=[]) (β0:=β0) (w0:=w0) hD hfn e1 e2 β a w hi hf
 intro b cs hb hkd;obtain ⟨e,w',fr,⟨u,β',q0,q1⟩,q2⟩:=this b cs hb hkd;exact ⟨e,w',fr,⟨u,q0,LZ hk q1.val,q1.os,q1.tape,q1.output,q1.size,fun k hk=>q1.frame k hk (fun _ _ h=>by cases h)⟩,q2⟩
theorem Mu (hfn:P.funcs[f]? = some fn) (hb:fn.body.isSome=true) {args:List AV} {path:List Bool} {v:AV} (hlen:Nat.ble (F2 args) fn.ntmps=true)
  (h:∀ w0,ASafe P f By w0 (HC w0 v) fn.ntmps [] (Ah fn args [] 0 path)):AS P f args v :=
 fun _ w ha=>WA hfn hb hlen (h w) ha (Good.none_ w) (fun _ _=>rfl)
theorem Ae {R:Ending→World→Prop} {W:List Nat} {todo:List Item} {T:List AV} {H:Heap} {fr:Nat} {p:List Bool} (q:List Bool) (h:ASafe P f β0 w0 R n W ⟨todo,⟨T,H,fr,q⟩⟩):ASafe P f β0 w0 R n W ⟨todo,⟨T,H,fr,p⟩⟩:=h
end
end Go.Proofs.YtgnajdcdcblaoaaGreat.Ex
namespace Go.Proofs.YtgnajdcdcblaoaaGreat.Ex
def ZR (κ:Nat→Nat):List (Nat×Nat)→List (Nat×Nat)
 | []=>[]
 | (b,o)::r=>(κ b,o)::ZR κ r
def WB (κ:Nat→Nat):Ch→Ch
 | .p b o=>.p (κ b) o
 | .sl b o l c=>.sl (κ b) o l c
 | .sx b l s=>.sx (κ b) l s
 | .clo f caps=>.clo f (ZR κ caps)
 | .mth f b o=>.mth f (κ b) o
 | .yl b=>.yl (κ b)
 | .mp b=>.mp (κ b)
 | .mk=>.mk
 | .n k i=>.n k i
 | .b x=>.b x
 | .v x=>.v x
 | .num k x=>.num k x
 | .seq k l=>.seq k l
def Hs (κ:Nat→Nat):List Ch→List Ch
 | []=>[]
 | c::r=>WB κ c::Hs κ r
def ZS (κ:Nat→Nat):List (Bool×List Ch)→List (Bool×List Ch)
 | []=>[]
 | (g,cs)::r=>(g,Hs κ cs)::ZS κ r
def WC (κ:Nat→Nat):AV→AV
 | .val g cs=>.val g (Hs κ cs)
 | .tup xs=>.tup (ZS κ xs)
 | .any=>.any
section
variable {β β':Env} {κ:Nat→Nat}
theorem ABs:∀ {caps:List (Nat×Nat)} {l:List Value},(∀ k∈caps.map (·.1),∀ X,β k=some X→β' (κ k)=some X)→FM β caps l→FM β' (ZR κ caps) l
 | [],_,_,h=>h
 | (b,o)::r,l,hk,⟨B,n,l',h1,h2,h3⟩=>⟨B,n,l',hk b (by simp) _ h1,ABs (fun k h=>hk k (by simp at h ⊢;exact .inr h)) h2,h3⟩
theorem ANF {c:Ch} {l:List Value} (hk:∀ k∈Mo c,∀ X,β k=some X→β' (κ k)=some X) (h:BF β c l):BF β' (WB κ c) l:=by
 cases c<;>simp only [Mo] at hk<;>simp only [WB,BF] at h ⊢
 case n=>exact h
 case b=>exact h
 case v=>exact h
 case p=>obtain ⟨B,n,h1,h2⟩:=h;exact ⟨B,n,hk _ (by simp) _ h1,h2⟩
 case sl =>
  rcases h with ⟨B,n,h1,h2⟩ | ⟨h1,h2⟩ | ⟨h1,h2⟩
  ·exact .inl ⟨B,n,hk _ (by simp) _ h1,h2⟩
  ·exact .inr (.inl ⟨hk _ (by simp) _ h1,h2⟩)
  ·exact .inr (.inr ⟨hk _ (by simp) _ h1,h2⟩)
 case sx =>
  rcases h with ⟨B,n,cap,h1,h2⟩ | ⟨h1,h2⟩
  ·exact .inl ⟨B,n,cap,hk _ (by simp) _ h1,h2⟩
  ·exact .inr ⟨hk _ (by simp) _ h1,h2⟩
 case num=>exact h
 case seq=>exact h
 case clo=>obtain ⟨ps,h1,h2⟩:=h;exact ⟨ps,ABs hk h1,h2⟩
 case mth=>obtain ⟨B,n,h1,h2⟩:=h;exact ⟨B,n,hk _ (by simp) _ h1,h2⟩
 case yl=>obtain ⟨B,n,h1,h2⟩:=h;exact ⟨B,n,hk _ (by simp) _ h1,h2⟩
 case mp=>obtain ⟨B,h1,h2⟩:=h;exact ⟨B,hk _ (by simp) _ h1,h2⟩
 case mk=>exact h
theorem TI:∀ {cs:List Ch} {l:List Value},(∀ k∈D2 cs,∀ X,β k=some X→β' (κ k)=some X)→AO β cs l→AO β' (Hs κ cs) l
 | [],_,_,h=>h
 | c::cs,l,hk,⟨l1,l2,h1,h2,h3⟩=>by
  simp only [D2,CU,gl] at hk;exact ⟨l1,l2,ANF (fun k h=>hk k (.inl h)) h1,TI (fun k h=>hk k (.inr h)) h2,h3⟩
theorem ABt {g:Bool} {cs:List Ch} {u:Value} (hk:∀ k∈D2 cs,∀ X,β k=some X→β' (κ k)=some X) (h:Bi β g cs u):Bi β' g (Hs κ cs) u:=by
 cases g
 ·exact TI hk h
 ·obtain ⟨l,h1,h2⟩:=h;exact ⟨l,TI hk h1,h2⟩
theorem ABu:∀ {xs:List (Bool×List Ch)} {l:List Value},(∀ k∈J9 xs,∀ X,β k=some X→β' (κ k)=some X)→FN β xs l→FN β' (ZS κ xs) l
 | [],_,_,h=>h
 | (g,cs)::xs,l,hk,⟨u,l',h1,h2,h3⟩=>by
  simp only [J9,CU,gl] at hk;exact ⟨u,l',ABt (fun k h=>hk k (.inl h)) h1,ABu (fun k h=>hk k (.inr h)) h2,h3⟩
theorem ANG {x:AV} {u:Value} (hk:∀ k∈I_ x,∀ X,β k=some X→β' (κ k)=some X) (h:AL β x u):AL β' (WC κ x) u:=by
 cases x with
 | val g cs=>exact ABt hk h
 | tup xs=>obtain ⟨us,h1,h2⟩:=h;exact ⟨us,ABu hk h1,h2⟩
 | any=>trivial
end
def Ac (P:Program) (f:FuncId) (args0:List AV) (H0:Heap) (k0:Nat) (W:List Nat) (val:AV) (H1:Heap):Prop :=
 ∀ (β:Env) (us:List Value) (w:World),A_ β args0 us→Good β H0 w→(∀ b,k0≤b→β b=none)→Calls P f ⟨us⟩ w (A4 β w W val H1)
def nth:List Nat→Nat→Nat
 | [],_=>0
 | x::_,0=>x
 | _::r,n+1=>nth r n
def kap (ρ:List Nat) (k0 fr:Nat):Nat→Nat:=fun k=>match Nat.blt k k0 with | true=>nth ρ k | false=>fr+(k-k0)
def A3 (β:Env) (ρ:List Nat) (k0:Nat):Env:=fun k=>match Nat.blt k k0 with | true=>β (nth ρ k) | false=>none
def TJ (κ:Nat→Nat) (H1:Heap):List Nat→Heap
 | []=>[]
 | k::r=>(κ k,(AF H1 k).map fun b=>⟨b.ty,Hs κ b.cs,b.opn⟩)::TJ κ H1 r
def JA (k0:Nat):Heap→List Nat
 | []=>[]
 | (k,_)::r=>match Nat.blt k k0,EH k (JA k0 r) with
  | false,false=>k::JA k0 r
  | _,_=>JA k0 r
theorem m7 {k0 k:Nat}:∀ {H:Heap},k∈JA k0 H→k0≤k
 | [],h=>by cases h
 | (j,y)::r,h=>by
  simp only [JA] at h;split at h
  ·rename_i hb _;rcases gr.1 h with rfl | h
   ·rcases gt k k0 with hlt | hge
    ·rw [BP.2 hlt] at hb;cases hb
    ·exact hge
   ·exact m7 h
  ·exact m7 h
theorem m8 {k0 k:Nat} {b:Blk}:∀ {H:Heap},AF H k=some b→k0≤k→k∈JA k0 H
 | [],h,_=>by cases h
 | (j,y)::r,h,hk=>by
  simp only [AF] at h;simp only [JA];split at h
  ·rename_i e;have:=An.1 e
   subst this;have h1:Nat.blt j k0=false:=by cases hq:Nat.blt j k0 with | false=>rfl | true=>have:=BP.1 hq;omega
   rw [h1];cases hm:EH j (JA k0 r) with
   | true=>exact QD.1 hm
   | false=>simp
  ·have ih:=m8 h hk;split
   ·exact k_ _ ih
   ·exact ih
def QK (k0:Nat) (H1:Heap):List Nat→Bool
 | []=>true
 | k::r=>match Nat.blt k k0,AF H1 k with
  | true,_=>QK k0 H1 r
  | false,some _=>QK k0 H1 r
  | false,none=>false
theorem TK {k0:Nat} {H1:Heap}:∀ {l:List Nat},QK k0 H1 l=true→∀ k∈l,k<k0∨(AF H1 k).isSome=true
 | [],_,k,h=>by cases h
 | x::r,h,k,hk=>by
  simp only [QK] at h;split at h
  ·rename_i hb;rcases gr.1 hk with rfl | hk
   ·exact .inl (BP.1 hb)
   ·exact TK h k hk
  ·rename_i b hb hg;rcases gr.1 hk with rfl | hk
   ·exact .inr (by rw [hg];rfl)
   ·exact TK h k hk
  ·cases h
def ZT (k0:Nat) (H1:Heap):List Nat→Bool
 | []=>true
 | k::r=>match AF H1 k with
  | some b=>match QK k0 H1 (D2 b.cs),Nat.beq b.ty Bf with | true,false=>ZT k0 H1 r | _,_=>false
  | none=>false
theorem ZU {k0:Nat} {H1:Heap}:∀ {l:List Nat},ZT k0 H1 l=true→∀ k∈l,∃ b,AF H1 k=some b∧QK k0 H1 (D2 b.cs)=true∧b.ty≠Bf
 | [],_,k,h=>by cases h
 | x::r,h,k,hk=>by
  simp only [ZT] at h;split at h
  ·rename_i b hb;split at h
   ·rename_i hok hro;rcases gr.1 hk with rfl | hk
    ·exact ⟨b,hb,hok,Yv hro⟩
    ·exact ZU h k hk
   ·cases h
  ·cases h
def BI (ρ:List Nat) (k0 fr nw:Nat) (W:List Nat) (val:AV) (H1:Heap) (conds:dr) (path:List Bool):R :=
 ⟨WC (kap ρ k0 fr) val,TJ (kap ρ k0 fr) H1 (cat W (JA k0 H1)),nw,conds,path⟩
def D5 (k0 nw:Nat) (W:List Nat) (val:AV) (H1:Heap):Bool :=
 KB k0 W&&(QK k0 H1 (I_ val)&&(ZT k0 H1 (cat W (JA k0 H1))&&I' (k0+nw) H1))
theorem ABv {κ:Nat→Nat} {H1:Heap} {k:Nat} {y:Option Blk}:∀ {l:List Nat},(k,y)∈TJ κ H1 l→∃ j∈l,k=κ j∧y=(AF H1 j).map fun b=>⟨b.ty,Hs κ b.cs,b.opn⟩
 | [],h=>by cases h
 | x::r,h=>by
  simp only [TJ,gr,gx] at h;rcases h with ⟨h1,h2⟩ | h
  ·exact ⟨x,by simp,h1,h2⟩
  ·obtain ⟨j,h1,h2⟩:=ABv h;exact ⟨j,by simp [h1],h2⟩
theorem ABw {κ:Nat→Nat} {H1:Heap} {j:Nat}:∀ {l:List Nat},j∈l→(κ j,(AF H1 j).map fun b=>(⟨b.ty,Hs κ b.cs,b.opn⟩:Blk))∈TJ κ H1 l
 | x::r,h=>by
  simp only [TJ,gr];rcases gr.1 h with rfl | h
  ·exact .inl rfl
  ·exact .inr (ABw h)
theorem ABx {β:Env} {w w':World} {ρ:List Nat} {k0 fr nw:Nat} {W:List Nat} {val:AV} {H H1:Heap} {u:Value} {β1:Env} {conds:dr} {path:List Bool} (g:Good β H w)
  (ho:Out (A3 β ρ k0) w W val H1 u w' β1) (hb:D5 k0 nw W val H1=true) (hf:∀ b,fr≤b→b<fr+nw→β b=none) (hdef:∀ k,k<k0→∃ X,β (nth ρ k)=some X):∃ β',Eff β fr (BI ρ k0 fr nw W val H1 conds path) w u w' β':=by
 unfold D5 at hb;simp only [gi] at hb;obtain ⟨c1,c2,c3,c4⟩:=hb;have hW:=TH c1;have hlive:∀ k,(AF H1 k).isSome=true→k<k0+nw:=by
  intro k hk;obtain ⟨b,hb⟩:=jd.1 hk;exact (KF c4 hb).1
 have newr:∀ k,k0≤k→(AF H1 k).isSome=true→F0 H1 k=true:=by
  intro k hk hs;obtain ⟨b,hb⟩:=jd.1 hs;obtain ⟨b',hb',_,hr⟩:=ZU c3 k (by rw [CU,gl];exact .inr (m8 hb hk))
  exact FS hb' hr
 let β':Env:=fun b=>match Nat.ble fr b&&Nat.blt b (fr+nw),AF H1 (k0+(b-fr)) with
  | true,some _=>β1 (k0+(b-fr))
  | true,none=>none
  | false,_=>β b
 have out:∀ b,¬ (fr≤b∧b<fr+nw)→β' b=β b:=by
  intro b hb;have:(Nat.ble fr b&&Nat.blt b (fr+nw))=false:=by
   cases h:Nat.ble fr b&&Nat.blt b (fr+nw) with
   | false=>rfl
   | true =>
    have:=gk.1 h
    exact absurd ⟨f_ this.1,BP.1 this.2⟩ hb
  show (match Nat.ble fr b&&Nat.blt b (fr+nw),AF H1 (k0+(b-fr)) with | true,some _=>β1 (k0+(b-fr)) | true,none=>none | false,_=>β b)=β b
  rw [this]
 have inn:∀ b,fr≤b→b<fr+nw→∀ X,β' b=some X→(AF H1 (k0+(b-fr))).isSome=true∧β1 (k0+(b-fr))=some X:=by
  intro b h1 h2 X hX;have:(Nat.ble fr b&&Nat.blt b (fr+nw))=true:=by rw [gb h1,BP.2 h2];rfl
  change (match Nat.ble fr b&&Nat.blt b (fr+nw),AF H1 (k0+(b-fr)) with | true,some _=>β1 (k0+(b-fr)) | true,none=>none | false,_=>β b)=some X at hX
  rw [this] at hX;cases hq:AF H1 (k0+(b-fr)) with
  | none=>rw [hq] at hX;cases hX
  | some y=>rw [hq] at hX;exact ⟨rfl,hX⟩
 have new1:∀ k,k0≤k→(AF H1 k).isSome=true→∀ X,β1 k=some X→β' (fr+(k-k0))=some X:=by
  intro k hk hl X hX;have h2:=hlive k hl;have e:k0+(fr+(k-k0)-fr)=k:=dl
  have:(Nat.ble fr (fr+(k-k0))&&Nat.blt (fr+(k-k0)) (fr+nw))=true:=by rw [gb dl,BP.2 dl];rfl
  show (match Nat.ble fr (fr+(k-k0))&&Nat.blt (fr+(k-k0)) (fr+nw),AF H1 (k0+(fr+(k-k0)-fr)) with | true,some _=>β1 (k0+(fr+(k-k0)-fr)) | true,none=>none | false,_=>β (fr+(k-k0)))=some X
  rw [this,e];obtain ⟨y,hy⟩:=jd.1 hl;rw [hy];exact hX
 have ext0:Env.le β β':=by
  intro b X hb;rw [out b (fun h=>by rw [hf b h.1 h.2] at hb;cases hb)]
  exact hb
 have inE:∀ k,k<k0→A3 β ρ k0 k=β (nth ρ k):=fun k hk=>by simp [A3,BP.2 hk]
 have oldk:∀ k,k<k0→∀ X,β1 k=some X→β (nth ρ k)=some X:=by
  intro k hk X hX;obtain ⟨Y,hq⟩:=hdef k hk;have:=ho.ext k Y (by rw [inE k hk];exact hq)
  rw [this] at hX;injection hX with hX;subst hX;exact hq
 have kapk:∀ k,(k<k0∨(AF H1 k).isSome=true)→∀ X,β1 k=some X→β' (kap ρ k0 fr k)=some X:=by
  intro k hk X hX;unfold kap;rcases gt k k0 with hlt | hge
  ·rw [BP.2 hlt];exact ext0 _ _ (oldk k hlt X hX)
  ·have:Nat.blt k k0=false:=by cases h:Nat.blt k k0 with | false=>rfl | true=>have:=BP.1 h;omega
   rw [this];rcases hk with hk | hk
   ·omega
   ·exact new1 k hge hk X hX
 refine ⟨β',ext0,?_,?_,?_,?_,?_,?_,ho.size,ho.os,ho.tape,ho.output⟩
 ·intro b X hX;by_cases hr:fr≤b∧b<fr+nw
  ·obtain ⟨hl,h1⟩:=inn b hr.1 hr.2 X hX;refine .inr ⟨hr.1,hr.2,fun B n e=>?_⟩
   subst e;rcases ho.new _ _ h1 with h | h
   ·have:Nat.blt (k0+(b-fr)) k0=false:=by cases h:Nat.blt (k0+(b-fr)) k0 with | false=>rfl | true=>have:=BP.1 h;omega
    simp [A3,this] at h
   ·rcases h B n rfl with h | ⟨k,m',hk,hk2⟩
    ·exact .inl h
    ·have hk0:=hW k hk;obtain ⟨bb,hbb,_,hbr⟩:=ZU c3 k (by rw [CU,gl];exact .inl hk)
     have:=ho.good.inj _ _ _ _ _ (FS hbb hbr) hl (ho.ext k _ hk2) h1
     omega
  ·rw [out b hr] at hX;exact .inl hX
 ·intro b B n hX;by_cases hr:fr≤b∧b<fr+nw
  ·exact ho.good.lt _ _ _ (inn b hr.1 hr.2 _ hX).2
  ·rw [out b hr] at hX;exact ik (g.lt _ _ _ hX) ho.size
 ·intro b b' B n n' h1 h2 h3 h4 h5 h6;obtain ⟨l1,q1⟩:=inn b h1 h3 _ h5;obtain ⟨l2,q2⟩:=inn b' h2 h4 _ h6;have:=ho.good.inj _ _ _ _ _ (newr _ dl l1) l2 q1 q2
  omega
 ·exact ANG (fun k hk X hX=>kapk k (TK c2 k hk) X hX) ho.val
 ·intro k y hk;obtain ⟨j,hj,e1,e2⟩:=ABv hk;obtain ⟨bb,hbb,hok,_⟩:=ZU c3 j hj;rw [hbb] at e2;simp only [Option.map_some,gq] at e2;subst e1;subst e2;have hkj:j<k0∨(AF H1 j).isSome=true:=.inr (by rw [hbb];rfl)
  rcases ho.good.heap j bb hbb with ⟨B,n,l,t,pre,ty,fz,q1,q2,q3⟩ | ⟨X,q1,q2,q3⟩ | ⟨B,l,es,q,q1,q2,q3,q4⟩
  ·exact .inl ⟨B,n,l,t,pre,ty,fz,kapk j hkj _ q1,TI (fun k hk X hX=>kapk k (TK hok k hk) X hX) q2,q3⟩
  ·exact .inr (.inl ⟨X,kapk j hkj _ q1,q2,TI (fun k hk X hX=>kapk k (TK hok k hk) X hX) q3⟩)
  ·exact .inr (.inr ⟨B,l,es,q,kapk j hkj _ q1,q2,TI (fun k hk X hX=>kapk k (TK hok k hk) X hX) q3,q4⟩)
 ·intro B hB hno;refine ho.frame B hB fun k m hk hk2=>?_
  have hk0:=hW k hk;rw [inE k hk0] at hk2;have hmem:=ABw (κ:=kap ρ k0 fr) (H1:=H1) (j:=k) (l:=cat W (JA k0 H1)) (by rw [CU,gl];exact .inl hk)
  have e:kap ρ k0 fr k=nth ρ k:=by simp [kap,BP.2 hk0]
  rw [e] at hmem;exact hno _ _ m hmem hk2
section
variable {P:Program} {O:Orc} {f:FuncId} {fn:Func}
theorem GQ (hfn:P.funcs[f]? = some fn) (hbd:fn.body.isSome=true) (hname:(fn.name=="runtime.NumGoroutine")=false) {s:ASpec}
  (h:∀ args H fr path r,s args H fr path=some r→∃ (ρ:List Nat) (args0:List AV) (H0:Heap) (k0 nw:Nat) (W:List Nat) (val:AV) (H1:Heap) (conds:dr) (path':List Bool),
   r=BI ρ k0 fr nw W val H1 conds path'∧(∀ β us w,A_ β args us→Good β H w→AM conds→Ac P f args0 H0 k0 W val H1∧D5 k0 nw W val H1=true∧A_ (A3 β ρ k0) args0 us∧Good (A3 β ρ k0) H0 w∧(∀ k,k<k0→∃ X,β (nth ρ k)=some X))):A' P f s:=by
 intro args H fr path r β us w hs hc ha hg hf;obtain ⟨ρ,args0,H0,k0,nw,W,val,H1,conds,path',rfl,hh⟩:=h args H fr path r hs;obtain ⟨hcan,hb,ha0,hg0,hdef⟩:=hh β us w ha hg hc;refine TF hfn hbd hname (Calls.mono (hcan (A3 β ρ k0) us w ha0 hg0 fun b hb=>?_) ?_)
 ·have:Nat.blt b k0=false:=by cases h:Nat.blt b k0 with | false=>rfl | true=>have:=BP.1 h;omega
  simp [A3,this]
 ·rintro e w' ⟨u,β1,rfl,ho⟩
  obtain ⟨β',he⟩:=ABx (conds:=conds) (path:=path') hg ho hb hf hdef
  exact ⟨u,β',rfl,he⟩
def AR (P:Program) (O:Orc) (fn:Func) (fuel k0:Nat) (ks:List Nat) (x:ASt):Option (dr×List Nat×AV×Heap) :=
 match KA P O none fuel x with
 | some (g,y)=>match Ie P fn y with
  | some v=>some (g.conds,D4 k0 g.keys,v,restrict y.s.H ks)
  | none=>none
 | none=>none
theorem Av {β0:Env} {w0:World} {n:Fz} {W:List Nat} (hO:OrcOk P O) (hm:P.follows .mixedOrders=true) (hfn:P.funcs[f]? = some fn) {fuel k0:Nat} {ks ks':List Nat} {x:ASt} {conds:dr} {v:AV} {H1:Heap}
  (h:AR P O fn fuel k0 ks x=some (conds,ks',v,H1)) (hc:AM conds) (hwf:BO n x.s) (h0:∀ b,k0≤b→β0 b=none) (hks:∀ k∈ks',k∈W) (hD:n.D=[]:=by rfl):ASafe P f β0 w0 (A4 β0 w0 W v H1) n W x:=by
 unfold AR at h;split at h;case h_2=>cases h
 rename_i g y hrun;split at h;case h_2=>cases h
 rename_i v' hv;injection h with h;injection h with h1 h;injection h with h2 h;injection h with h3 h4;subst h1;subst h3;subst h4;refine Ag (W:=W) hO hm (fuel:=fuel) (k0:=k0) (fg:=none) (stop:=none) (ks:=ks') (y:=y) (by unfold AW;rw [hrun];simp only;rw [h2]) hc hwf h0 hks fun _=>?_
 refine ABr hfn hv ?_ hD
 rintro e w ⟨u,β,q0,q1⟩
 exact ⟨u,β,q0,{ q1 with good:=q1.good.restrict ks }⟩
theorem Ay (hfn:P.funcs[f]? = some fn) (hb:fn.body.isSome=true) {args0:List AV} {H0:Heap} {k0:Nat} {path:List Bool} {W:List Nat} {v:AV} {H1:Heap} (hlen:Nat.ble (F2 args0) fn.ntmps=true)
  (h:∀ β0 w0,(∀ b,k0≤b→β0 b=none)→ASafe P f β0 w0 (A4 β0 w0 W v H1) fn.ntmps W (Ah fn args0 H0 k0 path)):Ac P f args0 H0 k0 W v H1 :=
 fun β _ w ha hg hf=>WA hfn hb hlen (ASafe.old (k0:=k0) hf ft (h β w hf)) ha hg hf
end
end Go.Proofs.YtgnajdcdcblaoaaGreat.Ex
namespace Go.Proofs.YtgnajdcdcblaoaaGreat.Ex
open Go.RowKit (Below)
open Go.ChangeShapes Go.WideShapes Go.ChangeAt Go.RowKit
section
variable {H:Type} {enc:TypeId×Value→H} {P:Program} {w:World} {base:Nat} {spare:Nat→Bool} {held:Bool}
theorem ANH {k:IntKind} {i:Int} (h:(Lit.int k i).wf=true):has k i:=by
 simp only [Lit.wf,gi,gc] at h;exact h
end
theorem ABy {H:Type} {enc:TypeId×Value→H} {P:Program} {W:World} {base:Nat} {spare:Nat→Bool} {held:Bool}:∀ {ts:List TypeId} {vs:List Value} {ds:List (DataW H)} {ps:List MemPlace},DataW.TrodAll enc P W base spare held ts vs ds ps→vs.length=ts.length∧ds.length=ts.length
 | [],[],[],_,_=>⟨rfl,rfl⟩
 | _::_,_::_,_::_,_,⟨_,_,_,h,_⟩=>by have:=ABy h;simp [this]
theorem ABz {H:Type} {enc:TypeId×Value→H} {P:Program} (hl:laidOutB P=true) {W W':World} (hb:Below W.heap.size W W'):∀ {ts:List TypeId} {vs:List Value} {ds:List (DataW H)} {ps:List MemPlace},
  ts.all (fun t=>P.readableRec t&&decide (t<P.types.size))=true→DataW.TrodAll enc P W 0 (fun _=>true) true ts vs ds ps→DataW.TrodAll enc P W' 0 (fun b=>decide (b<W.heap.size)) true ts vs ds ps
 | [],[],[],_,_,h=>h
 | _::_,_::_,_::_,_,hr,⟨p,q,h1,h2,e⟩=>by
  simp only [List.all_cons,gi,gc] at hr;have hlt:∀ x∈p,x.block<W.heap.size:=by obtain ⟨m,hm⟩:=h1;exact DataW.trod_lt m _ _ _ hm
  exact ⟨p,q,Below.trod hl hr.1.1 hr.1.2 h1 hb hlt,ABz hl hb (by simpa using hr.2) h2,e⟩
def ANI (s:ChangeSpec) (n:Nat):Prop:=s.vars=[]∧∀ (H:Type) (ds:List (DataW H)),ds.length=n→(s.fn H ds).results=[.lit (.bool true)]∧(s.fn H ds).args=ds∧(s.fn H ds).vars=[]
def ZV (P:Program) (f:FuncId) (fn:Func):Prop :=
 ∀ (H:Type) (enc:TypeId×Value→H) (us:List Value) (W:World) (base:Nat) (ds:List (DataW H)) (ps:List MemPlace),(∀ (j:Nat) t v,fn.params[j]? = some t→us[j]? = some v→Value.okWide P W .any base t v) →
  DataW.TrodAll enc P W 0 (fun _=>true) true fn.params.toList us ds ps→(DataW.weightsEach P fn.params.toList ds).all (· ≤ reachBytes)=true→W.noneFrozen ps→Calls P f ⟨us⟩ W fun e w'=>e=.returned (.bool true)∧Below W.heap.size W w'
theorem law_lift {C:Checked} {os:Os} {f:FuncId} {fn:Func} {s:ChangeSpec} {H:Type} {enc:TypeId×Value→H} (own:ownKnob C.prog.godebug=none) (started:os.Started) (noInit:C.prog.inits.idxOf? f=none) (hfn:C.prog.funcs[f]? = some fn)
  (witness:∃ (w:World) (tape:Tape) (i:Input),w.os=os∧(w.forCall tape i).Shaped C.prog∧i.vars=[]∧Input.okWide C.prog (w.forCall tape i) .any w.heap.size f i ∧
   s.pre6 enc C.prog fn [] false (w.forCall tape i).memory i.args∧Assume.holds {} C.prog (lone (Frame.enter C.prog f i.args .normal) [] (w.forCall tape i)))
  (hs:ANI s fn.params.size) (htypes:s.plain.varTypes C.prog=[]) {tb:TypeId} (hrt:fn.resultTypes=#[tb]) (hub:C.prog.underlying tb=some .bool) (hlaid:laidOutB C.prog=true)
  (hpar:fn.params.toList.all (fun t=>C.prog.readableRec t&&decide (t<C.prog.types.size))=true) (walk:ZV C.prog f fn) :
  ReturnsInHanded {} C os f .any (s.pre6 enc C.prog fn [] false) (s.post enc C.prog fn false true false false):=by
 refine returnsInHanded_of_change_sized own started noInit hfn witness ?_
 intro W base args ds gs before hval hW _ hwt _;have hW':=hW;obtain ⟨p,q,hA,hV,rfl,hfz,hnd⟩:=hW;obtain ⟨hs1,hs2⟩:=hs;rw [hs1] at hV;obtain ⟨rfl,rfl⟩:=trodVars_none hV;obtain ⟨l1,l2⟩:=ABy hA;rw [htypes,iq,iq] at hwt;have e:args=⟨args.toList⟩:=rfl
 rw [e];refine (walk H enc args.toList W base ds p (fun j t v h1 h2=>hval j t v h1 (by simpa using h2)) hA hwt (by simpa using hfz)).mono fun e W' ⟨he,bel⟩=>?_
 subst he;have hds:ds.length=fn.params.size:=by rw [l2];simp
 obtain ⟨r1,r2,r3⟩:=hs2 H (ds++[]) (by rw [iq];exact hds)
 refine ⟨_,rfl,ds,[],p++[],[],p,[],hW',?_,?_,?_,bel.frame _,fun h=>by cases h⟩
 ·rw [r1,hrt];exact trodAll_mk1 (Go.RowKit.shut_bool hub _)
 ·rw [r2,iq];exact ABz hlaid bel hpar hA
 ·rw [r3,hs1];rfl
end Go.Proofs.YtgnajdcdcblaoaaGreat.Ex
namespace Go.Proofs.YtgnajdcdcblaoaaGreat.Ex
section
variable {β β':Env} {κ:Nat→Nat}
theorem AB0:∀ {caps:List (Nat×Nat)} {l:List Value},(∀ k∈caps.map (·.1),∀ X,β (κ k)=some X→β' k=some X)→FM β (ZR κ caps) l→FM β' caps l
 | [],_,_,h=>h
 | (b,o)::r,l,hk,⟨B,n,l',h1,h2,h3⟩=>⟨B,n,l',hk b (by simp) _ h1,AB0 (fun k h=>hk k (by simp at h ⊢;exact .inr h)) h2,h3⟩
theorem ANJ {c:Ch} {l:List Value} (hk:∀ k∈Mo c,∀ X,β (κ k)=some X→β' k=some X) (h:BF β (WB κ c) l):BF β' c l:=by
 cases c<;>simp only [Mo] at hk<;>simp only [WB,BF] at h ⊢
 case n=>exact h
 case b=>exact h
 case v=>exact h
 case p=>obtain ⟨B,n,h1,h2⟩:=h;exact ⟨B,n,hk _ (by simp) _ h1,h2⟩
 case sl =>
  rcases h with ⟨B,n,h1,h2⟩ | ⟨h1,h2⟩ | ⟨h1,h2⟩
  ·exact .inl ⟨B,n,hk _ (by simp) _ h1,h2⟩
  ·exact .inr (.inl ⟨hk _ (by simp) _ h1,h2⟩)
  ·exact .inr (.inr ⟨hk _ (by simp) _ h1,h2⟩)
 case sx =>
  rcases h with ⟨B,n,cap,h1,h2⟩ | ⟨h1,h2⟩
  ·exact .inl ⟨B,n,cap,hk _ (by simp) _ h1,h2⟩
  ·exact .inr ⟨hk _ (by simp) _ h1,h2⟩
 case num=>exact h
 case seq=>exact h
 case clo=>obtain ⟨ps,h1,h2⟩:=h;exact ⟨ps,AB0 hk h1,h2⟩
 case mth=>obtain ⟨B,n,h1,h2⟩:=h;exact ⟨B,n,hk _ (by simp) _ h1,h2⟩
 case yl=>obtain ⟨B,n,h1,h2⟩:=h;exact ⟨B,n,hk _ (by simp) _ h1,h2⟩
 case mp=>obtain ⟨B,h1,h2⟩:=h;exact ⟨B,hk _ (by simp) _ h1,h2⟩
 case mk=>exact h
theorem TL:∀ {cs:List Ch} {l:List Value},(∀ k∈D2 cs,∀ X,β (κ k)=some X→β' k=some X)→AO β (Hs κ cs) l→AO β' cs l
 | [],_,_,h=>h
 | c::cs,l,hk,⟨l1,l2,h1,h2,h3⟩=>by
  simp only [D2,CU,gl] at hk;exact ⟨l1,l2,ANJ (fun k h=>hk k (.inl h)) h1,TL (fun k h=>hk k (.inr h)) h2,h3⟩
theorem AB1 {g:Bool} {cs:List Ch} {u:Value} (hk:∀ k∈D2 cs,∀ X,β (κ k)=some X→β' k=some X) (h:Bi β g (Hs κ cs) u):Bi β' g cs u:=by
 cases g
 ·exact TL hk h
 ·obtain ⟨l,h1,h2⟩:=h;exact ⟨l,TL hk h1,h2⟩
theorem AB2:∀ {xs:List (Bool×List Ch)} {l:List Value},(∀ k∈J9 xs,∀ X,β (κ k)=some X→β' k=some X)→FN β (ZS κ xs) l→FN β' xs l
 | [],_,_,h=>h
 | (g,cs)::xs,l,hk,⟨u,l',h1,h2,h3⟩=>by
  simp only [J9,CU,gl] at hk;exact ⟨u,l',AB1 (fun k h=>hk k (.inl h)) h1,AB2 (fun k h=>hk k (.inr h)) h2,h3⟩
theorem ANK {x:AV} {u:Value} (hk:∀ k∈I_ x,∀ X,β (κ k)=some X→β' k=some X) (h:AL β (WC κ x) u):AL β' x u:=by
 cases x with
 | val g cs=>exact AB1 hk h
 | tup xs=>obtain ⟨us,h1,h2⟩:=h;exact ⟨us,AB2 hk h1,h2⟩
 | any=>trivial
end
def KJ (κ:Nat→Nat):List AV→List AV
 | []=>[]
 | x::r=>WC κ x::KJ κ r
theorem AB3 (κ:Nat→Nat):∀ (T:List AV) (t:Nat),Al (KJ κ T) t=WC κ (Al T t)
 | [],_=>rfl
 | _::_,0=>rfl
 | _::r,t+1=>AB3 κ r t
def If (κ:Nat→Nat):Heap→Heap
 | []=>[]
 | (k,y)::r=>(κ k,(match y with | some b=>some ⟨b.ty,Hs κ b.cs,b.opn⟩ | none=>none))::If κ r
def Dx (k0:Nat) (ρ:List Nat):Nat→Nat:=fun k=>match Nat.blt k k0 with | true=>k | false=>nth ρ (k-k0)
def TM (n:Nat):List Nat→Bool
 | []=>true
 | k::r=>match Nat.ble n k with | true=>TM n r | false=>false
def WD:List Nat→Bool
 | []=>true
 | k::r=>match EH k r with | true=>false | false=>WD r
theorem ZW {n:Nat}:∀ {l:List Nat} {i:Nat},TM n l=true→i<l.length→n≤nth l i
 | [],i,_,h=>by simp at h
 | k::r,0,h,_=>by
  simp only [TM] at h;split at h
  ·rename_i hb;exact f_ hb
  ·cases h
 | k::r,i+1,h,hi=>by
  simp only [TM] at h;split at h
  ·exact ZW (l:=r) h (by simpa using hi)
  ·cases h
theorem m9:∀ {l:List Nat} {i:Nat},i<l.length→nth l i∈l
 | [],i,h=>by simp at h
 | k::r,0,_=>by simp [nth]
 | k::r,i+1,h=>by simp only [nth];exact k_ _ (m9 (by simpa using h))
theorem AB4:∀ {l:List Nat} {i j:Nat},WD l=true→i<l.length→j<l.length→nth l i=nth l j→i=j
 | [],i,_,_,h,_,_=>by simp at h
 | k::r,i,j,h,hi,hj,e=>by
  simp only [WD] at h;split at h
  ·cases h
  ·rename_i hm;have hm':k ∉ r:=fun hk=>by rw [QD.2 hk] at hm;cases hm
   match i,j with
   | 0,0=>rfl
   | 0,j+1=>exact absurd (by rw [show k=nth r j from e];exact m9 (by simpa using hj)) hm'
   | i+1,0=>exact absurd (by rw [show k=nth r i from e.symm];exact m9 (by simpa using hi)) hm'
   | i+1,j+1=>rw [AB4 (l:=r) h (by simpa using hi) (by simpa using hj) e]
section
variable {P:Program} {f:FuncId} {β0:Env} {w0:World} {R:Ending→World→Prop} {n:Fz} {W:List Nat}
theorem ANL {k0:Nat} {ρ:List Nat} (h1:TM k0 ρ=true) (h2:WD ρ=true) {a b:Nat} (ha:a<k0+ρ.length) (hb:b<k0+ρ.length) (e:Dx k0 ρ a=Dx k0 ρ b):a=b:=by
 unfold Dx at e;have lt:∀ {x:Nat},Nat.blt x k0=false→k0≤x:=fun {x} h=>by
  rcases gt x k0 with q | q
  ·rw [BP.2 q] at h;cases h
  ·exact q
 split at e<;>split at e
 ·exact e
 ·rename_i _ p _ q;have:=ZW (i:=b-k0) h1 (by have:=lt q;omega)
  have:=BP.1 p;omega
 ·rename_i _ p _ q;have:=ZW (i:=a-k0) h1 (by have:=lt p;omega)
  have:=BP.1 q;omega
 ·rename_i _ p _ q;have:=AB4 h2 (by have:=lt p;omega) (by have:=lt q;omega) e
  have:=lt p;have:=lt q;omega
theorem AB5 {κ:Nat→Nat} {m:Nat} (hinj:∀ a b,a<m→b<m→κ a=κ b→a=b):∀ {H:Heap} {j:Nat},(∀ k y,(k,y)∈H→k<m)→j<m→AF (If κ H) (κ j)=(AF H j).map fun b=>⟨b.ty,Hs κ b.cs,b.opn⟩
 | [],_,_,_=>rfl
 | (k,y)::r,j,hk,hj=>by
  have hkm:=hk k y (by simp)
  simp only [If,AF];by_cases e:k=j
  ·subst e;have q1:Nat.beq (κ k) (κ k)=true:=An.2 rfl
   have q2:Nat.beq k k=true:=An.2 rfl
   rw [q1,q2];cases y<;>rfl
  ·have q2:Nat.beq k j=false:=FQ e
   have q1:Nat.beq (κ k) (κ j)=false:=FQ fun h=>e (hinj k j hkm hj h)
   rw [q1,q2];exact AB5 hinj (fun k y h=>hk k y (by simp [h])) hj
def Mv (m:Nat):Heap→Bool
 | []=>true
 | (k,y)::r=>match Nat.blt k m with
  | true=>match y with
   | some b=>match KB m (D2 b.cs) with | true=>Mv m r | false=>false
   | none=>Mv m r
  | false=>false
theorem AB6 {m:Nat}:∀ {H:Heap} {k:Nat} {y:Option Blk},Mv m H=true→(k,y)∈H→k<m
 | [],_,_,_,h=>by cases h
 | (j,z)::r,k,y,h,hm=>by
  simp only [Mv] at h;split at h
  ·rename_i hj;have hr:Mv m r=true:=by
    split at h
    ·split at h
     ·exact h
     ·cases h
    ·exact h
   rcases gr.1 hm with e | e
   ·injection e with e1 e2;rw [e1];exact BP.1 hj
   ·exact AB6 hr e
  ·cases h
theorem AB7 {m:Nat}:∀ {H:Heap} {k:Nat} {b:Blk},Mv m H=true→AF H k=some b→k<m∧∀ x∈D2 b.cs,x<m
 | [],_,_,_,h=>by cases h
 | (j,z)::r,k,b,h,hm=>by
  simp only [Mv] at h;simp only [AF] at hm;split at h
  ·rename_i hj;split at hm
   ·rename_i e;subst hm;simp only at h
    split at h
    ·rename_i hc;exact ⟨by rw [← An.1 e];exact BP.1 hj,TH hc⟩
    ·cases h
   ·have hr:Mv m r=true:=by
     split at h
     ·split at h
      ·exact h
      ·cases h
     ·exact h
    exact AB7 hr hm
  ·cases h
def AB8 (k0:Nat) (ρ:List Nat) (m:Nat) (T:List AV) (H:Heap):Bool:=Nat.beq m (k0+ρ.length)&&(TM k0 ρ&&(WD ρ&&(TG m T&&Mv m H)))
theorem OX {k0 m:Nat} {ρ:List Nat} {todo:List Item} {T:List AV} {H:Heap} {fr:Nat} {p:List Bool} (hb:AB8 k0 ρ m T H=true) (h0:∀ b,k0≤b→β0 b=none)
  (hs:ASafe P f β0 w0 R n W ⟨todo,⟨T,H,m,p⟩⟩):ASafe P f β0 w0 R n W ⟨todo,⟨KJ (Dx k0 ρ) T,If (Dx k0 ρ) H,fr,p⟩⟩:=by
 unfold AB8 at hb;simp only [gi] at hb;obtain ⟨hm,h1,h2,h3,h4⟩:=hb;have hm:=An.1 hm;intro β a w hi _
 let κ:=Dx k0 ρ
 let β':Env:=fun k=>match Nat.blt k m with | true=>β (κ k) | false=>none
 have bl:∀ {k},k<m→β' k=β (κ k):=fun {k} h=>by
  show (match Nat.blt k m with | true=>β (κ k) | false=>none)=_
  rw [BP.2 h]
 have bs:∀ {k X},β' k=some X→k<m∧β (κ k)=some X:=fun {k X} h=>by
  change (match Nat.blt k m with | true=>β (κ k) | false=>none)=some X at h
  split at h
  ·rename_i hb;exact ⟨BP.1 hb,h⟩
  ·cases h
 have hinj:∀ a b,a<m→b<m→κ a=κ b→a=b:=fun a b ha hb e=>ANL h1 h2 dl dl e
 have old:∀ {k},k<k0→κ k=k:=fun {k} h=>by show Dx k0 ρ k=k;unfold Dx;rw [BP.2 h]
 have new:∀ {k},k0≤k→k<m→k0≤κ k:=fun {k} h hk=>by
  show k0≤Dx k0 ρ k;unfold Dx;split
  ·exact h
  ·exact ZW h1 dl
 have hg:∀ j,j<m→AF (If κ H) (κ j)=(AF H j).map fun b=>⟨b.ty,Hs κ b.cs,b.opn⟩:=fun j hj=>AB5 hinj (fun k y h=>AB6 h4 h) hj
 refine hs β' a w { hi with tmp:=fun t=>?_,good:=⟨fun b blk hb=>?_,fun b b' B n n' q1 q2 q3 q4=>?_,fun b B n q=>hi.good.lt _ _ _ (bs q).2⟩,new:=fun b X hb=>?_,ext:=fun b X hb=>?_ } fun b hb=>?_
 ·have ht:=hi.tmp t;simp only at ht
  rw [AB3] at ht;have hk:=m6 (t:=t) h3
  exact ANK (fun k hkk X hX=>by rw [bl (hk k hkk)];exact hX) ht
 ·simp only at hb
  obtain ⟨hbm,hbk⟩:=AB7 h4 hb;have hg':=hg b hbm;rw [hb] at hg';rcases hi.good.heap (κ b) _ hg' with ⟨B,n,l,t,pre,ty,fz,e1,e2,e3,e4,e5⟩ | ⟨X,e1,e2,e3⟩ | ⟨B,l,es,q,e1,e2,e3,e4⟩
  ·exact .inl ⟨B,n,l,t,pre,ty,fz,by rw [bl hbm];exact e1,TL (fun k hkk X hX=>by rw [bl (hbk k hkk)];exact hX) e2,e3,e4,e5⟩
  ·exact .inr (.inl ⟨X,by rw [bl hbm];exact e1,e2,TL (fun k hkk X hX=>by rw [bl (hbk k hkk)];exact hX) e3⟩)
  ·exact .inr (.inr ⟨B,l,es,q,by rw [bl hbm];exact e1,e2,TL (fun k hkk X hX=>by rw [bl (hbk k hkk)];exact hX) e3,e4⟩)
 ·simp only at q1 q2
  obtain ⟨d,hd,hr⟩:=F1 q1;obtain ⟨d',hd'⟩:=jd.1 q2;have m1:=(bs q3).1
  have m2:=(bs q4).1
  refine hinj b b' m1 m2 (hi.good.inj _ _ B n n' (FS (blk:=⟨d.ty,Hs κ d.cs,d.opn⟩) (by rw [hg b m1,hd];rfl) hr) (by rw [hg b' m2,hd'];rfl) (bs q3).2 (bs q4).2)
 ·obtain ⟨hbm,hX⟩:=bs hb;rcases gt b k0 with hlt | hge
  ·rw [old hlt] at hX;exact hi.new b X hX
  ·rcases hi.new _ X hX with q | q
   ·rw [h0 _ (new hge hbm)] at q;cases q
   ·exact .inr q
 ·have hlt:b<k0:=by
   rcases gt b k0 with h | h
   ·exact h
   ·rw [h0 b h] at hb;cases hb
  rw [bl dl,old hlt];exact hi.ext b X hb
 ·show (match Nat.blt b m with | true=>β (κ b) | false=>none)=none
  have:Nat.blt b m=false:=by
   cases hq:Nat.blt b m with
   | false=>rfl
   | true=>have:=BP.1 hq;simp only at hb;omega
  rw [this]
def TN (k sz:Nat):List Nat→Nat→List AV→List AV
 | _,_,[]=>[]
 | ts,i,x::r=>(match EH i ts,x with
  | true,.val false [.v (.slice none 0 0)]=>.val false [.sx k 0 sz]
  | _,y=>y)::TN k sz ts (i+1) r
theorem AB9 (k sz:Nat) (ts:List Nat):∀ (T:List AV) (i t:Nat),Al (TN k sz ts i T) t=Al T t∨(Al T t=.val false [.v (.slice none 0 0)]∧Al (TN k sz ts i T) t=.val false [.sx k 0 sz])
 | [],_,_=>.inl rfl
 | x::r,i,0=>by
  simp only [TN,Al];split
  ·exact .inr ⟨rfl,rfl⟩
  ·exact .inl rfl
 | x::r,i,t+1=>AB9 k sz ts r (i+1) t
theorem nA {ts:List Nat} {sz:Nat} {ty:TypeId} {kd:IntKind} {todo:List Item} {T:List AV} {H:Heap} {fr:Nat} {p:List Bool} (hw:AF H fr=none) (h0:β0 fr=none)
  (hs:ASafe P f β0 w0 R n W ⟨todo,⟨TN fr sz ts 0 T,H++[(fr,some ⟨ty,[.seq kd []],true⟩)],fr+1,p⟩⟩):ASafe P f β0 w0 R n W ⟨todo,⟨T,H,fr,p⟩⟩:=by
 intro β a w hi hf;have hfr:β fr=none:=hf fr (gd _)
 let β':Env:=fun k=>match Nat.beq k fr with | true=>some Loc.nil | false=>β k
 have bo:∀ {k},k≠fr→β' k=β k:=fun {k} h=>by
  show (match Nat.beq k fr with | true=>some Loc.nil | false=>β k)=_
  rw [FQ h]
 have bn:β' fr=some Loc.nil:=by
  show (match Nat.beq fr fr with | true=>some Loc.nil | false=>β fr)=_
  rw [An.2 rfl]
 have le:Env.le β β':=fun b X h=>by
  rw [bo fun e=>by rw [e,hfr] at h;cases h];exact h
 have app:∀ (H:Heap) (b:Nat),(b≠fr→AF (H++[(fr,some (⟨ty,[.seq kd []],true⟩:Blk))]) b=AF H b)∧(AF H fr=none→AF (H++[(fr,some (⟨ty,[.seq kd []],true⟩:Blk))]) fr=some ⟨ty,[.seq kd []],true⟩∨AF (H++[(fr,some (⟨ty,[.seq kd []],true⟩:Blk))]) fr=none):=by
  intro H b;induction H with
  | nil =>
   refine ⟨fun hb=>by simp [AF,FQ (Ne.symm hb)],fun _=>.inl (by simp [AF])⟩
  | cons e r ih =>
   obtain ⟨k,y⟩:=e;refine ⟨fun hb=>?_,fun h=>?_⟩
   ·simp only [kx,AF];rw [ih.1 hb]
   ·simp only [kx,AF] at h ⊢;split at h
    ·right;simpa using h
    ·exact ih.2 h
 refine hs β' a w { hi with tmp:=fun t=>?_,good:=⟨fun b blk hb=>?_,fun b b' B n n' q1 q2 q3 q4=>?_,fun b B n q=>?_⟩,new:=fun b X hb=>?_,ext:=Env.le_trans hi.ext le } fun b hb=>?_
 ·simp only
  have ht:=hi.tmp t;simp only at ht
  rcases AB9 fr sz ts T 0 t with e | ⟨e1,e2⟩
  ·rw [e];exact G_ le ht
  ·rw [e1] at ht;rw [e2];obtain ⟨l1,l2,⟨q1,_⟩,q2,q3⟩:=ht;exact ⟨l1,l2,.inr ⟨bn,rfl,q1⟩,q2,q3⟩
 ·simp only at hb
  by_cases e:b=fr
  ·subst e;rcases (app H b).2 hw with q | q
   ·rw [q] at hb;injection hb with hb;subst hb;exact .inr (.inl ⟨.nil,bn,Or.inl rfl,⟨[],[],⟨rfl,by simp⟩,rfl,rfl⟩⟩)
   ·rw [q] at hb;cases hb
  ·rw [(app H b).1 e] at hb;exact Yp le (hi.good.heap b blk hb)
 ·simp only at q1 q2
  have e1:b≠fr:=fun e=>by rw [e,bn] at q3;cases q3
  have e2:b'≠fr:=fun e=>by rw [e,bn] at q4;cases q4
  rw [bo e1] at q3;rw [bo e2] at q4;obtain ⟨d,hd,hr⟩:=F1 q1;rw [(app H b).1 e1] at hd;rw [(app H b').1 e2] at q2;exact hi.good.inj b b' B n n' (FS hd hr) q2 q3 q4
 ·by_cases e:b=fr
  ·rw [e,bn] at q;cases q
  ·rw [bo e] at q;exact hi.good.lt b B n q
 ·by_cases e:b=fr
  ·rw [e,bn] at hb;injection hb with hb;subst hb;exact .inr fun B m h=>by cases h
  ·rw [bo e] at hb;exact hi.new b X hb
 ·have e:b≠fr:=by simp only at hb;omega
  rw [bo e];exact hf b (by simp only at hb ⊢;omega)
end
def AB_:List AV→Bool
 | []=>false
 | .val false [.v (.slice none 0 0)]::_=>true
 | _::r=>AB_ r
def nC (k:Nat):List AV→List AV
 | []=>[]
 | x::r=>(match x with
  | .val false [.v (.slice none 0 0)]=>.val false [.sl k 0 0 0]
  | y=>y)::nC k r
def DP (s:ASpec):ASpec:=fun args H fr path=>match AB_ args with
 | true=>match s (nC fr args) ((fr,some ⟨Bf,[],false⟩)::H) (fr+1) path with
  | some r=>some { r with nw:=r.nw+1 }
  | none=>none
 | false=>s args H fr path
theorem D6 {P:Program} {f:FuncId} {s:ASpec} (h:A' P f s):A' P f (DP s):=by
 intro args H fr path r β us w hs hc ha hg hf;unfold DP at hs;split at hs;case h_2=>exact h args H fr path r β us w hs hc ha hg hf
 split at hs;case h_2=>cases hs
 rename_i r1 hr1;injection hs with hs;subst hs;have hfr:β fr=none:=hf fr (gd _) (by show fr<fr+(r1.nw+1);omega)
 let β1:Env:=fun k=>match Nat.beq k fr with | true=>some Loc.nil | false=>β k
 have bo:∀ {k},k≠fr→β1 k=β k:=fun {k} h=>by
  show (match Nat.beq k fr with | true=>some Loc.nil | false=>β k)=_
  rw [FQ h]
 have bn:β1 fr=some Loc.nil:=by
  show (match Nat.beq fr fr with | true=>some Loc.nil | false=>β fr)=_
  rw [An.2 rfl]
 have le:Env.le β β1:=fun b X h=>by
  rw [bo fun e=>by rw [e,hfr] at h;cases h];exact h
 have hargs:∀ {args:List AV} {us:List Value},A_ β args us→A_ β1 (nC fr args) us:=by
  intro args;induction args with
  | nil=>intro us h;exact h
  | cons x r ih =>
   rintro us ⟨u,us',h1,h2,h3⟩
   refine ⟨u,us',?_,ih h2,h3⟩
   split
   ·obtain ⟨l1,l2,⟨q1,_⟩,q2,q3⟩:=h1;exact ⟨l1,l2,.inr (.inl ⟨bn,rfl,rfl,rfl,q1⟩),q2,q3⟩
   ·exact G_ le h1
 have hgood:Good β1 ((fr,some ⟨Bf,[],false⟩)::H) w:=by
  have at_:∀ {b B n},β1 b=some (.at_ B n)→b≠fr∧β b=some (.at_ B n):=fun {b B n} q=>by
   have e:b≠fr:=fun e=>by rw [e,bn] at q;cases q
   exact ⟨e,by rwa [bo e] at q⟩
  have hh:∀ {b},b≠fr→AF ((fr,some (⟨Bf,[],false⟩:Blk))::H) b=AF H b:=fun {b} e=>by simp only [AF];rw [FQ (Ne.symm e)]
  refine ⟨fun b blk hb=>?_,fun b b' B n n' q1 q2 q3 q4=>?_,fun b B n q=>hg.lt _ _ _ (at_ q).2⟩
  ·by_cases e:b=fr
   ·subst e;simp only [AF] at hb;rw [An.2 rfl] at hb;injection hb with hb;subst hb;exact .inr (.inl ⟨.nil,bn,Or.inr rfl,rfl⟩)
   ·rw [hh e] at hb;exact Yp le (hg.heap b blk hb)
  ·obtain ⟨e1,q3⟩:=at_ q3;obtain ⟨e2,q4⟩:=at_ q4;obtain ⟨d,hd,hr⟩:=F1 q1;rw [hh e1] at hd;rw [hh e2] at q2;exact hg.inj b b' B n n' (FS hd hr) q2 q3 q4
 have:=h _ _ _ _ r1 β1 us w hr1 hc (hargs ha) hgood fun b h1 h2=>by
  rw [bo dl];exact hf b dl (by show b<fr+(r1.nw+1);omega)
 have mono:∀ e w',Y' β1 (fr+1) r1 w e w'→Y' β fr { r1 with nw:=r1.nw+1 } w e w':=by
  rintro e w' ⟨u,β',rfl,he⟩
  have bf:β' fr=some Loc.nil:=he.ext fr _ bn
  refine ⟨u,β',rfl,{ he with ext:=Env.le_trans le he.ext,new:=fun b X q=>?_,inj:=fun b b' B n n' q1 q2 q3 q4 q5 q6=>?_,frame:=fun B hB hno=>he.frame B hB fun k y n hk hk2=>?_ }⟩
  ·rcases he.new b X q with q' | ⟨q1,q2,q3⟩
   ·by_cases e:b=fr
    ·subst e;rw [bn] at q';injection q' with q';subst q';exact .inr ⟨gd _,(by show b<b+(r1.nw+1);omega),fun B n h=>by cases h⟩
    ·rw [bo e] at q';exact .inl q'
   ·refine .inr ⟨dl,(by show b<fr+(r1.nw+1);omega),fun B n e=>?_⟩
    rcases q3 B n e with q | ⟨k,m,k1,k2⟩
    ·exact .inl q
    ·refine .inr ⟨k,m,k1,?_⟩
     rwa [bo fun e=>by rw [e,bn] at k2;cases k2] at k2
  ·have e1:b≠fr:=fun e=>by rw [e,bf] at q5;cases q5
   have e2:b'≠fr:=fun e=>by rw [e,bf] at q6;cases q6
   change b<fr+(r1.nw+1) at q3
   change b'<fr+(r1.nw+1) at q4
   exact he.inj b b' B n n' dl dl dl dl q5 q6
  ·have e:k≠fr:=fun e=>by rw [e,bn] at hk2;cases hk2
   rw [bo e] at hk2;exact hno k y n hk hk2
 unfold Mn at this ⊢
 split at this
 ·exact mono _ _ this
 ·exact Calls.mono this fun e w' h=>mono e w' h
 ·exact this
def Le (fr:Nat) (H H1:Heap):List Nat→Bool
 | []=>true
 | k::r=>match Nat.blt k fr with
  | true=>match AF H k with | some _=>Le fr H H1 r | none=>false
  | false=>match AF H1 k with | some _=>Le fr H H1 r | none=>false
theorem nF {fr:Nat} {H H1:Heap}:∀ {l:List Nat},Le fr H H1 l=true→∀ k∈l,(k<fr∧(AF H k).isSome=true)∨(fr≤k∧(AF H1 k).isSome=true)
 | [],_,k,h=>by cases h
 | x::r,h,k,hk=>by
  simp only [Le] at h;split at h
  ·rename_i hb;split at h
   ·rename_i b hg;rcases gr.1 hk with rfl | hk
    ·exact .inl ⟨BP.1 hb,by rw [hg];rfl⟩
    ·exact nF h k hk
   ·cases h
  ·rename_i hb;split at h
   ·rename_i b hg;rcases gr.1 hk with rfl | hk
    ·refine .inr ⟨?_,by rw [hg];rfl⟩
     rcases gt k fr with q | q
     ·rw [BP.2 q] at hb;cases hb
     ·exact q
    ·exact nF h k hk
   ·cases h
def QM (fr:Nat) (H H1:Heap):List Nat→Bool
 | []=>true
 | k::r=>match AF H1 k with
  | some b=>match Le fr H H1 (D2 b.cs),Nat.beq b.ty Bf with | true,false=>QM fr H H1 r | _,_=>false
  | none=>QM fr H H1 r
theorem WE {fr:Nat} {H H1:Heap}:∀ {l:List Nat},QM fr H H1 l=true→∀ k∈l,∀ b,AF H1 k=some b→Le fr H H1 (D2 b.cs)=true∧b.ty≠Bf
 | [],_,k,h=>by cases h
 | x::r,h,k,hk=>by
  intro b' hb';simp only [QM] at h;split at h
  ·rename_i b hb;split at h
   ·rename_i hok hro;rcases gr.1 hk with rfl | hk
    ·rw [hb] at hb';injection hb' with hb';subst hb';exact ⟨hok,Yv hro⟩
    ·exact WE h k hk b' hb'
   ·cases h
  ·rename_i hb;rcases gr.1 hk with rfl | hk
   ·rw [hb] at hb';cases hb'
   ·exact WE h k hk b' hb'
def QO (H1:Heap):List Nat→List Nat
 | []=>[]
 | k::r=>match AF H1 k with | some _=>k::QO H1 r | none=>QO H1 r
theorem nG {H1:Heap} {k:Nat}:∀ {l:List Nat},k∈l→(AF H1 k).isSome=true→k∈QO H1 l
 | x::r,h,hs=>by
  simp only [QO];rcases gr.1 h with rfl | h
  ·obtain ⟨b,hb⟩:=jd.1 hs;rw [hb];simp
  ·split
   ·exact k_ _ (nG h hs)
   ·exact nG h hs
theorem nJ {H1:Heap} {k:Nat}:∀ {l:List Nat},k∈QO H1 l→k∈l
 | x::r,h=>by
  simp only [QO] at h;split at h
  ·rcases gr.1 h with rfl | h
   ·simp
   ·exact k_ _ (nJ h)
  ·exact k_ _ (nJ h)
def QP (fr:Nat) (H1:Heap):List Nat:=QO H1 (JA fr H1)
def OY (H1:Heap):List Nat→Heap
 | []=>[]
 | k::r=>(k,AF H1 k)::OY H1 r
theorem AB' {H1:Heap} {k:Nat} {y:Option Blk}:∀ {l:List Nat},(k,y)∈OY H1 l→k∈l∧y=AF H1 k
 | [],h=>by cases h
 | x::r,h=>by
  simp only [OY,gr,gx] at h;rcases h with ⟨rfl,h2⟩ | h
  ·exact ⟨by simp,h2⟩
  ·obtain ⟨h1,h2⟩:=AB' h;exact ⟨by simp [h1],h2⟩
theorem nK {H1:Heap} {k:Nat}:∀ {l:List Nat},k∈l→(k,AF H1 k)∈OY H1 l
 | x::r,h=>by
  simp only [OY,gr];rcases gr.1 h with rfl | h
  ·exact .inl rfl
  ·exact .inr (nK h)
theorem ZX {k0:Nat}:∀ {l:List Nat},∀ k∈D4 k0 l,k<k0
 | [],k,h=>by cases h
 | x::r,k,h=>by
  simp only [D4] at h;split at h
  ·rename_i hb _;rcases gr.1 h with rfl | h
   ·exact BP.1 hb
   ·exact ZX k h
  ·exact ZX k h
def WF (n:Nat):List AV→Bool
 | []=>true
 | x::r=>match KB n (I_ x) with | true=>WF n r | false=>false
theorem nL {β β':Env} {n:Nat} (he:∀ k,k<n→β' k=β k):∀ {args:List AV} {us:List Value},WF n args=true→A_ β args us→A_ β' args us
 | [],_,_,h=>h
 | x::r,us,hb,⟨u,us',h1,h2,h3⟩=>by
  simp only [WF] at hb;split at hb
  ·rename_i hx;exact ⟨u,us',mZ (fun k hk=>he k (TH hx k hk)) h1,nL he hb h2,h3⟩
  ·cases hb
def E_ (fr:Nat):Heap→Heap
 | []=>[]
 | (k,none)::r=>(k,none)::E_ fr r
 | (k,some b)::r=>match Nat.blt k fr,Nat.beq b.ty Bf with
  | false,true=>(k,none)::E_ fr r
  | _,_=>(k,some b)::E_ fr r
theorem ZY {fr:Nat}:∀ {H:Heap} {k:Nat} {b:Blk},AF (E_ fr H) k=some b→AF H k=some b
 | [],_,_,h=>h
 | (j,none)::r,k,b,h=>by
  simp only [E_,AF] at h ⊢;split
  ·rename_i e;rw [e] at h;exact h
  ·rename_i e;rw [e] at h;exact ZY h
 | (j,some x)::r,k,b,h=>by
  simp only [E_] at h;split at h
  ·simp only [AF] at h ⊢;split
   ·rename_i e;rw [e] at h;cases h
   ·rename_i e;rw [e] at h;exact ZY h
  ·simp only [AF] at h ⊢;split
   ·rename_i e;rw [e] at h;exact h
   ·rename_i e;rw [e] at h;exact ZY h
theorem Good.sub {β:Env} {H H':Heap} {w:World} (g:Good β H w) (h:∀ b blk,AF H' b=some blk→AF H b=some blk):Good β H' w :=
 ⟨fun b blk hb=>g.heap b blk (h b blk hb),fun b b' B n n' h1 h2 h3 h4=>by
  obtain ⟨x,hx,hr⟩:=F1 h1;obtain ⟨y,hy⟩:=jd.1 h2;exact g.inj b b' B n n' (FS (h _ _ hx) hr) (by rw [h _ _ hy];rfl) h3 h4,g.lt⟩
theorem Out.drop {β0 β:Env} {w0 w:World} {W:List Nat} {val:AV} {H:Heap} {u:Value} {fr:Nat} (o:Out β0 w0 W val H u w β):Out β0 w0 W val (E_ fr H) u w β:={ o with good:=o.good.sub fun _ _ h=>ZY h }
def A5 (P:Program) (O:Orc) (fn:Func) (fuel:Nat):ASpec:=fun args H fr path =>
 match fn.body with
 | some c=>match KA P O none fuel ⟨[.code c],⟨F3 args fn.ntmps,H,fr,path⟩⟩ with
  | some (g,y)=>match Ie P fn y,Nat.ble (F2 args) fn.ntmps&&(WF fr args&&(I' fr H&&(I' y.s.fr (E_ fr y.s.H)&&Nat.ble fr y.s.fr))) with
   | some v,true=>match Le fr H (E_ fr y.s.H) (cat (I_ v) (D4 fr g.keys)),QM fr H (E_ fr y.s.H) (cat (D4 fr g.keys) (QP fr (E_ fr y.s.H))) with
    | true,true=>some ⟨v,OY (E_ fr y.s.H) (cat (D4 fr g.keys) (QP fr (E_ fr y.s.H))),y.s.fr-fr,g.conds,y.s.path⟩
    | _,_=>none
   | _,_=>none
  | none=>none
 | none=>none
theorem ACA {β:Env} {w w':World} {fr fr':Nat} {W:List Nat} {v:AV} {H H1:Heap} {u:Value} {β1:Env} {conds:dr} {path:List Bool} (g:Good β H w) (ho:Out (KC β fr) w W v H1 u w' β1) (hW:∀ k∈W,k<fr)
  (hl:I' fr' H1=true) (hle:fr≤fr') (ov:Le fr H H1 (cat (I_ v) W)=true) (ob:QM fr H H1 (cat W (QP fr H1))=true) (hf:∀ b,fr≤b→b<fr'→β b=none) :
  ∃ β',Eff β fr ⟨v,OY H1 (cat W (QP fr H1)),fr'-fr,conds,path⟩ w u w' β':=by
 let β':Env:=fun b=>match Nat.ble fr b&&Nat.blt b fr',AF H1 b with
  | true,some _=>β1 b
  | true,none=>none
  | false,_=>β b
 have out:∀ b,¬ (fr≤b∧b<fr')→β' b=β b:=by
  intro b hb;have:(Nat.ble fr b&&Nat.blt b fr')=false:=by
   cases h:Nat.ble fr b&&Nat.blt b fr' with
   | false=>rfl
   | true =>
    have:=gk.1 h
    exact absurd ⟨f_ this.1,BP.1 this.2⟩ hb
  show (match Nat.ble fr b&&Nat.blt b fr',AF H1 b with | true,some _=>β1 b | true,none=>none | false,_=>β b)=β b
  rw [this]
 have inn:∀ b,fr≤b→b<fr'→∀ X,β' b=some X→(AF H1 b).isSome=true∧β1 b=some X:=by
  intro b h1 h2 X hX;have:(Nat.ble fr b&&Nat.blt b fr')=true:=by rw [gb h1,BP.2 h2];rfl
  change (match Nat.ble fr b&&Nat.blt b fr',AF H1 b with | true,some _=>β1 b | true,none=>none | false,_=>β b)=some X at hX
  rw [this] at hX;cases hq:AF H1 b with
  | none=>rw [hq] at hX;cases hX
  | some y=>rw [hq] at hX;exact ⟨rfl,hX⟩
 have hlive:∀ k,(AF H1 k).isSome=true→k<fr':=by
  intro k hk;obtain ⟨b,hb⟩:=jd.1 hk;exact (KF hl hb).1
 have newr:∀ k,fr≤k→(AF H1 k).isSome=true→F0 H1 k=true:=by
  intro k hk hs;obtain ⟨b,hb⟩:=jd.1 hs;exact FS hb (WE ob k (by rw [CU,gl];exact .inr (nG (m8 hb hk) hs)) b hb).2
 have new1:∀ k,fr≤k→(AF H1 k).isSome=true→β' k=β1 k:=by
  intro k hk hs;have:(Nat.ble fr k&&Nat.blt k fr')=true:=by rw [gb hk,BP.2 (hlive k hs)];rfl
  show (match Nat.ble fr k&&Nat.blt k fr',AF H1 k with | true,some _=>β1 k | true,none=>none | false,_=>β k)=β1 k
  rw [this];obtain ⟨y,hy⟩:=jd.1 hs;rw [hy]
 have old1:∀ k,k<fr→(AF H k).isSome=true→β' k=β1 k:=by
  intro k hk hs;obtain ⟨b,hb⟩:=jd.1 hs;rw [out k (fun q=>by omega)]
  have hq:∃ X,β k=some X:=by
   rcases g.heap k b hb with ⟨B,n,_,_,_,_,_,h,_⟩ | ⟨_,h,_⟩ | ⟨B,_,_,_,h,_⟩<;>exact ⟨_,h⟩
  obtain ⟨X,hX⟩:=hq;rw [hX,ho.ext k X (by rw [Dw hk];exact hX)]
 have occ:∀ l,Le fr H H1 l=true→∀ k∈l,β' k=β1 k:=by
  intro l hl k hk;rcases nF hl k hk with ⟨h1,h2⟩ | ⟨h1,h2⟩
  ·exact old1 k h1 h2
  ·exact new1 k h1 h2
 have ext0:Env.le β β':=by
  intro b X hb;rw [out b (fun h=>by rw [hf b h.1 h.2] at hb;cases hb)]
  exact hb
 have hsub:fr+(fr'-fr)=fr':=dl
 refine ⟨β',ext0,?_,?_,?_,?_,?_,?_,ho.size,ho.os,ho.tape,ho.output⟩
 ·intro b X hX;by_cases hr:fr≤b∧b<fr'
  ·obtain ⟨hl,h1⟩:=inn b hr.1 hr.2 X hX;refine .inr ⟨hr.1,by simp only [hsub];exact hr.2,fun B n e=>?_⟩
   subst e;rcases ho.new _ _ h1 with h | h
   ·rw [QJ hr.1] at h;cases h
   ·rcases h B n rfl with h | ⟨k,m',hk,hk2⟩
    ·exact .inl h
    ·have hk0:=hW k hk;have hkW:k∈cat W (QP fr H1):=by rw [CU,gl];exact .inl hk
     cases hbb:AF H1 k with
     | some bb =>
      have:=ho.good.inj _ _ _ _ _ (FS hbb (WE ob k hkW bb hbb).2) hl (ho.ext k _ hk2) h1
      omega
     | none =>
      rw [Dw hk0] at hk2;exact .inr ⟨k,m',by rw [← hbb];exact nK hkW,hk2⟩
  ·rw [out b hr] at hX;exact .inl hX
 ·intro b B n hX;by_cases hr:fr≤b∧b<fr'
  ·exact ho.good.lt _ _ _ (inn b hr.1 hr.2 _ hX).2
  ·rw [out b hr] at hX;exact ik (g.lt _ _ _ hX) ho.size
 ·intro b b' B n n' h1 h2 h3 h4 h5 h6;simp only [hsub] at h3 h4;obtain ⟨l1,q1⟩:=inn b h1 h3 _ h5;obtain ⟨l2,q2⟩:=inn b' h2 h4 _ h6;exact ho.good.inj _ _ _ _ _ (newr _ h1 l1) l2 q1 q2
 ·exact mZ (fun k hk=>occ _ ov k (by rw [CU,gl];exact .inl hk)) ho.val
 ·intro k y hk;obtain ⟨hj,e2⟩:=AB' hk;have hbb:AF H1 k=some y:=e2.symm
  obtain ⟨hok,_⟩:=WE ob k hj y hbb;have hkk:β' k=β1 k:=by
   rw [CU,gl] at hj;rcases hj with hj | hj
   ·exact occ _ ov k (by rw [CU,gl];exact .inr hj)
   ·exact new1 k (m7 (nJ hj)) (by rw [hbb];rfl)
  rcases ho.good.heap k _ hbb with ⟨B,n,l,t,pre,ty,fz,q1,q2,q3⟩ | ⟨X,q1,q2,q3⟩ | ⟨B,l,es,q,q1,q2,q3,q4⟩
  ·exact .inl ⟨B,n,l,t,pre,ty,fz,by rw [hkk];exact q1,HB (fun k hk=>occ _ hok k hk) q2,q3⟩
  ·exact .inr (.inl ⟨X,by rw [hkk];exact q1,q2,HB (fun k hk=>occ _ hok k hk) q3⟩)
  ·exact .inr (.inr ⟨B,l,es,q,by rw [hkk];exact q1,q2,HB (fun k hk=>occ _ hok k hk) q3,q4⟩)
 ·intro B hB hno;refine ho.frame B hB fun k m hk hk2=>?_
  have hk0:=hW k hk;rw [Dw hk0] at hk2;exact hno k _ m (nK (by rw [CU,gl];exact .inl hk)) hk2
section
variable {P:Program} {O:Orc} (hO:OrcOk P O) (hm:P.follows .mixedOrders=true) {f:FuncId} {fn:Func}
include hO hm in
theorem A7 (hfn:P.funcs[f]? = some fn) (hb:fn.body.isSome=true) (hname:(fn.name=="runtime.NumGoroutine")=false) (fuel:Nat):A' P f (A5 P O fn fuel):=by
 intro args H fr path r β us w hs hc ha hg hf;unfold A5 at hs;split at hs;case h_2=>cases hs
 rename_i c hbody;split at hs;case h_2=>cases hs
 rename_i g y hrun;split at hs;case h_2=>cases hs
 rename_i v hv hchk;split at hs;case h_2=>cases hs
 rename_i hov hob;injection hs with hs;subst hs;simp only [gi] at hchk;obtain ⟨c1,c2,c3,c4,c5⟩:=hchk;have hle:=f_ c5;have hlen:=f_ c1;rw [IZ] at hlen;have hg0:Good (KC β fr) H w:=by
  refine ⟨fun b blk hb=>?_,fun b b' B n n' h1 h2 h3 h4=>hg.inj b b' B n n' h1 h2 (KD h3).1 (KD h4).1,fun b B n h=>hg.lt b B n (KD h).1⟩
  obtain ⟨e1,e2⟩:=KF c3 hb;rcases hg.heap b blk hb with ⟨B,n,l,t,pre,ty,fz,q1,q2,q3⟩ | ⟨X,q1,q2,q3⟩ | ⟨B,l,es,q,q1,q2,q3,q4⟩
  ·exact .inl ⟨B,n,l,t,pre,ty,fz,by rw [Dw e1];exact q1,HB (fun k hk=>Dw (e2 k hk)) q2,q3⟩
  ·exact .inr (.inl ⟨X,by rw [Dw e1];exact q1,q2,HB (fun k hk=>Dw (e2 k hk)) q3⟩)
  ·exact .inr (.inr ⟨B,l,es,q,by rw [Dw e1];exact q1,q2,HB (fun k hk=>Dw (e2 k hk)) q3,q4⟩)
 have hwf:BO fn.ntmps (⟨F3 args fn.ntmps,H,fr,path⟩:St):=by
  refine ⟨fun b hb=>?_,?_⟩
  ·cases hq:AF H b with
   | none=>rfl
   | some blk=>have:=(KF c3 hq).1;simp only at hb;omega
  ·simp only [F3,TE,IZ,ib,V8];omega
 refine TF hfn hb hname (Calls.mono (V9 (R:=A4 (KC β fr) w (D4 fr g.keys) v y.s.H) (fr:=fr) (path:=path) hfn hbody hlen ?_ (nL (fun k hk=>Dw hk) c2 ha) hg0 (fun b hb=>QJ hb)) ?_)
 ·refine ASafe.old (W':=D4 fr g.keys) (k0:=fr) (fun b hb=>QJ hb) (fun k hk=>by cases hk) ?_
  refine Ag (W:=D4 fr g.keys) hO hm (fuel:=fuel) (k0:=fr) (fg:=none) (stop:=none) (ks:=D4 fr g.keys) (y:=y) (by unfold AW;rw [hrun]) hc hwf (fun b hb=>QJ hb) (fun k hk=>hk) fun _=>?_
  exact ABr hfn hv fun _ _ h=>h
 ·rintro e w' ⟨u,β1,rfl,ho⟩
  obtain ⟨β',he⟩:=ACA (conds:=g.conds) (path:=y.s.path) hg (ho.drop (fr:=fr)) ZX c4 hle hov hob fun b h1 h2=>hf b h1 (by show b<fr+(y.s.fr-fr);omega)
  exact ⟨u,β',rfl,he⟩
end
end Go.Proofs.YtgnajdcdcblaoaaGreat.Ex
namespace Go.Proofs.YtgnajdcdcblaoaaGreat.Ex
open Go.RowKit (Below)
section
variable {P:Program} {f:FuncId} {fn:Func} {R:Ending→World→Prop} {a:Act} {w:World}
theorem Safe.leaves (hfn:P.funcs[f]? = some fn) {todo:List Item} (ht:J' todo=true) (h:Leaves P fn a.tmps R a.defers .returning w):Safe P f R todo a w:=by
 intro b cs hb hk;have key:∀ td,∃ e w' fr',R e w'∧Comes P (lone { b.at a td with mode:=.returning } cs w) (lone fr' cs w') e∧fr'.fn=f∧fr'.leaving P w' e:=by
  intro td;obtain ⟨e,w',fr',q1,q2,q3,q4⟩:=leaves_steps a.defers .returning w { b.at a td with mode:=.returning } cs rfl rfl rfl (by show P.funcs[b.fn]? = some fn;rw [hb];exact hfn) hk h
  exact ⟨e,w',fr',q1,q2,q3.trans hb,q4⟩
 unfold J' at ht;split at ht
 ·obtain ⟨e,w',fr',q1,q2,q3,q4⟩:=key []
  exact ⟨e,w',fr',q1,.of_steps (.one step_end) q2,q3,q4⟩
 ·rename_i k;obtain ⟨e,w',fr',q1,q2,q3,q4⟩:=key (.code .ret::k)
  exact ⟨e,w',fr',q1,.of_steps (.one step_ret) q2,q3,q4⟩
 ·cases ht
theorem Safe.of_wpP (hfn:P.funcs[f]? = some fn) {c:Code} {k:List Item} (h:c.wp P (fun e a' w'=>(e=.normal∧Safe P f R k a' w')∨∃ chain,e=.panic chain∧Leaves P fn a'.tmps R a'.defers (.panicking chain) w') a w):Safe P f R (.code c::k) a w:=by
 intro b cs hb hk;obtain ⟨e,a',w',hq,harr⟩:=h b k cs;rcases hq with ⟨he,hs⟩ | ⟨chain,he,hl⟩
 ·subst he;obtain ⟨e,w'',fr,h1,h2,h3,h4⟩:=hs b cs hb hk;exact ⟨e,w'',fr,h1,.of_steps harr h2,h3,h4⟩
 ·subst he;obtain ⟨todo,hs⟩:=harr;obtain ⟨e,w'',fr',q1,q2,q3,q4⟩:=leaves_steps a'.defers (.panicking chain) w' { b.at a' todo with mode:=.panicking chain } cs rfl rfl rfl (by show P.funcs[b.fn]? = some fn;rw [hb];exact hfn) hk hl
  exact ⟨e,w'',fr',q1,.of_steps hs q2,q3.trans hb,q4⟩
end
def WG (P:Program) (O:Orc):Nat→ASt→Option (Log×ASt)
 | 0,x=>some (⟨[],[]⟩,x)
 | n+1,x=>match Mt P O x with
  | some (g,y)=>match WG P O n y with
   | some (g',z)=>some (⟨g.conds++g'.conds,cat g.keys g'.keys⟩,z)
   | none=>none
  | none=>none
section
variable {P:Program} {O:Orc} (hO:OrcOk P O) (hm:P.follows .mixedOrders=true) {f:FuncId} {β0:Env} {w0:World} {R:Ending→World→Prop} {n:Fz}
include hO hm
theorem ACB:∀ {m:Nat} {W:List Nat} {x y:ASt} {g:Log},WG P O m x=some (g,y)→AM g.conds→BO n x.s→(BO n y.s→ASafe P f β0 w0 R n (W++g.keys) y)→ASafe P f β0 w0 R n W x
 | 0,W,x,y,g,h,hc,hwf,hs=>by
  simp only [WG] at h;injection h with h;injection h with h1 h2;subst h1;subst h2;have:=hs hwf
  simpa using this
 | m+1,W,x,y,g,h,hc,hwf,hs=>by
  simp only [WG] at h;split at h
  ·rename_i g1 y1 hst;split at h
   ·rename_i g2 z hr;injection h with h;injection h with h1 h2;subst h1;subst h2;obtain ⟨c1,c2⟩:=Bo.1 hc;refine V5 hO hm hst c1 hwf (ACB hr c2 (V6 hst hwf) fun hw=>?_)
    have:=hs hw
    simpa [CU] using this
   ·cases h
  ·cases h
end
def FV (P:Program) (O:Orc) (m k0:Nat) (x:ASt):Option (dr×List Nat×ASt) :=
 match WG P O m x with
 | some (g,y)=>some (g.conds,D4 k0 g.keys,y)
 | none=>none
theorem QQ {P:Program} {O:Orc} {f:FuncId} {β0:Env} {w0:World} {R:Ending→World→Prop} {n:Fz} {W:List Nat} (hO:OrcOk P O) (hm:P.follows .mixedOrders=true) {m k0:Nat} {x y:ASt} {conds:dr} {ks:List Nat}
  (h:FV P O m k0 x=some (conds,ks,y)) (hc:AM conds) (hwf:BO n x.s) (h0:∀ b,k0≤b→β0 b=none) (hks:∀ k∈ks,k∈W) (hs:BO n y.s→ASafe P f β0 w0 R n W y):ASafe P f β0 w0 R n W x:=by
 unfold FV at h;split at h;case h_2=>cases h
 rename_i g y1 hrun;injection h with h;injection h with h1 h;injection h with h2 h3;subst h1;subst h3;refine ACB hO hm hrun hc hwf fun hw=>ASafe.old h0 (fun k hk hlt=>?_) (hs hw)
 rcases gl.1 hk with hk | hk
 ·exact hk
 ·exact hks k (by rw [← h2];exact ZQ hk hlt)
section
variable {P:Program} {O:Orc} (hO:OrcOk P O) {ops:Array Oper} {β0:Env} {w0:World} {W:List Nat} {n:Fz}
include hO
theorem nM {Q:Exit→Act→World→Prop} {tl:List Nat}:∀ (pre:List Oper) (i:Nat) (s s':St) (recs:List Rec) (β:Env) (a:Act) (w:World),(∀ j o,pre[j]? = some o→ops[i+j]? = some o)→DO P O ops pre i s=some (recs,s')→AM (IW recs) →
  Inv β0 w0 W n β (Al s.T) s.H a w→(∀ b,s.fr≤b→β b=none)→(∀ b,s.fr≤b→AF s.H b=none)→s.T.length=n.n→(∀ k∈DZ recs,k∈W) →
  (∀ β a w,Inv β0 w0 W n β (Al s'.T) s'.H a w→(∀ b,s'.fr≤b→β b=none)→wpOps P ops Q tl a w)→wpOps P ops Q (List.range' i pre.length++tl) a w
 | [],i,s,s',recs,β,a,w,_,h,_,hi,hf,_,_,_,hQ=>by
  simp only [DO,gq,gx] at h;obtain ⟨rfl,rfl⟩:=h;exact hQ β a w hi hf
 | o::rest,i,s,s',recs,β,a,w,hpre,h,hc,hi,hf,hfH,hn,hW,hQ=>by
  simp only [DO] at h;split at h
  ·rename_i e he;split at h
   ·rename_i hd;split at h
    ·rename_i recs' s'' hr;injection h with h;injection h with h1 h2;subst h1;subst h2;obtain ⟨c1,c2⟩:=Bo.1 hc;have ho:ops[i]? = some o:=hpre 0 o rfl
     have hu:=S' he (fun b h1 _=>hfH b h1)
     rw [ii,pp,kx,wpOps_cons];refine ZC hO hi.tmp hi.good he c1 (fun b h1 _=>hf b h1) (fun b h1 _=>hfH b h1) ho fun u w' β' hE hG=>?_
     have hi':=hi.step hE hG (fun k y hk=>hW k (by simp only [DZ,CU,gl];exact .inl (OQ.2 ⟨y,hk⟩))) (d:=o.dst) (fun t ht=>by
      rw [ht] at hd;have:=QF hd
      omega)
     refine nM rest (i+1) _ _ recs' β' _ w' (fun j o' hj=>by rw [show i+1+j=i+(j+1) by omega];exact hpre (j+1) o' hj) hr c2 (hi'.congr (fun t=>(ZE hd t).symm) (fun _=>rfl)) ?_ (V2 hu hfH) (by rw [← hn];exact V1) (fun k hk=>hW k (by simp only [DZ,CU,gl];exact .inr hk)) hQ
     intro b hb;cases hβ:β' b with
     | none=>rfl
     | some X =>
      simp only at hb
      rcases hE.new b X hβ with h | ⟨_,h,_⟩
      ·rw [hf b dl] at h;cases h
      ·omega
    ·cases h
   ·cases h
  ·cases h
end
def ANM (P:Program) (f:FuncId) (args0:List AV) (H0:Heap) (k0:Nat) (c:List PanicEntry):Prop :=
 ∀ (β:Env) (us:List Value) (w:World),A_ β args0 us→Good β H0 w→(∀ b,k0≤b→β b=none)→Calls P f ⟨us⟩ w fun e w'=>e=.panicked c∧Below w.heap.size w w'
theorem ANN {P:Program} {ops:Array Oper} {Q:Exit→Act→World→Prop} {i:Nat} {tl:List Nat} {a:Act} {w:World} {o:Oper} {c:Call} {g:FuncId} {fn:Func} {chain:List PanicEntry} (ho:ops[i]? = some o) (hop:o.op=.call c) (hg:o.guard=none) (hcal:c.callee=.value (.func g))
  (hfn:P.funcs[g]? = some fn) (hb:fn.body.isSome=true) (hname:(fn.name=="runtime.NumGoroutine")=false) (h:Calls P g (c.args.map a.eval) w fun e w'=>e=.panicked chain∧Q (.panic chain) a w'):wpOps P ops Q (i::tl) a w:=by
 simp only [wpOps,ho];have hw:Region.wanted o (yielded ops a.tmps)=true:=by unfold Region.wanted;rw [hg]
 rw [fw hw];refine .inl ?_
 have h1:fn.name≠"runtime.NumGoroutine":=by simpa using hname
 have h2:¬ fn.body=none:=by cases hq:fn.body<;>simp [hq] at hb ⊢
 have e:(execOp a.eval o).run P w=.ok (.enter g (c.args.map a.eval)) w:=by
  simp [execOp,hop,resolve,hcal,Deferred.ofValue,invoke,callFunc,hfn,h1,h2,Act.eval]
 unfold Oper.wp;rw [e,Oper.upon_enter];refine h.mono ?_
 rintro e w' ⟨rfl,hq⟩
 exact hq
theorem ANO {P:Program} {ops:Array Oper} {Q:Exit→Act→World→Prop} {i:Nat} {a:Act} {w:World} {o:Oper} {c:Call} {t:Tmp} {F:FuncId} {ps:Array Value} (ho:ops[i]? = some o) (hop:o.op=.defer c) (hg:o.guard=none) (hd:o.dst=none)
  (hcal:c.callee=.value (.tmp t)) (hargs:c.args=#[]) (ht:a.tmps.getD t undef=.func (.func F) #[] ps) (h:Q .normal { a with defers:={ target:=.fn (.func F) ps,args:=#[] }::a.defers } w):wpOps P ops Q [i] a w:=by
 simp only [wpOps,ho];have hw:Region.wanted o (yielded ops a.tmps)=true:=by unfold Region.wanted;rw [hg]
 rw [fw hw];refine .inl ?_
 have e:(execOp a.eval o).run P w=.ok (.defer { target:=.fn (.func F) ps,args:=#[] }) w:=by
  simp [execOp,hop,resolve,hcal,hargs,Deferred.ofValue,Act.eval,ht]
 unfold Oper.wp;rw [e,Oper.upon_defer,hd];exact h
theorem ANP {P:Program} {ops:Array Oper} {Q:Exit→Act→World→Prop} {a:Act} {w:World} {o0 o1:Oper} {t:Tmp} {T:TypeId} {v:Value} {k:IntKind} (h0:ops[0]? = some o0) (h1:ops[1]? = some o1) (hop0:o0.op=.makeInterface T (.const v)) (hg0:o0.guard=none)
  (hd0:o0.dst=some t) (hop1:o1.op=.panic (.tmp t)) (hg1:o1.guard=none) (hu:P.underlying T=some (.int k)) (ht:t<a.tmps.size) (h:∀ a',a'.defers=a.defers→Q (.panic [{ v:=.iface T v,recovered:=false }]) a' w):wpOps P ops Q [0,1] a w:=by
 have w0:Region.wanted o0 (yielded ops a.tmps)=true:=by unfold Region.wanted;rw [hg0]
 have w1:Region.wanted o1 (yielded ops (a.put o0.dst (.iface T v)).tmps)=true:=by unfold Region.wanted;rw [hg1]
 have e0:(execOp a.eval o0).run P w=.ok (.value (.iface T v)) w:=by
  simp [execOp,hop0,Instr.makeInterface,run_underlying hu,Act.eval]
 have e1:(execOp (a.put o0.dst (.iface T v)).eval o1).run P w=.halt (.panic (.iface T v)) w:=by
  simp [execOp,hop1,hd0,Act.put,Act.eval,Array.getD_eq_getD_getElem?,ht,Instr.panic,goPanic]
 simp only [wpOps,h0,h1];rw [fw w0];refine .inl ?_
 show o0.upon P a _ Q ((execOp a.eval o0).run P w);rw [e0,Oper.upon_value,fw w1];refine .inl ?_
 show o1.upon P (a.put o0.dst (.iface T v)) _ Q ((execOp (a.put o0.dst (.iface T v)).eval o1).run P w);rw [e1,Oper.upon_panic];exact h _ (by rw [hd0];rfl)
def HD:List Item→Array Oper
 | .code (.region _ ops _)::_=>ops
 | _=>#[]
def WH:List Item→Nat
 | .code (.region id _ _)::_=>id
 | _=>0
def TO:List Item→List Item
 | _::k=>k
 | []=>[]
theorem Inv.root {β0 β:Env} {w0 w:World} {W:List Nat} {n:Fz} {τ:Nat→AV} {H:Heap} {a:Act} (i:Inv β0 w0 W n β τ H a w):Inv β w [] n β τ H a w where
 tmp:=i.tmp
 good:=i.good
 sz:=i.sz
 dfr:=i.dfr
 new:=fun _ _ h=>.inl h
 ext:=Env.le_refl β
 frame:=fun _ _ _=>rfl
 size:=gd _
 os:=rfl
 tape:=rfl
 output:=rfl
theorem Inv.push {β0 β:Env} {w0 w:World} {W:List Nat} {k:Nat} {τ:Nat→AV} {H:Heap} {a:Act} {d:Deferred} (i:Inv β0 w0 W ⟨k,[]⟩ β τ H a w):Inv β0 w0 W ⟨k,[d]⟩ β τ H { a with defers:=d::a.defers } w :=
 { i with sz:=i.sz,dfr:=by rw [i.dfr] }
theorem ANQ {β:Env} {a b:Nat} {ps:List Value} (h:FM β [(a,0),(b,0)] ps):∃ A m B n,β a=some (.at_ A m)∧β b=some (.at_ B n)∧ps=[.pointer (some ⟨A,m.2+0,none⟩),.pointer (some ⟨B,n.2+0,none⟩)]:=by
 obtain ⟨A,m,l,h1,⟨B,n,l',h2,h3,h4⟩,h5⟩:=h;simp only [FM] at h3;subst h3;subst h4;subst h5;exact ⟨A,m,B,n,h1,h2,rfl⟩
theorem ANR {P:Program} {O:Orc} {f:FuncId} {fn:Func} {β0:Env} {w0:World} {R:Ending→World→Prop} {n:Fz} {W:List Nat} (hO:OrcOk P O) (hm:P.follows .mixedOrders=true) (hfn:P.funcs[f]? = some fn) {fuel k0:Nat} {ks ks':List Nat} {x:ASt} {conds:dr} {v:AV} {H1:Heap}
  (h:AR P O fn fuel k0 ks x=some (conds,ks',v,H1)) (hc:AM conds) (hwf:BO n x.s) (h0:∀ b,k0≤b→β0 b=none) (hks:∀ k∈ks',k∈W) {F:FuncId} {fnF:Func} {p q:Value} (hD:n.D=[{ target:=.fn (.func F) #[p,q],args:=#[] }])
  (hF:P.funcs[F]? = some fnF) (hb:fnF.body.isSome=true) (hname:(fnF.name=="runtime.NumGoroutine")=false) (idle:∀ w,CallsD P F #[p,q] .returning w fun e u' w'=>e=.returned (.tuple #[])∧u'=.returning∧w'=w)
  (hR:∀ e w',A4 β0 w0 W v H1 e w'→R e w'):ASafe P f β0 w0 R n W x:=by
 unfold AR at h;split at h;case h_2=>cases h
 rename_i g y hrun;split at h;case h_2=>cases h
 rename_i v' hv;injection h with h;injection h with h1 h;injection h with h2 h;injection h with h3 h4;subst h1;subst h3;subst h4;refine Ag (W:=W) hO hm (fuel:=fuel) (k0:=k0) (fg:=none) (stop:=none) (ks:=ks') (y:=y) (by unfold AW;rw [hrun];simp only;rw [h2]) hc hwf h0 hks fun _=>?_
 intro β a w hi hf;unfold Ie at hv;split at hv;case h_2=>cases hv
 rename_i l e1 e2;injection hv with hv;subst hv;obtain ⟨u,hu,hr⟩:=ZK hi.tmp hi.good e2;have q1:fnF.name≠"runtime.NumGoroutine":=by simpa using hname
 have q2:¬ fnF.body=none:=by cases hq:fnF.body<;>simp [hq] at hb ⊢
 refine Safe.leaves hfn e1 ?_
 rw [hi.dfr,hD];refine leaves_cons (f:=F) (args:=#[p,q]) (by simp) (by simp [invoke,callFunc,hF,q1,q2]) ?_
 refine (idle w).mono ?_
 rintro e u' w' ⟨rfl,rfl,rfl⟩
 exact ⟨u,hu,hR _ _ ⟨u,β,rfl,hr,hi.good.restrict ks,hi.new,hi.ext,hi.frame,hi.size,hi.os,hi.tape,hi.output⟩⟩
end Go.Proofs.YtgnajdcdcblaoaaGreat.Ex
namespace Go.Proofs.YtgnajdcdcblaoaaGreat.Ex
def Wd (F:Fence):Prop:=(∀ f,F.fn f)∧F.depth=none∧Machine.fenced=Machine.fenced∧(∀ P,Machine.fenced P F=Machine.fenced P Fence.wide)
theorem ACC:Wd Fence.wide:=⟨fun _=>trivial,rfl,rfl,fun _=>rfl⟩
theorem ACD (l:Nat):Wd (Fence.wide.inRound l):=⟨fun _=>trivial,rfl,rfl,fun P=>fenced_inRound P Fence.wide l⟩
section
variable {P:Program} {F:Fence} (hF:Wd F) {n:Nat}
include hF
theorem ANS {f:FuncId} {args:Array Value} {w:World} {R:Ending→World→Prop} (h:Calls P f args w R):CallsIn F n P f args w R:=by
 refine ⟨hF.1 f,fun cs _=>?_⟩
 obtain ⟨e,w',fr,r,s,x⟩:=h cs;refine ⟨e,w',fr,r,?_,x⟩
 rw [hF.2.2.2 P];exact comesIn_wide.2 s
theorem ANT {row:String} {args:Array Value} {w:World} {R:Value→World→Prop} (h:Rows P row args w R):RowsIn F n P row args w R:=by
 intro c cs _;obtain ⟨v,w',r,s⟩:=h c cs;refine ⟨v,w',r,?_⟩
 rw [hF.2.2.2 P];exact stepsIn_wide.2 s
theorem ANU {o:Oper} {a:Act} {w:World} {K:Act→World→Prop} {Q:Exit→Act→World→Prop} (hd:∀ c,o.op≠.defer c) (h:o.wp P a w K Q):o.wpIn F n P a w K Q:=by
 refine ⟨fun f _=>hF.1 f,?_⟩
 rw [Oper.semAt_eq _ _ _ hd];unfold Oper.wp Oper.upon at h;split at h
 ·rename_i e;rw [e];exact h
 ·rename_i e;rw [e];exact h
 ·rename_i e;rw [e];exact h
 ·rename_i e;rw [e];exact ⟨fun q=>(by rw [hF.2.1] at q;cases q),ANS hF h⟩
 ·rename_i e;rw [e];exact ⟨fun q=>(by rw [hF.2.1] at q;cases q),ANT hF h⟩
 ·rename_i e;rw [e];exact h
 ·exact h.elim
theorem ANV {ops:Array Oper} {i:Nat} {K:Act→World→Prop} {Q:Exit→Act→World→Prop} {a:Act} {w:World} (hQ:∀ a w,¬ Q .outgrown a w) (hd:∀ o,ops[i]? = some o→∀ c,o.op≠.defer c) (h:wpOp P ops Q i K a w):wpOpIn F n P ops Q i K a w:=by
 unfold wpOp at h;unfold wpOpIn;cases ho:ops[i]? with
 | none=>rw [ho] at h;exact h
 | some o =>
  rw [ho] at h;simp only at h ⊢
  split at h
  ·rename_i hw;rw [fw hw];rcases h with h | ⟨_,a',w',h⟩
   ·exact ANU hF (hd o ho) h
   ·exact absurd h (hQ a' w')
  ·rename_i hw;rw [fv hw];exact ⟨fun f _=>hF.1 f,h⟩
end
def QR:List Oper→Bool
 | []=>true
 | o::r=>match o.op with
  | .defer _=>false
  | _=>QR r
theorem ACE:∀ {l:List Oper} {i:Nat} {o:Oper},QR l=true→l[i]? = some o→∀ c,o.op≠.defer c
 | [],i,o,_,h,_=>by simp at h
 | x::r,0,o,hn,h,c=>by
  simp only [md,gq] at h;subst h;intro e;simp only [QR,e] at hn;cases hn
 | x::r,i+1,o,hn,h,c=>by
  refine ACE (l:=r) ?_ (by simpa using h) c
  simp only [QR] at hn;split at hn
  ·cases hn
  ·exact hn
section
variable {P:Program} {O:Orc} (hO:OrcOk P O) {F:Fence} (hF:Wd F) {m:Nat} {ops:Array Oper} {β0:Env} {w0:World} {W:List Nat} {n:Fz}
include hO hF
theorem ZZ {Q:Exit→Act→World→Prop} {tl:List Nat} (hQ:∀ a w,¬ Q .outgrown a w) (hD:QR ops.toList=true):∀ (pre:List Oper) (i:Nat) (s s':St) (recs:List Rec) (β:Env) (a:Act) (w:World),(∀ j o,pre[j]? = some o→ops[i+j]? = some o)→DO P O ops pre i s=some (recs,s')→AM (IW recs) →
  Inv β0 w0 W n β (Al s.T) s.H a w→(∀ b,s.fr≤b→β b=none)→(∀ b,s.fr≤b→AF s.H b=none)→s.T.length=n.n→(∀ k∈DZ recs,k∈W) →
  (∀ β a w,Inv β0 w0 W n β (Al s'.T) s'.H a w→(∀ b,s'.fr≤b→β b=none)→wpOpsIn F m P ops Q tl a w)→wpOpsIn F m P ops Q (List.range' i pre.length++tl) a w
 | [],i,s,s',recs,β,a,w,_,h,_,hi,hf,_,_,_,hK=>by
  simp only [DO,gq,gx] at h;obtain ⟨rfl,rfl⟩:=h;exact hK β a w hi hf
 | o::rest,i,s,s',recs,β,a,w,hpre,h,hc,hi,hf,hfH,hn,hW,hK=>by
  simp only [DO] at h;split at h
  ·rename_i e he;split at h
   ·rename_i hd;split at h
    ·rename_i recs' s'' hr;injection h with h;injection h with h1 h2;subst h1;subst h2;obtain ⟨c1,c2⟩:=Bo.1 hc;have ho:ops[i]? = some o:=hpre 0 o rfl
     have hu:=S' he (fun b h1 _=>hfH b h1)
     rw [ii,pp,kx,wpOpsIn_cons];refine ANV hF hQ (fun o' ho'=>ACE hD (by rw [← ot] at ho';exact ho')) (ZC hO hi.tmp hi.good he c1 (fun b h1 _=>hf b h1) (fun b h1 _=>hfH b h1) ho fun u w' β' hE hG=>?_)
     have hi':=hi.step hE hG (fun k y hk=>hW k (by simp only [DZ,CU,gl];exact .inl (OQ.2 ⟨y,hk⟩))) (d:=o.dst) (fun t ht=>by
      rw [ht] at hd;have:=QF hd
      omega)
     refine ZZ hQ hD rest (i+1) _ _ recs' β' _ w' (fun j o' hj=>by rw [show i+1+j=i+(j+1) by omega];exact hpre (j+1) o' hj) hr c2 (hi'.congr (fun t=>(ZE hd t).symm) (fun _=>rfl)) ?_ (V2 hu hfH) (by rw [← hn];exact V1) (fun k hk=>hW k (by simp only [DZ,CU,gl];exact .inr hk)) hK
     intro b hb;cases hβ:β' b with
     | none=>rfl
     | some X =>
      simp only at hb
      rcases hE.new b X hβ with h | ⟨_,h,_⟩
      ·rw [hf b dl] at h;cases h
      ·omega
    ·cases h
   ·cases h
  ·cases h
end
def Dy (P:Program) (O:Orc):Code→St→Option (Log×Bool×St)
 | .skip,s=>some (⟨[],[]⟩,false,s)
 | .ret,s=>some (⟨[],[]⟩,true,s)
 | .seq a b,s=>match Dy P O a s with
  | some (g,true,s')=>some (g,true,s')
  | some (g,false,s')=>match Dy P O b s' with
   | some (g',r,s'')=>some (⟨g.conds++g'.conds,cat g.keys g'.keys⟩,r,s'')
   | none=>none
  | none=>none
 | .cond c a b,s=>match Br (Al s.T) c with
  | some (.val false [.b true])=>Dy P O a s
  | some (.val false [.b false])=>Dy P O b s
  | some (.val false [.v (.bool z)])=>match s.path with
   | true::rest=>match Dy P O a { s with path:=rest } with
    | some (g,r,s')=>some (⟨(z,true)::g.conds,g.keys⟩,r,s')
    | none=>none
   | false::rest=>match Dy P O b { s with path:=rest } with
    | some (g,r,s')=>some (⟨(z,false)::g.conds,g.keys⟩,r,s')
    | none=>none
   | []=>none
  | _=>none
 | .block _ c,s=>Dy P O c s
 | .region _ ops false,s=>match QR ops.toList,DO P O ops ops.toList 0 s with
  | true,some (recs,s')=>some (⟨IW recs,DZ recs⟩,false,s')
  | _,_=>none
 | _,_=>none
def rEx:Bool→Exit
 | true=>.ret
 | false=>.normal
theorem nN {P:Program} {O:Orc} {ops:Array Oper} {l:List Oper} {i:Nat} {s s':St} {recs:List Rec} {n:Fz} (h:DO P O ops l i s=some (recs,s')) (hw:BO n s):BO n s':=by
 obtain ⟨h1,h2,h3⟩:=ZF h hw.1;exact ⟨h1,by rw [h3];exact hw.2⟩
section
variable {P:Program} {O:Orc} (hO:OrcOk P O) {F:Fence} (hF:Wd F) {m:Nat} {β0:Env} {w0:World} {W:List Nat} {n:Fz}
include hO hF
theorem Lf:∀ (c:Code) {Q:Exit→Act→World→Prop} (_:∀ a w,¬ Q .outgrown a w) {s s':St} {g:Log} {r:Bool} {β:Env} {a:Act} {w:World},Dy P O c s=some (g,r,s')→AM g.conds→BO n s →
  Inv β0 w0 W n β (Al s.T) s.H a w→(∀ b,s.fr≤b→β b=none)→(∀ k∈g.keys,k∈W) →
  (∀ β a w,BO n s'→Inv β0 w0 W n β (Al s'.T) s'.H a w→(∀ b,s'.fr≤b→β b=none)→Q (rEx r) a w)→c.wpIn F m P Q a w
 | .skip,Q,hQ,s,s',g,r,β,a,w,h,hc,hw,hi,hf,hk,hn=>by
  simp only [Dy,gq,gx] at h;obtain ⟨rfl,rfl,rfl⟩:=h;exact wpIn_skip (hn β a w hw hi hf)
 | .ret,Q,hQ,s,s',g,r,β,a,w,h,hc,hw,hi,hf,hk,hn=>by
  simp only [Dy,gq,gx] at h;obtain ⟨rfl,rfl,rfl⟩:=h;exact wpIn_ret (hn β a w hw hi hf)
 | .seq x y,Q,hQ,s,s',g,r,β,a,w,h,hc,hw,hi,hf,hk,hn=>by
  simp only [Dy] at h;split at h
  ·rename_i g1 s1 h1;simp only [gq,gx] at h;obtain ⟨rfl,rfl,rfl⟩:=h;refine wpIn_seq (Lf x (Q:=Exit.then (y.wpIn F m P Q) Q) (fun a w q=>hQ a w q) h1 hc hw hi hf hk fun β a w hw hi hf=>?_)
   exact hn β a w hw hi hf
  ·rename_i g1 s1 h1;split at h
   ·rename_i g2 r2 s2 h2;simp only [gq,gx] at h;obtain ⟨rfl,rfl,rfl⟩:=h;obtain ⟨c1,c2⟩:=Bo.1 hc;refine wpIn_seq (Lf x (Q:=Exit.then (y.wpIn F m P Q) Q) (fun a w q=>hQ a w q) h1 c1 hw hi hf (fun k hk'=>hk k (by simp only [CU,gl];exact .inl hk')) fun β a w hw hi hf=>?_)
    exact Lf y hQ h2 c2 hw hi hf (fun k hk'=>hk k (by simp only [CU,gl];exact .inr hk')) hn
   ·cases h
  ·cases h
 | .cond c x y,Q,hQ,s,s',g,r,β,a,w,h,hc,hw,hi,hf,hk,hn=>by
  simp only [Dy] at h;split at h
  ·rename_i he;have e1:=Aw (IS hi.tmp he)
   simp only [BF] at e1;injection e1 with e1 _;exact wpIn_cond_true e1 (Lf x hQ h hc hw hi hf hk hn)
  ·rename_i he;have e1:=Aw (IS hi.tmp he)
   simp only [BF] at e1;injection e1 with e1 _;exact wpIn_cond_false e1 (Lf y hQ h hc hw hi hf hk hn)
  ·rename_i z he;have e1:=(Aw (IS hi.tmp he)).1
   injection e1 with e1 _;split at h
   ·rename_i rest hp;split at h
    ·rename_i g1 r1 s1 h1;simp only [gq,gx] at h;obtain ⟨rfl,rfl,rfl⟩:=h;exact wpIn_cond_true (by rw [e1,hc.1]) (Lf x hQ h1 hc.2 hw hi hf hk hn)
    ·cases h
   ·rename_i rest hp;split at h
    ·rename_i g1 r1 s1 h1;simp only [gq,gx] at h;obtain ⟨rfl,rfl,rfl⟩:=h;exact wpIn_cond_false (by rw [e1,hc.1]) (Lf y hQ h1 hc.2 hw hi hf hk hn)
    ·cases h
   ·cases h
  ·cases h
 | .block id c,Q,hQ,s,s',g,r,β,a,w,h,hc,hw,hi,hf,hk,hn=>by
  simp only [Dy] at h;refine wpIn_block (Lf c (Q:=Exit.inBlock id Q) (fun a w q=>hQ a w q) h hc hw hi hf hk fun β a w hw hi hf=>?_)
  cases r
  ·exact hn β a w hw hi hf
  ·exact hn β a w hw hi hf
 | .region id ops d,Q,hQ,s,s',g,r,β,a,w,h,hc,hw,hi,hf,hk,hn=>by
  cases d with
  | true=>simp [Dy] at h
  | false =>
   simp only [Dy] at h;split at h
   ·rename_i recs s1 hD hr;simp only [gq,gx] at h;obtain ⟨rfl,rfl,rfl⟩:=h;refine wpIn_region ?_
    have:=ZZ hO hF (m:=m) (tl:=[]) hQ hD ops.toList 0 s _ recs β a w (fun j o hj=>by rw [gz,← ot];exact hj) hr hc hi hf hw.1 hw.2 hk fun β a w hi hf=>hn β a w (nN hr hw) hi hf
    rw [qi];simpa using this
   ·cases h
 | .label _,Q,hQ,s,s',g,r,β,a,w,h,hc,hw,hi,hf,hk,hn=>by simp [Dy] at h
 | .loop _,Q,hQ,s,s',g,r,β,a,w,h,hc,hw,hi,hf,hk,hn=>by simp [Dy] at h
 | .scope _,Q,hQ,s,s',g,r,β,a,w,h,hc,hw,hi,hf,hk,hn=>by simp [Dy] at h
 | .exit _,Q,hQ,s,s',g,r,β,a,w,h,hc,hw,hi,hf,hk,hn=>by simp [Dy] at h
 | .goto _,Q,hQ,s,s',g,r,β,a,w,h,hc,hw,hi,hf,hk,hn=>by simp [Dy] at h
 | .rangeFunc ..,Q,hQ,s,s',g,r,β,a,w,h,hc,hw,hi,hf,hk,hn=>by simp [Dy] at h
 | .refuse _,Q,hQ,s,s',g,r,β,a,w,h,hc,hw,hi,hf,hk,hn=>by simp [Dy] at h
end
structure OutL (L:Nat) (β0:Env) (w0:World) (W:List Nat) (H:Heap) (w:World) (β:Env):Prop where
 good:Good β H w
 new:∀ b X,β b=some X→β0 b=some X∨∀ B m,X=.at_ B m→w0.heap.size≤B∨∃ k m',k∈W∧β0 k=some (.at_ B m')
 ext:Env.le β0 β
 frame:∀ B,B<w0.heap.size→B≠L→(∀ k m,k∈W→β0 k≠some (.at_ B m))→w.heap[B]? = w0.heap[B]?
 size:w0.heap.size≤w.heap.size
 os:w.os=w0.os
 tape:w.tape=w0.tape
 output:w.output=w0.output
def noL (L bk:Nat) (β:Env):Prop:=∀ b n,β b=some (.at_ L n)→b=bk
def Za (L:Nat) (β:Env) (H:Heap):Prop:=∀ b blk n,AF H b=some blk→β b≠some (.at_ L n)
theorem noL.off {L bk:Nat} {β:Env} {H:Heap} (h:noL L bk β) (hb:AF H bk=none):Za L β H:=fun b blk n h1 h2=>by
 rw [h b n h2,hb] at h1;cases h1
section
variable {L:Nat} {β0 β1 β:Env} {w0 w1 w:World} {W W':List Nat} {H H1:Heap}
theorem OutL.of_inv {n:Fz} {τ:Nat→AV} {a:Act} (i:Inv β0 w0 W n β τ H a w):OutL L β0 w0 W H w β :=
 ⟨i.good,i.new,i.ext,fun B hB _=>i.frame B hB,i.size,i.os,i.tape,i.output⟩
theorem OutL.trans (i:OutL L β0 w0 W H1 w1 β1) (o:OutL L β1 w1 W' H w β):OutL L β0 w0 (W++W') H w β where
 good:=o.good
 new b X hb:=by
  rcases o.new b X hb with h | h
  ·rcases i.new b X h with h | h
   ·exact .inl h
   ·exact .inr fun B m e=>(h B m e).imp (fun q=>q) fun ⟨k,m',q1,q2⟩=>⟨k,m',gl.2 (.inl q1),q2⟩
  ·refine .inr fun B m e=>?_
   rcases h B m e with q | ⟨k,m',q1,q2⟩
   ·exact .inl (ji i.size q)
   ·rcases i.new k _ q2 with r | r
    ·exact .inr ⟨k,m',gl.2 (.inr q1),r⟩
    ·exact (r B m' rfl).imp (fun q=>q) fun ⟨k',m'',s1,s2⟩=>⟨k',m'',gl.2 (.inl s1),s2⟩
 ext:=Env.le_trans i.ext o.ext
 frame B hB hL hno:=by
  rw [o.frame B (ik hB i.size) hL ?_,i.frame B hB hL fun k m hk=>hno k m (gl.2 (.inl hk))]
  intro k m hk hk2;rcases i.new k _ hk2 with r | r
  ·exact hno k m (gl.2 (.inr hk)) r
  ·rcases r B m rfl with q | ⟨k',m',s1,s2⟩
   ·omega
   ·exact hno k' m' (gl.2 (.inl s1)) s2
 size:=ji i.size o.size
 os:=o.os.trans i.os
 tape:=o.tape.trans i.tape
 output:=o.output.trans i.output
theorem OutL.noL {bk:Nat} (i:OutL L β0 w0 W H w β) (h:noL L bk β0) (hL:L<w0.heap.size) (hW:bk ∉ W):noL L bk β:=fun b n hb=>by
 rcases i.new b _ hb with h1 | h1
 ·exact h b n h1
 ·rcases h1 L n rfl with q | ⟨k,m',hk,q⟩
  ·omega
  ·rw [h k m' q] at hk;exact absurd hk hW
theorem Good.putObj (g:Good β H w) (h:Za L β H) (o:Obj):Good β H (w.putObj L o) where
 heap b blk hb:=by
  rcases g.heap b blk hb with ⟨B,n,l,t,pre,ty,fz,e1,e2,e3,e4⟩ | h' | ⟨B,l,es,q,e1,e2,e3,e4,e5⟩
  ·exact .inl ⟨B,n,l,t,pre,ty,fz,e1,e2,by rw [World.putObj_heap_other (fun e=>h b blk n hb (by rw [← e];exact e1))];exact e3,e4⟩
  ·exact .inr (.inl h')
  ·exact .inr (.inr ⟨B,l,es,q,e1,e2,e3,by rw [World.putObj_heap_other (fun e=>h b blk _ hb (by rw [← e];exact e1))];exact e4,e5⟩)
 inj:=g.inj
 lt b B n hb:=by rw [World.putObj_size];exact g.lt b B n hb
theorem OutL.put (i:OutL L β0 w0 W H w β) (h:Za L β H) (o:Obj):OutL L β0 w0 W H (w.putObj L o) β :=
 ⟨i.good.putObj h o,i.new,i.ext,fun B hB hL hno=>by rw [World.putObj_heap_other hL];exact i.frame B hB hL hno,by rw [World.putObj_size];exact i.size,i.os,i.tape,i.output⟩
theorem OutL.mono (i:OutL L β0 w0 W H w β) (h:∀ k∈W,k∈W'):OutL L β0 w0 W' H w β :=
 { i with
  new:=fun b X hb=>(i.new b X hb).imp id fun q B m e=>(q B m e).imp id fun ⟨k,m',h1,h2⟩=>⟨k,m',h k h1,h2⟩
  frame:=fun B hB hL hno=>i.frame B hB hL fun k m hk=>hno k m (h k hk) }
end
def KK (r:Loop):Bool→Loop
 | true=>{ r with state:=.done,pending:=some .ret }
 | false=>r
theorem Lg {k:Nat} {l:List Nat} (h:EH k l=false):k ∉ l:=fun q=>by rw [QD.2 q] at h;cases h
section
variable {P:Program} {O:Orc} (hO:OrcOk P O) {m L bk:Nat} {r:Loop} {T:List AV} {H:Heap} {fr:Nat} {path:List Bool} {s1 s2:St} {g1 g2:Log} {b:Bool} {n:Nat}
include hO
theorem ANX {β:Env} {w:World} {tmps:Array Value} {R:Ending→World→Prop} (hl:w.heap[L]? = some (.loop r)) (hst:r.state=.ready) (hp:r.pending=none) (hno:noL L bk β)
  (hT:∀ t,AL β (Al T t) (tmps.getD t undef)) (hsz:tmps.size=n) (hTn:T.length=n) (g:Good β H w) (hf:∀ b,fr≤b→β b=none) (hfH:∀ b,fr≤b→AF H b=none)
  (h1:Dy P O r.assign ⟨T,H,fr,path⟩=some (g1,false,s1)) (h2:Dy P O r.body s1=some (g2,b,s2)) (c1:AM g1.conds) (c2:AM g2.conds)
  (k1:EH bk g1.keys=false) (k2:EH bk g2.keys=false) (b1:AF s1.H bk=none) (b2:AF s2.H bk=none)
  (hK:∀ β' w',OutL L β w (g1.keys++g2.keys) s2.H w' β'→BO n s2→(∀ b,s2.fr≤b→β' b=none)→w'.heap[L]? = some (.loop (KK r b))→R (.returned (.bool (!b))) w') :
  RoundIn Fence.wide m P L r.fn tmps r.assign r.body w R:=by
 have hL:L<w.heap.size:=by
  rcases gt L w.heap.size with h | h
  ·exact h
  ·rw [Array.getElem?_eq_none h] at hl;cases hl
 have k1:=Lg k1;have k2:=Lg k2;refine roundIn_of_wpIn trivial ?_
 have i0:Inv β w [] ⟨n,[]⟩ β (Al T) H { tmps:=tmps,defers:=[] } w:=⟨hT,g,hsz,rfl,fun _ _ h=>.inl h,Env.le_refl _,fun _ _ _=>rfl,gd _,rfl,rfl,rfl⟩
 refine Lf hO (ACD L) r.assign (n:=⟨n,[]⟩) (W:=g1.keys) (fun a w q=>q) h1 c1 ⟨hfH,hTn⟩ (i0.mono fun _ h=>by cases h) hf (fun _ h=>h) fun β1 a1 w1 hw1 i1 hf1=>?_
 have o1:=OutL.of_inv (L:=L) i1
 have n1:=o1.noL hno hL k1;have l1:w1.heap[L]? = some (.loop r):=by rw [i1.frame L hL fun k m hk e=>k1 (by rw [← hno k m e];exact hk)];exact hl
 have hL1:L<w1.heap.size:=ik hL i1.size
 refine ⟨_,run_beginRound l1 hst,?_⟩
 have o2:=o1.put (n1.off b1) (.loop { r with state:=.busy })
 have l2:(w1.putObj L (.loop { r with state:=.busy })).heap[L]? = some (.loop { r with state:=.busy }):=World.putObj_heap_same hL1
 have i2:Inv β1 (w1.putObj L (.loop { r with state:=.busy })) [] ⟨n,[]⟩ β1 (Al s1.T) s1.H a1 (w1.putObj L (.loop { r with state:=.busy })):=⟨i1.tmp,o2.good,i1.sz,i1.dfr,fun _ _ h=>.inl h,Env.le_refl _,fun _ _ _=>rfl,gd _,rfl,rfl,rfl⟩
 refine Lf hO (ACD L) r.body (n:=⟨n,[]⟩) (W:=g2.keys) (fun a w q=>q) h2 c2 hw1 (i2.mono fun _ h=>by cases h) hf1 (fun _ h=>h) fun β2 a2 w3 hw2 i3 hf3=>?_
 have o3:=OutL.of_inv (L:=L) i3
 have hL2:L<(w1.putObj L (.loop { r with state:=.busy })).heap.size:=by rw [World.putObj_size];exact hL1
 have n3:=o3.noL n1 hL2 k2;have l3:w3.heap[L]? = some (.loop { r with state:=.busy }):=by rw [i3.frame L hL2 fun k m hk e=>k2 (by rw [← n1 k m e];exact hk)];exact l2
 have hL3:L<w3.heap.size:=ik hL2 i3.size
 have fin:∀ o,o=Obj.loop (KK r b)→R (.returned (.bool (!b))) (w3.putObj L o):=fun o ho=>by
  subst ho;exact hK β2 _ ((o2.trans o3).put (n3.off b2) _) hw2 hf3 (World.putObj_heap_same hL3)
 cases b with
 | true=>exact ⟨_,_,run_endRound (some .ret) l3,fin _ rfl⟩
 | false =>
  refine ⟨_,_,run_endRound none l3,fin _ ?_⟩
  obtain ⟨st,pd,_⟩:=r;simp only at hst hp
  subst hst;subst hp;rfl
end
def TP:List Oper→Option (List Oper×Oper×List Oper)
 | []=>none
 | o::r=>match o.op with
  | .call c=>match c.callee with
   | .value (.tmp _)=>some ([],o,r)
   | _=>match TP r with
    | some (a,x,b)=>some (o::a,x,b)
    | none=>none
  | _=>match TP r with
   | some (a,x,b)=>some (o::a,x,b)
   | none=>none
theorem ACF:∀ {l a:List Oper} {o:Oper} {b:List Oper},TP l=some (a,o,b)→l=a++o::b
 | [],_,_,_,h=>by cases h
 | x::r,a,o,b,h=>by
  have key:∀ {a b o},(match TP r with | some (a,y,b)=>some (x::a,y,b) | none=>none)=some (a,o,b)→x::r=a++o::b:=by
   intro a b o h;split at h
   ·rename_i a' y b' hs;simp only [gq,gx] at h;obtain ⟨rfl,rfl,rfl⟩:=h;rw [ACF hs];rfl
   ·cases h
  simp only [TP] at h;split at h
  ·split at h
   ·simp only [gq,gx] at h;obtain ⟨rfl,rfl,rfl⟩:=h;rfl
   ·exact key h
  ·exact key h
def Mw:List Tmp→List AV→List AV→List AV
 | t::ts,A::As,T=>Mw ts As (I9 T t A)
 | _,_,T=>T
theorem ACG:∀ {ps:List Tmp} {As T:List AV},(Mw ps As T).length=T.length
 | [],_,_=>rfl
 | _::_,[],_=>rfl
 | t::ts,A::As,T=>by simp only [Mw];rw [ACG,V0]
theorem ACH {β:Env}:∀ {ps:List Tmp} {As T:List AV} {us:List Value} {tmps:Array Value},KB tmps.size ps=true→T.length=tmps.size→A_ β As us→(∀ t,AL β (Al T t) (tmps.getD t undef)) →
  ∀ t,AL β (Al (Mw ps As T) t) (((ps.zip us).foldl (fun tmps (t,a)=>tmps.setIfInBounds t a) tmps).getD t undef)
 | [],_,_,_,_,_,_,_,h=>by simpa [Mw] using h
 | _::_,[],_,us,_,_,_,hr,h=>by
  simp only [A_] at hr;subst hr;simpa [Mw] using h
 | p::ps,A::As,T,us,tmps,hlt,hl,hr,h=>by
  obtain ⟨u,us',h1,h2,h3⟩:=hr;subst h3;simp only [List.zip_cons_cons,List.foldl_cons,Mw];simp only [KB] at hlt;split at hlt;case h_2=>cases hlt
  rename_i hb;have hp:=BP.1 hb;refine ACH (by simpa using hlt) (by rw [V0,hl];simp) h2 fun t=>?_
  rw [ZD (by rw [hl];exact hp)]
  by_cases e:p=t
  ·subst e;rw [show Nat.beq p p=true from An.2 rfl]
   simpa [Array.getD_eq_getD_getElem?,hp] using h1
  ·rw [FQ e];simp only
   have:=h t
   simpa [Array.getD_eq_getD_getElem?,Array.getElem?_setIfInBounds_ne e] using this
structure Lp where
 T:List AV
 ps:Array Tmp
 assign:Code
 body:Code
def nt:Bool→Bool
 | true=>false
 | false=>true
def nO (P:Program) (O:Orc) (lp:Lp) (bk:Nat) (x:ASt):Option (Log×Bool×ASt) :=
 match x.todo with
 | .code (.region _ ops false)::k=>match TP ops.toList,QR ops.toList with
  | some (pre,o,post),true=>match o.op,o.guard,o.dst with
   | .call c,none,some d=>match c.callee with
    | .value (.tmp t)=>match DO P O ops pre 0 x.s with
     | some (r1,s1)=>match Al s1.T t,OO (Al s1.T) c.args.toList with
      | .val false [.yl bk'],some args=>match Nat.beq bk' bk,Nat.beq (F2 args) (F2 (lp.ps.toList.map fun _=>AV.any)),S_ d s1.T,KB (F2 lp.T) lp.ps.toList with
       | true,true,true,true=>match Dy P O lp.assign ⟨Mw lp.ps.toList args lp.T,s1.H,s1.fr,s1.path⟩ with
        | some (g1,false,t1)=>match Dy P O lp.body t1 with
         | some (g2,b,t2)=>match AF t1.H bk,AF t2.H bk,EH bk g1.keys,EH bk g2.keys with
          | none,none,false,false=>match DO P O ops post (F2 (pre.map fun _=>AV.any)+1) ⟨I9 s1.T d (.val false [.b (nt b)]),t2.H,t2.fr,t2.path⟩ with
           | some (r3,s3)=>match EH bk (DZ r1),EH bk (DZ r3),AF s3.H bk with
            | false,false,none=>some (⟨IW r1++(g1.conds++(g2.conds++IW r3)),cat (DZ r1) (cat (cat g1.keys g2.keys) (DZ r3))⟩,b,⟨k,s3⟩)
            | _,_,_=>none
           | none=>none
          | _,_,_,_=>none
         | none=>none
        | _=>none
       | _,_,_,_=>none
      | _,_=>none
     | none=>none
    | _=>none
   | _,_,_=>none
  | _,_=>none
 | _=>none
structure Mid (lp:Lp) (L bk:Nat) (r:Loop) (β0:Env) (w0:World) (n:Fz) (W:List Nat) (left:Bool) (s:St) (β:Env) (a:Act) (w:World):Prop where
 tmp:∀ t,AL β (Al s.T t) (a.tmps.getD t undef)
 sz:a.tmps.size=n.n
 dfr:a.defers=n.D
 out:OutL L β0 w0 W s.H w β
 nol:noL L bk β
 free:AF s.H bk=none
 lpr:w.heap[L]? = some (.loop (KK r left))
 fresh:∀ b,s.fr≤b→β b=none
 hT:∀ t,AL β (Al lp.T t) (r.tmps.getD t undef)
 yl:∃ m,β bk=some (.at_ L m)
theorem Mid.inv {lp:Lp} {L bk:Nat} {r:Loop} {β0 β:Env} {w0 w:World} {n:Fz} {W:List Nat} {left:Bool} {s:St} {a:Act} (m:Mid lp L bk r β0 w0 n W left s β a w):Inv β w [] n β (Al s.T) s.H a w :=
 ⟨m.tmp,m.out.good,m.sz,m.dfr,fun _ _ h=>.inl h,Env.le_refl _,fun _ _ _=>rfl,gd _,rfl,rfl,rfl⟩
theorem Lh {w:World} {L:Nat} {o:Obj} (h:w.heap[L]? = some o):L<w.heap.size:=by
 rcases gt L w.heap.size with h' | h'
 ·exact h'
 ·rw [Array.getElem?_eq_none h'] at h;cases h
def TQ (P:Program) (f:FuncId) (R:Ending→World→Prop) (lp:Lp) (L bk:Nat) (r:Loop) (β0:Env) (w0:World) (n:Fz) (W:List Nat) (left:Bool) (x:ASt):Prop :=
 ∀ β a w,Mid lp L bk r β0 w0 n W left x.s β a w→Safe P f R x.todo a w
section
variable {P:Program} {O:Orc} (hO:OrcOk P O) (hm:P.follows .mixedOrders=true) {f:FuncId} {R:Ending→World→Prop} {lp:Lp} {L bk:Nat} {r:Loop} {β0:Env} {w0:World} {n:Fz} {W:List Nat} {left:Bool}
theorem Mid.next {s s':St} {β β1:Env} {a a1:Act} {w w1:World} {W':List Nat} {b:Bool} (m:Mid lp L bk r β0 w0 n W left s β a w) (o:OutL L β w W' s'.H w1 β1) (hk:bk ∉ W') (hb:AF s'.H bk=none) (hl:w1.heap[L]? = some (.loop (KK r b)))
  (ht:∀ t,AL β1 (Al s'.T t) (a1.tmps.getD t undef)) (hs:a1.tmps.size=n.n) (hd:a1.defers=n.D) (hf:∀ b,s'.fr≤b→β1 b=none):Mid lp L bk r β0 w0 n (W++W') b s' β1 a1 w1 :=
 ⟨ht,hs,hd,m.out.trans o,o.noL m.nol (Lh m.lpr) hk,hb,hl,hf,fun t=>G_ o.ext (m.hT t),m.yl.imp fun _ h=>o.ext _ _ h⟩
include hO hm in
theorem ANY {x y:ASt} {g:Log} (h:Mt P O x=some (g,y)) (hc:AM g.conds) (hwf:BO n x.s) (hk:EH bk g.keys=false) (hb:AF y.s.H bk=none) (hs:TQ P f R lp L bk r β0 w0 n (W++g.keys) left y):TQ P f R lp L bk r β0 w0 n W left x:=by
 intro β a w m;have hk:=Lg hk;refine V5 hO hm (β0:=β) (w0:=w) (W:=[]) h hc hwf (fun β1 a1 w1 hi hf=>?_) β a w m.inv m.fresh
 have o:=OutL.of_inv (L:=L) hi
 refine hs β1 a1 w1 (m.next o hk hb ?_ hi.tmp hi.sz hi.dfr hf)
 rw [hi.frame L (Lh m.lpr) fun k n hk' e=>hk (by rw [← m.nol k n e];exact hk')]
 exact m.lpr
structure Fit (lp:Lp) (r:Loop):Prop where
 ready:r.state=.ready
 pend:r.pending=none
 ps:r.params=lp.ps
 assign:r.assign=lp.assign
 body:r.body=lp.body
 sz:r.tmps.size=lp.T.length
include hO in
theorem ANZ (hfit:Fit lp r) {x y:ASt} {g:Log} {b:Bool} (h:nO P O lp bk x=some (g,b,y)) (hc:AM g.conds) (hwf:BO n x.s) (hs:BO n y.s→TQ P f R lp L bk r β0 w0 n (W++g.keys) b y):TQ P f R lp L bk r β0 w0 n W false x:=by
 intro β a w m;obtain ⟨todo,s⟩:=x;unfold nO at h;simp only at h m hwf
 split at h;case h_2=>cases h
 rename_i id ops k;split at h;case h_2=>cases h
 rename_i pre o post hsp hnd;split at h;case h_2=>cases h
 rename_i c d hop hgd hds;split at h;case h_2=>cases h
 rename_i t hcal;split at h;case h_2=>cases h
 rename_i r1 s1 hr1;split at h;case h_2=>cases h
 rename_i bk' args hT hargs;split at h;case h_2=>cases h
 rename_i hbk hlen hd1 hps;split at h;case h_2=>cases h
 rename_i g1 t1 ha;split at h;case h_2=>cases h
 rename_i g2 b' t2 hb;split at h;case h_2=>cases h
 rename_i e1 e2 k1 k2;split at h;case h_2=>cases h
 rename_i r3 s3 hr3;split at h;case h_2=>cases h
 rename_i k3 k4 e3;simp only [gq,gx] at h;obtain ⟨rfl,rfl,rfl⟩:=h;have hbk:=An.1 hbk;subst hbk;simp only [IZ,jk] at hlen hps hr3;have hlen:=An.1 hlen;have hops:=ACF hsp;obtain ⟨c1,c2⟩:=Bo.1 hc;obtain ⟨c2,c3⟩:=Bo.1 c2;obtain ⟨c3,c4⟩:=Bo.1 c3;have AF:∀ i,ops[i]? = (pre++o::post)[i]?:=fun i=>by rw [← hops,ot]
 have hw1:=nN hr1 hwf;refine Safe.of_wp (wpIn_wide.1 (wpIn_region (n:=0) ?_))
 have hsz:ops.size=pre.length+(post.length+1):=by rw [← ri,hops];simp
 have hrange:List.range ops.size=List.range' 0 pre.length++(pre.length::List.range' (pre.length+1) post.length):=by
  rw [hsz,qi,← List.range'_append_1,gz,pp]
 rw [hrange];refine ZZ hO ACC (fun a w q=>by cases q.1) hnd pre 0 s s1 r1 β a w (fun j o' hj=>by
  rw [gz,AF,li (by
   rcases gt j pre.length with q | q
   ·exact q
   ·rw [jw q] at hj;cases hj)];exact hj) hr1 c1 (m.inv.mono (W':=DZ r1) fun _ h=>by cases h) m.fresh hwf.1 hwf.2 (fun _ h=>h) fun β1 a1 w1 i1 f1=>?_
 have o1:=OutL.of_inv (L:=L) i1
 have hnk:=Lg k3;have l1:w1.heap[L]? = some (.loop r):=by
  rw [i1.frame L (Lh m.lpr) fun k n hk' e=>hnk (by rw [← m.nol k n e];exact hk')]
  exact m.lpr
 have n1:=o1.noL m.nol (Lh m.lpr) hnk
 obtain ⟨m0,hm0⟩:=m.yl;have hval:a1.tmps.getD t undef=.func (.yield L) #[] #[]:=by
  have:=i1.tmp t
  rw [hT] at this;obtain ⟨L',n',q1,q2⟩:=Aw this;rw [i1.ext _ _ hm0] at q1;injection q1 with q1;injection q1 with q1 _;injection q2 with q2 _;rw [q2,← q1]
 have hrel:=ZA i1.tmp hargs;have hul:=mS hrel;rw [wpOpsIn_cons];unfold wpOpIn;have ho:ops[pre.length]? = some o:=by rw [AF];simp
 rw [ho];simp only
 have hwant:Region.wanted o (yielded ops a1.tmps)=true:=by unfold Region.wanted;rw [hgd]
 rw [fw hwant];refine ⟨fun f' _=>trivial,?_⟩
 rw [Oper.semAt_eq _ _ _ (fun c' e=>by rw [hop] at e;cases e)]
 have hsz2:(c.args.map a1.eval).size=r.params.size:=by
  have:(c.args.toList.map a1.eval).length=args.length:=hul
  rw [hfit.ps];simp only [jk,ri,Array.size_map] at this hlen ⊢;omega
 have hrun:(execOp a1.eval o).run P w1=.ok (.round L r.fn ((r.params.zip (c.args.map a1.eval)).foldl (fun tmps (t,a)=>tmps.setIfInBounds t a) r.tmps) r.assign r.body) w1:=by
  rw [← run_yield (P:=P) l1 hsz2];simp [execOp,hop,resolve,hcal,Act.eval,hval,Deferred.ofValue,invoke]
 rw [hrun,Oper.uponIn_round];refine ⟨fun q=>(by cases q),?_⟩
 have htm:∀ t,AL β1 (Al lp.T t) (r.tmps.getD t undef):=fun t=>G_ i1.ext (m.hT t)
 have hfold:(r.params.zip (c.args.map a1.eval)).foldl (fun tmps (t,a)=>tmps.setIfInBounds t a) r.tmps=(lp.ps.toList.zip (c.args.toList.map a1.eval)).foldl (fun tmps (t,a)=>tmps.setIfInBounds t a) r.tmps:=by
  rw [← Array.foldl_toList,Array.toList_zip,hfit.ps,n_]
 have hfs:∀ (l:List (Tmp×Value)) (T:Array Value),(l.foldl (fun tmps (t,a)=>tmps.setIfInBounds t a) T).size=T.size:=by
  intro l;induction l with
  | nil=>intro T;rfl
  | cons x l ih=>intro T;rw [List.foldl_cons,ih];simp
 rw [hfold];refine ANX (n:=lp.T.length) (T:=Mw lp.ps.toList args lp.T) (H:=s1.H) (fr:=s1.fr) (path:=s1.path) (s1:=t1) (s2:=t2) (g1:=g1) (g2:=g2) (b:=b') hO l1 hfit.ready hfit.pend n1 (ACH (by rw [hfit.sz];exact hps) hfit.sz.symm hrel htm) (by rw [hfs];exact hfit.sz) ACG i1.good f1 hw1.1 (by rw [hfit.assign];exact ha) (by rw [hfit.body];exact hb) c2 c3 k1 k2 e1 e2 fun β2 w2 o2 hw2 f2 l2=>?_
 have hd1':=QF hd1;have hk12:bk' ∉ g1.keys++g2.keys:=fun q=>(gl.1 q).elim (Lg k1) (Lg k2)
 have i2:Inv β2 w2 (DZ r3) n β2 (Al (I9 s1.T d (.val false [.b (nt b')]))) t2.H (a1.put (some d) (.bool (!b'))) w2:=by
  refine ⟨fun t=>?_,o2.good,?_,i1.dfr,fun _ _ h=>.inl h,Env.le_refl _,fun _ _ _=>rfl,gd _,rfl,rfl,rfl⟩
  ·rw [ZD hd1'];have hd2:d<a1.tmps.size:=by rw [i1.sz,← hw1.2];exact hd1'
   by_cases e:d=t
   ·subst e;rw [show Nat.beq d d=true from An.2 rfl]
    have:nt b'=!b':=by cases b'<;>rfl
    simp only [this];refine ⟨[.bool (!b')],[],rfl,rfl,?_⟩
    simp [Act.put,Array.getD_eq_getD_getElem?,hd2]
   ·rw [FQ e];have:=G_ o2.ext (i1.tmp t)
    simpa [Act.put,Array.getD_eq_getD_getElem?,Array.getElem?_setIfInBounds_ne e] using this
  ·rw [← i1.sz];simp [Act.put]
 have hw2':BO n ⟨I9 s1.T d (.val false [.b (nt b')]),t2.H,t2.fr,t2.path⟩:=⟨hw2.1,by rw [V0];exact hw1.2⟩
 show wpOpsIn Fence.wide 0 P ops _ (List.range' (pre.length+1) post.length) (a1.put o.dst (.bool (!b'))) w2;rw [hds,← iq (List.range' (pre.length+1) post.length)];refine ZZ hO ACC (fun a w q=>by cases q.1) hnd post (pre.length+1) _ s3 r3 β2 _ w2 (fun j o' hj=>by
  rw [AF,ow dl,show pre.length+1+j-pre.length=j+1 by omega]
  exact hj) hr3 c4 i2 f2 hw2'.1 hw2'.2 (fun _ h=>h) fun β3 a3 w3 i3 f3=>?_
 refine ⟨rfl,?_⟩
 have hw3:=nN hr3 hw2';have o3:=OutL.of_inv (L:=L) i3
 have n2:=o2.noL n1 (Lh l1) hk12
 have hl3:w3.heap[L]? = some (.loop (KK r b')):=by
  rw [i3.frame L (Lh l2) fun k n hk' e=>Lg k4 (by rw [← n2 k n e];exact hk')]
  exact l2
 have oo:=(o1.trans (o2.trans o3)).mono (W':=cat (DZ r1) (cat (cat g1.keys g2.keys) (DZ r3))) (fun k hk=>by simpa [CU] using hk)
 exact hs hw3 β3 a3 w3 (m.next oo (fun q=>by
  simp only [CU,gl] at q;rcases q with q | (q | q) | q
  ·exact hnk q
  ·exact Lg k1 q
  ·exact Lg k2 q
  ·exact Lg k4 q) e3 hl3 i3.tmp i3.sz i3.dfr f3)
def QS (P:Program) (O:Orc) (lp:Lp) (bk:Nat):Nat→Bool→ASt→Option (Log×Bool×ASt)
 | 0,_,_=>none
 | k+1,left,x=>match J' x.todo with
  | true=>some (⟨[],[]⟩,left,x)
  | false=>match Mt P O x with
   | some (g,y)=>match EH bk g.keys,AF y.s.H bk with
    | false,none=>match QS P O lp bk k left y with
     | some (g',b,z)=>some (⟨g.conds++g'.conds,cat g.keys g'.keys⟩,b,z)
     | none=>none
    | _,_=>none
   | none=>match left with
    | false=>match nO P O lp bk x with
     | some (g,b,y)=>match QS P O lp bk k b y with
      | some (g',b',z)=>some (⟨g.conds++g'.conds,cat g.keys g'.keys⟩,b',z)
      | none=>none
     | none=>none
    | true=>none
include hO hm in
theorem nP (hfit:Fit lp r):∀ {k:Nat} {W:List Nat} {left b:Bool} {x y:ASt} {g:Log},QS P O lp bk k left x=some (g,b,y)→AM g.conds→BO n x.s→(BO n y.s→TQ P f R lp L bk r β0 w0 n (W++g.keys) b y)→TQ P f R lp L bk r β0 w0 n W left x
 | 0,_,_,_,_,_,_,h,_,_,_=>by simp [QS] at h
 | k+1,W,left,b,x,y,g,h,hc,hwf,hs=>by
  simp only [QS] at h;split at h
  ·simp only [gq,gx] at h;obtain ⟨rfl,rfl,rfl⟩:=h;have:=hs hwf
   simpa using this
  ·split at h
   ·rename_i g1 y1 hst;split at h;case h_2=>cases h
    rename_i e1 e2;split at h;case h_2=>cases h
    rename_i g2 b2 z hr;simp only [gq,gx] at h;obtain ⟨rfl,rfl,rfl⟩:=h;obtain ⟨c1,c2⟩:=Bo.1 hc;refine ANY hO hm hst c1 hwf e1 e2 (nP hfit hr c2 (V6 hst hwf) fun hw=>?_)
    have:=hs hw
    simpa [CU] using this
   ·split at h;case h_2=>cases h
    split at h;case h_2=>cases h
    rename_i g1 b1 y1 hst;split at h;case h_2=>cases h
    rename_i g2 b2 z hr;simp only [gq,gx] at h;obtain ⟨rfl,rfl,rfl⟩:=h;obtain ⟨c1,c2⟩:=Bo.1 hc;refine ANZ hO hfit hst c1 hwf fun hw1=>(nP hfit hr c2 hw1 fun hw=>?_)
    have:=hs hw
    simpa [CU] using this
end
section
variable {β0 β1 β:Env} {w0 w1 w:World} {W W':List Nat} {H H':Heap} {L:Nat}
theorem Inv.thenL {n:Fz} {τ:Nat→AV} {a:Act} (i:Inv β0 w0 W n β1 τ H a w1) (o:OutL L β1 w1 W' H' w β) (hL:w0.heap.size≤L):Inv β0 w0 (W++W') n β τ H' a w:=by
 have t:=(OutL.of_inv (L:=L) i).trans o
 exact ⟨fun t=>G_ o.ext (i.tmp t),o.good,i.sz,i.dfr,t.new,t.ext,fun B hB hno=>t.frame B hB dl hno,t.size,t.os,t.tape,t.output⟩
theorem Inv.outL {n:Fz} {τ:Nat→AV} {a:Act} {val:AV} {u:Value} (i:Inv β0 w0 W n β1 τ H a w1) (o:OutL L β1 w1 W' H' w β) (hL:w0.heap.size≤L) (hv:AL β val u):Out β0 w0 (W++W') val H' u w β:=by
 have t:=i.thenL o hL;exact ⟨hv,t.good,t.new,t.ext,t.frame,t.size,t.os,t.tape,t.output⟩
end
theorem ANa {β:Env} {x:AV} {xs:List AV} {u:Value} {us:List Value} (h1:AL β x u) (h2:A_ β xs us):A_ β (x::xs) (u::us):=⟨u,us,h1,h2,rfl⟩
section
variable {P:Program} {O:Orc} (hO:OrcOk P O) (hm:P.follows .mixedOrders=true)
include hO hm
theorem ANb {gf:FuncId} {gfn:Func} {c:Code} {lp:Lp} {L bk:Nat} {r:Loop} {β0:Env} {w0:World} (hfn:P.funcs[gf]? = some gfn) (hb:gfn.body=some c) (hfit:Fit lp r) {args:List AV} {H:Heap} {fr:Nat} {path:List Bool} {k:Nat} {g:Log} {left:Bool} {y:ASt} {v:AV} {us:List Value}
  (hlen:args.length≤gfn.ntmps) (h:QS P O lp bk k false ⟨[.code c],⟨F3 args gfn.ntmps,H,fr,path⟩⟩=some (g,left,y)) (hv:Ie P gfn y=some v) (hc:AM g.conds)
  (hl:w0.heap[L]? = some (.loop r)) (hno:noL L bk β0) (hbk:AF H bk=none) (hyl:∃ m,β0 bk=some (.at_ L m)) (hT:∀ t,AL β0 (Al lp.T t) (r.tmps.getD t undef))
  (ha:A_ β0 args us) (hg:Good β0 H w0) (hf:∀ b,fr≤b→β0 b=none) (hfH:∀ b,fr≤b→AF H b=none) :
  Calls P gf ⟨us⟩ w0 fun e w=>∃ u β,e=.returned u∧OutL L β0 w0 g.keys y.s.H w β∧noL L bk β∧AF y.s.H bk=none∧w.heap[L]? = some (.loop (KK r left))∧(∀ b,y.s.fr≤b→β b=none)∧∀ b,y.s.fr≤b→AF y.s.H b=none:=by
 have hwf:BO gfn.ntmps (⟨F3 args gfn.ntmps,H,fr,path⟩:St):=by
  refine ⟨hfH,?_⟩
  simp only [F3,TE,IZ,ib,V8];omega
 refine V9 (fr:=fr) (path:=path) (H:=H) hfn hb hlen (fun β a w hi hf'=>?_) ha hg hf
 have hmid:Mid lp L bk r β0 w0 gfn.ntmps [] false ⟨F3 args gfn.ntmps,H,fr,path⟩ β a w :=
  ⟨hi.tmp,hi.sz,hi.dfr,OutL.of_inv hi,(OutL.of_inv (L:=L) hi).noL hno (Lh hl) (by simp),hbk,by rw [hi.frame L (Lh hl) fun _ _ h=>by cases h];exact hl,hf',fun t=>G_ hi.ext (hT t),hyl.imp fun _ h=>hi.ext _ _ h⟩
 refine nP (W:=[]) hO hm hfit h hc hwf (fun hw=>?_) β a w hmid
 intro β a w m;unfold Ie at hv;split at hv;case h_2=>cases hv
 rename_i l e1 e2;obtain ⟨u,hu,hr⟩:=ZK m.tmp m.out.good e2;refine Safe.done hfn m.dfr hu ⟨u,β,rfl,m.out,m.nol,m.free,m.lpr,m.fresh,hw.1⟩ ?_
 unfold J' at e1;split at e1
 ·rename_i h;exact .inr h
 ·rename_i k h;exact .inl ⟨k,h⟩
 ·cases e1
end
theorem Out.old {β0 β:Env} {w0 w:World} {W W':List Nat} {val:AV} {H:Heap} {u:Value} (o:Out β0 w0 W val H u w β) (h:∀ k m B,k∈W→β0 k=some (.at_ B m)→k∈W'):Out β0 w0 W' val H u w β :=
 { o with
  new:=fun b X hb=>(o.new b X hb).imp id fun q B m e=>(q B m e).imp id fun ⟨k,m',h1,h2⟩=>⟨k,m',h k m' B h1 h2,h2⟩
  frame:=fun B hB hno=>o.frame B hB fun k m hk hk2=>hno k m (h k m B hk hk2) hk2 }
def ACI:Bool→List Item→List Item
 | true,k=>.code .ret::k
 | false,k=>k
def nQ (P:Program) (O:Orc) (fuel:Nat) (x:ASt):Option (Log×ASt) :=
 match x.todo with
 | .code (.rangeFunc (.tmp t) ps assign body)::k=>match Al x.s.T t with
  | .val false [.clo gf caps]=>match P.funcs[gf]? with
   | some gfn=>match gfn.body,Nat.ble (F2 (.val false [.yl x.s.fr]::SS caps)) gfn.ntmps,gfn.name=="runtime.NumGoroutine" with
    | some c,true,false=>match QS P O ⟨x.s.T,ps,assign,body⟩ x.s.fr fuel false ⟨[.code c],⟨F3 (.val false [.yl x.s.fr]::SS caps) gfn.ntmps,x.s.H,x.s.fr+1,x.s.path⟩⟩ with
     | some (g,left,y)=>match Ie P gfn y with
      | some _=>some (g,⟨ACI left k,⟨x.s.T,y.s.H,y.s.fr,y.s.path⟩⟩)
      | none=>none
     | none=>none
    | _,_,_=>none
   | none=>none
  | _=>none
 | _=>none
theorem Good.alloc2 {β:Env} {H:Heap} {w:World} (g:Good β H w) {fr:Nat} (hf:∀ b,fr≤b→β b=none) (hfH:∀ b,fr≤b→AF H b=none) (o1 o2:Obj):Good (β.put fr (.at_ (w.heap.size+1) (0,0))) H ((w.alloc o1).alloc o2):=by
 have hle:Env.le β (β.put fr (.at_ (w.heap.size+1) (0,0))):=Env.le_put _ (hf fr (gd _))
 have hold:∀ B,B<w.heap.size→((w.alloc o1).alloc o2).heap[B]? = w.heap[B]?:=fun B hB=>by
  rw [Go.RowKit.Below.heap_alloc _ _ B (by simp;omega),Go.RowKit.Below.heap_alloc _ _ B hB]
 have key:∀ b X,b≠fr→β.put fr (.at_ (w.heap.size+1) (0,0)) b=some X→β b=some X:=fun b X hne h=>by simpa [Env.put,hne] using h
 have hne:∀ b blk,AF H b=some blk→b≠fr:=fun b blk h e=>by rw [e,hfH fr (gd _)] at h;cases h
 refine ⟨fun b blk hb=>?_,fun b b' B n n' h1 h2 h3 h4=>?_,fun b B n hb=>?_⟩
 ·rcases g.heap b blk hb with ⟨B,n,l,t,pre,ty,fz,e1,e2,e3,e4⟩ | ⟨X,h1,h2,h3⟩ | ⟨B,l,es,q,e1,e2,e3,e4,e5⟩
  ·exact .inl ⟨B,n,l,t,pre,ty,fz,hle _ _ e1,IN hle e2,by rw [hold B (g.lt _ _ _ e1)];exact e3,e4⟩
  ·exact .inr (.inl ⟨X,hle _ _ h1,h2,IN hle h3⟩)
  ·exact .inr (.inr ⟨B,l,es,q,hle _ _ e1,e2,IN hle e3,by rw [hold B (g.lt _ _ _ e1)];exact e4,e5⟩)
 ·obtain ⟨x,hx,_⟩:=F1 h1;obtain ⟨y,hy⟩:=jd.1 h2;exact g.inj b b' B n n' h1 h2 (key _ _ (hne _ _ hx) h3) (key _ _ (hne _ _ hy) h4)
 ·by_cases e:b=fr
  ·subst e;rw [Env.put_same] at hb;injection hb with hb;injection hb with hb _;subst hb;simp
  ·have:=g.lt _ _ _ (key _ _ e hb)
   simp;omega
def coll (D:Nat):Deferred:={ target:=.collected D,args:=#[] }
section
variable {P:Program} {O:Orc} (hO:OrcOk P O) (hm:P.follows .mixedOrders=true) {f:FuncId} {β0:Env} {w0:World} {R:Ending→World→Prop} {kk:Nat} {W:List Nat}
include hO hm
theorem ANc {x y:ASt} {g:Log} {fuel:Nat} (h:nQ P O fuel x=some (g,y)) (hc:AM g.conds) (hwf:BO ⟨kk,[]⟩ x.s)
  (hs:∀ D β a w,w0.heap.size≤D→Inv β0 w0 (W++g.keys) ⟨kk,[coll D]⟩ β (Al y.s.T) y.s.H a w→(∀ b,y.s.fr≤b→β b=none)→BO ⟨kk,[coll D]⟩ y.s→w.heap[D]? = some (.deferred (some []))→(∀ b m,β b≠some (.at_ D m))→Safe P f R y.todo a w):ASafe P f β0 w0 R ⟨kk,[]⟩ W x:=by
 intro β a w hi hf b cs hb hk;obtain ⟨todo,s⟩:=x;unfold nQ at h;simp only at h hi hf hwf
 split at h;case h_2=>cases h
 rename_i t ps assign body k;split at h;case h_2=>cases h
 rename_i gf caps hT;split at h;case h_2=>cases h
 rename_i gfn hgfn;split at h;case h_2=>cases h
 rename_i c hbody hlen hname;split at h;case h_2=>cases h
 rename_i g' left y' hrun;split at h;case h_2=>cases h
 rename_i v hv;simp only [gq,gx] at h;obtain ⟨rfl,rfl⟩:=h;have hlen:=f_ hlen;rw [IZ] at hlen;obtain ⟨ps',hps,hclo⟩:=Aw (by have:=hi.tmp t;rw [hT] at this;exact this)
 injection hclo with hclo _;obtain ⟨D,hD⟩:∃ D,D=w.heap.size:=⟨_,rfl⟩
 obtain ⟨rec,hrec⟩:∃ rec:Loop,rec={ state:=.ready,pending:=none,fn:=b.fn,tmps:=a.tmps,params:=ps,assign,body,defers:=D }:=⟨_,rfl⟩
 obtain ⟨W1,hW1⟩:∃ W1,(w.alloc (.deferred (some []))).alloc (.loop rec)=W1:=⟨_,rfl⟩
 have hL1:W1.heap[D+1]? = some (.loop rec):=by
  rw [← hW1,hD];have:=World.alloc_heap_new (w.alloc (.deferred (some []))) (.loop rec);rwa [World.size_alloc] at this
 have hD1:W1.heap[D]? = some (.deferred (some [])):=by
  rw [← hW1,hD];exact (Go.RowKit.Below.heap_alloc _ _ _ (by simp)).trans (World.alloc_heap_new w _)
 have hs1:W1.heap.size=w.heap.size+2:=by rw [← hW1];simp
 have g1:Good (β.put s.fr (.at_ (D+1) (0,0))) s.H W1:=by rw [← hW1,hD];exact hi.good.alloc2 hf hwf.1 _ _
 have hle:Env.le β (β.put s.fr (.at_ (D+1) (0,0))):=Env.le_put _ (hf _ (gd _))
 obtain ⟨β1,hβ1⟩:∃ β1,β1=β.put s.fr (.at_ (D+1) (0,0)):=⟨_,rfl⟩
 rw [← hβ1] at g1 hle;have IQ:∀ b X,β1 b=some X→(b=s.fr∧X=.at_ (D+1) (0,0))∨β b=some X:=fun b X h=>by
  rw [hβ1] at h;by_cases e:b=s.fr
  ·subst e;rw [Env.put_same] at h;injection h with h;exact .inl ⟨rfl,h.symm⟩
  ·exact .inr (by simpa [Env.put,e] using h)
 have hold:∀ B,B<w.heap.size→W1.heap[B]? = w.heap[B]?:=fun B hB=>by
  rw [← hW1,Go.RowKit.Below.heap_alloc _ _ B (by simp;omega),Go.RowKit.Below.heap_alloc _ _ B hB]
 have hno:noL (D+1) s.fr β1:=fun b n h=>by
  rcases IQ _ _ h with ⟨e,_⟩ | h
  ·exact e
  ·have:=hi.good.lt _ _ _ h;omega
 have hoD:∀ b m,β1 b≠some (.at_ D m):=fun b m h=>by
  rcases IQ _ _ h with ⟨_,e⟩ | h
  ·injection e with e _;omega
  ·have:=hi.good.lt _ _ _ h;omega
 have hyl:β1 s.fr=some (.at_ (D+1) (0,0)):=by rw [hβ1];exact Env.put_same ..
 have hfit:Fit ⟨s.T,ps,assign,body⟩ rec:=by subst hrec;exact ⟨rfl,rfl,rfl,rfl,rfl,by rw [hwf.2];exact hi.sz⟩
 have i1:Inv β0 w0 W ⟨kk,[]⟩ β1 (Al s.T) s.H a W1:=by
  refine ⟨fun t=>G_ hle (hi.tmp t),g1,hi.sz,hi.dfr,fun b X hX=>?_,Env.le_trans hi.ext hle,fun B hB hno=>?_,by have:=hi.size;omega,?_,?_,?_⟩
  ·rcases IQ _ _ hX with ⟨_,e⟩ | h
   ·subst e;refine .inr fun B m e=>.inl ?_
    injection e with e _;have:=hi.size;omega
   ·exact hi.new _ _ h
  ·rw [hold B (ik hB hi.size)];exact hi.frame B hB hno
  ·rw [← hW1];exact hi.os
  ·rw [← hW1];exact hi.tape
  ·rw [← hW1];exact hi.output
 have hfr:∀ b,s.fr+1≤b→β1 b=none:=fun b hb=>by
  have hne:b≠s.fr:=dl
  rw [hβ1];simpa [Env.put,hne] using hf b dl
 have call:=ANb (fr:=s.fr+1) (L:=D+1) (bk:=s.fr) (r:=rec) (β0:=β1) (w0:=W1) hO hm hgfn hbody hfit (us:=.func (.yield (D+1)) #[] #[]::ps') hlen hrun hv hc hL1 hno (hwf.1 _ (gd _)) ⟨_,hyl⟩
  (fun t=>by subst hrec;exact G_ hle (hi.tmp t)) (ANa (Aq ⟨D+1,(0,0),hyl,rfl⟩) (lS (kC hle hps))) g1 hfr (fun b hb=>hwf.1 b dl)
 obtain ⟨b',hb'⟩:∃ b':Frame,b'={ b with roundOf:=none }:=⟨_,rfl⟩
 have e0:∀ a todo,b.at a todo=b'.atR a todo:=fun a todo=>by rw [hb'];rfl
 obtain ⟨e,w3,fr3,⟨u,β3,rfl,o,n3,b3,l3,f3,fH3⟩,hcomes,_,hleave⟩:=call (b'.atR { a with defers:=[coll D]++a.defers } (.inRangeFunc (D+1)::k)::cs)
 have hendl:=run_endLoop (P:=P) l3 (by subst hrec;cases left<;>simp [KK])
 have hL:w0.heap.size≤D+1:=by have:=hi.size;omega
 have i3:=i1.thenL o hL;have g4:=o.good.putObj (n3.off b3) (.loop { KK rec left with state:=.exhausted })
 have i4:Inv β0 w0 (W++g'.keys) ⟨kk,[coll D]⟩ β3 (Al s.T) y'.s.H { a with defers:=[coll D]++a.defers } (w3.putObj (D+1) (.loop { KK rec left with state:=.exhausted })) :=
  ⟨i3.tmp,g4,i3.sz,by show [coll D]++a.defers=_;rw [hi.dfr];rfl,i3.new,i3.ext,fun B hB hno=>by rw [World.putObj_heap_other dl];exact i3.frame B hB hno,by rw [World.putObj_size];exact i3.size,i3.os,i3.tape,i3.output⟩
 have hD4:(w3.putObj (D+1) (.loop { KK rec left with state:=.exhausted })).heap[D]? = some (.deferred (some [])):=by
  rw [World.putObj_heap_other dl,o.frame D dl dl fun k m _=>hoD k m];exact hD1
 have hoD3:∀ b m,β3 b≠some (.at_ D m):=fun b m h=>by
  rcases o.new _ _ h with h | h
  ·exact hoD b m h
  ·rcases h D m rfl with q | ⟨k,m',_,q⟩
   ·omega
   ·exact hoD k m' q
 obtain ⟨e',w',fr',q1,q2,q3,q4⟩:=hs D β3 _ _ (by have:=hi.size;omega) i4 f3 ⟨fH3,hwf.2⟩ hD4 hoD3 b cs hb hk
 refine ⟨e',w',fr',q1,?_,q3,q4⟩
 have hq1:gfn.name≠"runtime.NumGoroutine":=by simpa using hname
 have hev:a.eval (.tmp t)=.func (.func gf) #[] ⟨ps'⟩:=hclo
 have s1:=stepR_rangeFunc (P:=P) (b:=b') (a:=a) (k:=k) (cs:=cs) (w:=w) (g:=.tmp t) (ps:=ps) (assign:=assign) (body:=body) (l:=D+1) (mark:=[coll D]) (w₁:=W1) (w₁':=W1) (w₂:=W1) (d:={ target:=.fn (.func gf) ⟨ps'⟩,args:=#[.func (.yield (D+1)) #[] #[]] }) (f:=gf) (args:=⟨.func (.yield (D+1)) #[] #[]::ps'⟩)
  (by
   have:=run_enterLoop_outer (P:=P) (w:=w) b.fn a.tmps ps assign body
   rw [← hW1,hrec,hD,hb'];exact this) (by
   simp only [resolve,hev];simp [go_sem]) (by simp [invoke,callFunc,hgfn,hq1,hbody])
 rw [e0];refine Comes.of_steps (Steps.trans (.one s1) ?_) ?_ (m₁:=lone (b.at { a with defers:=[coll D]++a.defers } (ACI left k)) cs (w3.putObj (D+1) (.loop { KK rec left with state:=.exhausted })))
 ·refine Steps.trans (show Steps P _ _ from hcomes) (Steps.trans (.one (step_leave_returned hleave)) ?_)
  rw [finish_atR_inRangeFunc];refine .one ?_
  have:=stepR_endRangeFunc (P:=P) (b:=b') (a:={ a with defers:=[coll D]++a.defers }) (k:=k) (cs:=cs) hendl
  rw [this,e0];subst hrec;cases left<;>rfl
 ·exact q2
omit hO hm in
theorem Safe.coll {fn:Func} {v:Value} {todo:List Item} {D:Nat} {a:Act} {w:World} (hfn:P.funcs[f]? = some fn) (hd:a.defers=[coll D]) (hD:w.heap[D]? = some (.deferred (some []))) (hr:(results fn a.tmps).run P (w.putObj D (.deferred none))=.ok v (w.putObj D (.deferred none))) (hR:R (.returned v) (w.putObj D (.deferred none)))
  (ht:J' todo=true):Safe P f R todo a w:=by
 intro b cs hb hk;have key:∀ todo,∃ e w' fr,R e w'∧Comes P (lone ({ b.at a todo with mode:=.returning }:Frame) cs w) (lone fr cs w') e∧fr.fn=f∧fr.leaving P w' e:=fun todo=>by
  have h1:=step_collected (P:=P) (fr:={ b.at a todo with mode:=.returning }) (cs:=cs) (w:=w) (d:=Ex.coll D) (ds:=[]) (r:=D) (by simp) hd rfl (run_takeDeferred hD)
  exact ⟨.returned v,_,_,hR,Steps.one h1,hb,rfl,rfl,hk,fn,by show P.funcs[b.fn]? = some fn;rw [hb];exact hfn,hr⟩
 unfold J' at ht;split at ht
 ·obtain ⟨e,w',fr',q1,q2,q3,q4⟩:=key []
  exact ⟨e,w',fr',q1,.of_steps (.one step_end) q2,q3,q4⟩
 ·rename_i k;obtain ⟨e,w',fr',q1,q2,q3,q4⟩:=key (.code .ret::k)
  exact ⟨e,w',fr',q1,.of_steps (.one step_ret) q2,q3,q4⟩
 ·cases ht
theorem ANd {fn:Func} (hfn:P.funcs[f]? = some fn) {y z:ASt} {g:Log} {v:AV} {fuel D:Nat} {β:Env} {a:Act} {w:World} {W':List Nat} (hrun:KA P O none fuel y=some (g,z)) (hv:Ie P fn z=some v) (hc:AM g.conds) (hD:w0.heap.size≤D)
  (hi:Inv β0 w0 W' ⟨kk,[coll D]⟩ β (Al y.s.T) y.s.H a w) (hf:∀ b,y.s.fr≤b→β b=none) (hwf:BO ⟨kk,[coll D]⟩ y.s) (hd:w.heap[D]? = some (.deferred (some []))) (hno:∀ b m,β b≠some (.at_ D m)) (hR:∀ e w,A4 β0 w0 (W'++g.keys) v z.s.H e w→R e w):Safe P f R y.todo a w:=by
 refine V7 (β0:=β) (w0:=w) (W:=[]) hO hm hrun hc hwf (fun hw=>fun β1 a1 w1 i1 f1=>?_) β a w hi.root hf
 unfold Ie at hv;split at hv;case h_2=>cases hv
 rename_i l e1 e2;injection hv with hv;subst hv;have hd1:w1.heap[D]? = some (.deferred (some [])):=by rw [i1.frame D (Lh hd) fun k m _=>hno k m];exact hd
 have hoff:Za D β1 z.s.H:=fun b blk n _ h=>by
  rcases i1.new _ _ h with h | h
  ·exact hno b n h
  ·rcases h D n rfl with q | ⟨k,m',_,q⟩
   ·have:=Lh hd;omega
   ·exact hno k m' q
 have o:=(OutL.of_inv (L:=D) i1).put hoff (.deferred none)
 obtain ⟨u,hu,hr⟩:=ZK i1.tmp o.good e2;exact Safe.coll hfn i1.dfr hd1 hu (hR _ _ ⟨u,β1,rfl,hi.outL o hD hr⟩) e1
end
def ANe:List Item→Bool
 | .code (.rangeFunc ..)::_=>true
 | _=>false
def WI (P:Program) (O:Orc):Nat→ASt→Option (Log×ASt)
 | 0,_=>none
 | n+1,x=>match ANe x.todo with
  | true=>some (⟨[],[]⟩,x)
  | false=>match Mt P O x with
   | some (g,y)=>match WI P O n y with
    | some (g',z)=>some (⟨g.conds++g'.conds,cat g.keys g'.keys⟩,z)
    | none=>none
   | none=>none
section
variable {P:Program} {O:Orc} (hO:OrcOk P O) (hm:P.follows .mixedOrders=true) {f:FuncId} {β0:Env} {w0:World} {R:Ending→World→Prop} {n:Fz}
include hO hm
theorem ACJ:∀ {m:Nat} {W:List Nat} {x y:ASt} {g:Log},WI P O m x=some (g,y)→AM g.conds→BO n x.s→(BO n y.s→ASafe P f β0 w0 R n (W++g.keys) y)→ASafe P f β0 w0 R n W x
 | 0,_,_,_,_,h,_,_,_=>by simp [WI] at h
 | m+1,W,x,y,g,h,hc,hwf,hs=>by
  simp only [WI] at h;split at h
  ·injection h with h;injection h with h1 h2;subst h1;subst h2;have:=hs hwf
   simpa using this
  ·split at h
   ·rename_i g1 y1 hst;split at h
    ·rename_i g2 z hr;injection h with h;injection h with h1 h2;subst h1;subst h2;obtain ⟨c1,c2⟩:=Bo.1 hc;refine V5 hO hm hst c1 hwf (ACJ hr c2 (V6 hst hwf) fun hw=>?_)
     have:=hs hw
     simpa [CU] using this
    ·cases h
   ·cases h
end
def nS (P:Program) (O:Orc) (fn:Func) (fuel:Nat):ASpec:=fun args H fr path =>
 match fn.body with
 | some c=>match WI P O fuel ⟨[.code c],⟨F3 args fn.ntmps,H,fr,path⟩⟩ with
  | some (g1,x1)=>match nQ P O fuel x1 with
   | some (g2,x2)=>match KA P O none fuel x2 with
    | some (g3,y)=>match Ie P fn y,Nat.ble (F2 args) fn.ntmps&&(WF fr args&&(I' fr H&&(I' y.s.fr (E_ fr y.s.H)&&Nat.ble fr y.s.fr))) with
     | some v,true=>match Le fr H (E_ fr y.s.H) (cat (I_ v) (D4 fr (cat g1.keys (cat g2.keys g3.keys)))),QM fr H (E_ fr y.s.H) (cat (D4 fr (cat g1.keys (cat g2.keys g3.keys))) (QP fr (E_ fr y.s.H))) with
      | true,true=>some ⟨v,OY (E_ fr y.s.H) (cat (D4 fr (cat g1.keys (cat g2.keys g3.keys))) (QP fr (E_ fr y.s.H))),y.s.fr-fr,g1.conds++(g2.conds++g3.conds),y.s.path⟩
      | _,_=>none
     | _,_=>none
    | none=>none
   | none=>none
  | none=>none
 | none=>none
section
variable {P:Program} {O:Orc} (hO:OrcOk P O) (hm:P.follows .mixedOrders=true) {f:FuncId} {fn:Func}
include hO hm in
theorem ANf (hfn:P.funcs[f]? = some fn) (hb:fn.body.isSome=true) (hname:(fn.name=="runtime.NumGoroutine")=false) (fuel:Nat):A' P f (nS P O fn fuel):=by
 intro args H fr path r β us w hs hc ha hg hf;unfold nS at hs;split at hs;case h_2=>cases hs
 rename_i c hbody;split at hs;case h_2=>cases hs
 rename_i g1 x1 hrun1;split at hs;case h_2=>cases hs
 rename_i g2 x2 hrun2;split at hs;case h_2=>cases hs
 rename_i g3 y hrun3;split at hs;case h_2=>cases hs
 rename_i v hv hchk;split at hs;case h_2=>cases hs
 rename_i hov hob;injection hs with hs;subst hs;obtain ⟨c1',c2'⟩:=Bo.1 hc;obtain ⟨c2',c3'⟩:=Bo.1 c2';simp only [gi] at hchk;obtain ⟨c1,c2,c3,c4,c5⟩:=hchk;have hle:=f_ c5;have hlen:=f_ c1;rw [IZ] at hlen;have hg0:Good (KC β fr) H w:=by
  refine ⟨fun b blk hb=>?_,fun b b' B n n' h1 h2 h3 h4=>hg.inj b b' B n n' h1 h2 (KD h3).1 (KD h4).1,fun b B n h=>hg.lt b B n (KD h).1⟩
  obtain ⟨e1,e2⟩:=KF c3 hb;rcases hg.heap b blk hb with ⟨B,n,l,t,pre,ty,fz,q1,q2,q3⟩ | ⟨X,q1,q2,q3⟩ | ⟨B,l,es,q,q1,q2,q3,q4⟩
  ·exact .inl ⟨B,n,l,t,pre,ty,fz,by rw [Dw e1];exact q1,HB (fun k hk=>Dw (e2 k hk)) q2,q3⟩
  ·exact .inr (.inl ⟨X,by rw [Dw e1];exact q1,q2,HB (fun k hk=>Dw (e2 k hk)) q3⟩)
  ·exact .inr (.inr ⟨B,l,es,q,by rw [Dw e1];exact q1,q2,HB (fun k hk=>Dw (e2 k hk)) q3,q4⟩)
 have hwf:BO ⟨fn.ntmps,[]⟩ (⟨F3 args fn.ntmps,H,fr,path⟩:St):=by
  refine ⟨fun b hb=>?_,?_⟩
  ·cases hq:AF H b with
   | none=>rfl
   | some blk=>have:=(KF c3 hq).1;simp only at hb;omega
  ·simp only [F3,TE,IZ,ib,V8];omega
 obtain ⟨K,hK⟩:∃ K,K=cat g1.keys (cat g2.keys g3.keys):=⟨_,rfl⟩
 rw [← hK] at hov hob;have hsub:∀ k,k∈g1.keys++g2.keys++g3.keys→k∈K:=fun k h=>by rw [hK];simpa [CU,List.append_assoc] using h
 refine TF hfn hb hname (Calls.mono (V9 (R:=A4 (KC β fr) w (D4 fr K) v y.s.H) (fr:=fr) (path:=path) hfn hbody hlen ?_ (nL (fun k hk=>Dw hk) c2 ha) hg0 (fun b hb=>QJ hb)) ?_)
 ·refine ACJ (W:=[]) hO hm hrun1 c1' hwf fun hw1=>?_
  refine ANc hO hm hrun2 c2' hw1 fun D β1 a1 w1 hD i1 f1 hw2 d1 no1=>?_
  refine ANd hO hm hfn hrun3 hv c3' hD i1 f1 hw2 d1 no1 fun e w' ⟨u,β2,he,ho⟩=>⟨u,β2,he,?_⟩
  exact ho.old fun k m B hk h2=>ZQ (hsub k (by simpa using hk)) (KD h2).2
 ·rintro e w' ⟨u,β1,rfl,ho⟩
  obtain ⟨β',he⟩:=ACA (conds:=g1.conds++(g2.conds++g3.conds)) (path:=y.s.path) hg (ho.drop (fr:=fr)) ZX c4 hle hov hob fun b h1 h2=>hf b h1 (by show b<fr+(y.s.fr-fr);omega)
  rw [hK] at he;exact ⟨u,β',rfl,he⟩
def nT (P:Program) (O:Orc) (fn:Func) (fuel:Nat):ASpec:=fun args H fr path =>
 match A5 P O fn fuel args H fr path with
 | some r=>some r
 | none=>nS P O fn fuel args H fr path
include hO hm in
theorem ANg (hfn:P.funcs[f]? = some fn) (hb:fn.body.isSome=true) (hname:(fn.name=="runtime.NumGoroutine")=false) (fuel:Nat):A' P f (nT P O fn fuel):=by
 intro args H fr path r β us w hs hc ha hg hf;unfold nT at hs;split at hs
 ·rename_i r' hr;injection hs with hs;subst hs;exact A7 hO hm hfn hb hname fuel args H fr path _ β us w hr hc ha hg hf
 ·exact ANf hO hm hfn hb hname fuel args H fr path r β us w hs hc ha hg hf
end
end Go.Proofs.YtgnajdcdcblaoaaGreat.Ex
namespace Go.Proofs.YtgnajdcdcblaoaaGreat
open Ex
theorem AB:Tryz.prog.follows .mixedOrders=true:=dk
def S0:dt:=[(138,subSpec),(133,addSpec)]
def K0:List (TypeId×List (Option IntKind)):=[(40,List.replicate 6 (some .u64)),(42,List.replicate 12 (some .u64)++[none])]
set_option maxRecDepth 100000
set_option maxHeartbeats 4000000
theorem Ab:Lb dn K0:=⟨⟨dk,dk,dk⟩,⟨dk,dk,dk⟩,trivial⟩
theorem Ht:AT dn S0:=⟨AM' Tryz.func138 dk dk dk dk,AM9 Tryz.func133 dk dk dk dk,trivial⟩
theorem TR {β:Env} {A:AV} {u:Value} {c:Bool} {k:IntKind} {i:Int} (h:Bg (some A)=some (c,k,i)) (hr:AL β A u):AL β (.val false [.v (.int k i)]) u∧has k i:=by
 obtain ⟨rfl,h2⟩:=Cy (β:=β) (u:=u) (fun B hB=>by injection hB with hB;subst hB;exact hr) h
 exact ⟨Aq ⟨rfl,rfl,h2⟩,h2⟩
theorem WJ {β:Env} {k x:Nat} (h:x<2^(64*k)):AO β [.num k x] (words k x):=⟨_,[],⟨h,rfl⟩,rfl,by simp⟩
theorem Mx {β:Env} {k x:Nat} {a:List Ch} {u:Value} (h:C0 k a=some x) (hr:AL β (.val true a) u) :
  AL β (.val true [.num k x]) u∧AL β (.val true (Mk k x)) u∧x<2^(64*k):=by
 obtain ⟨l,h1,rfl⟩:=hr;obtain ⟨h2,h3⟩:=G' h h1;subst h2;exact ⟨⟨_,WJ h3,rfl⟩,⟨_,AL0 k x,rfl⟩,h3⟩
theorem ANh {β:Env} {k x:Nat} {u:Value} (hx:x<2^(64*k)) (hr:AL β (.val true (Mk k x)) u):AL β (.val true [.num k x]) u:=by
 obtain ⟨l,h1,rfl⟩:=hr;have:l=words k x:=by
  have gen:∀ (is:List Nat) (l:List Value),AO β (is.map fun i=>Ch.v (.int .u64 (AE x i))) l→l=is.map fun i=>Value.int .u64 (AE x i):=by
   intro is;induction is with
   | nil=>intro l h;exact h
   | cons i is ih =>
    intro l ⟨l1,l2,q1,q2,q3⟩
    rw [q3,q1.1,ih l2 q2];rfl
  exact gen _ _ h1
 subst this;exact ⟨_,WJ hx,rfl⟩
theorem ANi {k:Nat} {x:Nat}:C0 k [.num k x]=some x:=by simp [C0]
def JB (x y:Int):Int:=x*y / 18446744073709551616
def EY (x y:Int):Int:=x*y % 18446744073709551616
def QT (x:Int):Int:=bits .and .u64 x 4294967295
def Ig (x:Int):Int:=Int.fdiv x (2^32)
def mW (x:Int):Int:=IntKind.u64.wrap x
def Zb (x y:Int):Int:=mW (QT x*QT y)
def mt (x y:Int):Int:=mW (mW (Ig x*QT y)+Ig (Zb x y))
def WK (x y:Int):Int:=mW (QT (mt x y)+mW (QT x*Ig y))
theorem ANj (x y:Int):AK dn (AG S0 K0) Tryz.f142 [.val false [.v (.int .u64 x)],.val false [.v (.int .u64 y)]] [] 300 =
 some ([(decide (0≤(32:Int)∧0≤x),true),(decide (0≤(32:Int)∧0≤y),true),(decide (0≤(32:Int)∧0≤Zb x y),true),(decide (0≤(32:Int)∧0≤mt x y),true),(decide (0≤(32:Int)∧0≤WK x y),true)],
  .tup [(false,[.v (.int .u64 (mW (mW (mW (Ig x*Ig y)+Ig (mt x y))+Ig (WK x y))))]),(false,[.v (.int .u64 (mW (x*y)))])]):=dk
theorem WL {x:Int} (h0:0≤x) (h1:x<18446744073709551616):QT x=x % 4294967296:=by
 obtain ⟨X,rfl⟩:=ic h0;have h:=(bits_nat .u64 64 dm (fun n h0 h1=>by rw [IntKind.wrap_u64];omega) X 4294967295 dl dm).1
 show bits .and .u64 (X:Int) ((4294967295:Nat):Int)=_;rw [h];have e4:(4294967295:Nat)=2^32-1:=dm
 rw [e4,Nat.and_two_pow_sub_one_eq_mod];omega
theorem ANk (x:Int):Ig x=x / 4294967296:=by
 unfold Ig;rw [nb _ dm];rfl
theorem E' (x:Int):mW x=x % 18446744073709551616:=IntKind.wrap_u64 x
theorem ANl {x y:Int} (hx:0≤x∧x<18446744073709551616) (hy:0≤y∧y<18446744073709551616) :
  mW (mW (mW (Ig x*Ig y)+Ig (mt x y))+Ig (WK x y))=JB x y∧mW (x*y)=EY x y∧0≤Zb x y∧0≤mt x y∧0≤WK x y:=by
 have n0:∀ z,0≤mW z:=fun z=>by rw [E'];omega
 refine ⟨?_,E' _,n0 _,n0 _,n0 _⟩
 have hw:∀ z,0≤mW z∧mW z<18446744073709551616:=fun z=>by rw [E'];omega
 have lt:=WL (show 0≤mt x y from (hw _).1) (show mt x y<_ from (hw _).2)
 unfold JB WK;rw [lt,WL hx.1 hx.2];clear lt;unfold mt Zb;rw [WL hx.1 hx.2,WL hy.1 hy.2];simp only [ANk,E'];obtain ⟨a,ha⟩:∃ a,a=x / 4294967296:=⟨_,rfl⟩
 obtain ⟨b,hb⟩:∃ b,b=x % 4294967296:=⟨_,rfl⟩
 obtain ⟨c,hc⟩:∃ c,c=y / 4294967296:=⟨_,rfl⟩
 obtain ⟨d,hd⟩:∃ d,d=y % 4294967296:=⟨_,rfl⟩
 have a1:0≤a∧a≤4294967295:=dl
 have b1:0≤b∧b≤4294967295:=dl
 have c1:0≤c∧c≤4294967295:=dl
 have d1:0≤d∧d≤4294967295:=dl
 rw [← ha,← hb,← hc,← hd];have exy:x*y=(a*c)*18446744073709551616+(a*d+b*c)*4294967296+b*d:=by
  have e1:x=a*4294967296+b:=dl
  have e2:y=c*4294967296+d:=dl
  rw [e1,e2];simp only [Int.add_mul,m_];have q1:a*4294967296*(c*4294967296)=a*c*18446744073709551616:=by
   rw [pj,Int.mul_left_comm 4294967296 c,← pj];omega
  have q2:a*4294967296*d=a*d*4294967296:=Int.mul_right_comm _ _ _
  have q3:b*(c*4294967296)=b*c*4294967296:=(pj _ _ _).symm
  omega
 rw [exy];have pb:∀ {u v:Int},0≤u∧u≤4294967295→0≤v∧v≤4294967295→0≤u*v∧u*v≤18446744065119617025:=by
  intro u v hu hv;refine ⟨Int.mul_nonneg hu.1 hv.1,?_⟩
  have:=Int.mul_le_mul hu.2 hv.2 hv.1 dl
  omega
 have p1:=pb a1 c1;have p2:=pb a1 d1;have p3:=pb b1 c1;have p4:=pb b1 d1;generalize a*c=AC at *
 generalize a*d=AD at *
 generalize b*c=BC at *
 generalize b*d=BD at *
 clear ha hb hc hd exy a1 b1 c1 d1 pb hx hy n0 hw;omega
def nU:List AV→Option AV
 | [A,B]=>match Bg (some A),Bg (some B) with
  | some (_,.u64,x),some (_,.u64,y)=>some (.tup [(false,[.v (.int .u64 (JB x y))]),(false,[.v (.int .u64 (EY x y))])])
  | _,_=>none
 | _=>none
theorem ANm:∀ args v,nU args=some v→AS dn 142 args v:=by
 intro args v h us w ha;unfold nU at h;split at h;case h_2=>cases h
 rename_i A B;split at h;case h_2=>cases h
 rename_i c1 x c2 y hx hy;injection h with h;subst h;obtain ⟨u1,us1,r1,ha,rfl⟩:=ha;obtain ⟨u2,us2,r2,ha,rfl⟩:=ha;simp only [A_] at ha;subst ha;obtain ⟨q1,h1⟩:=TR hx r1;obtain ⟨q2,h2⟩:=TR hy r2;have b1:=D3 h1;have b2:=D3 h2;obtain ⟨m1,m2,m3,m4,m5⟩:=ANl b1 b2;have:=AN (AH Ht Ab) AB Tryz.func142 (ANj x y) (by simp [AM,b1.1,b2.1,m3,m4,m5]) rfl _ w ⟨u1,_,q1,⟨u2,_,q2,rfl,rfl⟩,rfl⟩
 rw [m1,m2] at this;exact this
def Pw:List Ch:=[.n .u64 0xb9feffffffffaaab,.n .u64 0x1eabfffeb153ffff,.n .u64 0x6730d2a0f6b0f624,.n .u64 0x64774b84f38512bf,.n .u64 0x4b1ba7b6434bacd7,.n .u64 0x1a0111ea397fe69a]
theorem ANn:AK dn (AG S0 K0) Tryz.f137 [] [] 100=some ([],.val true Pw):=dk
theorem ANo:AS dn 137 [] (.val true Pw):=AN (AH Ht Ab) AB Tryz.func137 ANn trivial rfl
def Zc:List AV→Option AV | []=>some (.val true Pw) | _=>none
def S1:dt:=(137,AZ Zc)::(142,AZ nU)::S0
theorem Zd:AT dn S1:=⟨Aa Tryz.func137 dk dk (fun args v h=>by
 unfold Zc at h;split at h
 ·injection h with h;subst h;exact ANo
 ·cases h),Aa Tryz.func142 dk dk ANm,Ht⟩
abbrev du:List Bool:=[false]
abbrev dw:List Bool:=[true]
open Ex
set_option maxRecDepth 100000
set_option maxHeartbeats 4000000
def pN:Nat:=0x1a0111ea397fe69a4b1ba7b6434bacd764774b84f38512bf6730d2a0f6b0f6241eabfffeb153ffffb9feffffffffaaab
def RR:Nat:=39402006196394479212279040100143613805079739270465446667948293404245721771497210611414266254884915640806627990306816
theorem C9:RR=2^(64*6):=dk
theorem ANp:2^(64*6)=2^64*(2^64*(2^64*(2^64*(2^64*2^64)))):=dk
theorem OZ (x:Nat):(x:Int)=AE x 0+18446744073709551616*((x / 2^64:Nat):Int):=by
 simp only [AE,je,ia,ig];omega
theorem Bm (x i:Nat):0≤AE x i∧AE x i<18446744073709551616:=D3 (Yq x i)
theorem ACK {x:Nat} (h:x<18446744073709551616):AE x 0=x:=by
 simp only [AE,je,ia,ig];omega
def F4 (a0 a1 a2 a3 a4 a5:Int):Int:=a0+18446744073709551616*(a1+18446744073709551616*(a2+18446744073709551616*(a3+18446744073709551616*(a4+18446744073709551616*a5))))
theorem QU {x:Nat} (h:x<2^(64*6)):(x:Int)=F4 (AE x 0) (AE x 1) (AE x 2) (AE x 3) (AE x 4) (AE x 5):=by
 rw [ANp] at h;have s0:=OZ x;have s1:=OZ (x / 2^64)
 have s2:=OZ (x / 2^64 / 2^64)
 have s3:=OZ (x / 2^64 / 2^64 / 2^64)
 have s4:=OZ (x / 2^64 / 2^64 / 2^64 / 2^64)
 have s5:AE (x / 2^64 / 2^64 / 2^64 / 2^64 / 2^64) 0=((x / 2^64 / 2^64 / 2^64 / 2^64 / 2^64:Nat):Int):=by
  apply ACK
  have l1:=jb h;have l2:=jb l1;have l3:=jb l2;have l4:=jb l3;exact jb l4
 simp only [F4,Ew];rw [s5];rw [← s4,← s3,← s2,← s1,← s0]
theorem ANq {y:Nat} {d0 d1 d2 d3 d4 d5:Int} (b0:0≤d0∧d0<18446744073709551616) (b1:0≤d1∧d1<18446744073709551616) (b2:0≤d2∧d2<18446744073709551616) (b3:0≤d3∧d3<18446744073709551616) (b4:0≤d4∧d4<18446744073709551616) (b5:0≤d5∧d5<18446744073709551616)
  (h:(y:Int)=F4 d0 d1 d2 d3 d4 d5):d0=AE y 0∧d1=AE y 1∧d2=AE y 2∧d3=AE y 3∧d4=AE y 4∧d5=AE y 5∧y<2^(64*6):=by
 unfold F4 at h;have step:∀ (z:Nat) (d K:Int),0≤d∧d<18446744073709551616→(z:Int)=d+18446744073709551616*K→d=AE z 0∧((z / 2^64:Nat):Int)=K:=by
  intro z d K hd hz;have:=OZ z
  have hb:=Bm z 0;omega
 obtain ⟨e0,k0⟩:=step y d0 _ b0 h;obtain ⟨e1,k1⟩:=step _ d1 _ b1 k0;obtain ⟨e2,k2⟩:=step _ d2 _ b2 k1;obtain ⟨e3,k3⟩:=step _ d3 _ b3 k2;obtain ⟨e4,k4⟩:=step _ d4 _ b4 k3;have e5:d5=AE (y / 2^64 / 2^64 / 2^64 / 2^64 / 2^64) 0:=by rw [ACK dl];exact k4.symm
 refine ⟨e0,by rw [e1,Ew],by rw [e2,Ew,Ew],by rw [e3,Ew,Ew,Ew],by rw [e4,Ew,Ew,Ew,Ew],by rw [e5,Ew,Ew,Ew,Ew,Ew],?_⟩
 rw [← C9];unfold RR;omega
def w6 (a0 a1 a2 a3 a4 a5:Int):List Ch:=[.v (.int .u64 a0),.v (.int .u64 a1),.v (.int .u64 a2),.v (.int .u64 a3),.v (.int .u64 a4),.v (.int .u64 a5)]
theorem nV (x:Nat):Mk 6 x=w6 (AE x 0) (AE x 1) (AE x 2) (AE x 3) (AE x 4) (AE x 5):=rfl
theorem Ze {β:Env} {u:Value} {y:Nat} {d0 d1 d2 d3 d4 d5:Int} (b0:0≤d0∧d0<18446744073709551616) (b1:0≤d1∧d1<18446744073709551616) (b2:0≤d2∧d2<18446744073709551616) (b3:0≤d3∧d3<18446744073709551616) (b4:0≤d4∧d4<18446744073709551616) (b5:0≤d5∧d5<18446744073709551616)
  (h:(y:Int)=F4 d0 d1 d2 d3 d4 d5) (hr:AL β (.val true (w6 d0 d1 d2 d3 d4 d5)) u):AL β (.val true [.num 6 y]) u:=by
 obtain ⟨e0,e1,e2,e3,e4,e5,hlt⟩:=ANq b0 b1 b2 b3 b4 b5 h;rw [e0,e1,e2,e3,e4,e5,← nV] at hr;exact ANh hlt hr
theorem My {a b c:Int} (ha:0≤a∧a<18446744073709551616) (hb:0≤b∧b<18446744073709551616) (hc:0≤c∧c≤1) :
  Da a b c=a-b-c+18446744073709551616*Hq a b c∧(0≤Da a b c∧Da a b c<18446744073709551616)∧(0≤Hq a b c∧Hq a b c≤1):=by
 unfold Da Hq;split<;>omega
theorem nW {a b c:Int} (ha:0≤a∧a<18446744073709551616) (hb:0≤b∧b<18446744073709551616) (hc:0≤c∧c≤1) :
  a+b+c=CF a b c+18446744073709551616*C' a b c∧(0≤CF a b c∧CF a b c<18446744073709551616)∧(0≤C' a b c∧C' a b c≤1):=by
 unfold CF C';omega
theorem DG {c:Int} (h:0≤c∧c≤1):CB c=true:=by simp [CB,h.1,h.2]
def Oi (a0:Int):Int:=Hq a0 0xb9feffffffffaaab 0
def Oj (a0 a1:Int):Int:=Hq a1 0x1eabfffeb153ffff (Oi a0)
def Ok (a0 a1 a2:Int):Int:=Hq a2 0x6730d2a0f6b0f624 (Oj a0 a1)
def Ol (a0 a1 a2 a3:Int):Int:=Hq a3 0x64774b84f38512bf (Ok a0 a1 a2)
def Om (a0 a1 a2 a3 a4:Int):Int:=Hq a4 0x4b1ba7b6434bacd7 (Ol a0 a1 a2 a3)
def JC (a0 a1 a2 a3 a4 a5:Int):Int:=Hq a5 0x1a0111ea397fe69a (Om a0 a1 a2 a3 a4)
def ANr (a0 a1 a2 a3 a4 a5:Int):List Ch:=w6 (Da a0 0xb9feffffffffaaab 0) (Da a1 0x1eabfffeb153ffff (Oi a0)) (Da a2 0x6730d2a0f6b0f624 (Oj a0 a1)) (Da a3 0x64774b84f38512bf (Ok a0 a1 a2)) (Da a4 0x4b1ba7b6434bacd7 (Ol a0 a1 a2 a3)) (Da a5 0x1a0111ea397fe69a (Om a0 a1 a2 a3 a4))
def nZ (a0 a1 a2 a3 a4:Int) (r:dr):dr:=(CB 0,true)::(CB (Oi a0),true)::(CB (Oj a0 a1),true)::(CB (Ok a0 a1 a2),true)::(CB (Ol a0 a1 a2 a3),true)::(CB (Om a0 a1 a2 a3 a4),true)::r
theorem ANs (a0 a1 a2 a3 a4 a5 h:Int):AK dn (AG S1 K0) Tryz.f134 [.val true (w6 a0 a1 a2 a3 a4 a5),.val false [.v (.int .u64 h)]] dw 300 =
 some (nZ a0 a1 a2 a3 a4 [(decide (h<JC a0 a1 a2 a3 a4 a5),true)],.val true (w6 a0 a1 a2 a3 a4 a5)):=dk
theorem ANt (a0 a1 a2 a3 a4 a5 h:Int):AK dn (AG S1 K0) Tryz.f134 [.val true (w6 a0 a1 a2 a3 a4 a5),.val false [.v (.int .u64 h)]] du 300 =
 some (nZ a0 a1 a2 a3 a4 [(decide (h<JC a0 a1 a2 a3 a4 a5),false)],.val true (ANr a0 a1 a2 a3 a4 a5)):=dk
def Ih (x h:Nat):Nat:=if x<pN∧h=0 then x else (x+(RR-pN)) % RR
def n5:List AV→Option AV
 | [.val true a,B]=>match C0 6 a,Bg (some B) with
  | some x,some (_,.u64,h)=>some (.val true [.num 6 (Ih x h.toNat)])
  | _,_=>none
 | _=>none
theorem ANu:∀ args v,n5 args=some v→AS dn 134 args v:=by
 intro args v h us w ha;unfold n5 at h;split at h;case h_2=>cases h
 rename_i a B;split at h;case h_2=>cases h
 rename_i x c h0 hx hy;injection h with h;subst h;obtain ⟨u1,us1,r1,ha,rfl⟩:=ha;obtain ⟨u2,us2,r2,ha,rfl⟩:=ha;simp only [A_] at ha;subst ha;obtain ⟨q0,q1,hlt⟩:=Mx hx r1;obtain ⟨q2,h2⟩:=TR hy r2;have bh:=D3 h2;rw [nV] at q1;have hX:=QU hlt;have w0:=Bm x 0;have w1:=Bm x 1;have w2:=Bm x 2;have w3:=Bm x 3;have w4:=Bm x 4;have w5:=Bm x 5;generalize AE x 0=a0 at *
 generalize AE x 1=a1 at *
 generalize AE x 2=a2 at *
 generalize AE x 3=a3 at *
 generalize AE x 4=a4 at *
 generalize AE x 5=a5 at *
 obtain ⟨d0,e0,f0⟩:=My (b:=0xb9feffffffffaaab) (c:=0) w0 dl dl
 obtain ⟨d1,e1,f1⟩:=My (b:=0x1eabfffeb153ffff) (c:=Oi a0) w1 dl f0
 obtain ⟨d2,e2,f2⟩:=My (b:=0x6730d2a0f6b0f624) (c:=Oj a0 a1) w2 dl f1
 obtain ⟨d3,e3,f3⟩:=My (b:=0x64774b84f38512bf) (c:=Ok a0 a1 a2) w3 dl f2
 obtain ⟨d4,e4,f4⟩:=My (b:=0x4b1ba7b6434bacd7) (c:=Ol a0 a1 a2 a3) w4 dl f3
 obtain ⟨d5,e5,f5⟩:=My (b:=0x1a0111ea397fe69a) (c:=Om a0 a1 a2 a3 a4) w5 dl f4
 have hconds:∀ r,AM r→AM (nZ a0 a1 a2 a3 a4 r):=fun r hr =>
  ⟨rfl,DG f0,DG f1,DG f2,DG f3,DG f4,hr⟩
 change Da a0 0xb9feffffffffaaab 0=a0-0xb9feffffffffaaab-0+18446744073709551616*Oi a0 at d0
 change Da a1 0x1eabfffeb153ffff (Oi a0)=a1-0x1eabfffeb153ffff-Oi a0+18446744073709551616*Oj a0 a1 at d1
 change Da a2 0x6730d2a0f6b0f624 (Oj a0 a1)=a2-0x6730d2a0f6b0f624-Oj a0 a1+18446744073709551616*Ok a0 a1 a2 at d2
 change Da a3 0x64774b84f38512bf (Ok a0 a1 a2)=a3-0x64774b84f38512bf-Ok a0 a1 a2+18446744073709551616*Ol a0 a1 a2 a3 at d3
 change Da a4 0x4b1ba7b6434bacd7 (Ol a0 a1 a2 a3)=a4-0x4b1ba7b6434bacd7-Ol a0 a1 a2 a3+18446744073709551616*Om a0 a1 a2 a3 a4 at d4
 change Da a5 0x1a0111ea397fe69a (Om a0 a1 a2 a3 a4)=a5-0x1a0111ea397fe69a-Om a0 a1 a2 a3 a4+18446744073709551616*JC a0 a1 a2 a3 a4 a5 at d5
 change 0≤JC a0 a1 a2 a3 a4 a5∧JC a0 a1 a2 a3 a4 a5≤1 at f5
 unfold F4 at hX;have hsum:F4 (Da a0 0xb9feffffffffaaab 0) (Da a1 0x1eabfffeb153ffff (Oi a0)) (Da a2 0x6730d2a0f6b0f624 (Oj a0 a1)) (Da a3 0x64774b84f38512bf (Ok a0 a1 a2)) (Da a4 0x4b1ba7b6434bacd7 (Ol a0 a1 a2 a3)) (Da a5 0x1a0111ea397fe69a (Om a0 a1 a2 a3 a4)) =
   (x:Int)-(pN:Nat)+(RR:Nat)*JC a0 a1 a2 a3 a4 a5:=by
  unfold F4 pN RR;omega
 have hbnd:0≤(x:Int)-(pN:Nat)+(RR:Nat)*JC a0 a1 a2 a3 a4 a5∧(x:Int)-(pN:Nat)+(RR:Nat)*JC a0 a1 a2 a3 a4 a5<(RR:Nat):=by
  rw [← hsum];unfold F4 RR;omega
 have hltR:x<RR:=by rw [C9];exact hlt
 by_cases hcase:x<pN∧h0.toNat=0
 ·have hb6:h0<JC a0 a1 a2 a3 a4 a5:=by
   unfold pN RR at hbnd;unfold pN at hcase;omega
  have:=AN (AH Zd Ab) AB Tryz.func134 (ANs a0 a1 a2 a3 a4 a5 h0) (hconds _ ⟨by simp [hb6],trivial⟩) rfl _ w ⟨u1,_,q1,⟨u2,_,q2,rfl,rfl⟩,rfl⟩
  refine Calls.mono this ?_
  rintro e w' ⟨u,rfl,hu,hbl⟩
  refine ⟨u,rfl,?_,hbl⟩
  unfold Ih;rw [fw hcase];exact Ze w0 w1 w2 w3 w4 w5 hX hu
 ·have hb6:¬ h0<JC a0 a1 a2 a3 a4 a5:=by
   unfold pN RR at hbnd;unfold pN at hcase;omega
  have:=AN (AH Zd Ab) AB Tryz.func134 (ANt a0 a1 a2 a3 a4 a5 h0) (hconds _ ⟨by simp [hb6],trivial⟩) rfl _ w ⟨u1,_,q1,⟨u2,_,q2,rfl,rfl⟩,rfl⟩
  refine Calls.mono this ?_
  rintro e w' ⟨u,rfl,hu,hbl⟩
  refine ⟨u,rfl,?_,hbl⟩
  unfold Ih;rw [fv hcase];refine Ze e0 e1 e2 e3 e4 e5 ?_ hu
  rw [hsum];have h01:JC a0 a1 a2 a3 a4 a5=0∨JC a0 a1 a2 a3 a4 a5=1:=dl
  unfold pN RR at *
  rcases h01 with h01 | h01<;>rw [h01] at hbnd ⊢<;>omega
def S2:dt:=(134,AZ n5)::S1
theorem Zf:AT dn S2:=⟨Aa Tryz.func134 dk dk ANu,Zd⟩
open Ex
def Bv (x:Option (dr×List Nat×ASt)):List Item:=match x with | some (_,_,y)=>y.todo | none=>[]
def HE:List Ch:=[.n .u64 0,.n .u64 0,.n .u64 0,.n .u64 0,.n .u64 0,.n .u64 0]
noncomputable def ANv:List Item:=Bv (AW dn (AG S2 K0) (some 0) 100 0 (some ([1,2],[0,1],2)) (Ah Tryz.f110 [.val true [.num 6 0]] [] 0 []))
noncomputable def TS (x:Nat) (path:List Bool):ASt:=⟨ANv,⟨[.any,.val false [.p 0 0],.val false [.p 1 0],.any,.any,.any,.any,.any,.any,.any,.any],
 [(0,some ⟨40,[.num 6 x],false⟩),(1,some ⟨40,HE,false⟩)],2,path⟩⟩
theorem ANw (x:Nat):AW dn (AG S2 K0) (some 0) 100 0 (some ([1,2],[0,1],2)) (Ah Tryz.f110 [.val true [.num 6 x]] [] 0 [])=some ([],[],TS x []):=dk
theorem ANx (x:Nat):AW dn (AG S2 K0) (some 0) 100 0 (some ([1,2],[0,1],2)) (TS x du)=some ([(decide (Ih x 0=x),false)],[],TS (Ih x 0) []):=dk
theorem ANy (x:Nat):EX dn (AG S2 K0) Tryz.f110 100 0 (TS x dw)=some ([(decide (Ih x 0=x),true)],[],.val true [.num 6 x]):=dk
theorem ACL (x:Nat) (p:List Bool):BO Tryz.f110.ntmps (TS x p).s:=AQ dk
theorem ACM {x:Nat} (h:x<pN):Ih x 0=x:=fw ⟨h,rfl⟩
theorem n8 {x:Nat} (h:pN≤x) (hx:x<RR):Ih x 0=x-pN:=by
 unfold Ih;rw [fv dl];have:pN≤RR:=dm
 rw [show x+(RR-pN)=(x-pN)+RR by omega,ma,ge dl]
theorem Cs:0<pN:=dm
theorem ANz (w0:World) (v:Nat):∀ (x:Nat),x<RR→x % pN=v→ASafe dn 110 By w0 (HC w0 (.val true [.num 6 v])) Tryz.f110.ntmps [] (TS x []):=by
 intro x;induction x using Nat.strongRecOn with
 | _ x ih =>
  intro hx hv;rcases gt x pN with hlt | hge
  ·rw [ge hlt] at hv;subst hv;exact Ae dw (Hr (AH Zf Ab) AB Tryz.func110 (ANy x) ⟨by simp [ACM hlt],trivial⟩ (ACL x _) (fun _ _=>rfl) rfl)
  ·have hp:=Cs;refine Ae du (Ag (AH Zf Ab) AB (ANx x) ⟨by simp [n8 hge hx];omega,trivial⟩ (ACL x _) (fun _ _=>rfl) ft fun _=>?_)
   rw [n8 hge hx];exact ih (x-pN) dl dl (by rw [← hv,← qh hge])
def Zg:List AV→Option AV
 | [.val true a]=>match C0 6 a with
  | some x=>some (.val true [.num 6 (x % pN)])
  | none=>none
 | _=>none
theorem ACN:∀ args v,Zg args=some v→AS dn 110 args v:=by
 intro args v h us w ha;unfold Zg at h;split at h;case h_2=>cases h
 rename_i a;split at h;case h_2=>cases h
 rename_i x hx;injection h with h;subst h;obtain ⟨u1,us1,r1,ha,rfl⟩:=ha;simp only [A_] at ha;subst ha;obtain ⟨q0,q1,hlt⟩:=Mx hx r1;rw [← C9] at hlt;exact Mu (args:=[.val true [.num 6 x]]) (path:=[]) Tryz.func110 dk dk (fun w0=>Ag (AH Zf Ab) AB (ANw x) trivial (AQ dk) (fun _ _=>rfl) ft fun _=>ANz w0 _ x hlt rfl) _ w ⟨u1,_,q0,rfl,rfl⟩
def S3:dt:=(110,AZ Zg)::S2
theorem Zh:AT dn S3:=⟨Aa Tryz.func110 dk dk ACN,Zf⟩
def Oo (d0 d1 d2 d3 d4 d5:Int):Nat:=d0.toNat+18446744073709551616*(d1.toNat+18446744073709551616*(d2.toNat+18446744073709551616*(d3.toNat+18446744073709551616*(d4.toNat+18446744073709551616*(d5.toNat+18446744073709551616*0)))))
def Bp (x y:Nat):Nat→Int
 | 0=>0
 | i+1=>C' (AE x i) (AE y i) (Bp x y i)
def Bz (x y:Nat):Nat→Int
 | 0=>0
 | i+1=>Hq (AE x i) (AE y i) (Bz x y i)
def EZ (x y i:Nat):Int:=CF (AE x i) (AE y i) (Bp x y i)
def Bq (x y i:Nat):Int:=Da (AE x i) (AE y i) (Bz x y i)
theorem FW (x y:Nat):∀ i,0≤Bp x y i∧Bp x y i≤1
 | 0=>by simp [Bp]
 | i+1=>(nW (Bm x i) (Bm y i) (FW x y i)).2.2
theorem FX (x y:Nat):∀ i,0≤Bz x y i∧Bz x y i≤1
 | 0=>by simp [Bz]
 | i+1=>(My (Bm x i) (Bm y i) (FX x y i)).2.2
theorem TT (x y i:Nat):0≤EZ x y i∧EZ x y i<18446744073709551616:=(nW (Bm x i) (Bm y i) (FW x y i)).2.1
theorem Ey (x y i:Nat):0≤Bq x y i∧Bq x y i<18446744073709551616:=(My (Bm x i) (Bm y i) (FX x y i)).2.1
theorem TU (x y i:Nat):AE x i+AE y i+Bp x y i=EZ x y i+18446744073709551616*Bp x y (i+1):=(nW (Bm x i) (Bm y i) (FW x y i)).1
theorem QV (x y i:Nat):Bq x y i=AE x i-AE y i-Bz x y i+18446744073709551616*Bz x y (i+1):=(My (Bm x i) (Bm y i) (FX x y i)).1
theorem AN0 {x y:Nat} (hx:x<RR) (hy:y<RR):F4 (EZ x y 0) (EZ x y 1) (EZ x y 2) (EZ x y 3) (EZ x y 4) (EZ x y 5)+(RR:Nat)*Bp x y 6=x+y:=by
 have h1:=QU (x:=x) (by rw [← C9];exact hx)
 have h2:=QU (x:=y) (by rw [← C9];exact hy)
 have e0:AE x 0+AE y 0+Bp x y 0=EZ x y 0+18446744073709551616*Bp x y 1:=TU x y 0
 have e1:AE x 1+AE y 1+Bp x y 1=EZ x y 1+18446744073709551616*Bp x y 2:=TU x y 1
 have e2:AE x 2+AE y 2+Bp x y 2=EZ x y 2+18446744073709551616*Bp x y 3:=TU x y 2
 have e3:AE x 3+AE y 3+Bp x y 3=EZ x y 3+18446744073709551616*Bp x y 4:=TU x y 3
 have e4:AE x 4+AE y 4+Bp x y 4=EZ x y 4+18446744073709551616*Bp x y 5:=TU x y 4
 have e5:AE x 5+AE y 5+Bp x y 5=EZ x y 5+18446744073709551616*Bp x y 6:=TU x y 5
 have z:Bp x y 0=0:=rfl
 unfold F4 at *
 unfold RR;omega
theorem AN1 {x y:Nat} (hx:x<RR) (hy:y<RR):F4 (Bq x y 0) (Bq x y 1) (Bq x y 2) (Bq x y 3) (Bq x y 4) (Bq x y 5)=x-y+(RR:Nat)*Bz x y 6:=by
 have h1:=QU (x:=x) (by rw [← C9];exact hx)
 have h2:=QU (x:=y) (by rw [← C9];exact hy)
 have e0:Bq x y 0=AE x 0-AE y 0-Bz x y 0+18446744073709551616*Bz x y 1:=QV x y 0
 have e1:Bq x y 1=AE x 1-AE y 1-Bz x y 1+18446744073709551616*Bz x y 2:=QV x y 1
 have e2:Bq x y 2=AE x 2-AE y 2-Bz x y 2+18446744073709551616*Bz x y 3:=QV x y 2
 have e3:Bq x y 3=AE x 3-AE y 3-Bz x y 3+18446744073709551616*Bz x y 4:=QV x y 3
 have e4:Bq x y 4=AE x 4-AE y 4-Bz x y 4+18446744073709551616*Bz x y 5:=QV x y 4
 have e5:Bq x y 5=AE x 5-AE y 5-Bz x y 5+18446744073709551616*Bz x y 6:=QV x y 5
 have z:Bz x y 0=0:=rfl
 unfold F4 at *
 unfold RR;omega
theorem Zi {d0 d1 d2 d3 d4 d5:Int} (b0:0≤d0∧d0<18446744073709551616) (b1:0≤d1∧d1<18446744073709551616) (b2:0≤d2∧d2<18446744073709551616) (b3:0≤d3∧d3<18446744073709551616) (b4:0≤d4∧d4<18446744073709551616) (b5:0≤d5∧d5<18446744073709551616) :
  (Oo d0 d1 d2 d3 d4 d5:Int)=F4 d0 d1 d2 d3 d4 d5∧Oo d0 d1 d2 d3 d4 d5<RR:=by
 unfold Oo F4 RR;omega
def Mz (x y:Nat):Nat:=Oo (EZ x y 0) (EZ x y 1) (EZ x y 2) (EZ x y 3) (EZ x y 4) (EZ x y 5)
def Zj (x y:Nat):Nat:=Oo (Bq x y 0) (Bq x y 1) (Bq x y 2) (Bq x y 3) (Bq x y 4) (Bq x y 5)
theorem n9 {x y:Nat} (hx:x<RR) (hy:y<RR):Mz x y+RR*(Bp x y 6).toNat=x+y∧Mz x y<RR:=by
 obtain ⟨h1,h2⟩:=Zi (TT x y 0) (TT x y 1) (TT x y 2) (TT x y 3) (TT x y 4) (TT x y 5)
 have h3:=AN0 hx hy;have h4:=FW x y 6;unfold Mz;refine ⟨?_,h2⟩
 rw [← h1] at h3;have h01:Bp x y 6=0∨Bp x y 6=1:=dl
 unfold RR at *
 rcases h01 with e | e<;>rw [e] at h3 ⊢<;>simp only [Int.toNat_zero,Int.toNat_one]<;>omega
theorem ACO {x y:Nat} (hx:x<RR) (hy:y<RR):Zj x y=(x+(RR-y)) % RR:=by
 obtain ⟨h1,h2⟩:=Zi (Ey x y 0) (Ey x y 1) (Ey x y 2) (Ey x y 3) (Ey x y 4) (Ey x y 5)
 have h3:=AN1 hx hy;have h4:=FX x y 6;unfold Zj;rw [← h1] at h3;have h01:Bz x y 6=0∨Bz x y 6=1:=dl
 unfold RR at *
 rcases h01 with e | e<;>rw [e] at h3<;>omega
theorem AN2 {x y:Nat} (hx:x<RR) (hy:y<RR):(((x+(RR-y)) % RR:Nat):Int)=F4 (Bq x y 0) (Bq x y 1) (Bq x y 2) (Bq x y 3) (Bq x y 4) (Bq x y 5):=by
 rw [← ACO hx hy];exact (Zi (Ey x y 0) (Ey x y 1) (Ey x y 2) (Ey x y 3) (Ey x y 4) (Ey x y 5)).1
theorem HF (x:Nat):x % pN<pN:=gu _ Cs
theorem QW:pN+pN<RR:=dm
theorem oA {x:Nat} (h:x<pN+pN):Ih x 0=x % pN:=by
 rcases gt x pN with h1 | h1
 ·rw [ACM h1,ge h1]
 ·have:=QW
  rw [n8 h1 dl,qh h1,ge dl]
theorem AN3 (x y:Nat):AK dn (AG S3 K0) Tryz.f61 [.val true [.num 6 x],.val true [.num 6 y]] [] 300 =
 some ([(CB 0,true),(CB (Bp (x % pN) (y % pN) 1),true),(CB (Bp (x % pN) (y % pN) 2),true),(CB (Bp (x % pN) (y % pN) 3),true),(CB (Bp (x % pN) (y % pN) 4),true),(CB (Bp (x % pN) (y % pN) 5),true)],
  .val true [.num 6 (Ih (Mz (x % pN) (y % pN)) (Bp (x % pN) (y % pN) 6).toNat)]):=dk
theorem AN4 (x:Nat):AK dn (AG S3 K0) Tryz.f63 [.val true [.num 6 x]] [] 300 =
 some ([(CB 0,true),(CB (Bz pN (x % pN) 1),true),(CB (Bz pN (x % pN) 2),true),(CB (Bz pN (x % pN) 3),true),(CB (Bz pN (x % pN) 4),true),(CB (Bz pN (x % pN) 5),true)],
  .val true [.num 6 (Ih (Zj pN (x % pN)) 0)]):=dk
theorem AN5 (x y:Nat):AK dn (AG S3 K0) Tryz.f153 [.val true [.num 6 x],.val true [.num 6 y]] [] 300 =
 some ([(CB 0,true),(CB (Bz x y 1),true),(CB (Bz x y 2),true),(CB (Bz x y 3),true),(CB (Bz x y 4),true),(CB (Bz x y 5),true)],
  .val true (w6 (Bq x y 0) (Bq x y 1) (Bq x y 2) (Bq x y 3) (Bq x y 4) (Bq x y 5))):=dk
def D0 (x y:Nat):Nat:=(x % pN+y % pN) % pN
def Ct (x:Nat):Nat:=(pN-x % pN) % pN
def EB (x y:Nat):Nat:=D0 x (Ct y)
def FY (g:Nat→AV):List AV→Option AV
 | [.val true a]=>match C0 6 a with
  | some x=>some (g x)
  | none=>none
 | _=>none
def KL (g:Nat→Nat→AV):List AV→Option AV
 | [.val true a,.val true b]=>match C0 6 a,C0 6 b with
  | some x,some y=>some (g x y)
  | _,_=>none
 | _=>none
theorem GR {f:FuncId} {g:Nat→AV} (h:∀ x,x<RR→AS dn f [.val true [.num 6 x]] (g x)):∀ args v,FY g args=some v→AS dn f args v:=by
 intro args v hs us w ha;unfold FY at hs;split at hs;case h_2=>cases hs
 rename_i a;split at hs;case h_2=>cases hs
 rename_i x hx;injection hs with hs;subst hs;obtain ⟨u1,us1,r1,ha,rfl⟩:=ha;simp only [A_] at ha;subst ha;obtain ⟨q0,q1,hlt⟩:=Mx hx r1;exact h x (by rw [C9];exact hlt) _ w ⟨u1,_,q0,rfl,rfl⟩
theorem M0 {f:FuncId} {g:Nat→Nat→AV} (h:∀ x y,x<RR→y<RR→AS dn f [.val true [.num 6 x],.val true [.num 6 y]] (g x y)):∀ args v,KL g args=some v→AS dn f args v:=by
 intro args v hs us w ha;unfold KL at hs;split at hs;case h_2=>cases hs
 rename_i a b;split at hs;case h_2=>cases hs
 rename_i x y hx hy;injection hs with hs;subst hs;obtain ⟨u1,us1,r1,ha,rfl⟩:=ha;obtain ⟨u2,us2,r2,ha,rfl⟩:=ha;simp only [A_] at ha;subst ha;obtain ⟨q0,q1,hlt⟩:=Mx hx r1;obtain ⟨p0,p1,hlt2⟩:=Mx hy r2;exact h x y (by rw [C9];exact hlt) (by rw [C9];exact hlt2) _ w ⟨u1,_,q0,⟨u2,_,p0,rfl,rfl⟩,rfl⟩
theorem KM (x:Nat):x % pN<RR:=jy (HF x) dm
theorem ACP (x y:Nat):AS dn 61 [.val true [.num 6 x],.val true [.num 6 y]] (.val true [.num 6 (D0 x y)]):=by
 have h:=AN (AH Zh Ab) AB Tryz.func61 (AN3 x y) ⟨rfl,DG (FW _ _ _),DG (FW _ _ _),DG (FW _ _ _),DG (FW _ _ _),DG (FW _ _ _),trivial⟩ rfl
 obtain ⟨h1,h2⟩:=n9 (KM x) (KM y)
 have h3:=HF x;have h4:=HF y;have h5:=QW;have hc:(Bp (x % pN) (y % pN) 6).toNat=0:=by
  have:=FW (x % pN) (y % pN) 6
  have h01:(Bp (x % pN) (y % pN) 6).toNat=0∨(Bp (x % pN) (y % pN) 6).toNat=1:=dl
  rcases h01 with e | e
  ·exact e
  ·rw [e] at h1;omega
 rw [hc] at h h1;rw [oA dl] at h;have:Mz (x % pN) (y % pN)=x % pN+y % pN:=dl
 rw [this] at h;exact h
theorem ACQ (x:Nat):AS dn 63 [.val true [.num 6 x]] (.val true [.num 6 (Ct x)]):=by
 have h:=AN (AH Zh Ab) AB Tryz.func63 (AN4 x) ⟨rfl,DG (FX _ _ _),DG (FX _ _ _),DG (FX _ _ _),DG (FX _ _ _),DG (FX _ _ _),trivial⟩ rfl
 have h3:=HF x;have h5:=QW;have:Zj pN (x % pN)=pN-x % pN:=by
  rw [ACO dl dl,show pN+(RR-x % pN)=(pN-x % pN)+RR by omega,ma,ge dl]
 rw [this,oA dl] at h;exact h
theorem AN6 (x y:Nat) (hx:x<RR) (hy:y<RR):AS dn 153 [.val true [.num 6 x],.val true [.num 6 y]] (.val true [.num 6 ((x+(RR-y)) % RR)]):=by
 intro us w ha;have h:=AN (AH Zh Ab) AB Tryz.func153 (AN5 x y) ⟨rfl,DG (FX _ _ _),DG (FX _ _ _),DG (FX _ _ _),DG (FX _ _ _),DG (FX _ _ _),trivial⟩ rfl us w ha
 refine Calls.mono h ?_
 rintro e w' ⟨u,rfl,hu,hbl⟩
 exact ⟨u,rfl,Ze (Ey x y 0) (Ey x y 1) (Ey x y 2) (Ey x y 3) (Ey x y 4) (Ey x y 5) (AN2 hx hy) hu,hbl⟩
def AY (x:Nat):AV:=.val true [.num 6 x]
def S4:dt:=(61,AZ (KL fun x y=>AY (D0 x y)))::(63,AZ (FY fun x=>AY (Ct x)))::(153,AZ (KL fun x y=>AY ((x+(RR-y)) % RR)))::S3
theorem ACR:AT dn S4:=⟨Aa Tryz.func61 dk dk (M0 fun x y _ _=>ACP x y),Aa Tryz.func63 dk dk (GR fun x _=>ACQ x),Aa Tryz.func153 dk dk (M0 AN6),Zh⟩
theorem AN7 (x y:Nat):AK dn (AG S4 K0) Tryz.f74 [AY x,AY y] [] 300=some ([],AY (EB x y)):=dk
theorem ACS (x y:Nat):AS dn 74 [AY x,AY y] (AY (EB x y)):=AN (AH ACR Ab) AB Tryz.func74 (AN7 x y) trivial rfl
def S5:dt:=(74,AZ (KL fun x y=>AY (EB x y)))::S4
theorem Zk:AT dn S5:=⟨Aa Tryz.func74 dk dk (M0 fun x y _ _=>ACS x y),ACR⟩
end Go.Proofs.YtgnajdcdcblaoaaGreat
