/- Part 2 of the proof. -/
import Derived.Test.YtgnajdcdcblaoaaGreatPA
import Derived.Below
import Derived.ProofKit
import Derived.OpenShut
import Derived.ChangeOld
import Derived.SizedLaws
import Derived.Recover
import Derived.RangeFuncRecord
import Derived.OrdersIn
import Derived.Test.YtgnajdcdcblaoaaGreatProg
set_option maxRecDepth 100000
set_option maxHeartbeats 4000000
open Go.Proofs.Tryz renaming prog→dm
open Go.Proofs.Tryz
namespace Go.Proofs.YtgnajdcdcblaoaaGreat.Ex
structure Rec where
 dst:Option Nat
 r:R
 ts:List Nat
 ks:List Nat
 fr:Nat
structure St where
 T:List AV
 H:Heap
 fr:Nat
 gv:List Bool
structure Fz where
 n:Nat
 D:List Deferred
instance:Coe Nat Fz:=⟨fun n=>⟨n,[]⟩⟩
structure Inv (β0:Env) (w0:World) (W:List Nat) (n:Fz) (β:Env) (τ:Nat→AV) (H:Heap) (a:Act) (w:World):Prop where
 tmp:∀ t,AN β (τ t) (a.tmps.getD t undef)
 good:Good β H w
 sz:a.tmps.size=n.n
 dfr:a.defers=n.D
 new:∀ b X,β b=some X→β0 b=some X∨∀ B m,X=.at_ B m→w0.heap.size≤B∨∃ k m',k∈W∧β0 k=some (.at_ B m')
 ext:Env.le β0 β
 frame:∀ B,B<w0.heap.size→(∀ k m,k∈W→β0 k≠some (.at_ B m))→w.heap[B]? = w0.heap[B]?
 size:w0.heap.size≤w.heap.size
 os:w.os=w0.os
 tape:w.tape=w0.tape
 output:w.output=w0.output
theorem Good.congr {β:Env} {H H':Heap} {w:World} (g:Good β H w) (h:∀ b,AG H b=AG H' b):Good β H' w where
 heap:=fun b blk hb=>g.heap b blk (by rw [h];exact hb)
 inj:=fun b b' B n n' h1 h2=>g.inj b b' B n n' (by rw [ABy (h b)];exact h1) (by rw [h];exact h2)
 lt:=g.lt
theorem Inv.congr {β0:Env} {w0:World} {W:List Nat} {n:Fz} {β:Env} {τ τ':Nat→AV} {H H':Heap} {a:Act} {w:World} (i:Inv β0 w0 W n β τ H a w) (h1:∀ t,τ t=τ' t) (h2:∀ b,AG H b=AG H' b) :
  Inv β0 w0 W n β τ' H' a w :=
 { i with tmp:=fun t=>by rw [← h1];exact i.tmp t,good:=i.good.congr h2 }
theorem Inv.drew {β0:Env} {w0:World} {W:List Nat} {n:Fz} {β:Env} {τ:Nat→AV} {H:Heap} {a:Act} {w:World} (i:Inv β0 w0 W n β τ H a w):Inv β0 w0 W n β τ H a { w with drawn:=w.drawn+1 } :=
 { i with good:=⟨i.good.heap,i.good.inj,i.good.lt⟩ }
def Wo (τ:Nat→AV) (d:Option Nat) (v:AV):Nat→AV:=fun t=>match d with
 | some d=>match Nat.beq d t with | true=>v | false=>τ t
 | none=>τ t
theorem Inv.step {β0:Env} {w0:World} {W:List Nat} {n:Fz} {β β':Env} {τ:Nat→AV} {H:Heap} {a:Act} {w w':World} {fr:Nat} {r:R} {u:Value} {d:Option Nat} (i:Inv β0 w0 W n β τ H a w)
  (he:Eff β fr r w u w' β') (hg:Good β' (GI H r.upd) w') (hW:∀ k y,(k,y)∈r.upd→k∈W) (hd:∀ t,d=some t→t<n.n) :
  Inv β0 w0 W n β' (Wo τ d r.val) (GI H r.upd) (a.put d u) w' where
 tmp:=fun t=>by
  cases d with
  | none=>exact Fx he.ext (i.tmp t)
  | some d =>
   simp only [Wo,Act.put];have ik:=hd d rfl;split
   ·rename_i e;have:=Ar.1 e
    subst this;rw [lu,u_ (by rw [i.sz];exact ik)]
    exact he.val
   ·rename_i e;have:=I4 e
    rw [lu,sr this,← lu];exact Fx he.ext (i.tmp t)
 good:=hg
 sz:=by cases d<;>simp [Act.put,i.sz]
 dfr:=by cases d<;>simp [Act.put,i.dfr]
 new:=fun b X hb=>by
  rcases he.new b X hb with h | ⟨_,_,h3⟩
  ·exact i.new b X h
  ·refine .inr fun B m e=>?_
   rcases h3 B m e with h | ⟨k,m',hk,hk2⟩
   ·exact .inl (mb i.size h)
   ·rcases i.new k _ hk2 with h | h
    ·exact .inr ⟨k,m',hW _ _ hk,h⟩
    ·exact h B m' rfl
 ext:=Env.le_trans i.ext he.ext
 frame:=fun B hB iz=>by
  rw [he.frame B (kr hB i.size) ?_,i.frame B hB iz];intro k y m hky hk;rcases i.new k _ hk with h | h
  ·exact iz k m (hW _ _ hky) h
  ·rcases h B m rfl with h | ⟨k',m',h1,h2⟩
   ·omega
   ·exact iz k' m' h1 h2
 size:=mb i.size he.size
 os:=by rw [he.os,i.os]
 tape:=by rw [he.tape,i.tape]
 output:=by rw [he.output,i.output]
def Wp (T:List AV) (d:Option Nat) (v:AV):List AV:=match d with
 | some d=>Js T d v
 | none=>T
theorem Z4:∀ {T:List AV} {d t:Nat} {v:AV},d<T.length→Ap (Js T d v) t=match Nat.beq d t with | true=>v | false=>Ap T t
 | [],d,t,v,h=>by simp at h
 | x::r,0,0,v,_=>rfl
 | x::r,0,t+1,v,_=>by simp [Js,Ap,GH (a:=0) (b:=t+1) dk]
 | x::r,d+1,0,v,_=>by simp [Js,Ap,GH (a:=d+1) (b:=0) dk]
 | x::r,d+1,t+1,v,h=>by
  simp only [Js,Ap];rw [Z4 (T:=r) (d:=d) (t:=t) (v:=v) (by simpa using h)]
  by_cases e:d=t
  ·subst e;rfl
  ·rw [GH e,GH (a:=d+1) (b:=t+1) dk]
theorem Wq:∀ {T:List AV} {d:Nat} {v:AV},(Js T d v).length=T.length
 | [],_,_=>rfl
 | _::_,0,_=>rfl
 | _::r,d+1,v=>by simp [Js,Wq (T:=r)]
def Tv (d:Nat):List AV→Bool
 | []=>false
 | _::r=>match d with | 0=>true | d+1=>Tv d r
theorem Q7:∀ {T:List AV} {d:Nat},Tv d T=true→d<T.length
 | [],d,h=>by simp [Tv] at h
 | x::r,0,_=>by simp
 | x::r,d+1,h=>by simp only [Tv] at h;simp [Q7 h]
def ACZ (d:Option Nat) (T:List AV):Bool:=match d with
 | some d=>Tv d T
 | none=>true
theorem Z5 {T:List AV} {d:Option Nat} {v:AV} (h:ACZ d T=true) (t:Nat):Ap (Wp T d v) t=Wo (Ap T) d v t:=by
 cases d with
 | none=>rfl
 | some d=>exact Z4 (Q7 h)
theorem Wr {T:List AV} {d:Option Nat} {v:AV}:(Wp T d v).length=T.length:=by
 cases d with
 | none=>rfl
 | some d=>exact Wq
def D8 (P:Program) (O:gr) (ops:Array Oper):List Oper→Nat→St→Option (List Rec×St)
 | [],_,s=>some ([],s)
 | o::gy,i,s =>
  match K5 P O ops i o (NY ops o) (Ap s.T) s.H s.fr s.gv with
  | some e=>match ACZ o.dst s.T with
   | true=>match D8 P O ops gy (i+1) ⟨Wp s.T o.dst e.val,GI s.H e.upd,s.fr+e.nw,e.gv⟩ with
    | some (gz,s')=>some (⟨o.dst,e,NY ops o,I7 o (HG (Ap s.T) (NY ops o)) (NY ops o) s.H,s.fr⟩::gz,s')
    | none=>none
   | false=>none
  | none=>none
def I9:List Rec→dp
 | []=>[]
 | r::L=>r.r.conds++I9 L
def MQ:Heap→List Nat
 | []=>[]
 | (k,_)::r=>k::MQ r
def EK:List Rec→List Nat
 | []=>[]
 | r::L=>cat (MQ r.r.upd) (EK L)
theorem PE {u:Heap} {k:Nat}:k∈MQ u↔∃ y,(k,y)∈u:=by
 induction u with
 | nil=>simp [MQ]
 | cons e u ih =>
  obtain ⟨j,y⟩:=e;simp only [MQ,ju,ih,jz];constructor
  ·rintro (rfl | ⟨z,hz⟩)
   ·exact ⟨y,.inl ⟨rfl,rfl⟩⟩
   ·exact ⟨z,.inr hz⟩
  ·rintro ⟨z,⟨rfl,_⟩ | hz⟩
   ·exact .inl rfl
   ·exact .inr ⟨z,hz⟩
theorem Tw {P:Program} {O:gr} {ops:Array Oper} {i:Nat} {o:Oper} {ts:List Nat} {τ:Nat→AV} {H:Heap} {fr:Nat} {gv:List Bool} {r:R} (h:K5 P O ops i o ts τ H fr gv=some r) (hfH:∀ b,fr≤b→b<fr+r.nw→AG H b=none) :
  I8 H fr r.nw r.upd=true:=by
 unfold K5 at h;split at h
 ·injection h with h;subst h;rfl
 ·split at h
  ·rename_i r0 ha;split at h
   ·rename_i hu;unfold Wm at h;split at h
    ·split at h
     ·injection h with h;subst h;exact Wn hu hfH
     ·cases h
    ·injection h with h;subst h;exact Wn hu hfH
   ·cases h
  ·cases h
 ·cases h
theorem Ws {H:Heap} {fr nw:Nat} {u:Heap} (hu:I8 H fr nw u=true) (hf:∀ b,fr≤b→AG H b=none):∀ b,fr+nw≤b→AG (GI H u) b=none:=by
 intro b hb;obtain ⟨u1,u2⟩:=Tu hu;by_cases hk:∃ y,(b,y)∈u
 ·obtain ⟨y,hy⟩:=hk;rcases u1 _ _ hy with h | ⟨_,h,_⟩
  ·have h:=WW h;rw [hf b dk] at h;cases h
  ·omega
 ·rw [(PD u2).2 (fun y hy=>hk ⟨y,hy⟩)]
  exact hf b dk
section
variable {P:Program} {O:gr} (hO:gp P O) {ops:Array Oper} {β0:Env} {w0:World} {W:List Nat} {n:Fz}
include hO
omit hO in
theorem Z6:∀ {gy:List Oper} {i:Nat} {s s':St} {gz:List Rec},D8 P O ops gy i s=some (gz,s')→(∀ b,s.fr≤b→AG s.H b=none) →
  (∀ b,s'.fr≤b→AG s'.H b=none)∧s.fr≤s'.fr∧s'.T.length=s.T.length
 | [],i,s,s',gz,h,hf=>by simp only [D8,jt,jz] at h;obtain ⟨rfl,rfl⟩:=h;exact ⟨hf,jj _,rfl⟩
 | o::gy,i,s,s',gz,h,hf=>by
  simp only [D8] at h;split at h
  ·rename_i e he;split at h
   ·rename_i hd;split at h
    ·rename_i recs' s'' hr;injection h with h;injection h with h1 h2;subst h1;subst h2;have hu:=Tw he (fun b h1 _=>hf b h1)
     obtain ⟨j1,j2,j3⟩:=Z6 hr (Ws hu hf)
     exact ⟨j1,by simp at j2;omega,by rw [j3];exact Wr⟩
    ·cases h
   ·cases h
  ·cases h
theorem ACa {Q:Exit→Act→World→Prop}:∀ (gy:List Oper) (i:Nat) (s s':St) (gz:List Rec) (β:Env) (a:Act) (w:World),ops.toList.drop i=gy→D8 P O ops gy i s=some (gz,s')→AO (I9 gz) →
  Inv β0 w0 W n β (Ap s.T) s.H a w→(∀ b,s.fr≤b→β b=none)→(∀ b,s.fr≤b→AG s.H b=none)→s.T.length=n.n→(∀ k∈EK gz,k∈W) →
  (∀ β a w,Inv β0 w0 W n β (Ap s'.T) s'.H a w→(∀ b,s'.fr≤b→β b=none)→Q .normal a w)→wpOps P ops Q (List.range' i gy.length) a w
 | [],i,s,s',gz,β,a,w,_,h,_,hi,hf,_,_,_,hQ=>by
  simp only [D8,jt,jz] at h;obtain ⟨rfl,rfl⟩:=h;exact hQ β a w hi hf
 | o::gy,i,s,s',gz,β,a,w,hdrop,h,hc,hi,hf,hfH,hn,hW,hQ=>by
  simp only [D8] at h;split at h
  ·rename_i e he;split at h
   ·rename_i hd;split at h
    ·rename_i recs' s'' hr;injection h with h;injection h with h1 h2;subst h1;subst h2;obtain ⟨c1,c2⟩:=B5.1 hc;have ho:ops[i]? = some o:=by
      have:=jl (·[0]?) hdrop
      simpa using this
     have hdrop':ops.toList.drop (i+1)=gy:=by
      rw [← ni,hdrop];rfl
     have hu:=Tw he (fun b h1 _=>hfH b h1)
     rw [kp,sk,wpOps_cons];refine Z3 hO hi.tmp hi.good he c1 (fun b h1 _=>hf b h1) (fun b h1 _=>hfH b h1) ho fun u w' β' hE hG=>?_
     have hi':=hi.step hE hG (fun k y hk=>hW k (by simp only [EK,Cz,jp];exact .inl (PE.2 ⟨y,hk⟩))) (d:=o.dst) (fun t ht=>by
      rw [ht] at hd;have:=Q7 hd
      omega)
     refine ACa gy (i+1) _ _ recs' β' _ w' hdrop' hr c2 (hi'.congr (fun t=>(Z5 hd t).symm) (fun _=>rfl)) ?_ (Ws hu hfH) (by rw [← hn];exact Wr) (fun k hk=>hW k (by simp only [EK,Cz,jp];exact .inr hk)) hQ
     intro b hb;cases hβ:β' b with
     | none=>rfl
     | some X =>
      simp only at hb
      rcases hE.new b X hβ with h | ⟨_,h,_⟩
      ·rw [hf b dk] at h;cases h
      ·omega
    ·cases h
   ·cases h
  ·cases h
end
def FG {X:Type} (f:Nat→Option X) (s:Nat→X):Nat→X:=fun k=>match f k with | some x=>x | none=>s k
def DA {X:Type} (D:Nat→Bool):Nat→List (Nat→Option X)→(Nat→X)→(Nat→X)
 | _,[],s=>s
 | i,f::L,s=>DA D (i+1) L (match D i with | true=>FG f s | false=>s)
theorem PF {X:Type} {D D':Nat→Bool} {k:Nat}:∀ {L:List (Nat→Option X)} {i:Nat} {s s':Nat→X},(∀ j f,L[j]? = some f→D (i+j)≠D' (i+j)→f k=none)→s k=s' k→DA D i L s k=DA D' i L s' k
 | [],_,_,_,_,h=>h
 | f::L,i,s,s',h1,h2=>by
  simp only [DA];refine PF (fun j g hg iq=>h1 (j+1) g (by simpa using hg) (by rw [show i+(j+1)=i+1+j by omega];exact iq)) ?_
  have h0:=h1 0 f rfl;simp only [nl] at h0;cases hD:D i<;>cases hD':D' i<;>simp only
  ·exact h2
  ·have:=h0 (by rw [hD,hD'];simp);simp [FG,this,h2]
  ·have:=h0 (by rw [hD,hD'];simp);simp [FG,this,h2]
  ·simp only [FG];cases f k<;>simp [h2]
theorem oM {X:Type} {D D':Nat→Bool} {k:Nat}:∀ {L:List (Nat→Option X)} {i j0:Nat} {s:Nat→X} {f:Nat→Option X},L[j0]? = some f→D (i+j0)=false→D' (i+j0)=true→(∀ j,j≠j0→D' (i+j)=D (i+j)) →
  (∀ j g,L[j]? = some g→j0<j→D (i+j)=true→g k=none∨f k=none)→DA D' i L s k=FG f (DA D i L s) k
 | [],_,_,_,_,h,_,_,_,_=>by simp at h
 | g::L,i,0,s,f,h,hD,hD',hsame,iz=>by
  simp only [po,jt] at h;subst h;simp only [nl] at hD hD';simp only [DA,hD,hD'];cases hf:g k with
  | none =>
   simp only [FG,hf];refine PF (fun j q hq iq=>absurd ?_ iq) (by simp [FG,hf])
   have:=hsame (j+1) dk
   rwa [show i+(j+1)=i+1+j by omega] at this
  | some x =>
   simp only [FG,hf];have e1:DA D' (i+1) L (FG g s) k=DA (fun _=>false) (i+1) L (FG g s) k:=by
    refine PF (fun j q hq iq=>?_) rfl
    have h1:D' (i+1+j)=true:=by cases h:D' (i+1+j)<;>simp_all
    have h2:D (i+(j+1))=true:=by
     rw [← hsame (j+1) dk,show i+(j+1)=i+1+j by omega];exact h1
    rcases iz (j+1) q (by simpa using hq) dk h2 with h | h
    ·exact h
    ·rw [hf] at h;cases h
   have e2:∀ (L:List (Nat→Option X)) (i:Nat) (s:Nat→X),DA (fun _=>false) i L s=s:=by
    intro L;induction L with
    | nil=>intro i s;rfl
    | cons f L ih=>intro i s;simp only [DA];exact ih _ _
   have e3:FG g s k=x:=by simp [FG,hf]
   show DA D' (i+1) L (FG g s) k=x;rw [e1,e2,e3]
 | g::L,i,j0+1,s,f,h,hD,hD',hsame,iz=>by
  simp only [DA];have h0:=hsame 0 dk;simp only [nl] at h0;rw [h0];exact oM (L:=L) (i:=i+1) (j0:=j0) (by simpa using h) (by rw [show i+1+j0=i+(j0+1) by omega];exact hD) (by rw [show i+1+j0=i+(j0+1) by omega];exact hD')
   (fun j hj=>by rw [show i+1+j=i+(j+1) by omega];exact hsame (j+1) dk)
   (fun j q hq ik hd=>iz (j+1) q (by simpa using hq) dk (by rw [show i+(j+1)=i+1+j by omega];exact hd))
def I_:Heap→Nat→Option (Option gt)
 | [],_=>none
 | (k,y)::r,b=>match Nat.beq k b with | true=>some y | false=>I_ r b
theorem Wt {b:Nat}:∀ {u:Heap},(∀ y,I_ u b=some y→(b,y)∈u)∧(I_ u b=none→∀ y,(b,y) ∉ u)
 | []=>⟨by simp [I_],by simp⟩
 | (k,z)::r=>by
  simp only [I_];split
  ·rename_i h;have:=Ar.1 h;subst this
   exact ⟨fun y hy=>by injection hy with hy;simp [hy],fun h=>by cases h⟩
  ·rename_i h;have:=I4 h
   refine ⟨fun y hy=>by simp [(Wt (u:=r)).1 y hy],fun hn y hy=>?_⟩
   simp only [ju,jz] at hy;rcases hy with ⟨e,_⟩ | hy
   ·exact this e.symm
   ·exact (Wt (u:=r)).2 hn y hy
theorem oO {u H:Heap} (hu:∀ k y y',(k,y)∈u→(k,y')∈u→y=y') (b:Nat):AG (GI H u) b=FG (I_ u) (AG H) b:=by
 obtain ⟨h1,h2⟩:=PD (b:=b) (H:=H) hu
 simp only [FG];cases hl:I_ u b with
 | none=>exact h2 (Wt.2 hl)
 | some y=>exact h1 y (Wt.1 y hl)
def PG (d:Option Nat) (v:AV):Nat→Option AV:=fun t=>match d with
 | some d=>match Nat.beq d t with | true=>some v | false=>none
 | none=>none
theorem ACb (τ:Nat→AV) (d:Option Nat) (v:AV) (t:Nat):Wo τ d v t=FG (PG d v) τ t:=by
 unfold Wo FG PG;cases d with
 | none=>rfl
 | some d=>simp only;cases Nat.beq d t<;>rfl
def hD (D:Nat→Bool):Nat→List Rec→Heap→Heap
 | _,[],H=>H
 | i,r::L,H=>hD D (i+1) L (match D i with | true=>GI H r.r.upd | false=>H)
def LT (L:List Rec):List (Nat→Option AV):=L.map fun r=>PG r.dst r.r.val
def LH (L:List Rec):List (Nat→Option (Option gt)):=L.map fun r=>I_ r.r.upd
theorem Q8 {D:Nat→Bool}:∀ {L:List Rec} {i:Nat} {H:Heap},(∀ r∈L,∀ k y y',(k,y)∈r.r.upd→(k,y')∈r.r.upd→y=y')→∀ b,AG (hD D i L H) b=DA D i (LH L) (AG H) b
 | [],_,_,_,_=>rfl
 | r::L,i,H,hu,b=>by
  simp only [hD,LH,lf,DA];rw [Q8 (L:=L) (fun q hq=>hu q (by simp [hq]))]
  have hfun:AG (match D i with | true=>GI H r.r.upd | false=>H)=(match D i with | true=>FG (I_ r.r.upd) (AG H) | false=>AG H):=by
   funext x
   cases D i
   ·rfl
   ·exact oO (hu r (by simp)) x
  rw [hfun];rfl
theorem oP {P:Program} {O:gr} {ops:Array Oper}:∀ {gy:List Oper} {i:Nat} {s s':St} {gz:List Rec},D8 P O ops gy i s=some (gz,s')→(∀ b,s.fr≤b→AG s.H b=none) →
  gz.length=gy.length∧(∀ r∈gz,∀ k y y',(k,y)∈r.r.upd→(k,y')∈r.r.upd→y=y') ∧
  (∀ t,Ap s'.T t=DA (fun _=>true) 0 (LT gz) (Ap s.T) t)∧(∀ b,AG s'.H b=DA (fun _=>true) 0 (LH gz) (AG s.H) b) ∧
  (∀ (j:Nat) (r:Rec),gz[j]? = some r→∃ (o:Oper) (T:List AV) (H:Heap) (gv:List Bool),gy[j]? = some o∧K5 P O ops (i+j) o (NY ops o) (Ap T) H r.fr gv=some r.r∧r.dst=o.dst∧r.ts=NY ops o∧r.ks=I7 o (HG (Ap T) r.ts) r.ts H ∧
   (∀ t,Ap T t=DA (fun x=>Nat.blt x j) 0 (LT gz) (Ap s.T) t)∧(∀ b,AG H b=DA (fun x=>Nat.blt x j) 0 (LH gz) (AG s.H) b)∧(∀ t,o.dst=some t→t<s.T.length)∧s.fr≤r.fr∧r.fr+r.r.nw≤s'.fr∧(∀ b,r.fr≤b→AG H b=none)) ∧
  (∀ (j j':Nat) (r r':Rec),gz[j]? = some r→gz[j']? = some r'→j<j'→r.fr+r.r.nw≤r'.fr)
 | [],i,s,s',gz,h,hf=>by
  simp only [D8,jt,jz] at h;obtain ⟨rfl,rfl⟩:=h;exact ⟨rfl,by simp,fun _=>rfl,fun _=>rfl,by simp,by simp⟩
 | o::gy,i,s,s',gz,h,hf=>by
  simp only [D8] at h;split at h
  ·rename_i e he;split at h
   ·rename_i hd;split at h
    ·rename_i recs' s'' hr;injection h with h;injection h with h1 h2;subst h1;subst h2;have hu:=Tw he (fun b h1 _=>hf b h1)
     have hf':=Ws hu hf;obtain ⟨_,u2⟩:=Tu hu;obtain ⟨i1,i2,i3,i4,i5,i6⟩:=oP hr hf';have shift:∀ {X:Type} (D:Nat→Bool) (L:List (Nat→Option X)) (q:Nat) (x:Nat→X),DA D (q+1) L x=DA (fun y=>D (y+1)) q L x:=by
      intro X D L;induction L with
      | nil=>intro q x;rfl
      | cons f L ih=>intro q x;simp only [DA];rw [ih]
     have tT:∀ t,Ap (Wp s.T o.dst e.val) t=FG (PG o.dst e.val) (Ap s.T) t:=fun t=>by rw [Z5 hd,ACb]
     have tTf:Ap (Wp s.T o.dst e.val)=FG (PG o.dst e.val) (Ap s.T):=funext tT
     have tHf:AG (GI s.H e.upd)=FG (I_ e.upd) (AG s.H):=funext (oO u2)
     have frs:s.fr+e.nw≤s''.fr:=by
      have:∀ {gy:List Oper} {i:Nat} {s s':St} {gz:List Rec},D8 P O ops gy i s=some (gz,s')→s.fr≤s'.fr:=by
       intro gy;induction gy with
       | nil=>intro i s s' gz h;simp only [D8,jt,jz] at h;rw [← h.2];exact jj _
       | cons o gy ih =>
        intro i s s' gz h;simp only [D8] at h;split at h
        ·split at h
         ·split at h
          ·rename_i hq;injection h with h;injection h with h1 h2;subst h2;have:=ih hq
           simp at this;omega
          ·cases h
         ·cases h
        ·cases h
      exact this hr
     refine ⟨by simp [i1],?_,?_,?_,?_,?_⟩
     ·intro r hr';rcases ju.1 hr' with rfl | hr'
      ·exact u2
      ·exact i2 r hr'
     ·intro t;rw [i3];simp only [LT,lf,DA];rw [shift,tTf]
     ·intro b;rw [i4];simp only [LH,lf,DA];rw [shift,tHf]
     ·intro j r hj;cases j with
      | zero =>
       simp only [po,jt] at hj;subst hj;have e2:∀ {X:Type} (L:List (Nat→Option X)) (i:Nat) (s:Nat→X),DA (fun x=>Nat.blt x 0) i L s=s:=by
        intro X L;induction L with
        | nil=>intro i s;rfl
        | cons f L ih =>
         intro i s;simp only [DA];have:Nat.blt i 0=false:=by cases i<;>rfl
         rw [this];exact ih _ _
       refine ⟨o,s.T,s.H,s.gv,rfl,he,rfl,rfl,rfl,fun t=>by rw [e2],fun b=>by rw [e2],?_,jj _,frs,hf⟩
       intro t ht;rw [ht] at hd;exact Q7 hd
      | succ j =>
       obtain ⟨o',T,H,gv,q1,q2,q3,q4,q5,q6,q7,q8,q9,q10,q11⟩:=i5 j r (by simpa using hj)
       refine ⟨o',T,H,gv,by simpa using q1,by rw [show i+(j+1)=i+1+j by omega];exact q2,q3,q4,q5,?_,?_,?_,?_,q10,q11⟩
       ·intro t;rw [q6];simp only [LT,lf,DA];rw [shift,tTf];have:Nat.blt 0 (j+1)=true:=rfl
        rw [this];rfl
       ·intro b;rw [q7];simp only [LH,lf,DA];rw [shift,tHf];have:Nat.blt 0 (j+1)=true:=rfl
        rw [this];rfl
       ·intro t ht;have:=q8 t ht
        rwa [Wr] at this
       ·simp at q9;omega
     ·intro j j' r r' hj hj' ik;cases j' with
      | zero=>omega
      | succ j' =>
       cases j with
       | zero =>
        simp only [po,jt] at hj;subst hj;obtain ⟨_,_,_,_,_,_,_,_,_,_,_,_,q9,_⟩:=i5 j' r' (by simpa using hj')
        exact q9
       | succ j=>exact i6 j j' r r' (by simpa using hj) (by simpa using hj') dk
    ·cases h
   ·cases h
  ·cases h
def MR (acc:List Nat):List Edge→Nat
 | []=>0
 | e::r=>match Region.binds .any e with
  | true=>2^e.on ||| (acc.getD e.on 0 ||| MR acc r)
  | false=>MR acc r
theorem oQ {acc:List Nat} {k:Nat}:∀ {es:List Edge},(MR acc es).testBit k=true→∃ e∈es,Region.binds .any e=true∧(k=e.on∨(acc.getD e.on 0).testBit k=true)
 | [],h=>by simp [MR] at h
 | e::r,h=>by
  simp only [MR] at h;split at h
  ·rename_i hb;rw [Nat.testBit_or,Nat.testBit_or,rx,rx] at h;rcases h with h | h | h
   ·rw [Nat.testBit_two_pow] at h;exact ⟨e,by simp,hb,.inl (by simpa using (jx h).symm)⟩
   ·exact ⟨e,by simp,hb,.inr h⟩
   ·obtain ⟨e',h1,h2⟩:=oQ h;exact ⟨e',by simp [h1],h2⟩
  ·obtain ⟨e',h1,h2⟩:=oQ h;exact ⟨e',by simp [h1],h2⟩
def I':List Oper→List Nat→List Nat
 | [],acc=>acc
 | o::r,acc=>I' r (acc++[MR acc o.after.toList])
theorem oS:∀ {l:List Oper} {acc:List Nat} {j:Nat},j<acc.length→(I' l acc).getD j 0=acc.getD j 0
 | [],_,_,_=>rfl
 | o::r,acc,j,h=>by
  simp only [I'];rw [oS (by simp;omega)]
  simp only [j_];rw [nr h]
theorem ACc:∀ {l:List Oper} {acc:List Nat} {j k:Nat} {o:Oper},l[j]? = some o→((I' l acc).getD (acc.length+j) 0).testBit k=true →
  ∃ e∈o.after.toList,Region.binds .any e=true∧(k=e.on∨((I' l acc).getD e.on 0).testBit k=true)
 | [],_,_,_,_,h,_=>by simp at h
 | o::r,acc,0,k,o',h,hb=>by
  simp only [po,jt] at h;subst h;simp only [I',nl] at hb ⊢;rw [oS (by simp)] at hb
  have:(acc++[MR acc o.after.toList]).getD acc.length 0=MR acc o.after.toList:=by simp [List.getD_eq_getElem?_getD]
  rw [this] at hb;obtain ⟨e,h1,h2,h3⟩:=oQ hb;refine ⟨e,h1,h2,h3.imp id fun h=>?_⟩
  rcases jv e.on acc.length with ik | hge
  ·rw [oS (by simp;omega)]
   have:(acc++[MR acc o.after.toList]).getD e.on 0=acc.getD e.on 0:=by
    simp only [j_];rw [nr ik]
   rw [this];exact h
  ·have:acc.getD e.on 0=0:=by simp [List.getD_eq_getElem?_getD,List.getElem?_eq_none hge]
   rw [this] at h;simp at h
 | o::r,acc,j+1,k,o',h,hb=>by
  simp only [I'] at hb ⊢;have e1:acc.length+(j+1)=(acc++[MR acc o.after.toList]).length+j:=by simp;omega
  rw [e1] at hb;exact ACc (by simpa using h) hb
def Wu:List Edge→Nat→Bool
 | [],_=>true
 | e::r,i=>match Region.binds .any e with
  | true=>match Nat.blt e.on i with | true=>Wu r i | false=>false
  | false=>Wu r i
theorem oT:∀ {es:List Edge} {i:Nat},Wu es i=true→∀ e∈es,Region.binds .any e=true→e.on<i
 | [],_,_,e,h,_=>by cases h
 | e'::r,i,h,e,he,hb=>by
  simp only [Wu] at h;split at h
  ·split at h
   ·rename_i ik;rcases ju.1 he with rfl | he
    ·unfold Nat.blt at ik;exact jf ik
    ·exact oT h e he hb
   ·cases h
  ·rename_i hnb;rcases ju.1 he with rfl | he
   ·rw [hb] at hnb;cases hnb
   ·exact oT h e he hb
def Tx:List Oper→Nat→Bool
 | [],_=>true
 | o::r,i=>match Wu o.after.toList i with | true=>Tx r (i+1) | false=>false
theorem ACd:∀ {l:List Oper} {i j:Nat} {o:Oper},Tx l i=true→l[j]? = some o→∀ e∈o.after.toList,Region.binds .any e=true→e.on<i+j
 | [],_,_,_,_,h=>by simp at h
 | o::r,i,0,o',h,hj=>by
  simp only [po,jt] at hj;subst hj;simp only [Tx] at h;split at h
  ·rename_i he;exact oT he
  ·cases h
 | o::r,i,j+1,o',h,hj=>by
  simp only [Tx] at h;split at h
  ·have:=ACd h (by simpa using hj)
   intro e he hb;have:=this e he hb
   omega
  ·cases h
def NZ:List Nat→List Nat→Bool
 | [],_=>true
 | x::r,l=>match E0 x l with | true=>false | false=>NZ r l
theorem Q9:∀ {a b:List Nat},NZ a b=true→∀ x∈a,x ∉ b
 | [],_,_,x,h=>by cases h
 | y::r,b,h,x,hx=>by
  simp only [NZ] at h;split at h
  ·cases h
  ·rename_i hm;rcases ju.1 hx with rfl | hx
   ·intro hb;rw [Q5.2 hb] at hm;cases hm
   ·exact Q9 h x hx
def PH (d:Option Nat):List Nat:=match d with | some d=>[d] | none=>[]
def ACe (r s:Rec):Bool :=
 NZ (PH r.dst) s.ts&&(NZ (PH s.dst) r.ts&&(NZ (PH r.dst) (PH s.dst)&&(NZ (MQ r.r.upd) s.ks&&(NZ (MQ s.r.upd) r.ks&&NZ (MQ r.r.upd) (MQ s.r.upd)))))
def Z7 (l:List Nat) (fr nw:Nat):Bool:=match l with
 | []=>true
 | k::r=>match Nat.ble fr k&&Nat.blt k (fr+nw) with | true=>false | false=>Z7 r fr nw
theorem ACf:∀ {l:List Nat} {fr nw:Nat},Z7 l fr nw=true→∀ k∈l,fr≤k→¬ k<fr+nw
 | [],_,_,_,k,h,_=>by cases h
 | x::r,fr,nw,h,k,hk,h1=>by
  intro h2;simp only [Z7] at h;split at h
  ·cases h
  ·rename_i hb;rcases ju.1 hk with rfl | hk
   ·have e1:=jh h1;have e2:Nat.blt k (fr+nw)=true:=by unfold Nat.blt;exact jh h2
    rw [e1,e2] at hb;cases hb
   ·exact ACf h k hk h1 h2
def Ty (r s:Rec):Bool :=
 Z7 s.ks r.fr r.r.nw&&ACe r s
def bit (m i:Nat):Bool:=Nat.testBit m i
def PI (i:Nat) (r:Rec):List Rec→List Nat→Bool
 | [],_=>true
 | s::L,m::ms=>match bit m i with
  | true=>PI i r L ms
  | false=>match Ty r s with | true=>PI i r L ms | false=>false
 | _::_,[]=>false
def Q_:List Rec→List Nat→Nat→Bool
 | [],_,_=>true
 | r::L,_::ms,i=>match PI i r L ms with | true=>Q_ L ms (i+1) | false=>false
 | _::_,[],_=>false
theorem ACg {i:Nat} {r:Rec}:∀ {L:List Rec} {ms:List Nat} {j:Nat} {s:Rec},PI i r L ms=true→L[j]? = some s→(ms.getD j 0).testBit i=false→Ty r s=true
 | [],_,_,_,_,h,_=>by simp at h
 | s::L,[],j,s',h,_,_=>by simp [PI] at h
 | s::L,m::ms,0,s',h,hj,hb=>by
  simp only [po,jt] at hj;subst hj;simp only [PI,bit] at h;have hb':m.testBit i=false:=by simpa using hb
  rw [hb'] at h;simp only at h
  split at h
  ·assumption
  ·cases h
 | s::L,m::ms,j+1,s',h,hj,hb=>by
  simp only [PI] at h;have key:PI i r L ms=true:=by
   split at h
   ·exact h
   ·split at h
    ·exact h
    ·cases h
  exact ACg key (by simpa using hj) (by simpa using hb)
theorem oU:∀ {L:List Rec} {ms:List Nat} {i j j':Nat} {r s:Rec},Q_ L ms i=true→L[j]? = some r→L[j']? = some s→j<j'→(ms.getD j' 0).testBit (i+j)=false→Ty r s=true
 | [],_,_,_,_,_,_,_,h,_,_,_=>by simp at h
 | q::L,[],_,_,_,_,_,h,_,_,_,_=>by simp [Q_] at h
 | q::L,m::ms,i,0,j'+1,r,s,h,hj,hj',_,hb=>by
  simp only [po,jt] at hj;subst hj;simp only [Q_] at h;split at h
  ·rename_i h1;exact ACg h1 (by simpa using hj') (by simpa using hb)
  ·cases h
 | q::L,m::ms,i,j+1,j'+1,r,s,h,hj,hj',ik,hb=>by
  simp only [Q_] at h;split at h
  ·exact oU h (by simpa using hj) (by simpa using hj') dk (by rw [show i+1+j=i+(j+1) by omega];simpa using hb)
  ·cases h
 | q::L,m::ms,i,j,0,r,s,h,hj,hj',ik,hb=>dk
theorem Z8 {r s:Rec} (h:Ty r s=true) :
  (∀ d,r.dst=some d→d ∉ s.ts)∧(∀ d,s.dst=some d→d ∉ r.ts)∧(∀ d,r.dst=some d→s.dst≠some d)∧(∀ k y,(k,y)∈r.r.upd→k ∉ s.ks)∧(∀ k y,(k,y)∈s.r.upd→k ∉ r.ks)∧(∀ k y y',(k,y)∈r.r.upd→(k,y') ∉ s.r.upd):=by
 have h:=(jo.1 h).2
 unfold ACe at h;simp only [jm] at h;obtain ⟨h1,h2,h3,h4,h5,h6⟩:=h;refine ⟨fun d hd=>Q9 h1 d (by simp [PH,hd]),fun d hd=>Q9 h2 d (by simp [PH,hd]),fun d hd he=>Q9 h3 d (by simp [PH,hd]) (by simp [PH,he]),
  fun k y hk=>Q9 h4 k (PE.2 ⟨y,hk⟩),fun k y hk=>Q9 h5 k (PE.2 ⟨y,hk⟩),fun k y y' hk hk'=>Q9 h6 k (PE.2 ⟨y,hk⟩) (PE.2 ⟨y',hk'⟩)⟩
theorem oV {H:Heap} {b:Nat}:∀ {ks:List Nat},(AG (restrict H ks) b).isSome=true→b∈ks
 | [],h=>by simp [restrict,AG] at h
 | k::r,h=>by
  simp only [restrict] at h;split at h
  ·simp only [AG] at h;split at h
   ·rename_i e;rw [← Ar.1 e];simp
   ·exact nx _ (oV h)
  ·exact nx _ (oV h)
theorem ANn {P:Program} {O:gr} {ops:Array Oper} {i:Nat} {o:Oper} {ts:List Nat} {τ:Nat→AV} {H:Heap} {fr:Nat} {gv:List Bool} {r:R} (h:K5 P O ops i o ts τ H fr gv=some r) :
  ∀ k y,(k,y)∈r.upd→k∈I7 o (HG τ ts) ts H∨(fr≤k∧k<fr+r.nw):=by
 have key:∀ (r0:R),I8 (restrict H (I7 o (HG τ ts) ts H)) fr r0.nw r0.upd=true→∀ k y,(k,y)∈r0.upd→k∈I7 o (HG τ ts) ts H∨(fr≤k∧k<fr+r0.nw):=by
  intro r0 hu k y hk;rcases (Tu hu).1 k y hk with h | ⟨h1,h2,_⟩
  ·exact .inl (oV (WW h))
  ·exact .inr ⟨h1,h2⟩
 unfold K5 at h;split at h
 ·injection h with h;subst h;intro k y hk;cases hk
 ·split at h
  ·rename_i r0 ha;split at h
   ·rename_i hu;unfold Wm at h;split at h
    ·split at h
     ·injection h with h;subst h;exact key r0 hu
     ·cases h
    ·injection h with h;subst h;exact key r0 hu
   ·cases h
  ·cases h
 ·cases h
theorem oW {d:Option Nat} {v:AV} {t:Nat} (h:d≠some t):PG d v t=none:=by
 unfold PG;cases d with
 | none=>rfl
 | some d=>simp only;rw [GH (fun e=>h (by rw [e]))]
theorem Z9 {u:Heap} {b:Nat} (h:∀ y,(b,y) ∉ u):I_ u b=none:=by
 cases hl:I_ u b with
 | none=>rfl
 | some y=>exact absurd (Wt.1 y hl) (h y)
def left (listed:Array Bool) (m:Nat):Nat:=(List.range m).countP fun i=>!listed.getD i true
theorem ACh {α:Type} (p q:α→Bool):∀ (l:List α),(∀ x∈l,q x=true→p x=true)→l.countP q≤l.countP p
 | [],_=>jj _
 | x::l,h=>by
  have ih:=ACh p q l (fun y hy=>h y (by simp [hy]))
  rw [List.countP_cons,List.countP_cons];cases hq:q x with
  | false=>simp;cases p x<;>simp<;>omega
  | true=>rw [h x (by simp) hq];simp;exact ih
theorem ACi {α:Type} (p q:α→Bool):∀ (l:List α) (y:α),y∈l→p y=true→q y=false→(∀ x∈l,q x=true→p x=true)→l.countP q<l.countP p
 | x::l,y,hy,hp,hq,h=>by
  rw [List.countP_cons,List.countP_cons];rcases ju.1 hy with rfl | hy'
  ·have:=ACh p q l (fun z hz=>h z (by simp [hz]))
   rw [hp,hq];simp;omega
  ·have:=ACi p q l y hy' hp hq (fun z hz=>h z (by simp [hz]))
   cases hqx:q x with
   | false=>simp;cases p x<;>simp<;>omega
   | true=>rw [h x (by simp) hqx];simp;exact this
section
variable {P:Program} {O:gr} (hO:gp P O) {ops:Array Oper} {β0:Env} {w0:World} {W:List Nat} {n:Fz}
include hO
theorem ANo {Q:Exit→Act→World→Prop} {s s':St} {gz:List Rec} (ii:D8 P O ops ops.toList 0 s=some (gz,s')) (hchk:Q_ gz (I' ops.toList []) 0=true) (hedge:Tx ops.toList 0=true)
  (hc:AO (I9 gz)) (hfH:∀ b,s.fr≤b→AG s.H b=none) (hn:s.T.length=n.n) (hW:∀ k∈EK gz,k∈W)
  (hQ:∀ β a w,Inv β0 w0 W n β (Ap s'.T) s'.H a w→(∀ b,s'.fr≤b→β b=none)→Q .normal a w) :
  ∀ (ia:Nat) (listed:Array Bool) (β:Env) (a:Act) (w:World),listed.size=ops.size→left listed ops.size≤ia →
   Inv β0 w0 W n β (DA (fun i=>listed.getD i false) 0 (LT gz) (Ap s.T)) (hD (fun i=>listed.getD i false) 0 gz s.H) a w →
   (∀ b,s'.fr≤b→β b=none)→(∀ j r,gz[j]? = some r→listed.getD j false=false→∀ b,r.fr≤b→b<r.fr+r.r.nw→β b=none) →
   (∀ j,listed.getD j false=true→∀ k,((I' ops.toList []).getD j 0).testBit k=true→listed.getD k false=true) →
   wpAny P .any ops Q ia listed a w:=by
 obtain ⟨r1,r2,r3,r4,r5,r6⟩:=oP ii hfH;have gx:gz.length=ops.size:=by rw [r1];simp
 have done:∀ (listed:Array Bool),listed.size=ops.size→Region.ready .any ops listed=[]→∀ i,i<ops.size→listed.getD i false=true:=by
  intro listed hsz hr i;induction i using Nat.strongRecOn with
  | _ i ih =>
   intro hi;cases hl:listed.getD i false with
   | true=>rfl
   | false =>
    exfalso
    have ho:ops[i]? = some ops[i]:=tu hi
    have hmem:i∈Region.ready .any ops listed:=by
     unfold Region.ready;rw [List.mem_filter];refine ⟨lz.2 hi,?_⟩
     have hl':listed.getD i true=false:=by
      rw [lu] at hl ⊢;rw [tu dk] at hl ⊢;simpa using hl
     rw [ho];simp only [hl',ra,ld,Option.map_some,Option.getD_some];rw [Array.all_eq_true_iff_forall_mem];intro e he;cases hb:Region.binds .any e with
     | false=>rfl
     | true =>
      have:=ACd hedge (j:=i) (o:=ops[i]) (by simp) e (by simpa using he) hb
      rw [ih e.on dk dk];rfl
    rw [hr] at hmem;cases hmem
 have fin:∀ (listed:Array Bool) (β:Env) (a:Act) (w:World),listed.size=ops.size→Region.ready .any ops listed=[] →
   Inv β0 w0 W n β (DA (fun i=>listed.getD i false) 0 (LT gz) (Ap s.T)) (hD (fun i=>listed.getD i false) 0 gz s.H) a w→(∀ b,s'.fr≤b→β b=none)→Q .normal a w:=by
  intro listed β a w hsz hr hi hf;have hd:=done listed hsz hr;refine hQ β a w (hi.congr (fun t=>?_) (fun b=>?_)) hf
  ·rw [r3];refine PF (fun j f hj iq=>?_) rfl
   have:j<ops.size:=by
    have:=(tw.1 hj).1
    simp [LT] at this;omega
   rw [ka,hd j this] at iq;exact absurd rfl iq
  ·rw [r4,Q8 r2];refine PF (fun j f hj iq=>?_) rfl
   have:j<ops.size:=by
    have:=(tw.1 hj).1
    simp [LH] at this;omega
   rw [ka,hd j this] at iq;exact absurd rfl iq
 intro ia;induction ia with
 | zero =>
  intro listed β a w hsz hleft hi hf _ _;have hr:Region.ready .any ops listed=[]:=by
   apply List.eq_nil_iff_forall_not_mem.2
   intro i hm;unfold Region.ready at hm;rw [List.mem_filter] at hm;have h1:(!listed.getD i true)=true:=(jo.1 hm.2).1
   have:0<left listed ops.size:=List.countP_pos_iff.2 ⟨i,hm.1,h1⟩
   omega
  exact ⟨hr,fin listed β a w hsz hr hi hf⟩
 | succ ia ih =>
  intro listed β a w hsz hleft hi hf hfr hclosed;refine ⟨fun hr=>fin listed β a w hsz hr hi hf,fun i hmem=>?_⟩
  unfold Region.ready at hmem;rw [List.mem_filter] at hmem;obtain ⟨hrange,hready⟩:=hmem;have hilt:=lz.1 hrange;obtain ⟨hnl,hedges⟩:=jo.1 hready;have hnl':listed.getD i false=false:=by
   rw [lu] at hnl ⊢;rw [tu dk] at hnl ⊢;simpa using hnl
  have ho:ops[i]? = some ops[i]:=tu hilt
  rw [ho] at hedges;simp only [Option.map_some,Option.getD_some] at hedges;have hdeps:∀ e∈ops[i].after.toList,Region.binds .any e=true→listed.getD e.on false=true:=by
   intro e he hb;have:=Array.all_eq_true_iff_forall_mem.1 hedges e (by simpa using he)
   rw [hb] at this;simpa using this
  have hbits:∀ k,((I' ops.toList []).getD i 0).testBit k=true→listed.getD k false=true:=by
   intro k hk;obtain ⟨e,h1,h2,h3⟩:=ACc (l:=ops.toList) (acc:=[]) (j:=i) (k:=k) (o:=ops[i]) (by simp) (by simpa using hk)
   have:=hdeps e h1 h2
   rcases h3 with h3 | h3
   ·rw [h3];exact this
   ·exact hclosed e.on this k h3
  have hrec:gz[i]? = some gz[i]:=mq dk
  obtain ⟨o,T,H,gv,q1,q2,q3,q4,q5,q6,q7,q8,q9,q10,q11⟩:=r5 i _ hrec;have ho':o=ops[i]:=by
   rw [qu,ho] at q1;injection q1 with q1;exact q1.symm
  subst ho';rw [ka] at q2;have later:∀ j r,gz[j]? = some r→i<j→listed.getD j false=true→Ty gz[i] r=true:=by
   intro j r hj ik hl;refine oU hchk hrec hj ik ?_
   rw [ka];cases hb:((I' ops.toList []).getD j 0).testBit i with
   | false=>rfl
   | true=>rw [hclosed j hl i hb] at hnl';cases hnl'
  have earlier:∀ j r,gz[j]? = some r→j<i→listed.getD j false=false→Ty r gz[i]=true:=by
   intro j r hj ik hl;refine oU hchk hj hrec ik ?_
   rw [ka];cases hb:((I' ops.toList []).getD i 0).testBit j with
   | false=>rfl
   | true=>rw [hbits j hb] at hl;cases hl
  have blt:∀ j,Nat.blt j i=true↔j<i:=fun j=>by unfold Nat.blt;exact ⟨jf,jh⟩
  have side:∀ j r,gz[j]? = some r→(fun x=>Nat.blt x i) (0+j)≠(fun i=>listed.getD i false) (0+j)→(∀ t∈gz[i].ts,r.dst≠some t)∧(∀ k∈gz[i].ks,∀ y,(k,y) ∉ r.r.upd):=by
   intro j r hj iq;simp only [ka] at iq;rcases Nat.lt_trichotomy j i with ik | rfl | ik
   ·have hb:=(blt j).2 ik
    rw [hb] at iq;have hl:listed.getD j false=false:=by cases h:listed.getD j false with | false=>rfl | true=>rw [h] at iq;exact absurd rfl iq
    obtain ⟨p1,_,_,p4,_,_⟩:=Z8 (earlier j r hj ik hl)
    exact ⟨fun t ht hd=>p1 t hd ht,fun k hk y hy=>p4 k y hy hk⟩
   ·have hb:Nat.blt j j=false:=by cases h:Nat.blt j j with | false=>rfl | true=>exact absurd ((blt j).1 h) dk
    rw [hb,hnl'] at iq;exact absurd rfl iq
   ·have hb:Nat.blt j i=false:=by cases h:Nat.blt j i with | false=>rfl | true=>exact absurd ((blt j).1 h) dk
    rw [hb] at iq;have hl:listed.getD j false=true:=by cases h:listed.getD j false with | true=>rfl | false=>rw [h] at iq;exact absurd rfl iq
    obtain ⟨_,p2,_,_,p5,_⟩:=Z8 (later j r hj ik hl)
    exact ⟨fun t ht hd=>p2 t hd ht,fun k hk y hy=>p5 k y hy hk⟩
  have agT:∀ t∈NY ops ops[i],Ap T t=DA (fun i=>listed.getD i false) 0 (LT gz) (Ap s.T) t:=by
   intro t ht;rw [q6];refine PF (fun j f hj iq=>?_) rfl
   simp only [LT,pm,q_] at hj;obtain ⟨r,hr,rfl⟩:=hj;exact oW ((side j r hr iq).1 t (by rw [q4];exact ht))
  have agH:∀ k∈I7 ops[i] (HG (Ap T) (NY ops ops[i])) (NY ops ops[i]) H,AG H k=AG (hD (fun i=>listed.getD i false) 0 gz s.H) k:=by
   intro k hk;rw [q7,Q8 r2];refine PF (fun j f hj iq=>?_) rfl
   simp only [LH,pm,q_] at hj;obtain ⟨r,hr,rfl⟩:=hj;exact Z9 fun y=>(side j r hr iq).2 k (by rw [q5,q4];exact hk) y
  rw [ANm agT agH] at q2;have hcr:AO gz[i].r.conds:=by
   have:∀ (L:List Rec) (j:Nat) (r:Rec),AO (I9 L)→L[j]? = some r→AO r.r.conds:=by
    intro L;induction L with
    | nil=>intro j r _ h;simp at h
    | cons q L ihL =>
     intro j r hcL hj;obtain ⟨c1,c2⟩:=B5.1 hcL;cases j with
     | zero=>simp at hj;subst hj;exact c1
     | succ j=>exact ihL j r c2 (by simpa using hj)
   exact this gz i _ hc hrec
  have keysW:∀ k y,(k,y)∈gz[i].r.upd→k∈W:=by
   intro k y hk;refine hW k ?_
   have:∀ (L:List Rec) (r:Rec),r∈L→k∈MQ r.r.upd→k∈EK L:=by
    intro L;induction L with
    | nil=>intro r h;cases h
    | cons q L ihL =>
     intro r hr hkr;simp only [EK,Cz,jp];rcases ju.1 hr with rfl | hr
     ·exact .inl hkr
     ·exact .inr (ihL r hr hkr)
   exact this gz _ (List.getElem_mem _) (PE.2 ⟨y,hk⟩)
  have freeH:∀ b,gz[i].fr≤b→b<gz[i].fr+gz[i].r.nw→AG (hD (fun i=>listed.getD i false) 0 gz s.H) b=none:=by
   intro b h1 h2;have e:=q11 b h1;rw [q7] at e;rw [Q8 r2,← e];refine PF (fun j f hj iq=>?_) rfl
   simp only [LH,pm,q_] at hj;obtain ⟨r,hr,rfl⟩:=hj;refine Z9 fun y hy=>?_
   obtain ⟨o2,T2,H2,path2,w1,w2,_,w4,w5,_,_,_,w9,w10,w11⟩:=r5 j r hr;have hu2:=Tw w2 (fun b h1 _=>w11 b h1)
   simp only [ka] at iq;rcases Nat.lt_trichotomy j i with ik | rfl | ik
   ·have:=r6 j i r _ hr hrec ik
    rcases (Tu hu2).1 b y hy with hh | ⟨_,hh,_⟩
    ·have hh:=WW hh;rw [w11 b dk] at hh;cases hh
    ·omega
   ·have hb:Nat.blt j j=false:=by cases h:Nat.blt j j with | false=>rfl | true=>exact absurd ((blt j).1 h) dk
    rw [hb,hnl'] at iq;exact absurd rfl iq
   ·have hb:Nat.blt j i=false:=by cases h:Nat.blt j i with | false=>rfl | true=>exact absurd ((blt j).1 h) dk
    rw [hb] at iq;have hl:listed.getD j false=true:=by cases h:listed.getD j false with | true=>rfl | false=>rw [h] at iq;exact absurd rfl iq
    have hind:=later j r hr ik hl;have h6:=r6 i j _ r hrec hr ik;rcases ANn w2 b y hy with hh | ⟨hh,_⟩
    ·rw [← w4,← w5] at hh;exact ACf (jo.1 hind).1 b hh h1 h2
    ·omega
  refine Z3 hO hi.tmp hi.good q2 hcr (hfr i _ hrec hnl') freeH ho fun u w' β' hE hG=>?_
  have hset:∀ j,(listed.setIfInBounds i true).getD j false=if j=i then true else listed.getD j false:=by
   intro j;rw [lu,lu];by_cases hji:j=i
   ·subst hji;rw [u_ dk];simp
   ·rw [sr (Ne.symm hji),jd hji]
  have hst:=hi.step hE hG keysW (d:=ops[i].dst) (fun t ht=>by rw [← hn];exact q8 t ht)
  refine ih _ β' _ w' (by simpa using hsz) ?_ (hst.congr (fun t=>?_) (fun b=>?_)) ?_ ?_ ?_
  ·have ik:left (listed.setIfInBounds i true) ops.size<left listed ops.size:=by
    refine ACi _ _ _ i hrange hnl ?_ ?_
    ·rw [lu,u_ dk];rfl
    ·intro j _ hj;by_cases hji:j=i
     ·subst hji;exact hnl
     ·rw [lu,sr (Ne.symm hji),← lu] at hj;exact hj
   omega
  ·rw [ACb];have hf:(LT gz)[i]? = some (PG ops[i].dst gz[i].r.val):=by simp [LT,hrec,q3]
   refine (oM hf (by rw [ka];exact hnl') (by rw [ka,hset,je rfl]) (fun j hj=>by rw [ka,hset,jd hj]) ?_).symm
   intro j g hg ik hl;simp only [LT,pm,q_] at hg;obtain ⟨r,hr,rfl⟩:=hg;rw [ka] at hl;obtain ⟨_,_,p3,_⟩:=Z8 (later j r hr ik hl)
   by_cases hd:ops[i].dst=some t
   ·exact .inl (oW (p3 t (by rw [q3];exact hd)))
   ·exact .inr (oW hd)
  ·rw [oO (r2 _ (List.getElem_mem _)),Q8 r2];have hf:(LH gz)[i]? = some (I_ gz[i].r.upd):=by simp [LH,hrec]
   have hfun:AG (hD (fun i=>listed.getD i false) 0 gz s.H)=DA (fun i=>listed.getD i false) 0 (LH gz) (AG s.H):=funext (Q8 r2)
   rw [hfun];refine (oM hf (by rw [ka];exact hnl') (by rw [ka,hset,je rfl]) (fun j hj=>by rw [ka,hset,jd hj]) ?_).symm
   intro j g hg ik hl;simp only [LH,pm,q_] at hg;obtain ⟨r,hr,rfl⟩:=hg;rw [ka] at hl;obtain ⟨_,_,_,_,_,p6⟩:=Z8 (later j r hr ik hl)
   by_cases hk:∃ y,(b,y)∈gz[i].r.upd
   ·obtain ⟨y,hy⟩:=hk;exact .inl (Z9 fun y' hy'=>p6 b y y' hy hy')
   ·exact .inr (Z9 fun y hy=>hk ⟨y,hy⟩)
  ·intro b hb;cases hβ:β' b with
   | none=>rfl
   | some X =>
    rcases hE.new b X hβ with h | ⟨_,h,_⟩
    ·rw [hf b hb] at h;cases h
    ·omega
  ·intro j r hj hl b h1 h2;rw [hset] at hl;by_cases hji:j=i
   ·rw [je hji] at hl;cases hl
   ·rw [jd hji] at hl;cases hβ:β' b with
    | none=>rfl
    | some X =>
     rcases hE.new b X hβ with h | ⟨h3,h4,_⟩
     ·rw [hfr j r hj hl b h1 h2] at h;cases h
     ·rcases jv j i with ik | hge
      ·have:=r6 j i r _ hj hrec ik;omega
      ·have:=r6 i j _ r hrec hj dk;omega
  ·intro j hj k hk;rw [hset] at hj ⊢;by_cases hki:k=i
   ·rw [je hki]
   ·rw [jd hki];by_cases hji:j=i
    ·subst hji;exact hbits k hk
    ·rw [jd hji] at hj;exact hclosed j hj k hk
end
structure gq where
 todo:List Item
 s:St
structure Log where
 conds:dp
 keys:List Nat
def Z_ (P:Program) (O:gr) (ops:Array Oper) (draw:Bool) (s:St):Option (Log×St) :=
 match D8 P O ops ops.toList 0 s with
 | some (gz,s')=>match draw with
  | false=>some (⟨I9 gz,EK gz⟩,s')
  | true=>match Q_ gz (I' ops.toList []) 0,Tx ops.toList 0 with
   | true,true=>some (⟨I9 gz,EK gz⟩,s')
   | _,_=>none
 | none=>none
def Ng (P:Program) (O:gr) (x:gq):Option (Log×gq) :=
 match x.todo with
 | .code .skip::k=>some (⟨[],[]⟩,⟨k,x.s⟩)
 | .code (.label _)::k=>some (⟨[],[]⟩,⟨k,x.s⟩)
 | .inBlock _::k=>some (⟨[],[]⟩,⟨k,x.s⟩)
 | .inScope _::k=>some (⟨[],[]⟩,⟨k,x.s⟩)
 | .code (.seq a b)::k=>some (⟨[],[]⟩,⟨.code a::.code b::k,x.s⟩)
 | .code (.cond c a b)::k=>match B8 (Ap x.s.T) c with
  | some (.val false [.b true])=>some (⟨[],[]⟩,⟨.code a::k,x.s⟩)
  | some (.val false [.b false])=>some (⟨[],[]⟩,⟨.code b::k,x.s⟩)
  | some (.val false [.v (.bool z)])=>match x.s.gv with
   | true::gy=>some (⟨[(z,true)],[]⟩,⟨.code a::k,{ x.s with gv:=gy }⟩)
   | false::gy=>some (⟨[(z,false)],[]⟩,⟨.code b::k,{ x.s with gv:=gy }⟩)
   | []=>none
  | _=>none
 | .code (.block id c)::k=>some (⟨[],[]⟩,⟨.code c::.inBlock id::k,x.s⟩)
 | .code (.loop c)::k=>some (⟨[],[]⟩,⟨.code c::.inLoop c::k,x.s⟩)
 | .inLoop c::k=>some (⟨[],[]⟩,⟨.code c::.inLoop c::k,x.s⟩)
 | .code (.scope c)::k=>some (⟨[],[]⟩,⟨.code c::.inScope c::k,x.s⟩)
 | .code (.exit id)::k=>match exitTo id k with
  | some k'=>some (⟨[],[]⟩,⟨k',x.s⟩)
  | none=>none
 | .code (.goto l)::k=>match gotoIn l k with
  | some k'=>some (⟨[],[]⟩,⟨k',x.s⟩)
  | none=>none
 | .code (.region _ ops draw)::k=>match Z_ P O ops draw x.s with
  | some (g,s')=>some (g,⟨k,s'⟩)
  | none=>none
 | _=>none
def Safe (P:Program) (f:FuncId) (R:Ending→World→Prop) (todo:List Item) (a:Act) (w:World):Prop :=
 ∀ (b:Frame) (cs:List Frame),b.fn=f→b.kind=.normal→∃ e w' fr,R e w'∧Comes P (lone (b.at a todo) cs w) (lone fr cs w') e∧fr.fn=f∧fr.leaving P w' e
section
variable {P:Program} {f:FuncId} {R:Ending→World→Prop} {a:Act} {w:World} {k:List Item}
theorem Safe.of_step {todo todo':List Item} (h:∀ (b:Frame) (cs:List Frame),step P (lone (b.at a todo) cs w)=.next (lone (b.at a todo') cs w)) (hs:Safe P f R todo' a w):Safe P f R todo a w:=by
 intro b cs hb hk;obtain ⟨e,w',fr,h1,h2,h3,h4⟩:=hs b cs hb hk;exact ⟨e,w',fr,h1,.of_steps (.one (h b cs)) h2,h3,h4⟩
theorem Safe.of_wp {c:Code} {k:List Item} (h:c.wp P (fun e a' w'=>e=.normal∧Safe P f R k a' w') a w):Safe P f R (.code c::k) a w:=by
 intro b cs hb hk;obtain ⟨e,a',w',⟨he,hs⟩,harr⟩:=h b k cs;subst he;obtain ⟨e,w'',fr,h1,h2,h3,h4⟩:=hs b cs hb hk;exact ⟨e,w'',fr,h1,.of_steps harr h2,h3,h4⟩
theorem ANp {b:Frame} {cs:List Frame} {c:Code}:step P (lone (b.at a (.code (.scope c)::k)) cs w)=.next (lone (b.at a (.code c::.inScope c::k)) cs w) :=
 step_lone_go (by simp [stepG,stepG.exec,Frame.at])
theorem ANq {b:Frame} {cs:List Frame} {c:Code}:step P (lone (b.at a (.inScope c::k)) cs w)=.next (lone (b.at a k) cs w) :=
 step_lone_go (by simp [stepG,stepG.exec,Frame.at])
theorem Safe.done {fn:Func} {v:Value} {todo:List Item} (ip:P.funcs[f]? = some fn) (hd:a.defers=[]) (hr:(results fn a.tmps).run P w=.ok v w) (hR:R (.returned v) w)
  (ht:(∃ k,todo=.code .ret::k)∨todo=[]):Safe P f R todo a w:=by
 intro b cs hb hk;rcases ht with ⟨k,rfl⟩ | rfl
 ·exact ⟨.returned v,w,{ b.at a (.code .ret::k) with mode:=.returning },hR,Steps.one step_ret,hb,rfl,hd,hk,fn,by show P.funcs[b.fn]? = some fn;rw [hb];exact ip,hr⟩
 ·exact ⟨.returned v,w,{ b.at a [] with mode:=.returning },hR,Steps.one step_end,hb,rfl,hd,hk,fn,by show P.funcs[b.fn]? = some fn;rw [hb];exact ip,hr⟩
end
def gn (P:Program) (f:FuncId) (β0:Env) (w0:World) (R:Ending→World→Prop) (n:Fz) (W:List Nat) (x:gq):Prop :=
 ∀ (β:Env) (a:Act) (w:World),Inv β0 w0 W n β (Ap x.s.T) x.s.H a w→(∀ b,x.s.fr≤b→β b=none)→Safe P f R x.todo a w
def Be (n:Fz) (s:St):Prop:=(∀ b,s.fr≤b→AG s.H b=none)∧s.T.length=n.n
theorem Inv.mono {β0:Env} {w0:World} {W W':List Nat} {n:Fz} {β:Env} {τ:Nat→AV} {H:Heap} {a:Act} {w:World} (i:Inv β0 w0 W n β τ H a w) (h:∀ k∈W,k∈W'):Inv β0 w0 W' n β τ H a w :=
 { i with
  new:=fun b X hb=>(i.new b X hb).imp id fun q B m e=>(q B m e).imp id fun ⟨k,m',h1,h2⟩=>⟨k,m',h k h1,h2⟩
  frame:=fun B hB iz=>i.frame B hB fun k m hk=>iz k m (h k hk) }
section
variable {P:Program} {O:gr} (hO:gp P O) (hm:P.follows .mixedOrders=true) {f:FuncId} {β0:Env} {w0:World} {R:Ending→World→Prop} {n:Fz} {W:List Nat}
include hO hm
theorem ANr {id:Nat} {ops:Array Oper} {draw:Bool} {s s':St} {g:Log} {k:List Item} (h:Z_ P O ops draw s=some (g,s')) (hc:AO g.conds) (i_:Be n s)
  (hs:gn P f β0 w0 R n (W++g.keys) ⟨k,s'⟩):gn P f β0 w0 R n W ⟨.code (.region id ops draw)::k,s⟩:=by
 intro β a w hi hf;obtain ⟨hfH,hn⟩:=i_;have hi':=hi.mono (W':=W++g.keys) (fun k hk=>jp.2 (.inl hk))
 unfold Z_ at h;split at h
 ·rename_i gz s1 ii;split at h
  ·injection h with h;injection h with h1 h2;subst h1;subst h2;refine Safe.of_wp (wp_region ?_)
   have:=ACa hO (Q:=fun e a' w'=>e=.normal∧Safe P f R k a' w') ops.toList 0 s s1 gz β a w (by simp) ii hc hi' hf hfH hn (fun k hk=>jp.2 (.inr hk)) (fun β a w hi hf=>⟨rfl,hs β a w hi hf⟩)
   rw [tq];simpa using this
  ·split at h
   ·rename_i hchk hedge;injection h with h;injection h with h1 h2;subst h1;subst h2;refine Safe.of_wp (wp_region_any hm ?_)
    obtain ⟨r1,r2,r3,r4,r5,r6⟩:=oP ii hfH;have hlist:∀ j,(Array.replicate ops.size false).getD j false=false:=by
     intro j;rw [lu,Array.getElem?_replicate];split<;>rfl
    have e2:∀ {X:Type} (L:List (Nat→Option X)) (i:Nat) (s:Nat→X),DA (fun i=>(Array.replicate ops.size false).getD i false) i L s=s:=by
     intro X L;induction L with
     | nil=>intro i s;rfl
     | cons f L ih=>intro i s;rw [DA,hlist];exact ih _ _
    refine ANo hO (Q:=fun e a' w'=>e=.normal∧Safe P f R k a' w') ii hchk hedge hc hfH hn (fun k hk=>jp.2 (.inr hk)) (fun β a w hi hf=>⟨rfl,hs β a w hi hf⟩) _ _ β a _ (by simp) ?_ ?_ ?_ ?_ ?_
    ·refine mb List.countP_le_length ?_
     simp
    ·refine (hi'.drew).congr (fun t=>by rw [e2]) (fun b=>by rw [Q8 r2,e2])
    ·intro b hb;have:s.fr≤s1.fr:=(Z6 ii hfH).2.1
     exact hf b (mb this hb)
    ·intro j r hj _ b h1 h2;obtain ⟨_,_,_,_,_,_,_,_,_,_,_,_,q9,_⟩:=r5 j r hj;exact hf b (mb q9 h1)
    ·intro j hj;rw [hlist] at hj;cases hj
   ·cases h
 ·cases h
theorem Wv {x y:gq} {g:Log} (h:Ng P O x=some (g,y)) (hc:AO g.conds) (i_:Be n x.s) (hs:gn P f β0 w0 R n (W++g.keys) y):gn P f β0 w0 R n W x:=by
 obtain ⟨todo,s⟩:=x;unfold Ng at h;simp only at h
 have pl:∀ {k':List Item},(⟨[],[]⟩,⟨k',s⟩)=(g,y)→(∀ (a:Act) (w:World) (b:Frame) (cs:List Frame),step P (lone (b.at a todo) cs w)=.next (lone (b.at a k') cs w))→gn P f β0 w0 R n W ⟨todo,s⟩:=by
  intro k' he hst β a w hi hf;injection he with h1 h2;subst h1;subst h2;exact Safe.of_step (hst a w) (hs β a w (by simpa using hi) hf)
 split at h
 all_goals first | (cases h;done) | skip
 ·injection h with h;exact pl h (fun _ _ _ _=>step_skip)
 ·injection h with h;exact pl h (fun _ _ _ _=>step_label)
 ·injection h with h;exact pl h (fun _ _ _ _=>step_inBlock)
 ·injection h with h;exact pl h (fun _ _ _ _=>ANq)
 ·injection h with h;exact pl h (fun _ _ _ _=>step_seq)
 ·rename_i c ca cb k;have cond:∀ (z:Bool) (path':List Bool) (cc:dp),(⟨cc,[]⟩,⟨.code (if z then ca else cb)::k,{ s with gv:=path' }⟩)=(g,y)→(AO cc→∀ (β:Env) (a:Act),(∀ t,AN β (Ap s.T t) (a.tmps.getD t undef))→a.eval c=.bool z)→gn P f β0 w0 R n W ⟨.code (.cond c ca cb)::k,s⟩:=by
   intro z path' cc he hev β a w hi hf;injection he with h1 h2;subst h1;subst h2;refine Safe.of_step (fun b cs=>step_cond (hev hc β a hi.tmp)) (hs β a w (by simpa using hi) hf)
  split at h
  ·rename_i hev;injection h with h;refine cond true s.gv [] (by simpa using h) fun _ β a ht=>?_
   have:=Az (I5 ht hev)
   simpa [BM] using this
  ·rename_i hev;injection h with h;refine cond false s.gv [] (by simpa using h) fun _ β a ht=>?_
   have:=Az (I5 ht hev)
   simpa [BM] using this
  ·rename_i z hev;split at h
   ·rename_i gy hp;injection h with h;refine cond true gy [(z,true)] (by simpa using h) fun hz β a ht=>?_
    have:=(Az (I5 ht hev)).1
    injection this with this _;rw [this,hz.1]
   ·rename_i gy hp;injection h with h;refine cond false gy [(z,false)] (by simpa using h) fun hz β a ht=>?_
    have:=(Az (I5 ht hev)).1
    injection this with this _;rw [this,hz.1]
   ·cases h
  ·cases h
 ·injection h with h;exact pl h (fun _ _ _ _=>step_block)
 ·injection h with h;exact pl h (fun _ _ _ _=>step_loop)
 ·injection h with h;exact pl h (fun _ _ _ _=>step_inLoop)
 ·injection h with h;exact pl h (fun _ _ _ _=>ANp)
 ·split at h
  ·rename_i k' he;injection h with h;exact pl h (fun _ _ _ _=>step_exit he)
  ·cases h
 ·split at h
  ·rename_i k' he;injection h with h;exact pl h (fun _ _ _ _=>step_goto he)
  ·cases h
 ·split at h
  ·rename_i g' s' hr;injection h with h;injection h with h1 h2;subst h1;subst h2;exact ANr hO hm hr hc i_ hs
  ·cases h
omit hO hm in
theorem Ww {x y:gq} {g:Log} (h:Ng P O x=some (g,y)) (i_:Be n x.s):Be n y.s:=by
 obtain ⟨todo,s⟩:=x;unfold Ng at h;simp only at h i_
 have pl:∀ {k':List Item} {c:Log},(c,(⟨k',s⟩:gq))=(g,y)→Be n y.s:=by
  intro k' c he;injection he with h1 h2;subst h2;exact i_
 split at h
 all_goals first | (cases h;done) | skip
 all_goals first | (injection h with h;exact pl h) | skip
 ·split at h
  ·injection h with h;exact pl h
  ·injection h with h;exact pl h
  ·split at h
   ·injection h with h;injection h with h1 h2;subst h2;exact i_
   ·injection h with h;injection h with h1 h2;subst h2;exact i_
   ·cases h
  ·cases h
 ·split at h
  ·injection h with h;exact pl h
  ·cases h
 ·split at h
  ·injection h with h;exact pl h
  ·cases h
 ·split at h
  ·rename_i g' s' hr;injection h with h;injection h with h1 h2;subst h2;unfold Z_ at hr;split at hr
   ·rename_i gz s1 ii;have:=Z6 ii i_.1
    have hw:Be n s1:=⟨this.1,by rw [this.2.2];exact i_.2⟩
    split at hr
    ·injection hr with hr;injection hr with _ hr;subst hr;exact hw
    ·split at hr
     ·injection hr with hr;injection hr with _ hr;subst hr;exact hw
     ·cases hr
   ·cases hr
  ·cases h
end
def ANs (stop:Option Nat) (before:List Item) (after:List Item):Bool :=
 match stop,before with
 | some d,.inLoop _::_=>match d with | 0=>true | d+1=>Nat.beq after.length (d+1)
 | some d,.code (.loop _)::_=>match d with | 0=>true | d+1=>Nat.beq after.length (d+1)
 | _,_=>false
def K6:List Item→Bool
 | []=>true
 | .code .ret::_=>true
 | _=>false
def K7 (P:Program) (O:gr) (stop:Option Nat):Nat→gq→Option (Log×gq)
 | 0,_=>none
 | n+1,x=>match K6 x.todo with
  | true=>some (⟨[],[]⟩,x)
  | false=>match Ng P O x with
   | some (g,y)=>match ANs stop x.todo y.todo with
    | true=>some (g,y)
    | false=>match K7 P O stop n y with
     | some (g',z)=>some (⟨g.conds++g'.conds,cat g.keys g'.keys⟩,z)
     | none=>none
   | none=>none
section
variable {P:Program} {O:gr} (hO:gp P O) (hm:P.follows .mixedOrders=true) {f:FuncId} {β0:Env} {w0:World} {R:Ending→World→Prop} {n:Fz}
include hO hm
theorem Wx {stop:Option Nat}:∀ {m:Nat} {W:List Nat} {x y:gq} {g:Log},K7 P O stop m x=some (g,y)→AO g.conds→Be n x.s→(Be n y.s→gn P f β0 w0 R n (W++g.keys) y)→gn P f β0 w0 R n W x
 | 0,_,_,_,_,h,_,_,_=>by simp [K7] at h
 | m+1,W,x,y,g,h,hc,i_,hs=>by
  simp only [K7] at h;split at h
  ·injection h with h;injection h with h1 h2;subst h1;subst h2;have:=hs i_
   simpa using this
  ·split at h
   ·rename_i g1 y1 hst;split at h
    ·injection h with h;injection h with h1 h2;subst h1;subst h2;exact Wv hO hm hst hc i_ (hs (Ww hst i_))
    ·split at h
     ·rename_i g2 z hr;injection h with h;injection h with h1 h2;subst h1;subst h2;obtain ⟨c1,c2⟩:=B5.1 hc;refine Wv hO hm hst c1 i_ (Wx hr c2 (Ww hst i_) fun hw=>?_)
      have:=hs hw
      simpa [Cz] using this
     ·cases h
   ·cases h
end
def oX (P:Program) (T:List AV) (H:Heap):ResultVar→Option (Bool×List Ch)
 | .tmp t=>match Ap T t with
  | .val g cs=>some (g,cs)
  | _=>none
 | .cell a t=>match Ap T a with
  | .val false [.p bk gu]=>match MI H bk with
   | some blk=>match To P t blk.cs gu [] with
    | some r=>match r.conds,r.val with
     | [],.val g cs=>some (g,cs)
     | _,_=>none
    | none=>none
   | none=>none
  | _=>none
def PJ (P:Program) (T:List AV) (H:Heap):List ResultVar→Option (List (Bool×List Ch))
 | []=>some []
 | x::r=>match oX P T H x,PJ P T H r with
  | some a,some l=>some (a::l)
  | _,_=>none
def Tz (l:List (Bool×List Ch)):AV:=match l with
 | [(g,cs)]=>.val g cs
 | l=>.tup l
theorem ANt {P:Program} {β:Env} {T:List AV} {H:Heap} {tmps:Array Value} {w:World} (ht:∀ t,AN β (Ap T t) (tmps.getD t undef)) (g:Good β H w) {x:ResultVar} {a:Bool×List Ch} (h:oX P T H x=some a) :
  ∃ u,((match x with | .tmp t=>pure (tmps.getD t undef) | .cell a t=>do loadVar t (← asAddr (tmps.getD a undef)):Sem Value)).run P w=.ok u w∧Bx β a.1 a.2 u:=by
 unfold oX at h;split at h
 ·rename_i t;split at h
  ·rename_i gg cs hT;injection h with h;subst h;have:=ht t
   rw [hT] at this;exact ⟨_,rfl,this⟩
  ·cases h
 ·rename_i ad t;split at h
  ·rename_i bk gu hT;split at h
   ·rename_i blk hb;split at h
    ·rename_i r hl;split at h
     ·rename_i gg cs hcv hvv;injection h with h;subst h;have:=ht ad
      rw [hT] at this;obtain ⟨B',n',e4,e5⟩:=Az this;injection e5 with e5 _;rcases g.cells hb with ⟨B,n,l,t',pre,ty',fz,e1,e2,e3,e0,_⟩ | ⟨X,e1,e2,_⟩
      ·rw [e1] at e4;injection e4 with e4;injection e4 with e4 e4';subst e4;subst e4';obtain ⟨v,hv,he⟩:=Zk g e2 e3 hl (by rw [hcv];trivial) 0
       rw [e0] at hv;refine ⟨v,?_,?_⟩
       ·simp only [e5,asAddr,Sem.run_bind,Sem.run_pure,Result.andThen_ok,hv]
       ·have:=he.val
        rw [hvv] at this;exact this
      ·rw [e1] at e4;injection e4 with e4;subst e4;exact e2.elim
     ·cases h
    ·cases h
   ·cases h
  ·cases h
theorem Z' {P:Program} {β:Env} {T:List AV} {H:Heap} {fn:Func} {tmps:Array Value} {w:World} (ht:∀ t,AN β (Ap T t) (tmps.getD t undef)) (g:Good β H w) {l:List (Bool×List Ch)} (h:PJ P T H fn.results.toList=some l) :
  ∃ v,(results fn tmps).run P w=.ok v w∧AN β (Tz l) v:=by
 have key:∀ (rs:List ResultVar) (l:List (Bool×List Ch)),PJ P T H rs=some l →
   ∃ us,(rs.mapM (m:=Sem) fun | .tmp t=>pure (tmps.getD t undef) | .cell a t=>do loadVar t (← asAddr (tmps.getD a undef))).run P w=.ok us w∧GF β l us:=by
  intro rs;induction rs with
  | nil=>intro l h;simp only [PJ,jt] at h;subst h;exact ⟨[],by simp,rfl⟩
  | cons x rs ih =>
   intro l h;simp only [PJ] at h;split at h
   ·rename_i a l' h1 h2;injection h with h;subst h;obtain ⟨u,hu,hr⟩:=ANt ht g h1;obtain ⟨us,hus,hrs⟩:=ih l' h2;refine ⟨u::us,?_,u,us,hr,hrs,rfl⟩
    rw [List.mapM_cons,Sem.run_bind,hu];simp only [Result.andThen_ok,Sem.run_bind,hus,Sem.run_pure]
   ·cases h
 obtain ⟨us,hus,hrel⟩:=key _ _ h;unfold results;rw [Array.mapM_eq_mapM_toList,Sem.run_bind,Sem.run_map];refine ⟨if h:us.toArray.size=1 then us.toArray[0] else .tuple us.toArray,?_,?_⟩
 ·have e:∀ (x:Sem (List Value)),x.run P w=.ok us w→((x.run P w).andThen fun a w'=>Result.ok a.toArray w').andThen (fun vs w'=>Result.ok (if h:vs.size=1 then vs[0] else Value.tuple vs) w')=.ok (if h:us.toArray.size=1 then us.toArray[0] else .tuple us.toArray) w:=by
   intro x hx;rw [hx];rfl
  exact e _ hus
 unfold Tz;split
 ·rename_i gg cs;obtain ⟨u,l',h1,h2,h3⟩:=hrel;simp only [GF] at h2;subst h2;subst h3;show AN β (.val gg cs) u;exact h1
 ·rename_i iz;have gx:us.length=l.length:=by
   have:∀ (l:List (Bool×List Ch)) (us:List Value),GF β l us→us.length=l.length:=by
    intro l;induction l with
    | nil=>intro us h;simp only [GF] at h;simp [h]
    | cons x l ih=>intro us ⟨u,l',h1,h2,h3⟩;simp [h3,ih _ h2]
   exact this _ _ hrel
  rw [dif_neg (by
   intro h1;have:l.length=1:=by rw [← gx];simpa using h1
   obtain ⟨⟨gg,cs⟩,rfl⟩:=sm.1 this;exact iz gg cs rfl)]
  exact ⟨us,hrel,rfl⟩
end Go.Proofs.YtgnajdcdcblaoaaGreat.Ex
namespace Go.Proofs.YtgnajdcdcblaoaaGreat
abbrev dr:=List (FuncId×Ex.ASpec)
abbrev fo (f:Func):Prop:=(f.name=="runtime.NumGoroutine")=false
end Go.Proofs.YtgnajdcdcblaoaaGreat
namespace Go.Proofs.YtgnajdcdcblaoaaGreat.Ex
open Go.RowKit (Below)
def T3:Nat→List AV
 | 0=>[]
 | n+1=>.tup []::T3 n
def aA:List AV→List AV→List AV
 | [],l=>l
 | x::r,l=>x::aA r l
theorem T4:∀ (a b:List AV),aA a b=a++b
 | [],_=>rfl
 | x::r,b=>by simp [aA,T4 r b]
theorem Wy:∀ n,(T3 n).length=n
 | 0=>rfl
 | n+1=>by simp [T3,Wy n]
def F2:List AV→Nat
 | []=>0
 | _::r=>F2 r+1
theorem JA:∀ l:List AV,F2 l=l.length
 | []=>rfl
 | _::r=>by simp [F2,JA r]
def Gu (args:List AV) (n:Nat):List AV:=aA args (T3 (n-F2 args))
theorem oY {β:Env}:∀ {xs:List AV} {us:List Value},BI β xs us→us.length=xs.length
 | [],us,h=>by simp only [BI] at h;simp [h]
 | x::xs,us,⟨u,us',_,h2,h3⟩=>by simp [h3,oY h2]
theorem oZ {β:Env}:∀ {xs:List AV} {us:List Value} (m:Nat),BI β xs us→∀ t,AN β (Ap (xs++T3 m) t) ((us++List.replicate m undef).getD t undef)
 | [],us,0,h,t=>by simp only [BI] at h;subst h;exact trivial
 | [],us,m+1,h,0=>by
  simp only [BI] at h;subst h;exact ⟨[],rfl,rfl⟩
 | [],us,m+1,h,t+1=>by
  simp only [BI] at h;subst h;have:=oZ (β:=β) (xs:=[]) (us:=[]) m rfl t
  simpa [T3,Ap,List.replicate_succ] using this
 | x::xs,us,m,⟨u,us',h1,h2,h3⟩,0=>by subst h3;exact h1
 | x::xs,us,m,⟨u,us',h1,h2,h3⟩,t+1=>by
  subst h3;have:=oZ m h2 t
  simpa [Ap] using this
structure Out (β0:Env) (w0:World) (W:List Nat) (val:AV) (H:Heap) (u:Value) (w:World) (β:Env):Prop where
 val:AN β val u
 good:Good β H w
 new:∀ b X,β b=some X→β0 b=some X∨∀ B m,X=.at_ B m→w0.heap.size≤B∨∃ k m',k∈W∧β0 k=some (.at_ B m')
 ext:Env.le β0 β
 frame:∀ B,B<w0.heap.size→(∀ k m,k∈W→β0 k≠some (.at_ B m))→w.heap[B]? = w0.heap[B]?
 size:w0.heap.size≤w.heap.size
 os:w.os=w0.os
 tape:w.tape=w0.tape
 output:w.output=w0.output
def A_ (β0:Env) (w0:World) (W:List Nat) (val:AV) (H:Heap):Ending→World→Prop:=fun e w=>∃ u β,e=.returned u∧Out β0 w0 W val H u w β
section
variable {P:Program} {O:gr} (hO:gp P O) (hm:P.follows .mixedOrders=true) {f:FuncId} {fn:Func} {c:Code}
theorem Wz {R:Ending→World→Prop} (ip:P.funcs[f]? = some fn) (hb:fn.body=some c) {args:List AV} {H:Heap} {fr:Nat} {gv:List Bool} {β:Env} {us:List Value} {w:World} (gx:args.length≤fn.ntmps)
  (h:gn P f β w R fn.ntmps [] ⟨[.code c],⟨Gu args fn.ntmps,H,fr,gv⟩⟩) (ha:BI β args us) (hg:Good β H w) (hf:∀ b,fr≤b→β b=none):Calls P f ⟨us⟩ w R:=by
 have hul:=oY ha;have hs:=h β { tmps:=(⟨us⟩:Array Value)++Array.replicate (fn.ntmps-us.length) undef,defers:=[] } w ?_ hf
 ·intro cs
  let b:Frame:={ (default:Frame) with fn:=f,kind:=.normal }
  have henter:Frame.enter P f ⟨us⟩ .normal=b.at { tmps:=(⟨us⟩:Array Value)++Array.replicate (fn.ntmps-us.length) undef,defers:=[] } [.code c]:=by
   simp [Frame.enter,Frame.at,ip,hb,b]
  rw [henter];exact hs b cs rfl rfl
 ·have hT:∀ t,AN β (Ap (Gu args fn.ntmps) t) (((⟨us⟩:Array Value)++Array.replicate (fn.ntmps-us.length) undef).getD t undef):=by
   intro t;have:=oZ (fn.ntmps-us.length) ha t
   have e:((⟨us⟩:Array Value)++Array.replicate (fn.ntmps-us.length) undef).getD t undef=(us++List.replicate (fn.ntmps-us.length) undef).getD t undef:=by
    rw [lu,j_,← qu];simp
   rw [e,Gu,T4,JA,← hul];exact this
  exact ⟨hT,hg,by simp;omega,rfl,fun b X hb=>.inl hb,Env.le_refl _,fun _ _ _=>rfl,jj _,rfl,rfl,rfl⟩
theorem o5 {β0:Env} {w0:World} {n:Fz} {W:List Nat} {y:gq} {l:List (Bool×List Ch)} (hD:n.D=[]) (ip:P.funcs[f]? = some fn) (hend:K6 y.todo=true) (hres:PJ P y.s.T y.s.H fn.results.toList=some l) :
  gn P f β0 w0 (A_ β0 w0 W (Tz l) y.s.H) n W y:=by
 intro β a w hi _;obtain ⟨v,hv,hr⟩:=Z' hi.tmp hi.good hres;refine Safe.done ip (hi.dfr.trans hD) hv ⟨v,β,rfl,hr,hi.good,hi.new,hi.ext,hi.frame,hi.size,hi.os,hi.tape,hi.output⟩ ?_
 unfold K6 at hend;split at hend
 ·rename_i h;exact .inr h
 ·rename_i k h;exact .inl ⟨k,h⟩
 ·cases hend
def PK:AV→Bool
 | .val _ cs=>HF (ER cs)
 | .tup xs=>HF (K4 xs)
 | .any=>false
def aB:List AV→Bool
 | []=>true
 | x::r=>PK x&&aB r
theorem ANu {β β':Env}:∀ {caps:List (Nat×Nat)} {l:List Value},caps.map (·.1)=[]→GE β caps l→GE β' caps l
 | [],_,_,h=>h
 | _::_,_,h,_=>by simp at h
theorem ANv {β β':Env} {c:Ch} {l:List Value} (hk:NV c=[]) (h:BM β c l):BM β' c l:=by
 cases c<;>simp only [NV] at hk<;>simp only [BM] at h ⊢
 case n=>exact h
 case b=>exact h
 case v=>exact h
 case p=>cases hk
 case sl=>cases hk
 case sx=>cases hk
 case num=>exact h
 case seq=>exact h
 case clo=>obtain ⟨ps,h1,h2⟩:=h;exact ⟨ps,ANu hk h1,h2⟩
 case mth=>cases hk
 case yl=>cases hk
 case mp=>cases hk
 case mk=>exact h
theorem o6 {β β':Env}:∀ {cs:List Ch} {l:List Value},ER cs=[]→AQ β cs l→AQ β' cs l
 | [],_,_,h=>h
 | c::cs,l,hk,⟨l1,l2,h1,h2,h3⟩=>by
  simp only [ER,Cz,List.append_eq_nil_iff] at hk;exact ⟨l1,l2,ANv hk.1 h1,o6 hk.2 h2,h3⟩
theorem ACj {β β':Env} {g:Bool} {cs:List Ch} {u:Value} (hk:ER cs=[]) (h:Bx β g cs u):Bx β' g cs u:=by
 cases g
 ·exact o6 hk h
 ·obtain ⟨l,h1,h2⟩:=h;exact ⟨l,o6 hk h1,h2⟩
theorem ACk {β β':Env}:∀ {xs:List (Bool×List Ch)} {l:List Value},K4 xs=[]→GF β xs l→GF β' xs l
 | [],_,_,h=>h
 | (g,cs)::xs,l,hk,⟨u,l',h1,h2,h3⟩=>by
  simp only [K4,Cz,List.append_eq_nil_iff] at hk;exact ⟨u,l',ACj hk.1 h1,ACk hk.2 h2,h3⟩
theorem MS {β β':Env} {x:AV} {u:Value} (hk:PK x=true) (h:AN β x u):AN β' x u:=by
 cases x with
 | val g cs=>exact ACj (Zn hk) h
 | tup xs=>obtain ⟨us,h1,h2⟩:=h;exact ⟨us,ACk (Zn hk) h1,h2⟩
 | any=>cases hk
theorem o7 {β β':Env}:∀ {xs:List AV} {us:List Value},aB xs=true→BI β xs us→BI β' xs us
 | [],_,_,h=>h
 | x::xs,us,hk,⟨u,us',h1,h2,h3⟩=>by
  have hk':=jo.1 hk;exact ⟨u,us',MS hk'.1 h1,o7 hk'.2 h2,h3⟩
def CE:Env:=fun _=>none
def AU (P:Program) (f:FuncId) (args:List AV) (v:AV):Prop :=
 ∀ (us:List Value) (w:World),BI CE args us→Calls P f ⟨us⟩ w fun e w'=>∃ u,e=.returned u∧AN CE v u∧Below w.heap.size w w'
def AM (P:Program) (O:gr) (fn:Func) (args:List AV) (gv:List Bool) (ia:Nat):Option (dp×AV) :=
 match fn.body with
 | some c=>match K7 P O none ia ⟨[.code c],⟨Gu args fn.ntmps,[],0,gv⟩⟩ with
  | some (g,y)=>match K6 y.todo,PJ P y.s.T y.s.H fn.results.toList,Nat.ble (F2 args) fn.ntmps with
   | true,some l,true=>some (g.conds,Tz l)
   | _,_,_=>none
  | none=>none
 | none=>none
theorem Good.none_ (w:World):Good CE [] w where
 heap:=fun b blk h=>by cases h
 inj:=fun b b' B n n' h=>by cases h
 lt:=fun b B n h=>by cases h
include hO hm in
theorem AP (ip:P.funcs[f]? = some fn) {args:List AV} {gv:List Bool} {ia:Nat} {conds:dp} {v:AV} (h:AM P O fn args gv ia=some (conds,v)) (hc:AO conds) (hk:PK v=true):AU P f args v:=by
 unfold AM at h;split at h;case h_2=>cases h
 rename_i c hb;split at h;case h_2=>cases h
 rename_i g y ii;split at h;case h_2=>cases h
 rename_i l hend hres gx;injection h with h;injection h with h1 h2;subst h1;subst h2;intro us w ha;have hlen':=jf gx;rw [JA] at hlen';refine Calls.mono (Wz (R:=A_ CE w g.keys (Tz l) y.s.H) (fr:=0) (gv:=gv) ip hb hlen' ?_ ha (Good.none_ w) (fun _ _=>rfl)) ?_
 ·refine Wx hO hm ii hc ⟨fun _ _=>rfl,?_⟩ fun _=>?_
  ·simp only [Gu,T4,JA,kc,Wy];omega
  ·rw [nm];exact o5 rfl ip hend hres
 ·rintro e w' ⟨u,β,rfl,ho⟩
  exact ⟨u,rfl,MS hk ho.val,ho.os,ho.tape,ho.output,ho.size,fun k hk=>ho.frame k hk (fun _ _ _ h=>by cases h)⟩
theorem T5 {us:Array Value} {w:World} {R:Ending→World→Prop} (ip:P.funcs[f]? = some fn) (hb:fn.body.isSome=true) (h_:fo fn) (h:Calls P f us w R):NU P f us w R:=by
 unfold NU;have h1:fn.name≠"runtime.NumGoroutine":=by simpa using h_
 have h2:¬ fn.body=none:=by cases hq:fn.body<;>simp [hq] at hb ⊢
 have:(callFunc f us).run P w=.ok (.enter f us) w:=by
  simp [callFunc,ip,h1,h2]
 rw [this];exact h
def Ac (sp:List AV→Option AV):ASpec:=fun args _ _ gv =>
 match aB args,sp args with
 | true,some v=>match PK v with
  | true=>some (CP v gv)
  | false=>none
 | _,_=>none
theorem Ad {sp:List AV→Option AV} (ip:P.funcs[f]? = some fn) (hb:fn.body.isSome=true) (h_:fo fn) (h:∀ args v,sp args=some v→AU P f args v):BJ P f (Ac sp):=by
 intro args H fr gv r β us w hs hc ha hg hf;unfold Ac at hs;split at hs
 ·rename_i v hk hv;split at hs
  ·rename_i hkv;injection hs with hs;subst hs;refine T5 ip hb h_ (Calls.mono (h args v hv us w (o7 hk ha)) ?_)
   rintro e w' ⟨u,rfl,hu,hbl⟩
   refine ⟨u,β,rfl,?_⟩
   exact ⟨Env.le_refl _,fun _ _ h=>.inl h,fun b B n hb=>kr (hg.lt b B n hb) hbl.size,fun b b' _ _ _ h1 _ h3=>by simp [CP] at h3;omega,MS hkv hu,fun _ _ h=>(by cases h),fun B hB _=>hbl.block B hB,hbl.size,hbl.os,hbl.tape,hbl.output⟩
  ·cases hs
 ·cases hs
def CX (a b c:Int):Int:=(a+b+c) % 18446744073709551616
def DX (a b c:Int):Int:=(a+b+c) / 18446744073709551616
def EL (a b c:Int):Int:=(a-b-c) % 18446744073709551616
def IT (a b c:Int):Int:=if a<b+c then 1 else 0
def CQ (c:Int):Bool:=decide (0≤c∧c≤1)
def addSpec:ASpec:=fun args _ _ gv =>
 match args with
 | [x,y,z]=>match Bv (some x),Bv (some y),Bv (some z) with
  | some (_,.u64,a),some (_,.u64,b),some (_,.u64,c)=>some ⟨.tup [(false,[.v (.int .u64 (CX a b c))]),(false,[.v (.int .u64 (DX a b c))])],[],0,[(CQ c,true)],gv⟩
  | _,_,_=>none
 | _=>none
def subSpec:ASpec:=fun args _ _ gv =>
 match args with
 | [x,y,z]=>match Bv (some x),Bv (some y),Bv (some z) with
  | some (_,.u64,a),some (_,.u64,b),some (_,.u64,c)=>some ⟨.tup [(false,[.v (.int .u64 (EL a b c))]),(false,[.v (.int .u64 (IT a b c))])],[],0,[(CQ c,true)],gv⟩
  | _,_,_=>none
 | _=>none
def o8:Array Value→Sem Value:=fun args=>do
 let (x,y,b) ← Extern.MathBitsCarry.three "Sub64" args
 pure (Extern.MathBitsCarry.pair ((x+Extern.MathBitsCarry.m64-y-b) % Extern.MathBitsCarry.m64) (if x<y+b then 1 else 0))
theorem ACl {e:Array Value→Sem Value} {us:Array Value} {w w':World} {v:Value} {R:Ending→World→Prop} (ip:P.funcs[f]? = some fn) (h_:fo fn) (hb:fn.body.isNone=true) (hn:Extern.findNext fn=none) (he:Extern.find fn=some e)
  (hr:(e us).run P w=.ok v w') (h:R (.returned v) w'):NU P f us w R:=by
 unfold NU;rw [run_callFunc_extern ip h_ hb hn he us w,hr];exact h
theorem ES {a:Int} (h:has .u64 a):0≤a∧a<18446744073709551616:=by
 have:=(Fy _ _).1 h
 simp only [AL,jm,ji] at this;omega
theorem aC {a:Int} (h1:0≤a) (h2:a<18446744073709551616):has .u64 a:=by
 rw [Fy];simp only [AL,jm,ji];omega
theorem ANw (ip:P.funcs[f]? = some fn) (h_:fo fn) (hb:fn.body.isNone=true) (hn:Extern.findNext fn=none) (he:Extern.find fn=some add64Entry):BJ P f addSpec:=by
 intro args H fr gv r β us w hs hc ha hg hf;unfold addSpec at hs;split at hs;case h_2=>cases hs
 rename_i x y z;split at hs;case h_2=>cases hs
 rename_i c1 a c2 b c3 c hx hy hz;injection hs with hs;subst hs;obtain ⟨u1,iu,r1,ha,rfl⟩:=ha;obtain ⟨u2,iw,r2,ha,rfl⟩:=ha;obtain ⟨u3,us3,r3,ha,rfl⟩:=ha;simp only [BI] at ha;subst ha;obtain ⟨rfl,p1⟩:=DJ (β:=β) (u:=u1) (fm r1) hx
 obtain ⟨rfl,p2⟩:=DJ (β:=β) (u:=u2) (fm r2) hy
 obtain ⟨rfl,p3⟩:=DJ (β:=β) (u:=u3) (fm r3) hz
 have hcc:=hc.1;simp only [CQ,ji] at hcc;have b1:=ES p1;have b2:=ES p2;refine ACl ip h_ hb hn he (run_add64 a b c b1.1 b2.1 hcc.1 hcc.2 w) ⟨_,β,rfl,Eff.pure_ hg ⟨_,⟨_,_,Aw ⟨rfl,rfl,?_⟩,⟨_,_,Aw ⟨rfl,rfl,?_⟩,rfl,rfl⟩,rfl⟩,rfl⟩⟩
 ·show has .u64 ((a+b+c) % 18446744073709551616);exact aC dk dk
 ·show has .u64 ((a+b+c) / 18446744073709551616);exact aC dk dk
theorem ANx (x y c:Int) (hx:0≤x∧x<18446744073709551616) (hy:0≤y∧y<18446744073709551616) (hc0:0≤c) (hc:c≤1) (w:World) :
  (o8 #[.int .u64 x,.int .u64 y,.int .u64 c]).run P w=.ok (.tuple #[.int .u64 ((x-y-c) % 18446744073709551616),.int .u64 (if x<y+c then 1 else 0)]) w:=by
 have key:∀ k:Nat,k≤1→(o8 #[.int .u64 x,.int .u64 y,.int .u64 (k:Int)]).run P w =
   .ok (Extern.MathBitsCarry.pair ((x.toNat+Extern.MathBitsCarry.m64-y.toNat-k) % Extern.MathBitsCarry.m64) (if x.toNat<y.toNat+k then 1 else 0)) w:=by
  intro k hk;have:k=0∨k=1:=dk
  rcases this with rfl | rfl<;>rfl
 obtain ⟨k,rfl⟩:=ki hc0;rw [key k dk];obtain ⟨X,rfl⟩:=ki hx.1;obtain ⟨Y,rfl⟩:=ki hy.1;simp only [Extern.MathBitsCarry.pair,Extern.MathBitsCarry.m64,jn];have e1:(Int.ofNat ((X+2^64-Y-k) % 2^64))=((X:Int)-Y-k) % 18446744073709551616:=by
  have:(X+2^64-Y-k:Nat)=(X+18446744073709551616-Y-k:Nat):=rfl
  show (((X+18446744073709551616-Y-k) % 18446744073709551616:Nat):Int)=_;omega
 have e2:(Int.ofNat (if X<Y+k then 1 else 0))=if (X:Int)<Y+k then 1 else 0:=by
  by_cases h:X<Y+k
  ·rw [je h,je dk];rfl
  ·rw [jd h,jd dk];rfl
 rw [e1,e2]
theorem ANy (ip:P.funcs[f]? = some fn) (h_:fo fn) (hb:fn.body.isNone=true) (hn:Extern.findNext fn=none) (he:Extern.find fn=some o8):BJ P f subSpec:=by
 intro args H fr gv r β us w hs hc ha hg hf;unfold subSpec at hs;split at hs;case h_2=>cases hs
 rename_i x y z;split at hs;case h_2=>cases hs
 rename_i c1 a c2 b c3 c hx hy hz;injection hs with hs;subst hs;obtain ⟨u1,iu,r1,ha,rfl⟩:=ha;obtain ⟨u2,iw,r2,ha,rfl⟩:=ha;obtain ⟨u3,us3,r3,ha,rfl⟩:=ha;simp only [BI] at ha;subst ha;obtain ⟨rfl,p1⟩:=DJ (β:=β) (u:=u1) (fm r1) hx
 obtain ⟨rfl,p2⟩:=DJ (β:=β) (u:=u2) (fm r2) hy
 obtain ⟨rfl,p3⟩:=DJ (β:=β) (u:=u3) (fm r3) hz
 have hcc:=hc.1;simp only [CQ,ji] at hcc;have b1:=ES p1;have b2:=ES p2;refine ACl ip h_ hb hn he (ANx a b c b1 b2 hcc.1 hcc.2 w) ⟨_,β,rfl,Eff.pure_ hg ⟨_,⟨_,_,Aw ⟨rfl,rfl,?_⟩,⟨_,_,Aw ⟨rfl,rfl,?_⟩,rfl,rfl⟩,rfl⟩,rfl⟩⟩
 ·show has .u64 ((a-b-c) % 18446744073709551616);exact aC dk dk
 ·show has .u64 (if a<b+c then 1 else 0)
  split<;>exact aC dk dk
def aD:dr→FuncId→Option ASpec
 | [],_=>none
 | (k,s)::r,f=>match Nat.beq k f with | true=>some s | false=>aD r f
def aE:List (TypeId×List (Option IntKind))→TypeId→Option (List (Option IntKind))
 | [],_=>none
 | (k,s)::r,f=>match Nat.beq k f with | true=>some s | false=>aE r f
def AH (L:dr) (K:List (TypeId×List (Option IntKind))):gr:=⟨aD L,aE K⟩
def AW (P:Program):dr→Prop
 | []=>True
 | (f,s)::r=>BJ P f s∧AW P r
def MT (P:Program):List (TypeId×List (Option IntKind))→Prop
 | []=>True
 | (t,ks)::r=>(GK P 20 t=some ks∧P.eqGuardType P.depth t=false∧(match P.underlying t with | some d=>wide d | none=>false)=true)∧MT P r
theorem ANz {L:dr} (h:AW P L) {f:FuncId} {s:ASpec} (hl:aD L f=some s):BJ P f s:=by
 induction L with
 | nil=>cases hl
 | cons e L ih =>
  obtain ⟨k,q⟩:=e;simp only [aD] at hl;split at hl
  ·rename_i hb;injection hl with hl;subst hl;rw [← Ar.1 hb];exact h.1
  ·exact ih h.2 hl
theorem AN0 {L:List (TypeId×List (Option IntKind))} (h:MT P L) {f:TypeId} {s:List (Option IntKind)} (hl:aE L f=some s) :
  GK P 20 f=some s∧P.eqGuardType P.depth f=false∧(match P.underlying f with | some d=>wide d | none=>false)=true:=by
 induction L with
 | nil=>cases hl
 | cons e L ih =>
  obtain ⟨k,q⟩:=e;simp only [aE] at hl;split at hl
  ·rename_i hb;injection hl with hl;subst hl;rw [← Ar.1 hb];exact h.1
  ·exact ih h.2 hl
theorem AJ {L:dr} {K:List (TypeId×List (Option IntKind))} (h:AW P L) (k:MT P K):gp P (AH L K) :=
 ⟨fun _ _ hl=>ANz h hl,fun _ _ hl=>AN0 k hl⟩
end
end Go.Proofs.YtgnajdcdcblaoaaGreat.Ex
namespace Go.Proofs.YtgnajdcdcblaoaaGreat
theorem jb {α} {P:α→Prop}:∀ x∈([]:List α),P x:=fun _ h=>by cases h
end Go.Proofs.YtgnajdcdcblaoaaGreat
namespace Go.Proofs.YtgnajdcdcblaoaaGreat.Ex
def MU (keep:List Nat):Nat→List AV→List AV
 | _,[]=>[]
 | i,x::r=>match E0 i keep with
  | true=>x::MU keep (i+1) r
  | false=>.any::MU keep (i+1) r
def K8 (n:Nat):List Nat→Bool
 | []=>true
 | k::r=>match Nat.blt k n with | true=>K8 n r | false=>false
def T6 (n:Nat):List AV→Bool
 | []=>true
 | x::r=>match K8 n (Jt x) with | true=>T6 n r | false=>false
def Ju (n:Nat):Heap→Bool
 | []=>true
 | (k,y)::r=>match Nat.blt k n,y with
  | true,some blk=>match K8 n (ER blk.cs) with | true=>Ju n r | false=>false
  | true,none=>Ju n r
  | false,_=>false
theorem Bf {a b:Nat}:Nat.blt a b=true↔a<b:=by unfold Nat.blt;exact ⟨jf,jh⟩
theorem T7 {n:Nat}:∀ {l:List Nat},K8 n l=true→∀ k∈l,k<n
 | [],_,k,h=>by cases h
 | x::r,h,k,hk=>by
  simp only [K8] at h;split at h
  ·rename_i hb;rcases ju.1 hk with rfl | hk
   ·exact Bf.1 hb
   ·exact T7 h k hk
  ·cases h
def K9 (β:Env) (n:Nat):Env:=fun b=>match Nat.blt b n with | true=>β b | false=>none
theorem EM {β:Env} {n b:Nat} (h:b<n):K9 β n b=β b:=by simp [K9,Bf.2 h]
theorem Q' {β:Env} {n b:Nat} (h:n≤b):K9 β n b=none:=by
 have:Nat.blt b n=false:=by cases hb:Nat.blt b n with | false=>rfl | true=>have:=Bf.1 hb;omega
 simp [K9,this]
theorem K_ {β:Env} {n b:Nat} {X:Loc} (h:K9 β n b=some X):β b=some X∧b<n:=by
 rcases jv b n with ik | hge
 ·rw [EM ik] at h;exact ⟨h,ik⟩
 ·rw [Q' hge] at h;cases h
section
variable {β β':Env}
theorem ACm:∀ {caps:List (Nat×Nat)} {l:List Value},(∀ k∈caps.map (·.1),β' k=β k)→GE β caps l→GE β' caps l
 | [],_,_,h=>h
 | (b,o)::r,l,hk,⟨B,n,l',h1,h2,h3⟩=>⟨B,n,l',by rw [hk b (by simp)];exact h1,ACm (fun k h=>hk k (by simp at h ⊢;exact .inr h)) h2,h3⟩
theorem AN1 {c:Ch} {l:List Value} (hk:∀ k∈NV c,β' k=β k) (h:BM β c l):BM β' c l:=by
 cases c<;>simp only [NV] at hk<;>simp only [BM] at h ⊢
 case n=>exact h
 case b=>exact h
 case v=>exact h
 case p=>rw [hk _ (by simp)];exact h
 case sl=>rw [hk _ (by simp)];exact h
 case sx=>rw [hk _ (by simp)];exact h
 case num=>exact h
 case seq=>exact h
 case clo=>obtain ⟨ps,h1,h2⟩:=h;exact ⟨ps,ACm hk h1,h2⟩
 case mth=>rw [hk _ (by simp)];exact h
 case yl=>rw [hk _ (by simp)];exact h
 case mp=>rw [hk _ (by simp)];exact h
 case mk=>exact h
theorem Ho:∀ {cs:List Ch} {l:List Value},(∀ k∈ER cs,β' k=β k)→AQ β cs l→AQ β' cs l
 | [],_,_,h=>h
 | c::cs,l,hk,⟨l1,l2,h1,h2,h3⟩=>by
  simp only [ER,Cz,jp] at hk;exact ⟨l1,l2,AN1 (fun k h=>hk k (.inl h)) h1,Ho (fun k h=>hk k (.inr h)) h2,h3⟩
theorem ACn {g:Bool} {cs:List Ch} {u:Value} (hk:∀ k∈ER cs,β' k=β k) (h:Bx β g cs u):Bx β' g cs u:=by
 cases g
 ·exact Ho hk h
 ·obtain ⟨l,h1,h2⟩:=h;exact ⟨l,Ho hk h1,h2⟩
theorem ACo:∀ {xs:List (Bool×List Ch)} {l:List Value},(∀ k∈K4 xs,β' k=β k)→GF β xs l→GF β' xs l
 | [],_,_,h=>h
 | (g,cs)::xs,l,hk,⟨u,l',h1,h2,h3⟩=>by
  simp only [K4,Cz,jp] at hk;exact ⟨u,l',ACn (fun k h=>hk k (.inl h)) h1,ACo (fun k h=>hk k (.inr h)) h2,h3⟩
theorem o9 {x:AV} {u:Value} (hk:∀ k∈Jt x,β' k=β k) (h:AN β x u):AN β' x u:=by
 cases x with
 | val g cs=>exact ACn hk h
 | tup xs=>obtain ⟨us,h1,h2⟩:=h;exact ⟨us,ACo hk h1,h2⟩
 | any=>trivial
end
def W0 (keep ks:List Nat) (fr:Nat) (gv:List Bool) (s:St):Option St :=
 match T6 fr (MU keep 0 s.T),Ju fr (restrict s.H ks) with
 | true,true=>some ⟨MU keep 0 s.T,restrict s.H ks,fr,gv⟩
 | _,_=>none
theorem pA {n:Nat}:∀ {T:List AV} {t:Nat},T6 n T=true→∀ k∈Jt (Ap T t),k<n
 | [],_,_,k,h=>by simp [Ap,Jt] at h
 | x::r,0,h,k,hk=>by
  simp only [T6] at h;split at h
  ·rename_i h1;exact T7 h1 k hk
  ·cases h
 | x::r,t+1,h,k,hk=>by
  simp only [T6] at h;split at h
  ·exact pA h k hk
  ·cases h
theorem LA {n:Nat}:∀ {H:Heap} {b:Nat} {blk:gt},Ju n H=true→AG H b=some blk→b<n∧∀ k∈ER blk.cs,k<n
 | [],_,_,_,h=>by cases h
 | (k,y)::r,b,blk,h,hb=>by
  simp only [Ju] at h;simp only [AG] at hb;split at h
  ·rename_i hk;split at h
   ·rename_i g_;split at hb
    ·rename_i e;rw [← Ar.1 e];injection hb with hb;subst hb;exact ⟨Bf.1 hk,T7 g_⟩
    ·exact LA h hb
   ·cases h
  ·rename_i hk;split at hb
   ·cases hb
   ·exact LA h hb
  ·cases h
theorem ACp (keep:List Nat):∀ {T:List AV} {i t:Nat},Ap (MU keep i T) t=Ap T t∨Ap (MU keep i T) t=.any
 | [],i,t=>.inl rfl
 | x::r,i,0=>by
  simp only [MU];split
  ·exact .inl rfl
  ·exact .inr rfl
 | x::r,i,t+1=>by
  simp only [MU];split<;>exact ACp keep
theorem ACq (keep:List Nat):∀ {T:List AV} {i:Nat},(MU keep i T).length=T.length
 | [],_=>rfl
 | x::r,i=>by simp only [MU];split<;>simp [ACq keep]
section
variable {P:Program} {O:gr} {f:FuncId} {β0:Env} {w0:World} {R:Ending→World→Prop} {n:Fz} {W:List Nat}
theorem AN2 {keep ks:List Nat} {fr:Nat} {gv:List Bool} {s s':St} (h:W0 keep ks fr gv s=some s') (i_:Be n s):Be n s':=by
 unfold W0 at h;split at h
 ·rename_i h1 h2;injection h with h;subst h;refine ⟨fun b hb=>?_,by simp only [ACq];exact i_.2⟩
  cases hq:AG (restrict s.H ks) b with
  | none=>rfl
  | some blk=>have:=(LA h2 hq).1;simp only at hb;omega
 ·cases h
theorem AN3 {keep ks:List Nat} {fr:Nat} {gv:List Bool} {s s':St} {todo:List Item} (h:W0 keep ks fr gv s=some s') (hβ0:∀ b,fr≤b→β0 b=none)
  (hs:gn P f β0 w0 R n W ⟨todo,s'⟩):gn P f β0 w0 R n W ⟨todo,s⟩:=by
 unfold W0 at h;split at h
 ·rename_i h1 h2;injection h with h;subst h;intro β a w hi hf;refine hs (K9 β fr) a w ?_ (fun b hb=>Q' hb)
  refine { hi with tmp:=fun t=>?_,good:=?_,new:=fun b X hb=>?_,ext:=fun b B hb=>?_ }
  ·have hk:=pA (t:=t) h1
   simp only
   rcases ACp keep (T:=s.T) (i:=0) (t:=t) with e | e
   ·rw [e] at hk ⊢;exact o9 (fun k hkk=>EM (hk k hkk)) (hi.tmp t)
   ·rw [e];trivial
  ·refine ⟨fun b blk hb=>?_,fun b b' B m m' h3 h4 h5 h6=>?_,fun b B m hb=>hi.good.lt b B m (K_ hb).1⟩
   ·obtain ⟨e1,e2⟩:=LA h2 hb;rcases hi.good.heap b blk (NX hb) with ⟨B,m,l,t,pre,ty,fz,q1,q2,q3⟩ | ⟨X,q1,q2,q3⟩ | ⟨B,l,es,q,q1,q2,q3,q4⟩
    ·exact .inl ⟨B,m,l,t,pre,ty,fz,by rw [EM e1];exact q1,Ho (fun k hk=>EM (e2 k hk)) q2,q3⟩
    ·exact .inr (.inl ⟨X,by rw [EM e1];exact q1,q2,Ho (fun k hk=>EM (e2 k hk)) q3⟩)
    ·exact .inr (.inr ⟨B,l,es,q,by rw [EM e1];exact q1,q2,Ho (fun k hk=>EM (e2 k hk)) q3,q4⟩)
   ·obtain ⟨x,hx,hr⟩:=GZ h3;obtain ⟨y,hy⟩:=lj.1 h4;exact hi.good.inj b b' B m m' (GJ (NX hx) hr) (by rw [NX hy];rfl) (K_ h5).1 (K_ h6).1
  ·exact hi.new b X (K_ hb).1
  ·have ik:b<fr:=by
    rcases jv b fr with h | h
    ·exact h
    ·rw [hβ0 b h] at hb;cases hb
   rw [EM ik];exact hi.ext b B hb
 ·cases h
def ET (k0:Nat):List Nat→List Nat
 | []=>[]
 | k::r=>match Nat.blt k k0,E0 k (ET k0 r) with
  | true,false=>k::ET k0 r
  | _,_=>ET k0 r
theorem aG {k0 k:Nat}:∀ {l:List Nat},k∈l→k<k0→k∈ET k0 l
 | [],h,_=>by cases h
 | x::r,h,ik=>by
  simp only [ET];rcases ju.1 h with rfl | h
  ·rw [Bf.2 ik];cases hm:E0 k (ET k0 r) with
   | true=>simp only;exact Q5.1 hm
   | false=>simp
  ·have ih:=aG h ik;split
   ·exact nx _ ih
   ·exact ih
theorem Inv.old {W W':List Nat} {k0:Nat} {β:Env} {τ:Nat→AV} {H:Heap} {a:Act} {w:World} (i:Inv β0 w0 W n β τ H a w) (h0:∀ b,k0≤b→β0 b=none) (h:∀ k∈W,k<k0→k∈W'):Inv β0 w0 W' n β τ H a w :=
 { i with
  new:=fun b X hb=>(i.new b X hb).imp id fun q B m e=>(q B m e).imp id fun ⟨k,m',h1,h2⟩=>⟨k,m',h k h1 (by
   rcases jv k k0 with h | h
   ·exact h
   ·rw [h0 k h] at h2;cases h2),h2⟩
  frame:=fun B hB iz=>i.frame B hB fun k m hk hk2=>iz k m (h k hk (by
   rcases jv k k0 with h | h
   ·exact h
   ·rw [h0 k h] at hk2;cases hk2)) hk2 }
theorem gn.old {W W':List Nat} {k0:Nat} {x:gq} (h0:∀ b,k0≤b→β0 b=none) (h:∀ k∈W,k<k0→k∈W') (hs:gn P f β0 w0 R n W' x):gn P f β0 w0 R n W x :=
 fun β a w hi hf=>hs β a w (hi.old h0 h) hf
def AY (P:Program) (O:gr) (stop:Option Nat) (ia k0:Nat) (fg:Option (List Nat×List Nat×Nat)) (x:gq):Option (dp×List Nat×gq) :=
 match K7 P O stop ia x with
 | some (g,y)=>match fg with
  | some (keep,ks,fr)=>match W0 keep ks fr [] y.s,Nat.ble k0 fr with
   | some s',true=>some (g.conds,ET k0 g.keys,⟨y.todo,s'⟩)
   | _,_=>none
  | none=>some (g.conds,ET k0 g.keys,y)
 | none=>none
theorem Ai (hO:gp P O) (hm:P.follows .mixedOrders=true) {stop:Option Nat} {ia k0:Nat} {fg:Option (List Nat×List Nat×Nat)} {x y:gq} {conds:dp} {ks:List Nat} (h:AY P O stop ia k0 fg x=some (conds,ks,y))
  (hc:AO conds) (i_:Be n x.s) (h0:∀ b,k0≤b→β0 b=none) (hks:∀ k∈ks,k∈W) (hs:Be n y.s→gn P f β0 w0 R n W y):gn P f β0 w0 R n W x:=by
 unfold AY at h;split at h;case h_2=>cases h
 rename_i g y1 ii;have hW:∀ k∈W++g.keys,k<k0→ET k0 g.keys=ks→k∈W:=by
  intro k hk ik he;rcases jp.1 hk with hk | hk
  ·exact hk
  ·exact hks k (by rw [← he];exact aG hk ik)
 split at h
 ·rename_i keep ks' fr;split at h
  ·rename_i s' hfg ir;injection h with h;injection h with h1 h;injection h with h2 h3;subst h1;subst h3;refine Wx hO hm ii hc i_ fun hw=>?_
   have hle':=jf ir;refine gn.old h0 (fun k hk ik=>hW k hk ik h2) ?_
   exact AN3 hfg (fun b hb=>h0 b dk) (hs (AN2 hfg hw))
  ·cases h
 ·injection h with h;injection h with h1 h;injection h with h2 h3;subst h1;subst h3;refine Wx hO hm ii hc i_ fun hw=>?_
  exact gn.old h0 (fun k hk ik=>hW k hk ik h2) (hs hw)
def Nh (n:Fz) (s:St):Bool:=Ju s.fr s.H&&Nat.beq (F2 s.T) n.n
theorem AS {s:St} (h:Nh n s=true):Be n s:=by
 have h':=jo.1 h;refine ⟨fun b hb=>?_,by have:=Ar.1 h'.2;rwa [JA] at this⟩
 cases hq:AG s.H b with
 | none=>rfl
 | some blk=>have:=(LA h'.1 hq).1;omega
def Aj (fn:Func) (args:List AV) (H:Heap) (k0:Nat) (gv:List Bool):gq :=
 ⟨match fn.body with | some c=>[.code c] | none=>[],⟨Gu args fn.ntmps,H,k0,gv⟩⟩
def JB (P:Program) (fn:Func) (y:gq):Option AV :=
 match K6 y.todo,PJ P y.s.T y.s.H fn.results.toList with
 | true,some l=>some (Tz l)
 | _,_=>none
theorem ACr {fn:Func} {y:gq} {v:AV} (ip:P.funcs[f]? = some fn) (h:JB P fn y=some v) (hR:∀ e w,A_ β0 w0 W v y.s.H e w→R e w) (hD:n.D=[]:=by rfl):gn P f β0 w0 R n W y:=by
 unfold JB at h;split at h
 ·rename_i l h1 h2;injection h with h;subst h;intro β a w hi hf;have:=o5 (P:=P) (n:=n) (W:=W) (β0:=β0) (w0:=w0) hD ip h1 h2 β a w hi hf
  intro b cs hb hk;obtain ⟨e,w',fr,q1,q2⟩:=this b cs hb hk;exact ⟨e,w',fr,hR _ _ q1,q2⟩
 ·cases h
end
section
variable {P:Program} {f:FuncId} {fn:Func}
theorem W2 {R:Ending→World→Prop} (ip:P.funcs[f]? = some fn) (hb:fn.body.isSome=true) {args:List AV} {H:Heap} {k0:Nat} {gv:List Bool} {β:Env} {us:List Value} {w:World} (gx:Nat.ble (F2 args) fn.ntmps=true)
  (h:gn P f β w R fn.ntmps [] (Aj fn args H k0 gv)) (ha:BI β args us) (hg:Good β H w) (hf:∀ b,k0≤b→β b=none):Calls P f ⟨us⟩ w R:=by
 obtain ⟨c,hc⟩:=lj.1 hb;have hl:=jf gx;rw [JA] at hl;unfold Aj at h;rw [hc] at h;exact Wz ip hc hl h ha hg hf
end
open Go.RowKit (Below)
def Hp (w0:World) (v:AV):Ending→World→Prop:=fun e w'=>∃ u,e=.returned u∧AN CE v u∧Below w0.heap.size w0 w'
def FH (P:Program) (O:gr) (fn:Func) (ia k0:Nat) (x:gq):Option (dp×List Nat×AV) :=
 match K7 P O none ia x with
 | some (g,y)=>match JB P fn y with
  | some v=>some (g.conds,ET k0 g.keys,v)
  | none=>none
 | none=>none
section
variable {P:Program} {O:gr} {f:FuncId} {fn:Func} {β0:Env} {w0:World} {n:Fz}
theorem IU (hO:gp P O) (hm:P.follows .mixedOrders=true) (ip:P.funcs[f]? = some fn) {ia k0:Nat} {x:gq} {conds:dp} {v:AV} (h:FH P O fn ia k0 x=some (conds,[],v)) (hc:AO conds) (i_:Be n x.s)
  (h0:∀ b,k0≤b→β0 b=none) (hk:PK v=true) (hD:n.D=[]:=by rfl):gn P f β0 w0 (Hp w0 v) n [] x:=by
 unfold FH at h;split at h;case h_2=>cases h
 rename_i g y ii;split at h;case h_2=>cases h
 rename_i v' hv;injection h with h;injection h with h1 h;injection h with h2 h3;subst h1;subst h3;refine Ai (W:=[]) hO hm (ia:=ia) (k0:=k0) (fg:=none) (stop:=none) (ks:=[]) (y:=y) (by unfold AY;rw [ii];simp only;rw [h2]) hc i_ h0 jb fun _=>?_
 intro β a w hi hf;unfold JB at hv;split at hv;case h_2=>cases hv
 rename_i l e1 e2;injection hv with hv;subst hv;have:=o5 (P:=P) (n:=n) (W:=[]) (β0:=β0) (w0:=w0) hD ip e1 e2 β a w hi hf
 intro b cs hb hkd;obtain ⟨e,w',fr,⟨u,β',q0,q1⟩,q2⟩:=this b cs hb hkd;exact ⟨e,w',fr,⟨u,q0,MS hk q1.val,q1.os,q1.tape,q1.output,q1.size,fun k hk=>q1.frame k hk (fun _ _ h=>by cases h)⟩,q2⟩
theorem Ni (ip:P.funcs[f]? = some fn) (hb:fn.body.isSome=true) {args:List AV} {gv:List Bool} {v:AV} (gx:Nat.ble (F2 args) fn.ntmps=true)
  (h:∀ w0,gn P f CE w0 (Hp w0 v) fn.ntmps [] (Aj fn args [] 0 gv)):AU P f args v :=
 fun _ w ha=>W2 ip hb gx (h w) ha (Good.none_ w) (fun _ _=>rfl)
theorem Af {R:Ending→World→Prop} {W:List Nat} {todo:List Item} {T:List AV} {H:Heap} {fr:Nat} {p:List Bool} (q:List Bool) (h:gn P f β0 w0 R n W ⟨todo,⟨T,H,fr,q⟩⟩):gn P f β0 w0 R n W ⟨todo,⟨T,H,fr,p⟩⟩:=h
end
end Go.Proofs.YtgnajdcdcblaoaaGreat.Ex
namespace Go.Proofs.YtgnajdcdcblaoaaGreat.Ex
def aH (κ:Nat→Nat):List (Nat×Nat)→List (Nat×Nat)
 | []=>[]
 | (b,o)::r=>(κ b,o)::aH κ r
def W3 (κ:Nat→Nat):Ch→Ch
 | .p b o=>.p (κ b) o
 | .sl b o l c=>.sl (κ b) o l c
 | .sx b l s=>.sx (κ b) l s
 | .clo f caps=>.clo f (aH κ caps)
 | .mth f b o=>.mth f (κ b) o
 | .yl b=>.yl (κ b)
 | .mp b=>.mp (κ b)
 | .mk=>.mk
 | .n k i=>.n k i
 | .b x=>.b x
 | .v x=>.v x
 | .num k x=>.num k x
 | .seq k l=>.seq k l
def IV (κ:Nat→Nat):List Ch→List Ch
 | []=>[]
 | c::r=>W3 κ c::IV κ r
def aI (κ:Nat→Nat):List (Bool×List Ch)→List (Bool×List Ch)
 | []=>[]
 | (g,cs)::r=>(g,IV κ cs)::aI κ r
def W4 (κ:Nat→Nat):AV→AV
 | .val g cs=>.val g (IV κ cs)
 | .tup xs=>.tup (aI κ xs)
 | .any=>.any
section
variable {β β':Env} {κ:Nat→Nat}
theorem ACs:∀ {caps:List (Nat×Nat)} {l:List Value},(∀ k∈caps.map (·.1),∀ X,β k=some X→β' (κ k)=some X)→GE β caps l→GE β' (aH κ caps) l
 | [],_,_,h=>h
 | (b,o)::r,l,hk,⟨B,n,l',h1,h2,h3⟩=>⟨B,n,l',hk b (by simp) _ h1,ACs (fun k h=>hk k (by simp at h ⊢;exact .inr h)) h2,h3⟩
theorem AN4 {c:Ch} {l:List Value} (hk:∀ k∈NV c,∀ X,β k=some X→β' (κ k)=some X) (h:BM β c l):BM β' (W3 κ c) l:=by
 cases c<;>simp only [NV] at hk<;>simp only [W3,BM] at h ⊢
 case n=>exact h
 case b=>exact h
 case v=>exact h
 case p=>obtain ⟨B,n,h1,h2⟩:=h;exact ⟨B,n,hk _ (by simp) _ h1,h2⟩
 case sl =>
  rcases h with ⟨B,n,h1,h2⟩ | ⟨h1,h2⟩ | ⟨h1,h2⟩
  ·exact .inl ⟨B,n,hk _ (by simp) _ h1,h2⟩
  ·exact .inr (.inl ⟨hk _ (by simp) _ h1,h2⟩)
  ·exact .inr (.inr ⟨hk _ (by simp) _ h1,h2⟩)
 case sx =>
  rcases h with ⟨B,n,cap,h1,h2⟩ | ⟨h1,h2⟩
  ·exact .inl ⟨B,n,cap,hk _ (by simp) _ h1,h2⟩
  ·exact .inr ⟨hk _ (by simp) _ h1,h2⟩
 case num=>exact h
 case seq=>exact h
 case clo=>obtain ⟨ps,h1,h2⟩:=h;exact ⟨ps,ACs hk h1,h2⟩
 case mth=>obtain ⟨B,n,h1,h2⟩:=h;exact ⟨B,n,hk _ (by simp) _ h1,h2⟩
 case yl=>obtain ⟨B,n,h1,h2⟩:=h;exact ⟨B,n,hk _ (by simp) _ h1,h2⟩
 case mp=>obtain ⟨B,h1,h2⟩:=h;exact ⟨B,hk _ (by simp) _ h1,h2⟩
 case mk=>exact h
theorem T8:∀ {cs:List Ch} {l:List Value},(∀ k∈ER cs,∀ X,β k=some X→β' (κ k)=some X)→AQ β cs l→AQ β' (IV κ cs) l
 | [],_,_,h=>h
 | c::cs,l,hk,⟨l1,l2,h1,h2,h3⟩=>by
  simp only [ER,Cz,jp] at hk;exact ⟨l1,l2,AN4 (fun k h=>hk k (.inl h)) h1,T8 (fun k h=>hk k (.inr h)) h2,h3⟩
theorem ACt {g:Bool} {cs:List Ch} {u:Value} (hk:∀ k∈ER cs,∀ X,β k=some X→β' (κ k)=some X) (h:Bx β g cs u):Bx β' g (IV κ cs) u:=by
 cases g
 ·exact T8 hk h
 ·obtain ⟨l,h1,h2⟩:=h;exact ⟨l,T8 hk h1,h2⟩
theorem ACu:∀ {xs:List (Bool×List Ch)} {l:List Value},(∀ k∈K4 xs,∀ X,β k=some X→β' (κ k)=some X)→GF β xs l→GF β' (aI κ xs) l
 | [],_,_,h=>h
 | (g,cs)::xs,l,hk,⟨u,l',h1,h2,h3⟩=>by
  simp only [K4,Cz,jp] at hk;exact ⟨u,l',ACt (fun k h=>hk k (.inl h)) h1,ACu (fun k h=>hk k (.inr h)) h2,h3⟩
theorem AN5 {x:AV} {u:Value} (hk:∀ k∈Jt x,∀ X,β k=some X→β' (κ k)=some X) (h:AN β x u):AN β' (W4 κ x) u:=by
 cases x with
 | val g cs=>exact ACt hk h
 | tup xs=>obtain ⟨us,h1,h2⟩:=h;exact ⟨us,ACu hk h1,h2⟩
 | any=>trivial
end
def Ab (P:Program) (f:FuncId) (ic:List AV) (H0:Heap) (k0:Nat) (W:List Nat) (val:AV) (H1:Heap):Prop :=
 ∀ (β:Env) (us:List Value) (w:World),BI β ic us→Good β H0 w→(∀ b,k0≤b→β b=none)→Calls P f ⟨us⟩ w (A_ β w W val H1)
def nth:List Nat→Nat→Nat
 | [],_=>0
 | x::_,0=>x
 | _::r,n+1=>nth r n
def RA (ρ:List Nat) (k0 fr:Nat):Nat→Nat:=fun k=>match Nat.blt k k0 with | true=>nth ρ k | false=>fr+(k-k0)
def A9 (β:Env) (ρ:List Nat) (k0:Nat):Env:=fun k=>match Nat.blt k k0 with | true=>β (nth ρ k) | false=>none
def T9 (κ:Nat→Nat) (H1:Heap):List Nat→Heap
 | []=>[]
 | k::r=>(κ k,(AG H1 k).map fun b=>⟨b.ty,IV κ b.cs,b.opn⟩)::T9 κ H1 r
def Jv (k0:Nat):Heap→List Nat
 | []=>[]
 | (k,_)::r=>match Nat.blt k k0,E0 k (Jv k0 r) with
  | false,false=>k::Jv k0 r
  | _,_=>Jv k0 r
theorem pB {k0 k:Nat}:∀ {H:Heap},k∈Jv k0 H→k0≤k
 | [],h=>by cases h
 | (j,y)::r,h=>by
  simp only [Jv] at h;split at h
  ·rename_i hb _;rcases ju.1 h with rfl | h
   ·rcases jv k k0 with ik | hge
    ·rw [Bf.2 ik] at hb;cases hb
    ·exact hge
   ·exact pB h
  ·exact pB h
theorem pC {k0 k:Nat} {b:gt}:∀ {H:Heap},AG H k=some b→k0≤k→k∈Jv k0 H
 | [],h,_=>by cases h
 | (j,y)::r,h,hk=>by
  simp only [AG] at h;simp only [Jv];split at h
  ·rename_i e;have:=Ar.1 e
   subst this;have h1:Nat.blt j k0=false:=by cases hq:Nat.blt j k0 with | false=>rfl | true=>have:=Bf.1 hq;omega
   rw [h1];cases hm:E0 j (Jv k0 r) with
   | true=>exact Q5.1 hm
   | false=>simp
  ·have ih:=pC h hk;split
   ·exact nx _ ih
   ·exact ih
def RB (k0:Nat) (H1:Heap):List Nat→Bool
 | []=>true
 | k::r=>match Nat.blt k k0,AG H1 k with
  | true,_=>RB k0 H1 r
  | false,some _=>RB k0 H1 r
  | false,none=>false
theorem T_ {k0:Nat} {H1:Heap}:∀ {l:List Nat},RB k0 H1 l=true→∀ k∈l,k<k0∨(AG H1 k).isSome=true
 | [],_,k,h=>by cases h
 | x::r,h,k,hk=>by
  simp only [RB] at h;split at h
  ·rename_i hb;rcases ju.1 hk with rfl | hk
   ·exact .inl (Bf.1 hb)
   ·exact T_ h k hk
  ·rename_i b hb hg;rcases ju.1 hk with rfl | hk
   ·exact .inr (by rw [hg];rfl)
   ·exact T_ h k hk
  ·cases h
def aJ (k0:Nat) (H1:Heap):List Nat→Bool
 | []=>true
 | k::r=>match AG H1 k with
  | some b=>match RB k0 H1 (ER b.cs),Nat.beq b.ty Bu with | true,false=>aJ k0 H1 r | _,_=>false
  | none=>false
theorem aK {k0:Nat} {H1:Heap}:∀ {l:List Nat},aJ k0 H1 l=true→∀ k∈l,∃ b,AG H1 k=some b∧RB k0 H1 (ER b.cs)=true∧b.ty≠Bu
 | [],_,k,h=>by cases h
 | x::r,h,k,hk=>by
  simp only [aJ] at h;split at h
  ·rename_i b hb;split at h
   ·rename_i hok hro;rcases ju.1 hk with rfl | hk
    ·exact ⟨b,hb,hok,Zl hro⟩
    ·exact aK h k hk
   ·cases h
  ·cases h
def BR (ρ:List Nat) (k0 fr nw:Nat) (W:List Nat) (val:AV) (H1:Heap) (conds:dp) (gv:List Bool):R :=
 ⟨W4 (RA ρ k0 fr) val,T9 (RA ρ k0 fr) H1 (cat W (Jv k0 H1)),nw,conds,gv⟩
def EU (k0 nw:Nat) (W:List Nat) (val:AV) (H1:Heap):Bool :=
 K8 k0 W&&(RB k0 H1 (Jt val)&&(aJ k0 H1 (cat W (Jv k0 H1))&&Ju (k0+nw) H1))
theorem ACv {κ:Nat→Nat} {H1:Heap} {k:Nat} {y:Option gt}:∀ {l:List Nat},(k,y)∈T9 κ H1 l→∃ j∈l,k=κ j∧y=(AG H1 j).map fun b=>⟨b.ty,IV κ b.cs,b.opn⟩
 | [],h=>by cases h
 | x::r,h=>by
  simp only [T9,ju,jz] at h;rcases h with ⟨h1,h2⟩ | h
  ·exact ⟨x,by simp,h1,h2⟩
  ·obtain ⟨j,h1,h2⟩:=ACv h;exact ⟨j,by simp [h1],h2⟩
theorem ACw {κ:Nat→Nat} {H1:Heap} {j:Nat}:∀ {l:List Nat},j∈l→(κ j,(AG H1 j).map fun b=>(⟨b.ty,IV κ b.cs,b.opn⟩:gt))∈T9 κ H1 l
 | x::r,h=>by
  simp only [T9,ju];rcases ju.1 h with rfl | h
  ·exact .inl rfl
  ·exact .inr (ACw h)
theorem ACx {β:Env} {w w':World} {ρ:List Nat} {k0 fr nw:Nat} {W:List Nat} {val:AV} {H H1:Heap} {u:Value} {β1:Env} {conds:dp} {gv:List Bool} (g:Good β H w)
  (ho:Out (A9 β ρ k0) w W val H1 u w' β1) (hb:EU k0 nw W val H1=true) (hf:∀ b,fr≤b→b<fr+nw→β b=none) (hdef:∀ k,k<k0→∃ X,β (nth ρ k)=some X):∃ β',Eff β fr (BR ρ k0 fr nw W val H1 conds gv) w u w' β':=by
 unfold EU at hb;simp only [jm] at hb;obtain ⟨c1,c2,c3,c4⟩:=hb;have hW:=T7 c1;have hlive:∀ k,(AG H1 k).isSome=true→k<k0+nw:=by
  intro k hk;obtain ⟨b,hb⟩:=lj.1 hk;exact (LA c4 hb).1
 have newr:∀ k,k0≤k→(AG H1 k).isSome=true→GY H1 k=true:=by
  intro k hk hs;obtain ⟨b,hb⟩:=lj.1 hs;obtain ⟨b',hb',_,hr⟩:=aK c3 k (by rw [Cz,jp];exact .inr (pC hb hk))
  exact GJ hb' hr
 let β':Env:=fun b=>match Nat.ble fr b&&Nat.blt b (fr+nw),AG H1 (k0+(b-fr)) with
  | true,some _=>β1 (k0+(b-fr))
  | true,none=>none
  | false,_=>β b
 have out:∀ b,¬ (fr≤b∧b<fr+nw)→β' b=β b:=by
  intro b hb;have:(Nat.ble fr b&&Nat.blt b (fr+nw))=false:=by
   cases h:Nat.ble fr b&&Nat.blt b (fr+nw) with
   | false=>rfl
   | true =>
    have:=jo.1 h
    exact absurd ⟨jf this.1,Bf.1 this.2⟩ hb
  show (match Nat.ble fr b&&Nat.blt b (fr+nw),AG H1 (k0+(b-fr)) with | true,some _=>β1 (k0+(b-fr)) | true,none=>none | false,_=>β b)=β b
  rw [this]
 have inn:∀ b,fr≤b→b<fr+nw→∀ X,β' b=some X→(AG H1 (k0+(b-fr))).isSome=true∧β1 (k0+(b-fr))=some X:=by
  intro b h1 h2 X hX;have:(Nat.ble fr b&&Nat.blt b (fr+nw))=true:=by rw [jh h1,Bf.2 h2];rfl
  change (match Nat.ble fr b&&Nat.blt b (fr+nw),AG H1 (k0+(b-fr)) with | true,some _=>β1 (k0+(b-fr)) | true,none=>none | false,_=>β b)=some X at hX
  rw [this] at hX;cases hq:AG H1 (k0+(b-fr)) with
  | none=>rw [hq] at hX;cases hX
  | some y=>rw [hq] at hX;exact ⟨rfl,hX⟩
 have new1:∀ k,k0≤k→(AG H1 k).isSome=true→∀ X,β1 k=some X→β' (fr+(k-k0))=some X:=by
  intro k hk hl X hX;have h2:=hlive k hl;have e:k0+(fr+(k-k0)-fr)=k:=dk
  have:(Nat.ble fr (fr+(k-k0))&&Nat.blt (fr+(k-k0)) (fr+nw))=true:=by rw [jh dk,Bf.2 dk];rfl
  show (match Nat.ble fr (fr+(k-k0))&&Nat.blt (fr+(k-k0)) (fr+nw),AG H1 (k0+(fr+(k-k0)-fr)) with | true,some _=>β1 (k0+(fr+(k-k0)-fr)) | true,none=>none | false,_=>β (fr+(k-k0)))=some X
  rw [this,e];obtain ⟨y,hy⟩:=lj.1 hl;rw [hy];exact hX
 have ext0:Env.le β β':=by
  intro b X hb;rw [out b (fun h=>by rw [hf b h.1 h.2] at hb;cases hb)]
  exact hb
 have inE:∀ k,k<k0→A9 β ρ k0 k=β (nth ρ k):=fun k hk=>by simp [A9,Bf.2 hk]
 have oldk:∀ k,k<k0→∀ X,β1 k=some X→β (nth ρ k)=some X:=by
  intro k hk X hX;obtain ⟨Y,hq⟩:=hdef k hk;have:=ho.ext k Y (by rw [inE k hk];exact hq)
  rw [this] at hX;injection hX with hX;subst hX;exact hq
 have kapk:∀ k,(k<k0∨(AG H1 k).isSome=true)→∀ X,β1 k=some X→β' (RA ρ k0 fr k)=some X:=by
  intro k hk X hX;unfold RA;rcases jv k k0 with ik | hge
  ·rw [Bf.2 ik];exact ext0 _ _ (oldk k ik X hX)
  ·have:Nat.blt k k0=false:=by cases h:Nat.blt k k0 with | false=>rfl | true=>have:=Bf.1 h;omega
   rw [this];rcases hk with hk | hk
   ·omega
   ·exact new1 k hge hk X hX
 refine ⟨β',ext0,?_,?_,?_,?_,?_,?_,ho.size,ho.os,ho.tape,ho.output⟩
 ·intro b X hX;by_cases hr:fr≤b∧b<fr+nw
  ·obtain ⟨hl,h1⟩:=inn b hr.1 hr.2 X hX;refine .inr ⟨hr.1,hr.2,fun B n e=>?_⟩
   subst e;rcases ho.new _ _ h1 with h | h
   ·have:Nat.blt (k0+(b-fr)) k0=false:=by cases h:Nat.blt (k0+(b-fr)) k0 with | false=>rfl | true=>have:=Bf.1 h;omega
    simp [A9,this] at h
   ·rcases h B n rfl with h | ⟨k,m',hk,hk2⟩
    ·exact .inl h
    ·have hk0:=hW k hk;obtain ⟨bb,hbb,_,hbr⟩:=aK c3 k (by rw [Cz,jp];exact .inl hk)
     have:=ho.good.inj _ _ _ _ _ (GJ hbb hbr) hl (ho.ext k _ hk2) h1
     omega
  ·rw [out b hr] at hX;exact .inl hX
 ·intro b B n hX;by_cases hr:fr≤b∧b<fr+nw
  ·exact ho.good.lt _ _ _ (inn b hr.1 hr.2 _ hX).2
  ·rw [out b hr] at hX;exact kr (g.lt _ _ _ hX) ho.size
 ·intro b b' B n n' h1 h2 h3 h4 h5 h6;obtain ⟨l1,q1⟩:=inn b h1 h3 _ h5;obtain ⟨l2,q2⟩:=inn b' h2 h4 _ h6;have:=ho.good.inj _ _ _ _ _ (newr _ dk l1) l2 q1 q2
  omega
 ·exact AN5 (fun k hk X hX=>kapk k (T_ c2 k hk) X hX) ho.val
 ·intro k y hk;obtain ⟨j,hj,e1,e2⟩:=ACv hk;obtain ⟨bb,hbb,hok,_⟩:=aK c3 j hj;rw [hbb] at e2;simp only [Option.map_some,jt] at e2;subst e1;subst e2;have hkj:j<k0∨(AG H1 j).isSome=true:=.inr (by rw [hbb];rfl)
  rcases ho.good.heap j bb hbb with ⟨B,n,l,t,pre,ty,fz,q1,q2,q3⟩ | ⟨X,q1,q2,q3⟩ | ⟨B,l,es,q,q1,q2,q3,q4⟩
  ·exact .inl ⟨B,n,l,t,pre,ty,fz,kapk j hkj _ q1,T8 (fun k hk X hX=>kapk k (T_ hok k hk) X hX) q2,q3⟩
  ·exact .inr (.inl ⟨X,kapk j hkj _ q1,q2,T8 (fun k hk X hX=>kapk k (T_ hok k hk) X hX) q3⟩)
  ·exact .inr (.inr ⟨B,l,es,q,kapk j hkj _ q1,q2,T8 (fun k hk X hX=>kapk k (T_ hok k hk) X hX) q3,q4⟩)
 ·intro B hB iz;refine ho.frame B hB fun k m hk hk2=>?_
  have hk0:=hW k hk;rw [inE k hk0] at hk2;have hmem:=ACw (κ:=RA ρ k0 fr) (H1:=H1) (j:=k) (l:=cat W (Jv k0 H1)) (by rw [Cz,jp];exact .inl hk)
  have e:RA ρ k0 fr k=nth ρ k:=by simp [RA,Bf.2 hk0]
  rw [e] at hmem;exact iz _ _ m hmem hk2
section
variable {P:Program} {O:gr} {f:FuncId} {fn:Func}
theorem HH (ip:P.funcs[f]? = some fn) (hbd:fn.body.isSome=true) (h_:fo fn) {s:ASpec}
  (h:∀ args H fr gv r,s args H fr gv=some r→∃ (ρ:List Nat) (ic:List AV) (H0:Heap) (k0 nw:Nat) (W:List Nat) (val:AV) (H1:Heap) (conds:dp) (path':List Bool),
   r=BR ρ k0 fr nw W val H1 conds path'∧(∀ β us w,BI β args us→Good β H w→AO conds→Ab P f ic H0 k0 W val H1∧EU k0 nw W val H1=true∧BI (A9 β ρ k0) ic us∧Good (A9 β ρ k0) H0 w∧(∀ k,k<k0→∃ X,β (nth ρ k)=some X))):BJ P f s:=by
 intro args H fr gv r β us w hs hc ha hg hf;obtain ⟨ρ,ic,H0,k0,nw,W,val,H1,conds,path',rfl,hh⟩:=h args H fr gv r hs;obtain ⟨hcan,hb,ha0,hg0,hdef⟩:=hh β us w ha hg hc;refine T5 ip hbd h_ (Calls.mono (hcan (A9 β ρ k0) us w ha0 hg0 fun b hb=>?_) ?_)
 ·have:Nat.blt b k0=false:=by cases h:Nat.blt b k0 with | false=>rfl | true=>have:=Bf.1 h;omega
  simp [A9,this]
 ·rintro e w' ⟨u,β1,rfl,ho⟩
  obtain ⟨β',he⟩:=ACx (conds:=conds) (gv:=path') hg ho hb hf hdef
  exact ⟨u,β',rfl,he⟩
def AT (P:Program) (O:gr) (fn:Func) (ia k0:Nat) (ks:List Nat) (x:gq):Option (dp×List Nat×AV×Heap) :=
 match K7 P O none ia x with
 | some (g,y)=>match JB P fn y with
  | some v=>some (g.conds,ET k0 g.keys,v,restrict y.s.H ks)
  | none=>none
 | none=>none
theorem Ay {β0:Env} {w0:World} {n:Fz} {W:List Nat} (hO:gp P O) (hm:P.follows .mixedOrders=true) (ip:P.funcs[f]? = some fn) {ia k0:Nat} {ks ks':List Nat} {x:gq} {conds:dp} {v:AV} {H1:Heap}
  (h:AT P O fn ia k0 ks x=some (conds,ks',v,H1)) (hc:AO conds) (i_:Be n x.s) (h0:∀ b,k0≤b→β0 b=none) (hks:∀ k∈ks',k∈W) (hD:n.D=[]:=by rfl):gn P f β0 w0 (A_ β0 w0 W v H1) n W x:=by
 unfold AT at h;split at h;case h_2=>cases h
 rename_i g y ii;split at h;case h_2=>cases h
 rename_i v' hv;injection h with h;injection h with h1 h;injection h with h2 h;injection h with h3 h4;subst h1;subst h3;subst h4;refine Ai (W:=W) hO hm (ia:=ia) (k0:=k0) (fg:=none) (stop:=none) (ks:=ks') (y:=y) (by unfold AY;rw [ii];simp only;rw [h2]) hc i_ h0 hks fun _=>?_
 refine ACr ip hv ?_ hD
 rintro e w ⟨u,β,q0,q1⟩
 exact ⟨u,β,q0,{ q1 with good:=q1.good.restrict ks }⟩
theorem A7 (ip:P.funcs[f]? = some fn) (hb:fn.body.isSome=true) {ic:List AV} {H0:Heap} {k0:Nat} {gv:List Bool} {W:List Nat} {v:AV} {H1:Heap} (gx:Nat.ble (F2 ic) fn.ntmps=true)
  (h:∀ β0 w0,(∀ b,k0≤b→β0 b=none)→gn P f β0 w0 (A_ β0 w0 W v H1) fn.ntmps W (Aj fn ic H0 k0 gv)):Ab P f ic H0 k0 W v H1 :=
 fun β _ w ha hg hf=>W2 ip hb gx (gn.old (k0:=k0) hf jb (h β w hf)) ha hg hf
end
end Go.Proofs.YtgnajdcdcblaoaaGreat.Ex
namespace Go.Proofs.YtgnajdcdcblaoaaGreat.Ex
open Go.RowKit (Below)
open Go.ChangeShapes Go.WideShapes Go.ChangeAt Go.RowKit
section
variable {H:Type} {enc:TypeId×Value→H} {P:Program} {w:World} {base:Nat} {spare:Nat→Bool} {held:Bool}
theorem ACy {k:IntKind} {i:Int} (h:(Lit.int k i).wf=true):has k i:=by
 simp only [Lit.wf,jm,ji] at h;exact h
end
theorem ACz {H:Type} {enc:TypeId×Value→H} {P:Program} {W:World} {base:Nat} {spare:Nat→Bool} {held:Bool}:∀ {ts:List TypeId} {vs:List Value} {ds:List (DataW H)} {ps:List MemPlace},DataW.TrodAll enc P W base spare held ts vs ds ps→vs.length=ts.length∧ds.length=ts.length
 | [],[],[],_,_=>⟨rfl,rfl⟩
 | _::_,_::_,_::_,_,⟨_,_,_,h,_⟩=>by have:=ACz h;simp [this]
theorem AC0 {H:Type} {enc:TypeId×Value→H} {P:Program} (hl:laidOutB P=true) {W W':World} (hb:Below W.heap.size W W'):∀ {ts:List TypeId} {vs:List Value} {ds:List (DataW H)} {ps:List MemPlace},
  ts.all (fun t=>P.readableRec t&&decide (t<P.types.size))=true→DataW.TrodAll enc P W 0 (fun _=>true) true ts vs ds ps→DataW.TrodAll enc P W' 0 (fun b=>decide (b<W.heap.size)) true ts vs ds ps
 | [],[],[],_,_,h=>h
 | _::_,_::_,_::_,_,hr,⟨p,q,h1,h2,e⟩=>by
  simp only [List.all_cons,jm,ji] at hr;have ik:∀ x∈p,x.block<W.heap.size:=by obtain ⟨m,hm⟩:=h1;exact DataW.trod_lt m _ _ _ hm
  exact ⟨p,q,Below.trod hl hr.1.1 hr.1.2 h1 hb ik,AC0 hl hb (by simpa using hr.2) h2,e⟩
def AN6 (s:ChangeSpec) (n:Nat):Prop:=s.vars=[]∧∀ (H:Type) (ds:List (DataW H)),ds.length=n→(s.fn H ds).results=[.lit (.bool true)]∧(s.fn H ds).args=ds∧(s.fn H ds).vars=[]
def pD (P:Program) (f:FuncId) (fn:Func):Prop :=
 ∀ (H:Type) (enc:TypeId×Value→H) (us:List Value) (W:World) (base:Nat) (ds:List (DataW H)) (ps:List MemPlace),(∀ (j:Nat) t v,fn.params[j]? = some t→us[j]? = some v→Value.okWide P W .any base t v) →
  DataW.TrodAll enc P W 0 (fun _=>true) true fn.params.toList us ds ps→(DataW.weightsEach P fn.params.toList ds).all (· ≤ reachBytes)=true→W.noneFrozen ps→Calls P f ⟨us⟩ W fun e w'=>e=.returned (.bool true)∧Below W.heap.size W w'
theorem law_lift {C:Checked} {os:Os} {f:FuncId} {fn:Func} {s:ChangeSpec} {H:Type} {enc:TypeId×Value→H} (own:ownKnob C.prog.godebug=none) (started:os.Started) (noInit:C.prog.inits.idxOf? f=none) (ip:C.prog.funcs[f]? = some fn)
  (witness:∃ (w:World) (tape:Tape) (i:Input),w.os=os∧(w.forCall tape i).Shaped C.prog∧i.vars=[]∧Input.okWide C.prog (w.forCall tape i) .any w.heap.size f i ∧
   s.pre6 enc C.prog fn [] false (w.forCall tape i).memory i.args∧Assume.holds {} C.prog (lone (Frame.enter C.prog f i.args .normal) [] (w.forCall tape i)))
  (hs:AN6 s fn.params.size) (htypes:s.plain.varTypes C.prog=[]) {tb:TypeId} (hrt:fn.resultTypes=#[tb]) (hub:C.prog.underlying tb=some .bool) (hlaid:laidOutB C.prog=true)
  (hpar:fn.params.toList.all (fun t=>C.prog.readableRec t&&decide (t<C.prog.types.size))=true) (walk:pD C.prog f fn) :
  ReturnsInHanded {} C os f .any (s.pre6 enc C.prog fn [] false) (s.post enc C.prog fn false true false false):=by
 refine returnsInHanded_of_change_sized own started noInit ip witness ?_
 intro W base args ds gs before hval hW _ hwt _;have hW':=hW;obtain ⟨p,q,hA,hV,rfl,hfz,hnd⟩:=hW;obtain ⟨hs1,hs2⟩:=hs;rw [hs1] at hV;obtain ⟨rfl,rfl⟩:=trodVars_none hV;obtain ⟨l1,l2⟩:=ACz hA;rw [htypes,ku,ku] at hwt;have e:args=⟨args.toList⟩:=rfl
 rw [e];refine (walk H enc args.toList W base ds p (fun j t v h1 h2=>hval j t v h1 (by simpa using h2)) hA hwt (by simpa using hfz)).mono fun e W' ⟨he,bel⟩=>?_
 subst he;have hds:ds.length=fn.params.size:=by rw [l2];simp
 obtain ⟨r1,r2,r3⟩:=hs2 H (ds++[]) (by rw [ku];exact hds)
 refine ⟨_,rfl,ds,[],p++[],[],p,[],hW',?_,?_,?_,bel.frame _,fun h=>by cases h⟩
 ·rw [r1,hrt];exact trodAll_mk1 (Go.RowKit.shut_bool hub _)
 ·rw [r2,ku];exact AC0 hlaid bel hpar hA
 ·rw [r3,hs1];rfl
end Go.Proofs.YtgnajdcdcblaoaaGreat.Ex
namespace Go.Proofs.YtgnajdcdcblaoaaGreat.Ex
section
variable {β β':Env} {κ:Nat→Nat}
theorem AC1:∀ {caps:List (Nat×Nat)} {l:List Value},(∀ k∈caps.map (·.1),∀ X,β (κ k)=some X→β' k=some X)→GE β (aH κ caps) l→GE β' caps l
 | [],_,_,h=>h
 | (b,o)::r,l,hk,⟨B,n,l',h1,h2,h3⟩=>⟨B,n,l',hk b (by simp) _ h1,AC1 (fun k h=>hk k (by simp at h ⊢;exact .inr h)) h2,h3⟩
theorem AN7 {c:Ch} {l:List Value} (hk:∀ k∈NV c,∀ X,β (κ k)=some X→β' k=some X) (h:BM β (W3 κ c) l):BM β' c l:=by
 cases c<;>simp only [NV] at hk<;>simp only [W3,BM] at h ⊢
 case n=>exact h
 case b=>exact h
 case v=>exact h
 case p=>obtain ⟨B,n,h1,h2⟩:=h;exact ⟨B,n,hk _ (by simp) _ h1,h2⟩
 case sl =>
  rcases h with ⟨B,n,h1,h2⟩ | ⟨h1,h2⟩ | ⟨h1,h2⟩
  ·exact .inl ⟨B,n,hk _ (by simp) _ h1,h2⟩
  ·exact .inr (.inl ⟨hk _ (by simp) _ h1,h2⟩)
  ·exact .inr (.inr ⟨hk _ (by simp) _ h1,h2⟩)
 case sx =>
  rcases h with ⟨B,n,cap,h1,h2⟩ | ⟨h1,h2⟩
  ·exact .inl ⟨B,n,cap,hk _ (by simp) _ h1,h2⟩
  ·exact .inr ⟨hk _ (by simp) _ h1,h2⟩
 case num=>exact h
 case seq=>exact h
 case clo=>obtain ⟨ps,h1,h2⟩:=h;exact ⟨ps,AC1 hk h1,h2⟩
 case mth=>obtain ⟨B,n,h1,h2⟩:=h;exact ⟨B,n,hk _ (by simp) _ h1,h2⟩
 case yl=>obtain ⟨B,n,h1,h2⟩:=h;exact ⟨B,n,hk _ (by simp) _ h1,h2⟩
 case mp=>obtain ⟨B,h1,h2⟩:=h;exact ⟨B,hk _ (by simp) _ h1,h2⟩
 case mk=>exact h
theorem T':∀ {cs:List Ch} {l:List Value},(∀ k∈ER cs,∀ X,β (κ k)=some X→β' k=some X)→AQ β (IV κ cs) l→AQ β' cs l
 | [],_,_,h=>h
 | c::cs,l,hk,⟨l1,l2,h1,h2,h3⟩=>by
  simp only [ER,Cz,jp] at hk;exact ⟨l1,l2,AN7 (fun k h=>hk k (.inl h)) h1,T' (fun k h=>hk k (.inr h)) h2,h3⟩
theorem AC2 {g:Bool} {cs:List Ch} {u:Value} (hk:∀ k∈ER cs,∀ X,β (κ k)=some X→β' k=some X) (h:Bx β g (IV κ cs) u):Bx β' g cs u:=by
 cases g
 ·exact T' hk h
 ·obtain ⟨l,h1,h2⟩:=h;exact ⟨l,T' hk h1,h2⟩
theorem AC3:∀ {xs:List (Bool×List Ch)} {l:List Value},(∀ k∈K4 xs,∀ X,β (κ k)=some X→β' k=some X)→GF β (aI κ xs) l→GF β' xs l
 | [],_,_,h=>h
 | (g,cs)::xs,l,hk,⟨u,l',h1,h2,h3⟩=>by
  simp only [K4,Cz,jp] at hk;exact ⟨u,l',AC2 (fun k h=>hk k (.inl h)) h1,AC3 (fun k h=>hk k (.inr h)) h2,h3⟩
theorem AN8 {x:AV} {u:Value} (hk:∀ k∈Jt x,∀ X,β (κ k)=some X→β' k=some X) (h:AN β (W4 κ x) u):AN β' x u:=by
 cases x with
 | val g cs=>exact AC2 hk h
 | tup xs=>obtain ⟨us,h1,h2⟩:=h;exact ⟨us,AC3 hk h1,h2⟩
 | any=>trivial
end
def LB (κ:Nat→Nat):List AV→List AV
 | []=>[]
 | x::r=>W4 κ x::LB κ r
theorem AC4 (κ:Nat→Nat):∀ (T:List AV) (t:Nat),Ap (LB κ T) t=W4 κ (Ap T t)
 | [],_=>rfl
 | _::_,0=>rfl
 | _::r,t+1=>AC4 κ r t
def JC (κ:Nat→Nat):Heap→Heap
 | []=>[]
 | (k,y)::r=>(κ k,(match y with | some b=>some ⟨b.ty,IV κ b.cs,b.opn⟩ | none=>none))::JC κ r
def EN (k0:Nat) (ρ:List Nat):Nat→Nat:=fun k=>match Nat.blt k k0 with | true=>k | false=>nth ρ (k-k0)
def UA (n:Nat):List Nat→Bool
 | []=>true
 | k::r=>match Nat.ble n k with | true=>UA n r | false=>false
def W5:List Nat→Bool
 | []=>true
 | k::r=>match E0 k r with | true=>false | false=>W5 r
theorem aM {n:Nat}:∀ {l:List Nat} {i:Nat},UA n l=true→i<l.length→n≤nth l i
 | [],i,_,h=>by simp at h
 | k::r,0,h,_=>by
  simp only [UA] at h;split at h
  ·rename_i hb;exact jf hb
  ·cases h
 | k::r,i+1,h,hi=>by
  simp only [UA] at h;split at h
  ·exact aM (l:=r) h (by simpa using hi)
  ·cases h
theorem pE:∀ {l:List Nat} {i:Nat},i<l.length→nth l i∈l
 | [],i,h=>by simp at h
 | k::r,0,_=>by simp [nth]
 | k::r,i+1,h=>by simp only [nth];exact nx _ (pE (by simpa using h))
theorem AC5:∀ {l:List Nat} {i j:Nat},W5 l=true→i<l.length→j<l.length→nth l i=nth l j→i=j
 | [],i,_,_,h,_,_=>by simp at h
 | k::r,i,j,h,hi,hj,e=>by
  simp only [W5] at h;split at h
  ·cases h
  ·rename_i hm;have hm':k ∉ r:=fun hk=>by rw [Q5.2 hk] at hm;cases hm
   match i,j with
   | 0,0=>rfl
   | 0,j+1=>exact absurd (by rw [show k=nth r j from e];exact pE (by simpa using hj)) hm'
   | i+1,0=>exact absurd (by rw [show k=nth r i from e.symm];exact pE (by simpa using hi)) hm'
   | i+1,j+1=>rw [AC5 (l:=r) h (by simpa using hi) (by simpa using hj) e]
section
variable {P:Program} {f:FuncId} {β0:Env} {w0:World} {R:Ending→World→Prop} {n:Fz} {W:List Nat}
theorem AN9 {k0:Nat} {ρ:List Nat} (h1:UA k0 ρ=true) (h2:W5 ρ=true) {a b:Nat} (ha:a<k0+ρ.length) (hb:b<k0+ρ.length) (e:EN k0 ρ a=EN k0 ρ b):a=b:=by
 unfold EN at e;have lt:∀ {x:Nat},Nat.blt x k0=false→k0≤x:=fun {x} h=>by
  rcases jv x k0 with q | q
  ·rw [Bf.2 q] at h;cases h
  ·exact q
 split at e<;>split at e
 ·exact e
 ·rename_i _ p _ q;have:=aM (i:=b-k0) h1 (by have:=lt q;omega)
  have:=Bf.1 p;omega
 ·rename_i _ p _ q;have:=aM (i:=a-k0) h1 (by have:=lt p;omega)
  have:=Bf.1 q;omega
 ·rename_i _ p _ q;have:=AC5 h2 (by have:=lt p;omega) (by have:=lt q;omega) e
  have:=lt p;have:=lt q;omega
theorem AC6 {κ:Nat→Nat} {m:Nat} (hinj:∀ a b,a<m→b<m→κ a=κ b→a=b):∀ {H:Heap} {j:Nat},(∀ k y,(k,y)∈H→k<m)→j<m→AG (JC κ H) (κ j)=(AG H j).map fun b=>⟨b.ty,IV κ b.cs,b.opn⟩
 | [],_,_,_=>rfl
 | (k,y)::r,j,hk,hj=>by
  have hkm:=hk k y (by simp)
  simp only [JC,AG];by_cases e:k=j
  ·subst e;have q1:Nat.beq (κ k) (κ k)=true:=Ar.2 rfl
   have q2:Nat.beq k k=true:=Ar.2 rfl
   rw [q1,q2];cases y<;>rfl
  ·have q2:Nat.beq k j=false:=GH e
   have q1:Nat.beq (κ k) (κ j)=false:=GH fun h=>e (hinj k j hkm hj h)
   rw [q1,q2];exact AC6 hinj (fun k y h=>hk k y (by simp [h])) hj
def Nj (m:Nat):Heap→Bool
 | []=>true
 | (k,y)::r=>match Nat.blt k m with
  | true=>match y with
   | some b=>match K8 m (ER b.cs) with | true=>Nj m r | false=>false
   | none=>Nj m r
  | false=>false
theorem AC7 {m:Nat}:∀ {H:Heap} {k:Nat} {y:Option gt},Nj m H=true→(k,y)∈H→k<m
 | [],_,_,_,h=>by cases h
 | (j,z)::r,k,y,h,hm=>by
  simp only [Nj] at h;split at h
  ·rename_i hj;have hr:Nj m r=true:=by
    split at h
    ·split at h
     ·exact h
     ·cases h
    ·exact h
   rcases ju.1 hm with e | e
   ·injection e with e1 e2;rw [e1];exact Bf.1 hj
   ·exact AC7 hr e
  ·cases h
theorem AC8 {m:Nat}:∀ {H:Heap} {k:Nat} {b:gt},Nj m H=true→AG H k=some b→k<m∧∀ x∈ER b.cs,x<m
 | [],_,_,_,h=>by cases h
 | (j,z)::r,k,b,h,hm=>by
  simp only [Nj] at h;simp only [AG] at hm;split at h
  ·rename_i hj;split at hm
   ·rename_i e;subst hm;simp only at h
    split at h
    ·rename_i hc;exact ⟨by rw [← Ar.1 e];exact Bf.1 hj,T7 hc⟩
    ·cases h
   ·have hr:Nj m r=true:=by
     split at h
     ·split at h
      ·exact h
      ·cases h
     ·exact h
    exact AC8 hr hm
  ·cases h
def AC9 (k0:Nat) (ρ:List Nat) (m:Nat) (T:List AV) (H:Heap):Bool:=Nat.beq m (k0+ρ.length)&&(UA k0 ρ&&(W5 ρ&&(T6 m T&&Nj m H)))
theorem PM {k0 m:Nat} {ρ:List Nat} {todo:List Item} {T:List AV} {H:Heap} {fr:Nat} {p:List Bool} (hb:AC9 k0 ρ m T H=true) (h0:∀ b,k0≤b→β0 b=none)
  (hs:gn P f β0 w0 R n W ⟨todo,⟨T,H,m,p⟩⟩):gn P f β0 w0 R n W ⟨todo,⟨LB (EN k0 ρ) T,JC (EN k0 ρ) H,fr,p⟩⟩:=by
 unfold AC9 at hb;simp only [jm] at hb;obtain ⟨hm,h1,h2,h3,h4⟩:=hb;have hm:=Ar.1 hm;intro β a w hi _
 let κ:=EN k0 ρ
 let β':Env:=fun k=>match Nat.blt k m with | true=>β (κ k) | false=>none
 have bl:∀ {k},k<m→β' k=β (κ k):=fun {k} h=>by
  show (match Nat.blt k m with | true=>β (κ k) | false=>none)=_
  rw [Bf.2 h]
 have bs:∀ {k X},β' k=some X→k<m∧β (κ k)=some X:=fun {k X} h=>by
  change (match Nat.blt k m with | true=>β (κ k) | false=>none)=some X at h
  split at h
  ·rename_i hb;exact ⟨Bf.1 hb,h⟩
  ·cases h
 have hinj:∀ a b,a<m→b<m→κ a=κ b→a=b:=fun a b ha hb e=>AN9 h1 h2 dk dk e
 have old:∀ {k},k<k0→κ k=k:=fun {k} h=>by show EN k0 ρ k=k;unfold EN;rw [Bf.2 h]
 have new:∀ {k},k0≤k→k<m→k0≤κ k:=fun {k} h hk=>by
  show k0≤EN k0 ρ k;unfold EN;split
  ·exact h
  ·exact aM h1 dk
 have hg:∀ j,j<m→AG (JC κ H) (κ j)=(AG H j).map fun b=>⟨b.ty,IV κ b.cs,b.opn⟩:=fun j hj=>AC6 hinj (fun k y h=>AC7 h4 h) hj
 refine hs β' a w { hi with tmp:=fun t=>?_,good:=⟨fun b blk hb=>?_,fun b b' B n n' q1 q2 q3 q4=>?_,fun b B n q=>hi.good.lt _ _ _ (bs q).2⟩,new:=fun b X hb=>?_,ext:=fun b X hb=>?_ } fun b hb=>?_
 ·have ht:=hi.tmp t;simp only at ht
  rw [AC4] at ht;have hk:=pA (t:=t) h3
  exact AN8 (fun k hkk X hX=>by rw [bl (hk k hkk)];exact hX) ht
 ·simp only at hb
  obtain ⟨hbm,hbk⟩:=AC8 h4 hb;have hg':=hg b hbm;rw [hb] at hg';rcases hi.good.heap (κ b) _ hg' with ⟨B,n,l,t,pre,ty,fz,e1,e2,e3,e4,e5⟩ | ⟨X,e1,e2,e3⟩ | ⟨B,l,es,q,e1,e2,e3,e4⟩
  ·exact .inl ⟨B,n,l,t,pre,ty,fz,by rw [bl hbm];exact e1,T' (fun k hkk X hX=>by rw [bl (hbk k hkk)];exact hX) e2,e3,e4,e5⟩
  ·exact .inr (.inl ⟨X,by rw [bl hbm];exact e1,e2,T' (fun k hkk X hX=>by rw [bl (hbk k hkk)];exact hX) e3⟩)
  ·exact .inr (.inr ⟨B,l,es,q,by rw [bl hbm];exact e1,e2,T' (fun k hkk X hX=>by rw [bl (hbk k hkk)];exact hX) e3,e4⟩)
 ·simp only at q1 q2
  obtain ⟨d,hd,hr⟩:=GZ q1;obtain ⟨d',hd'⟩:=lj.1 q2;have m1:=(bs q3).1
  have m2:=(bs q4).1
  refine hinj b b' m1 m2 (hi.good.inj _ _ B n n' (GJ (blk:=⟨d.ty,IV κ d.cs,d.opn⟩) (by rw [hg b m1,hd];rfl) hr) (by rw [hg b' m2,hd'];rfl) (bs q3).2 (bs q4).2)
 ·obtain ⟨hbm,hX⟩:=bs hb;rcases jv b k0 with ik | hge
  ·rw [old ik] at hX;exact hi.new b X hX
  ·rcases hi.new _ X hX with q | q
   ·rw [h0 _ (new hge hbm)] at q;cases q
   ·exact .inr q
 ·have ik:b<k0:=by
   rcases jv b k0 with h | h
   ·exact h
   ·rw [h0 b h] at hb;cases hb
  rw [bl dk,old ik];exact hi.ext b X hb
 ·show (match Nat.blt b m with | true=>β (κ b) | false=>none)=none
  have:Nat.blt b m=false:=by
   cases hq:Nat.blt b m with
   | false=>rfl
   | true=>have:=Bf.1 hq;simp only at hb;omega
  rw [this]
def UB (k sz:Nat):List Nat→Nat→List AV→List AV
 | _,_,[]=>[]
 | ts,i,x::r=>(match E0 i ts,x with
  | true,.val false [.v (.slice none 0 0)]=>.val false [.sx k 0 sz]
  | _,y=>y)::UB k sz ts (i+1) r
theorem AC_ (k sz:Nat) (ts:List Nat):∀ (T:List AV) (i t:Nat),Ap (UB k sz ts i T) t=Ap T t∨(Ap T t=.val false [.v (.slice none 0 0)]∧Ap (UB k sz ts i T) t=.val false [.sx k 0 sz])
 | [],_,_=>.inl rfl
 | x::r,i,0=>by
  simp only [UB,Ap];split
  ·exact .inr ⟨rfl,rfl⟩
  ·exact .inl rfl
 | x::r,i,t+1=>AC_ k sz ts r (i+1) t
theorem pF {ts:List Nat} {sz:Nat} {ty:TypeId} {kd:IntKind} {todo:List Item} {T:List AV} {H:Heap} {fr:Nat} {p:List Bool} (hw:AG H fr=none) (h0:β0 fr=none)
  (hs:gn P f β0 w0 R n W ⟨todo,⟨UB fr sz ts 0 T,H++[(fr,some ⟨ty,[.seq kd []],true⟩)],fr+1,p⟩⟩):gn P f β0 w0 R n W ⟨todo,⟨T,H,fr,p⟩⟩:=by
 intro β a w hi hf;have hfr:β fr=none:=hf fr (jj _)
 let β':Env:=fun k=>match Nat.beq k fr with | true=>some Loc.nil | false=>β k
 have bo:∀ {k},k≠fr→β' k=β k:=fun {k} h=>by
  show (match Nat.beq k fr with | true=>some Loc.nil | false=>β k)=_
  rw [GH h]
 have bn:β' fr=some Loc.nil:=by
  show (match Nat.beq fr fr with | true=>some Loc.nil | false=>β fr)=_
  rw [Ar.2 rfl]
 have le:Env.le β β':=fun b X h=>by
  rw [bo fun e=>by rw [e,hfr] at h;cases h];exact h
 have app:∀ (H:Heap) (b:Nat),(b≠fr→AG (H++[(fr,some (⟨ty,[.seq kd []],true⟩:gt))]) b=AG H b)∧(AG H fr=none→AG (H++[(fr,some (⟨ty,[.seq kd []],true⟩:gt))]) fr=some ⟨ty,[.seq kd []],true⟩∨AG (H++[(fr,some (⟨ty,[.seq kd []],true⟩:gt))]) fr=none):=by
  intro H b;induction H with
  | nil =>
   refine ⟨fun hb=>by simp [AG,GH (Ne.symm hb)],fun _=>.inl (by simp [AG])⟩
  | cons e r ih =>
   obtain ⟨k,y⟩:=e;refine ⟨fun hb=>?_,fun h=>?_⟩
   ·simp only [nh,AG];rw [ih.1 hb]
   ·simp only [nh,AG] at h ⊢;split at h
    ·right;simpa using h
    ·exact ih.2 h
 refine hs β' a w { hi with tmp:=fun t=>?_,good:=⟨fun b blk hb=>?_,fun b b' B n n' q1 q2 q3 q4=>?_,fun b B n q=>?_⟩,new:=fun b X hb=>?_,ext:=Env.le_trans hi.ext le } fun b hb=>?_
 ·simp only
  have ht:=hi.tmp t;simp only at ht
  rcases AC_ fr sz ts T 0 t with e | ⟨e1,e2⟩
  ·rw [e];exact Fx le ht
  ·rw [e1] at ht;rw [e2];obtain ⟨l1,l2,⟨q1,_⟩,q2,q3⟩:=ht;exact ⟨l1,l2,.inr ⟨bn,rfl,q1⟩,q2,q3⟩
 ·simp only at hb
  by_cases e:b=fr
  ·subst e;rcases (app H b).2 hw with q | q
   ·rw [q] at hb;injection hb with hb;subst hb;exact .inr (.inl ⟨.nil,bn,Or.inl rfl,⟨[],[],⟨rfl,by simp⟩,rfl,rfl⟩⟩)
   ·rw [q] at hb;cases hb
  ·rw [(app H b).1 e] at hb;exact Zf le (hi.good.heap b blk hb)
 ·simp only at q1 q2
  have e1:b≠fr:=fun e=>by rw [e,bn] at q3;cases q3
  have e2:b'≠fr:=fun e=>by rw [e,bn] at q4;cases q4
  rw [bo e1] at q3;rw [bo e2] at q4;obtain ⟨d,hd,hr⟩:=GZ q1;rw [(app H b).1 e1] at hd;rw [(app H b').1 e2] at q2;exact hi.good.inj b b' B n n' (GJ hd hr) q2 q3 q4
 ·by_cases e:b=fr
  ·rw [e,bn] at q;cases q
  ·rw [bo e] at q;exact hi.good.lt b B n q
 ·by_cases e:b=fr
  ·rw [e,bn] at hb;injection hb with hb;subst hb;exact .inr fun B m h=>by cases h
  ·rw [bo e] at hb;exact hi.new b X hb
 ·have e:b≠fr:=by simp only at hb;omega
  rw [bo e];exact hf b (by simp only at hb ⊢;omega)
end
def AC':List AV→Bool
 | []=>false
 | .val false [.v (.slice none 0 0)]::_=>true
 | _::r=>AC' r
def pG (k:Nat):List AV→List AV
 | []=>[]
 | x::r=>(match x with
  | .val false [.v (.slice none 0 0)]=>.val false [.sl k 0 0 0]
  | y=>y)::pG k r
def D9 (s:ASpec):ASpec:=fun args H fr gv=>match AC' args with
 | true=>match s (pG fr args) ((fr,some ⟨Bu,[],false⟩)::H) (fr+1) gv with
  | some r=>some { r with nw:=r.nw+1 }
  | none=>none
 | false=>s args H fr gv
theorem EV {P:Program} {f:FuncId} {s:ASpec} (h:BJ P f s):BJ P f (D9 s):=by
 intro args H fr gv r β us w hs hc ha hg hf;unfold D9 at hs;split at hs;case h_2=>exact h args H fr gv r β us w hs hc ha hg hf
 split at hs;case h_2=>cases hs
 rename_i r1 hr1;injection hs with hs;subst hs;have hfr:β fr=none:=hf fr (jj _) (by show fr<fr+(r1.nw+1);omega)
 let β1:Env:=fun k=>match Nat.beq k fr with | true=>some Loc.nil | false=>β k
 have bo:∀ {k},k≠fr→β1 k=β k:=fun {k} h=>by
  show (match Nat.beq k fr with | true=>some Loc.nil | false=>β k)=_
  rw [GH h]
 have bn:β1 fr=some Loc.nil:=by
  show (match Nat.beq fr fr with | true=>some Loc.nil | false=>β fr)=_
  rw [Ar.2 rfl]
 have le:Env.le β β1:=fun b X h=>by
  rw [bo fun e=>by rw [e,hfr] at h;cases h];exact h
 have hargs:∀ {args:List AV} {us:List Value},BI β args us→BI β1 (pG fr args) us:=by
  intro args;induction args with
  | nil=>intro us h;exact h
  | cons x r ih =>
   rintro us ⟨u,us',h1,h2,h3⟩
   refine ⟨u,us',?_,ih h2,h3⟩
   split
   ·obtain ⟨l1,l2,⟨q1,_⟩,q2,q3⟩:=h1;exact ⟨l1,l2,.inr (.inl ⟨bn,rfl,rfl,rfl,q1⟩),q2,q3⟩
   ·exact Fx le h1
 have hgood:Good β1 ((fr,some ⟨Bu,[],false⟩)::H) w:=by
  have at_:∀ {b B n},β1 b=some (.at_ B n)→b≠fr∧β b=some (.at_ B n):=fun {b B n} q=>by
   have e:b≠fr:=fun e=>by rw [e,bn] at q;cases q
   exact ⟨e,by rwa [bo e] at q⟩
  have hh:∀ {b},b≠fr→AG ((fr,some (⟨Bu,[],false⟩:gt))::H) b=AG H b:=fun {b} e=>by simp only [AG];rw [GH (Ne.symm e)]
  refine ⟨fun b blk hb=>?_,fun b b' B n n' q1 q2 q3 q4=>?_,fun b B n q=>hg.lt _ _ _ (at_ q).2⟩
  ·by_cases e:b=fr
   ·subst e;simp only [AG] at hb;rw [Ar.2 rfl] at hb;injection hb with hb;subst hb;exact .inr (.inl ⟨.nil,bn,Or.inr rfl,rfl⟩)
   ·rw [hh e] at hb;exact Zf le (hg.heap b blk hb)
  ·obtain ⟨e1,q3⟩:=at_ q3;obtain ⟨e2,q4⟩:=at_ q4;obtain ⟨d,hd,hr⟩:=GZ q1;rw [hh e1] at hd;rw [hh e2] at q2;exact hg.inj b b' B n n' (GJ hd hr) q2 q3 q4
 have:=h _ _ _ _ r1 β1 us w hr1 hc (hargs ha) hgood fun b h1 h2=>by
  rw [bo dk];exact hf b dk (by show b<fr+(r1.nw+1);omega)
 have mono:∀ e w',Z0 β1 (fr+1) r1 w e w'→Z0 β fr { r1 with nw:=r1.nw+1 } w e w':=by
  rintro e w' ⟨u,β',rfl,he⟩
  have bf:β' fr=some Loc.nil:=he.ext fr _ bn
  refine ⟨u,β',rfl,{ he with ext:=Env.le_trans le he.ext,new:=fun b X q=>?_,inj:=fun b b' B n n' q1 q2 q3 q4 q5 q6=>?_,frame:=fun B hB iz=>he.frame B hB fun k y n hk hk2=>?_ }⟩
  ·rcases he.new b X q with q' | ⟨q1,q2,q3⟩
   ·by_cases e:b=fr
    ·subst e;rw [bn] at q';injection q' with q';subst q';exact .inr ⟨jj _,(by show b<b+(r1.nw+1);omega),fun B n h=>by cases h⟩
    ·rw [bo e] at q';exact .inl q'
   ·refine .inr ⟨dk,(by show b<fr+(r1.nw+1);omega),fun B n e=>?_⟩
    rcases q3 B n e with q | ⟨k,m,k1,k2⟩
    ·exact .inl q
    ·refine .inr ⟨k,m,k1,?_⟩
     rwa [bo fun e=>by rw [e,bn] at k2;cases k2] at k2
  ·have e1:b≠fr:=fun e=>by rw [e,bf] at q5;cases q5
   have e2:b'≠fr:=fun e=>by rw [e,bf] at q6;cases q6
   change b<fr+(r1.nw+1) at q3
   change b'<fr+(r1.nw+1) at q4
   exact he.inj b b' B n n' dk dk dk dk q5 q6
  ·have e:k≠fr:=fun e=>by rw [e,bn] at hk2;cases hk2
   rw [bo e] at hk2;exact iz k y n hk hk2
 unfold NU at this ⊢
 split at this
 ·exact mono _ _ this
 ·exact Calls.mono this fun e w' h=>mono e w' h
 ·exact this
def MV (fr:Nat) (H H1:Heap):List Nat→Bool
 | []=>true
 | k::r=>match Nat.blt k fr with
  | true=>match AG H k with | some _=>MV fr H H1 r | none=>false
  | false=>match AG H1 k with | some _=>MV fr H H1 r | none=>false
theorem pI {fr:Nat} {H H1:Heap}:∀ {l:List Nat},MV fr H H1 l=true→∀ k∈l,(k<fr∧(AG H k).isSome=true)∨(fr≤k∧(AG H1 k).isSome=true)
 | [],_,k,h=>by cases h
 | x::r,h,k,hk=>by
  simp only [MV] at h;split at h
  ·rename_i hb;split at h
   ·rename_i b hg;rcases ju.1 hk with rfl | hk
    ·exact .inl ⟨Bf.1 hb,by rw [hg];rfl⟩
    ·exact pI h k hk
   ·cases h
  ·rename_i hb;split at h
   ·rename_i b hg;rcases ju.1 hk with rfl | hk
    ·refine .inr ⟨?_,by rw [hg];rfl⟩
     rcases jv k fr with q | q
     ·rw [Bf.2 q] at hb;cases hb
     ·exact q
    ·exact pI h k hk
   ·cases h
def RC (fr:Nat) (H H1:Heap):List Nat→Bool
 | []=>true
 | k::r=>match AG H1 k with
  | some b=>match MV fr H H1 (ER b.cs),Nat.beq b.ty Bu with | true,false=>RC fr H H1 r | _,_=>false
  | none=>RC fr H H1 r
theorem W6 {fr:Nat} {H H1:Heap}:∀ {l:List Nat},RC fr H H1 l=true→∀ k∈l,∀ b,AG H1 k=some b→MV fr H H1 (ER b.cs)=true∧b.ty≠Bu
 | [],_,k,h=>by cases h
 | x::r,h,k,hk=>by
  intro b' hb';simp only [RC] at h;split at h
  ·rename_i b hb;split at h
   ·rename_i hok hro;rcases ju.1 hk with rfl | hk
    ·rw [hb] at hb';injection hb' with hb';subst hb';exact ⟨hok,Zl hro⟩
    ·exact W6 h k hk b' hb'
   ·cases h
  ·rename_i hb;rcases ju.1 hk with rfl | hk
   ·rw [hb] at hb';cases hb'
   ·exact W6 h k hk b' hb'
def RD (H1:Heap):List Nat→List Nat
 | []=>[]
 | k::r=>match AG H1 k with | some _=>k::RD H1 r | none=>RD H1 r
theorem pJ {H1:Heap} {k:Nat}:∀ {l:List Nat},k∈l→(AG H1 k).isSome=true→k∈RD H1 l
 | x::r,h,hs=>by
  simp only [RD];rcases ju.1 h with rfl | h
  ·obtain ⟨b,hb⟩:=lj.1 hs;rw [hb];simp
  ·split
   ·exact nx _ (pJ h hs)
   ·exact pJ h hs
theorem pK {H1:Heap} {k:Nat}:∀ {l:List Nat},k∈RD H1 l→k∈l
 | x::r,h=>by
  simp only [RD] at h;split at h
  ·rcases ju.1 h with rfl | h
   ·simp
   ·exact nx _ (pK h)
  ·exact nx _ (pK h)
def RE (fr:Nat) (H1:Heap):List Nat:=RD H1 (Jv fr H1)
def PN (H1:Heap):List Nat→Heap
 | []=>[]
 | k::r=>(k,AG H1 k)::PN H1 r
theorem ADA {H1:Heap} {k:Nat} {y:Option gt}:∀ {l:List Nat},(k,y)∈PN H1 l→k∈l∧y=AG H1 k
 | [],h=>by cases h
 | x::r,h=>by
  simp only [PN,ju,jz] at h;rcases h with ⟨rfl,h2⟩ | h
  ·exact ⟨by simp,h2⟩
  ·obtain ⟨h1,h2⟩:=ADA h;exact ⟨by simp [h1],h2⟩
theorem pL {H1:Heap} {k:Nat}:∀ {l:List Nat},k∈l→(k,AG H1 k)∈PN H1 l
 | x::r,h=>by
  simp only [PN,ju];rcases ju.1 h with rfl | h
  ·exact .inl rfl
  ·exact .inr (pL h)
theorem aN {k0:Nat}:∀ {l:List Nat},∀ k∈ET k0 l,k<k0
 | [],k,h=>by cases h
 | x::r,k,h=>by
  simp only [ET] at h;split at h
  ·rename_i hb _;rcases ju.1 h with rfl | h
   ·exact Bf.1 hb
   ·exact aN k h
  ·exact aN k h
def W7 (n:Nat):List AV→Bool
 | []=>true
 | x::r=>match K8 n (Jt x) with | true=>W7 n r | false=>false
theorem pM {β β':Env} {n:Nat} (he:∀ k,k<n→β' k=β k):∀ {args:List AV} {us:List Value},W7 n args=true→BI β args us→BI β' args us
 | [],_,_,h=>h
 | x::r,us,hb,⟨u,us',h1,h2,h3⟩=>by
  simp only [W7] at hb;split at hb
  ·rename_i hx;exact ⟨u,us',o9 (fun k hk=>he k (T7 hx k hk)) h1,pM he hb h2,h3⟩
  ·cases hb
def F3 (fr:Nat):Heap→Heap
 | []=>[]
 | (k,none)::r=>(k,none)::F3 fr r
 | (k,some b)::r=>match Nat.blt k fr,Nat.beq b.ty Bu with
  | false,true=>(k,none)::F3 fr r
  | _,_=>(k,some b)::F3 fr r
theorem aO {fr:Nat}:∀ {H:Heap} {k:Nat} {b:gt},AG (F3 fr H) k=some b→AG H k=some b
 | [],_,_,h=>h
 | (j,none)::r,k,b,h=>by
  simp only [F3,AG] at h ⊢;split
  ·rename_i e;rw [e] at h;exact h
  ·rename_i e;rw [e] at h;exact aO h
 | (j,some x)::r,k,b,h=>by
  simp only [F3] at h;split at h
  ·simp only [AG] at h ⊢;split
   ·rename_i e;rw [e] at h;cases h
   ·rename_i e;rw [e] at h;exact aO h
  ·simp only [AG] at h ⊢;split
   ·rename_i e;rw [e] at h;exact h
   ·rename_i e;rw [e] at h;exact aO h
theorem Good.sub {β:Env} {H H':Heap} {w:World} (g:Good β H w) (h:∀ b blk,AG H' b=some blk→AG H b=some blk):Good β H' w :=
 ⟨fun b blk hb=>g.heap b blk (h b blk hb),fun b b' B n n' h1 h2 h3 h4=>by
  obtain ⟨x,hx,hr⟩:=GZ h1;obtain ⟨y,hy⟩:=lj.1 h2;exact g.inj b b' B n n' (GJ (h _ _ hx) hr) (by rw [h _ _ hy];rfl) h3 h4,g.lt⟩
theorem Out.drop {β0 β:Env} {w0 w:World} {W:List Nat} {val:AV} {H:Heap} {u:Value} {fr:Nat} (o:Out β0 w0 W val H u w β):Out β0 w0 W val (F3 fr H) u w β:={ o with good:=o.good.sub fun _ _ h=>aO h }
def BF (P:Program) (O:gr) (fn:Func) (ia:Nat):ASpec:=fun args H fr gv =>
 match fn.body with
 | some c=>match K7 P O none ia ⟨[.code c],⟨Gu args fn.ntmps,H,fr,gv⟩⟩ with
  | some (g,y)=>match JB P fn y,Nat.ble (F2 args) fn.ntmps&&(W7 fr args&&(Ju fr H&&(Ju y.s.fr (F3 fr y.s.H)&&Nat.ble fr y.s.fr))) with
   | some v,true=>match MV fr H (F3 fr y.s.H) (cat (Jt v) (ET fr g.keys)),RC fr H (F3 fr y.s.H) (cat (ET fr g.keys) (RE fr (F3 fr y.s.H))) with
    | true,true=>some ⟨v,PN (F3 fr y.s.H) (cat (ET fr g.keys) (RE fr (F3 fr y.s.H))),y.s.fr-fr,g.conds,y.s.gv⟩
    | _,_=>none
   | _,_=>none
  | none=>none
 | none=>none
theorem ADB {β:Env} {w w':World} {fr fr':Nat} {W:List Nat} {v:AV} {H H1:Heap} {u:Value} {β1:Env} {conds:dp} {gv:List Bool} (g:Good β H w) (ho:Out (K9 β fr) w W v H1 u w' β1) (hW:∀ k∈W,k<fr)
  (hl:Ju fr' H1=true) (ir:fr≤fr') (ov:MV fr H H1 (cat (Jt v) W)=true) (ob:RC fr H H1 (cat W (RE fr H1))=true) (hf:∀ b,fr≤b→b<fr'→β b=none) :
  ∃ β',Eff β fr ⟨v,PN H1 (cat W (RE fr H1)),fr'-fr,conds,gv⟩ w u w' β':=by
 let β':Env:=fun b=>match Nat.ble fr b&&Nat.blt b fr',AG H1 b with
  | true,some _=>β1 b
  | true,none=>none
  | false,_=>β b
 have out:∀ b,¬ (fr≤b∧b<fr')→β' b=β b:=by
  intro b hb;have:(Nat.ble fr b&&Nat.blt b fr')=false:=by
   cases h:Nat.ble fr b&&Nat.blt b fr' with
   | false=>rfl
   | true =>
    have:=jo.1 h
    exact absurd ⟨jf this.1,Bf.1 this.2⟩ hb
  show (match Nat.ble fr b&&Nat.blt b fr',AG H1 b with | true,some _=>β1 b | true,none=>none | false,_=>β b)=β b
  rw [this]
 have inn:∀ b,fr≤b→b<fr'→∀ X,β' b=some X→(AG H1 b).isSome=true∧β1 b=some X:=by
  intro b h1 h2 X hX;have:(Nat.ble fr b&&Nat.blt b fr')=true:=by rw [jh h1,Bf.2 h2];rfl
  change (match Nat.ble fr b&&Nat.blt b fr',AG H1 b with | true,some _=>β1 b | true,none=>none | false,_=>β b)=some X at hX
  rw [this] at hX;cases hq:AG H1 b with
  | none=>rw [hq] at hX;cases hX
  | some y=>rw [hq] at hX;exact ⟨rfl,hX⟩
 have hlive:∀ k,(AG H1 k).isSome=true→k<fr':=by
  intro k hk;obtain ⟨b,hb⟩:=lj.1 hk;exact (LA hl hb).1
 have newr:∀ k,fr≤k→(AG H1 k).isSome=true→GY H1 k=true:=by
  intro k hk hs;obtain ⟨b,hb⟩:=lj.1 hs;exact GJ hb (W6 ob k (by rw [Cz,jp];exact .inr (pJ (pC hb hk) hs)) b hb).2
 have new1:∀ k,fr≤k→(AG H1 k).isSome=true→β' k=β1 k:=by
  intro k hk hs;have:(Nat.ble fr k&&Nat.blt k fr')=true:=by rw [jh hk,Bf.2 (hlive k hs)];rfl
  show (match Nat.ble fr k&&Nat.blt k fr',AG H1 k with | true,some _=>β1 k | true,none=>none | false,_=>β k)=β1 k
  rw [this];obtain ⟨y,hy⟩:=lj.1 hs;rw [hy]
 have old1:∀ k,k<fr→(AG H k).isSome=true→β' k=β1 k:=by
  intro k hk hs;obtain ⟨b,hb⟩:=lj.1 hs;rw [out k (fun q=>by omega)]
  have hq:∃ X,β k=some X:=by
   rcases g.heap k b hb with ⟨B,n,_,_,_,_,_,h,_⟩ | ⟨_,h,_⟩ | ⟨B,_,_,_,h,_⟩<;>exact ⟨_,h⟩
  obtain ⟨X,hX⟩:=hq;rw [hX,ho.ext k X (by rw [EM hk];exact hX)]
 have occ:∀ l,MV fr H H1 l=true→∀ k∈l,β' k=β1 k:=by
  intro l hl k hk;rcases pI hl k hk with ⟨h1,h2⟩ | ⟨h1,h2⟩
  ·exact old1 k h1 h2
  ·exact new1 k h1 h2
 have ext0:Env.le β β':=by
  intro b X hb;rw [out b (fun h=>by rw [hf b h.1 h.2] at hb;cases hb)]
  exact hb
 have hsub:fr+(fr'-fr)=fr':=dk
 refine ⟨β',ext0,?_,?_,?_,?_,?_,?_,ho.size,ho.os,ho.tape,ho.output⟩
 ·intro b X hX;by_cases hr:fr≤b∧b<fr'
  ·obtain ⟨hl,h1⟩:=inn b hr.1 hr.2 X hX;refine .inr ⟨hr.1,by simp only [hsub];exact hr.2,fun B n e=>?_⟩
   subst e;rcases ho.new _ _ h1 with h | h
   ·rw [Q' hr.1] at h;cases h
   ·rcases h B n rfl with h | ⟨k,m',hk,hk2⟩
    ·exact .inl h
    ·have hk0:=hW k hk;have hkW:k∈cat W (RE fr H1):=by rw [Cz,jp];exact .inl hk
     cases hbb:AG H1 k with
     | some bb =>
      have:=ho.good.inj _ _ _ _ _ (GJ hbb (W6 ob k hkW bb hbb).2) hl (ho.ext k _ hk2) h1
      omega
     | none =>
      rw [EM hk0] at hk2;exact .inr ⟨k,m',by rw [← hbb];exact pL hkW,hk2⟩
  ·rw [out b hr] at hX;exact .inl hX
 ·intro b B n hX;by_cases hr:fr≤b∧b<fr'
  ·exact ho.good.lt _ _ _ (inn b hr.1 hr.2 _ hX).2
  ·rw [out b hr] at hX;exact kr (g.lt _ _ _ hX) ho.size
 ·intro b b' B n n' h1 h2 h3 h4 h5 h6;simp only [hsub] at h3 h4;obtain ⟨l1,q1⟩:=inn b h1 h3 _ h5;obtain ⟨l2,q2⟩:=inn b' h2 h4 _ h6;exact ho.good.inj _ _ _ _ _ (newr _ h1 l1) l2 q1 q2
 ·exact o9 (fun k hk=>occ _ ov k (by rw [Cz,jp];exact .inl hk)) ho.val
 ·intro k y hk;obtain ⟨hj,e2⟩:=ADA hk;have hbb:AG H1 k=some y:=e2.symm
  obtain ⟨hok,_⟩:=W6 ob k hj y hbb;have hkk:β' k=β1 k:=by
   rw [Cz,jp] at hj;rcases hj with hj | hj
   ·exact occ _ ov k (by rw [Cz,jp];exact .inr hj)
   ·exact new1 k (pB (pK hj)) (by rw [hbb];rfl)
  rcases ho.good.heap k _ hbb with ⟨B,n,l,t,pre,ty,fz,q1,q2,q3⟩ | ⟨X,q1,q2,q3⟩ | ⟨B,l,es,q,q1,q2,q3,q4⟩
  ·exact .inl ⟨B,n,l,t,pre,ty,fz,by rw [hkk];exact q1,Ho (fun k hk=>occ _ hok k hk) q2,q3⟩
  ·exact .inr (.inl ⟨X,by rw [hkk];exact q1,q2,Ho (fun k hk=>occ _ hok k hk) q3⟩)
  ·exact .inr (.inr ⟨B,l,es,q,by rw [hkk];exact q1,q2,Ho (fun k hk=>occ _ hok k hk) q3,q4⟩)
 ·intro B hB iz;refine ho.frame B hB fun k m hk hk2=>?_
  have hk0:=hW k hk;rw [EM hk0] at hk2;exact iz k _ m (pL (by rw [Cz,jp];exact .inl hk)) hk2
section
variable {P:Program} {O:gr} (hO:gp P O) (hm:P.follows .mixedOrders=true) {f:FuncId} {fn:Func}
include hO hm in
theorem BK (ip:P.funcs[f]? = some fn) (hb:fn.body.isSome=true) (h_:fo fn) (ia:Nat):BJ P f (BF P O fn ia):=by
 intro args H fr gv r β us w hs hc ha hg hf;unfold BF at hs;split at hs;case h_2=>cases hs
 rename_i c hbody;split at hs;case h_2=>cases hs
 rename_i g y ii;split at hs;case h_2=>cases hs
 rename_i v hv hchk;split at hs;case h_2=>cases hs
 rename_i hov hob;injection hs with hs;subst hs;simp only [jm] at hchk;obtain ⟨c1,c2,c3,c4,c5⟩:=hchk;have ir:=jf c5;have gx:=jf c1;rw [JA] at gx;have hg0:Good (K9 β fr) H w:=by
  refine ⟨fun b blk hb=>?_,fun b b' B n n' h1 h2 h3 h4=>hg.inj b b' B n n' h1 h2 (K_ h3).1 (K_ h4).1,fun b B n h=>hg.lt b B n (K_ h).1⟩
  obtain ⟨e1,e2⟩:=LA c3 hb;rcases hg.heap b blk hb with ⟨B,n,l,t,pre,ty,fz,q1,q2,q3⟩ | ⟨X,q1,q2,q3⟩ | ⟨B,l,es,q,q1,q2,q3,q4⟩
  ·exact .inl ⟨B,n,l,t,pre,ty,fz,by rw [EM e1];exact q1,Ho (fun k hk=>EM (e2 k hk)) q2,q3⟩
  ·exact .inr (.inl ⟨X,by rw [EM e1];exact q1,q2,Ho (fun k hk=>EM (e2 k hk)) q3⟩)
  ·exact .inr (.inr ⟨B,l,es,q,by rw [EM e1];exact q1,q2,Ho (fun k hk=>EM (e2 k hk)) q3,q4⟩)
 have i_:Be fn.ntmps (⟨Gu args fn.ntmps,H,fr,gv⟩:St):=by
  refine ⟨fun b hb=>?_,?_⟩
  ·cases hq:AG H b with
   | none=>rfl
   | some blk=>have:=(LA c3 hq).1;simp only at hb;omega
  ·simp only [Gu,T4,JA,kc,Wy];omega
 refine T5 ip hb h_ (Calls.mono (Wz (R:=A_ (K9 β fr) w (ET fr g.keys) v y.s.H) (fr:=fr) (gv:=gv) ip hbody gx ?_ (pM (fun k hk=>EM hk) c2 ha) hg0 (fun b hb=>Q' hb)) ?_)
 ·refine gn.old (W':=ET fr g.keys) (k0:=fr) (fun b hb=>Q' hb) (fun k hk=>by cases hk) ?_
  refine Ai (W:=ET fr g.keys) hO hm (ia:=ia) (k0:=fr) (fg:=none) (stop:=none) (ks:=ET fr g.keys) (y:=y) (by unfold AY;rw [ii]) hc i_ (fun b hb=>Q' hb) (fun k hk=>hk) fun _=>?_
  exact ACr ip hv fun _ _ h=>h
 ·rintro e w' ⟨u,β1,rfl,ho⟩
  obtain ⟨β',he⟩:=ADB (conds:=g.conds) (gv:=y.s.gv) hg (ho.drop (fr:=fr)) aN c4 ir hov hob fun b h1 h2=>hf b h1 (by show b<fr+(y.s.fr-fr);omega)
  exact ⟨u,β',rfl,he⟩
end
end Go.Proofs.YtgnajdcdcblaoaaGreat.Ex
namespace Go.Proofs.YtgnajdcdcblaoaaGreat.Ex
open Go.RowKit (Below)
section
variable {P:Program} {f:FuncId} {fn:Func} {R:Ending→World→Prop} {a:Act} {w:World}
theorem Safe.leaves (ip:P.funcs[f]? = some fn) {todo:List Item} (ht:K6 todo=true) (h:Leaves P fn a.tmps R a.defers .returning w):Safe P f R todo a w:=by
 intro b cs hb hk;have key:∀ td,∃ e w' fr',R e w'∧Comes P (lone { b.at a td with mode:=.returning } cs w) (lone fr' cs w') e∧fr'.fn=f∧fr'.leaving P w' e:=by
  intro td;obtain ⟨e,w',fr',q1,q2,q3,q4⟩:=leaves_steps a.defers .returning w { b.at a td with mode:=.returning } cs rfl rfl rfl (by show P.funcs[b.fn]? = some fn;rw [hb];exact ip) hk h
  exact ⟨e,w',fr',q1,q2,q3.trans hb,q4⟩
 unfold K6 at ht;split at ht
 ·obtain ⟨e,w',fr',q1,q2,q3,q4⟩:=key []
  exact ⟨e,w',fr',q1,.of_steps (.one step_end) q2,q3,q4⟩
 ·rename_i k;obtain ⟨e,w',fr',q1,q2,q3,q4⟩:=key (.code .ret::k)
  exact ⟨e,w',fr',q1,.of_steps (.one step_ret) q2,q3,q4⟩
 ·cases ht
theorem Safe.of_wpP (ip:P.funcs[f]? = some fn) {c:Code} {k:List Item} (h:c.wp P (fun e a' w'=>(e=.normal∧Safe P f R k a' w')∨∃ chain,e=.panic chain∧Leaves P fn a'.tmps R a'.defers (.panicking chain) w') a w):Safe P f R (.code c::k) a w:=by
 intro b cs hb hk;obtain ⟨e,a',w',hq,harr⟩:=h b k cs;rcases hq with ⟨he,hs⟩ | ⟨chain,he,hl⟩
 ·subst he;obtain ⟨e,w'',fr,h1,h2,h3,h4⟩:=hs b cs hb hk;exact ⟨e,w'',fr,h1,.of_steps harr h2,h3,h4⟩
 ·subst he;obtain ⟨todo,hs⟩:=harr;obtain ⟨e,w'',fr',q1,q2,q3,q4⟩:=leaves_steps a'.defers (.panicking chain) w' { b.at a' todo with mode:=.panicking chain } cs rfl rfl rfl (by show P.funcs[b.fn]? = some fn;rw [hb];exact ip) hk hl
  exact ⟨e,w'',fr',q1,.of_steps hs q2,q3.trans hb,q4⟩
end
def W8 (P:Program) (O:gr):Nat→gq→Option (Log×gq)
 | 0,x=>some (⟨[],[]⟩,x)
 | n+1,x=>match Ng P O x with
  | some (g,y)=>match W8 P O n y with
   | some (g',z)=>some (⟨g.conds++g'.conds,cat g.keys g'.keys⟩,z)
   | none=>none
  | none=>none
section
variable {P:Program} {O:gr} (hO:gp P O) (hm:P.follows .mixedOrders=true) {f:FuncId} {β0:Env} {w0:World} {R:Ending→World→Prop} {n:Fz}
include hO hm
theorem ADC:∀ {m:Nat} {W:List Nat} {x y:gq} {g:Log},W8 P O m x=some (g,y)→AO g.conds→Be n x.s→(Be n y.s→gn P f β0 w0 R n (W++g.keys) y)→gn P f β0 w0 R n W x
 | 0,W,x,y,g,h,hc,i_,hs=>by
  simp only [W8] at h;injection h with h;injection h with h1 h2;subst h1;subst h2;have:=hs i_
  simpa using this
 | m+1,W,x,y,g,h,hc,i_,hs=>by
  simp only [W8] at h;split at h
  ·rename_i g1 y1 hst;split at h
   ·rename_i g2 z hr;injection h with h;injection h with h1 h2;subst h1;subst h2;obtain ⟨c1,c2⟩:=B5.1 hc;refine Wv hO hm hst c1 i_ (ADC hr c2 (Ww hst i_) fun hw=>?_)
    have:=hs hw
    simpa [Cz] using this
   ·cases h
  ·cases h
end
def GM (P:Program) (O:gr) (m k0:Nat) (x:gq):Option (dp×List Nat×gq) :=
 match W8 P O m x with
 | some (g,y)=>some (g.conds,ET k0 g.keys,y)
 | none=>none
theorem RF {P:Program} {O:gr} {f:FuncId} {β0:Env} {w0:World} {R:Ending→World→Prop} {n:Fz} {W:List Nat} (hO:gp P O) (hm:P.follows .mixedOrders=true) {m k0:Nat} {x y:gq} {conds:dp} {ks:List Nat}
  (h:GM P O m k0 x=some (conds,ks,y)) (hc:AO conds) (i_:Be n x.s) (h0:∀ b,k0≤b→β0 b=none) (hks:∀ k∈ks,k∈W) (hs:Be n y.s→gn P f β0 w0 R n W y):gn P f β0 w0 R n W x:=by
 unfold GM at h;split at h;case h_2=>cases h
 rename_i g y1 ii;injection h with h;injection h with h1 h;injection h with h2 h3;subst h1;subst h3;refine ADC hO hm ii hc i_ fun hw=>gn.old h0 (fun k hk ik=>?_) (hs hw)
 rcases jp.1 hk with hk | hk
 ·exact hk
 ·exact hks k (by rw [← h2];exact aG hk ik)
section
variable {P:Program} {O:gr} (hO:gp P O) {ops:Array Oper} {β0:Env} {w0:World} {W:List Nat} {n:Fz}
include hO
theorem pO {Q:Exit→Act→World→Prop} {tl:List Nat}:∀ (pre:List Oper) (i:Nat) (s s':St) (gz:List Rec) (β:Env) (a:Act) (w:World),(∀ j o,pre[j]? = some o→ops[i+j]? = some o)→D8 P O ops pre i s=some (gz,s')→AO (I9 gz) →
  Inv β0 w0 W n β (Ap s.T) s.H a w→(∀ b,s.fr≤b→β b=none)→(∀ b,s.fr≤b→AG s.H b=none)→s.T.length=n.n→(∀ k∈EK gz,k∈W) →
  (∀ β a w,Inv β0 w0 W n β (Ap s'.T) s'.H a w→(∀ b,s'.fr≤b→β b=none)→wpOps P ops Q tl a w)→wpOps P ops Q (List.range' i pre.length++tl) a w
 | [],i,s,s',gz,β,a,w,_,h,_,hi,hf,_,_,_,hQ=>by
  simp only [D8,jt,jz] at h;obtain ⟨rfl,rfl⟩:=h;exact hQ β a w hi hf
 | o::gy,i,s,s',gz,β,a,w,hpre,h,hc,hi,hf,hfH,hn,hW,hQ=>by
  simp only [D8] at h;split at h
  ·rename_i e he;split at h
   ·rename_i hd;split at h
    ·rename_i recs' s'' hr;injection h with h;injection h with h1 h2;subst h1;subst h2;obtain ⟨c1,c2⟩:=B5.1 hc;have ho:ops[i]? = some o:=hpre 0 o rfl
     have hu:=Tw he (fun b h1 _=>hfH b h1)
     rw [kp,sk,nh,wpOps_cons];refine Z3 hO hi.tmp hi.good he c1 (fun b h1 _=>hf b h1) (fun b h1 _=>hfH b h1) ho fun u w' β' hE hG=>?_
     have hi':=hi.step hE hG (fun k y hk=>hW k (by simp only [EK,Cz,jp];exact .inl (PE.2 ⟨y,hk⟩))) (d:=o.dst) (fun t ht=>by
      rw [ht] at hd;have:=Q7 hd
      omega)
     refine pO gy (i+1) _ _ recs' β' _ w' (fun j o' hj=>by rw [show i+1+j=i+(j+1) by omega];exact hpre (j+1) o' hj) hr c2 (hi'.congr (fun t=>(Z5 hd t).symm) (fun _=>rfl)) ?_ (Ws hu hfH) (by rw [← hn];exact Wr) (fun k hk=>hW k (by simp only [EK,Cz,jp];exact .inr hk)) hQ
     intro b hb;cases hβ:β' b with
     | none=>rfl
     | some X =>
      simp only at hb
      rcases hE.new b X hβ with h | ⟨_,h,_⟩
      ·rw [hf b dk] at h;cases h
      ·omega
    ·cases h
   ·cases h
  ·cases h
end
def AN_ (P:Program) (f:FuncId) (ic:List AV) (H0:Heap) (k0:Nat) (c:List PanicEntry):Prop :=
 ∀ (β:Env) (us:List Value) (w:World),BI β ic us→Good β H0 w→(∀ b,k0≤b→β b=none)→Calls P f ⟨us⟩ w fun e w'=>e=.panicked c∧Below w.heap.size w w'
theorem AN' {P:Program} {ops:Array Oper} {Q:Exit→Act→World→Prop} {i:Nat} {tl:List Nat} {a:Act} {w:World} {o:Oper} {c:Call} {g:FuncId} {fn:Func} {chain:List PanicEntry} (ho:ops[i]? = some o) (hop:o.op=.call c) (hg:o.guard=none) (hcal:c.callee=.value (.func g))
  (ip:P.funcs[g]? = some fn) (hb:fn.body.isSome=true) (h_:fo fn) (h:Calls P g (c.args.map a.eval) w fun e w'=>e=.panicked chain∧Q (.panic chain) a w'):wpOps P ops Q (i::tl) a w:=by
 simp only [wpOps,ho];have hw:Region.wanted o (yielded ops a.tmps)=true:=by unfold Region.wanted;rw [hg]
 rw [je hw];refine .inl ?_
 have h1:fn.name≠"runtime.NumGoroutine":=by simpa using h_
 have h2:¬ fn.body=none:=by cases hq:fn.body<;>simp [hq] at hb ⊢
 have e:(execOp a.eval o).run P w=.ok (.enter g (c.args.map a.eval)) w:=by
  simp [execOp,hop,resolve,hcal,Deferred.ofValue,invoke,callFunc,ip,h1,h2,Act.eval]
 unfold Oper.wp;rw [e,Oper.upon_enter];refine h.mono ?_
 rintro e w' ⟨rfl,hq⟩
 exact hq
theorem AOA {P:Program} {ops:Array Oper} {Q:Exit→Act→World→Prop} {i:Nat} {a:Act} {w:World} {o:Oper} {c:Call} {t:Tmp} {F:FuncId} {ps:Array Value} (ho:ops[i]? = some o) (hop:o.op=.defer c) (hg:o.guard=none) (hd:o.dst=none)
  (hcal:c.callee=.value (.tmp t)) (hargs:c.args=#[]) (ht:a.tmps.getD t undef=.func (.func F) #[] ps) (h:Q .normal { a with defers:={ target:=.fn (.func F) ps,args:=#[] }::a.defers } w):wpOps P ops Q [i] a w:=by
 simp only [wpOps,ho];have hw:Region.wanted o (yielded ops a.tmps)=true:=by unfold Region.wanted;rw [hg]
 rw [je hw];refine .inl ?_
 have e:(execOp a.eval o).run P w=.ok (.defer { target:=.fn (.func F) ps,args:=#[] }) w:=by
  simp [execOp,hop,resolve,hcal,hargs,Deferred.ofValue,Act.eval,ht]
 unfold Oper.wp;rw [e,Oper.upon_defer,hd];exact h
theorem AOB {P:Program} {ops:Array Oper} {Q:Exit→Act→World→Prop} {a:Act} {w:World} {o0 o1:Oper} {t:Tmp} {T:TypeId} {v:Value} {k:IntKind} (h0:ops[0]? = some o0) (h1:ops[1]? = some o1) (hop0:o0.op=.makeInterface T (.const v)) (hg0:o0.guard=none)
  (hd0:o0.dst=some t) (hop1:o1.op=.panic (.tmp t)) (hg1:o1.guard=none) (hu:P.underlying T=some (.int k)) (ht:t<a.tmps.size) (h:∀ a',a'.defers=a.defers→Q (.panic [{ v:=.iface T v,recovered:=false }]) a' w):wpOps P ops Q [0,1] a w:=by
 have w0:Region.wanted o0 (yielded ops a.tmps)=true:=by unfold Region.wanted;rw [hg0]
 have w1:Region.wanted o1 (yielded ops (a.put o0.dst (.iface T v)).tmps)=true:=by unfold Region.wanted;rw [hg1]
 have e0:(execOp a.eval o0).run P w=.ok (.value (.iface T v)) w:=by
  simp [execOp,hop0,Instr.makeInterface,run_underlying hu,Act.eval]
 have e1:(execOp (a.put o0.dst (.iface T v)).eval o1).run P w=.halt (.panic (.iface T v)) w:=by
  simp [execOp,hop1,hd0,Act.put,Act.eval,Array.getD_eq_getD_getElem?,ht,Instr.panic,goPanic]
 simp only [wpOps,h0,h1];rw [je w0];refine .inl ?_
 show o0.upon P a _ Q ((execOp a.eval o0).run P w);rw [e0,Oper.upon_value,je w1];refine .inl ?_
 show o1.upon P (a.put o0.dst (.iface T v)) _ Q ((execOp (a.put o0.dst (.iface T v)).eval o1).run P w);rw [e1,Oper.upon_panic];exact h _ (by rw [hd0];rfl)
def Hq:List Item→Array Oper
 | .code (.region _ ops _)::_=>ops
 | _=>#[]
def W9:List Item→Nat
 | .code (.region id _ _)::_=>id
 | _=>0
def UC:List Item→List Item
 | _::k=>k
 | []=>[]
theorem Inv.root {β0 β:Env} {w0 w:World} {W:List Nat} {n:Fz} {τ:Nat→AV} {H:Heap} {a:Act} (i:Inv β0 w0 W n β τ H a w):Inv β w [] n β τ H a w where
 tmp:=i.tmp
 good:=i.good
 sz:=i.sz
 dfr:=i.dfr
 new:=fun _ _ h=>.inl h
 ext:=Env.le_refl β
 frame:=fun _ _ _=>rfl
 size:=jj _
 os:=rfl
 tape:=rfl
 output:=rfl
theorem Inv.push {β0 β:Env} {w0 w:World} {W:List Nat} {k:Nat} {τ:Nat→AV} {H:Heap} {a:Act} {d:Deferred} (i:Inv β0 w0 W ⟨k,[]⟩ β τ H a w):Inv β0 w0 W ⟨k,[d]⟩ β τ H { a with defers:=d::a.defers } w :=
 { i with sz:=i.sz,dfr:=by rw [i.dfr] }
theorem AOC {β:Env} {a b:Nat} {ps:List Value} (h:GE β [(a,0),(b,0)] ps):∃ A m B n,β a=some (.at_ A m)∧β b=some (.at_ B n)∧ps=[.pointer (some ⟨A,m.2+0,none⟩),.pointer (some ⟨B,n.2+0,none⟩)]:=by
 obtain ⟨A,m,l,h1,⟨B,n,l',h2,h3,h4⟩,h5⟩:=h;simp only [GE] at h3;subst h3;subst h4;subst h5;exact ⟨A,m,B,n,h1,h2,rfl⟩
theorem AOD {P:Program} {O:gr} {f:FuncId} {fn:Func} {β0:Env} {w0:World} {R:Ending→World→Prop} {n:Fz} {W:List Nat} (hO:gp P O) (hm:P.follows .mixedOrders=true) (ip:P.funcs[f]? = some fn) {ia k0:Nat} {ks ks':List Nat} {x:gq} {conds:dp} {v:AV} {H1:Heap}
  (h:AT P O fn ia k0 ks x=some (conds,ks',v,H1)) (hc:AO conds) (i_:Be n x.s) (h0:∀ b,k0≤b→β0 b=none) (hks:∀ k∈ks',k∈W) {F:FuncId} {fnF:Func} {p q:Value} (hD:n.D=[{ target:=.fn (.func F) #[p,q],args:=#[] }])
  (hF:P.funcs[F]? = some fnF) (hb:fnF.body.isSome=true) (h_:fo fnF) (idle:∀ w,CallsD P F #[p,q] .returning w fun e u' w'=>e=.returned (.tuple #[])∧u'=.returning∧w'=w)
  (hR:∀ e w',A_ β0 w0 W v H1 e w'→R e w'):gn P f β0 w0 R n W x:=by
 unfold AT at h;split at h;case h_2=>cases h
 rename_i g y ii;split at h;case h_2=>cases h
 rename_i v' hv;injection h with h;injection h with h1 h;injection h with h2 h;injection h with h3 h4;subst h1;subst h3;subst h4;refine Ai (W:=W) hO hm (ia:=ia) (k0:=k0) (fg:=none) (stop:=none) (ks:=ks') (y:=y) (by unfold AY;rw [ii];simp only;rw [h2]) hc i_ h0 hks fun _=>?_
 intro β a w hi hf;unfold JB at hv;split at hv;case h_2=>cases hv
 rename_i l e1 e2;injection hv with hv;subst hv;obtain ⟨u,hu,hr⟩:=Z' hi.tmp hi.good e2;have q1:fnF.name≠"runtime.NumGoroutine":=by simpa using h_
 have q2:¬ fnF.body=none:=by cases hq:fnF.body<;>simp [hq] at hb ⊢
 refine Safe.leaves ip e1 ?_
 rw [hi.dfr,hD];refine leaves_cons (f:=F) (args:=#[p,q]) (by simp) (by simp [invoke,callFunc,hF,q1,q2]) ?_
 refine (idle w).mono ?_
 rintro e u' w' ⟨rfl,rfl,rfl⟩
 exact ⟨u,hu,hR _ _ ⟨u,β,rfl,hr,hi.good.restrict ks,hi.new,hi.ext,hi.frame,hi.size,hi.os,hi.tape,hi.output⟩⟩
end Go.Proofs.YtgnajdcdcblaoaaGreat.Ex
namespace Go.Proofs.YtgnajdcdcblaoaaGreat.Ex
def Wd (F:Fence):Prop:=(∀ f,F.fn f)∧F.depth=none∧Machine.fenced=Machine.fenced∧(∀ P,Machine.fenced P F=Machine.fenced P Fence.wide)
theorem ADD:Wd Fence.wide:=⟨fun _=>trivial,rfl,rfl,fun _=>rfl⟩
theorem ADE (l:Nat):Wd (Fence.wide.inRound l):=⟨fun _=>trivial,rfl,rfl,fun P=>fenced_inRound P Fence.wide l⟩
section
variable {P:Program} {F:Fence} (hF:Wd F) {n:Nat}
include hF
theorem AOE {f:FuncId} {args:Array Value} {w:World} {R:Ending→World→Prop} (h:Calls P f args w R):CallsIn F n P f args w R:=by
 refine ⟨hF.1 f,fun cs _=>?_⟩
 obtain ⟨e,w',fr,r,s,x⟩:=h cs;refine ⟨e,w',fr,r,?_,x⟩
 rw [hF.2.2.2 P];exact comesIn_wide.2 s
theorem AOF {row:String} {args:Array Value} {w:World} {R:Value→World→Prop} (h:Rows P row args w R):RowsIn F n P row args w R:=by
 intro c cs _;obtain ⟨v,w',r,s⟩:=h c cs;refine ⟨v,w',r,?_⟩
 rw [hF.2.2.2 P];exact stepsIn_wide.2 s
theorem AOG {o:Oper} {a:Act} {w:World} {K:Act→World→Prop} {Q:Exit→Act→World→Prop} (hd:∀ c,o.op≠.defer c) (h:o.wp P a w K Q):o.wpIn F n P a w K Q:=by
 refine ⟨fun f _=>hF.1 f,?_⟩
 rw [Oper.semAt_eq _ _ _ hd];unfold Oper.wp Oper.upon at h;split at h
 ·rename_i e;rw [e];exact h
 ·rename_i e;rw [e];exact h
 ·rename_i e;rw [e];exact h
 ·rename_i e;rw [e];exact ⟨fun q=>(by rw [hF.2.1] at q;cases q),AOE hF h⟩
 ·rename_i e;rw [e];exact ⟨fun q=>(by rw [hF.2.1] at q;cases q),AOF hF h⟩
 ·rename_i e;rw [e];exact h
 ·exact h.elim
theorem AOH {ops:Array Oper} {i:Nat} {K:Act→World→Prop} {Q:Exit→Act→World→Prop} {a:Act} {w:World} (hQ:∀ a w,¬ Q .outgrown a w) (hd:∀ o,ops[i]? = some o→∀ c,o.op≠.defer c) (h:wpOp P ops Q i K a w):wpOpIn F n P ops Q i K a w:=by
 unfold wpOp at h;unfold wpOpIn;cases ho:ops[i]? with
 | none=>rw [ho] at h;exact h
 | some o =>
  rw [ho] at h;simp only at h ⊢
  split at h
  ·rename_i hw;rw [je hw];rcases h with h | ⟨_,a',w',h⟩
   ·exact AOG hF (hd o ho) h
   ·exact absurd h (hQ a' w')
  ·rename_i hw;rw [jd hw];exact ⟨fun f _=>hF.1 f,h⟩
end
def RG:List Oper→Bool
 | []=>true
 | o::r=>match o.op with
  | .defer _=>false
  | _=>RG r
theorem ADF:∀ {l:List Oper} {i:Nat} {o:Oper},RG l=true→l[i]? = some o→∀ c,o.op≠.defer c
 | [],i,o,_,h,_=>by simp at h
 | x::r,0,o,hn,h,c=>by
  simp only [po,jt] at h;subst h;intro e;simp only [RG,e] at hn;cases hn
 | x::r,i+1,o,hn,h,c=>by
  refine ADF (l:=r) ?_ (by simpa using h) c
  simp only [RG] at hn;split at hn
  ·cases hn
  ·exact hn
section
variable {P:Program} {O:gr} (hO:gp P O) {F:Fence} (hF:Wd F) {m:Nat} {ops:Array Oper} {β0:Env} {w0:World} {W:List Nat} {n:Fz}
include hO hF
theorem aQ {Q:Exit→Act→World→Prop} {tl:List Nat} (hQ:∀ a w,¬ Q .outgrown a w) (hD:RG ops.toList=true):∀ (pre:List Oper) (i:Nat) (s s':St) (gz:List Rec) (β:Env) (a:Act) (w:World),(∀ j o,pre[j]? = some o→ops[i+j]? = some o)→D8 P O ops pre i s=some (gz,s')→AO (I9 gz) →
  Inv β0 w0 W n β (Ap s.T) s.H a w→(∀ b,s.fr≤b→β b=none)→(∀ b,s.fr≤b→AG s.H b=none)→s.T.length=n.n→(∀ k∈EK gz,k∈W) →
  (∀ β a w,Inv β0 w0 W n β (Ap s'.T) s'.H a w→(∀ b,s'.fr≤b→β b=none)→wpOpsIn F m P ops Q tl a w)→wpOpsIn F m P ops Q (List.range' i pre.length++tl) a w
 | [],i,s,s',gz,β,a,w,_,h,_,hi,hf,_,_,_,hK=>by
  simp only [D8,jt,jz] at h;obtain ⟨rfl,rfl⟩:=h;exact hK β a w hi hf
 | o::gy,i,s,s',gz,β,a,w,hpre,h,hc,hi,hf,hfH,hn,hW,hK=>by
  simp only [D8] at h;split at h
  ·rename_i e he;split at h
   ·rename_i hd;split at h
    ·rename_i recs' s'' hr;injection h with h;injection h with h1 h2;subst h1;subst h2;obtain ⟨c1,c2⟩:=B5.1 hc;have ho:ops[i]? = some o:=hpre 0 o rfl
     have hu:=Tw he (fun b h1 _=>hfH b h1)
     rw [kp,sk,nh,wpOpsIn_cons];refine AOH hF hQ (fun o' ho'=>ADF hD (by rw [← qu] at ho';exact ho')) (Z3 hO hi.tmp hi.good he c1 (fun b h1 _=>hf b h1) (fun b h1 _=>hfH b h1) ho fun u w' β' hE hG=>?_)
     have hi':=hi.step hE hG (fun k y hk=>hW k (by simp only [EK,Cz,jp];exact .inl (PE.2 ⟨y,hk⟩))) (d:=o.dst) (fun t ht=>by
      rw [ht] at hd;have:=Q7 hd
      omega)
     refine aQ hQ hD gy (i+1) _ _ recs' β' _ w' (fun j o' hj=>by rw [show i+1+j=i+(j+1) by omega];exact hpre (j+1) o' hj) hr c2 (hi'.congr (fun t=>(Z5 hd t).symm) (fun _=>rfl)) ?_ (Ws hu hfH) (by rw [← hn];exact Wr) (fun k hk=>hW k (by simp only [EK,Cz,jp];exact .inr hk)) hK
     intro b hb;cases hβ:β' b with
     | none=>rfl
     | some X =>
      simp only at hb
      rcases hE.new b X hβ with h | ⟨_,h,_⟩
      ·rw [hf b dk] at h;cases h
      ·omega
    ·cases h
   ·cases h
  ·cases h
end
def EO (P:Program) (O:gr):Code→St→Option (Log×Bool×St)
 | .skip,s=>some (⟨[],[]⟩,false,s)
 | .ret,s=>some (⟨[],[]⟩,true,s)
 | .seq a b,s=>match EO P O a s with
  | some (g,true,s')=>some (g,true,s')
  | some (g,false,s')=>match EO P O b s' with
   | some (g',r,s'')=>some (⟨g.conds++g'.conds,cat g.keys g'.keys⟩,r,s'')
   | none=>none
  | none=>none
 | .cond c a b,s=>match B8 (Ap s.T) c with
  | some (.val false [.b true])=>EO P O a s
  | some (.val false [.b false])=>EO P O b s
  | some (.val false [.v (.bool z)])=>match s.gv with
   | true::gy=>match EO P O a { s with gv:=gy } with
    | some (g,r,s')=>some (⟨(z,true)::g.conds,g.keys⟩,r,s')
    | none=>none
   | false::gy=>match EO P O b { s with gv:=gy } with
    | some (g,r,s')=>some (⟨(z,false)::g.conds,g.keys⟩,r,s')
    | none=>none
   | []=>none
  | _=>none
 | .block _ c,s=>EO P O c s
 | .region _ ops false,s=>match RG ops.toList,D8 P O ops ops.toList 0 s with
  | true,some (gz,s')=>some (⟨I9 gz,EK gz⟩,false,s')
  | _,_=>none
 | _,_=>none
def rEx:Bool→Exit
 | true=>.ret
 | false=>.normal
theorem pP {P:Program} {O:gr} {ops:Array Oper} {l:List Oper} {i:Nat} {s s':St} {gz:List Rec} {n:Fz} (h:D8 P O ops l i s=some (gz,s')) (hw:Be n s):Be n s':=by
 obtain ⟨h1,h2,h3⟩:=Z6 h hw.1;exact ⟨h1,by rw [h3];exact hw.2⟩
section
variable {P:Program} {O:gr} (hO:gp P O) {F:Fence} (hF:Wd F) {m:Nat} {β0:Env} {w0:World} {W:List Nat} {n:Fz}
include hO hF
theorem MW:∀ (c:Code) {Q:Exit→Act→World→Prop} (_:∀ a w,¬ Q .outgrown a w) {s s':St} {g:Log} {r:Bool} {β:Env} {a:Act} {w:World},EO P O c s=some (g,r,s')→AO g.conds→Be n s →
  Inv β0 w0 W n β (Ap s.T) s.H a w→(∀ b,s.fr≤b→β b=none)→(∀ k∈g.keys,k∈W) →
  (∀ β a w,Be n s'→Inv β0 w0 W n β (Ap s'.T) s'.H a w→(∀ b,s'.fr≤b→β b=none)→Q (rEx r) a w)→c.wpIn F m P Q a w
 | .skip,Q,hQ,s,s',g,r,β,a,w,h,hc,hw,hi,hf,hk,hn=>by
  simp only [EO,jt,jz] at h;obtain ⟨rfl,rfl,rfl⟩:=h;exact wpIn_skip (hn β a w hw hi hf)
 | .ret,Q,hQ,s,s',g,r,β,a,w,h,hc,hw,hi,hf,hk,hn=>by
  simp only [EO,jt,jz] at h;obtain ⟨rfl,rfl,rfl⟩:=h;exact wpIn_ret (hn β a w hw hi hf)
 | .seq x y,Q,hQ,s,s',g,r,β,a,w,h,hc,hw,hi,hf,hk,hn=>by
  simp only [EO] at h;split at h
  ·rename_i g1 s1 h1;simp only [jt,jz] at h;obtain ⟨rfl,rfl,rfl⟩:=h;refine wpIn_seq (MW x (Q:=Exit.then (y.wpIn F m P Q) Q) (fun a w q=>hQ a w q) h1 hc hw hi hf hk fun β a w hw hi hf=>?_)
   exact hn β a w hw hi hf
  ·rename_i g1 s1 h1;split at h
   ·rename_i g2 r2 s2 h2;simp only [jt,jz] at h;obtain ⟨rfl,rfl,rfl⟩:=h;obtain ⟨c1,c2⟩:=B5.1 hc;refine wpIn_seq (MW x (Q:=Exit.then (y.wpIn F m P Q) Q) (fun a w q=>hQ a w q) h1 c1 hw hi hf (fun k hk'=>hk k (by simp only [Cz,jp];exact .inl hk')) fun β a w hw hi hf=>?_)
    exact MW y hQ h2 c2 hw hi hf (fun k hk'=>hk k (by simp only [Cz,jp];exact .inr hk')) hn
   ·cases h
  ·cases h
 | .cond c x y,Q,hQ,s,s',g,r,β,a,w,h,hc,hw,hi,hf,hk,hn=>by
  simp only [EO] at h;split at h
  ·rename_i he;have e1:=Az (I5 hi.tmp he)
   simp only [BM] at e1;injection e1 with e1 _;exact wpIn_cond_true e1 (MW x hQ h hc hw hi hf hk hn)
  ·rename_i he;have e1:=Az (I5 hi.tmp he)
   simp only [BM] at e1;injection e1 with e1 _;exact wpIn_cond_false e1 (MW y hQ h hc hw hi hf hk hn)
  ·rename_i z he;have e1:=(Az (I5 hi.tmp he)).1
   injection e1 with e1 _;split at h
   ·rename_i gy hp;split at h
    ·rename_i g1 r1 s1 h1;simp only [jt,jz] at h;obtain ⟨rfl,rfl,rfl⟩:=h;exact wpIn_cond_true (by rw [e1,hc.1]) (MW x hQ h1 hc.2 hw hi hf hk hn)
    ·cases h
   ·rename_i gy hp;split at h
    ·rename_i g1 r1 s1 h1;simp only [jt,jz] at h;obtain ⟨rfl,rfl,rfl⟩:=h;exact wpIn_cond_false (by rw [e1,hc.1]) (MW y hQ h1 hc.2 hw hi hf hk hn)
    ·cases h
   ·cases h
  ·cases h
 | .block id c,Q,hQ,s,s',g,r,β,a,w,h,hc,hw,hi,hf,hk,hn=>by
  simp only [EO] at h;refine wpIn_block (MW c (Q:=Exit.inBlock id Q) (fun a w q=>hQ a w q) h hc hw hi hf hk fun β a w hw hi hf=>?_)
  cases r
  ·exact hn β a w hw hi hf
  ·exact hn β a w hw hi hf
 | .region id ops d,Q,hQ,s,s',g,r,β,a,w,h,hc,hw,hi,hf,hk,hn=>by
  cases d with
  | true=>simp [EO] at h
  | false =>
   simp only [EO] at h;split at h
   ·rename_i gz s1 hD hr;simp only [jt,jz] at h;obtain ⟨rfl,rfl,rfl⟩:=h;refine wpIn_region ?_
    have:=aQ hO hF (m:=m) (tl:=[]) hQ hD ops.toList 0 s _ gz β a w (fun j o hj=>by rw [ka,← qu];exact hj) hr hc hi hf hw.1 hw.2 hk fun β a w hi hf=>hn β a w (pP hr hw) hi hf
    rw [tq];simpa using this
   ·cases h
 | .label _,Q,hQ,s,s',g,r,β,a,w,h,hc,hw,hi,hf,hk,hn=>by simp [EO] at h
 | .loop _,Q,hQ,s,s',g,r,β,a,w,h,hc,hw,hi,hf,hk,hn=>by simp [EO] at h
 | .scope _,Q,hQ,s,s',g,r,β,a,w,h,hc,hw,hi,hf,hk,hn=>by simp [EO] at h
 | .exit _,Q,hQ,s,s',g,r,β,a,w,h,hc,hw,hi,hf,hk,hn=>by simp [EO] at h
 | .goto _,Q,hQ,s,s',g,r,β,a,w,h,hc,hw,hi,hf,hk,hn=>by simp [EO] at h
 | .rangeFunc ..,Q,hQ,s,s',g,r,β,a,w,h,hc,hw,hi,hf,hk,hn=>by simp [EO] at h
 | .refuse _,Q,hQ,s,s',g,r,β,a,w,h,hc,hw,hi,hf,hk,hn=>by simp [EO] at h
end
structure OutL (L:Nat) (β0:Env) (w0:World) (W:List Nat) (H:Heap) (w:World) (β:Env):Prop where
 good:Good β H w
 new:∀ b X,β b=some X→β0 b=some X∨∀ B m,X=.at_ B m→w0.heap.size≤B∨∃ k m',k∈W∧β0 k=some (.at_ B m')
 ext:Env.le β0 β
 frame:∀ B,B<w0.heap.size→B≠L→(∀ k m,k∈W→β0 k≠some (.at_ B m))→w.heap[B]? = w0.heap[B]?
 size:w0.heap.size≤w.heap.size
 os:w.os=w0.os
 tape:w.tape=w0.tape
 output:w.output=w0.output
def noL (L bk:Nat) (β:Env):Prop:=∀ b n,β b=some (.at_ L n)→b=bk
def aS (L:Nat) (β:Env) (H:Heap):Prop:=∀ b blk n,AG H b=some blk→β b≠some (.at_ L n)
theorem noL.off {L bk:Nat} {β:Env} {H:Heap} (h:noL L bk β) (hb:AG H bk=none):aS L β H:=fun b blk n h1 h2=>by
 rw [h b n h2,hb] at h1;cases h1
section
variable {L:Nat} {β0 β1 β:Env} {w0 w1 w:World} {W W':List Nat} {H H1:Heap}
theorem OutL.of_inv {n:Fz} {τ:Nat→AV} {a:Act} (i:Inv β0 w0 W n β τ H a w):OutL L β0 w0 W H w β :=
 ⟨i.good,i.new,i.ext,fun B hB _=>i.frame B hB,i.size,i.os,i.tape,i.output⟩
theorem OutL.trans (i:OutL L β0 w0 W H1 w1 β1) (o:OutL L β1 w1 W' H w β):OutL L β0 w0 (W++W') H w β where
 good:=o.good
 new b X hb:=by
  rcases o.new b X hb with h | h
  ·rcases i.new b X h with h | h
   ·exact .inl h
   ·exact .inr fun B m e=>(h B m e).imp (fun q=>q) fun ⟨k,m',q1,q2⟩=>⟨k,m',jp.2 (.inl q1),q2⟩
  ·refine .inr fun B m e=>?_
   rcases h B m e with q | ⟨k,m',q1,q2⟩
   ·exact .inl (mb i.size q)
   ·rcases i.new k _ q2 with r | r
    ·exact .inr ⟨k,m',jp.2 (.inr q1),r⟩
    ·exact (r B m' rfl).imp (fun q=>q) fun ⟨k',m'',s1,s2⟩=>⟨k',m'',jp.2 (.inl s1),s2⟩
 ext:=Env.le_trans i.ext o.ext
 frame B hB hL iz:=by
  rw [o.frame B (kr hB i.size) hL ?_,i.frame B hB hL fun k m hk=>iz k m (jp.2 (.inl hk))]
  intro k m hk hk2;rcases i.new k _ hk2 with r | r
  ·exact iz k m (jp.2 (.inr hk)) r
  ·rcases r B m rfl with q | ⟨k',m',s1,s2⟩
   ·omega
   ·exact iz k' m' (jp.2 (.inl s1)) s2
 size:=mb i.size o.size
 os:=o.os.trans i.os
 tape:=o.tape.trans i.tape
 output:=o.output.trans i.output
theorem OutL.noL {bk:Nat} (i:OutL L β0 w0 W H w β) (h:noL L bk β0) (hL:L<w0.heap.size) (hW:bk ∉ W):noL L bk β:=fun b n hb=>by
 rcases i.new b _ hb with h1 | h1
 ·exact h b n h1
 ·rcases h1 L n rfl with q | ⟨k,m',hk,q⟩
  ·omega
  ·rw [h k m' q] at hk;exact absurd hk hW
theorem Good.putObj (g:Good β H w) (h:aS L β H) (o:Obj):Good β H (w.putObj L o) where
 heap b blk hb:=by
  rcases g.heap b blk hb with ⟨B,n,l,t,pre,ty,fz,e1,e2,e3,e4⟩ | h' | ⟨B,l,es,q,e1,e2,e3,e4,e5⟩
  ·exact .inl ⟨B,n,l,t,pre,ty,fz,e1,e2,by rw [World.putObj_heap_other (fun e=>h b blk n hb (by rw [← e];exact e1))];exact e3,e4⟩
  ·exact .inr (.inl h')
  ·exact .inr (.inr ⟨B,l,es,q,e1,e2,e3,by rw [World.putObj_heap_other (fun e=>h b blk _ hb (by rw [← e];exact e1))];exact e4,e5⟩)
 inj:=g.inj
 lt b B n hb:=by rw [World.putObj_size];exact g.lt b B n hb
theorem OutL.put (i:OutL L β0 w0 W H w β) (h:aS L β H) (o:Obj):OutL L β0 w0 W H (w.putObj L o) β :=
 ⟨i.good.putObj h o,i.new,i.ext,fun B hB hL iz=>by rw [World.putObj_heap_other hL];exact i.frame B hB hL iz,by rw [World.putObj_size];exact i.size,i.os,i.tape,i.output⟩
theorem OutL.mono (i:OutL L β0 w0 W H w β) (h:∀ k∈W,k∈W'):OutL L β0 w0 W' H w β :=
 { i with
  new:=fun b X hb=>(i.new b X hb).imp id fun q B m e=>(q B m e).imp id fun ⟨k,m',h1,h2⟩=>⟨k,m',h k h1,h2⟩
  frame:=fun B hB hL iz=>i.frame B hB hL fun k m hk=>iz k m (h k hk) }
end
def LC (r:Loop):Bool→Loop
 | true=>{ r with state:=.done,pending:=some .ret }
 | false=>r
theorem MX {k:Nat} {l:List Nat} (h:E0 k l=false):k ∉ l:=fun q=>by rw [Q5.2 q] at h;cases h
section
variable {P:Program} {O:gr} (hO:gp P O) {m L bk:Nat} {r:Loop} {T:List AV} {H:Heap} {fr:Nat} {gv:List Bool} {s1 s2:St} {g1 g2:Log} {b:Bool} {n:Nat}
include hO
theorem AOJ {β:Env} {w:World} {tmps:Array Value} {R:Ending→World→Prop} (hl:w.heap[L]? = some (.loop r)) (hst:r.state=.ready) (hp:r.pending=none) (iz:noL L bk β)
  (hT:∀ t,AN β (Ap T t) (tmps.getD t undef)) (hsz:tmps.size=n) (hTn:T.length=n) (g:Good β H w) (hf:∀ b,fr≤b→β b=none) (hfH:∀ b,fr≤b→AG H b=none)
  (h1:EO P O r.assign ⟨T,H,fr,gv⟩=some (g1,false,s1)) (h2:EO P O r.body s1=some (g2,b,s2)) (c1:AO g1.conds) (c2:AO g2.conds)
  (k1:E0 bk g1.keys=false) (k2:E0 bk g2.keys=false) (b1:AG s1.H bk=none) (b2:AG s2.H bk=none)
  (hK:∀ β' w',OutL L β w (g1.keys++g2.keys) s2.H w' β'→Be n s2→(∀ b,s2.fr≤b→β' b=none)→w'.heap[L]? = some (.loop (LC r b))→R (.returned (.bool (!b))) w') :
  RoundIn Fence.wide m P L r.fn tmps r.assign r.body w R:=by
 have hL:L<w.heap.size:=by
  rcases jv L w.heap.size with h | h
  ·exact h
  ·rw [Array.getElem?_eq_none h] at hl;cases hl
 have k1:=MX k1;have k2:=MX k2;refine roundIn_of_wpIn trivial ?_
 have i0:Inv β w [] ⟨n,[]⟩ β (Ap T) H { tmps:=tmps,defers:=[] } w:=⟨hT,g,hsz,rfl,fun _ _ h=>.inl h,Env.le_refl _,fun _ _ _=>rfl,jj _,rfl,rfl,rfl⟩
 refine MW hO (ADE L) r.assign (n:=⟨n,[]⟩) (W:=g1.keys) (fun a w q=>q) h1 c1 ⟨hfH,hTn⟩ (i0.mono fun _ h=>by cases h) hf (fun _ h=>h) fun β1 a1 w1 hw1 i1 hf1=>?_
 have o1:=OutL.of_inv (L:=L) i1
 have n1:=o1.noL iz hL k1;have l1:w1.heap[L]? = some (.loop r):=by rw [i1.frame L hL fun k m hk e=>k1 (by rw [← iz k m e];exact hk)];exact hl
 have hL1:L<w1.heap.size:=kr hL i1.size
 refine ⟨_,run_beginRound l1 hst,?_⟩
 have o2:=o1.put (n1.off b1) (.loop { r with state:=.busy })
 have l2:(w1.putObj L (.loop { r with state:=.busy })).heap[L]? = some (.loop { r with state:=.busy }):=World.putObj_heap_same hL1
 have i2:Inv β1 (w1.putObj L (.loop { r with state:=.busy })) [] ⟨n,[]⟩ β1 (Ap s1.T) s1.H a1 (w1.putObj L (.loop { r with state:=.busy })):=⟨i1.tmp,o2.good,i1.sz,i1.dfr,fun _ _ h=>.inl h,Env.le_refl _,fun _ _ _=>rfl,jj _,rfl,rfl,rfl⟩
 refine MW hO (ADE L) r.body (n:=⟨n,[]⟩) (W:=g2.keys) (fun a w q=>q) h2 c2 hw1 (i2.mono fun _ h=>by cases h) hf1 (fun _ h=>h) fun β2 a2 w3 hw2 i3 hf3=>?_
 have o3:=OutL.of_inv (L:=L) i3
 have hL2:L<(w1.putObj L (.loop { r with state:=.busy })).heap.size:=by rw [World.putObj_size];exact hL1
 have n3:=o3.noL n1 hL2 k2;have l3:w3.heap[L]? = some (.loop { r with state:=.busy }):=by rw [i3.frame L hL2 fun k m hk e=>k2 (by rw [← n1 k m e];exact hk)];exact l2
 have hL3:L<w3.heap.size:=kr hL2 i3.size
 have fin:∀ o,o=Obj.loop (LC r b)→R (.returned (.bool (!b))) (w3.putObj L o):=fun o ho=>by
  subst ho;exact hK β2 _ ((o2.trans o3).put (n3.off b2) _) hw2 hf3 (World.putObj_heap_same hL3)
 cases b with
 | true=>exact ⟨_,_,run_endRound (some .ret) l3,fin _ rfl⟩
 | false =>
  refine ⟨_,_,run_endRound none l3,fin _ ?_⟩
  obtain ⟨st,pd,_⟩:=r;simp only at hst hp
  subst hst;subst hp;rfl
end
def UD:List Oper→Option (List Oper×Oper×List Oper)
 | []=>none
 | o::r=>match o.op with
  | .call c=>match c.callee with
   | .value (.tmp _)=>some ([],o,r)
   | _=>match UD r with
    | some (a,x,b)=>some (o::a,x,b)
    | none=>none
  | _=>match UD r with
   | some (a,x,b)=>some (o::a,x,b)
   | none=>none
theorem ADG:∀ {l a:List Oper} {o:Oper} {b:List Oper},UD l=some (a,o,b)→l=a++o::b
 | [],_,_,_,h=>by cases h
 | x::r,a,o,b,h=>by
  have key:∀ {a b o},(match UD r with | some (a,y,b)=>some (x::a,y,b) | none=>none)=some (a,o,b)→x::r=a++o::b:=by
   intro a b o h;split at h
   ·rename_i a' y b' hs;simp only [jt,jz] at h;obtain ⟨rfl,rfl,rfl⟩:=h;rw [ADG hs];rfl
   ·cases h
  simp only [UD] at h;split at h
  ·split at h
   ·simp only [jt,jz] at h;obtain ⟨rfl,rfl,rfl⟩:=h;rfl
   ·exact key h
  ·exact key h
def Nk:List Tmp→List AV→List AV→List AV
 | t::ts,A::As,T=>Nk ts As (Js T t A)
 | _,_,T=>T
theorem ADH:∀ {ps:List Tmp} {As T:List AV},(Nk ps As T).length=T.length
 | [],_,_=>rfl
 | _::_,[],_=>rfl
 | t::ts,A::As,T=>by simp only [Nk];rw [ADH,Wq]
theorem ADI {β:Env}:∀ {ps:List Tmp} {As T:List AV} {us:List Value} {tmps:Array Value},K8 tmps.size ps=true→T.length=tmps.size→BI β As us→(∀ t,AN β (Ap T t) (tmps.getD t undef)) →
  ∀ t,AN β (Ap (Nk ps As T) t) (((ps.zip us).foldl (fun tmps (t,a)=>tmps.setIfInBounds t a) tmps).getD t undef)
 | [],_,_,_,_,_,_,_,h=>by simpa [Nk] using h
 | _::_,[],_,us,_,_,_,hr,h=>by
  simp only [BI] at hr;subst hr;simpa [Nk] using h
 | p::ps,A::As,T,us,tmps,ik,hl,hr,h=>by
  obtain ⟨u,us',h1,h2,h3⟩:=hr;subst h3;simp only [List.zip_cons_cons,List.foldl_cons,Nk];simp only [K8] at ik;split at ik;case h_2=>cases ik
  rename_i hb;have hp:=Bf.1 hb;refine ADI (by simpa using ik) (by rw [Wq,hl];simp) h2 fun t=>?_
  rw [Z4 (by rw [hl];exact hp)]
  by_cases e:p=t
  ·subst e;rw [show Nat.beq p p=true from Ar.2 rfl]
   simpa [Array.getD_eq_getD_getElem?,hp] using h1
  ·rw [GH e];simp only
   have:=h t
   simpa [Array.getD_eq_getD_getElem?,Array.getElem?_setIfInBounds_ne e] using this
structure Lp where
 T:List AV
 ps:Array Tmp
 assign:Code
 body:Code
def nt:Bool→Bool
 | true=>false
 | false=>true
def pQ (P:Program) (O:gr) (lp:Lp) (bk:Nat) (x:gq):Option (Log×Bool×gq) :=
 match x.todo with
 | .code (.region _ ops false)::k=>match UD ops.toList,RG ops.toList with
  | some (pre,o,post),true=>match o.op,o.guard,o.dst with
   | .call c,none,some d=>match c.callee with
    | .value (.tmp t)=>match D8 P O ops pre 0 x.s with
     | some (r1,s1)=>match Ap s1.T t,PC (Ap s1.T) c.args.toList with
      | .val false [.yl bk'],some args=>match Nat.beq bk' bk,Nat.beq (F2 args) (F2 (lp.ps.toList.map fun _=>AV.any)),Tv d s1.T,K8 (F2 lp.T) lp.ps.toList with
       | true,true,true,true=>match EO P O lp.assign ⟨Nk lp.ps.toList args lp.T,s1.H,s1.fr,s1.gv⟩ with
        | some (g1,false,t1)=>match EO P O lp.body t1 with
         | some (g2,b,t2)=>match AG t1.H bk,AG t2.H bk,E0 bk g1.keys,E0 bk g2.keys with
          | none,none,false,false=>match D8 P O ops post (F2 (pre.map fun _=>AV.any)+1) ⟨Js s1.T d (.val false [.b (nt b)]),t2.H,t2.fr,t2.gv⟩ with
           | some (r3,s3)=>match E0 bk (EK r1),E0 bk (EK r3),AG s3.H bk with
            | false,false,none=>some (⟨I9 r1++(g1.conds++(g2.conds++I9 r3)),cat (EK r1) (cat (cat g1.keys g2.keys) (EK r3))⟩,b,⟨k,s3⟩)
            | _,_,_=>none
           | none=>none
          | _,_,_,_=>none
         | none=>none
        | _=>none
       | _,_,_,_=>none
      | _,_=>none
     | none=>none
    | _=>none
   | _,_,_=>none
  | _,_=>none
 | _=>none
structure Mid (lp:Lp) (L bk:Nat) (r:Loop) (β0:Env) (w0:World) (n:Fz) (W:List Nat) (left:Bool) (s:St) (β:Env) (a:Act) (w:World):Prop where
 tmp:∀ t,AN β (Ap s.T t) (a.tmps.getD t undef)
 sz:a.tmps.size=n.n
 dfr:a.defers=n.D
 out:OutL L β0 w0 W s.H w β
 nol:noL L bk β
 free:AG s.H bk=none
 lpr:w.heap[L]? = some (.loop (LC r left))
 fresh:∀ b,s.fr≤b→β b=none
 hT:∀ t,AN β (Ap lp.T t) (r.tmps.getD t undef)
 yl:∃ m,β bk=some (.at_ L m)
theorem Mid.inv {lp:Lp} {L bk:Nat} {r:Loop} {β0 β:Env} {w0 w:World} {n:Fz} {W:List Nat} {left:Bool} {s:St} {a:Act} (m:Mid lp L bk r β0 w0 n W left s β a w):Inv β w [] n β (Ap s.T) s.H a w :=
 ⟨m.tmp,m.out.good,m.sz,m.dfr,fun _ _ h=>.inl h,Env.le_refl _,fun _ _ _=>rfl,jj _,rfl,rfl,rfl⟩
theorem MY {w:World} {L:Nat} {o:Obj} (h:w.heap[L]? = some o):L<w.heap.size:=by
 rcases jv L w.heap.size with h' | h'
 ·exact h'
 ·rw [Array.getElem?_eq_none h'] at h;cases h
def UE (P:Program) (f:FuncId) (R:Ending→World→Prop) (lp:Lp) (L bk:Nat) (r:Loop) (β0:Env) (w0:World) (n:Fz) (W:List Nat) (left:Bool) (x:gq):Prop :=
 ∀ β a w,Mid lp L bk r β0 w0 n W left x.s β a w→Safe P f R x.todo a w
section
variable {P:Program} {O:gr} (hO:gp P O) (hm:P.follows .mixedOrders=true) {f:FuncId} {R:Ending→World→Prop} {lp:Lp} {L bk:Nat} {r:Loop} {β0:Env} {w0:World} {n:Fz} {W:List Nat} {left:Bool}
theorem Mid.next {s s':St} {β β1:Env} {a a1:Act} {w w1:World} {W':List Nat} {b:Bool} (m:Mid lp L bk r β0 w0 n W left s β a w) (o:OutL L β w W' s'.H w1 β1) (hk:bk ∉ W') (hb:AG s'.H bk=none) (hl:w1.heap[L]? = some (.loop (LC r b)))
  (ht:∀ t,AN β1 (Ap s'.T t) (a1.tmps.getD t undef)) (hs:a1.tmps.size=n.n) (hd:a1.defers=n.D) (hf:∀ b,s'.fr≤b→β1 b=none):Mid lp L bk r β0 w0 n (W++W') b s' β1 a1 w1 :=
 ⟨ht,hs,hd,m.out.trans o,o.noL m.nol (MY m.lpr) hk,hb,hl,hf,fun t=>Fx o.ext (m.hT t),m.yl.imp fun _ h=>o.ext _ _ h⟩
include hO hm in
theorem AOK {x y:gq} {g:Log} (h:Ng P O x=some (g,y)) (hc:AO g.conds) (i_:Be n x.s) (hk:E0 bk g.keys=false) (hb:AG y.s.H bk=none) (hs:UE P f R lp L bk r β0 w0 n (W++g.keys) left y):UE P f R lp L bk r β0 w0 n W left x:=by
 intro β a w m;have hk:=MX hk;refine Wv hO hm (β0:=β) (w0:=w) (W:=[]) h hc i_ (fun β1 a1 w1 hi hf=>?_) β a w m.inv m.fresh
 have o:=OutL.of_inv (L:=L) hi
 refine hs β1 a1 w1 (m.next o hk hb ?_ hi.tmp hi.sz hi.dfr hf)
 rw [hi.frame L (MY m.lpr) fun k n hk' e=>hk (by rw [← m.nol k n e];exact hk')]
 exact m.lpr
structure Fit (lp:Lp) (r:Loop):Prop where
 ready:r.state=.ready
 pend:r.pending=none
 ps:r.params=lp.ps
 assign:r.assign=lp.assign
 body:r.body=lp.body
 sz:r.tmps.size=lp.T.length
include hO in
theorem AOL (hfit:Fit lp r) {x y:gq} {g:Log} {b:Bool} (h:pQ P O lp bk x=some (g,b,y)) (hc:AO g.conds) (i_:Be n x.s) (hs:Be n y.s→UE P f R lp L bk r β0 w0 n (W++g.keys) b y):UE P f R lp L bk r β0 w0 n W false x:=by
 intro β a w m;obtain ⟨todo,s⟩:=x;unfold pQ at h;simp only at h m i_
 split at h;case h_2=>cases h
 rename_i id ops k;split at h;case h_2=>cases h
 rename_i pre o post hsp hnd;split at h;case h_2=>cases h
 rename_i c d hop hgd hds;split at h;case h_2=>cases h
 rename_i t hcal;split at h;case h_2=>cases h
 rename_i r1 s1 hr1;split at h;case h_2=>cases h
 rename_i bk' args hT hargs;split at h;case h_2=>cases h
 rename_i hbk gx hd1 hps;split at h;case h_2=>cases h
 rename_i g1 t1 ha;split at h;case h_2=>cases h
 rename_i g2 b' t2 hb;split at h;case h_2=>cases h
 rename_i e1 e2 k1 k2;split at h;case h_2=>cases h
 rename_i r3 s3 hr3;split at h;case h_2=>cases h
 rename_i k3 k4 e3;simp only [jt,jz] at h;obtain ⟨rfl,rfl,rfl⟩:=h;have hbk:=Ar.1 hbk;subst hbk;simp only [JA,lh] at gx hps hr3;have gx:=Ar.1 gx;have hops:=ADG hsp;obtain ⟨c1,c2⟩:=B5.1 hc;obtain ⟨c2,c3⟩:=B5.1 c2;obtain ⟨c3,c4⟩:=B5.1 c3;have AG:∀ i,ops[i]? = (pre++o::post)[i]?:=fun i=>by rw [← hops,qu]
 have hw1:=pP hr1 i_;refine Safe.of_wp (wpIn_wide.1 (wpIn_region (n:=0) ?_))
 have hsz:ops.size=pre.length+(post.length+1):=by rw [← um,hops];simp
 have hrange:List.range ops.size=List.range' 0 pre.length++(pre.length::List.range' (pre.length+1) post.length):=by
  rw [hsz,tq,← List.range'_append_1,ka,sk]
 rw [hrange];refine aQ hO ADD (fun a w q=>by cases q.1) hnd pre 0 s s1 r1 β a w (fun j o' hj=>by
  rw [ka,AG,nr (by
   rcases jv j pre.length with q | q
   ·exact q
   ·rw [ma q] at hj;cases hj)];exact hj) hr1 c1 (m.inv.mono (W':=EK r1) fun _ h=>by cases h) m.fresh i_.1 i_.2 (fun _ h=>h) fun β1 a1 w1 i1 f1=>?_
 have o1:=OutL.of_inv (L:=L) i1
 have hnk:=MX k3;have l1:w1.heap[L]? = some (.loop r):=by
  rw [i1.frame L (MY m.lpr) fun k n hk' e=>hnk (by rw [← m.nol k n e];exact hk')]
  exact m.lpr
 have n1:=o1.noL m.nol (MY m.lpr) hnk
 obtain ⟨m0,hm0⟩:=m.yl;have hval:a1.tmps.getD t undef=.func (.yield L) #[] #[]:=by
  have:=i1.tmp t
  rw [hT] at this;obtain ⟨L',n',q1,q2⟩:=Az this;rw [i1.ext _ _ hm0] at q1;injection q1 with q1;injection q1 with q1 _;injection q2 with q2 _;rw [q2,← q1]
 have hrel:=Z1 i1.tmp hargs;have hul:=oY hrel;rw [wpOpsIn_cons];unfold wpOpIn;have ho:ops[pre.length]? = some o:=by rw [AG];simp
 rw [ho];simp only
 have hwant:Region.wanted o (yielded ops a1.tmps)=true:=by unfold Region.wanted;rw [hgd]
 rw [je hwant];refine ⟨fun f' _=>trivial,?_⟩
 rw [Oper.semAt_eq _ _ _ (fun c' e=>by rw [hop] at e;cases e)]
 have hsz2:(c.args.map a1.eval).size=r.params.size:=by
  have:(c.args.toList.map a1.eval).length=args.length:=hul
  rw [hfit.ps];simp only [lh,um,Array.size_map] at this gx ⊢;omega
 have ii:(execOp a1.eval o).run P w1=.ok (.round L r.fn ((r.params.zip (c.args.map a1.eval)).foldl (fun tmps (t,a)=>tmps.setIfInBounds t a) r.tmps) r.assign r.body) w1:=by
  rw [← run_yield (P:=P) l1 hsz2];simp [execOp,hop,resolve,hcal,Act.eval,hval,Deferred.ofValue,invoke]
 rw [ii,Oper.uponIn_round];refine ⟨fun q=>(by cases q),?_⟩
 have htm:∀ t,AN β1 (Ap lp.T t) (r.tmps.getD t undef):=fun t=>Fx i1.ext (m.hT t)
 have hfold:(r.params.zip (c.args.map a1.eval)).foldl (fun tmps (t,a)=>tmps.setIfInBounds t a) r.tmps=(lp.ps.toList.zip (c.args.toList.map a1.eval)).foldl (fun tmps (t,a)=>tmps.setIfInBounds t a) r.tmps:=by
  rw [← Array.foldl_toList,Array.toList_zip,hfit.ps,rb]
 have hfs:∀ (l:List (Tmp×Value)) (T:Array Value),(l.foldl (fun tmps (t,a)=>tmps.setIfInBounds t a) T).size=T.size:=by
  intro l;induction l with
  | nil=>intro T;rfl
  | cons x l ih=>intro T;rw [List.foldl_cons,ih];simp
 rw [hfold];refine AOJ (n:=lp.T.length) (T:=Nk lp.ps.toList args lp.T) (H:=s1.H) (fr:=s1.fr) (gv:=s1.gv) (s1:=t1) (s2:=t2) (g1:=g1) (g2:=g2) (b:=b') hO l1 hfit.ready hfit.pend n1 (ADI (by rw [hfit.sz];exact hps) hfit.sz.symm hrel htm) (by rw [hfs];exact hfit.sz) ADH i1.good f1 hw1.1 (by rw [hfit.assign];exact ha) (by rw [hfit.body];exact hb) c2 c3 k1 k2 e1 e2 fun β2 w2 o2 hw2 f2 l2=>?_
 have hd1':=Q7 hd1;have hk12:bk' ∉ g1.keys++g2.keys:=fun q=>(jp.1 q).elim (MX k1) (MX k2)
 have i2:Inv β2 w2 (EK r3) n β2 (Ap (Js s1.T d (.val false [.b (nt b')]))) t2.H (a1.put (some d) (.bool (!b'))) w2:=by
  refine ⟨fun t=>?_,o2.good,?_,i1.dfr,fun _ _ h=>.inl h,Env.le_refl _,fun _ _ _=>rfl,jj _,rfl,rfl,rfl⟩
  ·rw [Z4 hd1'];have hd2:d<a1.tmps.size:=by rw [i1.sz,← hw1.2];exact hd1'
   by_cases e:d=t
   ·subst e;rw [show Nat.beq d d=true from Ar.2 rfl]
    have:nt b'=!b':=by cases b'<;>rfl
    simp only [this];refine ⟨[.bool (!b')],[],rfl,rfl,?_⟩
    simp [Act.put,Array.getD_eq_getD_getElem?,hd2]
   ·rw [GH e];have:=Fx o2.ext (i1.tmp t)
    simpa [Act.put,Array.getD_eq_getD_getElem?,Array.getElem?_setIfInBounds_ne e] using this
  ·rw [← i1.sz];simp [Act.put]
 have hw2':Be n ⟨Js s1.T d (.val false [.b (nt b')]),t2.H,t2.fr,t2.gv⟩:=⟨hw2.1,by rw [Wq];exact hw1.2⟩
 show wpOpsIn Fence.wide 0 P ops _ (List.range' (pre.length+1) post.length) (a1.put o.dst (.bool (!b'))) w2;rw [hds,← ku (List.range' (pre.length+1) post.length)];refine aQ hO ADD (fun a w q=>by cases q.1) hnd post (pre.length+1) _ s3 r3 β2 _ w2 (fun j o' hj=>by
  rw [AG,qv dk,show pre.length+1+j-pre.length=j+1 by omega]
  exact hj) hr3 c4 i2 f2 hw2'.1 hw2'.2 (fun _ h=>h) fun β3 a3 w3 i3 f3=>?_
 refine ⟨rfl,?_⟩
 have hw3:=pP hr3 hw2';have o3:=OutL.of_inv (L:=L) i3
 have n2:=o2.noL n1 (MY l1) hk12
 have hl3:w3.heap[L]? = some (.loop (LC r b')):=by
  rw [i3.frame L (MY l2) fun k n hk' e=>MX k4 (by rw [← n2 k n e];exact hk')]
  exact l2
 have oo:=(o1.trans (o2.trans o3)).mono (W':=cat (EK r1) (cat (cat g1.keys g2.keys) (EK r3))) (fun k hk=>by simpa [Cz] using hk)
 exact hs hw3 β3 a3 w3 (m.next oo (fun q=>by
  simp only [Cz,jp] at q;rcases q with q | (q | q) | q
  ·exact hnk q
  ·exact MX k1 q
  ·exact MX k2 q
  ·exact MX k4 q) e3 hl3 i3.tmp i3.sz i3.dfr f3)
def RJ (P:Program) (O:gr) (lp:Lp) (bk:Nat):Nat→Bool→gq→Option (Log×Bool×gq)
 | 0,_,_=>none
 | k+1,left,x=>match K6 x.todo with
  | true=>some (⟨[],[]⟩,left,x)
  | false=>match Ng P O x with
   | some (g,y)=>match E0 bk g.keys,AG y.s.H bk with
    | false,none=>match RJ P O lp bk k left y with
     | some (g',b,z)=>some (⟨g.conds++g'.conds,cat g.keys g'.keys⟩,b,z)
     | none=>none
    | _,_=>none
   | none=>match left with
    | false=>match pQ P O lp bk x with
     | some (g,b,y)=>match RJ P O lp bk k b y with
      | some (g',b',z)=>some (⟨g.conds++g'.conds,cat g.keys g'.keys⟩,b',z)
      | none=>none
     | none=>none
    | true=>none
include hO hm in
theorem pS (hfit:Fit lp r):∀ {k:Nat} {W:List Nat} {left b:Bool} {x y:gq} {g:Log},RJ P O lp bk k left x=some (g,b,y)→AO g.conds→Be n x.s→(Be n y.s→UE P f R lp L bk r β0 w0 n (W++g.keys) b y)→UE P f R lp L bk r β0 w0 n W left x
 | 0,_,_,_,_,_,_,h,_,_,_=>by simp [RJ] at h
 | k+1,W,left,b,x,y,g,h,hc,i_,hs=>by
  simp only [RJ] at h;split at h
  ·simp only [jt,jz] at h;obtain ⟨rfl,rfl,rfl⟩:=h;have:=hs i_
   simpa using this
  ·split at h
   ·rename_i g1 y1 hst;split at h;case h_2=>cases h
    rename_i e1 e2;split at h;case h_2=>cases h
    rename_i g2 b2 z hr;simp only [jt,jz] at h;obtain ⟨rfl,rfl,rfl⟩:=h;obtain ⟨c1,c2⟩:=B5.1 hc;refine AOK hO hm hst c1 i_ e1 e2 (pS hfit hr c2 (Ww hst i_) fun hw=>?_)
    have:=hs hw
    simpa [Cz] using this
   ·split at h;case h_2=>cases h
    split at h;case h_2=>cases h
    rename_i g1 b1 y1 hst;split at h;case h_2=>cases h
    rename_i g2 b2 z hr;simp only [jt,jz] at h;obtain ⟨rfl,rfl,rfl⟩:=h;obtain ⟨c1,c2⟩:=B5.1 hc;refine AOL hO hfit hst c1 i_ fun hw1=>(pS hfit hr c2 hw1 fun hw=>?_)
    have:=hs hw
    simpa [Cz] using this
end
section
variable {β0 β1 β:Env} {w0 w1 w:World} {W W':List Nat} {H H':Heap} {L:Nat}
theorem Inv.thenL {n:Fz} {τ:Nat→AV} {a:Act} (i:Inv β0 w0 W n β1 τ H a w1) (o:OutL L β1 w1 W' H' w β) (hL:w0.heap.size≤L):Inv β0 w0 (W++W') n β τ H' a w:=by
 have t:=(OutL.of_inv (L:=L) i).trans o
 exact ⟨fun t=>Fx o.ext (i.tmp t),o.good,i.sz,i.dfr,t.new,t.ext,fun B hB iz=>t.frame B hB dk iz,t.size,t.os,t.tape,t.output⟩
theorem Inv.outL {n:Fz} {τ:Nat→AV} {a:Act} {val:AV} {u:Value} (i:Inv β0 w0 W n β1 τ H a w1) (o:OutL L β1 w1 W' H' w β) (hL:w0.heap.size≤L) (hv:AN β val u):Out β0 w0 (W++W') val H' u w β:=by
 have t:=i.thenL o hL;exact ⟨hv,t.good,t.new,t.ext,t.frame,t.size,t.os,t.tape,t.output⟩
end
theorem AOM {β:Env} {x:AV} {xs:List AV} {u:Value} {us:List Value} (h1:AN β x u) (h2:BI β xs us):BI β (x::xs) (u::us):=⟨u,us,h1,h2,rfl⟩
section
variable {P:Program} {O:gr} (hO:gp P O) (hm:P.follows .mixedOrders=true)
include hO hm
theorem AON {gf:FuncId} {gfn:Func} {c:Code} {lp:Lp} {L bk:Nat} {r:Loop} {β0:Env} {w0:World} (ip:P.funcs[gf]? = some gfn) (hb:gfn.body=some c) (hfit:Fit lp r) {args:List AV} {H:Heap} {fr:Nat} {gv:List Bool} {k:Nat} {g:Log} {left:Bool} {y:gq} {v:AV} {us:List Value}
  (gx:args.length≤gfn.ntmps) (h:RJ P O lp bk k false ⟨[.code c],⟨Gu args gfn.ntmps,H,fr,gv⟩⟩=some (g,left,y)) (hv:JB P gfn y=some v) (hc:AO g.conds)
  (hl:w0.heap[L]? = some (.loop r)) (iz:noL L bk β0) (hbk:AG H bk=none) (hyl:∃ m,β0 bk=some (.at_ L m)) (hT:∀ t,AN β0 (Ap lp.T t) (r.tmps.getD t undef))
  (ha:BI β0 args us) (hg:Good β0 H w0) (hf:∀ b,fr≤b→β0 b=none) (hfH:∀ b,fr≤b→AG H b=none) :
  Calls P gf ⟨us⟩ w0 fun e w=>∃ u β,e=.returned u∧OutL L β0 w0 g.keys y.s.H w β∧noL L bk β∧AG y.s.H bk=none∧w.heap[L]? = some (.loop (LC r left))∧(∀ b,y.s.fr≤b→β b=none)∧∀ b,y.s.fr≤b→AG y.s.H b=none:=by
 have i_:Be gfn.ntmps (⟨Gu args gfn.ntmps,H,fr,gv⟩:St):=by
  refine ⟨hfH,?_⟩
  simp only [Gu,T4,JA,kc,Wy];omega
 refine Wz (fr:=fr) (gv:=gv) (H:=H) ip hb gx (fun β a w hi hf'=>?_) ha hg hf
 have hmid:Mid lp L bk r β0 w0 gfn.ntmps [] false ⟨Gu args gfn.ntmps,H,fr,gv⟩ β a w :=
  ⟨hi.tmp,hi.sz,hi.dfr,OutL.of_inv hi,(OutL.of_inv (L:=L) hi).noL iz (MY hl) (by simp),hbk,by rw [hi.frame L (MY hl) fun _ _ h=>by cases h];exact hl,hf',fun t=>Fx hi.ext (hT t),hyl.imp fun _ h=>hi.ext _ _ h⟩
 refine pS (W:=[]) hO hm hfit h hc i_ (fun hw=>?_) β a w hmid
 intro β a w m;unfold JB at hv;split at hv;case h_2=>cases hv
 rename_i l e1 e2;obtain ⟨u,hu,hr⟩:=Z' m.tmp m.out.good e2;refine Safe.done ip m.dfr hu ⟨u,β,rfl,m.out,m.nol,m.free,m.lpr,m.fresh,hw.1⟩ ?_
 unfold K6 at e1;split at e1
 ·rename_i h;exact .inr h
 ·rename_i k h;exact .inl ⟨k,h⟩
 ·cases e1
end
theorem Out.old {β0 β:Env} {w0 w:World} {W W':List Nat} {val:AV} {H:Heap} {u:Value} (o:Out β0 w0 W val H u w β) (h:∀ k m B,k∈W→β0 k=some (.at_ B m)→k∈W'):Out β0 w0 W' val H u w β :=
 { o with
  new:=fun b X hb=>(o.new b X hb).imp id fun q B m e=>(q B m e).imp id fun ⟨k,m',h1,h2⟩=>⟨k,m',h k m' B h1 h2,h2⟩
  frame:=fun B hB iz=>o.frame B hB fun k m hk hk2=>iz k m (h k m B hk hk2) hk2 }
def ADJ:Bool→List Item→List Item
 | true,k=>.code .ret::k
 | false,k=>k
def pT (P:Program) (O:gr) (ia:Nat) (x:gq):Option (Log×gq) :=
 match x.todo with
 | .code (.rangeFunc (.tmp t) ps assign body)::k=>match Ap x.s.T t with
  | .val false [.clo gf caps]=>match P.funcs[gf]? with
   | some gfn=>match gfn.body,Nat.ble (F2 (.val false [.yl x.s.fr]::Tt caps)) gfn.ntmps,gfn.name=="runtime.NumGoroutine" with
    | some c,true,false=>match RJ P O ⟨x.s.T,ps,assign,body⟩ x.s.fr ia false ⟨[.code c],⟨Gu (.val false [.yl x.s.fr]::Tt caps) gfn.ntmps,x.s.H,x.s.fr+1,x.s.gv⟩⟩ with
     | some (g,left,y)=>match JB P gfn y with
      | some _=>some (g,⟨ADJ left k,⟨x.s.T,y.s.H,y.s.fr,y.s.gv⟩⟩)
      | none=>none
     | none=>none
    | _,_,_=>none
   | none=>none
  | _=>none
 | _=>none
theorem Good.alloc2 {β:Env} {H:Heap} {w:World} (g:Good β H w) {fr:Nat} (hf:∀ b,fr≤b→β b=none) (hfH:∀ b,fr≤b→AG H b=none) (o1 o2:Obj):Good (β.put fr (.at_ (w.heap.size+1) (0,0))) H ((w.alloc o1).alloc o2):=by
 have ir:Env.le β (β.put fr (.at_ (w.heap.size+1) (0,0))):=Env.le_put _ (hf fr (jj _))
 have hold:∀ B,B<w.heap.size→((w.alloc o1).alloc o2).heap[B]? = w.heap[B]?:=fun B hB=>by
  rw [Go.RowKit.Below.heap_alloc _ _ B (by simp;omega),Go.RowKit.Below.heap_alloc _ _ B hB]
 have key:∀ b X,b≠fr→β.put fr (.at_ (w.heap.size+1) (0,0)) b=some X→β b=some X:=fun b X iq h=>by simpa [Env.put,iq] using h
 have iq:∀ b blk,AG H b=some blk→b≠fr:=fun b blk h e=>by rw [e,hfH fr (jj _)] at h;cases h
 refine ⟨fun b blk hb=>?_,fun b b' B n n' h1 h2 h3 h4=>?_,fun b B n hb=>?_⟩
 ·rcases g.heap b blk hb with ⟨B,n,l,t,pre,ty,fz,e1,e2,e3,e4⟩ | ⟨X,h1,h2,h3⟩ | ⟨B,l,es,q,e1,e2,e3,e4,e5⟩
  ·exact .inl ⟨B,n,l,t,pre,ty,fz,ir _ _ e1,I1 ir e2,by rw [hold B (g.lt _ _ _ e1)];exact e3,e4⟩
  ·exact .inr (.inl ⟨X,ir _ _ h1,h2,I1 ir h3⟩)
  ·exact .inr (.inr ⟨B,l,es,q,ir _ _ e1,e2,I1 ir e3,by rw [hold B (g.lt _ _ _ e1)];exact e4,e5⟩)
 ·obtain ⟨x,hx,_⟩:=GZ h1;obtain ⟨y,hy⟩:=lj.1 h2;exact g.inj b b' B n n' h1 h2 (key _ _ (iq _ _ hx) h3) (key _ _ (iq _ _ hy) h4)
 ·by_cases e:b=fr
  ·subst e;rw [Env.put_same] at hb;injection hb with hb;injection hb with hb _;subst hb;simp
  ·have:=g.lt _ _ _ (key _ _ e hb)
   simp;omega
def coll (D:Nat):Deferred:={ target:=.collected D,args:=#[] }
section
variable {P:Program} {O:gr} (hO:gp P O) (hm:P.follows .mixedOrders=true) {f:FuncId} {β0:Env} {w0:World} {R:Ending→World→Prop} {kk:Nat} {W:List Nat}
include hO hm
theorem AOO {x y:gq} {g:Log} {ia:Nat} (h:pT P O ia x=some (g,y)) (hc:AO g.conds) (i_:Be ⟨kk,[]⟩ x.s)
  (hs:∀ D β a w,w0.heap.size≤D→Inv β0 w0 (W++g.keys) ⟨kk,[coll D]⟩ β (Ap y.s.T) y.s.H a w→(∀ b,y.s.fr≤b→β b=none)→Be ⟨kk,[coll D]⟩ y.s→w.heap[D]? = some (.deferred (some []))→(∀ b m,β b≠some (.at_ D m))→Safe P f R y.todo a w):gn P f β0 w0 R ⟨kk,[]⟩ W x:=by
 intro β a w hi hf b cs hb hk;obtain ⟨todo,s⟩:=x;unfold pT at h;simp only at h hi hf i_
 split at h;case h_2=>cases h
 rename_i t ps assign body k;split at h;case h_2=>cases h
 rename_i gf caps hT;split at h;case h_2=>cases h
 rename_i gfn hgfn;split at h;case h_2=>cases h
 rename_i c hbody gx h_;split at h;case h_2=>cases h
 rename_i g' left y' ii;split at h;case h_2=>cases h
 rename_i v hv;simp only [jt,jz] at h;obtain ⟨rfl,rfl⟩:=h;have gx:=jf gx;rw [JA] at gx;obtain ⟨ps',hps,hclo⟩:=Az (by have:=hi.tmp t;rw [hT] at this;exact this)
 injection hclo with hclo _;obtain ⟨D,hD⟩:∃ D,D=w.heap.size:=⟨_,rfl⟩
 obtain ⟨rec,hrec⟩:∃ rec:Loop,rec={ state:=.ready,pending:=none,fn:=b.fn,tmps:=a.tmps,params:=ps,assign,body,defers:=D }:=⟨_,rfl⟩
 obtain ⟨W1,hW1⟩:∃ W1,(w.alloc (.deferred (some []))).alloc (.loop rec)=W1:=⟨_,rfl⟩
 have hL1:W1.heap[D+1]? = some (.loop rec):=by
  rw [← hW1,hD];have:=World.alloc_heap_new (w.alloc (.deferred (some []))) (.loop rec);rwa [World.size_alloc] at this
 have hD1:W1.heap[D]? = some (.deferred (some [])):=by
  rw [← hW1,hD];exact (Go.RowKit.Below.heap_alloc _ _ _ (by simp)).trans (World.alloc_heap_new w _)
 have hs1:W1.heap.size=w.heap.size+2:=by rw [← hW1];simp
 have g1:Good (β.put s.fr (.at_ (D+1) (0,0))) s.H W1:=by rw [← hW1,hD];exact hi.good.alloc2 hf i_.1 _ _
 have ir:Env.le β (β.put s.fr (.at_ (D+1) (0,0))):=Env.le_put _ (hf _ (jj _))
 obtain ⟨β1,hβ1⟩:∃ β1,β1=β.put s.fr (.at_ (D+1) (0,0)):=⟨_,rfl⟩
 rw [← hβ1] at g1 ir;have I3:∀ b X,β1 b=some X→(b=s.fr∧X=.at_ (D+1) (0,0))∨β b=some X:=fun b X h=>by
  rw [hβ1] at h;by_cases e:b=s.fr
  ·subst e;rw [Env.put_same] at h;injection h with h;exact .inl ⟨rfl,h.symm⟩
  ·exact .inr (by simpa [Env.put,e] using h)
 have hold:∀ B,B<w.heap.size→W1.heap[B]? = w.heap[B]?:=fun B hB=>by
  rw [← hW1,Go.RowKit.Below.heap_alloc _ _ B (by simp;omega),Go.RowKit.Below.heap_alloc _ _ B hB]
 have iz:noL (D+1) s.fr β1:=fun b n h=>by
  rcases I3 _ _ h with ⟨e,_⟩ | h
  ·exact e
  ·have:=hi.good.lt _ _ _ h;omega
 have hoD:∀ b m,β1 b≠some (.at_ D m):=fun b m h=>by
  rcases I3 _ _ h with ⟨_,e⟩ | h
  ·injection e with e _;omega
  ·have:=hi.good.lt _ _ _ h;omega
 have hyl:β1 s.fr=some (.at_ (D+1) (0,0)):=by rw [hβ1];exact Env.put_same ..
 have hfit:Fit ⟨s.T,ps,assign,body⟩ rec:=by subst hrec;exact ⟨rfl,rfl,rfl,rfl,rfl,by rw [i_.2];exact hi.sz⟩
 have i1:Inv β0 w0 W ⟨kk,[]⟩ β1 (Ap s.T) s.H a W1:=by
  refine ⟨fun t=>Fx ir (hi.tmp t),g1,hi.sz,hi.dfr,fun b X hX=>?_,Env.le_trans hi.ext ir,fun B hB iz=>?_,by have:=hi.size;omega,?_,?_,?_⟩
  ·rcases I3 _ _ hX with ⟨_,e⟩ | h
   ·subst e;refine .inr fun B m e=>.inl ?_
    injection e with e _;have:=hi.size;omega
   ·exact hi.new _ _ h
  ·rw [hold B (kr hB hi.size)];exact hi.frame B hB iz
  ·rw [← hW1];exact hi.os
  ·rw [← hW1];exact hi.tape
  ·rw [← hW1];exact hi.output
 have hfr:∀ b,s.fr+1≤b→β1 b=none:=fun b hb=>by
  have iq:b≠s.fr:=dk
  rw [hβ1];simpa [Env.put,iq] using hf b dk
 have call:=AON (fr:=s.fr+1) (L:=D+1) (bk:=s.fr) (r:=rec) (β0:=β1) (w0:=W1) hO hm hgfn hbody hfit (us:=.func (.yield (D+1)) #[] #[]::ps') gx ii hv hc hL1 iz (i_.1 _ (jj _)) ⟨_,hyl⟩
  (fun t=>by subst hrec;exact Fx ir (hi.tmp t)) (AOM (Aw ⟨D+1,(0,0),hyl,rfl⟩) (nZ (mJ ir hps))) g1 hfr (fun b hb=>i_.1 b dk)
 obtain ⟨b',hb'⟩:∃ b':Frame,b'={ b with roundOf:=none }:=⟨_,rfl⟩
 have e0:∀ a todo,b.at a todo=b'.atR a todo:=fun a todo=>by rw [hb'];rfl
 obtain ⟨e,w3,fr3,⟨u,β3,rfl,o,n3,b3,l3,f3,fH3⟩,hcomes,_,hleave⟩:=call (b'.atR { a with defers:=[coll D]++a.defers } (.inRangeFunc (D+1)::k)::cs)
 have hendl:=run_endLoop (P:=P) l3 (by subst hrec;cases left<;>simp [LC])
 have hL:w0.heap.size≤D+1:=by have:=hi.size;omega
 have i3:=i1.thenL o hL;have g4:=o.good.putObj (n3.off b3) (.loop { LC rec left with state:=.exhausted })
 have i4:Inv β0 w0 (W++g'.keys) ⟨kk,[coll D]⟩ β3 (Ap s.T) y'.s.H { a with defers:=[coll D]++a.defers } (w3.putObj (D+1) (.loop { LC rec left with state:=.exhausted })) :=
  ⟨i3.tmp,g4,i3.sz,by show [coll D]++a.defers=_;rw [hi.dfr];rfl,i3.new,i3.ext,fun B hB iz=>by rw [World.putObj_heap_other dk];exact i3.frame B hB iz,by rw [World.putObj_size];exact i3.size,i3.os,i3.tape,i3.output⟩
 have hD4:(w3.putObj (D+1) (.loop { LC rec left with state:=.exhausted })).heap[D]? = some (.deferred (some [])):=by
  rw [World.putObj_heap_other dk,o.frame D dk dk fun k m _=>hoD k m];exact hD1
 have hoD3:∀ b m,β3 b≠some (.at_ D m):=fun b m h=>by
  rcases o.new _ _ h with h | h
  ·exact hoD b m h
  ·rcases h D m rfl with q | ⟨k,m',_,q⟩
   ·omega
   ·exact hoD k m' q
 obtain ⟨e',w',fr',q1,q2,q3,q4⟩:=hs D β3 _ _ (by have:=hi.size;omega) i4 f3 ⟨fH3,i_.2⟩ hD4 hoD3 b cs hb hk
 refine ⟨e',w',fr',q1,?_,q3,q4⟩
 have hq1:gfn.name≠"runtime.NumGoroutine":=by simpa using h_
 have hev:a.eval (.tmp t)=.func (.func gf) #[] ⟨ps'⟩:=hclo
 have s1:=stepR_rangeFunc (P:=P) (b:=b') (a:=a) (k:=k) (cs:=cs) (w:=w) (g:=.tmp t) (ps:=ps) (assign:=assign) (body:=body) (l:=D+1) (mark:=[coll D]) (w₁:=W1) (w₁':=W1) (w₂:=W1) (d:={ target:=.fn (.func gf) ⟨ps'⟩,args:=#[.func (.yield (D+1)) #[] #[]] }) (f:=gf) (args:=⟨.func (.yield (D+1)) #[] #[]::ps'⟩)
  (by
   have:=run_enterLoop_outer (P:=P) (w:=w) b.fn a.tmps ps assign body
   rw [← hW1,hrec,hD,hb'];exact this) (by
   simp only [resolve,hev];simp [go_sem]) (by simp [invoke,callFunc,hgfn,hq1,hbody])
 rw [e0];refine Comes.of_steps (Steps.trans (.one s1) ?_) ?_ (m₁:=lone (b.at { a with defers:=[coll D]++a.defers } (ADJ left k)) cs (w3.putObj (D+1) (.loop { LC rec left with state:=.exhausted })))
 ·refine Steps.trans (show Steps P _ _ from hcomes) (Steps.trans (.one (step_leave_returned hleave)) ?_)
  rw [finish_atR_inRangeFunc];refine .one ?_
  have:=stepR_endRangeFunc (P:=P) (b:=b') (a:={ a with defers:=[coll D]++a.defers }) (k:=k) (cs:=cs) hendl
  rw [this,e0];subst hrec;cases left<;>rfl
 ·exact q2
omit hO hm in
theorem Safe.coll {fn:Func} {v:Value} {todo:List Item} {D:Nat} {a:Act} {w:World} (ip:P.funcs[f]? = some fn) (hd:a.defers=[coll D]) (hD:w.heap[D]? = some (.deferred (some []))) (hr:(results fn a.tmps).run P (w.putObj D (.deferred none))=.ok v (w.putObj D (.deferred none))) (hR:R (.returned v) (w.putObj D (.deferred none)))
  (ht:K6 todo=true):Safe P f R todo a w:=by
 intro b cs hb hk;have key:∀ todo,∃ e w' fr,R e w'∧Comes P (lone ({ b.at a todo with mode:=.returning }:Frame) cs w) (lone fr cs w') e∧fr.fn=f∧fr.leaving P w' e:=fun todo=>by
  have h1:=step_collected (P:=P) (fr:={ b.at a todo with mode:=.returning }) (cs:=cs) (w:=w) (d:=Ex.coll D) (ds:=[]) (r:=D) (by simp) hd rfl (run_takeDeferred hD)
  exact ⟨.returned v,_,_,hR,Steps.one h1,hb,rfl,rfl,hk,fn,by show P.funcs[b.fn]? = some fn;rw [hb];exact ip,hr⟩
 unfold K6 at ht;split at ht
 ·obtain ⟨e,w',fr',q1,q2,q3,q4⟩:=key []
  exact ⟨e,w',fr',q1,.of_steps (.one step_end) q2,q3,q4⟩
 ·rename_i k;obtain ⟨e,w',fr',q1,q2,q3,q4⟩:=key (.code .ret::k)
  exact ⟨e,w',fr',q1,.of_steps (.one step_ret) q2,q3,q4⟩
 ·cases ht
theorem AOP {fn:Func} (ip:P.funcs[f]? = some fn) {y z:gq} {g:Log} {v:AV} {ia D:Nat} {β:Env} {a:Act} {w:World} {W':List Nat} (ii:K7 P O none ia y=some (g,z)) (hv:JB P fn z=some v) (hc:AO g.conds) (hD:w0.heap.size≤D)
  (hi:Inv β0 w0 W' ⟨kk,[coll D]⟩ β (Ap y.s.T) y.s.H a w) (hf:∀ b,y.s.fr≤b→β b=none) (i_:Be ⟨kk,[coll D]⟩ y.s) (hd:w.heap[D]? = some (.deferred (some []))) (iz:∀ b m,β b≠some (.at_ D m)) (hR:∀ e w,A_ β0 w0 (W'++g.keys) v z.s.H e w→R e w):Safe P f R y.todo a w:=by
 refine Wx (β0:=β) (w0:=w) (W:=[]) hO hm ii hc i_ (fun hw=>fun β1 a1 w1 i1 f1=>?_) β a w hi.root hf
 unfold JB at hv;split at hv;case h_2=>cases hv
 rename_i l e1 e2;injection hv with hv;subst hv;have hd1:w1.heap[D]? = some (.deferred (some [])):=by rw [i1.frame D (MY hd) fun k m _=>iz k m];exact hd
 have hoff:aS D β1 z.s.H:=fun b blk n _ h=>by
  rcases i1.new _ _ h with h | h
  ·exact iz b n h
  ·rcases h D n rfl with q | ⟨k,m',_,q⟩
   ·have:=MY hd;omega
   ·exact iz k m' q
 have o:=(OutL.of_inv (L:=D) i1).put hoff (.deferred none)
 obtain ⟨u,hu,hr⟩:=Z' i1.tmp o.good e2;exact Safe.coll ip i1.dfr hd1 hu (hR _ _ ⟨u,β1,rfl,hi.outL o hD hr⟩) e1
end
def AOQ:List Item→Bool
 | .code (.rangeFunc ..)::_=>true
 | _=>false
def W_ (P:Program) (O:gr):Nat→gq→Option (Log×gq)
 | 0,_=>none
 | n+1,x=>match AOQ x.todo with
  | true=>some (⟨[],[]⟩,x)
  | false=>match Ng P O x with
   | some (g,y)=>match W_ P O n y with
    | some (g',z)=>some (⟨g.conds++g'.conds,cat g.keys g'.keys⟩,z)
    | none=>none
   | none=>none
section
variable {P:Program} {O:gr} (hO:gp P O) (hm:P.follows .mixedOrders=true) {f:FuncId} {β0:Env} {w0:World} {R:Ending→World→Prop} {n:Fz}
include hO hm
theorem ADK:∀ {m:Nat} {W:List Nat} {x y:gq} {g:Log},W_ P O m x=some (g,y)→AO g.conds→Be n x.s→(Be n y.s→gn P f β0 w0 R n (W++g.keys) y)→gn P f β0 w0 R n W x
 | 0,_,_,_,_,h,_,_,_=>by simp [W_] at h
 | m+1,W,x,y,g,h,hc,i_,hs=>by
  simp only [W_] at h;split at h
  ·injection h with h;injection h with h1 h2;subst h1;subst h2;have:=hs i_
   simpa using this
  ·split at h
   ·rename_i g1 y1 hst;split at h
    ·rename_i g2 z hr;injection h with h;injection h with h1 h2;subst h1;subst h2;obtain ⟨c1,c2⟩:=B5.1 hc;refine Wv hO hm hst c1 i_ (ADK hr c2 (Ww hst i_) fun hw=>?_)
     have:=hs hw
     simpa [Cz] using this
    ·cases h
   ·cases h
end
def pU (P:Program) (O:gr) (fn:Func) (ia:Nat):ASpec:=fun args H fr gv =>
 match fn.body with
 | some c=>match W_ P O ia ⟨[.code c],⟨Gu args fn.ntmps,H,fr,gv⟩⟩ with
  | some (g1,x1)=>match pT P O ia x1 with
   | some (g2,x2)=>match K7 P O none ia x2 with
    | some (g3,y)=>match JB P fn y,Nat.ble (F2 args) fn.ntmps&&(W7 fr args&&(Ju fr H&&(Ju y.s.fr (F3 fr y.s.H)&&Nat.ble fr y.s.fr))) with
     | some v,true=>match MV fr H (F3 fr y.s.H) (cat (Jt v) (ET fr (cat g1.keys (cat g2.keys g3.keys)))),RC fr H (F3 fr y.s.H) (cat (ET fr (cat g1.keys (cat g2.keys g3.keys))) (RE fr (F3 fr y.s.H))) with
      | true,true=>some ⟨v,PN (F3 fr y.s.H) (cat (ET fr (cat g1.keys (cat g2.keys g3.keys))) (RE fr (F3 fr y.s.H))),y.s.fr-fr,g1.conds++(g2.conds++g3.conds),y.s.gv⟩
      | _,_=>none
     | _,_=>none
    | none=>none
   | none=>none
  | none=>none
 | none=>none
section
variable {P:Program} {O:gr} (hO:gp P O) (hm:P.follows .mixedOrders=true) {f:FuncId} {fn:Func}
include hO hm in
theorem AOR (ip:P.funcs[f]? = some fn) (hb:fn.body.isSome=true) (h_:fo fn) (ia:Nat):BJ P f (pU P O fn ia):=by
 intro args H fr gv r β us w hs hc ha hg hf;unfold pU at hs;split at hs;case h_2=>cases hs
 rename_i c hbody;split at hs;case h_2=>cases hs
 rename_i g1 x1 hrun1;split at hs;case h_2=>cases hs
 rename_i g2 x2 hrun2;split at hs;case h_2=>cases hs
 rename_i g3 y hrun3;split at hs;case h_2=>cases hs
 rename_i v hv hchk;split at hs;case h_2=>cases hs
 rename_i hov hob;injection hs with hs;subst hs;obtain ⟨c1',c2'⟩:=B5.1 hc;obtain ⟨c2',c3'⟩:=B5.1 c2';simp only [jm] at hchk;obtain ⟨c1,c2,c3,c4,c5⟩:=hchk;have ir:=jf c5;have gx:=jf c1;rw [JA] at gx;have hg0:Good (K9 β fr) H w:=by
  refine ⟨fun b blk hb=>?_,fun b b' B n n' h1 h2 h3 h4=>hg.inj b b' B n n' h1 h2 (K_ h3).1 (K_ h4).1,fun b B n h=>hg.lt b B n (K_ h).1⟩
  obtain ⟨e1,e2⟩:=LA c3 hb;rcases hg.heap b blk hb with ⟨B,n,l,t,pre,ty,fz,q1,q2,q3⟩ | ⟨X,q1,q2,q3⟩ | ⟨B,l,es,q,q1,q2,q3,q4⟩
  ·exact .inl ⟨B,n,l,t,pre,ty,fz,by rw [EM e1];exact q1,Ho (fun k hk=>EM (e2 k hk)) q2,q3⟩
  ·exact .inr (.inl ⟨X,by rw [EM e1];exact q1,q2,Ho (fun k hk=>EM (e2 k hk)) q3⟩)
  ·exact .inr (.inr ⟨B,l,es,q,by rw [EM e1];exact q1,q2,Ho (fun k hk=>EM (e2 k hk)) q3,q4⟩)
 have i_:Be ⟨fn.ntmps,[]⟩ (⟨Gu args fn.ntmps,H,fr,gv⟩:St):=by
  refine ⟨fun b hb=>?_,?_⟩
  ·cases hq:AG H b with
   | none=>rfl
   | some blk=>have:=(LA c3 hq).1;simp only at hb;omega
  ·simp only [Gu,T4,JA,kc,Wy];omega
 obtain ⟨K,hK⟩:∃ K,K=cat g1.keys (cat g2.keys g3.keys):=⟨_,rfl⟩
 rw [← hK] at hov hob;have hsub:∀ k,k∈g1.keys++g2.keys++g3.keys→k∈K:=fun k h=>by rw [hK];simpa [Cz,List.append_assoc] using h
 refine T5 ip hb h_ (Calls.mono (Wz (R:=A_ (K9 β fr) w (ET fr K) v y.s.H) (fr:=fr) (gv:=gv) ip hbody gx ?_ (pM (fun k hk=>EM hk) c2 ha) hg0 (fun b hb=>Q' hb)) ?_)
 ·refine ADK (W:=[]) hO hm hrun1 c1' i_ fun hw1=>?_
  refine AOO hO hm hrun2 c2' hw1 fun D β1 a1 w1 hD i1 f1 hw2 d1 no1=>?_
  refine AOP hO hm ip hrun3 hv c3' hD i1 f1 hw2 d1 no1 fun e w' ⟨u,β2,he,ho⟩=>⟨u,β2,he,?_⟩
  exact ho.old fun k m B hk h2=>aG (hsub k (by simpa using hk)) (K_ h2).2
 ·rintro e w' ⟨u,β1,rfl,ho⟩
  obtain ⟨β',he⟩:=ADB (conds:=g1.conds++(g2.conds++g3.conds)) (gv:=y.s.gv) hg (ho.drop (fr:=fr)) aN c4 ir hov hob fun b h1 h2=>hf b h1 (by show b<fr+(y.s.fr-fr);omega)
  rw [hK] at he;exact ⟨u,β',rfl,he⟩
def pV (P:Program) (O:gr) (fn:Func) (ia:Nat):ASpec:=fun args H fr gv =>
 match BF P O fn ia args H fr gv with
 | some r=>some r
 | none=>pU P O fn ia args H fr gv
include hO hm in
theorem AOS (ip:P.funcs[f]? = some fn) (hb:fn.body.isSome=true) (h_:fo fn) (ia:Nat):BJ P f (pV P O fn ia):=by
 intro args H fr gv r β us w hs hc ha hg hf;unfold pV at hs;split at hs
 ·rename_i r' hr;injection hs with hs;subst hs;exact BK hO hm ip hb h_ ia args H fr gv _ β us w hr hc ha hg hf
 ·exact AOR hO hm ip hb h_ ia args H fr gv r β us w hs hc ha hg hf
end
end Go.Proofs.YtgnajdcdcblaoaaGreat.Ex
namespace Go.Proofs.YtgnajdcdcblaoaaGreat
open Ex
theorem AB:Tryz.prog.follows .mixedOrders=true:=dj
def S0:dr:=[(138,subSpec),(133,addSpec)]
def K0:List (TypeId×List (Option IntKind)):=[(40,List.replicate 6 (some .u64)),(42,List.replicate 12 (some .u64)++[none])]
set_option maxRecDepth 100000
set_option maxHeartbeats 4000000
theorem Ae:MT dm K0:=⟨⟨dj,dj,dj⟩,⟨dj,dj,dj⟩,trivial⟩
theorem IW:AW dm S0:=⟨ANy func138 dj dj dj dj,ANw func133 dj dj dj dj,trivial⟩
theorem UF {β:Env} {A:AV} {u:Value} {c:Bool} {k:IntKind} {i:Int} (h:Bv (some A)=some (c,k,i)) (hr:AN β A u):AN β (.val false [.v (.int k i)]) u∧has k i:=by
 obtain ⟨rfl,h2⟩:=DJ (β:=β) (u:=u) (fun B hB=>by injection hB with hB;subst hB;exact hr) h
 exact ⟨Aw ⟨rfl,rfl,h2⟩,h2⟩
theorem XA {β:Env} {k x:Nat} (h:x<2^(64*k)):AQ β [.num k x] (words k x):=⟨_,[],⟨h,rfl⟩,rfl,by simp⟩
theorem Nl {β:Env} {k x:Nat} {a:List Ch} {u:Value} (h:DL k a=some x) (hr:AN β (.val true a) u) :
  AN β (.val true [.num k x]) u∧AN β (.val true (NR k x)) u∧x<2^(64*k):=by
 obtain ⟨l,h1,rfl⟩:=hr;obtain ⟨h2,h3⟩:=Hm h h1;subst h2;exact ⟨⟨_,XA h3,rfl⟩,⟨_,AMn k x,rfl⟩,h3⟩
theorem AOT {β:Env} {k x:Nat} {u:Value} (hx:x<2^(64*k)) (hr:AN β (.val true (NR k x)) u):AN β (.val true [.num k x]) u:=by
 obtain ⟨l,h1,rfl⟩:=hr;have:l=words k x:=by
  have gen:∀ (is:List Nat) (l:List Value),AQ β (is.map fun i=>Ch.v (.int .u64 (AF x i))) l→l=is.map fun i=>Value.int .u64 (AF x i):=by
   intro is;induction is with
   | nil=>intro l h;exact h
   | cons i is ih =>
    intro l ⟨l1,l2,q1,q2,q3⟩
    rw [q3,q1.1,ih l2 q2];rfl
  exact gen _ _ h1
 subst this;exact ⟨_,XA hx,rfl⟩
theorem AOU {k:Nat} {x:Nat}:DL k [.num k x]=some x:=by simp [DL]
def Jw (x y:Int):Int:=x*y / 18446744073709551616
def FI (x y:Int):Int:=x*y % 18446744073709551616
def RK (x:Int):Int:=bits .and .u64 x 4294967295
def JD (x:Int):Int:=Int.fdiv x (2^32)
def mW (x:Int):Int:=IntKind.u64.wrap x
def aT (x y:Int):Int:=mW (RK x*RK y)
def mt (x y:Int):Int:=mW (mW (JD x*RK y)+JD (aT x y))
def XB (x y:Int):Int:=mW (RK (mt x y)+mW (RK x*JD y))
theorem AOV (x y:Int):AM dm (AH S0 K0) f142 [.val false [.v (.int .u64 x)],.val false [.v (.int .u64 y)]] [] 300 =
 some ([(decide (0≤(32:Int)∧0≤x),true),(decide (0≤(32:Int)∧0≤y),true),(decide (0≤(32:Int)∧0≤aT x y),true),(decide (0≤(32:Int)∧0≤mt x y),true),(decide (0≤(32:Int)∧0≤XB x y),true)],
  .tup [(false,[.v (.int .u64 (mW (mW (mW (JD x*JD y)+JD (mt x y))+JD (XB x y))))]),(false,[.v (.int .u64 (mW (x*y)))])]):=dj
theorem XC {x:Int} (h0:0≤x) (h1:x<18446744073709551616):RK x=x % 4294967296:=by
 obtain ⟨X,rfl⟩:=ki h0;have h:=(bits_nat .u64 64 dl (fun n h0 h1=>by rw [IntKind.wrap_u64];omega) X 4294967295 dk dl).1
 show bits .and .u64 (X:Int) ((4294967295:Nat):Int)=_;rw [h];have e4:(4294967295:Nat)=2^32-1:=dl
 rw [e4,Nat.and_two_pow_sub_one_eq_mod];omega
theorem AOW (x:Int):JD x=x / 4294967296:=by
 unfold JD;rw [qm _ dl];rfl
theorem F4 (x:Int):mW x=x % 18446744073709551616:=IntKind.wrap_u64 x
theorem AOX {x y:Int} (hx:0≤x∧x<18446744073709551616) (hy:0≤y∧y<18446744073709551616) :
  mW (mW (mW (JD x*JD y)+JD (mt x y))+JD (XB x y))=Jw x y∧mW (x*y)=FI x y∧0≤aT x y∧0≤mt x y∧0≤XB x y:=by
 have n0:∀ z,0≤mW z:=fun z=>by rw [F4];omega
 refine ⟨?_,F4 _,n0 _,n0 _,n0 _⟩
 have hw:∀ z,0≤mW z∧mW z<18446744073709551616:=fun z=>by rw [F4];omega
 have lt:=XC (show 0≤mt x y from (hw _).1) (show mt x y<_ from (hw _).2)
 unfold Jw XB;rw [lt,XC hx.1 hx.2];clear lt;unfold mt aT;rw [XC hx.1 hx.2,XC hy.1 hy.2];simp only [AOW,F4];obtain ⟨a,ha⟩:∃ a,a=x / 4294967296:=⟨_,rfl⟩
 obtain ⟨b,hb⟩:∃ b,b=x % 4294967296:=⟨_,rfl⟩
 obtain ⟨c,hc⟩:∃ c,c=y / 4294967296:=⟨_,rfl⟩
 obtain ⟨d,hd⟩:∃ d,d=y % 4294967296:=⟨_,rfl⟩
 have a1:0≤a∧a≤4294967295:=dk
 have b1:0≤b∧b≤4294967295:=dk
 have c1:0≤c∧c≤4294967295:=dk
 have d1:0≤d∧d≤4294967295:=dk
 rw [← ha,← hb,← hc,← hd];have exy:x*y=(a*c)*18446744073709551616+(a*d+b*c)*4294967296+b*d:=by
  have e1:x=a*4294967296+b:=dk
  have e2:y=c*4294967296+d:=dk
  rw [e1,e2];simp only [Int.add_mul,ql];have q1:a*4294967296*(c*4294967296)=a*c*18446744073709551616:=by
   rw [sf,Int.mul_left_comm 4294967296 c,← sf];omega
  have q2:a*4294967296*d=a*d*4294967296:=Int.mul_right_comm _ _ _
  have q3:b*(c*4294967296)=b*c*4294967296:=(sf _ _ _).symm
  omega
 rw [exy];have pb:∀ {u v:Int},0≤u∧u≤4294967295→0≤v∧v≤4294967295→0≤u*v∧u*v≤18446744065119617025:=by
  intro u v hu hv;refine ⟨Int.mul_nonneg hu.1 hv.1,?_⟩
  have:=Int.mul_le_mul hu.2 hv.2 hv.1 dk
  omega
 have p1:=pb a1 c1;have p2:=pb a1 d1;have p3:=pb b1 c1;have p4:=pb b1 d1;generalize a*c=AC at *
 generalize a*d=AD at *
 generalize b*c=BC at *
 generalize b*d=BD at *
 clear ha hb hc hd exy a1 b1 c1 d1 pb hx hy n0 hw;omega
def pZ:List AV→Option AV
 | [A,B]=>match Bv (some A),Bv (some B) with
  | some (_,.u64,x),some (_,.u64,y)=>some (.tup [(false,[.v (.int .u64 (Jw x y))]),(false,[.v (.int .u64 (FI x y))])])
  | _,_=>none
 | _=>none
theorem AOY:∀ args v,pZ args=some v→AU dm 142 args v:=by
 intro args v h us w ha;unfold pZ at h;split at h;case h_2=>cases h
 rename_i A B;split at h;case h_2=>cases h
 rename_i c1 x c2 y hx hy;injection h with h;subst h;obtain ⟨u1,iu,r1,ha,rfl⟩:=ha;obtain ⟨u2,iw,r2,ha,rfl⟩:=ha;simp only [BI] at ha;subst ha;obtain ⟨q1,h1⟩:=UF hx r1;obtain ⟨q2,h2⟩:=UF hy r2;have b1:=ES h1;have b2:=ES h2;obtain ⟨m1,m2,m3,m4,m5⟩:=AOX b1 b2;have:=AP (AJ IW Ae) AB func142 (AOV x y) (by simp [AO,b1.1,b2.1,m3,m4,m5]) rfl _ w ⟨u1,_,q1,⟨u2,_,q2,rfl,rfl⟩,rfl⟩
 rw [m1,m2] at this;exact this
def Pw:List Ch:=[.n .u64 0xb9feffffffffaaab,.n .u64 0x1eabfffeb153ffff,.n .u64 0x6730d2a0f6b0f624,.n .u64 0x64774b84f38512bf,.n .u64 0x4b1ba7b6434bacd7,.n .u64 0x1a0111ea397fe69a]
theorem AOZ:AM dm (AH S0 K0) f137 [] [] 100=some ([],.val true Pw):=dj
theorem AOa:AU dm 137 [] (.val true Pw):=AP (AJ IW Ae) AB func137 AOZ trivial rfl
def aU:List AV→Option AV | []=>some (.val true Pw) | _=>none
def S1:dr:=(137,Ac aU)::(142,Ac pZ)::S0
theorem aV:AW dm S1:=⟨Ad func137 dj dj (fun args v h=>by
 unfold aU at h;split at h
 ·injection h with h;subst h;exact AOa
 ·cases h),Ad func142 dj dj AOY,IW⟩
abbrev dt:List Bool:=[false]
abbrev du:List Bool:=[true]
open Ex
set_option maxRecDepth 100000
set_option maxHeartbeats 4000000
def pN:Nat:=0x1a0111ea397fe69a4b1ba7b6434bacd764774b84f38512bf6730d2a0f6b0f6241eabfffeb153ffffb9feffffffffaaab
def RR:Nat:=39402006196394479212279040100143613805079739270465446667948293404245721771497210611414266254884915640806627990306816
theorem DV:RR=2^(64*6):=dj
theorem AOb:2^(64*6)=2^64*(2^64*(2^64*(2^64*(2^64*2^64)))):=dj
theorem PO (x:Nat):(x:Int)=AF x 0+18446744073709551616*((x / 2^64:Nat):Int):=by
 simp only [AF,ll,kf,ko];omega
theorem B3 (x i:Nat):0≤AF x i∧AF x i<18446744073709551616:=ES (Zg x i)
theorem ADL {x:Nat} (h:x<18446744073709551616):AF x 0=x:=by
 simp only [AF,ll,kf,ko];omega
def Gw (a0 a1 a2 a3 a4 a5:Int):Int:=a0+18446744073709551616*(a1+18446744073709551616*(a2+18446744073709551616*(a3+18446744073709551616*(a4+18446744073709551616*a5))))
theorem RM {x:Nat} (h:x<2^(64*6)):(x:Int)=Gw (AF x 0) (AF x 1) (AF x 2) (AF x 3) (AF x 4) (AF x 5):=by
 rw [AOb] at h;have s0:=PO x;have s1:=PO (x / 2^64)
 have s2:=PO (x / 2^64 / 2^64)
 have s3:=PO (x / 2^64 / 2^64 / 2^64)
 have s4:=PO (x / 2^64 / 2^64 / 2^64 / 2^64)
 have s5:AF (x / 2^64 / 2^64 / 2^64 / 2^64 / 2^64) 0=((x / 2^64 / 2^64 / 2^64 / 2^64 / 2^64:Nat):Int):=by
  apply ADL
  have l1:=li h;have l2:=li l1;have l3:=li l2;have l4:=li l3;exact li l4
 simp only [Gw,FW];rw [s5];rw [← s4,← s3,← s2,← s1,← s0]
theorem AOc {y:Nat} {d0 d1 d2 d3 d4 d5:Int} (b0:0≤d0∧d0<18446744073709551616) (b1:0≤d1∧d1<18446744073709551616) (b2:0≤d2∧d2<18446744073709551616) (b3:0≤d3∧d3<18446744073709551616) (b4:0≤d4∧d4<18446744073709551616) (b5:0≤d5∧d5<18446744073709551616)
  (h:(y:Int)=Gw d0 d1 d2 d3 d4 d5):d0=AF y 0∧d1=AF y 1∧d2=AF y 2∧d3=AF y 3∧d4=AF y 4∧d5=AF y 5∧y<2^(64*6):=by
 unfold Gw at h;have step:∀ (z:Nat) (d K:Int),0≤d∧d<18446744073709551616→(z:Int)=d+18446744073709551616*K→d=AF z 0∧((z / 2^64:Nat):Int)=K:=by
  intro z d K hd hz;have:=PO z
  have hb:=B3 z 0;omega
 obtain ⟨e0,k0⟩:=step y d0 _ b0 h;obtain ⟨e1,k1⟩:=step _ d1 _ b1 k0;obtain ⟨e2,k2⟩:=step _ d2 _ b2 k1;obtain ⟨e3,k3⟩:=step _ d3 _ b3 k2;obtain ⟨e4,k4⟩:=step _ d4 _ b4 k3;have e5:d5=AF (y / 2^64 / 2^64 / 2^64 / 2^64 / 2^64) 0:=by rw [ADL dk];exact k4.symm
 refine ⟨e0,by rw [e1,FW],by rw [e2,FW,FW],by rw [e3,FW,FW,FW],by rw [e4,FW,FW,FW,FW],by rw [e5,FW,FW,FW,FW,FW],?_⟩
 rw [← DV];unfold RR;omega
def w6 (a0 a1 a2 a3 a4 a5:Int):List Ch:=[.v (.int .u64 a0),.v (.int .u64 a1),.v (.int .u64 a2),.v (.int .u64 a3),.v (.int .u64 a4),.v (.int .u64 a5)]
theorem p8 (x:Nat):NR 6 x=w6 (AF x 0) (AF x 1) (AF x 2) (AF x 3) (AF x 4) (AF x 5):=rfl
theorem aW {β:Env} {u:Value} {y:Nat} {d0 d1 d2 d3 d4 d5:Int} (b0:0≤d0∧d0<18446744073709551616) (b1:0≤d1∧d1<18446744073709551616) (b2:0≤d2∧d2<18446744073709551616) (b3:0≤d3∧d3<18446744073709551616) (b4:0≤d4∧d4<18446744073709551616) (b5:0≤d5∧d5<18446744073709551616)
  (h:(y:Int)=Gw d0 d1 d2 d3 d4 d5) (hr:AN β (.val true (w6 d0 d1 d2 d3 d4 d5)) u):AN β (.val true [.num 6 y]) u:=by
 obtain ⟨e0,e1,e2,e3,e4,e5,ik⟩:=AOc b0 b1 b2 b3 b4 b5 h;rw [e0,e1,e2,e3,e4,e5,← p8] at hr;exact AOT ik hr
theorem Nm {a b c:Int} (ha:0≤a∧a<18446744073709551616) (hb:0≤b∧b<18446744073709551616) (hc:0≤c∧c≤1) :
  EL a b c=a-b-c+18446744073709551616*IT a b c∧(0≤EL a b c∧EL a b c<18446744073709551616)∧(0≤IT a b c∧IT a b c≤1):=by
 unfold EL IT;split<;>omega
theorem p9 {a b c:Int} (ha:0≤a∧a<18446744073709551616) (hb:0≤b∧b<18446744073709551616) (hc:0≤c∧c≤1) :
  a+b+c=CX a b c+18446744073709551616*DX a b c∧(0≤CX a b c∧CX a b c<18446744073709551616)∧(0≤DX a b c∧DX a b c≤1):=by
 unfold CX DX;omega
theorem Dw {c:Int} (h:0≤c∧c≤1):CQ c=true:=by simp [CQ,h.1,h.2]
def PP (a0:Int):Int:=IT a0 0xb9feffffffffaaab 0
def PQ (a0 a1:Int):Int:=IT a1 0x1eabfffeb153ffff (PP a0)
def PR (a0 a1 a2:Int):Int:=IT a2 0x6730d2a0f6b0f624 (PQ a0 a1)
def PS (a0 a1 a2 a3:Int):Int:=IT a3 0x64774b84f38512bf (PR a0 a1 a2)
def PT (a0 a1 a2 a3 a4:Int):Int:=IT a4 0x4b1ba7b6434bacd7 (PS a0 a1 a2 a3)
def Jx (a0 a1 a2 a3 a4 a5:Int):Int:=IT a5 0x1a0111ea397fe69a (PT a0 a1 a2 a3 a4)
def AOd (a0 a1 a2 a3 a4 a5:Int):List Ch:=w6 (EL a0 0xb9feffffffffaaab 0) (EL a1 0x1eabfffeb153ffff (PP a0)) (EL a2 0x6730d2a0f6b0f624 (PQ a0 a1)) (EL a3 0x64774b84f38512bf (PR a0 a1 a2)) (EL a4 0x4b1ba7b6434bacd7 (PS a0 a1 a2 a3)) (EL a5 0x1a0111ea397fe69a (PT a0 a1 a2 a3 a4))
def qB (a0 a1 a2 a3 a4:Int) (r:dp):dp:=(CQ 0,true)::(CQ (PP a0),true)::(CQ (PQ a0 a1),true)::(CQ (PR a0 a1 a2),true)::(CQ (PS a0 a1 a2 a3),true)::(CQ (PT a0 a1 a2 a3 a4),true)::r
theorem AOe (a0 a1 a2 a3 a4 a5 h:Int):AM dm (AH S1 K0) f134 [.val true (w6 a0 a1 a2 a3 a4 a5),.val false [.v (.int .u64 h)]] du 300 =
 some (qB a0 a1 a2 a3 a4 [(decide (h<Jx a0 a1 a2 a3 a4 a5),true)],.val true (w6 a0 a1 a2 a3 a4 a5)):=dj
theorem AOf (a0 a1 a2 a3 a4 a5 h:Int):AM dm (AH S1 K0) f134 [.val true (w6 a0 a1 a2 a3 a4 a5),.val false [.v (.int .u64 h)]] dt 300 =
 some (qB a0 a1 a2 a3 a4 [(decide (h<Jx a0 a1 a2 a3 a4 a5),false)],.val true (AOd a0 a1 a2 a3 a4 a5)):=dj
def JE (x h:Nat):Nat:=if x<pN∧h=0 then x else (x+(RR-pN)) % RR
def qC:List AV→Option AV
 | [.val true a,B]=>match DL 6 a,Bv (some B) with
  | some x,some (_,.u64,h)=>some (.val true [.num 6 (JE x h.toNat)])
  | _,_=>none
 | _=>none
theorem AOg:∀ args v,qC args=some v→AU dm 134 args v:=by
 intro args v h us w ha;unfold qC at h;split at h;case h_2=>cases h
 rename_i a B;split at h;case h_2=>cases h
 rename_i x c h0 hx hy;injection h with h;subst h;obtain ⟨u1,iu,r1,ha,rfl⟩:=ha;obtain ⟨u2,iw,r2,ha,rfl⟩:=ha;simp only [BI] at ha;subst ha;obtain ⟨q0,q1,ik⟩:=Nl hx r1;obtain ⟨q2,h2⟩:=UF hy r2;have bh:=ES h2;rw [p8] at q1;have hX:=RM ik;have w0:=B3 x 0;have w1:=B3 x 1;have w2:=B3 x 2;have w3:=B3 x 3;have w4:=B3 x 4;have w5:=B3 x 5;generalize AF x 0=a0 at *
 generalize AF x 1=a1 at *
 generalize AF x 2=a2 at *
 generalize AF x 3=a3 at *
 generalize AF x 4=a4 at *
 generalize AF x 5=a5 at *
 obtain ⟨d0,e0,f0⟩:=Nm (b:=0xb9feffffffffaaab) (c:=0) w0 dk dk
 obtain ⟨d1,e1,f1⟩:=Nm (b:=0x1eabfffeb153ffff) (c:=PP a0) w1 dk f0
 obtain ⟨d2,e2,f2⟩:=Nm (b:=0x6730d2a0f6b0f624) (c:=PQ a0 a1) w2 dk f1
 obtain ⟨d3,e3,f3⟩:=Nm (b:=0x64774b84f38512bf) (c:=PR a0 a1 a2) w3 dk f2
 obtain ⟨d4,e4,f4⟩:=Nm (b:=0x4b1ba7b6434bacd7) (c:=PS a0 a1 a2 a3) w4 dk f3
 obtain ⟨d5,e5,f5⟩:=Nm (b:=0x1a0111ea397fe69a) (c:=PT a0 a1 a2 a3 a4) w5 dk f4
 have ib:∀ r,AO r→AO (qB a0 a1 a2 a3 a4 r):=fun r hr =>
  ⟨rfl,Dw f0,Dw f1,Dw f2,Dw f3,Dw f4,hr⟩
 change EL a0 0xb9feffffffffaaab 0=a0-0xb9feffffffffaaab-0+18446744073709551616*PP a0 at d0
 change EL a1 0x1eabfffeb153ffff (PP a0)=a1-0x1eabfffeb153ffff-PP a0+18446744073709551616*PQ a0 a1 at d1
 change EL a2 0x6730d2a0f6b0f624 (PQ a0 a1)=a2-0x6730d2a0f6b0f624-PQ a0 a1+18446744073709551616*PR a0 a1 a2 at d2
 change EL a3 0x64774b84f38512bf (PR a0 a1 a2)=a3-0x64774b84f38512bf-PR a0 a1 a2+18446744073709551616*PS a0 a1 a2 a3 at d3
 change EL a4 0x4b1ba7b6434bacd7 (PS a0 a1 a2 a3)=a4-0x4b1ba7b6434bacd7-PS a0 a1 a2 a3+18446744073709551616*PT a0 a1 a2 a3 a4 at d4
 change EL a5 0x1a0111ea397fe69a (PT a0 a1 a2 a3 a4)=a5-0x1a0111ea397fe69a-PT a0 a1 a2 a3 a4+18446744073709551616*Jx a0 a1 a2 a3 a4 a5 at d5
 change 0≤Jx a0 a1 a2 a3 a4 a5∧Jx a0 a1 a2 a3 a4 a5≤1 at f5
 unfold Gw at hX;have hsum:Gw (EL a0 0xb9feffffffffaaab 0) (EL a1 0x1eabfffeb153ffff (PP a0)) (EL a2 0x6730d2a0f6b0f624 (PQ a0 a1)) (EL a3 0x64774b84f38512bf (PR a0 a1 a2)) (EL a4 0x4b1ba7b6434bacd7 (PS a0 a1 a2 a3)) (EL a5 0x1a0111ea397fe69a (PT a0 a1 a2 a3 a4)) =
   (x:Int)-(pN:Nat)+(RR:Nat)*Jx a0 a1 a2 a3 a4 a5:=by
  unfold Gw pN RR;omega
 have hbnd:0≤(x:Int)-(pN:Nat)+(RR:Nat)*Jx a0 a1 a2 a3 a4 a5∧(x:Int)-(pN:Nat)+(RR:Nat)*Jx a0 a1 a2 a3 a4 a5<(RR:Nat):=by
  rw [← hsum];unfold Gw RR;omega
 have hltR:x<RR:=by rw [DV];exact ik
 by_cases hcase:x<pN∧h0.toNat=0
 ·have hb6:h0<Jx a0 a1 a2 a3 a4 a5:=by
   unfold pN RR at hbnd;unfold pN at hcase;omega
  have:=AP (AJ aV Ae) AB func134 (AOe a0 a1 a2 a3 a4 a5 h0) (ib _ ⟨by simp [hb6],trivial⟩) rfl _ w ⟨u1,_,q1,⟨u2,_,q2,rfl,rfl⟩,rfl⟩
  refine Calls.mono this ?_
  rintro e w' ⟨u,rfl,hu,hbl⟩
  refine ⟨u,rfl,?_,hbl⟩
  unfold JE;rw [je hcase];exact aW w0 w1 w2 w3 w4 w5 hX hu
 ·have hb6:¬ h0<Jx a0 a1 a2 a3 a4 a5:=by
   unfold pN RR at hbnd;unfold pN at hcase;omega
  have:=AP (AJ aV Ae) AB func134 (AOf a0 a1 a2 a3 a4 a5 h0) (ib _ ⟨by simp [hb6],trivial⟩) rfl _ w ⟨u1,_,q1,⟨u2,_,q2,rfl,rfl⟩,rfl⟩
  refine Calls.mono this ?_
  rintro e w' ⟨u,rfl,hu,hbl⟩
  refine ⟨u,rfl,?_,hbl⟩
  unfold JE;rw [jd hcase];refine aW e0 e1 e2 e3 e4 e5 ?_ hu
  rw [hsum];have h01:Jx a0 a1 a2 a3 a4 a5=0∨Jx a0 a1 a2 a3 a4 a5=1:=dk
  unfold pN RR at *
  rcases h01 with h01 | h01<;>rw [h01] at hbnd ⊢<;>omega
def S2:dr:=(134,Ac qC)::S1
theorem aZ:AW dm S2:=⟨Ad func134 dj dj AOg,aV⟩
open Ex
def CB (x:Option (dp×List Nat×gq)):List Item:=match x with | some (_,_,y)=>y.todo | none=>[]
def Hr:List Ch:=[.n .u64 0,.n .u64 0,.n .u64 0,.n .u64 0,.n .u64 0,.n .u64 0]
noncomputable def AOh:List Item:=CB (AY dm (AH S2 K0) (some 0) 100 0 (some ([1,2],[0,1],2)) (Aj f110 [.val true [.num 6 0]] [] 0 []))
noncomputable def UG (x:Nat) (gv:List Bool):gq:=⟨AOh,⟨[.any,.val false [.p 0 0],.val false [.p 1 0],.any,.any,.any,.any,.any,.any,.any,.any],
 [(0,some ⟨40,[.num 6 x],false⟩),(1,some ⟨40,Hr,false⟩)],2,gv⟩⟩
theorem AOi (x:Nat):AY dm (AH S2 K0) (some 0) 100 0 (some ([1,2],[0,1],2)) (Aj f110 [.val true [.num 6 x]] [] 0 [])=some ([],[],UG x []):=dj
theorem AOj (x:Nat):AY dm (AH S2 K0) (some 0) 100 0 (some ([1,2],[0,1],2)) (UG x dt)=some ([(decide (JE x 0=x),false)],[],UG (JE x 0) []):=dj
theorem AOk (x:Nat):FH dm (AH S2 K0) f110 100 0 (UG x du)=some ([(decide (JE x 0=x),true)],[],.val true [.num 6 x]):=dj
theorem ADM (x:Nat) (p:List Bool):Be f110.ntmps (UG x p).s:=AS dj
theorem ADN {x:Nat} (h:x<pN):JE x 0=x:=je ⟨h,rfl⟩
theorem qF {x:Nat} (h:pN≤x) (hx:x<RR):JE x 0=x-pN:=by
 unfold JE;rw [jd dk];have:pN≤RR:=dl
 rw [show x+(RR-pN)=(x-pN)+RR by omega,pi,jk dk]
theorem DB:0<pN:=dl
theorem AOl (w0:World) (v:Nat):∀ (x:Nat),x<RR→x % pN=v→gn dm 110 CE w0 (Hp w0 (.val true [.num 6 v])) f110.ntmps [] (UG x []):=by
 intro x;induction x using Nat.strongRecOn with
 | _ x ih =>
  intro hx hv;rcases jv x pN with ik | hge
  ·rw [jk ik] at hv;subst hv;exact Af du (IU (AJ aZ Ae) AB func110 (AOk x) ⟨by simp [ADN ik],trivial⟩ (ADM x _) (fun _ _=>rfl) rfl)
  ·have hp:=DB;refine Af dt (Ai (AJ aZ Ae) AB (AOj x) ⟨by simp [qF hge hx];omega,trivial⟩ (ADM x _) (fun _ _=>rfl) jb fun _=>?_)
   rw [qF hge hx];exact ih (x-pN) dk dk (by rw [← hv,← tn hge])
def a7:List AV→Option AV
 | [.val true a]=>match DL 6 a with
  | some x=>some (.val true [.num 6 (x % pN)])
  | none=>none
 | _=>none
theorem ADO:∀ args v,a7 args=some v→AU dm 110 args v:=by
 intro args v h us w ha;unfold a7 at h;split at h;case h_2=>cases h
 rename_i a;split at h;case h_2=>cases h
 rename_i x hx;injection h with h;subst h;obtain ⟨u1,iu,r1,ha,rfl⟩:=ha;simp only [BI] at ha;subst ha;obtain ⟨q0,q1,ik⟩:=Nl hx r1;rw [← DV] at ik;exact Ni (args:=[.val true [.num 6 x]]) (gv:=[]) func110 dj dj (fun w0=>Ai (AJ aZ Ae) AB (AOi x) trivial (AS dj) (fun _ _=>rfl) jb fun _=>AOl w0 _ x ik rfl) _ w ⟨u1,_,q0,rfl,rfl⟩
def S3:dr:=(110,Ac a7)::S2
theorem a8:AW dm S3:=⟨Ad func110 dj dj ADO,aZ⟩
def PU (d0 d1 d2 d3 d4 d5:Int):Nat:=d0.toNat+18446744073709551616*(d1.toNat+18446744073709551616*(d2.toNat+18446744073709551616*(d3.toNat+18446744073709551616*(d4.toNat+18446744073709551616*(d5.toNat+18446744073709551616*0)))))
def B6 (x y:Nat):Nat→Int
 | 0=>0
 | i+1=>DX (AF x i) (AF y i) (B6 x y i)
def CF (x y:Nat):Nat→Int
 | 0=>0
 | i+1=>IT (AF x i) (AF y i) (CF x y i)
def FJ (x y i:Nat):Int:=CX (AF x i) (AF y i) (B6 x y i)
def B7 (x y i:Nat):Int:=EL (AF x i) (AF y i) (CF x y i)
theorem GN (x y:Nat):∀ i,0≤B6 x y i∧B6 x y i≤1
 | 0=>by simp [B6]
 | i+1=>(p9 (B3 x i) (B3 y i) (GN x y i)).2.2
theorem GO (x y:Nat):∀ i,0≤CF x y i∧CF x y i≤1
 | 0=>by simp [CF]
 | i+1=>(Nm (B3 x i) (B3 y i) (GO x y i)).2.2
theorem UH (x y i:Nat):0≤FJ x y i∧FJ x y i<18446744073709551616:=(p9 (B3 x i) (B3 y i) (GN x y i)).2.1
theorem FX (x y i:Nat):0≤B7 x y i∧B7 x y i<18446744073709551616:=(Nm (B3 x i) (B3 y i) (GO x y i)).2.1
theorem UI (x y i:Nat):AF x i+AF y i+B6 x y i=FJ x y i+18446744073709551616*B6 x y (i+1):=(p9 (B3 x i) (B3 y i) (GN x y i)).1
theorem RN (x y i:Nat):B7 x y i=AF x i-AF y i-CF x y i+18446744073709551616*CF x y (i+1):=(Nm (B3 x i) (B3 y i) (GO x y i)).1
theorem AOm {x y:Nat} (hx:x<RR) (hy:y<RR):Gw (FJ x y 0) (FJ x y 1) (FJ x y 2) (FJ x y 3) (FJ x y 4) (FJ x y 5)+(RR:Nat)*B6 x y 6=x+y:=by
 have h1:=RM (x:=x) (by rw [← DV];exact hx)
 have h2:=RM (x:=y) (by rw [← DV];exact hy)
 have e0:AF x 0+AF y 0+B6 x y 0=FJ x y 0+18446744073709551616*B6 x y 1:=UI x y 0
 have e1:AF x 1+AF y 1+B6 x y 1=FJ x y 1+18446744073709551616*B6 x y 2:=UI x y 1
 have e2:AF x 2+AF y 2+B6 x y 2=FJ x y 2+18446744073709551616*B6 x y 3:=UI x y 2
 have e3:AF x 3+AF y 3+B6 x y 3=FJ x y 3+18446744073709551616*B6 x y 4:=UI x y 3
 have e4:AF x 4+AF y 4+B6 x y 4=FJ x y 4+18446744073709551616*B6 x y 5:=UI x y 4
 have e5:AF x 5+AF y 5+B6 x y 5=FJ x y 5+18446744073709551616*B6 x y 6:=UI x y 5
 have z:B6 x y 0=0:=rfl
 unfold Gw at *
 unfold RR;omega
theorem AOn {x y:Nat} (hx:x<RR) (hy:y<RR):Gw (B7 x y 0) (B7 x y 1) (B7 x y 2) (B7 x y 3) (B7 x y 4) (B7 x y 5)=x-y+(RR:Nat)*CF x y 6:=by
 have h1:=RM (x:=x) (by rw [← DV];exact hx)
 have h2:=RM (x:=y) (by rw [← DV];exact hy)
 have e0:B7 x y 0=AF x 0-AF y 0-CF x y 0+18446744073709551616*CF x y 1:=RN x y 0
 have e1:B7 x y 1=AF x 1-AF y 1-CF x y 1+18446744073709551616*CF x y 2:=RN x y 1
 have e2:B7 x y 2=AF x 2-AF y 2-CF x y 2+18446744073709551616*CF x y 3:=RN x y 2
 have e3:B7 x y 3=AF x 3-AF y 3-CF x y 3+18446744073709551616*CF x y 4:=RN x y 3
 have e4:B7 x y 4=AF x 4-AF y 4-CF x y 4+18446744073709551616*CF x y 5:=RN x y 4
 have e5:B7 x y 5=AF x 5-AF y 5-CF x y 5+18446744073709551616*CF x y 6:=RN x y 5
 have z:CF x y 0=0:=rfl
 unfold Gw at *
 unfold RR;omega
theorem a9 {d0 d1 d2 d3 d4 d5:Int} (b0:0≤d0∧d0<18446744073709551616) (b1:0≤d1∧d1<18446744073709551616) (b2:0≤d2∧d2<18446744073709551616) (b3:0≤d3∧d3<18446744073709551616) (b4:0≤d4∧d4<18446744073709551616) (b5:0≤d5∧d5<18446744073709551616) :
  (PU d0 d1 d2 d3 d4 d5:Int)=Gw d0 d1 d2 d3 d4 d5∧PU d0 d1 d2 d3 d4 d5<RR:=by
 unfold PU Gw RR;omega
def Nn (x y:Nat):Nat:=PU (FJ x y 0) (FJ x y 1) (FJ x y 2) (FJ x y 3) (FJ x y 4) (FJ x y 5)
def bC (x y:Nat):Nat:=PU (B7 x y 0) (B7 x y 1) (B7 x y 2) (B7 x y 3) (B7 x y 4) (B7 x y 5)
theorem qG {x y:Nat} (hx:x<RR) (hy:y<RR):Nn x y+RR*(B6 x y 6).toNat=x+y∧Nn x y<RR:=by
 obtain ⟨h1,h2⟩:=a9 (UH x y 0) (UH x y 1) (UH x y 2) (UH x y 3) (UH x y 4) (UH x y 5)
 have h3:=AOm hx hy;have h4:=GN x y 6;unfold Nn;refine ⟨?_,h2⟩
 rw [← h1] at h3;have h01:B6 x y 6=0∨B6 x y 6=1:=dk
 unfold RR at *
 rcases h01 with e | e<;>rw [e] at h3 ⊢<;>simp only [Int.toNat_zero,Int.toNat_one]<;>omega
theorem ADP {x y:Nat} (hx:x<RR) (hy:y<RR):bC x y=(x+(RR-y)) % RR:=by
 obtain ⟨h1,h2⟩:=a9 (FX x y 0) (FX x y 1) (FX x y 2) (FX x y 3) (FX x y 4) (FX x y 5)
 have h3:=AOn hx hy;have h4:=GO x y 6;unfold bC;rw [← h1] at h3;have h01:CF x y 6=0∨CF x y 6=1:=dk
 unfold RR at *
 rcases h01 with e | e<;>rw [e] at h3<;>omega
theorem AOo {x y:Nat} (hx:x<RR) (hy:y<RR):(((x+(RR-y)) % RR:Nat):Int)=Gw (B7 x y 0) (B7 x y 1) (B7 x y 2) (B7 x y 3) (B7 x y 4) (B7 x y 5):=by
 rw [← ADP hx hy];exact (a9 (FX x y 0) (FX x y 1) (FX x y 2) (FX x y 3) (FX x y 4) (FX x y 5)).1
theorem Hs (x:Nat):x % pN<pN:=jw _ DB
theorem RO:pN+pN<RR:=dl
theorem qJ {x:Nat} (h:x<pN+pN):JE x 0=x % pN:=by
 rcases jv x pN with h1 | h1
 ·rw [ADN h1,jk h1]
 ·have:=RO
  rw [qF h1 dk,tn h1,jk dk]
theorem AOp (x y:Nat):AM dm (AH S3 K0) f61 [.val true [.num 6 x],.val true [.num 6 y]] [] 300 =
 some ([(CQ 0,true),(CQ (B6 (x % pN) (y % pN) 1),true),(CQ (B6 (x % pN) (y % pN) 2),true),(CQ (B6 (x % pN) (y % pN) 3),true),(CQ (B6 (x % pN) (y % pN) 4),true),(CQ (B6 (x % pN) (y % pN) 5),true)],
  .val true [.num 6 (JE (Nn (x % pN) (y % pN)) (B6 (x % pN) (y % pN) 6).toNat)]):=dj
theorem AOq (x:Nat):AM dm (AH S3 K0) f63 [.val true [.num 6 x]] [] 300 =
 some ([(CQ 0,true),(CQ (CF pN (x % pN) 1),true),(CQ (CF pN (x % pN) 2),true),(CQ (CF pN (x % pN) 3),true),(CQ (CF pN (x % pN) 4),true),(CQ (CF pN (x % pN) 5),true)],
  .val true [.num 6 (JE (bC pN (x % pN)) 0)]):=dj
theorem AOr (x y:Nat):AM dm (AH S3 K0) f153 [.val true [.num 6 x],.val true [.num 6 y]] [] 300 =
 some ([(CQ 0,true),(CQ (CF x y 1),true),(CQ (CF x y 2),true),(CQ (CF x y 3),true),(CQ (CF x y 4),true),(CQ (CF x y 5),true)],
  .val true (w6 (B7 x y 0) (B7 x y 1) (B7 x y 2) (B7 x y 3) (B7 x y 4) (B7 x y 5))):=dj
def EP (x y:Nat):Nat:=(x % pN+y % pN) % pN
def DC (x:Nat):Nat:=(pN-x % pN) % pN
def Es (x y:Nat):Nat:=EP x (DC y)
def GP (g:Nat→AV):List AV→Option AV
 | [.val true a]=>match DL 6 a with
  | some x=>some (g x)
  | none=>none
 | _=>none
def LD (g:Nat→Nat→AV):List AV→Option AV
 | [.val true a,.val true b]=>match DL 6 a,DL 6 b with
  | some x,some y=>some (g x y)
  | _,_=>none
 | _=>none
theorem HI {f:FuncId} {g:Nat→AV} (h:∀ x,x<RR→AU dm f [.val true [.num 6 x]] (g x)):∀ args v,GP g args=some v→AU dm f args v:=by
 intro args v hs us w ha;unfold GP at hs;split at hs;case h_2=>cases hs
 rename_i a;split at hs;case h_2=>cases hs
 rename_i x hx;injection hs with hs;subst hs;obtain ⟨u1,iu,r1,ha,rfl⟩:=ha;simp only [BI] at ha;subst ha;obtain ⟨q0,q1,ik⟩:=Nl hx r1;exact h x (by rw [DV];exact ik) _ w ⟨u1,_,q0,rfl,rfl⟩
theorem Np {f:FuncId} {g:Nat→Nat→AV} (h:∀ x y,x<RR→y<RR→AU dm f [.val true [.num 6 x],.val true [.num 6 y]] (g x y)):∀ args v,LD g args=some v→AU dm f args v:=by
 intro args v hs us w ha;unfold LD at hs;split at hs;case h_2=>cases hs
 rename_i a b;split at hs;case h_2=>cases hs
 rename_i x y hx hy;injection hs with hs;subst hs;obtain ⟨u1,iu,r1,ha,rfl⟩:=ha;obtain ⟨u2,iw,r2,ha,rfl⟩:=ha;simp only [BI] at ha;subst ha;obtain ⟨q0,q1,ik⟩:=Nl hx r1;obtain ⟨p0,p1,hlt2⟩:=Nl hy r2;exact h x y (by rw [DV];exact ik) (by rw [DV];exact hlt2) _ w ⟨u1,_,q0,⟨u2,_,p0,rfl,rfl⟩,rfl⟩
theorem LE (x:Nat):x % pN<RR:=mv (Hs x) dl
theorem ADQ (x y:Nat):AU dm 61 [.val true [.num 6 x],.val true [.num 6 y]] (.val true [.num 6 (EP x y)]):=by
 have h:=AP (AJ a8 Ae) AB func61 (AOp x y) ⟨rfl,Dw (GN _ _ _),Dw (GN _ _ _),Dw (GN _ _ _),Dw (GN _ _ _),Dw (GN _ _ _),trivial⟩ rfl
 obtain ⟨h1,h2⟩:=qG (LE x) (LE y)
 have h3:=Hs x;have h4:=Hs y;have h5:=RO;have hc:(B6 (x % pN) (y % pN) 6).toNat=0:=by
  have:=GN (x % pN) (y % pN) 6
  have h01:(B6 (x % pN) (y % pN) 6).toNat=0∨(B6 (x % pN) (y % pN) 6).toNat=1:=dk
  rcases h01 with e | e
  ·exact e
  ·rw [e] at h1;omega
 rw [hc] at h h1;rw [qJ dk] at h;have:Nn (x % pN) (y % pN)=x % pN+y % pN:=dk
 rw [this] at h;exact h
theorem ADR (x:Nat):AU dm 63 [.val true [.num 6 x]] (.val true [.num 6 (DC x)]):=by
 have h:=AP (AJ a8 Ae) AB func63 (AOq x) ⟨rfl,Dw (GO _ _ _),Dw (GO _ _ _),Dw (GO _ _ _),Dw (GO _ _ _),Dw (GO _ _ _),trivial⟩ rfl
 have h3:=Hs x;have h5:=RO;have:bC pN (x % pN)=pN-x % pN:=by
  rw [ADP dk dk,show pN+(RR-x % pN)=(pN-x % pN)+RR by omega,pi,jk dk]
 rw [this,qJ dk] at h;exact h
theorem AOs (x y:Nat) (hx:x<RR) (hy:y<RR):AU dm 153 [.val true [.num 6 x],.val true [.num 6 y]] (.val true [.num 6 ((x+(RR-y)) % RR)]):=by
 intro us w ha;have h:=AP (AJ a8 Ae) AB func153 (AOr x y) ⟨rfl,Dw (GO _ _ _),Dw (GO _ _ _),Dw (GO _ _ _),Dw (GO _ _ _),Dw (GO _ _ _),trivial⟩ rfl us w ha
 refine Calls.mono h ?_
 rintro e w' ⟨u,rfl,hu,hbl⟩
 exact ⟨u,rfl,aW (FX x y 0) (FX x y 1) (FX x y 2) (FX x y 3) (FX x y 4) (FX x y 5) (AOo hx hy) hu,hbl⟩
def Aa (x:Nat):AV:=.val true [.num 6 x]
def S4:dr:=(61,Ac (LD fun x y=>Aa (EP x y)))::(63,Ac (GP fun x=>Aa (DC x)))::(153,Ac (LD fun x y=>Aa ((x+(RR-y)) % RR)))::S3
theorem ADS:AW dm S4:=⟨Ad func61 dj dj (Np fun x y _ _=>ADQ x y),Ad func63 dj dj (HI fun x _=>ADR x),Ad func153 dj dj (Np AOs),a8⟩
theorem AOt (x y:Nat):AM dm (AH S4 K0) f74 [Aa x,Aa y] [] 300=some ([],Aa (Es x y)):=dj
theorem ADT (x y:Nat):AU dm 74 [Aa x,Aa y] (Aa (Es x y)):=AP (AJ ADS Ae) AB func74 (AOt x y) trivial rfl
def S5:dr:=(74,Ac (LD fun x y=>Aa (Es x y)))::S4
theorem bD:AW dm S5:=⟨Ad func74 dj dj (Np fun x y _ _=>ADT x y),ADS⟩
end Go.Proofs.YtgnajdcdcblaoaaGreat
