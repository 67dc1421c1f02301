/- Part 2 of the proof. -/
import Derived.Test.YtgnajdcdcblaoaaGreatPA
import Derived.Below
import Derived.ProofKit
import Derived.OpenShut
import Derived.ChangeOld
import Derived.SizedLaws
import Derived.Recover
import Derived.RangeFuncRecord
import Derived.OrdersIn
import Derived.Test.YtgnajdcdcblaoaaGreatProg
set_option maxRecDepth 100000
set_option maxHeartbeats 4000000
open Go.Proofs.Tryz renaming prog→dr
open Go.Proofs.Tryz
namespace Go.Proofs.YtgnajdcdcblaoaaGreat.Ex
structure Rec where
 dst:Option Nat
 r:R
 ts:List Nat
 ks:List Nat
 fr:Nat
structure St where
 T:List AV
 H:Heap
 fr:Nat
 ie:List Bool
structure Fz where
 n:Nat
 D:List Deferred
instance:Coe Nat Fz:=⟨fun n=>⟨n,[]⟩⟩
structure Inv (β0:Env) (w0:gn) (W:List Nat) (n:Fz) (β:Env) (τ:Nat→AV) (H:Heap) (a:Act) (w:gn):Prop where
 tmp:∀ t,AO β (τ t) (a.tmps.getD t undef)
 good:Good β H w
 sz:a.tmps.size=n.n
 dfr:a.defers=n.D
 new:∀ b X,β b=some X→β0 b=some X∨∀ B m,X=.at_ B m→w0.heap.size≤B∨∃ k m',k∈W∧β0 k=some (.at_ B m')
 ext:Env.le β0 β
 frame:∀ B,B<w0.heap.size→(∀ k m,k∈W→β0 k≠some (.at_ B m))→w.heap[B]? = w0.heap[B]?
 size:w0.heap.size≤w.heap.size
 os:w.os=w0.os
 tape:w.tape=w0.tape
 output:w.output=w0.output
theorem Good.congr {β:Env} {H H':Heap} {w:gn} (g:Good β H w) (h:∀ b,AF H b=AF H' b):Good β H' w where
 heap:=fun b blk hb=>g.heap b blk (by rw [h];exact hb)
 inj:=fun b b' B n n' h1 h2=>g.inj b b' B n n' (by rw [ACc (h b)];exact h1) (by rw [h];exact h2)
 lt:=g.lt
theorem Inv.congr {β0:Env} {w0:gn} {W:List Nat} {n:Fz} {β:Env} {τ τ':Nat→AV} {H H':Heap} {a:Act} {w:gn} (i:Inv β0 w0 W n β τ H a w) (h1:∀ t,τ t=τ' t) (h2:∀ b,AF H b=AF H' b) :
  Inv β0 w0 W n β τ' H' a w :=
 { i with tmp:=fun t=>by rw [← h1];exact i.tmp t,good:=i.good.congr h2 }
theorem Inv.drew {β0:Env} {w0:gn} {W:List Nat} {n:Fz} {β:Env} {τ:Nat→AV} {H:Heap} {a:Act} {w:gn} (i:Inv β0 w0 W n β τ H a w):Inv β0 w0 W n β τ H a { w with drawn:=w.drawn+1 } :=
 { i with good:=⟨i.good.heap,i.good.inj,i.good.lt⟩ }
def W5 (τ:Nat→AV) (d:Option Nat) (v:AV):Nat→AV:=fun t=>match d with
 | some d=>match Nat.beq d t with | true=>v | false=>τ t
 | none=>τ t
theorem Inv.step {β0:Env} {w0:gn} {W:List Nat} {n:Fz} {β β':Env} {τ:Nat→AV} {H:Heap} {a:Act} {w w':gn} {fr:Nat} {r:R} {u:gq} {d:Option Nat} (i:Inv β0 w0 W n β τ H a w)
  (he:Eff β fr r w u w' β') (hg:Good β' (GB H r.upd) w') (hW:∀ k y,(k,y)∈r.upd→k∈W) (hd:∀ t,d=some t→t<n.n) :
  Inv β0 w0 W n β' (W5 τ d r.val) (GB H r.upd) (a.put d u) w' where
 tmp:=fun t=>by
  cases d with
  | none=>exact HI he.ext (i.tmp t)
  | some d =>
   simp only [W5,Act.put];have jb:=hd d rfl;split
   ·rename_i e;have:=Ar.1 e
    subst this;rw [mi,vr (by rw [i.sz];exact jb)]
    exact he.val
   ·rename_i e;have:=I4 e
    rw [mi,tp this,← mi];exact HI he.ext (i.tmp t)
 good:=hg
 sz:=by cases d<;>simp [Act.put,i.sz]
 dfr:=by cases d<;>simp [Act.put,i.dfr]
 new:=fun b X hb=>by
  rcases he.new b X hb with h | ⟨_,_,h3⟩
  ·exact i.new b X h
  ·refine .inr fun B m e=>?_
   rcases h3 B m e with h | ⟨k,m',hk,hk2⟩
   ·exact .inl (mw i.size h)
   ·rcases i.new k _ hk2 with h | h
    ·exact .inr ⟨k,m',hW _ _ hk,h⟩
    ·exact h B m' rfl
 ext:=Env.le_trans i.ext he.ext
 frame:=fun B hB ji=>by
  rw [he.frame B (li hB i.size) ?_,i.frame B hB ji];intro k y m hky hk;rcases i.new k _ hk with h | h
  ·exact ji k m (hW _ _ hky) h
  ·rcases h B m rfl with h | ⟨k',m',h1,h2⟩
   ·omega
   ·exact ji k' m' h1 h2
 size:=mw i.size he.size
 os:=by rw [he.os,i.os]
 tape:=by rw [he.tape,i.tape]
 output:=by rw [he.output,i.output]
def W6 (T:List AV) (d:Option Nat) (v:AV):List AV:=match d with
 | some d=>Js T d v
 | none=>T
theorem aQ:∀ {T:List AV} {d t:Nat} {v:AV},d<T.length→Aq (Js T d v) t=match Nat.beq d t with | true=>v | false=>Aq T t
 | [],d,t,v,h=>by simp at h
 | x::r,0,0,v,_=>rfl
 | x::r,0,t+1,v,_=>by simp [Js,Aq,GA (a:=0) (b:=t+1) dn]
 | x::r,d+1,0,v,_=>by simp [Js,Aq,GA (a:=d+1) (b:=0) dn]
 | x::r,d+1,t+1,v,h=>by
  simp only [Js,Aq];rw [aQ (T:=r) (d:=d) (t:=t) (v:=v) (by simpa using h)]
  by_cases e:d=t
  ·subst e;rfl
  ·rw [GA e,GA (a:=d+1) (b:=t+1) dn]
theorem W7:∀ {T:List AV} {d:Nat} {v:AV},(Js T d v).length=T.length
 | [],_,_=>rfl
 | _::_,0,_=>rfl
 | _::r,d+1,v=>by simp [Js,W7 (T:=r)]
def T_ (d:Nat):List AV→Bool
 | []=>false
 | _::r=>match d with | 0=>true | d+1=>T_ d r
theorem Q_:∀ {T:List AV} {d:Nat},T_ d T=true→d<T.length
 | [],d,h=>by simp [T_] at h
 | x::r,0,_=>by simp
 | x::r,d+1,h=>by simp only [T_] at h;simp [Q_ h]
def ADD (d:Option Nat) (T:List AV):Bool:=match d with
 | some d=>T_ d T
 | none=>true
theorem aS {T:List AV} {d:Option Nat} {v:AV} (h:ADD d T=true) (t:Nat):Aq (W6 T d v) t=W5 (Aq T) d v t:=by
 cases d with
 | none=>rfl
 | some d=>exact aQ (Q_ h)
theorem W8 {T:List AV} {d:Option Nat} {v:AV}:(W6 T d v).length=T.length:=by
 cases d with
 | none=>rfl
 | some d=>exact W7
def D2 (P:gr) (O:ia) (ops:Array Oper):List Oper→Nat→St→Option (List Rec×St)
 | [],_,s=>some ([],s)
 | o::ij,i,s =>
  match K8 P O ops i o (Ng ops o) (Aq s.T) s.H s.fr s.ie with
  | some e=>match ADD o.dst s.T with
   | true=>match D2 P O ops ij (i+1) ⟨W6 s.T o.dst e.val,GB s.H e.upd,s.fr+e.nw,e.ie⟩ with
    | some (ik,s')=>some (⟨o.dst,e,Ng ops o,I7 o (HK (Aq s.T) (Ng ops o)) (Ng ops o) s.H,s.fr⟩::ik,s')
    | none=>none
   | false=>none
  | none=>none
def I9:List Rec→du
 | []=>[]
 | r::L=>r.r.conds++I9 L
def MR:Heap→List Nat
 | []=>[]
 | (k,_)::r=>k::MR r
def D_:List Rec→List Nat
 | []=>[]
 | r::L=>cat (MR r.r.upd) (D_ L)
theorem PJ {u:Heap} {k:Nat}:k∈MR u↔∃ y,(k,y)∈u:=by
 induction u with
 | nil=>simp [MR]
 | cons e u ih =>
  obtain ⟨j,y⟩:=e;simp only [MR,ka,ih,kp];constructor
  ·rintro (rfl | ⟨z,hz⟩)
   ·exact ⟨y,.inl ⟨rfl,rfl⟩⟩
   ·exact ⟨z,.inr hz⟩
  ·rintro ⟨z,⟨rfl,_⟩ | hz⟩
   ·exact .inl rfl
   ·exact .inr ⟨z,hz⟩
theorem T' {P:gr} {O:ia} {ops:Array Oper} {i:Nat} {o:Oper} {ts:List Nat} {τ:Nat→AV} {H:Heap} {fr:Nat} {ie:List Bool} {r:R} (h:K8 P O ops i o ts τ H fr ie=some r) (hfH:∀ b,fr≤b→b<fr+r.nw→AF H b=none) :
  I8 H fr r.nw r.upd=true:=by
 unfold K8 at h;split at h
 ·injection h with h;subst h;rfl
 ·split at h
  ·rename_i r0 ha;split at h
   ·rename_i hu;unfold W3 at h;split at h
    ·split at h
     ·injection h with h;subst h;exact W4 hu hfH
     ·cases h
    ·injection h with h;subst h;exact W4 hu hfH
   ·cases h
  ·cases h
 ·cases h
theorem W9 {H:Heap} {fr nw:Nat} {u:Heap} (hu:I8 H fr nw u=true) (hf:∀ b,fr≤b→AF H b=none):∀ b,fr+nw≤b→AF (GB H u) b=none:=by
 intro b hb;obtain ⟨u1,u2⟩:=T9 hu;by_cases hk:∃ y,(b,y)∈u
 ·obtain ⟨y,hy⟩:=hk;rcases u1 _ _ hy with h | ⟨_,h,_⟩
  ·have h:=Wq h;rw [hf b dn] at h;cases h
  ·omega
 ·rw [(PI u2).2 (fun y hy=>hk ⟨y,hy⟩)]
  exact hf b dn
section
variable {P:gr} {O:ia} (hO:g_ P O) {ops:Array Oper} {β0:Env} {w0:gn} {W:List Nat} {n:Fz}
include hO
omit hO in
theorem aT:∀ {ij:List Oper} {i:Nat} {s s':St} {ik:List Rec},D2 P O ops ij i s=some (ik,s')→(∀ b,s.fr≤b→AF s.H b=none) →
  (∀ b,s'.fr≤b→AF s'.H b=none)∧s.fr≤s'.fr∧s'.T.length=s.T.length
 | [],i,s,s',ik,h,hf=>by simp only [D2,ke,kp] at h;obtain ⟨rfl,rfl⟩:=h;exact ⟨hf,ju _,rfl⟩
 | o::ij,i,s,s',ik,h,hf=>by
  simp only [D2] at h;split at h
  ·rename_i e he;split at h
   ·rename_i hd;split at h
    ·rename_i recs' s'' hr;injection h with h;injection h with h1 h2;subst h1;subst h2;have hu:=T' he (fun b h1 _=>hf b h1)
     obtain ⟨j1,j2,j3⟩:=aT hr (W9 hu hf)
     exact ⟨j1,by simp at j2;omega,by rw [j3];exact W8⟩
    ·cases h
   ·cases h
  ·cases h
theorem ADE {Q:Exit→Act→gn→Prop}:∀ (ij:List Oper) (i:Nat) (s s':St) (ik:List Rec) (β:Env) (a:Act) (w:gn),ops.toList.drop i=ij→D2 P O ops ij i s=some (ik,s')→AM (I9 ik) →
  Inv β0 w0 W n β (Aq s.T) s.H a w→(∀ b,s.fr≤b→β b=none)→(∀ b,s.fr≤b→AF s.H b=none)→s.T.length=n.n→(∀ k∈D_ ik,k∈W) →
  (∀ β a w,Inv β0 w0 W n β (Aq s'.T) s'.H a w→(∀ b,s'.fr≤b→β b=none)→Q .normal a w)→wpOps P ops Q (List.range' i ij.length) a w
 | [],i,s,s',ik,β,a,w,_,h,_,hi,hf,_,_,_,hQ=>by
  simp only [D2,ke,kp] at h;obtain ⟨rfl,rfl⟩:=h;exact hQ β a w hi hf
 | o::ij,i,s,s',ik,β,a,w,hdrop,h,hc,hi,hf,hfH,hn,hW,hQ=>by
  simp only [D2] at h;split at h
  ·rename_i e he;split at h
   ·rename_i hd;split at h
    ·rename_i recs' s'' hr;injection h with h;injection h with h1 h2;subst h1;subst h2;obtain ⟨c1,c2⟩:=Bz.1 hc;have ho:ops[i]? = some o:=by
      have:=jw (·[0]?) hdrop
      simpa using this
     have hdrop':ops.toList.drop (i+1)=ij:=by
      rw [← od,hdrop];rfl
     have hu:=T' he (fun b h1 _=>hfH b h1)
     rw [k_,tk,wpOps_cons];refine aO hO hi.tmp hi.good he c1 (fun b h1 _=>hf b h1) (fun b h1 _=>hfH b h1) ho fun u w' β' hE hG=>?_
     have hi':=hi.step hE hG (fun k y hk=>hW k (by simp only [D_,Ct,j_];exact .inl (PJ.2 ⟨y,hk⟩))) (d:=o.dst) (fun t ht=>by
      rw [ht] at hd;have:=Q_ hd
      omega)
     refine ADE ij (i+1) _ _ recs' β' _ w' hdrop' hr c2 (hi'.congr (fun t=>(aS hd t).symm) (fun _=>rfl)) ?_ (W9 hu hfH) (by rw [← hn];exact W8) (fun k hk=>hW k (by simp only [D_,Ct,j_];exact .inr hk)) hQ
     intro b hb;cases hβ:β' b with
     | none=>rfl
     | some X =>
      simp only at hb
      rcases hE.new b X hβ with h | ⟨_,h,_⟩
      ·rw [hf b dn] at h;cases h
      ·omega
    ·cases h
   ·cases h
  ·cases h
end
def E_ {X:Type} (f:Nat→Option X) (s:Nat→X):Nat→X:=fun k=>match f k with | some x=>x | none=>s k
def C5 {X:Type} (D:Nat→Bool):Nat→List (Nat→Option X)→(Nat→X)→(Nat→X)
 | _,[],s=>s
 | i,f::L,s=>C5 D (i+1) L (match D i with | true=>E_ f s | false=>s)
theorem PK {X:Type} {D D':Nat→Bool} {k:Nat}:∀ {L:List (Nat→Option X)} {i:Nat} {s s':Nat→X},(∀ j f,L[j]? = some f→D (i+j)≠D' (i+j)→f k=none)→s k=s' k→C5 D i L s k=C5 D' i L s' k
 | [],_,_,_,_,h=>h
 | f::L,i,s,s',h1,h2=>by
  simp only [C5];refine PK (fun j g hg jd=>h1 (j+1) g (by simpa using hg) (by rw [show i+(j+1)=i+1+j by omega];exact jd)) ?_
  have h0:=h1 0 f rfl;simp only [og] at h0;cases hD:D i<;>cases hD':D' i<;>simp only
  ·exact h2
  ·have:=h0 (by rw [hD,hD'];simp);simp [E_,this,h2]
  ·have:=h0 (by rw [hD,hD'];simp);simp [E_,this,h2]
  ·simp only [E_];cases f k<;>simp [h2]
theorem pL {X:Type} {D D':Nat→Bool} {k:Nat}:∀ {L:List (Nat→Option X)} {i j0:Nat} {s:Nat→X} {f:Nat→Option X},L[j0]? = some f→D (i+j0)=false→D' (i+j0)=true→(∀ j,j≠j0→D' (i+j)=D (i+j)) →
  (∀ j g,L[j]? = some g→j0<j→D (i+j)=true→g k=none∨f k=none)→C5 D' i L s k=E_ f (C5 D i L s) k
 | [],_,_,_,_,h,_,_,_,_=>by simp at h
 | g::L,i,0,s,f,h,hD,hD',hsame,ji=>by
  simp only [qg,ke] at h;subst h;simp only [og] at hD hD';simp only [C5,hD,hD'];cases hf:g k with
  | none =>
   simp only [E_,hf];refine PK (fun j q hq jd=>absurd ?_ jd) (by simp [E_,hf])
   have:=hsame (j+1) dn
   rwa [show i+(j+1)=i+1+j by omega] at this
  | some x =>
   simp only [E_,hf];have e1:C5 D' (i+1) L (E_ g s) k=C5 (fun _=>false) (i+1) L (E_ g s) k:=by
    refine PK (fun j q hq jd=>?_) rfl
    have h1:D' (i+1+j)=true:=by cases h:D' (i+1+j)<;>simp_all
    have h2:D (i+(j+1))=true:=by
     rw [← hsame (j+1) dn,show i+(j+1)=i+1+j by omega];exact h1
    rcases ji (j+1) q (by simpa using hq) dn h2 with h | h
    ·exact h
    ·rw [hf] at h;cases h
   have e2:∀ (L:List (Nat→Option X)) (i:Nat) (s:Nat→X),C5 (fun _=>false) i L s=s:=by
    intro L;induction L with
    | nil=>intro i s;rfl
    | cons f L ih=>intro i s;simp only [C5];exact ih _ _
   have e3:E_ g s k=x:=by simp [E_,hf]
   show C5 D' (i+1) L (E_ g s) k=x;rw [e1,e2,e3]
 | g::L,i,j0+1,s,f,h,hD,hD',hsame,ji=>by
  simp only [C5];have h0:=hsame 0 dn;simp only [og] at h0;rw [h0];exact pL (L:=L) (i:=i+1) (j0:=j0) (by simpa using h) (by rw [show i+1+j0=i+(j0+1) by omega];exact hD) (by rw [show i+1+j0=i+(j0+1) by omega];exact hD')
   (fun j hj=>by rw [show i+1+j=i+(j+1) by omega];exact hsame (j+1) dn)
   (fun j q hq jb hd=>ji (j+1) q (by simpa using hq) dn (by rw [show i+(j+1)=i+1+j by omega];exact hd))
def I_:Heap→Nat→Option (Option ib)
 | [],_=>none
 | (k,y)::r,b=>match Nat.beq k b with | true=>some y | false=>I_ r b
theorem W_ {b:Nat}:∀ {u:Heap},(∀ y,I_ u b=some y→(b,y)∈u)∧(I_ u b=none→∀ y,(b,y) ∉ u)
 | []=>⟨by simp [I_],by simp⟩
 | (k,z)::r=>by
  simp only [I_];split
  ·rename_i h;have:=Ar.1 h;subst this
   exact ⟨fun y hy=>by injection hy with hy;simp [hy],fun h=>by cases h⟩
  ·rename_i h;have:=I4 h
   refine ⟨fun y hy=>by simp [(W_ (u:=r)).1 y hy],fun hn y hy=>?_⟩
   simp only [ka,kp] at hy;rcases hy with ⟨e,_⟩ | hy
   ·exact this e.symm
   ·exact (W_ (u:=r)).2 hn y hy
theorem pM {u H:Heap} (hu:∀ k y y',(k,y)∈u→(k,y')∈u→y=y') (b:Nat):AF (GB H u) b=E_ (I_ u) (AF H) b:=by
 obtain ⟨h1,h2⟩:=PI (b:=b) (H:=H) hu
 simp only [E_];cases hl:I_ u b with
 | none=>exact h2 (W_.2 hl)
 | some y=>exact h1 y (W_.1 y hl)
def PM (d:Option Nat) (v:AV):Nat→Option AV:=fun t=>match d with
 | some d=>match Nat.beq d t with | true=>some v | false=>none
 | none=>none
theorem ADF (τ:Nat→AV) (d:Option Nat) (v:AV) (t:Nat):W5 τ d v t=E_ (PM d v) τ t:=by
 unfold W5 E_ PM;cases d with
 | none=>rfl
 | some d=>simp only;cases Nat.beq d t<;>rfl
def hD (D:Nat→Bool):Nat→List Rec→Heap→Heap
 | _,[],H=>H
 | i,r::L,H=>hD D (i+1) L (match D i with | true=>GB H r.r.upd | false=>H)
def LT (L:List Rec):List (Nat→Option AV):=L.map fun r=>PM r.dst r.r.val
def LH (L:List Rec):List (Nat→Option (Option ib)):=L.map fun r=>I_ r.r.upd
theorem Q' {D:Nat→Bool}:∀ {L:List Rec} {i:Nat} {H:Heap},(∀ r∈L,∀ k y y',(k,y)∈r.r.upd→(k,y')∈r.r.upd→y=y')→∀ b,AF (hD D i L H) b=C5 D i (LH L) (AF H) b
 | [],_,_,_,_=>rfl
 | r::L,i,H,hu,b=>by
  simp only [hD,LH,lz,C5];rw [Q' (L:=L) (fun q hq=>hu q (by simp [hq]))]
  have hfun:AF (match D i with | true=>GB H r.r.upd | false=>H)=(match D i with | true=>E_ (I_ r.r.upd) (AF H) | false=>AF H):=by
   funext x
   cases D i
   ·rfl
   ·exact pM (hu r (by simp)) x
  rw [hfun];rfl
theorem pO {P:gr} {O:ia} {ops:Array Oper}:∀ {ij:List Oper} {i:Nat} {s s':St} {ik:List Rec},D2 P O ops ij i s=some (ik,s')→(∀ b,s.fr≤b→AF s.H b=none) →
  ik.length=ij.length∧(∀ r∈ik,∀ k y y',(k,y)∈r.r.upd→(k,y')∈r.r.upd→y=y') ∧
  (∀ t,Aq s'.T t=C5 (fun _=>true) 0 (LT ik) (Aq s.T) t)∧(∀ b,AF s'.H b=C5 (fun _=>true) 0 (LH ik) (AF s.H) b) ∧
  (∀ (j:Nat) (r:Rec),ik[j]? = some r→∃ (o:Oper) (T:List AV) (H:Heap) (ie:List Bool),ij[j]? = some o∧K8 P O ops (i+j) o (Ng ops o) (Aq T) H r.fr ie=some r.r∧r.dst=o.dst∧r.ts=Ng ops o∧r.ks=I7 o (HK (Aq T) r.ts) r.ts H ∧
   (∀ t,Aq T t=C5 (fun x=>Nat.blt x j) 0 (LT ik) (Aq s.T) t)∧(∀ b,AF H b=C5 (fun x=>Nat.blt x j) 0 (LH ik) (AF s.H) b)∧(∀ t,o.dst=some t→t<s.T.length)∧s.fr≤r.fr∧r.fr+r.r.nw≤s'.fr∧(∀ b,r.fr≤b→AF H b=none)) ∧
  (∀ (j j':Nat) (r r':Rec),ik[j]? = some r→ik[j']? = some r'→j<j'→r.fr+r.r.nw≤r'.fr)
 | [],i,s,s',ik,h,hf=>by
  simp only [D2,ke,kp] at h;obtain ⟨rfl,rfl⟩:=h;exact ⟨rfl,by simp,fun _=>rfl,fun _=>rfl,by simp,by simp⟩
 | o::ij,i,s,s',ik,h,hf=>by
  simp only [D2] at h;split at h
  ·rename_i e he;split at h
   ·rename_i hd;split at h
    ·rename_i recs' s'' hr;injection h with h;injection h with h1 h2;subst h1;subst h2;have hu:=T' he (fun b h1 _=>hf b h1)
     have hf':=W9 hu hf;obtain ⟨_,u2⟩:=T9 hu;obtain ⟨i1,i2,i3,i4,i5,i6⟩:=pO hr hf';have shift:∀ {X:Type} (D:Nat→Bool) (L:List (Nat→Option X)) (q:Nat) (x:Nat→X),C5 D (q+1) L x=C5 (fun y=>D (y+1)) q L x:=by
      intro X D L;induction L with
      | nil=>intro q x;rfl
      | cons f L ih=>intro q x;simp only [C5];rw [ih]
     have tT:∀ t,Aq (W6 s.T o.dst e.val) t=E_ (PM o.dst e.val) (Aq s.T) t:=fun t=>by rw [aS hd,ADF]
     have tTf:Aq (W6 s.T o.dst e.val)=E_ (PM o.dst e.val) (Aq s.T):=funext tT
     have tHf:AF (GB s.H e.upd)=E_ (I_ e.upd) (AF s.H):=funext (pM u2)
     have frs:s.fr+e.nw≤s''.fr:=by
      have:∀ {ij:List Oper} {i:Nat} {s s':St} {ik:List Rec},D2 P O ops ij i s=some (ik,s')→s.fr≤s'.fr:=by
       intro ij;induction ij with
       | nil=>intro i s s' ik h;simp only [D2,ke,kp] at h;rw [← h.2];exact ju _
       | cons o ij ih =>
        intro i s s' ik h;simp only [D2] at h;split at h
        ·split at h
         ·split at h
          ·rename_i hq;injection h with h;injection h with h1 h2;subst h2;have:=ih hq
           simp at this;omega
          ·cases h
         ·cases h
        ·cases h
      exact this hr
     refine ⟨by simp [i1],?_,?_,?_,?_,?_⟩
     ·intro r hr';rcases ka.1 hr' with rfl | hr'
      ·exact u2
      ·exact i2 r hr'
     ·intro t;rw [i3];simp only [LT,lz,C5];rw [shift,tTf]
     ·intro b;rw [i4];simp only [LH,lz,C5];rw [shift,tHf]
     ·intro j r hj;cases j with
      | zero =>
       simp only [qg,ke] at hj;subst hj;have e2:∀ {X:Type} (L:List (Nat→Option X)) (i:Nat) (s:Nat→X),C5 (fun x=>Nat.blt x 0) i L s=s:=by
        intro X L;induction L with
        | nil=>intro i s;rfl
        | cons f L ih =>
         intro i s;simp only [C5];have:Nat.blt i 0=false:=by cases i<;>rfl
         rw [this];exact ih _ _
       refine ⟨o,s.T,s.H,s.ie,rfl,he,rfl,rfl,rfl,fun t=>by rw [e2],fun b=>by rw [e2],?_,ju _,frs,hf⟩
       intro t ht;rw [ht] at hd;exact Q_ hd
      | succ j =>
       obtain ⟨o',T,H,ie,q1,q2,q3,q4,q5,q6,q7,q8,q9,q10,q11⟩:=i5 j r (by simpa using hj)
       refine ⟨o',T,H,ie,by simpa using q1,by rw [show i+(j+1)=i+1+j by omega];exact q2,q3,q4,q5,?_,?_,?_,?_,q10,q11⟩
       ·intro t;rw [q6];simp only [LT,lz,C5];rw [shift,tTf];have:Nat.blt 0 (j+1)=true:=rfl
        rw [this];rfl
       ·intro b;rw [q7];simp only [LH,lz,C5];rw [shift,tHf];have:Nat.blt 0 (j+1)=true:=rfl
        rw [this];rfl
       ·intro t ht;have:=q8 t ht
        rwa [W8] at this
       ·simp at q9;omega
     ·intro j j' r r' hj hj' jb;cases j' with
      | zero=>omega
      | succ j' =>
       cases j with
       | zero =>
        simp only [qg,ke] at hj;subst hj;obtain ⟨_,_,_,_,_,_,_,_,_,_,_,_,q9,_⟩:=i5 j' r' (by simpa using hj')
        exact q9
       | succ j=>exact i6 j j' r r' (by simpa using hj) (by simpa using hj') dn
    ·cases h
   ·cases h
  ·cases h
def MS (acc:List Nat):List Edge→Nat
 | []=>0
 | e::r=>match Region.binds .any e with
  | true=>2^e.on ||| (acc.getD e.on 0 ||| MS acc r)
  | false=>MS acc r
theorem pP {acc:List Nat} {k:Nat}:∀ {es:List Edge},(MS acc es).testBit k=true→∃ e∈es,Region.binds .any e=true∧(k=e.on∨(acc.getD e.on 0).testBit k=true)
 | [],h=>by simp [MS] at h
 | e::r,h=>by
  simp only [MS] at h;split at h
  ·rename_i hb;rw [Nat.testBit_or,Nat.testBit_or,sn,sn] at h;rcases h with h | h | h
   ·rw [Nat.testBit_two_pow] at h;exact ⟨e,by simp,hb,.inl (by simpa using (kj h).symm)⟩
   ·exact ⟨e,by simp,hb,.inr h⟩
   ·obtain ⟨e',h1,h2⟩:=pP h;exact ⟨e',by simp [h1],h2⟩
  ·obtain ⟨e',h1,h2⟩:=pP h;exact ⟨e',by simp [h1],h2⟩
def I':List Oper→List Nat→List Nat
 | [],acc=>acc
 | o::r,acc=>I' r (acc++[MS acc o.after.toList])
theorem pQ:∀ {l:List Oper} {acc:List Nat} {j:Nat},j<acc.length→(I' l acc).getD j 0=acc.getD j 0
 | [],_,_,_=>rfl
 | o::r,acc,j,h=>by
  simp only [I'];rw [pQ (by simp;omega)]
  simp only [kq];rw [om h]
theorem ADG:∀ {l:List Oper} {acc:List Nat} {j k:Nat} {o:Oper},l[j]? = some o→((I' l acc).getD (acc.length+j) 0).testBit k=true →
  ∃ e∈o.after.toList,Region.binds .any e=true∧(k=e.on∨((I' l acc).getD e.on 0).testBit k=true)
 | [],_,_,_,_,h,_=>by simp at h
 | o::r,acc,0,k,o',h,hb=>by
  simp only [qg,ke] at h;subst h;simp only [I',og] at hb ⊢;rw [pQ (by simp)] at hb
  have:(acc++[MS acc o.after.toList]).getD acc.length 0=MS acc o.after.toList:=by simp [List.getD_eq_getElem?_getD]
  rw [this] at hb;obtain ⟨e,h1,h2,h3⟩:=pP hb;refine ⟨e,h1,h2,h3.imp id fun h=>?_⟩
  rcases kf e.on acc.length with jb | hge
  ·rw [pQ (by simp;omega)]
   have:(acc++[MS acc o.after.toList]).getD e.on 0=acc.getD e.on 0:=by
    simp only [kq];rw [om jb]
   rw [this];exact h
  ·have:acc.getD e.on 0=0:=by simp [List.getD_eq_getElem?_getD,List.getElem?_eq_none hge]
   rw [this] at h;simp at h
 | o::r,acc,j+1,k,o',h,hb=>by
  simp only [I'] at hb ⊢;have e1:acc.length+(j+1)=(acc++[MS acc o.after.toList]).length+j:=by simp;omega
  rw [e1] at hb;exact ADG (by simpa using h) hb
def XA:List Edge→Nat→Bool
 | [],_=>true
 | e::r,i=>match Region.binds .any e with
  | true=>match Nat.blt e.on i with | true=>XA r i | false=>false
  | false=>XA r i
theorem pS:∀ {es:List Edge} {i:Nat},XA es i=true→∀ e∈es,Region.binds .any e=true→e.on<i
 | [],_,_,e,h,_=>by cases h
 | e'::r,i,h,e,he,hb=>by
  simp only [XA] at h;split at h
  ·split at h
   ·rename_i jb;rcases ka.1 he with rfl | he
    ·unfold Nat.blt at jb;exact jp jb
    ·exact pS h e he hb
   ·cases h
  ·rename_i hnb;rcases ka.1 he with rfl | he
   ·rw [hb] at hnb;cases hnb
   ·exact pS h e he hb
def UA:List Oper→Nat→Bool
 | [],_=>true
 | o::r,i=>match XA o.after.toList i with | true=>UA r (i+1) | false=>false
theorem ADH:∀ {l:List Oper} {i j:Nat} {o:Oper},UA l i=true→l[j]? = some o→∀ e∈o.after.toList,Region.binds .any e=true→e.on<i+j
 | [],_,_,_,_,h=>by simp at h
 | o::r,i,0,o',h,hj=>by
  simp only [qg,ke] at hj;subst hj;simp only [UA] at h;split at h
  ·rename_i he;exact pS he
  ·cases h
 | o::r,i,j+1,o',h,hj=>by
  simp only [UA] at h;split at h
  ·have:=ADH h (by simpa using hj)
   intro e he hb;have:=this e he hb
   omega
  ·cases h
def Nh:List Nat→List Nat→Bool
 | [],_=>true
 | x::r,l=>match EU x l with | true=>false | false=>Nh r l
theorem RA:∀ {a b:List Nat},Nh a b=true→∀ x∈a,x ∉ b
 | [],_,_,x,h=>by cases h
 | y::r,b,h,x,hx=>by
  simp only [Nh] at h;split at h
  ·cases h
  ·rename_i hm;rcases ka.1 hx with rfl | hx
   ·intro hb;rw [Q8.2 hb] at hm;cases hm
   ·exact RA h x hx
def PN (d:Option Nat):List Nat:=match d with | some d=>[d] | none=>[]
def ADI (r s:Rec):Bool :=
 Nh (PN r.dst) s.ts&&(Nh (PN s.dst) r.ts&&(Nh (PN r.dst) (PN s.dst)&&(Nh (MR r.r.upd) s.ks&&(Nh (MR s.r.upd) r.ks&&Nh (MR r.r.upd) (MR s.r.upd)))))
def aU (l:List Nat) (fr nw:Nat):Bool:=match l with
 | []=>true
 | k::r=>match Nat.ble fr k&&Nat.blt k (fr+nw) with | true=>false | false=>aU r fr nw
theorem ADJ:∀ {l:List Nat} {fr nw:Nat},aU l fr nw=true→∀ k∈l,fr≤k→¬ k<fr+nw
 | [],_,_,_,k,h,_=>by cases h
 | x::r,fr,nw,h,k,hk,h1=>by
  intro h2;simp only [aU] at h;split at h
  ·cases h
  ·rename_i hb;rcases ka.1 hk with rfl | hk
   ·have e1:=jr h1;have e2:Nat.blt k (fr+nw)=true:=by unfold Nat.blt;exact jr h2
    rw [e1,e2] at hb;cases hb
   ·exact ADJ h k hk h1 h2
def UB (r s:Rec):Bool :=
 aU s.ks r.fr r.r.nw&&ADI r s
def bit (m i:Nat):Bool:=Nat.testBit m i
def PO (i:Nat) (r:Rec):List Rec→List Nat→Bool
 | [],_=>true
 | s::L,m::ms=>match bit m i with
  | true=>PO i r L ms
  | false=>match UB r s with | true=>PO i r L ms | false=>false
 | _::_,[]=>false
def RB:List Rec→List Nat→Nat→Bool
 | [],_,_=>true
 | r::L,_::ms,i=>match PO i r L ms with | true=>RB L ms (i+1) | false=>false
 | _::_,[],_=>false
theorem ADK {i:Nat} {r:Rec}:∀ {L:List Rec} {ms:List Nat} {j:Nat} {s:Rec},PO i r L ms=true→L[j]? = some s→(ms.getD j 0).testBit i=false→UB r s=true
 | [],_,_,_,_,h,_=>by simp at h
 | s::L,[],j,s',h,_,_=>by simp [PO] at h
 | s::L,m::ms,0,s',h,hj,hb=>by
  simp only [qg,ke] at hj;subst hj;simp only [PO,bit] at h;have hb':m.testBit i=false:=by simpa using hb
  rw [hb'] at h;simp only at h
  split at h
  ·assumption
  ·cases h
 | s::L,m::ms,j+1,s',h,hj,hb=>by
  simp only [PO] at h;have key:PO i r L ms=true:=by
   split at h
   ·exact h
   ·split at h
    ·exact h
    ·cases h
  exact ADK key (by simpa using hj) (by simpa using hb)
theorem pT:∀ {L:List Rec} {ms:List Nat} {i j j':Nat} {r s:Rec},RB L ms i=true→L[j]? = some r→L[j']? = some s→j<j'→(ms.getD j' 0).testBit (i+j)=false→UB r s=true
 | [],_,_,_,_,_,_,_,h,_,_,_=>by simp at h
 | q::L,[],_,_,_,_,_,h,_,_,_,_=>by simp [RB] at h
 | q::L,m::ms,i,0,j'+1,r,s,h,hj,hj',_,hb=>by
  simp only [qg,ke] at hj;subst hj;simp only [RB] at h;split at h
  ·rename_i h1;exact ADK h1 (by simpa using hj') (by simpa using hb)
  ·cases h
 | q::L,m::ms,i,j+1,j'+1,r,s,h,hj,hj',jb,hb=>by
  simp only [RB] at h;split at h
  ·exact pT h (by simpa using hj) (by simpa using hj') dn (by rw [show i+1+j=i+(j+1) by omega];simpa using hb)
  ·cases h
 | q::L,m::ms,i,j,0,r,s,h,hj,hj',jb,hb=>dn
theorem aV {r s:Rec} (h:UB r s=true) :
  (∀ d,r.dst=some d→d ∉ s.ts)∧(∀ d,s.dst=some d→d ∉ r.ts)∧(∀ d,r.dst=some d→s.dst≠some d)∧(∀ k y,(k,y)∈r.r.upd→k ∉ s.ks)∧(∀ k y,(k,y)∈s.r.upd→k ∉ r.ks)∧(∀ k y y',(k,y)∈r.r.upd→(k,y') ∉ s.r.upd):=by
 have h:=(jy.1 h).2
 unfold ADI at h;simp only [jx] at h;obtain ⟨h1,h2,h3,h4,h5,h6⟩:=h;refine ⟨fun d hd=>RA h1 d (by simp [PN,hd]),fun d hd=>RA h2 d (by simp [PN,hd]),fun d hd he=>RA h3 d (by simp [PN,hd]) (by simp [PN,he]),
  fun k y hk=>RA h4 k (PJ.2 ⟨y,hk⟩),fun k y hk=>RA h5 k (PJ.2 ⟨y,hk⟩),fun k y y' hk hk'=>RA h6 k (PJ.2 ⟨y,hk⟩) (PJ.2 ⟨y',hk'⟩)⟩
theorem pU {H:Heap} {b:Nat}:∀ {ks:List Nat},(AF (restrict H ks) b).isSome=true→b∈ks
 | [],h=>by simp [restrict,AF] at h
 | k::r,h=>by
  simp only [restrict] at h;split at h
  ·simp only [AF] at h;split at h
   ·rename_i e;rw [← Ar.1 e];simp
   ·exact oq _ (pU h)
  ·exact oq _ (pU h)
theorem AOk {P:gr} {O:ia} {ops:Array Oper} {i:Nat} {o:Oper} {ts:List Nat} {τ:Nat→AV} {H:Heap} {fr:Nat} {ie:List Bool} {r:R} (h:K8 P O ops i o ts τ H fr ie=some r) :
  ∀ k y,(k,y)∈r.upd→k∈I7 o (HK τ ts) ts H∨(fr≤k∧k<fr+r.nw):=by
 have key:∀ (r0:R),I8 (restrict H (I7 o (HK τ ts) ts H)) fr r0.nw r0.upd=true→∀ k y,(k,y)∈r0.upd→k∈I7 o (HK τ ts) ts H∨(fr≤k∧k<fr+r0.nw):=by
  intro r0 hu k y hk;rcases (T9 hu).1 k y hk with h | ⟨h1,h2,_⟩
  ·exact .inl (pU (Wq h))
  ·exact .inr ⟨h1,h2⟩
 unfold K8 at h;split at h
 ·injection h with h;subst h;intro k y hk;cases hk
 ·split at h
  ·rename_i r0 ha;split at h
   ·rename_i hu;unfold W3 at h;split at h
    ·split at h
     ·injection h with h;subst h;exact key r0 hu
     ·cases h
    ·injection h with h;subst h;exact key r0 hu
   ·cases h
  ·cases h
 ·cases h
theorem pV {d:Option Nat} {v:AV} {t:Nat} (h:d≠some t):PM d v t=none:=by
 unfold PM;cases d with
 | none=>rfl
 | some d=>simp only;rw [GA (fun e=>h (by rw [e]))]
theorem aW {u:Heap} {b:Nat} (h:∀ y,(b,y) ∉ u):I_ u b=none:=by
 cases hl:I_ u b with
 | none=>rfl
 | some y=>exact absurd (W_.1 y hl) (h y)
def left (listed:Array Bool) (m:Nat):Nat:=(List.range m).countP fun i=>!listed.getD i true
theorem ADL {α:Type} (p q:α→Bool):∀ (l:List α),(∀ x∈l,q x=true→p x=true)→l.countP q≤l.countP p
 | [],_=>ju _
 | x::l,h=>by
  have ih:=ADL p q l (fun y hy=>h y (by simp [hy]))
  rw [List.countP_cons,List.countP_cons];cases hq:q x with
  | false=>simp;cases p x<;>simp<;>omega
  | true=>rw [h x (by simp) hq];simp;exact ih
theorem ADM {α:Type} (p q:α→Bool):∀ (l:List α) (y:α),y∈l→p y=true→q y=false→(∀ x∈l,q x=true→p x=true)→l.countP q<l.countP p
 | x::l,y,hy,hp,hq,h=>by
  rw [List.countP_cons,List.countP_cons];rcases ka.1 hy with rfl | hy'
  ·have:=ADL p q l (fun z hz=>h z (by simp [hz]))
   rw [hp,hq];simp;omega
  ·have:=ADM p q l y hy' hp hq (fun z hz=>h z (by simp [hz]))
   cases hqx:q x with
   | false=>simp;cases p x<;>simp<;>omega
   | true=>rw [h x (by simp) hqx];simp;exact this
section
variable {P:gr} {O:ia} (hO:g_ P O) {ops:Array Oper} {β0:Env} {w0:gn} {W:List Nat} {n:Fz}
include hO
theorem AOl {Q:Exit→Act→gn→Prop} {s s':St} {ik:List Rec} (i_:D2 P O ops ops.toList 0 s=some (ik,s')) (hchk:RB ik (I' ops.toList []) 0=true) (hedge:UA ops.toList 0=true)
  (hc:AM (I9 ik)) (hfH:∀ b,s.fr≤b→AF s.H b=none) (hn:s.T.length=n.n) (hW:∀ k∈D_ ik,k∈W)
  (hQ:∀ β a w,Inv β0 w0 W n β (Aq s'.T) s'.H a w→(∀ b,s'.fr≤b→β b=none)→Q .normal a w) :
  ∀ (ir:Nat) (listed:Array Bool) (β:Env) (a:Act) (w:gn),listed.size=ops.size→left listed ops.size≤ir →
   Inv β0 w0 W n β (C5 (fun i=>listed.getD i false) 0 (LT ik) (Aq s.T)) (hD (fun i=>listed.getD i false) 0 ik s.H) a w →
   (∀ b,s'.fr≤b→β b=none)→(∀ j r,ik[j]? = some r→listed.getD j false=false→∀ b,r.fr≤b→b<r.fr+r.r.nw→β b=none) →
   (∀ j,listed.getD j false=true→∀ k,((I' ops.toList []).getD j 0).testBit k=true→listed.getD k false=true) →
   wpAny P .any ops Q ir listed a w:=by
 obtain ⟨r1,r2,r3,r4,r5,r6⟩:=pO i_ hfH;have ii:ik.length=ops.size:=by rw [r1];simp
 have done:∀ (listed:Array Bool),listed.size=ops.size→Region.ready .any ops listed=[]→∀ i,i<ops.size→listed.getD i false=true:=by
  intro listed hsz hr i;induction i using Nat.strongRecOn with
  | _ i ih =>
   intro hi;cases hl:listed.getD i false with
   | true=>rfl
   | false =>
    exfalso
    have ho:ops[i]? = some ops[i]:=ue hi
    have hmem:i∈Region.ready .any ops listed:=by
     unfold Region.ready;rw [List.mem_filter];refine ⟨mj.2 hi,?_⟩
     have hl':listed.getD i true=false:=by
      rw [mi] at hl ⊢;rw [ue dn] at hl ⊢;simpa using hl
     rw [ho];simp only [hl',qw,lg,Option.map_some,Option.getD_some];rw [Array.all_eq_true_iff_forall_mem];intro e he;cases hb:Region.binds .any e with
     | false=>rfl
     | true =>
      have:=ADH hedge (j:=i) (o:=ops[i]) (by simp) e (by simpa using he) hb
      rw [ih e.on dn dn];rfl
    rw [hr] at hmem;cases hmem
 have fin:∀ (listed:Array Bool) (β:Env) (a:Act) (w:gn),listed.size=ops.size→Region.ready .any ops listed=[] →
   Inv β0 w0 W n β (C5 (fun i=>listed.getD i false) 0 (LT ik) (Aq s.T)) (hD (fun i=>listed.getD i false) 0 ik s.H) a w→(∀ b,s'.fr≤b→β b=none)→Q .normal a w:=by
  intro listed β a w hsz hr hi hf;have hd:=done listed hsz hr;refine hQ β a w (hi.congr (fun t=>?_) (fun b=>?_)) hf
  ·rw [r3];refine PK (fun j f hj jd=>?_) rfl
   have:j<ops.size:=by
    have:=(ug.1 hj).1
    simp [LT] at this;omega
   rw [kr,hd j this] at jd;exact absurd rfl jd
  ·rw [r4,Q' r2];refine PK (fun j f hj jd=>?_) rfl
   have:j<ops.size:=by
    have:=(ug.1 hj).1
    simp [LH] at this;omega
   rw [kr,hd j this] at jd;exact absurd rfl jd
 intro ir;induction ir with
 | zero =>
  intro listed β a w hsz hleft hi hf _ _;have hr:Region.ready .any ops listed=[]:=by
   apply List.eq_nil_iff_forall_not_mem.2
   intro i hm;unfold Region.ready at hm;rw [List.mem_filter] at hm;have h1:(!listed.getD i true)=true:=(jy.1 hm.2).1
   have:0<left listed ops.size:=List.countP_pos_iff.2 ⟨i,hm.1,h1⟩
   omega
  exact ⟨hr,fin listed β a w hsz hr hi hf⟩
 | succ ir ih =>
  intro listed β a w hsz hleft hi hf hfr hclosed;refine ⟨fun hr=>fin listed β a w hsz hr hi hf,fun i hmem=>?_⟩
  unfold Region.ready at hmem;rw [List.mem_filter] at hmem;obtain ⟨hrange,hready⟩:=hmem;have hilt:=mj.1 hrange;obtain ⟨hnl,hedges⟩:=jy.1 hready;have hnl':listed.getD i false=false:=by
   rw [mi] at hnl ⊢;rw [ue dn] at hnl ⊢;simpa using hnl
  have ho:ops[i]? = some ops[i]:=ue hilt
  rw [ho] at hedges;simp only [Option.map_some,Option.getD_some] at hedges;have hdeps:∀ e∈ops[i].after.toList,Region.binds .any e=true→listed.getD e.on false=true:=by
   intro e he hb;have:=Array.all_eq_true_iff_forall_mem.1 hedges e (by simpa using he)
   rw [hb] at this;simpa using this
  have hbits:∀ k,((I' ops.toList []).getD i 0).testBit k=true→listed.getD k false=true:=by
   intro k hk;obtain ⟨e,h1,h2,h3⟩:=ADG (l:=ops.toList) (acc:=[]) (j:=i) (k:=k) (o:=ops[i]) (by simp) (by simpa using hk)
   have:=hdeps e h1 h2
   rcases h3 with h3 | h3
   ·rw [h3];exact this
   ·exact hclosed e.on this k h3
  have hrec:ik[i]? = some ik[i]:=nh dn
  obtain ⟨o,T,H,ie,q1,q2,q3,q4,q5,q6,q7,q8,q9,q10,q11⟩:=r5 i _ hrec;have ho':o=ops[i]:=by
   rw [rq,ho] at q1;injection q1 with q1;exact q1.symm
  subst ho';rw [kr] at q2;have later:∀ j r,ik[j]? = some r→i<j→listed.getD j false=true→UB ik[i] r=true:=by
   intro j r hj jb hl;refine pT hchk hrec hj jb ?_
   rw [kr];cases hb:((I' ops.toList []).getD j 0).testBit i with
   | false=>rfl
   | true=>rw [hclosed j hl i hb] at hnl';cases hnl'
  have earlier:∀ j r,ik[j]? = some r→j<i→listed.getD j false=false→UB r ik[i]=true:=by
   intro j r hj jb hl;refine pT hchk hj hrec jb ?_
   rw [kr];cases hb:((I' ops.toList []).getD i 0).testBit j with
   | false=>rfl
   | true=>rw [hbits j hb] at hl;cases hl
  have blt:∀ j,Nat.blt j i=true↔j<i:=fun j=>by unfold Nat.blt;exact ⟨jp,jr⟩
  have side:∀ j r,ik[j]? = some r→(fun x=>Nat.blt x i) (0+j)≠(fun i=>listed.getD i false) (0+j)→(∀ t∈ik[i].ts,r.dst≠some t)∧(∀ k∈ik[i].ks,∀ y,(k,y) ∉ r.r.upd):=by
   intro j r hj jd;simp only [kr] at jd;rcases Nat.lt_trichotomy j i with jb | rfl | jb
   ·have hb:=(blt j).2 jb
    rw [hb] at jd;have hl:listed.getD j false=false:=by cases h:listed.getD j false with | false=>rfl | true=>rw [h] at jd;exact absurd rfl jd
    obtain ⟨p1,_,_,p4,_,_⟩:=aV (earlier j r hj jb hl)
    exact ⟨fun t ht hd=>p1 t hd ht,fun k hk y hy=>p4 k y hy hk⟩
   ·have hb:Nat.blt j j=false:=by cases h:Nat.blt j j with | false=>rfl | true=>exact absurd ((blt j).1 h) dn
    rw [hb,hnl'] at jd;exact absurd rfl jd
   ·have hb:Nat.blt j i=false:=by cases h:Nat.blt j i with | false=>rfl | true=>exact absurd ((blt j).1 h) dn
    rw [hb] at jd;have hl:listed.getD j false=true:=by cases h:listed.getD j false with | true=>rfl | false=>rw [h] at jd;exact absurd rfl jd
    obtain ⟨_,p2,_,_,p5,_⟩:=aV (later j r hj jb hl)
    exact ⟨fun t ht hd=>p2 t hd ht,fun k hk y hy=>p5 k y hy hk⟩
  have agT:∀ t∈Ng ops ops[i],Aq T t=C5 (fun i=>listed.getD i false) 0 (LT ik) (Aq s.T) t:=by
   intro t ht;rw [q6];refine PK (fun j f hj jd=>?_) rfl
   simp only [LT,qe,ry] at hj;obtain ⟨r,hr,rfl⟩:=hj;exact pV ((side j r hr jd).1 t (by rw [q4];exact ht))
  have agH:∀ k∈I7 ops[i] (HK (Aq T) (Ng ops ops[i])) (Ng ops ops[i]) H,AF H k=AF (hD (fun i=>listed.getD i false) 0 ik s.H) k:=by
   intro k hk;rw [q7,Q' r2];refine PK (fun j f hj jd=>?_) rfl
   simp only [LH,qe,ry] at hj;obtain ⟨r,hr,rfl⟩:=hj;exact aW fun y=>(side j r hr jd).2 k (by rw [q5,q4];exact hk) y
  rw [AOj agT agH] at q2;have hcr:AM ik[i].r.conds:=by
   have:∀ (L:List Rec) (j:Nat) (r:Rec),AM (I9 L)→L[j]? = some r→AM r.r.conds:=by
    intro L;induction L with
    | nil=>intro j r _ h;simp at h
    | cons q L ihL =>
     intro j r hcL hj;obtain ⟨c1,c2⟩:=Bz.1 hcL;cases j with
     | zero=>simp at hj;subst hj;exact c1
     | succ j=>exact ihL j r c2 (by simpa using hj)
   exact this ik i _ hc hrec
  have keysW:∀ k y,(k,y)∈ik[i].r.upd→k∈W:=by
   intro k y hk;refine hW k ?_
   have:∀ (L:List Rec) (r:Rec),r∈L→k∈MR r.r.upd→k∈D_ L:=by
    intro L;induction L with
    | nil=>intro r h;cases h
    | cons q L ihL =>
     intro r hr hkr;simp only [D_,Ct,j_];rcases ka.1 hr with rfl | hr
     ·exact .inl hkr
     ·exact .inr (ihL r hr hkr)
   exact this ik _ (List.getElem_mem _) (PJ.2 ⟨y,hk⟩)
  have freeH:∀ b,ik[i].fr≤b→b<ik[i].fr+ik[i].r.nw→AF (hD (fun i=>listed.getD i false) 0 ik s.H) b=none:=by
   intro b h1 h2;have e:=q11 b h1;rw [q7] at e;rw [Q' r2,← e];refine PK (fun j f hj jd=>?_) rfl
   simp only [LH,qe,ry] at hj;obtain ⟨r,hr,rfl⟩:=hj;refine aW fun y hy=>?_
   obtain ⟨o2,T2,H2,path2,w1,w2,_,w4,w5,_,_,_,w9,w10,w11⟩:=r5 j r hr;have hu2:=T' w2 (fun b h1 _=>w11 b h1)
   simp only [kr] at jd;rcases Nat.lt_trichotomy j i with jb | rfl | jb
   ·have:=r6 j i r _ hr hrec jb
    rcases (T9 hu2).1 b y hy with hh | ⟨_,hh,_⟩
    ·have hh:=Wq hh;rw [w11 b dn] at hh;cases hh
    ·omega
   ·have hb:Nat.blt j j=false:=by cases h:Nat.blt j j with | false=>rfl | true=>exact absurd ((blt j).1 h) dn
    rw [hb,hnl'] at jd;exact absurd rfl jd
   ·have hb:Nat.blt j i=false:=by cases h:Nat.blt j i with | false=>rfl | true=>exact absurd ((blt j).1 h) dn
    rw [hb] at jd;have hl:listed.getD j false=true:=by cases h:listed.getD j false with | true=>rfl | false=>rw [h] at jd;exact absurd rfl jd
    have hind:=later j r hr jb hl;have h6:=r6 i j _ r hrec hr jb;rcases AOk w2 b y hy with hh | ⟨hh,_⟩
    ·rw [← w4,← w5] at hh;exact ADJ (jy.1 hind).1 b hh h1 h2
    ·omega
  refine aO hO hi.tmp hi.good q2 hcr (hfr i _ hrec hnl') freeH ho fun u w' β' hE hG=>?_
  have hset:∀ j,(listed.setIfInBounds i true).getD j false=if j=i then true else listed.getD j false:=by
   intro j;rw [mi,mi];by_cases hji:j=i
   ·subst hji;rw [vr dn];simp
   ·rw [tp (Ne.symm hji),jn hji]
  have hst:=hi.step hE hG keysW (d:=ops[i].dst) (fun t ht=>by rw [← hn];exact q8 t ht)
  refine ih _ β' _ w' (by simpa using hsz) ?_ (hst.congr (fun t=>?_) (fun b=>?_)) ?_ ?_ ?_
  ·have jb:left (listed.setIfInBounds i true) ops.size<left listed ops.size:=by
    refine ADM _ _ _ i hrange hnl ?_ ?_
    ·rw [mi,vr dn];rfl
    ·intro j _ hj;by_cases hji:j=i
     ·subst hji;exact hnl
     ·rw [mi,tp (Ne.symm hji),← mi] at hj;exact hj
   omega
  ·rw [ADF];have hf:(LT ik)[i]? = some (PM ops[i].dst ik[i].r.val):=by simp [LT,hrec,q3]
   refine (pL hf (by rw [kr];exact hnl') (by rw [kr,hset,jo rfl]) (fun j hj=>by rw [kr,hset,jn hj]) ?_).symm
   intro j g hg jb hl;simp only [LT,qe,ry] at hg;obtain ⟨r,hr,rfl⟩:=hg;rw [kr] at hl;obtain ⟨_,_,p3,_⟩:=aV (later j r hr jb hl)
   by_cases hd:ops[i].dst=some t
   ·exact .inl (pV (p3 t (by rw [q3];exact hd)))
   ·exact .inr (pV hd)
  ·rw [pM (r2 _ (List.getElem_mem _)),Q' r2];have hf:(LH ik)[i]? = some (I_ ik[i].r.upd):=by simp [LH,hrec]
   have hfun:AF (hD (fun i=>listed.getD i false) 0 ik s.H)=C5 (fun i=>listed.getD i false) 0 (LH ik) (AF s.H):=funext (Q' r2)
   rw [hfun];refine (pL hf (by rw [kr];exact hnl') (by rw [kr,hset,jo rfl]) (fun j hj=>by rw [kr,hset,jn hj]) ?_).symm
   intro j g hg jb hl;simp only [LH,qe,ry] at hg;obtain ⟨r,hr,rfl⟩:=hg;rw [kr] at hl;obtain ⟨_,_,_,_,_,p6⟩:=aV (later j r hr jb hl)
   by_cases hk:∃ y,(b,y)∈ik[i].r.upd
   ·obtain ⟨y,hy⟩:=hk;exact .inl (aW fun y' hy'=>p6 b y y' hy hy')
   ·exact .inr (aW fun y hy=>hk ⟨y,hy⟩)
  ·intro b hb;cases hβ:β' b with
   | none=>rfl
   | some X =>
    rcases hE.new b X hβ with h | ⟨_,h,_⟩
    ·rw [hf b hb] at h;cases h
    ·omega
  ·intro j r hj hl b h1 h2;rw [hset] at hl;by_cases hji:j=i
   ·rw [jo hji] at hl;cases hl
   ·rw [jn hji] at hl;cases hβ:β' b with
    | none=>rfl
    | some X =>
     rcases hE.new b X hβ with h | ⟨h3,h4,_⟩
     ·rw [hfr j r hj hl b h1 h2] at h;cases h
     ·rcases kf j i with jb | hge
      ·have:=r6 j i r _ hj hrec jb;omega
      ·have:=r6 i j _ r hrec hj dn;omega
  ·intro j hj k hk;rw [hset] at hj ⊢;by_cases hki:k=i
   ·rw [jo hki]
   ·rw [jn hki];by_cases hji:j=i
    ·subst hji;exact hbits k hk
    ·rw [jn hji] at hj;exact hclosed j hj k hk
end
structure h_ where
 todo:List Item
 s:St
structure Log where
 conds:du
 keys:List Nat
def aZ (P:gr) (O:ia) (ops:Array Oper) (draw:Bool) (s:St):Option (Log×St) :=
 match D2 P O ops ops.toList 0 s with
 | some (ik,s')=>match draw with
  | false=>some (⟨I9 ik,D_ ik⟩,s')
  | true=>match RB ik (I' ops.toList []) 0,UA ops.toList 0 with
   | true,true=>some (⟨I9 ik,D_ ik⟩,s')
   | _,_=>none
 | none=>none
def Ni (P:gr) (O:ia) (x:h_):Option (Log×h_) :=
 match x.todo with
 | .code .skip::k=>some (⟨[],[]⟩,⟨k,x.s⟩)
 | .code (.label _)::k=>some (⟨[],[]⟩,⟨k,x.s⟩)
 | .inBlock _::k=>some (⟨[],[]⟩,⟨k,x.s⟩)
 | .inScope _::k=>some (⟨[],[]⟩,⟨k,x.s⟩)
 | .code (.seq a b)::k=>some (⟨[],[]⟩,⟨.code a::.code b::k,x.s⟩)
 | .code (.cond c a b)::k=>match B5 (Aq x.s.T) c with
  | some (.val false [.b true])=>some (⟨[],[]⟩,⟨.code a::k,x.s⟩)
  | some (.val false [.b false])=>some (⟨[],[]⟩,⟨.code b::k,x.s⟩)
  | some (.val false [.v (.bool z)])=>match x.s.ie with
   | true::ij=>some (⟨[(z,true)],[]⟩,⟨.code a::k,{ x.s with ie:=ij }⟩)
   | false::ij=>some (⟨[(z,false)],[]⟩,⟨.code b::k,{ x.s with ie:=ij }⟩)
   | []=>none
  | _=>none
 | .code (.block id c)::k=>some (⟨[],[]⟩,⟨.code c::.inBlock id::k,x.s⟩)
 | .code (.loop c)::k=>some (⟨[],[]⟩,⟨.code c::.inLoop c::k,x.s⟩)
 | .inLoop c::k=>some (⟨[],[]⟩,⟨.code c::.inLoop c::k,x.s⟩)
 | .code (.scope c)::k=>some (⟨[],[]⟩,⟨.code c::.inScope c::k,x.s⟩)
 | .code (.exit id)::k=>match exitTo id k with
  | some k'=>some (⟨[],[]⟩,⟨k',x.s⟩)
  | none=>none
 | .code (.goto l)::k=>match gotoIn l k with
  | some k'=>some (⟨[],[]⟩,⟨k',x.s⟩)
  | none=>none
 | .code (.region _ ops draw)::k=>match aZ P O ops draw x.s with
  | some (g,s')=>some (g,⟨k,s'⟩)
  | none=>none
 | _=>none
def Safe (P:gr) (f:gp) (R:Ending→gn→Prop) (todo:List Item) (a:Act) (w:gn):Prop :=
 ∀ (b:Frame) (cs:List Frame),b.fn=f→b.kind=.normal→∃ e w' fr,R e w'∧Comes P (lone (b.at a todo) cs w) (lone fr cs w') e∧fr.fn=f∧fr.leaving P w' e
section
variable {P:gr} {f:gp} {R:Ending→gn→Prop} {a:Act} {w:gn} {k:List Item}
theorem Safe.of_step {todo todo':List Item} (h:∀ (b:Frame) (cs:List Frame),step P (lone (b.at a todo) cs w)=.next (lone (b.at a todo') cs w)) (hs:Safe P f R todo' a w):Safe P f R todo a w:=by
 intro b cs hb hk;obtain ⟨e,w',fr,h1,h2,h3,h4⟩:=hs b cs hb hk;exact ⟨e,w',fr,h1,.of_steps (.one (h b cs)) h2,h3,h4⟩
theorem Safe.of_wp {c:Code} {k:List Item} (h:c.wp P (fun e a' w'=>e=.normal∧Safe P f R k a' w') a w):Safe P f R (.code c::k) a w:=by
 intro b cs hb hk;obtain ⟨e,a',w',⟨he,hs⟩,harr⟩:=h b k cs;subst he;obtain ⟨e,w'',fr,h1,h2,h3,h4⟩:=hs b cs hb hk;exact ⟨e,w'',fr,h1,.of_steps harr h2,h3,h4⟩
theorem AOm {b:Frame} {cs:List Frame} {c:Code}:step P (lone (b.at a (.code (.scope c)::k)) cs w)=.next (lone (b.at a (.code c::.inScope c::k)) cs w) :=
 step_lone_go (by simp [stepG,stepG.exec,Frame.at])
theorem AOn {b:Frame} {cs:List Frame} {c:Code}:step P (lone (b.at a (.inScope c::k)) cs w)=.next (lone (b.at a k) cs w) :=
 step_lone_go (by simp [stepG,stepG.exec,Frame.at])
theorem Safe.done {fn:Func} {v:gq} {todo:List Item} (jc:P.funcs[f]? = some fn) (hd:a.defers=[]) (hr:(results fn a.tmps).run P w=.ok v w) (hR:R (.returned v) w)
  (ht:(∃ k,todo=.code .ret::k)∨todo=[]):Safe P f R todo a w:=by
 intro b cs hb hk;rcases ht with ⟨k,rfl⟩ | rfl
 ·exact ⟨.returned v,w,{ b.at a (.code .ret::k) with mode:=.returning },hR,Steps.one step_ret,hb,rfl,hd,hk,fn,by show P.funcs[b.fn]? = some fn;rw [hb];exact jc,hr⟩
 ·exact ⟨.returned v,w,{ b.at a [] with mode:=.returning },hR,Steps.one step_end,hb,rfl,hd,hk,fn,by show P.funcs[b.fn]? = some fn;rw [hb];exact jc,hr⟩
end
def gz (P:gr) (f:gp) (β0:Env) (w0:gn) (R:Ending→gn→Prop) (n:Fz) (W:List Nat) (x:h_):Prop :=
 ∀ (β:Env) (a:Act) (w:gn),Inv β0 w0 W n β (Aq x.s.T) x.s.H a w→(∀ b,x.s.fr≤b→β b=none)→Safe P f R x.todo a w
def BW (n:Fz) (s:St):Prop:=(∀ b,s.fr≤b→AF s.H b=none)∧s.T.length=n.n
theorem Inv.mono {β0:Env} {w0:gn} {W W':List Nat} {n:Fz} {β:Env} {τ:Nat→AV} {H:Heap} {a:Act} {w:gn} (i:Inv β0 w0 W n β τ H a w) (h:∀ k∈W,k∈W'):Inv β0 w0 W' n β τ H a w :=
 { i with
  new:=fun b X hb=>(i.new b X hb).imp id fun q B m e=>(q B m e).imp id fun ⟨k,m',h1,h2⟩=>⟨k,m',h k h1,h2⟩
  frame:=fun B hB ji=>i.frame B hB fun k m hk=>ji k m (h k hk) }
section
variable {P:gr} {O:ia} (hO:g_ P O) (hm:P.follows .mixedOrders=true) {f:gp} {β0:Env} {w0:gn} {R:Ending→gn→Prop} {n:Fz} {W:List Nat}
include hO hm
theorem AOo {id:Nat} {ops:Array Oper} {draw:Bool} {s s':St} {g:Log} {k:List Item} (h:aZ P O ops draw s=some (g,s')) (hc:AM g.conds) (jj:BW n s)
  (hs:gz P f β0 w0 R n (W++g.keys) ⟨k,s'⟩):gz P f β0 w0 R n W ⟨.code (.region id ops draw)::k,s⟩:=by
 intro β a w hi hf;obtain ⟨hfH,hn⟩:=jj;have hi':=hi.mono (W':=W++g.keys) (fun k hk=>j_.2 (.inl hk))
 unfold aZ at h;split at h
 ·rename_i ik s1 i_;split at h
  ·injection h with h;injection h with h1 h2;subst h1;subst h2;refine Safe.of_wp (wp_region ?_)
   have:=ADE hO (Q:=fun e a' w'=>e=.normal∧Safe P f R k a' w') ops.toList 0 s s1 ik β a w (by simp) i_ hc hi' hf hfH hn (fun k hk=>j_.2 (.inr hk)) (fun β a w hi hf=>⟨rfl,hs β a w hi hf⟩)
   rw [uc];simpa using this
  ·split at h
   ·rename_i hchk hedge;injection h with h;injection h with h1 h2;subst h1;subst h2;refine Safe.of_wp (wp_region_any hm ?_)
    obtain ⟨r1,r2,r3,r4,r5,r6⟩:=pO i_ hfH;have hlist:∀ j,(Array.replicate ops.size false).getD j false=false:=by
     intro j;rw [mi,Array.getElem?_replicate];split<;>rfl
    have e2:∀ {X:Type} (L:List (Nat→Option X)) (i:Nat) (s:Nat→X),C5 (fun i=>(Array.replicate ops.size false).getD i false) i L s=s:=by
     intro X L;induction L with
     | nil=>intro i s;rfl
     | cons f L ih=>intro i s;rw [C5,hlist];exact ih _ _
    refine AOl hO (Q:=fun e a' w'=>e=.normal∧Safe P f R k a' w') i_ hchk hedge hc hfH hn (fun k hk=>j_.2 (.inr hk)) (fun β a w hi hf=>⟨rfl,hs β a w hi hf⟩) _ _ β a _ (by simp) ?_ ?_ ?_ ?_ ?_
    ·refine mw List.countP_le_length ?_
     simp
    ·refine (hi'.drew).congr (fun t=>by rw [e2]) (fun b=>by rw [Q' r2,e2])
    ·intro b hb;have:s.fr≤s1.fr:=(aT i_ hfH).2.1
     exact hf b (mw this hb)
    ·intro j r hj _ b h1 h2;obtain ⟨_,_,_,_,_,_,_,_,_,_,_,_,q9,_⟩:=r5 j r hj;exact hf b (mw q9 h1)
    ·intro j hj;rw [hlist] at hj;cases hj
   ·cases h
 ·cases h
theorem XB {x y:h_} {g:Log} (h:Ni P O x=some (g,y)) (hc:AM g.conds) (jj:BW n x.s) (hs:gz P f β0 w0 R n (W++g.keys) y):gz P f β0 w0 R n W x:=by
 obtain ⟨todo,s⟩:=x;unfold Ni at h;simp only at h
 have pl:∀ {k':List Item},(⟨[],[]⟩,⟨k',s⟩)=(g,y)→(∀ (a:Act) (w:gn) (b:Frame) (cs:List Frame),step P (lone (b.at a todo) cs w)=.next (lone (b.at a k') cs w))→gz P f β0 w0 R n W ⟨todo,s⟩:=by
  intro k' he hst β a w hi hf;injection he with h1 h2;subst h1;subst h2;exact Safe.of_step (hst a w) (hs β a w (by simpa using hi) hf)
 split at h
 all_goals first | (cases h;done) | skip
 ·injection h with h;exact pl h (fun _ _ _ _=>step_skip)
 ·injection h with h;exact pl h (fun _ _ _ _=>step_label)
 ·injection h with h;exact pl h (fun _ _ _ _=>step_inBlock)
 ·injection h with h;exact pl h (fun _ _ _ _=>AOn)
 ·injection h with h;exact pl h (fun _ _ _ _=>step_seq)
 ·rename_i c ca cb k;have cond:∀ (z:Bool) (path':List Bool) (cc:du),(⟨cc,[]⟩,⟨.code (if z then ca else cb)::k,{ s with ie:=path' }⟩)=(g,y)→(AM cc→∀ (β:Env) (a:Act),(∀ t,AO β (Aq s.T t) (a.tmps.getD t undef))→a.eval c=.bool z)→gz P f β0 w0 R n W ⟨.code (.cond c ca cb)::k,s⟩:=by
   intro z path' cc he hev β a w hi hf;injection he with h1 h2;subst h1;subst h2;refine Safe.of_step (fun b cs=>step_cond (hev hc β a hi.tmp)) (hs β a w (by simpa using hi) hf)
  split at h
  ·rename_i hev;injection h with h;refine cond true s.ie [] (by simpa using h) fun _ β a ht=>?_
   have:=A5 (I5 ht hev)
   simpa [BM] using this
  ·rename_i hev;injection h with h;refine cond false s.ie [] (by simpa using h) fun _ β a ht=>?_
   have:=A5 (I5 ht hev)
   simpa [BM] using this
  ·rename_i z hev;split at h
   ·rename_i ij hp;injection h with h;refine cond true ij [(z,true)] (by simpa using h) fun hz β a ht=>?_
    have:=(A5 (I5 ht hev)).1
    injection this with this _;rw [this,hz.1]
   ·rename_i ij hp;injection h with h;refine cond false ij [(z,false)] (by simpa using h) fun hz β a ht=>?_
    have:=(A5 (I5 ht hev)).1
    injection this with this _;rw [this,hz.1]
   ·cases h
  ·cases h
 ·injection h with h;exact pl h (fun _ _ _ _=>step_block)
 ·injection h with h;exact pl h (fun _ _ _ _=>step_loop)
 ·injection h with h;exact pl h (fun _ _ _ _=>step_inLoop)
 ·injection h with h;exact pl h (fun _ _ _ _=>AOm)
 ·split at h
  ·rename_i k' he;injection h with h;exact pl h (fun _ _ _ _=>step_exit he)
  ·cases h
 ·split at h
  ·rename_i k' he;injection h with h;exact pl h (fun _ _ _ _=>step_goto he)
  ·cases h
 ·split at h
  ·rename_i g' s' hr;injection h with h;injection h with h1 h2;subst h1;subst h2;exact AOo hO hm hr hc jj hs
  ·cases h
omit hO hm in
theorem XC {x y:h_} {g:Log} (h:Ni P O x=some (g,y)) (jj:BW n x.s):BW n y.s:=by
 obtain ⟨todo,s⟩:=x;unfold Ni at h;simp only at h jj
 have pl:∀ {k':List Item} {c:Log},(c,(⟨k',s⟩:h_))=(g,y)→BW n y.s:=by
  intro k' c he;injection he with h1 h2;subst h2;exact jj
 split at h
 all_goals first | (cases h;done) | skip
 all_goals first | (injection h with h;exact pl h) | skip
 ·split at h
  ·injection h with h;exact pl h
  ·injection h with h;exact pl h
  ·split at h
   ·injection h with h;injection h with h1 h2;subst h2;exact jj
   ·injection h with h;injection h with h1 h2;subst h2;exact jj
   ·cases h
  ·cases h
 ·split at h
  ·injection h with h;exact pl h
  ·cases h
 ·split at h
  ·injection h with h;exact pl h
  ·cases h
 ·split at h
  ·rename_i g' s' hr;injection h with h;injection h with h1 h2;subst h2;unfold aZ at hr;split at hr
   ·rename_i ik s1 i_;have:=aT i_ jj.1
    have hw:BW n s1:=⟨this.1,by rw [this.2.2];exact jj.2⟩
    split at hr
    ·injection hr with hr;injection hr with _ hr;subst hr;exact hw
    ·split at hr
     ·injection hr with hr;injection hr with _ hr;subst hr;exact hw
     ·cases hr
   ·cases hr
  ·cases h
end
def AOp (stop:Option Nat) (before:List Item) (after:List Item):Bool :=
 match stop,before with
 | some d,.inLoop _::_=>match d with | 0=>true | d+1=>Nat.beq after.length (d+1)
 | some d,.code (.loop _)::_=>match d with | 0=>true | d+1=>Nat.beq after.length (d+1)
 | _,_=>false
def K9:List Item→Bool
 | []=>true
 | .code .ret::_=>true
 | _=>false
def K_ (P:gr) (O:ia) (stop:Option Nat):Nat→h_→Option (Log×h_)
 | 0,_=>none
 | n+1,x=>match K9 x.todo with
  | true=>some (⟨[],[]⟩,x)
  | false=>match Ni P O x with
   | some (g,y)=>match AOp stop x.todo y.todo with
    | true=>some (g,y)
    | false=>match K_ P O stop n y with
     | some (g',z)=>some (⟨g.conds++g'.conds,cat g.keys g'.keys⟩,z)
     | none=>none
   | none=>none
section
variable {P:gr} {O:ia} (hO:g_ P O) (hm:P.follows .mixedOrders=true) {f:gp} {β0:Env} {w0:gn} {R:Ending→gn→Prop} {n:Fz}
include hO hm
theorem XD {stop:Option Nat}:∀ {m:Nat} {W:List Nat} {x y:h_} {g:Log},K_ P O stop m x=some (g,y)→AM g.conds→BW n x.s→(BW n y.s→gz P f β0 w0 R n (W++g.keys) y)→gz P f β0 w0 R n W x
 | 0,_,_,_,_,h,_,_,_=>by simp [K_] at h
 | m+1,W,x,y,g,h,hc,jj,hs=>by
  simp only [K_] at h;split at h
  ·injection h with h;injection h with h1 h2;subst h1;subst h2;have:=hs jj
   simpa using this
  ·split at h
   ·rename_i g1 y1 hst;split at h
    ·injection h with h;injection h with h1 h2;subst h1;subst h2;exact XB hO hm hst hc jj (hs (XC hst jj))
    ·split at h
     ·rename_i g2 z hr;injection h with h;injection h with h1 h2;subst h1;subst h2;obtain ⟨c1,c2⟩:=Bz.1 hc;refine XB hO hm hst c1 jj (XD hr c2 (XC hst jj) fun hw=>?_)
      have:=hs hw
      simpa [Ct] using this
     ·cases h
   ·cases h
end
def pZ (P:gr) (T:List AV) (H:Heap):ResultVar→Option (Bool×List Ch)
 | .tmp t=>match Aq T t with
  | .val g cs=>some (g,cs)
  | _=>none
 | .cell a t=>match Aq T a with
  | .val false [.p bk ic]=>match MJ H bk with
   | some blk=>match T3 P t blk.cs ic [] with
    | some r=>match r.conds,r.val with
     | [],.val g cs=>some (g,cs)
     | _,_=>none
    | none=>none
   | none=>none
  | _=>none
def PP (P:gr) (T:List AV) (H:Heap):List ResultVar→Option (List (Bool×List Ch))
 | []=>some []
 | x::r=>match pZ P T H x,PP P T H r with
  | some a,some l=>some (a::l)
  | _,_=>none
def UC (l:List (Bool×List Ch)):AV:=match l with
 | [(g,cs)]=>.val g cs
 | l=>.tup l
theorem AOq {P:gr} {β:Env} {T:List AV} {H:Heap} {tmps:Array gq} {w:gn} (ht:∀ t,AO β (Aq T t) (tmps.getD t undef)) (g:Good β H w) {x:ResultVar} {a:Bool×List Ch} (h:pZ P T H x=some a) :
  ∃ u,((match x with | .tmp t=>pure (tmps.getD t undef) | .cell a t=>do loadVar t (← asAddr (tmps.getD a undef)):Sem gq)).run P w=.ok u w∧Bt β a.1 a.2 u:=by
 unfold pZ at h;split at h
 ·rename_i t;split at h
  ·rename_i gg cs hT;injection h with h;subst h;have:=ht t
   rw [hT] at this;exact ⟨_,rfl,this⟩
  ·cases h
 ·rename_i ad t;split at h
  ·rename_i bk ic hT;split at h
   ·rename_i blk hb;split at h
    ·rename_i r hl;split at h
     ·rename_i gg cs hcv hvv;injection h with h;subst h;have:=ht ad
      rw [hT] at this;obtain ⟨B',n',e4,e5⟩:=A5 this;injection e5 with e5 _;rcases g.cells hb with ⟨B,n,l,t',pre,ty',fz,e1,e2,e3,e0,_⟩ | ⟨X,e1,e2,_⟩
      ·rw [e1] at e4;injection e4 with e4;injection e4 with e4 e4';subst e4;subst e4';obtain ⟨v,hv,he⟩:=Z4 g e2 e3 hl (by rw [hcv];trivial) 0
       rw [e0] at hv;refine ⟨v,?_,?_⟩
       ·simp only [e5,asAddr,Sem.run_bind,Sem.run_pure,Result.andThen_ok,hv]
       ·have:=he.val
        rw [hvv] at this;exact this
      ·rw [e1] at e4;injection e4 with e4;subst e4;exact e2.elim
     ·cases h
    ·cases h
   ·cases h
  ·cases h
theorem a7 {P:gr} {β:Env} {T:List AV} {H:Heap} {fn:Func} {tmps:Array gq} {w:gn} (ht:∀ t,AO β (Aq T t) (tmps.getD t undef)) (g:Good β H w) {l:List (Bool×List Ch)} (h:PP P T H fn.results.toList=some l) :
  ∃ v,(results fn tmps).run P w=.ok v w∧AO β (UC l) v:=by
 have key:∀ (rs:List ResultVar) (l:List (Bool×List Ch)),PP P T H rs=some l →
   ∃ us,(rs.mapM (m:=Sem) fun | .tmp t=>pure (tmps.getD t undef) | .cell a t=>do loadVar t (← asAddr (tmps.getD a undef))).run P w=.ok us w∧F_ β l us:=by
  intro rs;induction rs with
  | nil=>intro l h;simp only [PP,ke] at h;subst h;exact ⟨[],by simp,rfl⟩
  | cons x rs ih =>
   intro l h;simp only [PP] at h;split at h
   ·rename_i a l' h1 h2;injection h with h;subst h;obtain ⟨u,hu,hr⟩:=AOq ht g h1;obtain ⟨us,hus,hrs⟩:=ih l' h2;refine ⟨u::us,?_,u,us,hr,hrs,rfl⟩
    rw [List.mapM_cons,Sem.run_bind,hu];simp only [Result.andThen_ok,Sem.run_bind,hus,Sem.run_pure]
   ·cases h
 obtain ⟨us,hus,hrel⟩:=key _ _ h;unfold results;rw [Array.mapM_eq_mapM_toList,Sem.run_bind,Sem.run_map];refine ⟨if h:us.toArray.size=1 then us.toArray[0] else .tuple us.toArray,?_,?_⟩
 ·have e:∀ (x:Sem (List gq)),x.run P w=.ok us w→((x.run P w).andThen fun a w'=>Result.ok a.toArray w').andThen (fun vs w'=>Result.ok (if h:vs.size=1 then vs[0] else Value.tuple vs) w')=.ok (if h:us.toArray.size=1 then us.toArray[0] else .tuple us.toArray) w:=by
   intro x hx;rw [hx];rfl
  exact e _ hus
 unfold UC;split
 ·rename_i gg cs;obtain ⟨u,l',h1,h2,h3⟩:=hrel;simp only [F_] at h2;subst h2;subst h3;show AO β (.val gg cs) u;exact h1
 ·rename_i ji;have ii:us.length=l.length:=by
   have:∀ (l:List (Bool×List Ch)) (us:List gq),F_ β l us→us.length=l.length:=by
    intro l;induction l with
    | nil=>intro us h;simp only [F_] at h;simp [h]
    | cons x l ih=>intro us ⟨u,l',h1,h2,h3⟩;simp [h3,ih _ h2]
   exact this _ _ hrel
  rw [dif_neg (by
   intro h1;have:l.length=1:=by rw [← ii];simpa using h1
   obtain ⟨⟨gg,cs⟩,rfl⟩:=tm.1 this;exact ji gg cs rfl)]
  exact ⟨us,hrel,rfl⟩
end Go.Proofs.YtgnajdcdcblaoaaGreat.Ex
namespace Go.Proofs.YtgnajdcdcblaoaaGreat
abbrev dw:=List (FuncId×Ex.ASpec)
abbrev fw (f:Func):Prop:=(f.name=="runtime.NumGoroutine")=false
end Go.Proofs.YtgnajdcdcblaoaaGreat
namespace Go.Proofs.YtgnajdcdcblaoaaGreat.Ex
open Go.RowKit (Below)
def UD:Nat→List AV
 | 0=>[]
 | n+1=>.tup []::UD n
def a8:List AV→List AV→List AV
 | [],l=>l
 | x::r,l=>x::a8 r l
theorem UE:∀ (a b:List AV),a8 a b=a++b
 | [],_=>rfl
 | x::r,b=>by simp [a8,UE r b]
theorem XE:∀ n,(UD n).length=n
 | 0=>rfl
 | n+1=>by simp [UD,XE n]
def Fs:List AV→Nat
 | []=>0
 | _::r=>Fs r+1
theorem JA:∀ l:List AV,Fs l=l.length
 | []=>rfl
 | _::r=>by simp [Fs,JA r]
def GV (args:List AV) (n:Nat):List AV:=a8 args (UD (n-Fs args))
theorem p8 {β:Env}:∀ {xs:List AV} {us:List gq},BL β xs us→us.length=xs.length
 | [],us,h=>by simp only [BL] at h;simp [h]
 | x::xs,us,⟨u,us',_,h2,h3⟩=>by simp [h3,p8 h2]
theorem p9 {β:Env}:∀ {xs:List AV} {us:List gq} (m:Nat),BL β xs us→∀ t,AO β (Aq (xs++UD m) t) ((us++List.replicate m undef).getD t undef)
 | [],us,0,h,t=>by simp only [BL] at h;subst h;exact trivial
 | [],us,m+1,h,0=>by
  simp only [BL] at h;subst h;exact ⟨[],rfl,rfl⟩
 | [],us,m+1,h,t+1=>by
  simp only [BL] at h;subst h;have:=p9 (β:=β) (xs:=[]) (us:=[]) m rfl t
  simpa [UD,Aq,List.replicate_succ] using this
 | x::xs,us,m,⟨u,us',h1,h2,h3⟩,0=>by subst h3;exact h1
 | x::xs,us,m,⟨u,us',h1,h2,h3⟩,t+1=>by
  subst h3;have:=p9 m h2 t
  simpa [Aq] using this
structure Out (β0:Env) (w0:gn) (W:List Nat) (val:AV) (H:Heap) (u:gq) (w:gn) (β:Env):Prop where
 val:AO β val u
 good:Good β H w
 new:∀ b X,β b=some X→β0 b=some X∨∀ B m,X=.at_ B m→w0.heap.size≤B∨∃ k m',k∈W∧β0 k=some (.at_ B m')
 ext:Env.le β0 β
 frame:∀ B,B<w0.heap.size→(∀ k m,k∈W→β0 k≠some (.at_ B m))→w.heap[B]? = w0.heap[B]?
 size:w0.heap.size≤w.heap.size
 os:w.os=w0.os
 tape:w.tape=w0.tape
 output:w.output=w0.output
def BA (β0:Env) (w0:gn) (W:List Nat) (val:AV) (H:Heap):Ending→gn→Prop:=fun e w=>∃ u β,e=.returned u∧Out β0 w0 W val H u w β
section
variable {P:gr} {O:ia} (hO:g_ P O) (hm:P.follows .mixedOrders=true) {f:gp} {fn:Func} {c:Code}
theorem XF {R:Ending→gn→Prop} (jc:P.funcs[f]? = some fn) (hb:fn.body=some c) {args:List AV} {H:Heap} {fr:Nat} {ie:List Bool} {β:Env} {us:List gq} {w:gn} (ii:args.length≤fn.ntmps)
  (h:gz P f β w R fn.ntmps [] ⟨[.code c],⟨GV args fn.ntmps,H,fr,ie⟩⟩) (ha:BL β args us) (hg:Good β H w) (hf:∀ b,fr≤b→β b=none):Calls P f ⟨us⟩ w R:=by
 have hul:=p8 ha;have hs:=h β { tmps:=(⟨us⟩:Array gq)++Array.replicate (fn.ntmps-us.length) undef,defers:=[] } w ?_ hf
 ·intro cs
  let b:Frame:={ (default:Frame) with fn:=f,kind:=.normal }
  have henter:Frame.enter P f ⟨us⟩ .normal=b.at { tmps:=(⟨us⟩:Array gq)++Array.replicate (fn.ntmps-us.length) undef,defers:=[] } [.code c]:=by
   simp [Frame.enter,Frame.at,jc,hb,b]
  rw [henter];exact hs b cs rfl rfl
 ·have hT:∀ t,AO β (Aq (GV args fn.ntmps) t) (((⟨us⟩:Array gq)++Array.replicate (fn.ntmps-us.length) undef).getD t undef):=by
   intro t;have:=p9 (fn.ntmps-us.length) ha t
   have e:((⟨us⟩:Array gq)++Array.replicate (fn.ntmps-us.length) undef).getD t undef=(us++List.replicate (fn.ntmps-us.length) undef).getD t undef:=by
    rw [mi,kq,← rq];simp
   rw [e,GV,UE,JA,← hul];exact this
  exact ⟨hT,hg,by simp;omega,rfl,fun b X hb=>.inl hb,Env.le_refl _,fun _ _ _=>rfl,ju _,rfl,rfl,rfl⟩
theorem qB {β0:Env} {w0:gn} {n:Fz} {W:List Nat} {y:h_} {l:List (Bool×List Ch)} (hD:n.D=[]) (jc:P.funcs[f]? = some fn) (hend:K9 y.todo=true) (hres:PP P y.s.T y.s.H fn.results.toList=some l) :
  gz P f β0 w0 (BA β0 w0 W (UC l) y.s.H) n W y:=by
 intro β a w hi _;obtain ⟨v,hv,hr⟩:=a7 hi.tmp hi.good hres;refine Safe.done jc (hi.dfr.trans hD) hv ⟨v,β,rfl,hr,hi.good,hi.new,hi.ext,hi.frame,hi.size,hi.os,hi.tape,hi.output⟩ ?_
 unfold K9 at hend;split at hend
 ·rename_i h;exact .inr h
 ·rename_i k h;exact .inl ⟨k,h⟩
 ·cases hend
def Nj:AV→Bool
 | .val _ cs=>HJ (EG cs)
 | .tup xs=>HJ (K7 xs)
 | .any=>false
def a9:List AV→Bool
 | []=>true
 | x::r=>Nj x&&a9 r
theorem AOr {β β':Env}:∀ {caps:List (Nat×Nat)} {l:List gq},caps.map (·.1)=[]→F9 β caps l→F9 β' caps l
 | [],_,_,h=>h
 | _::_,_,h,_=>by simp at h
theorem AOs {β β':Env} {c:Ch} {l:List gq} (hk:NX c=[]) (h:BM β c l):BM β' c l:=by
 cases c<;>simp only [NX] at hk<;>simp only [BM] at h ⊢
 case n=>exact h
 case b=>exact h
 case v=>exact h
 case p=>cases hk
 case sl=>cases hk
 case sx=>cases hk
 case num=>exact h
 case seq=>exact h
 case clo=>obtain ⟨ps,h1,h2⟩:=h;exact ⟨ps,AOr hk h1,h2⟩
 case mth=>cases hk
 case yl=>cases hk
 case mp=>cases hk
 case mk=>exact h
theorem qC {β β':Env}:∀ {cs:List Ch} {l:List gq},EG cs=[]→AP β cs l→AP β' cs l
 | [],_,_,h=>h
 | c::cs,l,hk,⟨l1,l2,h1,h2,h3⟩=>by
  simp only [EG,Ct,List.append_eq_nil_iff] at hk;exact ⟨l1,l2,AOs hk.1 h1,qC hk.2 h2,h3⟩
theorem ADN {β β':Env} {g:Bool} {cs:List Ch} {u:gq} (hk:EG cs=[]) (h:Bt β g cs u):Bt β' g cs u:=by
 cases g
 ·exact qC hk h
 ·obtain ⟨l,h1,h2⟩:=h;exact ⟨l,qC hk h1,h2⟩
theorem ADO {β β':Env}:∀ {xs:List (Bool×List Ch)} {l:List gq},K7 xs=[]→F_ β xs l→F_ β' xs l
 | [],_,_,h=>h
 | (g,cs)::xs,l,hk,⟨u,l',h1,h2,h3⟩=>by
  simp only [K7,Ct,List.append_eq_nil_iff] at hk;exact ⟨u,l',ADN hk.1 h1,ADO hk.2 h2,h3⟩
theorem MT {β β':Env} {x:AV} {u:gq} (hk:Nj x=true) (h:AO β x u):AO β' x u:=by
 cases x with
 | val g cs=>exact ADN (Z7 hk) h
 | tup xs=>obtain ⟨us,h1,h2⟩:=h;exact ⟨us,ADO (Z7 hk) h1,h2⟩
 | any=>cases hk
theorem qF {β β':Env}:∀ {xs:List AV} {us:List gq},a9 xs=true→BL β xs us→BL β' xs us
 | [],_,_,h=>h
 | x::xs,us,hk,⟨u,us',h1,h2,h3⟩=>by
  have hk':=jy.1 hk;exact ⟨u,us',MT hk'.1 h1,qF hk'.2 h2,h3⟩
def CB:Env:=fun _=>none
def AT (P:gr) (f:gp) (args:List AV) (v:AV):Prop :=
 ∀ (us:List gq) (w:gn),BL CB args us→Calls P f ⟨us⟩ w fun e w'=>∃ u,e=.returned u∧AO CB v u∧Below w.heap.size w w'
def AJ (P:gr) (O:ia) (fn:Func) (args:List AV) (ie:List Bool) (ir:Nat):Option (du×AV) :=
 match fn.body with
 | some c=>match K_ P O none ir ⟨[.code c],⟨GV args fn.ntmps,[],0,ie⟩⟩ with
  | some (g,y)=>match K9 y.todo,PP P y.s.T y.s.H fn.results.toList,Nat.ble (Fs args) fn.ntmps with
   | true,some l,true=>some (g.conds,UC l)
   | _,_,_=>none
  | none=>none
 | none=>none
theorem Good.none_ (w:gn):Good CB [] w where
 heap:=fun b blk h=>by cases h
 inj:=fun b b' B n n' h=>by cases h
 lt:=fun b B n h=>by cases h
include hO hm in
theorem AN (jc:P.funcs[f]? = some fn) {args:List AV} {ie:List Bool} {ir:Nat} {conds:du} {v:AV} (h:AJ P O fn args ie ir=some (conds,v)) (hc:AM conds) (hk:Nj v=true):AT P f args v:=by
 unfold AJ at h;split at h;case h_2=>cases h
 rename_i c hb;split at h;case h_2=>cases h
 rename_i g y i_;split at h;case h_2=>cases h
 rename_i l hend hres ii;injection h with h;injection h with h1 h2;subst h1;subst h2;intro us w ha;have hlen':=jp ii;rw [JA] at hlen';refine Calls.mono (XF (R:=BA CB w g.keys (UC l) y.s.H) (fr:=0) (ie:=ie) jc hb hlen' ?_ ha (Good.none_ w) (fun _ _=>rfl)) ?_
 ·refine XD hO hm i_ hc ⟨fun _ _=>rfl,?_⟩ fun _=>?_
  ·simp only [GV,UE,JA,ku,XE];omega
  ·rw [oh];exact qB rfl jc hend hres
 ·rintro e w' ⟨u,β,rfl,ho⟩
  exact ⟨u,rfl,MT hk ho.val,ho.os,ho.tape,ho.output,ho.size,fun k hk=>ho.frame k hk (fun _ _ _ h=>by cases h)⟩
theorem UF {us:Array gq} {w:gn} {R:Ending→gn→Prop} (jc:P.funcs[f]? = some fn) (hb:fn.body.isSome=true) (iq:fw fn) (h:Calls P f us w R):NW P f us w R:=by
 unfold NW;have h1:fn.name≠"runtime.NumGoroutine":=by simpa using iq
 have h2:¬ fn.body=none:=by cases hq:fn.body<;>simp [hq] at hb ⊢
 have:(callFunc f us).run P w=.ok (.enter f us) w:=by
  simp [callFunc,jc,h1,h2]
 rw [this];exact h
def Af (sp:List AV→Option AV):ASpec:=fun args _ _ ie =>
 match a9 args,sp args with
 | true,some v=>match Nj v with
  | true=>some (CK v ie)
  | false=>none
 | _,_=>none
theorem Ah {sp:List AV→Option AV} (jc:P.funcs[f]? = some fn) (hb:fn.body.isSome=true) (iq:fw fn) (h:∀ args v,sp args=some v→AT P f args v):BI P f (Af sp):=by
 intro args H fr ie r β us w hs hc ha hg hf;unfold Af at hs;split at hs
 ·rename_i v hk hv;split at hs
  ·rename_i hkv;injection hs with hs;subst hs;refine UF jc hb iq (Calls.mono (h args v hv us w (qF hk ha)) ?_)
   rintro e w' ⟨u,rfl,hu,hbl⟩
   refine ⟨u,β,rfl,?_⟩
   exact ⟨Env.le_refl _,fun _ _ h=>.inl h,fun b B n hb=>li (hg.lt b B n hb) hbl.size,fun b b' _ _ _ h1 _ h3=>by simp [CK] at h3;omega,MT hkv hu,fun _ _ h=>(by cases h),fun B hB _=>hbl.block B hB,hbl.size,hbl.os,hbl.tape,hbl.output⟩
  ·cases hs
 ·cases hs
def CT (a b c:Int):Int:=(a+b+c) % 18446744073709551616
def DQ (a b c:Int):Int:=(a+b+c) / 18446744073709551616
def EA (a b c:Int):Int:=(a-b-c) % 18446744073709551616
def IR (a b c:Int):Int:=if a<b+c then 1 else 0
def CL (c:Int):Bool:=decide (0≤c∧c≤1)
def addSpec:ASpec:=fun args _ _ ie =>
 match args with
 | [x,y,z]=>match Bp (some x),Bp (some y),Bp (some z) with
  | some (_,.u64,a),some (_,.u64,b),some (_,.u64,c)=>some ⟨.tup [(false,[.v (.int .u64 (CT a b c))]),(false,[.v (.int .u64 (DQ a b c))])],[],0,[(CL c,true)],ie⟩
  | _,_,_=>none
 | _=>none
def subSpec:ASpec:=fun args _ _ ie =>
 match args with
 | [x,y,z]=>match Bp (some x),Bp (some y),Bp (some z) with
  | some (_,.u64,a),some (_,.u64,b),some (_,.u64,c)=>some ⟨.tup [(false,[.v (.int .u64 (EA a b c))]),(false,[.v (.int .u64 (IR a b c))])],[],0,[(CL c,true)],ie⟩
  | _,_,_=>none
 | _=>none
def qG:Array gq→Sem gq:=fun args=>do
 let (x,y,b) ← Extern.MathBitsCarry.three "Sub64" args
 pure (Extern.MathBitsCarry.pair ((x+Extern.MathBitsCarry.m64-y-b) % Extern.MathBitsCarry.m64) (if x<y+b then 1 else 0))
theorem ADP {e:Array gq→Sem gq} {us:Array gq} {w w':gn} {v:gq} {R:Ending→gn→Prop} (jc:P.funcs[f]? = some fn) (iq:fw fn) (hb:fn.body.isNone=true) (hn:Extern.findNext fn=none) (he:Extern.find fn=some e)
  (hr:(e us).run P w=.ok v w') (h:R (.returned v) w'):NW P f us w R:=by
 unfold NW;rw [run_callFunc_extern jc iq hb hn he us w,hr];exact h
theorem EH {a:Int} (h:has .u64 a):0≤a∧a<18446744073709551616:=by
 have:=(FX _ _).1 h
 simp only [AK,jx,jt] at this;omega
theorem bC {a:Int} (h1:0≤a) (h2:a<18446744073709551616):has .u64 a:=by
 rw [FX];simp only [AK,jx,jt];omega
theorem AOt (jc:P.funcs[f]? = some fn) (iq:fw fn) (hb:fn.body.isNone=true) (hn:Extern.findNext fn=none) (he:Extern.find fn=some add64Entry):BI P f addSpec:=by
 intro args H fr ie r β us w hs hc ha hg hf;unfold addSpec at hs;split at hs;case h_2=>cases hs
 rename_i x y z;split at hs;case h_2=>cases hs
 rename_i c1 a c2 b c3 c hx hy hz;injection hs with hs;subst hs;obtain ⟨u1,jf,r1,ha,rfl⟩:=ha;obtain ⟨u2,jg,r2,ha,rfl⟩:=ha;obtain ⟨u3,us3,r3,ha,rfl⟩:=ha;simp only [BL] at ha;subst ha;obtain ⟨rfl,p1⟩:=C3 (β:=β) (u:=u1) (fv r1) hx
 obtain ⟨rfl,p2⟩:=C3 (β:=β) (u:=u2) (fv r2) hy
 obtain ⟨rfl,p3⟩:=C3 (β:=β) (u:=u3) (fv r3) hz
 have hcc:=hc.1;simp only [CL,jt] at hcc;have b1:=EH p1;have b2:=EH p2;refine ADP jc iq hb hn he (run_add64 a b c b1.1 b2.1 hcc.1 hcc.2 w) ⟨_,β,rfl,Eff.pure_ hg ⟨_,⟨_,_,Az ⟨rfl,rfl,?_⟩,⟨_,_,Az ⟨rfl,rfl,?_⟩,rfl,rfl⟩,rfl⟩,rfl⟩⟩
 ·show has .u64 ((a+b+c) % 18446744073709551616);exact bC dn dn
 ·show has .u64 ((a+b+c) / 18446744073709551616);exact bC dn dn
theorem AOu (x y c:Int) (hx:0≤x∧x<18446744073709551616) (hy:0≤y∧y<18446744073709551616) (hc0:0≤c) (hc:c≤1) (w:gn) :
  (qG #[.int .u64 x,.int .u64 y,.int .u64 c]).run P w=.ok (.tuple #[.int .u64 ((x-y-c) % 18446744073709551616),.int .u64 (if x<y+c then 1 else 0)]) w:=by
 have key:∀ k:Nat,k≤1→(qG #[.int .u64 x,.int .u64 y,.int .u64 (k:Int)]).run P w =
   .ok (Extern.MathBitsCarry.pair ((x.toNat+Extern.MathBitsCarry.m64-y.toNat-k) % Extern.MathBitsCarry.m64) (if x.toNat<y.toNat+k then 1 else 0)) w:=by
  intro k hk;have:k=0∨k=1:=dn
  rcases this with rfl | rfl<;>rfl
 obtain ⟨k,rfl⟩:=kw hc0;rw [key k dn];obtain ⟨X,rfl⟩:=kw hx.1;obtain ⟨Y,rfl⟩:=kw hy.1;simp only [Extern.MathBitsCarry.pair,Extern.MathBitsCarry.m64,jz];have e1:(Int.ofNat ((X+2^64-Y-k) % 2^64))=((X:Int)-Y-k) % 18446744073709551616:=by
  have:(X+2^64-Y-k:Nat)=(X+18446744073709551616-Y-k:Nat):=rfl
  show (((X+18446744073709551616-Y-k) % 18446744073709551616:Nat):Int)=_;omega
 have e2:(Int.ofNat (if X<Y+k then 1 else 0))=if (X:Int)<Y+k then 1 else 0:=by
  by_cases h:X<Y+k
  ·rw [jo h,jo dn];rfl
  ·rw [jn h,jn dn];rfl
 rw [e1,e2]
theorem AOv (jc:P.funcs[f]? = some fn) (iq:fw fn) (hb:fn.body.isNone=true) (hn:Extern.findNext fn=none) (he:Extern.find fn=some qG):BI P f subSpec:=by
 intro args H fr ie r β us w hs hc ha hg hf;unfold subSpec at hs;split at hs;case h_2=>cases hs
 rename_i x y z;split at hs;case h_2=>cases hs
 rename_i c1 a c2 b c3 c hx hy hz;injection hs with hs;subst hs;obtain ⟨u1,jf,r1,ha,rfl⟩:=ha;obtain ⟨u2,jg,r2,ha,rfl⟩:=ha;obtain ⟨u3,us3,r3,ha,rfl⟩:=ha;simp only [BL] at ha;subst ha;obtain ⟨rfl,p1⟩:=C3 (β:=β) (u:=u1) (fv r1) hx
 obtain ⟨rfl,p2⟩:=C3 (β:=β) (u:=u2) (fv r2) hy
 obtain ⟨rfl,p3⟩:=C3 (β:=β) (u:=u3) (fv r3) hz
 have hcc:=hc.1;simp only [CL,jt] at hcc;have b1:=EH p1;have b2:=EH p2;refine ADP jc iq hb hn he (AOu a b c b1 b2 hcc.1 hcc.2 w) ⟨_,β,rfl,Eff.pure_ hg ⟨_,⟨_,_,Az ⟨rfl,rfl,?_⟩,⟨_,_,Az ⟨rfl,rfl,?_⟩,rfl,rfl⟩,rfl⟩,rfl⟩⟩
 ·show has .u64 ((a-b-c) % 18446744073709551616);exact bC dn dn
 ·show has .u64 (if a<b+c then 1 else 0)
  split<;>exact bC dn dn
def bD:dw→gp→Option ASpec
 | [],_=>none
 | (k,s)::r,f=>match Nat.beq k f with | true=>some s | false=>bD r f
def bG:List (gt×List (Option IntKind))→gt→Option (List (Option IntKind))
 | [],_=>none
 | (k,s)::r,f=>match Nat.beq k f with | true=>some s | false=>bG r f
def AG (L:dw) (K:List (gt×List (Option IntKind))):ia:=⟨bD L,bG K⟩
def AX (P:gr):dw→Prop
 | []=>True
 | (f,s)::r=>BI P f s∧AX P r
def MU (P:gr):List (gt×List (Option IntKind))→Prop
 | []=>True
 | (t,ks)::r=>(GD P 20 t=some ks∧P.eqGuardType P.depth t=false∧(match P.underlying t with | some d=>wide d | none=>false)=true)∧MU P r
theorem AOw {L:dw} (h:AX P L) {f:gp} {s:ASpec} (hl:bD L f=some s):BI P f s:=by
 induction L with
 | nil=>cases hl
 | cons e L ih =>
  obtain ⟨k,q⟩:=e;simp only [bD] at hl;split at hl
  ·rename_i hb;injection hl with hl;subst hl;rw [← Ar.1 hb];exact h.1
  ·exact ih h.2 hl
theorem AOx {L:List (gt×List (Option IntKind))} (h:MU P L) {f:gt} {s:List (Option IntKind)} (hl:bG L f=some s) :
  GD P 20 f=some s∧P.eqGuardType P.depth f=false∧(match P.underlying f with | some d=>wide d | none=>false)=true:=by
 induction L with
 | nil=>cases hl
 | cons e L ih =>
  obtain ⟨k,q⟩:=e;simp only [bG] at hl;split at hl
  ·rename_i hb;injection hl with hl;subst hl;rw [← Ar.1 hb];exact h.1
  ·exact ih h.2 hl
theorem AH {L:dw} {K:List (gt×List (Option IntKind))} (h:AX P L) (k:MU P K):g_ P (AG L K) :=
 ⟨fun _ _ hl=>AOw h hl,fun _ _ hl=>AOx k hl⟩
end
end Go.Proofs.YtgnajdcdcblaoaaGreat.Ex
namespace Go.Proofs.YtgnajdcdcblaoaaGreat
theorem jl {α} {P:α→Prop}:∀ x∈([]:List α),P x:=fun _ h=>by cases h
end Go.Proofs.YtgnajdcdcblaoaaGreat
namespace Go.Proofs.YtgnajdcdcblaoaaGreat.Ex
def MV (keep:List Nat):Nat→List AV→List AV
 | _,[]=>[]
 | i,x::r=>match EU i keep with
  | true=>x::MV keep (i+1) r
  | false=>.any::MV keep (i+1) r
def LA (n:Nat):List Nat→Bool
 | []=>true
 | k::r=>match Nat.blt k n with | true=>LA n r | false=>false
def UG (n:Nat):List AV→Bool
 | []=>true
 | x::r=>match LA n (Jt x) with | true=>UG n r | false=>false
def Ju (n:Nat):Heap→Bool
 | []=>true
 | (k,y)::r=>match Nat.blt k n,y with
  | true,some blk=>match LA n (EG blk.cs) with | true=>Ju n r | false=>false
  | true,none=>Ju n r
  | false,_=>false
theorem BX {a b:Nat}:Nat.blt a b=true↔a<b:=by unfold Nat.blt;exact ⟨jp,jr⟩
theorem UH {n:Nat}:∀ {l:List Nat},LA n l=true→∀ k∈l,k<n
 | [],_,k,h=>by cases h
 | x::r,h,k,hk=>by
  simp only [LA] at h;split at h
  ·rename_i hb;rcases ka.1 hk with rfl | hk
   ·exact BX.1 hb
   ·exact UH h k hk
  ·cases h
def LB (β:Env) (n:Nat):Env:=fun b=>match Nat.blt b n with | true=>β b | false=>none
theorem EB {β:Env} {n b:Nat} (h:b<n):LB β n b=β b:=by simp [LB,BX.2 h]
theorem RC {β:Env} {n b:Nat} (h:n≤b):LB β n b=none:=by
 have:Nat.blt b n=false:=by cases hb:Nat.blt b n with | false=>rfl | true=>have:=BX.1 hb;omega
 simp [LB,this]
theorem LC {β:Env} {n b:Nat} {X:Loc} (h:LB β n b=some X):β b=some X∧b<n:=by
 rcases kf b n with jb | hge
 ·rw [EB jb] at h;exact ⟨h,jb⟩
 ·rw [RC hge] at h;cases h
section
variable {β β':Env}
theorem ADQ:∀ {caps:List (Nat×Nat)} {l:List gq},(∀ k∈caps.map (·.1),β' k=β k)→F9 β caps l→F9 β' caps l
 | [],_,_,h=>h
 | (b,o)::r,l,hk,⟨B,n,l',h1,h2,h3⟩=>⟨B,n,l',by rw [hk b (by simp)];exact h1,ADQ (fun k h=>hk k (by simp at h ⊢;exact .inr h)) h2,h3⟩
theorem AOy {c:Ch} {l:List gq} (hk:∀ k∈NX c,β' k=β k) (h:BM β c l):BM β' c l:=by
 cases c<;>simp only [NX] at hk<;>simp only [BM] at h ⊢
 case n=>exact h
 case b=>exact h
 case v=>exact h
 case p=>rw [hk _ (by simp)];exact h
 case sl=>rw [hk _ (by simp)];exact h
 case sx=>rw [hk _ (by simp)];exact h
 case num=>exact h
 case seq=>exact h
 case clo=>obtain ⟨ps,h1,h2⟩:=h;exact ⟨ps,ADQ hk h1,h2⟩
 case mth=>rw [hk _ (by simp)];exact h
 case yl=>rw [hk _ (by simp)];exact h
 case mp=>rw [hk _ (by simp)];exact h
 case mk=>exact h
theorem Ho:∀ {cs:List Ch} {l:List gq},(∀ k∈EG cs,β' k=β k)→AP β cs l→AP β' cs l
 | [],_,_,h=>h
 | c::cs,l,hk,⟨l1,l2,h1,h2,h3⟩=>by
  simp only [EG,Ct,j_] at hk;exact ⟨l1,l2,AOy (fun k h=>hk k (.inl h)) h1,Ho (fun k h=>hk k (.inr h)) h2,h3⟩
theorem ADR {g:Bool} {cs:List Ch} {u:gq} (hk:∀ k∈EG cs,β' k=β k) (h:Bt β g cs u):Bt β' g cs u:=by
 cases g
 ·exact Ho hk h
 ·obtain ⟨l,h1,h2⟩:=h;exact ⟨l,Ho hk h1,h2⟩
theorem ADS:∀ {xs:List (Bool×List Ch)} {l:List gq},(∀ k∈K7 xs,β' k=β k)→F_ β xs l→F_ β' xs l
 | [],_,_,h=>h
 | (g,cs)::xs,l,hk,⟨u,l',h1,h2,h3⟩=>by
  simp only [K7,Ct,j_] at hk;exact ⟨u,l',ADR (fun k h=>hk k (.inl h)) h1,ADS (fun k h=>hk k (.inr h)) h2,h3⟩
theorem qJ {x:AV} {u:gq} (hk:∀ k∈Jt x,β' k=β k) (h:AO β x u):AO β' x u:=by
 cases x with
 | val g cs=>exact ADR hk h
 | tup xs=>obtain ⟨us,h1,h2⟩:=h;exact ⟨us,ADS hk h1,h2⟩
 | any=>trivial
end
def XG (keep ks:List Nat) (fr:Nat) (ie:List Bool) (s:St):Option St :=
 match UG fr (MV keep 0 s.T),Ju fr (restrict s.H ks) with
 | true,true=>some ⟨MV keep 0 s.T,restrict s.H ks,fr,ie⟩
 | _,_=>none
theorem qK {n:Nat}:∀ {T:List AV} {t:Nat},UG n T=true→∀ k∈Jt (Aq T t),k<n
 | [],_,_,k,h=>by simp [Aq,Jt] at h
 | x::r,0,h,k,hk=>by
  simp only [UG] at h;split at h
  ·rename_i h1;exact UH h1 k hk
  ·cases h
 | x::r,t+1,h,k,hk=>by
  simp only [UG] at h;split at h
  ·exact qK h k hk
  ·cases h
theorem LD {n:Nat}:∀ {H:Heap} {b:Nat} {blk:ib},Ju n H=true→AF H b=some blk→b<n∧∀ k∈EG blk.cs,k<n
 | [],_,_,_,h=>by cases h
 | (k,y)::r,b,blk,h,hb=>by
  simp only [Ju] at h;simp only [AF] at hb;split at h
  ·rename_i hk;split at h
   ·rename_i ip;split at hb
    ·rename_i e;rw [← Ar.1 e];injection hb with hb;subst hb;exact ⟨BX.1 hk,UH ip⟩
    ·exact LD h hb
   ·cases h
  ·rename_i hk;split at hb
   ·cases hb
   ·exact LD h hb
  ·cases h
theorem ADT (keep:List Nat):∀ {T:List AV} {i t:Nat},Aq (MV keep i T) t=Aq T t∨Aq (MV keep i T) t=.any
 | [],i,t=>.inl rfl
 | x::r,i,0=>by
  simp only [MV];split
  ·exact .inl rfl
  ·exact .inr rfl
 | x::r,i,t+1=>by
  simp only [MV];split<;>exact ADT keep
theorem ADU (keep:List Nat):∀ {T:List AV} {i:Nat},(MV keep i T).length=T.length
 | [],_=>rfl
 | x::r,i=>by simp only [MV];split<;>simp [ADU keep]
section
variable {P:gr} {O:ia} {f:gp} {β0:Env} {w0:gn} {R:Ending→gn→Prop} {n:Fz} {W:List Nat}
theorem AOz {keep ks:List Nat} {fr:Nat} {ie:List Bool} {s s':St} (h:XG keep ks fr ie s=some s') (jj:BW n s):BW n s':=by
 unfold XG at h;split at h
 ·rename_i h1 h2;injection h with h;subst h;refine ⟨fun b hb=>?_,by simp only [ADU];exact jj.2⟩
  cases hq:AF (restrict s.H ks) b with
  | none=>rfl
  | some blk=>have:=(LD h2 hq).1;simp only at hb;omega
 ·cases h
theorem AO0 {keep ks:List Nat} {fr:Nat} {ie:List Bool} {s s':St} {todo:List Item} (h:XG keep ks fr ie s=some s') (hβ0:∀ b,fr≤b→β0 b=none)
  (hs:gz P f β0 w0 R n W ⟨todo,s'⟩):gz P f β0 w0 R n W ⟨todo,s⟩:=by
 unfold XG at h;split at h
 ·rename_i h1 h2;injection h with h;subst h;intro β a w hi hf;refine hs (LB β fr) a w ?_ (fun b hb=>RC hb)
  refine { hi with tmp:=fun t=>?_,good:=?_,new:=fun b X hb=>?_,ext:=fun b B hb=>?_ }
  ·have hk:=qK (t:=t) h1
   simp only
   rcases ADT keep (T:=s.T) (i:=0) (t:=t) with e | e
   ·rw [e] at hk ⊢;exact qJ (fun k hkk=>EB (hk k hkk)) (hi.tmp t)
   ·rw [e];trivial
  ·refine ⟨fun b blk hb=>?_,fun b b' B m m' h3 h4 h5 h6=>?_,fun b B m hb=>hi.good.lt b B m (LC hb).1⟩
   ·obtain ⟨e1,e2⟩:=LD h2 hb;rcases hi.good.heap b blk (NZ hb) with ⟨B,m,l,t,pre,ty,fz,q1,q2,q3⟩ | ⟨X,q1,q2,q3⟩ | ⟨B,l,es,q,q1,q2,q3,q4⟩
    ·exact .inl ⟨B,m,l,t,pre,ty,fz,by rw [EB e1];exact q1,Ho (fun k hk=>EB (e2 k hk)) q2,q3⟩
    ·exact .inr (.inl ⟨X,by rw [EB e1];exact q1,q2,Ho (fun k hk=>EB (e2 k hk)) q3⟩)
    ·exact .inr (.inr ⟨B,l,es,q,by rw [EB e1];exact q1,q2,Ho (fun k hk=>EB (e2 k hk)) q3,q4⟩)
   ·obtain ⟨x,hx,hr⟩:=GU h3;obtain ⟨y,hy⟩:=mc.1 h4;exact hi.good.inj b b' B m m' (GC (NZ hx) hr) (by rw [NZ hy];rfl) (LC h5).1 (LC h6).1
  ·exact hi.new b X (LC hb).1
  ·have jb:b<fr:=by
    rcases kf b fr with h | h
    ·exact h
    ·rw [hβ0 b h] at hb;cases hb
   rw [EB jb];exact hi.ext b B hb
 ·cases h
def EI (k0:Nat):List Nat→List Nat
 | []=>[]
 | k::r=>match Nat.blt k k0,EU k (EI k0 r) with
  | true,false=>k::EI k0 r
  | _,_=>EI k0 r
theorem bH {k0 k:Nat}:∀ {l:List Nat},k∈l→k<k0→k∈EI k0 l
 | [],h,_=>by cases h
 | x::r,h,jb=>by
  simp only [EI];rcases ka.1 h with rfl | h
  ·rw [BX.2 jb];cases hm:EU k (EI k0 r) with
   | true=>simp only;exact Q8.1 hm
   | false=>simp
  ·have ih:=bH h jb;split
   ·exact oq _ ih
   ·exact ih
theorem Inv.old {W W':List Nat} {k0:Nat} {β:Env} {τ:Nat→AV} {H:Heap} {a:Act} {w:gn} (i:Inv β0 w0 W n β τ H a w) (h0:∀ b,k0≤b→β0 b=none) (h:∀ k∈W,k<k0→k∈W'):Inv β0 w0 W' n β τ H a w :=
 { i with
  new:=fun b X hb=>(i.new b X hb).imp id fun q B m e=>(q B m e).imp id fun ⟨k,m',h1,h2⟩=>⟨k,m',h k h1 (by
   rcases kf k k0 with h | h
   ·exact h
   ·rw [h0 k h] at h2;cases h2),h2⟩
  frame:=fun B hB ji=>i.frame B hB fun k m hk hk2=>ji k m (h k hk (by
   rcases kf k k0 with h | h
   ·exact h
   ·rw [h0 k h] at hk2;cases hk2)) hk2 }
theorem gz.old {W W':List Nat} {k0:Nat} {x:h_} (h0:∀ b,k0≤b→β0 b=none) (h:∀ k∈W,k<k0→k∈W') (hs:gz P f β0 w0 R n W' x):gz P f β0 w0 R n W x :=
 fun β a w hi hf=>hs β a w (hi.old h0 h) hf
def AZ (P:gr) (O:ia) (stop:Option Nat) (ir k0:Nat) (fg:Option (List Nat×List Nat×Nat)) (x:h_):Option (du×List Nat×h_) :=
 match K_ P O stop ir x with
 | some (g,y)=>match fg with
  | some (keep,ks,fr)=>match XG keep ks fr [] y.s,Nat.ble k0 fr with
   | some s',true=>some (g.conds,EI k0 g.keys,⟨y.todo,s'⟩)
   | _,_=>none
  | none=>some (g.conds,EI k0 g.keys,y)
 | none=>none
theorem Aj (hO:g_ P O) (hm:P.follows .mixedOrders=true) {stop:Option Nat} {ir k0:Nat} {fg:Option (List Nat×List Nat×Nat)} {x y:h_} {conds:du} {ks:List Nat} (h:AZ P O stop ir k0 fg x=some (conds,ks,y))
  (hc:AM conds) (jj:BW n x.s) (h0:∀ b,k0≤b→β0 b=none) (hks:∀ k∈ks,k∈W) (hs:BW n y.s→gz P f β0 w0 R n W y):gz P f β0 w0 R n W x:=by
 unfold AZ at h;split at h;case h_2=>cases h
 rename_i g y1 i_;have hW:∀ k∈W++g.keys,k<k0→EI k0 g.keys=ks→k∈W:=by
  intro k hk jb he;rcases j_.1 hk with hk | hk
  ·exact hk
  ·exact hks k (by rw [← he];exact bH hk jb)
 split at h
 ·rename_i keep ks' fr;split at h
  ·rename_i s' hfg je;injection h with h;injection h with h1 h;injection h with h2 h3;subst h1;subst h3;refine XD hO hm i_ hc jj fun hw=>?_
   have hle':=jp je;refine gz.old h0 (fun k hk jb=>hW k hk jb h2) ?_
   exact AO0 hfg (fun b hb=>h0 b dn) (hs (AOz hfg hw))
  ·cases h
 ·injection h with h;injection h with h1 h;injection h with h2 h3;subst h1;subst h3;refine XD hO hm i_ hc jj fun hw=>?_
  exact gz.old h0 (fun k hk jb=>hW k hk jb h2) (hs hw)
def RD (n:Fz) (s:St):Bool:=Ju s.fr s.H&&Nat.beq (Fs s.T) n.n
theorem AR {s:St} (h:RD n s=true):BW n s:=by
 have h':=jy.1 h;refine ⟨fun b hb=>?_,by have:=Ar.1 h'.2;rwa [JA] at this⟩
 cases hq:AF s.H b with
 | none=>rfl
 | some blk=>have:=(LD h'.1 hq).1;omega
def Ak (fn:Func) (args:List AV) (H:Heap) (k0:Nat) (ie:List Bool):h_ :=
 ⟨match fn.body with | some c=>[.code c] | none=>[],⟨GV args fn.ntmps,H,k0,ie⟩⟩
def JB (P:gr) (fn:Func) (y:h_):Option AV :=
 match K9 y.todo,PP P y.s.T y.s.H fn.results.toList with
 | true,some l=>some (UC l)
 | _,_=>none
theorem ADV {fn:Func} {y:h_} {v:AV} (jc:P.funcs[f]? = some fn) (h:JB P fn y=some v) (hR:∀ e w,BA β0 w0 W v y.s.H e w→R e w) (hD:n.D=[]:=by rfl):gz P f β0 w0 R n W y:=by
 unfold JB at h;split at h
 ·rename_i l h1 h2;injection h with h;subst h;intro β a w hi hf;have:=qB (P:=P) (n:=n) (W:=W) (β0:=β0) (w0:=w0) hD jc h1 h2 β a w hi hf
  intro b cs hb hk;obtain ⟨e,w',fr,q1,q2⟩:=this b cs hb hk;exact ⟨e,w',fr,hR _ _ q1,q2⟩
 ·cases h
end
section
variable {P:gr} {f:gp} {fn:Func}
theorem XH {R:Ending→gn→Prop} (jc:P.funcs[f]? = some fn) (hb:fn.body.isSome=true) {args:List AV} {H:Heap} {k0:Nat} {ie:List Bool} {β:Env} {us:List gq} {w:gn} (ii:Nat.ble (Fs args) fn.ntmps=true)
  (h:gz P f β w R fn.ntmps [] (Ak fn args H k0 ie)) (ha:BL β args us) (hg:Good β H w) (hf:∀ b,k0≤b→β b=none):Calls P f ⟨us⟩ w R:=by
 obtain ⟨c,hc⟩:=mc.1 hb;have hl:=jp ii;rw [JA] at hl;unfold Ak at h;rw [hc] at h;exact XF jc hc hl h ha hg hf
end
open Go.RowKit (Below)
def Hp (w0:gn) (v:AV):Ending→gn→Prop:=fun e w'=>∃ u,e=.returned u∧AO CB v u∧Below w0.heap.size w0 w'
def E' (P:gr) (O:ia) (fn:Func) (ir k0:Nat) (x:h_):Option (du×List Nat×AV) :=
 match K_ P O none ir x with
 | some (g,y)=>match JB P fn y with
  | some v=>some (g.conds,EI k0 g.keys,v)
  | none=>none
 | none=>none
section
variable {P:gr} {O:ia} {f:gp} {fn:Func} {β0:Env} {w0:gn} {n:Fz}
theorem IS (hO:g_ P O) (hm:P.follows .mixedOrders=true) (jc:P.funcs[f]? = some fn) {ir k0:Nat} {x:h_} {conds:du} {v:AV} (h:E' P O fn ir k0 x=some (conds,[],v)) (hc:AM conds) (jj:BW n x.s)
  (h0:∀ b,k0≤b→β0 b=none) (hk:Nj v=true) (hD:n.D=[]:=by rfl):gz P f β0 w0 (Hp w0 v) n [] x:=by
 unfold E' at h;split at h;case h_2=>cases h
 rename_i g y i_;split at h;case h_2=>cases h
 rename_i v' hv;injection h with h;injection h with h1 h;injection h with h2 h3;subst h1;subst h3;refine Aj (W:=[]) hO hm (ir:=ir) (k0:=k0) (fg:=none) (stop:=none) (ks:=[]) (y:=y) (by unfold AZ;rw [i_];simp only;rw [h2]) hc jj h0 jl fun _=>?_
 intro β a w hi hf;unfold JB at hv;split at hv;case h_2=>cases hv
 rename_i l e1 e2;injection hv with hv;subst hv;have:=qB (P:=P) (n:=n) (W:=[]) (β0:=β0) (w0:=w0) hD jc e1 e2 β a w hi hf
 intro b cs hb hkd;obtain ⟨e,w',fr,⟨u,β',q0,q1⟩,q2⟩:=this b cs hb hkd;exact ⟨e,w',fr,⟨u,q0,MT hk q1.val,q1.os,q1.tape,q1.output,q1.size,fun k hk=>q1.frame k hk (fun _ _ h=>by cases h)⟩,q2⟩
theorem Nk (jc:P.funcs[f]? = some fn) (hb:fn.body.isSome=true) {args:List AV} {ie:List Bool} {v:AV} (ii:Nat.ble (Fs args) fn.ntmps=true)
  (h:∀ w0,gz P f CB w0 (Hp w0 v) fn.ntmps [] (Ak fn args [] 0 ie)):AT P f args v :=
 fun _ w ha=>XH jc hb ii (h w) ha (Good.none_ w) (fun _ _=>rfl)
theorem Ai {R:Ending→gn→Prop} {W:List Nat} {todo:List Item} {T:List AV} {H:Heap} {fr:Nat} {p:List Bool} (q:List Bool) (h:gz P f β0 w0 R n W ⟨todo,⟨T,H,fr,q⟩⟩):gz P f β0 w0 R n W ⟨todo,⟨T,H,fr,p⟩⟩:=h
end
end Go.Proofs.YtgnajdcdcblaoaaGreat.Ex
namespace Go.Proofs.YtgnajdcdcblaoaaGreat.Ex
def bI (κ:Nat→Nat):List (Nat×Nat)→List (Nat×Nat)
 | []=>[]
 | (b,o)::r=>(κ b,o)::bI κ r
def XI (κ:Nat→Nat):Ch→Ch
 | .p b o=>.p (κ b) o
 | .sl b o l c=>.sl (κ b) o l c
 | .sx b l s=>.sx (κ b) l s
 | .clo f caps=>.clo f (bI κ caps)
 | .mth f b o=>.mth f (κ b) o
 | .yl b=>.yl (κ b)
 | .mp b=>.mp (κ b)
 | .mk=>.mk
 | .n k i=>.n k i
 | .b x=>.b x
 | .v x=>.v x
 | .num k x=>.num k x
 | .seq k l=>.seq k l
def IT (κ:Nat→Nat):List Ch→List Ch
 | []=>[]
 | c::r=>XI κ c::IT κ r
def bJ (κ:Nat→Nat):List (Bool×List Ch)→List (Bool×List Ch)
 | []=>[]
 | (g,cs)::r=>(g,IT κ cs)::bJ κ r
def XJ (κ:Nat→Nat):AV→AV
 | .val g cs=>.val g (IT κ cs)
 | .tup xs=>.tup (bJ κ xs)
 | .any=>.any
section
variable {β β':Env} {κ:Nat→Nat}
theorem ADW:∀ {caps:List (Nat×Nat)} {l:List gq},(∀ k∈caps.map (·.1),∀ X,β k=some X→β' (κ k)=some X)→F9 β caps l→F9 β' (bI κ caps) l
 | [],_,_,h=>h
 | (b,o)::r,l,hk,⟨B,n,l',h1,h2,h3⟩=>⟨B,n,l',hk b (by simp) _ h1,ADW (fun k h=>hk k (by simp at h ⊢;exact .inr h)) h2,h3⟩
theorem AO1 {c:Ch} {l:List gq} (hk:∀ k∈NX c,∀ X,β k=some X→β' (κ k)=some X) (h:BM β c l):BM β' (XI κ c) l:=by
 cases c<;>simp only [NX] at hk<;>simp only [XI,BM] at h ⊢
 case n=>exact h
 case b=>exact h
 case v=>exact h
 case p=>obtain ⟨B,n,h1,h2⟩:=h;exact ⟨B,n,hk _ (by simp) _ h1,h2⟩
 case sl =>
  rcases h with ⟨B,n,h1,h2⟩ | ⟨h1,h2⟩ | ⟨h1,h2⟩
  ·exact .inl ⟨B,n,hk _ (by simp) _ h1,h2⟩
  ·exact .inr (.inl ⟨hk _ (by simp) _ h1,h2⟩)
  ·exact .inr (.inr ⟨hk _ (by simp) _ h1,h2⟩)
 case sx =>
  rcases h with ⟨B,n,cap,h1,h2⟩ | ⟨h1,h2⟩
  ·exact .inl ⟨B,n,cap,hk _ (by simp) _ h1,h2⟩
  ·exact .inr ⟨hk _ (by simp) _ h1,h2⟩
 case num=>exact h
 case seq=>exact h
 case clo=>obtain ⟨ps,h1,h2⟩:=h;exact ⟨ps,ADW hk h1,h2⟩
 case mth=>obtain ⟨B,n,h1,h2⟩:=h;exact ⟨B,n,hk _ (by simp) _ h1,h2⟩
 case yl=>obtain ⟨B,n,h1,h2⟩:=h;exact ⟨B,n,hk _ (by simp) _ h1,h2⟩
 case mp=>obtain ⟨B,h1,h2⟩:=h;exact ⟨B,hk _ (by simp) _ h1,h2⟩
 case mk=>exact h
theorem UI:∀ {cs:List Ch} {l:List gq},(∀ k∈EG cs,∀ X,β k=some X→β' (κ k)=some X)→AP β cs l→AP β' (IT κ cs) l
 | [],_,_,h=>h
 | c::cs,l,hk,⟨l1,l2,h1,h2,h3⟩=>by
  simp only [EG,Ct,j_] at hk;exact ⟨l1,l2,AO1 (fun k h=>hk k (.inl h)) h1,UI (fun k h=>hk k (.inr h)) h2,h3⟩
theorem ADX {g:Bool} {cs:List Ch} {u:gq} (hk:∀ k∈EG cs,∀ X,β k=some X→β' (κ k)=some X) (h:Bt β g cs u):Bt β' g (IT κ cs) u:=by
 cases g
 ·exact UI hk h
 ·obtain ⟨l,h1,h2⟩:=h;exact ⟨l,UI hk h1,h2⟩
theorem ADY:∀ {xs:List (Bool×List Ch)} {l:List gq},(∀ k∈K7 xs,∀ X,β k=some X→β' (κ k)=some X)→F_ β xs l→F_ β' (bJ κ xs) l
 | [],_,_,h=>h
 | (g,cs)::xs,l,hk,⟨u,l',h1,h2,h3⟩=>by
  simp only [K7,Ct,j_] at hk;exact ⟨u,l',ADX (fun k h=>hk k (.inl h)) h1,ADY (fun k h=>hk k (.inr h)) h2,h3⟩
theorem AO2 {x:AV} {u:gq} (hk:∀ k∈Jt x,∀ X,β k=some X→β' (κ k)=some X) (h:AO β x u):AO β' (XJ κ x) u:=by
 cases x with
 | val g cs=>exact ADX hk h
 | tup xs=>obtain ⟨us,h1,h2⟩:=h;exact ⟨us,ADY hk h1,h2⟩
 | any=>trivial
end
def Ab (P:gr) (f:gp) (iw:List AV) (H0:Heap) (k0:Nat) (W:List Nat) (val:AV) (H1:Heap):Prop :=
 ∀ (β:Env) (us:List gq) (w:gn),BL β iw us→Good β H0 w→(∀ b,k0≤b→β b=none)→Calls P f ⟨us⟩ w (BA β w W val H1)
def nth:List Nat→Nat→Nat
 | [],_=>0
 | x::_,0=>x
 | _::r,n+1=>nth r n
def RE (ρ:List Nat) (k0 fr:Nat):Nat→Nat:=fun k=>match Nat.blt k k0 with | true=>nth ρ k | false=>fr+(k-k0)
def A9 (β:Env) (ρ:List Nat) (k0:Nat):Env:=fun k=>match Nat.blt k k0 with | true=>β (nth ρ k) | false=>none
def UJ (κ:Nat→Nat) (H1:Heap):List Nat→Heap
 | []=>[]
 | k::r=>(κ k,(AF H1 k).map fun b=>⟨b.ty,IT κ b.cs,b.opn⟩)::UJ κ H1 r
def Jv (k0:Nat):Heap→List Nat
 | []=>[]
 | (k,_)::r=>match Nat.blt k k0,EU k (Jv k0 r) with
  | false,false=>k::Jv k0 r
  | _,_=>Jv k0 r
theorem qL {k0 k:Nat}:∀ {H:Heap},k∈Jv k0 H→k0≤k
 | [],h=>by cases h
 | (j,y)::r,h=>by
  simp only [Jv] at h;split at h
  ·rename_i hb _;rcases ka.1 h with rfl | h
   ·rcases kf k k0 with jb | hge
    ·rw [BX.2 jb] at hb;cases hb
    ·exact hge
   ·exact qL h
  ·exact qL h
theorem qN {k0 k:Nat} {b:ib}:∀ {H:Heap},AF H k=some b→k0≤k→k∈Jv k0 H
 | [],h,_=>by cases h
 | (j,y)::r,h,hk=>by
  simp only [AF] at h;simp only [Jv];split at h
  ·rename_i e;have:=Ar.1 e
   subst this;have h1:Nat.blt j k0=false:=by cases hq:Nat.blt j k0 with | false=>rfl | true=>have:=BX.1 hq;omega
   rw [h1];cases hm:EU j (Jv k0 r) with
   | true=>exact Q8.1 hm
   | false=>simp
  ·have ih:=qN h hk;split
   ·exact oq _ ih
   ·exact ih
def RF (k0:Nat) (H1:Heap):List Nat→Bool
 | []=>true
 | k::r=>match Nat.blt k k0,AF H1 k with
  | true,_=>RF k0 H1 r
  | false,some _=>RF k0 H1 r
  | false,none=>false
theorem UK {k0:Nat} {H1:Heap}:∀ {l:List Nat},RF k0 H1 l=true→∀ k∈l,k<k0∨(AF H1 k).isSome=true
 | [],_,k,h=>by cases h
 | x::r,h,k,hk=>by
  simp only [RF] at h;split at h
  ·rename_i hb;rcases ka.1 hk with rfl | hk
   ·exact .inl (BX.1 hb)
   ·exact UK h k hk
  ·rename_i b hb hg;rcases ka.1 hk with rfl | hk
   ·exact .inr (by rw [hg];rfl)
   ·exact UK h k hk
  ·cases h
def bK (k0:Nat) (H1:Heap):List Nat→Bool
 | []=>true
 | k::r=>match AF H1 k with
  | some b=>match RF k0 H1 (EG b.cs),Nat.beq b.ty Br with | true,false=>bK k0 H1 r | _,_=>false
  | none=>false
theorem bL {k0:Nat} {H1:Heap}:∀ {l:List Nat},bK k0 H1 l=true→∀ k∈l,∃ b,AF H1 k=some b∧RF k0 H1 (EG b.cs)=true∧b.ty≠Br
 | [],_,k,h=>by cases h
 | x::r,h,k,hk=>by
  simp only [bK] at h;split at h
  ·rename_i b hb;split at h
   ·rename_i hok hro;rcases ka.1 hk with rfl | hk
    ·exact ⟨b,hb,hok,Z5 hro⟩
    ·exact bL h k hk
   ·cases h
  ·cases h
def BP (ρ:List Nat) (k0 fr nw:Nat) (W:List Nat) (val:AV) (H1:Heap) (conds:du) (ie:List Bool):R :=
 ⟨XJ (RE ρ k0 fr) val,UJ (RE ρ k0 fr) H1 (cat W (Jv k0 H1)),nw,conds,ie⟩
def EJ (k0 nw:Nat) (W:List Nat) (val:AV) (H1:Heap):Bool :=
 LA k0 W&&(RF k0 H1 (Jt val)&&(bK k0 H1 (cat W (Jv k0 H1))&&Ju (k0+nw) H1))
theorem ADZ {κ:Nat→Nat} {H1:Heap} {k:Nat} {y:Option ib}:∀ {l:List Nat},(k,y)∈UJ κ H1 l→∃ j∈l,k=κ j∧y=(AF H1 j).map fun b=>⟨b.ty,IT κ b.cs,b.opn⟩
 | [],h=>by cases h
 | x::r,h=>by
  simp only [UJ,ka,kp] at h;rcases h with ⟨h1,h2⟩ | h
  ·exact ⟨x,by simp,h1,h2⟩
  ·obtain ⟨j,h1,h2⟩:=ADZ h;exact ⟨j,by simp [h1],h2⟩
theorem ADa {κ:Nat→Nat} {H1:Heap} {j:Nat}:∀ {l:List Nat},j∈l→(κ j,(AF H1 j).map fun b=>(⟨b.ty,IT κ b.cs,b.opn⟩:ib))∈UJ κ H1 l
 | x::r,h=>by
  simp only [UJ,ka];rcases ka.1 h with rfl | h
  ·exact .inl rfl
  ·exact .inr (ADa h)
theorem ADb {β:Env} {w w':gn} {ρ:List Nat} {k0 fr nw:Nat} {W:List Nat} {val:AV} {H H1:Heap} {u:gq} {β1:Env} {conds:du} {ie:List Bool} (g:Good β H w)
  (ho:Out (A9 β ρ k0) w W val H1 u w' β1) (hb:EJ k0 nw W val H1=true) (hf:∀ b,fr≤b→b<fr+nw→β b=none) (hdef:∀ k,k<k0→∃ X,β (nth ρ k)=some X):∃ β',Eff β fr (BP ρ k0 fr nw W val H1 conds ie) w u w' β':=by
 unfold EJ at hb;simp only [jx] at hb;obtain ⟨c1,c2,c3,c4⟩:=hb;have hW:=UH c1;have hlive:∀ k,(AF H1 k).isSome=true→k<k0+nw:=by
  intro k hk;obtain ⟨b,hb⟩:=mc.1 hk;exact (LD c4 hb).1
 have newr:∀ k,k0≤k→(AF H1 k).isSome=true→GT H1 k=true:=by
  intro k hk hs;obtain ⟨b,hb⟩:=mc.1 hs;obtain ⟨b',hb',_,hr⟩:=bL c3 k (by rw [Ct,j_];exact .inr (qN hb hk))
  exact GC hb' hr
 let β':Env:=fun b=>match Nat.ble fr b&&Nat.blt b (fr+nw),AF H1 (k0+(b-fr)) with
  | true,some _=>β1 (k0+(b-fr))
  | true,none=>none
  | false,_=>β b
 have out:∀ b,¬ (fr≤b∧b<fr+nw)→β' b=β b:=by
  intro b hb;have:(Nat.ble fr b&&Nat.blt b (fr+nw))=false:=by
   cases h:Nat.ble fr b&&Nat.blt b (fr+nw) with
   | false=>rfl
   | true =>
    have:=jy.1 h
    exact absurd ⟨jp this.1,BX.1 this.2⟩ hb
  show (match Nat.ble fr b&&Nat.blt b (fr+nw),AF H1 (k0+(b-fr)) with | true,some _=>β1 (k0+(b-fr)) | true,none=>none | false,_=>β b)=β b
  rw [this]
 have inn:∀ b,fr≤b→b<fr+nw→∀ X,β' b=some X→(AF H1 (k0+(b-fr))).isSome=true∧β1 (k0+(b-fr))=some X:=by
  intro b h1 h2 X hX;have:(Nat.ble fr b&&Nat.blt b (fr+nw))=true:=by rw [jr h1,BX.2 h2];rfl
  change (match Nat.ble fr b&&Nat.blt b (fr+nw),AF H1 (k0+(b-fr)) with | true,some _=>β1 (k0+(b-fr)) | true,none=>none | false,_=>β b)=some X at hX
  rw [this] at hX;cases hq:AF H1 (k0+(b-fr)) with
  | none=>rw [hq] at hX;cases hX
  | some y=>rw [hq] at hX;exact ⟨rfl,hX⟩
 have new1:∀ k,k0≤k→(AF H1 k).isSome=true→∀ X,β1 k=some X→β' (fr+(k-k0))=some X:=by
  intro k hk hl X hX;have h2:=hlive k hl;have e:k0+(fr+(k-k0)-fr)=k:=dn
  have:(Nat.ble fr (fr+(k-k0))&&Nat.blt (fr+(k-k0)) (fr+nw))=true:=by rw [jr dn,BX.2 dn];rfl
  show (match Nat.ble fr (fr+(k-k0))&&Nat.blt (fr+(k-k0)) (fr+nw),AF H1 (k0+(fr+(k-k0)-fr)) with | true,some _=>β1 (k0+(fr+(k-k0)-fr)) | true,none=>none | false,_=>β (fr+(k-k0)))=some X
  rw [this,e];obtain ⟨y,hy⟩:=mc.1 hl;rw [hy];exact hX
 have ext0:Env.le β β':=by
  intro b X hb;rw [out b (fun h=>by rw [hf b h.1 h.2] at hb;cases hb)]
  exact hb
 have inE:∀ k,k<k0→A9 β ρ k0 k=β (nth ρ k):=fun k hk=>by simp [A9,BX.2 hk]
 have oldk:∀ k,k<k0→∀ X,β1 k=some X→β (nth ρ k)=some X:=by
  intro k hk X hX;obtain ⟨Y,hq⟩:=hdef k hk;have:=ho.ext k Y (by rw [inE k hk];exact hq)
  rw [this] at hX;injection hX with hX;subst hX;exact hq
 have kapk:∀ k,(k<k0∨(AF H1 k).isSome=true)→∀ X,β1 k=some X→β' (RE ρ k0 fr k)=some X:=by
  intro k hk X hX;unfold RE;rcases kf k k0 with jb | hge
  ·rw [BX.2 jb];exact ext0 _ _ (oldk k jb X hX)
  ·have:Nat.blt k k0=false:=by cases h:Nat.blt k k0 with | false=>rfl | true=>have:=BX.1 h;omega
   rw [this];rcases hk with hk | hk
   ·omega
   ·exact new1 k hge hk X hX
 refine ⟨β',ext0,?_,?_,?_,?_,?_,?_,ho.size,ho.os,ho.tape,ho.output⟩
 ·intro b X hX;by_cases hr:fr≤b∧b<fr+nw
  ·obtain ⟨hl,h1⟩:=inn b hr.1 hr.2 X hX;refine .inr ⟨hr.1,hr.2,fun B n e=>?_⟩
   subst e;rcases ho.new _ _ h1 with h | h
   ·have:Nat.blt (k0+(b-fr)) k0=false:=by cases h:Nat.blt (k0+(b-fr)) k0 with | false=>rfl | true=>have:=BX.1 h;omega
    simp [A9,this] at h
   ·rcases h B n rfl with h | ⟨k,m',hk,hk2⟩
    ·exact .inl h
    ·have hk0:=hW k hk;obtain ⟨bb,hbb,_,hbr⟩:=bL c3 k (by rw [Ct,j_];exact .inl hk)
     have:=ho.good.inj _ _ _ _ _ (GC hbb hbr) hl (ho.ext k _ hk2) h1
     omega
  ·rw [out b hr] at hX;exact .inl hX
 ·intro b B n hX;by_cases hr:fr≤b∧b<fr+nw
  ·exact ho.good.lt _ _ _ (inn b hr.1 hr.2 _ hX).2
  ·rw [out b hr] at hX;exact li (g.lt _ _ _ hX) ho.size
 ·intro b b' B n n' h1 h2 h3 h4 h5 h6;obtain ⟨l1,q1⟩:=inn b h1 h3 _ h5;obtain ⟨l2,q2⟩:=inn b' h2 h4 _ h6;have:=ho.good.inj _ _ _ _ _ (newr _ dn l1) l2 q1 q2
  omega
 ·exact AO2 (fun k hk X hX=>kapk k (UK c2 k hk) X hX) ho.val
 ·intro k y hk;obtain ⟨j,hj,e1,e2⟩:=ADZ hk;obtain ⟨bb,hbb,hok,_⟩:=bL c3 j hj;rw [hbb] at e2;simp only [Option.map_some,ke] at e2;subst e1;subst e2;have hkj:j<k0∨(AF H1 j).isSome=true:=.inr (by rw [hbb];rfl)
  rcases ho.good.heap j bb hbb with ⟨B,n,l,t,pre,ty,fz,q1,q2,q3⟩ | ⟨X,q1,q2,q3⟩ | ⟨B,l,es,q,q1,q2,q3,q4⟩
  ·exact .inl ⟨B,n,l,t,pre,ty,fz,kapk j hkj _ q1,UI (fun k hk X hX=>kapk k (UK hok k hk) X hX) q2,q3⟩
  ·exact .inr (.inl ⟨X,kapk j hkj _ q1,q2,UI (fun k hk X hX=>kapk k (UK hok k hk) X hX) q3⟩)
  ·exact .inr (.inr ⟨B,l,es,q,kapk j hkj _ q1,q2,UI (fun k hk X hX=>kapk k (UK hok k hk) X hX) q3,q4⟩)
 ·intro B hB ji;refine ho.frame B hB fun k m hk hk2=>?_
  have hk0:=hW k hk;rw [inE k hk0] at hk2;have hmem:=ADa (κ:=RE ρ k0 fr) (H1:=H1) (j:=k) (l:=cat W (Jv k0 H1)) (by rw [Ct,j_];exact .inl hk)
  have e:RE ρ k0 fr k=nth ρ k:=by simp [RE,BX.2 hk0]
  rw [e] at hmem;exact ji _ _ m hmem hk2
section
variable {P:gr} {O:ia} {f:gp} {fn:Func}
theorem GW (jc:P.funcs[f]? = some fn) (hbd:fn.body.isSome=true) (iq:fw fn) {s:ASpec}
  (h:∀ args H fr ie r,s args H fr ie=some r→∃ (ρ:List Nat) (iw:List AV) (H0:Heap) (k0 nw:Nat) (W:List Nat) (val:AV) (H1:Heap) (conds:du) (path':List Bool),
   r=BP ρ k0 fr nw W val H1 conds path'∧(∀ β us w,BL β args us→Good β H w→AM conds→Ab P f iw H0 k0 W val H1∧EJ k0 nw W val H1=true∧BL (A9 β ρ k0) iw us∧Good (A9 β ρ k0) H0 w∧(∀ k,k<k0→∃ X,β (nth ρ k)=some X))):BI P f s:=by
 intro args H fr ie r β us w hs hc ha hg hf;obtain ⟨ρ,iw,H0,k0,nw,W,val,H1,conds,path',rfl,hh⟩:=h args H fr ie r hs;obtain ⟨hcan,hb,ha0,hg0,hdef⟩:=hh β us w ha hg hc;refine UF jc hbd iq (Calls.mono (hcan (A9 β ρ k0) us w ha0 hg0 fun b hb=>?_) ?_)
 ·have:Nat.blt b k0=false:=by cases h:Nat.blt b k0 with | false=>rfl | true=>have:=BX.1 h;omega
  simp [A9,this]
 ·rintro e w' ⟨u,β1,rfl,ho⟩
  obtain ⟨β',he⟩:=ADb (conds:=conds) (ie:=path') hg ho hb hf hdef
  exact ⟨u,β',rfl,he⟩
def AU (P:gr) (O:ia) (fn:Func) (ir k0:Nat) (ks:List Nat) (x:h_):Option (du×List Nat×AV×Heap) :=
 match K_ P O none ir x with
 | some (g,y)=>match JB P fn y with
  | some v=>some (g.conds,EI k0 g.keys,v,restrict y.s.H ks)
  | none=>none
 | none=>none
theorem A6 {β0:Env} {w0:gn} {n:Fz} {W:List Nat} (hO:g_ P O) (hm:P.follows .mixedOrders=true) (jc:P.funcs[f]? = some fn) {ir k0:Nat} {ks ks':List Nat} {x:h_} {conds:du} {v:AV} {H1:Heap}
  (h:AU P O fn ir k0 ks x=some (conds,ks',v,H1)) (hc:AM conds) (jj:BW n x.s) (h0:∀ b,k0≤b→β0 b=none) (hks:∀ k∈ks',k∈W) (hD:n.D=[]:=by rfl):gz P f β0 w0 (BA β0 w0 W v H1) n W x:=by
 unfold AU at h;split at h;case h_2=>cases h
 rename_i g y i_;split at h;case h_2=>cases h
 rename_i v' hv;injection h with h;injection h with h1 h;injection h with h2 h;injection h with h3 h4;subst h1;subst h3;subst h4;refine Aj (W:=W) hO hm (ir:=ir) (k0:=k0) (fg:=none) (stop:=none) (ks:=ks') (y:=y) (by unfold AZ;rw [i_];simp only;rw [h2]) hc jj h0 hks fun _=>?_
 refine ADV jc hv ?_ hD
 rintro e w ⟨u,β,q0,q1⟩
 exact ⟨u,β,q0,{ q1 with good:=q1.good.restrict ks }⟩
theorem A_ (jc:P.funcs[f]? = some fn) (hb:fn.body.isSome=true) {iw:List AV} {H0:Heap} {k0:Nat} {ie:List Bool} {W:List Nat} {v:AV} {H1:Heap} (ii:Nat.ble (Fs iw) fn.ntmps=true)
  (h:∀ β0 w0,(∀ b,k0≤b→β0 b=none)→gz P f β0 w0 (BA β0 w0 W v H1) fn.ntmps W (Ak fn iw H0 k0 ie)):Ab P f iw H0 k0 W v H1 :=
 fun β _ w ha hg hf=>XH jc hb ii (gz.old (k0:=k0) hf jl (h β w hf)) ha hg hf
end
end Go.Proofs.YtgnajdcdcblaoaaGreat.Ex
namespace Go.Proofs.YtgnajdcdcblaoaaGreat.Ex
open Go.RowKit (Below)
open Go.ChangeShapes Go.WideShapes Go.ChangeAt Go.RowKit
section
variable {H:Type} {enc:gt×gq→H} {P:gr} {w:gn} {base:Nat} {spare:Nat→Bool} {held:Bool}
theorem ADc {k:IntKind} {i:Int} (h:(Lit.int k i).wf=true):has k i:=by
 simp only [Lit.wf,jx,jt] at h;exact h
end
theorem ADd {H:Type} {enc:gt×gq→H} {P:gr} {W:gn} {base:Nat} {spare:Nat→Bool} {held:Bool}:∀ {ts:List gt} {vs:List gq} {ds:List (DataW H)} {ps:List MemPlace},DataW.TrodAll enc P W base spare held ts vs ds ps→vs.length=ts.length∧ds.length=ts.length
 | [],[],[],_,_=>⟨rfl,rfl⟩
 | _::_,_::_,_::_,_,⟨_,_,_,h,_⟩=>by have:=ADd h;simp [this]
theorem ADe {H:Type} {enc:gt×gq→H} {P:gr} (hl:laidOutB P=true) {W W':gn} (hb:Below W.heap.size W W'):∀ {ts:List gt} {vs:List gq} {ds:List (DataW H)} {ps:List MemPlace},
  ts.all (fun t=>P.readableRec t&&decide (t<P.types.size))=true→DataW.TrodAll enc P W 0 (fun _=>true) true ts vs ds ps→DataW.TrodAll enc P W' 0 (fun b=>decide (b<W.heap.size)) true ts vs ds ps
 | [],[],[],_,_,h=>h
 | _::_,_::_,_::_,_,hr,⟨p,q,h1,h2,e⟩=>by
  simp only [List.all_cons,jx,jt] at hr;have jb:∀ x∈p,x.block<W.heap.size:=by obtain ⟨m,hm⟩:=h1;exact DataW.trod_lt m _ _ _ hm
  exact ⟨p,q,Below.trod hl hr.1.1 hr.1.2 h1 hb jb,ADe hl hb (by simpa using hr.2) h2,e⟩
def AO3 (s:ChangeSpec) (n:Nat):Prop:=s.vars=[]∧∀ (H:Type) (ds:List (DataW H)),ds.length=n→(s.fn H ds).results=[.lit (.bool true)]∧(s.fn H ds).args=ds∧(s.fn H ds).vars=[]
def qO (P:gr) (f:gp) (fn:Func):Prop :=
 ∀ (H:Type) (enc:gt×gq→H) (us:List gq) (W:gn) (base:Nat) (ds:List (DataW H)) (ps:List MemPlace),(∀ (j:Nat) t v,fn.params[j]? = some t→us[j]? = some v→Value.okWide P W .any base t v) →
  DataW.TrodAll enc P W 0 (fun _=>true) true fn.params.toList us ds ps→(DataW.weightsEach P fn.params.toList ds).all (· ≤ reachBytes)=true→W.noneFrozen ps→Calls P f ⟨us⟩ W fun e w'=>e=.returned (.bool true)∧Below W.heap.size W w'
theorem law_lift {C:Checked} {os:Os} {f:gp} {fn:Func} {s:ChangeSpec} {H:Type} {enc:gt×gq→H} (own:ownKnob C.prog.godebug=none) (started:os.Started) (noInit:C.prog.inits.idxOf? f=none) (jc:C.prog.funcs[f]? = some fn)
  (witness:∃ (w:gn) (tape:Tape) (i:Input),w.os=os∧(w.forCall tape i).Shaped C.prog∧i.vars=[]∧Input.okWide C.prog (w.forCall tape i) .any w.heap.size f i ∧
   s.pre6 enc C.prog fn [] false (w.forCall tape i).memory i.args∧Assume.holds {} C.prog (lone (Frame.enter C.prog f i.args .normal) [] (w.forCall tape i)))
  (hs:AO3 s fn.params.size) (htypes:s.plain.varTypes C.prog=[]) {tb:gt} (hrt:fn.resultTypes=#[tb]) (hub:C.prog.underlying tb=some .bool) (hlaid:laidOutB C.prog=true)
  (hpar:fn.params.toList.all (fun t=>C.prog.readableRec t&&decide (t<C.prog.types.size))=true) (walk:qO C.prog f fn) :
  ReturnsInHanded {} C os f .any (s.pre6 enc C.prog fn [] false) (s.post enc C.prog fn false true false false):=by
 refine returnsInHanded_of_change_sized own started noInit jc witness ?_
 intro W base args ds gs before hval hW _ hwt _;have hW':=hW;obtain ⟨p,q,hA,hV,rfl,hfz,hnd⟩:=hW;obtain ⟨hs1,hs2⟩:=hs;rw [hs1] at hV;obtain ⟨rfl,rfl⟩:=trodVars_none hV;obtain ⟨l1,l2⟩:=ADd hA;rw [htypes,lh,lh] at hwt;have e:args=⟨args.toList⟩:=rfl
 rw [e];refine (walk H enc args.toList W base ds p (fun j t v h1 h2=>hval j t v h1 (by simpa using h2)) hA hwt (by simpa using hfz)).mono fun e W' ⟨he,bel⟩=>?_
 subst he;have hds:ds.length=fn.params.size:=by rw [l2];simp
 obtain ⟨r1,r2,r3⟩:=hs2 H (ds++[]) (by rw [lh];exact hds)
 refine ⟨_,rfl,ds,[],p++[],[],p,[],hW',?_,?_,?_,bel.frame _,fun h=>by cases h⟩
 ·rw [r1,hrt];exact trodAll_mk1 (Go.RowKit.shut_bool hub _)
 ·rw [r2,lh];exact ADe hlaid bel hpar hA
 ·rw [r3,hs1];rfl
end Go.Proofs.YtgnajdcdcblaoaaGreat.Ex
namespace Go.Proofs.YtgnajdcdcblaoaaGreat.Ex
section
variable {β β':Env} {κ:Nat→Nat}
theorem ADf:∀ {caps:List (Nat×Nat)} {l:List gq},(∀ k∈caps.map (·.1),∀ X,β (κ k)=some X→β' k=some X)→F9 β (bI κ caps) l→F9 β' caps l
 | [],_,_,h=>h
 | (b,o)::r,l,hk,⟨B,n,l',h1,h2,h3⟩=>⟨B,n,l',hk b (by simp) _ h1,ADf (fun k h=>hk k (by simp at h ⊢;exact .inr h)) h2,h3⟩
theorem AO4 {c:Ch} {l:List gq} (hk:∀ k∈NX c,∀ X,β (κ k)=some X→β' k=some X) (h:BM β (XI κ c) l):BM β' c l:=by
 cases c<;>simp only [NX] at hk<;>simp only [XI,BM] at h ⊢
 case n=>exact h
 case b=>exact h
 case v=>exact h
 case p=>obtain ⟨B,n,h1,h2⟩:=h;exact ⟨B,n,hk _ (by simp) _ h1,h2⟩
 case sl =>
  rcases h with ⟨B,n,h1,h2⟩ | ⟨h1,h2⟩ | ⟨h1,h2⟩
  ·exact .inl ⟨B,n,hk _ (by simp) _ h1,h2⟩
  ·exact .inr (.inl ⟨hk _ (by simp) _ h1,h2⟩)
  ·exact .inr (.inr ⟨hk _ (by simp) _ h1,h2⟩)
 case sx =>
  rcases h with ⟨B,n,cap,h1,h2⟩ | ⟨h1,h2⟩
  ·exact .inl ⟨B,n,cap,hk _ (by simp) _ h1,h2⟩
  ·exact .inr ⟨hk _ (by simp) _ h1,h2⟩
 case num=>exact h
 case seq=>exact h
 case clo=>obtain ⟨ps,h1,h2⟩:=h;exact ⟨ps,ADf hk h1,h2⟩
 case mth=>obtain ⟨B,n,h1,h2⟩:=h;exact ⟨B,n,hk _ (by simp) _ h1,h2⟩
 case yl=>obtain ⟨B,n,h1,h2⟩:=h;exact ⟨B,n,hk _ (by simp) _ h1,h2⟩
 case mp=>obtain ⟨B,h1,h2⟩:=h;exact ⟨B,hk _ (by simp) _ h1,h2⟩
 case mk=>exact h
theorem UL:∀ {cs:List Ch} {l:List gq},(∀ k∈EG cs,∀ X,β (κ k)=some X→β' k=some X)→AP β (IT κ cs) l→AP β' cs l
 | [],_,_,h=>h
 | c::cs,l,hk,⟨l1,l2,h1,h2,h3⟩=>by
  simp only [EG,Ct,j_] at hk;exact ⟨l1,l2,AO4 (fun k h=>hk k (.inl h)) h1,UL (fun k h=>hk k (.inr h)) h2,h3⟩
theorem ADg {g:Bool} {cs:List Ch} {u:gq} (hk:∀ k∈EG cs,∀ X,β (κ k)=some X→β' k=some X) (h:Bt β g (IT κ cs) u):Bt β' g cs u:=by
 cases g
 ·exact UL hk h
 ·obtain ⟨l,h1,h2⟩:=h;exact ⟨l,UL hk h1,h2⟩
theorem ADh:∀ {xs:List (Bool×List Ch)} {l:List gq},(∀ k∈K7 xs,∀ X,β (κ k)=some X→β' k=some X)→F_ β (bJ κ xs) l→F_ β' xs l
 | [],_,_,h=>h
 | (g,cs)::xs,l,hk,⟨u,l',h1,h2,h3⟩=>by
  simp only [K7,Ct,j_] at hk;exact ⟨u,l',ADg (fun k h=>hk k (.inl h)) h1,ADh (fun k h=>hk k (.inr h)) h2,h3⟩
theorem AO5 {x:AV} {u:gq} (hk:∀ k∈Jt x,∀ X,β (κ k)=some X→β' k=some X) (h:AO β (XJ κ x) u):AO β' x u:=by
 cases x with
 | val g cs=>exact ADg hk h
 | tup xs=>obtain ⟨us,h1,h2⟩:=h;exact ⟨us,ADh hk h1,h2⟩
 | any=>trivial
end
def Jw (κ:Nat→Nat):List AV→List AV
 | []=>[]
 | x::r=>XJ κ x::Jw κ r
theorem ADi (κ:Nat→Nat):∀ (T:List AV) (t:Nat),Aq (Jw κ T) t=XJ κ (Aq T t)
 | [],_=>rfl
 | _::_,0=>rfl
 | _::r,t+1=>ADi κ r t
def IU (κ:Nat→Nat):Heap→Heap
 | []=>[]
 | (k,y)::r=>(κ k,(match y with | some b=>some ⟨b.ty,IT κ b.cs,b.opn⟩ | none=>none))::IU κ r
def Dw (k0:Nat) (ρ:List Nat):Nat→Nat:=fun k=>match Nat.blt k k0 with | true=>k | false=>nth ρ (k-k0)
def UM (n:Nat):List Nat→Bool
 | []=>true
 | k::r=>match Nat.ble n k with | true=>UM n r | false=>false
def XK:List Nat→Bool
 | []=>true
 | k::r=>match EU k r with | true=>false | false=>XK r
theorem bM {n:Nat}:∀ {l:List Nat} {i:Nat},UM n l=true→i<l.length→n≤nth l i
 | [],i,_,h=>by simp at h
 | k::r,0,h,_=>by
  simp only [UM] at h;split at h
  ·rename_i hb;exact jp hb
  ·cases h
 | k::r,i+1,h,hi=>by
  simp only [UM] at h;split at h
  ·exact bM (l:=r) h (by simpa using hi)
  ·cases h
theorem qP:∀ {l:List Nat} {i:Nat},i<l.length→nth l i∈l
 | [],i,h=>by simp at h
 | k::r,0,_=>by simp [nth]
 | k::r,i+1,h=>by simp only [nth];exact oq _ (qP (by simpa using h))
theorem ADj:∀ {l:List Nat} {i j:Nat},XK l=true→i<l.length→j<l.length→nth l i=nth l j→i=j
 | [],i,_,_,h,_,_=>by simp at h
 | k::r,i,j,h,hi,hj,e=>by
  simp only [XK] at h;split at h
  ·cases h
  ·rename_i hm;have hm':k ∉ r:=fun hk=>by rw [Q8.2 hk] at hm;cases hm
   match i,j with
   | 0,0=>rfl
   | 0,j+1=>exact absurd (by rw [show k=nth r j from e];exact qP (by simpa using hj)) hm'
   | i+1,0=>exact absurd (by rw [show k=nth r i from e.symm];exact qP (by simpa using hi)) hm'
   | i+1,j+1=>rw [ADj (l:=r) h (by simpa using hi) (by simpa using hj) e]
section
variable {P:gr} {f:gp} {β0:Env} {w0:gn} {R:Ending→gn→Prop} {n:Fz} {W:List Nat}
theorem AO6 {k0:Nat} {ρ:List Nat} (h1:UM k0 ρ=true) (h2:XK ρ=true) {a b:Nat} (ha:a<k0+ρ.length) (hb:b<k0+ρ.length) (e:Dw k0 ρ a=Dw k0 ρ b):a=b:=by
 unfold Dw at e;have lt:∀ {x:Nat},Nat.blt x k0=false→k0≤x:=fun {x} h=>by
  rcases kf x k0 with q | q
  ·rw [BX.2 q] at h;cases h
  ·exact q
 split at e<;>split at e
 ·exact e
 ·rename_i _ p _ q;have:=bM (i:=b-k0) h1 (by have:=lt q;omega)
  have:=BX.1 p;omega
 ·rename_i _ p _ q;have:=bM (i:=a-k0) h1 (by have:=lt p;omega)
  have:=BX.1 q;omega
 ·rename_i _ p _ q;have:=ADj h2 (by have:=lt p;omega) (by have:=lt q;omega) e
  have:=lt p;have:=lt q;omega
theorem ADk {κ:Nat→Nat} {m:Nat} (hinj:∀ a b,a<m→b<m→κ a=κ b→a=b):∀ {H:Heap} {j:Nat},(∀ k y,(k,y)∈H→k<m)→j<m→AF (IU κ H) (κ j)=(AF H j).map fun b=>⟨b.ty,IT κ b.cs,b.opn⟩
 | [],_,_,_=>rfl
 | (k,y)::r,j,hk,hj=>by
  have hkm:=hk k y (by simp)
  simp only [IU,AF];by_cases e:k=j
  ·subst e;have q1:Nat.beq (κ k) (κ k)=true:=Ar.2 rfl
   have q2:Nat.beq k k=true:=Ar.2 rfl
   rw [q1,q2];cases y<;>rfl
  ·have q2:Nat.beq k j=false:=GA e
   have q1:Nat.beq (κ k) (κ j)=false:=GA fun h=>e (hinj k j hkm hj h)
   rw [q1,q2];exact ADk hinj (fun k y h=>hk k y (by simp [h])) hj
def Nl (m:Nat):Heap→Bool
 | []=>true
 | (k,y)::r=>match Nat.blt k m with
  | true=>match y with
   | some b=>match LA m (EG b.cs) with | true=>Nl m r | false=>false
   | none=>Nl m r
  | false=>false
theorem ADl {m:Nat}:∀ {H:Heap} {k:Nat} {y:Option ib},Nl m H=true→(k,y)∈H→k<m
 | [],_,_,_,h=>by cases h
 | (j,z)::r,k,y,h,hm=>by
  simp only [Nl] at h;split at h
  ·rename_i hj;have hr:Nl m r=true:=by
    split at h
    ·split at h
     ·exact h
     ·cases h
    ·exact h
   rcases ka.1 hm with e | e
   ·injection e with e1 e2;rw [e1];exact BX.1 hj
   ·exact ADl hr e
  ·cases h
theorem ADm {m:Nat}:∀ {H:Heap} {k:Nat} {b:ib},Nl m H=true→AF H k=some b→k<m∧∀ x∈EG b.cs,x<m
 | [],_,_,_,h=>by cases h
 | (j,z)::r,k,b,h,hm=>by
  simp only [Nl] at h;simp only [AF] at hm;split at h
  ·rename_i hj;split at hm
   ·rename_i e;subst hm;simp only at h
    split at h
    ·rename_i hc;exact ⟨by rw [← Ar.1 e];exact BX.1 hj,UH hc⟩
    ·cases h
   ·have hr:Nl m r=true:=by
     split at h
     ·split at h
      ·exact h
      ·cases h
     ·exact h
    exact ADm hr hm
  ·cases h
def ADn (k0:Nat) (ρ:List Nat) (m:Nat) (T:List AV) (H:Heap):Bool:=Nat.beq m (k0+ρ.length)&&(UM k0 ρ&&(XK ρ&&(UG m T&&Nl m H)))
theorem Nm {k0 m:Nat} {ρ:List Nat} {todo:List Item} {T:List AV} {H:Heap} {fr:Nat} {p:List Bool} (hb:ADn k0 ρ m T H=true) (h0:∀ b,k0≤b→β0 b=none)
  (hs:gz P f β0 w0 R n W ⟨todo,⟨T,H,m,p⟩⟩):gz P f β0 w0 R n W ⟨todo,⟨Jw (Dw k0 ρ) T,IU (Dw k0 ρ) H,fr,p⟩⟩:=by
 unfold ADn at hb;simp only [jx] at hb;obtain ⟨hm,h1,h2,h3,h4⟩:=hb;have hm:=Ar.1 hm;intro β a w hi _
 let κ:=Dw k0 ρ
 let β':Env:=fun k=>match Nat.blt k m with | true=>β (κ k) | false=>none
 have bl:∀ {k},k<m→β' k=β (κ k):=fun {k} h=>by
  show (match Nat.blt k m with | true=>β (κ k) | false=>none)=_
  rw [BX.2 h]
 have bs:∀ {k X},β' k=some X→k<m∧β (κ k)=some X:=fun {k X} h=>by
  change (match Nat.blt k m with | true=>β (κ k) | false=>none)=some X at h
  split at h
  ·rename_i hb;exact ⟨BX.1 hb,h⟩
  ·cases h
 have hinj:∀ a b,a<m→b<m→κ a=κ b→a=b:=fun a b ha hb e=>AO6 h1 h2 dn dn e
 have old:∀ {k},k<k0→κ k=k:=fun {k} h=>by show Dw k0 ρ k=k;unfold Dw;rw [BX.2 h]
 have new:∀ {k},k0≤k→k<m→k0≤κ k:=fun {k} h hk=>by
  show k0≤Dw k0 ρ k;unfold Dw;split
  ·exact h
  ·exact bM h1 dn
 have hg:∀ j,j<m→AF (IU κ H) (κ j)=(AF H j).map fun b=>⟨b.ty,IT κ b.cs,b.opn⟩:=fun j hj=>ADk hinj (fun k y h=>ADl h4 h) hj
 refine hs β' a w { hi with tmp:=fun t=>?_,good:=⟨fun b blk hb=>?_,fun b b' B n n' q1 q2 q3 q4=>?_,fun b B n q=>hi.good.lt _ _ _ (bs q).2⟩,new:=fun b X hb=>?_,ext:=fun b X hb=>?_ } fun b hb=>?_
 ·have ht:=hi.tmp t;simp only at ht
  rw [ADi] at ht;have hk:=qK (t:=t) h3
  exact AO5 (fun k hkk X hX=>by rw [bl (hk k hkk)];exact hX) ht
 ·simp only at hb
  obtain ⟨hbm,hbk⟩:=ADm h4 hb;have hg':=hg b hbm;rw [hb] at hg';rcases hi.good.heap (κ b) _ hg' with ⟨B,n,l,t,pre,ty,fz,e1,e2,e3,e4,e5⟩ | ⟨X,e1,e2,e3⟩ | ⟨B,l,es,q,e1,e2,e3,e4⟩
  ·exact .inl ⟨B,n,l,t,pre,ty,fz,by rw [bl hbm];exact e1,UL (fun k hkk X hX=>by rw [bl (hbk k hkk)];exact hX) e2,e3,e4,e5⟩
  ·exact .inr (.inl ⟨X,by rw [bl hbm];exact e1,e2,UL (fun k hkk X hX=>by rw [bl (hbk k hkk)];exact hX) e3⟩)
  ·exact .inr (.inr ⟨B,l,es,q,by rw [bl hbm];exact e1,e2,UL (fun k hkk X hX=>by rw [bl (hbk k hkk)];exact hX) e3,e4⟩)
 ·simp only at q1 q2
  obtain ⟨d,hd,hr⟩:=GU q1;obtain ⟨d',hd'⟩:=mc.1 q2;have m1:=(bs q3).1
  have m2:=(bs q4).1
  refine hinj b b' m1 m2 (hi.good.inj _ _ B n n' (GC (blk:=⟨d.ty,IT κ d.cs,d.opn⟩) (by rw [hg b m1,hd];rfl) hr) (by rw [hg b' m2,hd'];rfl) (bs q3).2 (bs q4).2)
 ·obtain ⟨hbm,hX⟩:=bs hb;rcases kf b k0 with jb | hge
  ·rw [old jb] at hX;exact hi.new b X hX
  ·rcases hi.new _ X hX with q | q
   ·rw [h0 _ (new hge hbm)] at q;cases q
   ·exact .inr q
 ·have jb:b<k0:=by
   rcases kf b k0 with h | h
   ·exact h
   ·rw [h0 b h] at hb;cases hb
  rw [bl dn,old jb];exact hi.ext b X hb
 ·show (match Nat.blt b m with | true=>β (κ b) | false=>none)=none
  have:Nat.blt b m=false:=by
   cases hq:Nat.blt b m with
   | false=>rfl
   | true=>have:=BX.1 hq;simp only at hb;omega
  rw [this]
def RG (k sz:Nat):List Nat→Nat→List AV→List AV
 | _,_,[]=>[]
 | ts,i,x::r=>(match EU i ts,x with
  | true,.val false [.v (.slice none 0 0)]=>.val false [.sx k 0 sz]
  | _,y=>y)::RG k sz ts (i+1) r
theorem ADo (k sz:Nat) (ts:List Nat):∀ (T:List AV) (i t:Nat),Aq (RG k sz ts i T) t=Aq T t∨(Aq T t=.val false [.v (.slice none 0 0)]∧Aq (RG k sz ts i T) t=.val false [.sx k 0 sz])
 | [],_,_=>.inl rfl
 | x::r,i,0=>by
  simp only [RG,Aq];split
  ·exact .inr ⟨rfl,rfl⟩
  ·exact .inl rfl
 | x::r,i,t+1=>ADo k sz ts r (i+1) t
theorem bO {ts:List Nat} {sz:Nat} {ty:gt} {kd:IntKind} {todo:List Item} {T:List AV} {H:Heap} {fr:Nat} {p:List Bool} (hw:AF H fr=none) (h0:β0 fr=none)
  (hs:gz P f β0 w0 R n W ⟨todo,⟨RG fr sz ts 0 T,H++[(fr,some ⟨ty,[.seq kd []],true⟩)],fr+1,p⟩⟩):gz P f β0 w0 R n W ⟨todo,⟨T,H,fr,p⟩⟩:=by
 intro β a w hi hf;have hfr:β fr=none:=hf fr (ju _)
 let β':Env:=fun k=>match Nat.beq k fr with | true=>some Loc.nil | false=>β k
 have bo:∀ {k},k≠fr→β' k=β k:=fun {k} h=>by
  show (match Nat.beq k fr with | true=>some Loc.nil | false=>β k)=_
  rw [GA h]
 have bn:β' fr=some Loc.nil:=by
  show (match Nat.beq fr fr with | true=>some Loc.nil | false=>β fr)=_
  rw [Ar.2 rfl]
 have le:Env.le β β':=fun b X h=>by
  rw [bo fun e=>by rw [e,hfr] at h;cases h];exact h
 have app:∀ (H:Heap) (b:Nat),(b≠fr→AF (H++[(fr,some (⟨ty,[.seq kd []],true⟩:ib))]) b=AF H b)∧(AF H fr=none→AF (H++[(fr,some (⟨ty,[.seq kd []],true⟩:ib))]) fr=some ⟨ty,[.seq kd []],true⟩∨AF (H++[(fr,some (⟨ty,[.seq kd []],true⟩:ib))]) fr=none):=by
  intro H b;induction H with
  | nil =>
   refine ⟨fun hb=>by simp [AF,GA (Ne.symm hb)],fun _=>.inl (by simp [AF])⟩
  | cons e r ih =>
   obtain ⟨k,y⟩:=e;refine ⟨fun hb=>?_,fun h=>?_⟩
   ·simp only [n_,AF];rw [ih.1 hb]
   ·simp only [n_,AF] at h ⊢;split at h
    ·right;simpa using h
    ·exact ih.2 h
 refine hs β' a w { hi with tmp:=fun t=>?_,good:=⟨fun b blk hb=>?_,fun b b' B n n' q1 q2 q3 q4=>?_,fun b B n q=>?_⟩,new:=fun b X hb=>?_,ext:=Env.le_trans hi.ext le } fun b hb=>?_
 ·simp only
  have ht:=hi.tmp t;simp only at ht
  rcases ADo fr sz ts T 0 t with e | ⟨e1,e2⟩
  ·rw [e];exact HI le ht
  ·rw [e1] at ht;rw [e2];obtain ⟨l1,l2,⟨q1,_⟩,q2,q3⟩:=ht;exact ⟨l1,l2,.inr ⟨bn,rfl,q1⟩,q2,q3⟩
 ·simp only at hb
  by_cases e:b=fr
  ·subst e;rcases (app H b).2 hw with q | q
   ·rw [q] at hb;injection hb with hb;subst hb;exact .inr (.inl ⟨.nil,bn,Or.inl rfl,⟨[],[],⟨rfl,by simp⟩,rfl,rfl⟩⟩)
   ·rw [q] at hb;cases hb
  ·rw [(app H b).1 e] at hb;exact Zz le (hi.good.heap b blk hb)
 ·simp only at q1 q2
  have e1:b≠fr:=fun e=>by rw [e,bn] at q3;cases q3
  have e2:b'≠fr:=fun e=>by rw [e,bn] at q4;cases q4
  rw [bo e1] at q3;rw [bo e2] at q4;obtain ⟨d,hd,hr⟩:=GU q1;rw [(app H b).1 e1] at hd;rw [(app H b').1 e2] at q2;exact hi.good.inj b b' B n n' (GC hd hr) q2 q3 q4
 ·by_cases e:b=fr
  ·rw [e,bn] at q;cases q
  ·rw [bo e] at q;exact hi.good.lt b B n q
 ·by_cases e:b=fr
  ·rw [e,bn] at hb;injection hb with hb;subst hb;exact .inr fun B m h=>by cases h
  ·rw [bo e] at hb;exact hi.new b X hb
 ·have e:b≠fr:=by simp only at hb;omega
  rw [bo e];exact hf b (by simp only at hb ⊢;omega)
end
def ADp:List AV→Bool
 | []=>false
 | .val false [.v (.slice none 0 0)]::_=>true
 | _::r=>ADp r
def qQ (k:Nat):List AV→List AV
 | []=>[]
 | x::r=>(match x with
  | .val false [.v (.slice none 0 0)]=>.val false [.sl k 0 0 0]
  | y=>y)::qQ k r
def D3 (s:ASpec):ASpec:=fun args H fr ie=>match ADp args with
 | true=>match s (qQ fr args) ((fr,some ⟨Br,[],false⟩)::H) (fr+1) ie with
  | some r=>some { r with nw:=r.nw+1 }
  | none=>none
 | false=>s args H fr ie
theorem EK {P:gr} {f:gp} {s:ASpec} (h:BI P f s):BI P f (D3 s):=by
 intro args H fr ie r β us w hs hc ha hg hf;unfold D3 at hs;split at hs;case h_2=>exact h args H fr ie r β us w hs hc ha hg hf
 split at hs;case h_2=>cases hs
 rename_i r1 hr1;injection hs with hs;subst hs;have hfr:β fr=none:=hf fr (ju _) (by show fr<fr+(r1.nw+1);omega)
 let β1:Env:=fun k=>match Nat.beq k fr with | true=>some Loc.nil | false=>β k
 have bo:∀ {k},k≠fr→β1 k=β k:=fun {k} h=>by
  show (match Nat.beq k fr with | true=>some Loc.nil | false=>β k)=_
  rw [GA h]
 have bn:β1 fr=some Loc.nil:=by
  show (match Nat.beq fr fr with | true=>some Loc.nil | false=>β fr)=_
  rw [Ar.2 rfl]
 have le:Env.le β β1:=fun b X h=>by
  rw [bo fun e=>by rw [e,hfr] at h;cases h];exact h
 have hargs:∀ {args:List AV} {us:List gq},BL β args us→BL β1 (qQ fr args) us:=by
  intro args;induction args with
  | nil=>intro us h;exact h
  | cons x r ih =>
   rintro us ⟨u,us',h1,h2,h3⟩
   refine ⟨u,us',?_,ih h2,h3⟩
   split
   ·obtain ⟨l1,l2,⟨q1,_⟩,q2,q3⟩:=h1;exact ⟨l1,l2,.inr (.inl ⟨bn,rfl,rfl,rfl,q1⟩),q2,q3⟩
   ·exact HI le h1
 have hgood:Good β1 ((fr,some ⟨Br,[],false⟩)::H) w:=by
  have at_:∀ {b B n},β1 b=some (.at_ B n)→b≠fr∧β b=some (.at_ B n):=fun {b B n} q=>by
   have e:b≠fr:=fun e=>by rw [e,bn] at q;cases q
   exact ⟨e,by rwa [bo e] at q⟩
  have hh:∀ {b},b≠fr→AF ((fr,some (⟨Br,[],false⟩:ib))::H) b=AF H b:=fun {b} e=>by simp only [AF];rw [GA (Ne.symm e)]
  refine ⟨fun b blk hb=>?_,fun b b' B n n' q1 q2 q3 q4=>?_,fun b B n q=>hg.lt _ _ _ (at_ q).2⟩
  ·by_cases e:b=fr
   ·subst e;simp only [AF] at hb;rw [Ar.2 rfl] at hb;injection hb with hb;subst hb;exact .inr (.inl ⟨.nil,bn,Or.inr rfl,rfl⟩)
   ·rw [hh e] at hb;exact Zz le (hg.heap b blk hb)
  ·obtain ⟨e1,q3⟩:=at_ q3;obtain ⟨e2,q4⟩:=at_ q4;obtain ⟨d,hd,hr⟩:=GU q1;rw [hh e1] at hd;rw [hh e2] at q2;exact hg.inj b b' B n n' (GC hd hr) q2 q3 q4
 have:=h _ _ _ _ r1 β1 us w hr1 hc (hargs ha) hgood fun b h1 h2=>by
  rw [bo dn];exact hf b dn (by show b<fr+(r1.nw+1);omega)
 have mono:∀ e w',aK β1 (fr+1) r1 w e w'→aK β fr { r1 with nw:=r1.nw+1 } w e w':=by
  rintro e w' ⟨u,β',rfl,he⟩
  have bf:β' fr=some Loc.nil:=he.ext fr _ bn
  refine ⟨u,β',rfl,{ he with ext:=Env.le_trans le he.ext,new:=fun b X q=>?_,inj:=fun b b' B n n' q1 q2 q3 q4 q5 q6=>?_,frame:=fun B hB ji=>he.frame B hB fun k y n hk hk2=>?_ }⟩
  ·rcases he.new b X q with q' | ⟨q1,q2,q3⟩
   ·by_cases e:b=fr
    ·subst e;rw [bn] at q';injection q' with q';subst q';exact .inr ⟨ju _,(by show b<b+(r1.nw+1);omega),fun B n h=>by cases h⟩
    ·rw [bo e] at q';exact .inl q'
   ·refine .inr ⟨dn,(by show b<fr+(r1.nw+1);omega),fun B n e=>?_⟩
    rcases q3 B n e with q | ⟨k,m,k1,k2⟩
    ·exact .inl q
    ·refine .inr ⟨k,m,k1,?_⟩
     rwa [bo fun e=>by rw [e,bn] at k2;cases k2] at k2
  ·have e1:b≠fr:=fun e=>by rw [e,bf] at q5;cases q5
   have e2:b'≠fr:=fun e=>by rw [e,bf] at q6;cases q6
   change b<fr+(r1.nw+1) at q3
   change b'<fr+(r1.nw+1) at q4
   exact he.inj b b' B n n' dn dn dn dn q5 q6
  ·have e:k≠fr:=fun e=>by rw [e,bn] at hk2;cases hk2
   rw [bo e] at hk2;exact ji k y n hk hk2
 unfold NW at this ⊢
 split at this
 ·exact mono _ _ this
 ·exact Calls.mono this fun e w' h=>mono e w' h
 ·exact this
def MW (fr:Nat) (H H1:Heap):List Nat→Bool
 | []=>true
 | k::r=>match Nat.blt k fr with
  | true=>match AF H k with | some _=>MW fr H H1 r | none=>false
  | false=>match AF H1 k with | some _=>MW fr H H1 r | none=>false
theorem qS {fr:Nat} {H H1:Heap}:∀ {l:List Nat},MW fr H H1 l=true→∀ k∈l,(k<fr∧(AF H k).isSome=true)∨(fr≤k∧(AF H1 k).isSome=true)
 | [],_,k,h=>by cases h
 | x::r,h,k,hk=>by
  simp only [MW] at h;split at h
  ·rename_i hb;split at h
   ·rename_i b hg;rcases ka.1 hk with rfl | hk
    ·exact .inl ⟨BX.1 hb,by rw [hg];rfl⟩
    ·exact qS h k hk
   ·cases h
  ·rename_i hb;split at h
   ·rename_i b hg;rcases ka.1 hk with rfl | hk
    ·refine .inr ⟨?_,by rw [hg];rfl⟩
     rcases kf k fr with q | q
     ·rw [BX.2 q] at hb;cases hb
     ·exact q
    ·exact qS h k hk
   ·cases h
def RJ (fr:Nat) (H H1:Heap):List Nat→Bool
 | []=>true
 | k::r=>match AF H1 k with
  | some b=>match MW fr H H1 (EG b.cs),Nat.beq b.ty Br with | true,false=>RJ fr H H1 r | _,_=>false
  | none=>RJ fr H H1 r
theorem XL {fr:Nat} {H H1:Heap}:∀ {l:List Nat},RJ fr H H1 l=true→∀ k∈l,∀ b,AF H1 k=some b→MW fr H H1 (EG b.cs)=true∧b.ty≠Br
 | [],_,k,h=>by cases h
 | x::r,h,k,hk=>by
  intro b' hb';simp only [RJ] at h;split at h
  ·rename_i b hb;split at h
   ·rename_i hok hro;rcases ka.1 hk with rfl | hk
    ·rw [hb] at hb';injection hb' with hb';subst hb';exact ⟨hok,Z5 hro⟩
    ·exact XL h k hk b' hb'
   ·cases h
  ·rename_i hb;rcases ka.1 hk with rfl | hk
   ·rw [hb] at hb';cases hb'
   ·exact XL h k hk b' hb'
def RK (H1:Heap):List Nat→List Nat
 | []=>[]
 | k::r=>match AF H1 k with | some _=>k::RK H1 r | none=>RK H1 r
theorem qU {H1:Heap} {k:Nat}:∀ {l:List Nat},k∈l→(AF H1 k).isSome=true→k∈RK H1 l
 | x::r,h,hs=>by
  simp only [RK];rcases ka.1 h with rfl | h
  ·obtain ⟨b,hb⟩:=mc.1 hs;rw [hb];simp
  ·split
   ·exact oq _ (qU h hs)
   ·exact qU h hs
theorem qV {H1:Heap} {k:Nat}:∀ {l:List Nat},k∈RK H1 l→k∈l
 | x::r,h=>by
  simp only [RK] at h;split at h
  ·rcases ka.1 h with rfl | h
   ·simp
   ·exact oq _ (qV h)
  ·exact oq _ (qV h)
def RM (fr:Nat) (H1:Heap):List Nat:=RK H1 (Jv fr H1)
def PQ (H1:Heap):List Nat→Heap
 | []=>[]
 | k::r=>(k,AF H1 k)::PQ H1 r
theorem ADq {H1:Heap} {k:Nat} {y:Option ib}:∀ {l:List Nat},(k,y)∈PQ H1 l→k∈l∧y=AF H1 k
 | [],h=>by cases h
 | x::r,h=>by
  simp only [PQ,ka,kp] at h;rcases h with ⟨rfl,h2⟩ | h
  ·exact ⟨by simp,h2⟩
  ·obtain ⟨h1,h2⟩:=ADq h;exact ⟨by simp [h1],h2⟩
theorem qW {H1:Heap} {k:Nat}:∀ {l:List Nat},k∈l→(k,AF H1 k)∈PQ H1 l
 | x::r,h=>by
  simp only [PQ,ka];rcases ka.1 h with rfl | h
  ·exact .inl rfl
  ·exact .inr (qW h)
theorem bP {k0:Nat}:∀ {l:List Nat},∀ k∈EI k0 l,k<k0
 | [],k,h=>by cases h
 | x::r,k,h=>by
  simp only [EI] at h;split at h
  ·rename_i hb _;rcases ka.1 h with rfl | h
   ·exact BX.1 hb
   ·exact bP k h
  ·exact bP k h
def XM (n:Nat):List AV→Bool
 | []=>true
 | x::r=>match LA n (Jt x) with | true=>XM n r | false=>false
theorem qZ {β β':Env} {n:Nat} (he:∀ k,k<n→β' k=β k):∀ {args:List AV} {us:List gq},XM n args=true→BL β args us→BL β' args us
 | [],_,_,h=>h
 | x::r,us,hb,⟨u,us',h1,h2,h3⟩=>by
  simp only [XM] at hb;split at hb
  ·rename_i hx;exact ⟨u,us',qJ (fun k hk=>he k (UH hx k hk)) h1,qZ he hb h2,h3⟩
  ·cases hb
def Ft (fr:Nat):Heap→Heap
 | []=>[]
 | (k,none)::r=>(k,none)::Ft fr r
 | (k,some b)::r=>match Nat.blt k fr,Nat.beq b.ty Br with
  | false,true=>(k,none)::Ft fr r
  | _,_=>(k,some b)::Ft fr r
theorem bQ {fr:Nat}:∀ {H:Heap} {k:Nat} {b:ib},AF (Ft fr H) k=some b→AF H k=some b
 | [],_,_,h=>h
 | (j,none)::r,k,b,h=>by
  simp only [Ft,AF] at h ⊢;split
  ·rename_i e;rw [e] at h;exact h
  ·rename_i e;rw [e] at h;exact bQ h
 | (j,some x)::r,k,b,h=>by
  simp only [Ft] at h;split at h
  ·simp only [AF] at h ⊢;split
   ·rename_i e;rw [e] at h;cases h
   ·rename_i e;rw [e] at h;exact bQ h
  ·simp only [AF] at h ⊢;split
   ·rename_i e;rw [e] at h;exact h
   ·rename_i e;rw [e] at h;exact bQ h
theorem Good.sub {β:Env} {H H':Heap} {w:gn} (g:Good β H w) (h:∀ b blk,AF H' b=some blk→AF H b=some blk):Good β H' w :=
 ⟨fun b blk hb=>g.heap b blk (h b blk hb),fun b b' B n n' h1 h2 h3 h4=>by
  obtain ⟨x,hx,hr⟩:=GU h1;obtain ⟨y,hy⟩:=mc.1 h2;exact g.inj b b' B n n' (GC (h _ _ hx) hr) (by rw [h _ _ hy];rfl) h3 h4,g.lt⟩
theorem Out.drop {β0 β:Env} {w0 w:gn} {W:List Nat} {val:AV} {H:Heap} {u:gq} {fr:Nat} (o:Out β0 w0 W val H u w β):Out β0 w0 W val (Ft fr H) u w β:={ o with good:=o.good.sub fun _ _ h=>bQ h }
def BF (P:gr) (O:ia) (fn:Func) (ir:Nat):ASpec:=fun args H fr ie =>
 match fn.body with
 | some c=>match K_ P O none ir ⟨[.code c],⟨GV args fn.ntmps,H,fr,ie⟩⟩ with
  | some (g,y)=>match JB P fn y,Nat.ble (Fs args) fn.ntmps&&(XM fr args&&(Ju fr H&&(Ju y.s.fr (Ft fr y.s.H)&&Nat.ble fr y.s.fr))) with
   | some v,true=>match MW fr H (Ft fr y.s.H) (cat (Jt v) (EI fr g.keys)),RJ fr H (Ft fr y.s.H) (cat (EI fr g.keys) (RM fr (Ft fr y.s.H))) with
    | true,true=>some ⟨v,PQ (Ft fr y.s.H) (cat (EI fr g.keys) (RM fr (Ft fr y.s.H))),y.s.fr-fr,g.conds,y.s.ie⟩
    | _,_=>none
   | _,_=>none
  | none=>none
 | none=>none
theorem ADr {β:Env} {w w':gn} {fr fr':Nat} {W:List Nat} {v:AV} {H H1:Heap} {u:gq} {β1:Env} {conds:du} {ie:List Bool} (g:Good β H w) (ho:Out (LB β fr) w W v H1 u w' β1) (hW:∀ k∈W,k<fr)
  (hl:Ju fr' H1=true) (je:fr≤fr') (ov:MW fr H H1 (cat (Jt v) W)=true) (ob:RJ fr H H1 (cat W (RM fr H1))=true) (hf:∀ b,fr≤b→b<fr'→β b=none) :
  ∃ β',Eff β fr ⟨v,PQ H1 (cat W (RM fr H1)),fr'-fr,conds,ie⟩ w u w' β':=by
 let β':Env:=fun b=>match Nat.ble fr b&&Nat.blt b fr',AF H1 b with
  | true,some _=>β1 b
  | true,none=>none
  | false,_=>β b
 have out:∀ b,¬ (fr≤b∧b<fr')→β' b=β b:=by
  intro b hb;have:(Nat.ble fr b&&Nat.blt b fr')=false:=by
   cases h:Nat.ble fr b&&Nat.blt b fr' with
   | false=>rfl
   | true =>
    have:=jy.1 h
    exact absurd ⟨jp this.1,BX.1 this.2⟩ hb
  show (match Nat.ble fr b&&Nat.blt b fr',AF H1 b with | true,some _=>β1 b | true,none=>none | false,_=>β b)=β b
  rw [this]
 have inn:∀ b,fr≤b→b<fr'→∀ X,β' b=some X→(AF H1 b).isSome=true∧β1 b=some X:=by
  intro b h1 h2 X hX;have:(Nat.ble fr b&&Nat.blt b fr')=true:=by rw [jr h1,BX.2 h2];rfl
  change (match Nat.ble fr b&&Nat.blt b fr',AF H1 b with | true,some _=>β1 b | true,none=>none | false,_=>β b)=some X at hX
  rw [this] at hX;cases hq:AF H1 b with
  | none=>rw [hq] at hX;cases hX
  | some y=>rw [hq] at hX;exact ⟨rfl,hX⟩
 have hlive:∀ k,(AF H1 k).isSome=true→k<fr':=by
  intro k hk;obtain ⟨b,hb⟩:=mc.1 hk;exact (LD hl hb).1
 have newr:∀ k,fr≤k→(AF H1 k).isSome=true→GT H1 k=true:=by
  intro k hk hs;obtain ⟨b,hb⟩:=mc.1 hs;exact GC hb (XL ob k (by rw [Ct,j_];exact .inr (qU (qN hb hk) hs)) b hb).2
 have new1:∀ k,fr≤k→(AF H1 k).isSome=true→β' k=β1 k:=by
  intro k hk hs;have:(Nat.ble fr k&&Nat.blt k fr')=true:=by rw [jr hk,BX.2 (hlive k hs)];rfl
  show (match Nat.ble fr k&&Nat.blt k fr',AF H1 k with | true,some _=>β1 k | true,none=>none | false,_=>β k)=β1 k
  rw [this];obtain ⟨y,hy⟩:=mc.1 hs;rw [hy]
 have old1:∀ k,k<fr→(AF H k).isSome=true→β' k=β1 k:=by
  intro k hk hs;obtain ⟨b,hb⟩:=mc.1 hs;rw [out k (fun q=>by omega)]
  have hq:∃ X,β k=some X:=by
   rcases g.heap k b hb with ⟨B,n,_,_,_,_,_,h,_⟩ | ⟨_,h,_⟩ | ⟨B,_,_,_,h,_⟩<;>exact ⟨_,h⟩
  obtain ⟨X,hX⟩:=hq;rw [hX,ho.ext k X (by rw [EB hk];exact hX)]
 have occ:∀ l,MW fr H H1 l=true→∀ k∈l,β' k=β1 k:=by
  intro l hl k hk;rcases qS hl k hk with ⟨h1,h2⟩ | ⟨h1,h2⟩
  ·exact old1 k h1 h2
  ·exact new1 k h1 h2
 have ext0:Env.le β β':=by
  intro b X hb;rw [out b (fun h=>by rw [hf b h.1 h.2] at hb;cases hb)]
  exact hb
 have hsub:fr+(fr'-fr)=fr':=dn
 refine ⟨β',ext0,?_,?_,?_,?_,?_,?_,ho.size,ho.os,ho.tape,ho.output⟩
 ·intro b X hX;by_cases hr:fr≤b∧b<fr'
  ·obtain ⟨hl,h1⟩:=inn b hr.1 hr.2 X hX;refine .inr ⟨hr.1,by simp only [hsub];exact hr.2,fun B n e=>?_⟩
   subst e;rcases ho.new _ _ h1 with h | h
   ·rw [RC hr.1] at h;cases h
   ·rcases h B n rfl with h | ⟨k,m',hk,hk2⟩
    ·exact .inl h
    ·have hk0:=hW k hk;have hkW:k∈cat W (RM fr H1):=by rw [Ct,j_];exact .inl hk
     cases hbb:AF H1 k with
     | some bb =>
      have:=ho.good.inj _ _ _ _ _ (GC hbb (XL ob k hkW bb hbb).2) hl (ho.ext k _ hk2) h1
      omega
     | none =>
      rw [EB hk0] at hk2;exact .inr ⟨k,m',by rw [← hbb];exact qW hkW,hk2⟩
  ·rw [out b hr] at hX;exact .inl hX
 ·intro b B n hX;by_cases hr:fr≤b∧b<fr'
  ·exact ho.good.lt _ _ _ (inn b hr.1 hr.2 _ hX).2
  ·rw [out b hr] at hX;exact li (g.lt _ _ _ hX) ho.size
 ·intro b b' B n n' h1 h2 h3 h4 h5 h6;simp only [hsub] at h3 h4;obtain ⟨l1,q1⟩:=inn b h1 h3 _ h5;obtain ⟨l2,q2⟩:=inn b' h2 h4 _ h6;exact ho.good.inj _ _ _ _ _ (newr _ h1 l1) l2 q1 q2
 ·exact qJ (fun k hk=>occ _ ov k (by rw [Ct,j_];exact .inl hk)) ho.val
 ·intro k y hk;obtain ⟨hj,e2⟩:=ADq hk;have hbb:AF H1 k=some y:=e2.symm
  obtain ⟨hok,_⟩:=XL ob k hj y hbb;have hkk:β' k=β1 k:=by
   rw [Ct,j_] at hj;rcases hj with hj | hj
   ·exact occ _ ov k (by rw [Ct,j_];exact .inr hj)
   ·exact new1 k (qL (qV hj)) (by rw [hbb];rfl)
  rcases ho.good.heap k _ hbb with ⟨B,n,l,t,pre,ty,fz,q1,q2,q3⟩ | ⟨X,q1,q2,q3⟩ | ⟨B,l,es,q,q1,q2,q3,q4⟩
  ·exact .inl ⟨B,n,l,t,pre,ty,fz,by rw [hkk];exact q1,Ho (fun k hk=>occ _ hok k hk) q2,q3⟩
  ·exact .inr (.inl ⟨X,by rw [hkk];exact q1,q2,Ho (fun k hk=>occ _ hok k hk) q3⟩)
  ·exact .inr (.inr ⟨B,l,es,q,by rw [hkk];exact q1,q2,Ho (fun k hk=>occ _ hok k hk) q3,q4⟩)
 ·intro B hB ji;refine ho.frame B hB fun k m hk hk2=>?_
  have hk0:=hW k hk;rw [EB hk0] at hk2;exact ji k _ m (qW (by rw [Ct,j_];exact .inl hk)) hk2
section
variable {P:gr} {O:ia} (hO:g_ P O) (hm:P.follows .mixedOrders=true) {f:gp} {fn:Func}
include hO hm in
theorem BJ (jc:P.funcs[f]? = some fn) (hb:fn.body.isSome=true) (iq:fw fn) (ir:Nat):BI P f (BF P O fn ir):=by
 intro args H fr ie r β us w hs hc ha hg hf;unfold BF at hs;split at hs;case h_2=>cases hs
 rename_i c hbody;split at hs;case h_2=>cases hs
 rename_i g y i_;split at hs;case h_2=>cases hs
 rename_i v hv hchk;split at hs;case h_2=>cases hs
 rename_i hov hob;injection hs with hs;subst hs;simp only [jx] at hchk;obtain ⟨c1,c2,c3,c4,c5⟩:=hchk;have je:=jp c5;have ii:=jp c1;rw [JA] at ii;have hg0:Good (LB β fr) H w:=by
  refine ⟨fun b blk hb=>?_,fun b b' B n n' h1 h2 h3 h4=>hg.inj b b' B n n' h1 h2 (LC h3).1 (LC h4).1,fun b B n h=>hg.lt b B n (LC h).1⟩
  obtain ⟨e1,e2⟩:=LD c3 hb;rcases hg.heap b blk hb with ⟨B,n,l,t,pre,ty,fz,q1,q2,q3⟩ | ⟨X,q1,q2,q3⟩ | ⟨B,l,es,q,q1,q2,q3,q4⟩
  ·exact .inl ⟨B,n,l,t,pre,ty,fz,by rw [EB e1];exact q1,Ho (fun k hk=>EB (e2 k hk)) q2,q3⟩
  ·exact .inr (.inl ⟨X,by rw [EB e1];exact q1,q2,Ho (fun k hk=>EB (e2 k hk)) q3⟩)
  ·exact .inr (.inr ⟨B,l,es,q,by rw [EB e1];exact q1,q2,Ho (fun k hk=>EB (e2 k hk)) q3,q4⟩)
 have jj:BW fn.ntmps (⟨GV args fn.ntmps,H,fr,ie⟩:St):=by
  refine ⟨fun b hb=>?_,?_⟩
  ·cases hq:AF H b with
   | none=>rfl
   | some blk=>have:=(LD c3 hq).1;simp only at hb;omega
  ·simp only [GV,UE,JA,ku,XE];omega
 refine UF jc hb iq (Calls.mono (XF (R:=BA (LB β fr) w (EI fr g.keys) v y.s.H) (fr:=fr) (ie:=ie) jc hbody ii ?_ (qZ (fun k hk=>EB hk) c2 ha) hg0 (fun b hb=>RC hb)) ?_)
 ·refine gz.old (W':=EI fr g.keys) (k0:=fr) (fun b hb=>RC hb) (fun k hk=>by cases hk) ?_
  refine Aj (W:=EI fr g.keys) hO hm (ir:=ir) (k0:=fr) (fg:=none) (stop:=none) (ks:=EI fr g.keys) (y:=y) (by unfold AZ;rw [i_]) hc jj (fun b hb=>RC hb) (fun k hk=>hk) fun _=>?_
  exact ADV jc hv fun _ _ h=>h
 ·rintro e w' ⟨u,β1,rfl,ho⟩
  obtain ⟨β',he⟩:=ADr (conds:=g.conds) (ie:=y.s.ie) hg (ho.drop (fr:=fr)) bP c4 je hov hob fun b h1 h2=>hf b h1 (by show b<fr+(y.s.fr-fr);omega)
  exact ⟨u,β',rfl,he⟩
end
end Go.Proofs.YtgnajdcdcblaoaaGreat.Ex
namespace Go.Proofs.YtgnajdcdcblaoaaGreat.Ex
open Go.RowKit (Below)
section
variable {P:gr} {f:gp} {fn:Func} {R:Ending→gn→Prop} {a:Act} {w:gn}
theorem Safe.leaves (jc:P.funcs[f]? = some fn) {todo:List Item} (ht:K9 todo=true) (h:Leaves P fn a.tmps R a.defers .returning w):Safe P f R todo a w:=by
 intro b cs hb hk;have key:∀ td,∃ e w' fr',R e w'∧Comes P (lone { b.at a td with mode:=.returning } cs w) (lone fr' cs w') e∧fr'.fn=f∧fr'.leaving P w' e:=by
  intro td;obtain ⟨e,w',fr',q1,q2,q3,q4⟩:=leaves_steps a.defers .returning w { b.at a td with mode:=.returning } cs rfl rfl rfl (by show P.funcs[b.fn]? = some fn;rw [hb];exact jc) hk h
  exact ⟨e,w',fr',q1,q2,q3.trans hb,q4⟩
 unfold K9 at ht;split at ht
 ·obtain ⟨e,w',fr',q1,q2,q3,q4⟩:=key []
  exact ⟨e,w',fr',q1,.of_steps (.one step_end) q2,q3,q4⟩
 ·rename_i k;obtain ⟨e,w',fr',q1,q2,q3,q4⟩:=key (.code .ret::k)
  exact ⟨e,w',fr',q1,.of_steps (.one step_ret) q2,q3,q4⟩
 ·cases ht
theorem Safe.of_wpP (jc:P.funcs[f]? = some fn) {c:Code} {k:List Item} (h:c.wp P (fun e a' w'=>(e=.normal∧Safe P f R k a' w')∨∃ chain,e=.panic chain∧Leaves P fn a'.tmps R a'.defers (.panicking chain) w') a w):Safe P f R (.code c::k) a w:=by
 intro b cs hb hk;obtain ⟨e,a',w',hq,harr⟩:=h b k cs;rcases hq with ⟨he,hs⟩ | ⟨chain,he,hl⟩
 ·subst he;obtain ⟨e,w'',fr,h1,h2,h3,h4⟩:=hs b cs hb hk;exact ⟨e,w'',fr,h1,.of_steps harr h2,h3,h4⟩
 ·subst he;obtain ⟨todo,hs⟩:=harr;obtain ⟨e,w'',fr',q1,q2,q3,q4⟩:=leaves_steps a'.defers (.panicking chain) w' { b.at a' todo with mode:=.panicking chain } cs rfl rfl rfl (by show P.funcs[b.fn]? = some fn;rw [hb];exact jc) hk hl
  exact ⟨e,w'',fr',q1,.of_steps hs q2,q3.trans hb,q4⟩
end
def XN (P:gr) (O:ia):Nat→h_→Option (Log×h_)
 | 0,x=>some (⟨[],[]⟩,x)
 | n+1,x=>match Ni P O x with
  | some (g,y)=>match XN P O n y with
   | some (g',z)=>some (⟨g.conds++g'.conds,cat g.keys g'.keys⟩,z)
   | none=>none
  | none=>none
section
variable {P:gr} {O:ia} (hO:g_ P O) (hm:P.follows .mixedOrders=true) {f:gp} {β0:Env} {w0:gn} {R:Ending→gn→Prop} {n:Fz}
include hO hm
theorem ADs:∀ {m:Nat} {W:List Nat} {x y:h_} {g:Log},XN P O m x=some (g,y)→AM g.conds→BW n x.s→(BW n y.s→gz P f β0 w0 R n (W++g.keys) y)→gz P f β0 w0 R n W x
 | 0,W,x,y,g,h,hc,jj,hs=>by
  simp only [XN] at h;injection h with h;injection h with h1 h2;subst h1;subst h2;have:=hs jj
  simpa using this
 | m+1,W,x,y,g,h,hc,jj,hs=>by
  simp only [XN] at h;split at h
  ·rename_i g1 y1 hst;split at h
   ·rename_i g2 z hr;injection h with h;injection h with h1 h2;subst h1;subst h2;obtain ⟨c1,c2⟩:=Bz.1 hc;refine XB hO hm hst c1 jj (ADs hr c2 (XC hst jj) fun hw=>?_)
    have:=hs hw
    simpa [Ct] using this
   ·cases h
  ·cases h
end
def GF (P:gr) (O:ia) (m k0:Nat) (x:h_):Option (du×List Nat×h_) :=
 match XN P O m x with
 | some (g,y)=>some (g.conds,EI k0 g.keys,y)
 | none=>none
theorem RN {P:gr} {O:ia} {f:gp} {β0:Env} {w0:gn} {R:Ending→gn→Prop} {n:Fz} {W:List Nat} (hO:g_ P O) (hm:P.follows .mixedOrders=true) {m k0:Nat} {x y:h_} {conds:du} {ks:List Nat}
  (h:GF P O m k0 x=some (conds,ks,y)) (hc:AM conds) (jj:BW n x.s) (h0:∀ b,k0≤b→β0 b=none) (hks:∀ k∈ks,k∈W) (hs:BW n y.s→gz P f β0 w0 R n W y):gz P f β0 w0 R n W x:=by
 unfold GF at h;split at h;case h_2=>cases h
 rename_i g y1 i_;injection h with h;injection h with h1 h;injection h with h2 h3;subst h1;subst h3;refine ADs hO hm i_ hc jj fun hw=>gz.old h0 (fun k hk jb=>?_) (hs hw)
 rcases j_.1 hk with hk | hk
 ·exact hk
 ·exact hks k (by rw [← h2];exact bH hk jb)
section
variable {P:gr} {O:ia} (hO:g_ P O) {ops:Array Oper} {β0:Env} {w0:gn} {W:List Nat} {n:Fz}
include hO
theorem rA {Q:Exit→Act→gn→Prop} {tl:List Nat}:∀ (pre:List Oper) (i:Nat) (s s':St) (ik:List Rec) (β:Env) (a:Act) (w:gn),(∀ j o,pre[j]? = some o→ops[i+j]? = some o)→D2 P O ops pre i s=some (ik,s')→AM (I9 ik) →
  Inv β0 w0 W n β (Aq s.T) s.H a w→(∀ b,s.fr≤b→β b=none)→(∀ b,s.fr≤b→AF s.H b=none)→s.T.length=n.n→(∀ k∈D_ ik,k∈W) →
  (∀ β a w,Inv β0 w0 W n β (Aq s'.T) s'.H a w→(∀ b,s'.fr≤b→β b=none)→wpOps P ops Q tl a w)→wpOps P ops Q (List.range' i pre.length++tl) a w
 | [],i,s,s',ik,β,a,w,_,h,_,hi,hf,_,_,_,hQ=>by
  simp only [D2,ke,kp] at h;obtain ⟨rfl,rfl⟩:=h;exact hQ β a w hi hf
 | o::ij,i,s,s',ik,β,a,w,hpre,h,hc,hi,hf,hfH,hn,hW,hQ=>by
  simp only [D2] at h;split at h
  ·rename_i e he;split at h
   ·rename_i hd;split at h
    ·rename_i recs' s'' hr;injection h with h;injection h with h1 h2;subst h1;subst h2;obtain ⟨c1,c2⟩:=Bz.1 hc;have ho:ops[i]? = some o:=hpre 0 o rfl
     have hu:=T' he (fun b h1 _=>hfH b h1)
     rw [k_,tk,n_,wpOps_cons];refine aO hO hi.tmp hi.good he c1 (fun b h1 _=>hf b h1) (fun b h1 _=>hfH b h1) ho fun u w' β' hE hG=>?_
     have hi':=hi.step hE hG (fun k y hk=>hW k (by simp only [D_,Ct,j_];exact .inl (PJ.2 ⟨y,hk⟩))) (d:=o.dst) (fun t ht=>by
      rw [ht] at hd;have:=Q_ hd
      omega)
     refine rA ij (i+1) _ _ recs' β' _ w' (fun j o' hj=>by rw [show i+1+j=i+(j+1) by omega];exact hpre (j+1) o' hj) hr c2 (hi'.congr (fun t=>(aS hd t).symm) (fun _=>rfl)) ?_ (W9 hu hfH) (by rw [← hn];exact W8) (fun k hk=>hW k (by simp only [D_,Ct,j_];exact .inr hk)) hQ
     intro b hb;cases hβ:β' b with
     | none=>rfl
     | some X =>
      simp only at hb
      rcases hE.new b X hβ with h | ⟨_,h,_⟩
      ·rw [hf b dn] at h;cases h
      ·omega
    ·cases h
   ·cases h
  ·cases h
end
def AO7 (P:gr) (f:gp) (iw:List AV) (H0:Heap) (k0:Nat) (c:List PanicEntry):Prop :=
 ∀ (β:Env) (us:List gq) (w:gn),BL β iw us→Good β H0 w→(∀ b,k0≤b→β b=none)→Calls P f ⟨us⟩ w fun e w'=>e=.panicked c∧Below w.heap.size w w'
theorem AO8 {P:gr} {ops:Array Oper} {Q:Exit→Act→gn→Prop} {i:Nat} {tl:List Nat} {a:Act} {w:gn} {o:Oper} {c:Call} {g:gp} {fn:Func} {chain:List PanicEntry} (ho:ops[i]? = some o) (hop:o.op=.call c) (hg:o.guard=none) (hcal:c.callee=.value (.func g))
  (jc:P.funcs[g]? = some fn) (hb:fn.body.isSome=true) (iq:fw fn) (h:Calls P g (c.args.map a.eval) w fun e w'=>e=.panicked chain∧Q (.panic chain) a w'):wpOps P ops Q (i::tl) a w:=by
 simp only [wpOps,ho];have hw:Region.wanted o (yielded ops a.tmps)=true:=by unfold Region.wanted;rw [hg]
 rw [jo hw];refine .inl ?_
 have h1:fn.name≠"runtime.NumGoroutine":=by simpa using iq
 have h2:¬ fn.body=none:=by cases hq:fn.body<;>simp [hq] at hb ⊢
 have e:(execOp a.eval o).run P w=.ok (.enter g (c.args.map a.eval)) w:=by
  simp [execOp,hop,resolve,hcal,Deferred.ofValue,invoke,callFunc,jc,h1,h2,Act.eval]
 unfold Oper.wp;rw [e,Oper.upon_enter];refine h.mono ?_
 rintro e w' ⟨rfl,hq⟩
 exact hq
theorem AO9 {P:gr} {ops:Array Oper} {Q:Exit→Act→gn→Prop} {i:Nat} {a:Act} {w:gn} {o:Oper} {c:Call} {t:Tmp} {F:gp} {ps:Array gq} (ho:ops[i]? = some o) (hop:o.op=.defer c) (hg:o.guard=none) (hd:o.dst=none)
  (hcal:c.callee=.value (.tmp t)) (hargs:c.args=#[]) (ht:a.tmps.getD t undef=.func (.func F) #[] ps) (h:Q .normal { a with defers:={ target:=.fn (.func F) ps,args:=#[] }::a.defers } w):wpOps P ops Q [i] a w:=by
 simp only [wpOps,ho];have hw:Region.wanted o (yielded ops a.tmps)=true:=by unfold Region.wanted;rw [hg]
 rw [jo hw];refine .inl ?_
 have e:(execOp a.eval o).run P w=.ok (.defer { target:=.fn (.func F) ps,args:=#[] }) w:=by
  simp [execOp,hop,resolve,hcal,hargs,Deferred.ofValue,Act.eval,ht]
 unfold Oper.wp;rw [e,Oper.upon_defer,hd];exact h
theorem AO_ {P:gr} {ops:Array Oper} {Q:Exit→Act→gn→Prop} {a:Act} {w:gn} {o0 o1:Oper} {t:Tmp} {T:gt} {v:gq} {k:IntKind} (h0:ops[0]? = some o0) (h1:ops[1]? = some o1) (hop0:o0.op=.makeInterface T (.const v)) (hg0:o0.guard=none)
  (hd0:o0.dst=some t) (hop1:o1.op=.panic (.tmp t)) (hg1:o1.guard=none) (hu:P.underlying T=some (.int k)) (ht:t<a.tmps.size) (h:∀ a',a'.defers=a.defers→Q (.panic [{ v:=.iface T v,recovered:=false }]) a' w):wpOps P ops Q [0,1] a w:=by
 have w0:Region.wanted o0 (yielded ops a.tmps)=true:=by unfold Region.wanted;rw [hg0]
 have w1:Region.wanted o1 (yielded ops (a.put o0.dst (.iface T v)).tmps)=true:=by unfold Region.wanted;rw [hg1]
 have e0:(execOp a.eval o0).run P w=.ok (.value (.iface T v)) w:=by
  simp [execOp,hop0,Instr.makeInterface,run_underlying hu,Act.eval]
 have e1:(execOp (a.put o0.dst (.iface T v)).eval o1).run P w=.halt (.panic (.iface T v)) w:=by
  simp [execOp,hop1,hd0,Act.put,Act.eval,Array.getD_eq_getD_getElem?,ht,Instr.panic,goPanic]
 simp only [wpOps,h0,h1];rw [jo w0];refine .inl ?_
 show o0.upon P a _ Q ((execOp a.eval o0).run P w);rw [e0,Oper.upon_value,jo w1];refine .inl ?_
 show o1.upon P (a.put o0.dst (.iface T v)) _ Q ((execOp (a.put o0.dst (.iface T v)).eval o1).run P w);rw [e1,Oper.upon_panic];exact h _ (by rw [hd0];rfl)
def Hq:List Item→Array Oper
 | .code (.region _ ops _)::_=>ops
 | _=>#[]
def XO:List Item→Nat
 | .code (.region id _ _)::_=>id
 | _=>0
def UN:List Item→List Item
 | _::k=>k
 | []=>[]
theorem Inv.root {β0 β:Env} {w0 w:gn} {W:List Nat} {n:Fz} {τ:Nat→AV} {H:Heap} {a:Act} (i:Inv β0 w0 W n β τ H a w):Inv β w [] n β τ H a w where
 tmp:=i.tmp
 good:=i.good
 sz:=i.sz
 dfr:=i.dfr
 new:=fun _ _ h=>.inl h
 ext:=Env.le_refl β
 frame:=fun _ _ _=>rfl
 size:=ju _
 os:=rfl
 tape:=rfl
 output:=rfl
theorem Inv.push {β0 β:Env} {w0 w:gn} {W:List Nat} {k:Nat} {τ:Nat→AV} {H:Heap} {a:Act} {d:Deferred} (i:Inv β0 w0 W ⟨k,[]⟩ β τ H a w):Inv β0 w0 W ⟨k,[d]⟩ β τ H { a with defers:=d::a.defers } w :=
 { i with sz:=i.sz,dfr:=by rw [i.dfr] }
theorem AO' {β:Env} {a b:Nat} {ps:List gq} (h:F9 β [(a,0),(b,0)] ps):∃ A m B n,β a=some (.at_ A m)∧β b=some (.at_ B n)∧ps=[.pointer (some ⟨A,m.2+0,none⟩),.pointer (some ⟨B,n.2+0,none⟩)]:=by
 obtain ⟨A,m,l,h1,⟨B,n,l',h2,h3,h4⟩,h5⟩:=h;simp only [F9] at h3;subst h3;subst h4;subst h5;exact ⟨A,m,B,n,h1,h2,rfl⟩
theorem APA {P:gr} {O:ia} {f:gp} {fn:Func} {β0:Env} {w0:gn} {R:Ending→gn→Prop} {n:Fz} {W:List Nat} (hO:g_ P O) (hm:P.follows .mixedOrders=true) (jc:P.funcs[f]? = some fn) {ir k0:Nat} {ks ks':List Nat} {x:h_} {conds:du} {v:AV} {H1:Heap}
  (h:AU P O fn ir k0 ks x=some (conds,ks',v,H1)) (hc:AM conds) (jj:BW n x.s) (h0:∀ b,k0≤b→β0 b=none) (hks:∀ k∈ks',k∈W) {F:gp} {fnF:Func} {p q:gq} (hD:n.D=[{ target:=.fn (.func F) #[p,q],args:=#[] }])
  (hF:P.funcs[F]? = some fnF) (hb:fnF.body.isSome=true) (iq:fw fnF) (idle:∀ w,CallsD P F #[p,q] .returning w fun e u' w'=>e=.returned (.tuple #[])∧u'=.returning∧w'=w)
  (hR:∀ e w',BA β0 w0 W v H1 e w'→R e w'):gz P f β0 w0 R n W x:=by
 unfold AU at h;split at h;case h_2=>cases h
 rename_i g y i_;split at h;case h_2=>cases h
 rename_i v' hv;injection h with h;injection h with h1 h;injection h with h2 h;injection h with h3 h4;subst h1;subst h3;subst h4;refine Aj (W:=W) hO hm (ir:=ir) (k0:=k0) (fg:=none) (stop:=none) (ks:=ks') (y:=y) (by unfold AZ;rw [i_];simp only;rw [h2]) hc jj h0 hks fun _=>?_
 intro β a w hi hf;unfold JB at hv;split at hv;case h_2=>cases hv
 rename_i l e1 e2;injection hv with hv;subst hv;obtain ⟨u,hu,hr⟩:=a7 hi.tmp hi.good e2;have q1:fnF.name≠"runtime.NumGoroutine":=by simpa using iq
 have q2:¬ fnF.body=none:=by cases hq:fnF.body<;>simp [hq] at hb ⊢
 refine Safe.leaves jc e1 ?_
 rw [hi.dfr,hD];refine leaves_cons (f:=F) (args:=#[p,q]) (by simp) (by simp [invoke,callFunc,hF,q1,q2]) ?_
 refine (idle w).mono ?_
 rintro e u' w' ⟨rfl,rfl,rfl⟩
 exact ⟨u,hu,hR _ _ ⟨u,β,rfl,hr,hi.good.restrict ks,hi.new,hi.ext,hi.frame,hi.size,hi.os,hi.tape,hi.output⟩⟩
end Go.Proofs.YtgnajdcdcblaoaaGreat.Ex
namespace Go.Proofs.YtgnajdcdcblaoaaGreat.Ex
def Wd (F:Fence):Prop:=(∀ f,F.fn f)∧F.depth=none∧Machine.fenced=Machine.fenced∧(∀ P,Machine.fenced P F=Machine.fenced P Fence.wide)
theorem ADt:Wd Fence.wide:=⟨fun _=>trivial,rfl,rfl,fun _=>rfl⟩
theorem ADu (l:Nat):Wd (Fence.wide.inRound l):=⟨fun _=>trivial,rfl,rfl,fun P=>fenced_inRound P Fence.wide l⟩
section
variable {P:gr} {F:Fence} (hF:Wd F) {n:Nat}
include hF
theorem APB {f:gp} {args:Array gq} {w:gn} {R:Ending→gn→Prop} (h:Calls P f args w R):CallsIn F n P f args w R:=by
 refine ⟨hF.1 f,fun cs _=>?_⟩
 obtain ⟨e,w',fr,r,s,x⟩:=h cs;refine ⟨e,w',fr,r,?_,x⟩
 rw [hF.2.2.2 P];exact comesIn_wide.2 s
theorem APC {row:String} {args:Array gq} {w:gn} {R:gq→gn→Prop} (h:Rows P row args w R):RowsIn F n P row args w R:=by
 intro c cs _;obtain ⟨v,w',r,s⟩:=h c cs;refine ⟨v,w',r,?_⟩
 rw [hF.2.2.2 P];exact stepsIn_wide.2 s
theorem APD {o:Oper} {a:Act} {w:gn} {K:Act→gn→Prop} {Q:Exit→Act→gn→Prop} (hd:∀ c,o.op≠.defer c) (h:o.wp P a w K Q):o.wpIn F n P a w K Q:=by
 refine ⟨fun f _=>hF.1 f,?_⟩
 rw [Oper.semAt_eq _ _ _ hd];unfold Oper.wp Oper.upon at h;split at h
 ·rename_i e;rw [e];exact h
 ·rename_i e;rw [e];exact h
 ·rename_i e;rw [e];exact h
 ·rename_i e;rw [e];exact ⟨fun q=>(by rw [hF.2.1] at q;cases q),APB hF h⟩
 ·rename_i e;rw [e];exact ⟨fun q=>(by rw [hF.2.1] at q;cases q),APC hF h⟩
 ·rename_i e;rw [e];exact h
 ·exact h.elim
theorem APE {ops:Array Oper} {i:Nat} {K:Act→gn→Prop} {Q:Exit→Act→gn→Prop} {a:Act} {w:gn} (hQ:∀ a w,¬ Q .outgrown a w) (hd:∀ o,ops[i]? = some o→∀ c,o.op≠.defer c) (h:wpOp P ops Q i K a w):wpOpIn F n P ops Q i K a w:=by
 unfold wpOp at h;unfold wpOpIn;cases ho:ops[i]? with
 | none=>rw [ho] at h;exact h
 | some o =>
  rw [ho] at h;simp only at h ⊢
  split at h
  ·rename_i hw;rw [jo hw];rcases h with h | ⟨_,a',w',h⟩
   ·exact APD hF (hd o ho) h
   ·exact absurd h (hQ a' w')
  ·rename_i hw;rw [jn hw];exact ⟨fun f _=>hF.1 f,h⟩
end
def RO:List Oper→Bool
 | []=>true
 | o::r=>match o.op with
  | .defer _=>false
  | _=>RO r
theorem ADv:∀ {l:List Oper} {i:Nat} {o:Oper},RO l=true→l[i]? = some o→∀ c,o.op≠.defer c
 | [],i,o,_,h,_=>by simp at h
 | x::r,0,o,hn,h,c=>by
  simp only [qg,ke] at h;subst h;intro e;simp only [RO,e] at hn;cases hn
 | x::r,i+1,o,hn,h,c=>by
  refine ADv (l:=r) ?_ (by simpa using h) c
  simp only [RO] at hn;split at hn
  ·cases hn
  ·exact hn
section
variable {P:gr} {O:ia} (hO:g_ P O) {F:Fence} (hF:Wd F) {m:Nat} {ops:Array Oper} {β0:Env} {w0:gn} {W:List Nat} {n:Fz}
include hO hF
theorem bS {Q:Exit→Act→gn→Prop} {tl:List Nat} (hQ:∀ a w,¬ Q .outgrown a w) (hD:RO ops.toList=true):∀ (pre:List Oper) (i:Nat) (s s':St) (ik:List Rec) (β:Env) (a:Act) (w:gn),(∀ j o,pre[j]? = some o→ops[i+j]? = some o)→D2 P O ops pre i s=some (ik,s')→AM (I9 ik) →
  Inv β0 w0 W n β (Aq s.T) s.H a w→(∀ b,s.fr≤b→β b=none)→(∀ b,s.fr≤b→AF s.H b=none)→s.T.length=n.n→(∀ k∈D_ ik,k∈W) →
  (∀ β a w,Inv β0 w0 W n β (Aq s'.T) s'.H a w→(∀ b,s'.fr≤b→β b=none)→wpOpsIn F m P ops Q tl a w)→wpOpsIn F m P ops Q (List.range' i pre.length++tl) a w
 | [],i,s,s',ik,β,a,w,_,h,_,hi,hf,_,_,_,hK=>by
  simp only [D2,ke,kp] at h;obtain ⟨rfl,rfl⟩:=h;exact hK β a w hi hf
 | o::ij,i,s,s',ik,β,a,w,hpre,h,hc,hi,hf,hfH,hn,hW,hK=>by
  simp only [D2] at h;split at h
  ·rename_i e he;split at h
   ·rename_i hd;split at h
    ·rename_i recs' s'' hr;injection h with h;injection h with h1 h2;subst h1;subst h2;obtain ⟨c1,c2⟩:=Bz.1 hc;have ho:ops[i]? = some o:=hpre 0 o rfl
     have hu:=T' he (fun b h1 _=>hfH b h1)
     rw [k_,tk,n_,wpOpsIn_cons];refine APE hF hQ (fun o' ho'=>ADv hD (by rw [← rq] at ho';exact ho')) (aO hO hi.tmp hi.good he c1 (fun b h1 _=>hf b h1) (fun b h1 _=>hfH b h1) ho fun u w' β' hE hG=>?_)
     have hi':=hi.step hE hG (fun k y hk=>hW k (by simp only [D_,Ct,j_];exact .inl (PJ.2 ⟨y,hk⟩))) (d:=o.dst) (fun t ht=>by
      rw [ht] at hd;have:=Q_ hd
      omega)
     refine bS hQ hD ij (i+1) _ _ recs' β' _ w' (fun j o' hj=>by rw [show i+1+j=i+(j+1) by omega];exact hpre (j+1) o' hj) hr c2 (hi'.congr (fun t=>(aS hd t).symm) (fun _=>rfl)) ?_ (W9 hu hfH) (by rw [← hn];exact W8) (fun k hk=>hW k (by simp only [D_,Ct,j_];exact .inr hk)) hK
     intro b hb;cases hβ:β' b with
     | none=>rfl
     | some X =>
      simp only at hb
      rcases hE.new b X hβ with h | ⟨_,h,_⟩
      ·rw [hf b dn] at h;cases h
      ·omega
    ·cases h
   ·cases h
  ·cases h
end
def EC (P:gr) (O:ia):Code→St→Option (Log×Bool×St)
 | .skip,s=>some (⟨[],[]⟩,false,s)
 | .ret,s=>some (⟨[],[]⟩,true,s)
 | .seq a b,s=>match EC P O a s with
  | some (g,true,s')=>some (g,true,s')
  | some (g,false,s')=>match EC P O b s' with
   | some (g',r,s'')=>some (⟨g.conds++g'.conds,cat g.keys g'.keys⟩,r,s'')
   | none=>none
  | none=>none
 | .cond c a b,s=>match B5 (Aq s.T) c with
  | some (.val false [.b true])=>EC P O a s
  | some (.val false [.b false])=>EC P O b s
  | some (.val false [.v (.bool z)])=>match s.ie with
   | true::ij=>match EC P O a { s with ie:=ij } with
    | some (g,r,s')=>some (⟨(z,true)::g.conds,g.keys⟩,r,s')
    | none=>none
   | false::ij=>match EC P O b { s with ie:=ij } with
    | some (g,r,s')=>some (⟨(z,false)::g.conds,g.keys⟩,r,s')
    | none=>none
   | []=>none
  | _=>none
 | .block _ c,s=>EC P O c s
 | .region _ ops false,s=>match RO ops.toList,D2 P O ops ops.toList 0 s with
  | true,some (ik,s')=>some (⟨I9 ik,D_ ik⟩,false,s')
  | _,_=>none
 | _,_=>none
def rEx:Bool→Exit
 | true=>.ret
 | false=>.normal
theorem rB {P:gr} {O:ia} {ops:Array Oper} {l:List Oper} {i:Nat} {s s':St} {ik:List Rec} {n:Fz} (h:D2 P O ops l i s=some (ik,s')) (hw:BW n s):BW n s':=by
 obtain ⟨h1,h2,h3⟩:=aT h hw.1;exact ⟨h1,by rw [h3];exact hw.2⟩
section
variable {P:gr} {O:ia} (hO:g_ P O) {F:Fence} (hF:Wd F) {m:Nat} {β0:Env} {w0:gn} {W:List Nat} {n:Fz}
include hO hF
theorem MX:∀ (c:Code) {Q:Exit→Act→gn→Prop} (_:∀ a w,¬ Q .outgrown a w) {s s':St} {g:Log} {r:Bool} {β:Env} {a:Act} {w:gn},EC P O c s=some (g,r,s')→AM g.conds→BW n s →
  Inv β0 w0 W n β (Aq s.T) s.H a w→(∀ b,s.fr≤b→β b=none)→(∀ k∈g.keys,k∈W) →
  (∀ β a w,BW n s'→Inv β0 w0 W n β (Aq s'.T) s'.H a w→(∀ b,s'.fr≤b→β b=none)→Q (rEx r) a w)→c.wpIn F m P Q a w
 | .skip,Q,hQ,s,s',g,r,β,a,w,h,hc,hw,hi,hf,hk,hn=>by
  simp only [EC,ke,kp] at h;obtain ⟨rfl,rfl,rfl⟩:=h;exact wpIn_skip (hn β a w hw hi hf)
 | .ret,Q,hQ,s,s',g,r,β,a,w,h,hc,hw,hi,hf,hk,hn=>by
  simp only [EC,ke,kp] at h;obtain ⟨rfl,rfl,rfl⟩:=h;exact wpIn_ret (hn β a w hw hi hf)
 | .seq x y,Q,hQ,s,s',g,r,β,a,w,h,hc,hw,hi,hf,hk,hn=>by
  simp only [EC] at h;split at h
  ·rename_i g1 s1 h1;simp only [ke,kp] at h;obtain ⟨rfl,rfl,rfl⟩:=h;refine wpIn_seq (MX x (Q:=Exit.then (y.wpIn F m P Q) Q) (fun a w q=>hQ a w q) h1 hc hw hi hf hk fun β a w hw hi hf=>?_)
   exact hn β a w hw hi hf
  ·rename_i g1 s1 h1;split at h
   ·rename_i g2 r2 s2 h2;simp only [ke,kp] at h;obtain ⟨rfl,rfl,rfl⟩:=h;obtain ⟨c1,c2⟩:=Bz.1 hc;refine wpIn_seq (MX x (Q:=Exit.then (y.wpIn F m P Q) Q) (fun a w q=>hQ a w q) h1 c1 hw hi hf (fun k hk'=>hk k (by simp only [Ct,j_];exact .inl hk')) fun β a w hw hi hf=>?_)
    exact MX y hQ h2 c2 hw hi hf (fun k hk'=>hk k (by simp only [Ct,j_];exact .inr hk')) hn
   ·cases h
  ·cases h
 | .cond c x y,Q,hQ,s,s',g,r,β,a,w,h,hc,hw,hi,hf,hk,hn=>by
  simp only [EC] at h;split at h
  ·rename_i he;have e1:=A5 (I5 hi.tmp he)
   simp only [BM] at e1;injection e1 with e1 _;exact wpIn_cond_true e1 (MX x hQ h hc hw hi hf hk hn)
  ·rename_i he;have e1:=A5 (I5 hi.tmp he)
   simp only [BM] at e1;injection e1 with e1 _;exact wpIn_cond_false e1 (MX y hQ h hc hw hi hf hk hn)
  ·rename_i z he;have e1:=(A5 (I5 hi.tmp he)).1
   injection e1 with e1 _;split at h
   ·rename_i ij hp;split at h
    ·rename_i g1 r1 s1 h1;simp only [ke,kp] at h;obtain ⟨rfl,rfl,rfl⟩:=h;exact wpIn_cond_true (by rw [e1,hc.1]) (MX x hQ h1 hc.2 hw hi hf hk hn)
    ·cases h
   ·rename_i ij hp;split at h
    ·rename_i g1 r1 s1 h1;simp only [ke,kp] at h;obtain ⟨rfl,rfl,rfl⟩:=h;exact wpIn_cond_false (by rw [e1,hc.1]) (MX y hQ h1 hc.2 hw hi hf hk hn)
    ·cases h
   ·cases h
  ·cases h
 | .block id c,Q,hQ,s,s',g,r,β,a,w,h,hc,hw,hi,hf,hk,hn=>by
  simp only [EC] at h;refine wpIn_block (MX c (Q:=Exit.inBlock id Q) (fun a w q=>hQ a w q) h hc hw hi hf hk fun β a w hw hi hf=>?_)
  cases r
  ·exact hn β a w hw hi hf
  ·exact hn β a w hw hi hf
 | .region id ops d,Q,hQ,s,s',g,r,β,a,w,h,hc,hw,hi,hf,hk,hn=>by
  cases d with
  | true=>simp [EC] at h
  | false =>
   simp only [EC] at h;split at h
   ·rename_i ik s1 hD hr;simp only [ke,kp] at h;obtain ⟨rfl,rfl,rfl⟩:=h;refine wpIn_region ?_
    have:=bS hO hF (m:=m) (tl:=[]) hQ hD ops.toList 0 s _ ik β a w (fun j o hj=>by rw [kr,← rq];exact hj) hr hc hi hf hw.1 hw.2 hk fun β a w hi hf=>hn β a w (rB hr hw) hi hf
    rw [uc];simpa using this
   ·cases h
 | .label _,Q,hQ,s,s',g,r,β,a,w,h,hc,hw,hi,hf,hk,hn=>by simp [EC] at h
 | .loop _,Q,hQ,s,s',g,r,β,a,w,h,hc,hw,hi,hf,hk,hn=>by simp [EC] at h
 | .scope _,Q,hQ,s,s',g,r,β,a,w,h,hc,hw,hi,hf,hk,hn=>by simp [EC] at h
 | .exit _,Q,hQ,s,s',g,r,β,a,w,h,hc,hw,hi,hf,hk,hn=>by simp [EC] at h
 | .goto _,Q,hQ,s,s',g,r,β,a,w,h,hc,hw,hi,hf,hk,hn=>by simp [EC] at h
 | .rangeFunc ..,Q,hQ,s,s',g,r,β,a,w,h,hc,hw,hi,hf,hk,hn=>by simp [EC] at h
 | .refuse _,Q,hQ,s,s',g,r,β,a,w,h,hc,hw,hi,hf,hk,hn=>by simp [EC] at h
end
structure OutL (L:Nat) (β0:Env) (w0:gn) (W:List Nat) (H:Heap) (w:gn) (β:Env):Prop where
 good:Good β H w
 new:∀ b X,β b=some X→β0 b=some X∨∀ B m,X=.at_ B m→w0.heap.size≤B∨∃ k m',k∈W∧β0 k=some (.at_ B m')
 ext:Env.le β0 β
 frame:∀ B,B<w0.heap.size→B≠L→(∀ k m,k∈W→β0 k≠some (.at_ B m))→w.heap[B]? = w0.heap[B]?
 size:w0.heap.size≤w.heap.size
 os:w.os=w0.os
 tape:w.tape=w0.tape
 output:w.output=w0.output
def noL (L bk:Nat) (β:Env):Prop:=∀ b n,β b=some (.at_ L n)→b=bk
def bT (L:Nat) (β:Env) (H:Heap):Prop:=∀ b blk n,AF H b=some blk→β b≠some (.at_ L n)
theorem noL.off {L bk:Nat} {β:Env} {H:Heap} (h:noL L bk β) (hb:AF H bk=none):bT L β H:=fun b blk n h1 h2=>by
 rw [h b n h2,hb] at h1;cases h1
section
variable {L:Nat} {β0 β1 β:Env} {w0 w1 w:gn} {W W':List Nat} {H H1:Heap}
theorem OutL.of_inv {n:Fz} {τ:Nat→AV} {a:Act} (i:Inv β0 w0 W n β τ H a w):OutL L β0 w0 W H w β :=
 ⟨i.good,i.new,i.ext,fun B hB _=>i.frame B hB,i.size,i.os,i.tape,i.output⟩
theorem OutL.trans (i:OutL L β0 w0 W H1 w1 β1) (o:OutL L β1 w1 W' H w β):OutL L β0 w0 (W++W') H w β where
 good:=o.good
 new b X hb:=by
  rcases o.new b X hb with h | h
  ·rcases i.new b X h with h | h
   ·exact .inl h
   ·exact .inr fun B m e=>(h B m e).imp (fun q=>q) fun ⟨k,m',q1,q2⟩=>⟨k,m',j_.2 (.inl q1),q2⟩
  ·refine .inr fun B m e=>?_
   rcases h B m e with q | ⟨k,m',q1,q2⟩
   ·exact .inl (mw i.size q)
   ·rcases i.new k _ q2 with r | r
    ·exact .inr ⟨k,m',j_.2 (.inr q1),r⟩
    ·exact (r B m' rfl).imp (fun q=>q) fun ⟨k',m'',s1,s2⟩=>⟨k',m'',j_.2 (.inl s1),s2⟩
 ext:=Env.le_trans i.ext o.ext
 frame B hB hL ji:=by
  rw [o.frame B (li hB i.size) hL ?_,i.frame B hB hL fun k m hk=>ji k m (j_.2 (.inl hk))]
  intro k m hk hk2;rcases i.new k _ hk2 with r | r
  ·exact ji k m (j_.2 (.inr hk)) r
  ·rcases r B m rfl with q | ⟨k',m',s1,s2⟩
   ·omega
   ·exact ji k' m' (j_.2 (.inl s1)) s2
 size:=mw i.size o.size
 os:=o.os.trans i.os
 tape:=o.tape.trans i.tape
 output:=o.output.trans i.output
theorem OutL.noL {bk:Nat} (i:OutL L β0 w0 W H w β) (h:noL L bk β0) (hL:L<w0.heap.size) (hW:bk ∉ W):noL L bk β:=fun b n hb=>by
 rcases i.new b _ hb with h1 | h1
 ·exact h b n h1
 ·rcases h1 L n rfl with q | ⟨k,m',hk,q⟩
  ·omega
  ·rw [h k m' q] at hk;exact absurd hk hW
theorem Good.putObj (g:Good β H w) (h:bT L β H) (o:Obj):Good β H (w.putObj L o) where
 heap b blk hb:=by
  rcases g.heap b blk hb with ⟨B,n,l,t,pre,ty,fz,e1,e2,e3,e4⟩ | h' | ⟨B,l,es,q,e1,e2,e3,e4,e5⟩
  ·exact .inl ⟨B,n,l,t,pre,ty,fz,e1,e2,by rw [World.putObj_heap_other (fun e=>h b blk n hb (by rw [← e];exact e1))];exact e3,e4⟩
  ·exact .inr (.inl h')
  ·exact .inr (.inr ⟨B,l,es,q,e1,e2,e3,by rw [World.putObj_heap_other (fun e=>h b blk _ hb (by rw [← e];exact e1))];exact e4,e5⟩)
 inj:=g.inj
 lt b B n hb:=by rw [World.putObj_size];exact g.lt b B n hb
theorem OutL.put (i:OutL L β0 w0 W H w β) (h:bT L β H) (o:Obj):OutL L β0 w0 W H (w.putObj L o) β :=
 ⟨i.good.putObj h o,i.new,i.ext,fun B hB hL ji=>by rw [World.putObj_heap_other hL];exact i.frame B hB hL ji,by rw [World.putObj_size];exact i.size,i.os,i.tape,i.output⟩
theorem OutL.mono (i:OutL L β0 w0 W H w β) (h:∀ k∈W,k∈W'):OutL L β0 w0 W' H w β :=
 { i with
  new:=fun b X hb=>(i.new b X hb).imp id fun q B m e=>(q B m e).imp id fun ⟨k,m',h1,h2⟩=>⟨k,m',h k h1,h2⟩
  frame:=fun B hB hL ji=>i.frame B hB hL fun k m hk=>ji k m (h k hk) }
end
def LE (r:Loop):Bool→Loop
 | true=>{ r with state:=.done,pending:=some .ret }
 | false=>r
theorem MY {k:Nat} {l:List Nat} (h:EU k l=false):k ∉ l:=fun q=>by rw [Q8.2 q] at h;cases h
section
variable {P:gr} {O:ia} (hO:g_ P O) {m L bk:Nat} {r:Loop} {T:List AV} {H:Heap} {fr:Nat} {ie:List Bool} {s1 s2:St} {g1 g2:Log} {b:Bool} {n:Nat}
include hO
theorem APG {β:Env} {w:gn} {tmps:Array gq} {R:Ending→gn→Prop} (hl:w.heap[L]? = some (.loop r)) (hst:r.state=.ready) (hp:r.pending=none) (ji:noL L bk β)
  (hT:∀ t,AO β (Aq T t) (tmps.getD t undef)) (hsz:tmps.size=n) (hTn:T.length=n) (g:Good β H w) (hf:∀ b,fr≤b→β b=none) (hfH:∀ b,fr≤b→AF H b=none)
  (h1:EC P O r.assign ⟨T,H,fr,ie⟩=some (g1,false,s1)) (h2:EC P O r.body s1=some (g2,b,s2)) (c1:AM g1.conds) (c2:AM g2.conds)
  (k1:EU bk g1.keys=false) (k2:EU bk g2.keys=false) (b1:AF s1.H bk=none) (b2:AF s2.H bk=none)
  (hK:∀ β' w',OutL L β w (g1.keys++g2.keys) s2.H w' β'→BW n s2→(∀ b,s2.fr≤b→β' b=none)→w'.heap[L]? = some (.loop (LE r b))→R (.returned (.bool (!b))) w') :
  RoundIn Fence.wide m P L r.fn tmps r.assign r.body w R:=by
 have hL:L<w.heap.size:=by
  rcases kf L w.heap.size with h | h
  ·exact h
  ·rw [Array.getElem?_eq_none h] at hl;cases hl
 have k1:=MY k1;have k2:=MY k2;refine roundIn_of_wpIn trivial ?_
 have i0:Inv β w [] ⟨n,[]⟩ β (Aq T) H { tmps:=tmps,defers:=[] } w:=⟨hT,g,hsz,rfl,fun _ _ h=>.inl h,Env.le_refl _,fun _ _ _=>rfl,ju _,rfl,rfl,rfl⟩
 refine MX hO (ADu L) r.assign (n:=⟨n,[]⟩) (W:=g1.keys) (fun a w q=>q) h1 c1 ⟨hfH,hTn⟩ (i0.mono fun _ h=>by cases h) hf (fun _ h=>h) fun β1 a1 w1 hw1 i1 hf1=>?_
 have o1:=OutL.of_inv (L:=L) i1
 have n1:=o1.noL ji hL k1;have l1:w1.heap[L]? = some (.loop r):=by rw [i1.frame L hL fun k m hk e=>k1 (by rw [← ji k m e];exact hk)];exact hl
 have hL1:L<w1.heap.size:=li hL i1.size
 refine ⟨_,run_beginRound l1 hst,?_⟩
 have o2:=o1.put (n1.off b1) (.loop { r with state:=.busy })
 have l2:(w1.putObj L (.loop { r with state:=.busy })).heap[L]? = some (.loop { r with state:=.busy }):=World.putObj_heap_same hL1
 have i2:Inv β1 (w1.putObj L (.loop { r with state:=.busy })) [] ⟨n,[]⟩ β1 (Aq s1.T) s1.H a1 (w1.putObj L (.loop { r with state:=.busy })):=⟨i1.tmp,o2.good,i1.sz,i1.dfr,fun _ _ h=>.inl h,Env.le_refl _,fun _ _ _=>rfl,ju _,rfl,rfl,rfl⟩
 refine MX hO (ADu L) r.body (n:=⟨n,[]⟩) (W:=g2.keys) (fun a w q=>q) h2 c2 hw1 (i2.mono fun _ h=>by cases h) hf1 (fun _ h=>h) fun β2 a2 w3 hw2 i3 hf3=>?_
 have o3:=OutL.of_inv (L:=L) i3
 have hL2:L<(w1.putObj L (.loop { r with state:=.busy })).heap.size:=by rw [World.putObj_size];exact hL1
 have n3:=o3.noL n1 hL2 k2;have l3:w3.heap[L]? = some (.loop { r with state:=.busy }):=by rw [i3.frame L hL2 fun k m hk e=>k2 (by rw [← n1 k m e];exact hk)];exact l2
 have hL3:L<w3.heap.size:=li hL2 i3.size
 have fin:∀ o,o=Obj.loop (LE r b)→R (.returned (.bool (!b))) (w3.putObj L o):=fun o ho=>by
  subst ho;exact hK β2 _ ((o2.trans o3).put (n3.off b2) _) hw2 hf3 (World.putObj_heap_same hL3)
 cases b with
 | true=>exact ⟨_,_,run_endRound (some .ret) l3,fin _ rfl⟩
 | false =>
  refine ⟨_,_,run_endRound none l3,fin _ ?_⟩
  obtain ⟨st,pd,_⟩:=r;simp only at hst hp
  subst hst;subst hp;rfl
end
def UO:List Oper→Option (List Oper×Oper×List Oper)
 | []=>none
 | o::r=>match o.op with
  | .call c=>match c.callee with
   | .value (.tmp _)=>some ([],o,r)
   | _=>match UO r with
    | some (a,x,b)=>some (o::a,x,b)
    | none=>none
  | _=>match UO r with
   | some (a,x,b)=>some (o::a,x,b)
   | none=>none
theorem ADw:∀ {l a:List Oper} {o:Oper} {b:List Oper},UO l=some (a,o,b)→l=a++o::b
 | [],_,_,_,h=>by cases h
 | x::r,a,o,b,h=>by
  have key:∀ {a b o},(match UO r with | some (a,y,b)=>some (x::a,y,b) | none=>none)=some (a,o,b)→x::r=a++o::b:=by
   intro a b o h;split at h
   ·rename_i a' y b' hs;simp only [ke,kp] at h;obtain ⟨rfl,rfl,rfl⟩:=h;rw [ADw hs];rfl
   ·cases h
  simp only [UO] at h;split at h
  ·split at h
   ·simp only [ke,kp] at h;obtain ⟨rfl,rfl,rfl⟩:=h;rfl
   ·exact key h
  ·exact key h
def Nn:List Tmp→List AV→List AV→List AV
 | t::ts,A::As,T=>Nn ts As (Js T t A)
 | _,_,T=>T
theorem ADx:∀ {ps:List Tmp} {As T:List AV},(Nn ps As T).length=T.length
 | [],_,_=>rfl
 | _::_,[],_=>rfl
 | t::ts,A::As,T=>by simp only [Nn];rw [ADx,W7]
theorem ADy {β:Env}:∀ {ps:List Tmp} {As T:List AV} {us:List gq} {tmps:Array gq},LA tmps.size ps=true→T.length=tmps.size→BL β As us→(∀ t,AO β (Aq T t) (tmps.getD t undef)) →
  ∀ t,AO β (Aq (Nn ps As T) t) (((ps.zip us).foldl (fun tmps (t,a)=>tmps.setIfInBounds t a) tmps).getD t undef)
 | [],_,_,_,_,_,_,_,h=>by simpa [Nn] using h
 | _::_,[],_,us,_,_,_,hr,h=>by
  simp only [BL] at hr;subst hr;simpa [Nn] using h
 | p::ps,A::As,T,us,tmps,jb,hl,hr,h=>by
  obtain ⟨u,us',h1,h2,h3⟩:=hr;subst h3;simp only [List.zip_cons_cons,List.foldl_cons,Nn];simp only [LA] at jb;split at jb;case h_2=>cases jb
  rename_i hb;have hp:=BX.1 hb;refine ADy (by simpa using jb) (by rw [W7,hl];simp) h2 fun t=>?_
  rw [aQ (by rw [hl];exact hp)]
  by_cases e:p=t
  ·subst e;rw [show Nat.beq p p=true from Ar.2 rfl]
   simpa [Array.getD_eq_getD_getElem?,hp] using h1
  ·rw [GA e];simp only
   have:=h t
   simpa [Array.getD_eq_getD_getElem?,Array.getElem?_setIfInBounds_ne e] using this
structure Lp where
 T:List AV
 ps:Array Tmp
 assign:Code
 body:Code
def nt:Bool→Bool
 | true=>false
 | false=>true
def rC (P:gr) (O:ia) (lp:Lp) (bk:Nat) (x:h_):Option (Log×Bool×h_) :=
 match x.todo with
 | .code (.region _ ops false)::k=>match UO ops.toList,RO ops.toList with
  | some (pre,o,post),true=>match o.op,o.guard,o.dst with
   | .call c,none,some d=>match c.callee with
    | .value (.tmp t)=>match D2 P O ops pre 0 x.s with
     | some (r1,s1)=>match Aq s1.T t,PH (Aq s1.T) c.args.toList with
      | .val false [.yl bk'],some args=>match Nat.beq bk' bk,Nat.beq (Fs args) (Fs (lp.ps.toList.map fun _=>AV.any)),T_ d s1.T,LA (Fs lp.T) lp.ps.toList with
       | true,true,true,true=>match EC P O lp.assign ⟨Nn lp.ps.toList args lp.T,s1.H,s1.fr,s1.ie⟩ with
        | some (g1,false,t1)=>match EC P O lp.body t1 with
         | some (g2,b,t2)=>match AF t1.H bk,AF t2.H bk,EU bk g1.keys,EU bk g2.keys with
          | none,none,false,false=>match D2 P O ops post (Fs (pre.map fun _=>AV.any)+1) ⟨Js s1.T d (.val false [.b (nt b)]),t2.H,t2.fr,t2.ie⟩ with
           | some (r3,s3)=>match EU bk (D_ r1),EU bk (D_ r3),AF s3.H bk with
            | false,false,none=>some (⟨I9 r1++(g1.conds++(g2.conds++I9 r3)),cat (D_ r1) (cat (cat g1.keys g2.keys) (D_ r3))⟩,b,⟨k,s3⟩)
            | _,_,_=>none
           | none=>none
          | _,_,_,_=>none
         | none=>none
        | _=>none
       | _,_,_,_=>none
      | _,_=>none
     | none=>none
    | _=>none
   | _,_,_=>none
  | _,_=>none
 | _=>none
structure Mid (lp:Lp) (L bk:Nat) (r:Loop) (β0:Env) (w0:gn) (n:Fz) (W:List Nat) (left:Bool) (s:St) (β:Env) (a:Act) (w:gn):Prop where
 tmp:∀ t,AO β (Aq s.T t) (a.tmps.getD t undef)
 sz:a.tmps.size=n.n
 dfr:a.defers=n.D
 out:OutL L β0 w0 W s.H w β
 nol:noL L bk β
 free:AF s.H bk=none
 lpr:w.heap[L]? = some (.loop (LE r left))
 fresh:∀ b,s.fr≤b→β b=none
 hT:∀ t,AO β (Aq lp.T t) (r.tmps.getD t undef)
 yl:∃ m,β bk=some (.at_ L m)
theorem Mid.inv {lp:Lp} {L bk:Nat} {r:Loop} {β0 β:Env} {w0 w:gn} {n:Fz} {W:List Nat} {left:Bool} {s:St} {a:Act} (m:Mid lp L bk r β0 w0 n W left s β a w):Inv β w [] n β (Aq s.T) s.H a w :=
 ⟨m.tmp,m.out.good,m.sz,m.dfr,fun _ _ h=>.inl h,Env.le_refl _,fun _ _ _=>rfl,ju _,rfl,rfl,rfl⟩
theorem MZ {w:gn} {L:Nat} {o:Obj} (h:w.heap[L]? = some o):L<w.heap.size:=by
 rcases kf L w.heap.size with h' | h'
 ·exact h'
 ·rw [Array.getElem?_eq_none h'] at h;cases h
def UP (P:gr) (f:gp) (R:Ending→gn→Prop) (lp:Lp) (L bk:Nat) (r:Loop) (β0:Env) (w0:gn) (n:Fz) (W:List Nat) (left:Bool) (x:h_):Prop :=
 ∀ β a w,Mid lp L bk r β0 w0 n W left x.s β a w→Safe P f R x.todo a w
section
variable {P:gr} {O:ia} (hO:g_ P O) (hm:P.follows .mixedOrders=true) {f:gp} {R:Ending→gn→Prop} {lp:Lp} {L bk:Nat} {r:Loop} {β0:Env} {w0:gn} {n:Fz} {W:List Nat} {left:Bool}
theorem Mid.next {s s':St} {β β1:Env} {a a1:Act} {w w1:gn} {W':List Nat} {b:Bool} (m:Mid lp L bk r β0 w0 n W left s β a w) (o:OutL L β w W' s'.H w1 β1) (hk:bk ∉ W') (hb:AF s'.H bk=none) (hl:w1.heap[L]? = some (.loop (LE r b)))
  (ht:∀ t,AO β1 (Aq s'.T t) (a1.tmps.getD t undef)) (hs:a1.tmps.size=n.n) (hd:a1.defers=n.D) (hf:∀ b,s'.fr≤b→β1 b=none):Mid lp L bk r β0 w0 n (W++W') b s' β1 a1 w1 :=
 ⟨ht,hs,hd,m.out.trans o,o.noL m.nol (MZ m.lpr) hk,hb,hl,hf,fun t=>HI o.ext (m.hT t),m.yl.imp fun _ h=>o.ext _ _ h⟩
include hO hm in
theorem APH {x y:h_} {g:Log} (h:Ni P O x=some (g,y)) (hc:AM g.conds) (jj:BW n x.s) (hk:EU bk g.keys=false) (hb:AF y.s.H bk=none) (hs:UP P f R lp L bk r β0 w0 n (W++g.keys) left y):UP P f R lp L bk r β0 w0 n W left x:=by
 intro β a w m;have hk:=MY hk;refine XB hO hm (β0:=β) (w0:=w) (W:=[]) h hc jj (fun β1 a1 w1 hi hf=>?_) β a w m.inv m.fresh
 have o:=OutL.of_inv (L:=L) hi
 refine hs β1 a1 w1 (m.next o hk hb ?_ hi.tmp hi.sz hi.dfr hf)
 rw [hi.frame L (MZ m.lpr) fun k n hk' e=>hk (by rw [← m.nol k n e];exact hk')]
 exact m.lpr
structure Fit (lp:Lp) (r:Loop):Prop where
 ready:r.state=.ready
 pend:r.pending=none
 ps:r.params=lp.ps
 assign:r.assign=lp.assign
 body:r.body=lp.body
 sz:r.tmps.size=lp.T.length
include hO in
theorem API (hfit:Fit lp r) {x y:h_} {g:Log} {b:Bool} (h:rC P O lp bk x=some (g,b,y)) (hc:AM g.conds) (jj:BW n x.s) (hs:BW n y.s→UP P f R lp L bk r β0 w0 n (W++g.keys) b y):UP P f R lp L bk r β0 w0 n W false x:=by
 intro β a w m;obtain ⟨todo,s⟩:=x;unfold rC at h;simp only at h m jj
 split at h;case h_2=>cases h
 rename_i id ops k;split at h;case h_2=>cases h
 rename_i pre o post hsp hnd;split at h;case h_2=>cases h
 rename_i c d hop hgd hds;split at h;case h_2=>cases h
 rename_i t hcal;split at h;case h_2=>cases h
 rename_i r1 s1 hr1;split at h;case h_2=>cases h
 rename_i bk' args hT hargs;split at h;case h_2=>cases h
 rename_i hbk ii hd1 hps;split at h;case h_2=>cases h
 rename_i g1 t1 ha;split at h;case h_2=>cases h
 rename_i g2 b' t2 hb;split at h;case h_2=>cases h
 rename_i e1 e2 k1 k2;split at h;case h_2=>cases h
 rename_i r3 s3 hr3;split at h;case h_2=>cases h
 rename_i k3 k4 e3;simp only [ke,kp] at h;obtain ⟨rfl,rfl,rfl⟩:=h;have hbk:=Ar.1 hbk;subst hbk;simp only [JA,ma] at ii hps hr3;have ii:=Ar.1 ii;have hops:=ADw hsp;obtain ⟨c1,c2⟩:=Bz.1 hc;obtain ⟨c2,c3⟩:=Bz.1 c2;obtain ⟨c3,c4⟩:=Bz.1 c3;have AF:∀ i,ops[i]? = (pre++o::post)[i]?:=fun i=>by rw [← hops,rq]
 have hw1:=rB hr1 jj;refine Safe.of_wp (wpIn_wide.1 (wpIn_region (n:=0) ?_))
 have hsz:ops.size=pre.length+(post.length+1):=by rw [← u_,hops];simp
 have hrange:List.range ops.size=List.range' 0 pre.length++(pre.length::List.range' (pre.length+1) post.length):=by
  rw [hsz,uc,← List.range'_append_1,kr,tk]
 rw [hrange];refine bS hO ADt (fun a w q=>by cases q.1) hnd pre 0 s s1 r1 β a w (fun j o' hj=>by
  rw [kr,AF,om (by
   rcases kf j pre.length with q | q
   ·exact q
   ·rw [mq q] at hj;cases hj)];exact hj) hr1 c1 (m.inv.mono (W':=D_ r1) fun _ h=>by cases h) m.fresh jj.1 jj.2 (fun _ h=>h) fun β1 a1 w1 i1 f1=>?_
 have o1:=OutL.of_inv (L:=L) i1
 have hnk:=MY k3;have l1:w1.heap[L]? = some (.loop r):=by
  rw [i1.frame L (MZ m.lpr) fun k n hk' e=>hnk (by rw [← m.nol k n e];exact hk')]
  exact m.lpr
 have n1:=o1.noL m.nol (MZ m.lpr) hnk
 obtain ⟨m0,hm0⟩:=m.yl;have hval:a1.tmps.getD t undef=.func (.yield L) #[] #[]:=by
  have:=i1.tmp t
  rw [hT] at this;obtain ⟨L',n',q1,q2⟩:=A5 this;rw [i1.ext _ _ hm0] at q1;injection q1 with q1;injection q1 with q1 _;injection q2 with q2 _;rw [q2,← q1]
 have hrel:=aM i1.tmp hargs;have hul:=p8 hrel;rw [wpOpsIn_cons];unfold wpOpIn;have ho:ops[pre.length]? = some o:=by rw [AF];simp
 rw [ho];simp only
 have hwant:Region.wanted o (yielded ops a1.tmps)=true:=by unfold Region.wanted;rw [hgd]
 rw [jo hwant];refine ⟨fun f' _=>trivial,?_⟩
 rw [Oper.semAt_eq _ _ _ (fun c' e=>by rw [hop] at e;cases e)]
 have hsz2:(c.args.map a1.eval).size=r.params.size:=by
  have:(c.args.toList.map a1.eval).length=args.length:=hul
  rw [hfit.ps];simp only [ma,u_,Array.size_map] at this ii ⊢;omega
 have i_:(execOp a1.eval o).run P w1=.ok (.round L r.fn ((r.params.zip (c.args.map a1.eval)).foldl (fun tmps (t,a)=>tmps.setIfInBounds t a) r.tmps) r.assign r.body) w1:=by
  rw [← run_yield (P:=P) l1 hsz2];simp [execOp,hop,resolve,hcal,Act.eval,hval,Deferred.ofValue,invoke]
 rw [i_,Oper.uponIn_round];refine ⟨fun q=>(by cases q),?_⟩
 have htm:∀ t,AO β1 (Aq lp.T t) (r.tmps.getD t undef):=fun t=>HI i1.ext (m.hT t)
 have hfold:(r.params.zip (c.args.map a1.eval)).foldl (fun tmps (t,a)=>tmps.setIfInBounds t a) r.tmps=(lp.ps.toList.zip (c.args.toList.map a1.eval)).foldl (fun tmps (t,a)=>tmps.setIfInBounds t a) r.tmps:=by
  rw [← Array.foldl_toList,Array.toList_zip,hfit.ps,r_]
 have hfs:∀ (l:List (Tmp×gq)) (T:Array gq),(l.foldl (fun tmps (t,a)=>tmps.setIfInBounds t a) T).size=T.size:=by
  intro l;induction l with
  | nil=>intro T;rfl
  | cons x l ih=>intro T;rw [List.foldl_cons,ih];simp
 rw [hfold];refine APG (n:=lp.T.length) (T:=Nn lp.ps.toList args lp.T) (H:=s1.H) (fr:=s1.fr) (ie:=s1.ie) (s1:=t1) (s2:=t2) (g1:=g1) (g2:=g2) (b:=b') hO l1 hfit.ready hfit.pend n1 (ADy (by rw [hfit.sz];exact hps) hfit.sz.symm hrel htm) (by rw [hfs];exact hfit.sz) ADx i1.good f1 hw1.1 (by rw [hfit.assign];exact ha) (by rw [hfit.body];exact hb) c2 c3 k1 k2 e1 e2 fun β2 w2 o2 hw2 f2 l2=>?_
 have hd1':=Q_ hd1;have hk12:bk' ∉ g1.keys++g2.keys:=fun q=>(j_.1 q).elim (MY k1) (MY k2)
 have i2:Inv β2 w2 (D_ r3) n β2 (Aq (Js s1.T d (.val false [.b (nt b')]))) t2.H (a1.put (some d) (.bool (!b'))) w2:=by
  refine ⟨fun t=>?_,o2.good,?_,i1.dfr,fun _ _ h=>.inl h,Env.le_refl _,fun _ _ _=>rfl,ju _,rfl,rfl,rfl⟩
  ·rw [aQ hd1'];have hd2:d<a1.tmps.size:=by rw [i1.sz,← hw1.2];exact hd1'
   by_cases e:d=t
   ·subst e;rw [show Nat.beq d d=true from Ar.2 rfl]
    have:nt b'=!b':=by cases b'<;>rfl
    simp only [this];refine ⟨[.bool (!b')],[],rfl,rfl,?_⟩
    simp [Act.put,Array.getD_eq_getD_getElem?,hd2]
   ·rw [GA e];have:=HI o2.ext (i1.tmp t)
    simpa [Act.put,Array.getD_eq_getD_getElem?,Array.getElem?_setIfInBounds_ne e] using this
  ·rw [← i1.sz];simp [Act.put]
 have hw2':BW n ⟨Js s1.T d (.val false [.b (nt b')]),t2.H,t2.fr,t2.ie⟩:=⟨hw2.1,by rw [W7];exact hw1.2⟩
 show wpOpsIn Fence.wide 0 P ops _ (List.range' (pre.length+1) post.length) (a1.put o.dst (.bool (!b'))) w2;rw [hds,← lh (List.range' (pre.length+1) post.length)];refine bS hO ADt (fun a w q=>by cases q.1) hnd post (pre.length+1) _ s3 r3 β2 _ w2 (fun j o' hj=>by
  rw [AF,ru dn,show pre.length+1+j-pre.length=j+1 by omega]
  exact hj) hr3 c4 i2 f2 hw2'.1 hw2'.2 (fun _ h=>h) fun β3 a3 w3 i3 f3=>?_
 refine ⟨rfl,?_⟩
 have hw3:=rB hr3 hw2';have o3:=OutL.of_inv (L:=L) i3
 have n2:=o2.noL n1 (MZ l1) hk12
 have hl3:w3.heap[L]? = some (.loop (LE r b')):=by
  rw [i3.frame L (MZ l2) fun k n hk' e=>MY k4 (by rw [← n2 k n e];exact hk')]
  exact l2
 have oo:=(o1.trans (o2.trans o3)).mono (W':=cat (D_ r1) (cat (cat g1.keys g2.keys) (D_ r3))) (fun k hk=>by simpa [Ct] using hk)
 exact hs hw3 β3 a3 w3 (m.next oo (fun q=>by
  simp only [Ct,j_] at q;rcases q with q | (q | q) | q
  ·exact hnk q
  ·exact MY k1 q
  ·exact MY k2 q
  ·exact MY k4 q) e3 hl3 i3.tmp i3.sz i3.dfr f3)
def RP (P:gr) (O:ia) (lp:Lp) (bk:Nat):Nat→Bool→h_→Option (Log×Bool×h_)
 | 0,_,_=>none
 | k+1,left,x=>match K9 x.todo with
  | true=>some (⟨[],[]⟩,left,x)
  | false=>match Ni P O x with
   | some (g,y)=>match EU bk g.keys,AF y.s.H bk with
    | false,none=>match RP P O lp bk k left y with
     | some (g',b,z)=>some (⟨g.conds++g'.conds,cat g.keys g'.keys⟩,b,z)
     | none=>none
    | _,_=>none
   | none=>match left with
    | false=>match rC P O lp bk x with
     | some (g,b,y)=>match RP P O lp bk k b y with
      | some (g',b',z)=>some (⟨g.conds++g'.conds,cat g.keys g'.keys⟩,b',z)
      | none=>none
     | none=>none
    | true=>none
include hO hm in
theorem rD (hfit:Fit lp r):∀ {k:Nat} {W:List Nat} {left b:Bool} {x y:h_} {g:Log},RP P O lp bk k left x=some (g,b,y)→AM g.conds→BW n x.s→(BW n y.s→UP P f R lp L bk r β0 w0 n (W++g.keys) b y)→UP P f R lp L bk r β0 w0 n W left x
 | 0,_,_,_,_,_,_,h,_,_,_=>by simp [RP] at h
 | k+1,W,left,b,x,y,g,h,hc,jj,hs=>by
  simp only [RP] at h;split at h
  ·simp only [ke,kp] at h;obtain ⟨rfl,rfl,rfl⟩:=h;have:=hs jj
   simpa using this
  ·split at h
   ·rename_i g1 y1 hst;split at h;case h_2=>cases h
    rename_i e1 e2;split at h;case h_2=>cases h
    rename_i g2 b2 z hr;simp only [ke,kp] at h;obtain ⟨rfl,rfl,rfl⟩:=h;obtain ⟨c1,c2⟩:=Bz.1 hc;refine APH hO hm hst c1 jj e1 e2 (rD hfit hr c2 (XC hst jj) fun hw=>?_)
    have:=hs hw
    simpa [Ct] using this
   ·split at h;case h_2=>cases h
    split at h;case h_2=>cases h
    rename_i g1 b1 y1 hst;split at h;case h_2=>cases h
    rename_i g2 b2 z hr;simp only [ke,kp] at h;obtain ⟨rfl,rfl,rfl⟩:=h;obtain ⟨c1,c2⟩:=Bz.1 hc;refine API hO hfit hst c1 jj fun hw1=>(rD hfit hr c2 hw1 fun hw=>?_)
    have:=hs hw
    simpa [Ct] using this
end
section
variable {β0 β1 β:Env} {w0 w1 w:gn} {W W':List Nat} {H H':Heap} {L:Nat}
theorem Inv.thenL {n:Fz} {τ:Nat→AV} {a:Act} (i:Inv β0 w0 W n β1 τ H a w1) (o:OutL L β1 w1 W' H' w β) (hL:w0.heap.size≤L):Inv β0 w0 (W++W') n β τ H' a w:=by
 have t:=(OutL.of_inv (L:=L) i).trans o
 exact ⟨fun t=>HI o.ext (i.tmp t),o.good,i.sz,i.dfr,t.new,t.ext,fun B hB ji=>t.frame B hB dn ji,t.size,t.os,t.tape,t.output⟩
theorem Inv.outL {n:Fz} {τ:Nat→AV} {a:Act} {val:AV} {u:gq} (i:Inv β0 w0 W n β1 τ H a w1) (o:OutL L β1 w1 W' H' w β) (hL:w0.heap.size≤L) (hv:AO β val u):Out β0 w0 (W++W') val H' u w β:=by
 have t:=i.thenL o hL;exact ⟨hv,t.good,t.new,t.ext,t.frame,t.size,t.os,t.tape,t.output⟩
end
theorem APJ {β:Env} {x:AV} {xs:List AV} {u:gq} {us:List gq} (h1:AO β x u) (h2:BL β xs us):BL β (x::xs) (u::us):=⟨u,us,h1,h2,rfl⟩
section
variable {P:gr} {O:ia} (hO:g_ P O) (hm:P.follows .mixedOrders=true)
include hO hm
theorem APK {gf:gp} {gfn:Func} {c:Code} {lp:Lp} {L bk:Nat} {r:Loop} {β0:Env} {w0:gn} (jc:P.funcs[gf]? = some gfn) (hb:gfn.body=some c) (hfit:Fit lp r) {args:List AV} {H:Heap} {fr:Nat} {ie:List Bool} {k:Nat} {g:Log} {left:Bool} {y:h_} {v:AV} {us:List gq}
  (ii:args.length≤gfn.ntmps) (h:RP P O lp bk k false ⟨[.code c],⟨GV args gfn.ntmps,H,fr,ie⟩⟩=some (g,left,y)) (hv:JB P gfn y=some v) (hc:AM g.conds)
  (hl:w0.heap[L]? = some (.loop r)) (ji:noL L bk β0) (hbk:AF H bk=none) (hyl:∃ m,β0 bk=some (.at_ L m)) (hT:∀ t,AO β0 (Aq lp.T t) (r.tmps.getD t undef))
  (ha:BL β0 args us) (hg:Good β0 H w0) (hf:∀ b,fr≤b→β0 b=none) (hfH:∀ b,fr≤b→AF H b=none) :
  Calls P gf ⟨us⟩ w0 fun e w=>∃ u β,e=.returned u∧OutL L β0 w0 g.keys y.s.H w β∧noL L bk β∧AF y.s.H bk=none∧w.heap[L]? = some (.loop (LE r left))∧(∀ b,y.s.fr≤b→β b=none)∧∀ b,y.s.fr≤b→AF y.s.H b=none:=by
 have jj:BW gfn.ntmps (⟨GV args gfn.ntmps,H,fr,ie⟩:St):=by
  refine ⟨hfH,?_⟩
  simp only [GV,UE,JA,ku,XE];omega
 refine XF (fr:=fr) (ie:=ie) (H:=H) jc hb ii (fun β a w hi hf'=>?_) ha hg hf
 have hmid:Mid lp L bk r β0 w0 gfn.ntmps [] false ⟨GV args gfn.ntmps,H,fr,ie⟩ β a w :=
  ⟨hi.tmp,hi.sz,hi.dfr,OutL.of_inv hi,(OutL.of_inv (L:=L) hi).noL ji (MZ hl) (by simp),hbk,by rw [hi.frame L (MZ hl) fun _ _ h=>by cases h];exact hl,hf',fun t=>HI hi.ext (hT t),hyl.imp fun _ h=>hi.ext _ _ h⟩
 refine rD (W:=[]) hO hm hfit h hc jj (fun hw=>?_) β a w hmid
 intro β a w m;unfold JB at hv;split at hv;case h_2=>cases hv
 rename_i l e1 e2;obtain ⟨u,hu,hr⟩:=a7 m.tmp m.out.good e2;refine Safe.done jc m.dfr hu ⟨u,β,rfl,m.out,m.nol,m.free,m.lpr,m.fresh,hw.1⟩ ?_
 unfold K9 at e1;split at e1
 ·rename_i h;exact .inr h
 ·rename_i k h;exact .inl ⟨k,h⟩
 ·cases e1
end
theorem Out.old {β0 β:Env} {w0 w:gn} {W W':List Nat} {val:AV} {H:Heap} {u:gq} (o:Out β0 w0 W val H u w β) (h:∀ k m B,k∈W→β0 k=some (.at_ B m)→k∈W'):Out β0 w0 W' val H u w β :=
 { o with
  new:=fun b X hb=>(o.new b X hb).imp id fun q B m e=>(q B m e).imp id fun ⟨k,m',h1,h2⟩=>⟨k,m',h k m' B h1 h2,h2⟩
  frame:=fun B hB ji=>o.frame B hB fun k m hk hk2=>ji k m (h k m B hk hk2) hk2 }
def ADz:Bool→List Item→List Item
 | true,k=>.code .ret::k
 | false,k=>k
def rE (P:gr) (O:ia) (ir:Nat) (x:h_):Option (Log×h_) :=
 match x.todo with
 | .code (.rangeFunc (.tmp t) ps assign body)::k=>match Aq x.s.T t with
  | .val false [.clo gf caps]=>match P.funcs[gf]? with
   | some gfn=>match gfn.body,Nat.ble (Fs (.val false [.yl x.s.fr]::T8 caps)) gfn.ntmps,gfn.name=="runtime.NumGoroutine" with
    | some c,true,false=>match RP P O ⟨x.s.T,ps,assign,body⟩ x.s.fr ir false ⟨[.code c],⟨GV (.val false [.yl x.s.fr]::T8 caps) gfn.ntmps,x.s.H,x.s.fr+1,x.s.ie⟩⟩ with
     | some (g,left,y)=>match JB P gfn y with
      | some _=>some (g,⟨ADz left k,⟨x.s.T,y.s.H,y.s.fr,y.s.ie⟩⟩)
      | none=>none
     | none=>none
    | _,_,_=>none
   | none=>none
  | _=>none
 | _=>none
theorem Good.alloc2 {β:Env} {H:Heap} {w:gn} (g:Good β H w) {fr:Nat} (hf:∀ b,fr≤b→β b=none) (hfH:∀ b,fr≤b→AF H b=none) (o1 o2:Obj):Good (β.put fr (.at_ (w.heap.size+1) (0,0))) H ((w.alloc o1).alloc o2):=by
 have je:Env.le β (β.put fr (.at_ (w.heap.size+1) (0,0))):=Env.le_put _ (hf fr (ju _))
 have hold:∀ B,B<w.heap.size→((w.alloc o1).alloc o2).heap[B]? = w.heap[B]?:=fun B hB=>by
  rw [Go.RowKit.Below.heap_alloc _ _ B (by simp;omega),Go.RowKit.Below.heap_alloc _ _ B hB]
 have key:∀ b X,b≠fr→β.put fr (.at_ (w.heap.size+1) (0,0)) b=some X→β b=some X:=fun b X jd h=>by simpa [Env.put,jd] using h
 have jd:∀ b blk,AF H b=some blk→b≠fr:=fun b blk h e=>by rw [e,hfH fr (ju _)] at h;cases h
 refine ⟨fun b blk hb=>?_,fun b b' B n n' h1 h2 h3 h4=>?_,fun b B n hb=>?_⟩
 ·rcases g.heap b blk hb with ⟨B,n,l,t,pre,ty,fz,e1,e2,e3,e4⟩ | ⟨X,h1,h2,h3⟩ | ⟨B,l,es,q,e1,e2,e3,e4,e5⟩
  ·exact .inl ⟨B,n,l,t,pre,ty,fz,je _ _ e1,I1 je e2,by rw [hold B (g.lt _ _ _ e1)];exact e3,e4⟩
  ·exact .inr (.inl ⟨X,je _ _ h1,h2,I1 je h3⟩)
  ·exact .inr (.inr ⟨B,l,es,q,je _ _ e1,e2,I1 je e3,by rw [hold B (g.lt _ _ _ e1)];exact e4,e5⟩)
 ·obtain ⟨x,hx,_⟩:=GU h1;obtain ⟨y,hy⟩:=mc.1 h2;exact g.inj b b' B n n' h1 h2 (key _ _ (jd _ _ hx) h3) (key _ _ (jd _ _ hy) h4)
 ·by_cases e:b=fr
  ·subst e;rw [Env.put_same] at hb;injection hb with hb;injection hb with hb _;subst hb;simp
  ·have:=g.lt _ _ _ (key _ _ e hb)
   simp;omega
def coll (D:Nat):Deferred:={ target:=.collected D,args:=#[] }
section
variable {P:gr} {O:ia} (hO:g_ P O) (hm:P.follows .mixedOrders=true) {f:gp} {β0:Env} {w0:gn} {R:Ending→gn→Prop} {kk:Nat} {W:List Nat}
include hO hm
theorem APL {x y:h_} {g:Log} {ir:Nat} (h:rE P O ir x=some (g,y)) (hc:AM g.conds) (jj:BW ⟨kk,[]⟩ x.s)
  (hs:∀ D β a w,w0.heap.size≤D→Inv β0 w0 (W++g.keys) ⟨kk,[coll D]⟩ β (Aq y.s.T) y.s.H a w→(∀ b,y.s.fr≤b→β b=none)→BW ⟨kk,[coll D]⟩ y.s→w.heap[D]? = some (.deferred (some []))→(∀ b m,β b≠some (.at_ D m))→Safe P f R y.todo a w):gz P f β0 w0 R ⟨kk,[]⟩ W x:=by
 intro β a w hi hf b cs hb hk;obtain ⟨todo,s⟩:=x;unfold rE at h;simp only at h hi hf jj
 split at h;case h_2=>cases h
 rename_i t ps assign body k;split at h;case h_2=>cases h
 rename_i gf caps hT;split at h;case h_2=>cases h
 rename_i gfn hgfn;split at h;case h_2=>cases h
 rename_i c hbody ii iq;split at h;case h_2=>cases h
 rename_i g' left y' i_;split at h;case h_2=>cases h
 rename_i v hv;simp only [ke,kp] at h;obtain ⟨rfl,rfl⟩:=h;have ii:=jp ii;rw [JA] at ii;obtain ⟨ps',hps,hclo⟩:=A5 (by have:=hi.tmp t;rw [hT] at this;exact this)
 injection hclo with hclo _;obtain ⟨D,hD⟩:∃ D,D=w.heap.size:=⟨_,rfl⟩
 obtain ⟨rec,hrec⟩:∃ rec:Loop,rec={ state:=.ready,pending:=none,fn:=b.fn,tmps:=a.tmps,params:=ps,assign,body,defers:=D }:=⟨_,rfl⟩
 obtain ⟨W1,hW1⟩:∃ W1,(w.alloc (.deferred (some []))).alloc (.loop rec)=W1:=⟨_,rfl⟩
 have hL1:W1.heap[D+1]? = some (.loop rec):=by
  rw [← hW1,hD];have:=World.alloc_heap_new (w.alloc (.deferred (some []))) (.loop rec);rwa [World.size_alloc] at this
 have hD1:W1.heap[D]? = some (.deferred (some [])):=by
  rw [← hW1,hD];exact (Go.RowKit.Below.heap_alloc _ _ _ (by simp)).trans (World.alloc_heap_new w _)
 have hs1:W1.heap.size=w.heap.size+2:=by rw [← hW1];simp
 have g1:Good (β.put s.fr (.at_ (D+1) (0,0))) s.H W1:=by rw [← hW1,hD];exact hi.good.alloc2 hf jj.1 _ _
 have je:Env.le β (β.put s.fr (.at_ (D+1) (0,0))):=Env.le_put _ (hf _ (ju _))
 obtain ⟨β1,hβ1⟩:∃ β1,β1=β.put s.fr (.at_ (D+1) (0,0)):=⟨_,rfl⟩
 rw [← hβ1] at g1 je;have I3:∀ b X,β1 b=some X→(b=s.fr∧X=.at_ (D+1) (0,0))∨β b=some X:=fun b X h=>by
  rw [hβ1] at h;by_cases e:b=s.fr
  ·subst e;rw [Env.put_same] at h;injection h with h;exact .inl ⟨rfl,h.symm⟩
  ·exact .inr (by simpa [Env.put,e] using h)
 have hold:∀ B,B<w.heap.size→W1.heap[B]? = w.heap[B]?:=fun B hB=>by
  rw [← hW1,Go.RowKit.Below.heap_alloc _ _ B (by simp;omega),Go.RowKit.Below.heap_alloc _ _ B hB]
 have ji:noL (D+1) s.fr β1:=fun b n h=>by
  rcases I3 _ _ h with ⟨e,_⟩ | h
  ·exact e
  ·have:=hi.good.lt _ _ _ h;omega
 have hoD:∀ b m,β1 b≠some (.at_ D m):=fun b m h=>by
  rcases I3 _ _ h with ⟨_,e⟩ | h
  ·injection e with e _;omega
  ·have:=hi.good.lt _ _ _ h;omega
 have hyl:β1 s.fr=some (.at_ (D+1) (0,0)):=by rw [hβ1];exact Env.put_same ..
 have hfit:Fit ⟨s.T,ps,assign,body⟩ rec:=by subst hrec;exact ⟨rfl,rfl,rfl,rfl,rfl,by rw [jj.2];exact hi.sz⟩
 have i1:Inv β0 w0 W ⟨kk,[]⟩ β1 (Aq s.T) s.H a W1:=by
  refine ⟨fun t=>HI je (hi.tmp t),g1,hi.sz,hi.dfr,fun b X hX=>?_,Env.le_trans hi.ext je,fun B hB ji=>?_,by have:=hi.size;omega,?_,?_,?_⟩
  ·rcases I3 _ _ hX with ⟨_,e⟩ | h
   ·subst e;refine .inr fun B m e=>.inl ?_
    injection e with e _;have:=hi.size;omega
   ·exact hi.new _ _ h
  ·rw [hold B (li hB hi.size)];exact hi.frame B hB ji
  ·rw [← hW1];exact hi.os
  ·rw [← hW1];exact hi.tape
  ·rw [← hW1];exact hi.output
 have hfr:∀ b,s.fr+1≤b→β1 b=none:=fun b hb=>by
  have jd:b≠s.fr:=dn
  rw [hβ1];simpa [Env.put,jd] using hf b dn
 have call:=APK (fr:=s.fr+1) (L:=D+1) (bk:=s.fr) (r:=rec) (β0:=β1) (w0:=W1) hO hm hgfn hbody hfit (us:=.func (.yield (D+1)) #[] #[]::ps') ii i_ hv hc hL1 ji (jj.1 _ (ju _)) ⟨_,hyl⟩
  (fun t=>by subst hrec;exact HI je (hi.tmp t)) (APJ (Az ⟨D+1,(0,0),hyl,rfl⟩) (oZ (nN je hps))) g1 hfr (fun b hb=>jj.1 b dn)
 obtain ⟨b',hb'⟩:∃ b':Frame,b'={ b with roundOf:=none }:=⟨_,rfl⟩
 have e0:∀ a todo,b.at a todo=b'.atR a todo:=fun a todo=>by rw [hb'];rfl
 obtain ⟨e,w3,fr3,⟨u,β3,rfl,o,n3,b3,l3,f3,fH3⟩,hcomes,_,hleave⟩:=call (b'.atR { a with defers:=[coll D]++a.defers } (.inRangeFunc (D+1)::k)::cs)
 have hendl:=run_endLoop (P:=P) l3 (by subst hrec;cases left<;>simp [LE])
 have hL:w0.heap.size≤D+1:=by have:=hi.size;omega
 have i3:=i1.thenL o hL;have g4:=o.good.putObj (n3.off b3) (.loop { LE rec left with state:=.exhausted })
 have i4:Inv β0 w0 (W++g'.keys) ⟨kk,[coll D]⟩ β3 (Aq s.T) y'.s.H { a with defers:=[coll D]++a.defers } (w3.putObj (D+1) (.loop { LE rec left with state:=.exhausted })) :=
  ⟨i3.tmp,g4,i3.sz,by show [coll D]++a.defers=_;rw [hi.dfr];rfl,i3.new,i3.ext,fun B hB ji=>by rw [World.putObj_heap_other dn];exact i3.frame B hB ji,by rw [World.putObj_size];exact i3.size,i3.os,i3.tape,i3.output⟩
 have hD4:(w3.putObj (D+1) (.loop { LE rec left with state:=.exhausted })).heap[D]? = some (.deferred (some [])):=by
  rw [World.putObj_heap_other dn,o.frame D dn dn fun k m _=>hoD k m];exact hD1
 have hoD3:∀ b m,β3 b≠some (.at_ D m):=fun b m h=>by
  rcases o.new _ _ h with h | h
  ·exact hoD b m h
  ·rcases h D m rfl with q | ⟨k,m',_,q⟩
   ·omega
   ·exact hoD k m' q
 obtain ⟨e',w',fr',q1,q2,q3,q4⟩:=hs D β3 _ _ (by have:=hi.size;omega) i4 f3 ⟨fH3,jj.2⟩ hD4 hoD3 b cs hb hk
 refine ⟨e',w',fr',q1,?_,q3,q4⟩
 have hq1:gfn.name≠"runtime.NumGoroutine":=by simpa using iq
 have hev:a.eval (.tmp t)=.func (.func gf) #[] ⟨ps'⟩:=hclo
 have s1:=stepR_rangeFunc (P:=P) (b:=b') (a:=a) (k:=k) (cs:=cs) (w:=w) (g:=.tmp t) (ps:=ps) (assign:=assign) (body:=body) (l:=D+1) (mark:=[coll D]) (w₁:=W1) (w₁':=W1) (w₂:=W1) (d:={ target:=.fn (.func gf) ⟨ps'⟩,args:=#[.func (.yield (D+1)) #[] #[]] }) (f:=gf) (args:=⟨.func (.yield (D+1)) #[] #[]::ps'⟩)
  (by
   have:=run_enterLoop_outer (P:=P) (w:=w) b.fn a.tmps ps assign body
   rw [← hW1,hrec,hD,hb'];exact this) (by
   simp only [resolve,hev];simp [go_sem]) (by simp [invoke,callFunc,hgfn,hq1,hbody])
 rw [e0];refine Comes.of_steps (Steps.trans (.one s1) ?_) ?_ (m₁:=lone (b.at { a with defers:=[coll D]++a.defers } (ADz left k)) cs (w3.putObj (D+1) (.loop { LE rec left with state:=.exhausted })))
 ·refine Steps.trans (show Steps P _ _ from hcomes) (Steps.trans (.one (step_leave_returned hleave)) ?_)
  rw [finish_atR_inRangeFunc];refine .one ?_
  have:=stepR_endRangeFunc (P:=P) (b:=b') (a:={ a with defers:=[coll D]++a.defers }) (k:=k) (cs:=cs) hendl
  rw [this,e0];subst hrec;cases left<;>rfl
 ·exact q2
omit hO hm in
theorem Safe.coll {fn:Func} {v:gq} {todo:List Item} {D:Nat} {a:Act} {w:gn} (jc:P.funcs[f]? = some fn) (hd:a.defers=[coll D]) (hD:w.heap[D]? = some (.deferred (some []))) (hr:(results fn a.tmps).run P (w.putObj D (.deferred none))=.ok v (w.putObj D (.deferred none))) (hR:R (.returned v) (w.putObj D (.deferred none)))
  (ht:K9 todo=true):Safe P f R todo a w:=by
 intro b cs hb hk;have key:∀ todo,∃ e w' fr,R e w'∧Comes P (lone ({ b.at a todo with mode:=.returning }:Frame) cs w) (lone fr cs w') e∧fr.fn=f∧fr.leaving P w' e:=fun todo=>by
  have h1:=step_collected (P:=P) (fr:={ b.at a todo with mode:=.returning }) (cs:=cs) (w:=w) (d:=Ex.coll D) (ds:=[]) (r:=D) (by simp) hd rfl (run_takeDeferred hD)
  exact ⟨.returned v,_,_,hR,Steps.one h1,hb,rfl,rfl,hk,fn,by show P.funcs[b.fn]? = some fn;rw [hb];exact jc,hr⟩
 unfold K9 at ht;split at ht
 ·obtain ⟨e,w',fr',q1,q2,q3,q4⟩:=key []
  exact ⟨e,w',fr',q1,.of_steps (.one step_end) q2,q3,q4⟩
 ·rename_i k;obtain ⟨e,w',fr',q1,q2,q3,q4⟩:=key (.code .ret::k)
  exact ⟨e,w',fr',q1,.of_steps (.one step_ret) q2,q3,q4⟩
 ·cases ht
theorem APM {fn:Func} (jc:P.funcs[f]? = some fn) {y z:h_} {g:Log} {v:AV} {ir D:Nat} {β:Env} {a:Act} {w:gn} {W':List Nat} (i_:K_ P O none ir y=some (g,z)) (hv:JB P fn z=some v) (hc:AM g.conds) (hD:w0.heap.size≤D)
  (hi:Inv β0 w0 W' ⟨kk,[coll D]⟩ β (Aq y.s.T) y.s.H a w) (hf:∀ b,y.s.fr≤b→β b=none) (jj:BW ⟨kk,[coll D]⟩ y.s) (hd:w.heap[D]? = some (.deferred (some []))) (ji:∀ b m,β b≠some (.at_ D m)) (hR:∀ e w,BA β0 w0 (W'++g.keys) v z.s.H e w→R e w):Safe P f R y.todo a w:=by
 refine XD (β0:=β) (w0:=w) (W:=[]) hO hm i_ hc jj (fun hw=>fun β1 a1 w1 i1 f1=>?_) β a w hi.root hf
 unfold JB at hv;split at hv;case h_2=>cases hv
 rename_i l e1 e2;injection hv with hv;subst hv;have hd1:w1.heap[D]? = some (.deferred (some [])):=by rw [i1.frame D (MZ hd) fun k m _=>ji k m];exact hd
 have hoff:bT D β1 z.s.H:=fun b blk n _ h=>by
  rcases i1.new _ _ h with h | h
  ·exact ji b n h
  ·rcases h D n rfl with q | ⟨k,m',_,q⟩
   ·have:=MZ hd;omega
   ·exact ji k m' q
 have o:=(OutL.of_inv (L:=D) i1).put hoff (.deferred none)
 obtain ⟨u,hu,hr⟩:=a7 i1.tmp o.good e2;exact Safe.coll jc i1.dfr hd1 hu (hR _ _ ⟨u,β1,rfl,hi.outL o hD hr⟩) e1
end
def APN:List Item→Bool
 | .code (.rangeFunc ..)::_=>true
 | _=>false
def XP (P:gr) (O:ia):Nat→h_→Option (Log×h_)
 | 0,_=>none
 | n+1,x=>match APN x.todo with
  | true=>some (⟨[],[]⟩,x)
  | false=>match Ni P O x with
   | some (g,y)=>match XP P O n y with
    | some (g',z)=>some (⟨g.conds++g'.conds,cat g.keys g'.keys⟩,z)
    | none=>none
   | none=>none
section
variable {P:gr} {O:ia} (hO:g_ P O) (hm:P.follows .mixedOrders=true) {f:gp} {β0:Env} {w0:gn} {R:Ending→gn→Prop} {n:Fz}
include hO hm
theorem AD0:∀ {m:Nat} {W:List Nat} {x y:h_} {g:Log},XP P O m x=some (g,y)→AM g.conds→BW n x.s→(BW n y.s→gz P f β0 w0 R n (W++g.keys) y)→gz P f β0 w0 R n W x
 | 0,_,_,_,_,h,_,_,_=>by simp [XP] at h
 | m+1,W,x,y,g,h,hc,jj,hs=>by
  simp only [XP] at h;split at h
  ·injection h with h;injection h with h1 h2;subst h1;subst h2;have:=hs jj
   simpa using this
  ·split at h
   ·rename_i g1 y1 hst;split at h
    ·rename_i g2 z hr;injection h with h;injection h with h1 h2;subst h1;subst h2;obtain ⟨c1,c2⟩:=Bz.1 hc;refine XB hO hm hst c1 jj (AD0 hr c2 (XC hst jj) fun hw=>?_)
     have:=hs hw
     simpa [Ct] using this
    ·cases h
   ·cases h
end
def rF (P:gr) (O:ia) (fn:Func) (ir:Nat):ASpec:=fun args H fr ie =>
 match fn.body with
 | some c=>match XP P O ir ⟨[.code c],⟨GV args fn.ntmps,H,fr,ie⟩⟩ with
  | some (g1,x1)=>match rE P O ir x1 with
   | some (g2,x2)=>match K_ P O none ir x2 with
    | some (g3,y)=>match JB P fn y,Nat.ble (Fs args) fn.ntmps&&(XM fr args&&(Ju fr H&&(Ju y.s.fr (Ft fr y.s.H)&&Nat.ble fr y.s.fr))) with
     | some v,true=>match MW fr H (Ft fr y.s.H) (cat (Jt v) (EI fr (cat g1.keys (cat g2.keys g3.keys)))),RJ fr H (Ft fr y.s.H) (cat (EI fr (cat g1.keys (cat g2.keys g3.keys))) (RM fr (Ft fr y.s.H))) with
      | true,true=>some ⟨v,PQ (Ft fr y.s.H) (cat (EI fr (cat g1.keys (cat g2.keys g3.keys))) (RM fr (Ft fr y.s.H))),y.s.fr-fr,g1.conds++(g2.conds++g3.conds),y.s.ie⟩
      | _,_=>none
     | _,_=>none
    | none=>none
   | none=>none
  | none=>none
 | none=>none
section
variable {P:gr} {O:ia} (hO:g_ P O) (hm:P.follows .mixedOrders=true) {f:gp} {fn:Func}
include hO hm in
theorem APO (jc:P.funcs[f]? = some fn) (hb:fn.body.isSome=true) (iq:fw fn) (ir:Nat):BI P f (rF P O fn ir):=by
 intro args H fr ie r β us w hs hc ha hg hf;unfold rF at hs;split at hs;case h_2=>cases hs
 rename_i c hbody;split at hs;case h_2=>cases hs
 rename_i g1 x1 hrun1;split at hs;case h_2=>cases hs
 rename_i g2 x2 hrun2;split at hs;case h_2=>cases hs
 rename_i g3 y hrun3;split at hs;case h_2=>cases hs
 rename_i v hv hchk;split at hs;case h_2=>cases hs
 rename_i hov hob;injection hs with hs;subst hs;obtain ⟨c1',c2'⟩:=Bz.1 hc;obtain ⟨c2',c3'⟩:=Bz.1 c2';simp only [jx] at hchk;obtain ⟨c1,c2,c3,c4,c5⟩:=hchk;have je:=jp c5;have ii:=jp c1;rw [JA] at ii;have hg0:Good (LB β fr) H w:=by
  refine ⟨fun b blk hb=>?_,fun b b' B n n' h1 h2 h3 h4=>hg.inj b b' B n n' h1 h2 (LC h3).1 (LC h4).1,fun b B n h=>hg.lt b B n (LC h).1⟩
  obtain ⟨e1,e2⟩:=LD c3 hb;rcases hg.heap b blk hb with ⟨B,n,l,t,pre,ty,fz,q1,q2,q3⟩ | ⟨X,q1,q2,q3⟩ | ⟨B,l,es,q,q1,q2,q3,q4⟩
  ·exact .inl ⟨B,n,l,t,pre,ty,fz,by rw [EB e1];exact q1,Ho (fun k hk=>EB (e2 k hk)) q2,q3⟩
  ·exact .inr (.inl ⟨X,by rw [EB e1];exact q1,q2,Ho (fun k hk=>EB (e2 k hk)) q3⟩)
  ·exact .inr (.inr ⟨B,l,es,q,by rw [EB e1];exact q1,q2,Ho (fun k hk=>EB (e2 k hk)) q3,q4⟩)
 have jj:BW ⟨fn.ntmps,[]⟩ (⟨GV args fn.ntmps,H,fr,ie⟩:St):=by
  refine ⟨fun b hb=>?_,?_⟩
  ·cases hq:AF H b with
   | none=>rfl
   | some blk=>have:=(LD c3 hq).1;simp only at hb;omega
  ·simp only [GV,UE,JA,ku,XE];omega
 obtain ⟨K,hK⟩:∃ K,K=cat g1.keys (cat g2.keys g3.keys):=⟨_,rfl⟩
 rw [← hK] at hov hob;have hsub:∀ k,k∈g1.keys++g2.keys++g3.keys→k∈K:=fun k h=>by rw [hK];simpa [Ct,List.append_assoc] using h
 refine UF jc hb iq (Calls.mono (XF (R:=BA (LB β fr) w (EI fr K) v y.s.H) (fr:=fr) (ie:=ie) jc hbody ii ?_ (qZ (fun k hk=>EB hk) c2 ha) hg0 (fun b hb=>RC hb)) ?_)
 ·refine AD0 (W:=[]) hO hm hrun1 c1' jj fun hw1=>?_
  refine APL hO hm hrun2 c2' hw1 fun D β1 a1 w1 hD i1 f1 hw2 d1 no1=>?_
  refine APM hO hm jc hrun3 hv c3' hD i1 f1 hw2 d1 no1 fun e w' ⟨u,β2,he,ho⟩=>⟨u,β2,he,?_⟩
  exact ho.old fun k m B hk h2=>bH (hsub k (by simpa using hk)) (LC h2).2
 ·rintro e w' ⟨u,β1,rfl,ho⟩
  obtain ⟨β',he⟩:=ADr (conds:=g1.conds++(g2.conds++g3.conds)) (ie:=y.s.ie) hg (ho.drop (fr:=fr)) bP c4 je hov hob fun b h1 h2=>hf b h1 (by show b<fr+(y.s.fr-fr);omega)
  rw [hK] at he;exact ⟨u,β',rfl,he⟩
def bU (P:gr) (O:ia) (fn:Func) (ir:Nat):ASpec:=fun args H fr ie =>
 match BF P O fn ir args H fr ie with
 | some r=>some r
 | none=>rF P O fn ir args H fr ie
include hO hm in
theorem APP (jc:P.funcs[f]? = some fn) (hb:fn.body.isSome=true) (iq:fw fn) (ir:Nat):BI P f (bU P O fn ir):=by
 intro args H fr ie r β us w hs hc ha hg hf;unfold bU at hs;split at hs
 ·rename_i r' hr;injection hs with hs;subst hs;exact BJ hO hm jc hb iq ir args H fr ie _ β us w hr hc ha hg hf
 ·exact APO hO hm jc hb iq ir args H fr ie r β us w hs hc ha hg hf
end
end Go.Proofs.YtgnajdcdcblaoaaGreat.Ex
namespace Go.Proofs.YtgnajdcdcblaoaaGreat
open Ex
theorem AB:Tryz.prog.follows .mixedOrders=true:=dm
def S0:dw:=[(138,subSpec),(133,addSpec)]
def K0:List (gt×List (Option IntKind)):=[(40,List.replicate 6 (some .u64)),(42,List.replicate 12 (some .u64)++[none])]
set_option maxRecDepth 100000
set_option maxHeartbeats 4000000
theorem Ac:MU dr K0:=⟨⟨dm,dm,dm⟩,⟨dm,dm,dm⟩,trivial⟩
theorem IV:AX dr S0:=⟨AOv func138 dm dm dm dm,AOt func133 dm dm dm dm,trivial⟩
theorem UQ {β:Env} {A:AV} {u:gq} {c:Bool} {k:IntKind} {i:Int} (h:Bp (some A)=some (c,k,i)) (hr:AO β A u):AO β (.val false [.v (.int k i)]) u∧has k i:=by
 obtain ⟨rfl,h2⟩:=C3 (β:=β) (u:=u) (fun B hB=>by injection hB with hB;subst hB;exact hr) h
 exact ⟨Az ⟨rfl,rfl,h2⟩,h2⟩
theorem XQ {β:Env} {k x:Nat} (h:x<2^(64*k)):AP β [.num k x] (words k x):=⟨_,[],⟨h,rfl⟩,rfl,by simp⟩
theorem Np {β:Env} {k x:Nat} {a:List Ch} {u:gq} (h:DE k a=some x) (hr:AO β (.val true a) u) :
  AO β (.val true [.num k x]) u∧AO β (.val true (NT k x)) u∧x<2^(64*k):=by
 obtain ⟨l,h1,rfl⟩:=hr;obtain ⟨h2,h3⟩:=Hm h h1;subst h2;exact ⟨⟨_,XQ h3,rfl⟩,⟨_,ANk k x,rfl⟩,h3⟩
theorem APQ {β:Env} {k x:Nat} {u:gq} (hx:x<2^(64*k)) (hr:AO β (.val true (NT k x)) u):AO β (.val true [.num k x]) u:=by
 obtain ⟨l,h1,rfl⟩:=hr;have:l=words k x:=by
  have gen:∀ (is:List Nat) (l:List gq),AP β (is.map fun i=>Ch.v (.int .u64 (AE x i))) l→l=is.map fun i=>Value.int .u64 (AE x i):=by
   intro is;induction is with
   | nil=>intro l h;exact h
   | cons i is ih =>
    intro l ⟨l1,l2,q1,q2,q3⟩
    rw [q3,q1.1,ih l2 q2];rfl
  exact gen _ _ h1
 subst this;exact ⟨_,XQ hx,rfl⟩
theorem APR {k:Nat} {x:Nat}:DE k [.num k x]=some x:=by simp [DE]
def Jx (x y:Int):Int:=x*y / 18446744073709551616
def FA (x y:Int):Int:=x*y % 18446744073709551616
def RQ (x:Int):Int:=bits .and .u64 x 4294967295
def JC (x:Int):Int:=Int.fdiv x (2^32)
def mW (x:Int):Int:=IntKind.u64.wrap x
def bV (x y:Int):Int:=mW (RQ x*RQ y)
def mt (x y:Int):Int:=mW (mW (JC x*RQ y)+JC (bV x y))
def XR (x y:Int):Int:=mW (RQ (mt x y)+mW (RQ x*JC y))
theorem APS (x y:Int):AJ dr (AG S0 K0) f142 [.val false [.v (.int .u64 x)],.val false [.v (.int .u64 y)]] [] 300 =
 some ([(decide (0≤(32:Int)∧0≤x),true),(decide (0≤(32:Int)∧0≤y),true),(decide (0≤(32:Int)∧0≤bV x y),true),(decide (0≤(32:Int)∧0≤mt x y),true),(decide (0≤(32:Int)∧0≤XR x y),true)],
  .tup [(false,[.v (.int .u64 (mW (mW (mW (JC x*JC y)+JC (mt x y))+JC (XR x y))))]),(false,[.v (.int .u64 (mW (x*y)))])]):=dm
theorem XS {x:Int} (h0:0≤x) (h1:x<18446744073709551616):RQ x=x % 4294967296:=by
 obtain ⟨X,rfl⟩:=kw h0;have h:=(bits_nat .u64 64 dp (fun n h0 h1=>by rw [IntKind.wrap_u64];omega) X 4294967295 dn dp).1
 show bits .and .u64 (X:Int) ((4294967295:Nat):Int)=_;rw [h];have e4:(4294967295:Nat)=2^32-1:=dp
 rw [e4,Nat.and_two_pow_sub_one_eq_mod];omega
theorem APT (x:Int):JC x=x / 4294967296:=by
 unfold JC;rw [q_ _ dp];rfl
theorem Fu (x:Int):mW x=x % 18446744073709551616:=IntKind.wrap_u64 x
theorem APU {x y:Int} (hx:0≤x∧x<18446744073709551616) (hy:0≤y∧y<18446744073709551616) :
  mW (mW (mW (JC x*JC y)+JC (mt x y))+JC (XR x y))=Jx x y∧mW (x*y)=FA x y∧0≤bV x y∧0≤mt x y∧0≤XR x y:=by
 have n0:∀ z,0≤mW z:=fun z=>by rw [Fu];omega
 refine ⟨?_,Fu _,n0 _,n0 _,n0 _⟩
 have hw:∀ z,0≤mW z∧mW z<18446744073709551616:=fun z=>by rw [Fu];omega
 have lt:=XS (show 0≤mt x y from (hw _).1) (show mt x y<_ from (hw _).2)
 unfold Jx XR;rw [lt,XS hx.1 hx.2];clear lt;unfold mt bV;rw [XS hx.1 hx.2,XS hy.1 hy.2];simp only [APT,Fu];obtain ⟨a,ha⟩:∃ a,a=x / 4294967296:=⟨_,rfl⟩
 obtain ⟨b,hb⟩:∃ b,b=x % 4294967296:=⟨_,rfl⟩
 obtain ⟨c,hc⟩:∃ c,c=y / 4294967296:=⟨_,rfl⟩
 obtain ⟨d,hd⟩:∃ d,d=y % 4294967296:=⟨_,rfl⟩
 have a1:0≤a∧a≤4294967295:=dn
 have b1:0≤b∧b≤4294967295:=dn
 have c1:0≤c∧c≤4294967295:=dn
 have d1:0≤d∧d≤4294967295:=dn
 rw [← ha,← hb,← hc,← hd];have exy:x*y=(a*c)*18446744073709551616+(a*d+b*c)*4294967296+b*d:=by
  have e1:x=a*4294967296+b:=dn
  have e2:y=c*4294967296+d:=dn
  rw [e1,e2];simp only [Int.add_mul,qz];have q1:a*4294967296*(c*4294967296)=a*c*18446744073709551616:=by
   rw [ta,Int.mul_left_comm 4294967296 c,← ta];omega
  have q2:a*4294967296*d=a*d*4294967296:=Int.mul_right_comm _ _ _
  have q3:b*(c*4294967296)=b*c*4294967296:=(ta _ _ _).symm
  omega
 rw [exy];have pb:∀ {u v:Int},0≤u∧u≤4294967295→0≤v∧v≤4294967295→0≤u*v∧u*v≤18446744065119617025:=by
  intro u v hu hv;refine ⟨Int.mul_nonneg hu.1 hv.1,?_⟩
  have:=Int.mul_le_mul hu.2 hv.2 hv.1 dn
  omega
 have p1:=pb a1 c1;have p2:=pb a1 d1;have p3:=pb b1 c1;have p4:=pb b1 d1;generalize a*c=AC at *
 generalize a*d=AD at *
 generalize b*c=BC at *
 generalize b*d=BD at *
 clear ha hb hc hd exy a1 b1 c1 d1 pb hx hy n0 hw;omega
def rG:List AV→Option AV
 | [A,B]=>match Bp (some A),Bp (some B) with
  | some (_,.u64,x),some (_,.u64,y)=>some (.tup [(false,[.v (.int .u64 (Jx x y))]),(false,[.v (.int .u64 (FA x y))])])
  | _,_=>none
 | _=>none
theorem APV:∀ args v,rG args=some v→AT dr 142 args v:=by
 intro args v h us w ha;unfold rG at h;split at h;case h_2=>cases h
 rename_i A B;split at h;case h_2=>cases h
 rename_i c1 x c2 y hx hy;injection h with h;subst h;obtain ⟨u1,jf,r1,ha,rfl⟩:=ha;obtain ⟨u2,jg,r2,ha,rfl⟩:=ha;simp only [BL] at ha;subst ha;obtain ⟨q1,h1⟩:=UQ hx r1;obtain ⟨q2,h2⟩:=UQ hy r2;have b1:=EH h1;have b2:=EH h2;obtain ⟨m1,m2,m3,m4,m5⟩:=APU b1 b2;have:=AN (AH IV Ac) AB func142 (APS x y) (by simp [AM,b1.1,b2.1,m3,m4,m5]) rfl _ w ⟨u1,_,q1,⟨u2,_,q2,rfl,rfl⟩,rfl⟩
 rw [m1,m2] at this;exact this
def Pw:List Ch:=[.n .u64 0xb9feffffffffaaab,.n .u64 0x1eabfffeb153ffff,.n .u64 0x6730d2a0f6b0f624,.n .u64 0x64774b84f38512bf,.n .u64 0x4b1ba7b6434bacd7,.n .u64 0x1a0111ea397fe69a]
theorem APW:AJ dr (AG S0 K0) f137 [] [] 100=some ([],.val true Pw):=dm
theorem APX:AT dr 137 [] (.val true Pw):=AN (AH IV Ac) AB func137 APW trivial rfl
def bW:List AV→Option AV | []=>some (.val true Pw) | _=>none
def S1:dw:=(137,Af bW)::(142,Af rG)::S0
theorem bX:AX dr S1:=⟨Ah func137 dm dm (fun args v h=>by
 unfold bW at h;split at h
 ·injection h with h;subst h;exact APX
 ·cases h),Ah func142 dm dm APV,IV⟩
abbrev dx:List Bool:=[false]
abbrev dz:List Bool:=[true]
open Ex
set_option maxRecDepth 100000
set_option maxHeartbeats 4000000
def pN:Nat:=0x1a0111ea397fe69a4b1ba7b6434bacd764774b84f38512bf6730d2a0f6b0f6241eabfffeb153ffffb9feffffffffaaab
def RR:Nat:=39402006196394479212279040100143613805079739270465446667948293404245721771497210611414266254884915640806627990306816
theorem DM:RR=2^(64*6):=dm
theorem APY:2^(64*6)=2^64*(2^64*(2^64*(2^64*(2^64*2^64)))):=dm
theorem PR (x:Nat):(x:Int)=AE x 0+18446744073709551616*((x / 2^64:Nat):Int):=by
 simp only [AE,me,kx,ld];omega
theorem Bx (x i:Nat):0≤AE x i∧AE x i<18446744073709551616:=EH (Z0 x i)
theorem AD1 {x:Nat} (h:x<18446744073709551616):AE x 0=x:=by
 simp only [AE,me,kx,ld];omega
def GX (a0 a1 a2 a3 a4 a5:Int):Int:=a0+18446744073709551616*(a1+18446744073709551616*(a2+18446744073709551616*(a3+18446744073709551616*(a4+18446744073709551616*a5))))
theorem RS {x:Nat} (h:x<2^(64*6)):(x:Int)=GX (AE x 0) (AE x 1) (AE x 2) (AE x 3) (AE x 4) (AE x 5):=by
 rw [APY] at h;have s0:=PR x;have s1:=PR (x / 2^64)
 have s2:=PR (x / 2^64 / 2^64)
 have s3:=PR (x / 2^64 / 2^64 / 2^64)
 have s4:=PR (x / 2^64 / 2^64 / 2^64 / 2^64)
 have s5:AE (x / 2^64 / 2^64 / 2^64 / 2^64 / 2^64) 0=((x / 2^64 / 2^64 / 2^64 / 2^64 / 2^64:Nat):Int):=by
  apply AD1
  have l1:=mb h;have l2:=mb l1;have l3:=mb l2;have l4:=mb l3;exact mb l4
 simp only [GX,FM];rw [s5];rw [← s4,← s3,← s2,← s1,← s0]
theorem APZ {y:Nat} {d0 d1 d2 d3 d4 d5:Int} (b0:0≤d0∧d0<18446744073709551616) (b1:0≤d1∧d1<18446744073709551616) (b2:0≤d2∧d2<18446744073709551616) (b3:0≤d3∧d3<18446744073709551616) (b4:0≤d4∧d4<18446744073709551616) (b5:0≤d5∧d5<18446744073709551616)
  (h:(y:Int)=GX d0 d1 d2 d3 d4 d5):d0=AE y 0∧d1=AE y 1∧d2=AE y 2∧d3=AE y 3∧d4=AE y 4∧d5=AE y 5∧y<2^(64*6):=by
 unfold GX at h;have step:∀ (z:Nat) (d K:Int),0≤d∧d<18446744073709551616→(z:Int)=d+18446744073709551616*K→d=AE z 0∧((z / 2^64:Nat):Int)=K:=by
  intro z d K hd hz;have:=PR z
  have hb:=Bx z 0;omega
 obtain ⟨e0,k0⟩:=step y d0 _ b0 h;obtain ⟨e1,k1⟩:=step _ d1 _ b1 k0;obtain ⟨e2,k2⟩:=step _ d2 _ b2 k1;obtain ⟨e3,k3⟩:=step _ d3 _ b3 k2;obtain ⟨e4,k4⟩:=step _ d4 _ b4 k3;have e5:d5=AE (y / 2^64 / 2^64 / 2^64 / 2^64 / 2^64) 0:=by rw [AD1 dn];exact k4.symm
 refine ⟨e0,by rw [e1,FM],by rw [e2,FM,FM],by rw [e3,FM,FM,FM],by rw [e4,FM,FM,FM,FM],by rw [e5,FM,FM,FM,FM,FM],?_⟩
 rw [← DM];unfold RR;omega
def w6 (a0 a1 a2 a3 a4 a5:Int):List Ch:=[.v (.int .u64 a0),.v (.int .u64 a1),.v (.int .u64 a2),.v (.int .u64 a3),.v (.int .u64 a4),.v (.int .u64 a5)]
theorem rH (x:Nat):NT 6 x=w6 (AE x 0) (AE x 1) (AE x 2) (AE x 3) (AE x 4) (AE x 5):=rfl
theorem bY {β:Env} {u:gq} {y:Nat} {d0 d1 d2 d3 d4 d5:Int} (b0:0≤d0∧d0<18446744073709551616) (b1:0≤d1∧d1<18446744073709551616) (b2:0≤d2∧d2<18446744073709551616) (b3:0≤d3∧d3<18446744073709551616) (b4:0≤d4∧d4<18446744073709551616) (b5:0≤d5∧d5<18446744073709551616)
  (h:(y:Int)=GX d0 d1 d2 d3 d4 d5) (hr:AO β (.val true (w6 d0 d1 d2 d3 d4 d5)) u):AO β (.val true [.num 6 y]) u:=by
 obtain ⟨e0,e1,e2,e3,e4,e5,jb⟩:=APZ b0 b1 b2 b3 b4 b5 h;rw [e0,e1,e2,e3,e4,e5,← rH] at hr;exact APQ jb hr
theorem Nq {a b c:Int} (ha:0≤a∧a<18446744073709551616) (hb:0≤b∧b<18446744073709551616) (hc:0≤c∧c≤1) :
  EA a b c=a-b-c+18446744073709551616*IR a b c∧(0≤EA a b c∧EA a b c<18446744073709551616)∧(0≤IR a b c∧IR a b c≤1):=by
 unfold EA IR;split<;>omega
theorem rI {a b c:Int} (ha:0≤a∧a<18446744073709551616) (hb:0≤b∧b<18446744073709551616) (hc:0≤c∧c≤1) :
  a+b+c=CT a b c+18446744073709551616*DQ a b c∧(0≤CT a b c∧CT a b c<18446744073709551616)∧(0≤DQ a b c∧DQ a b c≤1):=by
 unfold CT DQ;omega
theorem DU {c:Int} (h:0≤c∧c≤1):CL c=true:=by simp [CL,h.1,h.2]
def PS (a0:Int):Int:=IR a0 0xb9feffffffffaaab 0
def PT (a0 a1:Int):Int:=IR a1 0x1eabfffeb153ffff (PS a0)
def PU (a0 a1 a2:Int):Int:=IR a2 0x6730d2a0f6b0f624 (PT a0 a1)
def PV (a0 a1 a2 a3:Int):Int:=IR a3 0x64774b84f38512bf (PU a0 a1 a2)
def PW (a0 a1 a2 a3 a4:Int):Int:=IR a4 0x4b1ba7b6434bacd7 (PV a0 a1 a2 a3)
def Jy (a0 a1 a2 a3 a4 a5:Int):Int:=IR a5 0x1a0111ea397fe69a (PW a0 a1 a2 a3 a4)
def APa (a0 a1 a2 a3 a4 a5:Int):List Ch:=w6 (EA a0 0xb9feffffffffaaab 0) (EA a1 0x1eabfffeb153ffff (PS a0)) (EA a2 0x6730d2a0f6b0f624 (PT a0 a1)) (EA a3 0x64774b84f38512bf (PU a0 a1 a2)) (EA a4 0x4b1ba7b6434bacd7 (PV a0 a1 a2 a3)) (EA a5 0x1a0111ea397fe69a (PW a0 a1 a2 a3 a4))
def rJ (a0 a1 a2 a3 a4:Int) (r:du):du:=(CL 0,true)::(CL (PS a0),true)::(CL (PT a0 a1),true)::(CL (PU a0 a1 a2),true)::(CL (PV a0 a1 a2 a3),true)::(CL (PW a0 a1 a2 a3 a4),true)::r
theorem APb (a0 a1 a2 a3 a4 a5 h:Int):AJ dr (AG S1 K0) f134 [.val true (w6 a0 a1 a2 a3 a4 a5),.val false [.v (.int .u64 h)]] dz 300 =
 some (rJ a0 a1 a2 a3 a4 [(decide (h<Jy a0 a1 a2 a3 a4 a5),true)],.val true (w6 a0 a1 a2 a3 a4 a5)):=dm
theorem APc (a0 a1 a2 a3 a4 a5 h:Int):AJ dr (AG S1 K0) f134 [.val true (w6 a0 a1 a2 a3 a4 a5),.val false [.v (.int .u64 h)]] dx 300 =
 some (rJ a0 a1 a2 a3 a4 [(decide (h<Jy a0 a1 a2 a3 a4 a5),false)],.val true (APa a0 a1 a2 a3 a4 a5)):=dm
def JD (x h:Nat):Nat:=if x<pN∧h=0 then x else (x+(RR-pN)) % RR
def rK:List AV→Option AV
 | [.val true a,B]=>match DE 6 a,Bp (some B) with
  | some x,some (_,.u64,h)=>some (.val true [.num 6 (JD x h.toNat)])
  | _,_=>none
 | _=>none
theorem APd:∀ args v,rK args=some v→AT dr 134 args v:=by
 intro args v h us w ha;unfold rK at h;split at h;case h_2=>cases h
 rename_i a B;split at h;case h_2=>cases h
 rename_i x c h0 hx hy;injection h with h;subst h;obtain ⟨u1,jf,r1,ha,rfl⟩:=ha;obtain ⟨u2,jg,r2,ha,rfl⟩:=ha;simp only [BL] at ha;subst ha;obtain ⟨q0,q1,jb⟩:=Np hx r1;obtain ⟨q2,h2⟩:=UQ hy r2;have bh:=EH h2;rw [rH] at q1;have hX:=RS jb;have w0:=Bx x 0;have w1:=Bx x 1;have w2:=Bx x 2;have w3:=Bx x 3;have w4:=Bx x 4;have w5:=Bx x 5;generalize AE x 0=a0 at *
 generalize AE x 1=a1 at *
 generalize AE x 2=a2 at *
 generalize AE x 3=a3 at *
 generalize AE x 4=a4 at *
 generalize AE x 5=a5 at *
 obtain ⟨d0,e0,f0⟩:=Nq (b:=0xb9feffffffffaaab) (c:=0) w0 dn dn
 obtain ⟨d1,e1,f1⟩:=Nq (b:=0x1eabfffeb153ffff) (c:=PS a0) w1 dn f0
 obtain ⟨d2,e2,f2⟩:=Nq (b:=0x6730d2a0f6b0f624) (c:=PT a0 a1) w2 dn f1
 obtain ⟨d3,e3,f3⟩:=Nq (b:=0x64774b84f38512bf) (c:=PU a0 a1 a2) w3 dn f2
 obtain ⟨d4,e4,f4⟩:=Nq (b:=0x4b1ba7b6434bacd7) (c:=PV a0 a1 a2 a3) w4 dn f3
 obtain ⟨d5,e5,f5⟩:=Nq (b:=0x1a0111ea397fe69a) (c:=PW a0 a1 a2 a3 a4) w5 dn f4
 have iu:∀ r,AM r→AM (rJ a0 a1 a2 a3 a4 r):=fun r hr =>
  ⟨rfl,DU f0,DU f1,DU f2,DU f3,DU f4,hr⟩
 change EA a0 0xb9feffffffffaaab 0=a0-0xb9feffffffffaaab-0+18446744073709551616*PS a0 at d0
 change EA a1 0x1eabfffeb153ffff (PS a0)=a1-0x1eabfffeb153ffff-PS a0+18446744073709551616*PT a0 a1 at d1
 change EA a2 0x6730d2a0f6b0f624 (PT a0 a1)=a2-0x6730d2a0f6b0f624-PT a0 a1+18446744073709551616*PU a0 a1 a2 at d2
 change EA a3 0x64774b84f38512bf (PU a0 a1 a2)=a3-0x64774b84f38512bf-PU a0 a1 a2+18446744073709551616*PV a0 a1 a2 a3 at d3
 change EA a4 0x4b1ba7b6434bacd7 (PV a0 a1 a2 a3)=a4-0x4b1ba7b6434bacd7-PV a0 a1 a2 a3+18446744073709551616*PW a0 a1 a2 a3 a4 at d4
 change EA a5 0x1a0111ea397fe69a (PW a0 a1 a2 a3 a4)=a5-0x1a0111ea397fe69a-PW a0 a1 a2 a3 a4+18446744073709551616*Jy a0 a1 a2 a3 a4 a5 at d5
 change 0≤Jy a0 a1 a2 a3 a4 a5∧Jy a0 a1 a2 a3 a4 a5≤1 at f5
 unfold GX at hX;have hsum:GX (EA a0 0xb9feffffffffaaab 0) (EA a1 0x1eabfffeb153ffff (PS a0)) (EA a2 0x6730d2a0f6b0f624 (PT a0 a1)) (EA a3 0x64774b84f38512bf (PU a0 a1 a2)) (EA a4 0x4b1ba7b6434bacd7 (PV a0 a1 a2 a3)) (EA a5 0x1a0111ea397fe69a (PW a0 a1 a2 a3 a4)) =
   (x:Int)-(pN:Nat)+(RR:Nat)*Jy a0 a1 a2 a3 a4 a5:=by
  unfold GX pN RR;omega
 have hbnd:0≤(x:Int)-(pN:Nat)+(RR:Nat)*Jy a0 a1 a2 a3 a4 a5∧(x:Int)-(pN:Nat)+(RR:Nat)*Jy a0 a1 a2 a3 a4 a5<(RR:Nat):=by
  rw [← hsum];unfold GX RR;omega
 have hltR:x<RR:=by rw [DM];exact jb
 by_cases hcase:x<pN∧h0.toNat=0
 ·have hb6:h0<Jy a0 a1 a2 a3 a4 a5:=by
   unfold pN RR at hbnd;unfold pN at hcase;omega
  have:=AN (AH bX Ac) AB func134 (APb a0 a1 a2 a3 a4 a5 h0) (iu _ ⟨by simp [hb6],trivial⟩) rfl _ w ⟨u1,_,q1,⟨u2,_,q2,rfl,rfl⟩,rfl⟩
  refine Calls.mono this ?_
  rintro e w' ⟨u,rfl,hu,hbl⟩
  refine ⟨u,rfl,?_,hbl⟩
  unfold JD;rw [jo hcase];exact bY w0 w1 w2 w3 w4 w5 hX hu
 ·have hb6:¬ h0<Jy a0 a1 a2 a3 a4 a5:=by
   unfold pN RR at hbnd;unfold pN at hcase;omega
  have:=AN (AH bX Ac) AB func134 (APc a0 a1 a2 a3 a4 a5 h0) (iu _ ⟨by simp [hb6],trivial⟩) rfl _ w ⟨u1,_,q1,⟨u2,_,q2,rfl,rfl⟩,rfl⟩
  refine Calls.mono this ?_
  rintro e w' ⟨u,rfl,hu,hbl⟩
  refine ⟨u,rfl,?_,hbl⟩
  unfold JD;rw [jn hcase];refine bY e0 e1 e2 e3 e4 e5 ?_ hu
  rw [hsum];have h01:Jy a0 a1 a2 a3 a4 a5=0∨Jy a0 a1 a2 a3 a4 a5=1:=dn
  unfold pN RR at *
  rcases h01 with h01 | h01<;>rw [h01] at hbnd ⊢<;>omega
def S2:dw:=(134,Af rK)::S1
theorem bZ:AX dr S2:=⟨Ah func134 dm dm APd,bX⟩
open Ex
def B6 (x:Option (du×List Nat×h_)):List Item:=match x with | some (_,_,y)=>y.todo | none=>[]
def GY:List Ch:=[.n .u64 0,.n .u64 0,.n .u64 0,.n .u64 0,.n .u64 0,.n .u64 0]
noncomputable def APe:List Item:=B6 (AZ dr (AG S2 K0) (some 0) 100 0 (some ([1,2],[0,1],2)) (Ak f110 [.val true [.num 6 0]] [] 0 []))
noncomputable def UR (x:Nat) (ie:List Bool):h_:=⟨APe,⟨[.any,.val false [.p 0 0],.val false [.p 1 0],.any,.any,.any,.any,.any,.any,.any,.any],
 [(0,some ⟨40,[.num 6 x],false⟩),(1,some ⟨40,GY,false⟩)],2,ie⟩⟩
theorem APf (x:Nat):AZ dr (AG S2 K0) (some 0) 100 0 (some ([1,2],[0,1],2)) (Ak f110 [.val true [.num 6 x]] [] 0 [])=some ([],[],UR x []):=dm
theorem APg (x:Nat):AZ dr (AG S2 K0) (some 0) 100 0 (some ([1,2],[0,1],2)) (UR x dx)=some ([(decide (JD x 0=x),false)],[],UR (JD x 0) []):=dm
theorem APh (x:Nat):E' dr (AG S2 K0) f110 100 0 (UR x dz)=some ([(decide (JD x 0=x),true)],[],.val true [.num 6 x]):=dm
theorem AD2 (x:Nat) (p:List Bool):BW f110.ntmps (UR x p).s:=AR dm
theorem AD3 {x:Nat} (h:x<pN):JD x 0=x:=jo ⟨h,rfl⟩
theorem rL {x:Nat} (h:pN≤x) (hx:x<RR):JD x 0=x-pN:=by
 unfold JD;rw [jn dn];have:pN≤RR:=dp
 rw [show x+(RR-pN)=(x-pN)+RR by omega,qb,jv dn]
theorem C6:0<pN:=dp
theorem APi (w0:gn) (v:Nat):∀ (x:Nat),x<RR→x % pN=v→gz dr 110 CB w0 (Hp w0 (.val true [.num 6 v])) f110.ntmps [] (UR x []):=by
 intro x;induction x using Nat.strongRecOn with
 | _ x ih =>
  intro hx hv;rcases kf x pN with jb | hge
  ·rw [jv jb] at hv;subst hv;exact Ai dz (IS (AH bZ Ac) AB func110 (APh x) ⟨by simp [AD3 jb],trivial⟩ (AD2 x _) (fun _ _=>rfl) rfl)
  ·have hp:=C6;refine Ai dx (Aj (AH bZ Ac) AB (APg x) ⟨by simp [rL hge hx];omega,trivial⟩ (AD2 x _) (fun _ _=>rfl) jl fun _=>?_)
   rw [rL hge hx];exact ih (x-pN) dn dn (by rw [← hv,← ub hge])
def b8:List AV→Option AV
 | [.val true a]=>match DE 6 a with
  | some x=>some (.val true [.num 6 (x % pN)])
  | none=>none
 | _=>none
theorem AD4:∀ args v,b8 args=some v→AT dr 110 args v:=by
 intro args v h us w ha;unfold b8 at h;split at h;case h_2=>cases h
 rename_i a;split at h;case h_2=>cases h
 rename_i x hx;injection h with h;subst h;obtain ⟨u1,jf,r1,ha,rfl⟩:=ha;simp only [BL] at ha;subst ha;obtain ⟨q0,q1,jb⟩:=Np hx r1;rw [← DM] at jb;exact Nk (args:=[.val true [.num 6 x]]) (ie:=[]) func110 dm dm (fun w0=>Aj (AH bZ Ac) AB (APf x) trivial (AR dm) (fun _ _=>rfl) jl fun _=>APi w0 _ x jb rfl) _ w ⟨u1,_,q0,rfl,rfl⟩
def S3:dw:=(110,Af b8)::S2
theorem b9:AX dr S3:=⟨Ah func110 dm dm AD4,bZ⟩
def PX (d0 d1 d2 d3 d4 d5:Int):Nat:=d0.toNat+18446744073709551616*(d1.toNat+18446744073709551616*(d2.toNat+18446744073709551616*(d3.toNat+18446744073709551616*(d4.toNat+18446744073709551616*(d5.toNat+18446744073709551616*0)))))
def B0 (x y:Nat):Nat→Int
 | 0=>0
 | i+1=>DQ (AE x i) (AE y i) (B0 x y i)
def CC (x y:Nat):Nat→Int
 | 0=>0
 | i+1=>IR (AE x i) (AE y i) (CC x y i)
def FB (x y i:Nat):Int:=CT (AE x i) (AE y i) (B0 x y i)
def B3 (x y i:Nat):Int:=EA (AE x i) (AE y i) (CC x y i)
theorem GG (x y:Nat):∀ i,0≤B0 x y i∧B0 x y i≤1
 | 0=>by simp [B0]
 | i+1=>(rI (Bx x i) (Bx y i) (GG x y i)).2.2
theorem GH (x y:Nat):∀ i,0≤CC x y i∧CC x y i≤1
 | 0=>by simp [CC]
 | i+1=>(Nq (Bx x i) (Bx y i) (GH x y i)).2.2
theorem US (x y i:Nat):0≤FB x y i∧FB x y i<18446744073709551616:=(rI (Bx x i) (Bx y i) (GG x y i)).2.1
theorem FN (x y i:Nat):0≤B3 x y i∧B3 x y i<18446744073709551616:=(Nq (Bx x i) (Bx y i) (GH x y i)).2.1
theorem UT (x y i:Nat):AE x i+AE y i+B0 x y i=FB x y i+18446744073709551616*B0 x y (i+1):=(rI (Bx x i) (Bx y i) (GG x y i)).1
theorem RT (x y i:Nat):B3 x y i=AE x i-AE y i-CC x y i+18446744073709551616*CC x y (i+1):=(Nq (Bx x i) (Bx y i) (GH x y i)).1
theorem APj {x y:Nat} (hx:x<RR) (hy:y<RR):GX (FB x y 0) (FB x y 1) (FB x y 2) (FB x y 3) (FB x y 4) (FB x y 5)+(RR:Nat)*B0 x y 6=x+y:=by
 have h1:=RS (x:=x) (by rw [← DM];exact hx)
 have h2:=RS (x:=y) (by rw [← DM];exact hy)
 have e0:AE x 0+AE y 0+B0 x y 0=FB x y 0+18446744073709551616*B0 x y 1:=UT x y 0
 have e1:AE x 1+AE y 1+B0 x y 1=FB x y 1+18446744073709551616*B0 x y 2:=UT x y 1
 have e2:AE x 2+AE y 2+B0 x y 2=FB x y 2+18446744073709551616*B0 x y 3:=UT x y 2
 have e3:AE x 3+AE y 3+B0 x y 3=FB x y 3+18446744073709551616*B0 x y 4:=UT x y 3
 have e4:AE x 4+AE y 4+B0 x y 4=FB x y 4+18446744073709551616*B0 x y 5:=UT x y 4
 have e5:AE x 5+AE y 5+B0 x y 5=FB x y 5+18446744073709551616*B0 x y 6:=UT x y 5
 have z:B0 x y 0=0:=rfl
 unfold GX at *
 unfold RR;omega
theorem APk {x y:Nat} (hx:x<RR) (hy:y<RR):GX (B3 x y 0) (B3 x y 1) (B3 x y 2) (B3 x y 3) (B3 x y 4) (B3 x y 5)=x-y+(RR:Nat)*CC x y 6:=by
 have h1:=RS (x:=x) (by rw [← DM];exact hx)
 have h2:=RS (x:=y) (by rw [← DM];exact hy)
 have e0:B3 x y 0=AE x 0-AE y 0-CC x y 0+18446744073709551616*CC x y 1:=RT x y 0
 have e1:B3 x y 1=AE x 1-AE y 1-CC x y 1+18446744073709551616*CC x y 2:=RT x y 1
 have e2:B3 x y 2=AE x 2-AE y 2-CC x y 2+18446744073709551616*CC x y 3:=RT x y 2
 have e3:B3 x y 3=AE x 3-AE y 3-CC x y 3+18446744073709551616*CC x y 4:=RT x y 3
 have e4:B3 x y 4=AE x 4-AE y 4-CC x y 4+18446744073709551616*CC x y 5:=RT x y 4
 have e5:B3 x y 5=AE x 5-AE y 5-CC x y 5+18446744073709551616*CC x y 6:=RT x y 5
 have z:CC x y 0=0:=rfl
 unfold GX at *
 unfold RR;omega
theorem cA {d0 d1 d2 d3 d4 d5:Int} (b0:0≤d0∧d0<18446744073709551616) (b1:0≤d1∧d1<18446744073709551616) (b2:0≤d2∧d2<18446744073709551616) (b3:0≤d3∧d3<18446744073709551616) (b4:0≤d4∧d4<18446744073709551616) (b5:0≤d5∧d5<18446744073709551616) :
  (PX d0 d1 d2 d3 d4 d5:Int)=GX d0 d1 d2 d3 d4 d5∧PX d0 d1 d2 d3 d4 d5<RR:=by
 unfold PX GX RR;omega
def Nr (x y:Nat):Nat:=PX (FB x y 0) (FB x y 1) (FB x y 2) (FB x y 3) (FB x y 4) (FB x y 5)
def cB (x y:Nat):Nat:=PX (B3 x y 0) (B3 x y 1) (B3 x y 2) (B3 x y 3) (B3 x y 4) (B3 x y 5)
theorem rM {x y:Nat} (hx:x<RR) (hy:y<RR):Nr x y+RR*(B0 x y 6).toNat=x+y∧Nr x y<RR:=by
 obtain ⟨h1,h2⟩:=cA (US x y 0) (US x y 1) (US x y 2) (US x y 3) (US x y 4) (US x y 5)
 have h3:=APj hx hy;have h4:=GG x y 6;unfold Nr;refine ⟨?_,h2⟩
 rw [← h1] at h3;have h01:B0 x y 6=0∨B0 x y 6=1:=dn
 unfold RR at *
 rcases h01 with e | e<;>rw [e] at h3 ⊢<;>simp only [Int.toNat_zero,Int.toNat_one]<;>omega
theorem AD5 {x y:Nat} (hx:x<RR) (hy:y<RR):cB x y=(x+(RR-y)) % RR:=by
 obtain ⟨h1,h2⟩:=cA (FN x y 0) (FN x y 1) (FN x y 2) (FN x y 3) (FN x y 4) (FN x y 5)
 have h3:=APk hx hy;have h4:=GH x y 6;unfold cB;rw [← h1] at h3;have h01:CC x y 6=0∨CC x y 6=1:=dn
 unfold RR at *
 rcases h01 with e | e<;>rw [e] at h3<;>omega
theorem APl {x y:Nat} (hx:x<RR) (hy:y<RR):(((x+(RR-y)) % RR:Nat):Int)=GX (B3 x y 0) (B3 x y 1) (B3 x y 2) (B3 x y 3) (B3 x y 4) (B3 x y 5):=by
 rw [← AD5 hx hy];exact (cA (FN x y 0) (FN x y 1) (FN x y 2) (FN x y 3) (FN x y 4) (FN x y 5)).1
theorem Hr (x:Nat):x % pN<pN:=ki _ C6
theorem RU:pN+pN<RR:=dp
theorem rO {x:Nat} (h:x<pN+pN):JD x 0=x % pN:=by
 rcases kf x pN with h1 | h1
 ·rw [AD3 h1,jv h1]
 ·have:=RU
  rw [rL h1 dn,ub h1,jv dn]
theorem APm (x y:Nat):AJ dr (AG S3 K0) f61 [.val true [.num 6 x],.val true [.num 6 y]] [] 300 =
 some ([(CL 0,true),(CL (B0 (x % pN) (y % pN) 1),true),(CL (B0 (x % pN) (y % pN) 2),true),(CL (B0 (x % pN) (y % pN) 3),true),(CL (B0 (x % pN) (y % pN) 4),true),(CL (B0 (x % pN) (y % pN) 5),true)],
  .val true [.num 6 (JD (Nr (x % pN) (y % pN)) (B0 (x % pN) (y % pN) 6).toNat)]):=dm
theorem APn (x:Nat):AJ dr (AG S3 K0) f63 [.val true [.num 6 x]] [] 300 =
 some ([(CL 0,true),(CL (CC pN (x % pN) 1),true),(CL (CC pN (x % pN) 2),true),(CL (CC pN (x % pN) 3),true),(CL (CC pN (x % pN) 4),true),(CL (CC pN (x % pN) 5),true)],
  .val true [.num 6 (JD (cB pN (x % pN)) 0)]):=dm
theorem APo (x y:Nat):AJ dr (AG S3 K0) f153 [.val true [.num 6 x],.val true [.num 6 y]] [] 300 =
 some ([(CL 0,true),(CL (CC x y 1),true),(CL (CC x y 2),true),(CL (CC x y 3),true),(CL (CC x y 4),true),(CL (CC x y 5),true)],
  .val true (w6 (B3 x y 0) (B3 x y 1) (B3 x y 2) (B3 x y 3) (B3 x y 4) (B3 x y 5))):=dm
def DV (x y:Nat):Nat:=(x % pN+y % pN) % pN
def C7 (x:Nat):Nat:=(pN-x % pN) % pN
def DF (x y:Nat):Nat:=DV x (C7 y)
def Fv (g:Nat→AV):List AV→Option AV
 | [.val true a]=>match DE 6 a with
  | some x=>some (g x)
  | none=>none
 | _=>none
def LF (g:Nat→Nat→AV):List AV→Option AV
 | [.val true a,.val true b]=>match DE 6 a,DE 6 b with
  | some x,some y=>some (g x y)
  | _,_=>none
 | _=>none
theorem GZ {f:gp} {g:Nat→AV} (h:∀ x,x<RR→AT dr f [.val true [.num 6 x]] (g x)):∀ args v,Fv g args=some v→AT dr f args v:=by
 intro args v hs us w ha;unfold Fv at hs;split at hs;case h_2=>cases hs
 rename_i a;split at hs;case h_2=>cases hs
 rename_i x hx;injection hs with hs;subst hs;obtain ⟨u1,jf,r1,ha,rfl⟩:=ha;simp only [BL] at ha;subst ha;obtain ⟨q0,q1,jb⟩:=Np hx r1;exact h x (by rw [DM];exact jb) _ w ⟨u1,_,q0,rfl,rfl⟩
theorem Ns {f:gp} {g:Nat→Nat→AV} (h:∀ x y,x<RR→y<RR→AT dr f [.val true [.num 6 x],.val true [.num 6 y]] (g x y)):∀ args v,LF g args=some v→AT dr f args v:=by
 intro args v hs us w ha;unfold LF at hs;split at hs;case h_2=>cases hs
 rename_i a b;split at hs;case h_2=>cases hs
 rename_i x y hx hy;injection hs with hs;subst hs;obtain ⟨u1,jf,r1,ha,rfl⟩:=ha;obtain ⟨u2,jg,r2,ha,rfl⟩:=ha;simp only [BL] at ha;subst ha;obtain ⟨q0,q1,jb⟩:=Np hx r1;obtain ⟨p0,p1,hlt2⟩:=Np hy r2;exact h x y (by rw [DM];exact jb) (by rw [DM];exact hlt2) _ w ⟨u1,_,q0,⟨u2,_,p0,rfl,rfl⟩,rfl⟩
theorem Jz (x:Nat):x % pN<RR:=nl (Hr x) dp
theorem AD6 (x y:Nat):AT dr 61 [.val true [.num 6 x],.val true [.num 6 y]] (.val true [.num 6 (DV x y)]):=by
 have h:=AN (AH b9 Ac) AB func61 (APm x y) ⟨rfl,DU (GG _ _ _),DU (GG _ _ _),DU (GG _ _ _),DU (GG _ _ _),DU (GG _ _ _),trivial⟩ rfl
 obtain ⟨h1,h2⟩:=rM (Jz x) (Jz y)
 have h3:=Hr x;have h4:=Hr y;have h5:=RU;have hc:(B0 (x % pN) (y % pN) 6).toNat=0:=by
  have:=GG (x % pN) (y % pN) 6
  have h01:(B0 (x % pN) (y % pN) 6).toNat=0∨(B0 (x % pN) (y % pN) 6).toNat=1:=dn
  rcases h01 with e | e
  ·exact e
  ·rw [e] at h1;omega
 rw [hc] at h h1;rw [rO dn] at h;have:Nr (x % pN) (y % pN)=x % pN+y % pN:=dn
 rw [this] at h;exact h
theorem AD7 (x:Nat):AT dr 63 [.val true [.num 6 x]] (.val true [.num 6 (C7 x)]):=by
 have h:=AN (AH b9 Ac) AB func63 (APn x) ⟨rfl,DU (GH _ _ _),DU (GH _ _ _),DU (GH _ _ _),DU (GH _ _ _),DU (GH _ _ _),trivial⟩ rfl
 have h3:=Hr x;have h5:=RU;have:cB pN (x % pN)=pN-x % pN:=by
  rw [AD5 dn dn,show pN+(RR-x % pN)=(pN-x % pN)+RR by omega,qb,jv dn]
 rw [this,rO dn] at h;exact h
theorem APp (x y:Nat) (hx:x<RR) (hy:y<RR):AT dr 153 [.val true [.num 6 x],.val true [.num 6 y]] (.val true [.num 6 ((x+(RR-y)) % RR)]):=by
 intro us w ha;have h:=AN (AH b9 Ac) AB func153 (APo x y) ⟨rfl,DU (GH _ _ _),DU (GH _ _ _),DU (GH _ _ _),DU (GH _ _ _),DU (GH _ _ _),trivial⟩ rfl us w ha
 refine Calls.mono h ?_
 rintro e w' ⟨u,rfl,hu,hbl⟩
 exact ⟨u,rfl,bY (FN x y 0) (FN x y 1) (FN x y 2) (FN x y 3) (FN x y 4) (FN x y 5) (APl hx hy) hu,hbl⟩
def Ad (x:Nat):AV:=.val true [.num 6 x]
def S4:dw:=(61,Af (LF fun x y=>Ad (DV x y)))::(63,Af (Fv fun x=>Ad (C7 x)))::(153,Af (LF fun x y=>Ad ((x+(RR-y)) % RR)))::S3
theorem AD8:AX dr S4:=⟨Ah func61 dm dm (Ns fun x y _ _=>AD6 x y),Ah func63 dm dm (GZ fun x _=>AD7 x),Ah func153 dm dm (Ns APp),b9⟩
theorem APq (x y:Nat):AJ dr (AG S4 K0) f74 [Ad x,Ad y] [] 300=some ([],Ad (DF x y)):=dm
theorem AD9 (x y:Nat):AT dr 74 [Ad x,Ad y] (Ad (DF x y)):=AN (AH AD8 Ac) AB func74 (APq x y) trivial rfl
def S5:dw:=(74,Af (LF fun x y=>Ad (DF x y)))::S4
theorem cC:AX dr S5:=⟨Ah func74 dm dm (Ns fun x y _ _=>AD9 x y),AD8⟩
end Go.Proofs.YtgnajdcdcblaoaaGreat
