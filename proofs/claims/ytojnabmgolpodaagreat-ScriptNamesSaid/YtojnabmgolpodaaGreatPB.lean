/- Part 2 of the proof: ExK, ExL, ExM, ExN, ExO, ExP, ExQ, ExR, ExS, ExT, Fa, Fb, Fc, Fd, Fe, Ff, Fg, Fh, Fi, Fj, Fk, Fl, Fm, Fn, Fo. -/
import Derived.Test.YtojnabmgolpodaaGreatPA
import Derived.Below
import Derived.ProofKit
import Derived.OpenShut
import Derived.ChangeOld
import Derived.SizedLaws
import Derived.Recover
import Derived.Test.YtojnabmgolpodaaGreatProg
namespace Go.Proofs.YtojnabmgolpodaaGreat.Ex
structure Rec where
 dst:Option Nat
 r:R
 ts:List Nat
 ks:List Nat
 fr:Nat
structure St where
 T:List AV
 H:Heap
 fr:Nat
 path:List Bool
structure Fz where
 n:Nat
 D:List Deferred
instance:Coe Nat Fz:=⟨fun n=>⟨n,[]⟩⟩
structure Inv (β0:Env) (w0:World) (W:List Nat) (n:Fz) (β:Env) (τ:Nat→AV) (H:Heap) (a:Act) (w:World):Prop where
 tmp:∀ t,AH β (τ t) (a.tmps.getD t undef)
 good:Good β H w
 sz:a.tmps.size=n.n
 dfr:a.defers=n.D
 new:∀ b X,β b=some X→β0 b=some X∨∀ B m,X=.at_ B m→w0.heap.size≤B∨∃ k m',k∈W∧β0 k=some (.at_ B m')
 ext:Env.le β0 β
 frame:∀ B,B<w0.heap.size→(∀ k m,k∈W→β0 k≠some (.at_ B m))→w.heap[B]? = w0.heap[B]?
 size:w0.heap.size≤w.heap.size
 os:w.os=w0.os
 tape:w.tape=w0.tape
 output:w.output=w0.output
theorem Good.congr {β:Env} {H H':Heap} {w:World} (g:Good β H w) (h:∀ b,AF H b=AF H' b):Good β H' w where
 heap:=fun b blk hb=>g.heap b blk (by rw [h];exact hb)
 inj:=fun b b' B n n' h1 h2=>g.inj b b' B n n' (by rw [UU (h b)];exact h1) (by rw [h];exact h2)
 lt:=g.lt
theorem Inv.congr {β0:Env} {w0:World} {W:List Nat} {n:Fz} {β:Env} {τ τ':Nat→AV} {H H':Heap} {a:Act} {w:World} (i:Inv β0 w0 W n β τ H a w) (h1:∀ t,τ t=τ' t) (h2:∀ b,AF H b=AF H' b) :
  Inv β0 w0 W n β τ' H' a w :=
 { i with tmp:=fun t=>by rw [← h1];exact i.tmp t,good:=i.good.congr h2 }
theorem Inv.drew {β0:Env} {w0:World} {W:List Nat} {n:Fz} {β:Env} {τ:Nat→AV} {H:Heap} {a:Act} {w:World} (i:Inv β0 w0 W n β τ H a w):Inv β0 w0 W n β τ H a { w with drawn:=w.drawn+1 } :=
 { i with good:=⟨i.good.heap,i.good.inj,i.good.lt⟩ }
def Lg (τ:Nat→AV) (d:Option Nat) (v:AV):Nat→AV:=fun t=>match d with
 | some d=>match Nat.beq d t with | true=>v | false=>τ t
 | none=>τ t
theorem Inv.step {β0:Env} {w0:World} {W:List Nat} {n:Fz} {β β':Env} {τ:Nat→AV} {H:Heap} {a:Act} {w w':World} {fr:Nat} {r:R} {u:Value} {d:Option Nat} (i:Inv β0 w0 W n β τ H a w)
  (he:Eff β fr r w u w' β') (hg:Good β' (C0 H r.upd) w') (hW:∀ k y,(k,y)∈r.upd→k∈W) (hd:∀ t,d=some t→t<n.n) :
  Inv β0 w0 W n β' (Lg τ d r.val) (C0 H r.upd) (a.put d u) w' where
 tmp:=fun t=>by
  cases d with
  | none=>exact Px he.ext (i.tmp t)
  | some d =>
   simp only [Lg,Act.put]
   have hlt:=hd d rfl
   split
   ·rename_i e
    have:=Ag.1 e
    subst this
    rw [Array.getD_eq_getD_getElem?,Array.getElem?_setIfInBounds_self_of_lt (by rw [i.sz];exact hlt)]
    exact he.val
   ·rename_i e
    have:=EC e
    rw [Array.getD_eq_getD_getElem?,Array.getElem?_setIfInBounds_ne this,← Array.getD_eq_getD_getElem?]
    exact Px he.ext (i.tmp t)
 good:=hg
 sz:=by cases d<;>simp [Act.put,i.sz]
 dfr:=by cases d<;>simp [Act.put,i.dfr]
 new:=fun b X hb=>by
  rcases he.new b X hb with h | ⟨_,_,h3⟩
  ·exact i.new b X h
  ·refine .inr fun B m e=>?_
   rcases h3 B m e with h | ⟨k,m',hk,hk2⟩
   ·exact .inl (Nat.le_trans i.size h)
   ·rcases i.new k _ hk2 with h | h
    ·exact .inr ⟨k,m',hW _ _ hk,h⟩
    ·exact h B m' rfl
 ext:=Env.le_trans i.ext he.ext
 frame:=fun B hB hno=>by
  rw [he.frame B (Nat.lt_of_lt_of_le hB i.size) ?_,i.frame B hB hno]
  intro k y m hky hk
  rcases i.new k _ hk with h | h
  ·exact hno k m (hW _ _ hky) h
  ·rcases h B m rfl with h | ⟨k',m',h1,h2⟩
   ·omega
   ·exact hno k' m' h1 h2
 size:=Nat.le_trans i.size he.size
 os:=by rw [he.os,i.os]
 tape:=by rw [he.tape,i.tape]
 output:=by rw [he.output,i.output]
def Lh (T:List AV) (d:Option Nat) (v:AV):List AV:=match d with
 | some d=>HR T d v
 | none=>T
theorem U6:∀ {T:List AV} {d t:Nat} {v:AV},d<T.length→Aj (HR T d v) t=match Nat.beq d t with | true=>v | false=>Aj T t
 | [],d,t,v,h=>by simp at h
 | x::r,0,0,v,_=>rfl
 | x::r,0,t+1,v,_=>by simp [HR,Aj,Es (a:=0) (b:=t+1) (by omega)]
 | x::r,d+1,0,v,_=>by simp [HR,Aj,Es (a:=d+1) (b:=0) (by omega)]
 | x::r,d+1,t+1,v,h=>by
  simp only [HR,Aj]
  rw [U6 (T:=r) (d:=d) (t:=t) (v:=v) (by simpa using h)]
  by_cases e:d=t
  ·subst e;rfl
  ·rw [Es e,Es (a:=d+1) (b:=t+1) (by omega)]
theorem U7:∀ {T:List AV} {d:Nat} {v:AV},(HR T d v).length=T.length
 | [],_,_=>rfl
 | _::_,0,_=>rfl
 | _::r,d+1,v=>by simp [HR,U7 (T:=r)]
def Li (d:Nat):List AV→Bool
 | []=>false
 | _::r=>match d with | 0=>true | d+1=>Li d r
theorem Lj:∀ {T:List AV} {d:Nat},Li d T=true→d<T.length
 | [],d,h=>by simp [Li] at h
 | x::r,0,_=>by simp
 | x::r,d+1,h=>by simp only [Li] at h;simp [Lj h]
def U8 (d:Option Nat) (T:List AV):Bool:=match d with
 | some d=>Li d T
 | none=>true
theorem Qq {T:List AV} {d:Option Nat} {v:AV} (h:U8 d T=true) (t:Nat):Aj (Lh T d v) t=Lg (Aj T) d v t:=by
 cases d with
 | none=>rfl
 | some d=>exact U6 (Lj h)
theorem Ng {T:List AV} {d:Option Nat} {v:AV}:(Lh T d v).length=T.length:=by
 cases d with
 | none=>rfl
 | some d=>exact U7
def Cc (P:Program) (O:Orc) (ops:Array Oper):List Oper→Nat→St→Option (List Rec×St)
 | [],_,s=>some ([],s)
 | o::rest,i,s =>
  match Ey P O ops i o (GJ ops o) (Aj s.T) s.H s.fr s.path with
  | some e=>match U8 o.dst s.T with
   | true=>match Cc P O ops rest (i+1) ⟨Lh s.T o.dst e.val,C0 s.H e.upd,s.fr+e.nw,e.path⟩ with
    | some (recs,s')=>some (⟨o.dst,e,GJ ops o,ED o (DR (Aj s.T) (GJ ops o)) (GJ ops o) s.H,s.fr⟩::recs,s')
    | none=>none
   | false=>none
  | none=>none
def GK:List Rec→List (Bool×Bool)
 | []=>[]
 | r::L=>r.r.conds++GK L
def FQ:Heap→List Nat
 | []=>[]
 | (k,_)::r=>k::FQ r
def Dx:List Rec→List Nat
 | []=>[]
 | r::L=>cat (FQ r.r.upd) (Dx L)
theorem Ir {u:Heap} {k:Nat}:k∈FQ u↔∃ y,(k,y)∈u:=by
 induction u with
 | nil=>simp [FQ]
 | cons e u ih =>
  obtain ⟨j,y⟩:=e
  simp only [FQ,List.mem_cons,ih,Prod.mk.injEq]
  constructor
  ·rintro (rfl | ⟨z,hz⟩)
   ·exact ⟨y,.inl ⟨rfl,rfl⟩⟩
   ·exact ⟨z,.inr hz⟩
  ·rintro ⟨z,⟨rfl,_⟩ | hz⟩
   ·exact .inl rfl
   ·exact .inr ⟨z,hz⟩
theorem Lk {P:Program} {O:Orc} {ops:Array Oper} {i:Nat} {o:Oper} {ts:List Nat} {τ:Nat→AV} {H:Heap} {fr:Nat} {path:List Bool} {r:R} (h:Ey P O ops i o ts τ H fr path=some r) (hfH:∀ b,fr≤b→b<fr+r.nw→AF H b=none) :
  EE H fr r.nw r.upd=true:=by
 unfold Ey at h
 split at h
 ·injection h with h;subst h;rfl
 ·split at h
  ·rename_i r0 ha
   split at h
   ·rename_i hu
    unfold Le at h
    split at h
    ·split at h
     ·injection h with h;subst h;exact Lf hu hfH
     ·cases h
    ·injection h with h;subst h;exact Lf hu hfH
   ·cases h
  ·cases h
 ·cases h
theorem Nh {H:Heap} {fr nw:Nat} {u:Heap} (hu:EE H fr nw u=true) (hf:∀ b,fr≤b→AF H b=none):∀ b,fr+nw≤b→AF (C0 H u) b=none:=by
 intro b hb
 obtain ⟨u1,u2⟩:=J6 hu
 by_cases hk:∃ y,(b,y)∈u
 ·obtain ⟨y,hy⟩:=hk
  rcases u1 _ _ hy with h | ⟨_,h,_⟩
  ·have h:=LO h;rw [hf b (by omega)] at h;cases h
  ·omega
 ·rw [(HS u2).2 (fun y hy=>hk ⟨y,hy⟩)]
  exact hf b (by omega)
section
variable {P:Program} {O:Orc} (hO:OrcOk P O) {ops:Array Oper} {β0:Env} {w0:World} {W:List Nat} {n:Fz}
include hO
omit hO in
theorem Qr:∀ {rest:List Oper} {i:Nat} {s s':St} {recs:List Rec},Cc P O ops rest i s=some (recs,s')→(∀ b,s.fr≤b→AF s.H b=none) →
  (∀ b,s'.fr≤b→AF s'.H b=none)∧s.fr≤s'.fr∧s'.T.length=s.T.length
 | [],i,s,s',recs,h,hf=>by simp only [Cc,Option.some.injEq,Prod.mk.injEq] at h;obtain ⟨rfl,rfl⟩:=h;exact ⟨hf,Nat.le_refl _,rfl⟩
 | o::rest,i,s,s',recs,h,hf=>by
  simp only [Cc] at h
  split at h
  ·rename_i e he
   split at h
   ·rename_i hd
    split at h
    ·rename_i recs' s'' hr
     injection h with h;injection h with h1 h2;subst h1;subst h2
     have hu:=Lk he (fun b h1 _=>hf b h1)
     obtain ⟨j1,j2,j3⟩:=Qr hr (Nh hu hf)
     exact ⟨j1,by simp at j2;omega,by rw [j3];exact Ng⟩
    ·cases h
   ·cases h
  ·cases h
theorem U9 {Q:Exit→Act→World→Prop}:∀ (rest:List Oper) (i:Nat) (s s':St) (recs:List Rec) (β:Env) (a:Act) (w:World),ops.toList.drop i=rest→Cc P O ops rest i s=some (recs,s')→AN (GK recs) →
  Inv β0 w0 W n β (Aj s.T) s.H a w→(∀ b,s.fr≤b→β b=none)→(∀ b,s.fr≤b→AF s.H b=none)→s.T.length=n.n→(∀ k∈Dx recs,k∈W) →
  (∀ β a w,Inv β0 w0 W n β (Aj s'.T) s'.H a w→(∀ b,s'.fr≤b→β b=none)→Q .normal a w)→wpOps P ops Q (List.range' i rest.length) a w
 | [],i,s,s',recs,β,a,w,_,h,_,hi,hf,_,_,_,hQ=>by
  simp only [Cc,Option.some.injEq,Prod.mk.injEq] at h
  obtain ⟨rfl,rfl⟩:=h
  exact hQ β a w hi hf
 | o::rest,i,s,s',recs,β,a,w,hdrop,h,hc,hi,hf,hfH,hn,hW,hQ=>by
  simp only [Cc] at h
  split at h
  ·rename_i e he
   split at h
   ·rename_i hd
    split at h
    ·rename_i recs' s'' hr
     injection h with h;injection h with h1 h2;subst h1;subst h2
     obtain ⟨c1,c2⟩:=Bc.1 hc
     have ho:ops[i]? = some o:=by
      have:=congrArg (·[0]?) hdrop
      simpa using this
     have hdrop':ops.toList.drop (i+1)=rest:=by
      rw [← List.drop_drop,hdrop];rfl
     have hu:=Lk he (fun b h1 _=>hfH b h1)
     rw [List.length_cons,List.range'_succ,wpOps_cons]
     refine Qp hO hi.tmp hi.good he c1 (fun b h1 _=>hf b h1) (fun b h1 _=>hfH b h1) ho fun u w' β' hE hG=>?_
     have hi':=hi.step hE hG (fun k y hk=>hW k (by simp only [Dx,B8,List.mem_append];exact .inl (Ir.2 ⟨y,hk⟩))) (d:=o.dst) (fun t ht=>by
      rw [ht] at hd
      have:=Lj hd
      omega)
     refine U9 rest (i+1) _ _ recs' β' _ w' hdrop' hr c2 (hi'.congr (fun t=>(Qq hd t).symm) (fun _=>rfl)) ?_ (Nh hu hfH) (by rw [← hn];exact Ng) (fun k hk=>hW k (by simp only [Dx,B8,List.mem_append];exact .inr hk)) hQ
     intro b hb
     cases hβ:β' b with
     | none=>rfl
     | some X =>
      simp only at hb
      rcases hE.new b X hβ with h | ⟨_,h,_⟩
      ·rw [hf b (by omega)] at h;cases h
      ·omega
    ·cases h
   ·cases h
  ·cases h
end
def CQ {X:Type} (f:Nat→Option X) (s:Nat→X):Nat→X:=fun k=>match f k with | some x=>x | none=>s k
def BR {X:Type} (D:Nat→Bool):Nat→List (Nat→Option X)→(Nat→X)→(Nat→X)
 | _,[],s=>s
 | i,f::L,s=>BR D (i+1) L (match D i with | true=>CQ f s | false=>s)
theorem HT {X:Type} {D D':Nat→Bool} {k:Nat}:∀ {L:List (Nat→Option X)} {i:Nat} {s s':Nat→X},(∀ j f,L[j]? = some f→D (i+j)≠D' (i+j)→f k=none)→s k=s' k→BR D i L s k=BR D' i L s' k
 | [],_,_,_,_,h=>h
 | f::L,i,s,s',h1,h2=>by
  simp only [BR]
  refine HT (fun j g hg hne=>h1 (j+1) g (by simpa using hg) (by rw [show i+(j+1)=i+1+j by omega];exact hne)) ?_
  have h0:=h1 0 f rfl
  simp only [Nat.add_zero] at h0
  cases hD:D i<;>cases hD':D' i<;>simp only
  ·exact h2
  ·have:=h0 (by rw [hD,hD'];simp);simp [CQ,this,h2]
  ·have:=h0 (by rw [hD,hD'];simp);simp [CQ,this,h2]
  ·simp only [CQ];cases f k<;>simp [h2]
theorem Qs {X:Type} {D D':Nat→Bool} {k:Nat}:∀ {L:List (Nat→Option X)} {i j0:Nat} {s:Nat→X} {f:Nat→Option X},L[j0]? = some f→D (i+j0)=false→D' (i+j0)=true→(∀ j,j≠j0→D' (i+j)=D (i+j)) →
  (∀ j g,L[j]? = some g→j0<j→D (i+j)=true→g k=none∨f k=none)→BR D' i L s k=CQ f (BR D i L s) k
 | [],_,_,_,_,h,_,_,_,_=>by simp at h
 | g::L,i,0,s,f,h,hD,hD',hsame,hno=>by
  simp only [List.getElem?_cons_zero,Option.some.injEq] at h
  subst h
  simp only [Nat.add_zero] at hD hD'
  simp only [BR,hD,hD']
  cases hf:g k with
  | none =>
   simp only [CQ,hf]
   refine HT (fun j q hq hne=>absurd ?_ hne) (by simp [CQ,hf])
   have:=hsame (j+1) (by omega)
   rwa [show i+(j+1)=i+1+j by omega] at this
  | some x =>
   simp only [CQ,hf]
   have e1:BR D' (i+1) L (CQ g s) k=BR (fun _=>false) (i+1) L (CQ g s) k:=by
    refine HT (fun j q hq hne=>?_) rfl
    have h1:D' (i+1+j)=true:=by cases h:D' (i+1+j)<;>simp_all
    have h2:D (i+(j+1))=true:=by
     rw [← hsame (j+1) (by omega),show i+(j+1)=i+1+j by omega];exact h1
    rcases hno (j+1) q (by simpa using hq) (by omega) h2 with h | h
    ·exact h
    ·rw [hf] at h;cases h
   have e2:∀ (L:List (Nat→Option X)) (i:Nat) (s:Nat→X),BR (fun _=>false) i L s=s:=by
    intro L
    induction L with
    | nil=>intro i s;rfl
    | cons f L ih=>intro i s;simp only [BR];exact ih _ _
   have e3:CQ g s k=x:=by simp [CQ,hf]
   show BR D' (i+1) L (CQ g s) k=x
   rw [e1,e2,e3]
 | g::L,i,j0+1,s,f,h,hD,hD',hsame,hno=>by
  simp only [BR]
  have h0:=hsame 0 (by omega)
  simp only [Nat.add_zero] at h0
  rw [h0]
  exact Qs (L:=L) (i:=i+1) (j0:=j0) (by simpa using h) (by rw [show i+1+j0=i+(j0+1) by omega];exact hD) (by rw [show i+1+j0=i+(j0+1) by omega];exact hD')
   (fun j hj=>by rw [show i+1+j=i+(j+1) by omega];exact hsame (j+1) (by omega))
   (fun j q hq hlt hd=>hno (j+1) q (by simpa using hq) (by omega) (by rw [show i+(j+1)=i+1+j by omega];exact hd))
def EF:Heap→Nat→Option (Option Blk)
 | [],_=>none
 | (k,y)::r,b=>match Nat.beq k b with | true=>some y | false=>EF r b
theorem Ll {b:Nat}:∀ {u:Heap},(∀ y,EF u b=some y→(b,y)∈u)∧(EF u b=none→∀ y,(b,y) ∉ u)
 | []=>⟨by simp [EF],by simp⟩
 | (k,z)::r=>by
  simp only [EF]
  split
  ·rename_i h;have:=Ag.1 h;subst this
   exact ⟨fun y hy=>by injection hy with hy;simp [hy],fun h=>by cases h⟩
  ·rename_i h
   have:=EC h
   refine ⟨fun y hy=>by simp [(Ll (u:=r)).1 y hy],fun hn y hy=>?_⟩
   simp only [List.mem_cons,Prod.mk.injEq] at hy
   rcases hy with ⟨e,_⟩ | hy
   ·exact this e.symm
   ·exact (Ll (u:=r)).2 hn y hy
theorem Qt {u H:Heap} (hu:∀ k y y',(k,y)∈u→(k,y')∈u→y=y') (b:Nat):AF (C0 H u) b=CQ (EF u) (AF H) b:=by
 obtain ⟨h1,h2⟩:=HS (b:=b) (H:=H) hu
 simp only [CQ]
 cases hl:EF u b with
 | none=>exact h2 (Ll.2 hl)
 | some y=>exact h1 y (Ll.1 y hl)
def HU (d:Option Nat) (v:AV):Nat→Option AV:=fun t=>match d with
 | some d=>match Nat.beq d t with | true=>some v | false=>none
 | none=>none
theorem U_ (τ:Nat→AV) (d:Option Nat) (v:AV) (t:Nat):Lg τ d v t=CQ (HU d v) τ t:=by
 unfold Lg CQ HU
 cases d with
 | none=>rfl
 | some d=>simp only;cases Nat.beq d t<;>rfl
def hD (D:Nat→Bool):Nat→List Rec→Heap→Heap
 | _,[],H=>H
 | i,r::L,H=>hD D (i+1) L (match D i with | true=>C0 H r.r.upd | false=>H)
def LT (L:List Rec):List (Nat→Option AV):=L.map fun r=>HU r.dst r.r.val
def LH (L:List Rec):List (Nat→Option (Option Blk)):=L.map fun r=>EF r.r.upd
theorem It {D:Nat→Bool}:∀ {L:List Rec} {i:Nat} {H:Heap},(∀ r∈L,∀ k y y',(k,y)∈r.r.upd→(k,y')∈r.r.upd→y=y')→∀ b,AF (hD D i L H) b=BR D i (LH L) (AF H) b
 | [],_,_,_,_=>rfl
 | r::L,i,H,hu,b=>by
  simp only [hD,LH,List.map_cons,BR]
  rw [It (L:=L) (fun q hq=>hu q (by simp [hq]))]
  have hfun:AF (match D i with | true=>C0 H r.r.upd | false=>H)=(match D i with | true=>CQ (EF r.r.upd) (AF H) | false=>AF H):=by
   funext x
   cases D i
   ·rfl
   ·exact Qt (hu r (by simp)) x
  rw [hfun];rfl
theorem Qu {P:Program} {O:Orc} {ops:Array Oper}:∀ {rest:List Oper} {i:Nat} {s s':St} {recs:List Rec},Cc P O ops rest i s=some (recs,s')→(∀ b,s.fr≤b→AF s.H b=none) →
  recs.length=rest.length∧(∀ r∈recs,∀ k y y',(k,y)∈r.r.upd→(k,y')∈r.r.upd→y=y') ∧
  (∀ t,Aj s'.T t=BR (fun _=>true) 0 (LT recs) (Aj s.T) t)∧(∀ b,AF s'.H b=BR (fun _=>true) 0 (LH recs) (AF s.H) b) ∧
  (∀ (j:Nat) (r:Rec),recs[j]? = some r→∃ (o:Oper) (T:List AV) (H:Heap) (path:List Bool),rest[j]? = some o∧Ey P O ops (i+j) o (GJ ops o) (Aj T) H r.fr path=some r.r∧r.dst=o.dst∧r.ts=GJ ops o∧r.ks=ED o (DR (Aj T) r.ts) r.ts H ∧
   (∀ t,Aj T t=BR (fun x=>Nat.blt x j) 0 (LT recs) (Aj s.T) t)∧(∀ b,AF H b=BR (fun x=>Nat.blt x j) 0 (LH recs) (AF s.H) b)∧(∀ t,o.dst=some t→t<s.T.length)∧s.fr≤r.fr∧r.fr+r.r.nw≤s'.fr∧(∀ b,r.fr≤b→AF H b=none)) ∧
  (∀ (j j':Nat) (r r':Rec),recs[j]? = some r→recs[j']? = some r'→j<j'→r.fr+r.r.nw≤r'.fr)
 | [],i,s,s',recs,h,hf=>by
  simp only [Cc,Option.some.injEq,Prod.mk.injEq] at h
  obtain ⟨rfl,rfl⟩:=h
  exact ⟨rfl,by simp,fun _=>rfl,fun _=>rfl,by simp,by simp⟩
 | o::rest,i,s,s',recs,h,hf=>by
  simp only [Cc] at h
  split at h
  ·rename_i e he
   split at h
   ·rename_i hd
    split at h
    ·rename_i recs' s'' hr
     injection h with h;injection h with h1 h2;subst h1;subst h2
     have hu:=Lk he (fun b h1 _=>hf b h1)
     have hf':=Nh hu hf
     obtain ⟨_,u2⟩:=J6 hu
     obtain ⟨i1,i2,i3,i4,i5,i6⟩:=Qu hr hf'
     have shift:∀ {X:Type} (D:Nat→Bool) (L:List (Nat→Option X)) (q:Nat) (x:Nat→X),BR D (q+1) L x=BR (fun y=>D (y+1)) q L x:=by
      intro X D L
      induction L with
      | nil=>intro q x;rfl
      | cons f L ih=>intro q x;simp only [BR];rw [ih]
     have tT:∀ t,Aj (Lh s.T o.dst e.val) t=CQ (HU o.dst e.val) (Aj s.T) t:=fun t=>by rw [Qq hd,U_]
     have tTf:Aj (Lh s.T o.dst e.val)=CQ (HU o.dst e.val) (Aj s.T):=funext tT
     have tHf:AF (C0 s.H e.upd)=CQ (EF e.upd) (AF s.H):=funext (Qt u2)
     have frs:s.fr+e.nw≤s''.fr:=by
      have:∀ {rest:List Oper} {i:Nat} {s s':St} {recs:List Rec},Cc P O ops rest i s=some (recs,s')→s.fr≤s'.fr:=by
       intro rest
       induction rest with
       | nil=>intro i s s' recs h;simp only [Cc,Option.some.injEq,Prod.mk.injEq] at h;rw [← h.2];exact Nat.le_refl _
       | cons o rest ih =>
        intro i s s' recs h
        simp only [Cc] at h
        split at h
        ·split at h
         ·split at h
          ·rename_i hq
           injection h with h;injection h with h1 h2;subst h2
           have:=ih hq
           simp at this;omega
          ·cases h
         ·cases h
        ·cases h
      exact this hr
     refine ⟨by simp [i1],?_,?_,?_,?_,?_⟩
     ·intro r hr'
      rcases List.mem_cons.1 hr' with rfl | hr'
      ·exact u2
      ·exact i2 r hr'
     ·intro t
      rw [i3]
      simp only [LT,List.map_cons,BR]
      rw [shift,tTf]
     ·intro b
      rw [i4]
      simp only [LH,List.map_cons,BR]
      rw [shift,tHf]
     ·intro j r hj
      cases j with
      | zero =>
       simp only [List.getElem?_cons_zero,Option.some.injEq] at hj
       subst hj
       have e2:∀ {X:Type} (L:List (Nat→Option X)) (i:Nat) (s:Nat→X),BR (fun x=>Nat.blt x 0) i L s=s:=by
        intro X L
        induction L with
        | nil=>intro i s;rfl
        | cons f L ih =>
         intro i s
         simp only [BR]
         have:Nat.blt i 0=false:=by cases i<;>rfl
         rw [this];exact ih _ _
       refine ⟨o,s.T,s.H,s.path,rfl,he,rfl,rfl,rfl,fun t=>by rw [e2],fun b=>by rw [e2],?_,Nat.le_refl _,frs,hf⟩
       intro t ht
       rw [ht] at hd
       exact Lj hd
      | succ j =>
       obtain ⟨o',T,H,path,q1,q2,q3,q4,q5,q6,q7,q8,q9,q10,q11⟩:=i5 j r (by simpa using hj)
       refine ⟨o',T,H,path,by simpa using q1,by rw [show i+(j+1)=i+1+j by omega];exact q2,q3,q4,q5,?_,?_,?_,?_,q10,q11⟩
       ·intro t
        rw [q6]
        simp only [LT,List.map_cons,BR]
        rw [shift,tTf]
        have:Nat.blt 0 (j+1)=true:=rfl
        rw [this]
        rfl
       ·intro b
        rw [q7]
        simp only [LH,List.map_cons,BR]
        rw [shift,tHf]
        have:Nat.blt 0 (j+1)=true:=rfl
        rw [this]
        rfl
       ·intro t ht
        have:=q8 t ht
        rwa [Ng] at this
       ·simp at q9;omega
     ·intro j j' r r' hj hj' hlt
      cases j' with
      | zero=>omega
      | succ j' =>
       cases j with
       | zero =>
        simp only [List.getElem?_cons_zero,Option.some.injEq] at hj
        subst hj
        obtain ⟨_,_,_,_,_,_,_,_,_,_,_,_,q9,_⟩:=i5 j' r' (by simpa using hj')
        exact q9
       | succ j=>exact i6 j j' r r' (by simpa using hj) (by simpa using hj') (by omega)
    ·cases h
   ·cases h
  ·cases h
def FR (acc:List Nat):List Edge→Nat
 | []=>0
 | e::r=>match Region.binds .any e with
  | true=>2^e.on ||| (acc.getD e.on 0 ||| FR acc r)
  | false=>FR acc r
theorem Qv {acc:List Nat} {k:Nat}:∀ {es:List Edge},(FR acc es).testBit k=true→∃ e∈es,Region.binds .any e=true∧(k=e.on∨(acc.getD e.on 0).testBit k=true)
 | [],h=>by simp [FR] at h
 | e::r,h=>by
  simp only [FR] at h
  split at h
  ·rename_i hb
   rw [Nat.testBit_or,Nat.testBit_or,Bool.or_eq_true,Bool.or_eq_true] at h
   rcases h with h | h | h
   ·rw [Nat.testBit_two_pow] at h
    exact ⟨e,by simp,hb,.inl (by simpa using (of_decide_eq_true h).symm)⟩
   ·exact ⟨e,by simp,hb,.inr h⟩
   ·obtain ⟨e',h1,h2⟩:=Qv h
    exact ⟨e',by simp [h1],h2⟩
  ·obtain ⟨e',h1,h2⟩:=Qv h
   exact ⟨e',by simp [h1],h2⟩
def EG:List Oper→List Nat→List Nat
 | [],acc=>acc
 | o::r,acc=>EG r (acc++[FR acc o.after.toList])
theorem Qw:∀ {l:List Oper} {acc:List Nat} {j:Nat},j<acc.length→(EG l acc).getD j 0=acc.getD j 0
 | [],_,_,_=>rfl
 | o::r,acc,j,h=>by
  simp only [EG]
  rw [Qw (by simp;omega)]
  simp only [List.getD_eq_getElem?_getD]
  rw [List.getElem?_append_left h]
theorem U':∀ {l:List Oper} {acc:List Nat} {j k:Nat} {o:Oper},l[j]? = some o→((EG l acc).getD (acc.length+j) 0).testBit k=true →
  ∃ e∈o.after.toList,Region.binds .any e=true∧(k=e.on∨((EG l acc).getD e.on 0).testBit k=true)
 | [],_,_,_,_,h,_=>by simp at h
 | o::r,acc,0,k,o',h,hb=>by
  simp only [List.getElem?_cons_zero,Option.some.injEq] at h
  subst h
  simp only [EG,Nat.add_zero] at hb ⊢
  rw [Qw (by simp)] at hb
  have:(acc++[FR acc o.after.toList]).getD acc.length 0=FR acc o.after.toList:=by simp [List.getD_eq_getElem?_getD]
  rw [this] at hb
  obtain ⟨e,h1,h2,h3⟩:=Qv hb
  refine ⟨e,h1,h2,h3.imp id fun h=>?_⟩
  rcases Nat.lt_or_ge e.on acc.length with hlt | hge
  ·rw [Qw (by simp;omega)]
   have:(acc++[FR acc o.after.toList]).getD e.on 0=acc.getD e.on 0:=by
    simp only [List.getD_eq_getElem?_getD]
    rw [List.getElem?_append_left hlt]
   rw [this];exact h
  ·have:acc.getD e.on 0=0:=by simp [List.getD_eq_getElem?_getD,List.getElem?_eq_none hge]
   rw [this] at h;simp at h
 | o::r,acc,j+1,k,o',h,hb=>by
  simp only [EG] at hb ⊢
  have e1:acc.length+(j+1)=(acc++[FR acc o.after.toList]).length+j:=by simp;omega
  rw [e1] at hb
  exact U' (by simpa using h) hb
def Lm:List Edge→Nat→Bool
 | [],_=>true
 | e::r,i=>match Region.binds .any e with
  | true=>match Nat.blt e.on i with | true=>Lm r i | false=>false
  | false=>Lm r i
theorem Qy:∀ {es:List Edge} {i:Nat},Lm es i=true→∀ e∈es,Region.binds .any e=true→e.on<i
 | [],_,_,e,h,_=>by cases h
 | e'::r,i,h,e,he,hb=>by
  simp only [Lm] at h
  split at h
  ·split at h
   ·rename_i hlt
    rcases List.mem_cons.1 he with rfl | he
    ·unfold Nat.blt at hlt;exact Nat.le_of_ble_eq_true hlt
    ·exact Qy h e he hb
   ·cases h
  ·rename_i hnb
   rcases List.mem_cons.1 he with rfl | he
   ·rw [hb] at hnb;cases hnb
   ·exact Qy h e he hb
def J7:List Oper→Nat→Bool
 | [],_=>true
 | o::r,i=>match Lm o.after.toList i with | true=>J7 r (i+1) | false=>false
theorem VA:∀ {l:List Oper} {i j:Nat} {o:Oper},J7 l i=true→l[j]? = some o→∀ e∈o.after.toList,Region.binds .any e=true→e.on<i+j
 | [],_,_,_,_,h=>by simp at h
 | o::r,i,0,o',h,hj=>by
  simp only [List.getElem?_cons_zero,Option.some.injEq] at hj
  subst hj
  simp only [J7] at h
  split at h
  ·rename_i he;exact Qy he
  ·cases h
 | o::r,i,j+1,o',h,hj=>by
  simp only [J7] at h
  split at h
  ·have:=VA h (by simpa using hj)
   intro e he hb
   have:=this e he hb
   omega
  ·cases h
def GL:List Nat→List Nat→Bool
 | [],_=>true
 | x::r,l=>match Ew x l with | true=>false | false=>GL r l
theorem Iu:∀ {a b:List Nat},GL a b=true→∀ x∈a,x ∉ b
 | [],_,_,x,h=>by cases h
 | y::r,b,h,x,hx=>by
  simp only [GL] at h
  split at h
  ·cases h
  ·rename_i hm
   rcases List.mem_cons.1 hx with rfl | hx
   ·intro hb;rw [Lb.2 hb] at hm;cases hm
   ·exact Iu h x hx
def HV (d:Option Nat):List Nat:=match d with | some d=>[d] | none=>[]
def VB (r s:Rec):Bool :=
 GL (HV r.dst) s.ts&&(GL (HV s.dst) r.ts&&(GL (HV r.dst) (HV s.dst)&&(GL (FQ r.r.upd) s.ks&&(GL (FQ s.r.upd) r.ks&&GL (FQ r.r.upd) (FQ s.r.upd)))))
def Ni (l:List Nat) (fr nw:Nat):Bool:=match l with
 | []=>true
 | k::r=>match Nat.ble fr k&&Nat.blt k (fr+nw) with | true=>false | false=>Ni r fr nw
theorem VC:∀ {l:List Nat} {fr nw:Nat},Ni l fr nw=true→∀ k∈l,fr≤k→¬ k<fr+nw
 | [],_,_,_,k,h,_=>by cases h
 | x::r,fr,nw,h,k,hk,h1=>by
  intro h2
  simp only [Ni] at h
  split at h
  ·cases h
  ·rename_i hb
   rcases List.mem_cons.1 hk with rfl | hk
   ·have e1:=Nat.ble_eq_true_of_le h1
    have e2:Nat.blt k (fr+nw)=true:=by unfold Nat.blt;exact Nat.ble_eq_true_of_le h2
    rw [e1,e2] at hb;cases hb
   ·exact VC h k hk h1 h2
def J8 (r s:Rec):Bool :=
 Ni s.ks r.fr r.r.nw&&VB r s
def C6 (m i:Nat):Bool:=Nat.testBit m i
def HW (i:Nat) (r:Rec):List Rec→List Nat→Bool
 | [],_=>true
 | s::L,m::ms=>match C6 m i with
  | true=>HW i r L ms
  | false=>match J8 r s with | true=>HW i r L ms | false=>false
 | _::_,[]=>false
def Iv:List Rec→List Nat→Nat→Bool
 | [],_,_=>true
 | r::L,_::ms,i=>match HW i r L ms with | true=>Iv L ms (i+1) | false=>false
 | _::_,[],_=>false
theorem VD {i:Nat} {r:Rec}:∀ {L:List Rec} {ms:List Nat} {j:Nat} {s:Rec},HW i r L ms=true→L[j]? = some s→(ms.getD j 0).testBit i=false→J8 r s=true
 | [],_,_,_,_,h,_=>by simp at h
 | s::L,[],j,s',h,_,_=>by simp [HW] at h
 | s::L,m::ms,0,s',h,hj,hb=>by
  simp only [List.getElem?_cons_zero,Option.some.injEq] at hj
  subst hj
  simp only [HW,C6] at h
  have hb':m.testBit i=false:=by simpa using hb
  rw [hb'] at h
  simp only at h
  split at h
  ·assumption
  ·cases h
 | s::L,m::ms,j+1,s',h,hj,hb=>by
  simp only [HW] at h
  have key:HW i r L ms=true:=by
   split at h
   ·exact h
   ·split at h
    ·exact h
    ·cases h
  exact VD key (by simpa using hj) (by simpa using hb)
theorem Qz:∀ {L:List Rec} {ms:List Nat} {i j j':Nat} {r s:Rec},Iv L ms i=true→L[j]? = some r→L[j']? = some s→j<j'→(ms.getD j' 0).testBit (i+j)=false→J8 r s=true
 | [],_,_,_,_,_,_,_,h,_,_,_=>by simp at h
 | q::L,[],_,_,_,_,_,h,_,_,_,_=>by simp [Iv] at h
 | q::L,m::ms,i,0,j'+1,r,s,h,hj,hj',_,hb=>by
  simp only [List.getElem?_cons_zero,Option.some.injEq] at hj
  subst hj
  simp only [Iv] at h
  split at h
  ·rename_i h1
   exact VD h1 (by simpa using hj') (by simpa using hb)
  ·cases h
 | q::L,m::ms,i,j+1,j'+1,r,s,h,hj,hj',hlt,hb=>by
  simp only [Iv] at h
  split at h
  ·exact Qz h (by simpa using hj) (by simpa using hj') (by omega) (by rw [show i+1+j=i+(j+1) by omega];simpa using hb)
  ·cases h
 | q::L,m::ms,i,j,0,r,s,h,hj,hj',hlt,hb=>by omega
theorem Nj {r s:Rec} (h:J8 r s=true) :
  (∀ d,r.dst=some d→d ∉ s.ts)∧(∀ d,s.dst=some d→d ∉ r.ts)∧(∀ d,r.dst=some d→s.dst≠some d)∧(∀ k y,(k,y)∈r.r.upd→k ∉ s.ks)∧(∀ k y,(k,y)∈s.r.upd→k ∉ r.ks)∧(∀ k y y',(k,y)∈r.r.upd→(k,y') ∉ s.r.upd):=by
 have h:=(Bool.and_eq_true_iff.1 h).2
 unfold VB at h
 simp only [Bool.and_eq_true] at h
 obtain ⟨h1,h2,h3,h4,h5,h6⟩:=h
 refine ⟨fun d hd=>Iu h1 d (by simp [HV,hd]),fun d hd=>Iu h2 d (by simp [HV,hd]),fun d hd he=>Iu h3 d (by simp [HV,hd]) (by simp [HV,he]),
  fun k y hk=>Iu h4 k (Ir.2 ⟨y,hk⟩),fun k y hk=>Iu h5 k (Ir.2 ⟨y,hk⟩),fun k y y' hk hk'=>Iu h6 k (Ir.2 ⟨y,hk⟩) (Ir.2 ⟨y',hk'⟩)⟩
theorem Q0 {H:Heap} {b:Nat}:∀ {ks:List Nat},(AF (restrict H ks) b).isSome=true→b∈ks
 | [],h=>by simp [restrict,AF] at h
 | k::r,h=>by
  simp only [restrict] at h
  split at h
  ·simp only [AF] at h
   split at h
   ·rename_i e;rw [← Ag.1 e];simp
   ·exact List.mem_cons_of_mem _ (Q0 h)
  ·exact List.mem_cons_of_mem _ (Q0 h)
theorem bK {P:Program} {O:Orc} {ops:Array Oper} {i:Nat} {o:Oper} {ts:List Nat} {τ:Nat→AV} {H:Heap} {fr:Nat} {path:List Bool} {r:R} (h:Ey P O ops i o ts τ H fr path=some r) :
  ∀ k y,(k,y)∈r.upd→k∈ED o (DR τ ts) ts H∨(fr≤k∧k<fr+r.nw):=by
 have key:∀ (r0:R),EE (restrict H (ED o (DR τ ts) ts H)) fr r0.nw r0.upd=true→∀ k y,(k,y)∈r0.upd→k∈ED o (DR τ ts) ts H∨(fr≤k∧k<fr+r0.nw):=by
  intro r0 hu k y hk
  rcases (J6 hu).1 k y hk with h | ⟨h1,h2,_⟩
  ·exact .inl (Q0 (LO h))
  ·exact .inr ⟨h1,h2⟩
 unfold Ey at h
 split at h
 ·injection h with h;subst h
  intro k y hk;cases hk
 ·split at h
  ·rename_i r0 ha
   split at h
   ·rename_i hu
    unfold Le at h
    split at h
    ·split at h
     ·injection h with h;subst h;exact key r0 hu
     ·cases h
    ·injection h with h;subst h;exact key r0 hu
   ·cases h
  ·cases h
 ·cases h
theorem Q1 {d:Option Nat} {v:AV} {t:Nat} (h:d≠some t):HU d v t=none:=by
 unfold HU
 cases d with
 | none=>rfl
 | some d=>simp only;rw [Es (fun e=>h (by rw [e]))]
theorem Nk {u:Heap} {b:Nat} (h:∀ y,(b,y) ∉ u):EF u b=none:=by
 cases hl:EF u b with
 | none=>rfl
 | some y=>exact absurd (Ll.1 y hl) (h y)
def left (listed:Array Bool) (m:Nat):Nat:=(List.range m).countP fun i=>!listed.getD i true
theorem VE {α:Type} (p q:α→Bool):∀ (l:List α),(∀ x∈l,q x=true→p x=true)→l.countP q≤l.countP p
 | [],_=>Nat.le_refl _
 | x::l,h=>by
  have ih:=VE p q l (fun y hy=>h y (by simp [hy]))
  rw [List.countP_cons,List.countP_cons]
  cases hq:q x with
  | false=>simp;cases p x<;>simp<;>omega
  | true=>rw [h x (by simp) hq];simp;exact ih
theorem VF {α:Type} (p q:α→Bool):∀ (l:List α) (y:α),y∈l→p y=true→q y=false→(∀ x∈l,q x=true→p x=true)→l.countP q<l.countP p
 | x::l,y,hy,hp,hq,h=>by
  rw [List.countP_cons,List.countP_cons]
  rcases List.mem_cons.1 hy with rfl | hy'
  ·have:=VE p q l (fun z hz=>h z (by simp [hz]))
   rw [hp,hq];simp;omega
  ·have:=VF p q l y hy' hp hq (fun z hz=>h z (by simp [hz]))
   cases hqx:q x with
   | false=>simp;cases p x<;>simp<;>omega
   | true=>rw [h x (by simp) hqx];simp;exact this
section
variable {P:Program} {O:Orc} (hO:OrcOk P O) {ops:Array Oper} {β0:Env} {w0:World} {W:List Nat} {n:Fz}
include hO
theorem bL {Q:Exit→Act→World→Prop} {s s':St} {recs:List Rec} (hrun:Cc P O ops ops.toList 0 s=some (recs,s')) (hchk:Iv recs (EG ops.toList []) 0=true) (hedge:J7 ops.toList 0=true)
  (hc:AN (GK recs)) (hfH:∀ b,s.fr≤b→AF s.H b=none) (hn:s.T.length=n.n) (hW:∀ k∈Dx recs,k∈W)
  (hQ:∀ β a w,Inv β0 w0 W n β (Aj s'.T) s'.H a w→(∀ b,s'.fr≤b→β b=none)→Q .normal a w) :
  ∀ (fuel:Nat) (listed:Array Bool) (β:Env) (a:Act) (w:World),listed.size=ops.size→left listed ops.size≤fuel →
   Inv β0 w0 W n β (BR (fun i=>listed.getD i false) 0 (LT recs) (Aj s.T)) (hD (fun i=>listed.getD i false) 0 recs s.H) a w →
   (∀ b,s'.fr≤b→β b=none)→(∀ j r,recs[j]? = some r→listed.getD j false=false→∀ b,r.fr≤b→b<r.fr+r.r.nw→β b=none) →
   (∀ j,listed.getD j false=true→∀ k,((EG ops.toList []).getD j 0).testBit k=true→listed.getD k false=true) →
   wpAny P .any ops Q fuel listed a w:=by
 obtain ⟨r1,r2,r3,r4,r5,r6⟩:=Qu hrun hfH
 have hlen:recs.length=ops.size:=by rw [r1];simp
 have done:∀ (listed:Array Bool),listed.size=ops.size→Region.ready .any ops listed=[]→∀ i,i<ops.size→listed.getD i false=true:=by
  intro listed hsz hr i
  induction i using Nat.strongRecOn with
  | _ i ih =>
   intro hi
   cases hl:listed.getD i false with
   | true=>rfl
   | false =>
    exfalso
    have ho:ops[i]? = some ops[i]:=Array.getElem?_eq_getElem hi
    have hmem:i∈Region.ready .any ops listed:=by
     unfold Region.ready
     rw [List.mem_filter]
     refine ⟨List.mem_range.2 hi,?_⟩
     have hl':listed.getD i true=false:=by
      rw [Array.getD_eq_getD_getElem?] at hl ⊢
      rw [Array.getElem?_eq_getElem (by omega)] at hl ⊢
      simpa using hl
     rw [ho]
     simp only [hl',Bool.not_false,Bool.true_and,Option.map_some,Option.getD_some]
     rw [Array.all_eq_true_iff_forall_mem]
     intro e he
     cases hb:Region.binds .any e with
     | false=>rfl
     | true =>
      have:=VA hedge (j:=i) (o:=ops[i]) (by simp) e (by simpa using he) hb
      rw [ih e.on (by omega) (by omega)]
      rfl
    rw [hr] at hmem
    cases hmem
 have fin:∀ (listed:Array Bool) (β:Env) (a:Act) (w:World),listed.size=ops.size→Region.ready .any ops listed=[] →
   Inv β0 w0 W n β (BR (fun i=>listed.getD i false) 0 (LT recs) (Aj s.T)) (hD (fun i=>listed.getD i false) 0 recs s.H) a w→(∀ b,s'.fr≤b→β b=none)→Q .normal a w:=by
  intro listed β a w hsz hr hi hf
  have hd:=done listed hsz hr
  refine hQ β a w (hi.congr (fun t=>?_) (fun b=>?_)) hf
  ·rw [r3]
   refine HT (fun j f hj hne=>?_) rfl
   have:j<ops.size:=by
    have:=(List.getElem?_eq_some_iff.1 hj).1
    simp [LT] at this;omega
   rw [Nat.zero_add,hd j this] at hne
   exact absurd rfl hne
  ·rw [r4,It r2]
   refine HT (fun j f hj hne=>?_) rfl
   have:j<ops.size:=by
    have:=(List.getElem?_eq_some_iff.1 hj).1
    simp [LH] at this;omega
   rw [Nat.zero_add,hd j this] at hne
   exact absurd rfl hne
 intro fuel
 induction fuel with
 | zero =>
  intro listed β a w hsz hleft hi hf _ _
  have hr:Region.ready .any ops listed=[]:=by
   apply List.eq_nil_iff_forall_not_mem.2
   intro i hm
   unfold Region.ready at hm
   rw [List.mem_filter] at hm
   have h1:(!listed.getD i true)=true:=(Bool.and_eq_true_iff.1 hm.2).1
   have:0<left listed ops.size:=List.countP_pos_iff.2 ⟨i,hm.1,h1⟩
   omega
  exact ⟨hr,fin listed β a w hsz hr hi hf⟩
 | succ fuel ih =>
  intro listed β a w hsz hleft hi hf hfr hclosed
  refine ⟨fun hr=>fin listed β a w hsz hr hi hf,fun i hmem=>?_⟩
  unfold Region.ready at hmem
  rw [List.mem_filter] at hmem
  obtain ⟨hrange,hready⟩:=hmem
  have hilt:=List.mem_range.1 hrange
  obtain ⟨hnl,hedges⟩:=Bool.and_eq_true_iff.1 hready
  have hnl':listed.getD i false=false:=by
   rw [Array.getD_eq_getD_getElem?] at hnl ⊢
   rw [Array.getElem?_eq_getElem (by omega)] at hnl ⊢
   simpa using hnl
  have ho:ops[i]? = some ops[i]:=Array.getElem?_eq_getElem hilt
  rw [ho] at hedges
  simp only [Option.map_some,Option.getD_some] at hedges
  have hdeps:∀ e∈ops[i].after.toList,Region.binds .any e=true→listed.getD e.on false=true:=by
   intro e he hb
   have:=Array.all_eq_true_iff_forall_mem.1 hedges e (by simpa using he)
   rw [hb] at this
   simpa using this
  have hbits:∀ k,((EG ops.toList []).getD i 0).testBit k=true→listed.getD k false=true:=by
   intro k hk
   obtain ⟨e,h1,h2,h3⟩:=U' (l:=ops.toList) (acc:=[]) (j:=i) (k:=k) (o:=ops[i]) (by simp) (by simpa using hk)
   have:=hdeps e h1 h2
   rcases h3 with h3 | h3
   ·rw [h3];exact this
   ·exact hclosed e.on this k h3
  have hrec:recs[i]? = some recs[i]:=List.getElem?_eq_getElem (by omega)
  obtain ⟨o,T,H,path,q1,q2,q3,q4,q5,q6,q7,q8,q9,q10,q11⟩:=r5 i _ hrec
  have ho':o=ops[i]:=by
   rw [Array.getElem?_toList,ho] at q1
   injection q1 with q1;exact q1.symm
  subst ho'
  rw [Nat.zero_add] at q2
  have later:∀ j r,recs[j]? = some r→i<j→listed.getD j false=true→J8 recs[i] r=true:=by
   intro j r hj hlt hl
   refine Qz hchk hrec hj hlt ?_
   rw [Nat.zero_add]
   cases hb:((EG ops.toList []).getD j 0).testBit i with
   | false=>rfl
   | true=>rw [hclosed j hl i hb] at hnl';cases hnl'
  have earlier:∀ j r,recs[j]? = some r→j<i→listed.getD j false=false→J8 r recs[i]=true:=by
   intro j r hj hlt hl
   refine Qz hchk hj hrec hlt ?_
   rw [Nat.zero_add]
   cases hb:((EG ops.toList []).getD i 0).testBit j with
   | false=>rfl
   | true=>rw [hbits j hb] at hl;cases hl
  have blt:∀ j,Nat.blt j i=true↔j<i:=fun j=>by unfold Nat.blt;exact ⟨Nat.le_of_ble_eq_true,Nat.ble_eq_true_of_le⟩
  have side:∀ j r,recs[j]? = some r→(fun x=>Nat.blt x i) (0+j)≠(fun i=>listed.getD i false) (0+j)→(∀ t∈recs[i].ts,r.dst≠some t)∧(∀ k∈recs[i].ks,∀ y,(k,y) ∉ r.r.upd):=by
   intro j r hj hne
   simp only [Nat.zero_add] at hne
   rcases Nat.lt_trichotomy j i with hlt | rfl | hlt
   ·have hb:=(blt j).2 hlt
    rw [hb] at hne
    have hl:listed.getD j false=false:=by cases h:listed.getD j false with | false=>rfl | true=>rw [h] at hne;exact absurd rfl hne
    obtain ⟨p1,_,_,p4,_,_⟩:=Nj (earlier j r hj hlt hl)
    exact ⟨fun t ht hd=>p1 t hd ht,fun k hk y hy=>p4 k y hy hk⟩
   ·have hb:Nat.blt j j=false:=by cases h:Nat.blt j j with | false=>rfl | true=>exact absurd ((blt j).1 h) (by omega)
    rw [hb,hnl'] at hne;exact absurd rfl hne
   ·have hb:Nat.blt j i=false:=by cases h:Nat.blt j i with | false=>rfl | true=>exact absurd ((blt j).1 h) (by omega)
    rw [hb] at hne
    have hl:listed.getD j false=true:=by cases h:listed.getD j false with | true=>rfl | false=>rw [h] at hne;exact absurd rfl hne
    obtain ⟨_,p2,_,_,p5,_⟩:=Nj (later j r hj hlt hl)
    exact ⟨fun t ht hd=>p2 t hd ht,fun k hk y hy=>p5 k y hy hk⟩
  have agT:∀ t∈GJ ops ops[i],Aj T t=BR (fun i=>listed.getD i false) 0 (LT recs) (Aj s.T) t:=by
   intro t ht
   rw [q6]
   refine HT (fun j f hj hne=>?_) rfl
   simp only [LT,List.getElem?_map,Option.map_eq_some_iff] at hj
   obtain ⟨r,hr,rfl⟩:=hj
   exact Q1 ((side j r hr hne).1 t (by rw [q4];exact ht))
  have agH:∀ k∈ED ops[i] (DR (Aj T) (GJ ops ops[i])) (GJ ops ops[i]) H,AF H k=AF (hD (fun i=>listed.getD i false) 0 recs s.H) k:=by
   intro k hk
   rw [q7,It r2]
   refine HT (fun j f hj hne=>?_) rfl
   simp only [LH,List.getElem?_map,Option.map_eq_some_iff] at hj
   obtain ⟨r,hr,rfl⟩:=hj
   exact Nk fun y=>(side j r hr hne).2 k (by rw [q5,q4];exact hk) y
  rw [bJ agT agH] at q2
  have hcr:AN recs[i].r.conds:=by
   have:∀ (L:List Rec) (j:Nat) (r:Rec),AN (GK L)→L[j]? = some r→AN r.r.conds:=by
    intro L
    induction L with
    | nil=>intro j r _ h;simp at h
    | cons q L ihL =>
     intro j r hcL hj
     obtain ⟨c1,c2⟩:=Bc.1 hcL
     cases j with
     | zero=>simp at hj;subst hj;exact c1
     | succ j=>exact ihL j r c2 (by simpa using hj)
   exact this recs i _ hc hrec
  have keysW:∀ k y,(k,y)∈recs[i].r.upd→k∈W:=by
   intro k y hk
   refine hW k ?_
   have:∀ (L:List Rec) (r:Rec),r∈L→k∈FQ r.r.upd→k∈Dx L:=by
    intro L
    induction L with
    | nil=>intro r h;cases h
    | cons q L ihL =>
     intro r hr hkr
     simp only [Dx,B8,List.mem_append]
     rcases List.mem_cons.1 hr with rfl | hr
     ·exact .inl hkr
     ·exact .inr (ihL r hr hkr)
   exact this recs _ (List.getElem_mem _) (Ir.2 ⟨y,hk⟩)
  have freeH:∀ b,recs[i].fr≤b→b<recs[i].fr+recs[i].r.nw→AF (hD (fun i=>listed.getD i false) 0 recs s.H) b=none:=by
   intro b h1 h2
   have e:=q11 b h1
   rw [q7] at e
   rw [It r2,← e]
   refine HT (fun j f hj hne=>?_) rfl
   simp only [LH,List.getElem?_map,Option.map_eq_some_iff] at hj
   obtain ⟨r,hr,rfl⟩:=hj
   refine Nk fun y hy=>?_
   obtain ⟨o2,T2,H2,path2,w1,w2,_,w4,w5,_,_,_,w9,w10,w11⟩:=r5 j r hr
   have hu2:=Lk w2 (fun b h1 _=>w11 b h1)
   simp only [Nat.zero_add] at hne
   rcases Nat.lt_trichotomy j i with hlt | rfl | hlt
   ·have:=r6 j i r _ hr hrec hlt
    rcases (J6 hu2).1 b y hy with hh | ⟨_,hh,_⟩
    ·have hh:=LO hh;rw [w11 b (by omega)] at hh;cases hh
    ·omega
   ·have hb:Nat.blt j j=false:=by cases h:Nat.blt j j with | false=>rfl | true=>exact absurd ((blt j).1 h) (by omega)
    rw [hb,hnl'] at hne;exact absurd rfl hne
   ·have hb:Nat.blt j i=false:=by cases h:Nat.blt j i with | false=>rfl | true=>exact absurd ((blt j).1 h) (by omega)
    rw [hb] at hne
    have hl:listed.getD j false=true:=by cases h:listed.getD j false with | true=>rfl | false=>rw [h] at hne;exact absurd rfl hne
    have hind:=later j r hr hlt hl
    have h6:=r6 i j _ r hrec hr hlt
    rcases bK w2 b y hy with hh | ⟨hh,_⟩
    ·rw [← w4,← w5] at hh
     exact VC (Bool.and_eq_true_iff.1 hind).1 b hh h1 h2
    ·omega
  refine Qp hO hi.tmp hi.good q2 hcr (hfr i _ hrec hnl') freeH ho fun u w' β' hE hG=>?_
  have hset:∀ j,(listed.setIfInBounds i true).getD j false=if j=i then true else listed.getD j false:=by
   intro j
   rw [Array.getD_eq_getD_getElem?,Array.getD_eq_getD_getElem?]
   by_cases hji:j=i
   ·subst hji;rw [Array.getElem?_setIfInBounds_self_of_lt (by omega)];simp
   ·rw [Array.getElem?_setIfInBounds_ne (Ne.symm hji),if_neg hji]
  have hst:=hi.step hE hG keysW (d:=ops[i].dst) (fun t ht=>by rw [← hn];exact q8 t ht)
  refine ih _ β' _ w' (by simpa using hsz) ?_ (hst.congr (fun t=>?_) (fun b=>?_)) ?_ ?_ ?_
  ·have hlt:left (listed.setIfInBounds i true) ops.size<left listed ops.size:=by
    refine VF _ _ _ i hrange hnl ?_ ?_
    ·rw [Array.getD_eq_getD_getElem?,Array.getElem?_setIfInBounds_self_of_lt (by omega)];rfl
    ·intro j _ hj
     by_cases hji:j=i
     ·subst hji;exact hnl
     ·rw [Array.getD_eq_getD_getElem?,Array.getElem?_setIfInBounds_ne (Ne.symm hji),← Array.getD_eq_getD_getElem?] at hj;exact hj
   omega
  ·rw [U_]
   have hf:(LT recs)[i]? = some (HU ops[i].dst recs[i].r.val):=by simp [LT,hrec,q3]
   refine (Qs hf (by rw [Nat.zero_add];exact hnl') (by rw [Nat.zero_add,hset,if_pos rfl]) (fun j hj=>by rw [Nat.zero_add,hset,if_neg hj]) ?_).symm
   intro j g hg hlt hl
   simp only [LT,List.getElem?_map,Option.map_eq_some_iff] at hg
   obtain ⟨r,hr,rfl⟩:=hg
   rw [Nat.zero_add] at hl
   obtain ⟨_,_,p3,_⟩:=Nj (later j r hr hlt hl)
   by_cases hd:ops[i].dst=some t
   ·exact .inl (Q1 (p3 t (by rw [q3];exact hd)))
   ·exact .inr (Q1 hd)
  ·rw [Qt (r2 _ (List.getElem_mem _)),It r2]
   have hf:(LH recs)[i]? = some (EF recs[i].r.upd):=by simp [LH,hrec]
   have hfun:AF (hD (fun i=>listed.getD i false) 0 recs s.H)=BR (fun i=>listed.getD i false) 0 (LH recs) (AF s.H):=funext (It r2)
   rw [hfun]
   refine (Qs hf (by rw [Nat.zero_add];exact hnl') (by rw [Nat.zero_add,hset,if_pos rfl]) (fun j hj=>by rw [Nat.zero_add,hset,if_neg hj]) ?_).symm
   intro j g hg hlt hl
   simp only [LH,List.getElem?_map,Option.map_eq_some_iff] at hg
   obtain ⟨r,hr,rfl⟩:=hg
   rw [Nat.zero_add] at hl
   obtain ⟨_,_,_,_,_,p6⟩:=Nj (later j r hr hlt hl)
   by_cases hk:∃ y,(b,y)∈recs[i].r.upd
   ·obtain ⟨y,hy⟩:=hk
    exact .inl (Nk fun y' hy'=>p6 b y y' hy hy')
   ·exact .inr (Nk fun y hy=>hk ⟨y,hy⟩)
  ·intro b hb
   cases hβ:β' b with
   | none=>rfl
   | some X =>
    rcases hE.new b X hβ with h | ⟨_,h,_⟩
    ·rw [hf b hb] at h;cases h
    ·omega
  ·intro j r hj hl b h1 h2
   rw [hset] at hl
   by_cases hji:j=i
   ·rw [if_pos hji] at hl;cases hl
   ·rw [if_neg hji] at hl
    cases hβ:β' b with
    | none=>rfl
    | some X =>
     rcases hE.new b X hβ with h | ⟨h3,h4,_⟩
     ·rw [hfr j r hj hl b h1 h2] at h;cases h
     ·rcases Nat.lt_or_ge j i with hlt | hge
      ·have:=r6 j i r _ hj hrec hlt;omega
      ·have:=r6 i j _ r hrec hj (by omega);omega
  ·intro j hj k hk
   rw [hset] at hj ⊢
   by_cases hki:k=i
   ·rw [if_pos hki]
   ·rw [if_neg hki]
    by_cases hji:j=i
    ·subst hji;exact hbits k hk
    ·rw [if_neg hji] at hj;exact hclosed j hj k hk
end
structure ASt where
 todo:List Item
 s:St
structure Log where
 conds:List (Bool×Bool)
 keys:List Nat
def Nl (P:Program) (O:Orc) (ops:Array Oper) (draw:Bool) (s:St):Option (Log×St) :=
 match Cc P O ops ops.toList 0 s with
 | some (recs,s')=>match draw with
  | false=>some (⟨GK recs,Dx recs⟩,s')
  | true=>match Iv recs (EG ops.toList []) 0,J7 ops.toList 0 with
   | true,true=>some (⟨GK recs,Dx recs⟩,s')
   | _,_=>none
 | none=>none
def J9 (P:Program) (O:Orc) (x:ASt):Option (Log×ASt) :=
 match x.todo with
 | .code .skip::k=>some (⟨[],[]⟩,⟨k,x.s⟩)
 | .code (.label _)::k=>some (⟨[],[]⟩,⟨k,x.s⟩)
 | .inBlock _::k=>some (⟨[],[]⟩,⟨k,x.s⟩)
 | .inScope _::k=>some (⟨[],[]⟩,⟨k,x.s⟩)
 | .code (.seq a b)::k=>some (⟨[],[]⟩,⟨.code a::.code b::k,x.s⟩)
 | .code (.cond c a b)::k=>match Ay (Aj x.s.T) c with
  | some (.val false [.b true])=>some (⟨[],[]⟩,⟨.code a::k,x.s⟩)
  | some (.val false [.b false])=>some (⟨[],[]⟩,⟨.code b::k,x.s⟩)
  | some (.val false [.v (.bool z)])=>match x.s.path with
   | true::rest=>some (⟨[(z,true)],[]⟩,⟨.code a::k,{ x.s with path:=rest }⟩)
   | false::rest=>some (⟨[(z,false)],[]⟩,⟨.code b::k,{ x.s with path:=rest }⟩)
   | []=>none
  | _=>none
 | .code (.block id c)::k=>some (⟨[],[]⟩,⟨.code c::.inBlock id::k,x.s⟩)
 | .code (.loop c)::k=>some (⟨[],[]⟩,⟨.code c::.inLoop c::k,x.s⟩)
 | .inLoop c::k=>some (⟨[],[]⟩,⟨.code c::.inLoop c::k,x.s⟩)
 | .code (.scope c)::k=>some (⟨[],[]⟩,⟨.code c::.inScope c::k,x.s⟩)
 | .code (.exit id)::k=>match exitTo id k with
  | some k'=>some (⟨[],[]⟩,⟨k',x.s⟩)
  | none=>none
 | .code (.goto l)::k=>match gotoIn l k with
  | some k'=>some (⟨[],[]⟩,⟨k',x.s⟩)
  | none=>none
 | .code (.region _ ops draw)::k=>match Nl P O ops draw x.s with
  | some (g,s')=>some (g,⟨k,s'⟩)
  | none=>none
 | _=>none
def Safe (P:Program) (f:FuncId) (R:Ending→World→Prop) (todo:List Item) (a:Act) (w:World):Prop :=
 ∀ (b:Frame) (cs:List Frame),b.fn=f→b.kind=.normal→∃ e w' fr,R e w'∧Comes P (lone (b.at a todo) cs w) (lone fr cs w') e∧fr.fn=f∧fr.leaving P w' e
section
variable {P:Program} {f:FuncId} {R:Ending→World→Prop} {a:Act} {w:World} {k:List Item}
theorem Safe.of_step {todo todo':List Item} (h:∀ (b:Frame) (cs:List Frame),step P (lone (b.at a todo) cs w)=.next (lone (b.at a todo') cs w)) (hs:Safe P f R todo' a w):Safe P f R todo a w:=by
 intro b cs hb hk
 obtain ⟨e,w',fr,h1,h2,h3,h4⟩:=hs b cs hb hk
 exact ⟨e,w',fr,h1,.of_steps (.one (h b cs)) h2,h3,h4⟩
theorem Safe.of_wp {c:Code} {k:List Item} (h:c.wp P (fun e a' w'=>e=.normal∧Safe P f R k a' w') a w):Safe P f R (.code c::k) a w:=by
 intro b cs hb hk
 obtain ⟨e,a',w',⟨he,hs⟩,harr⟩:=h b k cs
 subst he
 obtain ⟨e,w'',fr,h1,h2,h3,h4⟩:=hs b cs hb hk
 exact ⟨e,w'',fr,h1,.of_steps harr h2,h3,h4⟩
theorem bM {b:Frame} {cs:List Frame} {c:Code}:step P (lone (b.at a (.code (.scope c)::k)) cs w)=.next (lone (b.at a (.code c::.inScope c::k)) cs w) :=
 step_lone_go (by simp [stepG,stepG.exec,Frame.at])
theorem bO {b:Frame} {cs:List Frame} {c:Code}:step P (lone (b.at a (.inScope c::k)) cs w)=.next (lone (b.at a k) cs w) :=
 step_lone_go (by simp [stepG,stepG.exec,Frame.at])
theorem Safe.done {fn:Func} {v:Value} {todo:List Item} (hfn:P.funcs[f]? = some fn) (hd:a.defers=[]) (hr:(results fn a.tmps).run P w=.ok v w) (hR:R (.returned v) w)
  (ht:(∃ k,todo=.code .ret::k)∨todo=[]):Safe P f R todo a w:=by
 intro b cs hb hk
 rcases ht with ⟨k,rfl⟩ | rfl
 ·exact ⟨.returned v,w,{ b.at a (.code .ret::k) with mode:=.returning },hR,Steps.one step_ret,hb,rfl,hd,hk,fn,by show P.funcs[b.fn]? = some fn;rw [hb];exact hfn,hr⟩
 ·exact ⟨.returned v,w,{ b.at a [] with mode:=.returning },hR,Steps.one step_end,hb,rfl,hd,hk,fn,by show P.funcs[b.fn]? = some fn;rw [hb];exact hfn,hr⟩
end
def ASafe (P:Program) (f:FuncId) (β0:Env) (w0:World) (R:Ending→World→Prop) (n:Fz) (W:List Nat) (x:ASt):Prop :=
 ∀ (β:Env) (a:Act) (w:World),Inv β0 w0 W n β (Aj x.s.T) x.s.H a w→(∀ b,x.s.fr≤b→β b=none)→Safe P f R x.todo a w
def Bo (n:Fz) (s:St):Prop:=(∀ b,s.fr≤b→AF s.H b=none)∧s.T.length=n.n
theorem Inv.mono {β0:Env} {w0:World} {W W':List Nat} {n:Fz} {β:Env} {τ:Nat→AV} {H:Heap} {a:Act} {w:World} (i:Inv β0 w0 W n β τ H a w) (h:∀ k∈W,k∈W'):Inv β0 w0 W' n β τ H a w :=
 { i with
  new:=fun b X hb=>(i.new b X hb).imp id fun q B m e=>(q B m e).imp id fun ⟨k,m',h1,h2⟩=>⟨k,m',h k h1,h2⟩
  frame:=fun B hB hno=>i.frame B hB fun k m hk=>hno k m (h k hk) }
section
variable {P:Program} {O:Orc} (hO:OrcOk P O) (hm:P.follows .mixedOrders=true) {f:FuncId} {β0:Env} {w0:World} {R:Ending→World→Prop} {n:Fz} {W:List Nat}
include hO hm
theorem bP {id:Nat} {ops:Array Oper} {draw:Bool} {s s':St} {g:Log} {k:List Item} (h:Nl P O ops draw s=some (g,s')) (hc:AN g.conds) (hwf:Bo n s)
  (hs:ASafe P f β0 w0 R n (W++g.keys) ⟨k,s'⟩):ASafe P f β0 w0 R n W ⟨.code (.region id ops draw)::k,s⟩:=by
 intro β a w hi hf
 obtain ⟨hfH,hn⟩:=hwf
 have hi':=hi.mono (W':=W++g.keys) (fun k hk=>List.mem_append.2 (.inl hk))
 unfold Nl at h
 split at h
 ·rename_i recs s1 hrun
  split at h
  ·injection h with h;injection h with h1 h2;subst h1;subst h2
   refine Safe.of_wp (wp_region ?_)
   have:=U9 hO (Q:=fun e a' w'=>e=.normal∧Safe P f R k a' w') ops.toList 0 s s1 recs β a w (by simp) hrun hc hi' hf hfH hn (fun k hk=>List.mem_append.2 (.inr hk)) (fun β a w hi hf=>⟨rfl,hs β a w hi hf⟩)
   rw [List.range_eq_range']
   simpa using this
  ·split at h
   ·rename_i hchk hedge
    injection h with h;injection h with h1 h2;subst h1;subst h2
    refine Safe.of_wp (wp_region_any hm ?_)
    obtain ⟨r1,r2,r3,r4,r5,r6⟩:=Qu hrun hfH
    have hlist:∀ j,(Array.replicate ops.size false).getD j false=false:=by
     intro j
     rw [Array.getD_eq_getD_getElem?,Array.getElem?_replicate]
     split<;>rfl
    have e2:∀ {X:Type} (L:List (Nat→Option X)) (i:Nat) (s:Nat→X),BR (fun i=>(Array.replicate ops.size false).getD i false) i L s=s:=by
     intro X L
     induction L with
     | nil=>intro i s;rfl
     | cons f L ih=>intro i s;rw [BR,hlist];exact ih _ _
    refine bL hO (Q:=fun e a' w'=>e=.normal∧Safe P f R k a' w') hrun hchk hedge hc hfH hn (fun k hk=>List.mem_append.2 (.inr hk)) (fun β a w hi hf=>⟨rfl,hs β a w hi hf⟩) _ _ β a _ (by simp) ?_ ?_ ?_ ?_ ?_
    ·refine Nat.le_trans List.countP_le_length ?_
     simp
    ·refine (hi'.drew).congr (fun t=>by rw [e2]) (fun b=>by rw [It r2,e2])
    ·intro b hb
     have:s.fr≤s1.fr:=(Qr hrun hfH).2.1
     exact hf b (Nat.le_trans this hb)
    ·intro j r hj _ b h1 h2
     obtain ⟨_,_,_,_,_,_,_,_,_,_,_,_,q9,_⟩:=r5 j r hj
     exact hf b (Nat.le_trans q9 h1)
    ·intro j hj
     rw [hlist] at hj;cases hj
   ·cases h
 ·cases h
theorem Q2 {x y:ASt} {g:Log} (h:J9 P O x=some (g,y)) (hc:AN g.conds) (hwf:Bo n x.s) (hs:ASafe P f β0 w0 R n (W++g.keys) y):ASafe P f β0 w0 R n W x:=by
 obtain ⟨todo,s⟩:=x
 unfold J9 at h
 simp only at h
 have pl:∀ {k':List Item},(⟨[],[]⟩,⟨k',s⟩)=(g,y)→(∀ (a:Act) (w:World) (b:Frame) (cs:List Frame),step P (lone (b.at a todo) cs w)=.next (lone (b.at a k') cs w))→ASafe P f β0 w0 R n W ⟨todo,s⟩:=by
  intro k' he hst β a w hi hf
  injection he with h1 h2;subst h1;subst h2
  exact Safe.of_step (hst a w) (hs β a w (by simpa using hi) hf)
 split at h
 all_goals first | (cases h;done) | skip
 ·injection h with h;exact pl h (fun _ _ _ _=>step_skip)
 ·injection h with h;exact pl h (fun _ _ _ _=>step_label)
 ·injection h with h;exact pl h (fun _ _ _ _=>step_inBlock)
 ·injection h with h;exact pl h (fun _ _ _ _=>bO)
 ·injection h with h;exact pl h (fun _ _ _ _=>step_seq)
 ·rename_i c ca cb k
  have cond:∀ (z:Bool) (path':List Bool) (cc:List (Bool×Bool)),(⟨cc,[]⟩,⟨.code (if z then ca else cb)::k,{ s with path:=path' }⟩)=(g,y)→(AN cc→∀ (β:Env) (a:Act),(∀ t,AH β (Aj s.T t) (a.tmps.getD t undef))→a.eval c=.bool z)→ASafe P f β0 w0 R n W ⟨.code (.cond c ca cb)::k,s⟩:=by
   intro z path' cc he hev β a w hi hf
   injection he with h1 h2;subst h1;subst h2
   refine Safe.of_step (fun b cs=>step_cond (hev hc β a hi.tmp)) (hs β a w (by simpa using hi) hf)
  split at h
  ·rename_i hev
   injection h with h
   refine cond true s.path [] (by simpa using h) fun _ β a ht=>?_
   have:=Ac (FI ht hev)
   simpa [Au] using this
  ·rename_i hev
   injection h with h
   refine cond false s.path [] (by simpa using h) fun _ β a ht=>?_
   have:=Ac (FI ht hev)
   simpa [Au] using this
  ·rename_i z hev
   split at h
   ·rename_i rest hp
    injection h with h
    refine cond true rest [(z,true)] (by simpa using h) fun hz β a ht=>?_
    have:=(Ac (FI ht hev)).1
    injection this with this _
    rw [this,hz.1]
   ·rename_i rest hp
    injection h with h
    refine cond false rest [(z,false)] (by simpa using h) fun hz β a ht=>?_
    have:=(Ac (FI ht hev)).1
    injection this with this _
    rw [this,hz.1]
   ·cases h
  ·cases h
 ·injection h with h;exact pl h (fun _ _ _ _=>step_block)
 ·injection h with h;exact pl h (fun _ _ _ _=>step_loop)
 ·injection h with h;exact pl h (fun _ _ _ _=>step_inLoop)
 ·injection h with h;exact pl h (fun _ _ _ _=>bM)
 ·split at h
  ·rename_i k' he
   injection h with h;exact pl h (fun _ _ _ _=>step_exit he)
  ·cases h
 ·split at h
  ·rename_i k' he
   injection h with h;exact pl h (fun _ _ _ _=>step_goto he)
  ·cases h
 ·split at h
  ·rename_i g' s' hr
   injection h with h;injection h with h1 h2;subst h1;subst h2
   exact bP hO hm hr hc hwf hs
  ·cases h
omit hO hm in
theorem Q3 {x y:ASt} {g:Log} (h:J9 P O x=some (g,y)) (hwf:Bo n x.s):Bo n y.s:=by
 obtain ⟨todo,s⟩:=x
 unfold J9 at h
 simp only at h hwf
 have pl:∀ {k':List Item} {c:Log},(c,(⟨k',s⟩:ASt))=(g,y)→Bo n y.s:=by
  intro k' c he
  injection he with h1 h2;subst h2;exact hwf
 split at h
 all_goals first | (cases h;done) | skip
 all_goals first | (injection h with h;exact pl h) | skip
 ·split at h
  ·injection h with h;exact pl h
  ·injection h with h;exact pl h
  ·split at h
   ·injection h with h;injection h with h1 h2;subst h2;exact hwf
   ·injection h with h;injection h with h1 h2;subst h2;exact hwf
   ·cases h
  ·cases h
 ·split at h
  ·injection h with h;exact pl h
  ·cases h
 ·split at h
  ·injection h with h;exact pl h
  ·cases h
 ·split at h
  ·rename_i g' s' hr
   injection h with h;injection h with h1 h2;subst h2
   unfold Nl at hr
   split at hr
   ·rename_i recs s1 hrun
    have:=Qr hrun hwf.1
    have hw:Bo n s1:=⟨this.1,by rw [this.2.2];exact hwf.2⟩
    split at hr
    ·injection hr with hr;injection hr with _ hr;subst hr;exact hw
    ·split at hr
     ·injection hr with hr;injection hr with _ hr;subst hr;exact hw
     ·cases hr
   ·cases hr
  ·cases h
end
def bQ (stop:Option Nat) (before:List Item) (after:List Item):Bool :=
 match stop,before with
 | some d,.inLoop _::_=>match d with | 0=>true | d+1=>Nat.beq after.length (d+1)
 | some d,.code (.loop _)::_=>match d with | 0=>true | d+1=>Nat.beq after.length (d+1)
 | _,_=>false
def Iw:List Item→Bool
 | []=>true
 | .code .ret::_=>true
 | _=>false
def GM (P:Program) (O:Orc) (stop:Option Nat):Nat→ASt→Option (Log×ASt)
 | 0,_=>none
 | n+1,x=>match Iw x.todo with
  | true=>some (⟨[],[]⟩,x)
  | false=>match J9 P O x with
   | some (g,y)=>match bQ stop x.todo y.todo with
    | true=>some (g,y)
    | false=>match GM P O stop n y with
     | some (g',z)=>some (⟨g.conds++g'.conds,cat g.keys g'.keys⟩,z)
     | none=>none
   | none=>none
section
variable {P:Program} {O:Orc} (hO:OrcOk P O) (hm:P.follows .mixedOrders=true) {f:FuncId} {β0:Env} {w0:World} {R:Ending→World→Prop} {n:Fz}
include hO hm
theorem Nm {stop:Option Nat}:∀ {m:Nat} {W:List Nat} {x y:ASt} {g:Log},GM P O stop m x=some (g,y)→AN g.conds→Bo n x.s→(Bo n y.s→ASafe P f β0 w0 R n (W++g.keys) y)→ASafe P f β0 w0 R n W x
 | 0,_,_,_,_,h,_,_,_=>by simp [GM] at h
 | m+1,W,x,y,g,h,hc,hwf,hs=>by
  simp only [GM] at h
  split at h
  ·injection h with h;injection h with h1 h2;subst h1;subst h2
   have:=hs hwf
   simpa using this
  ·split at h
   ·rename_i g1 y1 hst
    split at h
    ·injection h with h;injection h with h1 h2;subst h1;subst h2
     exact Q2 hO hm hst hc hwf (hs (Q3 hst hwf))
    ·split at h
     ·rename_i g2 z hr
      injection h with h;injection h with h1 h2;subst h1;subst h2
      obtain ⟨c1,c2⟩:=Bc.1 hc
      refine Q2 hO hm hst c1 hwf (Nm hr c2 (Q3 hst hwf) fun hw=>?_)
      have:=hs hw
      simpa [B8] using this
     ·cases h
   ·cases h
end
def Q4 (P:Program) (T:List AV) (H:Heap):ResultVar→Option (Bool×List Ch)
 | .tmp t=>match Aj T t with
  | .val g cs=>some (g,cs)
  | _=>none
 | .cell a t=>match Aj T a with
  | .val false [.p bk off]=>match FH H bk with
   | some blk=>match Jz P t blk.cs off [] with
    | some r=>match r.conds,r.val with
     | [],.val g cs=>some (g,cs)
     | _,_=>none
    | none=>none
   | none=>none
  | _=>none
def HX (P:Program) (T:List AV) (H:Heap):List ResultVar→Option (List (Bool×List Ch))
 | []=>some []
 | x::r=>match Q4 P T H x,HX P T H r with
  | some a,some l=>some (a::l)
  | _,_=>none
def J_ (l:List (Bool×List Ch)):AV:=match l with
 | [(g,cs)]=>.val g cs
 | l=>.tup l
theorem bR {P:Program} {β:Env} {T:List AV} {H:Heap} {tmps:Array Value} {w:World} (ht:∀ t,AH β (Aj T t) (tmps.getD t undef)) (g:Good β H w) {x:ResultVar} {a:Bool×List Ch} (h:Q4 P T H x=some a) :
  ∃ u,((match x with | .tmp t=>pure (tmps.getD t undef) | .cell a t=>do loadVar t (← asAddr (tmps.getD a undef)):Sem Value)).run P w=.ok u w∧A9 β a.1 a.2 u:=by
 unfold Q4 at h
 split at h
 ·rename_i t
  split at h
  ·rename_i gg cs hT
   injection h with h;subst h
   have:=ht t
   rw [hT] at this
   exact ⟨_,rfl,this⟩
  ·cases h
 ·rename_i ad t
  split at h
  ·rename_i bk off hT
   split at h
   ·rename_i blk hb
    split at h
    ·rename_i r hl
     split at h
     ·rename_i gg cs hcv hvv
      injection h with h;subst h
      have:=ht ad
      rw [hT] at this
      obtain ⟨B',n',e4,e5⟩:=Ac this
      injection e5 with e5 _
      rcases g.cells hb with ⟨B,n,l,t',pre,ty',fz,e1,e2,e3,e0,_⟩ | ⟨e1,_⟩
      ·rw [e1] at e4;injection e4 with e4;injection e4 with e4 e4';subst e4;subst e4'
       obtain ⟨v,hv,he⟩:=NH g e2 e3 hl (by rw [hcv];trivial) 0
       rw [e0] at hv
       refine ⟨v,?_,?_⟩
       ·simp only [e5,asAddr,Sem.run_bind,Sem.run_pure,Result.andThen_ok,hv]
       ·have:=he.val
        rw [hvv] at this
        exact this
      ·rw [e1] at e4;cases e4
     ·cases h
    ·cases h
   ·cases h
  ·cases h
theorem VG {P:Program} {β:Env} {T:List AV} {H:Heap} {fn:Func} {tmps:Array Value} {w:World} (ht:∀ t,AH β (Aj T t) (tmps.getD t undef)) (g:Good β H w) {l:List (Bool×List Ch)} (h:HX P T H fn.results.toList=some l) :
  ∃ v,(results fn tmps).run P w=.ok v w∧AH β (J_ l) v:=by
 have key:∀ (rs:List ResultVar) (l:List (Bool×List Ch)),HX P T H rs=some l →
   ∃ us,(rs.mapM (m:=Sem) fun | .tmp t=>pure (tmps.getD t undef) | .cell a t=>do loadVar t (← asAddr (tmps.getD a undef))).run P w=.ok us w∧DP β l us:=by
  intro rs
  induction rs with
  | nil=>intro l h;simp only [HX,Option.some.injEq] at h;subst h;exact ⟨[],by simp,rfl⟩
  | cons x rs ih =>
   intro l h
   simp only [HX] at h
   split at h
   ·rename_i a l' h1 h2
    injection h with h;subst h
    obtain ⟨u,hu,hr⟩:=bR ht g h1
    obtain ⟨us,hus,hrs⟩:=ih l' h2
    refine ⟨u::us,?_,u,us,hr,hrs,rfl⟩
    rw [List.mapM_cons,Sem.run_bind,hu]
    simp only [Result.andThen_ok,Sem.run_bind,hus,Sem.run_pure]
   ·cases h
 obtain ⟨us,hus,hrel⟩:=key _ _ h
 unfold results
 rw [Array.mapM_eq_mapM_toList,Sem.run_bind,Sem.run_map]
 refine ⟨if h:us.toArray.size=1 then us.toArray[0] else .tuple us.toArray,?_,?_⟩
 ·have e:∀ (x:Sem (List Value)),x.run P w=.ok us w→((x.run P w).andThen fun a w'=>Result.ok a.toArray w').andThen (fun vs w'=>Result.ok (if h:vs.size=1 then vs[0] else Value.tuple vs) w')=.ok (if h:us.toArray.size=1 then us.toArray[0] else .tuple us.toArray) w:=by
   intro x hx;rw [hx];rfl
  exact e _ hus
 unfold J_
 split
 ·rename_i gg cs
  obtain ⟨u,l',h1,h2,h3⟩:=hrel
  simp only [DP] at h2;subst h2;subst h3
  show AH β (.val gg cs) u
  exact h1
 ·rename_i hno
  have hlen:us.length=l.length:=by
   have:∀ (l:List (Bool×List Ch)) (us:List Value),DP β l us→us.length=l.length:=by
    intro l
    induction l with
    | nil=>intro us h;simp only [DP] at h;simp [h]
    | cons x l ih=>intro us ⟨u,l',h1,h2,h3⟩;simp [h3,ih _ h2]
   exact this _ _ hrel
  rw [dif_neg (by
   intro h1
   have:l.length=1:=by rw [← hlen];simpa using h1
   obtain ⟨⟨gg,cs⟩,rfl⟩:=List.length_eq_one_iff.1 this
   exact hno gg cs rfl)]
  exact ⟨us,hrel,rfl⟩
end Go.Proofs.YtojnabmgolpodaaGreat.Ex
namespace Go.Proofs.YtojnabmgolpodaaGreat.Ex
open Go.RowKit (Below)
def J':Nat→List AV
 | 0=>[]
 | n+1=>.tup []::J' n
def Nn:List AV→List AV→List AV
 | [],l=>l
 | x::r,l=>x::Nn r l
theorem Np:∀ (a b:List AV),Nn a b=a++b
 | [],_=>rfl
 | x::r,b=>by simp [Nn,Np r b]
theorem Q5:∀ n,(J' n).length=n
 | 0=>rfl
 | n+1=>by simp [J',Q5 n]
def Ez:List AV→Nat
 | []=>0
 | _::r=>Ez r+1
theorem HY:∀ l:List AV,Ez l=l.length
 | []=>rfl
 | _::r=>by simp [Ez,HY r]
def GN (args:List AV) (n:Nat):List AV:=Nn args (J' (n-Ez args))
theorem VH {β:Env}:∀ {xs:List AV} {us:List Value},Ar β xs us→us.length=xs.length
 | [],us,h=>by simp only [Ar] at h;simp [h]
 | x::xs,us,⟨u,us',_,h2,h3⟩=>by simp [h3,VH h2]
theorem Q6 {β:Env}:∀ {xs:List AV} {us:List Value} (m:Nat),Ar β xs us→∀ t,AH β (Aj (xs++J' m) t) ((us++List.replicate m undef).getD t undef)
 | [],us,0,h,t=>by simp only [Ar] at h;subst h;exact trivial
 | [],us,m+1,h,0=>by
  simp only [Ar] at h;subst h
  exact ⟨[],rfl,rfl⟩
 | [],us,m+1,h,t+1=>by
  simp only [Ar] at h;subst h
  have:=Q6 (β:=β) (xs:=[]) (us:=[]) m rfl t
  simpa [J',Aj,List.replicate_succ] using this
 | x::xs,us,m,⟨u,us',h1,h2,h3⟩,0=>by subst h3;exact h1
 | x::xs,us,m,⟨u,us',h1,h2,h3⟩,t+1=>by
  subst h3
  have:=Q6 m h2 t
  simpa [Aj] using this
structure Out (β0:Env) (w0:World) (W:List Nat) (val:AV) (H:Heap) (u:Value) (w:World) (β:Env):Prop where
 val:AH β val u
 good:Good β H w
 new:∀ b X,β b=some X→β0 b=some X∨∀ B m,X=.at_ B m→w0.heap.size≤B∨∃ k m',k∈W∧β0 k=some (.at_ B m')
 ext:Env.le β0 β
 frame:∀ B,B<w0.heap.size→(∀ k m,k∈W→β0 k≠some (.at_ B m))→w.heap[B]? = w0.heap[B]?
 size:w0.heap.size≤w.heap.size
 os:w.os=w0.os
 tape:w.tape=w0.tape
 output:w.output=w0.output
def BS (β0:Env) (w0:World) (W:List Nat) (val:AV) (H:Heap):Ending→World→Prop:=fun e w=>∃ u β,e=.returned u∧Out β0 w0 W val H u w β
section
variable {P:Program} {O:Orc} (hO:OrcOk P O) (hm:P.follows .mixedOrders=true) {f:FuncId} {fn:Func} {c:Code}
theorem Q7 {R:Ending→World→Prop} (hfn:P.funcs[f]? = some fn) (hb:fn.body=some c) {args:List AV} {H:Heap} {fr:Nat} {path:List Bool} {β:Env} {us:List Value} {w:World} (hlen:args.length≤fn.ntmps)
  (h:ASafe P f β w R fn.ntmps [] ⟨[.code c],⟨GN args fn.ntmps,H,fr,path⟩⟩) (ha:Ar β args us) (hg:Good β H w) (hf:∀ b,fr≤b→β b=none):Calls P f ⟨us⟩ w R:=by
 have hul:=VH ha
 have hs:=h β { tmps:=(⟨us⟩:Array Value)++Array.replicate (fn.ntmps-us.length) undef,defers:=[] } w ?_ hf
 ·intro cs
  let b:Frame:={ (default:Frame) with fn:=f,kind:=.normal }
  have henter:Frame.enter P f ⟨us⟩ .normal=b.at { tmps:=(⟨us⟩:Array Value)++Array.replicate (fn.ntmps-us.length) undef,defers:=[] } [.code c]:=by
   simp [Frame.enter,Frame.at,hfn,hb,b]
  rw [henter]
  exact hs b cs rfl rfl
 ·have hT:∀ t,AH β (Aj (GN args fn.ntmps) t) (((⟨us⟩:Array Value)++Array.replicate (fn.ntmps-us.length) undef).getD t undef):=by
   intro t
   have:=Q6 (fn.ntmps-us.length) ha t
   have e:((⟨us⟩:Array Value)++Array.replicate (fn.ntmps-us.length) undef).getD t undef=(us++List.replicate (fn.ntmps-us.length) undef).getD t undef:=by
    rw [Array.getD_eq_getD_getElem?,List.getD_eq_getElem?_getD,← Array.getElem?_toList]
    simp
   rw [e,GN,Np,HY,← hul]
   exact this
  exact ⟨hT,hg,by simp;omega,rfl,fun b X hb=>.inl hb,Env.le_refl _,fun _ _ _=>rfl,Nat.le_refl _,rfl,rfl,rfl⟩
theorem Q8 {β0:Env} {w0:World} {n:Fz} {W:List Nat} {y:ASt} {l:List (Bool×List Ch)} (hD:n.D=[]) (hfn:P.funcs[f]? = some fn) (hend:Iw y.todo=true) (hres:HX P y.s.T y.s.H fn.results.toList=some l) :
  ASafe P f β0 w0 (BS β0 w0 W (J_ l) y.s.H) n W y:=by
 intro β a w hi _
 obtain ⟨v,hv,hr⟩:=VG hi.tmp hi.good hres
 refine Safe.done hfn (hi.dfr.trans hD) hv ⟨v,β,rfl,hr,hi.good,hi.new,hi.ext,hi.frame,hi.size,hi.os,hi.tape,hi.output⟩ ?_
 unfold Iw at hend
 split at hend
 ·rename_i h;exact .inr h
 ·rename_i k h;exact .inl ⟨k,h⟩
 ·cases hend
def Ix:AV→Bool
 | .val _ cs=>DQ (Cb cs)
 | .tup xs=>DQ (GG xs)
 | .any=>false
def Nq:List AV→Bool
 | []=>true
 | x::r=>Ix x&&Nq r
theorem bS {β β':Env}:∀ {caps:List (Nat×Nat)} {l:List Value},caps.map (·.1)=[]→DO β caps l→DO β' caps l
 | [],_,_,h=>h
 | _::_,_,h,_=>by simp at h
theorem bT {β β':Env} {c:Ch} {l:List Value} (hk:Ip c=[]) (h:Au β c l):Au β' c l:=by
 cases c<;>simp only [Ip] at hk<;>simp only [Au] at h ⊢
 case n=>exact h
 case b=>exact h
 case v=>exact h
 case p=>cases hk
 case sl=>cases hk
 case sx=>cases hk
 case num=>exact h
 case seq=>exact h
 case clo=>obtain ⟨ps,h1,h2⟩:=h;exact ⟨ps,bS hk h1,h2⟩
 case mth=>cases hk
 case mp=>cases hk
 case mk=>exact h
theorem Q9 {β β':Env}:∀ {cs:List Ch} {l:List Value},Cb cs=[]→AG β cs l→AG β' cs l
 | [],_,_,h=>h
 | c::cs,l,hk,⟨l1,l2,h1,h2,h3⟩=>by
  simp only [Cb,B8,List.append_eq_nil_iff] at hk
  exact ⟨l1,l2,bT hk.1 h1,Q9 hk.2 h2,h3⟩
theorem VI {β β':Env} {g:Bool} {cs:List Ch} {u:Value} (hk:Cb cs=[]) (h:A9 β g cs u):A9 β' g cs u:=by
 cases g
 ·exact Q9 hk h
 ·obtain ⟨l,h1,h2⟩:=h;exact ⟨l,Q9 hk h1,h2⟩
theorem VJ {β β':Env}:∀ {xs:List (Bool×List Ch)} {l:List Value},GG xs=[]→DP β xs l→DP β' xs l
 | [],_,_,h=>h
 | (g,cs)::xs,l,hk,⟨u,l',h1,h2,h3⟩=>by
  simp only [GG,B8,List.append_eq_nil_iff] at hk
  exact ⟨u,l',VI hk.1 h1,VJ hk.2 h2,h3⟩
theorem Lo {β β':Env} {x:AV} {u:Value} (hk:Ix x=true) (h:AH β x u):AH β' x u:=by
 cases x with
 | val g cs=>exact VI (NK hk) h
 | tup xs=>obtain ⟨us,h1,h2⟩:=h;exact ⟨us,VJ (NK hk) h1,h2⟩
 | any=>cases hk
theorem Q_ {β β':Env}:∀ {xs:List AV} {us:List Value},Nq xs=true→Ar β xs us→Ar β' xs us
 | [],_,_,h=>h
 | x::xs,us,hk,⟨u,us',h1,h2,h3⟩=>by
  have hk':=Bool.and_eq_true_iff.1 hk
  exact ⟨u,us',Lo hk'.1 h1,Q_ hk'.2 h2,h3⟩
def BY:Env:=fun _=>none
def AU (P:Program) (f:FuncId) (args:List AV) (v:AV):Prop :=
 ∀ (us:List Value) (w:World),Ar BY args us→Calls P f ⟨us⟩ w fun e w'=>∃ u,e=.returned u∧AH BY v u∧Below w.heap.size w w'
def AR (P:Program) (O:Orc) (fn:Func) (args:List AV) (path:List Bool) (fuel:Nat):Option (List (Bool×Bool)×AV) :=
 match fn.body with
 | some c=>match GM P O none fuel ⟨[.code c],⟨GN args fn.ntmps,[],0,path⟩⟩ with
  | some (g,y)=>match Iw y.todo,HX P y.s.T y.s.H fn.results.toList,Nat.ble (Ez args) fn.ntmps with
   | true,some l,true=>some (g.conds,J_ l)
   | _,_,_=>none
  | none=>none
 | none=>none
theorem Good.none_ (w:World):Good BY [] w where
 heap:=fun b blk h=>by cases h
 inj:=fun b b' B n n' h=>by cases h
 lt:=fun b B n h=>by cases h
include hO hm in
theorem AW (hfn:P.funcs[f]? = some fn) {args:List AV} {path:List Bool} {fuel:Nat} {conds:List (Bool×Bool)} {v:AV} (h:AR P O fn args path fuel=some (conds,v)) (hc:AN conds) (hk:Ix v=true):AU P f args v:=by
 unfold AR at h
 split at h
 case h_2=>cases h
 rename_i c hb
 split at h
 case h_2=>cases h
 rename_i g y hrun
 split at h
 case h_2=>cases h
 rename_i l hend hres hlen
 injection h with h;injection h with h1 h2;subst h1;subst h2
 intro us w ha
 have hlen':=Nat.le_of_ble_eq_true hlen
 rw [HY] at hlen'
 refine Calls.mono (Q7 (R:=BS BY w g.keys (J_ l) y.s.H) (fr:=0) (path:=path) hfn hb hlen' ?_ ha (Good.none_ w) (fun _ _=>rfl)) ?_
 ·refine Nm hO hm hrun hc ⟨fun _ _=>rfl,?_⟩ fun _=>?_
  ·simp only [GN,Np,HY,List.length_append,Q5];omega
  ·rw [List.nil_append];exact Q8 rfl hfn hend hres
 ·rintro e w' ⟨u,β,rfl,ho⟩
  exact ⟨u,rfl,Lo hk ho.val,ho.os,ho.tape,ho.output,ho.size,fun k hk=>ho.frame k hk (fun _ _ _ h=>by cases h)⟩
theorem Lp {us:Array Value} {w:World} {R:Ending→World→Prop} (hfn:P.funcs[f]? = some fn) (hb:fn.body.isSome=true) (hname:(fn.name=="runtime.NumGoroutine")=false) (h:Calls P f us w R):HQ P f us w R:=by
 unfold HQ
 have h1:fn.name≠"runtime.NumGoroutine":=by simpa using hname
 have h2:¬ fn.body=none:=by cases hq:fn.body<;>simp [hq] at hb ⊢
 have:(callFunc f us).run P w=.ok (.enter f us) w:=by
  simp [callFunc,hfn,h1,h2]
 rw [this];exact h
def Am (sp:List AV→Option AV):ASpec:=fun args _ _ path =>
 match Nq args,sp args with
 | true,some v=>match Ix v with
  | true=>some (A5 v path)
  | false=>none
 | _,_=>none
theorem Ap {sp:List AV→Option AV} (hfn:P.funcs[f]? = some fn) (hb:fn.body.isSome=true) (hname:(fn.name=="runtime.NumGoroutine")=false) (h:∀ args v,sp args=some v→AU P f args v):BN P f (Am sp):=by
 intro args H fr path r β us w hs hc ha hg hf
 unfold Am at hs
 split at hs
 ·rename_i v hk hv
  split at hs
  ·rename_i hkv
   injection hs with hs;subst hs
   refine Lp hfn hb hname (Calls.mono (h args v hv us w (Q_ hk ha)) ?_)
   rintro e w' ⟨u,rfl,hu,hbl⟩
   refine ⟨u,β,rfl,?_⟩
   exact ⟨Env.le_refl _,fun _ _ h=>.inl h,fun b B n hb=>Nat.lt_of_lt_of_le (hg.lt b B n hb) hbl.size,fun b b' _ _ _ h1 _ h3=>by simp [A5] at h3;omega,Lo hkv hu,fun _ _ h=>(by cases h),fun B hB _=>hbl.block B hB,hbl.size,hbl.os,hbl.tape,hbl.output⟩
  ·cases hs
 ·cases hs
def Bf (a b c:Int):Int:=(a+b+c) % 18446744073709551616
def Bt (a b c:Int):Int:=(a+b+c) / 18446744073709551616
def B3 (a b c:Int):Int:=(a-b-c) % 18446744073709551616
def EH (a b c:Int):Int:=if a<b+c then 1 else 0
def BJ (c:Int):Bool:=decide (0≤c∧c≤1)
def addSpec:ASpec:=fun args _ _ path =>
 match args with
 | [x,y,z]=>match BH (some x),BH (some y),BH (some z) with
  | some (_,.u64,a),some (_,.u64,b),some (_,.u64,c)=>some ⟨.tup [(false,[.v (.int .u64 (Bf a b c))]),(false,[.v (.int .u64 (Bt a b c))])],[],0,[(BJ c,true)],path⟩
  | _,_,_=>none
 | _=>none
def subSpec:ASpec:=fun args _ _ path =>
 match args with
 | [x,y,z]=>match BH (some x),BH (some y),BH (some z) with
  | some (_,.u64,a),some (_,.u64,b),some (_,.u64,c)=>some ⟨.tup [(false,[.v (.int .u64 (B3 a b c))]),(false,[.v (.int .u64 (EH a b c))])],[],0,[(BJ c,true)],path⟩
  | _,_,_=>none
 | _=>none
def Q':Array Value→Sem Value:=fun args=>do
 let (x,y,b) ← Extern.MathBitsCarry.three "Sub64" args
 pure (Extern.MathBitsCarry.pair ((x+Extern.MathBitsCarry.m64-y-b) % Extern.MathBitsCarry.m64) (if x<y+b then 1 else 0))
theorem VK {e:Array Value→Sem Value} {us:Array Value} {w w':World} {v:Value} {R:Ending→World→Prop} (hfn:P.funcs[f]? = some fn) (hname:(fn.name=="runtime.NumGoroutine")=false) (hb:fn.body.isNone=true) (hn:Extern.findNext fn=none) (he:Extern.find fn=some e)
  (hr:(e us).run P w=.ok v w') (h:R (.returned v) w'):HQ P f us w R:=by
 unfold HQ
 rw [run_callFunc_extern hfn hname hb hn he us w,hr]
 exact h
theorem B9 {a:Int} (h:has .u64 a):0≤a∧a<18446744073709551616:=by
 have:=(DG _ _).1 h
 simp only [AO,Bool.and_eq_true,decide_eq_true_eq] at this
 omega
theorem Nr {a:Int} (h1:0≤a) (h2:a<18446744073709551616):has .u64 a:=by
 rw [DG]
 simp only [AO,Bool.and_eq_true,decide_eq_true_eq]
 omega
theorem bU (hfn:P.funcs[f]? = some fn) (hname:(fn.name=="runtime.NumGoroutine")=false) (hb:fn.body.isNone=true) (hn:Extern.findNext fn=none) (he:Extern.find fn=some add64Entry):BN P f addSpec:=by
 intro args H fr path r β us w hs hc ha hg hf
 unfold addSpec at hs
 split at hs
 case h_2=>cases hs
 rename_i x y z
 split at hs
 case h_2=>cases hs
 rename_i c1 a c2 b c3 c hx hy hz
 injection hs with hs;subst hs
 obtain ⟨u1,us1,r1,ha,rfl⟩:=ha
 obtain ⟨u2,us2,r2,ha,rfl⟩:=ha
 obtain ⟨u3,us3,r3,ha,rfl⟩:=ha
 simp only [Ar] at ha
 subst ha
 obtain ⟨rfl,p1⟩:=Bd (β:=β) (u:=u1) (fun A hA=>by injection hA with hA;subst hA;exact r1) hx
 obtain ⟨rfl,p2⟩:=Bd (β:=β) (u:=u2) (fun A hA=>by injection hA with hA;subst hA;exact r2) hy
 obtain ⟨rfl,p3⟩:=Bd (β:=β) (u:=u3) (fun A hA=>by injection hA with hA;subst hA;exact r3) hz
 have hcc:=hc.1
 simp only [BJ,decide_eq_true_eq] at hcc
 have b1:=B9 p1
 have b2:=B9 p2
 refine VK hfn hname hb hn he (run_add64 a b c b1.1 b2.1 hcc.1 hcc.2 w) ⟨_,β,rfl,Eff.pure_ hg ⟨_,⟨_,_,Ab ⟨rfl,rfl,?_⟩,⟨_,_,Ab ⟨rfl,rfl,?_⟩,rfl,rfl⟩,rfl⟩,rfl⟩⟩
 ·show has .u64 ((a+b+c) % 18446744073709551616);exact Nr (by omega) (by omega)
 ·show has .u64 ((a+b+c) / 18446744073709551616);exact Nr (by omega) (by omega)
theorem bV (x y c:Int) (hx:0≤x∧x<18446744073709551616) (hy:0≤y∧y<18446744073709551616) (hc0:0≤c) (hc:c≤1) (w:World) :
  (Q' #[.int .u64 x,.int .u64 y,.int .u64 c]).run P w=.ok (.tuple #[.int .u64 ((x-y-c) % 18446744073709551616),.int .u64 (if x<y+c then 1 else 0)]) w:=by
 have key:∀ k:Nat,k≤1→(Q' #[.int .u64 x,.int .u64 y,.int .u64 (k:Int)]).run P w =
   .ok (Extern.MathBitsCarry.pair ((x.toNat+Extern.MathBitsCarry.m64-y.toNat-k) % Extern.MathBitsCarry.m64) (if x.toNat<y.toNat+k then 1 else 0)) w:=by
  intro k hk
  have:k=0∨k=1:=by omega
  rcases this with rfl | rfl<;>rfl
 obtain ⟨k,rfl⟩:=Int.eq_ofNat_of_zero_le hc0
 rw [key k (by omega)]
 obtain ⟨X,rfl⟩:=Int.eq_ofNat_of_zero_le hx.1
 obtain ⟨Y,rfl⟩:=Int.eq_ofNat_of_zero_le hy.1
 simp only [Extern.MathBitsCarry.pair,Extern.MathBitsCarry.m64,Int.toNat_natCast]
 have e1:(Int.ofNat ((X+2^64-Y-k) % 2^64))=((X:Int)-Y-k) % 18446744073709551616:=by
  have:(X+2^64-Y-k:Nat)=(X+18446744073709551616-Y-k:Nat):=rfl
  show (((X+18446744073709551616-Y-k) % 18446744073709551616:Nat):Int)=_
  omega
 have e2:(Int.ofNat (if X<Y+k then 1 else 0))=if (X:Int)<Y+k then 1 else 0:=by
  by_cases h:X<Y+k
  ·rw [if_pos h,if_pos (by omega)];rfl
  ·rw [if_neg h,if_neg (by omega)];rfl
 rw [e1,e2]
theorem bW (hfn:P.funcs[f]? = some fn) (hname:(fn.name=="runtime.NumGoroutine")=false) (hb:fn.body.isNone=true) (hn:Extern.findNext fn=none) (he:Extern.find fn=some Q'):BN P f subSpec:=by
 intro args H fr path r β us w hs hc ha hg hf
 unfold subSpec at hs
 split at hs
 case h_2=>cases hs
 rename_i x y z
 split at hs
 case h_2=>cases hs
 rename_i c1 a c2 b c3 c hx hy hz
 injection hs with hs;subst hs
 obtain ⟨u1,us1,r1,ha,rfl⟩:=ha
 obtain ⟨u2,us2,r2,ha,rfl⟩:=ha
 obtain ⟨u3,us3,r3,ha,rfl⟩:=ha
 simp only [Ar] at ha
 subst ha
 obtain ⟨rfl,p1⟩:=Bd (β:=β) (u:=u1) (fun A hA=>by injection hA with hA;subst hA;exact r1) hx
 obtain ⟨rfl,p2⟩:=Bd (β:=β) (u:=u2) (fun A hA=>by injection hA with hA;subst hA;exact r2) hy
 obtain ⟨rfl,p3⟩:=Bd (β:=β) (u:=u3) (fun A hA=>by injection hA with hA;subst hA;exact r3) hz
 have hcc:=hc.1
 simp only [BJ,decide_eq_true_eq] at hcc
 have b1:=B9 p1
 have b2:=B9 p2
 refine VK hfn hname hb hn he (bV a b c b1 b2 hcc.1 hcc.2 w) ⟨_,β,rfl,Eff.pure_ hg ⟨_,⟨_,_,Ab ⟨rfl,rfl,?_⟩,⟨_,_,Ab ⟨rfl,rfl,?_⟩,rfl,rfl⟩,rfl⟩,rfl⟩⟩
 ·show has .u64 ((a-b-c) % 18446744073709551616);exact Nr (by omega) (by omega)
 ·show has .u64 (if a<b+c then 1 else 0)
  split<;>exact Nr (by omega) (by omega)
def Ns:List (FuncId×ASpec)→FuncId→Option ASpec
 | [],_=>none
 | (k,s)::r,f=>match Nat.beq k f with | true=>some s | false=>Ns r f
def Nt:List (TypeId×List (Option IntKind))→TypeId→Option (List (Option IntKind))
 | [],_=>none
 | (k,s)::r,f=>match Nat.beq k f with | true=>some s | false=>Nt r f
def AI (L:List (FuncId×ASpec)) (K:List (TypeId×List (Option IntKind))):Orc:=⟨Ns L,Nt K⟩
def AS (P:Program):List (FuncId×ASpec)→Prop
 | []=>True
 | (f,s)::r=>BN P f s∧AS P r
def GO (P:Program):List (TypeId×List (Option IntKind))→Prop
 | []=>True
 | (t,ks)::r=>(C4 P 20 t=some ks∧P.eqGuardType P.depth t=false∧(match P.underlying t with | some d=>wide d | none=>false)=true)∧GO P r
theorem bX {L:List (FuncId×ASpec)} (h:AS P L) {f:FuncId} {s:ASpec} (hl:Ns L f=some s):BN P f s:=by
 induction L with
 | nil=>cases hl
 | cons e L ih =>
  obtain ⟨k,q⟩:=e
  simp only [Ns] at hl
  split at hl
  ·rename_i hb
   injection hl with hl;subst hl
   rw [← Ag.1 hb];exact h.1
  ·exact ih h.2 hl
theorem bY {L:List (TypeId×List (Option IntKind))} (h:GO P L) {f:TypeId} {s:List (Option IntKind)} (hl:Nt L f=some s) :
  C4 P 20 f=some s∧P.eqGuardType P.depth f=false∧(match P.underlying f with | some d=>wide d | none=>false)=true:=by
 induction L with
 | nil=>cases hl
 | cons e L ih =>
  obtain ⟨k,q⟩:=e
  simp only [Nt] at hl
  split at hl
  ·rename_i hb
   injection hl with hl;subst hl
   rw [← Ag.1 hb];exact h.1
  ·exact ih h.2 hl
theorem AM {L:List (FuncId×ASpec)} {K:List (TypeId×List (Option IntKind))} (h:AS P L) (k:GO P K):OrcOk P (AI L K) :=
 ⟨fun _ _ hl=>bX h hl,fun _ _ hl=>bY k hl⟩
end
end Go.Proofs.YtojnabmgolpodaaGreat.Ex
namespace Go.Proofs.YtojnabmgolpodaaGreat.Ex
def FS (keep:List Nat):Nat→List AV→List AV
 | _,[]=>[]
 | i,x::r=>match Ew i keep with
  | true=>x::FS keep (i+1) r
  | false=>.any::FS keep (i+1) r
def Iy (n:Nat):List Nat→Bool
 | []=>true
 | k::r=>match Nat.blt k n with | true=>Iy n r | false=>false
def Ls (n:Nat):List AV→Bool
 | []=>true
 | x::r=>match Iy n (FO x) with | true=>Ls n r | false=>false
def FT (n:Nat):Heap→Bool
 | []=>true
 | (k,y)::r=>match Nat.blt k n,y with
  | true,some blk=>match Iy n (Cb blk.cs) with | true=>FT n r | false=>false
  | true,none=>FT n r
  | false,_=>false
theorem BF {a b:Nat}:Nat.blt a b=true↔a<b:=by unfold Nat.blt;exact ⟨Nat.le_of_ble_eq_true,Nat.ble_eq_true_of_le⟩
theorem Lt {n:Nat}:∀ {l:List Nat},Iy n l=true→∀ k∈l,k<n
 | [],_,k,h=>by cases h
 | x::r,h,k,hk=>by
  simp only [Iy] at h
  split at h
  ·rename_i hb
   rcases List.mem_cons.1 hk with rfl | hk
   ·exact BF.1 hb
   ·exact Lt h k hk
  ·cases h
def GP (β:Env) (n:Nat):Env:=fun b=>match Nat.blt b n with | true=>β b | false=>none
theorem Ck {β:Env} {n b:Nat} (h:b<n):GP β n b=β b:=by simp [GP,BF.2 h]
theorem KA {β:Env} {n b:Nat} (h:n≤b):GP β n b=none:=by
 have:Nat.blt b n=false:=by cases hb:Nat.blt b n with | false=>rfl | true=>have:=BF.1 hb;omega
 simp [GP,this]
theorem Iz {β:Env} {n b:Nat} {X:Loc} (h:GP β n b=some X):β b=some X∧b<n:=by
 rcases Nat.lt_or_ge b n with hlt | hge
 ·rw [Ck hlt] at h;exact ⟨h,hlt⟩
 ·rw [KA hge] at h;cases h
section
variable {β β':Env}
theorem VL:∀ {caps:List (Nat×Nat)} {l:List Value},(∀ k∈caps.map (·.1),β' k=β k)→DO β caps l→DO β' caps l
 | [],_,_,h=>h
 | (b,o)::r,l,hk,⟨B,n,l',h1,h2,h3⟩=>⟨B,n,l',by rw [hk b (by simp)];exact h1,VL (fun k h=>hk k (by simp at h ⊢;exact .inr h)) h2,h3⟩
theorem bZ {c:Ch} {l:List Value} (hk:∀ k∈Ip c,β' k=β k) (h:Au β c l):Au β' c l:=by
 cases c<;>simp only [Ip] at hk<;>simp only [Au] at h ⊢
 case n=>exact h
 case b=>exact h
 case v=>exact h
 case p=>rw [hk _ (by simp)];exact h
 case sl=>rw [hk _ (by simp)];exact h
 case sx=>rw [hk _ (by simp)];exact h
 case num=>exact h
 case seq=>exact h
 case clo=>obtain ⟨ps,h1,h2⟩:=h;exact ⟨ps,VL hk h1,h2⟩
 case mth=>rw [hk _ (by simp)];exact h
 case mp=>rw [hk _ (by simp)];exact h
 case mk=>exact h
theorem Eb:∀ {cs:List Ch} {l:List Value},(∀ k∈Cb cs,β' k=β k)→AG β cs l→AG β' cs l
 | [],_,_,h=>h
 | c::cs,l,hk,⟨l1,l2,h1,h2,h3⟩=>by
  simp only [Cb,B8,List.mem_append] at hk
  exact ⟨l1,l2,bZ (fun k h=>hk k (.inl h)) h1,Eb (fun k h=>hk k (.inr h)) h2,h3⟩
theorem VM {g:Bool} {cs:List Ch} {u:Value} (hk:∀ k∈Cb cs,β' k=β k) (h:A9 β g cs u):A9 β' g cs u:=by
 cases g
 ·exact Eb hk h
 ·obtain ⟨l,h1,h2⟩:=h;exact ⟨l,Eb hk h1,h2⟩
theorem VN:∀ {xs:List (Bool×List Ch)} {l:List Value},(∀ k∈GG xs,β' k=β k)→DP β xs l→DP β' xs l
 | [],_,_,h=>h
 | (g,cs)::xs,l,hk,⟨u,l',h1,h2,h3⟩=>by
  simp only [GG,B8,List.mem_append] at hk
  exact ⟨u,l',VM (fun k h=>hk k (.inl h)) h1,VN (fun k h=>hk k (.inr h)) h2,h3⟩
theorem RA {x:AV} {u:Value} (hk:∀ k∈FO x,β' k=β k) (h:AH β x u):AH β' x u:=by
 cases x with
 | val g cs=>exact VM hk h
 | tup xs=>obtain ⟨us,h1,h2⟩:=h;exact ⟨us,VN hk h1,h2⟩
 | any=>trivial
end
def Lx (keep ks:List Nat) (fr:Nat) (path:List Bool) (s:St):Option St :=
 match Ls fr (FS keep 0 s.T),FT fr (restrict s.H ks) with
 | true,true=>some ⟨FS keep 0 s.T,restrict s.H ks,fr,path⟩
 | _,_=>none
theorem VO {n:Nat}:∀ {T:List AV} {t:Nat},Ls n T=true→∀ k∈FO (Aj T t),k<n
 | [],_,_,k,h=>by simp [Aj,FO] at h
 | x::r,0,h,k,hk=>by
  simp only [Ls] at h
  split at h
  ·rename_i h1;exact Lt h1 k hk
  ·cases h
 | x::r,t+1,h,k,hk=>by
  simp only [Ls] at h
  split at h
  ·exact VO h k hk
  ·cases h
theorem GQ {n:Nat}:∀ {H:Heap} {b:Nat} {blk:Blk},FT n H=true→AF H b=some blk→b<n∧∀ k∈Cb blk.cs,k<n
 | [],_,_,_,h=>by cases h
 | (k,y)::r,b,blk,h,hb=>by
  simp only [FT] at h
  simp only [AF] at hb
  split at h
  ·rename_i hk
   split at h
   ·rename_i hall
    split at hb
    ·rename_i e;rw [← Ag.1 e];injection hb with hb;subst hb;exact ⟨BF.1 hk,Lt hall⟩
    ·exact GQ h hb
   ·cases h
  ·rename_i hk
   split at hb
   ·cases hb
   ·exact GQ h hb
  ·cases h
theorem VP (keep:List Nat):∀ {T:List AV} {i t:Nat},Aj (FS keep i T) t=Aj T t∨Aj (FS keep i T) t=.any
 | [],i,t=>.inl rfl
 | x::r,i,0=>by
  simp only [FS]
  split
  ·exact .inl rfl
  ·exact .inr rfl
 | x::r,i,t+1=>by
  simp only [FS]
  split<;>exact VP keep
theorem VQ (keep:List Nat):∀ {T:List AV} {i:Nat},(FS keep i T).length=T.length
 | [],_=>rfl
 | x::r,i=>by simp only [FS];split<;>simp [VQ keep]
section
variable {P:Program} {O:Orc} {f:FuncId} {β0:Env} {w0:World} {R:Ending→World→Prop} {n:Fz} {W:List Nat}
theorem b8 {keep ks:List Nat} {fr:Nat} {path:List Bool} {s s':St} (h:Lx keep ks fr path s=some s') (hwf:Bo n s):Bo n s':=by
 unfold Lx at h
 split at h
 ·rename_i h1 h2
  injection h with h;subst h
  refine ⟨fun b hb=>?_,by simp only [VQ];exact hwf.2⟩
  cases hq:AF (restrict s.H ks) b with
  | none=>rfl
  | some blk=>have:=(GQ h2 hq).1;simp only at hb;omega
 ·cases h
theorem b9 {keep ks:List Nat} {fr:Nat} {path:List Bool} {s s':St} {todo:List Item} (h:Lx keep ks fr path s=some s') (hβ0:∀ b,fr≤b→β0 b=none)
  (hs:ASafe P f β0 w0 R n W ⟨todo,s'⟩):ASafe P f β0 w0 R n W ⟨todo,s⟩:=by
 unfold Lx at h
 split at h
 ·rename_i h1 h2
  injection h with h;subst h
  intro β a w hi hf
  refine hs (GP β fr) a w ?_ (fun b hb=>KA hb)
  refine { hi with tmp:=fun t=>?_,good:=?_,new:=fun b X hb=>?_,ext:=fun b B hb=>?_ }
  ·have hk:=VO (t:=t) h1
   simp only
   rcases VP keep (T:=s.T) (i:=0) (t:=t) with e | e
   ·rw [e] at hk ⊢
    exact RA (fun k hkk=>Ck (hk k hkk)) (hi.tmp t)
   ·rw [e];trivial
  ·refine ⟨fun b blk hb=>?_,fun b b' B m m' h3 h4 h5 h6=>?_,fun b B m hb=>hi.good.lt b B m (Iz hb).1⟩
   ·obtain ⟨e1,e2⟩:=GQ h2 hb
    rcases hi.good.heap b blk (GI hb) with ⟨B,m,l,t,pre,ty,fz,q1,q2,q3⟩ | ⟨q1,q2,q3⟩ | ⟨B,l,es,q,q1,q2,q3,q4⟩
    ·exact .inl ⟨B,m,l,t,pre,ty,fz,by rw [Ck e1];exact q1,Eb (fun k hk=>Ck (e2 k hk)) q2,q3⟩
    ·exact .inr (.inl ⟨by rw [Ck e1];exact q1,q2,Eb (fun k hk=>Ck (e2 k hk)) q3⟩)
    ·exact .inr (.inr ⟨B,l,es,q,by rw [Ck e1];exact q1,q2,Eb (fun k hk=>Ck (e2 k hk)) q3,q4⟩)
   ·obtain ⟨x,hx,hr⟩:=HK h3
    obtain ⟨y,hy⟩:=Option.isSome_iff_exists.1 h4
    exact hi.good.inj b b' B m m' (EZ (GI hx) hr) (by rw [GI hy];rfl) (Iz h5).1 (Iz h6).1
  ·exact hi.new b X (Iz hb).1
  ·have hlt:b<fr:=by
    rcases Nat.lt_or_ge b fr with h | h
    ·exact h
    ·rw [hβ0 b h] at hb;cases hb
   rw [Ck hlt];exact hi.ext b B hb
 ·cases h
def CS (k0:Nat):List Nat→List Nat
 | []=>[]
 | k::r=>match Nat.blt k k0,Ew k (CS k0 r) with
  | true,false=>k::CS k0 r
  | _,_=>CS k0 r
theorem RB {k0 k:Nat}:∀ {l:List Nat},k∈l→k<k0→k∈CS k0 l
 | [],h,_=>by cases h
 | x::r,h,hlt=>by
  simp only [CS]
  rcases List.mem_cons.1 h with rfl | h
  ·rw [BF.2 hlt]
   cases hm:Ew k (CS k0 r) with
   | true=>simp only;exact Lb.1 hm
   | false=>simp
  ·have ih:=RB h hlt
   split
   ·exact List.mem_cons_of_mem _ ih
   ·exact ih
theorem Inv.old {W W':List Nat} {k0:Nat} {β:Env} {τ:Nat→AV} {H:Heap} {a:Act} {w:World} (i:Inv β0 w0 W n β τ H a w) (h0:∀ b,k0≤b→β0 b=none) (h:∀ k∈W,k<k0→k∈W'):Inv β0 w0 W' n β τ H a w :=
 { i with
  new:=fun b X hb=>(i.new b X hb).imp id fun q B m e=>(q B m e).imp id fun ⟨k,m',h1,h2⟩=>⟨k,m',h k h1 (by
   rcases Nat.lt_or_ge k k0 with h | h
   ·exact h
   ·rw [h0 k h] at h2;cases h2),h2⟩
  frame:=fun B hB hno=>i.frame B hB fun k m hk hk2=>hno k m (h k hk (by
   rcases Nat.lt_or_ge k k0 with h | h
   ·exact h
   ·rw [h0 k h] at hk2;cases hk2)) hk2 }
theorem ASafe.old {W W':List Nat} {k0:Nat} {x:ASt} (h0:∀ b,k0≤b→β0 b=none) (h:∀ k∈W,k<k0→k∈W') (hs:ASafe P f β0 w0 R n W' x):ASafe P f β0 w0 R n W x :=
 fun β a w hi hf=>hs β a w (hi.old h0 h) hf
def Aa (P:Program) (O:Orc) (stop:Option Nat) (fuel k0:Nat) (fg:Option (List Nat×List Nat×Nat)) (x:ASt):Option (List (Bool×Bool)×List Nat×ASt) :=
 match GM P O stop fuel x with
 | some (g,y)=>match fg with
  | some (keep,ks,fr)=>match Lx keep ks fr [] y.s,Nat.ble k0 fr with
   | some s',true=>some (g.conds,CS k0 g.keys,⟨y.todo,s'⟩)
   | _,_=>none
  | none=>some (g.conds,CS k0 g.keys,y)
 | none=>none
theorem Ai (hO:OrcOk P O) (hm:P.follows .mixedOrders=true) {stop:Option Nat} {fuel k0:Nat} {fg:Option (List Nat×List Nat×Nat)} {x y:ASt} {conds:List (Bool×Bool)} {ks:List Nat} (h:Aa P O stop fuel k0 fg x=some (conds,ks,y))
  (hc:AN conds) (hwf:Bo n x.s) (h0:∀ b,k0≤b→β0 b=none) (hks:∀ k∈ks,k∈W) (hs:Bo n y.s→ASafe P f β0 w0 R n W y):ASafe P f β0 w0 R n W x:=by
 unfold Aa at h
 split at h
 case h_2=>cases h
 rename_i g y1 hrun
 have hW:∀ k∈W++g.keys,k<k0→CS k0 g.keys=ks→k∈W:=by
  intro k hk hlt he
  rcases List.mem_append.1 hk with hk | hk
  ·exact hk
  ·exact hks k (by rw [← he];exact RB hk hlt)
 split at h
 ·rename_i keep ks' fr
  split at h
  ·rename_i s' hfg hle
   injection h with h;injection h with h1 h;injection h with h2 h3
   subst h1;subst h3
   refine Nm hO hm hrun hc hwf fun hw=>?_
   have hle':=Nat.le_of_ble_eq_true hle
   refine ASafe.old h0 (fun k hk hlt=>hW k hk hlt h2) ?_
   exact b9 hfg (fun b hb=>h0 b (by omega)) (hs (b8 hfg hw))
  ·cases h
 ·injection h with h;injection h with h1 h;injection h with h2 h3
  subst h1;subst h3
  refine Nm hO hm hrun hc hwf fun hw=>?_
  exact ASafe.old h0 (fun k hk hlt=>hW k hk hlt h2) (hs hw)
def VR (n:Fz) (s:St):Bool:=FT s.fr s.H&&Nat.beq (Ez s.T) n.n
theorem AT {s:St} (h:VR n s=true):Bo n s:=by
 have h':=Bool.and_eq_true_iff.1 h
 refine ⟨fun b hb=>?_,by have:=Ag.1 h'.2;rwa [HY] at this⟩
 cases hq:AF s.H b with
 | none=>rfl
 | some blk=>have:=(GQ h'.1 hq).1;omega
def Ak (fn:Func) (args:List AV) (H:Heap) (k0:Nat) (path:List Bool):ASt :=
 ⟨match fn.body with | some c=>[.code c] | none=>[],⟨GN args fn.ntmps,H,k0,path⟩⟩
def I0 (P:Program) (fn:Func) (y:ASt):Option AV :=
 match Iw y.todo,HX P y.s.T y.s.H fn.results.toList with
 | true,some l=>some (J_ l)
 | _,_=>none
theorem VS {fn:Func} {y:ASt} {v:AV} (hfn:P.funcs[f]? = some fn) (h:I0 P fn y=some v) (hR:∀ e w,BS β0 w0 W v y.s.H e w→R e w) (hD:n.D=[]:=by rfl):ASafe P f β0 w0 R n W y:=by
 unfold I0 at h
 split at h
 ·rename_i l h1 h2
  injection h with h;subst h
  intro β a w hi hf
  have:=Q8 (P:=P) (n:=n) (W:=W) (β0:=β0) (w0:=w0) hD hfn h1 h2 β a w hi hf
  intro b cs hb hk
  obtain ⟨e,w',fr,q1,q2⟩:=this b cs hb hk
  exact ⟨e,w',fr,hR _ _ q1,q2⟩
 ·cases h
end
section
variable {P:Program} {f:FuncId} {fn:Func}
theorem L0 {R:Ending→World→Prop} (hfn:P.funcs[f]? = some fn) (hb:fn.body.isSome=true) {args:List AV} {H:Heap} {k0:Nat} {path:List Bool} {β:Env} {us:List Value} {w:World} (hlen:Nat.ble (Ez args) fn.ntmps=true)
  (h:ASafe P f β w R fn.ntmps [] (Ak fn args H k0 path)) (ha:Ar β args us) (hg:Good β H w) (hf:∀ b,k0≤b→β b=none):Calls P f ⟨us⟩ w R:=by
 obtain ⟨c,hc⟩:=Option.isSome_iff_exists.1 hb
 have hl:=Nat.le_of_ble_eq_true hlen
 rw [HY] at hl
 unfold Ak at h
 rw [hc] at h
 exact Q7 hfn hc hl h ha hg hf
end
open Go.RowKit (Below)
def L1 (w0:World) (v:AV):Ending→World→Prop:=fun e w'=>∃ u,e=.returned u∧AH BY v u∧Below w0.heap.size w0 w'
def FU (P:Program) (O:Orc) (fn:Func) (fuel k0:Nat) (x:ASt):Option (List (Bool×Bool)×List Nat×AV) :=
 match GM P O none fuel x with
 | some (g,y)=>match I0 P fn y with
  | some v=>some (g.conds,CS k0 g.keys,v)
  | none=>none
 | none=>none
section
variable {P:Program} {O:Orc} {f:FuncId} {fn:Func} {β0:Env} {w0:World} {n:Fz}
theorem GR (hO:OrcOk P O) (hm:P.follows .mixedOrders=true) (hfn:P.funcs[f]? = some fn) {fuel k0:Nat} {x:ASt} {conds:List (Bool×Bool)} {v:AV} (h:FU P O fn fuel k0 x=some (conds,[],v)) (hc:AN conds) (hwf:Bo n x.s)
  (h0:∀ b,k0≤b→β0 b=none) (hk:Ix v=true) (hD:n.D=[]:=by rfl):ASafe P f β0 w0 (L1 w0 v) n [] x:=by
 unfold FU at h
 split at h
 case h_2=>cases h
 rename_i g y hrun
 split at h
 case h_2=>cases h
 rename_i v' hv
 injection h with h;injection h with h1 h;injection h with h2 h3
 subst h1;subst h3
 refine Ai (W:=[]) hO hm (fuel:=fuel) (k0:=k0) (fg:=none) (stop:=none) (ks:=[]) (y:=y) (by unfold Aa;rw [hrun];simp only;rw [h2]) hc hwf h0 (fun _ h=>by cases h) fun _=>?_
 intro β a w hi hf
 unfold I0 at hv
 split at hv
 case h_2=>cases hv
 rename_i l e1 e2
 injection hv with hv;subst hv
 have:=Q8 (P:=P) (n:=n) (W:=[]) (β0:=β0) (w0:=w0) hD hfn e1 e2 β a w hi hf
 intro b cs hb hkd
 obtain ⟨e,w',fr,⟨u,β',q0,q1⟩,q2⟩:=this b cs hb hkd
 exact ⟨e,w',fr,⟨u,q0,Lo hk q1.val,q1.os,q1.tape,q1.output,q1.size,fun k hk=>q1.frame k hk (fun _ _ h=>by cases h)⟩,q2⟩
theorem RC (hfn:P.funcs[f]? = some fn) (hb:fn.body.isSome=true) {args:List AV} {path:List Bool} {v:AV} (hlen:Nat.ble (Ez args) fn.ntmps=true)
  (h:∀ w0,ASafe P f BY w0 (L1 w0 v) fn.ntmps [] (Ak fn args [] 0 path)):AU P f args v :=
 fun _ w ha=>L0 hfn hb hlen (h w) ha (Good.none_ w) (fun _ _=>rfl)
theorem Ah {R:Ending→World→Prop} {W:List Nat} {todo:List Item} {T:List AV} {H:Heap} {fr:Nat} {p:List Bool} (q:List Bool) (h:ASafe P f β0 w0 R n W ⟨todo,⟨T,H,fr,q⟩⟩):ASafe P f β0 w0 R n W ⟨todo,⟨T,H,fr,p⟩⟩:=h
end
def RD (κ:Nat→Nat):List (Nat×Nat)→List (Nat×Nat)
 | []=>[]
 | (b,o)::r=>(κ b,o)::RD κ r
def RE (κ:Nat→Nat):Ch→Ch
 | .p b o=>.p (κ b) o
 | .sl b o l c=>.sl (κ b) o l c
 | .sx b l s=>.sx (κ b) l s
 | .clo f caps=>.clo f (RD κ caps)
 | .mth f b o=>.mth f (κ b) o
 | .mp b=>.mp (κ b)
 | .mk=>.mk
 | .n k i=>.n k i
 | .b x=>.b x
 | .v x=>.v x
 | .num k x=>.num k x
 | .seq k l=>.seq k l
def HZ (κ:Nat→Nat):List Ch→List Ch
 | []=>[]
 | c::r=>RE κ c::HZ κ r
def RF (κ:Nat→Nat):List (Bool×List Ch)→List (Bool×List Ch)
 | []=>[]
 | (g,cs)::r=>(g,HZ κ cs)::RF κ r
def VT (κ:Nat→Nat):AV→AV
 | .val g cs=>.val g (HZ κ cs)
 | .tup xs=>.tup (RF κ xs)
 | .any=>.any
section
variable {β β':Env} {κ:Nat→Nat}
theorem VU:∀ {caps:List (Nat×Nat)} {l:List Value},(∀ k∈caps.map (·.1),∀ X,β k=some X→β' (κ k)=some X)→DO β caps l→DO β' (RD κ caps) l
 | [],_,_,h=>h
 | (b,o)::r,l,hk,⟨B,n,l',h1,h2,h3⟩=>⟨B,n,l',hk b (by simp) _ h1,VU (fun k h=>hk k (by simp at h ⊢;exact .inr h)) h2,h3⟩
theorem cA {c:Ch} {l:List Value} (hk:∀ k∈Ip c,∀ X,β k=some X→β' (κ k)=some X) (h:Au β c l):Au β' (RE κ c) l:=by
 cases c<;>simp only [Ip] at hk<;>simp only [RE,Au] at h ⊢
 case n=>exact h
 case b=>exact h
 case v=>exact h
 case p=>obtain ⟨B,n,h1,h2⟩:=h;exact ⟨B,n,hk _ (by simp) _ h1,h2⟩
 case sl =>
  rcases h with ⟨B,n,h1,h2⟩ | ⟨h1,h2⟩
  ·exact .inl ⟨B,n,hk _ (by simp) _ h1,h2⟩
  ·exact .inr ⟨hk _ (by simp) _ h1,h2⟩
 case sx =>
  rcases h with ⟨B,n,cap,h1,h2⟩ | ⟨h1,h2⟩
  ·exact .inl ⟨B,n,cap,hk _ (by simp) _ h1,h2⟩
  ·exact .inr ⟨hk _ (by simp) _ h1,h2⟩
 case num=>exact h
 case seq=>exact h
 case clo=>obtain ⟨ps,h1,h2⟩:=h;exact ⟨ps,VU hk h1,h2⟩
 case mth=>obtain ⟨B,n,h1,h2⟩:=h;exact ⟨B,n,hk _ (by simp) _ h1,h2⟩
 case mp=>obtain ⟨B,h1,h2⟩:=h;exact ⟨B,hk _ (by simp) _ h1,h2⟩
 case mk=>exact h
theorem KB:∀ {cs:List Ch} {l:List Value},(∀ k∈Cb cs,∀ X,β k=some X→β' (κ k)=some X)→AG β cs l→AG β' (HZ κ cs) l
 | [],_,_,h=>h
 | c::cs,l,hk,⟨l1,l2,h1,h2,h3⟩=>by
  simp only [Cb,B8,List.mem_append] at hk
  exact ⟨l1,l2,cA (fun k h=>hk k (.inl h)) h1,KB (fun k h=>hk k (.inr h)) h2,h3⟩
theorem VV {g:Bool} {cs:List Ch} {u:Value} (hk:∀ k∈Cb cs,∀ X,β k=some X→β' (κ k)=some X) (h:A9 β g cs u):A9 β' g (HZ κ cs) u:=by
 cases g
 ·exact KB hk h
 ·obtain ⟨l,h1,h2⟩:=h;exact ⟨l,KB hk h1,h2⟩
theorem VW:∀ {xs:List (Bool×List Ch)} {l:List Value},(∀ k∈GG xs,∀ X,β k=some X→β' (κ k)=some X)→DP β xs l→DP β' (RF κ xs) l
 | [],_,_,h=>h
 | (g,cs)::xs,l,hk,⟨u,l',h1,h2,h3⟩=>by
  simp only [GG,B8,List.mem_append] at hk
  exact ⟨u,l',VV (fun k h=>hk k (.inl h)) h1,VW (fun k h=>hk k (.inr h)) h2,h3⟩
theorem cB {x:AV} {u:Value} (hk:∀ k∈FO x,∀ X,β k=some X→β' (κ k)=some X) (h:AH β x u):AH β' (VT κ x) u:=by
 cases x with
 | val g cs=>exact VV hk h
 | tup xs=>obtain ⟨us,h1,h2⟩:=h;exact ⟨us,VW hk h1,h2⟩
 | any=>trivial
end
def Al (P:Program) (f:FuncId) (args0:List AV) (H0:Heap) (k0:Nat) (W:List Nat) (val:AV) (H1:Heap):Prop :=
 ∀ (β:Env) (us:List Value) (w:World),Ar β args0 us→Good β H0 w→(∀ b,k0≤b→β b=none)→Calls P f ⟨us⟩ w (BS β w W val H1)
def nth:List Nat→Nat→Nat
 | [],_=>0
 | x::_,0=>x
 | _::r,n+1=>nth r n
def I1 (ρ:List Nat) (k0 fr:Nat):Nat→Nat:=fun k=>match Nat.blt k k0 with | true=>nth ρ k | false=>fr+(k-k0)
def A_ (β:Env) (ρ:List Nat) (k0:Nat):Env:=fun k=>match Nat.blt k k0 with | true=>β (nth ρ k) | false=>none
def KC (κ:Nat→Nat) (H1:Heap):List Nat→Heap
 | []=>[]
 | k::r=>(κ k,(AF H1 k).map fun b=>⟨b.ty,HZ κ b.cs,b.opn⟩)::KC κ H1 r
def Ec (k0:Nat):Heap→List Nat
 | []=>[]
 | (k,_)::r=>match Nat.blt k k0,Ew k (Ec k0 r) with
  | false,false=>k::Ec k0 r
  | _,_=>Ec k0 r
theorem RG {k0 k:Nat}:∀ {H:Heap},k∈Ec k0 H→k0≤k
 | [],h=>by cases h
 | (j,y)::r,h=>by
  simp only [Ec] at h
  split at h
  ·rename_i hb _
   rcases List.mem_cons.1 h with rfl | h
   ·rcases Nat.lt_or_ge k k0 with hlt | hge
    ·rw [BF.2 hlt] at hb;cases hb
    ·exact hge
   ·exact RG h
  ·exact RG h
theorem RH {k0 k:Nat} {b:Blk}:∀ {H:Heap},AF H k=some b→k0≤k→k∈Ec k0 H
 | [],h,_=>by cases h
 | (j,y)::r,h,hk=>by
  simp only [AF] at h
  simp only [Ec]
  split at h
  ·rename_i e
   have:=Ag.1 e
   subst this
   have h1:Nat.blt j k0=false:=by cases hq:Nat.blt j k0 with | false=>rfl | true=>have:=BF.1 hq;omega
   rw [h1]
   cases hm:Ew j (Ec k0 r) with
   | true=>exact Lb.1 hm
   | false=>simp
  ·have ih:=RH h hk
   split
   ·exact List.mem_cons_of_mem _ ih
   ·exact ih
def I2 (k0:Nat) (H1:Heap):List Nat→Bool
 | []=>true
 | k::r=>match Nat.blt k k0,AF H1 k with
  | true,_=>I2 k0 H1 r
  | false,some _=>I2 k0 H1 r
  | false,none=>false
theorem KD {k0:Nat} {H1:Heap}:∀ {l:List Nat},I2 k0 H1 l=true→∀ k∈l,k<k0∨(AF H1 k).isSome=true
 | [],_,k,h=>by cases h
 | x::r,h,k,hk=>by
  simp only [I2] at h
  split at h
  ·rename_i hb
   rcases List.mem_cons.1 hk with rfl | hk
   ·exact .inl (BF.1 hb)
   ·exact KD h k hk
  ·rename_i b hb hg
   rcases List.mem_cons.1 hk with rfl | hk
   ·exact .inr (by rw [hg];rfl)
   ·exact KD h k hk
  ·cases h
def Nu (k0:Nat) (H1:Heap):List Nat→Bool
 | []=>true
 | k::r=>match AF H1 k with
  | some b=>match I2 k0 H1 (Cb b.cs),Nat.beq b.ty BB with | true,false=>Nu k0 H1 r | _,_=>false
  | none=>false
theorem Nv {k0:Nat} {H1:Heap}:∀ {l:List Nat},Nu k0 H1 l=true→∀ k∈l,∃ b,AF H1 k=some b∧I2 k0 H1 (Cb b.cs)=true∧b.ty≠BB
 | [],_,k,h=>by cases h
 | x::r,h,k,hk=>by
  simp only [Nu] at h
  split at h
  ·rename_i b hb
   split at h
   ·rename_i hok hro
    rcases List.mem_cons.1 hk with rfl | hk
    ·exact ⟨b,hb,hok,NI hro⟩
    ·exact Nv h k hk
   ·cases h
  ·cases h
def Bg (ρ:List Nat) (k0 fr nw:Nat) (W:List Nat) (val:AV) (H1:Heap) (conds:List (Bool×Bool)) (path:List Bool):R :=
 ⟨VT (I1 ρ k0 fr) val,KC (I1 ρ k0 fr) H1 (cat W (Ec k0 H1)),nw,conds,path⟩
def EI (k0 nw:Nat) (W:List Nat) (val:AV) (H1:Heap):Bool :=
 Iy k0 W&&(I2 k0 H1 (FO val)&&(Nu k0 H1 (cat W (Ec k0 H1))&&FT (k0+nw) H1))
theorem VX {κ:Nat→Nat} {H1:Heap} {k:Nat} {y:Option Blk}:∀ {l:List Nat},(k,y)∈KC κ H1 l→∃ j∈l,k=κ j∧y=(AF H1 j).map fun b=>⟨b.ty,HZ κ b.cs,b.opn⟩
 | [],h=>by cases h
 | x::r,h=>by
  simp only [KC,List.mem_cons,Prod.mk.injEq] at h
  rcases h with ⟨h1,h2⟩ | h
  ·exact ⟨x,by simp,h1,h2⟩
  ·obtain ⟨j,h1,h2⟩:=VX h
   exact ⟨j,by simp [h1],h2⟩
theorem VY {κ:Nat→Nat} {H1:Heap} {j:Nat}:∀ {l:List Nat},j∈l→(κ j,(AF H1 j).map fun b=>(⟨b.ty,HZ κ b.cs,b.opn⟩:Blk))∈KC κ H1 l
 | x::r,h=>by
  simp only [KC,List.mem_cons]
  rcases List.mem_cons.1 h with rfl | h
  ·exact .inl rfl
  ·exact .inr (VY h)
theorem VZ {β:Env} {w w':World} {ρ:List Nat} {k0 fr nw:Nat} {W:List Nat} {val:AV} {H H1:Heap} {u:Value} {β1:Env} {conds:List (Bool×Bool)} {path:List Bool} (g:Good β H w)
  (ho:Out (A_ β ρ k0) w W val H1 u w' β1) (hb:EI k0 nw W val H1=true) (hf:∀ b,fr≤b→b<fr+nw→β b=none) (hdef:∀ k,k<k0→∃ X,β (nth ρ k)=some X):∃ β',Eff β fr (Bg ρ k0 fr nw W val H1 conds path) w u w' β':=by
 unfold EI at hb
 simp only [Bool.and_eq_true] at hb
 obtain ⟨c1,c2,c3,c4⟩:=hb
 have hW:=Lt c1
 have hlive:∀ k,(AF H1 k).isSome=true→k<k0+nw:=by
  intro k hk
  obtain ⟨b,hb⟩:=Option.isSome_iff_exists.1 hk
  exact (GQ c4 hb).1
 have newr:∀ k,k0≤k→(AF H1 k).isSome=true→DF H1 k=true:=by
  intro k hk hs
  obtain ⟨b,hb⟩:=Option.isSome_iff_exists.1 hs
  obtain ⟨b',hb',_,hr⟩:=Nv c3 k (by rw [B8,List.mem_append];exact .inr (RH hb hk))
  exact EZ hb' hr
 let β':Env:=fun b=>match Nat.ble fr b&&Nat.blt b (fr+nw),AF H1 (k0+(b-fr)) with
  | true,some _=>β1 (k0+(b-fr))
  | true,none=>none
  | false,_=>β b
 have out:∀ b,¬ (fr≤b∧b<fr+nw)→β' b=β b:=by
  intro b hb
  have:(Nat.ble fr b&&Nat.blt b (fr+nw))=false:=by
   cases h:Nat.ble fr b&&Nat.blt b (fr+nw) with
   | false=>rfl
   | true =>
    have:=Bool.and_eq_true_iff.1 h
    exact absurd ⟨Nat.le_of_ble_eq_true this.1,BF.1 this.2⟩ hb
  show (match Nat.ble fr b&&Nat.blt b (fr+nw),AF H1 (k0+(b-fr)) with | true,some _=>β1 (k0+(b-fr)) | true,none=>none | false,_=>β b)=β b
  rw [this]
 have inn:∀ b,fr≤b→b<fr+nw→∀ X,β' b=some X→(AF H1 (k0+(b-fr))).isSome=true∧β1 (k0+(b-fr))=some X:=by
  intro b h1 h2 X hX
  have:(Nat.ble fr b&&Nat.blt b (fr+nw))=true:=by rw [Nat.ble_eq_true_of_le h1,BF.2 h2];rfl
  change (match Nat.ble fr b&&Nat.blt b (fr+nw),AF H1 (k0+(b-fr)) with | true,some _=>β1 (k0+(b-fr)) | true,none=>none | false,_=>β b)=some X at hX
  rw [this] at hX
  cases hq:AF H1 (k0+(b-fr)) with
  | none=>rw [hq] at hX;cases hX
  | some y=>rw [hq] at hX;exact ⟨rfl,hX⟩
 have new1:∀ k,k0≤k→(AF H1 k).isSome=true→∀ X,β1 k=some X→β' (fr+(k-k0))=some X:=by
  intro k hk hl X hX
  have h2:=hlive k hl
  have e:k0+(fr+(k-k0)-fr)=k:=by omega
  have:(Nat.ble fr (fr+(k-k0))&&Nat.blt (fr+(k-k0)) (fr+nw))=true:=by rw [Nat.ble_eq_true_of_le (by omega),BF.2 (by omega)];rfl
  show (match Nat.ble fr (fr+(k-k0))&&Nat.blt (fr+(k-k0)) (fr+nw),AF H1 (k0+(fr+(k-k0)-fr)) with | true,some _=>β1 (k0+(fr+(k-k0)-fr)) | true,none=>none | false,_=>β (fr+(k-k0)))=some X
  rw [this,e]
  obtain ⟨y,hy⟩:=Option.isSome_iff_exists.1 hl
  rw [hy];exact hX
 have ext0:Env.le β β':=by
  intro b X hb
  rw [out b (fun h=>by rw [hf b h.1 h.2] at hb;cases hb)]
  exact hb
 have inE:∀ k,k<k0→A_ β ρ k0 k=β (nth ρ k):=fun k hk=>by simp [A_,BF.2 hk]
 have oldk:∀ k,k<k0→∀ X,β1 k=some X→β (nth ρ k)=some X:=by
  intro k hk X hX
  obtain ⟨Y,hq⟩:=hdef k hk
  have:=ho.ext k Y (by rw [inE k hk];exact hq)
  rw [this] at hX;injection hX with hX;subst hX
  exact hq
 have kapk:∀ k,(k<k0∨(AF H1 k).isSome=true)→∀ X,β1 k=some X→β' (I1 ρ k0 fr k)=some X:=by
  intro k hk X hX
  unfold I1
  rcases Nat.lt_or_ge k k0 with hlt | hge
  ·rw [BF.2 hlt];exact ext0 _ _ (oldk k hlt X hX)
  ·have:Nat.blt k k0=false:=by cases h:Nat.blt k k0 with | false=>rfl | true=>have:=BF.1 h;omega
   rw [this]
   rcases hk with hk | hk
   ·omega
   ·exact new1 k hge hk X hX
 refine ⟨β',ext0,?_,?_,?_,?_,?_,?_,ho.size,ho.os,ho.tape,ho.output⟩
 ·intro b X hX
  by_cases hr:fr≤b∧b<fr+nw
  ·obtain ⟨hl,h1⟩:=inn b hr.1 hr.2 X hX
   refine .inr ⟨hr.1,hr.2,fun B n e=>?_⟩
   subst e
   rcases ho.new _ _ h1 with h | h
   ·have:Nat.blt (k0+(b-fr)) k0=false:=by cases h:Nat.blt (k0+(b-fr)) k0 with | false=>rfl | true=>have:=BF.1 h;omega
    simp [A_,this] at h
   ·rcases h B n rfl with h | ⟨k,m',hk,hk2⟩
    ·exact .inl h
    ·have hk0:=hW k hk
     obtain ⟨bb,hbb,_,hbr⟩:=Nv c3 k (by rw [B8,List.mem_append];exact .inl hk)
     have:=ho.good.inj _ _ _ _ _ (EZ hbb hbr) hl (ho.ext k _ hk2) h1
     omega
  ·rw [out b hr] at hX;exact .inl hX
 ·intro b B n hX
  by_cases hr:fr≤b∧b<fr+nw
  ·exact ho.good.lt _ _ _ (inn b hr.1 hr.2 _ hX).2
  ·rw [out b hr] at hX
   exact Nat.lt_of_lt_of_le (g.lt _ _ _ hX) ho.size
 ·intro b b' B n n' h1 h2 h3 h4 h5 h6
  obtain ⟨l1,q1⟩:=inn b h1 h3 _ h5
  obtain ⟨l2,q2⟩:=inn b' h2 h4 _ h6
  have:=ho.good.inj _ _ _ _ _ (newr _ (by omega) l1) l2 q1 q2
  omega
 ·exact cB (fun k hk X hX=>kapk k (KD c2 k hk) X hX) ho.val
 ·intro k y hk
  obtain ⟨j,hj,e1,e2⟩:=VX hk
  obtain ⟨bb,hbb,hok,_⟩:=Nv c3 j hj
  rw [hbb] at e2
  simp only [Option.map_some,Option.some.injEq] at e2
  subst e1;subst e2
  have hkj:j<k0∨(AF H1 j).isSome=true:=.inr (by rw [hbb];rfl)
  rcases ho.good.heap j bb hbb with ⟨B,n,l,t,pre,ty,fz,q1,q2,q3⟩ | ⟨q1,q2,q3⟩ | ⟨B,l,es,q,q1,q2,q3,q4⟩
  ·exact .inl ⟨B,n,l,t,pre,ty,fz,kapk j hkj _ q1,KB (fun k hk X hX=>kapk k (KD hok k hk) X hX) q2,q3⟩
  ·exact .inr (.inl ⟨kapk j hkj _ q1,q2,KB (fun k hk X hX=>kapk k (KD hok k hk) X hX) q3⟩)
  ·exact .inr (.inr ⟨B,l,es,q,kapk j hkj _ q1,q2,KB (fun k hk X hX=>kapk k (KD hok k hk) X hX) q3,q4⟩)
 ·intro B hB hno
  refine ho.frame B hB fun k m hk hk2=>?_
  have hk0:=hW k hk
  rw [inE k hk0] at hk2
  have hmem:=VY (κ:=I1 ρ k0 fr) (H1:=H1) (j:=k) (l:=cat W (Ec k0 H1)) (by rw [B8,List.mem_append];exact .inl hk)
  have e:I1 ρ k0 fr k=nth ρ k:=by simp [I1,BF.2 hk0]
  rw [e] at hmem
  exact hno _ _ m hmem hk2
section
variable {P:Program} {O:Orc} {f:FuncId} {fn:Func}
theorem FV (hfn:P.funcs[f]? = some fn) (hbd:fn.body.isSome=true) (hname:(fn.name=="runtime.NumGoroutine")=false) {s:ASpec}
  (h:∀ args H fr path r,s args H fr path=some r→∃ (ρ:List Nat) (args0:List AV) (H0:Heap) (k0 nw:Nat) (W:List Nat) (val:AV) (H1:Heap) (conds:List (Bool×Bool)) (path':List Bool),
   r=Bg ρ k0 fr nw W val H1 conds path'∧(∀ β us w,Ar β args us→Good β H w→AN conds→Al P f args0 H0 k0 W val H1∧EI k0 nw W val H1=true∧Ar (A_ β ρ k0) args0 us∧Good (A_ β ρ k0) H0 w∧(∀ k,k<k0→∃ X,β (nth ρ k)=some X))):BN P f s:=by
 intro args H fr path r β us w hs hc ha hg hf
 obtain ⟨ρ,args0,H0,k0,nw,W,val,H1,conds,path',rfl,hh⟩:=h args H fr path r hs
 obtain ⟨hcan,hb,ha0,hg0,hdef⟩:=hh β us w ha hg hc
 refine Lp hfn hbd hname (Calls.mono (hcan (A_ β ρ k0) us w ha0 hg0 fun b hb=>?_) ?_)
 ·have:Nat.blt b k0=false:=by cases h:Nat.blt b k0 with | false=>rfl | true=>have:=BF.1 h;omega
  simp [A_,this]
 ·rintro e w' ⟨u,β1,rfl,ho⟩
  obtain ⟨β',he⟩:=VZ (conds:=conds) (path:=path') hg ho hb hf hdef
  exact ⟨u,β',rfl,he⟩
def AP (P:Program) (O:Orc) (fn:Func) (fuel k0:Nat) (ks:List Nat) (x:ASt):Option (List (Bool×Bool)×List Nat×AV×Heap) :=
 match GM P O none fuel x with
 | some (g,y)=>match I0 P fn y with
  | some v=>some (g.conds,CS k0 g.keys,v,restrict y.s.H ks)
  | none=>none
 | none=>none
theorem A6 {β0:Env} {w0:World} {n:Fz} {W:List Nat} (hO:OrcOk P O) (hm:P.follows .mixedOrders=true) (hfn:P.funcs[f]? = some fn) {fuel k0:Nat} {ks ks':List Nat} {x:ASt} {conds:List (Bool×Bool)} {v:AV} {H1:Heap}
  (h:AP P O fn fuel k0 ks x=some (conds,ks',v,H1)) (hc:AN conds) (hwf:Bo n x.s) (h0:∀ b,k0≤b→β0 b=none) (hks:∀ k∈ks',k∈W) (hD:n.D=[]:=by rfl):ASafe P f β0 w0 (BS β0 w0 W v H1) n W x:=by
 unfold AP at h
 split at h
 case h_2=>cases h
 rename_i g y hrun
 split at h
 case h_2=>cases h
 rename_i v' hv
 injection h with h;injection h with h1 h;injection h with h2 h;injection h with h3 h4
 subst h1;subst h3;subst h4
 refine Ai (W:=W) hO hm (fuel:=fuel) (k0:=k0) (fg:=none) (stop:=none) (ks:=ks') (y:=y) (by unfold Aa;rw [hrun];simp only;rw [h2]) hc hwf h0 hks fun _=>?_
 refine VS hfn hv ?_ hD
 rintro e w ⟨u,β,q0,q1⟩
 exact ⟨u,β,q0,{ q1 with good:=q1.good.restrict ks }⟩
theorem A7 (hfn:P.funcs[f]? = some fn) (hb:fn.body.isSome=true) {args0:List AV} {H0:Heap} {k0:Nat} {path:List Bool} {W:List Nat} {v:AV} {H1:Heap} (hlen:Nat.ble (Ez args0) fn.ntmps=true)
  (h:∀ β0 w0,(∀ b,k0≤b→β0 b=none)→ASafe P f β0 w0 (BS β0 w0 W v H1) fn.ntmps W (Ak fn args0 H0 k0 path)):Al P f args0 H0 k0 W v H1 :=
 fun β us w ha hg hf=>L0 hfn hb hlen (ASafe.old (k0:=k0) hf (fun _ h=>by cases h) (h β w hf)) ha hg hf
end
end Go.Proofs.YtojnabmgolpodaaGreat.Ex
namespace Go.Proofs.YtojnabmgolpodaaGreat.Ex
open Go.RowKit (Below)
open Go.ChangeShapes Go.WideShapes Go.ChangeAt Go.RowKit
def L2 (P:Program) (g:TypeId→Option (List (Option IntKind))):List Field→Nat→Option (List (Option IntKind))
 | [],_=>some []
 | f::fs,off=>match Nat.beq f.offset off,g f.type with
  | true,some ks=>match Nat.beq (P.cellsOf f.type) ks.length,L2 P g fs (off+ks.length) with
   | true,some r=>some (ks++r)
   | _,_=>none
  | _,_=>none
def I3 (P:Program):Nat→TypeId→Option (List (Option IntKind))
 | 0,_=>none
 | d+1,t=>match P.underlying t with
  | some .bool=>some [none]
  | some (.int k)=>some [some k]
  | some (.array n e)=>match I3 P d e with
   | some ks=>match Nat.beq (P.cellsOf e) ks.length,Nat.beq (P.cellsOf t) (n*ks.length) with
    | true,true=>some (List.replicate n ks).flatten
    | _,_=>none
   | none=>none
  | some (.struct fs)=>match L2 P (I3 P d) fs.toList 0 with
   | some ks=>match Nat.beq (P.cellsOf t) ks.length with
    | true=>some ks
    | false=>none
   | none=>none
  | _=>none
def Cl:List (Option IntKind)→List Value→Prop
 | [],[]=>True
 | none::ks,.bool _::r=>Cl ks r
 | some k::ks,.int k' i::r=>k'=k∧has k i∧Cl ks r
 | _,_=>False
theorem Nw:∀ {ks js:List (Option IntKind)} {l:List Value},Cl ks (l.take ks.length)→Cl js (l.drop ks.length)→Cl (ks++js) l
 | [],js,l,_,h2=>by simpa using h2
 | none::ks,js,[],h1,_=>by simp [Cl] at h1
 | some _::ks,js,[],h1,_=>by simp [Cl] at h1
 | none::ks,js,x::r,h1,h2=>by
  simp only [List.length_cons,List.take_succ_cons,List.drop_succ_cons] at h1 h2
  cases x<;>simp only [Cl] at h1
  exact Nw (ks:=ks) (js:=js) h1 h2
 | some k::ks,js,x::r,h1,h2=>by
  simp only [List.length_cons,List.take_succ_cons,List.drop_succ_cons] at h1 h2
  cases x<;>simp only [Cl] at h1
  exact ⟨h1.1,h1.2.1,Nw (ks:=ks) (js:=js) h1.2.2 h2⟩
theorem Vg {ks:List (Option IntKind)}:∀ {n:Nat} {l:List Value},l.length=n*ks.length→(∀ i,i<n→Cl ks ((l.drop (i*ks.length)).take ks.length))→Cl (List.replicate n ks).flatten l
 | 0,l,h,_=>by
  have:l=[]:=List.length_eq_zero_iff.1 (by omega)
  subst this;trivial
 | n+1,l,h,hi=>by
  rw [List.replicate_succ,List.flatten_cons]
  refine Nw (by simpa using hi 0 (by omega)) (Vg ?_ fun i hlt=>?_)
  ·rw [List.length_drop,h,Nat.succ_mul];omega
  ·have:=hi (i+1) (by omega)
   rw [List.drop_drop,show ks.length+i*ks.length=(i+1)*ks.length by rw [Nat.succ_mul];omega]
   exact this
section
variable {H:Type} {enc:TypeId×Value→H} {P:Program} {w:World} {base:Nat} {spare:Nat→Bool} {held:Bool}
theorem cC {k:IntKind} {i:Int} (h:(Lit.int k i).wf=true):has k i:=by
 simp only [Lit.wf,Bool.and_eq_true,decide_eq_true_eq] at h
 exact h
theorem Vi {g:TypeId→Option (List (Option IntKind))} {tr:TypeId→List Value→Prop} (hg:∀ t ks cs,g t=some ks→tr t cs→Cl ks cs) :
  ∀ (fs:List Field) (off:Nat) (ks:List (Option IntKind)) (cs:List Value),L2 P g fs off=some ks→(cs.drop off).length=ks.length→(∀ f∈fs,tr f.type ((cs.drop f.offset).take (P.cellsOf f.type)))→Cl ks (cs.drop off)
 | [],off,ks,cs,h,hl,_=>by
  simp only [L2,Option.some.injEq] at h;subst h
  have:cs.drop off=[]:=List.length_eq_zero_iff.1 hl
  rw [this];trivial
 | f::fs,off,ks,cs,h,hl,hf=>by
  simp only [L2] at h
  split at h
  ·rename_i ks1 h1 h2
   split at h
   ·rename_i r h3 h4
    injection h with h;subst h
    have e1:=Nat.eq_of_beq_eq_true h1
    have e3:=Nat.eq_of_beq_eq_true h3
    have q:=hf f (by simp)
    rw [e1,e3] at q
    refine Nw (hg _ _ _ h2 q) ?_
    rw [List.drop_drop]
    refine Vi hg fs (off+ks1.length) r cs h4 ?_ fun f' hf'=>hf f' (by simp [hf'])
    rw [← List.drop_drop,List.length_drop,hl,List.length_append];omega
   ·cases h
  ·cases h
theorem RJ:∀ (d:Nat) (t:TypeId) (ks:List (Option IntKind)),I3 P d t=some ks→∀ (fuel:Nat) (cs:List Value) (x:DataW H×List MemPlace),DataW.trod enc P w base spare held fuel t cs=some x→Cl ks cs
 | 0,t,ks,h,_,_,_,_=>by cases h
 | d+1,t,ks,h,fuel,cs,x,hx=>by
  simp only [I3] at h
  split at h
  ·rename_i hu
   injection h with h;subst h
   obtain ⟨b,rfl,_⟩:=DataW.trod_bool hu hx
   trivial
  ·rename_i k hu
   injection h with h;subst h
   obtain ⟨i,rfl,_,hw⟩:=DataW.trod_int hu hx
   exact ⟨rfl,cC hw,trivial⟩
  ·rename_i n e hu
   split at h
   ·rename_i ks1 h1
    split at h
    ·rename_i h2 h3
     injection h with h;subst h
     have e2:=Nat.eq_of_beq_eq_true h2
     have e3:=Nat.eq_of_beq_eq_true h3
     obtain ⟨xs,m,rfl,_,hl,hn,hi⟩:=DataW.trod_array hu hx
     rw [e2] at hi
     refine Vg (by rw [hl,e3]) fun i hlt=>?_
     have:=hi i hlt
     rw [List.getElem?_eq_getElem (by omega)] at this
     exact RJ d e ks1 h1 _ _ _ this
    ·cases h
   ·cases h
  ·rename_i fs hu
   split at h
   ·rename_i ks1 h1
    split at h
    ·rename_i h2
     injection h with h;subst h
     have e2:=Nat.eq_of_beq_eq_true h2
     obtain ⟨xs,n,rfl,_,hl,hn,hf⟩:=DataW.trod_struct hu hx
     have:=Vi (P:=P) (tr:=fun t cs=>∃ x,DataW.trod enc P w base spare held n t cs=some x) (fun t ks cs hg ⟨x,q⟩=>RJ d t ks hg _ _ _ q) fs.toList 0 ks1 cs h1 (by rw [List.drop_zero,hl,e2]) fun f hfm=>?_
     ·simpa using this
     ·obtain ⟨i,hi,rfl⟩:=List.getElem_of_mem hfm
      have hi':i<fs.size:=by simpa using hi
      have:=hf i fs.toList[i] (by simp [hi'])
      rw [List.getElem?_eq_getElem (by omega)] at this
      exact ⟨_,this⟩
    ·cases h
   ·cases h
  ·cases h
end
def RK (P:Program) (t:TypeId):Bool:=match P.underlying t with
 | some (.struct _)=>true
 | some (.array _ _)=>true
 | _=>false
def Vj (agg:Bool) (ks:List (Option IntKind)) (v:Value):Prop:=match agg with
 | true=>∃ l,v=.agg ⟨l⟩∧Cl ks l
 | false=>Cl ks [v]
theorem cD {H:Type} {enc:TypeId×Value→H} {P:Program} {W:World} {b base:Nat} {spare:Nat→Bool} {held:Bool} {r:Reach} {t:TypeId} {v:Value} {d:DataW H} {p:List MemPlace} {ks:List (Option IntKind)} {g:Bool} {n:Nat}
  (hs:I3 P n t=some ks) (hg:RK P t=g) (hv:Value.okWide P W r b t v) (ht:DataW.Trod enc P W base spare held t v d p):Vj g ks v:=by
 obtain ⟨fuel,hf⟩:=ht
 have hfit:=RJ n t ks hs fuel _ _ hf
 subst hg
 unfold RK
 split
 ·rename_i fs hu
  obtain ⟨cs,rfl,_⟩:=okWide_struct hu hv
  exact ⟨cs.toList,rfl,by simpa [Value.cells] using hfit⟩
 ·rename_i k e hu
  simp only [Value.okWide,hu] at hv
  obtain ⟨cs,rfl,_⟩:=hv
  exact ⟨cs.toList,rfl,by simpa [Value.cells] using hfit⟩
 ·rename_i h1 h2
  show Cl ks [v]
  cases n with
  | zero=>cases hs
  | succ n =>
   simp only [I3] at hs
   split at hs
   ·rename_i hu
    obtain ⟨b,hb,_⟩:=DataW.trod_bool hu hf
    rw [hb] at hfit
    have:v=.bool b:=by
     obtain ⟨c,rfl⟩:=okWide_bool hu hv
     simpa [Value.cells] using hb
    rw [this];exact hfit
   ·rename_i k hu
    obtain ⟨i,hb,_⟩:=DataW.trod_int hu hf
    rw [hb] at hfit
    have:v=.int k i:=by
     obtain ⟨c,rfl⟩:=okWide_int hu hv
     simpa [Value.cells] using hb
    rw [this];exact hfit
   ·rename_i m e hu;exact absurd hu (h2 _ _)
   ·rename_i fs hu;exact absurd hu (h1 _)
   ·cases hs
theorem Vk {H:Type} {enc:TypeId×Value→H} {P:Program} {W:World} {base:Nat} {spare:Nat→Bool} {held:Bool}:∀ {ts:List TypeId} {vs:List Value} {ds:List (DataW H)} {ps:List MemPlace},DataW.TrodAll enc P W base spare held ts vs ds ps→vs.length=ts.length∧ds.length=ts.length
 | [],[],[],_,_=>⟨rfl,rfl⟩
 | _::_,_::_,_::_,_,⟨_,_,_,h,_⟩=>by have:=Vk h;simp [this]
theorem Vl {H:Type} {enc:TypeId×Value→H} {P:Program} (hl:laidOutB P=true) {W W':World} (hb:Below W.heap.size W W'):∀ {ts:List TypeId} {vs:List Value} {ds:List (DataW H)} {ps:List MemPlace},
  ts.all (fun t=>P.readableRec t&&decide (t<P.types.size))=true→DataW.TrodAll enc P W 0 (fun _=>true) true ts vs ds ps→DataW.TrodAll enc P W' 0 (fun b=>decide (b<W.heap.size)) true ts vs ds ps
 | [],[],[],_,_,h=>h
 | _::_,_::_,_::_,_,hr,⟨p,q,h1,h2,e⟩=>by
  simp only [List.all_cons,Bool.and_eq_true,decide_eq_true_eq] at hr
  have hlt:∀ x∈p,x.block<W.heap.size:=by obtain ⟨m,hm⟩:=h1;exact DataW.trod_lt m _ _ _ hm
  exact ⟨p,q,Below.trod hl hr.1.1 hr.1.2 h1 hb hlt,Vl hl hb (by simpa using hr.2) h2,e⟩
def cE (s:ChangeSpec) (n:Nat):Prop:=s.vars=[]∧∀ (H:Type) (ds:List (DataW H)),ds.length=n→(s.fn H ds).results=[.lit (.bool true)]∧(s.fn H ds).args=ds∧(s.fn H ds).vars=[]
def Nx (P:Program) (f:FuncId) (fn:Func):Prop :=
 ∀ (H:Type) (enc:TypeId×Value→H) (us:List Value) (W:World) (base:Nat) (ds:List (DataW H)) (ps:List MemPlace),(∀ (j:Nat) t v,fn.params[j]? = some t→us[j]? = some v→Value.okWide P W .any base t v) →
  DataW.TrodAll enc P W 0 (fun _=>true) true fn.params.toList us ds ps→(DataW.weightsEach P fn.params.toList ds).all (· ≤ reachBytes)=true→W.noneFrozen ps→Calls P f ⟨us⟩ W fun e w'=>e=.returned (.bool true)∧Below W.heap.size W w'
theorem law_lift {C:Checked} {os:Os} {f:FuncId} {fn:Func} {s:ChangeSpec} {H:Type} {enc:TypeId×Value→H} (own:ownKnob C.prog.godebug=none) (started:os.Started) (noInit:C.prog.inits.idxOf? f=none) (hfn:C.prog.funcs[f]? = some fn)
  (witness:∃ (w:World) (tape:Tape) (i:Input),w.os=os∧(w.forCall tape i).Shaped C.prog∧i.vars=[]∧Input.okWide C.prog (w.forCall tape i) .any w.heap.size f i ∧
   s.pre6 enc C.prog fn [] false (w.forCall tape i).memory i.args∧Assume.holds {} C.prog (lone (Frame.enter C.prog f i.args .normal) [] (w.forCall tape i)))
  (hs:cE s fn.params.size) (htypes:s.plain.varTypes C.prog=[]) {tb:TypeId} (hrt:fn.resultTypes=#[tb]) (hub:C.prog.underlying tb=some .bool) (hlaid:laidOutB C.prog=true)
  (hpar:fn.params.toList.all (fun t=>C.prog.readableRec t&&decide (t<C.prog.types.size))=true) (walk:Nx C.prog f fn) :
  ReturnsInHanded {} C os f .any (s.pre6 enc C.prog fn [] false) (s.post enc C.prog fn false true false false):=by
 refine returnsInHanded_of_change_sized own started noInit hfn witness ?_
 intro W base args ds gs before hval hW _ hwt _
 have hW':=hW
 obtain ⟨p,q,hA,hV,rfl,hfz,hnd⟩:=hW
 obtain ⟨hs1,hs2⟩:=hs
 rw [hs1] at hV
 obtain ⟨rfl,rfl⟩:=trodVars_none hV
 obtain ⟨l1,l2⟩:=Vk hA
 rw [htypes,List.append_nil,List.append_nil] at hwt
 have e:args=⟨args.toList⟩:=rfl
 rw [e]
 refine (walk H enc args.toList W base ds p (fun j t v h1 h2=>hval j t v h1 (by simpa using h2)) hA hwt (by simpa using hfz)).mono fun e W' ⟨he,bel⟩=>?_
 subst he
 have hds:ds.length=fn.params.size:=by rw [l2];simp
 obtain ⟨r1,r2,r3⟩:=hs2 H (ds++[]) (by rw [List.append_nil];exact hds)
 refine ⟨_,rfl,ds,[],p++[],[],p,[],hW',?_,?_,?_,bel.frame _,fun h=>by cases h⟩
 ·rw [r1,hrt]
  exact trodAll_mk1 (Go.RowKit.shut_bool hub _)
 ·rw [r2,List.append_nil]
  exact Vl hlaid bel hpar hA
 ·rw [r3,hs1];rfl
end Go.Proofs.YtojnabmgolpodaaGreat.Ex
namespace Go.Proofs.YtojnabmgolpodaaGreat.Ex
section
variable {β β':Env} {κ:Nat→Nat}
end
section
variable {P:Program} {f:FuncId} {β0:Env} {w0:World} {R:Ending→World→Prop} {n:Fz} {W:List Nat}
end
def Vm:List AV→Bool
 | []=>false
 | .val false [.v (.slice none 0 0)]::_=>true
 | _::r=>Vm r
def RM (k:Nat):List AV→List AV
 | []=>[]
 | x::r=>(match x with
  | .val false [.v (.slice none 0 0)]=>.val false [.sl k 0 0 0]
  | y=>y)::RM k r
def Ed (s:ASpec):ASpec:=fun args H fr path=>match Vm args with
 | true=>match s (RM fr args) ((fr,some ⟨BB,[],false⟩)::H) (fr+1) path with
  | some r=>some { r with nw:=r.nw+1 }
  | none=>none
 | false=>s args H fr path
theorem FW {P:Program} {f:FuncId} {s:ASpec} (h:BN P f s):BN P f (Ed s):=by
 intro args H fr path r β us w hs hc ha hg hf
 unfold Ed at hs
 split at hs
 case h_2=>exact h args H fr path r β us w hs hc ha hg hf
 split at hs
 case h_2=>cases hs
 rename_i r1 hr1
 injection hs with hs
 subst hs
 have hfr:β fr=none:=hf fr (Nat.le_refl _) (by show fr<fr+(r1.nw+1);omega)
 let β1:Env:=fun k=>match Nat.beq k fr with | true=>some Loc.nil | false=>β k
 have bo:∀ {k},k≠fr→β1 k=β k:=fun {k} h=>by
  show (match Nat.beq k fr with | true=>some Loc.nil | false=>β k)=_
  rw [Es h]
 have bn:β1 fr=some Loc.nil:=by
  show (match Nat.beq fr fr with | true=>some Loc.nil | false=>β fr)=_
  rw [Ag.2 rfl]
 have le:Env.le β β1:=fun b X h=>by
  rw [bo fun e=>by rw [e,hfr] at h;cases h];exact h
 have hargs:∀ {args:List AV} {us:List Value},Ar β args us→Ar β1 (RM fr args) us:=by
  intro args
  induction args with
  | nil=>intro us h;exact h
  | cons x r ih =>
   rintro us ⟨u,us',h1,h2,h3⟩
   refine ⟨u,us',?_,ih h2,h3⟩
   split
   ·obtain ⟨l1,l2,⟨q1,_⟩,q2,q3⟩:=h1
    exact ⟨l1,l2,.inr ⟨bn,rfl,rfl,rfl,q1⟩,q2,q3⟩
   ·exact Px le h1
 have hgood:Good β1 ((fr,some ⟨BB,[],false⟩)::H) w:=by
  have at_:∀ {b B n},β1 b=some (.at_ B n)→b≠fr∧β b=some (.at_ B n):=fun {b B n} q=>by
   have e:b≠fr:=fun e=>by rw [e,bn] at q;cases q
   exact ⟨e,by rwa [bo e] at q⟩
  have hh:∀ {b},b≠fr→AF ((fr,some (⟨BB,[],false⟩:Blk))::H) b=AF H b:=fun {b} e=>by simp only [AF];rw [Es (Ne.symm e)]
  refine ⟨fun b blk hb=>?_,fun b b' B n n' q1 q2 q3 q4=>?_,fun b B n q=>hg.lt _ _ _ (at_ q).2⟩
  ·by_cases e:b=fr
   ·subst e
    simp only [AF] at hb
    rw [Ag.2 rfl] at hb
    injection hb with hb;subst hb
    exact .inr (.inl ⟨bn,.inr rfl,rfl⟩)
   ·rw [hh e] at hb
    exact UR le (hg.heap b blk hb)
  ·obtain ⟨e1,q3⟩:=at_ q3
   obtain ⟨e2,q4⟩:=at_ q4
   obtain ⟨d,hd,hr⟩:=HK q1
   rw [hh e1] at hd
   rw [hh e2] at q2
   exact hg.inj b b' B n n' (EZ hd hr) q2 q3 q4
 have:=h _ _ _ _ r1 β1 us w hr1 hc (hargs ha) hgood fun b h1 h2=>by
  rw [bo (by omega)];exact hf b (by omega) (by show b<fr+(r1.nw+1);omega)
 have mono:∀ e w',NZ β1 (fr+1) r1 w e w'→NZ β fr { r1 with nw:=r1.nw+1 } w e w':=by
  rintro e w' ⟨u,β',rfl,he⟩
  have bf:β' fr=some Loc.nil:=he.ext fr _ bn
  refine ⟨u,β',rfl,{ he with ext:=Env.le_trans le he.ext,new:=fun b X q=>?_,inj:=fun b b' B n n' q1 q2 q3 q4 q5 q6=>?_,frame:=fun B hB hno=>he.frame B hB fun k y n hk hk2=>?_ }⟩
  ·rcases he.new b X q with q' | ⟨q1,q2,q3⟩
   ·by_cases e:b=fr
    ·subst e
     rw [bn] at q';injection q' with q';subst q'
     exact .inr ⟨Nat.le_refl _,(by show b<b+(r1.nw+1);omega),fun B n h=>by cases h⟩
    ·rw [bo e] at q';exact .inl q'
   ·refine .inr ⟨by omega,(by show b<fr+(r1.nw+1);omega),fun B n e=>?_⟩
    rcases q3 B n e with q | ⟨k,m,k1,k2⟩
    ·exact .inl q
    ·refine .inr ⟨k,m,k1,?_⟩
     rwa [bo fun e=>by rw [e,bn] at k2;cases k2] at k2
  ·have e1:b≠fr:=fun e=>by rw [e,bf] at q5;cases q5
   have e2:b'≠fr:=fun e=>by rw [e,bf] at q6;cases q6
   change b<fr+(r1.nw+1) at q3
   change b'<fr+(r1.nw+1) at q4
   exact he.inj b b' B n n' (by omega) (by omega) (by omega) (by omega) q5 q6
  ·have e:k≠fr:=fun e=>by rw [e,bn] at hk2;cases hk2
   rw [bo e] at hk2
   exact hno k y n hk hk2
 unfold HQ at this ⊢
 split at this
 ·exact mono _ _ this
 ·exact Calls.mono this fun e w' h=>mono e w' h
 ·exact this
def GS (fr:Nat) (H H1:Heap):List Nat→Bool
 | []=>true
 | k::r=>match Nat.blt k fr with
  | true=>match AF H k with | some _=>GS fr H H1 r | none=>false
  | false=>match AF H1 k with | some _=>GS fr H H1 r | none=>false
theorem RN {fr:Nat} {H H1:Heap}:∀ {l:List Nat},GS fr H H1 l=true→∀ k∈l,(k<fr∧(AF H k).isSome=true)∨(fr≤k∧(AF H1 k).isSome=true)
 | [],_,k,h=>by cases h
 | x::r,h,k,hk=>by
  simp only [GS] at h
  split at h
  ·rename_i hb
   split at h
   ·rename_i b hg
    rcases List.mem_cons.1 hk with rfl | hk
    ·exact .inl ⟨BF.1 hb,by rw [hg];rfl⟩
    ·exact RN h k hk
   ·cases h
  ·rename_i hb
   split at h
   ·rename_i b hg
    rcases List.mem_cons.1 hk with rfl | hk
    ·refine .inr ⟨?_,by rw [hg];rfl⟩
     rcases Nat.lt_or_ge k fr with q | q
     ·rw [BF.2 q] at hb;cases hb
     ·exact q
    ·exact RN h k hk
   ·cases h
def KF (fr:Nat) (H H1:Heap):List Nat→Bool
 | []=>true
 | k::r=>match AF H1 k with
  | some b=>match GS fr H H1 (Cb b.cs),Nat.beq b.ty BB with | true,false=>KF fr H H1 r | _,_=>false
  | none=>KF fr H H1 r
theorem L3 {fr:Nat} {H H1:Heap}:∀ {l:List Nat},KF fr H H1 l=true→∀ k∈l,∀ b,AF H1 k=some b→GS fr H H1 (Cb b.cs)=true∧b.ty≠BB
 | [],_,k,h=>by cases h
 | x::r,h,k,hk=>by
  intro b' hb'
  simp only [KF] at h
  split at h
  ·rename_i b hb
   split at h
   ·rename_i hok hro
    rcases List.mem_cons.1 hk with rfl | hk
    ·rw [hb] at hb';injection hb' with hb';subst hb';exact ⟨hok,NI hro⟩
    ·exact L3 h k hk b' hb'
   ·cases h
  ·rename_i hb
   rcases List.mem_cons.1 hk with rfl | hk
   ·rw [hb] at hb';cases hb'
   ·exact L3 h k hk b' hb'
def I4 (H1:Heap):List Nat→List Nat
 | []=>[]
 | k::r=>match AF H1 k with | some _=>k::I4 H1 r | none=>I4 H1 r
theorem RO {H1:Heap} {k:Nat}:∀ {l:List Nat},k∈l→(AF H1 k).isSome=true→k∈I4 H1 l
 | x::r,h,hs=>by
  simp only [I4]
  rcases List.mem_cons.1 h with rfl | h
  ·obtain ⟨b,hb⟩:=Option.isSome_iff_exists.1 hs
   rw [hb];simp
  ·split
   ·exact List.mem_cons_of_mem _ (RO h hs)
   ·exact RO h hs
theorem RP {H1:Heap} {k:Nat}:∀ {l:List Nat},k∈I4 H1 l→k∈l
 | x::r,h=>by
  simp only [I4] at h
  split at h
  ·rcases List.mem_cons.1 h with rfl | h
   ·simp
   ·exact List.mem_cons_of_mem _ (RP h)
  ·exact List.mem_cons_of_mem _ (RP h)
def L4 (fr:Nat) (H1:Heap):List Nat:=I4 H1 (Ec fr H1)
def I5 (H1:Heap):List Nat→Heap
 | []=>[]
 | k::r=>(k,AF H1 k)::I5 H1 r
theorem Vn {H1:Heap} {k:Nat} {y:Option Blk}:∀ {l:List Nat},(k,y)∈I5 H1 l→k∈l∧y=AF H1 k
 | [],h=>by cases h
 | x::r,h=>by
  simp only [I5,List.mem_cons,Prod.mk.injEq] at h
  rcases h with ⟨rfl,h2⟩ | h
  ·exact ⟨by simp,h2⟩
  ·obtain ⟨h1,h2⟩:=Vn h
   exact ⟨by simp [h1],h2⟩
theorem RQ {H1:Heap} {k:Nat}:∀ {l:List Nat},k∈l→(k,AF H1 k)∈I5 H1 l
 | x::r,h=>by
  simp only [I5,List.mem_cons]
  rcases List.mem_cons.1 h with rfl | h
  ·exact .inl rfl
  ·exact .inr (RQ h)
theorem RS {k0:Nat}:∀ {l:List Nat},∀ k∈CS k0 l,k<k0
 | [],k,h=>by cases h
 | x::r,k,h=>by
  simp only [CS] at h
  split at h
  ·rename_i hb _
   rcases List.mem_cons.1 h with rfl | h
   ·exact BF.1 hb
   ·exact RS k h
  ·exact RS k h
def Ny (n:Nat):List AV→Bool
 | []=>true
 | x::r=>match Iy n (FO x) with | true=>Ny n r | false=>false
theorem Vo {β β':Env} {n:Nat} (he:∀ k,k<n→β' k=β k):∀ {args:List AV} {us:List Value},Ny n args=true→Ar β args us→Ar β' args us
 | [],_,_,h=>h
 | x::r,us,hb,⟨u,us',h1,h2,h3⟩=>by
  simp only [Ny] at hb
  split at hb
  ·rename_i hx
   exact ⟨u,us',RA (fun k hk=>he k (Lt hx k hk)) h1,Vo he hb h2,h3⟩
  ·cases hb
def C7 (P:Program) (O:Orc) (fn:Func) (fuel:Nat):ASpec:=fun args H fr path =>
 match fn.body with
 | some c=>match GM P O none fuel ⟨[.code c],⟨GN args fn.ntmps,H,fr,path⟩⟩ with
  | some (g,y)=>match I0 P fn y,Nat.ble (Ez args) fn.ntmps&&(Ny fr args&&(FT fr H&&(FT y.s.fr y.s.H&&Nat.ble fr y.s.fr))) with
   | some v,true=>match GS fr H y.s.H (cat (FO v) (CS fr g.keys)),KF fr H y.s.H (cat (CS fr g.keys) (L4 fr y.s.H)) with
    | true,true=>some ⟨v,I5 y.s.H (cat (CS fr g.keys) (L4 fr y.s.H)),y.s.fr-fr,g.conds,y.s.path⟩
    | _,_=>none
   | _,_=>none
  | none=>none
 | none=>none
theorem cF {β:Env} {w w':World} {fr fr':Nat} {W:List Nat} {v:AV} {H H1:Heap} {u:Value} {β1:Env} {conds:List (Bool×Bool)} {path:List Bool} (g:Good β H w) (ho:Out (GP β fr) w W v H1 u w' β1) (hW:∀ k∈W,k<fr)
  (hl:FT fr' H1=true) (hle:fr≤fr') (ov:GS fr H H1 (cat (FO v) W)=true) (ob:KF fr H H1 (cat W (L4 fr H1))=true) (hf:∀ b,fr≤b→b<fr'→β b=none) :
  ∃ β',Eff β fr ⟨v,I5 H1 (cat W (L4 fr H1)),fr'-fr,conds,path⟩ w u w' β':=by
 let β':Env:=fun b=>match Nat.ble fr b&&Nat.blt b fr',AF H1 b with
  | true,some _=>β1 b
  | true,none=>none
  | false,_=>β b
 have out:∀ b,¬ (fr≤b∧b<fr')→β' b=β b:=by
  intro b hb
  have:(Nat.ble fr b&&Nat.blt b fr')=false:=by
   cases h:Nat.ble fr b&&Nat.blt b fr' with
   | false=>rfl
   | true =>
    have:=Bool.and_eq_true_iff.1 h
    exact absurd ⟨Nat.le_of_ble_eq_true this.1,BF.1 this.2⟩ hb
  show (match Nat.ble fr b&&Nat.blt b fr',AF H1 b with | true,some _=>β1 b | true,none=>none | false,_=>β b)=β b
  rw [this]
 have inn:∀ b,fr≤b→b<fr'→∀ X,β' b=some X→(AF H1 b).isSome=true∧β1 b=some X:=by
  intro b h1 h2 X hX
  have:(Nat.ble fr b&&Nat.blt b fr')=true:=by rw [Nat.ble_eq_true_of_le h1,BF.2 h2];rfl
  change (match Nat.ble fr b&&Nat.blt b fr',AF H1 b with | true,some _=>β1 b | true,none=>none | false,_=>β b)=some X at hX
  rw [this] at hX
  cases hq:AF H1 b with
  | none=>rw [hq] at hX;cases hX
  | some y=>rw [hq] at hX;exact ⟨rfl,hX⟩
 have hlive:∀ k,(AF H1 k).isSome=true→k<fr':=by
  intro k hk
  obtain ⟨b,hb⟩:=Option.isSome_iff_exists.1 hk
  exact (GQ hl hb).1
 have newr:∀ k,fr≤k→(AF H1 k).isSome=true→DF H1 k=true:=by
  intro k hk hs
  obtain ⟨b,hb⟩:=Option.isSome_iff_exists.1 hs
  exact EZ hb (L3 ob k (by rw [B8,List.mem_append];exact .inr (RO (RH hb hk) hs)) b hb).2
 have new1:∀ k,fr≤k→(AF H1 k).isSome=true→β' k=β1 k:=by
  intro k hk hs
  have:(Nat.ble fr k&&Nat.blt k fr')=true:=by rw [Nat.ble_eq_true_of_le hk,BF.2 (hlive k hs)];rfl
  show (match Nat.ble fr k&&Nat.blt k fr',AF H1 k with | true,some _=>β1 k | true,none=>none | false,_=>β k)=β1 k
  rw [this]
  obtain ⟨y,hy⟩:=Option.isSome_iff_exists.1 hs
  rw [hy]
 have old1:∀ k,k<fr→(AF H k).isSome=true→β' k=β1 k:=by
  intro k hk hs
  obtain ⟨b,hb⟩:=Option.isSome_iff_exists.1 hs
  rw [out k (fun q=>by omega)]
  have hq:∃ X,β k=some X:=by
   rcases g.heap k b hb with ⟨B,n,_,_,_,_,_,h,_⟩ | ⟨h,_⟩ | ⟨B,_,_,_,h,_⟩<;>exact ⟨_,h⟩
  obtain ⟨X,hX⟩:=hq
  rw [hX,ho.ext k X (by rw [Ck hk];exact hX)]
 have occ:∀ l,GS fr H H1 l=true→∀ k∈l,β' k=β1 k:=by
  intro l hl k hk
  rcases RN hl k hk with ⟨h1,h2⟩ | ⟨h1,h2⟩
  ·exact old1 k h1 h2
  ·exact new1 k h1 h2
 have ext0:Env.le β β':=by
  intro b X hb
  rw [out b (fun h=>by rw [hf b h.1 h.2] at hb;cases hb)]
  exact hb
 have hsub:fr+(fr'-fr)=fr':=by omega
 refine ⟨β',ext0,?_,?_,?_,?_,?_,?_,ho.size,ho.os,ho.tape,ho.output⟩
 ·intro b X hX
  by_cases hr:fr≤b∧b<fr'
  ·obtain ⟨hl,h1⟩:=inn b hr.1 hr.2 X hX
   refine .inr ⟨hr.1,by simp only [hsub];exact hr.2,fun B n e=>?_⟩
   subst e
   rcases ho.new _ _ h1 with h | h
   ·rw [KA hr.1] at h;cases h
   ·rcases h B n rfl with h | ⟨k,m',hk,hk2⟩
    ·exact .inl h
    ·have hk0:=hW k hk
     have hkW:k∈cat W (L4 fr H1):=by rw [B8,List.mem_append];exact .inl hk
     cases hbb:AF H1 k with
     | some bb =>
      have:=ho.good.inj _ _ _ _ _ (EZ hbb (L3 ob k hkW bb hbb).2) hl (ho.ext k _ hk2) h1
      omega
     | none =>
      rw [Ck hk0] at hk2
      exact .inr ⟨k,m',by rw [← hbb];exact RQ hkW,hk2⟩
  ·rw [out b hr] at hX;exact .inl hX
 ·intro b B n hX
  by_cases hr:fr≤b∧b<fr'
  ·exact ho.good.lt _ _ _ (inn b hr.1 hr.2 _ hX).2
  ·rw [out b hr] at hX
   exact Nat.lt_of_lt_of_le (g.lt _ _ _ hX) ho.size
 ·intro b b' B n n' h1 h2 h3 h4 h5 h6
  simp only [hsub] at h3 h4
  obtain ⟨l1,q1⟩:=inn b h1 h3 _ h5
  obtain ⟨l2,q2⟩:=inn b' h2 h4 _ h6
  exact ho.good.inj _ _ _ _ _ (newr _ h1 l1) l2 q1 q2
 ·exact RA (fun k hk=>occ _ ov k (by rw [B8,List.mem_append];exact .inl hk)) ho.val
 ·intro k y hk
  obtain ⟨hj,e2⟩:=Vn hk
  have hbb:AF H1 k=some y:=e2.symm
  obtain ⟨hok,_⟩:=L3 ob k hj y hbb
  have hkk:β' k=β1 k:=by
   rw [B8,List.mem_append] at hj
   rcases hj with hj | hj
   ·exact occ _ ov k (by rw [B8,List.mem_append];exact .inr hj)
   ·exact new1 k (RG (RP hj)) (by rw [hbb];rfl)
  rcases ho.good.heap k _ hbb with ⟨B,n,l,t,pre,ty,fz,q1,q2,q3⟩ | ⟨q1,q2,q3⟩ | ⟨B,l,es,q,q1,q2,q3,q4⟩
  ·exact .inl ⟨B,n,l,t,pre,ty,fz,by rw [hkk];exact q1,Eb (fun k hk=>occ _ hok k hk) q2,q3⟩
  ·exact .inr (.inl ⟨by rw [hkk];exact q1,q2,Eb (fun k hk=>occ _ hok k hk) q3⟩)
  ·exact .inr (.inr ⟨B,l,es,q,by rw [hkk];exact q1,q2,Eb (fun k hk=>occ _ hok k hk) q3,q4⟩)
 ·intro B hB hno
  refine ho.frame B hB fun k m hk hk2=>?_
  have hk0:=hW k hk
  rw [Ck hk0] at hk2
  exact hno k _ m (RQ (by rw [B8,List.mem_append];exact .inl hk)) hk2
section
variable {P:Program} {O:Orc} (hO:OrcOk P O) (hm:P.follows .mixedOrders=true) {f:FuncId} {fn:Func}
include hO hm in
theorem DS (hfn:P.funcs[f]? = some fn) (hb:fn.body.isSome=true) (hname:(fn.name=="runtime.NumGoroutine")=false) (fuel:Nat):BN P f (C7 P O fn fuel):=by
 intro args H fr path r β us w hs hc ha hg hf
 unfold C7 at hs
 split at hs
 case h_2=>cases hs
 rename_i c hbody
 split at hs
 case h_2=>cases hs
 rename_i g y hrun
 split at hs
 case h_2=>cases hs
 rename_i v hv hchk
 split at hs
 case h_2=>cases hs
 rename_i hov hob
 injection hs with hs
 subst hs
 simp only [Bool.and_eq_true] at hchk
 obtain ⟨c1,c2,c3,c4,c5⟩:=hchk
 have hle:=Nat.le_of_ble_eq_true c5
 have hlen:=Nat.le_of_ble_eq_true c1
 rw [HY] at hlen
 have hg0:Good (GP β fr) H w:=by
  refine ⟨fun b blk hb=>?_,fun b b' B n n' h1 h2 h3 h4=>hg.inj b b' B n n' h1 h2 (Iz h3).1 (Iz h4).1,fun b B n h=>hg.lt b B n (Iz h).1⟩
  obtain ⟨e1,e2⟩:=GQ c3 hb
  rcases hg.heap b blk hb with ⟨B,n,l,t,pre,ty,fz,q1,q2,q3⟩ | ⟨q1,q2,q3⟩ | ⟨B,l,es,q,q1,q2,q3,q4⟩
  ·exact .inl ⟨B,n,l,t,pre,ty,fz,by rw [Ck e1];exact q1,Eb (fun k hk=>Ck (e2 k hk)) q2,q3⟩
  ·exact .inr (.inl ⟨by rw [Ck e1];exact q1,q2,Eb (fun k hk=>Ck (e2 k hk)) q3⟩)
  ·exact .inr (.inr ⟨B,l,es,q,by rw [Ck e1];exact q1,q2,Eb (fun k hk=>Ck (e2 k hk)) q3,q4⟩)
 have hwf:Bo fn.ntmps (⟨GN args fn.ntmps,H,fr,path⟩:St):=by
  refine ⟨fun b hb=>?_,?_⟩
  ·cases hq:AF H b with
   | none=>rfl
   | some blk=>have:=(GQ c3 hq).1;simp only at hb;omega
  ·simp only [GN,Np,HY,List.length_append,Q5];omega
 refine Lp hfn hb hname (Calls.mono (Q7 (R:=BS (GP β fr) w (CS fr g.keys) v y.s.H) (fr:=fr) (path:=path) hfn hbody hlen ?_ (Vo (fun k hk=>Ck hk) c2 ha) hg0 (fun b hb=>KA hb)) ?_)
 ·refine ASafe.old (W':=CS fr g.keys) (k0:=fr) (fun b hb=>KA hb) (fun k hk=>by cases hk) ?_
  refine Ai (W:=CS fr g.keys) hO hm (fuel:=fuel) (k0:=fr) (fg:=none) (stop:=none) (ks:=CS fr g.keys) (y:=y) (by unfold Aa;rw [hrun]) hc hwf (fun b hb=>KA hb) (fun k hk=>hk) fun _=>?_
  exact VS hfn hv fun _ _ h=>h
 ·rintro e w' ⟨u,β1,rfl,ho⟩
  obtain ⟨β',he⟩:=cF (conds:=g.conds) (path:=y.s.path) hg ho RS c4 hle hov hob fun b h1 h2=>hf b h1 (by show b<fr+(y.s.fr-fr);omega)
  exact ⟨u,β',rfl,he⟩
end
end Go.Proofs.YtojnabmgolpodaaGreat.Ex
namespace Go.Proofs.YtojnabmgolpodaaGreat.Ex
open Go.RowKit (Below)
section
variable {P:Program} {f:FuncId} {fn:Func} {R:Ending→World→Prop} {a:Act} {w:World}
theorem Safe.leaves (hfn:P.funcs[f]? = some fn) {todo:List Item} (ht:Iw todo=true) (h:Leaves P fn a.tmps R a.defers .returning w):Safe P f R todo a w:=by
 intro b cs hb hk
 have key:∀ td,∃ e w' fr',R e w'∧Comes P (lone { b.at a td with mode:=.returning } cs w) (lone fr' cs w') e∧fr'.fn=f∧fr'.leaving P w' e:=by
  intro td
  obtain ⟨e,w',fr',q1,q2,q3,q4⟩:=leaves_steps a.defers .returning w { b.at a td with mode:=.returning } cs rfl rfl rfl (by show P.funcs[b.fn]? = some fn;rw [hb];exact hfn) hk h
  exact ⟨e,w',fr',q1,q2,q3.trans hb,q4⟩
 unfold Iw at ht
 split at ht
 ·obtain ⟨e,w',fr',q1,q2,q3,q4⟩:=key []
  exact ⟨e,w',fr',q1,.of_steps (.one step_end) q2,q3,q4⟩
 ·rename_i k
  obtain ⟨e,w',fr',q1,q2,q3,q4⟩:=key (.code .ret::k)
  exact ⟨e,w',fr',q1,.of_steps (.one step_ret) q2,q3,q4⟩
 ·cases ht
theorem Safe.of_wpP (hfn:P.funcs[f]? = some fn) {c:Code} {k:List Item} (h:c.wp P (fun e a' w'=>(e=.normal∧Safe P f R k a' w')∨∃ chain,e=.panic chain∧Leaves P fn a'.tmps R a'.defers (.panicking chain) w') a w):Safe P f R (.code c::k) a w:=by
 intro b cs hb hk
 obtain ⟨e,a',w',hq,harr⟩:=h b k cs
 rcases hq with ⟨he,hs⟩ | ⟨chain,he,hl⟩
 ·subst he
  obtain ⟨e,w'',fr,h1,h2,h3,h4⟩:=hs b cs hb hk
  exact ⟨e,w'',fr,h1,.of_steps harr h2,h3,h4⟩
 ·subst he
  obtain ⟨todo,hs⟩:=harr
  obtain ⟨e,w'',fr',q1,q2,q3,q4⟩:=leaves_steps a'.defers (.panicking chain) w' { b.at a' todo with mode:=.panicking chain } cs rfl rfl rfl (by show P.funcs[b.fn]? = some fn;rw [hb];exact hfn) hk hl
  exact ⟨e,w'',fr',q1,.of_steps hs q2,q3.trans hb,q4⟩
end
def L5 (P:Program) (O:Orc):Nat→ASt→Option (Log×ASt)
 | 0,x=>some (⟨[],[]⟩,x)
 | n+1,x=>match J9 P O x with
  | some (g,y)=>match L5 P O n y with
   | some (g',z)=>some (⟨g.conds++g'.conds,cat g.keys g'.keys⟩,z)
   | none=>none
  | none=>none
section
variable {P:Program} {O:Orc} (hO:OrcOk P O) (hm:P.follows .mixedOrders=true) {f:FuncId} {β0:Env} {w0:World} {R:Ending→World→Prop} {n:Fz}
include hO hm
theorem Vp:∀ {m:Nat} {W:List Nat} {x y:ASt} {g:Log},L5 P O m x=some (g,y)→AN g.conds→Bo n x.s→(Bo n y.s→ASafe P f β0 w0 R n (W++g.keys) y)→ASafe P f β0 w0 R n W x
 | 0,W,x,y,g,h,hc,hwf,hs=>by
  simp only [L5] at h
  injection h with h;injection h with h1 h2;subst h1;subst h2
  have:=hs hwf
  simpa using this
 | m+1,W,x,y,g,h,hc,hwf,hs=>by
  simp only [L5] at h
  split at h
  ·rename_i g1 y1 hst
   split at h
   ·rename_i g2 z hr
    injection h with h;injection h with h1 h2;subst h1;subst h2
    obtain ⟨c1,c2⟩:=Bc.1 hc
    refine Q2 hO hm hst c1 hwf (Vp hr c2 (Q3 hst hwf) fun hw=>?_)
    have:=hs hw
    simpa [B8] using this
   ·cases h
  ·cases h
end
def GT (P:Program) (O:Orc) (m k0:Nat) (x:ASt):Option (List (Bool×Bool)×List Nat×ASt) :=
 match L5 P O m x with
 | some (g,y)=>some (g.conds,CS k0 g.keys,y)
 | none=>none
theorem Nz {P:Program} {O:Orc} {f:FuncId} {β0:Env} {w0:World} {R:Ending→World→Prop} {n:Fz} {W:List Nat} (hO:OrcOk P O) (hm:P.follows .mixedOrders=true) {m k0:Nat} {x y:ASt} {conds:List (Bool×Bool)} {ks:List Nat}
  (h:GT P O m k0 x=some (conds,ks,y)) (hc:AN conds) (hwf:Bo n x.s) (h0:∀ b,k0≤b→β0 b=none) (hks:∀ k∈ks,k∈W) (hs:Bo n y.s→ASafe P f β0 w0 R n W y):ASafe P f β0 w0 R n W x:=by
 unfold GT at h
 split at h
 case h_2=>cases h
 rename_i g y1 hrun
 injection h with h;injection h with h1 h;injection h with h2 h3
 subst h1;subst h3
 refine Vp hO hm hrun hc hwf fun hw=>ASafe.old h0 (fun k hk hlt=>?_) (hs hw)
 rcases List.mem_append.1 hk with hk | hk
 ·exact hk
 ·exact hks k (by rw [← h2];exact RB hk hlt)
section
variable {P:Program} {O:Orc} (hO:OrcOk P O) {ops:Array Oper} {β0:Env} {w0:World} {W:List Nat} {n:Fz}
include hO
theorem RT {Q:Exit→Act→World→Prop} {tl:List Nat}:∀ (pre:List Oper) (i:Nat) (s s':St) (recs:List Rec) (β:Env) (a:Act) (w:World),(∀ j o,pre[j]? = some o→ops[i+j]? = some o)→Cc P O ops pre i s=some (recs,s')→AN (GK recs) →
  Inv β0 w0 W n β (Aj s.T) s.H a w→(∀ b,s.fr≤b→β b=none)→(∀ b,s.fr≤b→AF s.H b=none)→s.T.length=n.n→(∀ k∈Dx recs,k∈W) →
  (∀ β a w,Inv β0 w0 W n β (Aj s'.T) s'.H a w→(∀ b,s'.fr≤b→β b=none)→wpOps P ops Q tl a w)→wpOps P ops Q (List.range' i pre.length++tl) a w
 | [],i,s,s',recs,β,a,w,_,h,_,hi,hf,_,_,_,hQ=>by
  simp only [Cc,Option.some.injEq,Prod.mk.injEq] at h
  obtain ⟨rfl,rfl⟩:=h
  exact hQ β a w hi hf
 | o::rest,i,s,s',recs,β,a,w,hpre,h,hc,hi,hf,hfH,hn,hW,hQ=>by
  simp only [Cc] at h
  split at h
  ·rename_i e he
   split at h
   ·rename_i hd
    split at h
    ·rename_i recs' s'' hr
     injection h with h;injection h with h1 h2;subst h1;subst h2
     obtain ⟨c1,c2⟩:=Bc.1 hc
     have ho:ops[i]? = some o:=hpre 0 o rfl
     have hu:=Lk he (fun b h1 _=>hfH b h1)
     rw [List.length_cons,List.range'_succ,List.cons_append,wpOps_cons]
     refine Qp hO hi.tmp hi.good he c1 (fun b h1 _=>hf b h1) (fun b h1 _=>hfH b h1) ho fun u w' β' hE hG=>?_
     have hi':=hi.step hE hG (fun k y hk=>hW k (by simp only [Dx,B8,List.mem_append];exact .inl (Ir.2 ⟨y,hk⟩))) (d:=o.dst) (fun t ht=>by
      rw [ht] at hd
      have:=Lj hd
      omega)
     refine RT rest (i+1) _ _ recs' β' _ w' (fun j o' hj=>by rw [show i+1+j=i+(j+1) by omega];exact hpre (j+1) o' hj) hr c2 (hi'.congr (fun t=>(Qq hd t).symm) (fun _=>rfl)) ?_ (Nh hu hfH) (by rw [← hn];exact Ng) (fun k hk=>hW k (by simp only [Dx,B8,List.mem_append];exact .inr hk)) hQ
     intro b hb
     cases hβ:β' b with
     | none=>rfl
     | some X =>
      simp only at hb
      rcases hE.new b X hβ with h | ⟨_,h,_⟩
      ·rw [hf b (by omega)] at h;cases h
      ·omega
    ·cases h
   ·cases h
  ·cases h
end
def cG (P:Program) (f:FuncId) (args0:List AV) (H0:Heap) (k0:Nat) (c:List PanicEntry):Prop :=
 ∀ (β:Env) (us:List Value) (w:World),Ar β args0 us→Good β H0 w→(∀ b,k0≤b→β b=none)→Calls P f ⟨us⟩ w fun e w'=>e=.panicked c∧Below w.heap.size w w'
theorem cH {P:Program} {ops:Array Oper} {Q:Exit→Act→World→Prop} {i:Nat} {tl:List Nat} {a:Act} {w:World} {o:Oper} {c:Call} {g:FuncId} {fn:Func} {chain:List PanicEntry} (ho:ops[i]? = some o) (hop:o.op=.call c) (hg:o.guard=none) (hcal:c.callee=.value (.func g))
  (hfn:P.funcs[g]? = some fn) (hb:fn.body.isSome=true) (hname:(fn.name=="runtime.NumGoroutine")=false) (h:Calls P g (c.args.map a.eval) w fun e w'=>e=.panicked chain∧Q (.panic chain) a w'):wpOps P ops Q (i::tl) a w:=by
 simp only [wpOps,ho]
 have hw:Region.wanted o (yielded ops a.tmps)=true:=by unfold Region.wanted;rw [hg]
 rw [if_pos hw]
 refine .inl ?_
 have h1:fn.name≠"runtime.NumGoroutine":=by simpa using hname
 have h2:¬ fn.body=none:=by cases hq:fn.body<;>simp [hq] at hb ⊢
 have e:(execOp a.eval o).run P w=.ok (.enter g (c.args.map a.eval)) w:=by
  simp [execOp,hop,resolve,hcal,Deferred.ofValue,invoke,callFunc,hfn,h1,h2,Act.eval]
 unfold Oper.wp
 rw [e,Oper.upon_enter]
 refine h.mono ?_
 rintro e w' ⟨rfl,hq⟩
 exact hq
theorem cI {P:Program} {ops:Array Oper} {Q:Exit→Act→World→Prop} {i:Nat} {a:Act} {w:World} {o:Oper} {c:Call} {t:Tmp} {F:FuncId} {ps:Array Value} (ho:ops[i]? = some o) (hop:o.op=.defer c) (hg:o.guard=none) (hd:o.dst=none)
  (hcal:c.callee=.value (.tmp t)) (hargs:c.args=#[]) (ht:a.tmps.getD t undef=.func (.func F) #[] ps) (h:Q .normal { a with defers:={ target:=.fn (.func F) ps,args:=#[] }::a.defers } w):wpOps P ops Q [i] a w:=by
 simp only [wpOps,ho]
 have hw:Region.wanted o (yielded ops a.tmps)=true:=by unfold Region.wanted;rw [hg]
 rw [if_pos hw]
 refine .inl ?_
 have e:(execOp a.eval o).run P w=.ok (.defer { target:=.fn (.func F) ps,args:=#[] }) w:=by
  simp [execOp,hop,resolve,hcal,hargs,Deferred.ofValue,Act.eval,ht]
 unfold Oper.wp
 rw [e,Oper.upon_defer,hd]
 exact h
theorem cJ {P:Program} {ops:Array Oper} {Q:Exit→Act→World→Prop} {a:Act} {w:World} {o0 o1:Oper} {t:Tmp} {T:TypeId} {v:Value} {k:IntKind} (h0:ops[0]? = some o0) (h1:ops[1]? = some o1) (hop0:o0.op=.makeInterface T (.const v)) (hg0:o0.guard=none)
  (hd0:o0.dst=some t) (hop1:o1.op=.panic (.tmp t)) (hg1:o1.guard=none) (hu:P.underlying T=some (.int k)) (ht:t<a.tmps.size) (h:∀ a',a'.defers=a.defers→Q (.panic [{ v:=.iface T v,recovered:=false }]) a' w):wpOps P ops Q [0,1] a w:=by
 have w0:Region.wanted o0 (yielded ops a.tmps)=true:=by unfold Region.wanted;rw [hg0]
 have w1:Region.wanted o1 (yielded ops (a.put o0.dst (.iface T v)).tmps)=true:=by unfold Region.wanted;rw [hg1]
 have e0:(execOp a.eval o0).run P w=.ok (.value (.iface T v)) w:=by
  simp [execOp,hop0,Instr.makeInterface,run_underlying hu,Act.eval]
 have e1:(execOp (a.put o0.dst (.iface T v)).eval o1).run P w=.halt (.panic (.iface T v)) w:=by
  simp [execOp,hop1,hd0,Act.put,Act.eval,Array.getD_eq_getD_getElem?,ht,Instr.panic,goPanic]
 simp only [wpOps,h0,h1]
 rw [if_pos w0]
 refine .inl ?_
 show o0.upon P a _ Q ((execOp a.eval o0).run P w)
 rw [e0,Oper.upon_value,if_pos w1]
 refine .inl ?_
 show o1.upon P (a.put o0.dst (.iface T v)) _ Q ((execOp (a.put o0.dst (.iface T v)).eval o1).run P w)
 rw [e1,Oper.upon_panic]
 exact h _ (by rw [hd0];rfl)
def Dm:List Item→Array Oper
 | .code (.region _ ops _)::_=>ops
 | _=>#[]
def L6:List Item→Nat
 | .code (.region id _ _)::_=>id
 | _=>0
def KJ:List Item→List Item
 | _::k=>k
 | []=>[]
theorem Inv.root {β0 β:Env} {w0 w:World} {W:List Nat} {n:Fz} {τ:Nat→AV} {H:Heap} {a:Act} (i:Inv β0 w0 W n β τ H a w):Inv β w [] n β τ H a w where
 tmp:=i.tmp
 good:=i.good
 sz:=i.sz
 dfr:=i.dfr
 new:=fun _ _ h=>.inl h
 ext:=Env.le_refl β
 frame:=fun _ _ _=>rfl
 size:=Nat.le_refl _
 os:=rfl
 tape:=rfl
 output:=rfl
theorem Inv.push {β0 β:Env} {w0 w:World} {W:List Nat} {k:Nat} {τ:Nat→AV} {H:Heap} {a:Act} {d:Deferred} (i:Inv β0 w0 W ⟨k,[]⟩ β τ H a w):Inv β0 w0 W ⟨k,[d]⟩ β τ H { a with defers:=d::a.defers } w :=
 { i with sz:=i.sz,dfr:=by rw [i.dfr] }
theorem cK {β:Env} {a b:Nat} {ps:List Value} (h:DO β [(a,0),(b,0)] ps):∃ A m B n,β a=some (.at_ A m)∧β b=some (.at_ B n)∧ps=[.pointer (some ⟨A,m.2+0,none⟩),.pointer (some ⟨B,n.2+0,none⟩)]:=by
 obtain ⟨A,m,l,h1,⟨B,n,l',h2,h3,h4⟩,h5⟩:=h
 simp only [DO] at h3
 subst h3;subst h4;subst h5
 exact ⟨A,m,B,n,h1,h2,rfl⟩
theorem cL {P:Program} {O:Orc} {f:FuncId} {fn:Func} {β0:Env} {w0:World} {R:Ending→World→Prop} {n:Fz} {W:List Nat} (hO:OrcOk P O) (hm:P.follows .mixedOrders=true) (hfn:P.funcs[f]? = some fn) {fuel k0:Nat} {ks ks':List Nat} {x:ASt} {conds:List (Bool×Bool)} {v:AV} {H1:Heap}
  (h:AP P O fn fuel k0 ks x=some (conds,ks',v,H1)) (hc:AN conds) (hwf:Bo n x.s) (h0:∀ b,k0≤b→β0 b=none) (hks:∀ k∈ks',k∈W) {F:FuncId} {fnF:Func} {p q:Value} (hD:n.D=[{ target:=.fn (.func F) #[p,q],args:=#[] }])
  (hF:P.funcs[F]? = some fnF) (hb:fnF.body.isSome=true) (hname:(fnF.name=="runtime.NumGoroutine")=false) (idle:∀ w,CallsD P F #[p,q] .returning w fun e u' w'=>e=.returned (.tuple #[])∧u'=.returning∧w'=w)
  (hR:∀ e w',BS β0 w0 W v H1 e w'→R e w'):ASafe P f β0 w0 R n W x:=by
 unfold AP at h
 split at h
 case h_2=>cases h
 rename_i g y hrun
 split at h
 case h_2=>cases h
 rename_i v' hv
 injection h with h;injection h with h1 h;injection h with h2 h;injection h with h3 h4
 subst h1;subst h3;subst h4
 refine Ai (W:=W) hO hm (fuel:=fuel) (k0:=k0) (fg:=none) (stop:=none) (ks:=ks') (y:=y) (by unfold Aa;rw [hrun];simp only;rw [h2]) hc hwf h0 hks fun _=>?_
 intro β a w hi hf
 unfold I0 at hv
 split at hv
 case h_2=>cases hv
 rename_i l e1 e2
 injection hv with hv;subst hv
 obtain ⟨u,hu,hr⟩:=VG hi.tmp hi.good e2
 have q1:fnF.name≠"runtime.NumGoroutine":=by simpa using hname
 have q2:¬ fnF.body=none:=by cases hq:fnF.body<;>simp [hq] at hb ⊢
 refine Safe.leaves hfn e1 ?_
 rw [hi.dfr,hD]
 refine leaves_cons (f:=F) (args:=#[p,q]) (by simp) (by simp [invoke,callFunc,hF,q1,q2]) ?_
 refine (idle w).mono ?_
 rintro e u' w' ⟨rfl,rfl,rfl⟩
 exact ⟨u,hu,hR _ _ ⟨u,β,rfl,hr,hi.good.restrict ks,hi.new,hi.ext,hi.frame,hi.size,hi.os,hi.tape,hi.output⟩⟩
end Go.Proofs.YtojnabmgolpodaaGreat.Ex
namespace Go.Proofs.YtojnabmgolpodaaGreat
open Ex
theorem AE:Tryz.prog.follows .mixedOrders=true:=by kernel_rfl
def S0:List (FuncId×ASpec):=[(133,subSpec),(128,addSpec)]
def K0:List (TypeId×List (Option IntKind)):=[(30,List.replicate 6 (some .u64)),(32,List.replicate 12 (some .u64)++[none])]
set_option maxRecDepth 100000
set_option maxHeartbeats 4000000
theorem AQ:GO Tryz.prog K0:=⟨⟨by kernel_rfl,by kernel_rfl,by kernel_rfl⟩,⟨by kernel_rfl,by kernel_rfl,by kernel_rfl⟩,trivial⟩
theorem Hg:AS Tryz.prog S0:=⟨bW Tryz.func133 (by kernel_rfl) (by kernel_rfl) (by kernel_rfl) (by kernel_rfl),bU Tryz.func128 (by kernel_rfl) (by kernel_rfl) (by kernel_rfl) (by kernel_rfl),trivial⟩
theorem N0 {β:Env} {A:AV} {u:Value} {c:Bool} {k:IntKind} {i:Int} (h:BH (some A)=some (c,k,i)) (hr:AH β A u):AH β (.val false [.v (.int k i)]) u∧has k i:=by
 obtain ⟨rfl,h2⟩:=Bd (β:=β) (u:=u) (fun B hB=>by injection hB with hB;subst hB;exact hr) h
 exact ⟨Ab ⟨rfl,rfl,h2⟩,h2⟩
theorem KK {β:Env} {k x:Nat} (h:x<2^(64*k)):AG β [.num k x] (words k x):=⟨_,[],⟨h,rfl⟩,rfl,by simp⟩
theorem KL {β:Env} {k x:Nat} {a:List Ch} {u:Value} (h:Bm k a=some x) (hr:AH β (.val true a) u) :
  AH β (.val true [.num k x]) u∧AH β (.val true (GA k x)) u∧x<2^(64*k):=by
 obtain ⟨l,h1,rfl⟩:=hr
 obtain ⟨h2,h3⟩:=Dk h h1
 subst h2
 exact ⟨⟨_,KK h3,rfl⟩,⟨_,Zl k x,rfl⟩,h3⟩
theorem cM {β:Env} {k x:Nat} {u:Value} (hx:x<2^(64*k)) (hr:AH β (.val true (GA k x)) u):AH β (.val true [.num k x]) u:=by
 obtain ⟨l,h1,rfl⟩:=hr
 have:l=words k x:=by
  have gen:∀ (is:List Nat) (l:List Value),AG β (is.map fun i=>Ch.v (.int .u64 (AB x i))) l→l=is.map fun i=>Value.int .u64 (AB x i):=by
   intro is
   induction is with
   | nil=>intro l h;exact h
   | cons i is ih =>
    intro l ⟨l1,l2,q1,q2,q3⟩
    rw [q3,q1.1,ih l2 q2];rfl
  exact gen _ _ h1
 subst this
 exact ⟨_,KK hx,rfl⟩
def FX (x y:Int):Int:=x*y / 18446744073709551616
def DT (x y:Int):Int:=x*y % 18446744073709551616
def I6 (x:Int):Int:=bits .and .u64 x 4294967295
def EJ (x:Int):Int:=Int.fdiv x (2^32)
def mW (x:Int):Int:=IntKind.u64.wrap x
def N1 (x y:Int):Int:=mW (I6 x*I6 y)
def mt (x y:Int):Int:=mW (mW (EJ x*I6 y)+EJ (N1 x y))
def L7 (x y:Int):Int:=mW (I6 (mt x y)+mW (I6 x*EJ y))
theorem cN (x y:Int):AR Tryz.prog (AI S0 K0) Tryz.f138 [.val false [.v (.int .u64 x)],.val false [.v (.int .u64 y)]] [] 300 =
 some ([(decide (0≤(32:Int)∧0≤x),true),(decide (0≤(32:Int)∧0≤y),true),(decide (0≤(32:Int)∧0≤N1 x y),true),(decide (0≤(32:Int)∧0≤mt x y),true),(decide (0≤(32:Int)∧0≤L7 x y),true)],
  .tup [(false,[.v (.int .u64 (mW (mW (mW (EJ x*EJ y)+EJ (mt x y))+EJ (L7 x y))))]),(false,[.v (.int .u64 (mW (x*y)))])]):=by kernel_rfl
theorem L8 {x:Int} (h0:0≤x) (h1:x<18446744073709551616):I6 x=x % 4294967296:=by
 obtain ⟨X,rfl⟩:=Int.eq_ofNat_of_zero_le h0
 have h:=(bits_nat .u64 64 (by decide) (fun n h0 h1=>by rw [IntKind.wrap_u64];omega) X 4294967295 (by omega) (by decide)).1
 show bits .and .u64 (X:Int) ((4294967295:Nat):Int)=_
 rw [h]
 have e4:(4294967295:Nat)=2^32-1:=by decide
 rw [e4,Nat.and_two_pow_sub_one_eq_mod]
 omega
theorem cO (x:Int):EJ x=x / 4294967296:=by
 unfold EJ
 rw [Int.fdiv_eq_ediv_of_nonneg _ (by decide)]
 rfl
theorem Co (x:Int):mW x=x % 18446744073709551616:=IntKind.wrap_u64 x
theorem cS {x y:Int} (hx:0≤x∧x<18446744073709551616) (hy:0≤y∧y<18446744073709551616) :
  mW (mW (mW (EJ x*EJ y)+EJ (mt x y))+EJ (L7 x y))=FX x y∧mW (x*y)=DT x y∧0≤N1 x y∧0≤mt x y∧0≤L7 x y:=by
 have n0:∀ z,0≤mW z:=fun z=>by rw [Co];omega
 refine ⟨?_,Co _,n0 _,n0 _,n0 _⟩
 have hw:∀ z,0≤mW z∧mW z<18446744073709551616:=fun z=>by rw [Co];omega
 have lt:=L8 (show 0≤mt x y from (hw _).1) (show mt x y<_ from (hw _).2)
 unfold FX L7
 rw [lt,L8 hx.1 hx.2]
 clear lt
 unfold mt N1
 rw [L8 hx.1 hx.2,L8 hy.1 hy.2]
 simp only [cO,Co]
 obtain ⟨a,ha⟩:∃ a,a=x / 4294967296:=⟨_,rfl⟩
 obtain ⟨b,hb⟩:∃ b,b=x % 4294967296:=⟨_,rfl⟩
 obtain ⟨c,hc⟩:∃ c,c=y / 4294967296:=⟨_,rfl⟩
 obtain ⟨d,hd⟩:∃ d,d=y % 4294967296:=⟨_,rfl⟩
 have a1:0≤a∧a≤4294967295:=by omega
 have b1:0≤b∧b≤4294967295:=by omega
 have c1:0≤c∧c≤4294967295:=by omega
 have d1:0≤d∧d≤4294967295:=by omega
 rw [← ha,← hb,← hc,← hd]
 have exy:x*y=(a*c)*18446744073709551616+(a*d+b*c)*4294967296+b*d:=by
  have e1:x=a*4294967296+b:=by omega
  have e2:y=c*4294967296+d:=by omega
  rw [e1,e2]
  simp only [Int.add_mul,Int.mul_add]
  have q1:a*4294967296*(c*4294967296)=a*c*18446744073709551616:=by
   rw [Int.mul_assoc,Int.mul_left_comm 4294967296 c,← Int.mul_assoc];omega
  have q2:a*4294967296*d=a*d*4294967296:=Int.mul_right_comm _ _ _
  have q3:b*(c*4294967296)=b*c*4294967296:=(Int.mul_assoc _ _ _).symm
  omega
 rw [exy]
 have pb:∀ {u v:Int},0≤u∧u≤4294967295→0≤v∧v≤4294967295→0≤u*v∧u*v≤18446744065119617025:=by
  intro u v hu hv
  refine ⟨Int.mul_nonneg hu.1 hv.1,?_⟩
  have:=Int.mul_le_mul hu.2 hv.2 hv.1 (by omega)
  omega
 have p1:=pb a1 c1
 have p2:=pb a1 d1
 have p3:=pb b1 c1
 have p4:=pb b1 d1
 generalize a*c=AC at *
 generalize a*d=AD at *
 generalize b*c=BC at *
 generalize b*d=BD at *
 clear ha hb hc hd exy a1 b1 c1 d1 pb hx hy n0 hw
 omega
def RU:List AV→Option AV
 | [A,B]=>match BH (some A),BH (some B) with
  | some (_,.u64,x),some (_,.u64,y)=>some (.tup [(false,[.v (.int .u64 (FX x y))]),(false,[.v (.int .u64 (DT x y))])])
  | _,_=>none
 | _=>none
theorem cT:∀ args v,RU args=some v→AU Tryz.prog 138 args v:=by
 intro args v h us w ha
 unfold RU at h
 split at h
 case h_2=>cases h
 rename_i A B
 split at h
 case h_2=>cases h
 rename_i c1 x c2 y hx hy
 injection h with h;subst h
 obtain ⟨u1,us1,r1,ha,rfl⟩:=ha
 obtain ⟨u2,us2,r2,ha,rfl⟩:=ha
 simp only [Ar] at ha
 subst ha
 obtain ⟨q1,h1⟩:=N0 hx r1
 obtain ⟨q2,h2⟩:=N0 hy r2
 have b1:=B9 h1
 have b2:=B9 h2
 obtain ⟨m1,m2,m3,m4,m5⟩:=cS b1 b2
 have:=AW (AM Hg AQ) AE Tryz.func138 (cN x y) (by simp [AN,b1.1,b2.1,m3,m4,m5]) rfl _ w ⟨u1,_,q1,⟨u2,_,q2,rfl,rfl⟩,rfl⟩
 rw [m1,m2] at this
 exact this
def Pw:List Ch:=[.n .u64 0xb9feffffffffaaab,.n .u64 0x1eabfffeb153ffff,.n .u64 0x6730d2a0f6b0f624,.n .u64 0x64774b84f38512bf,.n .u64 0x4b1ba7b6434bacd7,.n .u64 0x1a0111ea397fe69a]
theorem cU:AR Tryz.prog (AI S0 K0) Tryz.f132 [] [] 100=some ([],.val true Pw):=by kernel_rfl
theorem cV:AU Tryz.prog 132 [] (.val true Pw):=AW (AM Hg AQ) AE Tryz.func132 cU trivial rfl
def Vq:List AV→Option AV | []=>some (.val true Pw) | _=>none
def S1:List (FuncId×ASpec):=(132,Am Vq)::(138,Am RU)::S0
theorem RV:AS Tryz.prog S1:=⟨Ap Tryz.func132 (by kernel_rfl) (by kernel_rfl) (fun args v h=>by
 unfold Vq at h
 split at h
 ·injection h with h;subst h;exact cV
 ·cases h),Ap Tryz.func138 (by kernel_rfl) (by kernel_rfl) cT,Hg⟩
end Go.Proofs.YtojnabmgolpodaaGreat
namespace Go.Proofs.YtojnabmgolpodaaGreat
open Ex
set_option maxRecDepth 100000
set_option maxHeartbeats 4000000
def pN:Nat:=0x1a0111ea397fe69a4b1ba7b6434bacd764774b84f38512bf6730d2a0f6b0f6241eabfffeb153ffffb9feffffffffaaab
def RR:Nat:=39402006196394479212279040100143613805079739270465446667948293404245721771497210611414266254884915640806627990306816
theorem CT:RR=2^(64*6):=by kernel_rfl
theorem cW:2^(64*6)=2^64*(2^64*(2^64*(2^64*(2^64*2^64)))):=by kernel_rfl
theorem Hh (x:Nat):(x:Int)=AB x 0+18446744073709551616*((x / 2^64:Nat):Int):=by
 simp only [AB,Nat.mul_zero,Nat.pow_zero,Nat.div_one];omega
theorem Aw (x i:Nat):0≤AB x i∧AB x i<18446744073709551616:=B9 (NE x i)
theorem Vr {x:Nat} (h:x<18446744073709551616):AB x 0=x:=by
 simp only [AB,Nat.mul_zero,Nat.pow_zero,Nat.div_one];omega
def DH (a0 a1 a2 a3 a4 a5:Int):Int:=a0+18446744073709551616*(a1+18446744073709551616*(a2+18446744073709551616*(a3+18446744073709551616*(a4+18446744073709551616*a5))))
theorem I7 {x:Nat} (h:x<2^(64*6)):(x:Int)=DH (AB x 0) (AB x 1) (AB x 2) (AB x 3) (AB x 4) (AB x 5):=by
 rw [cW] at h
 have s0:=Hh x
 have s1:=Hh (x / 2^64)
 have s2:=Hh (x / 2^64 / 2^64)
 have s3:=Hh (x / 2^64 / 2^64 / 2^64)
 have s4:=Hh (x / 2^64 / 2^64 / 2^64 / 2^64)
 have s5:AB (x / 2^64 / 2^64 / 2^64 / 2^64 / 2^64) 0=((x / 2^64 / 2^64 / 2^64 / 2^64 / 2^64:Nat):Int):=by
  apply Vr
  have l1:=Nat.div_lt_of_lt_mul h
  have l2:=Nat.div_lt_of_lt_mul l1
  have l3:=Nat.div_lt_of_lt_mul l2
  have l4:=Nat.div_lt_of_lt_mul l3
  exact Nat.div_lt_of_lt_mul l4
 simp only [DH,Ca]
 rw [s5]
 rw [← s4,← s3,← s2,← s1,← s0]
theorem cX {y:Nat} {d0 d1 d2 d3 d4 d5:Int} (b0:0≤d0∧d0<18446744073709551616) (b1:0≤d1∧d1<18446744073709551616) (b2:0≤d2∧d2<18446744073709551616) (b3:0≤d3∧d3<18446744073709551616) (b4:0≤d4∧d4<18446744073709551616) (b5:0≤d5∧d5<18446744073709551616)
  (h:(y:Int)=DH d0 d1 d2 d3 d4 d5):d0=AB y 0∧d1=AB y 1∧d2=AB y 2∧d3=AB y 3∧d4=AB y 4∧d5=AB y 5∧y<2^(64*6):=by
 unfold DH at h
 have step:∀ (z:Nat) (d K:Int),0≤d∧d<18446744073709551616→(z:Int)=d+18446744073709551616*K→d=AB z 0∧((z / 2^64:Nat):Int)=K:=by
  intro z d K hd hz
  have:=Hh z
  have hb:=Aw z 0
  omega
 obtain ⟨e0,k0⟩:=step y d0 _ b0 h
 obtain ⟨e1,k1⟩:=step _ d1 _ b1 k0
 obtain ⟨e2,k2⟩:=step _ d2 _ b2 k1
 obtain ⟨e3,k3⟩:=step _ d3 _ b3 k2
 obtain ⟨e4,k4⟩:=step _ d4 _ b4 k3
 have e5:d5=AB (y / 2^64 / 2^64 / 2^64 / 2^64 / 2^64) 0:=by rw [Vr (by omega)];exact k4.symm
 refine ⟨e0,by rw [e1,Ca],by rw [e2,Ca,Ca],by rw [e3,Ca,Ca,Ca],by rw [e4,Ca,Ca,Ca,Ca],by rw [e5,Ca,Ca,Ca,Ca,Ca],?_⟩
 rw [← CT]
 unfold RR
 omega
def w6 (a0 a1 a2 a3 a4 a5:Int):List Ch:=[.v (.int .u64 a0),.v (.int .u64 a1),.v (.int .u64 a2),.v (.int .u64 a3),.v (.int .u64 a4),.v (.int .u64 a5)]
theorem Vs (x:Nat):GA 6 x=w6 (AB x 0) (AB x 1) (AB x 2) (AB x 3) (AB x 4) (AB x 5):=rfl
theorem N2 {β:Env} {u:Value} {y:Nat} {d0 d1 d2 d3 d4 d5:Int} (b0:0≤d0∧d0<18446744073709551616) (b1:0≤d1∧d1<18446744073709551616) (b2:0≤d2∧d2<18446744073709551616) (b3:0≤d3∧d3<18446744073709551616) (b4:0≤d4∧d4<18446744073709551616) (b5:0≤d5∧d5<18446744073709551616)
  (h:(y:Int)=DH d0 d1 d2 d3 d4 d5) (hr:AH β (.val true (w6 d0 d1 d2 d3 d4 d5)) u):AH β (.val true [.num 6 y]) u:=by
 obtain ⟨e0,e1,e2,e3,e4,e5,hlt⟩:=cX b0 b1 b2 b3 b4 b5 h
 rw [e0,e1,e2,e3,e4,e5,← Vs] at hr
 exact cM hlt hr
theorem GU {a b c:Int} (ha:0≤a∧a<18446744073709551616) (hb:0≤b∧b<18446744073709551616) (hc:0≤c∧c≤1) :
  B3 a b c=a-b-c+18446744073709551616*EH a b c∧(0≤B3 a b c∧B3 a b c<18446744073709551616)∧(0≤EH a b c∧EH a b c≤1):=by
 unfold B3 EH
 split<;>omega
theorem RW {a b c:Int} (ha:0≤a∧a<18446744073709551616) (hb:0≤b∧b<18446744073709551616) (hc:0≤c∧c≤1) :
  a+b+c=Bf a b c+18446744073709551616*Bt a b c∧(0≤Bf a b c∧Bf a b c<18446744073709551616)∧(0≤Bt a b c∧Bt a b c≤1):=by
 unfold Bf Bt
 omega
theorem Bz {c:Int} (h:0≤c∧c≤1):BJ c=true:=by simp [BJ,h.1,h.2]
def Hi (a0:Int):Int:=EH a0 0xb9feffffffffaaab 0
def Hj (a0 a1:Int):Int:=EH a1 0x1eabfffeb153ffff (Hi a0)
def Hk (a0 a1 a2:Int):Int:=EH a2 0x6730d2a0f6b0f624 (Hj a0 a1)
def Hl (a0 a1 a2 a3:Int):Int:=EH a3 0x64774b84f38512bf (Hk a0 a1 a2)
def Hm (a0 a1 a2 a3 a4:Int):Int:=EH a4 0x4b1ba7b6434bacd7 (Hl a0 a1 a2 a3)
def Ee (a0 a1 a2 a3 a4 a5:Int):Int:=EH a5 0x1a0111ea397fe69a (Hm a0 a1 a2 a3 a4)
def cY (a0 a1 a2 a3 a4 a5:Int):List Ch:=w6 (B3 a0 0xb9feffffffffaaab 0) (B3 a1 0x1eabfffeb153ffff (Hi a0)) (B3 a2 0x6730d2a0f6b0f624 (Hj a0 a1)) (B3 a3 0x64774b84f38512bf (Hk a0 a1 a2)) (B3 a4 0x4b1ba7b6434bacd7 (Hl a0 a1 a2 a3)) (B3 a5 0x1a0111ea397fe69a (Hm a0 a1 a2 a3 a4))
def RX (a0 a1 a2 a3 a4:Int) (r:List (Bool×Bool)):List (Bool×Bool):=(BJ 0,true)::(BJ (Hi a0),true)::(BJ (Hj a0 a1),true)::(BJ (Hk a0 a1 a2),true)::(BJ (Hl a0 a1 a2 a3),true)::(BJ (Hm a0 a1 a2 a3 a4),true)::r
theorem cZ (a0 a1 a2 a3 a4 a5 h:Int):AR Tryz.prog (AI S1 K0) Tryz.f129 [.val true (w6 a0 a1 a2 a3 a4 a5),.val false [.v (.int .u64 h)]] [true] 300 =
 some (RX a0 a1 a2 a3 a4 [(decide (h<Ee a0 a1 a2 a3 a4 a5),true)],.val true (w6 a0 a1 a2 a3 a4 a5)):=by kernel_rfl
theorem c8 (a0 a1 a2 a3 a4 a5 h:Int):AR Tryz.prog (AI S1 K0) Tryz.f129 [.val true (w6 a0 a1 a2 a3 a4 a5),.val false [.v (.int .u64 h)]] [false] 300 =
 some (RX a0 a1 a2 a3 a4 [(decide (h<Ee a0 a1 a2 a3 a4 a5),false)],.val true (cY a0 a1 a2 a3 a4 a5)):=by kernel_rfl
def EK (x h:Nat):Nat:=if x<pN∧h=0 then x else (x+(RR-pN)) % RR
def RY:List AV→Option AV
 | [.val true a,B]=>match Bm 6 a,BH (some B) with
  | some x,some (_,.u64,h)=>some (.val true [.num 6 (EK x h.toNat)])
  | _,_=>none
 | _=>none
theorem c9:∀ args v,RY args=some v→AU Tryz.prog 129 args v:=by
 intro args v h us w ha
 unfold RY at h
 split at h
 case h_2=>cases h
 rename_i a B
 split at h
 case h_2=>cases h
 rename_i x c h0 hx hy
 injection h with h;subst h
 obtain ⟨u1,us1,r1,ha,rfl⟩:=ha
 obtain ⟨u2,us2,r2,ha,rfl⟩:=ha
 simp only [Ar] at ha
 subst ha
 obtain ⟨q0,q1,hlt⟩:=KL hx r1
 obtain ⟨q2,h2⟩:=N0 hy r2
 have bh:=B9 h2
 rw [Vs] at q1
 have hX:=I7 hlt
 have w0:=Aw x 0
 have w1:=Aw x 1
 have w2:=Aw x 2
 have w3:=Aw x 3
 have w4:=Aw x 4
 have w5:=Aw x 5
 generalize AB x 0=a0 at *
 generalize AB x 1=a1 at *
 generalize AB x 2=a2 at *
 generalize AB x 3=a3 at *
 generalize AB x 4=a4 at *
 generalize AB x 5=a5 at *
 obtain ⟨d0,e0,f0⟩:=GU (b:=0xb9feffffffffaaab) (c:=0) w0 (by omega) (by omega)
 obtain ⟨d1,e1,f1⟩:=GU (b:=0x1eabfffeb153ffff) (c:=Hi a0) w1 (by omega) f0
 obtain ⟨d2,e2,f2⟩:=GU (b:=0x6730d2a0f6b0f624) (c:=Hj a0 a1) w2 (by omega) f1
 obtain ⟨d3,e3,f3⟩:=GU (b:=0x64774b84f38512bf) (c:=Hk a0 a1 a2) w3 (by omega) f2
 obtain ⟨d4,e4,f4⟩:=GU (b:=0x4b1ba7b6434bacd7) (c:=Hl a0 a1 a2 a3) w4 (by omega) f3
 obtain ⟨d5,e5,f5⟩:=GU (b:=0x1a0111ea397fe69a) (c:=Hm a0 a1 a2 a3 a4) w5 (by omega) f4
 have hconds:∀ r,AN r→AN (RX a0 a1 a2 a3 a4 r):=fun r hr =>
  ⟨rfl,Bz f0,Bz f1,Bz f2,Bz f3,Bz f4,hr⟩
 change B3 a0 0xb9feffffffffaaab 0=a0-0xb9feffffffffaaab-0+18446744073709551616*Hi a0 at d0
 change B3 a1 0x1eabfffeb153ffff (Hi a0)=a1-0x1eabfffeb153ffff-Hi a0+18446744073709551616*Hj a0 a1 at d1
 change B3 a2 0x6730d2a0f6b0f624 (Hj a0 a1)=a2-0x6730d2a0f6b0f624-Hj a0 a1+18446744073709551616*Hk a0 a1 a2 at d2
 change B3 a3 0x64774b84f38512bf (Hk a0 a1 a2)=a3-0x64774b84f38512bf-Hk a0 a1 a2+18446744073709551616*Hl a0 a1 a2 a3 at d3
 change B3 a4 0x4b1ba7b6434bacd7 (Hl a0 a1 a2 a3)=a4-0x4b1ba7b6434bacd7-Hl a0 a1 a2 a3+18446744073709551616*Hm a0 a1 a2 a3 a4 at d4
 change B3 a5 0x1a0111ea397fe69a (Hm a0 a1 a2 a3 a4)=a5-0x1a0111ea397fe69a-Hm a0 a1 a2 a3 a4+18446744073709551616*Ee a0 a1 a2 a3 a4 a5 at d5
 change 0≤Ee a0 a1 a2 a3 a4 a5∧Ee a0 a1 a2 a3 a4 a5≤1 at f5
 unfold DH at hX
 have hsum:DH (B3 a0 0xb9feffffffffaaab 0) (B3 a1 0x1eabfffeb153ffff (Hi a0)) (B3 a2 0x6730d2a0f6b0f624 (Hj a0 a1)) (B3 a3 0x64774b84f38512bf (Hk a0 a1 a2)) (B3 a4 0x4b1ba7b6434bacd7 (Hl a0 a1 a2 a3)) (B3 a5 0x1a0111ea397fe69a (Hm a0 a1 a2 a3 a4)) =
   (x:Int)-(pN:Nat)+(RR:Nat)*Ee a0 a1 a2 a3 a4 a5:=by
  unfold DH pN RR
  omega
 have hbnd:0≤(x:Int)-(pN:Nat)+(RR:Nat)*Ee a0 a1 a2 a3 a4 a5∧(x:Int)-(pN:Nat)+(RR:Nat)*Ee a0 a1 a2 a3 a4 a5<(RR:Nat):=by
  rw [← hsum];unfold DH RR;omega
 have hltR:x<RR:=by rw [CT];exact hlt
 by_cases hcase:x<pN∧h0.toNat=0
 ·have hb6:h0<Ee a0 a1 a2 a3 a4 a5:=by
   unfold pN RR at hbnd;unfold pN at hcase;omega
  have:=AW (AM RV AQ) AE Tryz.func129 (cZ a0 a1 a2 a3 a4 a5 h0) (hconds _ ⟨by simp [hb6],trivial⟩) rfl _ w ⟨u1,_,q1,⟨u2,_,q2,rfl,rfl⟩,rfl⟩
  refine Calls.mono this ?_
  rintro e w' ⟨u,rfl,hu,hbl⟩
  refine ⟨u,rfl,?_,hbl⟩
  unfold EK
  rw [if_pos hcase]
  exact N2 w0 w1 w2 w3 w4 w5 hX hu
 ·have hb6:¬ h0<Ee a0 a1 a2 a3 a4 a5:=by
   unfold pN RR at hbnd;unfold pN at hcase;omega
  have:=AW (AM RV AQ) AE Tryz.func129 (c8 a0 a1 a2 a3 a4 a5 h0) (hconds _ ⟨by simp [hb6],trivial⟩) rfl _ w ⟨u1,_,q1,⟨u2,_,q2,rfl,rfl⟩,rfl⟩
  refine Calls.mono this ?_
  rintro e w' ⟨u,rfl,hu,hbl⟩
  refine ⟨u,rfl,?_,hbl⟩
  unfold EK
  rw [if_neg hcase]
  refine N2 e0 e1 e2 e3 e4 e5 ?_ hu
  rw [hsum]
  have h01:Ee a0 a1 a2 a3 a4 a5=0∨Ee a0 a1 a2 a3 a4 a5=1:=by omega
  unfold pN RR at *
  rcases h01 with h01 | h01<;>rw [h01] at hbnd ⊢<;>omega
def S2:List (FuncId×ASpec):=(129,Am RY)::S1
theorem N3:AS Tryz.prog S2:=⟨Ap Tryz.func129 (by kernel_rfl) (by kernel_rfl) c9,RV⟩
def DI (x:Option (List (Bool×Bool)×List Nat×ASt)):List Item:=match x with | some (_,_,y)=>y.todo | none=>[]
def I8:List Ch:=[.n .u64 0,.n .u64 0,.n .u64 0,.n .u64 0,.n .u64 0,.n .u64 0]
noncomputable def dB:List Item:=DI (Aa Tryz.prog (AI S2 K0) (some 0) 100 0 (some ([1,2],[0,1],2)) (Ak Tryz.f112 [.val true [.num 6 0]] [] 0 []))
noncomputable def KM (x:Nat) (path:List Bool):ASt:=⟨dB,⟨[.any,.val false [.p 0 0],.val false [.p 1 0],.any,.any,.any,.any,.any,.any,.any,.any],
 [(0,some ⟨30,[.num 6 x],false⟩),(1,some ⟨30,I8,false⟩)],2,path⟩⟩
theorem dC (x:Nat):Aa Tryz.prog (AI S2 K0) (some 0) 100 0 (some ([1,2],[0,1],2)) (Ak Tryz.f112 [.val true [.num 6 x]] [] 0 [])=some ([],[],KM x []):=by kernel_rfl
theorem dD (x:Nat):Aa Tryz.prog (AI S2 K0) (some 0) 100 0 (some ([1,2],[0,1],2)) (KM x [false])=some ([(decide (EK x 0=x),false)],[],KM (EK x 0) []):=by kernel_rfl
theorem dF (x:Nat):FU Tryz.prog (AI S2 K0) Tryz.f112 100 0 (KM x [true])=some ([(decide (EK x 0=x),true)],[],.val true [.num 6 x]):=by kernel_rfl
theorem Vt (x:Nat) (p:List Bool):Bo Tryz.f112.ntmps (KM x p).s:=AT (by kernel_rfl)
theorem Vu {x:Nat} (h:x<pN):EK x 0=x:=if_pos ⟨h,rfl⟩
theorem RZ {x:Nat} (h:pN≤x) (hx:x<RR):EK x 0=x-pN:=by
 unfold EK
 rw [if_neg (by omega)]
 have:pN≤RR:=by decide
 rw [show x+(RR-pN)=(x-pN)+RR by omega,Nat.add_mod_right,Nat.mod_eq_of_lt (by omega)]
theorem B_:0<pN:=by decide
theorem dG (w0:World) (v:Nat):∀ (x:Nat),x<RR→x % pN=v→ASafe Tryz.prog 112 BY w0 (L1 w0 (.val true [.num 6 v])) Tryz.f112.ntmps [] (KM x []):=by
 intro x
 induction x using Nat.strongRecOn with
 | _ x ih =>
  intro hx hv
  rcases Nat.lt_or_ge x pN with hlt | hge
  ·rw [Nat.mod_eq_of_lt hlt] at hv
   subst hv
   exact Ah [true] (GR (AM N3 AQ) AE Tryz.func112 (dF x) ⟨by simp [Vu hlt],trivial⟩ (Vt x _) (fun _ _=>rfl) rfl)
  ·have hp:=B_
   refine Ah [false] (Ai (AM N3 AQ) AE (dD x) ⟨by simp [RZ hge hx];omega,trivial⟩ (Vt x _) (fun _ _=>rfl) (fun _ h=>by cases h) fun _=>?_)
   rw [RZ hge hx]
   exact ih (x-pN) (by omega) (by omega) (by rw [← hv,← Nat.mod_eq_sub_mod hge])
def N4:List AV→Option AV
 | [.val true a]=>match Bm 6 a with
  | some x=>some (.val true [.num 6 (x % pN)])
  | none=>none
 | _=>none
theorem Vv:∀ args v,N4 args=some v→AU Tryz.prog 112 args v:=by
 intro args v h us w ha
 unfold N4 at h
 split at h
 case h_2=>cases h
 rename_i a
 split at h
 case h_2=>cases h
 rename_i x hx
 injection h with h;subst h
 obtain ⟨u1,us1,r1,ha,rfl⟩:=ha
 simp only [Ar] at ha
 subst ha
 obtain ⟨q0,q1,hlt⟩:=KL hx r1
 rw [← CT] at hlt
 exact RC (args:=[.val true [.num 6 x]]) (path:=[]) Tryz.func112 (by kernel_rfl) (by kernel_rfl) (fun w0=>Ai (AM N3 AQ) AE (dC x) trivial (AT (by kernel_rfl)) (fun _ _=>rfl) (fun _ h=>by cases h) fun _=>dG w0 _ x hlt rfl) _ w ⟨u1,_,q0,rfl,rfl⟩
def S3:List (FuncId×ASpec):=(112,Am N4)::S2
theorem N5:AS Tryz.prog S3:=⟨Ap Tryz.func112 (by kernel_rfl) (by kernel_rfl) Vv,N3⟩
def Hn (d0 d1 d2 d3 d4 d5:Int):Nat:=d0.toNat+18446744073709551616*(d1.toNat+18446744073709551616*(d2.toNat+18446744073709551616*(d3.toNat+18446744073709551616*(d4.toNat+18446744073709551616*(d5.toNat+18446744073709551616*0)))))
def A0 (x y:Nat):Nat→Int
 | 0=>0
 | i+1=>Bt (AB x i) (AB y i) (A0 x y i)
def A' (x y:Nat):Nat→Int
 | 0=>0
 | i+1=>EH (AB x i) (AB y i) (A' x y i)
def CU (x y i:Nat):Int:=Bf (AB x i) (AB y i) (A0 x y i)
def A2 (x y i:Nat):Int:=B3 (AB x i) (AB y i) (A' x y i)
theorem DU (x y:Nat):∀ i,0≤A0 x y i∧A0 x y i≤1
 | 0=>by simp [A0]
 | i+1=>(RW (Aw x i) (Aw y i) (DU x y i)).2.2
theorem DV (x y:Nat):∀ i,0≤A' x y i∧A' x y i≤1
 | 0=>by simp [A']
 | i+1=>(GU (Aw x i) (Aw y i) (DV x y i)).2.2
theorem KN (x y i:Nat):0≤CU x y i∧CU x y i<18446744073709551616:=(RW (Aw x i) (Aw y i) (DU x y i)).2.1
theorem Cd (x y i:Nat):0≤A2 x y i∧A2 x y i<18446744073709551616:=(GU (Aw x i) (Aw y i) (DV x y i)).2.1
theorem KO (x y i:Nat):AB x i+AB y i+A0 x y i=CU x y i+18446744073709551616*A0 x y (i+1):=(RW (Aw x i) (Aw y i) (DU x y i)).1
theorem I9 (x y i:Nat):A2 x y i=AB x i-AB y i-A' x y i+18446744073709551616*A' x y (i+1):=(GU (Aw x i) (Aw y i) (DV x y i)).1
theorem dH {x y:Nat} (hx:x<RR) (hy:y<RR):DH (CU x y 0) (CU x y 1) (CU x y 2) (CU x y 3) (CU x y 4) (CU x y 5)+(RR:Nat)*A0 x y 6=x+y:=by
 have h1:=I7 (x:=x) (by rw [← CT];exact hx)
 have h2:=I7 (x:=y) (by rw [← CT];exact hy)
 have e0:AB x 0+AB y 0+A0 x y 0=CU x y 0+18446744073709551616*A0 x y 1:=KO x y 0
 have e1:AB x 1+AB y 1+A0 x y 1=CU x y 1+18446744073709551616*A0 x y 2:=KO x y 1
 have e2:AB x 2+AB y 2+A0 x y 2=CU x y 2+18446744073709551616*A0 x y 3:=KO x y 2
 have e3:AB x 3+AB y 3+A0 x y 3=CU x y 3+18446744073709551616*A0 x y 4:=KO x y 3
 have e4:AB x 4+AB y 4+A0 x y 4=CU x y 4+18446744073709551616*A0 x y 5:=KO x y 4
 have e5:AB x 5+AB y 5+A0 x y 5=CU x y 5+18446744073709551616*A0 x y 6:=KO x y 5
 have z:A0 x y 0=0:=rfl
 unfold DH at *
 unfold RR
 omega
theorem dI {x y:Nat} (hx:x<RR) (hy:y<RR):DH (A2 x y 0) (A2 x y 1) (A2 x y 2) (A2 x y 3) (A2 x y 4) (A2 x y 5)=x-y+(RR:Nat)*A' x y 6:=by
 have h1:=I7 (x:=x) (by rw [← CT];exact hx)
 have h2:=I7 (x:=y) (by rw [← CT];exact hy)
 have e0:A2 x y 0=AB x 0-AB y 0-A' x y 0+18446744073709551616*A' x y 1:=I9 x y 0
 have e1:A2 x y 1=AB x 1-AB y 1-A' x y 1+18446744073709551616*A' x y 2:=I9 x y 1
 have e2:A2 x y 2=AB x 2-AB y 2-A' x y 2+18446744073709551616*A' x y 3:=I9 x y 2
 have e3:A2 x y 3=AB x 3-AB y 3-A' x y 3+18446744073709551616*A' x y 4:=I9 x y 3
 have e4:A2 x y 4=AB x 4-AB y 4-A' x y 4+18446744073709551616*A' x y 5:=I9 x y 4
 have e5:A2 x y 5=AB x 5-AB y 5-A' x y 5+18446744073709551616*A' x y 6:=I9 x y 5
 have z:A' x y 0=0:=rfl
 unfold DH at *
 unfold RR
 omega
theorem N6 {d0 d1 d2 d3 d4 d5:Int} (b0:0≤d0∧d0<18446744073709551616) (b1:0≤d1∧d1<18446744073709551616) (b2:0≤d2∧d2<18446744073709551616) (b3:0≤d3∧d3<18446744073709551616) (b4:0≤d4∧d4<18446744073709551616) (b5:0≤d5∧d5<18446744073709551616) :
  (Hn d0 d1 d2 d3 d4 d5:Int)=DH d0 d1 d2 d3 d4 d5∧Hn d0 d1 d2 d3 d4 d5<RR:=by
 unfold Hn DH RR
 omega
def I_ (x y:Nat):Nat:=Hn (CU x y 0) (CU x y 1) (CU x y 2) (CU x y 3) (CU x y 4) (CU x y 5)
def N7 (x y:Nat):Nat:=Hn (A2 x y 0) (A2 x y 1) (A2 x y 2) (A2 x y 3) (A2 x y 4) (A2 x y 5)
theorem Vw {x y:Nat} (hx:x<RR) (hy:y<RR):I_ x y+RR*(A0 x y 6).toNat=x+y∧I_ x y<RR:=by
 obtain ⟨h1,h2⟩:=N6 (KN x y 0) (KN x y 1) (KN x y 2) (KN x y 3) (KN x y 4) (KN x y 5)
 have h3:=dH hx hy
 have h4:=DU x y 6
 unfold I_
 refine ⟨?_,h2⟩
 rw [← h1] at h3
 have h01:A0 x y 6=0∨A0 x y 6=1:=by omega
 unfold RR at *
 rcases h01 with e | e<;>rw [e] at h3 ⊢<;>simp only [Int.toNat_zero,Int.toNat_one]<;>omega
theorem Vx {x y:Nat} (hx:x<RR) (hy:y<RR):N7 x y=(x+(RR-y)) % RR:=by
 obtain ⟨h1,h2⟩:=N6 (Cd x y 0) (Cd x y 1) (Cd x y 2) (Cd x y 3) (Cd x y 4) (Cd x y 5)
 have h3:=dI hx hy
 have h4:=DV x y 6
 unfold N7
 rw [← h1] at h3
 have h01:A' x y 6=0∨A' x y 6=1:=by omega
 unfold RR at *
 rcases h01 with e | e<;>rw [e] at h3<;>omega
theorem dJ {x y:Nat} (hx:x<RR) (hy:y<RR):(((x+(RR-y)) % RR:Nat):Int)=DH (A2 x y 0) (A2 x y 1) (A2 x y 2) (A2 x y 3) (A2 x y 4) (A2 x y 5):=by
 rw [← Vx hx hy]
 exact (N6 (Cd x y 0) (Cd x y 1) (Cd x y 2) (Cd x y 3) (Cd x y 4) (Cd x y 5)).1
theorem FY (x:Nat):x % pN<pN:=Nat.mod_lt _ B_
theorem L9:pN+pN<RR:=by decide
theorem Ri {x:Nat} (h:x<pN+pN):EK x 0=x % pN:=by
 rcases Nat.lt_or_ge x pN with h1 | h1
 ·rw [Vu h1,Nat.mod_eq_of_lt h1]
 ·have:=L9
  rw [RZ h1 (by omega),Nat.mod_eq_sub_mod h1,Nat.mod_eq_of_lt (by omega)]
theorem dK (x y:Nat):AR Tryz.prog (AI S3 K0) Tryz.f75 [.val true [.num 6 x],.val true [.num 6 y]] [] 300 =
 some ([(BJ 0,true),(BJ (A0 (x % pN) (y % pN) 1),true),(BJ (A0 (x % pN) (y % pN) 2),true),(BJ (A0 (x % pN) (y % pN) 3),true),(BJ (A0 (x % pN) (y % pN) 4),true),(BJ (A0 (x % pN) (y % pN) 5),true)],
  .val true [.num 6 (EK (I_ (x % pN) (y % pN)) (A0 (x % pN) (y % pN) 6).toNat)]):=by kernel_rfl
theorem dL (x:Nat):AR Tryz.prog (AI S3 K0) Tryz.f77 [.val true [.num 6 x]] [] 300 =
 some ([(BJ 0,true),(BJ (A' pN (x % pN) 1),true),(BJ (A' pN (x % pN) 2),true),(BJ (A' pN (x % pN) 3),true),(BJ (A' pN (x % pN) 4),true),(BJ (A' pN (x % pN) 5),true)],
  .val true [.num 6 (EK (N7 pN (x % pN)) 0)]):=by kernel_rfl
theorem dM (x y:Nat):AR Tryz.prog (AI S3 K0) Tryz.f185 [.val true [.num 6 x],.val true [.num 6 y]] [] 300 =
 some ([(BJ 0,true),(BJ (A' x y 1),true),(BJ (A' x y 2),true),(BJ (A' x y 3),true),(BJ (A' x y 4),true),(BJ (A' x y 5),true)],
  .val true (w6 (A2 x y 0) (A2 x y 1) (A2 x y 2) (A2 x y 3) (A2 x y 4) (A2 x y 5))):=by kernel_rfl
def B4 (x y:Nat):Nat:=(x % pN+y % pN) % pN
def B5 (x:Nat):Nat:=(pN-x % pN) % pN
def CA (x y:Nat):Nat:=B4 x (B5 y)
def GV (g:Nat→AV):List AV→Option AV
 | [.val true a]=>match Bm 6 a with
  | some x=>some (g x)
  | none=>none
 | _=>none
def I' (g:Nat→Nat→AV):List AV→Option AV
 | [.val true a,.val true b]=>match Bm 6 a,Bm 6 b with
  | some x,some y=>some (g x y)
  | _,_=>none
 | _=>none
theorem JA {f:FuncId} {g:Nat→AV} (h:∀ x,x<RR→AU Tryz.prog f [.val true [.num 6 x]] (g x)):∀ args v,GV g args=some v→AU Tryz.prog f args v:=by
 intro args v hs us w ha
 unfold GV at hs
 split at hs
 case h_2=>cases hs
 rename_i a
 split at hs
 case h_2=>cases hs
 rename_i x hx
 injection hs with hs;subst hs
 obtain ⟨u1,us1,r1,ha,rfl⟩:=ha
 simp only [Ar] at ha
 subst ha
 obtain ⟨q0,q1,hlt⟩:=KL hx r1
 exact h x (by rw [CT];exact hlt) _ w ⟨u1,_,q0,rfl,rfl⟩
theorem L_ {f:FuncId} {g:Nat→Nat→AV} (h:∀ x y,x<RR→y<RR→AU Tryz.prog f [.val true [.num 6 x],.val true [.num 6 y]] (g x y)):∀ args v,I' g args=some v→AU Tryz.prog f args v:=by
 intro args v hs us w ha
 unfold I' at hs
 split at hs
 case h_2=>cases hs
 rename_i a b
 split at hs
 case h_2=>cases hs
 rename_i x y hx hy
 injection hs with hs;subst hs
 obtain ⟨u1,us1,r1,ha,rfl⟩:=ha
 obtain ⟨u2,us2,r2,ha,rfl⟩:=ha
 simp only [Ar] at ha
 subst ha
 obtain ⟨q0,q1,hlt⟩:=KL hx r1
 obtain ⟨p0,p1,hlt2⟩:=KL hy r2
 exact h x y (by rw [CT];exact hlt) (by rw [CT];exact hlt2) _ w ⟨u1,_,q0,⟨u2,_,p0,rfl,rfl⟩,rfl⟩
theorem KP (x:Nat):x % pN<RR:=Nat.lt_trans (FY x) (by decide)
theorem Vy (x y:Nat):AU Tryz.prog 75 [.val true [.num 6 x],.val true [.num 6 y]] (.val true [.num 6 (B4 x y)]):=by
 have h:=AW (AM N5 AQ) AE Tryz.func75 (dK x y) ⟨rfl,Bz (DU _ _ _),Bz (DU _ _ _),Bz (DU _ _ _),Bz (DU _ _ _),Bz (DU _ _ _),trivial⟩ rfl
 obtain ⟨h1,h2⟩:=Vw (KP x) (KP y)
 have h3:=FY x
 have h4:=FY y
 have h5:=L9
 have hc:(A0 (x % pN) (y % pN) 6).toNat=0:=by
  have:=DU (x % pN) (y % pN) 6
  have h01:(A0 (x % pN) (y % pN) 6).toNat=0∨(A0 (x % pN) (y % pN) 6).toNat=1:=by omega
  rcases h01 with e | e
  ·exact e
  ·rw [e] at h1;omega
 rw [hc] at h h1
 rw [Ri (by omega)] at h
 have:I_ (x % pN) (y % pN)=x % pN+y % pN:=by omega
 rw [this] at h
 exact h
theorem Vz (x:Nat):AU Tryz.prog 77 [.val true [.num 6 x]] (.val true [.num 6 (B5 x)]):=by
 have h:=AW (AM N5 AQ) AE Tryz.func77 (dL x) ⟨rfl,Bz (DV _ _ _),Bz (DV _ _ _),Bz (DV _ _ _),Bz (DV _ _ _),Bz (DV _ _ _),trivial⟩ rfl
 have h3:=FY x
 have h5:=L9
 have:N7 pN (x % pN)=pN-x % pN:=by
  rw [Vx (by omega) (by omega),show pN+(RR-x % pN)=(pN-x % pN)+RR by omega,Nat.add_mod_right,Nat.mod_eq_of_lt (by omega)]
 rw [this,Ri (by omega)] at h
 exact h
theorem dN (x y:Nat) (hx:x<RR) (hy:y<RR):AU Tryz.prog 185 [.val true [.num 6 x],.val true [.num 6 y]] (.val true [.num 6 ((x+(RR-y)) % RR)]):=by
 intro us w ha
 have h:=AW (AM N5 AQ) AE Tryz.func185 (dM x y) ⟨rfl,Bz (DV _ _ _),Bz (DV _ _ _),Bz (DV _ _ _),Bz (DV _ _ _),Bz (DV _ _ _),trivial⟩ rfl us w ha
 refine Calls.mono h ?_
 rintro e w' ⟨u,rfl,hu,hbl⟩
 exact ⟨u,rfl,N2 (Cd x y 0) (Cd x y 1) (Cd x y 2) (Cd x y 3) (Cd x y 4) (Cd x y 5) (dJ hx hy) hu,hbl⟩
def Ad (x:Nat):AV:=.val true [.num 6 x]
def S4:List (FuncId×ASpec):=(75,Am (I' fun x y=>Ad (B4 x y)))::(77,Am (GV fun x=>Ad (B5 x)))::(185,Am (I' fun x y=>Ad ((x+(RR-y)) % RR)))::S3
theorem V0:AS Tryz.prog S4:=⟨Ap Tryz.func75 (by kernel_rfl) (by kernel_rfl) (L_ fun x y _ _=>Vy x y),Ap Tryz.func77 (by kernel_rfl) (by kernel_rfl) (JA fun x _=>Vz x),Ap Tryz.func185 (by kernel_rfl) (by kernel_rfl) (L_ dN),N5⟩
theorem dO (x y:Nat):AR Tryz.prog (AI S4 K0) Tryz.f114 [Ad x,Ad y] [] 300=some ([],Ad (CA x y)):=by kernel_rfl
theorem V1 (x y:Nat):AU Tryz.prog 114 [Ad x,Ad y] (Ad (CA x y)):=AW (AM V0 AQ) AE Tryz.func114 (dO x y) trivial rfl
def S5:List (FuncId×ASpec):=(114,Am (I' fun x y=>Ad (CA x y)))::S4
theorem N8:AS Tryz.prog S5:=⟨Ap Tryz.func114 (by kernel_rfl) (by kernel_rfl) (L_ fun x y _ _=>V1 x y),V0⟩
def BA:List Int→Int
 | []=>0
 | d::r=>d+18446744073709551616*BA r
theorem N9:∀ (k x:Nat),x<2^(64*k)→BA ((List.range k).map (AB x))=x
 | 0,x,h=>by simp only [Nat.mul_zero,Nat.pow_zero] at h;simp [BA];omega
 | k+1,x,h=>by
  have hq:x / 2^64<2^(64*k):=by
   apply Nat.div_lt_of_lt_mul
   rw [← Nat.pow_add]
   rwa [show 64+64*k=64*(k+1) by omega]
  have ih:=N9 k (x / 2^64) hq
  rw [List.range_succ_eq_map,List.map_cons,List.map_map]
  have e:(AB x ∘ Nat.succ)=AB (x / 2^64):=by funext i;simp [Function.comp,Ca]
  rw [e]
  show AB x 0+18446744073709551616*BA _=_
  rw [ih,← Hh]
theorem N_:∀ (ds:List Int) (y:Nat),(∀ d∈ds,0≤d∧d<18446744073709551616)→(y:Int)=BA ds→ds=(List.range ds.length).map (AB y)∧y<2^(64*ds.length)
 | [],y,_,h=>by simp only [BA] at h;simp;omega
 | d::ds,y,hb,h=>by
  have hd:=hb d (by simp)
  have hs:=Hh y
  have hw:=Aw y 0
  simp only [BA] at h
  have e1:d=AB y 0:=by omega
  have e2:((y / 2^64:Nat):Int)=BA ds:=by omega
  obtain ⟨i1,i2⟩:=N_ ds _ (fun d h=>hb d (by simp [h])) e2
  refine ⟨?_,?_⟩
  ·rw [List.length_cons,List.range_succ_eq_map,List.map_cons,List.map_map]
   have e:(AB y ∘ Nat.succ)=AB (y / 2^64):=by funext i;simp [Function.comp,Ca]
   rw [e,← i1,← e1]
  ·rw [List.length_cons,show 64*(ds.length+1)=64+64*ds.length by omega,Nat.pow_add]
   have:=Nat.lt_mul_div_succ y (show 0<2^64 by decide)
   have h2:y / 2^64+1≤2^(64*ds.length):=i2
   exact Nat.lt_of_lt_of_le this (Nat.mul_le_mul_left _ h2)
def L' (ds:List Int):List Ch:=ds.map fun d=>.v (.int .u64 d)
theorem V2 {β:Env}:∀ {ds:List Int} {l:List Value},AG β (L' ds) l→l=ds.map (.int .u64)∧∀ d∈ds,has .u64 d
 | [],l,h=>by simp [L',AG] at h;simp [h]
 | d::ds,l,⟨l1,l2,⟨h1,h1'⟩,h2,h3⟩=>by
  obtain ⟨i1,i2⟩:=V2 h2
  subst h1;subst i1;subst h3
  refine ⟨rfl,fun x hx=>?_⟩
  rcases List.mem_cons.1 hx with rfl | hx
  ·exact h1'.2
  ·exact i2 x hx
theorem V3 {β β':Env} {ds:List Int} {l:List Value} {y:Nat} (h:(y:Int)=BA ds) (hr:AG β (L' ds) l):AG β' [.num ds.length y] l:=by
 obtain ⟨h1,h2⟩:=V2 hr
 obtain ⟨h3,h4⟩:=N_ ds y (fun d hd=>B9 (h2 d hd)) h
 have:l=words ds.length y:=by
  rw [h1,words]
  conv=>lhs;rw [h3]
  simp [List.map_map,Function.comp]
 rw [this]
 exact KK h4
theorem Dy {β β':Env} {k x:Nat} {a:List Ch} {l:List Value} (h:Bm k a=some x) (hr:AG β a l):AG β' [.num k x] l:=by
 obtain ⟨h2,h3⟩:=Dk h hr
 subst h2
 exact KK h3
theorem OA {β:Env} {ρ:List Nat} {k0 j:Nat} (h:j<k0):A_ β ρ k0 j=β (nth ρ j):=by simp [A_,BF.2 h]
theorem EL {β:Env} {b:Blk} {k:Nat} {w:World} (h:EY β b k w):∃ X,β k=some X:=by
 rcases h with ⟨B,n,_,_,_,_,_,h,_⟩ | ⟨h,_⟩ | ⟨B,_,_,_,h,_⟩<;>exact ⟨_,h⟩
theorem Rj {β β':Env} {b d:Blk} {k j:Nat} {w:World} (h:EY β b k w) (he:β' j=β k) (hd:(d.ty=BB∧GD d.cs=true)∨(d.ty=b.ty∧d.opn=b.opn)) (hc:∀ l,AG β b.cs l→AG β' d.cs l):EY β' d j w:=by
 rcases h with ⟨B,n,l,t,pre,ty,fz,h1,h2,h3,h4,h5⟩ | ⟨h1,h2,h3⟩ | ⟨B,l,es,q,h1,h2,h3,h4⟩
 ·refine .inl ⟨B,n,l,t,pre,ty,fz,by rw [he];exact h1,hc _ h2,h3,h4,fun hr=>?_⟩
  obtain ⟨e1,e2⟩:=hd.resolve_left fun h=>hr h.1
  rw [e1] at hr ⊢
  rw [e2]
  exact h5 hr
 ·refine .inr (.inl ⟨by rw [he];exact h1,?_,hc _ h3⟩)
  rcases hd with ⟨e,_⟩ | ⟨e1,e2⟩
  ·exact .inr e
  ·rw [e1,e2];exact h2
 ·rcases hd with ⟨_,e⟩ | ⟨e1,e2⟩
  ·exact absurd (List.mem_cons_self ..) (UT e (hc _ h3))
  ·exact .inr (.inr ⟨B,l,es,q,by rw [he];exact h1,by rw [e1];exact h2,hc _ h3,by rw [e1];exact h4⟩)
def OB:Nat→List Blk→Heap
 | _,[]=>[]
 | j,b::r=>(j,some b)::OB (j+1) r
theorem OC:∀ {bs:List Blk} {j k:Nat} {b:Blk},AF (OB j bs) k=some b→j≤k∧bs[k-j]? = some b
 | [],_,_,_,h=>by cases h
 | d::bs,j,k,b,h=>by
  simp only [OB,AF] at h
  split at h
  ·rename_i e
   have:=Ag.1 e
   subst this
   injection h with h
   exact ⟨Nat.le_refl _,by simp [h]⟩
  ·rename_i e
   have:=EC e
   obtain ⟨h1,h2⟩:=OC h
   refine ⟨by omega,?_⟩
   rw [show k-j=(k-(j+1))+1 by omega,List.getElem?_cons_succ]
   exact h2
theorem MA {β:Env} {H:Heap} {w:World} {ρ:List Nat} {bs:List Blk} (g:Ex.Good β H w)
  (h:∀ j d,bs[j]? = some d→∃ b,AF H (nth ρ j)=some b∧((d.ty=BB∧GD d.cs=true)∨(d.ty=b.ty∧d.opn=b.opn))∧∀ l,AG β b.cs l→AG (A_ β ρ bs.length) d.cs l)
  (hne:∀ i j d,bs[i]? = some d→d.ty≠BB→i≠j→j<bs.length→nth ρ i≠nth ρ j):Ex.Good (A_ β ρ bs.length) (OB 0 bs) w:=by
 have hlt:∀ {j:Nat} {d:Blk},bs[j]? = some d→j<bs.length:=fun hj=>by
  rcases Nat.lt_or_ge _ bs.length with h | h
  ·exact h
  ·rw [List.getElem?_eq_none h] at hj;cases hj
 refine ⟨fun j blk hj=>?_,fun i j B n n' h1 h2 h3 h4=>?_,fun j B n hj=>?_⟩
 ·obtain ⟨_,hj⟩:=OC hj
  rw [Nat.sub_zero] at hj
  obtain ⟨b,hb,hd,hc⟩:=h j blk hj
  exact Rj (g.heap _ b hb) (OA (hlt hj)) hd hc
 ·obtain ⟨d,hd,hr⟩:=HK h1
  obtain ⟨e,he⟩:=Option.isSome_iff_exists.1 h2
  obtain ⟨_,hd⟩:=OC hd
  obtain ⟨_,he⟩:=OC he
  rw [Nat.sub_zero] at hd he
  by_cases hij:i=j
  ·exact hij
  ·exfalso
   obtain ⟨b,hb,hdd,_⟩:=h i d hd
   obtain ⟨b',hb',_⟩:=h j e he
   rw [OA (hlt hd)] at h3
   rw [OA (hlt he)] at h4
   have hbr:b.ty≠BB:=by
    obtain ⟨e1,_⟩:=hdd.resolve_left fun h=>hr h.1
    rw [← e1];exact hr
   exact hne i j d hd hr hij (hlt he) (g.inj _ _ B n n' (EZ hb hbr) (by rw [hb'];rfl) h3 h4)
 ·unfold A_ at hj
  split at hj
  ·exact g.lt _ _ _ hj
  ·cases hj
def CH (c:List Ch):Blk:=⟨BB,c,false⟩
theorem OD {β:Env} {H:Heap} {w:World} {k:Nat} {b:Blk} {c:List Ch} (g:Ex.Good β H w) (hk:AF H k=some b) (hc:∀ l,AG β b.cs l→AG (A_ β [k] 1) c l) (hw:GD c=true:=by rfl):Ex.Good (A_ β [k] 1) [(0,some (CH c))] w:=by
 refine MA (ρ:=[k]) (bs:=[CH c]) g (fun j d hj=>?_) fun i j d hi hr=>?_
 ·match j,hj with
  | 0,hj=>injection hj with hj;subst hj;exact ⟨b,hk,.inl ⟨rfl,hw⟩,hc⟩
 ·match i,hi with
  | 0,hi=>injection hi with hi;subst hi;exact absurd rfl hr
theorem dQ {β:Env} {H:Heap} {w:World} {k t:Nat} {b d:Blk} {c e:List Ch} (g:Ex.Good β H w) (hk:AF H k=some b) (ht:AF H t=some d)
  (hc:∀ l,AG β b.cs l→AG (A_ β [k,t] 2) c l) (he:∀ l,AG β d.cs l→AG (A_ β [k,t] 2) e l) (hw:GD c=true:=by rfl) (hv:GD e=true:=by rfl):Ex.Good (A_ β [k,t] 2) [(0,some (CH c)),(1,some (CH e))] w:=by
 refine MA (ρ:=[k,t]) (bs:=[CH c,CH e]) g (fun j z hj=>?_) fun i j z hi hr=>?_
 ·match j,hj with
  | 0,hj=>injection hj with hj;subst hj;exact ⟨b,hk,.inl ⟨rfl,hw⟩,hc⟩
  | 1,hj=>injection hj with hj;subst hj;exact ⟨d,ht,.inl ⟨rfl,hv⟩,he⟩
 ·match i,hi with
  | 0,hi=>injection hi with hi;subst hi;exact absurd rfl hr
  | 1,hi=>injection hi with hi;subst hi;exact absurd rfl hr
theorem V4 {β:Env} {H:Heap} {w:World} {k t:Nat} {b d:Blk} {c e:List Ch} (g:Ex.Good β H w) (hk:AF H k=some b) (ht:AF H t=some d) (hne:k≠t)
  (hc:∀ l,AG β b.cs l→AG (A_ β [k,t] 2) c l) (he:∀ l,AG β d.cs l→AG (A_ β [k,t] 2) e l):Ex.Good (A_ β [k,t] 2) [(0,some ⟨b.ty,c,b.opn⟩),(1,some ⟨d.ty,e,d.opn⟩)] w:=by
 refine MA (ρ:=[k,t]) (bs:=[⟨b.ty,c,b.opn⟩,⟨d.ty,e,d.opn⟩]) g (fun j z hj=>?_) fun i j z hi hr hij hj=>?_
 ·match j,hj with
  | 0,hj=>injection hj with hj;subst hj;exact ⟨b,hk,.inr ⟨rfl,rfl⟩,hc⟩
  | 1,hj=>injection hj with hj;subst hj;exact ⟨d,ht,.inr ⟨rfl,rfl⟩,he⟩
 ·match i,j,hi,hj,hij with
  | 0,1,_,_,_=>exact hne
  | 1,0,_,_,_=>exact hne.symm
  | 0,0,_,_,q=>exact absurd rfl q
  | 1,1,_,_,q=>exact absurd rfl q
theorem OE {β0:Env} {w0:World} {W:List Nat} {v:AV} {j:Nat} {ty:TypeId} {o:Bool} {c c':List Ch} (hc:∀ (β:Env) l,AG β c l→AG β c' l) {e:Ending} {w:World} (h:BS β0 w0 W v [(j,some ⟨ty,c,o⟩)] e w):BS β0 w0 W v [(j,some ⟨ty,c',o⟩)] e w:=by
 obtain ⟨u,β,h1,h2⟩:=h
 have hg:∀ b blk,AF [(j,some (⟨ty,c',o⟩:Blk))] b=some blk→b=j∧blk=⟨ty,c',o⟩∧AF [(j,some (⟨ty,c,o⟩:Blk))] b=some ⟨ty,c,o⟩:=by
  intro b blk hb
  simp only [AF] at hb ⊢
  split at hb
  ·rename_i hbj
   injection hb with hb
   exact ⟨(Ag.1 hbj).symm,hb.symm,rfl⟩
  ·cases hb
 refine ⟨u,β,h1,{ h2 with good:=⟨fun b blk hb=>?_,fun b b' B n n' q1 q2 q3 q4=>?_,h2.good.lt⟩ }⟩
 ·obtain ⟨e1,e2,e3⟩:=hg b blk hb
  subst e2
  exact Rj (d:=⟨ty,c',o⟩) (h2.good.heap b _ e3) rfl (.inr ⟨rfl,rfl⟩) (hc β)
 ·obtain ⟨x,hx,_⟩:=HK q1
  obtain ⟨y,hy⟩:=Option.isSome_iff_exists.1 q2
  rw [(hg b x hx).1,(hg b' y hy).1]
def Bp (x:Int) (y T:Nat):Nat→Int
 | 0=>0
 | i+1=>mW (mW (FX x (AB y i)+Bt (DT x (AB y i)) (Bp x y T i) 0)+Bt (AB T i) (Bf (DT x (AB y i)) (Bp x y T i) 0) 0)
def A1 (x:Int) (y T i:Nat):Int:=Bf (AB T i) (Bf (DT x (AB y i)) (Bp x y T i) 0) 0
def Ho (x:Int) (y T:Nat):Int:=Bf (AB T 6) (Bp x y T 6) 0
def KR (x:Int) (y T:Nat):Int:=mW (AB T 7+Bt (AB T 6) (Bp x y T 6) 0)
theorem V5 {a T c:Int} (ha:0≤a∧a≤340282366920938463426481119284349108225) (hT:0≤T∧T<18446744073709551616) (hc:0≤c∧c<18446744073709551616) :
  a+T+c=Bf T (Bf (a % 18446744073709551616) c 0) 0+18446744073709551616*mW (mW (a / 18446744073709551616+Bt (a % 18446744073709551616) c 0)+Bt T (Bf (a % 18446744073709551616) c 0) 0) ∧
  (0≤mW (mW (a / 18446744073709551616+Bt (a % 18446744073709551616) c 0)+Bt T (Bf (a % 18446744073709551616) c 0) 0)∧mW (mW (a / 18446744073709551616+Bt (a % 18446744073709551616) c 0)+Bt T (Bf (a % 18446744073709551616) c 0) 0)<18446744073709551616):=by
 simp only [Co]
 unfold Bf Bt
 omega
theorem Rk {x y:Int} (hx:0≤x∧x<18446744073709551616) (hy:0≤y∧y<18446744073709551616):0≤x*y∧x*y≤340282366920938463426481119284349108225:=by
 refine ⟨Int.mul_nonneg hx.1 hy.1,?_⟩
 have:=Int.mul_le_mul (show x≤18446744073709551615 by omega) (show y≤18446744073709551615 by omega) hy.1 (by decide)
 omega
theorem Rl {x:Int} (hx:0≤x∧x<18446744073709551616) (y T:Nat):∀ i,0≤Bp x y T i∧Bp x y T i<18446744073709551616
 | 0=>by simp [Bp]
 | i+1=>(V5 (Rk hx (Aw y i)) (Aw T i) (Rl hx y T i)).2
theorem KS {x:Int} (hx:0≤x∧x<18446744073709551616) (y T i:Nat):x*AB y i+AB T i+Bp x y T i=A1 x y T i+18446744073709551616*Bp x y T (i+1) :=
 (V5 (Rk hx (Aw y i)) (Aw T i) (Rl hx y T i)).1
def R8:Nat:=13407807929942597099574024998205846127479365820592393377723561443721764030073546976801874298166903427690031858186486050853753882811946569946433649006084096
theorem V6:R8=2^(64*8):=by kernel_rfl
def Dn (T:Nat) (x:Int) (y:Nat):Nat:=(T+x.toNat*y) % R8
def FZ (x:Int) (y T:Nat):List Int:=[A1 x y T 0,A1 x y T 1,A1 x y T 2,A1 x y T 3,A1 x y T 4,A1 x y T 5,Ho x y T,KR x y T]
def MB (x:Int) (y T:Nat):List Int:=[A1 x y T 1,A1 x y T 2,A1 x y T 3,A1 x y T 4,A1 x y T 5,Ho x y T,KR x y T,0]
theorem dR {x:Int} (hx:0≤x∧x<18446744073709551616) {y T:Nat} (hy:y<RR) (hT:T<R8) :
  ((Dn T x y:Nat):Int)=BA (FZ x y T)∧((Dn T x y / 18446744073709551616:Nat):Int)=BA (MB x y T):=by
 have e0:x*AB y 0+AB T 0+Bp x y T 0=A1 x y T 0+18446744073709551616*Bp x y T 1:=KS hx y T 0
 have e1:x*AB y 1+AB T 1+Bp x y T 1=A1 x y T 1+18446744073709551616*Bp x y T 2:=KS hx y T 1
 have e2:x*AB y 2+AB T 2+Bp x y T 2=A1 x y T 2+18446744073709551616*Bp x y T 3:=KS hx y T 2
 have e3:x*AB y 3+AB T 3+Bp x y T 3=A1 x y T 3+18446744073709551616*Bp x y T 4:=KS hx y T 3
 have e4:x*AB y 4+AB T 4+Bp x y T 4=A1 x y T 4+18446744073709551616*Bp x y T 5:=KS hx y T 4
 have e5:x*AB y 5+AB T 5+Bp x y T 5=A1 x y T 5+18446744073709551616*Bp x y T 6:=KS hx y T 5
 have z:Bp x y T 0=0:=rfl
 have c6:=Rl hx y T 6
 have t6:=Aw T 6
 have t7:=Aw T 7
 have e6:AB T 6+Bp x y T 6=Ho x y T+18446744073709551616*Bt (AB T 6) (Bp x y T 6) 0:=by unfold Ho Bf Bt;omega
 have b0:0≤A1 x y T 0∧A1 x y T 0<18446744073709551616:=by unfold A1 Bf;omega
 have b1:0≤A1 x y T 1∧A1 x y T 1<18446744073709551616:=by unfold A1 Bf;omega
 have b2:0≤A1 x y T 2∧A1 x y T 2<18446744073709551616:=by unfold A1 Bf;omega
 have b3:0≤A1 x y T 3∧A1 x y T 3<18446744073709551616:=by unfold A1 Bf;omega
 have b4:0≤A1 x y T 4∧A1 x y T 4<18446744073709551616:=by unfold A1 Bf;omega
 have b5:0≤A1 x y T 5∧A1 x y T 5<18446744073709551616:=by unfold A1 Bf;omega
 have b6:0≤Ho x y T∧Ho x y T<18446744073709551616:=by unfold Ho Bf;omega
 have e7:KR x y T=(AB T 7+Bt (AB T 6) (Bp x y T 6) 0) % 18446744073709551616:=Co _
 have dT:=N9 8 T (by rw [← V6];exact hT)
 have dy:=N9 6 y (by rw [← CT];exact hy)
 have dT':BA [AB T 0,AB T 1,AB T 2,AB T 3,AB T 4,AB T 5,AB T 6,AB T 7]=T:=dT
 have dy':BA [AB y 0,AB y 1,AB y 2,AB y 3,AB y 4,AB y 5]=y:=dy
 have em:x*(y:Int)=BA [x*AB y 0,x*AB y 1,x*AB y 2,x*AB y 3,x*AB y 4,x*AB y 5]:=by
  rw [← dy']
  simp only [BA,Int.mul_add,Int.mul_zero,Int.mul_left_comm x 18446744073709551616]
 have key:((T+x.toNat*y:Nat):Int)=BA (FZ x y T)+(R8:Nat)*((AB T 7+Bt (AB T 6) (Bp x y T 6) 0) / 18446744073709551616):=by
  have:((x.toNat*y:Nat):Int)=x*y:=by rw [Int.natCast_mul,Int.toNat_of_nonneg hx.1]
  rw [Int.natCast_add,this,em,← dT']
  clear em this dT dy dT' dy'
  generalize x*AB y 0=q0 at *
  generalize x*AB y 1=q1 at *
  generalize x*AB y 2=q2 at *
  generalize x*AB y 3=q3 at *
  generalize x*AB y 4=q4 at *
  generalize x*AB y 5=q5 at *
  generalize Bt (AB T 6) (Bp x y T 6) 0=o at *
  unfold FZ R8
  simp only [BA]
  omega
 have hbd:0≤BA (FZ x y T)∧BA (FZ x y T)<(R8:Nat):=by
  have b7:0≤KR x y T∧KR x y T<18446744073709551616:=by omega
  clear key em dT dy dT' dy' e0 e1 e2 e3 e4 e5 e6 e7
  unfold FZ R8
  simp only [BA]
  omega
 have h0:((Dn T x y:Nat):Int)=BA (FZ x y T):=by
  unfold Dn
  rw [Int.natCast_emod,key,Int.add_mul_emod_self_left,Int.emod_eq_of_lt hbd.1 hbd.2]
 refine ⟨h0,?_⟩
 rw [Int.natCast_ediv,h0]
 have:BA (FZ x y T)=A1 x y T 0+18446744073709551616*BA (MB x y T):=by
  unfold FZ MB
  simp only [BA]
  omega
 omega
def Hp (y T:Nat):Heap:=[(0,some ⟨30,[.num 6 y],false⟩),(1,some ⟨197,[.num 8 T],false⟩)]
def Hq (x s:Int):List AV:=[.val false [.v (.int .u64 x)],.val false [.p 0 0],.val false [.n .i64 s],.val false [.p 1 0]]
def Fs:Nat→List (Bool×Bool)
 | 0=>[]
 | n+1=>(true,true)::Fs n
theorem KT:∀ n,AN (Fs n)
 | 0=>trivial
 | n+1=>⟨rfl,KT n⟩
theorem dS (x:Int) (y T:Nat):AP Tryz.prog (AI S5 K0) Tryz.f188 600 2 [1] (Ak Tryz.f188 (Hq x 0) (Hp y T) 2 []) =
 some (Fs 15,[1],.tup [],[(1,some ⟨197,L' (FZ x y T),false⟩)]):=by kernel_rfl
def nv:Ch→Ch
 | .n k i=>.v (.int k i)
 | c=>c
theorem dU {β:Env} {c:Ch} {l:List Value} (h:Au β c l):Au β (nv c) l:=by
 cases c<;>try exact h
 exact ⟨h.1,rfl,h.2⟩
theorem MC {β:Env}:∀ {cs:List Ch} {l:List Value},AG β cs l→AG β (cs.map nv) l
 | [],_,h=>h
 | _::_,_,⟨l1,l2,h1,h2,h3⟩=>⟨l1,l2,dU h1,MC h2,h3⟩
def V7 (x:Int) (y T:Nat):List Ch:=[.v (.int .u64 (A1 x y T 1)),.v (.int .u64 (A1 x y T 2)),.v (.int .u64 (A1 x y T 3)),.v (.int .u64 (A1 x y T 4)),.v (.int .u64 (A1 x y T 5)),.v (.int .u64 (Ho x y T)),.v (.int .u64 (KR x y T)),.n .u64 0]
theorem dV (x:Int) (y T:Nat):AP Tryz.prog (AI S5 K0) Tryz.f188 600 2 [1] (Ak Tryz.f188 (Hq x 1) (Hp y T) 2 []) =
 some (Fs 15,[1],.tup [],[(1,some ⟨197,V7 x y T,false⟩)]):=by kernel_rfl
theorem dW (x:Int) (y T:Nat):L' (MB x y T)=(V7 x y T).map nv:=rfl
def MD (T:Nat):Heap:=[(1,some ⟨197,[.num 8 T],false⟩)]
theorem V8 {x:Int} (hx:0≤x∧x<18446744073709551616) {y T:Nat} (hy:y<RR) (hT:T<R8) :
  Al Tryz.prog 188 (Hq x 0) (Hp y T) 2 [1] (.tup []) (MD (Dn T x y))∧Al Tryz.prog 188 (Hq x 1) (Hp y T) 2 [1] (.tup []) (MD (Dn T x y / 18446744073709551616)):=by
 obtain ⟨h0,h1⟩:=dR hx hy hT
 constructor
 ·intro β us w ha hg hf
  have:=A7 Tryz.func188 (by kernel_rfl) (args0:=Hq x 0) (H0:=Hp y T) (k0:=2) (path:=[]) (W:=[1]) (by kernel_rfl) (fun β0 w0 hb=>A6 (AM N8 AQ) AE Tryz.func188 (dS x y T) (KT _) (AT (by kernel_rfl)) hb (fun _ h=>h)) β us w ha hg hf
  exact Calls.mono this fun e w' h=>OE (fun _ _ hr=>V3 h0 hr) h
 ·intro β us w ha hg hf
  have:=A7 Tryz.func188 (by kernel_rfl) (args0:=Hq x 1) (H0:=Hp y T) (k0:=2) (path:=[]) (W:=[1]) (by kernel_rfl) (fun β0 w0 hb=>A6 (AM N8 AQ) AE Tryz.func188 (dV x y T) (KT _) (AT (by kernel_rfl)) hb (fun _ h=>h)) β us w ha hg hf
  exact Calls.mono this fun e w' h=>OE (fun _ _ hr=>V3 (ds:=MB x y T) h1 (by rw [dW];exact MC hr)) h
def Rm (k t fr:Nat) (T:Nat) (path:List Bool):R:=Bg [k,t] 2 fr 0 [1] (.tup []) (MD T) [] path
def stepSpec:ASpec:=fun args H fr path =>
 match args with
 | [X,.val false [.p k 0],.val false [.n .i64 s],.val false [.p t 0]]=>match BH (some X),AF H k,AF H t with
  | some (_,.u64,x),some ⟨ty1,c1,false⟩,some ⟨ty2,c2,false⟩=>match Nat.beq ty1 30,Nat.beq ty2 197,Bm 6 c1,Bm 8 c2,Nat.beq k t with
   | true,true,some y,some T,false=>match s with
    | .ofNat 0=>some (Rm k t fr (Dn T x y) path)
    | .ofNat 1=>some (Rm k t fr (Dn T x y / 18446744073709551616) path)
    | _=>none
   | _,_,_,_,_=>none
  | _,_,_=>none
 | _=>none
theorem Ef {β:Env} {H:Heap} {w:World} {k:Nat} {b:Blk} (g:Ex.Good β H w) (h:AF H k=some b):∃ l,AG β b.cs l:=by
 rcases g.heap k b h with ⟨_,_,l,_,_,_,_,_,h,_⟩ | ⟨_,_,h⟩ | ⟨_,l,_,_,_,_,h,_⟩
 ·exact ⟨l,h⟩
 ·exact ⟨_,h⟩
 ·exact ⟨_,h⟩
theorem dX:BN Tryz.prog 188 stepSpec:=by
 refine FV Tryz.func188 (by kernel_rfl) (by kernel_rfl) fun args H fr path r h=>?_
 unfold stepSpec at h
 split at h
 case h_2=>cases h
 rename_i X k s t
 split at h
 case h_2=>cases h
 rename_i c0 x ty1 c1 ty2 c2 hX hk ht
 split at h
 case h_2=>cases h
 rename_i y T q1 q2 hy hT hne
 have q1':=Ag.1 q1
 have q2':=Ag.1 q2
 subst q1';subst q2'
 have hne':k≠t:=fun e=>by subst e;rw [Ag.2 rfl] at hne;cases hne
 have core:∀ (v:Nat) (r:R),r=Rm k t fr v path→(∀ (hx:0≤x∧x<18446744073709551616) (_:y<RR) (_:T<R8),Al Tryz.prog 188 (Hq x s) (Hp y T) 2 [1] (.tup []) (MD v))→∃ (ρ:List Nat) (args0:List AV) (H0:Heap) (k0 nw:Nat) (W:List Nat) (val:AV) (H1:Heap) (conds:List (Bool×Bool)) (path':List Bool),
   r=Bg ρ k0 fr nw W val H1 conds path'∧(∀ β us w,Ar β [X,.val false [.p k 0],.val false [.n .i64 s],.val false [.p t 0]] us→Ex.Good β H w→AN conds→Al Tryz.prog 188 args0 H0 k0 W val H1∧EI k0 nw W val H1=true∧Ar (A_ β ρ k0) args0 us∧Ex.Good (A_ β ρ k0) H0 w∧(∀ k,k<k0→∃ X,β (nth ρ k)=some X)):=by
  intro v r hr hc
  refine ⟨[k,t],Hq x s,Hp y T,2,0,[1],.tup [],MD v,[],path,hr,fun β us w ha hg _=>?_⟩
  obtain ⟨u1,us1,r1,⟨u2,us2,r2,⟨u3,us3,r3,⟨u4,us4,r4,ha,rfl⟩,rfl⟩,rfl⟩,rfl⟩:=ha
  obtain ⟨rfl,p1⟩:=Bd (β:=β) (u:=u1) (fun A hA=>by injection hA with hA;subst hA;exact r1) hX
  obtain ⟨l1,g1⟩:=Ef hg hk
  obtain ⟨l2,g2⟩:=Ef hg ht
  refine ⟨hc (B9 p1) (by rw [CT];exact (Dk hy g1).2) (by rw [V6];exact (Dk hT g2).2),by kernel_rfl,⟨_,_,Ab ⟨rfl,rfl,p1⟩,⟨u2,_,?_,⟨u3,_,?_,⟨u4,us4,?_,ha,rfl⟩,rfl⟩,rfl⟩,rfl⟩,V4 hg hk ht hne' (fun l h=>Dy hy h) (fun l h=>Dy hT h),fun j hj=>?_⟩
  ·exact r2
  ·exact r3
  ·exact r4
  ·match j,hj with
   | 0,_=>exact EL (hg.heap _ _ hk)
   | 1,_=>exact EL (hg.heap _ _ ht)
 split at h
 ·injection h with h
  exact core _ _ h.symm fun a b c=>(V8 a b c).1
 ·injection h with h
  exact core _ _ h.symm fun a b c=>(V8 a b c).2
 ·cases h
def S6:List (FuncId×ASpec):=(188,stepSpec)::S5
theorem Rn:AS Tryz.prog S6:=⟨dX,N8⟩
def mP:Int:=0x89f3fffcfffcfffd
def ME (T:Nat) (x:Int) (b:Nat):Nat:=Dn (Dn T x b) (mW (AB (Dn T x b) 0*mP)) pN / 18446744073709551616
def E0 (a b:Nat):Nat→Nat
 | 0=>0
 | i+1=>ME (E0 a b i) (AB a i) b
def Ro (T:Nat):Nat:=EK (Hn (AB T 0) (AB T 1) (AB T 2) (AB T 3) (AB T 4) (AB T 5)) (AB T 6).toNat
theorem dY (x y:Nat):AR Tryz.prog (AI S6 K0) Tryz.f130 [Ad x,Ad y] [] 3000=some (Fs 2,Ad (Ro (E0 x y 6))):=by kernel_rfl
def RI:Nat:=3231460744492646417066832100176244795738767926513225105051837195607029917124509527734802654356338138714468589979680
theorem V9:RR*RI % pN=1:=by kernel_rfl
theorem V_ (x i:Nat):(AB x i).toNat=x / 2^(64*i) % 2^64:=by unfold AB;omega
theorem dZ:0x89f3fffcfffcfffd*pN % 18446744073709551616=18446744073709551615:=by kernel_rfl
theorem d6 {s q:Nat} (h:q % 18446744073709551616=s % 18446744073709551616*18446744073709551615 % 18446744073709551616):(s+q) % 18446744073709551616=0:=by omega
theorem d7 (s:Nat):(s+(s % 18446744073709551616*0x89f3fffcfffcfffd % 18446744073709551616)*pN) % 18446744073709551616=0:=by
 apply d6
 rw [Nat.mod_mul_mod,Nat.mul_assoc,Nat.mul_mod (s % 18446744073709551616) (0x89f3fffcfffcfffd*pN),dZ,Nat.mod_mod]
theorem JB (n:Nat):mW (n:Int)=((n % 18446744073709551616:Nat):Int):=by rw [Co];omega
theorem d8 {T:Nat} {x:Int} {b:Nat} (hx:0≤x∧x<18446744073709551616) (hb:b<pN) (hT:T<b+pN):∃ m,ME T x b*18446744073709551616=T+x.toNat*b+m*pN∧ME T x b<b+pN:=by
 have hp:pN+pN<RR:=L9
 have hx2:x.toNat≤18446744073709551615:=by omega
 have h1:x.toNat*b≤18446744073709551615*b:=Nat.mul_le_mul_right b hx2
 have s1:Dn T x b=T+x.toNat*b:=by
  unfold Dn
  refine Nat.mod_eq_of_lt ?_
  unfold RR at hp;unfold R8
  omega
 have hm:(mW (AB (T+x.toNat*b) 0*mP)).toNat=(T+x.toNat*b) % 18446744073709551616*0x89f3fffcfffcfffd % 18446744073709551616:=by
  have e1:AB (T+x.toNat*b) 0=(((T+x.toNat*b) % 18446744073709551616:Nat):Int):=by
   simp only [AB,Nat.mul_zero,Nat.pow_zero,Nat.div_one]
  have e2:mP=((0x89f3fffcfffcfffd:Nat):Int):=rfl
  rw [e1,e2,← Int.natCast_mul,JB,Int.toNat_natCast]
 have hz:=d7 (T+x.toNat*b)
 unfold ME
 rw [s1]
 have h2:Dn (T+x.toNat*b) (mW (AB (T+x.toNat*b) 0*mP)) pN=T+x.toNat*b+(T+x.toNat*b) % 18446744073709551616*0x89f3fffcfffcfffd % 18446744073709551616*pN:=by
  unfold Dn
  rw [hm]
  refine Nat.mod_eq_of_lt ?_
  have h3:(T+x.toNat*b) % 18446744073709551616*0x89f3fffcfffcfffd % 18446744073709551616≤18446744073709551615:=by omega
  have h4:=Nat.mul_le_mul_right pN h3
  unfold RR at hp;unfold R8
  omega
 rw [h2]
 refine ⟨(T+x.toNat*b) % 18446744073709551616*0x89f3fffcfffcfffd % 18446744073709551616,?_,?_⟩
 ·omega
 ·have h3:(T+x.toNat*b) % 18446744073709551616*0x89f3fffcfffcfffd % 18446744073709551616≤18446744073709551615:=by omega
  have h4:=Nat.mul_le_mul_right pN h3
  generalize (T+x.toNat*b) % 18446744073709551616*0x89f3fffcfffcfffd % 18446744073709551616*pN=q at *
  generalize x.toNat*b=r at *
  omega
theorem V' {a b:Nat} (hb:b<pN):∀ i,∃ k,E0 a b i*2^(64*i)=a % 2^(64*i)*b+k*pN∧E0 a b i<b+pN
 | 0=>⟨0,by simp [E0,Nat.mod_one],by have:=B_;simp only [E0];omega⟩
 | i+1=>by
  obtain ⟨k,h1,h2⟩:=V' (a:=a) hb i
  obtain ⟨m,h3,h4⟩:=d8 (B9 (NE a i)) hb h2
  refine ⟨k+m*2^(64*i),?_,h4⟩
  rw [V_] at h3
  have e:2^(64*(i+1))=18446744073709551616*2^(64*i):=by rw [show 64*(i+1)=64+64*i by omega,Nat.pow_add]
  have e2:a % 2^(64*(i+1))=a % 2^(64*i)+2^(64*i)*(a / 2^(64*i) % 2^64):=by
   rw [show 64*(i+1)=64*i+64 by omega,Nat.pow_add,Nat.mod_mul]
  rw [e2,e]
  show ME (E0 a b i) (AB a i) b*_=_
  rw [← Nat.mul_assoc,h3,Nat.add_mul,Nat.add_mul,h1,Nat.add_mul,Nat.add_mul]
  rw [Nat.mul_right_comm (a / 2^(64*i) % 2^64) b,Nat.mul_comm (a / 2^(64*i) % 2^64) (2^(64*i)),Nat.mul_right_comm m pN]
  omega
def B6 (x y:Nat):Nat:=Ro (E0 x y 6)
theorem WA {x:Nat} (h:x<RR):Hn (AB x 0) (AB x 1) (AB x 2) (AB x 3) (AB x 4) (AB x 5)=x:=by
 have h1:=I7 (x:=x) (by rw [← CT];exact h)
 have h2:=(N6 (Aw x 0) (Aw x 1) (Aw x 2) (Aw x 3) (Aw x 4) (Aw x 5)).1
 omega
theorem KU {x y:Nat} (hx:x<RR) (hy:y<pN):B6 x y=x*y*RI % pN:=by
 obtain ⟨k,h1,h2⟩:=V' (a:=x) hy 6
 have hp:=L9
 have hlt:E0 x y 6<RR:=by omega
 unfold B6 Ro
 rw [WA hlt,V_,← CT] at *
 have e6:E0 x y 6 / RR=0:=Nat.div_eq_of_lt hlt
 rw [e6,Nat.zero_mod,Ri (by omega)]
 try rw [Nat.mod_eq_of_lt hx] at h1
 have h3:E0 x y 6*RR*RI % pN=x*y*RI % pN:=by
  rw [h1,Nat.add_mul,Nat.mul_right_comm k pN,Nat.add_mul_mod_self_right]
 rw [← h3,Nat.mul_assoc,Nat.mul_mod,V9,Nat.mul_one,Nat.mod_mod]
theorem d9 (x y:Nat):AU Tryz.prog 130 [Ad x,Ad y] (Ad (B6 x y)):=AW (AM Rn AQ) AE Tryz.func130 (dY x y) (KT _) rfl
def EM:Nat:=2708263910654730174793787626328176511836455197166317677006154293982164122222515399004018013397331347120527951271750
theorem eA:AR Tryz.prog (AI S6 K0) Tryz.f131 [] [] 100=some ([],.val true [.n .u64 0xf4df1f341c341746,.n .u64 0xa76e6a609d104f1,.n .u64 0x8de5476c4c95b6d5,.n .u64 0x67eb88a9939d83c0,.n .u64 0x9a793e85b519952d,.n .u64 0x11988fe592cae3aa]):=by kernel_rfl
theorem MF {f:FuncId} {v v':AV} (h:AU Tryz.prog f [] v) (hv:∀ u,AH BY v u→AH BY v' u):∀ args w,(match args with | []=>some v' | _=>none)=some w→AU Tryz.prog f args w:=by
 intro args w hs
 split at hs
 ·injection hs with hs;subst hs
  intro us w ha
  refine Calls.mono (h us w ha) ?_
  rintro e w' ⟨u,h1,h2,h3⟩
  exact ⟨u,h1,hv u h2,h3⟩
 ·cases hs
theorem eB:AU Tryz.prog 131 [] (.val true [.n .u64 0xf4df1f341c341746,.n .u64 0xa76e6a609d104f1,.n .u64 0x8de5476c4c95b6d5,.n .u64 0x67eb88a9939d83c0,.n .u64 0x9a793e85b519952d,.n .u64 0x11988fe592cae3aa]):=AW (AM Rn AQ) AE Tryz.func131 eA trivial rfl
theorem OF {β:Env} {a:List Ch} {x:Nat} (h:Bm 6 a=some x) {u:Value} (hr:AH β (.val true a) u):AH β (Ad x) u:=(KL h hr).1
def S7:List (FuncId×ASpec):=(131,Am fun args=>match args with | []=>some (Ad EM) | _=>none)::(130,Am (I' fun x y=>Ad (B6 x y)))::S6
theorem WB:AS Tryz.prog S7:=⟨Ap Tryz.func131 (by kernel_rfl) (by kernel_rfl) (MF eB fun u h=>OF (by kernel_rfl) h),Ap Tryz.func130 (by kernel_rfl) (by kernel_rfl) (L_ fun x y _ _=>d9 x y),Rn⟩
theorem eD (x y:Nat):AR Tryz.prog (AI S7 K0) Tryz.f76 [Ad x,Ad y] [] 300=some ([],Ad (B6 (B6 (x % pN) (y % pN)) EM)):=by kernel_rfl
def AX (x y:Nat):Nat:=x*y % pN
theorem eF:EM*RI % pN*RI % pN=1:=by kernel_rfl
theorem WC:EM<pN:=by decide
theorem eG {x y:Nat} (hx:x<RR) (hy:y<pN):B6 x y<pN:=by rw [KU hx hy];exact Nat.mod_lt _ B_
theorem eI (x y:Nat):B6 (B6 (x % pN) (y % pN)) EM=AX x y:=by
 have h1:=KP x
 have h2:=FY y
 have h3:=eG h1 h2
 rw [KU (Nat.lt_trans h3 (by decide)) WC,KU h1 h2]
 unfold AX
 have:=eF
 rw [Nat.mod_mul_mod] at this
 rw [Nat.mul_assoc,Nat.mod_mul_mod,show x % pN*(y % pN)*RI*(EM*RI)=(x % pN*(y % pN))*(EM*RI*RI) by simp only [Nat.mul_comm,Nat.mul_left_comm],Nat.mul_mod,this,Nat.mul_one,Nat.mod_mod,← Nat.mul_mod]
theorem WD (x y:Nat):AU Tryz.prog 76 [Ad x,Ad y] (Ad (AX x y)):=by
 rw [← eI]
 exact AW (AM WB AQ) AE Tryz.func76 (eD x y) trivial rfl
def S8:List (FuncId×ASpec):=(76,Am (I' fun x y=>Ad (AX x y)))::S7
theorem MG:AS Tryz.prog S8:=⟨Ap Tryz.func76 (by kernel_rfl) (by kernel_rfl) (L_ fun x y _ _=>WD x y),WB⟩
def wI (z:Int):Int:=IntKind.i64.wrap z
theorem BO {z:Int} (h:-9223372036854775808≤z∧z≤9223372036854775807):wI z=z:=by unfold wI;rw [IntKind.wrap_i64];omega
def Ft (v s:Int):Int:=bits .and .u64 (Int.fdiv v (2^min s.toNat 64)) 1
theorem Rp (v s:Nat) (hv:v<18446744073709551616) (hs:s<64):Ft v s=((v / 2^s % 2:Nat):Int):=by
 unfold Ft
 rw [Int.toNat_natCast,Nat.min_eq_left (by omega),Int.fdiv_eq_ediv_of_nonneg _ (by exact_mod_cast Nat.zero_le (2^s))]
 have e:((v:Int) / 2^s)=((v / 2^s:Nat):Int):=by
  rw [Int.natCast_ediv,Int.natCast_pow];rfl
 rw [e]
 have hlt:v / 2^s<18446744073709551616:=Nat.lt_of_le_of_lt (Nat.div_le_self _ _) hv
 have h:=(bits_nat .u64 64 (by decide) (fun n h0 h1=>by rw [IntKind.wrap_u64];omega) (v / 2^s) 1 (by omega) (by decide)).1
 refine Eq.trans h ?_
 rw [Nat.and_one_is_mod]
def AL:List Int→Nat
 | []=>0
 | d::r=>d.toNat+18446744073709551616*AL r
theorem MH:∀ (ws:List Int) (j:Nat),(∀ d∈ws,0≤d∧d<18446744073709551616)→AL ws / 2^(64*j) % 2^64=(ws.getD j 0).toNat
 | [],j,_=>by simp [AL]
 | d::r,0,h=>by
  have:=h d (by simp)
  simp only [AL,Nat.mul_zero,Nat.pow_zero,Nat.div_one,List.getD_cons_zero]
  omega
 | d::r,j+1,h=>by
  have hd:=h d (by simp)
  have ih:=MH r j fun d h'=>h d (by simp [h'])
  rw [show 64*(j+1)=64+64*j by omega,Nat.pow_add,← Nat.div_div_eq_div_mul]
  have:AL (d::r) / 2^64=AL r:=by simp only [AL];omega
  rw [this,ih];rfl
theorem GW:∀ (ws:List Int),(∀ d∈ws,0≤d∧d<18446744073709551616)→AL ws<2^(64*ws.length)
 | [],_=>by simp [AL]
 | d::r,h=>by
  have hd:=h d (by simp)
  have ih:=GW r fun d h'=>h d (by simp [h'])
  rw [List.length_cons,show 64*(r.length+1)=64+64*r.length by omega,Nat.pow_add]
  simp only [AL]
  generalize 2^(64*r.length)=Q at *
  omega
theorem Rq (ws:List Int) (i:Nat) (h:∀ d∈ws,0≤d∧d<18446744073709551616):(ws.getD (i / 64) 0).toNat / 2^(i % 64) % 2=AL ws / 2^i % 2:=by
 rw [← MH ws (i / 64) h]
 have e:2^64=2^(i % 64)*2^(64-i % 64):=by rw [← Nat.pow_add];congr 1;omega
 rw [e,Nat.mod_mul_right_div_self,Nat.div_div_eq_div_mul,← Nat.pow_add,show 64*(i / 64)+i % 64=i by omega]
 refine Nat.mod_mod_of_dvd _ ?_
 have:64-i % 64=(63-i % 64)+1:=by omega
 rw [this,Nat.pow_succ]
 exact Nat.dvd_mul_left _ _
def DW (y:Nat):Nat:=y*RR % pN
theorem Rr (y:Nat):DW y<pN:=Nat.mod_lt _ B_
theorem WE:∀ y,y*(RR*RI) % pN=y % pN:=fun y=>by rw [Nat.mul_mod,V9,Nat.mul_one,Nat.mod_mod]
theorem Rs (a b:Nat):B6 (DW a) (DW b)=DW (a*b):=by
 rw [KU (Nat.lt_trans (Rr a) (by decide)) (Rr b)]
 unfold DW
 rw [Nat.mul_assoc,Nat.mod_mul_mod,Nat.mul_left_comm,Nat.mod_mul_mod,← Nat.mul_assoc,show b*RR*(a*RR)*RI=a*b*RR*(RR*RI) by simp only [Nat.mul_comm,Nat.mul_left_comm],WE]
theorem eJ:EM*RI % pN=RR % pN:=by kernel_rfl
theorem WF {x:Nat} (hx:x<RR):B6 x EM=DW x:=by
 rw [KU hx WC,Nat.mul_assoc,Nat.mul_mod,eJ,← Nat.mul_mod];rfl
theorem eK (y:Nat):B6 (DW y) 1=y % pN:=by
 rw [KU (Nat.lt_trans (Rr y) (by decide)) (by decide),Nat.mul_one]
 unfold DW
 rw [Nat.mod_mul_mod,Nat.mul_assoc,WE]
theorem eL (y:Nat):DW (y % pN)=DW y:=by unfold DW;rw [Nat.mod_mul_mod]
noncomputable def eM:List Item:=DI (Aa Tryz.prog (AI S8 K0) (some 0) 100 1 (some ([1,4,5,6,7],[0,2,3,4],5)) (Ak Tryz.f125 [Ad 0,.val false [.sl 0 0 0 0]] [(0,some ⟨0,[.seq .u64 []],false⟩)] 1 []))
noncomputable def eN (off n m:Nat) (i:Int):List AV:=.any::.val false [.sl 0 off n m]::.any::.any::.val false [.p 2 0]::.val false [.p 3 0]::.val false [.p 4 0]::.val false [.v (.int .i64 i)]::List.replicate (Tryz.f125.ntmps-8) .any
noncomputable def GX (off n m:Nat) (xs:List Int) (b acc:Nat) (i:Int) (path:List Bool):ASt:=⟨eM,⟨eN off n m i,
 [(0,some (CH [.seq .u64 xs])),(2,some ⟨30,I8,false⟩),(3,some ⟨30,[.num 6 b],false⟩),(4,some ⟨30,[.num 6 acc],false⟩)],5,path⟩⟩
def MI (x off n m:Nat):List AV:=[Ad x,.val false [.sl 0 off n m]]
def BT (xs:List Int):Heap:=[(0,some (CH [.seq .u64 xs]))]
theorem eO (x off n m:Nat) (xs:List Int):Aa Tryz.prog (AI S8 K0) (some 0) 100 1 (some ([1,4,5,6,7],[0,2,3,4],5)) (Ak Tryz.f125 (MI x off n m) (BT xs) 1 []) =
 some ([(AO .i64 n,true)],[],GX off n m xs (B6 (x % pN) EM) (B6 1 EM) (wI (wI (64*(n:Int))-1)) []):=by kernel_rfl
def CI (xs:List Int) (off:Nat) (i:Int):Int:=xs.getD (off+(wI (Int.tdiv i 64)).toNat*1) 0
def Rt (off n:Nat) (xs:List Int) (i:Int) (C6:Bool):List (Bool×Bool):=[(decide (0≤i),true),(true,true),(decide (0≤wI (Int.tdiv i 64)∧wI (Int.tdiv i 64)<n),true),
 (decide (off+(wI (Int.tdiv i 64)).toNat*1<xs.length),true),(decide (0≤i∧(0:Int)<64),true),(decide (0≤Int.tmod i 64∧0≤CI xs off i),true),(decide (Ft (CI xs off i) (Int.tmod i 64)=1),C6)]
theorem pow_one (off n m b acc:Nat) (xs:List Int) (i:Int):Aa Tryz.prog (AI S8 K0) (some 0) 100 1 (some ([1,4,5,6,7],[0,2,3,4],5)) (GX off n m xs b acc i [true,true]) =
 some (Rt off n xs i true,[],GX off n m xs b (B6 (B6 acc acc) b) (wI (i-1)) []):=by kernel_rfl
theorem pow_zero (off n m b acc:Nat) (xs:List Int) (i:Int):Aa Tryz.prog (AI S8 K0) (some 0) 100 1 (some ([1,4,5,6,7],[0,2,3,4],5)) (GX off n m xs b acc i [true,false]) =
 some (Rt off n xs i false,[],GX off n m xs b (B6 acc acc) (wI (i-1)) []):=by kernel_rfl
theorem eP (off n m b acc:Nat) (xs:List Int) (i:Int):AP Tryz.prog (AI S8 K0) Tryz.f125 100 1 [] (GX off n m xs b acc i [false]) =
 some ([(decide (0≤i),false)],[],Ad (B6 acc 1),[]):=by kernel_rfl
theorem Ru (off n m b acc:Nat) (xs:List Int) (i:Int) (p:List Bool):Bo Tryz.f125.ntmps (GX off n m xs b acc i p).s:=AT (by kernel_rfl)
theorem WG (x E:Nat):∃ y,y=x^E % pN:=⟨_,rfl⟩
noncomputable def DX (x E:Nat):Nat:=Classical.choose (WG x E)
theorem Hr (x E:Nat):DX x E=x^E % pN:=Classical.choose_spec (WG x E)
def Do (x E c:Nat):Nat:=DW (x^(E / 2^c))
theorem Hs {xs:List Int} {off n:Nat} {j:Nat} (hj:j<n):((xs.drop off).take n).getD j 0=xs.getD (off+j) 0:=by
 rw [List.getD_eq_getElem?_getD,List.getD_eq_getElem?_getD,List.getElem?_take_of_lt hj,List.getElem?_drop]
section
variable {off n m:Nat} {xs:List Int} (hall:∀ d∈xs,0≤d∧d<18446744073709551616) (hlen:off+n≤xs.length) (hn:n≤1125899906842624) {x:Nat} {β0:Env} {w0:World} (hb:∀ b,1≤b→β0 b=none)
include hall hlen hn hb
theorem eQ:∀ c,c≤64*n→ASafe Tryz.prog 125 β0 w0 (BS β0 w0 [] (Ad (DX x (AL ((xs.drop off).take n)))) []) Tryz.f125.ntmps [] (GX off n m xs (DW x) (Do x (AL ((xs.drop off).take n)) c) ((c:Int)-1) []):=by
 intro c
 induction c with
 | zero =>
  intro _
  have h:ASafe Tryz.prog 125 β0 w0 (BS β0 w0 [] (Ad (B6 (Do x (AL ((xs.drop off).take n)) 0) 1)) []) Tryz.f125.ntmps [] (GX off n m xs (DW x) (Do x (AL ((xs.drop off).take n)) 0) (((0:Nat):Int)-1) [false]) :=
   A6 (AM MG AQ) AE Tryz.func125 (eP ..) ⟨rfl,trivial⟩ (Ru ..) hb (fun _ h=>by cases h)
  rw [show B6 (Do x (AL ((xs.drop off).take n)) 0) 1=DX x (AL ((xs.drop off).take n)) from by unfold Do;rw [Hr,Nat.pow_zero,Nat.div_one,eK]] at h
  exact Ah [false] h
 | succ c ih =>
  intro hc
  have hi:((c+1:Nat):Int)-1=(c:Int):=by omega
  rw [hi]
  have hlt:∀ d∈(xs.drop off).take n,0≤d∧d<18446744073709551616:=fun d hd=>hall d (List.mem_of_mem_drop (List.mem_of_mem_take hd))
  have hq:Int.tdiv (c:Int) 64=((c / 64:Nat):Int):=by rw [Int.tdiv_eq_ediv_of_nonneg (by omega)];rfl
  have hr:Int.tmod (c:Int) 64=((c % 64:Nat):Int):=by rw [Int.tmod_eq_emod_of_nonneg (by omega)];rfl
  have hw:wI (Int.tdiv (c:Int) 64)=((c / 64:Nat):Int):=by rw [hq];exact BO (by omega)
  have hj:c / 64<n:=by omega
  have hv:CI xs off c=((xs.drop off).take n).getD (c / 64) 0:=by
   unfold CI
   rw [hw,Int.toNat_natCast,Nat.mul_one,Hs hj]
  have hvb:0≤CI xs off c∧CI xs off c<18446744073709551616:=by
   rw [hv,List.getD_eq_getElem?_getD]
   cases h:((xs.drop off).take n)[c / 64]? with
   | none=>simp
   | some d=>exact hlt d (List.mem_of_getElem? h)
  have hbit:Ft (CI xs off c) (Int.tmod c 64)=((AL ((xs.drop off).take n) / 2^c % 2:Nat):Int):=by
   obtain ⟨V,hV⟩:=Int.eq_ofNat_of_zero_le hvb.1
   rw [hr,← Rq _ c hlt,← hv,hV,Int.toNat_natCast]
   exact Rp V _ (by omega) (by omega)
  have hnext:wI ((c:Int)-1)=(c:Int)-1:=BO (by omega)
  have hconds:∀ C6,decide (Ft (CI xs off c) (Int.tmod c 64)=1)=C6→AN (Rt off n xs c C6):=by
   intro C6 hbt
   refine ⟨by simp,rfl,?_,?_,?_,?_,hbt,trivial⟩
   ·rw [hw];simp;omega
   ·rw [hw];simp;omega
   ·simp
   ·simp only [decide_eq_true_eq];rw [hr];exact ⟨by omega,hvb.1⟩
  have hdiv:AL ((xs.drop off).take n) / 2^c=2*(AL ((xs.drop off).take n) / 2^(c+1))+AL ((xs.drop off).take n) / 2^c % 2:=by
   rw [Nat.pow_succ,← Nat.div_div_eq_div_mul];omega
  have ihc:=ih (by omega)
  rcases Nat.mod_two_eq_zero_or_one (AL ((xs.drop off).take n) / 2^c) with h0 | h1
  ·refine Ah [true,false] (Ai (AM MG AQ) AE (pow_zero ..) (hconds false (by rw [hbit,h0];rfl)) (Ru ..) hb (fun _ h=>by cases h) fun _=>?_)
   rw [hnext]
   have:B6 (Do x (AL ((xs.drop off).take n)) (c+1)) (Do x (AL ((xs.drop off).take n)) (c+1))=Do x (AL ((xs.drop off).take n)) c:=by
    unfold Do
    rw [Rs,← Nat.pow_add]
    congr 2;omega
   rw [this]
   exact ihc
  ·refine Ah [true,true] (Ai (AM MG AQ) AE (pow_one ..) (hconds true (by rw [hbit,h1];rfl)) (Ru ..) hb (fun _ h=>by cases h) fun _=>?_)
   rw [hnext]
   have:B6 (B6 (Do x (AL ((xs.drop off).take n)) (c+1)) (Do x (AL ((xs.drop off).take n)) (c+1))) (DW x)=Do x (AL ((xs.drop off).take n)) c:=by
    unfold Do
    rw [Rs,← Nat.pow_add,Rs,← Nat.pow_succ]
    congr 2;omega
   rw [this]
   exact ihc
end
theorem WH {off n m:Nat} {xs:List Int} (hall:∀ d∈xs,0≤d∧d<18446744073709551616) (hlen:off+n≤xs.length) (hn:n≤1125899906842624) (x:Nat) :
  Al Tryz.prog 125 (MI x off n m) (BT xs) 1 [] (Ad (DX x (AL ((xs.drop off).take n)))) []:=by
 refine A7 (path:=[]) Tryz.func125 (by kernel_rfl) (by kernel_rfl) fun β0 w0 hb=>?_
 refine Ai (AM MG AQ) AE (eO x off n m xs) ⟨?_,trivial⟩ (AT (by kernel_rfl)) hb (fun _ h=>by cases h) fun _=>?_
 ·simp only [AO,Bool.and_eq_true,decide_eq_true_eq];omega
 ·have h:=eQ hall hlen hn (x:=x) (m:=m) (w0:=w0) hb (64*n) (Nat.le_refl _)
  have e1:B6 (x % pN) EM=DW x:=by rw [WF (KP x),eL]
  have e2:B6 1 EM=Do x (AL ((xs.drop off).take n)) (64*n):=by
   rw [WF (by decide)]
   unfold Do
   have hl:AL ((xs.drop off).take n)<2^(64*n):=by
    have:=GW ((xs.drop off).take n) fun d hd=>hall d (List.mem_of_mem_drop (List.mem_of_mem_take hd))
    rwa [List.length_take,List.length_drop,Nat.min_eq_left (by omega)] at this
   rw [Nat.div_eq_of_lt hl,Nat.pow_zero]
  have e3:wI (wI (64*(n:Int))-1)=((64*n:Nat):Int)-1:=by
   rw [BO (z:=64*(n:Int)) (by omega),BO (by omega)];omega
  rw [e1,e2,e3]
  exact h
noncomputable def powSpec:ASpec:=fun args H fr path =>
 match args with
 | [.val true a,.val false [.sl k off n _]]=>match Bm 6 a,AF H k with
  | some x,some ⟨_,cs,_⟩=>match BE .u64 cs with
   | some xs=>some (Bg [k] 1 fr 0 [] (Ad (DX x (AL ((xs.drop off).take n)))) [] [(Nat.ble (off+n) xs.length,true),(Nat.ble n 1125899906842624,true)] path)
   | none=>none
  | _,_=>none
 | _=>none
theorem WI:BN Tryz.prog 125 powSpec:=by
 refine FV Tryz.func125 (by kernel_rfl) (by kernel_rfl) fun args H fr path r h=>?_
 unfold powSpec at h
 split at h
 case h_2=>cases h
 rename_i a k off n m
 split at h
 case h_2=>cases h
 rename_i x ty cs o hx hk
 split at h
 case h_2=>cases h
 rename_i xs hxs
 injection h with h
 refine ⟨[k],MI x off n m,BT xs,1,0,[],Ad (DX x (AL ((xs.drop off).take n))),[],_,path,h.symm,fun β us w ha hg hc=>?_⟩
 obtain ⟨u1,us1,r1,⟨u2,us2,r2,ha,rfl⟩,rfl⟩:=ha
 obtain ⟨l,g1⟩:=Ef hg hk
 obtain ⟨_,g2⟩:=B7 hxs g1
 refine ⟨WH (fun d hd=>B9 (g2 d hd)) (Nat.le_of_ble_eq_true hc.1) (Nat.le_of_ble_eq_true hc.2.1) x,by kernel_rfl,⟨u1,_,?_,⟨u2,us2,?_,ha,rfl⟩,rfl⟩,OD (c:=[.seq .u64 xs]) hg hk (fun l h=>?_),fun j hj=>?_⟩
 ·obtain ⟨l,q,rfl⟩:=r1;exact ⟨l,Dy hx q,rfl⟩
 ·exact r2
 ·obtain ⟨q1,q2⟩:=B7 hxs h
  exact ⟨_,[],⟨q1,q2⟩,rfl,by simp⟩
 ·match j,hj with
  | 0,_=>exact EL (hg.heap _ _ hk)
noncomputable def S9:List (FuncId×ASpec):=(125,powSpec)::S8
theorem eR:AS Tryz.prog S9:=⟨WI,MG⟩
def AA (xs:List Int) (off n:Nat):List Int:=(xs.drop off).take n
theorem C8 {xs:List Int} {off n:Nat} {P:Int→Prop} (h:∀ d∈xs,P d):∀ d∈AA xs off n,P d:=fun d hd=>h d (List.mem_of_mem_drop (List.mem_of_mem_take hd))
def BW (xs:List Int) (off n:Nat) (i:Int):Int:=(AA xs off n).getD i.toNat 0
def OG (off n m:Nat) (i:Int):List AV:=[.val false [.sl 0 off n m],.val false [.v (.int .i64 i)]]
theorem eS (off n m:Nat) (i:Int) (xs:List Int):AP Tryz.prog (AI S0 K0) Tryz.f156 100 1 [] (Ak Tryz.f156 (OG off n m i) (BT xs) 1 [true]) =
 some ([(AO .i64 n,true),(decide (i<n),true),(decide (0≤i∧i<n),true),(decide (off+i.toNat*1<xs.length),true)],[],.val false [.v (.int .u64 (xs.getD (off+i.toNat*1) 0))],[]):=by kernel_rfl
theorem eU (off n m:Nat) (i:Int) (xs:List Int):AP Tryz.prog (AI S0 K0) Tryz.f156 100 1 [] (Ak Tryz.f156 (OG off n m i) (BT xs) 1 [false]) =
 some ([(AO .i64 n,true),(decide (i<n),false)],[],.val false [.n .u64 0],[]):=by kernel_rfl
theorem Be {P:Program} {f:FuncId} {args0:List AV} {H0 H1:Heap} {k0:Nat} {W:List Nat} {v v':AV} (h:Al P f args0 H0 k0 W v H1) (hv:∀ β u,AH β v u→AH β v' u):Al P f args0 H0 k0 W v' H1 :=
 fun β us w a b c=>Calls.mono (h β us w a b c) fun _ _ ⟨u,β',q1,q2⟩=>⟨u,β',q1,{ q2 with val:=hv _ _ q2.val }⟩
theorem WJ {β:Env} {k:IntKind} {i:Int} {u:Value} (h:AH β (.val false [.n k i]) u):AH β (.val false [.v (.int k i)]) u:=MC (cs:=[.n k i]) h
theorem eV {off n m:Nat} {xs:List Int} (hlen:off+n≤xs.length) (hn:AO .i64 n=true) {i:Int} (hi:0≤i) :
  Al Tryz.prog 156 (OG off n m i) (BT xs) 1 [] (.val false [.v (.int .u64 (BW xs off n i))]) []:=by
 by_cases h:i<n
 ·refine A7 (path:=[true]) Tryz.func156 (by kernel_rfl) (by kernel_rfl) fun β0 w0 hb=>?_
  rw [show BW xs off n i=xs.getD (off+i.toNat*1) 0 from by rw [Nat.mul_one];exact Hs (by omega)]
  exact A6 (AM Hg AQ) AE Tryz.func156 (eS off n m i xs) ⟨hn,by simp [h],by simp [hi,h],by simp;omega,trivial⟩ (AT (by kernel_rfl)) hb (fun _ h=>by cases h)
 ·have e:BW xs off n i=0:=by
   unfold BW AA
   rw [List.getD_eq_getElem?_getD,List.getElem?_eq_none (by rw [List.length_take];omega)];rfl
  rw [e]
  refine Be (v:=.val false [.n .u64 0]) (A7 (path:=[false]) Tryz.func156 (by kernel_rfl) (by kernel_rfl) fun β0 w0 hb=>?_) fun _ _=>WJ
  exact A6 (AM Hg AQ) AE Tryz.func156 (eU off n m i xs) ⟨hn,by simp [h],trivial⟩ (AT (by kernel_rfl)) hb (fun _ h=>by cases h)
def atSpec:ASpec:=fun args H fr path =>
 match args with
 | [.val false [.sl k off n _],I]=>match BH (some I),AF H k with
  | some (_,.i64,i),some ⟨_,cs,_⟩=>match BE .u64 cs with
   | some xs=>some (Bg [k] 1 fr 0 [] (.val false [.v (.int .u64 (BW xs off n i))]) [] [(Nat.ble (off+n) xs.length,true),(AO .i64 n,true),(decide (0≤i),true)] path)
   | none=>none
  | _,_=>none
 | _=>none
theorem KW {β:Env} {H:Heap} {w:World} {k:Nat} {ty:Nat} {cs:List Ch} {o:Bool} {xs:List Int} (hg:Ex.Good β H w) (hk:AF H k=some ⟨ty,cs,o⟩) (hxs:BE .u64 cs=some xs) :
  (∀ d∈xs,0≤d∧d<18446744073709551616)∧Ex.Good (A_ β [k] 1) (BT xs) w∧(∀ j,j<1→∃ X,β (nth [k] j)=some X):=by
 obtain ⟨l,g1⟩:=Ef hg hk
 obtain ⟨_,g2⟩:=B7 hxs g1
 refine ⟨fun d hd=>B9 (g2 d hd),OD (c:=[.seq .u64 xs]) hg hk (fun l h=>?_),fun j hj=>?_⟩
 ·obtain ⟨q1,q2⟩:=B7 hxs h
  exact ⟨_,[],⟨q1,q2⟩,rfl,by simp⟩
 ·match j,hj with
  | 0,_=>exact EL (hg.heap _ _ hk)
theorem eW:BN Tryz.prog 156 atSpec:=by
 refine FV Tryz.func156 (by kernel_rfl) (by kernel_rfl) fun args H fr path r h=>?_
 unfold atSpec at h
 split at h
 case h_2=>cases h
 rename_i k off n m I
 split at h
 case h_2=>cases h
 rename_i c0 i ty cs o hI hk
 split at h
 case h_2=>cases h
 rename_i xs hxs
 injection h with h
 refine ⟨[k],OG off n m i,BT xs,1,0,[],_,[],_,path,h.symm,fun β us w ha hg hc=>?_⟩
 obtain ⟨u1,us1,r1,⟨u2,us2,r2,ha,rfl⟩,rfl⟩:=ha
 obtain ⟨g1,g2,g3⟩:=KW hg hk hxs
 obtain ⟨rfl,p1⟩:=Bd (β:=β) (u:=u2) (fun A hA=>by injection hA with hA;subst hA;exact r2) hI
 exact ⟨eV (Nat.le_of_ble_eq_true hc.1) hc.2.1 (by simpa using hc.2.2.1),by kernel_rfl,⟨u1,_,r1,⟨_,us2,Ab ⟨rfl,rfl,p1⟩,ha,rfl⟩,rfl⟩,g2,g3⟩
noncomputable def S10:List (FuncId×ASpec):=(156,atSpec)::S9
theorem KX:AS Tryz.prog S10:=⟨eW,eR⟩
def E3 (xs ys:List Int):Heap:=[(0,some (CH [.seq .u64 xs])),(1,some (CH [.seq .u64 ys]))]
def OH (off n m off' n' m':Nat):List AV:=[.val false [.sl 0 off n m],.val false [.sl 1 off' n' m']]
noncomputable def fA:List Item:=DI (Aa Tryz.prog (AI S10 K0) (some 0) 100 2 none (Ak Tryz.f122 (OH 0 0 0 0 0 0) (E3 [] []) 2 []))
noncomputable def fB (off n m off' n' m':Nat) (i:Int):List AV:=.val false [.sl 0 off n m]::.val false [.sl 1 off' n' m']::.any::.any::.val false [.n .i64 0]::.val false [.v (.int .i64 i)]::List.replicate (Tryz.f122.ntmps-6) .any
section
variable (off n m off' n' m':Nat) (xs ys:List Int)
noncomputable def Ht (i:Int) (p:List Bool):ASt:=⟨fA,⟨fB off n m off' n' m' i,E3 xs ys,2,p⟩⟩
def Hu (a b:Int):Int:=if b > a then b else a
theorem fC:Aa Tryz.prog (AI S10 K0) (some 0) 100 2 (some ([0,1,4,5],[0,1],2)) (Ak Tryz.f122 (OH off n m off' n' m') (E3 xs ys) 2 []) =
 some ([(AO .i64 n,true),(AO .i64 n',true)],[],Ht off n m off' n' m' xs ys (wI (Hu n n'-1)) []):=by kernel_rfl
def OI (i:Int) (r:List (Bool×Bool)):List (Bool×Bool):=(decide (0≤i),true)::(Nat.ble (off+n) xs.length,true)::(AO .i64 n,true)::(decide (0≤i),true)::(Nat.ble (off'+n') ys.length,true)::(AO .i64 n',true)::(decide (0≤i),true)::r
theorem fD (i:Int):Aa Tryz.prog (AI S10 K0) (some 0) 100 2 (some ([0,1,4,5],[0,1],2)) (Ht off n m off' n' m' xs ys i [true,true]) =
 some (OI off n off' n' xs ys i [(decide (BW xs off n i=BW ys off' n' i),true)],[],Ht off n m off' n' m' xs ys (wI (i-1)) []):=by kernel_rfl
theorem fE (i:Int):AP Tryz.prog (AI S10 K0) Tryz.f122 100 2 [] (Ht off n m off' n' m' xs ys i [true,false,true]) =
 some (OI off n off' n' xs ys i [(decide (BW xs off n i=BW ys off' n' i),false),(decide (BW xs off n i<BW ys off' n' i),true)],[],.val false [.n .i64 (-1)],[]):=by kernel_rfl
theorem fF (i:Int):AP Tryz.prog (AI S10 K0) Tryz.f122 100 2 [] (Ht off n m off' n' m' xs ys i [true,false,false]) =
 some (OI off n off' n' xs ys i [(decide (BW xs off n i=BW ys off' n' i),false),(decide (BW xs off n i<BW ys off' n' i),false)],[],.val false [.n .i64 1],[]):=by kernel_rfl
theorem fG (i:Int):AP Tryz.prog (AI S10 K0) Tryz.f122 100 2 [] (Ht off n m off' n' m' xs ys i [false]) =
 some ([(decide (0≤i),false)],[],.val false [.n .i64 0],[]):=by kernel_rfl
theorem OJ (i:Int) (p:List Bool):Bo Tryz.f122.ntmps (Ht off n m off' n' m' xs ys i p).s:=AT (by kernel_rfl)
end
theorem Rv {P:Program} {f:FuncId} {β0:Env} {w0:World} {W W':List Nat} {v v':AV} {H:Heap} {n:Nat} {x:ASt} (h:ASafe P f β0 w0 (BS β0 w0 W v H) n W' x) (hv:∀ β u,AH β v u→AH β v' u):ASafe P f β0 w0 (BS β0 w0 W v' H) n W' x:=by
 intro β a w hi hf b cs q1 q2
 obtain ⟨e',w',fr,⟨u,β',q5,q6⟩,q4⟩:=h β a w hi hf b cs q1 q2
 exact ⟨e',w',fr,⟨u,β',q5,{ q6 with val:=hv _ _ q6.val }⟩,q4⟩
theorem WK {x y Q:Nat} (h:x / Q<y / Q):x<y:=Nat.lt_of_not_le fun hle=>absurd (Nat.div_le_div_right (c:=Q) hle) (by omega)
def EN (x y:Nat):Int:=if x<y then -1 else if y<x then 1 else 0
theorem Rw {ws:List Int} (h:∀ d∈ws,0≤d∧d<18446744073709551616) (c:Nat):AL ws / 2^(64*c)=(ws.getD c 0).toNat+18446744073709551616*(AL ws / 2^(64*(c+1))):=by
 rw [← MH ws c h,show 64*(c+1)=64*c+64 by omega,Nat.pow_add,← Nat.div_div_eq_div_mul]
 omega
theorem MJ {ws:List Int} (h:∀ d∈ws,0≤d∧d<18446744073709551616) (c:Nat):0≤ws.getD c 0∧ws.getD c 0<18446744073709551616:=by
 rw [List.getD_eq_getElem?_getD]
 cases h':ws[c]? with
 | none=>simp
 | some d=>exact h d (List.mem_of_getElem? h')
theorem OK {β:Env} {k:IntKind} {i j:Int} {u:Value} (e:i=j) (h:AH β (.val false [.n k i]) u):AH β (.val false [.v (.int k j)]) u:=by subst e;exact WJ h
section
variable {off n m off' n' m':Nat} {xs ys:List Int} (hx:∀ d∈xs,0≤d∧d<18446744073709551616) (hy:∀ d∈ys,0≤d∧d<18446744073709551616) (hl:off+n≤xs.length) (hl':off'+n'≤ys.length)
 (hn:AO .i64 n=true) (hn':AO .i64 n'=true) {β0:Env} {w0:World} (hb:∀ b,2≤b→β0 b=none)
include hx hy hl hl' hn hn' hb
theorem fH:∀ c,c≤max n n'→AL (AA xs off n) / 2^(64*c)=AL (AA ys off' n') / 2^(64*c) →
  ASafe Tryz.prog 122 β0 w0 (BS β0 w0 [] (.val false [.v (.int .i64 (EN (AL (AA xs off n)) (AL (AA ys off' n'))))]) []) Tryz.f122.ntmps [] (Ht off n m off' n' m' xs ys ((c:Int)-1) []):=by
 intro c
 induction c with
 | zero =>
  intro _ heq
  rw [Nat.mul_zero,Nat.pow_zero,Nat.div_one,Nat.div_one] at heq
  have h:=A6 (w0:=w0) (W:=[]) (n:=Tryz.f122.ntmps) (AM KX AQ) AE Tryz.func122 (fG off n m off' n' m' xs ys (((0:Nat):Int)-1)) ⟨rfl,trivial⟩ (OJ ..) hb (fun _ h=>by cases h)
  exact Ah [false] (Rv h fun _ _=>OK (by unfold EN;rw [heq];simp))
 | succ c ih =>
  intro hc heq
  have hi:((c+1:Nat):Int)-1=(c:Int):=by omega
  rw [hi]
  have bn:n≤9223372036854775807:=by simp only [AO,Bool.and_eq_true,decide_eq_true_eq] at hn;omega
  have bn':n'≤9223372036854775807:=by simp only [AO,Bool.and_eq_true,decide_eq_true_eq] at hn';omega
  have sx:=Rw (C8 (off:=off) (n:=n) hx) c
  have sy:=Rw (C8 (off:=off') (n:=n') hy) c
  have bx:=MJ (C8 (off:=off) (n:=n) hx) c
  have byy:=MJ (C8 (off:=off') (n:=n') hy) c
  have ex:BW xs off n c=(AA xs off n).getD c 0:=by unfold BW;rw [Int.toNat_natCast]
  have ey:BW ys off' n' c=(AA ys off' n').getD c 0:=by unfold BW;rw [Int.toNat_natCast]
  have hC:∀ r,AN r→AN (OI off n off' n' xs ys c r):=fun r hr=>⟨by simp,Nat.ble_eq_true_of_le hl,hn,by simp,Nat.ble_eq_true_of_le hl',hn',by simp,hr⟩
  by_cases he:BW xs off n c=BW ys off' n' c
  ·refine Ah [true,true] (Ai (AM KX AQ) AE (fD ..) (hC _ ⟨by simp [he],trivial⟩) (OJ ..) hb (fun _ h=>by cases h) fun _=>?_)
   rw [BO (z:=(c:Int)-1) (by omega)]
   exact ih (by omega) (by rw [sx,sy,heq,← ex,← ey,he])
  ·by_cases hlt:BW xs off n c<BW ys off' n' c
   ·have h:=A6 (w0:=w0) (W:=[]) (n:=Tryz.f122.ntmps) (AM KX AQ) AE Tryz.func122 (fE off n m off' n' m' xs ys c) (hC _ ⟨by simp [he],by simp [hlt],trivial⟩) (OJ ..) hb (fun _ h=>by cases h)
    refine Ah [true,false,true] (Rv h fun _ _=>OK ?_)
    have:AL (AA xs off n)<AL (AA ys off' n'):=WK (Q:=2^(64*c)) (by rw [sx,sy,heq];omega)
    unfold EN;rw [if_pos this]
   ·have h:=A6 (w0:=w0) (W:=[]) (n:=Tryz.f122.ntmps) (AM KX AQ) AE Tryz.func122 (fF off n m off' n' m' xs ys c) (hC _ ⟨by simp [he],by simp [hlt],trivial⟩) (OJ ..) hb (fun _ h=>by cases h)
    refine Ah [true,false,false] (Rv h fun _ _=>OK ?_)
    have:AL (AA ys off' n')<AL (AA xs off n):=WK (Q:=2^(64*c)) (by rw [sx,sy,heq];omega)
    unfold EN;rw [if_neg (by omega),if_pos this]
end
theorem fI {off n m off' n' m':Nat} {xs ys:List Int} (hx:∀ d∈xs,0≤d∧d<18446744073709551616) (hy:∀ d∈ys,0≤d∧d<18446744073709551616) (hl:off+n≤xs.length) (hl':off'+n'≤ys.length)
  (hn:AO .i64 n=true) (hn':AO .i64 n'=true):Al Tryz.prog 122 (OH off n m off' n' m') (E3 xs ys) 2 [] (.val false [.v (.int .i64 (EN (AL (AA xs off n)) (AL (AA ys off' n'))))]) []:=by
 refine A7 (path:=[]) Tryz.func122 (by kernel_rfl) (by kernel_rfl) fun β0 w0 hb=>?_
 refine Ai (AM KX AQ) AE (fC off n m off' n' m' xs ys) ⟨hn,hn',trivial⟩ (AT (by kernel_rfl)) hb (fun _ h=>by cases h) fun _=>?_
 have bn:n≤9223372036854775807:=by simp only [AO,Bool.and_eq_true,decide_eq_true_eq] at hn;omega
 have bn':n'≤9223372036854775807:=by simp only [AO,Bool.and_eq_true,decide_eq_true_eq] at hn';omega
 have e:wI (Hu n n'-1)=((max n n':Nat):Int)-1:=by
  have:Hu n n'=((max n n':Nat):Int):=by unfold Hu;split<;>omega
  rw [this,BO (by omega)]
 rw [e]
 refine fH hx hy hl hl' hn hn' hb _ (Nat.le_refl _) ?_
 have big:∀ (zs:List Int) (of k:Nat),(∀ d∈zs,0≤d∧d<18446744073709551616)→k≤max n n'→AL (AA zs of k) / 2^(64*max n n')=0:=by
  intro zs of k hz hk
  refine Nat.div_eq_of_lt (Nat.lt_of_lt_of_le (GW _ (C8 hz)) (Nat.pow_le_pow_right (by decide) ?_))
  have:(AA zs of k).length≤k:=by unfold AA;rw [List.length_take];omega
  omega
 rw [big xs off n hx (by omega),big ys off' n' hy (by omega)]
theorem WL {β:Env} {H:Heap} {w:World} {k t:Nat} {ty ty':Nat} {cs ds:List Ch} {o o':Bool} {xs ys:List Int} (hg:Ex.Good β H w) (hk:AF H k=some ⟨ty,cs,o⟩) (ht:AF H t=some ⟨ty',ds,o'⟩) (hxs:BE .u64 cs=some xs) (hys:BE .u64 ds=some ys) :
  (∀ d∈xs,0≤d∧d<18446744073709551616)∧(∀ d∈ys,0≤d∧d<18446744073709551616)∧Ex.Good (A_ β [k,t] 2) (E3 xs ys) w∧(∀ j,j<2→∃ X,β (nth [k,t] j)=some X):=by
 obtain ⟨l,g1⟩:=Ef hg hk
 obtain ⟨_,g2⟩:=B7 hxs g1
 obtain ⟨l',g1'⟩:=Ef hg ht
 obtain ⟨_,g2'⟩:=B7 hys g1'
 refine ⟨fun d hd=>B9 (g2 d hd),fun d hd=>B9 (g2' d hd),dQ (c:=[.seq .u64 xs]) (e:=[.seq .u64 ys]) hg hk ht (fun l h=>?_) (fun l h=>?_),fun j hj=>?_⟩
 ·obtain ⟨q1,q2⟩:=B7 hxs h
  exact ⟨_,[],⟨q1,q2⟩,rfl,by simp⟩
 ·obtain ⟨q1,q2⟩:=B7 hys h
  exact ⟨_,[],⟨q1,q2⟩,rfl,by simp⟩
 ·match j,hj with
  | 0,_=>exact EL (hg.heap _ _ hk)
  | 1,_=>exact EL (hg.heap _ _ ht)
def cmpSpec:ASpec:=fun args H fr path =>
 match args with
 | [.val false [.sl k off n _],.val false [.sl t off' n' _]]=>match AF H k,AF H t with
  | some ⟨_,cs,_⟩,some ⟨_,ds,_⟩=>match BE .u64 cs,BE .u64 ds with
   | some xs,some ys=>some (Bg [k,t] 2 fr 0 [] (.val false [.v (.int .i64 (EN (AL (AA xs off n)) (AL (AA ys off' n'))))]) [] [(Nat.ble (off+n) xs.length,true),(Nat.ble (off'+n') ys.length,true),(AO .i64 n,true),(AO .i64 n',true)] path)
   | _,_=>none
  | _,_=>none
 | _=>none
theorem fJ:BN Tryz.prog 122 cmpSpec:=by
 refine FV Tryz.func122 (by kernel_rfl) (by kernel_rfl) fun args H fr path r h=>?_
 unfold cmpSpec at h
 split at h
 case h_2=>cases h
 rename_i k off n m t off' n' m'
 split at h
 case h_2=>cases h
 rename_i ty cs o ty' ds o' hk ht
 split at h
 case h_2=>cases h
 rename_i xs ys hxs hys
 injection h with h
 refine ⟨[k,t],OH off n m off' n' m',E3 xs ys,2,0,[],_,[],_,path,h.symm,fun β us w ha hg hc=>?_⟩
 obtain ⟨u1,us1,r1,⟨u2,us2,r2,ha,rfl⟩,rfl⟩:=ha
 obtain ⟨g1,g1',g2,g3⟩:=WL hg hk ht hxs hys
 exact ⟨fI g1 g1' (Nat.le_of_ble_eq_true hc.1) (Nat.le_of_ble_eq_true hc.2.1) hc.2.2.1 hc.2.2.2.1,by kernel_rfl,⟨u1,_,r1,⟨u2,us2,r2,ha,rfl⟩,rfl⟩,g2,g3⟩
noncomputable def S11:List (FuncId×ASpec):=(122,cmpSpec)::S10
theorem OL:AS Tryz.prog S11:=⟨fJ,KX⟩
def GY (x:Nat):List Int:=(List.range 6).map (AB x)++[]
theorem KY {x:Nat} (h:x<RR):AL (AA (GY x) (0+0*1) (6-0))=x :=
 (show AL (AA (GY x) (0+0*1) (6-0))=Hn (AB x 0) (AB x 1) (AB x 2) (AB x 3) (AB x 4) (AB x 5) by kernel_rfl).trans (WA h)
def CL (i:Int):AV:=.val false [.v (.int .i64 i)]
def Cp (b:Bool):AV:=.val false [.v (.bool b)]
theorem fK (x:Nat):AR Tryz.prog (AI S11 K0) Tryz.f127 [Ad x] [] 300=some ([],CL (wI (bits .and .u64 (AB (x % pN) 0) 1))):=by kernel_rfl
def D0 (x:Nat):Int:=((x % pN % 2:Nat):Int)
theorem WM (x:Nat):AB x 0=((x % 18446744073709551616:Nat):Int):=by simp only [AB,Nat.mul_zero,Nat.pow_zero,Nat.div_one]
theorem WN (v:Nat) (hv:v<18446744073709551616):bits .and .u64 (v:Int) 1=((v % 2:Nat):Int):=by
 have h:=(bits_nat .u64 64 (by decide) (fun n h0 h1=>by rw [IntKind.wrap_u64];omega) v 1 (by omega) (by decide)).1
 refine Eq.trans h ?_
 rw [Nat.and_one_is_mod]
theorem fL (x:Nat):AU Tryz.prog 127 [Ad x] (CL (D0 x)):=by
 have h:=AW (AM OL AQ) AE Tryz.func127 (fK x) trivial rfl
 have e:wI (bits .and .u64 (AB (x % pN) 0) 1)=D0 x:=by
  rw [WM,WN _ (by omega),BO (by omega)]
  unfold D0;omega
 rw [e] at h
 exact h
theorem fM (x:Nat):AR Tryz.prog (AI S11 K0) Tryz.f71 [Ad x] [] 300=some (Fs 4,Cp (decide (0<EN (AL (AA (GY (x % pN)) (0+0*1) (6-0))) (AL (AA (GY (B5 x)) (0+0*1) (6-0)))))):=by kernel_rfl
def CB (x:Nat):Bool:=decide (B5 x<x % pN)
theorem Rx (x:Nat):B5 x<pN:=Nat.mod_lt _ B_
theorem fN (x:Nat):AU Tryz.prog 71 [Ad x] (Cp (CB x)):=by
 have h:=AW (AM OL AQ) AE Tryz.func71 (fM x) (KT _) rfl
 rw [KY (KP x),KY (Nat.lt_trans (Rx x) (by decide))] at h
 have e:decide (0<EN (x % pN) (B5 x))=CB x:=by
  unfold EN CB
  by_cases h1:x % pN<B5 x
  ·rw [if_pos h1,decide_eq_false (by omega),decide_eq_false (by omega)]
  ·by_cases h2:B5 x<x % pN
   ·rw [if_neg h1,if_pos h2,decide_eq_true h2];rfl
   ·rw [if_neg h1,if_neg h2,decide_eq_false h2];rfl
 rw [e] at h
 exact h
def QN:Nat:=1000602388805416848354447456433976039139220704984751971333014534031007912622709466110671907282253916009473568139947
def QC:List Ch:=[.n .u64 0xee7fbfffffffeaab,.n .u64 0x7aaffffac54ffff,.n .u64 0xd9cc34a83dac3d89,.n .u64 0xd91dd2e13ce144af,.n .u64 0x92c6e9ed90d2eb35,.n .u64 0x680447a8e5ff9a6]
theorem fO:AR Tryz.prog (AI S11 K0) Tryz.f124 [] [] 300=some ([],.val true QC):=by kernel_rfl
theorem fP:AU Tryz.prog 124 [] (.val true QC):=AW (AM OL AQ) AE Tryz.func124 fO trivial rfl
noncomputable def S12:List (FuncId×ASpec):=(124,Am fun args=>match args with | []=>some (Ad QN) | _=>none)::(127,Am (GV fun x=>CL (D0 x)))::(71,Am (GV fun x=>Cp (CB x)))::S11
theorem Ry:AS Tryz.prog S12:=⟨Ap Tryz.func124 (by kernel_rfl) (by kernel_rfl) (MF fP fun u h=>OF (by kernel_rfl) h),Ap Tryz.func127 (by kernel_rfl) (by kernel_rfl) (JA fun x _=>fL x),Ap Tryz.func71 (by kernel_rfl) (by kernel_rfl) (JA fun x _=>fN x),OL⟩
def Eg (y:Nat):Nat:=if D0 y=1 then B5 y else y
theorem fQ (y:Nat):AR Tryz.prog (AI S12 K0) Tryz.f126 [Ad y] [true] 300=some ([(decide (D0 y=1),true)],Ad (B5 y)):=by kernel_rfl
theorem fR (y:Nat):AR Tryz.prog (AI S12 K0) Tryz.f126 [Ad y] [false] 300=some ([(decide (D0 y=1),false)],Ad y):=by kernel_rfl
theorem fS (y:Nat):AU Tryz.prog 126 [Ad y] (Ad (Eg y)):=by
 unfold Eg
 by_cases h:D0 y=1
 ·rw [if_pos h];exact AW (AM Ry AQ) AE Tryz.func126 (fQ y) ⟨by simp [h],trivial⟩ rfl
 ·rw [if_neg h];exact AW (AM Ry AQ) AE Tryz.func126 (fR y) ⟨by simp [h],trivial⟩ rfl
noncomputable def S13:List (FuncId×ASpec):=(126,Am (GV fun x=>Ad (Eg x)))::S12
theorem Rz:AS Tryz.prog S13:=⟨Ap Tryz.func126 (by kernel_rfl) (by kernel_rfl) (JA fun x _=>fS x),Ry⟩
noncomputable def JC (a:Nat):Nat:=DX a (AL (AA (GY QN) (0+0*1) (6-0)))
theorem fT (a:Nat):AR Tryz.prog (AI S13 K0) Tryz.f74 [Ad a] [true] 300=some ([(true,true),(true,true),(!decide (AX (JC a) (JC a)=a % pN),true)],.tup [(true,I8),(false,[.b false])]):=by kernel_rfl
theorem fU (a:Nat):AR Tryz.prog (AI S13 K0) Tryz.f74 [Ad a] [false] 300=some ([(true,true),(true,true),(!decide (AX (JC a) (JC a)=a % pN),false)],.tup [(true,[.num 6 (Eg (JC a))]),(false,[.b true])]):=by kernel_rfl
noncomputable def CC (a:Nat):Bool:=decide (AX (DX a QN) (DX a QN)=a % pN)
noncomputable def CJ (a:Nat):Nat:=if CC a=true then Eg (DX a QN) else 0
theorem R0 (a:Nat):JC a=DX a QN:=by unfold JC;rw [KY (by decide)]
noncomputable def WO (a:Nat):AV:=.tup [(true,[.num 6 (CJ a)]),(false,[.v (.bool (CC a))])]
theorem Dp {P:Program} {f:FuncId} {args:List AV} {v v':AV} (h:AU P f args v) (hv:∀ u,AH BY v u→AH BY v' u):AU P f args v' :=
 fun us w a=>Calls.mono (h us w a) fun _ _ ⟨u,q1,q2,q3⟩=>⟨u,q1,hv u q2,q3⟩
theorem KZ {b b':Bool} {u:Value} (e:b=b') (h:A9 BY false [.b b] u):A9 BY false [.v (.bool b')] u:=by
 subst e
 obtain ⟨l1,l2,p1,p2,p3⟩:=h
 exact ⟨l1,l2,⟨p1,rfl,trivial⟩,p2,p3⟩
theorem fV (a:Nat):AU Tryz.prog 74 [Ad a] (WO a):=by
 by_cases h:CC a=true
 ·have h1:=AW (AM Rz AQ) AE Tryz.func74 (fU a) ⟨rfl,rfl,by rw [R0];unfold CC at h;rw [h];rfl,trivial⟩ rfl
  refine Dp h1 ?_
  rintro u ⟨us,⟨u1,l1,q1,⟨u2,l2,q2,q3,rfl⟩,rfl⟩,rfl⟩
  refine ⟨_,⟨u1,_,?_,⟨u2,l2,KZ h.symm q2,q3,rfl⟩,rfl⟩,rfl⟩
  unfold CJ;rw [if_pos h,← R0];exact q1
 ·have h0:CC a=false:=by simpa using h
  have h1:=AW (AM Rz AQ) AE Tryz.func74 (fT a) ⟨rfl,rfl,by rw [R0];unfold CC at h0;rw [h0];rfl,trivial⟩ rfl
  refine Dp h1 ?_
  rintro u ⟨us,⟨u1,l1,q1,⟨u2,l2,q2,q3,rfl⟩,rfl⟩,rfl⟩
  refine ⟨_,⟨u1,_,?_,⟨u2,l2,KZ h0.symm q2,q3,rfl⟩,rfl⟩,rfl⟩
  unfold CJ;rw [if_neg h]
  exact OF (by kernel_rfl) q1
noncomputable def S14:List (FuncId×ASpec):=(74,Am (GV WO))::S13
theorem fW:AS Tryz.prog S14:=⟨Ap Tryz.func74 (by kernel_rfl) (by kernel_rfl) (JA fun x _=>fV x),Rz⟩
noncomputable def S15:List (FuncId×ASpec):=S14
theorem fX:AS Tryz.prog S15:=fW
def GZ (sp:List AV→Option (List (Bool×Bool)×AV)):ASpec:=fun args _ _ path =>
 match Nq args,sp args with
 | true,some (c,v)=>match Ix v with
  | true=>some { A5 v path with conds:=c }
  | false=>none
 | _,_=>none
theorem JD {P:Program} {f:FuncId} {fn:Func} {sp:List AV→Option (List (Bool×Bool)×AV)} (hfn:P.funcs[f]? = some fn) (hb:fn.body.isSome=true) (hname:(fn.name=="runtime.NumGoroutine")=false) (h:∀ args c v,sp args=some (c,v)→AN c→AU P f args v):BN P f (GZ sp):=by
 intro args H fr path r β us w hs hc ha hg hf
 unfold GZ at hs
 split at hs
 ·rename_i c v hk hv
  split at hs
  ·rename_i hkv
   injection hs with hs;subst hs
   refine Lp hfn hb hname (Calls.mono (h args c v hv hc us w (Q_ hk ha)) ?_)
   rintro e w' ⟨u,rfl,hu,hbl⟩
   refine ⟨u,β,rfl,?_⟩
   exact ⟨Env.le_refl _,fun _ _ h=>.inl h,fun b B n hb=>Nat.lt_of_lt_of_le (hg.lt b B n hb) hbl.size,fun b b' _ _ _ h1 _ h3=>by simp [A5] at h3;omega,Lo hkv hu,fun _ _ h=>(by cases h),fun B hB _=>hbl.block B hB,hbl.size,hbl.os,hbl.tape,hbl.output⟩
  ·cases hs
 ·cases hs
noncomputable def S16:List (FuncId×ASpec):=S15
theorem fY:AS Tryz.prog S16:=fX
def Gu:AV→AV
 | .val g cs=>.val g (cs.map nv)
 | a=>a
theorem fZ {β:Env} {a:AV} {u:Value} (h:AH β a u):AH β (Gu a) u:=by
 cases a with
 | val g cs=>cases g with
  | false=>exact MC h
  | true=>obtain ⟨l,q,e⟩:=h;exact ⟨l,MC q,e⟩
 | tup xs=>exact h
 | any=>exact h
theorem WP:∀ (T:List AV) (t:Nat),Aj (T.map Gu) t=Gu (Aj T t)∨Aj (T.map Gu) t=Aj T t
 | [],_=>.inr rfl
 | _::_,0=>.inl rfl
 | _::r,t+1=>WP r t
theorem R1 {P:Program} {f:FuncId} {β0:Env} {w0:World} {R:Ending→World→Prop} {n:Nat} {W:List Nat} {todo:List Item} {T:List AV} {H:Heap} {fr:Nat} {p:List Bool} (h:ASafe P f β0 w0 R n W ⟨todo,⟨T.map Gu,H,fr,p⟩⟩):ASafe P f β0 w0 R n W ⟨todo,⟨T,H,fr,p⟩⟩:=by
 intro β a w hi hf
 refine h β a w { hi with tmp:=fun t=>?_ } hf
 rcases WP T t with e | e
 ·show AH β (Aj (T.map Gu) t) _
  rw [e];exact fZ (hi.tmp t)
 ·show AH β (Aj (T.map Gu) t) _
  rw [e];exact hi.tmp t
theorem R2 {xs:List Int} {off n:Nat} (h:∀ d∈xs,0≤d∧d<18446744073709551616) (i:Nat):BW xs off n i=((AL (AA xs off n) / 2^(64*i) % 18446744073709551616:Nat):Int):=by
 have:=MH (AA xs off n) i (C8 h)
 have hb:=MJ (C8 (off:=off) (n:=n) h) i
 unfold BW
 rw [Int.toNat_natCast]
 have e:(2:Nat)^64=18446744073709551616:=rfl
 rw [e] at this
 omega
section
variable {off n m off' n' m':Nat} {xs xs':List Int} (hx:∀ d∈xs,0≤d∧d<18446744073709551616) (hy:∀ d∈xs',0≤d∧d<18446744073709551616) (hl:off+n≤xs.length) (hl':off'+n'≤xs'.length)
 (hn:AO .i64 n=true) (hn':AO .i64 n'=true) {β0:Env} {w0:World} (hb:∀ b,2≤b→β0 b=none)
include hx hy hl hl' hn hn' hb
end
noncomputable def S17:List (FuncId×ASpec):=S16
theorem f6:AS Tryz.prog S17:=fY
noncomputable def S18:List (FuncId×ASpec):=S17
theorem f7:AS Tryz.prog S18:=f6
end Go.Proofs.YtojnabmgolpodaaGreat
