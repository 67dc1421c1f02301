/- Part 2 of the proof: ExK, ExL, ExM, ExN, ExO, ExP, ExQ, ExR, ExS, ExT, Fa, Fb, Fc, Fd, Fe, Ff, Fg, Fh. -/
import Derived.Test.YtojnabmgolpodaaGreatPA
import Derived.Below
import Derived.ProofKit
import Derived.OpenShut
import Derived.ChangeOld
import Derived.SizedLaws
import Derived.Recover
import Derived.Test.YtojnabmgolpodaaGreatProg
namespace Go.Proofs.YtojnabmgolpodaaGreat.Ex
structure Rec where
 dst:Option Nat
 r:R
 ts:List Nat
 ks:List Nat
 fr:Nat
structure St where
 T:List AV
 H:Heap
 fr:Nat
 path:List Bool
structure Fz where
 n:Nat
 D:List Deferred
instance:Coe Nat Fz:=⟨fun n=>⟨n,[]⟩⟩
structure Inv (β0:Env) (w0:World) (W:List Nat) (n:Fz) (β:Env) (τ:Nat→AV) (H:Heap) (a:Act) (w:World):Prop where
 tmp:∀ t,AG β (τ t) (a.tmps.getD t undef)
 good:Good β H w
 sz:a.tmps.size=n.n
 dfr:a.defers=n.D
 new:∀ b X,β b=some X→β0 b=some X∨∀ B m,X=.at_ B m→w0.heap.size≤B∨∃ k m',k∈W∧β0 k=some (.at_ B m')
 ext:Env.le β0 β
 frame:∀ B,B<w0.heap.size→(∀ k m,k∈W→β0 k≠some (.at_ B m))→w.heap[B]? = w0.heap[B]?
 size:w0.heap.size≤w.heap.size
 os:w.os=w0.os
 tape:w.tape=w0.tape
 output:w.output=w0.output
theorem Good.congr {β:Env} {H H':Heap} {w:World} (g:Good β H w) (h:∀ b,AB H b=AB H' b):Good β H' w where
 heap:=fun b blk hb=>g.heap b blk (by rw [h];exact hb)
 inj:=fun b b' B n n' h1 h2=>g.inj b b' B n n' (by rw [gW (h b)];exact h1) (by rw [h];exact h2)
 lt:=g.lt
theorem Inv.congr {β0:Env} {w0:World} {W:List Nat} {n:Fz} {β:Env} {τ τ':Nat→AV} {H H':Heap} {a:Act} {w:World} (i:Inv β0 w0 W n β τ H a w) (h1:∀ t,τ t=τ' t) (h2:∀ b,AB H b=AB H' b) :
  Inv β0 w0 W n β τ' H' a w :=
 { i with tmp:=fun t=>by rw [← h1];exact i.tmp t,good:=i.good.congr h2 }
theorem Inv.drew {β0:Env} {w0:World} {W:List Nat} {n:Fz} {β:Env} {τ:Nat→AV} {H:Heap} {a:Act} {w:World} (i:Inv β0 w0 W n β τ H a w):Inv β0 w0 W n β τ H a { w with drawn:=w.drawn+1 } :=
 { i with good:=⟨i.good.heap,i.good.inj,i.good.lt⟩ }
def Pl (τ:Nat→AV) (d:Option Nat) (v:AV):Nat→AV:=fun t=>match d with
 | some d=>match Nat.beq d t with | true=>v | false=>τ t
 | none=>τ t
theorem Inv.step {β0:Env} {w0:World} {W:List Nat} {n:Fz} {β β':Env} {τ:Nat→AV} {H:Heap} {a:Act} {w w':World} {fr:Nat} {r:R} {u:Value} {d:Option Nat} (i:Inv β0 w0 W n β τ H a w)
  (he:Eff β fr r w u w' β') (hg:Good β' (D9 H r.upd) w') (hW:∀ k y,(k,y)∈r.upd→k∈W) (hd:∀ t,d=some t→t<n.n) :
  Inv β0 w0 W n β' (Pl τ d r.val) (D9 H r.upd) (a.put d u) w' where
 tmp:=fun t=>by
  cases d with
  | none=>exact SG he.ext (i.tmp t)
  | some d =>
   simp only [Pl,Act.put]
   have hlt:=hd d rfl
   split
   ·rename_i e
    have:=Ad.1 e
    subst this
    rw [Array.getD_eq_getD_getElem?,Array.getElem?_setIfInBounds_self_of_lt (by rw [i.sz];exact hlt)]
    exact he.val
   ·rename_i e
    have:=FW e
    rw [Array.getD_eq_getD_getElem?,Array.getElem?_setIfInBounds_ne this,← Array.getD_eq_getD_getElem?]
    exact SG he.ext (i.tmp t)
 good:=hg
 sz:=by cases d<;>simp [Act.put,i.sz]
 dfr:=by cases d<;>simp [Act.put,i.dfr]
 new:=fun b X hb=>by
  rcases he.new b X hb with h | ⟨_,_,h3⟩
  ·exact i.new b X h
  ·refine .inr fun B m e=>?_
   rcases h3 B m e with h | ⟨k,m',hk,hk2⟩
   ·exact .inl (Nat.le_trans i.size h)
   ·rcases i.new k _ hk2 with h | h
    ·exact .inr ⟨k,m',hW _ _ hk,h⟩
    ·exact h B m' rfl
 ext:=Env.le_trans i.ext he.ext
 frame:=fun B hB hno=>by
  rw [he.frame B (Nat.lt_of_lt_of_le hB i.size) ?_,i.frame B hB hno]
  intro k y m hky hk
  rcases i.new k _ hk with h | h
  ·exact hno k m (hW _ _ hky) h
  ·rcases h B m rfl with h | ⟨k',m',h1,h2⟩
   ·omega
   ·exact hno k' m' h1 h2
 size:=Nat.le_trans i.size he.size
 os:=by rw [he.os,i.os]
 tape:=by rw [he.tape,i.tape]
 output:=by rw [he.output,i.output]
def Pm (T:List AV) (d:Option Nat) (v:AV):List AV:=match d with
 | some d=>KD T d v
 | none=>T
theorem jF:∀ {T:List AV} {d t:Nat} {v:AV},d<T.length→Al (KD T d v) t=match Nat.beq d t with | true=>v | false=>Al T t
 | [],d,t,v,h=>by simp at h
 | x::r,0,0,v,_=>rfl
 | x::r,0,t+1,v,_=>by simp [KD,Al,Ev (a:=0) (b:=t+1) (by omega)]
 | x::r,d+1,0,v,_=>by simp [KD,Al,Ev (a:=d+1) (b:=0) (by omega)]
 | x::r,d+1,t+1,v,h=>by
  simp only [KD,Al]
  rw [jF (T:=r) (d:=d) (t:=t) (v:=v) (by simpa using h)]
  by_cases e:d=t
  ·subst e;rfl
  ·rw [Ev e,Ev (a:=d+1) (b:=t+1) (by omega)]
theorem jG:∀ {T:List AV} {d:Nat} {v:AV},(KD T d v).length=T.length
 | [],_,_=>rfl
 | _::_,0,_=>rfl
 | _::r,d+1,v=>by simp [KD,jG (T:=r)]
def Pn (d:Nat):List AV→Bool
 | []=>false
 | _::r=>match d with | 0=>true | d+1=>Pn d r
theorem Po:∀ {T:List AV} {d:Nat},Pn d T=true→d<T.length
 | [],d,h=>by simp [Pn] at h
 | x::r,0,_=>by simp
 | x::r,d+1,h=>by simp only [Pn] at h;simp [Po h]
def jH (d:Option Nat) (T:List AV):Bool:=match d with
 | some d=>Pn d T
 | none=>true
theorem Xr {T:List AV} {d:Option Nat} {v:AV} (h:jH d T=true) (t:Nat):Al (Pm T d v) t=Pl (Al T) d v t:=by
 cases d with
 | none=>rfl
 | some d=>exact jF (Po h)
theorem TM {T:List AV} {d:Option Nat} {v:AV}:(Pm T d v).length=T.length:=by
 cases d with
 | none=>rfl
 | some d=>exact jG
def DF (P:Program) (O:Orc) (ops:Array Oper):List Oper→Nat→St→Option (List Rec×St)
 | [],_,s=>some ([],s)
 | o::rest,i,s =>
  match HB P O ops i o (Iy ops o) (Al s.T) s.H s.fr s.path with
  | some e=>match jH o.dst s.T with
   | true=>match DF P O ops rest (i+1) ⟨Pm s.T o.dst e.val,D9 s.H e.upd,s.fr+e.nw,e.path⟩ with
    | some (recs,s')=>some (⟨o.dst,e,Iy ops o,FX o (EZ (Al s.T) (Iy ops o)) (Iy ops o) s.H,s.fr⟩::recs,s')
    | none=>none
   | false=>none
  | none=>none
def HC:List Rec→List (Bool×Bool)
 | []=>[]
 | r::L=>r.r.conds++HC L
def Hy:Heap→List Nat
 | []=>[]
 | (k,_)::r=>k::Hy r
def Ea:List Rec→List Nat
 | []=>[]
 | r::L=>cat (Hy r.r.upd) (Ea L)
theorem L6 {u:Heap} {k:Nat}:k∈Hy u↔∃ y,(k,y)∈u:=by
 induction u with
 | nil=>simp [Hy]
 | cons e u ih =>
  obtain ⟨j,y⟩:=e
  simp only [Hy,List.mem_cons,ih,Prod.mk.injEq]
  constructor
  ·rintro (rfl | ⟨z,hz⟩)
   ·exact ⟨y,.inl ⟨rfl,rfl⟩⟩
   ·exact ⟨z,.inr hz⟩
  ·rintro ⟨z,⟨rfl,_⟩ | hz⟩
   ·exact .inl rfl
   ·exact .inr ⟨z,hz⟩
theorem Pp {P:Program} {O:Orc} {ops:Array Oper} {i:Nat} {o:Oper} {ts:List Nat} {τ:Nat→AV} {H:Heap} {fr:Nat} {path:List Bool} {r:R} (h:HB P O ops i o ts τ H fr path=some r) (hfH:∀ b,fr≤b→b<fr+r.nw→AB H b=none) :
  FY H fr r.nw r.upd=true:=by
 unfold HB at h
 split at h
 ·injection h with h;subst h;rfl
 ·split at h
  ·rename_i r0 ha
   split at h
   ·rename_i hu
    unfold Pj at h
    split at h
    ·split at h
     ·injection h with h;subst h;exact Pk hu hfH
     ·cases h
    ·injection h with h;subst h;exact Pk hu hfH
   ·cases h
  ·cases h
 ·cases h
theorem TN {H:Heap} {fr nw:Nat} {u:Heap} (hu:FY H fr nw u=true) (hf:∀ b,fr≤b→AB H b=none):∀ b,fr+nw≤b→AB (D9 H u) b=none:=by
 intro b hb
 obtain ⟨u1,u2⟩:=Ns hu
 by_cases hk:∃ y,(b,y)∈u
 ·obtain ⟨y,hy⟩:=hk
  rcases u1 _ _ hy with h | ⟨_,h,_⟩
  ·have h:=PW h;rw [hf b (by omega)] at h;cases h
  ·omega
 ·rw [(KF u2).2 (fun y hy=>hk ⟨y,hy⟩)]
  exact hf b (by omega)
section
variable {P:Program} {O:Orc} (hO:OrcOk P O) {ops:Array Oper} {β0:Env} {w0:World} {W:List Nat} {n:Fz}
include hO
omit hO in
theorem Xs:∀ {rest:List Oper} {i:Nat} {s s':St} {recs:List Rec},DF P O ops rest i s=some (recs,s')→(∀ b,s.fr≤b→AB s.H b=none) →
  (∀ b,s'.fr≤b→AB s'.H b=none)∧s.fr≤s'.fr∧s'.T.length=s.T.length
 | [],i,s,s',recs,h,hf=>by simp only [DF,Option.some.injEq,Prod.mk.injEq] at h;obtain ⟨rfl,rfl⟩:=h;exact ⟨hf,Nat.le_refl _,rfl⟩
 | o::rest,i,s,s',recs,h,hf=>by
  simp only [DF] at h
  split at h
  ·rename_i e he
   split at h
   ·rename_i hd
    split at h
    ·rename_i recs' s'' hr
     injection h with h;injection h with h1 h2;subst h1;subst h2
     have hu:=Pp he (fun b h1 _=>hf b h1)
     obtain ⟨j1,j2,j3⟩:=Xs hr (TN hu hf)
     exact ⟨j1,by simp at j2;omega,by rw [j3];exact TM⟩
    ·cases h
   ·cases h
  ·cases h
theorem jI {Q:Exit→Act→World→Prop}:∀ (rest:List Oper) (i:Nat) (s s':St) (recs:List Rec) (β:Env) (a:Act) (w:World),ops.toList.drop i=rest→DF P O ops rest i s=some (recs,s')→AP (HC recs) →
  Inv β0 w0 W n β (Al s.T) s.H a w→(∀ b,s.fr≤b→β b=none)→(∀ b,s.fr≤b→AB s.H b=none)→s.T.length=n.n→(∀ k∈Ea recs,k∈W) →
  (∀ β a w,Inv β0 w0 W n β (Al s'.T) s'.H a w→(∀ b,s'.fr≤b→β b=none)→Q .normal a w)→wpOps P ops Q (List.range' i rest.length) a w
 | [],i,s,s',recs,β,a,w,_,h,_,hi,hf,_,_,_,hQ=>by
  simp only [DF,Option.some.injEq,Prod.mk.injEq] at h
  obtain ⟨rfl,rfl⟩:=h
  exact hQ β a w hi hf
 | o::rest,i,s,s',recs,β,a,w,hdrop,h,hc,hi,hf,hfH,hn,hW,hQ=>by
  simp only [DF] at h
  split at h
  ·rename_i e he
   split at h
   ·rename_i hd
    split at h
    ·rename_i recs' s'' hr
     injection h with h;injection h with h1 h2;subst h1;subst h2
     obtain ⟨c1,c2⟩:=Bz.1 hc
     have ho:ops[i]? = some o:=by
      have:=congrArg (·[0]?) hdrop
      simpa using this
     have hdrop':ops.toList.drop (i+1)=rest:=by
      rw [← List.drop_drop,hdrop];rfl
     have hu:=Pp he (fun b h1 _=>hfH b h1)
     rw [List.length_cons,List.range'_succ,wpOps_cons]
     refine Xq hO hi.tmp hi.good he c1 (fun b h1 _=>hf b h1) (fun b h1 _=>hfH b h1) ho fun u w' β' hE hG=>?_
     have hi':=hi.step hE hG (fun k y hk=>hW k (by simp only [Ea,CY,List.mem_append];exact .inl (L6.2 ⟨y,hk⟩))) (d:=o.dst) (fun t ht=>by
      rw [ht] at hd
      have:=Po hd
      omega)
     refine jI rest (i+1) _ _ recs' β' _ w' hdrop' hr c2 (hi'.congr (fun t=>(Xr hd t).symm) (fun _=>rfl)) ?_ (TN hu hfH) (by rw [← hn];exact TM) (fun k hk=>hW k (by simp only [Ea,CY,List.mem_append];exact .inr hk)) hQ
     intro b hb
     cases hβ:β' b with
     | none=>rfl
     | some X =>
      simp only at hb
      rcases hE.new b X hβ with h | ⟨_,h,_⟩
      ·rw [hf b (by omega)] at h;cases h
      ·omega
    ·cases h
   ·cases h
  ·cases h
end
def DP {X:Type} (f:Nat→Option X) (s:Nat→X):Nat→X:=fun k=>match f k with | some x=>x | none=>s k
def Bk {X:Type} (D:Nat→Bool):Nat→List (Nat→Option X)→(Nat→X)→(Nat→X)
 | _,[],s=>s
 | i,f::L,s=>Bk D (i+1) L (match D i with | true=>DP f s | false=>s)
theorem KJ {X:Type} {D D':Nat→Bool} {k:Nat}:∀ {L:List (Nat→Option X)} {i:Nat} {s s':Nat→X},(∀ j f,L[j]? = some f→D (i+j)≠D' (i+j)→f k=none)→s k=s' k→Bk D i L s k=Bk D' i L s' k
 | [],_,_,_,_,h=>h
 | f::L,i,s,s',h1,h2=>by
  simp only [Bk]
  refine KJ (fun j g hg hne=>h1 (j+1) g (by simpa using hg) (by rw [show i+(j+1)=i+1+j by omega];exact hne)) ?_
  have h0:=h1 0 f rfl
  simp only [Nat.add_zero] at h0
  cases hD:D i<;>cases hD':D' i<;>simp only
  ·exact h2
  ·have:=h0 (by rw [hD,hD'];simp);simp [DP,this,h2]
  ·have:=h0 (by rw [hD,hD'];simp);simp [DP,this,h2]
  ·simp only [DP];cases f k<;>simp [h2]
theorem Xt {X:Type} {D D':Nat→Bool} {k:Nat}:∀ {L:List (Nat→Option X)} {i j0:Nat} {s:Nat→X} {f:Nat→Option X},L[j0]? = some f→D (i+j0)=false→D' (i+j0)=true→(∀ j,j≠j0→D' (i+j)=D (i+j)) →
  (∀ j g,L[j]? = some g→j0<j→D (i+j)=true→g k=none∨f k=none)→Bk D' i L s k=DP f (Bk D i L s) k
 | [],_,_,_,_,h,_,_,_,_=>by simp at h
 | g::L,i,0,s,f,h,hD,hD',hsame,hno=>by
  simp only [List.getElem?_cons_zero,Option.some.injEq] at h
  subst h
  simp only [Nat.add_zero] at hD hD'
  simp only [Bk,hD,hD']
  cases hf:g k with
  | none =>
   simp only [DP,hf]
   refine KJ (fun j q hq hne=>absurd ?_ hne) (by simp [DP,hf])
   have:=hsame (j+1) (by omega)
   rwa [show i+(j+1)=i+1+j by omega] at this
  | some x =>
   simp only [DP,hf]
   have e1:Bk D' (i+1) L (DP g s) k=Bk (fun _=>false) (i+1) L (DP g s) k:=by
    refine KJ (fun j q hq hne=>?_) rfl
    have h1:D' (i+1+j)=true:=by cases h:D' (i+1+j)<;>simp_all
    have h2:D (i+(j+1))=true:=by
     rw [← hsame (j+1) (by omega),show i+(j+1)=i+1+j by omega];exact h1
    rcases hno (j+1) q (by simpa using hq) (by omega) h2 with h | h
    ·exact h
    ·rw [hf] at h;cases h
   have e2:∀ (L:List (Nat→Option X)) (i:Nat) (s:Nat→X),Bk (fun _=>false) i L s=s:=by
    intro L
    induction L with
    | nil=>intro i s;rfl
    | cons f L ih=>intro i s;simp only [Bk];exact ih _ _
   have e3:DP g s k=x:=by simp [DP,hf]
   show Bk D' (i+1) L (DP g s) k=x
   rw [e1,e2,e3]
 | g::L,i,j0+1,s,f,h,hD,hD',hsame,hno=>by
  simp only [Bk]
  have h0:=hsame 0 (by omega)
  simp only [Nat.add_zero] at h0
  rw [h0]
  exact Xt (L:=L) (i:=i+1) (j0:=j0) (by simpa using h) (by rw [show i+1+j0=i+(j0+1) by omega];exact hD) (by rw [show i+1+j0=i+(j0+1) by omega];exact hD')
   (fun j hj=>by rw [show i+1+j=i+(j+1) by omega];exact hsame (j+1) (by omega))
   (fun j q hq hlt hd=>hno (j+1) q (by simpa using hq) (by omega) (by rw [show i+(j+1)=i+1+j by omega];exact hd))
def FZ:Heap→Nat→Option (Option Blk)
 | [],_=>none
 | (k,y)::r,b=>match Nat.beq k b with | true=>some y | false=>FZ r b
theorem Pq {b:Nat}:∀ {u:Heap},(∀ y,FZ u b=some y→(b,y)∈u)∧(FZ u b=none→∀ y,(b,y) ∉ u)
 | []=>⟨by simp [FZ],by simp⟩
 | (k,z)::r=>by
  simp only [FZ]
  split
  ·rename_i h;have:=Ad.1 h;subst this
   exact ⟨fun y hy=>by injection hy with hy;simp [hy],fun h=>by cases h⟩
  ·rename_i h
   have:=FW h
   refine ⟨fun y hy=>by simp [(Pq (u:=r)).1 y hy],fun hn y hy=>?_⟩
   simp only [List.mem_cons,Prod.mk.injEq] at hy
   rcases hy with ⟨e,_⟩ | hy
   ·exact this e.symm
   ·exact (Pq (u:=r)).2 hn y hy
theorem Xu {u H:Heap} (hu:∀ k y y',(k,y)∈u→(k,y')∈u→y=y') (b:Nat):AB (D9 H u) b=DP (FZ u) (AB H) b:=by
 obtain ⟨h1,h2⟩:=KF (b:=b) (H:=H) hu
 simp only [DP]
 cases hl:FZ u b with
 | none=>exact h2 (Pq.2 hl)
 | some y=>exact h1 y (Pq.1 y hl)
def KK (d:Option Nat) (v:AV):Nat→Option AV:=fun t=>match d with
 | some d=>match Nat.beq d t with | true=>some v | false=>none
 | none=>none
theorem jJ (τ:Nat→AV) (d:Option Nat) (v:AV) (t:Nat):Pl τ d v t=DP (KK d v) τ t:=by
 unfold Pl DP KK
 cases d with
 | none=>rfl
 | some d=>simp only;cases Nat.beq d t<;>rfl
def hD (D:Nat→Bool):Nat→List Rec→Heap→Heap
 | _,[],H=>H
 | i,r::L,H=>hD D (i+1) L (match D i with | true=>D9 H r.r.upd | false=>H)
def LT (L:List Rec):List (Nat→Option AV):=L.map fun r=>KK r.dst r.r.val
def LH (L:List Rec):List (Nat→Option (Option Blk)):=L.map fun r=>FZ r.r.upd
theorem L7 {D:Nat→Bool}:∀ {L:List Rec} {i:Nat} {H:Heap},(∀ r∈L,∀ k y y',(k,y)∈r.r.upd→(k,y')∈r.r.upd→y=y')→∀ b,AB (hD D i L H) b=Bk D i (LH L) (AB H) b
 | [],_,_,_,_=>rfl
 | r::L,i,H,hu,b=>by
  simp only [hD,LH,List.map_cons,Bk]
  rw [L7 (L:=L) (fun q hq=>hu q (by simp [hq]))]
  have hfun:AB (match D i with | true=>D9 H r.r.upd | false=>H)=(match D i with | true=>DP (FZ r.r.upd) (AB H) | false=>AB H):=by
   funext x
   cases D i
   ·rfl
   ·exact Xu (hu r (by simp)) x
  rw [hfun];rfl
theorem Xv {P:Program} {O:Orc} {ops:Array Oper}:∀ {rest:List Oper} {i:Nat} {s s':St} {recs:List Rec},DF P O ops rest i s=some (recs,s')→(∀ b,s.fr≤b→AB s.H b=none) →
  recs.length=rest.length∧(∀ r∈recs,∀ k y y',(k,y)∈r.r.upd→(k,y')∈r.r.upd→y=y') ∧
  (∀ t,Al s'.T t=Bk (fun _=>true) 0 (LT recs) (Al s.T) t)∧(∀ b,AB s'.H b=Bk (fun _=>true) 0 (LH recs) (AB s.H) b) ∧
  (∀ (j:Nat) (r:Rec),recs[j]? = some r→∃ (o:Oper) (T:List AV) (H:Heap) (path:List Bool),rest[j]? = some o∧HB P O ops (i+j) o (Iy ops o) (Al T) H r.fr path=some r.r∧r.dst=o.dst∧r.ts=Iy ops o∧r.ks=FX o (EZ (Al T) r.ts) r.ts H ∧
   (∀ t,Al T t=Bk (fun x=>Nat.blt x j) 0 (LT recs) (Al s.T) t)∧(∀ b,AB H b=Bk (fun x=>Nat.blt x j) 0 (LH recs) (AB s.H) b)∧(∀ t,o.dst=some t→t<s.T.length)∧s.fr≤r.fr∧r.fr+r.r.nw≤s'.fr∧(∀ b,r.fr≤b→AB H b=none)) ∧
  (∀ (j j':Nat) (r r':Rec),recs[j]? = some r→recs[j']? = some r'→j<j'→r.fr+r.r.nw≤r'.fr)
 | [],i,s,s',recs,h,hf=>by
  simp only [DF,Option.some.injEq,Prod.mk.injEq] at h
  obtain ⟨rfl,rfl⟩:=h
  exact ⟨rfl,by simp,fun _=>rfl,fun _=>rfl,by simp,by simp⟩
 | o::rest,i,s,s',recs,h,hf=>by
  simp only [DF] at h
  split at h
  ·rename_i e he
   split at h
   ·rename_i hd
    split at h
    ·rename_i recs' s'' hr
     injection h with h;injection h with h1 h2;subst h1;subst h2
     have hu:=Pp he (fun b h1 _=>hf b h1)
     have hf':=TN hu hf
     obtain ⟨_,u2⟩:=Ns hu
     obtain ⟨i1,i2,i3,i4,i5,i6⟩:=Xv hr hf'
     have shift:∀ {X:Type} (D:Nat→Bool) (L:List (Nat→Option X)) (q:Nat) (x:Nat→X),Bk D (q+1) L x=Bk (fun y=>D (y+1)) q L x:=by
      intro X D L
      induction L with
      | nil=>intro q x;rfl
      | cons f L ih=>intro q x;simp only [Bk];rw [ih]
     have tT:∀ t,Al (Pm s.T o.dst e.val) t=DP (KK o.dst e.val) (Al s.T) t:=fun t=>by rw [Xr hd,jJ]
     have tTf:Al (Pm s.T o.dst e.val)=DP (KK o.dst e.val) (Al s.T):=funext tT
     have tHf:AB (D9 s.H e.upd)=DP (FZ e.upd) (AB s.H):=funext (Xu u2)
     have frs:s.fr+e.nw≤s''.fr:=by
      have:∀ {rest:List Oper} {i:Nat} {s s':St} {recs:List Rec},DF P O ops rest i s=some (recs,s')→s.fr≤s'.fr:=by
       intro rest
       induction rest with
       | nil=>intro i s s' recs h;simp only [DF,Option.some.injEq,Prod.mk.injEq] at h;rw [← h.2];exact Nat.le_refl _
       | cons o rest ih =>
        intro i s s' recs h
        simp only [DF] at h
        split at h
        ·split at h
         ·split at h
          ·rename_i hq
           injection h with h;injection h with h1 h2;subst h2
           have:=ih hq
           simp at this;omega
          ·cases h
         ·cases h
        ·cases h
      exact this hr
     refine ⟨by simp [i1],?_,?_,?_,?_,?_⟩
     ·intro r hr'
      rcases List.mem_cons.1 hr' with rfl | hr'
      ·exact u2
      ·exact i2 r hr'
     ·intro t
      rw [i3]
      simp only [LT,List.map_cons,Bk]
      rw [shift,tTf]
     ·intro b
      rw [i4]
      simp only [LH,List.map_cons,Bk]
      rw [shift,tHf]
     ·intro j r hj
      cases j with
      | zero =>
       simp only [List.getElem?_cons_zero,Option.some.injEq] at hj
       subst hj
       have e2:∀ {X:Type} (L:List (Nat→Option X)) (i:Nat) (s:Nat→X),Bk (fun x=>Nat.blt x 0) i L s=s:=by
        intro X L
        induction L with
        | nil=>intro i s;rfl
        | cons f L ih =>
         intro i s
         simp only [Bk]
         have:Nat.blt i 0=false:=by cases i<;>rfl
         rw [this];exact ih _ _
       refine ⟨o,s.T,s.H,s.path,rfl,he,rfl,rfl,rfl,fun t=>by rw [e2],fun b=>by rw [e2],?_,Nat.le_refl _,frs,hf⟩
       intro t ht
       rw [ht] at hd
       exact Po hd
      | succ j =>
       obtain ⟨o',T,H,path,q1,q2,q3,q4,q5,q6,q7,q8,q9,q10,q11⟩:=i5 j r (by simpa using hj)
       refine ⟨o',T,H,path,by simpa using q1,by rw [show i+(j+1)=i+1+j by omega];exact q2,q3,q4,q5,?_,?_,?_,?_,q10,q11⟩
       ·intro t
        rw [q6]
        simp only [LT,List.map_cons,Bk]
        rw [shift,tTf]
        have:Nat.blt 0 (j+1)=true:=rfl
        rw [this]
        rfl
       ·intro b
        rw [q7]
        simp only [LH,List.map_cons,Bk]
        rw [shift,tHf]
        have:Nat.blt 0 (j+1)=true:=rfl
        rw [this]
        rfl
       ·intro t ht
        have:=q8 t ht
        rwa [TM] at this
       ·simp at q9;omega
     ·intro j j' r r' hj hj' hlt
      cases j' with
      | zero=>omega
      | succ j' =>
       cases j with
       | zero =>
        simp only [List.getElem?_cons_zero,Option.some.injEq] at hj
        subst hj
        obtain ⟨_,_,_,_,_,_,_,_,_,_,_,_,q9,_⟩:=i5 j' r' (by simpa using hj')
        exact q9
       | succ j=>exact i6 j j' r r' (by simpa using hj) (by simpa using hj') (by omega)
    ·cases h
   ·cases h
  ·cases h
def Hz (acc:List Nat):List Edge→Nat
 | []=>0
 | e::r=>match Region.binds .any e with
  | true=>2^e.on ||| (acc.getD e.on 0 ||| Hz acc r)
  | false=>Hz acc r
theorem Xw {acc:List Nat} {k:Nat}:∀ {es:List Edge},(Hz acc es).testBit k=true→∃ e∈es,Region.binds .any e=true∧(k=e.on∨(acc.getD e.on 0).testBit k=true)
 | [],h=>by simp [Hz] at h
 | e::r,h=>by
  simp only [Hz] at h
  split at h
  ·rename_i hb
   rw [Nat.testBit_or,Nat.testBit_or,Bool.or_eq_true,Bool.or_eq_true] at h
   rcases h with h | h | h
   ·rw [Nat.testBit_two_pow] at h
    exact ⟨e,by simp,hb,.inl (by simpa using (of_decide_eq_true h).symm)⟩
   ·exact ⟨e,by simp,hb,.inr h⟩
   ·obtain ⟨e',h1,h2⟩:=Xw h
    exact ⟨e',by simp [h1],h2⟩
  ·obtain ⟨e',h1,h2⟩:=Xw h
   exact ⟨e',by simp [h1],h2⟩
def Fs:List Oper→List Nat→List Nat
 | [],acc=>acc
 | o::r,acc=>Fs r (acc++[Hz acc o.after.toList])
theorem Xx:∀ {l:List Oper} {acc:List Nat} {j:Nat},j<acc.length→(Fs l acc).getD j 0=acc.getD j 0
 | [],_,_,_=>rfl
 | o::r,acc,j,h=>by
  simp only [Fs]
  rw [Xx (by simp;omega)]
  simp only [List.getD_eq_getElem?_getD]
  rw [List.getElem?_append_left h]
theorem jK:∀ {l:List Oper} {acc:List Nat} {j k:Nat} {o:Oper},l[j]? = some o→((Fs l acc).getD (acc.length+j) 0).testBit k=true →
  ∃ e∈o.after.toList,Region.binds .any e=true∧(k=e.on∨((Fs l acc).getD e.on 0).testBit k=true)
 | [],_,_,_,_,h,_=>by simp at h
 | o::r,acc,0,k,o',h,hb=>by
  simp only [List.getElem?_cons_zero,Option.some.injEq] at h
  subst h
  simp only [Fs,Nat.add_zero] at hb ⊢
  rw [Xx (by simp)] at hb
  have:(acc++[Hz acc o.after.toList]).getD acc.length 0=Hz acc o.after.toList:=by simp [List.getD_eq_getElem?_getD]
  rw [this] at hb
  obtain ⟨e,h1,h2,h3⟩:=Xw hb
  refine ⟨e,h1,h2,h3.imp id fun h=>?_⟩
  rcases Nat.lt_or_ge e.on acc.length with hlt | hge
  ·rw [Xx (by simp;omega)]
   have:(acc++[Hz acc o.after.toList]).getD e.on 0=acc.getD e.on 0:=by
    simp only [List.getD_eq_getElem?_getD]
    rw [List.getElem?_append_left hlt]
   rw [this];exact h
  ·have:acc.getD e.on 0=0:=by simp [List.getD_eq_getElem?_getD,List.getElem?_eq_none hge]
   rw [this] at h;simp at h
 | o::r,acc,j+1,k,o',h,hb=>by
  simp only [Fs] at hb ⊢
  have e1:acc.length+(j+1)=(acc++[Hz acc o.after.toList]).length+j:=by simp;omega
  rw [e1] at hb
  exact jK (by simpa using h) hb
def Pr:List Edge→Nat→Bool
 | [],_=>true
 | e::r,i=>match Region.binds .any e with
  | true=>match Nat.blt e.on i with | true=>Pr r i | false=>false
  | false=>Pr r i
theorem Xy:∀ {es:List Edge} {i:Nat},Pr es i=true→∀ e∈es,Region.binds .any e=true→e.on<i
 | [],_,_,e,h,_=>by cases h
 | e'::r,i,h,e,he,hb=>by
  simp only [Pr] at h
  split at h
  ·split at h
   ·rename_i hlt
    rcases List.mem_cons.1 he with rfl | he
    ·unfold Nat.blt at hlt;exact Nat.le_of_ble_eq_true hlt
    ·exact Xy h e he hb
   ·cases h
  ·rename_i hnb
   rcases List.mem_cons.1 he with rfl | he
   ·rw [hb] at hnb;cases hnb
   ·exact Xy h e he hb
def Nt:List Oper→Nat→Bool
 | [],_=>true
 | o::r,i=>match Pr o.after.toList i with | true=>Nt r (i+1) | false=>false
theorem jL:∀ {l:List Oper} {i j:Nat} {o:Oper},Nt l i=true→l[j]? = some o→∀ e∈o.after.toList,Region.binds .any e=true→e.on<i+j
 | [],_,_,_,_,h=>by simp at h
 | o::r,i,0,o',h,hj=>by
  simp only [List.getElem?_cons_zero,Option.some.injEq] at hj
  subst hj
  simp only [Nt] at h
  split at h
  ·rename_i he;exact Xy he
  ·cases h
 | o::r,i,j+1,o',h,hj=>by
  simp only [Nt] at h
  split at h
  ·have:=jL h (by simpa using hj)
   intro e he hb
   have:=this e he hb
   omega
  ·cases h
def Iz:List Nat→List Nat→Bool
 | [],_=>true
 | x::r,l=>match FC x l with | true=>false | false=>Iz r l
theorem L8:∀ {a b:List Nat},Iz a b=true→∀ x∈a,x ∉ b
 | [],_,_,x,h=>by cases h
 | y::r,b,h,x,hx=>by
  simp only [Iz] at h
  split at h
  ·cases h
  ·rename_i hm
   rcases List.mem_cons.1 hx with rfl | hx
   ·intro hb;rw [Nr.2 hb] at hm;cases hm
   ·exact L8 h x hx
def KL (d:Option Nat):List Nat:=match d with | some d=>[d] | none=>[]
def jM (r s:Rec):Bool :=
 Iz (KL r.dst) s.ts&&(Iz (KL s.dst) r.ts&&(Iz (KL r.dst) (KL s.dst)&&(Iz (Hy r.r.upd) s.ks&&(Iz (Hy s.r.upd) r.ks&&Iz (Hy r.r.upd) (Hy s.r.upd)))))
def TO (l:List Nat) (fr nw:Nat):Bool:=match l with
 | []=>true
 | k::r=>match Nat.ble fr k&&Nat.blt k (fr+nw) with | true=>false | false=>TO r fr nw
theorem jN:∀ {l:List Nat} {fr nw:Nat},TO l fr nw=true→∀ k∈l,fr≤k→¬ k<fr+nw
 | [],_,_,_,k,h,_=>by cases h
 | x::r,fr,nw,h,k,hk,h1=>by
  intro h2
  simp only [TO] at h
  split at h
  ·cases h
  ·rename_i hb
   rcases List.mem_cons.1 hk with rfl | hk
   ·have e1:=Nat.ble_eq_true_of_le h1
    have e2:Nat.blt k (fr+nw)=true:=by unfold Nat.blt;exact Nat.ble_eq_true_of_le h2
    rw [e1,e2] at hb;cases hb
   ·exact jN h k hk h1 h2
def Nu (r s:Rec):Bool :=
 TO s.ks r.fr r.r.nw&&jM r s
def EC (m i:Nat):Bool:=Nat.testBit m i
def KM (i:Nat) (r:Rec):List Rec→List Nat→Bool
 | [],_=>true
 | s::L,m::ms=>match EC m i with
  | true=>KM i r L ms
  | false=>match Nu r s with | true=>KM i r L ms | false=>false
 | _::_,[]=>false
def L9:List Rec→List Nat→Nat→Bool
 | [],_,_=>true
 | r::L,_::ms,i=>match KM i r L ms with | true=>L9 L ms (i+1) | false=>false
 | _::_,[],_=>false
theorem jO {i:Nat} {r:Rec}:∀ {L:List Rec} {ms:List Nat} {j:Nat} {s:Rec},KM i r L ms=true→L[j]? = some s→(ms.getD j 0).testBit i=false→Nu r s=true
 | [],_,_,_,_,h,_=>by simp at h
 | s::L,[],j,s',h,_,_=>by simp [KM] at h
 | s::L,m::ms,0,s',h,hj,hb=>by
  simp only [List.getElem?_cons_zero,Option.some.injEq] at hj
  subst hj
  simp only [KM,EC] at h
  have hb':m.testBit i=false:=by simpa using hb
  rw [hb'] at h
  simp only at h
  split at h
  ·assumption
  ·cases h
 | s::L,m::ms,j+1,s',h,hj,hb=>by
  simp only [KM] at h
  have key:KM i r L ms=true:=by
   split at h
   ·exact h
   ·split at h
    ·exact h
    ·cases h
  exact jO key (by simpa using hj) (by simpa using hb)
theorem Xz:∀ {L:List Rec} {ms:List Nat} {i j j':Nat} {r s:Rec},L9 L ms i=true→L[j]? = some r→L[j']? = some s→j<j'→(ms.getD j' 0).testBit (i+j)=false→Nu r s=true
 | [],_,_,_,_,_,_,_,h,_,_,_=>by simp at h
 | q::L,[],_,_,_,_,_,h,_,_,_,_=>by simp [L9] at h
 | q::L,m::ms,i,0,j'+1,r,s,h,hj,hj',_,hb=>by
  simp only [List.getElem?_cons_zero,Option.some.injEq] at hj
  subst hj
  simp only [L9] at h
  split at h
  ·rename_i h1
   exact jO h1 (by simpa using hj') (by simpa using hb)
  ·cases h
 | q::L,m::ms,i,j+1,j'+1,r,s,h,hj,hj',hlt,hb=>by
  simp only [L9] at h
  split at h
  ·exact Xz h (by simpa using hj) (by simpa using hj') (by omega) (by rw [show i+1+j=i+(j+1) by omega];simpa using hb)
  ·cases h
 | q::L,m::ms,i,j,0,r,s,h,hj,hj',hlt,hb=>by omega
theorem TP {r s:Rec} (h:Nu r s=true) :
  (∀ d,r.dst=some d→d ∉ s.ts)∧(∀ d,s.dst=some d→d ∉ r.ts)∧(∀ d,r.dst=some d→s.dst≠some d)∧(∀ k y,(k,y)∈r.r.upd→k ∉ s.ks)∧(∀ k y,(k,y)∈s.r.upd→k ∉ r.ks)∧(∀ k y y',(k,y)∈r.r.upd→(k,y') ∉ s.r.upd):=by
 have h:=(Bool.and_eq_true_iff.1 h).2
 unfold jM at h
 simp only [Bool.and_eq_true] at h
 obtain ⟨h1,h2,h3,h4,h5,h6⟩:=h
 refine ⟨fun d hd=>L8 h1 d (by simp [KL,hd]),fun d hd=>L8 h2 d (by simp [KL,hd]),fun d hd he=>L8 h3 d (by simp [KL,hd]) (by simp [KL,he]),
  fun k y hk=>L8 h4 k (L6.2 ⟨y,hk⟩),fun k y hk=>L8 h5 k (L6.2 ⟨y,hk⟩),fun k y y' hk hk'=>L8 h6 k (L6.2 ⟨y,hk⟩) (L6.2 ⟨y',hk'⟩)⟩
theorem X0 {H:Heap} {b:Nat}:∀ {ks:List Nat},(AB (restrict H ks) b).isSome=true→b∈ks
 | [],h=>by simp [restrict,AB] at h
 | k::r,h=>by
  simp only [restrict] at h
  split at h
  ·simp only [AB] at h
   split at h
   ·rename_i e;rw [← Ad.1 e];simp
   ·exact List.mem_cons_of_mem _ (X0 h)
  ·exact List.mem_cons_of_mem _ (X0 h)
theorem ABr {P:Program} {O:Orc} {ops:Array Oper} {i:Nat} {o:Oper} {ts:List Nat} {τ:Nat→AV} {H:Heap} {fr:Nat} {path:List Bool} {r:R} (h:HB P O ops i o ts τ H fr path=some r) :
  ∀ k y,(k,y)∈r.upd→k∈FX o (EZ τ ts) ts H∨(fr≤k∧k<fr+r.nw):=by
 have key:∀ (r0:R),FY (restrict H (FX o (EZ τ ts) ts H)) fr r0.nw r0.upd=true→∀ k y,(k,y)∈r0.upd→k∈FX o (EZ τ ts) ts H∨(fr≤k∧k<fr+r0.nw):=by
  intro r0 hu k y hk
  rcases (Ns hu).1 k y hk with h | ⟨h1,h2,_⟩
  ·exact .inl (X0 (PW h))
  ·exact .inr ⟨h1,h2⟩
 unfold HB at h
 split at h
 ·injection h with h;subst h
  intro k y hk;cases hk
 ·split at h
  ·rename_i r0 ha
   split at h
   ·rename_i hu
    unfold Pj at h
    split at h
    ·split at h
     ·injection h with h;subst h;exact key r0 hu
     ·cases h
    ·injection h with h;subst h;exact key r0 hu
   ·cases h
  ·cases h
 ·cases h
theorem X1 {d:Option Nat} {v:AV} {t:Nat} (h:d≠some t):KK d v t=none:=by
 unfold KK
 cases d with
 | none=>rfl
 | some d=>simp only;rw [Ev (fun e=>h (by rw [e]))]
theorem TQ {u:Heap} {b:Nat} (h:∀ y,(b,y) ∉ u):FZ u b=none:=by
 cases hl:FZ u b with
 | none=>rfl
 | some y=>exact absurd (Pq.1 y hl) (h y)
def left (listed:Array Bool) (m:Nat):Nat:=(List.range m).countP fun i=>!listed.getD i true
theorem jP {α:Type} (p q:α→Bool):∀ (l:List α),(∀ x∈l,q x=true→p x=true)→l.countP q≤l.countP p
 | [],_=>Nat.le_refl _
 | x::l,h=>by
  have ih:=jP p q l (fun y hy=>h y (by simp [hy]))
  rw [List.countP_cons,List.countP_cons]
  cases hq:q x with
  | false=>simp;cases p x<;>simp<;>omega
  | true=>rw [h x (by simp) hq];simp;exact ih
theorem jQ {α:Type} (p q:α→Bool):∀ (l:List α) (y:α),y∈l→p y=true→q y=false→(∀ x∈l,q x=true→p x=true)→l.countP q<l.countP p
 | x::l,y,hy,hp,hq,h=>by
  rw [List.countP_cons,List.countP_cons]
  rcases List.mem_cons.1 hy with rfl | hy'
  ·have:=jP p q l (fun z hz=>h z (by simp [hz]))
   rw [hp,hq];simp;omega
  ·have:=jQ p q l y hy' hp hq (fun z hz=>h z (by simp [hz]))
   cases hqx:q x with
   | false=>simp;cases p x<;>simp<;>omega
   | true=>rw [h x (by simp) hqx];simp;exact this
section
variable {P:Program} {O:Orc} (hO:OrcOk P O) {ops:Array Oper} {β0:Env} {w0:World} {W:List Nat} {n:Fz}
include hO
theorem ABs {Q:Exit→Act→World→Prop} {s s':St} {recs:List Rec} (hrun:DF P O ops ops.toList 0 s=some (recs,s')) (hchk:L9 recs (Fs ops.toList []) 0=true) (hedge:Nt ops.toList 0=true)
  (hc:AP (HC recs)) (hfH:∀ b,s.fr≤b→AB s.H b=none) (hn:s.T.length=n.n) (hW:∀ k∈Ea recs,k∈W)
  (hQ:∀ β a w,Inv β0 w0 W n β (Al s'.T) s'.H a w→(∀ b,s'.fr≤b→β b=none)→Q .normal a w) :
  ∀ (fuel:Nat) (listed:Array Bool) (β:Env) (a:Act) (w:World),listed.size=ops.size→left listed ops.size≤fuel →
   Inv β0 w0 W n β (Bk (fun i=>listed.getD i false) 0 (LT recs) (Al s.T)) (hD (fun i=>listed.getD i false) 0 recs s.H) a w →
   (∀ b,s'.fr≤b→β b=none)→(∀ j r,recs[j]? = some r→listed.getD j false=false→∀ b,r.fr≤b→b<r.fr+r.r.nw→β b=none) →
   (∀ j,listed.getD j false=true→∀ k,((Fs ops.toList []).getD j 0).testBit k=true→listed.getD k false=true) →
   wpAny P .any ops Q fuel listed a w:=by
 obtain ⟨r1,r2,r3,r4,r5,r6⟩:=Xv hrun hfH
 have hlen:recs.length=ops.size:=by rw [r1];simp
 have done:∀ (listed:Array Bool),listed.size=ops.size→Region.ready .any ops listed=[]→∀ i,i<ops.size→listed.getD i false=true:=by
  intro listed hsz hr i
  induction i using Nat.strongRecOn with
  | _ i ih =>
   intro hi
   cases hl:listed.getD i false with
   | true=>rfl
   | false =>
    exfalso
    have ho:ops[i]? = some ops[i]:=Array.getElem?_eq_getElem hi
    have hmem:i∈Region.ready .any ops listed:=by
     unfold Region.ready
     rw [List.mem_filter]
     refine ⟨List.mem_range.2 hi,?_⟩
     have hl':listed.getD i true=false:=by
      rw [Array.getD_eq_getD_getElem?] at hl ⊢
      rw [Array.getElem?_eq_getElem (by omega)] at hl ⊢
      simpa using hl
     rw [ho]
     simp only [hl',Bool.not_false,Bool.true_and,Option.map_some,Option.getD_some]
     rw [Array.all_eq_true_iff_forall_mem]
     intro e he
     cases hb:Region.binds .any e with
     | false=>rfl
     | true =>
      have:=jL hedge (j:=i) (o:=ops[i]) (by simp) e (by simpa using he) hb
      rw [ih e.on (by omega) (by omega)]
      rfl
    rw [hr] at hmem
    cases hmem
 have fin:∀ (listed:Array Bool) (β:Env) (a:Act) (w:World),listed.size=ops.size→Region.ready .any ops listed=[] →
   Inv β0 w0 W n β (Bk (fun i=>listed.getD i false) 0 (LT recs) (Al s.T)) (hD (fun i=>listed.getD i false) 0 recs s.H) a w→(∀ b,s'.fr≤b→β b=none)→Q .normal a w:=by
  intro listed β a w hsz hr hi hf
  have hd:=done listed hsz hr
  refine hQ β a w (hi.congr (fun t=>?_) (fun b=>?_)) hf
  ·rw [r3]
   refine KJ (fun j f hj hne=>?_) rfl
   have:j<ops.size:=by
    have:=(List.getElem?_eq_some_iff.1 hj).1
    simp [LT] at this;omega
   rw [Nat.zero_add,hd j this] at hne
   exact absurd rfl hne
  ·rw [r4,L7 r2]
   refine KJ (fun j f hj hne=>?_) rfl
   have:j<ops.size:=by
    have:=(List.getElem?_eq_some_iff.1 hj).1
    simp [LH] at this;omega
   rw [Nat.zero_add,hd j this] at hne
   exact absurd rfl hne
 intro fuel
 induction fuel with
 | zero =>
  intro listed β a w hsz hleft hi hf _ _
  have hr:Region.ready .any ops listed=[]:=by
   apply List.eq_nil_iff_forall_not_mem.2
   intro i hm
   unfold Region.ready at hm
   rw [List.mem_filter] at hm
   have h1:(!listed.getD i true)=true:=(Bool.and_eq_true_iff.1 hm.2).1
   have:0<left listed ops.size:=List.countP_pos_iff.2 ⟨i,hm.1,h1⟩
   omega
  exact ⟨hr,fin listed β a w hsz hr hi hf⟩
 | succ fuel ih =>
  intro listed β a w hsz hleft hi hf hfr hclosed
  refine ⟨fun hr=>fin listed β a w hsz hr hi hf,fun i hmem=>?_⟩
  unfold Region.ready at hmem
  rw [List.mem_filter] at hmem
  obtain ⟨hrange,hready⟩:=hmem
  have hilt:=List.mem_range.1 hrange
  obtain ⟨hnl,hedges⟩:=Bool.and_eq_true_iff.1 hready
  have hnl':listed.getD i false=false:=by
   rw [Array.getD_eq_getD_getElem?] at hnl ⊢
   rw [Array.getElem?_eq_getElem (by omega)] at hnl ⊢
   simpa using hnl
  have ho:ops[i]? = some ops[i]:=Array.getElem?_eq_getElem hilt
  rw [ho] at hedges
  simp only [Option.map_some,Option.getD_some] at hedges
  have hdeps:∀ e∈ops[i].after.toList,Region.binds .any e=true→listed.getD e.on false=true:=by
   intro e he hb
   have:=Array.all_eq_true_iff_forall_mem.1 hedges e (by simpa using he)
   rw [hb] at this
   simpa using this
  have hbits:∀ k,((Fs ops.toList []).getD i 0).testBit k=true→listed.getD k false=true:=by
   intro k hk
   obtain ⟨e,h1,h2,h3⟩:=jK (l:=ops.toList) (acc:=[]) (j:=i) (k:=k) (o:=ops[i]) (by simp) (by simpa using hk)
   have:=hdeps e h1 h2
   rcases h3 with h3 | h3
   ·rw [h3];exact this
   ·exact hclosed e.on this k h3
  have hrec:recs[i]? = some recs[i]:=List.getElem?_eq_getElem (by omega)
  obtain ⟨o,T,H,path,q1,q2,q3,q4,q5,q6,q7,q8,q9,q10,q11⟩:=r5 i _ hrec
  have ho':o=ops[i]:=by
   rw [Array.getElem?_toList,ho] at q1
   injection q1 with q1;exact q1.symm
  subst ho'
  rw [Nat.zero_add] at q2
  have later:∀ j r,recs[j]? = some r→i<j→listed.getD j false=true→Nu recs[i] r=true:=by
   intro j r hj hlt hl
   refine Xz hchk hrec hj hlt ?_
   rw [Nat.zero_add]
   cases hb:((Fs ops.toList []).getD j 0).testBit i with
   | false=>rfl
   | true=>rw [hclosed j hl i hb] at hnl';cases hnl'
  have earlier:∀ j r,recs[j]? = some r→j<i→listed.getD j false=false→Nu r recs[i]=true:=by
   intro j r hj hlt hl
   refine Xz hchk hj hrec hlt ?_
   rw [Nat.zero_add]
   cases hb:((Fs ops.toList []).getD i 0).testBit j with
   | false=>rfl
   | true=>rw [hbits j hb] at hl;cases hl
  have blt:∀ j,Nat.blt j i=true↔j<i:=fun j=>by unfold Nat.blt;exact ⟨Nat.le_of_ble_eq_true,Nat.ble_eq_true_of_le⟩
  have side:∀ j r,recs[j]? = some r→(fun x=>Nat.blt x i) (0+j)≠(fun i=>listed.getD i false) (0+j)→(∀ t∈recs[i].ts,r.dst≠some t)∧(∀ k∈recs[i].ks,∀ y,(k,y) ∉ r.r.upd):=by
   intro j r hj hne
   simp only [Nat.zero_add] at hne
   rcases Nat.lt_trichotomy j i with hlt | rfl | hlt
   ·have hb:=(blt j).2 hlt
    rw [hb] at hne
    have hl:listed.getD j false=false:=by cases h:listed.getD j false with | false=>rfl | true=>rw [h] at hne;exact absurd rfl hne
    obtain ⟨p1,_,_,p4,_,_⟩:=TP (earlier j r hj hlt hl)
    exact ⟨fun t ht hd=>p1 t hd ht,fun k hk y hy=>p4 k y hy hk⟩
   ·have hb:Nat.blt j j=false:=by cases h:Nat.blt j j with | false=>rfl | true=>exact absurd ((blt j).1 h) (by omega)
    rw [hb,hnl'] at hne;exact absurd rfl hne
   ·have hb:Nat.blt j i=false:=by cases h:Nat.blt j i with | false=>rfl | true=>exact absurd ((blt j).1 h) (by omega)
    rw [hb] at hne
    have hl:listed.getD j false=true:=by cases h:listed.getD j false with | true=>rfl | false=>rw [h] at hne;exact absurd rfl hne
    obtain ⟨_,p2,_,_,p5,_⟩:=TP (later j r hj hlt hl)
    exact ⟨fun t ht hd=>p2 t hd ht,fun k hk y hy=>p5 k y hy hk⟩
  have agT:∀ t∈Iy ops ops[i],Al T t=Bk (fun i=>listed.getD i false) 0 (LT recs) (Al s.T) t:=by
   intro t ht
   rw [q6]
   refine KJ (fun j f hj hne=>?_) rfl
   simp only [LT,List.getElem?_map,Option.map_eq_some_iff] at hj
   obtain ⟨r,hr,rfl⟩:=hj
   exact X1 ((side j r hr hne).1 t (by rw [q4];exact ht))
  have agH:∀ k∈FX ops[i] (EZ (Al T) (Iy ops ops[i])) (Iy ops ops[i]) H,AB H k=AB (hD (fun i=>listed.getD i false) 0 recs s.H) k:=by
   intro k hk
   rw [q7,L7 r2]
   refine KJ (fun j f hj hne=>?_) rfl
   simp only [LH,List.getElem?_map,Option.map_eq_some_iff] at hj
   obtain ⟨r,hr,rfl⟩:=hj
   exact TQ fun y=>(side j r hr hne).2 k (by rw [q5,q4];exact hk) y
  rw [ABq agT agH] at q2
  have hcr:AP recs[i].r.conds:=by
   have:∀ (L:List Rec) (j:Nat) (r:Rec),AP (HC L)→L[j]? = some r→AP r.r.conds:=by
    intro L
    induction L with
    | nil=>intro j r _ h;simp at h
    | cons q L ihL =>
     intro j r hcL hj
     obtain ⟨c1,c2⟩:=Bz.1 hcL
     cases j with
     | zero=>simp at hj;subst hj;exact c1
     | succ j=>exact ihL j r c2 (by simpa using hj)
   exact this recs i _ hc hrec
  have keysW:∀ k y,(k,y)∈recs[i].r.upd→k∈W:=by
   intro k y hk
   refine hW k ?_
   have:∀ (L:List Rec) (r:Rec),r∈L→k∈Hy r.r.upd→k∈Ea L:=by
    intro L
    induction L with
    | nil=>intro r h;cases h
    | cons q L ihL =>
     intro r hr hkr
     simp only [Ea,CY,List.mem_append]
     rcases List.mem_cons.1 hr with rfl | hr
     ·exact .inl hkr
     ·exact .inr (ihL r hr hkr)
   exact this recs _ (List.getElem_mem _) (L6.2 ⟨y,hk⟩)
  have freeH:∀ b,recs[i].fr≤b→b<recs[i].fr+recs[i].r.nw→AB (hD (fun i=>listed.getD i false) 0 recs s.H) b=none:=by
   intro b h1 h2
   have e:=q11 b h1
   rw [q7] at e
   rw [L7 r2,← e]
   refine KJ (fun j f hj hne=>?_) rfl
   simp only [LH,List.getElem?_map,Option.map_eq_some_iff] at hj
   obtain ⟨r,hr,rfl⟩:=hj
   refine TQ fun y hy=>?_
   obtain ⟨o2,T2,H2,path2,w1,w2,_,w4,w5,_,_,_,w9,w10,w11⟩:=r5 j r hr
   have hu2:=Pp w2 (fun b h1 _=>w11 b h1)
   simp only [Nat.zero_add] at hne
   rcases Nat.lt_trichotomy j i with hlt | rfl | hlt
   ·have:=r6 j i r _ hr hrec hlt
    rcases (Ns hu2).1 b y hy with hh | ⟨_,hh,_⟩
    ·have hh:=PW hh;rw [w11 b (by omega)] at hh;cases hh
    ·omega
   ·have hb:Nat.blt j j=false:=by cases h:Nat.blt j j with | false=>rfl | true=>exact absurd ((blt j).1 h) (by omega)
    rw [hb,hnl'] at hne;exact absurd rfl hne
   ·have hb:Nat.blt j i=false:=by cases h:Nat.blt j i with | false=>rfl | true=>exact absurd ((blt j).1 h) (by omega)
    rw [hb] at hne
    have hl:listed.getD j false=true:=by cases h:listed.getD j false with | true=>rfl | false=>rw [h] at hne;exact absurd rfl hne
    have hind:=later j r hr hlt hl
    have h6:=r6 i j _ r hrec hr hlt
    rcases ABr w2 b y hy with hh | ⟨hh,_⟩
    ·rw [← w4,← w5] at hh
     exact jN (Bool.and_eq_true_iff.1 hind).1 b hh h1 h2
    ·omega
  refine Xq hO hi.tmp hi.good q2 hcr (hfr i _ hrec hnl') freeH ho fun u w' β' hE hG=>?_
  have hset:∀ j,(listed.setIfInBounds i true).getD j false=if j=i then true else listed.getD j false:=by
   intro j
   rw [Array.getD_eq_getD_getElem?,Array.getD_eq_getD_getElem?]
   by_cases hji:j=i
   ·subst hji;rw [Array.getElem?_setIfInBounds_self_of_lt (by omega)];simp
   ·rw [Array.getElem?_setIfInBounds_ne (Ne.symm hji),if_neg hji]
  have hst:=hi.step hE hG keysW (d:=ops[i].dst) (fun t ht=>by rw [← hn];exact q8 t ht)
  refine ih _ β' _ w' (by simpa using hsz) ?_ (hst.congr (fun t=>?_) (fun b=>?_)) ?_ ?_ ?_
  ·have hlt:left (listed.setIfInBounds i true) ops.size<left listed ops.size:=by
    refine jQ _ _ _ i hrange hnl ?_ ?_
    ·rw [Array.getD_eq_getD_getElem?,Array.getElem?_setIfInBounds_self_of_lt (by omega)];rfl
    ·intro j _ hj
     by_cases hji:j=i
     ·subst hji;exact hnl
     ·rw [Array.getD_eq_getD_getElem?,Array.getElem?_setIfInBounds_ne (Ne.symm hji),← Array.getD_eq_getD_getElem?] at hj;exact hj
   omega
  ·rw [jJ]
   have hf:(LT recs)[i]? = some (KK ops[i].dst recs[i].r.val):=by simp [LT,hrec,q3]
   refine (Xt hf (by rw [Nat.zero_add];exact hnl') (by rw [Nat.zero_add,hset,if_pos rfl]) (fun j hj=>by rw [Nat.zero_add,hset,if_neg hj]) ?_).symm
   intro j g hg hlt hl
   simp only [LT,List.getElem?_map,Option.map_eq_some_iff] at hg
   obtain ⟨r,hr,rfl⟩:=hg
   rw [Nat.zero_add] at hl
   obtain ⟨_,_,p3,_⟩:=TP (later j r hr hlt hl)
   by_cases hd:ops[i].dst=some t
   ·exact .inl (X1 (p3 t (by rw [q3];exact hd)))
   ·exact .inr (X1 hd)
  ·rw [Xu (r2 _ (List.getElem_mem _)),L7 r2]
   have hf:(LH recs)[i]? = some (FZ recs[i].r.upd):=by simp [LH,hrec]
   have hfun:AB (hD (fun i=>listed.getD i false) 0 recs s.H)=Bk (fun i=>listed.getD i false) 0 (LH recs) (AB s.H):=funext (L7 r2)
   rw [hfun]
   refine (Xt hf (by rw [Nat.zero_add];exact hnl') (by rw [Nat.zero_add,hset,if_pos rfl]) (fun j hj=>by rw [Nat.zero_add,hset,if_neg hj]) ?_).symm
   intro j g hg hlt hl
   simp only [LH,List.getElem?_map,Option.map_eq_some_iff] at hg
   obtain ⟨r,hr,rfl⟩:=hg
   rw [Nat.zero_add] at hl
   obtain ⟨_,_,_,_,_,p6⟩:=TP (later j r hr hlt hl)
   by_cases hk:∃ y,(b,y)∈recs[i].r.upd
   ·obtain ⟨y,hy⟩:=hk
    exact .inl (TQ fun y' hy'=>p6 b y y' hy hy')
   ·exact .inr (TQ fun y hy=>hk ⟨y,hy⟩)
  ·intro b hb
   cases hβ:β' b with
   | none=>rfl
   | some X =>
    rcases hE.new b X hβ with h | ⟨_,h,_⟩
    ·rw [hf b hb] at h;cases h
    ·omega
  ·intro j r hj hl b h1 h2
   rw [hset] at hl
   by_cases hji:j=i
   ·rw [if_pos hji] at hl;cases hl
   ·rw [if_neg hji] at hl
    cases hβ:β' b with
    | none=>rfl
    | some X =>
     rcases hE.new b X hβ with h | ⟨h3,h4,_⟩
     ·rw [hfr j r hj hl b h1 h2] at h;cases h
     ·rcases Nat.lt_or_ge j i with hlt | hge
      ·have:=r6 j i r _ hj hrec hlt;omega
      ·have:=r6 i j _ r hrec hj (by omega);omega
  ·intro j hj k hk
   rw [hset] at hj ⊢
   by_cases hki:k=i
   ·rw [if_pos hki]
   ·rw [if_neg hki]
    by_cases hji:j=i
    ·subst hji;exact hbits k hk
    ·rw [if_neg hji] at hj;exact hclosed j hj k hk
end
structure ASt where
 todo:List Item
 s:St
structure Log where
 conds:List (Bool×Bool)
 keys:List Nat
def TR (P:Program) (O:Orc) (ops:Array Oper) (draw:Bool) (s:St):Option (Log×St) :=
 match DF P O ops ops.toList 0 s with
 | some (recs,s')=>match draw with
  | false=>some (⟨HC recs,Ea recs⟩,s')
  | true=>match L9 recs (Fs ops.toList []) 0,Nt ops.toList 0 with
   | true,true=>some (⟨HC recs,Ea recs⟩,s')
   | _,_=>none
 | none=>none
def Nv (P:Program) (O:Orc) (x:ASt):Option (Log×ASt) :=
 match x.todo with
 | .code .skip::k=>some (⟨[],[]⟩,⟨k,x.s⟩)
 | .code (.label _)::k=>some (⟨[],[]⟩,⟨k,x.s⟩)
 | .inBlock _::k=>some (⟨[],[]⟩,⟨k,x.s⟩)
 | .inScope _::k=>some (⟨[],[]⟩,⟨k,x.s⟩)
 | .code (.seq a b)::k=>some (⟨[],[]⟩,⟨.code a::.code b::k,x.s⟩)
 | .code (.cond c a b)::k=>match BG (Al x.s.T) c with
  | some (.val false [.b true])=>some (⟨[],[]⟩,⟨.code a::k,x.s⟩)
  | some (.val false [.b false])=>some (⟨[],[]⟩,⟨.code b::k,x.s⟩)
  | some (.val false [.v (.bool z)])=>match x.s.path with
   | true::rest=>some (⟨[(z,true)],[]⟩,⟨.code a::k,{ x.s with path:=rest }⟩)
   | false::rest=>some (⟨[(z,false)],[]⟩,⟨.code b::k,{ x.s with path:=rest }⟩)
   | []=>none
  | _=>none
 | .code (.block id c)::k=>some (⟨[],[]⟩,⟨.code c::.inBlock id::k,x.s⟩)
 | .code (.loop c)::k=>some (⟨[],[]⟩,⟨.code c::.inLoop c::k,x.s⟩)
 | .inLoop c::k=>some (⟨[],[]⟩,⟨.code c::.inLoop c::k,x.s⟩)
 | .code (.scope c)::k=>some (⟨[],[]⟩,⟨.code c::.inScope c::k,x.s⟩)
 | .code (.exit id)::k=>match exitTo id k with
  | some k'=>some (⟨[],[]⟩,⟨k',x.s⟩)
  | none=>none
 | .code (.goto l)::k=>match gotoIn l k with
  | some k'=>some (⟨[],[]⟩,⟨k',x.s⟩)
  | none=>none
 | .code (.region _ ops draw)::k=>match TR P O ops draw x.s with
  | some (g,s')=>some (g,⟨k,s'⟩)
  | none=>none
 | _=>none
def Safe (P:Program) (f:FuncId) (R:Ending→World→Prop) (todo:List Item) (a:Act) (w:World):Prop :=
 ∀ (b:Frame) (cs:List Frame),b.fn=f→b.kind=.normal→∃ e w' fr,R e w'∧Comes P (lone (b.at a todo) cs w) (lone fr cs w') e∧fr.fn=f∧fr.leaving P w' e
section
variable {P:Program} {f:FuncId} {R:Ending→World→Prop} {a:Act} {w:World} {k:List Item}
theorem Safe.of_step {todo todo':List Item} (h:∀ (b:Frame) (cs:List Frame),step P (lone (b.at a todo) cs w)=.next (lone (b.at a todo') cs w)) (hs:Safe P f R todo' a w):Safe P f R todo a w:=by
 intro b cs hb hk
 obtain ⟨e,w',fr,h1,h2,h3,h4⟩:=hs b cs hb hk
 exact ⟨e,w',fr,h1,.of_steps (.one (h b cs)) h2,h3,h4⟩
theorem Safe.of_wp {c:Code} {k:List Item} (h:c.wp P (fun e a' w'=>e=.normal∧Safe P f R k a' w') a w):Safe P f R (.code c::k) a w:=by
 intro b cs hb hk
 obtain ⟨e,a',w',⟨he,hs⟩,harr⟩:=h b k cs
 subst he
 obtain ⟨e,w'',fr,h1,h2,h3,h4⟩:=hs b cs hb hk
 exact ⟨e,w'',fr,h1,.of_steps harr h2,h3,h4⟩
theorem ABt {b:Frame} {cs:List Frame} {c:Code}:step P (lone (b.at a (.code (.scope c)::k)) cs w)=.next (lone (b.at a (.code c::.inScope c::k)) cs w) :=
 step_lone_go (by simp [stepG,stepG.exec,Frame.at])
theorem ABu {b:Frame} {cs:List Frame} {c:Code}:step P (lone (b.at a (.inScope c::k)) cs w)=.next (lone (b.at a k) cs w) :=
 step_lone_go (by simp [stepG,stepG.exec,Frame.at])
theorem Safe.done {fn:Func} {v:Value} {todo:List Item} (hfn:P.funcs[f]? = some fn) (hd:a.defers=[]) (hr:(results fn a.tmps).run P w=.ok v w) (hR:R (.returned v) w)
  (ht:(∃ k,todo=.code .ret::k)∨todo=[]):Safe P f R todo a w:=by
 intro b cs hb hk
 rcases ht with ⟨k,rfl⟩ | rfl
 ·exact ⟨.returned v,w,{ b.at a (.code .ret::k) with mode:=.returning },hR,Steps.one step_ret,hb,rfl,hd,hk,fn,by show P.funcs[b.fn]? = some fn;rw [hb];exact hfn,hr⟩
 ·exact ⟨.returned v,w,{ b.at a [] with mode:=.returning },hR,Steps.one step_end,hb,rfl,hd,hk,fn,by show P.funcs[b.fn]? = some fn;rw [hb];exact hfn,hr⟩
end
def ASafe (P:Program) (f:FuncId) (β0:Env) (w0:World) (R:Ending→World→Prop) (n:Fz) (W:List Nat) (x:ASt):Prop :=
 ∀ (β:Env) (a:Act) (w:World),Inv β0 w0 W n β (Al x.s.T) x.s.H a w→(∀ b,x.s.fr≤b→β b=none)→Safe P f R x.todo a w
def Bp (n:Fz) (s:St):Prop:=(∀ b,s.fr≤b→AB s.H b=none)∧s.T.length=n.n
theorem Inv.mono {β0:Env} {w0:World} {W W':List Nat} {n:Fz} {β:Env} {τ:Nat→AV} {H:Heap} {a:Act} {w:World} (i:Inv β0 w0 W n β τ H a w) (h:∀ k∈W,k∈W'):Inv β0 w0 W' n β τ H a w :=
 { i with
  new:=fun b X hb=>(i.new b X hb).imp id fun q B m e=>(q B m e).imp id fun ⟨k,m',h1,h2⟩=>⟨k,m',h k h1,h2⟩
  frame:=fun B hB hno=>i.frame B hB fun k m hk=>hno k m (h k hk) }
section
variable {P:Program} {O:Orc} (hO:OrcOk P O) (hm:P.follows .mixedOrders=true) {f:FuncId} {β0:Env} {w0:World} {R:Ending→World→Prop} {n:Fz} {W:List Nat}
include hO hm
theorem ABv {id:Nat} {ops:Array Oper} {draw:Bool} {s s':St} {g:Log} {k:List Item} (h:TR P O ops draw s=some (g,s')) (hc:AP g.conds) (hwf:Bp n s)
  (hs:ASafe P f β0 w0 R n (W++g.keys) ⟨k,s'⟩):ASafe P f β0 w0 R n W ⟨.code (.region id ops draw)::k,s⟩:=by
 intro β a w hi hf
 obtain ⟨hfH,hn⟩:=hwf
 have hi':=hi.mono (W':=W++g.keys) (fun k hk=>List.mem_append.2 (.inl hk))
 unfold TR at h
 split at h
 ·rename_i recs s1 hrun
  split at h
  ·injection h with h;injection h with h1 h2;subst h1;subst h2
   refine Safe.of_wp (wp_region ?_)
   have:=jI hO (Q:=fun e a' w'=>e=.normal∧Safe P f R k a' w') ops.toList 0 s s1 recs β a w (by simp) hrun hc hi' hf hfH hn (fun k hk=>List.mem_append.2 (.inr hk)) (fun β a w hi hf=>⟨rfl,hs β a w hi hf⟩)
   rw [List.range_eq_range']
   simpa using this
  ·split at h
   ·rename_i hchk hedge
    injection h with h;injection h with h1 h2;subst h1;subst h2
    refine Safe.of_wp (wp_region_any hm ?_)
    obtain ⟨r1,r2,r3,r4,r5,r6⟩:=Xv hrun hfH
    have hlist:∀ j,(Array.replicate ops.size false).getD j false=false:=by
     intro j
     rw [Array.getD_eq_getD_getElem?,Array.getElem?_replicate]
     split<;>rfl
    have e2:∀ {X:Type} (L:List (Nat→Option X)) (i:Nat) (s:Nat→X),Bk (fun i=>(Array.replicate ops.size false).getD i false) i L s=s:=by
     intro X L
     induction L with
     | nil=>intro i s;rfl
     | cons f L ih=>intro i s;rw [Bk,hlist];exact ih _ _
    refine ABs hO (Q:=fun e a' w'=>e=.normal∧Safe P f R k a' w') hrun hchk hedge hc hfH hn (fun k hk=>List.mem_append.2 (.inr hk)) (fun β a w hi hf=>⟨rfl,hs β a w hi hf⟩) _ _ β a _ (by simp) ?_ ?_ ?_ ?_ ?_
    ·refine Nat.le_trans List.countP_le_length ?_
     simp
    ·refine (hi'.drew).congr (fun t=>by rw [e2]) (fun b=>by rw [L7 r2,e2])
    ·intro b hb
     have:s.fr≤s1.fr:=(Xs hrun hfH).2.1
     exact hf b (Nat.le_trans this hb)
    ·intro j r hj _ b h1 h2
     obtain ⟨_,_,_,_,_,_,_,_,_,_,_,_,q9,_⟩:=r5 j r hj
     exact hf b (Nat.le_trans q9 h1)
    ·intro j hj
     rw [hlist] at hj;cases hj
   ·cases h
 ·cases h
theorem X2 {x y:ASt} {g:Log} (h:Nv P O x=some (g,y)) (hc:AP g.conds) (hwf:Bp n x.s) (hs:ASafe P f β0 w0 R n (W++g.keys) y):ASafe P f β0 w0 R n W x:=by
 obtain ⟨todo,s⟩:=x
 unfold Nv at h
 simp only at h
 have pl:∀ {k':List Item},(⟨[],[]⟩,⟨k',s⟩)=(g,y)→(∀ (a:Act) (w:World) (b:Frame) (cs:List Frame),step P (lone (b.at a todo) cs w)=.next (lone (b.at a k') cs w))→ASafe P f β0 w0 R n W ⟨todo,s⟩:=by
  intro k' he hst β a w hi hf
  injection he with h1 h2;subst h1;subst h2
  exact Safe.of_step (hst a w) (hs β a w (by simpa using hi) hf)
 split at h
 all_goals first | (cases h;done) | skip
 ·injection h with h;exact pl h (fun _ _ _ _=>step_skip)
 ·injection h with h;exact pl h (fun _ _ _ _=>step_label)
 ·injection h with h;exact pl h (fun _ _ _ _=>step_inBlock)
 ·injection h with h;exact pl h (fun _ _ _ _=>ABu)
 ·injection h with h;exact pl h (fun _ _ _ _=>step_seq)
 ·rename_i c ca cb k
  have cond:∀ (z:Bool) (path':List Bool) (cc:List (Bool×Bool)),(⟨cc,[]⟩,⟨.code (if z then ca else cb)::k,{ s with path:=path' }⟩)=(g,y)→(AP cc→∀ (β:Env) (a:Act),(∀ t,AG β (Al s.T t) (a.tmps.getD t undef))→a.eval c=.bool z)→ASafe P f β0 w0 R n W ⟨.code (.cond c ca cb)::k,s⟩:=by
   intro z path' cc he hev β a w hi hf
   injection he with h1 h2;subst h1;subst h2
   refine Safe.of_step (fun b cs=>step_cond (hev hc β a hi.tmp)) (hs β a w (by simpa using hi) hf)
  split at h
  ·rename_i hev
   injection h with h
   refine cond true s.path [] (by simpa using h) fun _ β a ht=>?_
   have:=An (Hs ht hev)
   simpa [A2] using this
  ·rename_i hev
   injection h with h
   refine cond false s.path [] (by simpa using h) fun _ β a ht=>?_
   have:=An (Hs ht hev)
   simpa [A2] using this
  ·rename_i z hev
   split at h
   ·rename_i rest hp
    injection h with h
    refine cond true rest [(z,true)] (by simpa using h) fun hz β a ht=>?_
    have:=(An (Hs ht hev)).1
    injection this with this _
    rw [this,hz.1]
   ·rename_i rest hp
    injection h with h
    refine cond false rest [(z,false)] (by simpa using h) fun hz β a ht=>?_
    have:=(An (Hs ht hev)).1
    injection this with this _
    rw [this,hz.1]
   ·cases h
  ·cases h
 ·injection h with h;exact pl h (fun _ _ _ _=>step_block)
 ·injection h with h;exact pl h (fun _ _ _ _=>step_loop)
 ·injection h with h;exact pl h (fun _ _ _ _=>step_inLoop)
 ·injection h with h;exact pl h (fun _ _ _ _=>ABt)
 ·split at h
  ·rename_i k' he
   injection h with h;exact pl h (fun _ _ _ _=>step_exit he)
  ·cases h
 ·split at h
  ·rename_i k' he
   injection h with h;exact pl h (fun _ _ _ _=>step_goto he)
  ·cases h
 ·split at h
  ·rename_i g' s' hr
   injection h with h;injection h with h1 h2;subst h1;subst h2
   exact ABv hO hm hr hc hwf hs
  ·cases h
omit hO hm in
theorem X3 {x y:ASt} {g:Log} (h:Nv P O x=some (g,y)) (hwf:Bp n x.s):Bp n y.s:=by
 obtain ⟨todo,s⟩:=x
 unfold Nv at h
 simp only at h hwf
 have pl:∀ {k':List Item} {c:Log},(c,(⟨k',s⟩:ASt))=(g,y)→Bp n y.s:=by
  intro k' c he
  injection he with h1 h2;subst h2;exact hwf
 split at h
 all_goals first | (cases h;done) | skip
 all_goals first | (injection h with h;exact pl h) | skip
 ·split at h
  ·injection h with h;exact pl h
  ·injection h with h;exact pl h
  ·split at h
   ·injection h with h;injection h with h1 h2;subst h2;exact hwf
   ·injection h with h;injection h with h1 h2;subst h2;exact hwf
   ·cases h
  ·cases h
 ·split at h
  ·injection h with h;exact pl h
  ·cases h
 ·split at h
  ·injection h with h;exact pl h
  ·cases h
 ·split at h
  ·rename_i g' s' hr
   injection h with h;injection h with h1 h2;subst h2
   unfold TR at hr
   split at hr
   ·rename_i recs s1 hrun
    have:=Xs hrun hwf.1
    have hw:Bp n s1:=⟨this.1,by rw [this.2.2];exact hwf.2⟩
    split at hr
    ·injection hr with hr;injection hr with _ hr;subst hr;exact hw
    ·split at hr
     ·injection hr with hr;injection hr with _ hr;subst hr;exact hw
     ·cases hr
   ·cases hr
  ·cases h
end
def ABw (stop:Option Nat) (before:List Item) (after:List Item):Bool :=
 match stop,before with
 | some d,.inLoop _::_=>match d with | 0=>true | d+1=>Nat.beq after.length (d+1)
 | some d,.code (.loop _)::_=>match d with | 0=>true | d+1=>Nat.beq after.length (d+1)
 | _,_=>false
def L_:List Item→Bool
 | []=>true
 | .code .ret::_=>true
 | _=>false
def I0 (P:Program) (O:Orc) (stop:Option Nat):Nat→ASt→Option (Log×ASt)
 | 0,_=>none
 | n+1,x=>match L_ x.todo with
  | true=>some (⟨[],[]⟩,x)
  | false=>match Nv P O x with
   | some (g,y)=>match ABw stop x.todo y.todo with
    | true=>some (g,y)
    | false=>match I0 P O stop n y with
     | some (g',z)=>some (⟨g.conds++g'.conds,cat g.keys g'.keys⟩,z)
     | none=>none
   | none=>none
section
variable {P:Program} {O:Orc} (hO:OrcOk P O) (hm:P.follows .mixedOrders=true) {f:FuncId} {β0:Env} {w0:World} {R:Ending→World→Prop} {n:Fz}
include hO hm
theorem TS {stop:Option Nat}:∀ {m:Nat} {W:List Nat} {x y:ASt} {g:Log},I0 P O stop m x=some (g,y)→AP g.conds→Bp n x.s→(Bp n y.s→ASafe P f β0 w0 R n (W++g.keys) y)→ASafe P f β0 w0 R n W x
 | 0,_,_,_,_,h,_,_,_=>by simp [I0] at h
 | m+1,W,x,y,g,h,hc,hwf,hs=>by
  simp only [I0] at h
  split at h
  ·injection h with h;injection h with h1 h2;subst h1;subst h2
   have:=hs hwf
   simpa using this
  ·split at h
   ·rename_i g1 y1 hst
    split at h
    ·injection h with h;injection h with h1 h2;subst h1;subst h2
     exact X2 hO hm hst hc hwf (hs (X3 hst hwf))
    ·split at h
     ·rename_i g2 z hr
      injection h with h;injection h with h1 h2;subst h1;subst h2
      obtain ⟨c1,c2⟩:=Bz.1 hc
      refine X2 hO hm hst c1 hwf (TS hr c2 (X3 hst hwf) fun hw=>?_)
      have:=hs hw
      simpa [CY] using this
     ·cases h
   ·cases h
end
def X4 (P:Program) (T:List AV) (H:Heap):ResultVar→Option (Bool×List Ch)
 | .tmp t=>match Al T t with
  | .val g cs=>some (g,cs)
  | _=>none
 | .cell a t=>match Al T a with
  | .val false [.p bk off]=>match Hr H bk with
   | some blk=>match Nk P t blk.cs off [] with
    | some r=>match r.conds,r.val with
     | [],.val g cs=>some (g,cs)
     | _,_=>none
    | none=>none
   | none=>none
  | _=>none
def KN (P:Program) (T:List AV) (H:Heap):List ResultVar→Option (List (Bool×List Ch))
 | []=>some []
 | x::r=>match X4 P T H x,KN P T H r with
  | some a,some l=>some (a::l)
  | _,_=>none
def Nw (l:List (Bool×List Ch)):AV:=match l with
 | [(g,cs)]=>.val g cs
 | l=>.tup l
theorem ABx {P:Program} {β:Env} {T:List AV} {H:Heap} {tmps:Array Value} {w:World} (ht:∀ t,AG β (Al T t) (tmps.getD t undef)) (g:Good β H w) {x:ResultVar} {a:Bool×List Ch} (h:X4 P T H x=some a) :
  ∃ u,((match x with | .tmp t=>pure (tmps.getD t undef) | .cell a t=>do loadVar t (← asAddr (tmps.getD a undef)):Sem Value)).run P w=.ok u w∧BO β a.1 a.2 u:=by
 unfold X4 at h
 split at h
 ·rename_i t
  split at h
  ·rename_i gg cs hT
   injection h with h;subst h
   have:=ht t
   rw [hT] at this
   exact ⟨_,rfl,this⟩
  ·cases h
 ·rename_i ad t
  split at h
  ·rename_i bk off hT
   split at h
   ·rename_i blk hb
    split at h
    ·rename_i r hl
     split at h
     ·rename_i gg cs hcv hvv
      injection h with h;subst h
      have:=ht ad
      rw [hT] at this
      obtain ⟨B',n',e4,e5⟩:=An this
      injection e5 with e5 _
      rcases g.cells hb with ⟨B,n,l,t',pre,ty',fz,e1,e2,e3,e0,_⟩ | ⟨e1,_⟩
      ·rw [e1] at e4;injection e4 with e4;injection e4 with e4 e4';subst e4;subst e4'
       obtain ⟨v,hv,he⟩:=SL g e2 e3 hl (by rw [hcv];trivial) 0
       rw [e0] at hv
       refine ⟨v,?_,?_⟩
       ·simp only [e5,asAddr,Sem.run_bind,Sem.run_pure,Result.andThen_ok,hv]
       ·have:=he.val
        rw [hvv] at this
        exact this
      ·rw [e1] at e4;cases e4
     ·cases h
    ·cases h
   ·cases h
  ·cases h
theorem jS {P:Program} {β:Env} {T:List AV} {H:Heap} {fn:Func} {tmps:Array Value} {w:World} (ht:∀ t,AG β (Al T t) (tmps.getD t undef)) (g:Good β H w) {l:List (Bool×List Ch)} (h:KN P T H fn.results.toList=some l) :
  ∃ v,(results fn tmps).run P w=.ok v w∧AG β (Nw l) v:=by
 have key:∀ (rs:List ResultVar) (l:List (Bool×List Ch)),KN P T H rs=some l →
   ∃ us,(rs.mapM (m:=Sem) fun | .tmp t=>pure (tmps.getD t undef) | .cell a t=>do loadVar t (← asAddr (tmps.getD a undef))).run P w=.ok us w∧D7 β l us:=by
  intro rs
  induction rs with
  | nil=>intro l h;simp only [KN,Option.some.injEq] at h;subst h;exact ⟨[],by simp,rfl⟩
  | cons x rs ih =>
   intro l h
   simp only [KN] at h
   split at h
   ·rename_i a l' h1 h2
    injection h with h;subst h
    obtain ⟨u,hu,hr⟩:=ABx ht g h1
    obtain ⟨us,hus,hrs⟩:=ih l' h2
    refine ⟨u::us,?_,u,us,hr,hrs,rfl⟩
    rw [List.mapM_cons,Sem.run_bind,hu]
    simp only [Result.andThen_ok,Sem.run_bind,hus,Sem.run_pure]
   ·cases h
 obtain ⟨us,hus,hrel⟩:=key _ _ h
 unfold results
 rw [Array.mapM_eq_mapM_toList,Sem.run_bind,Sem.run_map]
 refine ⟨if h:us.toArray.size=1 then us.toArray[0] else .tuple us.toArray,?_,?_⟩
 ·have e:∀ (x:Sem (List Value)),x.run P w=.ok us w→((x.run P w).andThen fun a w'=>Result.ok a.toArray w').andThen (fun vs w'=>Result.ok (if h:vs.size=1 then vs[0] else Value.tuple vs) w')=.ok (if h:us.toArray.size=1 then us.toArray[0] else .tuple us.toArray) w:=by
   intro x hx;rw [hx];rfl
  exact e _ hus
 unfold Nw
 split
 ·rename_i gg cs
  obtain ⟨u,l',h1,h2,h3⟩:=hrel
  simp only [D7] at h2;subst h2;subst h3
  show AG β (.val gg cs) u
  exact h1
 ·rename_i hno
  have hlen:us.length=l.length:=by
   have:∀ (l:List (Bool×List Ch)) (us:List Value),D7 β l us→us.length=l.length:=by
    intro l
    induction l with
    | nil=>intro us h;simp only [D7] at h;simp [h]
    | cons x l ih=>intro us ⟨u,l',h1,h2,h3⟩;simp [h3,ih _ h2]
   exact this _ _ hrel
  rw [dif_neg (by
   intro h1
   have:l.length=1:=by rw [← hlen];simpa using h1
   obtain ⟨⟨gg,cs⟩,rfl⟩:=List.length_eq_one_iff.1 this
   exact hno gg cs rfl)]
  exact ⟨us,hrel,rfl⟩
end Go.Proofs.YtojnabmgolpodaaGreat.Ex
namespace Go.Proofs.YtojnabmgolpodaaGreat.Ex
open Go.RowKit (Below)
def Nx:Nat→List AV
 | 0=>[]
 | n+1=>.tup []::Nx n
def TT:List AV→List AV→List AV
 | [],l=>l
 | x::r,l=>x::TT r l
theorem TU:∀ (a b:List AV),TT a b=a++b
 | [],_=>rfl
 | x::r,b=>by simp [TT,TU r b]
theorem X5:∀ n,(Nx n).length=n
 | 0=>rfl
 | n+1=>by simp [Nx,X5 n]
def HD:List AV→Nat
 | []=>0
 | _::r=>HD r+1
theorem KO:∀ l:List AV,HD l=l.length
 | []=>rfl
 | _::r=>by simp [HD,KO r]
def I1 (args:List AV) (n:Nat):List AV:=TT args (Nx (n-HD args))
theorem jT {β:Env}:∀ {xs:List AV} {us:List Value},Aq β xs us→us.length=xs.length
 | [],us,h=>by simp only [Aq] at h;simp [h]
 | x::xs,us,⟨u,us',_,h2,h3⟩=>by simp [h3,jT h2]
theorem X6 {β:Env}:∀ {xs:List AV} {us:List Value} (m:Nat),Aq β xs us→∀ t,AG β (Al (xs++Nx m) t) ((us++List.replicate m undef).getD t undef)
 | [],us,0,h,t=>by simp only [Aq] at h;subst h;exact trivial
 | [],us,m+1,h,0=>by
  simp only [Aq] at h;subst h
  exact ⟨[],rfl,rfl⟩
 | [],us,m+1,h,t+1=>by
  simp only [Aq] at h;subst h
  have:=X6 (β:=β) (xs:=[]) (us:=[]) m rfl t
  simpa [Nx,Al,List.replicate_succ] using this
 | x::xs,us,m,⟨u,us',h1,h2,h3⟩,0=>by subst h3;exact h1
 | x::xs,us,m,⟨u,us',h1,h2,h3⟩,t+1=>by
  subst h3
  have:=X6 m h2 t
  simpa [Al] using this
structure Out (β0:Env) (w0:World) (W:List Nat) (val:AV) (H:Heap) (u:Value) (w:World) (β:Env):Prop where
 val:AG β val u
 good:Good β H w
 new:∀ b X,β b=some X→β0 b=some X∨∀ B m,X=.at_ B m→w0.heap.size≤B∨∃ k m',k∈W∧β0 k=some (.at_ B m')
 ext:Env.le β0 β
 frame:∀ B,B<w0.heap.size→(∀ k m,k∈W→β0 k≠some (.at_ B m))→w.heap[B]? = w0.heap[B]?
 size:w0.heap.size≤w.heap.size
 os:w.os=w0.os
 tape:w.tape=w0.tape
 output:w.output=w0.output
def A7 (β0:Env) (w0:World) (W:List Nat) (val:AV) (H:Heap):Ending→World→Prop:=fun e w=>∃ u β,e=.returned u∧Out β0 w0 W val H u w β
section
variable {P:Program} {O:Orc} (hO:OrcOk P O) (hm:P.follows .mixedOrders=true) {f:FuncId} {fn:Func} {c:Code}
theorem X7 {R:Ending→World→Prop} (hfn:P.funcs[f]? = some fn) (hb:fn.body=some c) {args:List AV} {H:Heap} {fr:Nat} {path:List Bool} {β:Env} {us:List Value} {w:World} (hlen:args.length≤fn.ntmps)
  (h:ASafe P f β w R fn.ntmps [] ⟨[.code c],⟨I1 args fn.ntmps,H,fr,path⟩⟩) (ha:Aq β args us) (hg:Good β H w) (hf:∀ b,fr≤b→β b=none):Calls P f ⟨us⟩ w R:=by
 have hul:=jT ha
 have hs:=h β { tmps:=(⟨us⟩:Array Value)++Array.replicate (fn.ntmps-us.length) undef,defers:=[] } w ?_ hf
 ·intro cs
  let b:Frame:={ (default:Frame) with fn:=f,kind:=.normal }
  have henter:Frame.enter P f ⟨us⟩ .normal=b.at { tmps:=(⟨us⟩:Array Value)++Array.replicate (fn.ntmps-us.length) undef,defers:=[] } [.code c]:=by
   simp [Frame.enter,Frame.at,hfn,hb,b]
  rw [henter]
  exact hs b cs rfl rfl
 ·have hT:∀ t,AG β (Al (I1 args fn.ntmps) t) (((⟨us⟩:Array Value)++Array.replicate (fn.ntmps-us.length) undef).getD t undef):=by
   intro t
   have:=X6 (fn.ntmps-us.length) ha t
   have e:((⟨us⟩:Array Value)++Array.replicate (fn.ntmps-us.length) undef).getD t undef=(us++List.replicate (fn.ntmps-us.length) undef).getD t undef:=by
    rw [Array.getD_eq_getD_getElem?,List.getD_eq_getElem?_getD,← Array.getElem?_toList]
    simp
   rw [e,I1,TU,KO,← hul]
   exact this
  exact ⟨hT,hg,by simp;omega,rfl,fun b X hb=>.inl hb,Env.le_refl _,fun _ _ _=>rfl,Nat.le_refl _,rfl,rfl,rfl⟩
theorem X8 {β0:Env} {w0:World} {n:Fz} {W:List Nat} {y:ASt} {l:List (Bool×List Ch)} (hD:n.D=[]) (hfn:P.funcs[f]? = some fn) (hend:L_ y.todo=true) (hres:KN P y.s.T y.s.H fn.results.toList=some l) :
  ASafe P f β0 w0 (A7 β0 w0 W (Nw l) y.s.H) n W y:=by
 intro β a w hi _
 obtain ⟨v,hv,hr⟩:=jS hi.tmp hi.good hres
 refine Safe.done hfn (hi.dfr.trans hD) hv ⟨v,β,rfl,hr,hi.good,hi.new,hi.ext,hi.frame,hi.size,hi.os,hi.tape,hi.output⟩ ?_
 unfold L_ at hend
 split at hend
 ·rename_i h;exact .inr h
 ·rename_i k h;exact .inl ⟨k,h⟩
 ·cases hend
def KP:AV→Bool
 | .val _ cs=>EX (Cr cs)
 | .tup xs=>EX (G' xs)
 | .any=>false
def TV:List AV→Bool
 | []=>true
 | x::r=>KP x&&TV r
theorem ABy {β β':Env}:∀ {caps:List (Nat×Nat)} {l:List Value},caps.map (·.1)=[]→D6 β caps l→D6 β' caps l
 | [],_,_,h=>h
 | _::_,_,h,_=>by simp at h
theorem ABz {β β':Env} {c:Ch} {l:List Value} (hk:Iv c=[]) (h:A2 β c l):A2 β' c l:=by
 cases c<;>simp only [Iv] at hk<;>simp only [A2] at h ⊢
 case n=>exact h
 case b=>exact h
 case v=>exact h
 case p=>cases hk
 case sl=>cases hk
 case sx=>cases hk
 case num=>exact h
 case seq=>exact h
 case clo=>obtain ⟨ps,h1,h2⟩:=h;exact ⟨ps,ABy hk h1,h2⟩
 case mth=>cases hk
 case mp=>cases hk
 case mk=>exact h
theorem X9 {β β':Env}:∀ {cs:List Ch} {l:List Value},Cr cs=[]→AH β cs l→AH β' cs l
 | [],_,_,h=>h
 | c::cs,l,hk,⟨l1,l2,h1,h2,h3⟩=>by
  simp only [Cr,CY,List.append_eq_nil_iff] at hk
  exact ⟨l1,l2,ABz hk.1 h1,X9 hk.2 h2,h3⟩
theorem jU {β β':Env} {g:Bool} {cs:List Ch} {u:Value} (hk:Cr cs=[]) (h:BO β g cs u):BO β' g cs u:=by
 cases g
 ·exact X9 hk h
 ·obtain ⟨l,h1,h2⟩:=h;exact ⟨l,X9 hk h1,h2⟩
theorem jV {β β':Env}:∀ {xs:List (Bool×List Ch)} {l:List Value},G' xs=[]→D7 β xs l→D7 β' xs l
 | [],_,_,h=>h
 | (g,cs)::xs,l,hk,⟨u,l',h1,h2,h3⟩=>by
  simp only [G',CY,List.append_eq_nil_iff] at hk
  exact ⟨u,l',jU hk.1 h1,jV hk.2 h2,h3⟩
theorem HE {β β':Env} {x:AV} {u:Value} (hk:KP x=true) (h:AG β x u):AG β' x u:=by
 cases x with
 | val g cs=>exact jU (SO hk) h
 | tup xs=>obtain ⟨us,h1,h2⟩:=h;exact ⟨us,jV (SO hk) h1,h2⟩
 | any=>cases hk
theorem X_ {β β':Env}:∀ {xs:List AV} {us:List Value},TV xs=true→Aq β xs us→Aq β' xs us
 | [],_,_,h=>h
 | x::xs,us,hk,⟨u,us',h1,h2,h3⟩=>by
  have hk':=Bool.and_eq_true_iff.1 hk
  exact ⟨u,us',HE hk'.1 h1,X_ hk'.2 h2,h3⟩
def B0:Env:=fun _=>none
def AW (P:Program) (f:FuncId) (args:List AV) (v:AV):Prop :=
 ∀ (us:List Value) (w:World),Aq B0 args us→Calls P f ⟨us⟩ w fun e w'=>∃ u,e=.returned u∧AG B0 v u∧Below w.heap.size w w'
def AX (P:Program) (O:Orc) (fn:Func) (args:List AV) (path:List Bool) (fuel:Nat):Option (List (Bool×Bool)×AV) :=
 match fn.body with
 | some c=>match I0 P O none fuel ⟨[.code c],⟨I1 args fn.ntmps,[],0,path⟩⟩ with
  | some (g,y)=>match L_ y.todo,KN P y.s.T y.s.H fn.results.toList,Nat.ble (HD args) fn.ntmps with
   | true,some l,true=>some (g.conds,Nw l)
   | _,_,_=>none
  | none=>none
 | none=>none
theorem Good.none_ (w:World):Good B0 [] w where
 heap:=fun b blk h=>by cases h
 inj:=fun b b' B n n' h=>by cases h
 lt:=fun b B n h=>by cases h
include hO hm in
theorem Ac (hfn:P.funcs[f]? = some fn) {args:List AV} {path:List Bool} {fuel:Nat} {conds:List (Bool×Bool)} {v:AV} (h:AX P O fn args path fuel=some (conds,v)) (hc:AP conds) (hk:KP v=true):AW P f args v:=by
 unfold AX at h
 split at h
 case h_2=>cases h
 rename_i c hb
 split at h
 case h_2=>cases h
 rename_i g y hrun
 split at h
 case h_2=>cases h
 rename_i l hend hres hlen
 injection h with h;injection h with h1 h2;subst h1;subst h2
 intro us w ha
 have hlen':=Nat.le_of_ble_eq_true hlen
 rw [KO] at hlen'
 refine Calls.mono (X7 (R:=A7 B0 w g.keys (Nw l) y.s.H) (fr:=0) (path:=path) hfn hb hlen' ?_ ha (Good.none_ w) (fun _ _=>rfl)) ?_
 ·refine TS hO hm hrun hc ⟨fun _ _=>rfl,?_⟩ fun _=>?_
  ·simp only [I1,TU,KO,List.length_append,X5];omega
  ·rw [List.nil_append];exact X8 rfl hfn hend hres
 ·rintro e w' ⟨u,β,rfl,ho⟩
  exact ⟨u,rfl,HE hk ho.val,ho.os,ho.tape,ho.output,ho.size,fun k hk=>ho.frame k hk (fun _ _ _ h=>by cases h)⟩
theorem Ps {us:Array Value} {w:World} {R:Ending→World→Prop} (hfn:P.funcs[f]? = some fn) (hb:fn.body.isSome=true) (hname:(fn.name=="runtime.NumGoroutine")=false) (h:Calls P f us w R):KC P f us w R:=by
 unfold KC
 have h1:fn.name≠"runtime.NumGoroutine":=by simpa using hname
 have h2:¬ fn.body=none:=by cases hq:fn.body<;>simp [hq] at hb ⊢
 have:(callFunc f us).run P w=.ok (.enter f us) w:=by
  simp [callFunc,hfn,h1,h2]
 rw [this];exact h
def As (sp:List AV→Option AV):ASpec:=fun args _ _ path =>
 match TV args,sp args with
 | true,some v=>match KP v with
  | true=>some (BS v path)
  | false=>none
 | _,_=>none
theorem Av {sp:List AV→Option AV} (hfn:P.funcs[f]? = some fn) (hb:fn.body.isSome=true) (hname:(fn.name=="runtime.NumGoroutine")=false) (h:∀ args v,sp args=some v→AW P f args v):A6 P f (As sp):=by
 intro args H fr path r β us w hs hc ha hg hf
 unfold As at hs
 split at hs
 ·rename_i v hk hv
  split at hs
  ·rename_i hkv
   injection hs with hs;subst hs
   refine Ps hfn hb hname (Calls.mono (h args v hv us w (X_ hk ha)) ?_)
   rintro e w' ⟨u,rfl,hu,hbl⟩
   refine ⟨u,β,rfl,?_⟩
   exact ⟨Env.le_refl _,fun _ _ h=>.inl h,fun b B n hb=>Nat.lt_of_lt_of_le (hg.lt b B n hb) hbl.size,fun b b' _ _ _ h1 _ h3=>by simp [BS] at h3;omega,HE hkv hu,fun _ _ h=>(by cases h),fun B hB _=>hbl.block B hB,hbl.size,hbl.os,hbl.tape,hbl.output⟩
  ·cases hs
 ·cases hs
def Bl (a b c:Int):Int:=(a+b+c) % 18446744073709551616
def B3 (a b c:Int):Int:=(a+b+c) / 18446744073709551616
def Cs (a b c:Int):Int:=(a-b-c) % 18446744073709551616
def Ft (a b c:Int):Int:=if a<b+c then 1 else 0
def BJ (c:Int):Bool:=decide (0≤c∧c≤1)
def addSpec:ASpec:=fun args _ _ path =>
 match args with
 | [x,y,z]=>match A' (some x),A' (some y),A' (some z) with
  | some (_,.u64,a),some (_,.u64,b),some (_,.u64,c)=>some ⟨.tup [(false,[.v (.int .u64 (Bl a b c))]),(false,[.v (.int .u64 (B3 a b c))])],[],0,[(BJ c,true)],path⟩
  | _,_,_=>none
 | _=>none
def subSpec:ASpec:=fun args _ _ path =>
 match args with
 | [x,y,z]=>match A' (some x),A' (some y),A' (some z) with
  | some (_,.u64,a),some (_,.u64,b),some (_,.u64,c)=>some ⟨.tup [(false,[.v (.int .u64 (Cs a b c))]),(false,[.v (.int .u64 (Ft a b c))])],[],0,[(BJ c,true)],path⟩
  | _,_,_=>none
 | _=>none
def X':Array Value→Sem Value:=fun args=>do
 let (x,y,b) ← Extern.MathBitsCarry.three "Sub64" args
 pure (Extern.MathBitsCarry.pair ((x+Extern.MathBitsCarry.m64-y-b) % Extern.MathBitsCarry.m64) (if x<y+b then 1 else 0))
theorem jW {e:Array Value→Sem Value} {us:Array Value} {w w':World} {v:Value} {R:Ending→World→Prop} (hfn:P.funcs[f]? = some fn) (hname:(fn.name=="runtime.NumGoroutine")=false) (hb:fn.body.isNone=true) (hn:Extern.findNext fn=none) (he:Extern.find fn=some e)
  (hr:(e us).run P w=.ok v w') (h:R (.returned v) w'):KC P f us w R:=by
 unfold KC
 rw [run_callFunc_extern hfn hname hb hn he us w,hr]
 exact h
theorem C' {a:Int} (h:has .u64 a):0≤a∧a<18446744073709551616:=by
 have:=(Dq _ _).1 h
 simp only [AI,Bool.and_eq_true,decide_eq_true_eq] at this
 omega
theorem TW {a:Int} (h1:0≤a) (h2:a<18446744073709551616):has .u64 a:=by
 rw [Dq]
 simp only [AI,Bool.and_eq_true,decide_eq_true_eq]
 omega
theorem AB0 (hfn:P.funcs[f]? = some fn) (hname:(fn.name=="runtime.NumGoroutine")=false) (hb:fn.body.isNone=true) (hn:Extern.findNext fn=none) (he:Extern.find fn=some add64Entry):A6 P f addSpec:=by
 intro args H fr path r β us w hs hc ha hg hf
 unfold addSpec at hs
 split at hs
 case h_2=>cases hs
 rename_i x y z
 split at hs
 case h_2=>cases hs
 rename_i c1 a c2 b c3 c hx hy hz
 injection hs with hs;subst hs
 obtain ⟨u1,us1,r1,ha,rfl⟩:=ha
 obtain ⟨u2,us2,r2,ha,rfl⟩:=ha
 obtain ⟨u3,us3,r3,ha,rfl⟩:=ha
 simp only [Aq] at ha
 subst ha
 obtain ⟨rfl,p1⟩:=Bt (β:=β) (u:=u1) (fun A hA=>by injection hA with hA;subst hA;exact r1) hx
 obtain ⟨rfl,p2⟩:=Bt (β:=β) (u:=u2) (fun A hA=>by injection hA with hA;subst hA;exact r2) hy
 obtain ⟨rfl,p3⟩:=Bt (β:=β) (u:=u3) (fun A hA=>by injection hA with hA;subst hA;exact r3) hz
 have hcc:=hc.1
 simp only [BJ,decide_eq_true_eq] at hcc
 have b1:=C' p1
 have b2:=C' p2
 refine jW hfn hname hb hn he (run_add64 a b c b1.1 b2.1 hcc.1 hcc.2 w) ⟨_,β,rfl,Eff.pure_ hg ⟨_,⟨_,_,Am ⟨rfl,rfl,?_⟩,⟨_,_,Am ⟨rfl,rfl,?_⟩,rfl,rfl⟩,rfl⟩,rfl⟩⟩
 ·show has .u64 ((a+b+c) % 18446744073709551616);exact TW (by omega) (by omega)
 ·show has .u64 ((a+b+c) / 18446744073709551616);exact TW (by omega) (by omega)
theorem AB1 (x y c:Int) (hx:0≤x∧x<18446744073709551616) (hy:0≤y∧y<18446744073709551616) (hc0:0≤c) (hc:c≤1) (w:World) :
  (X' #[.int .u64 x,.int .u64 y,.int .u64 c]).run P w=.ok (.tuple #[.int .u64 ((x-y-c) % 18446744073709551616),.int .u64 (if x<y+c then 1 else 0)]) w:=by
 have key:∀ k:Nat,k≤1→(X' #[.int .u64 x,.int .u64 y,.int .u64 (k:Int)]).run P w =
   .ok (Extern.MathBitsCarry.pair ((x.toNat+Extern.MathBitsCarry.m64-y.toNat-k) % Extern.MathBitsCarry.m64) (if x.toNat<y.toNat+k then 1 else 0)) w:=by
  intro k hk
  have:k=0∨k=1:=by omega
  rcases this with rfl | rfl<;>rfl
 obtain ⟨k,rfl⟩:=Int.eq_ofNat_of_zero_le hc0
 rw [key k (by omega)]
 obtain ⟨X,rfl⟩:=Int.eq_ofNat_of_zero_le hx.1
 obtain ⟨Y,rfl⟩:=Int.eq_ofNat_of_zero_le hy.1
 simp only [Extern.MathBitsCarry.pair,Extern.MathBitsCarry.m64,Int.toNat_natCast]
 have e1:(Int.ofNat ((X+2^64-Y-k) % 2^64))=((X:Int)-Y-k) % 18446744073709551616:=by
  have:(X+2^64-Y-k:Nat)=(X+18446744073709551616-Y-k:Nat):=rfl
  show (((X+18446744073709551616-Y-k) % 18446744073709551616:Nat):Int)=_
  omega
 have e2:(Int.ofNat (if X<Y+k then 1 else 0))=if (X:Int)<Y+k then 1 else 0:=by
  by_cases h:X<Y+k
  ·rw [if_pos h,if_pos (by omega)];rfl
  ·rw [if_neg h,if_neg (by omega)];rfl
 rw [e1,e2]
theorem AB2 (hfn:P.funcs[f]? = some fn) (hname:(fn.name=="runtime.NumGoroutine")=false) (hb:fn.body.isNone=true) (hn:Extern.findNext fn=none) (he:Extern.find fn=some X'):A6 P f subSpec:=by
 intro args H fr path r β us w hs hc ha hg hf
 unfold subSpec at hs
 split at hs
 case h_2=>cases hs
 rename_i x y z
 split at hs
 case h_2=>cases hs
 rename_i c1 a c2 b c3 c hx hy hz
 injection hs with hs;subst hs
 obtain ⟨u1,us1,r1,ha,rfl⟩:=ha
 obtain ⟨u2,us2,r2,ha,rfl⟩:=ha
 obtain ⟨u3,us3,r3,ha,rfl⟩:=ha
 simp only [Aq] at ha
 subst ha
 obtain ⟨rfl,p1⟩:=Bt (β:=β) (u:=u1) (fun A hA=>by injection hA with hA;subst hA;exact r1) hx
 obtain ⟨rfl,p2⟩:=Bt (β:=β) (u:=u2) (fun A hA=>by injection hA with hA;subst hA;exact r2) hy
 obtain ⟨rfl,p3⟩:=Bt (β:=β) (u:=u3) (fun A hA=>by injection hA with hA;subst hA;exact r3) hz
 have hcc:=hc.1
 simp only [BJ,decide_eq_true_eq] at hcc
 have b1:=C' p1
 have b2:=C' p2
 refine jW hfn hname hb hn he (AB1 a b c b1 b2 hcc.1 hcc.2 w) ⟨_,β,rfl,Eff.pure_ hg ⟨_,⟨_,_,Am ⟨rfl,rfl,?_⟩,⟨_,_,Am ⟨rfl,rfl,?_⟩,rfl,rfl⟩,rfl⟩,rfl⟩⟩
 ·show has .u64 ((a-b-c) % 18446744073709551616);exact TW (by omega) (by omega)
 ·show has .u64 (if a<b+c then 1 else 0)
  split<;>exact TW (by omega) (by omega)
def TX:List (FuncId×ASpec)→FuncId→Option ASpec
 | [],_=>none
 | (k,s)::r,f=>match Nat.beq k f with | true=>some s | false=>TX r f
def TY:List (TypeId×List (Option IntKind))→TypeId→Option (List (Option IntKind))
 | [],_=>none
 | (k,s)::r,f=>match Nat.beq k f with | true=>some s | false=>TY r f
def AJ (L:List (FuncId×ASpec)) (K:List (TypeId×List (Option IntKind))):Orc:=⟨TX L,TY K⟩
def AM (P:Program):List (FuncId×ASpec)→Prop
 | []=>True
 | (f,s)::r=>A6 P f s∧AM P r
def I2 (P:Program):List (TypeId×List (Option IntKind))→Prop
 | []=>True
 | (t,ks)::r=>(EA P 20 t=some ks∧P.eqGuardType P.depth t=false∧(match P.underlying t with | some d=>wide d | none=>false)=true)∧I2 P r
theorem AB3 {L:List (FuncId×ASpec)} (h:AM P L) {f:FuncId} {s:ASpec} (hl:TX L f=some s):A6 P f s:=by
 induction L with
 | nil=>cases hl
 | cons e L ih =>
  obtain ⟨k,q⟩:=e
  simp only [TX] at hl
  split at hl
  ·rename_i hb
   injection hl with hl;subst hl
   rw [← Ad.1 hb];exact h.1
  ·exact ih h.2 hl
theorem AB4 {L:List (TypeId×List (Option IntKind))} (h:I2 P L) {f:TypeId} {s:List (Option IntKind)} (hl:TY L f=some s) :
  EA P 20 f=some s∧P.eqGuardType P.depth f=false∧(match P.underlying f with | some d=>wide d | none=>false)=true:=by
 induction L with
 | nil=>cases hl
 | cons e L ih =>
  obtain ⟨k,q⟩:=e
  simp only [TY] at hl
  split at hl
  ·rename_i hb
   injection hl with hl;subst hl
   rw [← Ad.1 hb];exact h.1
  ·exact ih h.2 hl
theorem AN {L:List (FuncId×ASpec)} {K:List (TypeId×List (Option IntKind))} (h:AM P L) (k:I2 P K):OrcOk P (AJ L K) :=
 ⟨fun _ _ hl=>AB3 h hl,fun _ _ hl=>AB4 k hl⟩
end
end Go.Proofs.YtojnabmgolpodaaGreat.Ex
namespace Go.Proofs.YtojnabmgolpodaaGreat.Ex
def H3 (keep:List Nat):Nat→List AV→List AV
 | _,[]=>[]
 | i,x::r=>match FC i keep with
  | true=>x::H3 keep (i+1) r
  | false=>.any::H3 keep (i+1) r
def KR (n:Nat):List Nat→Bool
 | []=>true
 | k::r=>match Nat.blt k n with | true=>KR n r | false=>false
def Ny (n:Nat):List AV→Bool
 | []=>true
 | x::r=>match KR n (HA x) with | true=>Ny n r | false=>false
def H4 (n:Nat):Heap→Bool
 | []=>true
 | (k,y)::r=>match Nat.blt k n,y with
  | true,some blk=>match KR n (Cr blk.cs) with | true=>H4 n r | false=>false
  | true,none=>H4 n r
  | false,_=>false
theorem A9 {a b:Nat}:Nat.blt a b=true↔a<b:=by unfold Nat.blt;exact ⟨Nat.le_of_ble_eq_true,Nat.ble_eq_true_of_le⟩
theorem Nz {n:Nat}:∀ {l:List Nat},KR n l=true→∀ k∈l,k<n
 | [],_,k,h=>by cases h
 | x::r,h,k,hk=>by
  simp only [KR] at h
  split at h
  ·rename_i hb
   rcases List.mem_cons.1 hk with rfl | hk
   ·exact A9.1 hb
   ·exact Nz h k hk
  ·cases h
def I3 (β:Env) (n:Nat):Env:=fun b=>match Nat.blt b n with | true=>β b | false=>none
theorem Ds {β:Env} {n b:Nat} (h:b<n):I3 β n b=β b:=by simp [I3,A9.2 h]
theorem N0 {β:Env} {n b:Nat} (h:n≤b):I3 β n b=none:=by
 have:Nat.blt b n=false:=by cases hb:Nat.blt b n with | false=>rfl | true=>have:=A9.1 hb;omega
 simp [I3,this]
theorem L' {β:Env} {n b:Nat} {X:Loc} (h:I3 β n b=some X):β b=some X∧b<n:=by
 rcases Nat.lt_or_ge b n with hlt | hge
 ·rw [Ds hlt] at h;exact ⟨h,hlt⟩
 ·rw [N0 hge] at h;cases h
section
variable {β β':Env}
theorem jY:∀ {caps:List (Nat×Nat)} {l:List Value},(∀ k∈caps.map (·.1),β' k=β k)→D6 β caps l→D6 β' caps l
 | [],_,_,h=>h
 | (b,o)::r,l,hk,⟨B,n,l',h1,h2,h3⟩=>⟨B,n,l',by rw [hk b (by simp)];exact h1,jY (fun k h=>hk k (by simp at h ⊢;exact .inr h)) h2,h3⟩
theorem AB5 {c:Ch} {l:List Value} (hk:∀ k∈Iv c,β' k=β k) (h:A2 β c l):A2 β' c l:=by
 cases c<;>simp only [Iv] at hk<;>simp only [A2] at h ⊢
 case n=>exact h
 case b=>exact h
 case v=>exact h
 case p=>rw [hk _ (by simp)];exact h
 case sl=>rw [hk _ (by simp)];exact h
 case sx=>rw [hk _ (by simp)];exact h
 case num=>exact h
 case seq=>exact h
 case clo=>obtain ⟨ps,h1,h2⟩:=h;exact ⟨ps,jY hk h1,h2⟩
 case mth=>rw [hk _ (by simp)];exact h
 case mp=>rw [hk _ (by simp)];exact h
 case mk=>exact h
theorem GM:∀ {cs:List Ch} {l:List Value},(∀ k∈Cr cs,β' k=β k)→AH β cs l→AH β' cs l
 | [],_,_,h=>h
 | c::cs,l,hk,⟨l1,l2,h1,h2,h3⟩=>by
  simp only [Cr,CY,List.mem_append] at hk
  exact ⟨l1,l2,AB5 (fun k h=>hk k (.inl h)) h1,GM (fun k h=>hk k (.inr h)) h2,h3⟩
theorem jZ {g:Bool} {cs:List Ch} {u:Value} (hk:∀ k∈Cr cs,β' k=β k) (h:BO β g cs u):BO β' g cs u:=by
 cases g
 ·exact GM hk h
 ·obtain ⟨l,h1,h2⟩:=h;exact ⟨l,GM hk h1,h2⟩
theorem j4:∀ {xs:List (Bool×List Ch)} {l:List Value},(∀ k∈G' xs,β' k=β k)→D7 β xs l→D7 β' xs l
 | [],_,_,h=>h
 | (g,cs)::xs,l,hk,⟨u,l',h1,h2,h3⟩=>by
  simp only [G',CY,List.mem_append] at hk
  exact ⟨u,l',jZ (fun k h=>hk k (.inl h)) h1,j4 (fun k h=>hk k (.inr h)) h2,h3⟩
theorem YA {x:AV} {u:Value} (hk:∀ k∈HA x,β' k=β k) (h:AG β x u):AG β' x u:=by
 cases x with
 | val g cs=>exact jZ hk h
 | tup xs=>obtain ⟨us,h1,h2⟩:=h;exact ⟨us,j4 hk h1,h2⟩
 | any=>trivial
end
def KS (keep ks:List Nat) (fr:Nat) (path:List Bool) (s:St):Option St :=
 match Ny fr (H3 keep 0 s.T),H4 fr (restrict s.H ks) with
 | true,true=>some ⟨H3 keep 0 s.T,restrict s.H ks,fr,path⟩
 | _,_=>none
theorem YB {n:Nat}:∀ {T:List AV} {t:Nat},Ny n T=true→∀ k∈HA (Al T t),k<n
 | [],_,_,k,h=>by simp [Al,HA] at h
 | x::r,0,h,k,hk=>by
  simp only [Ny] at h
  split at h
  ·rename_i h1;exact Nz h1 k hk
  ·cases h
 | x::r,t+1,h,k,hk=>by
  simp only [Ny] at h
  split at h
  ·exact YB h k hk
  ·cases h
theorem I4 {n:Nat}:∀ {H:Heap} {b:Nat} {blk:Blk},H4 n H=true→AB H b=some blk→b<n∧∀ k∈Cr blk.cs,k<n
 | [],_,_,_,h=>by cases h
 | (k,y)::r,b,blk,h,hb=>by
  simp only [H4] at h
  simp only [AB] at hb
  split at h
  ·rename_i hk
   split at h
   ·rename_i hall
    split at hb
    ·rename_i e;rw [← Ad.1 e];injection hb with hb;subst hb;exact ⟨A9.1 hk,Nz hall⟩
    ·exact I4 h hb
   ·cases h
  ·rename_i hk
   split at hb
   ·cases hb
   ·exact I4 h hb
  ·cases h
theorem j5 (keep:List Nat):∀ {T:List AV} {i t:Nat},Al (H3 keep i T) t=Al T t∨Al (H3 keep i T) t=.any
 | [],i,t=>.inl rfl
 | x::r,i,0=>by
  simp only [H3]
  split
  ·exact .inl rfl
  ·exact .inr rfl
 | x::r,i,t+1=>by
  simp only [H3]
  split<;>exact j5 keep
theorem j6 (keep:List Nat):∀ {T:List AV} {i:Nat},(H3 keep i T).length=T.length
 | [],_=>rfl
 | x::r,i=>by simp only [H3];split<;>simp [j6 keep]
section
variable {P:Program} {O:Orc} {f:FuncId} {β0:Env} {w0:World} {R:Ending→World→Prop} {n:Fz} {W:List Nat}
theorem AB6 {keep ks:List Nat} {fr:Nat} {path:List Bool} {s s':St} (h:KS keep ks fr path s=some s') (hwf:Bp n s):Bp n s':=by
 unfold KS at h
 split at h
 ·rename_i h1 h2
  injection h with h;subst h
  refine ⟨fun b hb=>?_,by simp only [j6];exact hwf.2⟩
  cases hq:AB (restrict s.H ks) b with
  | none=>rfl
  | some blk=>have:=(I4 h2 hq).1;simp only at hb;omega
 ·cases h
theorem j7 {keep ks:List Nat} {fr:Nat} {path:List Bool} {s s':St} {todo:List Item} (h:KS keep ks fr path s=some s') (hβ0:∀ b,fr≤b→β0 b=none)
  (hs:ASafe P f β0 w0 R n W ⟨todo,s'⟩):ASafe P f β0 w0 R n W ⟨todo,s⟩:=by
 unfold KS at h
 split at h
 ·rename_i h1 h2
  injection h with h;subst h
  intro β a w hi hf
  refine hs (I3 β fr) a w ?_ (fun b hb=>N0 hb)
  refine { hi with tmp:=fun t=>?_,good:=?_,new:=fun b X hb=>?_,ext:=fun b B hb=>?_ }
  ·have hk:=YB (t:=t) h1
   simp only
   rcases j5 keep (T:=s.T) (i:=0) (t:=t) with e | e
   ·rw [e] at hk ⊢
    exact YA (fun k hkk=>Ds (hk k hkk)) (hi.tmp t)
   ·rw [e];trivial
  ·refine ⟨fun b blk hb=>?_,fun b b' B m m' h3 h4 h5 h6=>?_,fun b B m hb=>hi.good.lt b B m (L' hb).1⟩
   ·obtain ⟨e1,e2⟩:=I4 h2 hb
    rcases hi.good.heap b blk (Ix hb) with ⟨B,m,l,t,pre,ty,fz,q1,q2,q3⟩ | ⟨q1,q2,q3⟩ | ⟨B,l,es,q,q1,q2,q3,q4⟩
    ·exact .inl ⟨B,m,l,t,pre,ty,fz,by rw [Ds e1];exact q1,GM (fun k hk=>Ds (e2 k hk)) q2,q3⟩
    ·exact .inr (.inl ⟨by rw [Ds e1];exact q1,q2,GM (fun k hk=>Ds (e2 k hk)) q3⟩)
    ·exact .inr (.inr ⟨B,l,es,q,by rw [Ds e1];exact q1,q2,GM (fun k hk=>Ds (e2 k hk)) q3,q4⟩)
   ·obtain ⟨x,hx,hr⟩:=FB h3
    obtain ⟨y,hy⟩:=Option.isSome_iff_exists.1 h4
    exact hi.good.inj b b' B m m' (EN (Ix hx) hr) (by rw [Ix hy];rfl) (L' h5).1 (L' h6).1
  ·exact hi.new b X (L' hb).1
  ·have hlt:b<fr:=by
    rcases Nat.lt_or_ge b fr with h | h
    ·exact h
    ·rw [hβ0 b h] at hb;cases hb
   rw [Ds hlt];exact hi.ext b B hb
 ·cases h
def DQ (k0:Nat):List Nat→List Nat
 | []=>[]
 | k::r=>match Nat.blt k k0,FC k (DQ k0 r) with
  | true,false=>k::DQ k0 r
  | _,_=>DQ k0 r
theorem YC {k0 k:Nat}:∀ {l:List Nat},k∈l→k<k0→k∈DQ k0 l
 | [],h,_=>by cases h
 | x::r,h,hlt=>by
  simp only [DQ]
  rcases List.mem_cons.1 h with rfl | h
  ·rw [A9.2 hlt]
   cases hm:FC k (DQ k0 r) with
   | true=>simp only;exact Nr.1 hm
   | false=>simp
  ·have ih:=YC h hlt
   split
   ·exact List.mem_cons_of_mem _ ih
   ·exact ih
theorem Inv.old {W W':List Nat} {k0:Nat} {β:Env} {τ:Nat→AV} {H:Heap} {a:Act} {w:World} (i:Inv β0 w0 W n β τ H a w) (h0:∀ b,k0≤b→β0 b=none) (h:∀ k∈W,k<k0→k∈W'):Inv β0 w0 W' n β τ H a w :=
 { i with
  new:=fun b X hb=>(i.new b X hb).imp id fun q B m e=>(q B m e).imp id fun ⟨k,m',h1,h2⟩=>⟨k,m',h k h1 (by
   rcases Nat.lt_or_ge k k0 with h | h
   ·exact h
   ·rw [h0 k h] at h2;cases h2),h2⟩
  frame:=fun B hB hno=>i.frame B hB fun k m hk hk2=>hno k m (h k hk (by
   rcases Nat.lt_or_ge k k0 with h | h
   ·exact h
   ·rw [h0 k h] at hk2;cases hk2)) hk2 }
theorem ASafe.old {W W':List Nat} {k0:Nat} {x:ASt} (h0:∀ b,k0≤b→β0 b=none) (h:∀ k∈W,k<k0→k∈W') (hs:ASafe P f β0 w0 R n W' x):ASafe P f β0 w0 R n W x :=
 fun β a w hi hf=>hs β a w (hi.old h0 h) hf
def Aa (P:Program) (O:Orc) (stop:Option Nat) (fuel k0:Nat) (fg:Option (List Nat×List Nat×Nat)) (x:ASt):Option (List (Bool×Bool)×List Nat×ASt) :=
 match I0 P O stop fuel x with
 | some (g,y)=>match fg with
  | some (keep,ks,fr)=>match KS keep ks fr [] y.s,Nat.ble k0 fr with
   | some s',true=>some (g.conds,DQ k0 g.keys,⟨y.todo,s'⟩)
   | _,_=>none
  | none=>some (g.conds,DQ k0 g.keys,y)
 | none=>none
theorem Aj (hO:OrcOk P O) (hm:P.follows .mixedOrders=true) {stop:Option Nat} {fuel k0:Nat} {fg:Option (List Nat×List Nat×Nat)} {x y:ASt} {conds:List (Bool×Bool)} {ks:List Nat} (h:Aa P O stop fuel k0 fg x=some (conds,ks,y))
  (hc:AP conds) (hwf:Bp n x.s) (h0:∀ b,k0≤b→β0 b=none) (hks:∀ k∈ks,k∈W) (hs:Bp n y.s→ASafe P f β0 w0 R n W y):ASafe P f β0 w0 R n W x:=by
 unfold Aa at h
 split at h
 case h_2=>cases h
 rename_i g y1 hrun
 have hW:∀ k∈W++g.keys,k<k0→DQ k0 g.keys=ks→k∈W:=by
  intro k hk hlt he
  rcases List.mem_append.1 hk with hk | hk
  ·exact hk
  ·exact hks k (by rw [← he];exact YC hk hlt)
 split at h
 ·rename_i keep ks' fr
  split at h
  ·rename_i s' hfg hle
   injection h with h;injection h with h1 h;injection h with h2 h3
   subst h1;subst h3
   refine TS hO hm hrun hc hwf fun hw=>?_
   have hle':=Nat.le_of_ble_eq_true hle
   refine ASafe.old h0 (fun k hk hlt=>hW k hk hlt h2) ?_
   exact j7 hfg (fun b hb=>h0 b (by omega)) (hs (AB6 hfg hw))
  ·cases h
 ·injection h with h;injection h with h1 h;injection h with h2 h3
  subst h1;subst h3
  refine TS hO hm hrun hc hwf fun hw=>?_
  exact ASafe.old h0 (fun k hk hlt=>hW k hk hlt h2) (hs hw)
def YD (n:Fz) (s:St):Bool:=H4 s.fr s.H&&Nat.beq (HD s.T) n.n
theorem AR {s:St} (h:YD n s=true):Bp n s:=by
 have h':=Bool.and_eq_true_iff.1 h
 refine ⟨fun b hb=>?_,by have:=Ad.1 h'.2;rwa [KO] at this⟩
 cases hq:AB s.H b with
 | none=>rfl
 | some blk=>have:=(I4 h'.1 hq).1;omega
def Ah (fn:Func) (args:List AV) (H:Heap) (k0:Nat) (path:List Bool):ASt :=
 ⟨match fn.body with | some c=>[.code c] | none=>[],⟨I1 args fn.ntmps,H,k0,path⟩⟩
def MA (P:Program) (fn:Func) (y:ASt):Option AV :=
 match L_ y.todo,KN P y.s.T y.s.H fn.results.toList with
 | true,some l=>some (Nw l)
 | _,_=>none
theorem j8 {fn:Func} {y:ASt} {v:AV} (hfn:P.funcs[f]? = some fn) (h:MA P fn y=some v) (hR:∀ e w,A7 β0 w0 W v y.s.H e w→R e w) (hD:n.D=[]:=by rfl):ASafe P f β0 w0 R n W y:=by
 unfold MA at h
 split at h
 ·rename_i l h1 h2
  injection h with h;subst h
  intro β a w hi hf
  have:=X8 (P:=P) (n:=n) (W:=W) (β0:=β0) (w0:=w0) hD hfn h1 h2 β a w hi hf
  intro b cs hb hk
  obtain ⟨e,w',fr,q1,q2⟩:=this b cs hb hk
  exact ⟨e,w',fr,hR _ _ q1,q2⟩
 ·cases h
end
section
variable {P:Program} {f:FuncId} {fn:Func}
theorem N1 {R:Ending→World→Prop} (hfn:P.funcs[f]? = some fn) (hb:fn.body.isSome=true) {args:List AV} {H:Heap} {k0:Nat} {path:List Bool} {β:Env} {us:List Value} {w:World} (hlen:Nat.ble (HD args) fn.ntmps=true)
  (h:ASafe P f β w R fn.ntmps [] (Ah fn args H k0 path)) (ha:Aq β args us) (hg:Good β H w) (hf:∀ b,k0≤b→β b=none):Calls P f ⟨us⟩ w R:=by
 obtain ⟨c,hc⟩:=Option.isSome_iff_exists.1 hb
 have hl:=Nat.le_of_ble_eq_true hlen
 rw [KO] at hl
 unfold Ah at h
 rw [hc] at h
 exact X7 hfn hc hl h ha hg hf
end
open Go.RowKit (Below)
def MB (w0:World) (v:AV):Ending→World→Prop:=fun e w'=>∃ u,e=.returned u∧AG B0 v u∧Below w0.heap.size w0 w'
def Ey (P:Program) (O:Orc) (fn:Func) (fuel k0:Nat) (x:ASt):Option (List (Bool×Bool)×List Nat×AV) :=
 match I0 P O none fuel x with
 | some (g,y)=>match MA P fn y with
  | some v=>some (g.conds,DQ k0 g.keys,v)
  | none=>none
 | none=>none
section
variable {P:Program} {O:Orc} {f:FuncId} {fn:Func} {β0:Env} {w0:World} {n:Fz}
theorem H5 (hO:OrcOk P O) (hm:P.follows .mixedOrders=true) (hfn:P.funcs[f]? = some fn) {fuel k0:Nat} {x:ASt} {conds:List (Bool×Bool)} {v:AV} (h:Ey P O fn fuel k0 x=some (conds,[],v)) (hc:AP conds) (hwf:Bp n x.s)
  (h0:∀ b,k0≤b→β0 b=none) (hk:KP v=true) (hD:n.D=[]:=by rfl):ASafe P f β0 w0 (MB w0 v) n [] x:=by
 unfold Ey at h
 split at h
 case h_2=>cases h
 rename_i g y hrun
 split at h
 case h_2=>cases h
 rename_i v' hv
 injection h with h;injection h with h1 h;injection h with h2 h3
 subst h1;subst h3
 refine Aj (W:=[]) hO hm (fuel:=fuel) (k0:=k0) (fg:=none) (stop:=none) (ks:=[]) (y:=y) (by unfold Aa;rw [hrun];simp only;rw [h2]) hc hwf h0 (fun _ h=>by cases h) fun _=>?_
 intro β a w hi hf
 unfold MA at hv
 split at hv
 case h_2=>cases hv
 rename_i l e1 e2
 injection hv with hv;subst hv
 have:=X8 (P:=P) (n:=n) (W:=[]) (β0:=β0) (w0:=w0) hD hfn e1 e2 β a w hi hf
 intro b cs hb hkd
 obtain ⟨e,w',fr,⟨u,β',q0,q1⟩,q2⟩:=this b cs hb hkd
 exact ⟨e,w',fr,⟨u,q0,HE hk q1.val,q1.os,q1.tape,q1.output,q1.size,fun k hk=>q1.frame k hk (fun _ _ h=>by cases h)⟩,q2⟩
theorem TZ (hfn:P.funcs[f]? = some fn) (hb:fn.body.isSome=true) {args:List AV} {path:List Bool} {v:AV} (hlen:Nat.ble (HD args) fn.ntmps=true)
  (h:∀ w0,ASafe P f B0 w0 (MB w0 v) fn.ntmps [] (Ah fn args [] 0 path)):AW P f args v :=
 fun _ w ha=>N1 hfn hb hlen (h w) ha (Good.none_ w) (fun _ _=>rfl)
theorem Af {R:Ending→World→Prop} {W:List Nat} {todo:List Item} {T:List AV} {H:Heap} {fr:Nat} {p:List Bool} (q:List Bool) (h:ASafe P f β0 w0 R n W ⟨todo,⟨T,H,fr,q⟩⟩):ASafe P f β0 w0 R n W ⟨todo,⟨T,H,fr,p⟩⟩:=h
end
def Ta (κ:Nat→Nat):List (Nat×Nat)→List (Nat×Nat)
 | []=>[]
 | (b,o)::r=>(κ b,o)::Ta κ r
def Pu (κ:Nat→Nat):Ch→Ch
 | .p b o=>.p (κ b) o
 | .sl b o l c=>.sl (κ b) o l c
 | .sx b l s=>.sx (κ b) l s
 | .clo f caps=>.clo f (Ta κ caps)
 | .mth f b o=>.mth f (κ b) o
 | .mp b=>.mp (κ b)
 | .mk=>.mk
 | .n k i=>.n k i
 | .b x=>.b x
 | .v x=>.v x
 | .num k x=>.num k x
 | .seq k l=>.seq k l
def FE (κ:Nat→Nat):List Ch→List Ch
 | []=>[]
 | c::r=>Pu κ c::FE κ r
def Tb (κ:Nat→Nat):List (Bool×List Ch)→List (Bool×List Ch)
 | []=>[]
 | (g,cs)::r=>(g,FE κ cs)::Tb κ r
def Pv (κ:Nat→Nat):AV→AV
 | .val g cs=>.val g (FE κ cs)
 | .tup xs=>.tup (Tb κ xs)
 | .any=>.any
section
variable {β β':Env} {κ:Nat→Nat}
theorem j9:∀ {caps:List (Nat×Nat)} {l:List Value},(∀ k∈caps.map (·.1),∀ X,β k=some X→β' (κ k)=some X)→D6 β caps l→D6 β' (Ta κ caps) l
 | [],_,_,h=>h
 | (b,o)::r,l,hk,⟨B,n,l',h1,h2,h3⟩=>⟨B,n,l',hk b (by simp) _ h1,j9 (fun k h=>hk k (by simp at h ⊢;exact .inr h)) h2,h3⟩
theorem AB7 {c:Ch} {l:List Value} (hk:∀ k∈Iv c,∀ X,β k=some X→β' (κ k)=some X) (h:A2 β c l):A2 β' (Pu κ c) l:=by
 cases c<;>simp only [Iv] at hk<;>simp only [Pu,A2] at h ⊢
 case n=>exact h
 case b=>exact h
 case v=>exact h
 case p=>obtain ⟨B,n,h1,h2⟩:=h;exact ⟨B,n,hk _ (by simp) _ h1,h2⟩
 case sl =>
  rcases h with ⟨B,n,h1,h2⟩ | ⟨h1,h2⟩
  ·exact .inl ⟨B,n,hk _ (by simp) _ h1,h2⟩
  ·exact .inr ⟨hk _ (by simp) _ h1,h2⟩
 case sx =>
  rcases h with ⟨B,n,cap,h1,h2⟩ | ⟨h1,h2⟩
  ·exact .inl ⟨B,n,cap,hk _ (by simp) _ h1,h2⟩
  ·exact .inr ⟨hk _ (by simp) _ h1,h2⟩
 case num=>exact h
 case seq=>exact h
 case clo=>obtain ⟨ps,h1,h2⟩:=h;exact ⟨ps,j9 hk h1,h2⟩
 case mth=>obtain ⟨B,n,h1,h2⟩:=h;exact ⟨B,n,hk _ (by simp) _ h1,h2⟩
 case mp=>obtain ⟨B,h1,h2⟩:=h;exact ⟨B,hk _ (by simp) _ h1,h2⟩
 case mk=>exact h
theorem N2:∀ {cs:List Ch} {l:List Value},(∀ k∈Cr cs,∀ X,β k=some X→β' (κ k)=some X)→AH β cs l→AH β' (FE κ cs) l
 | [],_,_,h=>h
 | c::cs,l,hk,⟨l1,l2,h1,h2,h3⟩=>by
  simp only [Cr,CY,List.mem_append] at hk
  exact ⟨l1,l2,AB7 (fun k h=>hk k (.inl h)) h1,N2 (fun k h=>hk k (.inr h)) h2,h3⟩
theorem kC {g:Bool} {cs:List Ch} {u:Value} (hk:∀ k∈Cr cs,∀ X,β k=some X→β' (κ k)=some X) (h:BO β g cs u):BO β' g (FE κ cs) u:=by
 cases g
 ·exact N2 hk h
 ·obtain ⟨l,h1,h2⟩:=h;exact ⟨l,N2 hk h1,h2⟩
theorem kD:∀ {xs:List (Bool×List Ch)} {l:List Value},(∀ k∈G' xs,∀ X,β k=some X→β' (κ k)=some X)→D7 β xs l→D7 β' (Tb κ xs) l
 | [],_,_,h=>h
 | (g,cs)::xs,l,hk,⟨u,l',h1,h2,h3⟩=>by
  simp only [G',CY,List.mem_append] at hk
  exact ⟨u,l',kC (fun k h=>hk k (.inl h)) h1,kD (fun k h=>hk k (.inr h)) h2,h3⟩
theorem AB8 {x:AV} {u:Value} (hk:∀ k∈HA x,∀ X,β k=some X→β' (κ k)=some X) (h:AG β x u):AG β' (Pv κ x) u:=by
 cases x with
 | val g cs=>exact kC hk h
 | tup xs=>obtain ⟨us,h1,h2⟩:=h;exact ⟨us,kD hk h1,h2⟩
 | any=>trivial
end
def AY (P:Program) (f:FuncId) (args0:List AV) (H0:Heap) (k0:Nat) (W:List Nat) (val:AV) (H1:Heap):Prop :=
 ∀ (β:Env) (us:List Value) (w:World),Aq β args0 us→Good β H0 w→(∀ b,k0≤b→β b=none)→Calls P f ⟨us⟩ w (A7 β w W val H1)
def nth:List Nat→Nat→Nat
 | [],_=>0
 | x::_,0=>x
 | _::r,n+1=>nth r n
def MC (ρ:List Nat) (k0 fr:Nat):Nat→Nat:=fun k=>match Nat.blt k k0 with | true=>nth ρ k | false=>fr+(k-k0)
def Ap (β:Env) (ρ:List Nat) (k0:Nat):Env:=fun k=>match Nat.blt k k0 with | true=>β (nth ρ k) | false=>none
def N3 (κ:Nat→Nat) (H1:Heap):List Nat→Heap
 | []=>[]
 | k::r=>(κ k,(AB H1 k).map fun b=>⟨b.ty,FE κ b.cs,b.opn⟩)::N3 κ H1 r
def GN (k0:Nat):Heap→List Nat
 | []=>[]
 | (k,_)::r=>match Nat.blt k k0,FC k (GN k0 r) with
  | false,false=>k::GN k0 r
  | _,_=>GN k0 r
theorem YE {k0 k:Nat}:∀ {H:Heap},k∈GN k0 H→k0≤k
 | [],h=>by cases h
 | (j,y)::r,h=>by
  simp only [GN] at h
  split at h
  ·rename_i hb _
   rcases List.mem_cons.1 h with rfl | h
   ·rcases Nat.lt_or_ge k k0 with hlt | hge
    ·rw [A9.2 hlt] at hb;cases hb
    ·exact hge
   ·exact YE h
  ·exact YE h
theorem YF {k0 k:Nat} {b:Blk}:∀ {H:Heap},AB H k=some b→k0≤k→k∈GN k0 H
 | [],h,_=>by cases h
 | (j,y)::r,h,hk=>by
  simp only [AB] at h
  simp only [GN]
  split at h
  ·rename_i e
   have:=Ad.1 e
   subst this
   have h1:Nat.blt j k0=false:=by cases hq:Nat.blt j k0 with | false=>rfl | true=>have:=A9.1 hq;omega
   rw [h1]
   cases hm:FC j (GN k0 r) with
   | true=>exact Nr.1 hm
   | false=>simp
  ·have ih:=YF h hk
   split
   ·exact List.mem_cons_of_mem _ ih
   ·exact ih
def MD (k0:Nat) (H1:Heap):List Nat→Bool
 | []=>true
 | k::r=>match Nat.blt k k0,AB H1 k with
  | true,_=>MD k0 H1 r
  | false,some _=>MD k0 H1 r
  | false,none=>false
theorem N4 {k0:Nat} {H1:Heap}:∀ {l:List Nat},MD k0 H1 l=true→∀ k∈l,k<k0∨(AB H1 k).isSome=true
 | [],_,k,h=>by cases h
 | x::r,h,k,hk=>by
  simp only [MD] at h
  split at h
  ·rename_i hb
   rcases List.mem_cons.1 hk with rfl | hk
   ·exact .inl (A9.1 hb)
   ·exact N4 h k hk
  ·rename_i b hb hg
   rcases List.mem_cons.1 hk with rfl | hk
   ·exact .inr (by rw [hg];rfl)
   ·exact N4 h k hk
  ·cases h
def Tc (k0:Nat) (H1:Heap):List Nat→Bool
 | []=>true
 | k::r=>match AB H1 k with
  | some b=>match MD k0 H1 (Cr b.cs),Nat.beq b.ty BN with | true,false=>Tc k0 H1 r | _,_=>false
  | none=>false
theorem Td {k0:Nat} {H1:Heap}:∀ {l:List Nat},Tc k0 H1 l=true→∀ k∈l,∃ b,AB H1 k=some b∧MD k0 H1 (Cr b.cs)=true∧b.ty≠BN
 | [],_,k,h=>by cases h
 | x::r,h,k,hk=>by
  simp only [Tc] at h
  split at h
  ·rename_i b hb
   split at h
   ·rename_i hok hro
    rcases List.mem_cons.1 hk with rfl | hk
    ·exact ⟨b,hb,hok,Pa hro⟩
    ·exact Td h k hk
   ·cases h
  ·cases h
def Az (ρ:List Nat) (k0 fr nw:Nat) (W:List Nat) (val:AV) (H1:Heap) (conds:List (Bool×Bool)) (path:List Bool):R :=
 ⟨Pv (MC ρ k0 fr) val,N3 (MC ρ k0 fr) H1 (cat W (GN k0 H1)),nw,conds,path⟩
def Ct (k0 nw:Nat) (W:List Nat) (val:AV) (H1:Heap):Bool :=
 KR k0 W&&(MD k0 H1 (HA val)&&(Tc k0 H1 (cat W (GN k0 H1))&&H4 (k0+nw) H1))
theorem kE {κ:Nat→Nat} {H1:Heap} {k:Nat} {y:Option Blk}:∀ {l:List Nat},(k,y)∈N3 κ H1 l→∃ j∈l,k=κ j∧y=(AB H1 j).map fun b=>⟨b.ty,FE κ b.cs,b.opn⟩
 | [],h=>by cases h
 | x::r,h=>by
  simp only [N3,List.mem_cons,Prod.mk.injEq] at h
  rcases h with ⟨h1,h2⟩ | h
  ·exact ⟨x,by simp,h1,h2⟩
  ·obtain ⟨j,h1,h2⟩:=kE h
   exact ⟨j,by simp [h1],h2⟩
theorem kG {κ:Nat→Nat} {H1:Heap} {j:Nat}:∀ {l:List Nat},j∈l→(κ j,(AB H1 j).map fun b=>(⟨b.ty,FE κ b.cs,b.opn⟩:Blk))∈N3 κ H1 l
 | x::r,h=>by
  simp only [N3,List.mem_cons]
  rcases List.mem_cons.1 h with rfl | h
  ·exact .inl rfl
  ·exact .inr (kG h)
theorem kH {β:Env} {w w':World} {ρ:List Nat} {k0 fr nw:Nat} {W:List Nat} {val:AV} {H H1:Heap} {u:Value} {β1:Env} {conds:List (Bool×Bool)} {path:List Bool} (g:Good β H w)
  (ho:Out (Ap β ρ k0) w W val H1 u w' β1) (hb:Ct k0 nw W val H1=true) (hf:∀ b,fr≤b→b<fr+nw→β b=none) (hdef:∀ k,k<k0→∃ X,β (nth ρ k)=some X):∃ β',Eff β fr (Az ρ k0 fr nw W val H1 conds path) w u w' β':=by
 unfold Ct at hb
 simp only [Bool.and_eq_true] at hb
 obtain ⟨c1,c2,c3,c4⟩:=hb
 have hW:=Nz c1
 have hlive:∀ k,(AB H1 k).isSome=true→k<k0+nw:=by
  intro k hk
  obtain ⟨b,hb⟩:=Option.isSome_iff_exists.1 hk
  exact (I4 c4 hb).1
 have newr:∀ k,k0≤k→(AB H1 k).isSome=true→EM H1 k=true:=by
  intro k hk hs
  obtain ⟨b,hb⟩:=Option.isSome_iff_exists.1 hs
  obtain ⟨b',hb',_,hr⟩:=Td c3 k (by rw [CY,List.mem_append];exact .inr (YF hb hk))
  exact EN hb' hr
 let β':Env:=fun b=>match Nat.ble fr b&&Nat.blt b (fr+nw),AB H1 (k0+(b-fr)) with
  | true,some _=>β1 (k0+(b-fr))
  | true,none=>none
  | false,_=>β b
 have out:∀ b,¬ (fr≤b∧b<fr+nw)→β' b=β b:=by
  intro b hb
  have:(Nat.ble fr b&&Nat.blt b (fr+nw))=false:=by
   cases h:Nat.ble fr b&&Nat.blt b (fr+nw) with
   | false=>rfl
   | true =>
    have:=Bool.and_eq_true_iff.1 h
    exact absurd ⟨Nat.le_of_ble_eq_true this.1,A9.1 this.2⟩ hb
  show (match Nat.ble fr b&&Nat.blt b (fr+nw),AB H1 (k0+(b-fr)) with | true,some _=>β1 (k0+(b-fr)) | true,none=>none | false,_=>β b)=β b
  rw [this]
 have inn:∀ b,fr≤b→b<fr+nw→∀ X,β' b=some X→(AB H1 (k0+(b-fr))).isSome=true∧β1 (k0+(b-fr))=some X:=by
  intro b h1 h2 X hX
  have:(Nat.ble fr b&&Nat.blt b (fr+nw))=true:=by rw [Nat.ble_eq_true_of_le h1,A9.2 h2];rfl
  change (match Nat.ble fr b&&Nat.blt b (fr+nw),AB H1 (k0+(b-fr)) with | true,some _=>β1 (k0+(b-fr)) | true,none=>none | false,_=>β b)=some X at hX
  rw [this] at hX
  cases hq:AB H1 (k0+(b-fr)) with
  | none=>rw [hq] at hX;cases hX
  | some y=>rw [hq] at hX;exact ⟨rfl,hX⟩
 have new1:∀ k,k0≤k→(AB H1 k).isSome=true→∀ X,β1 k=some X→β' (fr+(k-k0))=some X:=by
  intro k hk hl X hX
  have h2:=hlive k hl
  have e:k0+(fr+(k-k0)-fr)=k:=by omega
  have:(Nat.ble fr (fr+(k-k0))&&Nat.blt (fr+(k-k0)) (fr+nw))=true:=by rw [Nat.ble_eq_true_of_le (by omega),A9.2 (by omega)];rfl
  show (match Nat.ble fr (fr+(k-k0))&&Nat.blt (fr+(k-k0)) (fr+nw),AB H1 (k0+(fr+(k-k0)-fr)) with | true,some _=>β1 (k0+(fr+(k-k0)-fr)) | true,none=>none | false,_=>β (fr+(k-k0)))=some X
  rw [this,e]
  obtain ⟨y,hy⟩:=Option.isSome_iff_exists.1 hl
  rw [hy];exact hX
 have ext0:Env.le β β':=by
  intro b X hb
  rw [out b (fun h=>by rw [hf b h.1 h.2] at hb;cases hb)]
  exact hb
 have inE:∀ k,k<k0→Ap β ρ k0 k=β (nth ρ k):=fun k hk=>by simp [Ap,A9.2 hk]
 have oldk:∀ k,k<k0→∀ X,β1 k=some X→β (nth ρ k)=some X:=by
  intro k hk X hX
  obtain ⟨Y,hq⟩:=hdef k hk
  have:=ho.ext k Y (by rw [inE k hk];exact hq)
  rw [this] at hX;injection hX with hX;subst hX
  exact hq
 have kapk:∀ k,(k<k0∨(AB H1 k).isSome=true)→∀ X,β1 k=some X→β' (MC ρ k0 fr k)=some X:=by
  intro k hk X hX
  unfold MC
  rcases Nat.lt_or_ge k k0 with hlt | hge
  ·rw [A9.2 hlt];exact ext0 _ _ (oldk k hlt X hX)
  ·have:Nat.blt k k0=false:=by cases h:Nat.blt k k0 with | false=>rfl | true=>have:=A9.1 h;omega
   rw [this]
   rcases hk with hk | hk
   ·omega
   ·exact new1 k hge hk X hX
 refine ⟨β',ext0,?_,?_,?_,?_,?_,?_,ho.size,ho.os,ho.tape,ho.output⟩
 ·intro b X hX
  by_cases hr:fr≤b∧b<fr+nw
  ·obtain ⟨hl,h1⟩:=inn b hr.1 hr.2 X hX
   refine .inr ⟨hr.1,hr.2,fun B n e=>?_⟩
   subst e
   rcases ho.new _ _ h1 with h | h
   ·have:Nat.blt (k0+(b-fr)) k0=false:=by cases h:Nat.blt (k0+(b-fr)) k0 with | false=>rfl | true=>have:=A9.1 h;omega
    simp [Ap,this] at h
   ·rcases h B n rfl with h | ⟨k,m',hk,hk2⟩
    ·exact .inl h
    ·have hk0:=hW k hk
     obtain ⟨bb,hbb,_,hbr⟩:=Td c3 k (by rw [CY,List.mem_append];exact .inl hk)
     have:=ho.good.inj _ _ _ _ _ (EN hbb hbr) hl (ho.ext k _ hk2) h1
     omega
  ·rw [out b hr] at hX;exact .inl hX
 ·intro b B n hX
  by_cases hr:fr≤b∧b<fr+nw
  ·exact ho.good.lt _ _ _ (inn b hr.1 hr.2 _ hX).2
  ·rw [out b hr] at hX
   exact Nat.lt_of_lt_of_le (g.lt _ _ _ hX) ho.size
 ·intro b b' B n n' h1 h2 h3 h4 h5 h6
  obtain ⟨l1,q1⟩:=inn b h1 h3 _ h5
  obtain ⟨l2,q2⟩:=inn b' h2 h4 _ h6
  have:=ho.good.inj _ _ _ _ _ (newr _ (by omega) l1) l2 q1 q2
  omega
 ·exact AB8 (fun k hk X hX=>kapk k (N4 c2 k hk) X hX) ho.val
 ·intro k y hk
  obtain ⟨j,hj,e1,e2⟩:=kE hk
  obtain ⟨bb,hbb,hok,_⟩:=Td c3 j hj
  rw [hbb] at e2
  simp only [Option.map_some,Option.some.injEq] at e2
  subst e1;subst e2
  have hkj:j<k0∨(AB H1 j).isSome=true:=.inr (by rw [hbb];rfl)
  rcases ho.good.heap j bb hbb with ⟨B,n,l,t,pre,ty,fz,q1,q2,q3⟩ | ⟨q1,q2,q3⟩ | ⟨B,l,es,q,q1,q2,q3,q4⟩
  ·exact .inl ⟨B,n,l,t,pre,ty,fz,kapk j hkj _ q1,N2 (fun k hk X hX=>kapk k (N4 hok k hk) X hX) q2,q3⟩
  ·exact .inr (.inl ⟨kapk j hkj _ q1,q2,N2 (fun k hk X hX=>kapk k (N4 hok k hk) X hX) q3⟩)
  ·exact .inr (.inr ⟨B,l,es,q,kapk j hkj _ q1,q2,N2 (fun k hk X hX=>kapk k (N4 hok k hk) X hX) q3,q4⟩)
 ·intro B hB hno
  refine ho.frame B hB fun k m hk hk2=>?_
  have hk0:=hW k hk
  rw [inE k hk0] at hk2
  have hmem:=kG (κ:=MC ρ k0 fr) (H1:=H1) (j:=k) (l:=cat W (GN k0 H1)) (by rw [CY,List.mem_append];exact .inl hk)
  have e:MC ρ k0 fr k=nth ρ k:=by simp [MC,A9.2 hk0]
  rw [e] at hmem
  exact hno _ _ m hmem hk2
section
variable {P:Program} {O:Orc} {f:FuncId} {fn:Func}
theorem GO (hfn:P.funcs[f]? = some fn) (hbd:fn.body.isSome=true) (hname:(fn.name=="runtime.NumGoroutine")=false) {s:ASpec}
  (h:∀ args H fr path r,s args H fr path=some r→∃ (ρ:List Nat) (args0:List AV) (H0:Heap) (k0 nw:Nat) (W:List Nat) (val:AV) (H1:Heap) (conds:List (Bool×Bool)) (path':List Bool),
   r=Az ρ k0 fr nw W val H1 conds path'∧(∀ β us w,Aq β args us→Good β H w→AP conds→AY P f args0 H0 k0 W val H1∧Ct k0 nw W val H1=true∧Aq (Ap β ρ k0) args0 us∧Good (Ap β ρ k0) H0 w∧(∀ k,k<k0→∃ X,β (nth ρ k)=some X))):A6 P f s:=by
 intro args H fr path r β us w hs hc ha hg hf
 obtain ⟨ρ,args0,H0,k0,nw,W,val,H1,conds,path',rfl,hh⟩:=h args H fr path r hs
 obtain ⟨hcan,hb,ha0,hg0,hdef⟩:=hh β us w ha hg hc
 refine Ps hfn hbd hname (Calls.mono (hcan (Ap β ρ k0) us w ha0 hg0 fun b hb=>?_) ?_)
 ·have:Nat.blt b k0=false:=by cases h:Nat.blt b k0 with | false=>rfl | true=>have:=A9.1 h;omega
  simp [Ap,this]
 ·rintro e w' ⟨u,β1,rfl,ho⟩
  obtain ⟨β',he⟩:=kH (conds:=conds) (path:=path') hg ho hb hf hdef
  exact ⟨u,β',rfl,he⟩
def AQ (P:Program) (O:Orc) (fn:Func) (fuel k0:Nat) (ks:List Nat) (x:ASt):Option (List (Bool×Bool)×List Nat×AV×Heap) :=
 match I0 P O none fuel x with
 | some (g,y)=>match MA P fn y with
  | some v=>some (g.conds,DQ k0 g.keys,v,restrict y.s.H ks)
  | none=>none
 | none=>none
theorem Aw {β0:Env} {w0:World} {n:Fz} {W:List Nat} (hO:OrcOk P O) (hm:P.follows .mixedOrders=true) (hfn:P.funcs[f]? = some fn) {fuel k0:Nat} {ks ks':List Nat} {x:ASt} {conds:List (Bool×Bool)} {v:AV} {H1:Heap}
  (h:AQ P O fn fuel k0 ks x=some (conds,ks',v,H1)) (hc:AP conds) (hwf:Bp n x.s) (h0:∀ b,k0≤b→β0 b=none) (hks:∀ k∈ks',k∈W) (hD:n.D=[]:=by rfl):ASafe P f β0 w0 (A7 β0 w0 W v H1) n W x:=by
 unfold AQ at h
 split at h
 case h_2=>cases h
 rename_i g y hrun
 split at h
 case h_2=>cases h
 rename_i v' hv
 injection h with h;injection h with h1 h;injection h with h2 h;injection h with h3 h4
 subst h1;subst h3;subst h4
 refine Aj (W:=W) hO hm (fuel:=fuel) (k0:=k0) (fg:=none) (stop:=none) (ks:=ks') (y:=y) (by unfold Aa;rw [hrun];simp only;rw [h2]) hc hwf h0 hks fun _=>?_
 refine j8 hfn hv ?_ hD
 rintro e w ⟨u,β,q0,q1⟩
 exact ⟨u,β,q0,{ q1 with good:=q1.good.restrict ks }⟩
theorem Ax (hfn:P.funcs[f]? = some fn) (hb:fn.body.isSome=true) {args0:List AV} {H0:Heap} {k0:Nat} {path:List Bool} {W:List Nat} {v:AV} {H1:Heap} (hlen:Nat.ble (HD args0) fn.ntmps=true)
  (h:∀ β0 w0,(∀ b,k0≤b→β0 b=none)→ASafe P f β0 w0 (A7 β0 w0 W v H1) fn.ntmps W (Ah fn args0 H0 k0 path)):AY P f args0 H0 k0 W v H1 :=
 fun β us w ha hg hf=>N1 hfn hb hlen (ASafe.old (k0:=k0) hf (fun _ h=>by cases h) (h β w hf)) ha hg hf
end
end Go.Proofs.YtojnabmgolpodaaGreat.Ex
namespace Go.Proofs.YtojnabmgolpodaaGreat.Ex
open Go.RowKit (Below)
open Go.ChangeShapes Go.WideShapes Go.ChangeAt Go.RowKit
def Px (P:Program) (g:TypeId→Option (List (Option IntKind))):List Field→Nat→Option (List (Option IntKind))
 | [],_=>some []
 | f::fs,off=>match Nat.beq f.offset off,g f.type with
  | true,some ks=>match Nat.beq (P.cellsOf f.type) ks.length,Px P g fs (off+ks.length) with
   | true,some r=>some (ks++r)
   | _,_=>none
  | _,_=>none
def ME (P:Program):Nat→TypeId→Option (List (Option IntKind))
 | 0,_=>none
 | d+1,t=>match P.underlying t with
  | some .bool=>some [none]
  | some (.int k)=>some [some k]
  | some (.array n e)=>match ME P d e with
   | some ks=>match Nat.beq (P.cellsOf e) ks.length,Nat.beq (P.cellsOf t) (n*ks.length) with
    | true,true=>some (List.replicate n ks).flatten
    | _,_=>none
   | none=>none
  | some (.struct fs)=>match Px P (ME P d) fs.toList 0 with
   | some ks=>match Nat.beq (P.cellsOf t) ks.length with
    | true=>some ks
    | false=>none
   | none=>none
  | _=>none
def Dc:List (Option IntKind)→List Value→Prop
 | [],[]=>True
 | none::ks,.bool _::r=>Dc ks r
 | some k::ks,.int k' i::r=>k'=k∧has k i∧Dc ks r
 | _,_=>False
theorem Te:∀ {ks js:List (Option IntKind)} {l:List Value},Dc ks (l.take ks.length)→Dc js (l.drop ks.length)→Dc (ks++js) l
 | [],js,l,_,h2=>by simpa using h2
 | none::ks,js,[],h1,_=>by simp [Dc] at h1
 | some _::ks,js,[],h1,_=>by simp [Dc] at h1
 | none::ks,js,x::r,h1,h2=>by
  simp only [List.length_cons,List.take_succ_cons,List.drop_succ_cons] at h1 h2
  cases x<;>simp only [Dc] at h1
  exact Te (ks:=ks) (js:=js) h1 h2
 | some k::ks,js,x::r,h1,h2=>by
  simp only [List.length_cons,List.take_succ_cons,List.drop_succ_cons] at h1 h2
  cases x<;>simp only [Dc] at h1
  exact ⟨h1.1,h1.2.1,Te (ks:=ks) (js:=js) h1.2.2 h2⟩
theorem kI {ks:List (Option IntKind)}:∀ {n:Nat} {l:List Value},l.length=n*ks.length→(∀ i,i<n→Dc ks ((l.drop (i*ks.length)).take ks.length))→Dc (List.replicate n ks).flatten l
 | 0,l,h,_=>by
  have:l=[]:=List.length_eq_zero_iff.1 (by omega)
  subst this;trivial
 | n+1,l,h,hi=>by
  rw [List.replicate_succ,List.flatten_cons]
  refine Te (by simpa using hi 0 (by omega)) (kI ?_ fun i hlt=>?_)
  ·rw [List.length_drop,h,Nat.succ_mul];omega
  ·have:=hi (i+1) (by omega)
   rw [List.drop_drop,show ks.length+i*ks.length=(i+1)*ks.length by rw [Nat.succ_mul];omega]
   exact this
section
variable {H:Type} {enc:TypeId×Value→H} {P:Program} {w:World} {base:Nat} {spare:Nat→Bool} {held:Bool}
theorem kJ {k:IntKind} {i:Int} (h:(Lit.int k i).wf=true):has k i:=by
 simp only [Lit.wf,Bool.and_eq_true,decide_eq_true_eq] at h
 exact h
theorem kK {g:TypeId→Option (List (Option IntKind))} {tr:TypeId→List Value→Prop} (hg:∀ t ks cs,g t=some ks→tr t cs→Dc ks cs) :
  ∀ (fs:List Field) (off:Nat) (ks:List (Option IntKind)) (cs:List Value),Px P g fs off=some ks→(cs.drop off).length=ks.length→(∀ f∈fs,tr f.type ((cs.drop f.offset).take (P.cellsOf f.type)))→Dc ks (cs.drop off)
 | [],off,ks,cs,h,hl,_=>by
  simp only [Px,Option.some.injEq] at h;subst h
  have:cs.drop off=[]:=List.length_eq_zero_iff.1 hl
  rw [this];trivial
 | f::fs,off,ks,cs,h,hl,hf=>by
  simp only [Px] at h
  split at h
  ·rename_i ks1 h1 h2
   split at h
   ·rename_i r h3 h4
    injection h with h;subst h
    have e1:=Nat.eq_of_beq_eq_true h1
    have e3:=Nat.eq_of_beq_eq_true h3
    have q:=hf f (by simp)
    rw [e1,e3] at q
    refine Te (hg _ _ _ h2 q) ?_
    rw [List.drop_drop]
    refine kK hg fs (off+ks1.length) r cs h4 ?_ fun f' hf'=>hf f' (by simp [hf'])
    rw [← List.drop_drop,List.length_drop,hl,List.length_append];omega
   ·cases h
  ·cases h
theorem YG:∀ (d:Nat) (t:TypeId) (ks:List (Option IntKind)),ME P d t=some ks→∀ (fuel:Nat) (cs:List Value) (x:DataW H×List MemPlace),DataW.trod enc P w base spare held fuel t cs=some x→Dc ks cs
 | 0,t,ks,h,_,_,_,_=>by cases h
 | d+1,t,ks,h,fuel,cs,x,hx=>by
  simp only [ME] at h
  split at h
  ·rename_i hu
   injection h with h;subst h
   obtain ⟨b,rfl,_⟩:=DataW.trod_bool hu hx
   trivial
  ·rename_i k hu
   injection h with h;subst h
   obtain ⟨i,rfl,_,hw⟩:=DataW.trod_int hu hx
   exact ⟨rfl,kJ hw,trivial⟩
  ·rename_i n e hu
   split at h
   ·rename_i ks1 h1
    split at h
    ·rename_i h2 h3
     injection h with h;subst h
     have e2:=Nat.eq_of_beq_eq_true h2
     have e3:=Nat.eq_of_beq_eq_true h3
     obtain ⟨xs,m,rfl,_,hl,hn,hi⟩:=DataW.trod_array hu hx
     rw [e2] at hi
     refine kI (by rw [hl,e3]) fun i hlt=>?_
     have:=hi i hlt
     rw [List.getElem?_eq_getElem (by omega)] at this
     exact YG d e ks1 h1 _ _ _ this
    ·cases h
   ·cases h
  ·rename_i fs hu
   split at h
   ·rename_i ks1 h1
    split at h
    ·rename_i h2
     injection h with h;subst h
     have e2:=Nat.eq_of_beq_eq_true h2
     obtain ⟨xs,n,rfl,_,hl,hn,hf⟩:=DataW.trod_struct hu hx
     have:=kK (P:=P) (tr:=fun t cs=>∃ x,DataW.trod enc P w base spare held n t cs=some x) (fun t ks cs hg ⟨x,q⟩=>YG d t ks hg _ _ _ q) fs.toList 0 ks1 cs h1 (by rw [List.drop_zero,hl,e2]) fun f hfm=>?_
     ·simpa using this
     ·obtain ⟨i,hi,rfl⟩:=List.getElem_of_mem hfm
      have hi':i<fs.size:=by simpa using hi
      have:=hf i fs.toList[i] (by simp [hi'])
      rw [List.getElem?_eq_getElem (by omega)] at this
      exact ⟨_,this⟩
    ·cases h
   ·cases h
  ·cases h
end
def YH (P:Program) (t:TypeId):Bool:=match P.underlying t with
 | some (.struct _)=>true
 | some (.array _ _)=>true
 | _=>false
def AB9 (agg:Bool) (ks:List (Option IntKind)) (v:Value):Prop:=match agg with
 | true=>∃ l,v=.agg ⟨l⟩∧Dc ks l
 | false=>Dc ks [v]
theorem AB_ {H:Type} {enc:TypeId×Value→H} {P:Program} {W:World} {b base:Nat} {spare:Nat→Bool} {held:Bool} {r:Reach} {t:TypeId} {v:Value} {d:DataW H} {p:List MemPlace} {ks:List (Option IntKind)} {g:Bool} {n:Nat}
  (hs:ME P n t=some ks) (hg:YH P t=g) (hv:Value.okWide P W r b t v) (ht:DataW.Trod enc P W base spare held t v d p):AB9 g ks v:=by
 obtain ⟨fuel,hf⟩:=ht
 have hfit:=YG n t ks hs fuel _ _ hf
 subst hg
 unfold YH
 split
 ·rename_i fs hu
  obtain ⟨cs,rfl,_⟩:=okWide_struct hu hv
  exact ⟨cs.toList,rfl,by simpa [Value.cells] using hfit⟩
 ·rename_i k e hu
  simp only [Value.okWide,hu] at hv
  obtain ⟨cs,rfl,_⟩:=hv
  exact ⟨cs.toList,rfl,by simpa [Value.cells] using hfit⟩
 ·rename_i h1 h2
  show Dc ks [v]
  cases n with
  | zero=>cases hs
  | succ n =>
   simp only [ME] at hs
   split at hs
   ·rename_i hu
    obtain ⟨b,hb,_⟩:=DataW.trod_bool hu hf
    rw [hb] at hfit
    have:v=.bool b:=by
     obtain ⟨c,rfl⟩:=okWide_bool hu hv
     simpa [Value.cells] using hb
    rw [this];exact hfit
   ·rename_i k hu
    obtain ⟨i,hb,_⟩:=DataW.trod_int hu hf
    rw [hb] at hfit
    have:v=.int k i:=by
     obtain ⟨c,rfl⟩:=okWide_int hu hv
     simpa [Value.cells] using hb
    rw [this];exact hfit
   ·rename_i m e hu;exact absurd hu (h2 _ _)
   ·rename_i fs hu;exact absurd hu (h1 _)
   ·cases hs
theorem kO {H:Type} {enc:TypeId×Value→H} {P:Program} {W:World} {base:Nat} {spare:Nat→Bool} {held:Bool}:∀ {ts:List TypeId} {vs:List Value} {ds:List (DataW H)} {ps:List MemPlace},DataW.TrodAll enc P W base spare held ts vs ds ps→vs.length=ts.length∧ds.length=ts.length
 | [],[],[],_,_=>⟨rfl,rfl⟩
 | _::_,_::_,_::_,_,⟨_,_,_,h,_⟩=>by have:=kO h;simp [this]
theorem kP {H:Type} {enc:TypeId×Value→H} {P:Program} (hl:laidOutB P=true) {W W':World} (hb:Below W.heap.size W W'):∀ {ts:List TypeId} {vs:List Value} {ds:List (DataW H)} {ps:List MemPlace},
  ts.all (fun t=>P.readableRec t&&decide (t<P.types.size))=true→DataW.TrodAll enc P W 0 (fun _=>true) true ts vs ds ps→DataW.TrodAll enc P W' 0 (fun b=>decide (b<W.heap.size)) true ts vs ds ps
 | [],[],[],_,_,h=>h
 | _::_,_::_,_::_,_,hr,⟨p,q,h1,h2,e⟩=>by
  simp only [List.all_cons,Bool.and_eq_true,decide_eq_true_eq] at hr
  have hlt:∀ x∈p,x.block<W.heap.size:=by obtain ⟨m,hm⟩:=h1;exact DataW.trod_lt m _ _ _ hm
  exact ⟨p,q,Below.trod hl hr.1.1 hr.1.2 h1 hb hlt,kP hl hb (by simpa using hr.2) h2,e⟩
def AB' (s:ChangeSpec) (n:Nat):Prop:=s.vars=[]∧∀ (H:Type) (ds:List (DataW H)),ds.length=n→(s.fn H ds).results=[.lit (.bool true)]∧(s.fn H ds).args=ds∧(s.fn H ds).vars=[]
def YI (P:Program) (f:FuncId) (fn:Func):Prop :=
 ∀ (H:Type) (enc:TypeId×Value→H) (us:List Value) (W:World) (base:Nat) (ds:List (DataW H)) (ps:List MemPlace),(∀ (j:Nat) t v,fn.params[j]? = some t→us[j]? = some v→Value.okWide P W .any base t v) →
  DataW.TrodAll enc P W 0 (fun _=>true) true fn.params.toList us ds ps→(DataW.weightsEach P fn.params.toList ds).all (· ≤ reachBytes)=true→W.noneFrozen ps→Calls P f ⟨us⟩ W fun e w'=>e=.returned (.bool true)∧Below W.heap.size W w'
theorem law_lift {C:Checked} {os:Os} {f:FuncId} {fn:Func} {s:ChangeSpec} {H:Type} {enc:TypeId×Value→H} (own:ownKnob C.prog.godebug=none) (started:os.Started) (noInit:C.prog.inits.idxOf? f=none) (hfn:C.prog.funcs[f]? = some fn)
  (witness:∃ (w:World) (tape:Tape) (i:Input),w.os=os∧(w.forCall tape i).Shaped C.prog∧i.vars=[]∧Input.okWide C.prog (w.forCall tape i) .any w.heap.size f i ∧
   s.pre6 enc C.prog fn [] false (w.forCall tape i).memory i.args∧Assume.holds {} C.prog (lone (Frame.enter C.prog f i.args .normal) [] (w.forCall tape i)))
  (hs:AB' s fn.params.size) (htypes:s.plain.varTypes C.prog=[]) {tb:TypeId} (hrt:fn.resultTypes=#[tb]) (hub:C.prog.underlying tb=some .bool) (hlaid:laidOutB C.prog=true)
  (hpar:fn.params.toList.all (fun t=>C.prog.readableRec t&&decide (t<C.prog.types.size))=true) (walk:YI C.prog f fn) :
  ReturnsInHanded {} C os f .any (s.pre6 enc C.prog fn [] false) (s.post enc C.prog fn false true false false):=by
 refine returnsInHanded_of_change_sized own started noInit hfn witness ?_
 intro W base args ds gs before hval hW _ hwt _
 have hW':=hW
 obtain ⟨p,q,hA,hV,rfl,hfz,hnd⟩:=hW
 obtain ⟨hs1,hs2⟩:=hs
 rw [hs1] at hV
 obtain ⟨rfl,rfl⟩:=trodVars_none hV
 obtain ⟨l1,l2⟩:=kO hA
 rw [htypes,List.append_nil,List.append_nil] at hwt
 have e:args=⟨args.toList⟩:=rfl
 rw [e]
 refine (walk H enc args.toList W base ds p (fun j t v h1 h2=>hval j t v h1 (by simpa using h2)) hA hwt (by simpa using hfz)).mono fun e W' ⟨he,bel⟩=>?_
 subst he
 have hds:ds.length=fn.params.size:=by rw [l2];simp
 obtain ⟨r1,r2,r3⟩:=hs2 H (ds++[]) (by rw [List.append_nil];exact hds)
 refine ⟨_,rfl,ds,[],p++[],[],p,[],hW',?_,?_,?_,bel.frame _,fun h=>by cases h⟩
 ·rw [r1,hrt]
  exact trodAll_mk1 (Go.RowKit.shut_bool hub _)
 ·rw [r2,List.append_nil]
  exact kP hlaid bel hpar hA
 ·rw [r3,hs1];rfl
end Go.Proofs.YtojnabmgolpodaaGreat.Ex
namespace Go.Proofs.YtojnabmgolpodaaGreat.Ex
section
variable {β β':Env} {κ:Nat→Nat}
theorem kQ:∀ {caps:List (Nat×Nat)} {l:List Value},(∀ k∈caps.map (·.1),∀ X,β (κ k)=some X→β' k=some X)→D6 β (Ta κ caps) l→D6 β' caps l
 | [],_,_,h=>h
 | (b,o)::r,l,hk,⟨B,n,l',h1,h2,h3⟩=>⟨B,n,l',hk b (by simp) _ h1,kQ (fun k h=>hk k (by simp at h ⊢;exact .inr h)) h2,h3⟩
theorem ACA {c:Ch} {l:List Value} (hk:∀ k∈Iv c,∀ X,β (κ k)=some X→β' k=some X) (h:A2 β (Pu κ c) l):A2 β' c l:=by
 cases c<;>simp only [Iv] at hk<;>simp only [Pu,A2] at h ⊢
 case n=>exact h
 case b=>exact h
 case v=>exact h
 case p=>obtain ⟨B,n,h1,h2⟩:=h;exact ⟨B,n,hk _ (by simp) _ h1,h2⟩
 case sl =>
  rcases h with ⟨B,n,h1,h2⟩ | ⟨h1,h2⟩
  ·exact .inl ⟨B,n,hk _ (by simp) _ h1,h2⟩
  ·exact .inr ⟨hk _ (by simp) _ h1,h2⟩
 case sx =>
  rcases h with ⟨B,n,cap,h1,h2⟩ | ⟨h1,h2⟩
  ·exact .inl ⟨B,n,cap,hk _ (by simp) _ h1,h2⟩
  ·exact .inr ⟨hk _ (by simp) _ h1,h2⟩
 case num=>exact h
 case seq=>exact h
 case clo=>obtain ⟨ps,h1,h2⟩:=h;exact ⟨ps,kQ hk h1,h2⟩
 case mth=>obtain ⟨B,n,h1,h2⟩:=h;exact ⟨B,n,hk _ (by simp) _ h1,h2⟩
 case mp=>obtain ⟨B,h1,h2⟩:=h;exact ⟨B,hk _ (by simp) _ h1,h2⟩
 case mk=>exact h
theorem N5:∀ {cs:List Ch} {l:List Value},(∀ k∈Cr cs,∀ X,β (κ k)=some X→β' k=some X)→AH β (FE κ cs) l→AH β' cs l
 | [],_,_,h=>h
 | c::cs,l,hk,⟨l1,l2,h1,h2,h3⟩=>by
  simp only [Cr,CY,List.mem_append] at hk
  exact ⟨l1,l2,ACA (fun k h=>hk k (.inl h)) h1,N5 (fun k h=>hk k (.inr h)) h2,h3⟩
theorem kR {g:Bool} {cs:List Ch} {u:Value} (hk:∀ k∈Cr cs,∀ X,β (κ k)=some X→β' k=some X) (h:BO β g (FE κ cs) u):BO β' g cs u:=by
 cases g
 ·exact N5 hk h
 ·obtain ⟨l,h1,h2⟩:=h;exact ⟨l,N5 hk h1,h2⟩
theorem kU:∀ {xs:List (Bool×List Ch)} {l:List Value},(∀ k∈G' xs,∀ X,β (κ k)=some X→β' k=some X)→D7 β (Tb κ xs) l→D7 β' xs l
 | [],_,_,h=>h
 | (g,cs)::xs,l,hk,⟨u,l',h1,h2,h3⟩=>by
  simp only [G',CY,List.mem_append] at hk
  exact ⟨u,l',kR (fun k h=>hk k (.inl h)) h1,kU (fun k h=>hk k (.inr h)) h2,h3⟩
theorem ACB {x:AV} {u:Value} (hk:∀ k∈HA x,∀ X,β (κ k)=some X→β' k=some X) (h:AG β (Pv κ x) u):AG β' x u:=by
 cases x with
 | val g cs=>exact kR hk h
 | tup xs=>obtain ⟨us,h1,h2⟩:=h;exact ⟨us,kU hk h1,h2⟩
 | any=>trivial
end
def N6 (κ:Nat→Nat):List AV→List AV
 | []=>[]
 | x::r=>Pv κ x::N6 κ r
theorem kV (κ:Nat→Nat):∀ (T:List AV) (t:Nat),Al (N6 κ T) t=Pv κ (Al T t)
 | [],_=>rfl
 | _::_,0=>rfl
 | _::r,t+1=>kV κ r t
def KT (κ:Nat→Nat):Heap→Heap
 | []=>[]
 | (k,y)::r=>(κ k,(match y with | some b=>some ⟨b.ty,FE κ b.cs,b.opn⟩ | none=>none))::KT κ r
def Eb (k0:Nat) (ρ:List Nat):Nat→Nat:=fun k=>match Nat.blt k k0 with | true=>k | false=>nth ρ (k-k0)
def N7 (n:Nat):List Nat→Bool
 | []=>true
 | k::r=>match Nat.ble n k with | true=>N7 n r | false=>false
def Py:List Nat→Bool
 | []=>true
 | k::r=>match FC k r with | true=>false | false=>Py r
theorem Tf {n:Nat}:∀ {l:List Nat} {i:Nat},N7 n l=true→i<l.length→n≤nth l i
 | [],i,_,h=>by simp at h
 | k::r,0,h,_=>by
  simp only [N7] at h
  split at h
  ·rename_i hb;exact Nat.le_of_ble_eq_true hb
  ·cases h
 | k::r,i+1,h,hi=>by
  simp only [N7] at h
  split at h
  ·exact Tf (l:=r) h (by simpa using hi)
  ·cases h
theorem YJ:∀ {l:List Nat} {i:Nat},i<l.length→nth l i∈l
 | [],i,h=>by simp at h
 | k::r,0,_=>by simp [nth]
 | k::r,i+1,h=>by simp only [nth];exact List.mem_cons_of_mem _ (YJ (by simpa using h))
theorem kW:∀ {l:List Nat} {i j:Nat},Py l=true→i<l.length→j<l.length→nth l i=nth l j→i=j
 | [],i,_,_,h,_,_=>by simp at h
 | k::r,i,j,h,hi,hj,e=>by
  simp only [Py] at h
  split at h
  ·cases h
  ·rename_i hm
   have hm':k ∉ r:=fun hk=>by rw [Nr.2 hk] at hm;cases hm
   match i,j with
   | 0,0=>rfl
   | 0,j+1=>exact absurd (by rw [show k=nth r j from e];exact YJ (by simpa using hj)) hm'
   | i+1,0=>exact absurd (by rw [show k=nth r i from e.symm];exact YJ (by simpa using hi)) hm'
   | i+1,j+1=>rw [kW (l:=r) h (by simpa using hi) (by simpa using hj) e]
section
variable {P:Program} {f:FuncId} {β0:Env} {w0:World} {R:Ending→World→Prop} {n:Fz} {W:List Nat}
theorem ACC {k0:Nat} {ρ:List Nat} (h1:N7 k0 ρ=true) (h2:Py ρ=true) {a b:Nat} (ha:a<k0+ρ.length) (hb:b<k0+ρ.length) (e:Eb k0 ρ a=Eb k0 ρ b):a=b:=by
 unfold Eb at e
 have lt:∀ {x:Nat},Nat.blt x k0=false→k0≤x:=fun {x} h=>by
  rcases Nat.lt_or_ge x k0 with q | q
  ·rw [A9.2 q] at h;cases h
  ·exact q
 split at e<;>split at e
 ·exact e
 ·rename_i _ p _ q
  have:=Tf (i:=b-k0) h1 (by have:=lt q;omega)
  have:=A9.1 p;omega
 ·rename_i _ p _ q
  have:=Tf (i:=a-k0) h1 (by have:=lt p;omega)
  have:=A9.1 q;omega
 ·rename_i _ p _ q
  have:=kW h2 (by have:=lt p;omega) (by have:=lt q;omega) e
  have:=lt p;have:=lt q;omega
theorem kX {κ:Nat→Nat} {m:Nat} (hinj:∀ a b,a<m→b<m→κ a=κ b→a=b):∀ {H:Heap} {j:Nat},(∀ k y,(k,y)∈H→k<m)→j<m→AB (KT κ H) (κ j)=(AB H j).map fun b=>⟨b.ty,FE κ b.cs,b.opn⟩
 | [],_,_,_=>rfl
 | (k,y)::r,j,hk,hj=>by
  have hkm:=hk k y (by simp)
  simp only [KT,AB]
  by_cases e:k=j
  ·subst e
   have q1:Nat.beq (κ k) (κ k)=true:=Ad.2 rfl
   have q2:Nat.beq k k=true:=Ad.2 rfl
   rw [q1,q2]
   cases y<;>rfl
  ·have q2:Nat.beq k j=false:=Ev e
   have q1:Nat.beq (κ k) (κ j)=false:=Ev fun h=>e (hinj k j hkm hj h)
   rw [q1,q2]
   exact kX hinj (fun k y h=>hk k y (by simp [h])) hj
def I5 (m:Nat):Heap→Bool
 | []=>true
 | (k,y)::r=>match Nat.blt k m with
  | true=>match y with
   | some b=>match KR m (Cr b.cs) with | true=>I5 m r | false=>false
   | none=>I5 m r
  | false=>false
theorem kY {m:Nat}:∀ {H:Heap} {k:Nat} {y:Option Blk},I5 m H=true→(k,y)∈H→k<m
 | [],_,_,_,h=>by cases h
 | (j,z)::r,k,y,h,hm=>by
  simp only [I5] at h
  split at h
  ·rename_i hj
   have hr:I5 m r=true:=by
    split at h
    ·split at h
     ·exact h
     ·cases h
    ·exact h
   rcases List.mem_cons.1 hm with e | e
   ·injection e with e1 e2;rw [e1];exact A9.1 hj
   ·exact kY hr e
  ·cases h
theorem kZ {m:Nat}:∀ {H:Heap} {k:Nat} {b:Blk},I5 m H=true→AB H k=some b→k<m∧∀ x∈Cr b.cs,x<m
 | [],_,_,_,h=>by cases h
 | (j,z)::r,k,b,h,hm=>by
  simp only [I5] at h
  simp only [AB] at hm
  split at h
  ·rename_i hj
   split at hm
   ·rename_i e
    subst hm
    simp only at h
    split at h
    ·rename_i hc;exact ⟨by rw [← Ad.1 e];exact A9.1 hj,Nz hc⟩
    ·cases h
   ·have hr:I5 m r=true:=by
     split at h
     ·split at h
      ·exact h
      ·cases h
     ·exact h
    exact kZ hr hm
  ·cases h
def k6 (k0:Nat) (ρ:List Nat) (m:Nat) (T:List AV) (H:Heap):Bool:=Nat.beq m (k0+ρ.length)&&(N7 k0 ρ&&(Py ρ&&(Ny m T&&I5 m H)))
theorem YK {k0 m:Nat} {ρ:List Nat} {todo:List Item} {T:List AV} {H:Heap} {fr:Nat} {p:List Bool} (hb:k6 k0 ρ m T H=true) (h0:∀ b,k0≤b→β0 b=none)
  (hs:ASafe P f β0 w0 R n W ⟨todo,⟨T,H,m,p⟩⟩):ASafe P f β0 w0 R n W ⟨todo,⟨N6 (Eb k0 ρ) T,KT (Eb k0 ρ) H,fr,p⟩⟩:=by
 unfold k6 at hb
 simp only [Bool.and_eq_true] at hb
 obtain ⟨hm,h1,h2,h3,h4⟩:=hb
 have hm:=Ad.1 hm
 intro β a w hi _
 let κ:=Eb k0 ρ
 let β':Env:=fun k=>match Nat.blt k m with | true=>β (κ k) | false=>none
 have bl:∀ {k},k<m→β' k=β (κ k):=fun {k} h=>by
  show (match Nat.blt k m with | true=>β (κ k) | false=>none)=_
  rw [A9.2 h]
 have bs:∀ {k X},β' k=some X→k<m∧β (κ k)=some X:=fun {k X} h=>by
  change (match Nat.blt k m with | true=>β (κ k) | false=>none)=some X at h
  split at h
  ·rename_i hb;exact ⟨A9.1 hb,h⟩
  ·cases h
 have hinj:∀ a b,a<m→b<m→κ a=κ b→a=b:=fun a b ha hb e=>ACC h1 h2 (by omega) (by omega) e
 have old:∀ {k},k<k0→κ k=k:=fun {k} h=>by show Eb k0 ρ k=k;unfold Eb;rw [A9.2 h]
 have new:∀ {k},k0≤k→k<m→k0≤κ k:=fun {k} h hk=>by
  show k0≤Eb k0 ρ k
  unfold Eb
  split
  ·exact h
  ·exact Tf h1 (by omega)
 have hg:∀ j,j<m→AB (KT κ H) (κ j)=(AB H j).map fun b=>⟨b.ty,FE κ b.cs,b.opn⟩:=fun j hj=>kX hinj (fun k y h=>kY h4 h) hj
 refine hs β' a w { hi with tmp:=fun t=>?_,good:=⟨fun b blk hb=>?_,fun b b' B n n' q1 q2 q3 q4=>?_,fun b B n q=>hi.good.lt _ _ _ (bs q).2⟩,new:=fun b X hb=>?_,ext:=fun b X hb=>?_ } fun b hb=>?_
 ·have ht:=hi.tmp t
  simp only at ht
  rw [kV] at ht
  have hk:=YB (t:=t) h3
  exact ACB (fun k hkk X hX=>by rw [bl (hk k hkk)];exact hX) ht
 ·simp only at hb
  obtain ⟨hbm,hbk⟩:=kZ h4 hb
  have hg':=hg b hbm
  rw [hb] at hg'
  rcases hi.good.heap (κ b) _ hg' with ⟨B,n,l,t,pre,ty,fz,e1,e2,e3,e4,e5⟩ | ⟨e1,e2,e3⟩ | ⟨B,l,es,q,e1,e2,e3,e4⟩
  ·exact .inl ⟨B,n,l,t,pre,ty,fz,by rw [bl hbm];exact e1,N5 (fun k hkk X hX=>by rw [bl (hbk k hkk)];exact hX) e2,e3,e4,e5⟩
  ·exact .inr (.inl ⟨by rw [bl hbm];exact e1,e2,N5 (fun k hkk X hX=>by rw [bl (hbk k hkk)];exact hX) e3⟩)
  ·exact .inr (.inr ⟨B,l,es,q,by rw [bl hbm];exact e1,e2,N5 (fun k hkk X hX=>by rw [bl (hbk k hkk)];exact hX) e3,e4⟩)
 ·simp only at q1 q2
  obtain ⟨d,hd,hr⟩:=FB q1
  obtain ⟨d',hd'⟩:=Option.isSome_iff_exists.1 q2
  have m1:=(bs q3).1
  have m2:=(bs q4).1
  refine hinj b b' m1 m2 (hi.good.inj _ _ B n n' (EN (blk:=⟨d.ty,FE κ d.cs,d.opn⟩) (by rw [hg b m1,hd];rfl) hr) (by rw [hg b' m2,hd'];rfl) (bs q3).2 (bs q4).2)
 ·obtain ⟨hbm,hX⟩:=bs hb
  rcases Nat.lt_or_ge b k0 with hlt | hge
  ·rw [old hlt] at hX;exact hi.new b X hX
  ·rcases hi.new _ X hX with q | q
   ·rw [h0 _ (new hge hbm)] at q;cases q
   ·exact .inr q
 ·have hlt:b<k0:=by
   rcases Nat.lt_or_ge b k0 with h | h
   ·exact h
   ·rw [h0 b h] at hb;cases hb
  rw [bl (by omega),old hlt]
  exact hi.ext b X hb
 ·show (match Nat.blt b m with | true=>β (κ b) | false=>none)=none
  have:Nat.blt b m=false:=by
   cases hq:Nat.blt b m with
   | false=>rfl
   | true=>have:=A9.1 hq;simp only at hb;omega
  rw [this]
def N8 (k sz:Nat):List Nat→Nat→List AV→List AV
 | _,_,[]=>[]
 | ts,i,x::r=>(match FC i ts,x with
  | true,.val false [.v (.slice none 0 0)]=>.val false [.sx k 0 sz]
  | _,y=>y)::N8 k sz ts (i+1) r
theorem k7 (k sz:Nat) (ts:List Nat):∀ (T:List AV) (i t:Nat),Al (N8 k sz ts i T) t=Al T t∨(Al T t=.val false [.v (.slice none 0 0)]∧Al (N8 k sz ts i T) t=.val false [.sx k 0 sz])
 | [],_,_=>.inl rfl
 | x::r,i,0=>by
  simp only [N8,Al]
  split
  ·exact .inr ⟨rfl,rfl⟩
  ·exact .inl rfl
 | x::r,i,t+1=>k7 k sz ts r (i+1) t
theorem k8 {ts:List Nat} {sz:Nat} {ty:TypeId} {kd:IntKind} {todo:List Item} {T:List AV} {H:Heap} {fr:Nat} {p:List Bool} (hw:AB H fr=none) (h0:β0 fr=none)
  (hs:ASafe P f β0 w0 R n W ⟨todo,⟨N8 fr sz ts 0 T,H++[(fr,some ⟨ty,[.seq kd []],true⟩)],fr+1,p⟩⟩):ASafe P f β0 w0 R n W ⟨todo,⟨T,H,fr,p⟩⟩:=by
 intro β a w hi hf
 have hfr:β fr=none:=hf fr (Nat.le_refl _)
 let β':Env:=fun k=>match Nat.beq k fr with | true=>some Loc.nil | false=>β k
 have bo:∀ {k},k≠fr→β' k=β k:=fun {k} h=>by
  show (match Nat.beq k fr with | true=>some Loc.nil | false=>β k)=_
  rw [Ev h]
 have bn:β' fr=some Loc.nil:=by
  show (match Nat.beq fr fr with | true=>some Loc.nil | false=>β fr)=_
  rw [Ad.2 rfl]
 have le:Env.le β β':=fun b X h=>by
  rw [bo fun e=>by rw [e,hfr] at h;cases h];exact h
 have app:∀ (H:Heap) (b:Nat),(b≠fr→AB (H++[(fr,some (⟨ty,[.seq kd []],true⟩:Blk))]) b=AB H b)∧(AB H fr=none→AB (H++[(fr,some (⟨ty,[.seq kd []],true⟩:Blk))]) fr=some ⟨ty,[.seq kd []],true⟩∨AB (H++[(fr,some (⟨ty,[.seq kd []],true⟩:Blk))]) fr=none):=by
  intro H b
  induction H with
  | nil =>
   refine ⟨fun hb=>by simp [AB,Ev (Ne.symm hb)],fun _=>.inl (by simp [AB])⟩
  | cons e r ih =>
   obtain ⟨k,y⟩:=e
   refine ⟨fun hb=>?_,fun h=>?_⟩
   ·simp only [List.cons_append,AB];rw [ih.1 hb]
   ·simp only [List.cons_append,AB] at h ⊢
    split at h
    ·right;simpa using h
    ·exact ih.2 h
 refine hs β' a w { hi with tmp:=fun t=>?_,good:=⟨fun b blk hb=>?_,fun b b' B n n' q1 q2 q3 q4=>?_,fun b B n q=>?_⟩,new:=fun b X hb=>?_,ext:=Env.le_trans hi.ext le } fun b hb=>?_
 ·simp only
  have ht:=hi.tmp t
  simp only at ht
  rcases k7 fr sz ts T 0 t with e | ⟨e1,e2⟩
  ·rw [e];exact SG le ht
  ·rw [e1] at ht
   rw [e2]
   obtain ⟨l1,l2,⟨q1,_⟩,q2,q3⟩:=ht
   exact ⟨l1,l2,.inr ⟨bn,rfl,q1⟩,q2,q3⟩
 ·simp only at hb
  by_cases e:b=fr
  ·subst e
   rcases (app H b).2 hw with q | q
   ·rw [q] at hb;injection hb with hb;subst hb
    exact .inr (.inl ⟨bn,.inl rfl,⟨[],[],⟨rfl,by simp⟩,rfl,rfl⟩⟩)
   ·rw [q] at hb;cases hb
  ·rw [(app H b).1 e] at hb
   exact SH le (hi.good.heap b blk hb)
 ·simp only at q1 q2
  have e1:b≠fr:=fun e=>by rw [e,bn] at q3;cases q3
  have e2:b'≠fr:=fun e=>by rw [e,bn] at q4;cases q4
  rw [bo e1] at q3
  rw [bo e2] at q4
  obtain ⟨d,hd,hr⟩:=FB q1
  rw [(app H b).1 e1] at hd
  rw [(app H b').1 e2] at q2
  exact hi.good.inj b b' B n n' (EN hd hr) q2 q3 q4
 ·by_cases e:b=fr
  ·rw [e,bn] at q;cases q
  ·rw [bo e] at q;exact hi.good.lt b B n q
 ·by_cases e:b=fr
  ·rw [e,bn] at hb;injection hb with hb;subst hb
   exact .inr fun B m h=>by cases h
  ·rw [bo e] at hb;exact hi.new b X hb
 ·have e:b≠fr:=by simp only at hb;omega
  rw [bo e];exact hf b (by simp only at hb ⊢;omega)
end
def k9:List AV→Bool
 | []=>false
 | .val false [.v (.slice none 0 0)]::_=>true
 | _::r=>k9 r
def YL (k:Nat):List AV→List AV
 | []=>[]
 | x::r=>(match x with
  | .val false [.v (.slice none 0 0)]=>.val false [.sl k 0 0 0]
  | y=>y)::YL k r
def Fu (s:ASpec):ASpec:=fun args H fr path=>match k9 args with
 | true=>match s (YL fr args) ((fr,some ⟨BN,[],false⟩)::H) (fr+1) path with
  | some r=>some { r with nw:=r.nw+1 }
  | none=>none
 | false=>s args H fr path
theorem HF {P:Program} {f:FuncId} {s:ASpec} (h:A6 P f s):A6 P f (Fu s):=by
 intro args H fr path r β us w hs hc ha hg hf
 unfold Fu at hs
 split at hs
 case h_2=>exact h args H fr path r β us w hs hc ha hg hf
 split at hs
 case h_2=>cases hs
 rename_i r1 hr1
 injection hs with hs
 subst hs
 have hfr:β fr=none:=hf fr (Nat.le_refl _) (by show fr<fr+(r1.nw+1);omega)
 let β1:Env:=fun k=>match Nat.beq k fr with | true=>some Loc.nil | false=>β k
 have bo:∀ {k},k≠fr→β1 k=β k:=fun {k} h=>by
  show (match Nat.beq k fr with | true=>some Loc.nil | false=>β k)=_
  rw [Ev h]
 have bn:β1 fr=some Loc.nil:=by
  show (match Nat.beq fr fr with | true=>some Loc.nil | false=>β fr)=_
  rw [Ad.2 rfl]
 have le:Env.le β β1:=fun b X h=>by
  rw [bo fun e=>by rw [e,hfr] at h;cases h];exact h
 have hargs:∀ {args:List AV} {us:List Value},Aq β args us→Aq β1 (YL fr args) us:=by
  intro args
  induction args with
  | nil=>intro us h;exact h
  | cons x r ih =>
   rintro us ⟨u,us',h1,h2,h3⟩
   refine ⟨u,us',?_,ih h2,h3⟩
   split
   ·obtain ⟨l1,l2,⟨q1,_⟩,q2,q3⟩:=h1
    exact ⟨l1,l2,.inr ⟨bn,rfl,rfl,rfl,q1⟩,q2,q3⟩
   ·exact SG le h1
 have hgood:Good β1 ((fr,some ⟨BN,[],false⟩)::H) w:=by
  have at_:∀ {b B n},β1 b=some (.at_ B n)→b≠fr∧β b=some (.at_ B n):=fun {b B n} q=>by
   have e:b≠fr:=fun e=>by rw [e,bn] at q;cases q
   exact ⟨e,by rwa [bo e] at q⟩
  have hh:∀ {b},b≠fr→AB ((fr,some (⟨BN,[],false⟩:Blk))::H) b=AB H b:=fun {b} e=>by simp only [AB];rw [Ev (Ne.symm e)]
  refine ⟨fun b blk hb=>?_,fun b b' B n n' q1 q2 q3 q4=>?_,fun b B n q=>hg.lt _ _ _ (at_ q).2⟩
  ·by_cases e:b=fr
   ·subst e
    simp only [AB] at hb
    rw [Ad.2 rfl] at hb
    injection hb with hb;subst hb
    exact .inr (.inl ⟨bn,.inr rfl,rfl⟩)
   ·rw [hh e] at hb
    exact SH le (hg.heap b blk hb)
  ·obtain ⟨e1,q3⟩:=at_ q3
   obtain ⟨e2,q4⟩:=at_ q4
   obtain ⟨d,hd,hr⟩:=FB q1
   rw [hh e1] at hd
   rw [hh e2] at q2
   exact hg.inj b b' B n n' (EN hd hr) q2 q3 q4
 have:=h _ _ _ _ r1 β1 us w hr1 hc (hargs ha) hgood fun b h1 h2=>by
  rw [bo (by omega)];exact hf b (by omega) (by show b<fr+(r1.nw+1);omega)
 have mono:∀ e w',TJ β1 (fr+1) r1 w e w'→TJ β fr { r1 with nw:=r1.nw+1 } w e w':=by
  rintro e w' ⟨u,β',rfl,he⟩
  have bf:β' fr=some Loc.nil:=he.ext fr _ bn
  refine ⟨u,β',rfl,{ he with ext:=Env.le_trans le he.ext,new:=fun b X q=>?_,inj:=fun b b' B n n' q1 q2 q3 q4 q5 q6=>?_,frame:=fun B hB hno=>he.frame B hB fun k y n hk hk2=>?_ }⟩
  ·rcases he.new b X q with q' | ⟨q1,q2,q3⟩
   ·by_cases e:b=fr
    ·subst e
     rw [bn] at q';injection q' with q';subst q'
     exact .inr ⟨Nat.le_refl _,(by show b<b+(r1.nw+1);omega),fun B n h=>by cases h⟩
    ·rw [bo e] at q';exact .inl q'
   ·refine .inr ⟨by omega,(by show b<fr+(r1.nw+1);omega),fun B n e=>?_⟩
    rcases q3 B n e with q | ⟨k,m,k1,k2⟩
    ·exact .inl q
    ·refine .inr ⟨k,m,k1,?_⟩
     rwa [bo fun e=>by rw [e,bn] at k2;cases k2] at k2
  ·have e1:b≠fr:=fun e=>by rw [e,bf] at q5;cases q5
   have e2:b'≠fr:=fun e=>by rw [e,bf] at q6;cases q6
   change b<fr+(r1.nw+1) at q3
   change b'<fr+(r1.nw+1) at q4
   exact he.inj b b' B n n' (by omega) (by omega) (by omega) (by omega) q5 q6
  ·have e:k≠fr:=fun e=>by rw [e,bn] at hk2;cases hk2
   rw [bo e] at hk2
   exact hno k y n hk hk2
 unfold KC at this ⊢
 split at this
 ·exact mono _ _ this
 ·exact Calls.mono this fun e w' h=>mono e w' h
 ·exact this
def I6 (fr:Nat) (H H1:Heap):List Nat→Bool
 | []=>true
 | k::r=>match Nat.blt k fr with
  | true=>match AB H k with | some _=>I6 fr H H1 r | none=>false
  | false=>match AB H1 k with | some _=>I6 fr H H1 r | none=>false
theorem YM {fr:Nat} {H H1:Heap}:∀ {l:List Nat},I6 fr H H1 l=true→∀ k∈l,(k<fr∧(AB H k).isSome=true)∨(fr≤k∧(AB H1 k).isSome=true)
 | [],_,k,h=>by cases h
 | x::r,h,k,hk=>by
  simp only [I6] at h
  split at h
  ·rename_i hb
   split at h
   ·rename_i b hg
    rcases List.mem_cons.1 hk with rfl | hk
    ·exact .inl ⟨A9.1 hb,by rw [hg];rfl⟩
    ·exact YM h k hk
   ·cases h
  ·rename_i hb
   split at h
   ·rename_i b hg
    rcases List.mem_cons.1 hk with rfl | hk
    ·refine .inr ⟨?_,by rw [hg];rfl⟩
     rcases Nat.lt_or_ge k fr with q | q
     ·rw [A9.2 q] at hb;cases hb
     ·exact q
    ·exact YM h k hk
   ·cases h
def N9 (fr:Nat) (H H1:Heap):List Nat→Bool
 | []=>true
 | k::r=>match AB H1 k with
  | some b=>match I6 fr H H1 (Cr b.cs),Nat.beq b.ty BN with | true,false=>N9 fr H H1 r | _,_=>false
  | none=>N9 fr H H1 r
theorem Pz {fr:Nat} {H H1:Heap}:∀ {l:List Nat},N9 fr H H1 l=true→∀ k∈l,∀ b,AB H1 k=some b→I6 fr H H1 (Cr b.cs)=true∧b.ty≠BN
 | [],_,k,h=>by cases h
 | x::r,h,k,hk=>by
  intro b' hb'
  simp only [N9] at h
  split at h
  ·rename_i b hb
   split at h
   ·rename_i hok hro
    rcases List.mem_cons.1 hk with rfl | hk
    ·rw [hb] at hb';injection hb' with hb';subst hb';exact ⟨hok,Pa hro⟩
    ·exact Pz h k hk b' hb'
   ·cases h
  ·rename_i hb
   rcases List.mem_cons.1 hk with rfl | hk
   ·rw [hb] at hb';cases hb'
   ·exact Pz h k hk b' hb'
def MF (H1:Heap):List Nat→List Nat
 | []=>[]
 | k::r=>match AB H1 k with | some _=>k::MF H1 r | none=>MF H1 r
theorem YN {H1:Heap} {k:Nat}:∀ {l:List Nat},k∈l→(AB H1 k).isSome=true→k∈MF H1 l
 | x::r,h,hs=>by
  simp only [MF]
  rcases List.mem_cons.1 h with rfl | h
  ·obtain ⟨b,hb⟩:=Option.isSome_iff_exists.1 hs
   rw [hb];simp
  ·split
   ·exact List.mem_cons_of_mem _ (YN h hs)
   ·exact YN h hs
theorem YO {H1:Heap} {k:Nat}:∀ {l:List Nat},k∈MF H1 l→k∈l
 | x::r,h=>by
  simp only [MF] at h
  split at h
  ·rcases List.mem_cons.1 h with rfl | h
   ·simp
   ·exact List.mem_cons_of_mem _ (YO h)
  ·exact List.mem_cons_of_mem _ (YO h)
def P0 (fr:Nat) (H1:Heap):List Nat:=MF H1 (GN fr H1)
def MG (H1:Heap):List Nat→Heap
 | []=>[]
 | k::r=>(k,AB H1 k)::MG H1 r
theorem lA {H1:Heap} {k:Nat} {y:Option Blk}:∀ {l:List Nat},(k,y)∈MG H1 l→k∈l∧y=AB H1 k
 | [],h=>by cases h
 | x::r,h=>by
  simp only [MG,List.mem_cons,Prod.mk.injEq] at h
  rcases h with ⟨rfl,h2⟩ | h
  ·exact ⟨by simp,h2⟩
  ·obtain ⟨h1,h2⟩:=lA h
   exact ⟨by simp [h1],h2⟩
theorem YP {H1:Heap} {k:Nat}:∀ {l:List Nat},k∈l→(k,AB H1 k)∈MG H1 l
 | x::r,h=>by
  simp only [MG,List.mem_cons]
  rcases List.mem_cons.1 h with rfl | h
  ·exact .inl rfl
  ·exact .inr (YP h)
theorem YQ {k0:Nat}:∀ {l:List Nat},∀ k∈DQ k0 l,k<k0
 | [],k,h=>by cases h
 | x::r,k,h=>by
  simp only [DQ] at h
  split at h
  ·rename_i hb _
   rcases List.mem_cons.1 h with rfl | h
   ·exact A9.1 hb
   ·exact YQ k h
  ·exact YQ k h
def Tg (n:Nat):List AV→Bool
 | []=>true
 | x::r=>match KR n (HA x) with | true=>Tg n r | false=>false
theorem lB {β β':Env} {n:Nat} (he:∀ k,k<n→β' k=β k):∀ {args:List AV} {us:List Value},Tg n args=true→Aq β args us→Aq β' args us
 | [],_,_,h=>h
 | x::r,us,hb,⟨u,us',h1,h2,h3⟩=>by
  simp only [Tg] at hb
  split at hb
  ·rename_i hx
   exact ⟨u,us',YA (fun k hk=>he k (Nz hx k hk)) h1,lB he hb h2,h3⟩
  ·cases hb
def C0 (P:Program) (O:Orc) (fn:Func) (fuel:Nat):ASpec:=fun args H fr path =>
 match fn.body with
 | some c=>match I0 P O none fuel ⟨[.code c],⟨I1 args fn.ntmps,H,fr,path⟩⟩ with
  | some (g,y)=>match MA P fn y,Nat.ble (HD args) fn.ntmps&&(Tg fr args&&(H4 fr H&&(H4 y.s.fr y.s.H&&Nat.ble fr y.s.fr))) with
   | some v,true=>match I6 fr H y.s.H (cat (HA v) (DQ fr g.keys)),N9 fr H y.s.H (cat (DQ fr g.keys) (P0 fr y.s.H)) with
    | true,true=>some ⟨v,MG y.s.H (cat (DQ fr g.keys) (P0 fr y.s.H)),y.s.fr-fr,g.conds,y.s.path⟩
    | _,_=>none
   | _,_=>none
  | none=>none
 | none=>none
theorem ACD {β:Env} {w w':World} {fr fr':Nat} {W:List Nat} {v:AV} {H H1:Heap} {u:Value} {β1:Env} {conds:List (Bool×Bool)} {path:List Bool} (g:Good β H w) (ho:Out (I3 β fr) w W v H1 u w' β1) (hW:∀ k∈W,k<fr)
  (hl:H4 fr' H1=true) (hle:fr≤fr') (ov:I6 fr H H1 (cat (HA v) W)=true) (ob:N9 fr H H1 (cat W (P0 fr H1))=true) (hf:∀ b,fr≤b→b<fr'→β b=none) :
  ∃ β',Eff β fr ⟨v,MG H1 (cat W (P0 fr H1)),fr'-fr,conds,path⟩ w u w' β':=by
 let β':Env:=fun b=>match Nat.ble fr b&&Nat.blt b fr',AB H1 b with
  | true,some _=>β1 b
  | true,none=>none
  | false,_=>β b
 have out:∀ b,¬ (fr≤b∧b<fr')→β' b=β b:=by
  intro b hb
  have:(Nat.ble fr b&&Nat.blt b fr')=false:=by
   cases h:Nat.ble fr b&&Nat.blt b fr' with
   | false=>rfl
   | true =>
    have:=Bool.and_eq_true_iff.1 h
    exact absurd ⟨Nat.le_of_ble_eq_true this.1,A9.1 this.2⟩ hb
  show (match Nat.ble fr b&&Nat.blt b fr',AB H1 b with | true,some _=>β1 b | true,none=>none | false,_=>β b)=β b
  rw [this]
 have inn:∀ b,fr≤b→b<fr'→∀ X,β' b=some X→(AB H1 b).isSome=true∧β1 b=some X:=by
  intro b h1 h2 X hX
  have:(Nat.ble fr b&&Nat.blt b fr')=true:=by rw [Nat.ble_eq_true_of_le h1,A9.2 h2];rfl
  change (match Nat.ble fr b&&Nat.blt b fr',AB H1 b with | true,some _=>β1 b | true,none=>none | false,_=>β b)=some X at hX
  rw [this] at hX
  cases hq:AB H1 b with
  | none=>rw [hq] at hX;cases hX
  | some y=>rw [hq] at hX;exact ⟨rfl,hX⟩
 have hlive:∀ k,(AB H1 k).isSome=true→k<fr':=by
  intro k hk
  obtain ⟨b,hb⟩:=Option.isSome_iff_exists.1 hk
  exact (I4 hl hb).1
 have newr:∀ k,fr≤k→(AB H1 k).isSome=true→EM H1 k=true:=by
  intro k hk hs
  obtain ⟨b,hb⟩:=Option.isSome_iff_exists.1 hs
  exact EN hb (Pz ob k (by rw [CY,List.mem_append];exact .inr (YN (YF hb hk) hs)) b hb).2
 have new1:∀ k,fr≤k→(AB H1 k).isSome=true→β' k=β1 k:=by
  intro k hk hs
  have:(Nat.ble fr k&&Nat.blt k fr')=true:=by rw [Nat.ble_eq_true_of_le hk,A9.2 (hlive k hs)];rfl
  show (match Nat.ble fr k&&Nat.blt k fr',AB H1 k with | true,some _=>β1 k | true,none=>none | false,_=>β k)=β1 k
  rw [this]
  obtain ⟨y,hy⟩:=Option.isSome_iff_exists.1 hs
  rw [hy]
 have old1:∀ k,k<fr→(AB H k).isSome=true→β' k=β1 k:=by
  intro k hk hs
  obtain ⟨b,hb⟩:=Option.isSome_iff_exists.1 hs
  rw [out k (fun q=>by omega)]
  have hq:∃ X,β k=some X:=by
   rcases g.heap k b hb with ⟨B,n,_,_,_,_,_,h,_⟩ | ⟨h,_⟩ | ⟨B,_,_,_,h,_⟩<;>exact ⟨_,h⟩
  obtain ⟨X,hX⟩:=hq
  rw [hX,ho.ext k X (by rw [Ds hk];exact hX)]
 have occ:∀ l,I6 fr H H1 l=true→∀ k∈l,β' k=β1 k:=by
  intro l hl k hk
  rcases YM hl k hk with ⟨h1,h2⟩ | ⟨h1,h2⟩
  ·exact old1 k h1 h2
  ·exact new1 k h1 h2
 have ext0:Env.le β β':=by
  intro b X hb
  rw [out b (fun h=>by rw [hf b h.1 h.2] at hb;cases hb)]
  exact hb
 have hsub:fr+(fr'-fr)=fr':=by omega
 refine ⟨β',ext0,?_,?_,?_,?_,?_,?_,ho.size,ho.os,ho.tape,ho.output⟩
 ·intro b X hX
  by_cases hr:fr≤b∧b<fr'
  ·obtain ⟨hl,h1⟩:=inn b hr.1 hr.2 X hX
   refine .inr ⟨hr.1,by simp only [hsub];exact hr.2,fun B n e=>?_⟩
   subst e
   rcases ho.new _ _ h1 with h | h
   ·rw [N0 hr.1] at h;cases h
   ·rcases h B n rfl with h | ⟨k,m',hk,hk2⟩
    ·exact .inl h
    ·have hk0:=hW k hk
     have hkW:k∈cat W (P0 fr H1):=by rw [CY,List.mem_append];exact .inl hk
     cases hbb:AB H1 k with
     | some bb =>
      have:=ho.good.inj _ _ _ _ _ (EN hbb (Pz ob k hkW bb hbb).2) hl (ho.ext k _ hk2) h1
      omega
     | none =>
      rw [Ds hk0] at hk2
      exact .inr ⟨k,m',by rw [← hbb];exact YP hkW,hk2⟩
  ·rw [out b hr] at hX;exact .inl hX
 ·intro b B n hX
  by_cases hr:fr≤b∧b<fr'
  ·exact ho.good.lt _ _ _ (inn b hr.1 hr.2 _ hX).2
  ·rw [out b hr] at hX
   exact Nat.lt_of_lt_of_le (g.lt _ _ _ hX) ho.size
 ·intro b b' B n n' h1 h2 h3 h4 h5 h6
  simp only [hsub] at h3 h4
  obtain ⟨l1,q1⟩:=inn b h1 h3 _ h5
  obtain ⟨l2,q2⟩:=inn b' h2 h4 _ h6
  exact ho.good.inj _ _ _ _ _ (newr _ h1 l1) l2 q1 q2
 ·exact YA (fun k hk=>occ _ ov k (by rw [CY,List.mem_append];exact .inl hk)) ho.val
 ·intro k y hk
  obtain ⟨hj,e2⟩:=lA hk
  have hbb:AB H1 k=some y:=e2.symm
  obtain ⟨hok,_⟩:=Pz ob k hj y hbb
  have hkk:β' k=β1 k:=by
   rw [CY,List.mem_append] at hj
   rcases hj with hj | hj
   ·exact occ _ ov k (by rw [CY,List.mem_append];exact .inr hj)
   ·exact new1 k (YE (YO hj)) (by rw [hbb];rfl)
  rcases ho.good.heap k _ hbb with ⟨B,n,l,t,pre,ty,fz,q1,q2,q3⟩ | ⟨q1,q2,q3⟩ | ⟨B,l,es,q,q1,q2,q3,q4⟩
  ·exact .inl ⟨B,n,l,t,pre,ty,fz,by rw [hkk];exact q1,GM (fun k hk=>occ _ hok k hk) q2,q3⟩
  ·exact .inr (.inl ⟨by rw [hkk];exact q1,q2,GM (fun k hk=>occ _ hok k hk) q3⟩)
  ·exact .inr (.inr ⟨B,l,es,q,by rw [hkk];exact q1,q2,GM (fun k hk=>occ _ hok k hk) q3,q4⟩)
 ·intro B hB hno
  refine ho.frame B hB fun k m hk hk2=>?_
  have hk0:=hW k hk
  rw [Ds hk0] at hk2
  exact hno k _ m (YP (by rw [CY,List.mem_append];exact .inl hk)) hk2
section
variable {P:Program} {O:Orc} (hO:OrcOk P O) (hm:P.follows .mixedOrders=true) {f:FuncId} {fn:Func}
include hO hm in
theorem DG (hfn:P.funcs[f]? = some fn) (hb:fn.body.isSome=true) (hname:(fn.name=="runtime.NumGoroutine")=false) (fuel:Nat):A6 P f (C0 P O fn fuel):=by
 intro args H fr path r β us w hs hc ha hg hf
 unfold C0 at hs
 split at hs
 case h_2=>cases hs
 rename_i c hbody
 split at hs
 case h_2=>cases hs
 rename_i g y hrun
 split at hs
 case h_2=>cases hs
 rename_i v hv hchk
 split at hs
 case h_2=>cases hs
 rename_i hov hob
 injection hs with hs
 subst hs
 simp only [Bool.and_eq_true] at hchk
 obtain ⟨c1,c2,c3,c4,c5⟩:=hchk
 have hle:=Nat.le_of_ble_eq_true c5
 have hlen:=Nat.le_of_ble_eq_true c1
 rw [KO] at hlen
 have hg0:Good (I3 β fr) H w:=by
  refine ⟨fun b blk hb=>?_,fun b b' B n n' h1 h2 h3 h4=>hg.inj b b' B n n' h1 h2 (L' h3).1 (L' h4).1,fun b B n h=>hg.lt b B n (L' h).1⟩
  obtain ⟨e1,e2⟩:=I4 c3 hb
  rcases hg.heap b blk hb with ⟨B,n,l,t,pre,ty,fz,q1,q2,q3⟩ | ⟨q1,q2,q3⟩ | ⟨B,l,es,q,q1,q2,q3,q4⟩
  ·exact .inl ⟨B,n,l,t,pre,ty,fz,by rw [Ds e1];exact q1,GM (fun k hk=>Ds (e2 k hk)) q2,q3⟩
  ·exact .inr (.inl ⟨by rw [Ds e1];exact q1,q2,GM (fun k hk=>Ds (e2 k hk)) q3⟩)
  ·exact .inr (.inr ⟨B,l,es,q,by rw [Ds e1];exact q1,q2,GM (fun k hk=>Ds (e2 k hk)) q3,q4⟩)
 have hwf:Bp fn.ntmps (⟨I1 args fn.ntmps,H,fr,path⟩:St):=by
  refine ⟨fun b hb=>?_,?_⟩
  ·cases hq:AB H b with
   | none=>rfl
   | some blk=>have:=(I4 c3 hq).1;simp only at hb;omega
  ·simp only [I1,TU,KO,List.length_append,X5];omega
 refine Ps hfn hb hname (Calls.mono (X7 (R:=A7 (I3 β fr) w (DQ fr g.keys) v y.s.H) (fr:=fr) (path:=path) hfn hbody hlen ?_ (lB (fun k hk=>Ds hk) c2 ha) hg0 (fun b hb=>N0 hb)) ?_)
 ·refine ASafe.old (W':=DQ fr g.keys) (k0:=fr) (fun b hb=>N0 hb) (fun k hk=>by cases hk) ?_
  refine Aj (W:=DQ fr g.keys) hO hm (fuel:=fuel) (k0:=fr) (fg:=none) (stop:=none) (ks:=DQ fr g.keys) (y:=y) (by unfold Aa;rw [hrun]) hc hwf (fun b hb=>N0 hb) (fun k hk=>hk) fun _=>?_
  exact j8 hfn hv fun _ _ h=>h
 ·rintro e w' ⟨u,β1,rfl,ho⟩
  obtain ⟨β',he⟩:=ACD (conds:=g.conds) (path:=y.s.path) hg ho YQ c4 hle hov hob fun b h1 h2=>hf b h1 (by show b<fr+(y.s.fr-fr);omega)
  exact ⟨u,β',rfl,he⟩
end
end Go.Proofs.YtojnabmgolpodaaGreat.Ex
namespace Go.Proofs.YtojnabmgolpodaaGreat.Ex
open Go.RowKit (Below)
section
variable {P:Program} {f:FuncId} {fn:Func} {R:Ending→World→Prop} {a:Act} {w:World}
theorem Safe.leaves (hfn:P.funcs[f]? = some fn) {todo:List Item} (ht:L_ todo=true) (h:Leaves P fn a.tmps R a.defers .returning w):Safe P f R todo a w:=by
 intro b cs hb hk
 have key:∀ td,∃ e w' fr',R e w'∧Comes P (lone { b.at a td with mode:=.returning } cs w) (lone fr' cs w') e∧fr'.fn=f∧fr'.leaving P w' e:=by
  intro td
  obtain ⟨e,w',fr',q1,q2,q3,q4⟩:=leaves_steps a.defers .returning w { b.at a td with mode:=.returning } cs rfl rfl rfl (by show P.funcs[b.fn]? = some fn;rw [hb];exact hfn) hk h
  exact ⟨e,w',fr',q1,q2,q3.trans hb,q4⟩
 unfold L_ at ht
 split at ht
 ·obtain ⟨e,w',fr',q1,q2,q3,q4⟩:=key []
  exact ⟨e,w',fr',q1,.of_steps (.one step_end) q2,q3,q4⟩
 ·rename_i k
  obtain ⟨e,w',fr',q1,q2,q3,q4⟩:=key (.code .ret::k)
  exact ⟨e,w',fr',q1,.of_steps (.one step_ret) q2,q3,q4⟩
 ·cases ht
theorem Safe.of_wpP (hfn:P.funcs[f]? = some fn) {c:Code} {k:List Item} (h:c.wp P (fun e a' w'=>(e=.normal∧Safe P f R k a' w')∨∃ chain,e=.panic chain∧Leaves P fn a'.tmps R a'.defers (.panicking chain) w') a w):Safe P f R (.code c::k) a w:=by
 intro b cs hb hk
 obtain ⟨e,a',w',hq,harr⟩:=h b k cs
 rcases hq with ⟨he,hs⟩ | ⟨chain,he,hl⟩
 ·subst he
  obtain ⟨e,w'',fr,h1,h2,h3,h4⟩:=hs b cs hb hk
  exact ⟨e,w'',fr,h1,.of_steps harr h2,h3,h4⟩
 ·subst he
  obtain ⟨todo,hs⟩:=harr
  obtain ⟨e,w'',fr',q1,q2,q3,q4⟩:=leaves_steps a'.defers (.panicking chain) w' { b.at a' todo with mode:=.panicking chain } cs rfl rfl rfl (by show P.funcs[b.fn]? = some fn;rw [hb];exact hfn) hk hl
  exact ⟨e,w'',fr',q1,.of_steps hs q2,q3.trans hb,q4⟩
end
def P1 (P:Program) (O:Orc):Nat→ASt→Option (Log×ASt)
 | 0,x=>some (⟨[],[]⟩,x)
 | n+1,x=>match Nv P O x with
  | some (g,y)=>match P1 P O n y with
   | some (g',z)=>some (⟨g.conds++g'.conds,cat g.keys g'.keys⟩,z)
   | none=>none
  | none=>none
section
variable {P:Program} {O:Orc} (hO:OrcOk P O) (hm:P.follows .mixedOrders=true) {f:FuncId} {β0:Env} {w0:World} {R:Ending→World→Prop} {n:Fz}
include hO hm
theorem lC:∀ {m:Nat} {W:List Nat} {x y:ASt} {g:Log},P1 P O m x=some (g,y)→AP g.conds→Bp n x.s→(Bp n y.s→ASafe P f β0 w0 R n (W++g.keys) y)→ASafe P f β0 w0 R n W x
 | 0,W,x,y,g,h,hc,hwf,hs=>by
  simp only [P1] at h
  injection h with h;injection h with h1 h2;subst h1;subst h2
  have:=hs hwf
  simpa using this
 | m+1,W,x,y,g,h,hc,hwf,hs=>by
  simp only [P1] at h
  split at h
  ·rename_i g1 y1 hst
   split at h
   ·rename_i g2 z hr
    injection h with h;injection h with h1 h2;subst h1;subst h2
    obtain ⟨c1,c2⟩:=Bz.1 hc
    refine X2 hO hm hst c1 hwf (lC hr c2 (X3 hst hwf) fun hw=>?_)
    have:=hs hw
    simpa [CY] using this
   ·cases h
  ·cases h
end
def CZ (P:Program) (O:Orc) (m k0:Nat) (x:ASt):Option (List (Bool×Bool)×List Nat×ASt) :=
 match P1 P O m x with
 | some (g,y)=>some (g.conds,DQ k0 g.keys,y)
 | none=>none
theorem HG {P:Program} {O:Orc} {f:FuncId} {β0:Env} {w0:World} {R:Ending→World→Prop} {n:Fz} {W:List Nat} (hO:OrcOk P O) (hm:P.follows .mixedOrders=true) {m k0:Nat} {x y:ASt} {conds:List (Bool×Bool)} {ks:List Nat}
  (h:CZ P O m k0 x=some (conds,ks,y)) (hc:AP conds) (hwf:Bp n x.s) (h0:∀ b,k0≤b→β0 b=none) (hks:∀ k∈ks,k∈W) (hs:Bp n y.s→ASafe P f β0 w0 R n W y):ASafe P f β0 w0 R n W x:=by
 unfold CZ at h
 split at h
 case h_2=>cases h
 rename_i g y1 hrun
 injection h with h;injection h with h1 h;injection h with h2 h3
 subst h1;subst h3
 refine lC hO hm hrun hc hwf fun hw=>ASafe.old h0 (fun k hk hlt=>?_) (hs hw)
 rcases List.mem_append.1 hk with hk | hk
 ·exact hk
 ·exact hks k (by rw [← h2];exact YC hk hlt)
section
variable {P:Program} {O:Orc} (hO:OrcOk P O) {ops:Array Oper} {β0:Env} {w0:World} {W:List Nat} {n:Fz}
include hO
theorem P3 {Q:Exit→Act→World→Prop} {tl:List Nat}:∀ (pre:List Oper) (i:Nat) (s s':St) (recs:List Rec) (β:Env) (a:Act) (w:World),(∀ j o,pre[j]? = some o→ops[i+j]? = some o)→DF P O ops pre i s=some (recs,s')→AP (HC recs) →
  Inv β0 w0 W n β (Al s.T) s.H a w→(∀ b,s.fr≤b→β b=none)→(∀ b,s.fr≤b→AB s.H b=none)→s.T.length=n.n→(∀ k∈Ea recs,k∈W) →
  (∀ β a w,Inv β0 w0 W n β (Al s'.T) s'.H a w→(∀ b,s'.fr≤b→β b=none)→wpOps P ops Q tl a w)→wpOps P ops Q (List.range' i pre.length++tl) a w
 | [],i,s,s',recs,β,a,w,_,h,_,hi,hf,_,_,_,hQ=>by
  simp only [DF,Option.some.injEq,Prod.mk.injEq] at h
  obtain ⟨rfl,rfl⟩:=h
  exact hQ β a w hi hf
 | o::rest,i,s,s',recs,β,a,w,hpre,h,hc,hi,hf,hfH,hn,hW,hQ=>by
  simp only [DF] at h
  split at h
  ·rename_i e he
   split at h
   ·rename_i hd
    split at h
    ·rename_i recs' s'' hr
     injection h with h;injection h with h1 h2;subst h1;subst h2
     obtain ⟨c1,c2⟩:=Bz.1 hc
     have ho:ops[i]? = some o:=hpre 0 o rfl
     have hu:=Pp he (fun b h1 _=>hfH b h1)
     rw [List.length_cons,List.range'_succ,List.cons_append,wpOps_cons]
     refine Xq hO hi.tmp hi.good he c1 (fun b h1 _=>hf b h1) (fun b h1 _=>hfH b h1) ho fun u w' β' hE hG=>?_
     have hi':=hi.step hE hG (fun k y hk=>hW k (by simp only [Ea,CY,List.mem_append];exact .inl (L6.2 ⟨y,hk⟩))) (d:=o.dst) (fun t ht=>by
      rw [ht] at hd
      have:=Po hd
      omega)
     refine P3 rest (i+1) _ _ recs' β' _ w' (fun j o' hj=>by rw [show i+1+j=i+(j+1) by omega];exact hpre (j+1) o' hj) hr c2 (hi'.congr (fun t=>(Xr hd t).symm) (fun _=>rfl)) ?_ (TN hu hfH) (by rw [← hn];exact TM) (fun k hk=>hW k (by simp only [Ea,CY,List.mem_append];exact .inr hk)) hQ
     intro b hb
     cases hβ:β' b with
     | none=>rfl
     | some X =>
      simp only at hb
      rcases hE.new b X hβ with h | ⟨_,h,_⟩
      ·rw [hf b (by omega)] at h;cases h
      ·omega
    ·cases h
   ·cases h
  ·cases h
end
def ACE (P:Program) (f:FuncId) (args0:List AV) (H0:Heap) (k0:Nat) (c:List PanicEntry):Prop :=
 ∀ (β:Env) (us:List Value) (w:World),Aq β args0 us→Good β H0 w→(∀ b,k0≤b→β b=none)→Calls P f ⟨us⟩ w fun e w'=>e=.panicked c∧Below w.heap.size w w'
theorem lD {P:Program} {ops:Array Oper} {Q:Exit→Act→World→Prop} {i:Nat} {tl:List Nat} {a:Act} {w:World} {o:Oper} {c:Call} {g:FuncId} {fn:Func} {chain:List PanicEntry} (ho:ops[i]? = some o) (hop:o.op=.call c) (hg:o.guard=none) (hcal:c.callee=.value (.func g))
  (hfn:P.funcs[g]? = some fn) (hb:fn.body.isSome=true) (hname:(fn.name=="runtime.NumGoroutine")=false) (h:Calls P g (c.args.map a.eval) w fun e w'=>e=.panicked chain∧Q (.panic chain) a w'):wpOps P ops Q (i::tl) a w:=by
 simp only [wpOps,ho]
 have hw:Region.wanted o (yielded ops a.tmps)=true:=by unfold Region.wanted;rw [hg]
 rw [if_pos hw]
 refine .inl ?_
 have h1:fn.name≠"runtime.NumGoroutine":=by simpa using hname
 have h2:¬ fn.body=none:=by cases hq:fn.body<;>simp [hq] at hb ⊢
 have e:(execOp a.eval o).run P w=.ok (.enter g (c.args.map a.eval)) w:=by
  simp [execOp,hop,resolve,hcal,Deferred.ofValue,invoke,callFunc,hfn,h1,h2,Act.eval]
 unfold Oper.wp
 rw [e,Oper.upon_enter]
 refine h.mono ?_
 rintro e w' ⟨rfl,hq⟩
 exact hq
theorem lE {P:Program} {ops:Array Oper} {Q:Exit→Act→World→Prop} {i:Nat} {a:Act} {w:World} {o:Oper} {c:Call} {t:Tmp} {F:FuncId} {ps:Array Value} (ho:ops[i]? = some o) (hop:o.op=.defer c) (hg:o.guard=none) (hd:o.dst=none)
  (hcal:c.callee=.value (.tmp t)) (hargs:c.args=#[]) (ht:a.tmps.getD t undef=.func (.func F) #[] ps) (h:Q .normal { a with defers:={ target:=.fn (.func F) ps,args:=#[] }::a.defers } w):wpOps P ops Q [i] a w:=by
 simp only [wpOps,ho]
 have hw:Region.wanted o (yielded ops a.tmps)=true:=by unfold Region.wanted;rw [hg]
 rw [if_pos hw]
 refine .inl ?_
 have e:(execOp a.eval o).run P w=.ok (.defer { target:=.fn (.func F) ps,args:=#[] }) w:=by
  simp [execOp,hop,resolve,hcal,hargs,Deferred.ofValue,Act.eval,ht]
 unfold Oper.wp
 rw [e,Oper.upon_defer,hd]
 exact h
theorem ACF {P:Program} {ops:Array Oper} {Q:Exit→Act→World→Prop} {a:Act} {w:World} {o0 o1:Oper} {t:Tmp} {T:TypeId} {v:Value} {k:IntKind} (h0:ops[0]? = some o0) (h1:ops[1]? = some o1) (hop0:o0.op=.makeInterface T (.const v)) (hg0:o0.guard=none)
  (hd0:o0.dst=some t) (hop1:o1.op=.panic (.tmp t)) (hg1:o1.guard=none) (hu:P.underlying T=some (.int k)) (ht:t<a.tmps.size) (h:∀ a',a'.defers=a.defers→Q (.panic [{ v:=.iface T v,recovered:=false }]) a' w):wpOps P ops Q [0,1] a w:=by
 have w0:Region.wanted o0 (yielded ops a.tmps)=true:=by unfold Region.wanted;rw [hg0]
 have w1:Region.wanted o1 (yielded ops (a.put o0.dst (.iface T v)).tmps)=true:=by unfold Region.wanted;rw [hg1]
 have e0:(execOp a.eval o0).run P w=.ok (.value (.iface T v)) w:=by
  simp [execOp,hop0,Instr.makeInterface,run_underlying hu,Act.eval]
 have e1:(execOp (a.put o0.dst (.iface T v)).eval o1).run P w=.halt (.panic (.iface T v)) w:=by
  simp [execOp,hop1,hd0,Act.put,Act.eval,Array.getD_eq_getD_getElem?,ht,Instr.panic,goPanic]
 simp only [wpOps,h0,h1]
 rw [if_pos w0]
 refine .inl ?_
 show o0.upon P a _ Q ((execOp a.eval o0).run P w)
 rw [e0,Oper.upon_value,if_pos w1]
 refine .inl ?_
 show o1.upon P (a.put o0.dst (.iface T v)) _ Q ((execOp (a.put o0.dst (.iface T v)).eval o1).run P w)
 rw [e1,Oper.upon_panic]
 exact h _ (by rw [hd0];rfl)
def Cu:List Item→Array Oper
 | .code (.region _ ops _)::_=>ops
 | _=>#[]
def MH:List Item→Nat
 | .code (.region id _ _)::_=>id
 | _=>0
def I7:List Item→List Item
 | _::k=>k
 | []=>[]
theorem Inv.root {β0 β:Env} {w0 w:World} {W:List Nat} {n:Fz} {τ:Nat→AV} {H:Heap} {a:Act} (i:Inv β0 w0 W n β τ H a w):Inv β w [] n β τ H a w where
 tmp:=i.tmp
 good:=i.good
 sz:=i.sz
 dfr:=i.dfr
 new:=fun _ _ h=>.inl h
 ext:=Env.le_refl β
 frame:=fun _ _ _=>rfl
 size:=Nat.le_refl _
 os:=rfl
 tape:=rfl
 output:=rfl
theorem Inv.push {β0 β:Env} {w0 w:World} {W:List Nat} {k:Nat} {τ:Nat→AV} {H:Heap} {a:Act} {d:Deferred} (i:Inv β0 w0 W ⟨k,[]⟩ β τ H a w):Inv β0 w0 W ⟨k,[d]⟩ β τ H { a with defers:=d::a.defers } w :=
 { i with sz:=i.sz,dfr:=by rw [i.dfr] }
theorem lF {β:Env} {a b:Nat} {ps:List Value} (h:D6 β [(a,0),(b,0)] ps):∃ A m B n,β a=some (.at_ A m)∧β b=some (.at_ B n)∧ps=[.pointer (some ⟨A,m.2+0,none⟩),.pointer (some ⟨B,n.2+0,none⟩)]:=by
 obtain ⟨A,m,l,h1,⟨B,n,l',h2,h3,h4⟩,h5⟩:=h
 simp only [D6] at h3
 subst h3;subst h4;subst h5
 exact ⟨A,m,B,n,h1,h2,rfl⟩
theorem YR {P:Program} {O:Orc} {f:FuncId} {fn:Func} {β0:Env} {w0:World} {R:Ending→World→Prop} {n:Fz} {W:List Nat} (hO:OrcOk P O) (hm:P.follows .mixedOrders=true) (hfn:P.funcs[f]? = some fn) {fuel k0:Nat} {ks ks':List Nat} {x:ASt} {conds:List (Bool×Bool)} {v:AV} {H1:Heap}
  (h:AQ P O fn fuel k0 ks x=some (conds,ks',v,H1)) (hc:AP conds) (hwf:Bp n x.s) (h0:∀ b,k0≤b→β0 b=none) (hks:∀ k∈ks',k∈W) {F:FuncId} {fnF:Func} {p q:Value} (hD:n.D=[{ target:=.fn (.func F) #[p,q],args:=#[] }])
  (hF:P.funcs[F]? = some fnF) (hb:fnF.body.isSome=true) (hname:(fnF.name=="runtime.NumGoroutine")=false) (idle:∀ w,CallsD P F #[p,q] .returning w fun e u' w'=>e=.returned (.tuple #[])∧u'=.returning∧w'=w)
  (hR:∀ e w',A7 β0 w0 W v H1 e w'→R e w'):ASafe P f β0 w0 R n W x:=by
 unfold AQ at h
 split at h
 case h_2=>cases h
 rename_i g y hrun
 split at h
 case h_2=>cases h
 rename_i v' hv
 injection h with h;injection h with h1 h;injection h with h2 h;injection h with h3 h4
 subst h1;subst h3;subst h4
 refine Aj (W:=W) hO hm (fuel:=fuel) (k0:=k0) (fg:=none) (stop:=none) (ks:=ks') (y:=y) (by unfold Aa;rw [hrun];simp only;rw [h2]) hc hwf h0 hks fun _=>?_
 intro β a w hi hf
 unfold MA at hv
 split at hv
 case h_2=>cases hv
 rename_i l e1 e2
 injection hv with hv;subst hv
 obtain ⟨u,hu,hr⟩:=jS hi.tmp hi.good e2
 have q1:fnF.name≠"runtime.NumGoroutine":=by simpa using hname
 have q2:¬ fnF.body=none:=by cases hq:fnF.body<;>simp [hq] at hb ⊢
 refine Safe.leaves hfn e1 ?_
 rw [hi.dfr,hD]
 refine leaves_cons (f:=F) (args:=#[p,q]) (by simp) (by simp [invoke,callFunc,hF,q1,q2]) ?_
 refine (idle w).mono ?_
 rintro e u' w' ⟨rfl,rfl,rfl⟩
 exact ⟨u,hu,hR _ _ ⟨u,β,rfl,hr,hi.good.restrict ks,hi.new,hi.ext,hi.frame,hi.size,hi.os,hi.tape,hi.output⟩⟩
end Go.Proofs.YtojnabmgolpodaaGreat.Ex
namespace Go.Proofs.YtojnabmgolpodaaGreat
open Ex
theorem AE:Tryz.prog.follows .mixedOrders=true:=by kernel_rfl
def S0:List (FuncId×ASpec):=[(133,subSpec),(128,addSpec)]
def K0:List (TypeId×List (Option IntKind)):=[(30,List.replicate 6 (some .u64)),(32,List.replicate 12 (some .u64)++[none])]
set_option maxRecDepth 100000
set_option maxHeartbeats 4000000
theorem AZ:I2 Tryz.prog K0:=⟨⟨by kernel_rfl,by kernel_rfl,by kernel_rfl⟩,⟨by kernel_rfl,by kernel_rfl,by kernel_rfl⟩,trivial⟩
theorem KU:AM Tryz.prog S0:=⟨AB2 Tryz.func133 (by kernel_rfl) (by kernel_rfl) (by kernel_rfl) (by kernel_rfl),AB0 Tryz.func128 (by kernel_rfl) (by kernel_rfl) (by kernel_rfl) (by kernel_rfl),trivial⟩
theorem MI {β:Env} {A:AV} {u:Value} {c:Bool} {k:IntKind} {i:Int} (h:A' (some A)=some (c,k,i)) (hr:AG β A u):AG β (.val false [.v (.int k i)]) u∧has k i:=by
 obtain ⟨rfl,h2⟩:=Bt (β:=β) (u:=u) (fun B hB=>by injection hB with hB;subst hB;exact hr) h
 exact ⟨Am ⟨rfl,rfl,h2⟩,h2⟩
theorem P4 {β:Env} {k x:Nat} (h:x<2^(64*k)):AH β [.num k x] (words k x):=⟨_,[],⟨h,rfl⟩,rfl,by simp⟩
theorem N_ {β:Env} {k x:Nat} {a:List Ch} {u:Value} (h:B8 k a=some x) (hr:AG β (.val true a) u) :
  AG β (.val true [.num k x]) u∧AG β (.val true (Iq k x)) u∧x<2^(64*k):=by
 obtain ⟨l,h1,rfl⟩:=hr
 obtain ⟨h2,h3⟩:=EO h h1
 subst h2
 exact ⟨⟨_,P4 h3,rfl⟩,⟨_,AAr k x,rfl⟩,h3⟩
theorem ACG {β:Env} {k x:Nat} {u:Value} (hx:x<2^(64*k)) (hr:AG β (.val true (Iq k x)) u):AG β (.val true [.num k x]) u:=by
 obtain ⟨l,h1,rfl⟩:=hr
 have:l=words k x:=by
  have gen:∀ (is:List Nat) (l:List Value),AH β (is.map fun i=>Ch.v (.int .u64 (AF x i))) l→l=is.map fun i=>Value.int .u64 (AF x i):=by
   intro is
   induction is with
   | nil=>intro l h;exact h
   | cons i is ih =>
    intro l ⟨l1,l2,q1,q2,q3⟩
    rw [q3,q1.1,ih l2 q2];rfl
  exact gen _ _ h1
 subst this
 exact ⟨_,P4 hx,rfl⟩
def H6 (x y:Int):Int:=x*y / 18446744073709551616
def Ec (x y:Int):Int:=x*y % 18446744073709551616
def MJ (x:Int):Int:=bits .and .u64 x 4294967295
def Fv (x:Int):Int:=Int.fdiv x (2^32)
def mW (x:Int):Int:=IntKind.u64.wrap x
def Th (x y:Int):Int:=mW (MJ x*MJ y)
def mt (x y:Int):Int:=mW (mW (Fv x*MJ y)+Fv (Th x y))
def P6 (x y:Int):Int:=mW (MJ (mt x y)+mW (MJ x*Fv y))
theorem ACH (x y:Int):AX Tryz.prog (AJ S0 K0) Tryz.f138 [.val false [.v (.int .u64 x)],.val false [.v (.int .u64 y)]] [] 300 =
 some ([(decide (0≤(32:Int)∧0≤x),true),(decide (0≤(32:Int)∧0≤y),true),(decide (0≤(32:Int)∧0≤Th x y),true),(decide (0≤(32:Int)∧0≤mt x y),true),(decide (0≤(32:Int)∧0≤P6 x y),true)],
  .tup [(false,[.v (.int .u64 (mW (mW (mW (Fv x*Fv y)+Fv (mt x y))+Fv (P6 x y))))]),(false,[.v (.int .u64 (mW (x*y)))])]):=by kernel_rfl
theorem P7 {x:Int} (h0:0≤x) (h1:x<18446744073709551616):MJ x=x % 4294967296:=by
 obtain ⟨X,rfl⟩:=Int.eq_ofNat_of_zero_le h0
 have h:=(bits_nat .u64 64 (by decide) (fun n h0 h1=>by rw [IntKind.wrap_u64];omega) X 4294967295 (by omega) (by decide)).1
 show bits .and .u64 (X:Int) ((4294967295:Nat):Int)=_
 rw [h]
 have e4:(4294967295:Nat)=2^32-1:=by decide
 rw [e4,Nat.and_two_pow_sub_one_eq_mod]
 omega
theorem ACI (x:Int):Fv x=x / 4294967296:=by
 unfold Fv
 rw [Int.fdiv_eq_ediv_of_nonneg _ (by decide)]
 rfl
theorem Dt (x:Int):mW x=x % 18446744073709551616:=IntKind.wrap_u64 x
theorem ACJ {x y:Int} (hx:0≤x∧x<18446744073709551616) (hy:0≤y∧y<18446744073709551616) :
  mW (mW (mW (Fv x*Fv y)+Fv (mt x y))+Fv (P6 x y))=H6 x y∧mW (x*y)=Ec x y∧0≤Th x y∧0≤mt x y∧0≤P6 x y:=by
 have n0:∀ z,0≤mW z:=fun z=>by rw [Dt];omega
 refine ⟨?_,Dt _,n0 _,n0 _,n0 _⟩
 have hw:∀ z,0≤mW z∧mW z<18446744073709551616:=fun z=>by rw [Dt];omega
 have lt:=P7 (show 0≤mt x y from (hw _).1) (show mt x y<_ from (hw _).2)
 unfold H6 P6
 rw [lt,P7 hx.1 hx.2]
 clear lt
 unfold mt Th
 rw [P7 hx.1 hx.2,P7 hy.1 hy.2]
 simp only [ACI,Dt]
 obtain ⟨a,ha⟩:∃ a,a=x / 4294967296:=⟨_,rfl⟩
 obtain ⟨b,hb⟩:∃ b,b=x % 4294967296:=⟨_,rfl⟩
 obtain ⟨c,hc⟩:∃ c,c=y / 4294967296:=⟨_,rfl⟩
 obtain ⟨d,hd⟩:∃ d,d=y % 4294967296:=⟨_,rfl⟩
 have a1:0≤a∧a≤4294967295:=by omega
 have b1:0≤b∧b≤4294967295:=by omega
 have c1:0≤c∧c≤4294967295:=by omega
 have d1:0≤d∧d≤4294967295:=by omega
 rw [← ha,← hb,← hc,← hd]
 have exy:x*y=(a*c)*18446744073709551616+(a*d+b*c)*4294967296+b*d:=by
  have e1:x=a*4294967296+b:=by omega
  have e2:y=c*4294967296+d:=by omega
  rw [e1,e2]
  simp only [Int.add_mul,Int.mul_add]
  have q1:a*4294967296*(c*4294967296)=a*c*18446744073709551616:=by
   rw [Int.mul_assoc,Int.mul_left_comm 4294967296 c,← Int.mul_assoc];omega
  have q2:a*4294967296*d=a*d*4294967296:=Int.mul_right_comm _ _ _
  have q3:b*(c*4294967296)=b*c*4294967296:=(Int.mul_assoc _ _ _).symm
  omega
 rw [exy]
 have pb:∀ {u v:Int},0≤u∧u≤4294967295→0≤v∧v≤4294967295→0≤u*v∧u*v≤18446744065119617025:=by
  intro u v hu hv
  refine ⟨Int.mul_nonneg hu.1 hv.1,?_⟩
  have:=Int.mul_le_mul hu.2 hv.2 hv.1 (by omega)
  omega
 have p1:=pb a1 c1
 have p2:=pb a1 d1
 have p3:=pb b1 c1
 have p4:=pb b1 d1
 generalize a*c=AC at *
 generalize a*d=AD at *
 generalize b*c=BC at *
 generalize b*d=BD at *
 clear ha hb hc hd exy a1 b1 c1 d1 pb hx hy n0 hw
 omega
def YS:List AV→Option AV
 | [A,B]=>match A' (some A),A' (some B) with
  | some (_,.u64,x),some (_,.u64,y)=>some (.tup [(false,[.v (.int .u64 (H6 x y))]),(false,[.v (.int .u64 (Ec x y))])])
  | _,_=>none
 | _=>none
theorem ACK:∀ args v,YS args=some v→AW Tryz.prog 138 args v:=by
 intro args v h us w ha
 unfold YS at h
 split at h
 case h_2=>cases h
 rename_i A B
 split at h
 case h_2=>cases h
 rename_i c1 x c2 y hx hy
 injection h with h;subst h
 obtain ⟨u1,us1,r1,ha,rfl⟩:=ha
 obtain ⟨u2,us2,r2,ha,rfl⟩:=ha
 simp only [Aq] at ha
 subst ha
 obtain ⟨q1,h1⟩:=MI hx r1
 obtain ⟨q2,h2⟩:=MI hy r2
 have b1:=C' h1
 have b2:=C' h2
 obtain ⟨m1,m2,m3,m4,m5⟩:=ACJ b1 b2
 have:=Ac (AN KU AZ) AE Tryz.func138 (ACH x y) (by simp [AP,b1.1,b2.1,m3,m4,m5]) rfl _ w ⟨u1,_,q1,⟨u2,_,q2,rfl,rfl⟩,rfl⟩
 rw [m1,m2] at this
 exact this
def Pw:List Ch:=[.n .u64 0xb9feffffffffaaab,.n .u64 0x1eabfffeb153ffff,.n .u64 0x6730d2a0f6b0f624,.n .u64 0x64774b84f38512bf,.n .u64 0x4b1ba7b6434bacd7,.n .u64 0x1a0111ea397fe69a]
theorem ACL:AX Tryz.prog (AJ S0 K0) Tryz.f132 [] [] 100=some ([],.val true Pw):=by kernel_rfl
theorem ACM:AW Tryz.prog 132 [] (.val true Pw):=Ac (AN KU AZ) AE Tryz.func132 ACL trivial rfl
def lG:List AV→Option AV | []=>some (.val true Pw) | _=>none
def S1:List (FuncId×ASpec):=(132,As lG)::(138,As YS)::S0
theorem YT:AM Tryz.prog S1:=⟨Av Tryz.func132 (by kernel_rfl) (by kernel_rfl) (fun args v h=>by
 unfold lG at h
 split at h
 ·injection h with h;subst h;exact ACM
 ·cases h),Av Tryz.func138 (by kernel_rfl) (by kernel_rfl) ACK,KU⟩
end Go.Proofs.YtojnabmgolpodaaGreat
namespace Go.Proofs.YtojnabmgolpodaaGreat
open Ex
set_option maxRecDepth 100000
set_option maxHeartbeats 4000000
def pN:Nat:=0x1a0111ea397fe69a4b1ba7b6434bacd764774b84f38512bf6730d2a0f6b0f6241eabfffeb153ffffb9feffffffffaaab
def RR:Nat:=39402006196394479212279040100143613805079739270465446667948293404245721771497210611414266254884915640806627990306816
theorem Dd:RR=2^(64*6):=by kernel_rfl
theorem ACN:2^(64*6)=2^64*(2^64*(2^64*(2^64*(2^64*2^64)))):=by kernel_rfl
theorem KW (x:Nat):(x:Int)=AF x 0+18446744073709551616*((x / 2^64:Nat):Int):=by
 simp only [AF,Nat.mul_zero,Nat.pow_zero,Nat.div_one];omega
theorem BF (x i:Nat):0≤AF x i∧AF x i<18446744073709551616:=C' (SI x i)
theorem lH {x:Nat} (h:x<18446744073709551616):AF x 0=x:=by
 simp only [AF,Nat.mul_zero,Nat.pow_zero,Nat.div_one];omega
def EP (a0 a1 a2 a3 a4 a5:Int):Int:=a0+18446744073709551616*(a1+18446744073709551616*(a2+18446744073709551616*(a3+18446744073709551616*(a4+18446744073709551616*a5))))
theorem MK {x:Nat} (h:x<2^(64*6)):(x:Int)=EP (AF x 0) (AF x 1) (AF x 2) (AF x 3) (AF x 4) (AF x 5):=by
 rw [ACN] at h
 have s0:=KW x
 have s1:=KW (x / 2^64)
 have s2:=KW (x / 2^64 / 2^64)
 have s3:=KW (x / 2^64 / 2^64 / 2^64)
 have s4:=KW (x / 2^64 / 2^64 / 2^64 / 2^64)
 have s5:AF (x / 2^64 / 2^64 / 2^64 / 2^64 / 2^64) 0=((x / 2^64 / 2^64 / 2^64 / 2^64 / 2^64:Nat):Int):=by
  apply lH
  have l1:=Nat.div_lt_of_lt_mul h
  have l2:=Nat.div_lt_of_lt_mul l1
  have l3:=Nat.div_lt_of_lt_mul l2
  have l4:=Nat.div_lt_of_lt_mul l3
  exact Nat.div_lt_of_lt_mul l4
 simp only [EP,Db]
 rw [s5]
 rw [← s4,← s3,← s2,← s1,← s0]
theorem ACO {y:Nat} {d0 d1 d2 d3 d4 d5:Int} (b0:0≤d0∧d0<18446744073709551616) (b1:0≤d1∧d1<18446744073709551616) (b2:0≤d2∧d2<18446744073709551616) (b3:0≤d3∧d3<18446744073709551616) (b4:0≤d4∧d4<18446744073709551616) (b5:0≤d5∧d5<18446744073709551616)
  (h:(y:Int)=EP d0 d1 d2 d3 d4 d5):d0=AF y 0∧d1=AF y 1∧d2=AF y 2∧d3=AF y 3∧d4=AF y 4∧d5=AF y 5∧y<2^(64*6):=by
 unfold EP at h
 have step:∀ (z:Nat) (d K:Int),0≤d∧d<18446744073709551616→(z:Int)=d+18446744073709551616*K→d=AF z 0∧((z / 2^64:Nat):Int)=K:=by
  intro z d K hd hz
  have:=KW z
  have hb:=BF z 0
  omega
 obtain ⟨e0,k0⟩:=step y d0 _ b0 h
 obtain ⟨e1,k1⟩:=step _ d1 _ b1 k0
 obtain ⟨e2,k2⟩:=step _ d2 _ b2 k1
 obtain ⟨e3,k3⟩:=step _ d3 _ b3 k2
 obtain ⟨e4,k4⟩:=step _ d4 _ b4 k3
 have e5:d5=AF (y / 2^64 / 2^64 / 2^64 / 2^64 / 2^64) 0:=by rw [lH (by omega)];exact k4.symm
 refine ⟨e0,by rw [e1,Db],by rw [e2,Db,Db],by rw [e3,Db,Db,Db],by rw [e4,Db,Db,Db,Db],by rw [e5,Db,Db,Db,Db,Db],?_⟩
 rw [← Dd]
 unfold RR
 omega
def w6 (a0 a1 a2 a3 a4 a5:Int):List Ch:=[.v (.int .u64 a0),.v (.int .u64 a1),.v (.int .u64 a2),.v (.int .u64 a3),.v (.int .u64 a4),.v (.int .u64 a5)]
theorem lI (x:Nat):Iq 6 x=w6 (AF x 0) (AF x 1) (AF x 2) (AF x 3) (AF x 4) (AF x 5):=rfl
theorem Ti {β:Env} {u:Value} {y:Nat} {d0 d1 d2 d3 d4 d5:Int} (b0:0≤d0∧d0<18446744073709551616) (b1:0≤d1∧d1<18446744073709551616) (b2:0≤d2∧d2<18446744073709551616) (b3:0≤d3∧d3<18446744073709551616) (b4:0≤d4∧d4<18446744073709551616) (b5:0≤d5∧d5<18446744073709551616)
  (h:(y:Int)=EP d0 d1 d2 d3 d4 d5) (hr:AG β (.val true (w6 d0 d1 d2 d3 d4 d5)) u):AG β (.val true [.num 6 y]) u:=by
 obtain ⟨e0,e1,e2,e3,e4,e5,hlt⟩:=ACO b0 b1 b2 b3 b4 b5 h
 rw [e0,e1,e2,e3,e4,e5,← lI] at hr
 exact ACG hlt hr
theorem I8 {a b c:Int} (ha:0≤a∧a<18446744073709551616) (hb:0≤b∧b<18446744073709551616) (hc:0≤c∧c≤1) :
  Cs a b c=a-b-c+18446744073709551616*Ft a b c∧(0≤Cs a b c∧Cs a b c<18446744073709551616)∧(0≤Ft a b c∧Ft a b c≤1):=by
 unfold Cs Ft
 split<;>omega
theorem YU {a b c:Int} (ha:0≤a∧a<18446744073709551616) (hb:0≤b∧b<18446744073709551616) (hc:0≤c∧c≤1) :
  a+b+c=Bl a b c+18446744073709551616*B3 a b c∧(0≤Bl a b c∧Bl a b c<18446744073709551616)∧(0≤B3 a b c∧B3 a b c≤1):=by
 unfold Bl B3
 omega
theorem Co {c:Int} (h:0≤c∧c≤1):BJ c=true:=by simp [BJ,h.1,h.2]
def KX (a0:Int):Int:=Ft a0 0xb9feffffffffaaab 0
def KY (a0 a1:Int):Int:=Ft a1 0x1eabfffeb153ffff (KX a0)
def KZ (a0 a1 a2:Int):Int:=Ft a2 0x6730d2a0f6b0f624 (KY a0 a1)
def Ke (a0 a1 a2 a3:Int):Int:=Ft a3 0x64774b84f38512bf (KZ a0 a1 a2)
def Ko (a0 a1 a2 a3 a4:Int):Int:=Ft a4 0x4b1ba7b6434bacd7 (Ke a0 a1 a2 a3)
def GP (a0 a1 a2 a3 a4 a5:Int):Int:=Ft a5 0x1a0111ea397fe69a (Ko a0 a1 a2 a3 a4)
def ACP (a0 a1 a2 a3 a4 a5:Int):List Ch:=w6 (Cs a0 0xb9feffffffffaaab 0) (Cs a1 0x1eabfffeb153ffff (KX a0)) (Cs a2 0x6730d2a0f6b0f624 (KY a0 a1)) (Cs a3 0x64774b84f38512bf (KZ a0 a1 a2)) (Cs a4 0x4b1ba7b6434bacd7 (Ke a0 a1 a2 a3)) (Cs a5 0x1a0111ea397fe69a (Ko a0 a1 a2 a3 a4))
def YV (a0 a1 a2 a3 a4:Int) (r:List (Bool×Bool)):List (Bool×Bool):=(BJ 0,true)::(BJ (KX a0),true)::(BJ (KY a0 a1),true)::(BJ (KZ a0 a1 a2),true)::(BJ (Ke a0 a1 a2 a3),true)::(BJ (Ko a0 a1 a2 a3 a4),true)::r
theorem ACQ (a0 a1 a2 a3 a4 a5 h:Int):AX Tryz.prog (AJ S1 K0) Tryz.f129 [.val true (w6 a0 a1 a2 a3 a4 a5),.val false [.v (.int .u64 h)]] [true] 300 =
 some (YV a0 a1 a2 a3 a4 [(decide (h<GP a0 a1 a2 a3 a4 a5),true)],.val true (w6 a0 a1 a2 a3 a4 a5)):=by kernel_rfl
theorem ACR (a0 a1 a2 a3 a4 a5 h:Int):AX Tryz.prog (AJ S1 K0) Tryz.f129 [.val true (w6 a0 a1 a2 a3 a4 a5),.val false [.v (.int .u64 h)]] [false] 300 =
 some (YV a0 a1 a2 a3 a4 [(decide (h<GP a0 a1 a2 a3 a4 a5),false)],.val true (ACP a0 a1 a2 a3 a4 a5)):=by kernel_rfl
def Fw (x h:Nat):Nat:=if x<pN∧h=0 then x else (x+(RR-pN)) % RR
def YW:List AV→Option AV
 | [.val true a,B]=>match B8 6 a,A' (some B) with
  | some x,some (_,.u64,h)=>some (.val true [.num 6 (Fw x h.toNat)])
  | _,_=>none
 | _=>none
theorem ACS:∀ args v,YW args=some v→AW Tryz.prog 129 args v:=by
 intro args v h us w ha
 unfold YW at h
 split at h
 case h_2=>cases h
 rename_i a B
 split at h
 case h_2=>cases h
 rename_i x c h0 hx hy
 injection h with h;subst h
 obtain ⟨u1,us1,r1,ha,rfl⟩:=ha
 obtain ⟨u2,us2,r2,ha,rfl⟩:=ha
 simp only [Aq] at ha
 subst ha
 obtain ⟨q0,q1,hlt⟩:=N_ hx r1
 obtain ⟨q2,h2⟩:=MI hy r2
 have bh:=C' h2
 rw [lI] at q1
 have hX:=MK hlt
 have w0:=BF x 0
 have w1:=BF x 1
 have w2:=BF x 2
 have w3:=BF x 3
 have w4:=BF x 4
 have w5:=BF x 5
 generalize AF x 0=a0 at *
 generalize AF x 1=a1 at *
 generalize AF x 2=a2 at *
 generalize AF x 3=a3 at *
 generalize AF x 4=a4 at *
 generalize AF x 5=a5 at *
 obtain ⟨d0,e0,f0⟩:=I8 (b:=0xb9feffffffffaaab) (c:=0) w0 (by omega) (by omega)
 obtain ⟨d1,e1,f1⟩:=I8 (b:=0x1eabfffeb153ffff) (c:=KX a0) w1 (by omega) f0
 obtain ⟨d2,e2,f2⟩:=I8 (b:=0x6730d2a0f6b0f624) (c:=KY a0 a1) w2 (by omega) f1
 obtain ⟨d3,e3,f3⟩:=I8 (b:=0x64774b84f38512bf) (c:=KZ a0 a1 a2) w3 (by omega) f2
 obtain ⟨d4,e4,f4⟩:=I8 (b:=0x4b1ba7b6434bacd7) (c:=Ke a0 a1 a2 a3) w4 (by omega) f3
 obtain ⟨d5,e5,f5⟩:=I8 (b:=0x1a0111ea397fe69a) (c:=Ko a0 a1 a2 a3 a4) w5 (by omega) f4
 have hconds:∀ r,AP r→AP (YV a0 a1 a2 a3 a4 r):=fun r hr =>
  ⟨rfl,Co f0,Co f1,Co f2,Co f3,Co f4,hr⟩
 change Cs a0 0xb9feffffffffaaab 0=a0-0xb9feffffffffaaab-0+18446744073709551616*KX a0 at d0
 change Cs a1 0x1eabfffeb153ffff (KX a0)=a1-0x1eabfffeb153ffff-KX a0+18446744073709551616*KY a0 a1 at d1
 change Cs a2 0x6730d2a0f6b0f624 (KY a0 a1)=a2-0x6730d2a0f6b0f624-KY a0 a1+18446744073709551616*KZ a0 a1 a2 at d2
 change Cs a3 0x64774b84f38512bf (KZ a0 a1 a2)=a3-0x64774b84f38512bf-KZ a0 a1 a2+18446744073709551616*Ke a0 a1 a2 a3 at d3
 change Cs a4 0x4b1ba7b6434bacd7 (Ke a0 a1 a2 a3)=a4-0x4b1ba7b6434bacd7-Ke a0 a1 a2 a3+18446744073709551616*Ko a0 a1 a2 a3 a4 at d4
 change Cs a5 0x1a0111ea397fe69a (Ko a0 a1 a2 a3 a4)=a5-0x1a0111ea397fe69a-Ko a0 a1 a2 a3 a4+18446744073709551616*GP a0 a1 a2 a3 a4 a5 at d5
 change 0≤GP a0 a1 a2 a3 a4 a5∧GP a0 a1 a2 a3 a4 a5≤1 at f5
 unfold EP at hX
 have hsum:EP (Cs a0 0xb9feffffffffaaab 0) (Cs a1 0x1eabfffeb153ffff (KX a0)) (Cs a2 0x6730d2a0f6b0f624 (KY a0 a1)) (Cs a3 0x64774b84f38512bf (KZ a0 a1 a2)) (Cs a4 0x4b1ba7b6434bacd7 (Ke a0 a1 a2 a3)) (Cs a5 0x1a0111ea397fe69a (Ko a0 a1 a2 a3 a4)) =
   (x:Int)-(pN:Nat)+(RR:Nat)*GP a0 a1 a2 a3 a4 a5:=by
  unfold EP pN RR
  omega
 have hbnd:0≤(x:Int)-(pN:Nat)+(RR:Nat)*GP a0 a1 a2 a3 a4 a5∧(x:Int)-(pN:Nat)+(RR:Nat)*GP a0 a1 a2 a3 a4 a5<(RR:Nat):=by
  rw [← hsum];unfold EP RR;omega
 have hltR:x<RR:=by rw [Dd];exact hlt
 by_cases hcase:x<pN∧h0.toNat=0
 ·have hb6:h0<GP a0 a1 a2 a3 a4 a5:=by
   unfold pN RR at hbnd;unfold pN at hcase;omega
  have:=Ac (AN YT AZ) AE Tryz.func129 (ACQ a0 a1 a2 a3 a4 a5 h0) (hconds _ ⟨by simp [hb6],trivial⟩) rfl _ w ⟨u1,_,q1,⟨u2,_,q2,rfl,rfl⟩,rfl⟩
  refine Calls.mono this ?_
  rintro e w' ⟨u,rfl,hu,hbl⟩
  refine ⟨u,rfl,?_,hbl⟩
  unfold Fw
  rw [if_pos hcase]
  exact Ti w0 w1 w2 w3 w4 w5 hX hu
 ·have hb6:¬ h0<GP a0 a1 a2 a3 a4 a5:=by
   unfold pN RR at hbnd;unfold pN at hcase;omega
  have:=Ac (AN YT AZ) AE Tryz.func129 (ACR a0 a1 a2 a3 a4 a5 h0) (hconds _ ⟨by simp [hb6],trivial⟩) rfl _ w ⟨u1,_,q1,⟨u2,_,q2,rfl,rfl⟩,rfl⟩
  refine Calls.mono this ?_
  rintro e w' ⟨u,rfl,hu,hbl⟩
  refine ⟨u,rfl,?_,hbl⟩
  unfold Fw
  rw [if_neg hcase]
  refine Ti e0 e1 e2 e3 e4 e5 ?_ hu
  rw [hsum]
  have h01:GP a0 a1 a2 a3 a4 a5=0∨GP a0 a1 a2 a3 a4 a5=1:=by omega
  unfold pN RR at *
  rcases h01 with h01 | h01<;>rw [h01] at hbnd ⊢<;>omega
def S2:List (FuncId×ASpec):=(129,As YW)::S1
theorem Tj:AM Tryz.prog S2:=⟨Av Tryz.func129 (by kernel_rfl) (by kernel_rfl) ACS,YT⟩
def C3 (x:Option (List (Bool×Bool)×List Nat×ASt)):List Item:=match x with | some (_,_,y)=>y.todo | none=>[]
def ML:List Ch:=[.n .u64 0,.n .u64 0,.n .u64 0,.n .u64 0,.n .u64 0,.n .u64 0]
noncomputable def ACT:List Item:=C3 (Aa Tryz.prog (AJ S2 K0) (some 0) 100 0 (some ([1,2],[0,1],2)) (Ah Tryz.f112 [.val true [.num 6 0]] [] 0 []))
noncomputable def OA (x:Nat) (path:List Bool):ASt:=⟨ACT,⟨[.any,.val false [.p 0 0],.val false [.p 1 0],.any,.any,.any,.any,.any,.any,.any,.any],
 [(0,some ⟨30,[.num 6 x],false⟩),(1,some ⟨30,ML,false⟩)],2,path⟩⟩
theorem ACU (x:Nat):Aa Tryz.prog (AJ S2 K0) (some 0) 100 0 (some ([1,2],[0,1],2)) (Ah Tryz.f112 [.val true [.num 6 x]] [] 0 [])=some ([],[],OA x []):=by kernel_rfl
theorem ACV (x:Nat):Aa Tryz.prog (AJ S2 K0) (some 0) 100 0 (some ([1,2],[0,1],2)) (OA x [false])=some ([(decide (Fw x 0=x),false)],[],OA (Fw x 0) []):=by kernel_rfl
theorem ACW (x:Nat):Ey Tryz.prog (AJ S2 K0) Tryz.f112 100 0 (OA x [true])=some ([(decide (Fw x 0=x),true)],[],.val true [.num 6 x]):=by kernel_rfl
theorem lJ (x:Nat) (p:List Bool):Bp Tryz.f112.ntmps (OA x p).s:=AR (by kernel_rfl)
theorem lK {x:Nat} (h:x<pN):Fw x 0=x:=if_pos ⟨h,rfl⟩
theorem YX {x:Nat} (h:pN≤x) (hx:x<RR):Fw x 0=x-pN:=by
 unfold Fw
 rw [if_neg (by omega)]
 have:pN≤RR:=by decide
 rw [show x+(RR-pN)=(x-pN)+RR by omega,Nat.add_mod_right,Nat.mod_eq_of_lt (by omega)]
theorem Cp:0<pN:=by decide
theorem ACX (w0:World) (v:Nat):∀ (x:Nat),x<RR→x % pN=v→ASafe Tryz.prog 112 B0 w0 (MB w0 (.val true [.num 6 v])) Tryz.f112.ntmps [] (OA x []):=by
 intro x
 induction x using Nat.strongRecOn with
 | _ x ih =>
  intro hx hv
  rcases Nat.lt_or_ge x pN with hlt | hge
  ·rw [Nat.mod_eq_of_lt hlt] at hv
   subst hv
   exact Af [true] (H5 (AN Tj AZ) AE Tryz.func112 (ACW x) ⟨by simp [lK hlt],trivial⟩ (lJ x _) (fun _ _=>rfl) rfl)
  ·have hp:=Cp
   refine Af [false] (Aj (AN Tj AZ) AE (ACV x) ⟨by simp [YX hge hx];omega,trivial⟩ (lJ x _) (fun _ _=>rfl) (fun _ h=>by cases h) fun _=>?_)
   rw [YX hge hx]
   exact ih (x-pN) (by omega) (by omega) (by rw [← hv,← Nat.mod_eq_sub_mod hge])
def Tk:List AV→Option AV
 | [.val true a]=>match B8 6 a with
  | some x=>some (.val true [.num 6 (x % pN)])
  | none=>none
 | _=>none
theorem lL:∀ args v,Tk args=some v→AW Tryz.prog 112 args v:=by
 intro args v h us w ha
 unfold Tk at h
 split at h
 case h_2=>cases h
 rename_i a
 split at h
 case h_2=>cases h
 rename_i x hx
 injection h with h;subst h
 obtain ⟨u1,us1,r1,ha,rfl⟩:=ha
 simp only [Aq] at ha
 subst ha
 obtain ⟨q0,q1,hlt⟩:=N_ hx r1
 rw [← Dd] at hlt
 exact TZ (args:=[.val true [.num 6 x]]) (path:=[]) Tryz.func112 (by kernel_rfl) (by kernel_rfl) (fun w0=>Aj (AN Tj AZ) AE (ACU x) trivial (AR (by kernel_rfl)) (fun _ _=>rfl) (fun _ h=>by cases h) fun _=>ACX w0 _ x hlt rfl) _ w ⟨u1,_,q0,rfl,rfl⟩
def S3:List (FuncId×ASpec):=(112,As Tk)::S2
theorem Tl:AM Tryz.prog S3:=⟨Av Tryz.func112 (by kernel_rfl) (by kernel_rfl) lL,Tj⟩
def Kp (d0 d1 d2 d3 d4 d5:Int):Nat:=d0.toNat+18446744073709551616*(d1.toNat+18446744073709551616*(d2.toNat+18446744073709551616*(d3.toNat+18446744073709551616*(d4.toNat+18446744073709551616*(d5.toNat+18446744073709551616*0)))))
def BK (x y:Nat):Nat→Int
 | 0=>0
 | i+1=>B3 (AF x i) (AF y i) (BK x y i)
def BU (x y:Nat):Nat→Int
 | 0=>0
 | i+1=>Ft (AF x i) (AF y i) (BU x y i)
def DR (x y i:Nat):Int:=Bl (AF x i) (AF y i) (BK x y i)
def BP (x y i:Nat):Int:=Cs (AF x i) (AF y i) (BU x y i)
theorem Ed (x y:Nat):∀ i,0≤BK x y i∧BK x y i≤1
 | 0=>by simp [BK]
 | i+1=>(YU (BF x i) (BF y i) (Ed x y i)).2.2
theorem Ee (x y:Nat):∀ i,0≤BU x y i∧BU x y i≤1
 | 0=>by simp [BU]
 | i+1=>(I8 (BF x i) (BF y i) (Ee x y i)).2.2
theorem OB (x y i:Nat):0≤DR x y i∧DR x y i<18446744073709551616:=(YU (BF x i) (BF y i) (Ed x y i)).2.1
theorem De (x y i:Nat):0≤BP x y i∧BP x y i<18446744073709551616:=(I8 (BF x i) (BF y i) (Ee x y i)).2.1
theorem OC (x y i:Nat):AF x i+AF y i+BK x y i=DR x y i+18446744073709551616*BK x y (i+1):=(YU (BF x i) (BF y i) (Ed x y i)).1
theorem MM (x y i:Nat):BP x y i=AF x i-AF y i-BU x y i+18446744073709551616*BU x y (i+1):=(I8 (BF x i) (BF y i) (Ee x y i)).1
theorem ACY {x y:Nat} (hx:x<RR) (hy:y<RR):EP (DR x y 0) (DR x y 1) (DR x y 2) (DR x y 3) (DR x y 4) (DR x y 5)+(RR:Nat)*BK x y 6=x+y:=by
 have h1:=MK (x:=x) (by rw [← Dd];exact hx)
 have h2:=MK (x:=y) (by rw [← Dd];exact hy)
 have e0:AF x 0+AF y 0+BK x y 0=DR x y 0+18446744073709551616*BK x y 1:=OC x y 0
 have e1:AF x 1+AF y 1+BK x y 1=DR x y 1+18446744073709551616*BK x y 2:=OC x y 1
 have e2:AF x 2+AF y 2+BK x y 2=DR x y 2+18446744073709551616*BK x y 3:=OC x y 2
 have e3:AF x 3+AF y 3+BK x y 3=DR x y 3+18446744073709551616*BK x y 4:=OC x y 3
 have e4:AF x 4+AF y 4+BK x y 4=DR x y 4+18446744073709551616*BK x y 5:=OC x y 4
 have e5:AF x 5+AF y 5+BK x y 5=DR x y 5+18446744073709551616*BK x y 6:=OC x y 5
 have z:BK x y 0=0:=rfl
 unfold EP at *
 unfold RR
 omega
theorem ACZ {x y:Nat} (hx:x<RR) (hy:y<RR):EP (BP x y 0) (BP x y 1) (BP x y 2) (BP x y 3) (BP x y 4) (BP x y 5)=x-y+(RR:Nat)*BU x y 6:=by
 have h1:=MK (x:=x) (by rw [← Dd];exact hx)
 have h2:=MK (x:=y) (by rw [← Dd];exact hy)
 have e0:BP x y 0=AF x 0-AF y 0-BU x y 0+18446744073709551616*BU x y 1:=MM x y 0
 have e1:BP x y 1=AF x 1-AF y 1-BU x y 1+18446744073709551616*BU x y 2:=MM x y 1
 have e2:BP x y 2=AF x 2-AF y 2-BU x y 2+18446744073709551616*BU x y 3:=MM x y 2
 have e3:BP x y 3=AF x 3-AF y 3-BU x y 3+18446744073709551616*BU x y 4:=MM x y 3
 have e4:BP x y 4=AF x 4-AF y 4-BU x y 4+18446744073709551616*BU x y 5:=MM x y 4
 have e5:BP x y 5=AF x 5-AF y 5-BU x y 5+18446744073709551616*BU x y 6:=MM x y 5
 have z:BU x y 0=0:=rfl
 unfold EP at *
 unfold RR
 omega
theorem Tm {d0 d1 d2 d3 d4 d5:Int} (b0:0≤d0∧d0<18446744073709551616) (b1:0≤d1∧d1<18446744073709551616) (b2:0≤d2∧d2<18446744073709551616) (b3:0≤d3∧d3<18446744073709551616) (b4:0≤d4∧d4<18446744073709551616) (b5:0≤d5∧d5<18446744073709551616) :
  (Kp d0 d1 d2 d3 d4 d5:Int)=EP d0 d1 d2 d3 d4 d5∧Kp d0 d1 d2 d3 d4 d5<RR:=by
 unfold Kp EP RR
 omega
def MN (x y:Nat):Nat:=Kp (DR x y 0) (DR x y 1) (DR x y 2) (DR x y 3) (DR x y 4) (DR x y 5)
def Tn (x y:Nat):Nat:=Kp (BP x y 0) (BP x y 1) (BP x y 2) (BP x y 3) (BP x y 4) (BP x y 5)
theorem lM {x y:Nat} (hx:x<RR) (hy:y<RR):MN x y+RR*(BK x y 6).toNat=x+y∧MN x y<RR:=by
 obtain ⟨h1,h2⟩:=Tm (OB x y 0) (OB x y 1) (OB x y 2) (OB x y 3) (OB x y 4) (OB x y 5)
 have h3:=ACY hx hy
 have h4:=Ed x y 6
 unfold MN
 refine ⟨?_,h2⟩
 rw [← h1] at h3
 have h01:BK x y 6=0∨BK x y 6=1:=by omega
 unfold RR at *
 rcases h01 with e | e<;>rw [e] at h3 ⊢<;>simp only [Int.toNat_zero,Int.toNat_one]<;>omega
theorem lN {x y:Nat} (hx:x<RR) (hy:y<RR):Tn x y=(x+(RR-y)) % RR:=by
 obtain ⟨h1,h2⟩:=Tm (De x y 0) (De x y 1) (De x y 2) (De x y 3) (De x y 4) (De x y 5)
 have h3:=ACZ hx hy
 have h4:=Ee x y 6
 unfold Tn
 rw [← h1] at h3
 have h01:BU x y 6=0∨BU x y 6=1:=by omega
 unfold RR at *
 rcases h01 with e | e<;>rw [e] at h3<;>omega
theorem ACa {x y:Nat} (hx:x<RR) (hy:y<RR):(((x+(RR-y)) % RR:Nat):Int)=EP (BP x y 0) (BP x y 1) (BP x y 2) (BP x y 3) (BP x y 4) (BP x y 5):=by
 rw [← lN hx hy]
 exact (Tm (De x y 0) (De x y 1) (De x y 2) (De x y 3) (De x y 4) (De x y 5)).1
theorem H7 (x:Nat):x % pN<pN:=Nat.mod_lt _ Cp
theorem P8:pN+pN<RR:=by decide
theorem YY {x:Nat} (h:x<pN+pN):Fw x 0=x % pN:=by
 rcases Nat.lt_or_ge x pN with h1 | h1
 ·rw [lK h1,Nat.mod_eq_of_lt h1]
 ·have:=P8
  rw [YX h1 (by omega),Nat.mod_eq_sub_mod h1,Nat.mod_eq_of_lt (by omega)]
theorem ACb (x y:Nat):AX Tryz.prog (AJ S3 K0) Tryz.f75 [.val true [.num 6 x],.val true [.num 6 y]] [] 300 =
 some ([(BJ 0,true),(BJ (BK (x % pN) (y % pN) 1),true),(BJ (BK (x % pN) (y % pN) 2),true),(BJ (BK (x % pN) (y % pN) 3),true),(BJ (BK (x % pN) (y % pN) 4),true),(BJ (BK (x % pN) (y % pN) 5),true)],
  .val true [.num 6 (Fw (MN (x % pN) (y % pN)) (BK (x % pN) (y % pN) 6).toNat)]):=by kernel_rfl
theorem ACc (x:Nat):AX Tryz.prog (AJ S3 K0) Tryz.f77 [.val true [.num 6 x]] [] 300 =
 some ([(BJ 0,true),(BJ (BU pN (x % pN) 1),true),(BJ (BU pN (x % pN) 2),true),(BJ (BU pN (x % pN) 3),true),(BJ (BU pN (x % pN) 4),true),(BJ (BU pN (x % pN) 5),true)],
  .val true [.num 6 (Fw (Tn pN (x % pN)) 0)]):=by kernel_rfl
theorem ACd (x y:Nat):AX Tryz.prog (AJ S3 K0) Tryz.f185 [.val true [.num 6 x],.val true [.num 6 y]] [] 300 =
 some ([(BJ 0,true),(BJ (BU x y 1),true),(BJ (BU x y 2),true),(BJ (BU x y 3),true),(BJ (BU x y 4),true),(BJ (BU x y 5),true)],
  .val true (w6 (BP x y 0) (BP x y 1) (BP x y 2) (BP x y 3) (BP x y 4) (BP x y 5))):=by kernel_rfl
def DH (x y:Nat):Nat:=(x % pN+y % pN) % pN
def Df (x:Nat):Nat:=(pN-x % pN) % pN
def ED (x y:Nat):Nat:=DH x (Df y)
def I9 (g:Nat→AV):List AV→Option AV
 | [.val true a]=>match B8 6 a with
  | some x=>some (g x)
  | none=>none
 | _=>none
def MO (g:Nat→Nat→AV):List AV→Option AV
 | [.val true a,.val true b]=>match B8 6 a,B8 6 b with
  | some x,some y=>some (g x y)
  | _,_=>none
 | _=>none
theorem MP {f:FuncId} {g:Nat→AV} (h:∀ x,x<RR→AW Tryz.prog f [.val true [.num 6 x]] (g x)):∀ args v,I9 g args=some v→AW Tryz.prog f args v:=by
 intro args v hs us w ha
 unfold I9 at hs
 split at hs
 case h_2=>cases hs
 rename_i a
 split at hs
 case h_2=>cases hs
 rename_i x hx
 injection hs with hs;subst hs
 obtain ⟨u1,us1,r1,ha,rfl⟩:=ha
 simp only [Aq] at ha
 subst ha
 obtain ⟨q0,q1,hlt⟩:=N_ hx r1
 exact h x (by rw [Dd];exact hlt) _ w ⟨u1,_,q0,rfl,rfl⟩
theorem P9 {f:FuncId} {g:Nat→Nat→AV} (h:∀ x y,x<RR→y<RR→AW Tryz.prog f [.val true [.num 6 x],.val true [.num 6 y]] (g x y)):∀ args v,MO g args=some v→AW Tryz.prog f args v:=by
 intro args v hs us w ha
 unfold MO at hs
 split at hs
 case h_2=>cases hs
 rename_i a b
 split at hs
 case h_2=>cases hs
 rename_i x y hx hy
 injection hs with hs;subst hs
 obtain ⟨u1,us1,r1,ha,rfl⟩:=ha
 obtain ⟨u2,us2,r2,ha,rfl⟩:=ha
 simp only [Aq] at ha
 subst ha
 obtain ⟨q0,q1,hlt⟩:=N_ hx r1
 obtain ⟨p0,p1,hlt2⟩:=N_ hy r2
 exact h x y (by rw [Dd];exact hlt) (by rw [Dd];exact hlt2) _ w ⟨u1,_,q0,⟨u2,_,p0,rfl,rfl⟩,rfl⟩
theorem OD (x:Nat):x % pN<RR:=Nat.lt_trans (H7 x) (by decide)
theorem lO (x y:Nat):AW Tryz.prog 75 [.val true [.num 6 x],.val true [.num 6 y]] (.val true [.num 6 (DH x y)]):=by
 have h:=Ac (AN Tl AZ) AE Tryz.func75 (ACb x y) ⟨rfl,Co (Ed _ _ _),Co (Ed _ _ _),Co (Ed _ _ _),Co (Ed _ _ _),Co (Ed _ _ _),trivial⟩ rfl
 obtain ⟨h1,h2⟩:=lM (OD x) (OD y)
 have h3:=H7 x
 have h4:=H7 y
 have h5:=P8
 have hc:(BK (x % pN) (y % pN) 6).toNat=0:=by
  have:=Ed (x % pN) (y % pN) 6
  have h01:(BK (x % pN) (y % pN) 6).toNat=0∨(BK (x % pN) (y % pN) 6).toNat=1:=by omega
  rcases h01 with e | e
  ·exact e
  ·rw [e] at h1;omega
 rw [hc] at h h1
 rw [YY (by omega)] at h
 have:MN (x % pN) (y % pN)=x % pN+y % pN:=by omega
 rw [this] at h
 exact h
theorem lP (x:Nat):AW Tryz.prog 77 [.val true [.num 6 x]] (.val true [.num 6 (Df x)]):=by
 have h:=Ac (AN Tl AZ) AE Tryz.func77 (ACc x) ⟨rfl,Co (Ee _ _ _),Co (Ee _ _ _),Co (Ee _ _ _),Co (Ee _ _ _),Co (Ee _ _ _),trivial⟩ rfl
 have h3:=H7 x
 have h5:=P8
 have:Tn pN (x % pN)=pN-x % pN:=by
  rw [lN (by omega) (by omega),show pN+(RR-x % pN)=(pN-x % pN)+RR by omega,Nat.add_mod_right,Nat.mod_eq_of_lt (by omega)]
 rw [this,YY (by omega)] at h
 exact h
theorem ACe (x y:Nat) (hx:x<RR) (hy:y<RR):AW Tryz.prog 185 [.val true [.num 6 x],.val true [.num 6 y]] (.val true [.num 6 ((x+(RR-y)) % RR)]):=by
 intro us w ha
 have h:=Ac (AN Tl AZ) AE Tryz.func185 (ACd x y) ⟨rfl,Co (Ee _ _ _),Co (Ee _ _ _),Co (Ee _ _ _),Co (Ee _ _ _),Co (Ee _ _ _),trivial⟩ rfl us w ha
 refine Calls.mono h ?_
 rintro e w' ⟨u,rfl,hu,hbl⟩
 exact ⟨u,rfl,Ti (De x y 0) (De x y 1) (De x y 2) (De x y 3) (De x y 4) (De x y 5) (ACa hx hy) hu,hbl⟩
def Ao (x:Nat):AV:=.val true [.num 6 x]
def S4:List (FuncId×ASpec):=(75,As (MO fun x y=>Ao (DH x y)))::(77,As (I9 fun x=>Ao (Df x)))::(185,As (MO fun x y=>Ao ((x+(RR-y)) % RR)))::S3
theorem lR:AM Tryz.prog S4:=⟨Av Tryz.func75 (by kernel_rfl) (by kernel_rfl) (P9 fun x y _ _=>lO x y),Av Tryz.func77 (by kernel_rfl) (by kernel_rfl) (MP fun x _=>lP x),Av Tryz.func185 (by kernel_rfl) (by kernel_rfl) (P9 ACe),Tl⟩
theorem ACf (x y:Nat):AX Tryz.prog (AJ S4 K0) Tryz.f114 [Ao x,Ao y] [] 300=some ([],Ao (ED x y)):=by kernel_rfl
theorem lS (x y:Nat):AW Tryz.prog 114 [Ao x,Ao y] (Ao (ED x y)):=Ac (AN lR AZ) AE Tryz.func114 (ACf x y) trivial rfl
def S5:List (FuncId×ASpec):=(114,As (MO fun x y=>Ao (ED x y)))::S4
theorem To:AM Tryz.prog S5:=⟨Av Tryz.func114 (by kernel_rfl) (by kernel_rfl) (P9 fun x y _ _=>lS x y),lR⟩
def BV:List Int→Int
 | []=>0
 | d::r=>d+18446744073709551616*BV r
theorem Tp:∀ (k x:Nat),x<2^(64*k)→BV ((List.range k).map (AF x))=x
 | 0,x,h=>by simp only [Nat.mul_zero,Nat.pow_zero] at h;simp [BV];omega
 | k+1,x,h=>by
  have hq:x / 2^64<2^(64*k):=by
   apply Nat.div_lt_of_lt_mul
   rw [← Nat.pow_add]
   rwa [show 64+64*k=64*(k+1) by omega]
  have ih:=Tp k (x / 2^64) hq
  rw [List.range_succ_eq_map,List.map_cons,List.map_map]
  have e:(AF x ∘ Nat.succ)=AF (x / 2^64):=by funext i;simp [Function.comp,Db]
  rw [e]
  show AF x 0+18446744073709551616*BV _=_
  rw [ih,← KW]
theorem Tq:∀ (ds:List Int) (y:Nat),(∀ d∈ds,0≤d∧d<18446744073709551616)→(y:Int)=BV ds→ds=(List.range ds.length).map (AF y)∧y<2^(64*ds.length)
 | [],y,_,h=>by simp only [BV] at h;simp;omega
 | d::ds,y,hb,h=>by
  have hd:=hb d (by simp)
  have hs:=KW y
  have hw:=BF y 0
  simp only [BV] at h
  have e1:d=AF y 0:=by omega
  have e2:((y / 2^64:Nat):Int)=BV ds:=by omega
  obtain ⟨i1,i2⟩:=Tq ds _ (fun d h=>hb d (by simp [h])) e2
  refine ⟨?_,?_⟩
  ·rw [List.length_cons,List.range_succ_eq_map,List.map_cons,List.map_map]
   have e:(AF y ∘ Nat.succ)=AF (y / 2^64):=by funext i;simp [Function.comp,Db]
   rw [e,← i1,← e1]
  ·rw [List.length_cons,show 64*(ds.length+1)=64+64*ds.length by omega,Nat.pow_add]
   have:=Nat.lt_mul_div_succ y (show 0<2^64 by decide)
   have h2:y / 2^64+1≤2^(64*ds.length):=i2
   exact Nat.lt_of_lt_of_le this (Nat.mul_le_mul_left _ h2)
def P_ (ds:List Int):List Ch:=ds.map fun d=>.v (.int .u64 d)
theorem lU {β:Env}:∀ {ds:List Int} {l:List Value},AH β (P_ ds) l→l=ds.map (.int .u64)∧∀ d∈ds,has .u64 d
 | [],l,h=>by simp [P_,AH] at h;simp [h]
 | d::ds,l,⟨l1,l2,⟨h1,h1'⟩,h2,h3⟩=>by
  obtain ⟨i1,i2⟩:=lU h2
  subst h1;subst i1;subst h3
  refine ⟨rfl,fun x hx=>?_⟩
  rcases List.mem_cons.1 hx with rfl | hx
  ·exact h1'.2
  ·exact i2 x hx
theorem lV {β β':Env} {ds:List Int} {l:List Value} {y:Nat} (h:(y:Int)=BV ds) (hr:AH β (P_ ds) l):AH β' [.num ds.length y] l:=by
 obtain ⟨h1,h2⟩:=lU hr
 obtain ⟨h3,h4⟩:=Tq ds y (fun d hd=>C' (h2 d hd)) h
 have:l=words ds.length y:=by
  rw [h1,words]
  conv=>lhs;rw [h3]
  simp [List.map_map,Function.comp]
 rw [this]
 exact P4 h4
theorem Ef {β β':Env} {k x:Nat} {a:List Ch} {l:List Value} (h:B8 k a=some x) (hr:AH β a l):AH β' [.num k x] l:=by
 obtain ⟨h2,h3⟩:=EO h hr
 subst h2
 exact P4 h3
theorem HH {β:Env} {ρ:List Nat} {k0 j:Nat} (h:j<k0):Ap β ρ k0 j=β (nth ρ j):=by simp [Ap,A9.2 h]
theorem BH {β:Env} {b:Blk} {k:Nat} {w:World} (h:Da β b k w):∃ X,β k=some X:=by
 rcases h with ⟨B,n,_,_,_,_,_,h,_⟩ | ⟨h,_⟩ | ⟨B,_,_,_,h,_⟩<;>exact ⟨_,h⟩
theorem Tr {β β':Env} {b d:Blk} {k j:Nat} {w:World} (h:Da β b k w) (he:β' j=β k) (hd:(d.ty=BN∧G7 d.cs=true)∨(d.ty=b.ty∧d.opn=b.opn)) (hc:∀ l,AH β b.cs l→AH β' d.cs l):Da β' d j w:=by
 rcases h with ⟨B,n,l,t,pre,ty,fz,h1,h2,h3,h4,h5⟩ | ⟨h1,h2,h3⟩ | ⟨B,l,es,q,h1,h2,h3,h4⟩
 ·refine .inl ⟨B,n,l,t,pre,ty,fz,by rw [he];exact h1,hc _ h2,h3,h4,fun hr=>?_⟩
  obtain ⟨e1,e2⟩:=hd.resolve_left fun h=>hr h.1
  rw [e1] at hr ⊢
  rw [e2]
  exact h5 hr
 ·refine .inr (.inl ⟨by rw [he];exact h1,?_,hc _ h3⟩)
  rcases hd with ⟨e,_⟩ | ⟨e1,e2⟩
  ·exact .inr e
  ·rw [e1,e2];exact h2
 ·rcases hd with ⟨_,e⟩ | ⟨e1,e2⟩
  ·exact absurd (List.mem_cons_self ..) (W2 e (hc _ h3))
  ·exact .inr (.inr ⟨B,l,es,q,by rw [he];exact h1,by rw [e1];exact h2,hc _ h3,by rw [e1];exact h4⟩)
def MQ:Nat→List Blk→Heap
 | _,[]=>[]
 | j,b::r=>(j,some b)::MQ (j+1) r
theorem Kq:∀ {bs:List Blk} {j k:Nat} {b:Blk},AB (MQ j bs) k=some b→j≤k∧bs[k-j]? = some b
 | [],_,_,_,h=>by cases h
 | d::bs,j,k,b,h=>by
  simp only [MQ,AB] at h
  split at h
  ·rename_i e
   have:=Ad.1 e
   subst this
   injection h with h
   exact ⟨Nat.le_refl _,by simp [h]⟩
  ·rename_i e
   have:=FW e
   obtain ⟨h1,h2⟩:=Kq h
   refine ⟨by omega,?_⟩
   rw [show k-j=(k-(j+1))+1 by omega,List.getElem?_cons_succ]
   exact h2
theorem P' {β:Env} {H:Heap} {w:World} {ρ:List Nat} {bs:List Blk} (g:Ex.Good β H w)
  (h:∀ j d,bs[j]? = some d→∃ b,AB H (nth ρ j)=some b∧((d.ty=BN∧G7 d.cs=true)∨(d.ty=b.ty∧d.opn=b.opn))∧∀ l,AH β b.cs l→AH (Ap β ρ bs.length) d.cs l)
  (hne:∀ i j d,bs[i]? = some d→d.ty≠BN→i≠j→j<bs.length→nth ρ i≠nth ρ j):Ex.Good (Ap β ρ bs.length) (MQ 0 bs) w:=by
 have hlt:∀ {j:Nat} {d:Blk},bs[j]? = some d→j<bs.length:=fun hj=>by
  rcases Nat.lt_or_ge _ bs.length with h | h
  ·exact h
  ·rw [List.getElem?_eq_none h] at hj;cases hj
 refine ⟨fun j blk hj=>?_,fun i j B n n' h1 h2 h3 h4=>?_,fun j B n hj=>?_⟩
 ·obtain ⟨_,hj⟩:=Kq hj
  rw [Nat.sub_zero] at hj
  obtain ⟨b,hb,hd,hc⟩:=h j blk hj
  exact Tr (g.heap _ b hb) (HH (hlt hj)) hd hc
 ·obtain ⟨d,hd,hr⟩:=FB h1
  obtain ⟨e,he⟩:=Option.isSome_iff_exists.1 h2
  obtain ⟨_,hd⟩:=Kq hd
  obtain ⟨_,he⟩:=Kq he
  rw [Nat.sub_zero] at hd he
  by_cases hij:i=j
  ·exact hij
  ·exfalso
   obtain ⟨b,hb,hdd,_⟩:=h i d hd
   obtain ⟨b',hb',_⟩:=h j e he
   rw [HH (hlt hd)] at h3
   rw [HH (hlt he)] at h4
   have hbr:b.ty≠BN:=by
    obtain ⟨e1,_⟩:=hdd.resolve_left fun h=>hr h.1
    rw [← e1];exact hr
   exact hne i j d hd hr hij (hlt he) (g.inj _ _ B n n' (EN hb hbr) (by rw [hb'];rfl) h3 h4)
 ·unfold Ap at hj
  split at hj
  ·exact g.lt _ _ _ hj
  ·cases hj
def AU (c:List Ch):Blk:=⟨BN,c,false⟩
theorem QA {β:Env} {H:Heap} {w:World} {k:Nat} {b:Blk} {c:List Ch} (g:Ex.Good β H w) (hk:AB H k=some b) (hc:∀ l,AH β b.cs l→AH (Ap β [k] 1) c l) (hw:G7 c=true:=by rfl):Ex.Good (Ap β [k] 1) [(0,some (AU c))] w:=by
 refine P' (ρ:=[k]) (bs:=[AU c]) g (fun j d hj=>?_) fun i j d hi hr=>?_
 ·match j,hj with
  | 0,hj=>injection hj with hj;subst hj;exact ⟨b,hk,.inl ⟨rfl,hw⟩,hc⟩
 ·match i,hi with
  | 0,hi=>injection hi with hi;subst hi;exact absurd rfl hr
theorem lW {β:Env} {H:Heap} {w:World} {k t:Nat} {b d:Blk} {c e:List Ch} (g:Ex.Good β H w) (hk:AB H k=some b) (ht:AB H t=some d)
  (hc:∀ l,AH β b.cs l→AH (Ap β [k,t] 2) c l) (he:∀ l,AH β d.cs l→AH (Ap β [k,t] 2) e l) (hw:G7 c=true:=by rfl) (hv:G7 e=true:=by rfl):Ex.Good (Ap β [k,t] 2) [(0,some (AU c)),(1,some (AU e))] w:=by
 refine P' (ρ:=[k,t]) (bs:=[AU c,AU e]) g (fun j z hj=>?_) fun i j z hi hr=>?_
 ·match j,hj with
  | 0,hj=>injection hj with hj;subst hj;exact ⟨b,hk,.inl ⟨rfl,hw⟩,hc⟩
  | 1,hj=>injection hj with hj;subst hj;exact ⟨d,ht,.inl ⟨rfl,hv⟩,he⟩
 ·match i,hi with
  | 0,hi=>injection hi with hi;subst hi;exact absurd rfl hr
  | 1,hi=>injection hi with hi;subst hi;exact absurd rfl hr
theorem lX {β:Env} {H:Heap} {w:World} {k t:Nat} {b d:Blk} {c e:List Ch} (g:Ex.Good β H w) (hk:AB H k=some b) (ht:AB H t=some d) (hne:k≠t)
  (hc:∀ l,AH β b.cs l→AH (Ap β [k,t] 2) c l) (he:∀ l,AH β d.cs l→AH (Ap β [k,t] 2) e l):Ex.Good (Ap β [k,t] 2) [(0,some ⟨b.ty,c,b.opn⟩),(1,some ⟨d.ty,e,d.opn⟩)] w:=by
 refine P' (ρ:=[k,t]) (bs:=[⟨b.ty,c,b.opn⟩,⟨d.ty,e,d.opn⟩]) g (fun j z hj=>?_) fun i j z hi hr hij hj=>?_
 ·match j,hj with
  | 0,hj=>injection hj with hj;subst hj;exact ⟨b,hk,.inr ⟨rfl,rfl⟩,hc⟩
  | 1,hj=>injection hj with hj;subst hj;exact ⟨d,ht,.inr ⟨rfl,rfl⟩,he⟩
 ·match i,j,hi,hj,hij with
  | 0,1,_,_,_=>exact hne
  | 1,0,_,_,_=>exact hne.symm
  | 0,0,_,_,q=>exact absurd rfl q
  | 1,1,_,_,q=>exact absurd rfl q
theorem Ts {β0:Env} {w0:World} {W:List Nat} {v:AV} {j:Nat} {ty:TypeId} {o:Bool} {c c':List Ch} (hc:∀ (β:Env) l,AH β c l→AH β c' l) {e:Ending} {w:World} (h:A7 β0 w0 W v [(j,some ⟨ty,c,o⟩)] e w):A7 β0 w0 W v [(j,some ⟨ty,c',o⟩)] e w:=by
 obtain ⟨u,β,h1,h2⟩:=h
 have hg:∀ b blk,AB [(j,some (⟨ty,c',o⟩:Blk))] b=some blk→b=j∧blk=⟨ty,c',o⟩∧AB [(j,some (⟨ty,c,o⟩:Blk))] b=some ⟨ty,c,o⟩:=by
  intro b blk hb
  simp only [AB] at hb ⊢
  split at hb
  ·rename_i hbj
   injection hb with hb
   exact ⟨(Ad.1 hbj).symm,hb.symm,rfl⟩
  ·cases hb
 refine ⟨u,β,h1,{ h2 with good:=⟨fun b blk hb=>?_,fun b b' B n n' q1 q2 q3 q4=>?_,h2.good.lt⟩ }⟩
 ·obtain ⟨e1,e2,e3⟩:=hg b blk hb
  subst e2
  exact Tr (d:=⟨ty,c',o⟩) (h2.good.heap b _ e3) rfl (.inr ⟨rfl,rfl⟩) (hc β)
 ·obtain ⟨x,hx,_⟩:=FB q1
  obtain ⟨y,hy⟩:=Option.isSome_iff_exists.1 q2
  rw [(hg b x hx).1,(hg b' y hy).1]
def CH (x:Int) (y T:Nat):Nat→Int
 | 0=>0
 | i+1=>mW (mW (H6 x (AF y i)+B3 (Ec x (AF y i)) (CH x y T i) 0)+B3 (AF T i) (Bl (Ec x (AF y i)) (CH x y T i) 0) 0)
def BL (x:Int) (y T i:Nat):Int:=Bl (AF T i) (Bl (Ec x (AF y i)) (CH x y T i) 0) 0
def Kr (x:Int) (y T:Nat):Int:=Bl (AF T 6) (CH x y T 6) 0
def OE (x:Int) (y T:Nat):Int:=mW (AF T 7+B3 (AF T 6) (CH x y T 6) 0)
theorem lY {a T c:Int} (ha:0≤a∧a≤340282366920938463426481119284349108225) (hT:0≤T∧T<18446744073709551616) (hc:0≤c∧c<18446744073709551616) :
  a+T+c=Bl T (Bl (a % 18446744073709551616) c 0) 0+18446744073709551616*mW (mW (a / 18446744073709551616+B3 (a % 18446744073709551616) c 0)+B3 T (Bl (a % 18446744073709551616) c 0) 0) ∧
  (0≤mW (mW (a / 18446744073709551616+B3 (a % 18446744073709551616) c 0)+B3 T (Bl (a % 18446744073709551616) c 0) 0)∧mW (mW (a / 18446744073709551616+B3 (a % 18446744073709551616) c 0)+B3 T (Bl (a % 18446744073709551616) c 0) 0)<18446744073709551616):=by
 simp only [Dt]
 unfold Bl B3
 omega
theorem YZ {x y:Int} (hx:0≤x∧x<18446744073709551616) (hy:0≤y∧y<18446744073709551616):0≤x*y∧x*y≤340282366920938463426481119284349108225:=by
 refine ⟨Int.mul_nonneg hx.1 hy.1,?_⟩
 have:=Int.mul_le_mul (show x≤18446744073709551615 by omega) (show y≤18446744073709551615 by omega) hy.1 (by decide)
 omega
theorem Yg {x:Int} (hx:0≤x∧x<18446744073709551616) (y T:Nat):∀ i,0≤CH x y T i∧CH x y T i<18446744073709551616
 | 0=>by simp [CH]
 | i+1=>(lY (YZ hx (BF y i)) (BF T i) (Yg hx y T i)).2
theorem OF {x:Int} (hx:0≤x∧x<18446744073709551616) (y T i:Nat):x*AF y i+AF T i+CH x y T i=BL x y T i+18446744073709551616*CH x y T (i+1) :=
 (lY (YZ hx (BF y i)) (BF T i) (Yg hx y T i)).1
def R8:Nat:=13407807929942597099574024998205846127479365820592393377723561443721764030073546976801874298166903427690031858186486050853753882811946569946433649006084096
theorem l5:R8=2^(64*8):=by kernel_rfl
def Ez (T:Nat) (x:Int) (y:Nat):Nat:=(T+x.toNat*y) % R8
def H8 (x:Int) (y T:Nat):List Int:=[BL x y T 0,BL x y T 1,BL x y T 2,BL x y T 3,BL x y T 4,BL x y T 5,Kr x y T,OE x y T]
def QB (x:Int) (y T:Nat):List Int:=[BL x y T 1,BL x y T 2,BL x y T 3,BL x y T 4,BL x y T 5,Kr x y T,OE x y T,0]
theorem ACg {x:Int} (hx:0≤x∧x<18446744073709551616) {y T:Nat} (hy:y<RR) (hT:T<R8) :
  ((Ez T x y:Nat):Int)=BV (H8 x y T)∧((Ez T x y / 18446744073709551616:Nat):Int)=BV (QB x y T):=by
 have e0:x*AF y 0+AF T 0+CH x y T 0=BL x y T 0+18446744073709551616*CH x y T 1:=OF hx y T 0
 have e1:x*AF y 1+AF T 1+CH x y T 1=BL x y T 1+18446744073709551616*CH x y T 2:=OF hx y T 1
 have e2:x*AF y 2+AF T 2+CH x y T 2=BL x y T 2+18446744073709551616*CH x y T 3:=OF hx y T 2
 have e3:x*AF y 3+AF T 3+CH x y T 3=BL x y T 3+18446744073709551616*CH x y T 4:=OF hx y T 3
 have e4:x*AF y 4+AF T 4+CH x y T 4=BL x y T 4+18446744073709551616*CH x y T 5:=OF hx y T 4
 have e5:x*AF y 5+AF T 5+CH x y T 5=BL x y T 5+18446744073709551616*CH x y T 6:=OF hx y T 5
 have z:CH x y T 0=0:=rfl
 have c6:=Yg hx y T 6
 have t6:=BF T 6
 have t7:=BF T 7
 have e6:AF T 6+CH x y T 6=Kr x y T+18446744073709551616*B3 (AF T 6) (CH x y T 6) 0:=by unfold Kr Bl B3;omega
 have b0:0≤BL x y T 0∧BL x y T 0<18446744073709551616:=by unfold BL Bl;omega
 have b1:0≤BL x y T 1∧BL x y T 1<18446744073709551616:=by unfold BL Bl;omega
 have b2:0≤BL x y T 2∧BL x y T 2<18446744073709551616:=by unfold BL Bl;omega
 have b3:0≤BL x y T 3∧BL x y T 3<18446744073709551616:=by unfold BL Bl;omega
 have b4:0≤BL x y T 4∧BL x y T 4<18446744073709551616:=by unfold BL Bl;omega
 have b5:0≤BL x y T 5∧BL x y T 5<18446744073709551616:=by unfold BL Bl;omega
 have b6:0≤Kr x y T∧Kr x y T<18446744073709551616:=by unfold Kr Bl;omega
 have e7:OE x y T=(AF T 7+B3 (AF T 6) (CH x y T 6) 0) % 18446744073709551616:=Dt _
 have dT:=Tp 8 T (by rw [← l5];exact hT)
 have dy:=Tp 6 y (by rw [← Dd];exact hy)
 have dT':BV [AF T 0,AF T 1,AF T 2,AF T 3,AF T 4,AF T 5,AF T 6,AF T 7]=T:=dT
 have dy':BV [AF y 0,AF y 1,AF y 2,AF y 3,AF y 4,AF y 5]=y:=dy
 have em:x*(y:Int)=BV [x*AF y 0,x*AF y 1,x*AF y 2,x*AF y 3,x*AF y 4,x*AF y 5]:=by
  rw [← dy']
  simp only [BV,Int.mul_add,Int.mul_zero,Int.mul_left_comm x 18446744073709551616]
 have key:((T+x.toNat*y:Nat):Int)=BV (H8 x y T)+(R8:Nat)*((AF T 7+B3 (AF T 6) (CH x y T 6) 0) / 18446744073709551616):=by
  have:((x.toNat*y:Nat):Int)=x*y:=by rw [Int.natCast_mul,Int.toNat_of_nonneg hx.1]
  rw [Int.natCast_add,this,em,← dT']
  clear em this dT dy dT' dy'
  generalize x*AF y 0=q0 at *
  generalize x*AF y 1=q1 at *
  generalize x*AF y 2=q2 at *
  generalize x*AF y 3=q3 at *
  generalize x*AF y 4=q4 at *
  generalize x*AF y 5=q5 at *
  generalize B3 (AF T 6) (CH x y T 6) 0=o at *
  unfold H8 R8
  simp only [BV]
  omega
 have hbd:0≤BV (H8 x y T)∧BV (H8 x y T)<(R8:Nat):=by
  have b7:0≤OE x y T∧OE x y T<18446744073709551616:=by omega
  clear key em dT dy dT' dy' e0 e1 e2 e3 e4 e5 e6 e7
  unfold H8 R8
  simp only [BV]
  omega
 have h0:((Ez T x y:Nat):Int)=BV (H8 x y T):=by
  unfold Ez
  rw [Int.natCast_emod,key,Int.add_mul_emod_self_left,Int.emod_eq_of_lt hbd.1 hbd.2]
 refine ⟨h0,?_⟩
 rw [Int.natCast_ediv,h0]
 have:BV (H8 x y T)=BL x y T 0+18446744073709551616*BV (QB x y T):=by
  unfold H8 QB
  simp only [BV]
  omega
 omega
def Ks (y T:Nat):Heap:=[(0,some ⟨30,[.num 6 y],false⟩),(1,some ⟨197,[.num 8 T],false⟩)]
def Kt (x s:Int):List AV:=[.val false [.v (.int .u64 x)],.val false [.p 0 0],.val false [.n .i64 s],.val false [.p 1 0]]
def H9:Nat→List (Bool×Bool)
 | 0=>[]
 | n+1=>(true,true)::H9 n
theorem OG:∀ n,AP (H9 n)
 | 0=>trivial
 | n+1=>⟨rfl,OG n⟩
theorem ACh (x:Int) (y T:Nat):AQ Tryz.prog (AJ S5 K0) Tryz.f188 600 2 [1] (Ah Tryz.f188 (Kt x 0) (Ks y T) 2 []) =
 some (H9 15,[1],.tup [],[(1,some ⟨197,P_ (H8 x y T),false⟩)]):=by kernel_rfl
def nv:Ch→Ch
 | .n k i=>.v (.int k i)
 | c=>c
theorem ACi {β:Env} {c:Ch} {l:List Value} (h:A2 β c l):A2 β (nv c) l:=by
 cases c<;>try exact h
 exact ⟨h.1,rfl,h.2⟩
theorem QD {β:Env}:∀ {cs:List Ch} {l:List Value},AH β cs l→AH β (cs.map nv) l
 | [],_,h=>h
 | _::_,_,⟨l1,l2,h1,h2,h3⟩=>⟨l1,l2,ACi h1,QD h2,h3⟩
def l6 (x:Int) (y T:Nat):List Ch:=[.v (.int .u64 (BL x y T 1)),.v (.int .u64 (BL x y T 2)),.v (.int .u64 (BL x y T 3)),.v (.int .u64 (BL x y T 4)),.v (.int .u64 (BL x y T 5)),.v (.int .u64 (Kr x y T)),.v (.int .u64 (OE x y T)),.n .u64 0]
theorem ACj (x:Int) (y T:Nat):AQ Tryz.prog (AJ S5 K0) Tryz.f188 600 2 [1] (Ah Tryz.f188 (Kt x 1) (Ks y T) 2 []) =
 some (H9 15,[1],.tup [],[(1,some ⟨197,l6 x y T,false⟩)]):=by kernel_rfl
theorem ACk (x:Int) (y T:Nat):P_ (QB x y T)=(l6 x y T).map nv:=rfl
def QE (T:Nat):Heap:=[(1,some ⟨197,[.num 8 T],false⟩)]
theorem l7 {x:Int} (hx:0≤x∧x<18446744073709551616) {y T:Nat} (hy:y<RR) (hT:T<R8) :
  AY Tryz.prog 188 (Kt x 0) (Ks y T) 2 [1] (.tup []) (QE (Ez T x y))∧AY Tryz.prog 188 (Kt x 1) (Ks y T) 2 [1] (.tup []) (QE (Ez T x y / 18446744073709551616)):=by
 obtain ⟨h0,h1⟩:=ACg hx hy hT
 constructor
 ·intro β us w ha hg hf
  have:=Ax Tryz.func188 (by kernel_rfl) (args0:=Kt x 0) (H0:=Ks y T) (k0:=2) (path:=[]) (W:=[1]) (by kernel_rfl) (fun β0 w0 hb=>Aw (AN To AZ) AE Tryz.func188 (ACh x y T) (OG _) (AR (by kernel_rfl)) hb (fun _ h=>h)) β us w ha hg hf
  exact Calls.mono this fun e w' h=>Ts (fun _ _ hr=>lV h0 hr) h
 ·intro β us w ha hg hf
  have:=Ax Tryz.func188 (by kernel_rfl) (args0:=Kt x 1) (H0:=Ks y T) (k0:=2) (path:=[]) (W:=[1]) (by kernel_rfl) (fun β0 w0 hb=>Aw (AN To AZ) AE Tryz.func188 (ACj x y T) (OG _) (AR (by kernel_rfl)) hb (fun _ h=>h)) β us w ha hg hf
  exact Calls.mono this fun e w' h=>Ts (fun _ _ hr=>lV (ds:=QB x y T) h1 (by rw [ACk];exact QD hr)) h
def Yi (k t fr:Nat) (T:Nat) (path:List Bool):R:=Az [k,t] 2 fr 0 [1] (.tup []) (QE T) [] path
def stepSpec:ASpec:=fun args H fr path =>
 match args with
 | [X,.val false [.p k 0],.val false [.n .i64 s],.val false [.p t 0]]=>match A' (some X),AB H k,AB H t with
  | some (_,.u64,x),some ⟨ty1,c1,false⟩,some ⟨ty2,c2,false⟩=>match Nat.beq ty1 30,Nat.beq ty2 197,B8 6 c1,B8 8 c2,Nat.beq k t with
   | true,true,some y,some T,false=>match s with
    | .ofNat 0=>some (Yi k t fr (Ez T x y) path)
    | .ofNat 1=>some (Yi k t fr (Ez T x y / 18446744073709551616) path)
    | _=>none
   | _,_,_,_,_=>none
  | _,_,_=>none
 | _=>none
theorem GQ {β:Env} {H:Heap} {w:World} {k:Nat} {b:Blk} (g:Ex.Good β H w) (h:AB H k=some b):∃ l,AH β b.cs l:=by
 rcases g.heap k b h with ⟨_,_,l,_,_,_,_,_,h,_⟩ | ⟨_,_,h⟩ | ⟨_,l,_,_,_,_,h,_⟩
 ·exact ⟨l,h⟩
 ·exact ⟨_,h⟩
 ·exact ⟨_,h⟩
theorem ACl:A6 Tryz.prog 188 stepSpec:=by
 refine GO Tryz.func188 (by kernel_rfl) (by kernel_rfl) fun args H fr path r h=>?_
 unfold stepSpec at h
 split at h
 case h_2=>cases h
 rename_i X k s t
 split at h
 case h_2=>cases h
 rename_i c0 x ty1 c1 ty2 c2 hX hk ht
 split at h
 case h_2=>cases h
 rename_i y T q1 q2 hy hT hne
 have q1':=Ad.1 q1
 have q2':=Ad.1 q2
 subst q1';subst q2'
 have hne':k≠t:=fun e=>by subst e;rw [Ad.2 rfl] at hne;cases hne
 have core:∀ (v:Nat) (r:R),r=Yi k t fr v path→(∀ (hx:0≤x∧x<18446744073709551616) (_:y<RR) (_:T<R8),AY Tryz.prog 188 (Kt x s) (Ks y T) 2 [1] (.tup []) (QE v))→∃ (ρ:List Nat) (args0:List AV) (H0:Heap) (k0 nw:Nat) (W:List Nat) (val:AV) (H1:Heap) (conds:List (Bool×Bool)) (path':List Bool),
   r=Az ρ k0 fr nw W val H1 conds path'∧(∀ β us w,Aq β [X,.val false [.p k 0],.val false [.n .i64 s],.val false [.p t 0]] us→Ex.Good β H w→AP conds→AY Tryz.prog 188 args0 H0 k0 W val H1∧Ct k0 nw W val H1=true∧Aq (Ap β ρ k0) args0 us∧Ex.Good (Ap β ρ k0) H0 w∧(∀ k,k<k0→∃ X,β (nth ρ k)=some X)):=by
  intro v r hr hc
  refine ⟨[k,t],Kt x s,Ks y T,2,0,[1],.tup [],QE v,[],path,hr,fun β us w ha hg _=>?_⟩
  obtain ⟨u1,us1,r1,⟨u2,us2,r2,⟨u3,us3,r3,⟨u4,us4,r4,ha,rfl⟩,rfl⟩,rfl⟩,rfl⟩:=ha
  obtain ⟨rfl,p1⟩:=Bt (β:=β) (u:=u1) (fun A hA=>by injection hA with hA;subst hA;exact r1) hX
  obtain ⟨l1,g1⟩:=GQ hg hk
  obtain ⟨l2,g2⟩:=GQ hg ht
  refine ⟨hc (C' p1) (by rw [Dd];exact (EO hy g1).2) (by rw [l5];exact (EO hT g2).2),by kernel_rfl,⟨_,_,Am ⟨rfl,rfl,p1⟩,⟨u2,_,?_,⟨u3,_,?_,⟨u4,us4,?_,ha,rfl⟩,rfl⟩,rfl⟩,rfl⟩,lX hg hk ht hne' (fun l h=>Ef hy h) (fun l h=>Ef hT h),fun j hj=>?_⟩
  ·exact r2
  ·exact r3
  ·exact r4
  ·match j,hj with
   | 0,_=>exact BH (hg.heap _ _ hk)
   | 1,_=>exact BH (hg.heap _ _ ht)
 split at h
 ·injection h with h
  exact core _ _ h.symm fun a b c=>(l7 a b c).1
 ·injection h with h
  exact core _ _ h.symm fun a b c=>(l7 a b c).2
 ·cases h
def S6:List (FuncId×ASpec):=(188,stepSpec)::S5
theorem Yj:AM Tryz.prog S6:=⟨ACl,To⟩
def mP:Int:=0x89f3fffcfffcfffd
def QF (T:Nat) (x:Int) (b:Nat):Nat:=Ez (Ez T x b) (mW (AF (Ez T x b) 0*mP)) pN / 18446744073709551616
def HI (a b:Nat):Nat→Nat
 | 0=>0
 | i+1=>QF (HI a b i) (AF a i) b
def Yk (T:Nat):Nat:=Fw (Kp (AF T 0) (AF T 1) (AF T 2) (AF T 3) (AF T 4) (AF T 5)) (AF T 6).toNat
theorem ACm (x y:Nat):AX Tryz.prog (AJ S6 K0) Tryz.f130 [Ao x,Ao y] [] 3000=some (H9 2,Ao (Yk (HI x y 6))):=by kernel_rfl
def RI:Nat:=3231460744492646417066832100176244795738767926513225105051837195607029917124509527734802654356338138714468589979680
theorem l9:RR*RI % pN=1:=by kernel_rfl
theorem Yl (x i:Nat):(AF x i).toNat=x / 2^(64*i) % 2^64:=by unfold AF;omega
theorem ACn:0x89f3fffcfffcfffd*pN % 18446744073709551616=18446744073709551615:=by kernel_rfl
theorem ACo {s q:Nat} (h:q % 18446744073709551616=s % 18446744073709551616*18446744073709551615 % 18446744073709551616):(s+q) % 18446744073709551616=0:=by omega
theorem ACp (s:Nat):(s+(s % 18446744073709551616*0x89f3fffcfffcfffd % 18446744073709551616)*pN) % 18446744073709551616=0:=by
 apply ACo
 rw [Nat.mod_mul_mod,Nat.mul_assoc,Nat.mul_mod (s % 18446744073709551616) (0x89f3fffcfffcfffd*pN),ACn,Nat.mod_mod]
theorem MR (n:Nat):mW (n:Int)=((n % 18446744073709551616:Nat):Int):=by rw [Dt];omega
theorem ACq {T:Nat} {x:Int} {b:Nat} (hx:0≤x∧x<18446744073709551616) (hb:b<pN) (hT:T<b+pN):∃ m,QF T x b*18446744073709551616=T+x.toNat*b+m*pN∧QF T x b<b+pN:=by
 have hp:pN+pN<RR:=P8
 have hx2:x.toNat≤18446744073709551615:=by omega
 have h1:x.toNat*b≤18446744073709551615*b:=Nat.mul_le_mul_right b hx2
 have s1:Ez T x b=T+x.toNat*b:=by
  unfold Ez
  refine Nat.mod_eq_of_lt ?_
  unfold RR at hp;unfold R8
  omega
 have hm:(mW (AF (T+x.toNat*b) 0*mP)).toNat=(T+x.toNat*b) % 18446744073709551616*0x89f3fffcfffcfffd % 18446744073709551616:=by
  have e1:AF (T+x.toNat*b) 0=(((T+x.toNat*b) % 18446744073709551616:Nat):Int):=by
   simp only [AF,Nat.mul_zero,Nat.pow_zero,Nat.div_one]
  have e2:mP=((0x89f3fffcfffcfffd:Nat):Int):=rfl
  rw [e1,e2,← Int.natCast_mul,MR,Int.toNat_natCast]
 have hz:=ACp (T+x.toNat*b)
 unfold QF
 rw [s1]
 have h2:Ez (T+x.toNat*b) (mW (AF (T+x.toNat*b) 0*mP)) pN=T+x.toNat*b+(T+x.toNat*b) % 18446744073709551616*0x89f3fffcfffcfffd % 18446744073709551616*pN:=by
  unfold Ez
  rw [hm]
  refine Nat.mod_eq_of_lt ?_
  have h3:(T+x.toNat*b) % 18446744073709551616*0x89f3fffcfffcfffd % 18446744073709551616≤18446744073709551615:=by omega
  have h4:=Nat.mul_le_mul_right pN h3
  unfold RR at hp;unfold R8
  omega
 rw [h2]
 refine ⟨(T+x.toNat*b) % 18446744073709551616*0x89f3fffcfffcfffd % 18446744073709551616,?_,?_⟩
 ·omega
 ·have h3:(T+x.toNat*b) % 18446744073709551616*0x89f3fffcfffcfffd % 18446744073709551616≤18446744073709551615:=by omega
  have h4:=Nat.mul_le_mul_right pN h3
  generalize (T+x.toNat*b) % 18446744073709551616*0x89f3fffcfffcfffd % 18446744073709551616*pN=q at *
  generalize x.toNat*b=r at *
  omega
theorem mA {a b:Nat} (hb:b<pN):∀ i,∃ k,HI a b i*2^(64*i)=a % 2^(64*i)*b+k*pN∧HI a b i<b+pN
 | 0=>⟨0,by simp [HI,Nat.mod_one],by have:=Cp;simp only [HI];omega⟩
 | i+1=>by
  obtain ⟨k,h1,h2⟩:=mA (a:=a) hb i
  obtain ⟨m,h3,h4⟩:=ACq (C' (SI a i)) hb h2
  refine ⟨k+m*2^(64*i),?_,h4⟩
  rw [Yl] at h3
  have e:2^(64*(i+1))=18446744073709551616*2^(64*i):=by rw [show 64*(i+1)=64+64*i by omega,Nat.pow_add]
  have e2:a % 2^(64*(i+1))=a % 2^(64*i)+2^(64*i)*(a / 2^(64*i) % 2^64):=by
   rw [show 64*(i+1)=64*i+64 by omega,Nat.pow_add,Nat.mod_mul]
  rw [e2,e]
  show QF (HI a b i) (AF a i) b*_=_
  rw [← Nat.mul_assoc,h3,Nat.add_mul,Nat.add_mul,h1,Nat.add_mul,Nat.add_mul]
  rw [Nat.mul_right_comm (a / 2^(64*i) % 2^64) b,Nat.mul_comm (a / 2^(64*i) % 2^64) (2^(64*i)),Nat.mul_right_comm m pN]
  omega
def Cw (x y:Nat):Nat:=Yk (HI x y 6)
theorem mB {x:Nat} (h:x<RR):Kp (AF x 0) (AF x 1) (AF x 2) (AF x 3) (AF x 4) (AF x 5)=x:=by
 have h1:=MK (x:=x) (by rw [← Dd];exact h)
 have h2:=(Tm (BF x 0) (BF x 1) (BF x 2) (BF x 3) (BF x 4) (BF x 5)).1
 omega
theorem OH {x y:Nat} (hx:x<RR) (hy:y<pN):Cw x y=x*y*RI % pN:=by
 obtain ⟨k,h1,h2⟩:=mA (a:=x) hy 6
 have hp:=P8
 have hlt:HI x y 6<RR:=by omega
 unfold Cw Yk
 rw [mB hlt,Yl,← Dd] at *
 have e6:HI x y 6 / RR=0:=Nat.div_eq_of_lt hlt
 rw [e6,Nat.zero_mod,YY (by omega)]
 try rw [Nat.mod_eq_of_lt hx] at h1
 have h3:HI x y 6*RR*RI % pN=x*y*RI % pN:=by
  rw [h1,Nat.add_mul,Nat.mul_right_comm k pN,Nat.add_mul_mod_self_right]
 rw [← h3,Nat.mul_assoc,Nat.mul_mod,l9,Nat.mul_one,Nat.mod_mod]
theorem ACr (x y:Nat):AW Tryz.prog 130 [Ao x,Ao y] (Ao (Cw x y)):=Ac (AN Yj AZ) AE Tryz.func130 (ACm x y) (OG _) rfl
def Fx:Nat:=2708263910654730174793787626328176511836455197166317677006154293982164122222515399004018013397331347120527951271750
theorem ACs:AX Tryz.prog (AJ S6 K0) Tryz.f131 [] [] 100=some ([],.val true [.n .u64 0xf4df1f341c341746,.n .u64 0xa76e6a609d104f1,.n .u64 0x8de5476c4c95b6d5,.n .u64 0x67eb88a9939d83c0,.n .u64 0x9a793e85b519952d,.n .u64 0x11988fe592cae3aa]):=by kernel_rfl
theorem QG {f:FuncId} {v v':AV} (h:AW Tryz.prog f [] v) (hv:∀ u,AG B0 v u→AG B0 v' u):∀ args w,(match args with | []=>some v' | _=>none)=some w→AW Tryz.prog f args w:=by
 intro args w hs
 split at hs
 ·injection hs with hs;subst hs
  intro us w ha
  refine Calls.mono (h us w ha) ?_
  rintro e w' ⟨u,h1,h2,h3⟩
  exact ⟨u,h1,hv u h2,h3⟩
 ·cases hs
theorem ACt:AW Tryz.prog 131 [] (.val true [.n .u64 0xf4df1f341c341746,.n .u64 0xa76e6a609d104f1,.n .u64 0x8de5476c4c95b6d5,.n .u64 0x67eb88a9939d83c0,.n .u64 0x9a793e85b519952d,.n .u64 0x11988fe592cae3aa]):=Ac (AN Yj AZ) AE Tryz.func131 ACs trivial rfl
theorem Tt {β:Env} {a:List Ch} {x:Nat} (h:B8 6 a=some x) {u:Value} (hr:AG β (.val true a) u):AG β (Ao x) u:=(N_ h hr).1
def S7:List (FuncId×ASpec):=(131,As fun args=>match args with | []=>some (Ao Fx) | _=>none)::(130,As (MO fun x y=>Ao (Cw x y)))::S6
theorem mC:AM Tryz.prog S7:=⟨Av Tryz.func131 (by kernel_rfl) (by kernel_rfl) (QG ACt fun u h=>Tt (by kernel_rfl) h),Av Tryz.func130 (by kernel_rfl) (by kernel_rfl) (P9 fun x y _ _=>ACr x y),Yj⟩
theorem ACu (x y:Nat):AX Tryz.prog (AJ S7 K0) Tryz.f76 [Ao x,Ao y] [] 300=some ([],Ao (Cw (Cw (x % pN) (y % pN)) Fx)):=by kernel_rfl
def Ag (x y:Nat):Nat:=x*y % pN
theorem ACv:Fx*RI % pN*RI % pN=1:=by kernel_rfl
theorem mD:Fx<pN:=by decide
theorem ACw {x y:Nat} (hx:x<RR) (hy:y<pN):Cw x y<pN:=by rw [OH hx hy];exact Nat.mod_lt _ Cp
theorem ACx (x y:Nat):Cw (Cw (x % pN) (y % pN)) Fx=Ag x y:=by
 have h1:=OD x
 have h2:=H7 y
 have h3:=ACw h1 h2
 rw [OH (Nat.lt_trans h3 (by decide)) mD,OH h1 h2]
 unfold Ag
 have:=ACv
 rw [Nat.mod_mul_mod] at this
 rw [Nat.mul_assoc,Nat.mod_mul_mod,show x % pN*(y % pN)*RI*(Fx*RI)=(x % pN*(y % pN))*(Fx*RI*RI) by simp only [Nat.mul_comm,Nat.mul_left_comm],Nat.mul_mod,this,Nat.mul_one,Nat.mod_mod,← Nat.mul_mod]
theorem mE (x y:Nat):AW Tryz.prog 76 [Ao x,Ao y] (Ao (Ag x y)):=by
 rw [← ACx]
 exact Ac (AN mC AZ) AE Tryz.func76 (ACu x y) trivial rfl
def S8:List (FuncId×ASpec):=(76,As (MO fun x y=>Ao (Ag x y)))::S7
theorem QH:AM Tryz.prog S8:=⟨Av Tryz.func76 (by kernel_rfl) (by kernel_rfl) (P9 fun x y _ _=>mE x y),mC⟩
def wI (z:Int):Int:=IntKind.i64.wrap z
theorem A4 {z:Int} (h:-9223372036854775808≤z∧z≤9223372036854775807):wI z=z:=by unfold wI;rw [IntKind.wrap_i64];omega
def H_ (v s:Int):Int:=bits .and .u64 (Int.fdiv v (2^min s.toNat 64)) 1
theorem Ym (v s:Nat) (hv:v<18446744073709551616) (hs:s<64):H_ v s=((v / 2^s % 2:Nat):Int):=by
 unfold H_
 rw [Int.toNat_natCast,Nat.min_eq_left (by omega),Int.fdiv_eq_ediv_of_nonneg _ (by exact_mod_cast Nat.zero_le (2^s))]
 have e:((v:Int) / 2^s)=((v / 2^s:Nat):Int):=by
  rw [Int.natCast_ediv,Int.natCast_pow];rfl
 rw [e]
 have hlt:v / 2^s<18446744073709551616:=Nat.lt_of_le_of_lt (Nat.div_le_self _ _) hv
 have h:=(bits_nat .u64 64 (by decide) (fun n h0 h1=>by rw [IntKind.wrap_u64];omega) (v / 2^s) 1 (by omega) (by decide)).1
 refine Eq.trans h ?_
 rw [Nat.and_one_is_mod]
def AL:List Int→Nat
 | []=>0
 | d::r=>d.toNat+18446744073709551616*AL r
theorem QI:∀ (ws:List Int) (j:Nat),(∀ d∈ws,0≤d∧d<18446744073709551616)→AL ws / 2^(64*j) % 2^64=(ws.getD j 0).toNat
 | [],j,_=>by simp [AL]
 | d::r,0,h=>by
  have:=h d (by simp)
  simp only [AL,Nat.mul_zero,Nat.pow_zero,Nat.div_one,List.getD_cons_zero]
  omega
 | d::r,j+1,h=>by
  have hd:=h d (by simp)
  have ih:=QI r j fun d h'=>h d (by simp [h'])
  rw [show 64*(j+1)=64+64*j by omega,Nat.pow_add,← Nat.div_div_eq_div_mul]
  have:AL (d::r) / 2^64=AL r:=by simp only [AL];omega
  rw [this,ih];rfl
theorem I_:∀ (ws:List Int),(∀ d∈ws,0≤d∧d<18446744073709551616)→AL ws<2^(64*ws.length)
 | [],_=>by simp [AL]
 | d::r,h=>by
  have hd:=h d (by simp)
  have ih:=I_ r fun d h'=>h d (by simp [h'])
  rw [List.length_cons,show 64*(r.length+1)=64+64*r.length by omega,Nat.pow_add]
  simp only [AL]
  generalize 2^(64*r.length)=Q at *
  omega
theorem Yn (ws:List Int) (i:Nat) (h:∀ d∈ws,0≤d∧d<18446744073709551616):(ws.getD (i / 64) 0).toNat / 2^(i % 64) % 2=AL ws / 2^i % 2:=by
 rw [← QI ws (i / 64) h]
 have e:2^64=2^(i % 64)*2^(64-i % 64):=by rw [← Nat.pow_add];congr 1;omega
 rw [e,Nat.mod_mul_right_div_self,Nat.div_div_eq_div_mul,← Nat.pow_add,show 64*(i / 64)+i % 64=i by omega]
 refine Nat.mod_mod_of_dvd _ ?_
 have:64-i % 64=(63-i % 64)+1:=by omega
 rw [this,Nat.pow_succ]
 exact Nat.dvd_mul_left _ _
def Eg (y:Nat):Nat:=y*RR % pN
theorem Yo (y:Nat):Eg y<pN:=Nat.mod_lt _ Cp
theorem mF:∀ y,y*(RR*RI) % pN=y % pN:=fun y=>by rw [Nat.mul_mod,l9,Nat.mul_one,Nat.mod_mod]
theorem Yp (a b:Nat):Cw (Eg a) (Eg b)=Eg (a*b):=by
 rw [OH (Nat.lt_trans (Yo a) (by decide)) (Yo b)]
 unfold Eg
 rw [Nat.mul_assoc,Nat.mod_mul_mod,Nat.mul_left_comm,Nat.mod_mul_mod,← Nat.mul_assoc,show b*RR*(a*RR)*RI=a*b*RR*(RR*RI) by simp only [Nat.mul_comm,Nat.mul_left_comm],mF]
theorem ACy:Fx*RI % pN=RR % pN:=by kernel_rfl
theorem mG {x:Nat} (hx:x<RR):Cw x Fx=Eg x:=by
 rw [OH hx mD,Nat.mul_assoc,Nat.mul_mod,ACy,← Nat.mul_mod];rfl
theorem ACz (y:Nat):Cw (Eg y) 1=y % pN:=by
 rw [OH (Nat.lt_trans (Yo y) (by decide)) (by decide),Nat.mul_one]
 unfold Eg
 rw [Nat.mod_mul_mod,Nat.mul_assoc,mF]
theorem AC0 (y:Nat):Eg (y % pN)=Eg y:=by unfold Eg;rw [Nat.mod_mul_mod]
noncomputable def AC1:List Item:=C3 (Aa Tryz.prog (AJ S8 K0) (some 0) 100 1 (some ([1,4,5,6,7],[0,2,3,4],5)) (Ah Tryz.f125 [Ao 0,.val false [.sl 0 0 0 0]] [(0,some ⟨0,[.seq .u64 []],false⟩)] 1 []))
noncomputable def AC2 (off n m:Nat) (i:Int):List AV:=.any::.val false [.sl 0 off n m]::.any::.any::.val false [.p 2 0]::.val false [.p 3 0]::.val false [.p 4 0]::.val false [.v (.int .i64 i)]::List.replicate (Tryz.f125.ntmps-8) .any
noncomputable def I' (off n m:Nat) (xs:List Int) (b acc:Nat) (i:Int) (path:List Bool):ASt:=⟨AC1,⟨AC2 off n m i,
 [(0,some (AU [.seq .u64 xs])),(2,some ⟨30,ML,false⟩),(3,some ⟨30,[.num 6 b],false⟩),(4,some ⟨30,[.num 6 acc],false⟩)],5,path⟩⟩
def QJ (x off n m:Nat):List AV:=[Ao x,.val false [.sl 0 off n m]]
def Bm (xs:List Int):Heap:=[(0,some (AU [.seq .u64 xs]))]
theorem AC3 (x off n m:Nat) (xs:List Int):Aa Tryz.prog (AJ S8 K0) (some 0) 100 1 (some ([1,4,5,6,7],[0,2,3,4],5)) (Ah Tryz.f125 (QJ x off n m) (Bm xs) 1 []) =
 some ([(AI .i64 n,true)],[],I' off n m xs (Cw (x % pN) Fx) (Cw 1 Fx) (wI (wI (64*(n:Int))-1)) []):=by kernel_rfl
def DA (xs:List Int) (off:Nat) (i:Int):Int:=xs.getD (off+(wI (Int.tdiv i 64)).toNat*1) 0
def Yq (off n:Nat) (xs:List Int) (i:Int) (EC:Bool):List (Bool×Bool):=[(decide (0≤i),true),(true,true),(decide (0≤wI (Int.tdiv i 64)∧wI (Int.tdiv i 64)<n),true),
 (decide (off+(wI (Int.tdiv i 64)).toNat*1<xs.length),true),(decide (0≤i∧(0:Int)<64),true),(decide (0≤Int.tmod i 64∧0≤DA xs off i),true),(decide (H_ (DA xs off i) (Int.tmod i 64)=1),EC)]
theorem pow_one (off n m b acc:Nat) (xs:List Int) (i:Int):Aa Tryz.prog (AJ S8 K0) (some 0) 100 1 (some ([1,4,5,6,7],[0,2,3,4],5)) (I' off n m xs b acc i [true,true]) =
 some (Yq off n xs i true,[],I' off n m xs b (Cw (Cw acc acc) b) (wI (i-1)) []):=by kernel_rfl
theorem pow_zero (off n m b acc:Nat) (xs:List Int) (i:Int):Aa Tryz.prog (AJ S8 K0) (some 0) 100 1 (some ([1,4,5,6,7],[0,2,3,4],5)) (I' off n m xs b acc i [true,false]) =
 some (Yq off n xs i false,[],I' off n m xs b (Cw acc acc) (wI (i-1)) []):=by kernel_rfl
theorem AC4 (off n m b acc:Nat) (xs:List Int) (i:Int):AQ Tryz.prog (AJ S8 K0) Tryz.f125 100 1 [] (I' off n m xs b acc i [false]) =
 some ([(decide (0≤i),false)],[],Ao (Cw acc 1),[]):=by kernel_rfl
theorem Yr (off n m b acc:Nat) (xs:List Int) (i:Int) (p:List Bool):Bp Tryz.f125.ntmps (I' off n m xs b acc i p).s:=AR (by kernel_rfl)
theorem mH (x E:Nat):∃ y,y=x^E % pN:=⟨_,rfl⟩
noncomputable def Eh (x E:Nat):Nat:=Classical.choose (mH x E)
theorem Ku (x E:Nat):Eh x E=x^E % pN:=Classical.choose_spec (mH x E)
def E0 (x E c:Nat):Nat:=Eg (x^(E / 2^c))
theorem Kv {xs:List Int} {off n:Nat} {j:Nat} (hj:j<n):((xs.drop off).take n).getD j 0=xs.getD (off+j) 0:=by
 rw [List.getD_eq_getElem?_getD,List.getD_eq_getElem?_getD,List.getElem?_take_of_lt hj,List.getElem?_drop]
section
variable {off n m:Nat} {xs:List Int} (hall:∀ d∈xs,0≤d∧d<18446744073709551616) (hlen:off+n≤xs.length) (hn:n≤1125899906842624) {x:Nat} {β0:Env} {w0:World} (hb:∀ b,1≤b→β0 b=none)
include hall hlen hn hb
theorem AC5:∀ c,c≤64*n→ASafe Tryz.prog 125 β0 w0 (A7 β0 w0 [] (Ao (Eh x (AL ((xs.drop off).take n)))) []) Tryz.f125.ntmps [] (I' off n m xs (Eg x) (E0 x (AL ((xs.drop off).take n)) c) ((c:Int)-1) []):=by
 intro c
 induction c with
 | zero =>
  intro _
  have h:ASafe Tryz.prog 125 β0 w0 (A7 β0 w0 [] (Ao (Cw (E0 x (AL ((xs.drop off).take n)) 0) 1)) []) Tryz.f125.ntmps [] (I' off n m xs (Eg x) (E0 x (AL ((xs.drop off).take n)) 0) (((0:Nat):Int)-1) [false]) :=
   Aw (AN QH AZ) AE Tryz.func125 (AC4 ..) ⟨rfl,trivial⟩ (Yr ..) hb (fun _ h=>by cases h)
  rw [show Cw (E0 x (AL ((xs.drop off).take n)) 0) 1=Eh x (AL ((xs.drop off).take n)) from by unfold E0;rw [Ku,Nat.pow_zero,Nat.div_one,ACz]] at h
  exact Af [false] h
 | succ c ih =>
  intro hc
  have hi:((c+1:Nat):Int)-1=(c:Int):=by omega
  rw [hi]
  have hlt:∀ d∈(xs.drop off).take n,0≤d∧d<18446744073709551616:=fun d hd=>hall d (List.mem_of_mem_drop (List.mem_of_mem_take hd))
  have hq:Int.tdiv (c:Int) 64=((c / 64:Nat):Int):=by rw [Int.tdiv_eq_ediv_of_nonneg (by omega)];rfl
  have hr:Int.tmod (c:Int) 64=((c % 64:Nat):Int):=by rw [Int.tmod_eq_emod_of_nonneg (by omega)];rfl
  have hw:wI (Int.tdiv (c:Int) 64)=((c / 64:Nat):Int):=by rw [hq];exact A4 (by omega)
  have hj:c / 64<n:=by omega
  have hv:DA xs off c=((xs.drop off).take n).getD (c / 64) 0:=by
   unfold DA
   rw [hw,Int.toNat_natCast,Nat.mul_one,Kv hj]
  have hvb:0≤DA xs off c∧DA xs off c<18446744073709551616:=by
   rw [hv,List.getD_eq_getElem?_getD]
   cases h:((xs.drop off).take n)[c / 64]? with
   | none=>simp
   | some d=>exact hlt d (List.mem_of_getElem? h)
  have hbit:H_ (DA xs off c) (Int.tmod c 64)=((AL ((xs.drop off).take n) / 2^c % 2:Nat):Int):=by
   obtain ⟨V,hV⟩:=Int.eq_ofNat_of_zero_le hvb.1
   rw [hr,← Yn _ c hlt,← hv,hV,Int.toNat_natCast]
   exact Ym V _ (by omega) (by omega)
  have hnext:wI ((c:Int)-1)=(c:Int)-1:=A4 (by omega)
  have hconds:∀ EC,decide (H_ (DA xs off c) (Int.tmod c 64)=1)=EC→AP (Yq off n xs c EC):=by
   intro EC hbt
   refine ⟨by simp,rfl,?_,?_,?_,?_,hbt,trivial⟩
   ·rw [hw];simp;omega
   ·rw [hw];simp;omega
   ·simp
   ·simp only [decide_eq_true_eq];rw [hr];exact ⟨by omega,hvb.1⟩
  have hdiv:AL ((xs.drop off).take n) / 2^c=2*(AL ((xs.drop off).take n) / 2^(c+1))+AL ((xs.drop off).take n) / 2^c % 2:=by
   rw [Nat.pow_succ,← Nat.div_div_eq_div_mul];omega
  have ihc:=ih (by omega)
  rcases Nat.mod_two_eq_zero_or_one (AL ((xs.drop off).take n) / 2^c) with h0 | h1
  ·refine Af [true,false] (Aj (AN QH AZ) AE (pow_zero ..) (hconds false (by rw [hbit,h0];rfl)) (Yr ..) hb (fun _ h=>by cases h) fun _=>?_)
   rw [hnext]
   have:Cw (E0 x (AL ((xs.drop off).take n)) (c+1)) (E0 x (AL ((xs.drop off).take n)) (c+1))=E0 x (AL ((xs.drop off).take n)) c:=by
    unfold E0
    rw [Yp,← Nat.pow_add]
    congr 2;omega
   rw [this]
   exact ihc
  ·refine Af [true,true] (Aj (AN QH AZ) AE (pow_one ..) (hconds true (by rw [hbit,h1];rfl)) (Yr ..) hb (fun _ h=>by cases h) fun _=>?_)
   rw [hnext]
   have:Cw (Cw (E0 x (AL ((xs.drop off).take n)) (c+1)) (E0 x (AL ((xs.drop off).take n)) (c+1))) (Eg x)=E0 x (AL ((xs.drop off).take n)) c:=by
    unfold E0
    rw [Yp,← Nat.pow_add,Yp,← Nat.pow_succ]
    congr 2;omega
   rw [this]
   exact ihc
end
theorem mI {off n m:Nat} {xs:List Int} (hall:∀ d∈xs,0≤d∧d<18446744073709551616) (hlen:off+n≤xs.length) (hn:n≤1125899906842624) (x:Nat) :
  AY Tryz.prog 125 (QJ x off n m) (Bm xs) 1 [] (Ao (Eh x (AL ((xs.drop off).take n)))) []:=by
 refine Ax (path:=[]) Tryz.func125 (by kernel_rfl) (by kernel_rfl) fun β0 w0 hb=>?_
 refine Aj (AN QH AZ) AE (AC3 x off n m xs) ⟨?_,trivial⟩ (AR (by kernel_rfl)) hb (fun _ h=>by cases h) fun _=>?_
 ·simp only [AI,Bool.and_eq_true,decide_eq_true_eq];omega
 ·have h:=AC5 hall hlen hn (x:=x) (m:=m) (w0:=w0) hb (64*n) (Nat.le_refl _)
  have e1:Cw (x % pN) Fx=Eg x:=by rw [mG (OD x),AC0]
  have e2:Cw 1 Fx=E0 x (AL ((xs.drop off).take n)) (64*n):=by
   rw [mG (by decide)]
   unfold E0
   have hl:AL ((xs.drop off).take n)<2^(64*n):=by
    have:=I_ ((xs.drop off).take n) fun d hd=>hall d (List.mem_of_mem_drop (List.mem_of_mem_take hd))
    rwa [List.length_take,List.length_drop,Nat.min_eq_left (by omega)] at this
   rw [Nat.div_eq_of_lt hl,Nat.pow_zero]
  have e3:wI (wI (64*(n:Int))-1)=((64*n:Nat):Int)-1:=by
   rw [A4 (z:=64*(n:Int)) (by omega),A4 (by omega)];omega
  rw [e1,e2,e3]
  exact h
noncomputable def powSpec:ASpec:=fun args H fr path =>
 match args with
 | [.val true a,.val false [.sl k off n _]]=>match B8 6 a,AB H k with
  | some x,some ⟨_,cs,_⟩=>match Ak .u64 cs with
   | some xs=>some (Az [k] 1 fr 0 [] (Ao (Eh x (AL ((xs.drop off).take n)))) [] [(Nat.ble (off+n) xs.length,true),(Nat.ble n 1125899906842624,true)] path)
   | none=>none
  | _,_=>none
 | _=>none
theorem mJ:A6 Tryz.prog 125 powSpec:=by
 refine GO Tryz.func125 (by kernel_rfl) (by kernel_rfl) fun args H fr path r h=>?_
 unfold powSpec at h
 split at h
 case h_2=>cases h
 rename_i a k off n m
 split at h
 case h_2=>cases h
 rename_i x ty cs o hx hk
 split at h
 case h_2=>cases h
 rename_i xs hxs
 injection h with h
 refine ⟨[k],QJ x off n m,Bm xs,1,0,[],Ao (Eh x (AL ((xs.drop off).take n))),[],_,path,h.symm,fun β us w ha hg hc=>?_⟩
 obtain ⟨u1,us1,r1,⟨u2,us2,r2,ha,rfl⟩,rfl⟩:=ha
 obtain ⟨l,g1⟩:=GQ hg hk
 obtain ⟨_,g2⟩:=Bu hxs g1
 refine ⟨mI (fun d hd=>C' (g2 d hd)) (Nat.le_of_ble_eq_true hc.1) (Nat.le_of_ble_eq_true hc.2.1) x,by kernel_rfl,⟨u1,_,?_,⟨u2,us2,?_,ha,rfl⟩,rfl⟩,QA (c:=[.seq .u64 xs]) hg hk (fun l h=>?_),fun j hj=>?_⟩
 ·obtain ⟨l,q,rfl⟩:=r1;exact ⟨l,Ef hx q,rfl⟩
 ·exact r2
 ·obtain ⟨q1,q2⟩:=Bu hxs h
  exact ⟨_,[],⟨q1,q2⟩,rfl,by simp⟩
 ·match j,hj with
  | 0,_=>exact BH (hg.heap _ _ hk)
noncomputable def S9:List (FuncId×ASpec):=(125,powSpec)::S8
theorem AC6:AM Tryz.prog S9:=⟨mJ,QH⟩
def AA (xs:List Int) (off n:Nat):List Int:=(xs.drop off).take n
theorem Du {xs:List Int} {off n:Nat} {P:Int→Prop} (h:∀ d∈xs,P d):∀ d∈AA xs off n,P d:=fun d hd=>h d (List.mem_of_mem_drop (List.mem_of_mem_take hd))
def BZ (xs:List Int) (off n:Nat) (i:Int):Int:=(AA xs off n).getD i.toNat 0
def Tu (off n m:Nat) (i:Int):List AV:=[.val false [.sl 0 off n m],.val false [.v (.int .i64 i)]]
theorem AC7 (off n m:Nat) (i:Int) (xs:List Int):AQ Tryz.prog (AJ S0 K0) Tryz.f156 100 1 [] (Ah Tryz.f156 (Tu off n m i) (Bm xs) 1 [true]) =
 some ([(AI .i64 n,true),(decide (i<n),true),(decide (0≤i∧i<n),true),(decide (off+i.toNat*1<xs.length),true)],[],.val false [.v (.int .u64 (xs.getD (off+i.toNat*1) 0))],[]):=by kernel_rfl
theorem AC8 (off n m:Nat) (i:Int) (xs:List Int):AQ Tryz.prog (AJ S0 K0) Tryz.f156 100 1 [] (Ah Tryz.f156 (Tu off n m i) (Bm xs) 1 [false]) =
 some ([(AI .i64 n,true),(decide (i<n),false)],[],.val false [.n .u64 0],[]):=by kernel_rfl
theorem Bq {P:Program} {f:FuncId} {args0:List AV} {H0 H1:Heap} {k0:Nat} {W:List Nat} {v v':AV} (h:AY P f args0 H0 k0 W v H1) (hv:∀ β u,AG β v u→AG β v' u):AY P f args0 H0 k0 W v' H1 :=
 fun β us w a b c=>Calls.mono (h β us w a b c) fun _ _ ⟨u,β',q1,q2⟩=>⟨u,β',q1,{ q2 with val:=hv _ _ q2.val }⟩
theorem mK {β:Env} {k:IntKind} {i:Int} {u:Value} (h:AG β (.val false [.n k i]) u):AG β (.val false [.v (.int k i)]) u:=QD (cs:=[.n k i]) h
theorem AC9 {off n m:Nat} {xs:List Int} (hlen:off+n≤xs.length) (hn:AI .i64 n=true) {i:Int} (hi:0≤i) :
  AY Tryz.prog 156 (Tu off n m i) (Bm xs) 1 [] (.val false [.v (.int .u64 (BZ xs off n i))]) []:=by
 by_cases h:i<n
 ·refine Ax (path:=[true]) Tryz.func156 (by kernel_rfl) (by kernel_rfl) fun β0 w0 hb=>?_
  rw [show BZ xs off n i=xs.getD (off+i.toNat*1) 0 from by rw [Nat.mul_one];exact Kv (by omega)]
  exact Aw (AN KU AZ) AE Tryz.func156 (AC7 off n m i xs) ⟨hn,by simp [h],by simp [hi,h],by simp;omega,trivial⟩ (AR (by kernel_rfl)) hb (fun _ h=>by cases h)
 ·have e:BZ xs off n i=0:=by
   unfold BZ AA
   rw [List.getD_eq_getElem?_getD,List.getElem?_eq_none (by rw [List.length_take];omega)];rfl
  rw [e]
  refine Bq (v:=.val false [.n .u64 0]) (Ax (path:=[false]) Tryz.func156 (by kernel_rfl) (by kernel_rfl) fun β0 w0 hb=>?_) fun _ _=>mK
  exact Aw (AN KU AZ) AE Tryz.func156 (AC8 off n m i xs) ⟨hn,by simp [h],trivial⟩ (AR (by kernel_rfl)) hb (fun _ h=>by cases h)
def atSpec:ASpec:=fun args H fr path =>
 match args with
 | [.val false [.sl k off n _],I]=>match A' (some I),AB H k with
  | some (_,.i64,i),some ⟨_,cs,_⟩=>match Ak .u64 cs with
   | some xs=>some (Az [k] 1 fr 0 [] (.val false [.v (.int .u64 (BZ xs off n i))]) [] [(Nat.ble (off+n) xs.length,true),(AI .i64 n,true),(decide (0≤i),true)] path)
   | none=>none
  | _,_=>none
 | _=>none
theorem OI {β:Env} {H:Heap} {w:World} {k:Nat} {ty:Nat} {cs:List Ch} {o:Bool} {xs:List Int} (hg:Ex.Good β H w) (hk:AB H k=some ⟨ty,cs,o⟩) (hxs:Ak .u64 cs=some xs) :
  (∀ d∈xs,0≤d∧d<18446744073709551616)∧Ex.Good (Ap β [k] 1) (Bm xs) w∧(∀ j,j<1→∃ X,β (nth [k] j)=some X):=by
 obtain ⟨l,g1⟩:=GQ hg hk
 obtain ⟨_,g2⟩:=Bu hxs g1
 refine ⟨fun d hd=>C' (g2 d hd),QA (c:=[.seq .u64 xs]) hg hk (fun l h=>?_),fun j hj=>?_⟩
 ·obtain ⟨q1,q2⟩:=Bu hxs h
  exact ⟨_,[],⟨q1,q2⟩,rfl,by simp⟩
 ·match j,hj with
  | 0,_=>exact BH (hg.heap _ _ hk)
theorem AC_:A6 Tryz.prog 156 atSpec:=by
 refine GO Tryz.func156 (by kernel_rfl) (by kernel_rfl) fun args H fr path r h=>?_
 unfold atSpec at h
 split at h
 case h_2=>cases h
 rename_i k off n m I
 split at h
 case h_2=>cases h
 rename_i c0 i ty cs o hI hk
 split at h
 case h_2=>cases h
 rename_i xs hxs
 injection h with h
 refine ⟨[k],Tu off n m i,Bm xs,1,0,[],_,[],_,path,h.symm,fun β us w ha hg hc=>?_⟩
 obtain ⟨u1,us1,r1,⟨u2,us2,r2,ha,rfl⟩,rfl⟩:=ha
 obtain ⟨g1,g2,g3⟩:=OI hg hk hxs
 obtain ⟨rfl,p1⟩:=Bt (β:=β) (u:=u2) (fun A hA=>by injection hA with hA;subst hA;exact r2) hI
 exact ⟨AC9 (Nat.le_of_ble_eq_true hc.1) hc.2.1 (by simpa using hc.2.2.1),by kernel_rfl,⟨u1,_,r1,⟨_,us2,Am ⟨rfl,rfl,p1⟩,ha,rfl⟩,rfl⟩,g2,g3⟩
noncomputable def S10:List (FuncId×ASpec):=(156,atSpec)::S9
theorem HJ:AM Tryz.prog S10:=⟨AC_,AC6⟩
end Go.Proofs.YtojnabmgolpodaaGreat
