/- Part 2 of the proof: ExL, ExM, ExN, ExO, ExP, ExQ, ExR, ExS, ExT, Fa, Fb, Fc, Fd, Fe, Ff, Fg, Fh, Fi, Fj, Fk, Fl, Fm, Fn, Fo, Fp, La, Lc, Fq. -/
import Derived.Test.YtjlcdlekmpjjnaaGreatPA
import Derived.Below
import Derived.ProofKit
import Derived.OpenShut
import Derived.ChangeOld
import Derived.SizedLaws
import Derived.Recover
import Derived.Test.YtjlcdlekmpjjnaaGreatProg
import Derived.Test.YtjlcdlekmpjjnaaGreatRows
namespace Go.Proofs.YtjlcdlekmpjjnaaGreat.Ex
def Im (acc:List Nat):List Edge→Nat
 | []=>0
 | e::r=>match Region.binds .any e with
  | true=>2^e.on ||| (acc.getD e.on 0 ||| Im acc r)
  | false=>Im acc r
theorem a8 {acc:List Nat} {k:Nat}:∀ {es:List Edge},(Im acc es).testBit k=true→∃ e∈es,Region.binds .any e=true∧(k=e.on∨(acc.getD e.on 0).testBit k=true)
 | [],h=>by simp [Im] at h
 | e::r,h=>by
  simp only [Im] at h
  split at h
  ·rename_i hb
   rw [Nat.testBit_or,Nat.testBit_or,Bool.or_eq_true,Bool.or_eq_true] at h
   rcases h with h | h | h
   ·rw [Nat.testBit_two_pow] at h
    exact ⟨e,by simp,hb,.inl (by simpa using (of_decide_eq_true h).symm)⟩
   ·exact ⟨e,by simp,hb,.inr h⟩
   ·obtain ⟨e',h1,h2⟩:=a8 h
    exact ⟨e',by simp [h1],h2⟩
  ·obtain ⟨e',h1,h2⟩:=a8 h
   exact ⟨e',by simp [h1],h2⟩
def G1:List Oper→List Nat→List Nat
 | [],acc=>acc
 | o::r,acc=>G1 r (acc++[Im acc o.after.toList])
theorem a9:∀ {l:List Oper} {acc:List Nat} {j:Nat},j<acc.length→(G1 l acc).getD j 0=acc.getD j 0
 | [],_,_,_=>rfl
 | o::r,acc,j,h=>by
  simp only [G1]
  rw [a9 (by simp;omega)]
  simp only [List.getD_eq_getElem?_getD]
  rw [List.getElem?_append_left h]
theorem qS:∀ {l:List Oper} {acc:List Nat} {j k:Nat} {o:Oper},l[j]? = some o→((G1 l acc).getD (acc.length+j) 0).testBit k=true →
  ∃ e∈o.after.toList,Region.binds .any e=true∧(k=e.on∨((G1 l acc).getD e.on 0).testBit k=true)
 | [],_,_,_,_,h,_=>by simp at h
 | o::r,acc,0,k,o',h,hb=>by
  simp only [List.getElem?_cons_zero,Option.some.injEq] at h
  subst h
  simp only [G1,Nat.add_zero] at hb ⊢
  rw [a9 (by simp)] at hb
  have:(acc++[Im acc o.after.toList]).getD acc.length 0=Im acc o.after.toList:=by simp [List.getD_eq_getElem?_getD]
  rw [this] at hb
  obtain ⟨e,h1,h2,h3⟩:=a8 hb
  refine ⟨e,h1,h2,h3.imp id fun h=>?_⟩
  rcases Nat.lt_or_ge e.on acc.length with hlt | hge
  ·rw [a9 (by simp;omega)]
   have:(acc++[Im acc o.after.toList]).getD e.on 0=acc.getD e.on 0:=by
    simp only [List.getD_eq_getElem?_getD]
    rw [List.getElem?_append_left hlt]
   rw [this];exact h
  ·have:acc.getD e.on 0=0:=by simp [List.getD_eq_getElem?_getD,List.getElem?_eq_none hge]
   rw [this] at h;simp at h
 | o::r,acc,j+1,k,o',h,hb=>by
  simp only [G1] at hb ⊢
  have e1:acc.length+(j+1)=(acc++[Im acc o.after.toList]).length+j:=by simp;omega
  rw [e1] at hb
  exact qS (by simpa using h) hb
def R5:List Edge→Nat→Bool
 | [],_=>true
 | e::r,i=>match Region.binds .any e with
  | true=>match Nat.blt e.on i with | true=>R5 r i | false=>false
  | false=>R5 r i
theorem bC:∀ {es:List Edge} {i:Nat},R5 es i=true→∀ e∈es,Region.binds .any e=true→e.on<i
 | [],_,_,e,h,_=>by cases h
 | e'::r,i,h,e,he,hb=>by
  simp only [R5] at h
  split at h
  ·split at h
   ·rename_i hlt
    rcases List.mem_cons.1 he with rfl | he
    ·unfold Nat.blt at hlt;exact Nat.le_of_ble_eq_true hlt
    ·exact bC h e he hb
   ·cases h
  ·rename_i hnb
   rcases List.mem_cons.1 he with rfl | he
   ·rw [hb] at hnb;cases hnb
   ·exact bC h e he hb
def PC:List Oper→Nat→Bool
 | [],_=>true
 | o::r,i=>match R5 o.after.toList i with | true=>PC r (i+1) | false=>false
theorem qU:∀ {l:List Oper} {i j:Nat} {o:Oper},PC l i=true→l[j]? = some o→∀ e∈o.after.toList,Region.binds .any e=true→e.on<i+j
 | [],_,_,_,_,h=>by simp at h
 | o::r,i,0,o',h,hj=>by
  simp only [List.getElem?_cons_zero,Option.some.injEq] at hj
  subst hj
  simp only [PC] at h
  split at h
  ·rename_i he;exact bC he
  ·cases h
 | o::r,i,j+1,o',h,hj=>by
  simp only [PC] at h
  split at h
  ·have:=qU h (by simpa using hj)
   intro e he hb
   have:=this e he hb
   omega
  ·cases h
def JZ:List Nat→List Nat→Bool
 | [],_=>true
 | x::r,l=>match GM x l with | true=>false | false=>JZ r l
theorem NN:∀ {a b:List Nat},JZ a b=true→∀ x∈a,x ∉ b
 | [],_,_,x,h=>by cases h
 | y::r,b,h,x,hx=>by
  simp only [JZ] at h
  split at h
  ·cases h
  ·rename_i hm
   rcases List.mem_cons.1 hx with rfl | hx
   ·intro hb;rw [PA.2 hb] at hm;cases hm
   ·exact NN h x hx
def LV (d:Option Nat):List Nat:=match d with | some d=>[d] | none=>[]
def qV (r s:Rec):Bool :=
 JZ (LV r.dst) s.ts&&(JZ (LV s.dst) r.ts&&(JZ (LV r.dst) (LV s.dst)&&(JZ (Il r.r.upd) s.ks&&(JZ (Il s.r.upd) r.ks&&JZ (Il r.r.upd) (Il s.r.upd)))))
def VP (l:List Nat) (fr nw:Nat):Bool:=match l with
 | []=>true
 | k::r=>match Nat.ble fr k&&Nat.blt k (fr+nw) with | true=>false | false=>VP r fr nw
theorem qW:∀ {l:List Nat} {fr nw:Nat},VP l fr nw=true→∀ k∈l,fr≤k→¬ k<fr+nw
 | [],_,_,_,k,h,_=>by cases h
 | x::r,fr,nw,h,k,hk,h1=>by
  intro h2
  simp only [VP] at h
  split at h
  ·cases h
  ·rename_i hb
   rcases List.mem_cons.1 hk with rfl | hk
   ·have e1:=Nat.ble_eq_true_of_le h1
    have e2:Nat.blt k (fr+nw)=true:=by unfold Nat.blt;exact Nat.ble_eq_true_of_le h2
    rw [e1,e2] at hb;cases hb
   ·exact qW h k hk h1 h2
def PD (r s:Rec):Bool :=
 VP s.ks r.fr r.r.nw&&qV r s
def Bs (m i:Nat):Bool:=Nat.testBit m i
def LW (i:Nat) (r:Rec):List Rec→List Nat→Bool
 | [],_=>true
 | s::L,m::ms=>match Bs m i with
  | true=>LW i r L ms
  | false=>match PD r s with | true=>LW i r L ms | false=>false
 | _::_,[]=>false
def NO:List Rec→List Nat→Nat→Bool
 | [],_,_=>true
 | r::L,_::ms,i=>match LW i r L ms with | true=>NO L ms (i+1) | false=>false
 | _::_,[],_=>false
theorem qZ {i:Nat} {r:Rec}:∀ {L:List Rec} {ms:List Nat} {j:Nat} {s:Rec},LW i r L ms=true→L[j]? = some s→(ms.getD j 0).testBit i=false→PD r s=true
 | [],_,_,_,_,h,_=>by simp at h
 | s::L,[],j,s',h,_,_=>by simp [LW] at h
 | s::L,m::ms,0,s',h,hj,hb=>by
  simp only [List.getElem?_cons_zero,Option.some.injEq] at hj
  subst hj
  simp only [LW,Bs] at h
  have hb':m.testBit i=false:=by simpa using hb
  rw [hb'] at h
  simp only at h
  split at h
  ·assumption
  ·cases h
 | s::L,m::ms,j+1,s',h,hj,hb=>by
  simp only [LW] at h
  have key:LW i r L ms=true:=by
   split at h
   ·exact h
   ·split at h
    ·exact h
    ·cases h
  exact qZ key (by simpa using hj) (by simpa using hb)
theorem bD:∀ {L:List Rec} {ms:List Nat} {i j j':Nat} {r s:Rec},NO L ms i=true→L[j]? = some r→L[j']? = some s→j<j'→(ms.getD j' 0).testBit (i+j)=false→PD r s=true
 | [],_,_,_,_,_,_,_,h,_,_,_=>by simp at h
 | q::L,[],_,_,_,_,_,h,_,_,_,_=>by simp [NO] at h
 | q::L,m::ms,i,0,j'+1,r,s,h,hj,hj',_,hb=>by
  simp only [List.getElem?_cons_zero,Option.some.injEq] at hj
  subst hj
  simp only [NO] at h
  split at h
  ·rename_i h1
   exact qZ h1 (by simpa using hj') (by simpa using hb)
  ·cases h
 | q::L,m::ms,i,j+1,j'+1,r,s,h,hj,hj',hlt,hb=>by
  simp only [NO] at h
  split at h
  ·exact bD h (by simpa using hj) (by simpa using hj') (by omega) (by rw [show i+1+j=i+(j+1) by omega];simpa using hb)
  ·cases h
 | q::L,m::ms,i,j,0,r,s,h,hj,hj',hlt,hb=>by omega
theorem VQ {r s:Rec} (h:PD r s=true) :
  (∀ d,r.dst=some d→d ∉ s.ts)∧(∀ d,s.dst=some d→d ∉ r.ts)∧(∀ d,r.dst=some d→s.dst≠some d)∧(∀ k y,(k,y)∈r.r.upd→k ∉ s.ks)∧(∀ k y,(k,y)∈s.r.upd→k ∉ r.ks)∧(∀ k y y',(k,y)∈r.r.upd→(k,y') ∉ s.r.upd):=by
 have h:=(Bool.and_eq_true_iff.1 h).2
 unfold qV at h
 simp only [Bool.and_eq_true] at h
 obtain ⟨h1,h2,h3,h4,h5,h6⟩:=h
 refine ⟨fun d hd=>NN h1 d (by simp [LV,hd]),fun d hd=>NN h2 d (by simp [LV,hd]),fun d hd he=>NN h3 d (by simp [LV,hd]) (by simp [LV,he]),
  fun k y hk=>NN h4 k (NL.2 ⟨y,hk⟩),fun k y hk=>NN h5 k (NL.2 ⟨y,hk⟩),fun k y y' hk hk'=>NN h6 k (NL.2 ⟨y,hk⟩) (NL.2 ⟨y',hk'⟩)⟩
theorem bG {H:Heap} {b:Nat}:∀ {ks:List Nat},(AG (restrict H ks) b).isSome=true→b∈ks
 | [],h=>by simp [restrict,AG] at h
 | k::r,h=>by
  simp only [restrict] at h
  split at h
  ·simp only [AG] at h
   split at h
   ·rename_i e;rw [← An.1 e];simp
   ·exact List.mem_cons_of_mem _ (bG h)
  ·exact List.mem_cons_of_mem _ (bG h)
theorem AGE {P:Program} {O:Orc} {ops:Array Oper} {i:Nat} {o:Oper} {ts:List Nat} {τ:Nat→AV} {H:Heap} {fr:Nat} {path:List Bool} {r:R} (h:H6 P O ops i o ts τ H fr path=some r) :
  ∀ k y,(k,y)∈r.upd→k∈Gy o (FL τ ts) ts H∨(fr≤k∧k<fr+r.nw):=by
 have key:∀ (r0:R),Gz (restrict H (Gy o (FL τ ts) ts H)) fr r0.nw r0.upd=true→∀ k y,(k,y)∈r0.upd→k∈Gy o (FL τ ts) ts H∨(fr≤k∧k<fr+r0.nw):=by
  intro r0 hu k y hk
  rcases (PB hu).1 k y hk with h | ⟨h1,h2,_⟩
  ·exact .inl (bG (Rj h))
  ·exact .inr ⟨h1,h2⟩
 unfold H6 at h
 split at h
 ·injection h with h;subst h
  intro k y hk;cases hk
 ·split at h
  ·rename_i r0 ha
   split at h
   ·rename_i hu
    unfold Rw at h
    split at h
    ·split at h
     ·injection h with h;subst h;exact key r0 hu
     ·cases h
    ·injection h with h;subst h;exact key r0 hu
   ·cases h
  ·cases h
 ·cases h
theorem bH {d:Option Nat} {v:AV} {t:Nat} (h:d≠some t):LU d v t=none:=by
 unfold LU
 cases d with
 | none=>rfl
 | some d=>simp only;rw [FJ (fun e=>h (by rw [e]))]
theorem VR {u:Heap} {b:Nat} (h:∀ y,(b,y) ∉ u):G0 u b=none:=by
 cases hl:G0 u b with
 | none=>rfl
 | some y=>exact absurd (R3.1 y hl) (h y)
def left (listed:Array Bool) (m:Nat):Nat:=(List.range m).countP fun i=>!listed.getD i true
theorem rA {α:Type} (p q:α→Bool):∀ (l:List α),(∀ x∈l,q x=true→p x=true)→l.countP q≤l.countP p
 | [],_=>Nat.le_refl _
 | x::l,h=>by
  have ih:=rA p q l (fun y hy=>h y (by simp [hy]))
  rw [List.countP_cons,List.countP_cons]
  cases hq:q x with
  | false=>simp;cases p x<;>simp<;>omega
  | true=>rw [h x (by simp) hq];simp;exact ih
theorem rB {α:Type} (p q:α→Bool):∀ (l:List α) (y:α),y∈l→p y=true→q y=false→(∀ x∈l,q x=true→p x=true)→l.countP q<l.countP p
 | x::l,y,hy,hp,hq,h=>by
  rw [List.countP_cons,List.countP_cons]
  rcases List.mem_cons.1 hy with rfl | hy'
  ·have:=rA p q l (fun z hz=>h z (by simp [hz]))
   rw [hp,hq];simp;omega
  ·have:=rB p q l y hy' hp hq (fun z hz=>h z (by simp [hz]))
   cases hqx:q x with
   | false=>simp;cases p x<;>simp<;>omega
   | true=>rw [h x (by simp) hqx];simp;exact this
section
variable {P:Program} {O:Orc} (hO:OrcOk P O) {ops:Array Oper} {β0:Env} {w0:World} {W:List Nat} {n:Fz}
include hO
theorem AGF {Q:Exit→Act→World→Prop} {s s':St} {recs:List Rec} (hrun:Dk P O ops ops.toList 0 s=some (recs,s')) (hchk:NO recs (G1 ops.toList []) 0=true) (hedge:PC ops.toList 0=true)
  (hc:AQ (H7 recs)) (hfH:∀ b,s.fr≤b→AG s.H b=none) (hn:s.T.length=n.n) (hW:∀ k∈FM recs,k∈W)
  (hQ:∀ β a w,Inv β0 w0 W n β (Aq s'.T) s'.H a w→(∀ b,s'.fr≤b→β b=none)→Q .normal a w) :
  ∀ (fuel:Nat) (listed:Array Bool) (β:Env) (a:Act) (w:World),listed.size=ops.size→left listed ops.size≤fuel →
   Inv β0 w0 W n β (CJ (fun i=>listed.getD i false) 0 (LT recs) (Aq s.T)) (hD (fun i=>listed.getD i false) 0 recs s.H) a w →
   (∀ b,s'.fr≤b→β b=none)→(∀ j r,recs[j]? = some r→listed.getD j false=false→∀ b,r.fr≤b→b<r.fr+r.r.nw→β b=none) →
   (∀ j,listed.getD j false=true→∀ k,((G1 ops.toList []).getD j 0).testBit k=true→listed.getD k false=true) →
   wpAny P .any ops Q fuel listed a w:=by
 obtain ⟨r1,r2,r3,r4,r5,r6⟩:=a7 hrun hfH
 have hlen:recs.length=ops.size:=by rw [r1];simp
 have done:∀ (listed:Array Bool),listed.size=ops.size→Region.ready .any ops listed=[]→∀ i,i<ops.size→listed.getD i false=true:=by
  intro listed hsz hr i
  induction i using Nat.strongRecOn with
  | _ i ih =>
   intro hi
   cases hl:listed.getD i false with
   | true=>rfl
   | false =>
    exfalso
    have ho:ops[i]? = some ops[i]:=Array.getElem?_eq_getElem hi
    have hmem:i∈Region.ready .any ops listed:=by
     unfold Region.ready
     rw [List.mem_filter]
     refine ⟨List.mem_range.2 hi,?_⟩
     have hl':listed.getD i true=false:=by
      rw [Array.getD_eq_getD_getElem?] at hl ⊢
      rw [Array.getElem?_eq_getElem (by omega)] at hl ⊢
      simpa using hl
     rw [ho]
     simp only [hl',Bool.not_false,Bool.true_and,Option.map_some,Option.getD_some]
     rw [Array.all_eq_true_iff_forall_mem]
     intro e he
     cases hb:Region.binds .any e with
     | false=>rfl
     | true =>
      have:=qU hedge (j:=i) (o:=ops[i]) (by simp) e (by simpa using he) hb
      rw [ih e.on (by omega) (by omega)]
      rfl
    rw [hr] at hmem
    cases hmem
 have fin:∀ (listed:Array Bool) (β:Env) (a:Act) (w:World),listed.size=ops.size→Region.ready .any ops listed=[] →
   Inv β0 w0 W n β (CJ (fun i=>listed.getD i false) 0 (LT recs) (Aq s.T)) (hD (fun i=>listed.getD i false) 0 recs s.H) a w→(∀ b,s'.fr≤b→β b=none)→Q .normal a w:=by
  intro listed β a w hsz hr hi hf
  have hd:=done listed hsz hr
  refine hQ β a w (hi.congr (fun t=>?_) (fun b=>?_)) hf
  ·rw [r3]
   refine LS (fun j f hj hne=>?_) rfl
   have:j<ops.size:=by
    have:=(List.getElem?_eq_some_iff.1 hj).1
    simp [LT] at this;omega
   rw [Nat.zero_add,hd j this] at hne
   exact absurd rfl hne
  ·rw [r4,NM r2]
   refine LS (fun j f hj hne=>?_) rfl
   have:j<ops.size:=by
    have:=(List.getElem?_eq_some_iff.1 hj).1
    simp [LH] at this;omega
   rw [Nat.zero_add,hd j this] at hne
   exact absurd rfl hne
 intro fuel
 induction fuel with
 | zero =>
  intro listed β a w hsz hleft hi hf _ _
  have hr:Region.ready .any ops listed=[]:=by
   apply List.eq_nil_iff_forall_not_mem.2
   intro i hm
   unfold Region.ready at hm
   rw [List.mem_filter] at hm
   have h1:(!listed.getD i true)=true:=(Bool.and_eq_true_iff.1 hm.2).1
   have:0<left listed ops.size:=List.countP_pos_iff.2 ⟨i,hm.1,h1⟩
   omega
  exact ⟨hr,fin listed β a w hsz hr hi hf⟩
 | succ fuel ih =>
  intro listed β a w hsz hleft hi hf hfr hclosed
  refine ⟨fun hr=>fin listed β a w hsz hr hi hf,fun i hmem=>?_⟩
  unfold Region.ready at hmem
  rw [List.mem_filter] at hmem
  obtain ⟨hrange,hready⟩:=hmem
  have hilt:=List.mem_range.1 hrange
  obtain ⟨hnl,hedges⟩:=Bool.and_eq_true_iff.1 hready
  have hnl':listed.getD i false=false:=by
   rw [Array.getD_eq_getD_getElem?] at hnl ⊢
   rw [Array.getElem?_eq_getElem (by omega)] at hnl ⊢
   simpa using hnl
  have ho:ops[i]? = some ops[i]:=Array.getElem?_eq_getElem hilt
  rw [ho] at hedges
  simp only [Option.map_some,Option.getD_some] at hedges
  have hdeps:∀ e∈ops[i].after.toList,Region.binds .any e=true→listed.getD e.on false=true:=by
   intro e he hb
   have:=Array.all_eq_true_iff_forall_mem.1 hedges e (by simpa using he)
   rw [hb] at this
   simpa using this
  have hbits:∀ k,((G1 ops.toList []).getD i 0).testBit k=true→listed.getD k false=true:=by
   intro k hk
   obtain ⟨e,h1,h2,h3⟩:=qS (l:=ops.toList) (acc:=[]) (j:=i) (k:=k) (o:=ops[i]) (by simp) (by simpa using hk)
   have:=hdeps e h1 h2
   rcases h3 with h3 | h3
   ·rw [h3];exact this
   ·exact hclosed e.on this k h3
  have hrec:recs[i]? = some recs[i]:=List.getElem?_eq_getElem (by omega)
  obtain ⟨o,T,H,path,q1,q2,q3,q4,q5,q6,q7,q8,q9,q10,q11⟩:=r5 i _ hrec
  have ho':o=ops[i]:=by
   rw [Array.getElem?_toList,ho] at q1
   injection q1 with q1;exact q1.symm
  subst ho'
  rw [Nat.zero_add] at q2
  have later:∀ j r,recs[j]? = some r→i<j→listed.getD j false=true→PD recs[i] r=true:=by
   intro j r hj hlt hl
   refine bD hchk hrec hj hlt ?_
   rw [Nat.zero_add]
   cases hb:((G1 ops.toList []).getD j 0).testBit i with
   | false=>rfl
   | true=>rw [hclosed j hl i hb] at hnl';cases hnl'
  have earlier:∀ j r,recs[j]? = some r→j<i→listed.getD j false=false→PD r recs[i]=true:=by
   intro j r hj hlt hl
   refine bD hchk hj hrec hlt ?_
   rw [Nat.zero_add]
   cases hb:((G1 ops.toList []).getD i 0).testBit j with
   | false=>rfl
   | true=>rw [hbits j hb] at hl;cases hl
  have blt:∀ j,Nat.blt j i=true↔j<i:=fun j=>by unfold Nat.blt;exact ⟨Nat.le_of_ble_eq_true,Nat.ble_eq_true_of_le⟩
  have side:∀ j r,recs[j]? = some r→(fun x=>Nat.blt x i) (0+j)≠(fun i=>listed.getD i false) (0+j)→(∀ t∈recs[i].ts,r.dst≠some t)∧(∀ k∈recs[i].ks,∀ y,(k,y) ∉ r.r.upd):=by
   intro j r hj hne
   simp only [Nat.zero_add] at hne
   rcases Nat.lt_trichotomy j i with hlt | rfl | hlt
   ·have hb:=(blt j).2 hlt
    rw [hb] at hne
    have hl:listed.getD j false=false:=by cases h:listed.getD j false with | false=>rfl | true=>rw [h] at hne;exact absurd rfl hne
    obtain ⟨p1,_,_,p4,_,_⟩:=VQ (earlier j r hj hlt hl)
    exact ⟨fun t ht hd=>p1 t hd ht,fun k hk y hy=>p4 k y hy hk⟩
   ·have hb:Nat.blt j j=false:=by cases h:Nat.blt j j with | false=>rfl | true=>exact absurd ((blt j).1 h) (by omega)
    rw [hb,hnl'] at hne;exact absurd rfl hne
   ·have hb:Nat.blt j i=false:=by cases h:Nat.blt j i with | false=>rfl | true=>exact absurd ((blt j).1 h) (by omega)
    rw [hb] at hne
    have hl:listed.getD j false=true:=by cases h:listed.getD j false with | true=>rfl | false=>rw [h] at hne;exact absurd rfl hne
    obtain ⟨_,p2,_,_,p5,_⟩:=VQ (later j r hj hlt hl)
    exact ⟨fun t ht hd=>p2 t hd ht,fun k hk y hy=>p5 k y hy hk⟩
  have agT:∀ t∈JY ops ops[i],Aq T t=CJ (fun i=>listed.getD i false) 0 (LT recs) (Aq s.T) t:=by
   intro t ht
   rw [q6]
   refine LS (fun j f hj hne=>?_) rfl
   simp only [LT,List.getElem?_map,Option.map_eq_some_iff] at hj
   obtain ⟨r,hr,rfl⟩:=hj
   exact bH ((side j r hr hne).1 t (by rw [q4];exact ht))
  have agH:∀ k∈Gy ops[i] (FL (Aq T) (JY ops ops[i])) (JY ops ops[i]) H,AG H k=AG (hD (fun i=>listed.getD i false) 0 recs s.H) k:=by
   intro k hk
   rw [q7,NM r2]
   refine LS (fun j f hj hne=>?_) rfl
   simp only [LH,List.getElem?_map,Option.map_eq_some_iff] at hj
   obtain ⟨r,hr,rfl⟩:=hj
   exact VR fun y=>(side j r hr hne).2 k (by rw [q5,q4];exact hk) y
  rw [AGD agT agH] at q2
  have hcr:AQ recs[i].r.conds:=by
   have:∀ (L:List Rec) (j:Nat) (r:Rec),AQ (H7 L)→L[j]? = some r→AQ r.r.conds:=by
    intro L
    induction L with
    | nil=>intro j r _ h;simp at h
    | cons q L ihL =>
     intro j r hcL hj
     obtain ⟨c1,c2⟩:=CX.1 hcL
     cases j with
     | zero=>simp at hj;subst hj;exact c1
     | succ j=>exact ihL j r c2 (by simpa using hj)
   exact this recs i _ hc hrec
  have keysW:∀ k y,(k,y)∈recs[i].r.upd→k∈W:=by
   intro k y hk
   refine hW k ?_
   have:∀ (L:List Rec) (r:Rec),r∈L→k∈Il r.r.upd→k∈FM L:=by
    intro L
    induction L with
    | nil=>intro r h;cases h
    | cons q L ihL =>
     intro r hr hkr
     simp only [FM,DJ,List.mem_append]
     rcases List.mem_cons.1 hr with rfl | hr
     ·exact .inl hkr
     ·exact .inr (ihL r hr hkr)
   exact this recs _ (List.getElem_mem _) (NL.2 ⟨y,hk⟩)
  have freeH:∀ b,recs[i].fr≤b→b<recs[i].fr+recs[i].r.nw→AG (hD (fun i=>listed.getD i false) 0 recs s.H) b=none:=by
   intro b h1 h2
   have e:=q11 b h1
   rw [q7] at e
   rw [NM r2,← e]
   refine LS (fun j f hj hne=>?_) rfl
   simp only [LH,List.getElem?_map,Option.map_eq_some_iff] at hj
   obtain ⟨r,hr,rfl⟩:=hj
   refine VR fun y hy=>?_
   obtain ⟨o2,T2,H2,path2,w1,w2,_,w4,w5,_,_,_,w9,w10,w11⟩:=r5 j r hr
   have hu2:=R2 w2 (fun b h1 _=>w11 b h1)
   simp only [Nat.zero_add] at hne
   rcases Nat.lt_trichotomy j i with hlt | rfl | hlt
   ·have:=r6 j i r _ hr hrec hlt
    rcases (PB hu2).1 b y hy with hh | ⟨_,hh,_⟩
    ·have hh:=Rj hh;rw [w11 b (by omega)] at hh;cases hh
    ·omega
   ·have hb:Nat.blt j j=false:=by cases h:Nat.blt j j with | false=>rfl | true=>exact absurd ((blt j).1 h) (by omega)
    rw [hb,hnl'] at hne;exact absurd rfl hne
   ·have hb:Nat.blt j i=false:=by cases h:Nat.blt j i with | false=>rfl | true=>exact absurd ((blt j).1 h) (by omega)
    rw [hb] at hne
    have hl:listed.getD j false=true:=by cases h:listed.getD j false with | true=>rfl | false=>rw [h] at hne;exact absurd rfl hne
    have hind:=later j r hr hlt hl
    have h6:=r6 i j _ r hrec hr hlt
    rcases AGE w2 b y hy with hh | ⟨hh,_⟩
    ·rw [← w4,← w5] at hh
     exact qW (Bool.and_eq_true_iff.1 hind).1 b hh h1 h2
    ·omega
  refine aT hO hi.tmp hi.good q2 hcr (hfr i _ hrec hnl') freeH ho fun u w' β' hE hG=>?_
  have hset:∀ j,(listed.setIfInBounds i true).getD j false=if j=i then true else listed.getD j false:=by
   intro j
   rw [Array.getD_eq_getD_getElem?,Array.getD_eq_getD_getElem?]
   by_cases hji:j=i
   ·subst hji;rw [Array.getElem?_setIfInBounds_self_of_lt (by omega)];simp
   ·rw [Array.getElem?_setIfInBounds_ne (Ne.symm hji),if_neg hji]
  have hst:=hi.step hE hG keysW (d:=ops[i].dst) (fun t ht=>by rw [← hn];exact q8 t ht)
  refine ih _ β' _ w' (by simpa using hsz) ?_ (hst.congr (fun t=>?_) (fun b=>?_)) ?_ ?_ ?_
  ·have hlt:left (listed.setIfInBounds i true) ops.size<left listed ops.size:=by
    refine rB _ _ _ i hrange hnl ?_ ?_
    ·rw [Array.getD_eq_getD_getElem?,Array.getElem?_setIfInBounds_self_of_lt (by omega)];rfl
    ·intro j _ hj
     by_cases hji:j=i
     ·subst hji;exact hnl
     ·rw [Array.getD_eq_getD_getElem?,Array.getElem?_setIfInBounds_ne (Ne.symm hji),← Array.getD_eq_getD_getElem?] at hj;exact hj
   omega
  ·rw [qQ]
   have hf:(LT recs)[i]? = some (LU ops[i].dst recs[i].r.val):=by simp [LT,hrec,q3]
   refine (aW hf (by rw [Nat.zero_add];exact hnl') (by rw [Nat.zero_add,hset,if_pos rfl]) (fun j hj=>by rw [Nat.zero_add,hset,if_neg hj]) ?_).symm
   intro j g hg hlt hl
   simp only [LT,List.getElem?_map,Option.map_eq_some_iff] at hg
   obtain ⟨r,hr,rfl⟩:=hg
   rw [Nat.zero_add] at hl
   obtain ⟨_,_,p3,_⟩:=VQ (later j r hr hlt hl)
   by_cases hd:ops[i].dst=some t
   ·exact .inl (bH (p3 t (by rw [q3];exact hd)))
   ·exact .inr (bH hd)
  ·rw [aZ (r2 _ (List.getElem_mem _)),NM r2]
   have hf:(LH recs)[i]? = some (G0 recs[i].r.upd):=by simp [LH,hrec]
   have hfun:AG (hD (fun i=>listed.getD i false) 0 recs s.H)=CJ (fun i=>listed.getD i false) 0 (LH recs) (AG s.H):=funext (NM r2)
   rw [hfun]
   refine (aW hf (by rw [Nat.zero_add];exact hnl') (by rw [Nat.zero_add,hset,if_pos rfl]) (fun j hj=>by rw [Nat.zero_add,hset,if_neg hj]) ?_).symm
   intro j g hg hlt hl
   simp only [LH,List.getElem?_map,Option.map_eq_some_iff] at hg
   obtain ⟨r,hr,rfl⟩:=hg
   rw [Nat.zero_add] at hl
   obtain ⟨_,_,_,_,_,p6⟩:=VQ (later j r hr hlt hl)
   by_cases hk:∃ y,(b,y)∈recs[i].r.upd
   ·obtain ⟨y,hy⟩:=hk
    exact .inl (VR fun y' hy'=>p6 b y y' hy hy')
   ·exact .inr (VR fun y hy=>hk ⟨y,hy⟩)
  ·intro b hb
   cases hβ:β' b with
   | none=>rfl
   | some X =>
    rcases hE.new b X hβ with h | ⟨_,h,_⟩
    ·rw [hf b hb] at h;cases h
    ·omega
  ·intro j r hj hl b h1 h2
   rw [hset] at hl
   by_cases hji:j=i
   ·rw [if_pos hji] at hl;cases hl
   ·rw [if_neg hji] at hl
    cases hβ:β' b with
    | none=>rfl
    | some X =>
     rcases hE.new b X hβ with h | ⟨h3,h4,_⟩
     ·rw [hfr j r hj hl b h1 h2] at h;cases h
     ·rcases Nat.lt_or_ge j i with hlt | hge
      ·have:=r6 j i r _ hj hrec hlt;omega
      ·have:=r6 i j _ r hrec hj (by omega);omega
  ·intro j hj k hk
   rw [hset] at hj ⊢
   by_cases hki:k=i
   ·rw [if_pos hki]
   ·rw [if_neg hki]
    by_cases hji:j=i
    ·subst hji;exact hbits k hk
    ·rw [if_neg hji] at hj;exact hclosed j hj k hk
end
structure ASt where
 todo:List Item
 s:St
structure Log where
 conds:List (Bool×Bool)
 keys:List Nat
def VS (P:Program) (O:Orc) (ops:Array Oper) (draw:Bool) (s:St):Option (Log×St) :=
 match Dk P O ops ops.toList 0 s with
 | some (recs,s')=>match draw with
  | false=>some (⟨H7 recs,FM recs⟩,s')
  | true=>match NO recs (G1 ops.toList []) 0,PC ops.toList 0 with
   | true,true=>some (⟨H7 recs,FM recs⟩,s')
   | _,_=>none
 | none=>none
def PE (P:Program) (O:Orc) (x:ASt):Option (Log×ASt) :=
 match x.todo with
 | .code .skip::k=>some (⟨[],[]⟩,⟨k,x.s⟩)
 | .code (.label _)::k=>some (⟨[],[]⟩,⟨k,x.s⟩)
 | .inBlock _::k=>some (⟨[],[]⟩,⟨k,x.s⟩)
 | .inScope _::k=>some (⟨[],[]⟩,⟨k,x.s⟩)
 | .code (.seq a b)::k=>some (⟨[],[]⟩,⟨.code a::.code b::k,x.s⟩)
 | .code (.cond c a b)::k=>match Bx (Aq x.s.T) c with
  | some (.val false [.b true])=>some (⟨[],[]⟩,⟨.code a::k,x.s⟩)
  | some (.val false [.b false])=>some (⟨[],[]⟩,⟨.code b::k,x.s⟩)
  | some (.val false [.v (.bool z)])=>match x.s.path with
   | true::rest=>some (⟨[(z,true)],[]⟩,⟨.code a::k,{ x.s with path:=rest }⟩)
   | false::rest=>some (⟨[(z,false)],[]⟩,⟨.code b::k,{ x.s with path:=rest }⟩)
   | []=>none
  | _=>none
 | .code (.block id c)::k=>some (⟨[],[]⟩,⟨.code c::.inBlock id::k,x.s⟩)
 | .code (.loop c)::k=>some (⟨[],[]⟩,⟨.code c::.inLoop c::k,x.s⟩)
 | .inLoop c::k=>some (⟨[],[]⟩,⟨.code c::.inLoop c::k,x.s⟩)
 | .code (.scope c)::k=>some (⟨[],[]⟩,⟨.code c::.inScope c::k,x.s⟩)
 | .code (.exit id)::k=>match exitTo id k with
  | some k'=>some (⟨[],[]⟩,⟨k',x.s⟩)
  | none=>none
 | .code (.goto l)::k=>match gotoIn l k with
  | some k'=>some (⟨[],[]⟩,⟨k',x.s⟩)
  | none=>none
 | .code (.region _ ops draw)::k=>match VS P O ops draw x.s with
  | some (g,s')=>some (g,⟨k,s'⟩)
  | none=>none
 | _=>none
def Safe (P:Program) (f:FuncId) (R:Ending→World→Prop) (todo:List Item) (a:Act) (w:World):Prop :=
 ∀ (b:Frame) (cs:List Frame),b.fn=f→b.kind=.normal→∃ e w' fr,R e w'∧Comes P (lone (b.at a todo) cs w) (lone fr cs w') e∧fr.fn=f∧fr.leaving P w' e
section
variable {P:Program} {f:FuncId} {R:Ending→World→Prop} {a:Act} {w:World} {k:List Item}
theorem Safe.of_step {todo todo':List Item} (h:∀ (b:Frame) (cs:List Frame),step P (lone (b.at a todo) cs w)=.next (lone (b.at a todo') cs w)) (hs:Safe P f R todo' a w):Safe P f R todo a w:=by
 intro b cs hb hk
 obtain ⟨e,w',fr,h1,h2,h3,h4⟩:=hs b cs hb hk
 exact ⟨e,w',fr,h1,.of_steps (.one (h b cs)) h2,h3,h4⟩
theorem Safe.of_wp {c:Code} {k:List Item} (h:c.wp P (fun e a' w'=>e=.normal∧Safe P f R k a' w') a w):Safe P f R (.code c::k) a w:=by
 intro b cs hb hk
 obtain ⟨e,a',w',⟨he,hs⟩,harr⟩:=h b k cs
 subst he
 obtain ⟨e,w'',fr,h1,h2,h3,h4⟩:=hs b cs hb hk
 exact ⟨e,w'',fr,h1,.of_steps harr h2,h3,h4⟩
theorem AGG {b:Frame} {cs:List Frame} {c:Code}:step P (lone (b.at a (.code (.scope c)::k)) cs w)=.next (lone (b.at a (.code c::.inScope c::k)) cs w) :=
 step_lone_go (by simp [stepG,stepG.exec,Frame.at])
theorem AGH {b:Frame} {cs:List Frame} {c:Code}:step P (lone (b.at a (.inScope c::k)) cs w)=.next (lone (b.at a k) cs w) :=
 step_lone_go (by simp [stepG,stepG.exec,Frame.at])
theorem Safe.done {fn:Func} {v:Value} {todo:List Item} (hfn:P.funcs[f]? = some fn) (hd:a.defers=[]) (hr:(results fn a.tmps).run P w=.ok v w) (hR:R (.returned v) w)
  (ht:(∃ k,todo=.code .ret::k)∨todo=[]):Safe P f R todo a w:=by
 intro b cs hb hk
 rcases ht with ⟨k,rfl⟩ | rfl
 ·exact ⟨.returned v,w,{ b.at a (.code .ret::k) with mode:=.returning },hR,Steps.one step_ret,hb,rfl,hd,hk,fn,by show P.funcs[b.fn]? = some fn;rw [hb];exact hfn,hr⟩
 ·exact ⟨.returned v,w,{ b.at a [] with mode:=.returning },hR,Steps.one step_end,hb,rfl,hd,hk,fn,by show P.funcs[b.fn]? = some fn;rw [hb];exact hfn,hr⟩
end
def ASafe (P:Program) (f:FuncId) (β0:Env) (w0:World) (R:Ending→World→Prop) (n:Fz) (W:List Nat) (x:ASt):Prop :=
 ∀ (β:Env) (a:Act) (w:World),Inv β0 w0 W n β (Aq x.s.T) x.s.H a w→(∀ b,x.s.fr≤b→β b=none)→Safe P f R x.todo a w
def B4 (n:Fz) (s:St):Prop:=(∀ b,s.fr≤b→AG s.H b=none)∧s.T.length=n.n
theorem Inv.mono {β0:Env} {w0:World} {W W':List Nat} {n:Fz} {β:Env} {τ:Nat→AV} {H:Heap} {a:Act} {w:World} (i:Inv β0 w0 W n β τ H a w) (h:∀ k∈W,k∈W'):Inv β0 w0 W' n β τ H a w :=
 { i with
  new:=fun b X hb=>(i.new b X hb).imp id fun q B m e=>(q B m e).imp id fun ⟨k,m',h1,h2⟩=>⟨k,m',h k h1,h2⟩
  frame:=fun B hB hno=>i.frame B hB fun k m hk=>hno k m (h k hk) }
section
variable {P:Program} {O:Orc} (hO:OrcOk P O) (hm:P.follows .mixedOrders=true) {f:FuncId} {β0:Env} {w0:World} {R:Ending→World→Prop} {n:Fz} {W:List Nat}
include hO hm
theorem AGI {id:Nat} {ops:Array Oper} {draw:Bool} {s s':St} {g:Log} {k:List Item} (h:VS P O ops draw s=some (g,s')) (hc:AQ g.conds) (hwf:B4 n s)
  (hs:ASafe P f β0 w0 R n (W++g.keys) ⟨k,s'⟩):ASafe P f β0 w0 R n W ⟨.code (.region id ops draw)::k,s⟩:=by
 intro β a w hi hf
 obtain ⟨hfH,hn⟩:=hwf
 have hi':=hi.mono (W':=W++g.keys) (fun k hk=>List.mem_append.2 (.inl hk))
 unfold VS at h
 split at h
 ·rename_i recs s1 hrun
  split at h
  ·injection h with h;injection h with h1 h2;subst h1;subst h2
   refine Safe.of_wp (wp_region ?_)
   have:=qP hO (Q:=fun e a' w'=>e=.normal∧Safe P f R k a' w') ops.toList 0 s s1 recs β a w (by simp) hrun hc hi' hf hfH hn (fun k hk=>List.mem_append.2 (.inr hk)) (fun β a w hi hf=>⟨rfl,hs β a w hi hf⟩)
   rw [List.range_eq_range']
   simpa using this
  ·split at h
   ·rename_i hchk hedge
    injection h with h;injection h with h1 h2;subst h1;subst h2
    refine Safe.of_wp (wp_region_any hm ?_)
    obtain ⟨r1,r2,r3,r4,r5,r6⟩:=a7 hrun hfH
    have hlist:∀ j,(Array.replicate ops.size false).getD j false=false:=by
     intro j
     rw [Array.getD_eq_getD_getElem?,Array.getElem?_replicate]
     split<;>rfl
    have e2:∀ {X:Type} (L:List (Nat→Option X)) (i:Nat) (s:Nat→X),CJ (fun i=>(Array.replicate ops.size false).getD i false) i L s=s:=by
     intro X L
     induction L with
     | nil=>intro i s;rfl
     | cons f L ih=>intro i s;rw [CJ,hlist];exact ih _ _
    refine AGF hO (Q:=fun e a' w'=>e=.normal∧Safe P f R k a' w') hrun hchk hedge hc hfH hn (fun k hk=>List.mem_append.2 (.inr hk)) (fun β a w hi hf=>⟨rfl,hs β a w hi hf⟩) _ _ β a _ (by simp) ?_ ?_ ?_ ?_ ?_
    ·refine Nat.le_trans List.countP_le_length ?_
     simp
    ·refine (hi'.drew).congr (fun t=>by rw [e2]) (fun b=>by rw [NM r2,e2])
    ·intro b hb
     have:s.fr≤s1.fr:=(aV hrun hfH).2.1
     exact hf b (Nat.le_trans this hb)
    ·intro j r hj _ b h1 h2
     obtain ⟨_,_,_,_,_,_,_,_,_,_,_,_,q9,_⟩:=r5 j r hj
     exact hf b (Nat.le_trans q9 h1)
    ·intro j hj
     rw [hlist] at hj;cases hj
   ·cases h
 ·cases h
theorem bI {x y:ASt} {g:Log} (h:PE P O x=some (g,y)) (hc:AQ g.conds) (hwf:B4 n x.s) (hs:ASafe P f β0 w0 R n (W++g.keys) y):ASafe P f β0 w0 R n W x:=by
 obtain ⟨todo,s⟩:=x
 unfold PE at h
 simp only at h
 have pl:∀ {k':List Item},(⟨[],[]⟩,⟨k',s⟩)=(g,y)→(∀ (a:Act) (w:World) (b:Frame) (cs:List Frame),step P (lone (b.at a todo) cs w)=.next (lone (b.at a k') cs w))→ASafe P f β0 w0 R n W ⟨todo,s⟩:=by
  intro k' he hst β a w hi hf
  injection he with h1 h2;subst h1;subst h2
  exact Safe.of_step (hst a w) (hs β a w (by simpa using hi) hf)
 split at h
 all_goals first | (cases h;done) | skip
 ·injection h with h;exact pl h (fun _ _ _ _=>step_skip)
 ·injection h with h;exact pl h (fun _ _ _ _=>step_label)
 ·injection h with h;exact pl h (fun _ _ _ _=>step_inBlock)
 ·injection h with h;exact pl h (fun _ _ _ _=>AGH)
 ·injection h with h;exact pl h (fun _ _ _ _=>step_seq)
 ·rename_i c ca cb k
  have cond:∀ (z:Bool) (path':List Bool) (cc:List (Bool×Bool)),(⟨cc,[]⟩,⟨.code (if z then ca else cb)::k,{ s with path:=path' }⟩)=(g,y)→(AQ cc→∀ (β:Env) (a:Act),(∀ t,AP β (Aq s.T t) (a.tmps.getD t undef))→a.eval c=.bool z)→ASafe P f β0 w0 R n W ⟨.code (.cond c ca cb)::k,s⟩:=by
   intro z path' cc he hev β a w hi hf
   injection he with h1 h2;subst h1;subst h2
   refine Safe.of_step (fun b cs=>step_cond (hev hc β a hi.tmp)) (hs β a w (by simpa using hi) hf)
  split at h
  ·rename_i hev
   injection h with h
   refine cond true s.path [] (by simpa using h) fun _ β a ht=>?_
   have:=A3 (JT ht hev)
   simpa [BI] using this
  ·rename_i hev
   injection h with h
   refine cond false s.path [] (by simpa using h) fun _ β a ht=>?_
   have:=A3 (JT ht hev)
   simpa [BI] using this
  ·rename_i z hev
   split at h
   ·rename_i rest hp
    injection h with h
    refine cond true rest [(z,true)] (by simpa using h) fun hz β a ht=>?_
    have:=(A3 (JT ht hev)).1
    injection this with this _
    rw [this,hz.1]
   ·rename_i rest hp
    injection h with h
    refine cond false rest [(z,false)] (by simpa using h) fun hz β a ht=>?_
    have:=(A3 (JT ht hev)).1
    injection this with this _
    rw [this,hz.1]
   ·cases h
  ·cases h
 ·injection h with h;exact pl h (fun _ _ _ _=>step_block)
 ·injection h with h;exact pl h (fun _ _ _ _=>step_loop)
 ·injection h with h;exact pl h (fun _ _ _ _=>step_inLoop)
 ·injection h with h;exact pl h (fun _ _ _ _=>AGG)
 ·split at h
  ·rename_i k' he
   injection h with h;exact pl h (fun _ _ _ _=>step_exit he)
  ·cases h
 ·split at h
  ·rename_i k' he
   injection h with h;exact pl h (fun _ _ _ _=>step_goto he)
  ·cases h
 ·split at h
  ·rename_i g' s' hr
   injection h with h;injection h with h1 h2;subst h1;subst h2
   exact AGI hO hm hr hc hwf hs
  ·cases h
omit hO hm in
theorem bJ {x y:ASt} {g:Log} (h:PE P O x=some (g,y)) (hwf:B4 n x.s):B4 n y.s:=by
 obtain ⟨todo,s⟩:=x
 unfold PE at h
 simp only at h hwf
 have pl:∀ {k':List Item} {c:Log},(c,(⟨k',s⟩:ASt))=(g,y)→B4 n y.s:=by
  intro k' c he
  injection he with h1 h2;subst h2;exact hwf
 split at h
 all_goals first | (cases h;done) | skip
 all_goals first | (injection h with h;exact pl h) | skip
 ·split at h
  ·injection h with h;exact pl h
  ·injection h with h;exact pl h
  ·split at h
   ·injection h with h;injection h with h1 h2;subst h2;exact hwf
   ·injection h with h;injection h with h1 h2;subst h2;exact hwf
   ·cases h
  ·cases h
 ·split at h
  ·injection h with h;exact pl h
  ·cases h
 ·split at h
  ·injection h with h;exact pl h
  ·cases h
 ·split at h
  ·rename_i g' s' hr
   injection h with h;injection h with h1 h2;subst h2
   unfold VS at hr
   split at hr
   ·rename_i recs s1 hrun
    have:=aV hrun hwf.1
    have hw:B4 n s1:=⟨this.1,by rw [this.2.2];exact hwf.2⟩
    split at hr
    ·injection hr with hr;injection hr with _ hr;subst hr;exact hw
    ·split at hr
     ·injection hr with hr;injection hr with _ hr;subst hr;exact hw
     ·cases hr
   ·cases hr
  ·cases h
end
def AGJ (stop:Option Nat) (before:List Item) (after:List Item):Bool :=
 match stop,before with
 | some d,.inLoop _::_=>match d with | 0=>true | d+1=>Nat.beq after.length (d+1)
 | some d,.code (.loop _)::_=>match d with | 0=>true | d+1=>Nat.beq after.length (d+1)
 | _,_=>false
def NP:List Item→Bool
 | []=>true
 | .code .ret::_=>true
 | _=>false
def Jj (P:Program) (O:Orc) (stop:Option Nat):Nat→ASt→Option (Log×ASt)
 | 0,_=>none
 | n+1,x=>match NP x.todo with
  | true=>some (⟨[],[]⟩,x)
  | false=>match PE P O x with
   | some (g,y)=>match AGJ stop x.todo y.todo with
    | true=>some (g,y)
    | false=>match Jj P O stop n y with
     | some (g',z)=>some (⟨g.conds++g'.conds,cat g.keys g'.keys⟩,z)
     | none=>none
   | none=>none
section
variable {P:Program} {O:Orc} (hO:OrcOk P O) (hm:P.follows .mixedOrders=true) {f:FuncId} {β0:Env} {w0:World} {R:Ending→World→Prop} {n:Fz}
include hO hm
theorem VT {stop:Option Nat}:∀ {m:Nat} {W:List Nat} {x y:ASt} {g:Log},Jj P O stop m x=some (g,y)→AQ g.conds→B4 n x.s→(B4 n y.s→ASafe P f β0 w0 R n (W++g.keys) y)→ASafe P f β0 w0 R n W x
 | 0,_,_,_,_,h,_,_,_=>by simp [Jj] at h
 | m+1,W,x,y,g,h,hc,hwf,hs=>by
  simp only [Jj] at h
  split at h
  ·injection h with h;injection h with h1 h2;subst h1;subst h2
   have:=hs hwf
   simpa using this
  ·split at h
   ·rename_i g1 y1 hst
    split at h
    ·injection h with h;injection h with h1 h2;subst h1;subst h2
     exact bI hO hm hst hc hwf (hs (bJ hst hwf))
    ·split at h
     ·rename_i g2 z hr
      injection h with h;injection h with h1 h2;subst h1;subst h2
      obtain ⟨c1,c2⟩:=CX.1 hc
      refine bI hO hm hst c1 hwf (VT hr c2 (bJ hst hwf) fun hw=>?_)
      have:=hs hw
      simpa [DJ] using this
     ·cases h
   ·cases h
end
def bK (P:Program) (T:List AV) (H:Heap):ResultVar→Option (Bool×List Ch)
 | .tmp t=>match Aq T t with
  | .val g cs=>some (g,cs)
  | _=>none
 | .cell a t=>match Aq T a with
  | .val false [.p bk off]=>match AG H bk with
   | some blk=>match O5 P t blk.cs off [] with
    | some r=>match r.conds,r.val with
     | [],.val g cs=>some (g,cs)
     | _,_=>none
    | none=>none
   | none=>none
  | _=>none
def LX (P:Program) (T:List AV) (H:Heap):List ResultVar→Option (List (Bool×List Ch))
 | []=>some []
 | x::r=>match bK P T H x,LX P T H r with
  | some a,some l=>some (a::l)
  | _,_=>none
def PF (l:List (Bool×List Ch)):AV:=match l with
 | [(g,cs)]=>.val g cs
 | l=>.tup l
theorem AGK {P:Program} {β:Env} {T:List AV} {H:Heap} {tmps:Array Value} {w:World} (ht:∀ t,AP β (Aq T t) (tmps.getD t undef)) (g:Good β H w) {x:ResultVar} {a:Bool×List Ch} (h:bK P T H x=some a) :
  ∃ u,((match x with | .tmp t=>pure (tmps.getD t undef) | .cell a t=>do loadVar t (← asAddr (tmps.getD a undef)):Sem Value)).run P w=.ok u w∧Bn β a.1 a.2 u:=by
 unfold bK at h
 split at h
 ·rename_i t
  split at h
  ·rename_i gg cs hT
   injection h with h;subst h
   have:=ht t
   rw [hT] at this
   exact ⟨_,rfl,this⟩
  ·cases h
 ·rename_i ad t
  split at h
  ·rename_i bk off hT
   split at h
   ·rename_i blk hb
    split at h
    ·rename_i r hl
     split at h
     ·rename_i gg cs hcv hvv
      injection h with h;subst h
      have:=ht ad
      rw [hT] at this
      obtain ⟨B',n',e4,e5⟩:=A3 this
      injection e5 with e5 _
      rcases g.heap _ _ hb with ⟨B,n,l,t',pre,ty',fz,e1,e2,e3,e0,_⟩ | ⟨e1,_⟩
      ·rw [e1] at e4;injection e4 with e4;injection e4 with e4 e4';subst e4;subst e4'
       obtain ⟨v,hv,he⟩:=U7 g e2 e3 hl (by rw [hcv];trivial) 0
       rw [e0] at hv
       refine ⟨v,?_,?_⟩
       ·simp only [e5,asAddr,Sem.run_bind,Sem.run_pure,Result.andThen_ok,hv]
       ·have:=he.val
        rw [hvv] at this
        exact this
      ·rw [e1] at e4;cases e4
     ·cases h
    ·cases h
   ·cases h
  ·cases h
theorem rC {P:Program} {β:Env} {T:List AV} {H:Heap} {fn:Func} {tmps:Array Value} {w:World} (ht:∀ t,AP β (Aq T t) (tmps.getD t undef)) (g:Good β H w) {l:List (Bool×List Ch)} (h:LX P T H fn.results.toList=some l) :
  ∃ v,(results fn tmps).run P w=.ok v w∧AP β (PF l) v:=by
 have key:∀ (rs:List ResultVar) (l:List (Bool×List Ch)),LX P T H rs=some l →
   ∃ us,(rs.mapM (m:=Sem) fun | .tmp t=>pure (tmps.getD t undef) | .cell a t=>do loadVar t (← asAddr (tmps.getD a undef))).run P w=.ok us w∧Ed β l us:=by
  intro rs
  induction rs with
  | nil=>intro l h;simp only [LX,Option.some.injEq] at h;subst h;exact ⟨[],by simp,rfl⟩
  | cons x rs ih =>
   intro l h
   simp only [LX] at h
   split at h
   ·rename_i a l' h1 h2
    injection h with h;subst h
    obtain ⟨u,hu,hr⟩:=AGK ht g h1
    obtain ⟨us,hus,hrs⟩:=ih l' h2
    refine ⟨u::us,?_,u,us,hr,hrs,rfl⟩
    rw [List.mapM_cons,Sem.run_bind,hu]
    simp only [Result.andThen_ok,Sem.run_bind,hus,Sem.run_pure]
   ·cases h
 obtain ⟨us,hus,hrel⟩:=key _ _ h
 unfold results
 rw [Array.mapM_eq_mapM_toList,Sem.run_bind,Sem.run_map]
 refine ⟨if h:us.toArray.size=1 then us.toArray[0] else .tuple us.toArray,?_,?_⟩
 ·have e:∀ (x:Sem (List Value)),x.run P w=.ok us w→((x.run P w).andThen fun a w'=>Result.ok a.toArray w').andThen (fun vs w'=>Result.ok (if h:vs.size=1 then vs[0] else Value.tuple vs) w')=.ok (if h:us.toArray.size=1 then us.toArray[0] else .tuple us.toArray) w:=by
   intro x hx;rw [hx];rfl
  exact e _ hus
 unfold PF
 split
 ·rename_i gg cs
  obtain ⟨u,l',h1,h2,h3⟩:=hrel
  simp only [Ed] at h2;subst h2;subst h3
  show AP β (.val gg cs) u
  exact h1
 ·rename_i hno
  have hlen:us.length=l.length:=by
   have:∀ (l:List (Bool×List Ch)) (us:List Value),Ed β l us→us.length=l.length:=by
    intro l
    induction l with
    | nil=>intro us h;simp only [Ed] at h;simp [h]
    | cons x l ih=>intro us ⟨u,l',h1,h2,h3⟩;simp [h3,ih _ h2]
   exact this _ _ hrel
  rw [dif_neg (by
   intro h1
   have:l.length=1:=by rw [← hlen];simpa using h1
   obtain ⟨⟨gg,cs⟩,rfl⟩:=List.length_eq_one_iff.1 this
   exact hno gg cs rfl)]
  exact ⟨us,hrel,rfl⟩
end Go.Proofs.YtjlcdlekmpjjnaaGreat.Ex
namespace Go.Proofs.YtjlcdlekmpjjnaaGreat.Ex
open Go.RowKit (Below)
def PG:Nat→List AV
 | 0=>[]
 | n+1=>.tup []::PG n
def VU:List AV→List AV→List AV
 | [],l=>l
 | x::r,l=>x::VU r l
theorem VV:∀ (a b:List AV),VU a b=a++b
 | [],_=>rfl
 | x::r,b=>by simp [VU,VV r b]
theorem bL:∀ n,(PG n).length=n
 | 0=>rfl
 | n+1=>by simp [PG,bL n]
def H8:List AV→Nat
 | []=>0
 | _::r=>H8 r+1
theorem LY:∀ l:List AV,H8 l=l.length
 | []=>rfl
 | _::r=>by simp [H8,LY r]
def Jn (args:List AV) (n:Nat):List AV:=VU args (PG (n-H8 args))
theorem rD {β:Env}:∀ {xs:List AV} {us:List Value},A7 β xs us→us.length=xs.length
 | [],us,h=>by simp only [A7] at h;simp [h]
 | x::xs,us,⟨u,us',_,h2,h3⟩=>by simp [h3,rD h2]
theorem bM {β:Env}:∀ {xs:List AV} {us:List Value} (m:Nat),A7 β xs us→∀ t,AP β (Aq (xs++PG m) t) ((us++List.replicate m undef).getD t undef)
 | [],us,0,h,t=>by simp only [A7] at h;subst h;exact trivial
 | [],us,m+1,h,0=>by
  simp only [A7] at h;subst h
  exact ⟨[],rfl,rfl⟩
 | [],us,m+1,h,t+1=>by
  simp only [A7] at h;subst h
  have:=bM (β:=β) (xs:=[]) (us:=[]) m rfl t
  simpa [PG,Aq,List.replicate_succ] using this
 | x::xs,us,m,⟨u,us',h1,h2,h3⟩,0=>by subst h3;exact h1
 | x::xs,us,m,⟨u,us',h1,h2,h3⟩,t+1=>by
  subst h3
  have:=bM m h2 t
  simpa [Aq] using this
structure Out (β0:Env) (w0:World) (W:List Nat) (val:AV) (H:Heap) (u:Value) (w:World) (β:Env):Prop where
 val:AP β val u
 good:Good β H w
 new:∀ b X,β b=some X→β0 b=some X∨∀ B m,X=.at_ B m→w0.heap.size≤B∨∃ k m',k∈W∧β0 k=some (.at_ B m')
 ext:Env.le β0 β
 frame:∀ B,B<w0.heap.size→(∀ k m,k∈W→β0 k≠some (.at_ B m))→w.heap[B]? = w0.heap[B]?
 size:w0.heap.size≤w.heap.size
 os:w.os=w0.os
 tape:w.tape=w0.tape
 output:w.output=w0.output
def Ay (β0:Env) (w0:World) (W:List Nat) (val:AV) (H:Heap):Ending→World→Prop:=fun e w=>∃ u β,e=.returned u∧Out β0 w0 W val H u w β
section
variable {P:Program} {O:Orc} (hO:OrcOk P O) (hm:P.follows .mixedOrders=true) {f:FuncId} {fn:Func} {c:Code}
theorem bO {R:Ending→World→Prop} (hfn:P.funcs[f]? = some fn) (hb:fn.body=some c) {args:List AV} {H:Heap} {fr:Nat} {path:List Bool} {β:Env} {us:List Value} {w:World} (hlen:args.length≤fn.ntmps)
  (h:ASafe P f β w R fn.ntmps [] ⟨[.code c],⟨Jn args fn.ntmps,H,fr,path⟩⟩) (ha:A7 β args us) (hg:Good β H w) (hf:∀ b,fr≤b→β b=none):Calls P f ⟨us⟩ w R:=by
 have hul:=rD ha
 have hs:=h β { tmps:=(⟨us⟩:Array Value)++Array.replicate (fn.ntmps-us.length) undef,defers:=[] } w ?_ hf
 ·intro cs
  let b:Frame:={ (default:Frame) with fn:=f,kind:=.normal }
  have henter:Frame.enter P f ⟨us⟩ .normal=b.at { tmps:=(⟨us⟩:Array Value)++Array.replicate (fn.ntmps-us.length) undef,defers:=[] } [.code c]:=by
   simp [Frame.enter,Frame.at,hfn,hb,b]
  rw [henter]
  exact hs b cs rfl rfl
 ·have hT:∀ t,AP β (Aq (Jn args fn.ntmps) t) (((⟨us⟩:Array Value)++Array.replicate (fn.ntmps-us.length) undef).getD t undef):=by
   intro t
   have:=bM (fn.ntmps-us.length) ha t
   have e:((⟨us⟩:Array Value)++Array.replicate (fn.ntmps-us.length) undef).getD t undef=(us++List.replicate (fn.ntmps-us.length) undef).getD t undef:=by
    rw [Array.getD_eq_getD_getElem?,List.getD_eq_getElem?_getD,← Array.getElem?_toList]
    simp
   rw [e,Jn,VV,LY,← hul]
   exact this
  exact ⟨hT,hg,by simp;omega,rfl,fun b X hb=>.inl hb,Env.le_refl _,fun _ _ _=>rfl,Nat.le_refl _,rfl,rfl,rfl⟩
theorem bP {β0:Env} {w0:World} {n:Fz} {W:List Nat} {y:ASt} {l:List (Bool×List Ch)} (hD:n.D=[]) (hfn:P.funcs[f]? = some fn) (hend:NP y.todo=true) (hres:LX P y.s.T y.s.H fn.results.toList=some l) :
  ASafe P f β0 w0 (Ay β0 w0 W (PF l) y.s.H) n W y:=by
 intro β a w hi _
 obtain ⟨v,hv,hr⟩:=rC hi.tmp hi.good hres
 refine Safe.done hfn (hi.dfr.trans hD) hv ⟨v,β,rfl,hr,hi.good,hi.new,hi.ext,hi.frame,hi.size,hi.os,hi.tape,hi.output⟩ ?_
 unfold NP at hend
 split at hend
 ·rename_i h;exact .inr h
 ·rename_i k h;exact .inl ⟨k,h⟩
 ·cases hend
def LZ:AV→Bool
 | .val _ cs=>FK (DP cs)
 | .tup xs=>FK (H4 xs)
 | .any=>false
def VW:List AV→Bool
 | []=>true
 | x::r=>LZ x&&VW r
theorem AGL {β β':Env}:∀ {caps:List (Nat×Nat)} {l:List Value},caps.map (·.1)=[]→Ec β caps l→Ec β' caps l
 | [],_,_,h=>h
 | _::_,_,h,_=>by simp at h
theorem AGM {β β':Env} {c:Ch} {l:List Value} (hk:JV c=[]) (h:BI β c l):BI β' c l:=by
 cases c<;>simp only [JV] at hk<;>simp only [BI] at h ⊢
 case n=>exact h
 case b=>exact h
 case v=>exact h
 case p=>cases hk
 case sl=>cases hk
 case sx=>cases hk
 case num=>exact h
 case seq=>exact h
 case clo=>obtain ⟨ps,h1,h2⟩:=h;exact ⟨ps,AGL hk h1,h2⟩
theorem bQ {β β':Env}:∀ {cs:List Ch} {l:List Value},DP cs=[]→AN β cs l→AN β' cs l
 | [],_,_,h=>h
 | c::cs,l,hk,⟨l1,l2,h1,h2,h3⟩=>by
  simp only [DP,DJ,List.append_eq_nil_iff] at hk
  exact ⟨l1,l2,AGM hk.1 h1,bQ hk.2 h2,h3⟩
theorem rE {β β':Env} {g:Bool} {cs:List Ch} {u:Value} (hk:DP cs=[]) (h:Bn β g cs u):Bn β' g cs u:=by
 cases g
 ·exact bQ hk h
 ·obtain ⟨l,h1,h2⟩:=h;exact ⟨l,bQ hk h1,h2⟩
theorem rF {β β':Env}:∀ {xs:List (Bool×List Ch)} {l:List Value},H4 xs=[]→Ed β xs l→Ed β' xs l
 | [],_,_,h=>h
 | (g,cs)::xs,l,hk,⟨u,l',h1,h2,h3⟩=>by
  simp only [H4,DJ,List.append_eq_nil_iff] at hk
  exact ⟨u,l',rE hk.1 h1,rF hk.2 h2,h3⟩
theorem In {β β':Env} {x:AV} {u:Value} (hk:LZ x=true) (h:AP β x u):AP β' x u:=by
 cases x with
 | val g cs=>exact rE (U9 hk) h
 | tup xs=>obtain ⟨us,h1,h2⟩:=h;exact ⟨us,rF (U9 hk) h1,h2⟩
 | any=>cases hk
theorem bS {β β':Env}:∀ {xs:List AV} {us:List Value},VW xs=true→A7 β xs us→A7 β' xs us
 | [],_,_,h=>h
 | x::xs,us,hk,⟨u,us',h1,h2,h3⟩=>by
  have hk':=Bool.and_eq_true_iff.1 hk
  exact ⟨u,us',In hk'.1 h1,bS hk'.2 h2,h3⟩
def Bc:Env:=fun _=>none
def AU (P:Program) (f:FuncId) (args:List AV) (v:AV):Prop :=
 ∀ (us:List Value) (w:World),A7 Bc args us→Calls P f ⟨us⟩ w fun e w'=>∃ u,e=.returned u∧AP Bc v u∧Below w.heap.size w w'
def AR (P:Program) (O:Orc) (fn:Func) (args:List AV) (path:List Bool) (fuel:Nat):Option (List (Bool×Bool)×AV) :=
 match fn.body with
 | some c=>match Jj P O none fuel ⟨[.code c],⟨Jn args fn.ntmps,[],0,path⟩⟩ with
  | some (g,y)=>match NP y.todo,LX P y.s.T y.s.H fn.results.toList,Nat.ble (H8 args) fn.ntmps with
   | true,some l,true=>some (g.conds,PF l)
   | _,_,_=>none
  | none=>none
 | none=>none
theorem Good.none_ (w:World):Good Bc [] w where
 heap:=fun b blk h=>by cases h
 inj:=fun b b' B n n' h=>by cases h
 lt:=fun b B n h=>by cases h
include hO hm in
theorem AW (hfn:P.funcs[f]? = some fn) {args:List AV} {path:List Bool} {fuel:Nat} {conds:List (Bool×Bool)} {v:AV} (h:AR P O fn args path fuel=some (conds,v)) (hc:AQ conds) (hk:LZ v=true):AU P f args v:=by
 unfold AR at h
 split at h
 case h_2=>cases h
 rename_i c hb
 split at h
 case h_2=>cases h
 rename_i g y hrun
 split at h
 case h_2=>cases h
 rename_i l hend hres hlen
 injection h with h;injection h with h1 h2;subst h1;subst h2
 intro us w ha
 have hlen':=Nat.le_of_ble_eq_true hlen
 rw [LY] at hlen'
 refine Calls.mono (bO (R:=Ay Bc w g.keys (PF l) y.s.H) (fr:=0) (path:=path) hfn hb hlen' ?_ ha (Good.none_ w) (fun _ _=>rfl)) ?_
 ·refine VT hO hm hrun hc ⟨fun _ _=>rfl,?_⟩ fun _=>?_
  ·simp only [Jn,VV,LY,List.length_append,bL];omega
  ·rw [List.nil_append];exact bP rfl hfn hend hres
 ·rintro e w' ⟨u,β,rfl,ho⟩
  exact ⟨u,rfl,In hk ho.val,ho.os,ho.tape,ho.output,ho.size,fun k hk=>ho.frame k hk (fun _ _ _ h=>by cases h)⟩
theorem R6 {us:Array Value} {w:World} {R:Ending→World→Prop} (hfn:P.funcs[f]? = some fn) (hb:fn.body.isSome=true) (hname:(fn.name=="runtime.NumGoroutine")=false) (h:Calls P f us w R):LP P f us w R:=by
 unfold LP
 have h1:fn.name≠"runtime.NumGoroutine":=by simpa using hname
 have h2:¬ fn.body=none:=by cases hq:fn.body<;>simp [hq] at hb ⊢
 have:(callFunc f us).run P w=.ok (.enter f us) w:=by
  simp [callFunc,hfn,h1,h2]
 rw [this];exact h
def Aj (sp:List AV→Option AV):ASpec:=fun args _ _ path =>
 match VW args,sp args with
 | true,some v=>match LZ v with
  | true=>some (Br v path)
  | false=>none
 | _,_=>none
theorem Ak {sp:List AV→Option AV} (hfn:P.funcs[f]? = some fn) (hb:fn.body.isSome=true) (hname:(fn.name=="runtime.NumGoroutine")=false) (h:∀ args v,sp args=some v→AU P f args v):A6 P f (Aj sp):=by
 intro args H fr path r β us w hs hc ha hg hf
 unfold Aj at hs
 split at hs
 ·rename_i v hk hv
  split at hs
  ·rename_i hkv
   injection hs with hs;subst hs
   refine R6 hfn hb hname (Calls.mono (h args v hv us w (bS hk ha)) ?_)
   rintro e w' ⟨u,rfl,hu,hbl⟩
   refine ⟨u,β,rfl,?_⟩
   exact ⟨Env.le_refl _,fun _ _ h=>.inl h,fun b B n hb=>Nat.lt_of_lt_of_le (hg.lt b B n hb) hbl.size,fun b b' _ _ _ h1 _ h3=>by simp [Br] at h3;omega,In hkv hu,fun _ _ h=>(by cases h),fun B hB _=>hbl.block B hB,hbl.size,hbl.os,hbl.tape,hbl.output⟩
  ·cases hs
 ·cases hs
def Bd (a b c:Int):Int:=(a+b+c) % 18446744073709551616
def B8 (a b c:Int):Int:=(a+b+c) / 18446744073709551616
def DK (a b c:Int):Int:=(a-b-c) % 18446744073709551616
def GN (a b c:Int):Int:=if a<b+c then 1 else 0
def Bo (c:Int):Bool:=decide (0≤c∧c≤1)
def addSpec:ASpec:=fun args _ _ path =>
 match args with
 | [x,y,z]=>match BJ (some x),BJ (some y),BJ (some z) with
  | some (_,.u64,a),some (_,.u64,b),some (_,.u64,c)=>some ⟨.tup [(false,[.v (.int .u64 (Bd a b c))]),(false,[.v (.int .u64 (B8 a b c))])],[],0,[(Bo c,true)],path⟩
  | _,_,_=>none
 | _=>none
def subSpec:ASpec:=fun args _ _ path =>
 match args with
 | [x,y,z]=>match BJ (some x),BJ (some y),BJ (some z) with
  | some (_,.u64,a),some (_,.u64,b),some (_,.u64,c)=>some ⟨.tup [(false,[.v (.int .u64 (DK a b c))]),(false,[.v (.int .u64 (GN a b c))])],[],0,[(Bo c,true)],path⟩
  | _,_,_=>none
 | _=>none
def bT:Array Value→Sem Value:=fun args=>do
 let (x,y,b) ← Extern.MathBitsCarry.three "Sub64" args
 pure (Extern.MathBitsCarry.pair ((x+Extern.MathBitsCarry.m64-y-b) % Extern.MathBitsCarry.m64) (if x<y+b then 1 else 0))
theorem rG {e:Array Value→Sem Value} {us:Array Value} {w w':World} {v:Value} {R:Ending→World→Prop} (hfn:P.funcs[f]? = some fn) (hname:(fn.name=="runtime.NumGoroutine")=false) (hb:fn.body.isNone=true) (hn:Extern.findNext fn=none) (he:Extern.find fn=some e)
  (hr:(e us).run P w=.ok v w') (h:R (.returned v) w'):LP P f us w R:=by
 unfold LP
 rw [run_callFunc_extern hfn hname hb hn he us w,hr]
 exact h
theorem DQ {a:Int} (h:has .u64 a):0≤a∧a<18446744073709551616:=by
 have:=(EJ _ _).1 h
 simp only [AJ,Bool.and_eq_true,decide_eq_true_eq] at this
 omega
theorem VX {a:Int} (h1:0≤a) (h2:a<18446744073709551616):has .u64 a:=by
 rw [EJ]
 simp only [AJ,Bool.and_eq_true,decide_eq_true_eq]
 omega
theorem AGN (hfn:P.funcs[f]? = some fn) (hname:(fn.name=="runtime.NumGoroutine")=false) (hb:fn.body.isNone=true) (hn:Extern.findNext fn=none) (he:Extern.find fn=some add64Entry):A6 P f addSpec:=by
 intro args H fr path r β us w hs hc ha hg hf
 unfold addSpec at hs
 split at hs
 case h_2=>cases hs
 rename_i x y z
 split at hs
 case h_2=>cases hs
 rename_i c1 a c2 b c3 c hx hy hz
 injection hs with hs;subst hs
 obtain ⟨u1,us1,r1,ha,rfl⟩:=ha
 obtain ⟨u2,us2,r2,ha,rfl⟩:=ha
 obtain ⟨u3,us3,r3,ha,rfl⟩:=ha
 simp only [A7] at ha
 subst ha
 obtain ⟨rfl,p1⟩:=CH (β:=β) (u:=u1) (fun A hA=>by injection hA with hA;subst hA;exact r1) hx
 obtain ⟨rfl,p2⟩:=CH (β:=β) (u:=u2) (fun A hA=>by injection hA with hA;subst hA;exact r2) hy
 obtain ⟨rfl,p3⟩:=CH (β:=β) (u:=u3) (fun A hA=>by injection hA with hA;subst hA;exact r3) hz
 have hcc:=hc.1
 simp only [Bo,decide_eq_true_eq] at hcc
 have b1:=DQ p1
 have b2:=DQ p2
 refine rG hfn hname hb hn he (run_add64 a b c b1.1 b2.1 hcc.1 hcc.2 w) ⟨_,β,rfl,Eff.pure_ hg ⟨_,⟨_,_,Aw ⟨rfl,rfl,?_⟩,⟨_,_,Aw ⟨rfl,rfl,?_⟩,rfl,rfl⟩,rfl⟩,rfl⟩⟩
 ·show has .u64 ((a+b+c) % 18446744073709551616);exact VX (by omega) (by omega)
 ·show has .u64 ((a+b+c) / 18446744073709551616);exact VX (by omega) (by omega)
theorem AGO (x y c:Int) (hx:0≤x∧x<18446744073709551616) (hy:0≤y∧y<18446744073709551616) (hc0:0≤c) (hc:c≤1) (w:World) :
  (bT #[.int .u64 x,.int .u64 y,.int .u64 c]).run P w=.ok (.tuple #[.int .u64 ((x-y-c) % 18446744073709551616),.int .u64 (if x<y+c then 1 else 0)]) w:=by
 have key:∀ k:Nat,k≤1→(bT #[.int .u64 x,.int .u64 y,.int .u64 (k:Int)]).run P w =
   .ok (Extern.MathBitsCarry.pair ((x.toNat+Extern.MathBitsCarry.m64-y.toNat-k) % Extern.MathBitsCarry.m64) (if x.toNat<y.toNat+k then 1 else 0)) w:=by
  intro k hk
  have:k=0∨k=1:=by omega
  rcases this with rfl | rfl<;>rfl
 obtain ⟨k,rfl⟩:=Int.eq_ofNat_of_zero_le hc0
 rw [key k (by omega)]
 obtain ⟨X,rfl⟩:=Int.eq_ofNat_of_zero_le hx.1
 obtain ⟨Y,rfl⟩:=Int.eq_ofNat_of_zero_le hy.1
 simp only [Extern.MathBitsCarry.pair,Extern.MathBitsCarry.m64,Int.toNat_natCast]
 have e1:(Int.ofNat ((X+2^64-Y-k) % 2^64))=((X:Int)-Y-k) % 18446744073709551616:=by
  have:(X+2^64-Y-k:Nat)=(X+18446744073709551616-Y-k:Nat):=rfl
  show (((X+18446744073709551616-Y-k) % 18446744073709551616:Nat):Int)=_
  omega
 have e2:(Int.ofNat (if X<Y+k then 1 else 0))=if (X:Int)<Y+k then 1 else 0:=by
  by_cases h:X<Y+k
  ·rw [if_pos h,if_pos (by omega)];rfl
  ·rw [if_neg h,if_neg (by omega)];rfl
 rw [e1,e2]
theorem AGP (hfn:P.funcs[f]? = some fn) (hname:(fn.name=="runtime.NumGoroutine")=false) (hb:fn.body.isNone=true) (hn:Extern.findNext fn=none) (he:Extern.find fn=some bT):A6 P f subSpec:=by
 intro args H fr path r β us w hs hc ha hg hf
 unfold subSpec at hs
 split at hs
 case h_2=>cases hs
 rename_i x y z
 split at hs
 case h_2=>cases hs
 rename_i c1 a c2 b c3 c hx hy hz
 injection hs with hs;subst hs
 obtain ⟨u1,us1,r1,ha,rfl⟩:=ha
 obtain ⟨u2,us2,r2,ha,rfl⟩:=ha
 obtain ⟨u3,us3,r3,ha,rfl⟩:=ha
 simp only [A7] at ha
 subst ha
 obtain ⟨rfl,p1⟩:=CH (β:=β) (u:=u1) (fun A hA=>by injection hA with hA;subst hA;exact r1) hx
 obtain ⟨rfl,p2⟩:=CH (β:=β) (u:=u2) (fun A hA=>by injection hA with hA;subst hA;exact r2) hy
 obtain ⟨rfl,p3⟩:=CH (β:=β) (u:=u3) (fun A hA=>by injection hA with hA;subst hA;exact r3) hz
 have hcc:=hc.1
 simp only [Bo,decide_eq_true_eq] at hcc
 have b1:=DQ p1
 have b2:=DQ p2
 refine rG hfn hname hb hn he (AGO a b c b1 b2 hcc.1 hcc.2 w) ⟨_,β,rfl,Eff.pure_ hg ⟨_,⟨_,_,Aw ⟨rfl,rfl,?_⟩,⟨_,_,Aw ⟨rfl,rfl,?_⟩,rfl,rfl⟩,rfl⟩,rfl⟩⟩
 ·show has .u64 ((a-b-c) % 18446744073709551616);exact VX (by omega) (by omega)
 ·show has .u64 (if a<b+c then 1 else 0)
  split<;>exact VX (by omega) (by omega)
def VY:List (FuncId×ASpec)→FuncId→Option ASpec
 | [],_=>none
 | (k,s)::r,f=>match Nat.beq k f with | true=>some s | false=>VY r f
def VZ:List (TypeId×List (Option IntKind))→TypeId→Option (List (Option IntKind))
 | [],_=>none
 | (k,s)::r,f=>match Nat.beq k f with | true=>some s | false=>VZ r f
def AH (L:List (FuncId×ASpec)) (K:List (TypeId×List (Option IntKind))):Orc:=⟨VY L,VZ K⟩
def AX (P:Program):List (FuncId×ASpec)→Prop
 | []=>True
 | (f,s)::r=>A6 P f s∧AX P r
def Jo (P:Program):List (TypeId×List (Option IntKind))→Prop
 | []=>True
 | (t,ks)::r=>(Eh P 20 t=some ks∧P.eqGuardType P.depth t=false∧(match P.underlying t with | some d=>wide d | none=>false)=true)∧Jo P r
theorem AGQ {L:List (FuncId×ASpec)} (h:AX P L) {f:FuncId} {s:ASpec} (hl:VY L f=some s):A6 P f s:=by
 induction L with
 | nil=>cases hl
 | cons e L ih =>
  obtain ⟨k,q⟩:=e
  simp only [VY] at hl
  split at hl
  ·rename_i hb
   injection hl with hl;subst hl
   rw [← An.1 hb];exact h.1
  ·exact ih h.2 hl
theorem AGR {L:List (TypeId×List (Option IntKind))} (h:Jo P L) {f:TypeId} {s:List (Option IntKind)} (hl:VZ L f=some s) :
  Eh P 20 f=some s∧P.eqGuardType P.depth f=false∧(match P.underlying f with | some d=>wide d | none=>false)=true:=by
 induction L with
 | nil=>cases hl
 | cons e L ih =>
  obtain ⟨k,q⟩:=e
  simp only [VZ] at hl
  split at hl
  ·rename_i hb
   injection hl with hl;subst hl
   rw [← An.1 hb];exact h.1
  ·exact ih h.2 hl
theorem AK {L:List (FuncId×ASpec)} {K:List (TypeId×List (Option IntKind))} (h:AX P L) (k:Jo P K):OrcOk P (AH L K) :=
 ⟨fun _ _ hl=>AGQ h hl,fun _ _ hl=>AGR k hl⟩
end
end Go.Proofs.YtjlcdlekmpjjnaaGreat.Ex
namespace Go.Proofs.YtjlcdlekmpjjnaaGreat.Ex
def Io (keep:List Nat):Nat→List AV→List AV
 | _,[]=>[]
 | i,x::r=>match GM i keep with
  | true=>x::Io keep (i+1) r
  | false=>.any::Io keep (i+1) r
def Lb (n:Nat):List Nat→Bool
 | []=>true
 | k::r=>match Nat.blt k n with | true=>Lb n r | false=>false
def PH (n:Nat):List AV→Bool
 | []=>true
 | x::r=>match Lb n (H5 x) with | true=>PH n r | false=>false
def Ip (n:Nat):Heap→Bool
 | []=>true
 | (k,y)::r=>match Nat.blt k n,y with
  | true,some blk=>match Lb n (DP blk.cs) with | true=>Ip n r | false=>false
  | true,none=>Ip n r
  | false,_=>false
theorem A8 {a b:Nat}:Nat.blt a b=true↔a<b:=by unfold Nat.blt;exact ⟨Nat.le_of_ble_eq_true,Nat.ble_eq_true_of_le⟩
theorem PI {n:Nat}:∀ {l:List Nat},Lb n l=true→∀ k∈l,k<n
 | [],_,k,h=>by cases h
 | x::r,h,k,hk=>by
  simp only [Lb] at h
  split at h
  ·rename_i hb
   rcases List.mem_cons.1 hk with rfl | hk
   ·exact A8.1 hb
   ·exact PI h k hk
  ·cases h
def Jp (β:Env) (n:Nat):Env:=fun b=>match Nat.blt b n with | true=>β b | false=>none
theorem F3 {β:Env} {n b:Nat} (h:b<n):Jp β n b=β b:=by simp [Jp,A8.2 h]
theorem PJ {β:Env} {n b:Nat} (h:n≤b):Jp β n b=none:=by
 have:Nat.blt b n=false:=by cases hb:Nat.blt b n with | false=>rfl | true=>have:=A8.1 hb;omega
 simp [Jp,this]
theorem NQ {β:Env} {n b:Nat} {X:Loc} (h:Jp β n b=some X):β b=some X∧b<n:=by
 rcases Nat.lt_or_ge b n with hlt | hge
 ·rw [F3 hlt] at h;exact ⟨h,hlt⟩
 ·rw [PJ hge] at h;cases h
section
variable {β β':Env}
theorem rH:∀ {caps:List (Nat×Nat)} {l:List Value},(∀ k∈caps.map (·.1),β' k=β k)→Ec β caps l→Ec β' caps l
 | [],_,_,h=>h
 | (b,o)::r,l,hk,⟨B,n,l',h1,h2,h3⟩=>⟨B,n,l',by rw [hk b (by simp)];exact h1,rH (fun k h=>hk k (by simp at h ⊢;exact .inr h)) h2,h3⟩
theorem AGS {c:Ch} {l:List Value} (hk:∀ k∈JV c,β' k=β k) (h:BI β c l):BI β' c l:=by
 cases c<;>simp only [JV] at hk<;>simp only [BI] at h ⊢
 case n=>exact h
 case b=>exact h
 case v=>exact h
 case p=>rw [hk _ (by simp)];exact h
 case sl=>rw [hk _ (by simp)];exact h
 case sx=>rw [hk _ (by simp)];exact h
 case num=>exact h
 case seq=>exact h
 case clo=>obtain ⟨ps,h1,h2⟩:=h;exact ⟨ps,rH hk h1,h2⟩
theorem Jq:∀ {cs:List Ch} {l:List Value},(∀ k∈DP cs,β' k=β k)→AN β cs l→AN β' cs l
 | [],_,_,h=>h
 | c::cs,l,hk,⟨l1,l2,h1,h2,h3⟩=>by
  simp only [DP,DJ,List.mem_append] at hk
  exact ⟨l1,l2,AGS (fun k h=>hk k (.inl h)) h1,Jq (fun k h=>hk k (.inr h)) h2,h3⟩
theorem rI {g:Bool} {cs:List Ch} {u:Value} (hk:∀ k∈DP cs,β' k=β k) (h:Bn β g cs u):Bn β' g cs u:=by
 cases g
 ·exact Jq hk h
 ·obtain ⟨l,h1,h2⟩:=h;exact ⟨l,Jq hk h1,h2⟩
theorem rJ:∀ {xs:List (Bool×List Ch)} {l:List Value},(∀ k∈H4 xs,β' k=β k)→Ed β xs l→Ed β' xs l
 | [],_,_,h=>h
 | (g,cs)::xs,l,hk,⟨u,l',h1,h2,h3⟩=>by
  simp only [H4,DJ,List.mem_append] at hk
  exact ⟨u,l',rI (fun k h=>hk k (.inl h)) h1,rJ (fun k h=>hk k (.inr h)) h2,h3⟩
theorem bU {x:AV} {u:Value} (hk:∀ k∈H5 x,β' k=β k) (h:AP β x u):AP β' x u:=by
 cases x with
 | val g cs=>exact rI hk h
 | tup xs=>obtain ⟨us,h1,h2⟩:=h;exact ⟨us,rJ hk h1,h2⟩
 | any=>trivial
end
def Ld (keep ks:List Nat) (fr:Nat) (path:List Bool) (s:St):Option St :=
 match PH fr (Io keep 0 s.T),Ip fr (restrict s.H ks) with
 | true,true=>some ⟨Io keep 0 s.T,restrict s.H ks,fr,path⟩
 | _,_=>none
theorem bV {n:Nat}:∀ {T:List AV} {t:Nat},PH n T=true→∀ k∈H5 (Aq T t),k<n
 | [],_,_,k,h=>by simp [Aq,H5] at h
 | x::r,0,h,k,hk=>by
  simp only [PH] at h
  split at h
  ·rename_i h1;exact PI h1 k hk
  ·cases h
 | x::r,t+1,h,k,hk=>by
  simp only [PH] at h
  split at h
  ·exact bV h k hk
  ·cases h
theorem Jr {n:Nat}:∀ {H:Heap} {b:Nat} {blk:Blk},Ip n H=true→AG H b=some blk→b<n∧∀ k∈DP blk.cs,k<n
 | [],_,_,_,h=>by cases h
 | (k,y)::r,b,blk,h,hb=>by
  simp only [Ip] at h
  simp only [AG] at hb
  split at h
  ·rename_i hk
   split at h
   ·rename_i hall
    split at hb
    ·rename_i e;rw [← An.1 e];injection hb with hb;subst hb;exact ⟨A8.1 hk,PI hall⟩
    ·exact Jr h hb
   ·cases h
  ·rename_i hk
   split at hb
   ·cases hb
   ·exact Jr h hb
  ·cases h
theorem rK (keep:List Nat):∀ {T:List AV} {i t:Nat},Aq (Io keep i T) t=Aq T t∨Aq (Io keep i T) t=.any
 | [],i,t=>.inl rfl
 | x::r,i,0=>by
  simp only [Io]
  split
  ·exact .inl rfl
  ·exact .inr rfl
 | x::r,i,t+1=>by
  simp only [Io]
  split<;>exact rK keep
theorem rL (keep:List Nat):∀ {T:List AV} {i:Nat},(Io keep i T).length=T.length
 | [],_=>rfl
 | x::r,i=>by simp only [Io];split<;>simp [rL keep]
section
variable {P:Program} {O:Orc} {f:FuncId} {β0:Env} {w0:World} {R:Ending→World→Prop} {n:Fz} {W:List Nat}
theorem AGT {keep ks:List Nat} {fr:Nat} {path:List Bool} {s s':St} (h:Ld keep ks fr path s=some s') (hwf:B4 n s):B4 n s':=by
 unfold Ld at h
 split at h
 ·rename_i h1 h2
  injection h with h;subst h
  refine ⟨fun b hb=>?_,by simp only [rL];exact hwf.2⟩
  cases hq:AG (restrict s.H ks) b with
  | none=>rfl
  | some blk=>have:=(Jr h2 hq).1;simp only at hb;omega
 ·cases h
theorem rM {keep ks:List Nat} {fr:Nat} {path:List Bool} {s s':St} {todo:List Item} (h:Ld keep ks fr path s=some s') (hβ0:∀ b,fr≤b→β0 b=none)
  (hs:ASafe P f β0 w0 R n W ⟨todo,s'⟩):ASafe P f β0 w0 R n W ⟨todo,s⟩:=by
 unfold Ld at h
 split at h
 ·rename_i h1 h2
  injection h with h;subst h
  intro β a w hi hf
  refine hs (Jp β fr) a w ?_ (fun b hb=>PJ hb)
  refine { hi with tmp:=fun t=>?_,good:=?_,new:=fun b X hb=>?_,ext:=fun b B hb=>?_ }
  ·have hk:=bV (t:=t) h1
   simp only
   rcases rK keep (T:=s.T) (i:=0) (t:=t) with e | e
   ·rw [e] at hk ⊢
    exact bU (fun k hkk=>F3 (hk k hkk)) (hi.tmp t)
   ·rw [e];trivial
  ·refine ⟨fun b blk hb=>?_,fun b b' B m m' h3 h4 h5 h6=>?_,fun b B m hb=>hi.good.lt b B m (NQ hb).1⟩
   ·obtain ⟨e1,e2⟩:=Jr h2 hb
    rcases hi.good.heap b blk (JX hb) with ⟨B,m,l,t,pre,ty,fz,q1,q2,q3⟩ | ⟨q1,q2,q3⟩
    ·exact .inl ⟨B,m,l,t,pre,ty,fz,by rw [F3 e1];exact q1,Jq (fun k hk=>F3 (e2 k hk)) q2,q3⟩
    ·exact .inr ⟨by rw [F3 e1];exact q1,q2,Jq (fun k hk=>F3 (e2 k hk)) q3⟩
   ·obtain ⟨x,hx,hr⟩:=F0 h3
    obtain ⟨y,hy⟩:=Option.isSome_iff_exists.1 h4
    exact hi.good.inj b b' B m m' (Ef (JX hx) hr) (by rw [JX hy];rfl) (NQ h5).1 (NQ h6).1
  ·exact hi.new b X (NQ hb).1
  ·have hlt:b<fr:=by
    rcases Nat.lt_or_ge b fr with h | h
    ·exact h
    ·rw [hβ0 b h] at hb;cases hb
   rw [F3 hlt];exact hi.ext b B hb
 ·cases h
def Ds (k0:Nat):List Nat→List Nat
 | []=>[]
 | k::r=>match Nat.blt k k0,GM k (Ds k0 r) with
  | true,false=>k::Ds k0 r
  | _,_=>Ds k0 r
theorem bW {k0 k:Nat}:∀ {l:List Nat},k∈l→k<k0→k∈Ds k0 l
 | [],h,_=>by cases h
 | x::r,h,hlt=>by
  simp only [Ds]
  rcases List.mem_cons.1 h with rfl | h
  ·rw [A8.2 hlt]
   cases hm:GM k (Ds k0 r) with
   | true=>simp only;exact PA.1 hm
   | false=>simp
  ·have ih:=bW h hlt
   split
   ·exact List.mem_cons_of_mem _ ih
   ·exact ih
theorem Inv.old {W W':List Nat} {k0:Nat} {β:Env} {τ:Nat→AV} {H:Heap} {a:Act} {w:World} (i:Inv β0 w0 W n β τ H a w) (h0:∀ b,k0≤b→β0 b=none) (h:∀ k∈W,k<k0→k∈W'):Inv β0 w0 W' n β τ H a w :=
 { i with
  new:=fun b X hb=>(i.new b X hb).imp id fun q B m e=>(q B m e).imp id fun ⟨k,m',h1,h2⟩=>⟨k,m',h k h1 (by
   rcases Nat.lt_or_ge k k0 with h | h
   ·exact h
   ·rw [h0 k h] at h2;cases h2),h2⟩
  frame:=fun B hB hno=>i.frame B hB fun k m hk hk2=>hno k m (h k hk (by
   rcases Nat.lt_or_ge k k0 with h | h
   ·exact h
   ·rw [h0 k h] at hk2;cases hk2)) hk2 }
theorem ASafe.old {W W':List Nat} {k0:Nat} {x:ASt} (h0:∀ b,k0≤b→β0 b=none) (h:∀ k∈W,k<k0→k∈W') (hs:ASafe P f β0 w0 R n W' x):ASafe P f β0 w0 R n W x :=
 fun β a w hi hf=>hs β a w (hi.old h0 h) hf
def AS (P:Program) (O:Orc) (stop:Option Nat) (fuel k0:Nat) (fg:Option (List Nat×List Nat×Nat)) (x:ASt):Option (List (Bool×Bool)×List Nat×ASt) :=
 match Jj P O stop fuel x with
 | some (g,y)=>match fg with
  | some (keep,ks,fr)=>match Ld keep ks fr [] y.s,Nat.ble k0 fr with
   | some s',true=>some (g.conds,Ds k0 g.keys,⟨y.todo,s'⟩)
   | _,_=>none
  | none=>some (g.conds,Ds k0 g.keys,y)
 | none=>none
theorem Ae (hO:OrcOk P O) (hm:P.follows .mixedOrders=true) {stop:Option Nat} {fuel k0:Nat} {fg:Option (List Nat×List Nat×Nat)} {x y:ASt} {conds:List (Bool×Bool)} {ks:List Nat} (h:AS P O stop fuel k0 fg x=some (conds,ks,y))
  (hc:AQ conds) (hwf:B4 n x.s) (h0:∀ b,k0≤b→β0 b=none) (hks:∀ k∈ks,k∈W) (hs:B4 n y.s→ASafe P f β0 w0 R n W y):ASafe P f β0 w0 R n W x:=by
 unfold AS at h
 split at h
 case h_2=>cases h
 rename_i g y1 hrun
 have hW:∀ k∈W++g.keys,k<k0→Ds k0 g.keys=ks→k∈W:=by
  intro k hk hlt he
  rcases List.mem_append.1 hk with hk | hk
  ·exact hk
  ·exact hks k (by rw [← he];exact bW hk hlt)
 split at h
 ·rename_i keep ks' fr
  split at h
  ·rename_i s' hfg hle
   injection h with h;injection h with h1 h;injection h with h2 h3
   subst h1;subst h3
   refine VT hO hm hrun hc hwf fun hw=>?_
   have hle':=Nat.le_of_ble_eq_true hle
   refine ASafe.old h0 (fun k hk hlt=>hW k hk hlt h2) ?_
   exact rM hfg (fun b hb=>h0 b (by omega)) (hs (AGT hfg hw))
  ·cases h
 ·injection h with h;injection h with h1 h;injection h with h2 h3
  subst h1;subst h3
  refine VT hO hm hrun hc hwf fun hw=>?_
  exact ASafe.old h0 (fun k hk hlt=>hW k hk hlt h2) (hs hw)
def bX (n:Fz) (s:St):Bool:=Ip s.fr s.H&&Nat.beq (H8 s.T) n.n
theorem AL {s:St} (h:bX n s=true):B4 n s:=by
 have h':=Bool.and_eq_true_iff.1 h
 refine ⟨fun b hb=>?_,by have:=An.1 h'.2;rwa [LY] at this⟩
 cases hq:AG s.H b with
 | none=>rfl
 | some blk=>have:=(Jr h'.1 hq).1;omega
def Af (fn:Func) (args:List AV) (H:Heap) (k0:Nat) (path:List Bool):ASt :=
 ⟨match fn.body with | some c=>[.code c] | none=>[],⟨Jn args fn.ntmps,H,k0,path⟩⟩
def NR (P:Program) (fn:Func) (y:ASt):Option AV :=
 match NP y.todo,LX P y.s.T y.s.H fn.results.toList with
 | true,some l=>some (PF l)
 | _,_=>none
theorem rO {fn:Func} {y:ASt} {v:AV} (hfn:P.funcs[f]? = some fn) (h:NR P fn y=some v) (hR:∀ e w,Ay β0 w0 W v y.s.H e w→R e w) (hD:n.D=[]:=by rfl):ASafe P f β0 w0 R n W y:=by
 unfold NR at h
 split at h
 ·rename_i l h1 h2
  injection h with h;subst h
  intro β a w hi hf
  have:=bP (P:=P) (n:=n) (W:=W) (β0:=β0) (w0:=w0) hD hfn h1 h2 β a w hi hf
  intro b cs hb hk
  obtain ⟨e,w',fr,q1,q2⟩:=this b cs hb hk
  exact ⟨e,w',fr,hR _ _ q1,q2⟩
 ·cases h
end
section
variable {P:Program} {f:FuncId} {fn:Func}
theorem PK {R:Ending→World→Prop} (hfn:P.funcs[f]? = some fn) (hb:fn.body.isSome=true) {args:List AV} {H:Heap} {k0:Nat} {path:List Bool} {β:Env} {us:List Value} {w:World} (hlen:Nat.ble (H8 args) fn.ntmps=true)
  (h:ASafe P f β w R fn.ntmps [] (Af fn args H k0 path)) (ha:A7 β args us) (hg:Good β H w) (hf:∀ b,k0≤b→β b=none):Calls P f ⟨us⟩ w R:=by
 obtain ⟨c,hc⟩:=Option.isSome_iff_exists.1 hb
 have hl:=Nat.le_of_ble_eq_true hlen
 rw [LY] at hl
 unfold Af at h
 rw [hc] at h
 exact bO hfn hc hl h ha hg hf
end
open Go.RowKit (Below)
def F4 (w0:World) (v:AV):Ending→World→Prop:=fun e w'=>∃ u,e=.returned u∧AP Bc v u∧Below w0.heap.size w0 w'
def Dt (P:Program) (O:Orc) (fn:Func) (fuel k0:Nat) (x:ASt):Option (List (Bool×Bool)×List Nat×AV) :=
 match Jj P O none fuel x with
 | some (g,y)=>match NR P fn y with
  | some v=>some (g.conds,Ds k0 g.keys,v)
  | none=>none
 | none=>none
section
variable {P:Program} {O:Orc} {f:FuncId} {fn:Func} {β0:Env} {w0:World} {n:Fz}
theorem GO (hO:OrcOk P O) (hm:P.follows .mixedOrders=true) (hfn:P.funcs[f]? = some fn) {fuel k0:Nat} {x:ASt} {conds:List (Bool×Bool)} {v:AV} (h:Dt P O fn fuel k0 x=some (conds,[],v)) (hc:AQ conds) (hwf:B4 n x.s)
  (h0:∀ b,k0≤b→β0 b=none) (hk:LZ v=true) (hD:n.D=[]:=by rfl):ASafe P f β0 w0 (F4 w0 v) n [] x:=by
 unfold Dt at h
 split at h
 case h_2=>cases h
 rename_i g y hrun
 split at h
 case h_2=>cases h
 rename_i v' hv
 injection h with h;injection h with h1 h;injection h with h2 h3
 subst h1;subst h3
 refine Ae (W:=[]) hO hm (fuel:=fuel) (k0:=k0) (fg:=none) (stop:=none) (ks:=[]) (y:=y) (by unfold AS;rw [hrun];simp only;rw [h2]) hc hwf h0 (fun _ h=>by cases h) fun _=>?_
 intro β a w hi hf
 unfold NR at hv
 split at hv
 case h_2=>cases hv
 rename_i l e1 e2
 injection hv with hv;subst hv
 have:=bP (P:=P) (n:=n) (W:=[]) (β0:=β0) (w0:=w0) hD hfn e1 e2 β a w hi hf
 intro b cs hb hkd
 obtain ⟨e,w',fr,⟨u,β',q0,q1⟩,q2⟩:=this b cs hb hkd
 exact ⟨e,w',fr,⟨u,q0,In hk q1.val,q1.os,q1.tape,q1.output,q1.size,fun k hk=>q1.frame k hk (fun _ _ h=>by cases h)⟩,q2⟩
theorem Js (hfn:P.funcs[f]? = some fn) (hb:fn.body.isSome=true) {args:List AV} {path:List Bool} {v:AV} (hlen:Nat.ble (H8 args) fn.ntmps=true)
  (h:∀ w0,ASafe P f Bc w0 (F4 w0 v) fn.ntmps [] (Af fn args [] 0 path)):AU P f args v :=
 fun _ w ha=>PK hfn hb hlen (h w) ha (Good.none_ w) (fun _ _=>rfl)
theorem Ab {R:Ending→World→Prop} {W:List Nat} {todo:List Item} {T:List AV} {H:Heap} {fr:Nat} {p:List Bool} (q:List Bool) (h:ASafe P f β0 w0 R n W ⟨todo,⟨T,H,fr,q⟩⟩):ASafe P f β0 w0 R n W ⟨todo,⟨T,H,fr,p⟩⟩:=h
end
def Vi (κ:Nat→Nat):List (Nat×Nat)→List (Nat×Nat)
 | []=>[]
 | (b,o)::r=>(κ b,o)::Vi κ r
def R9 (κ:Nat→Nat):Ch→Ch
 | .p b o=>.p (κ b) o
 | .sl b o l c=>.sl (κ b) o l c
 | .sx b l s=>.sx (κ b) l s
 | .clo f caps=>.clo f (Vi κ caps)
 | .n k i=>.n k i
 | .b x=>.b x
 | .v x=>.v x
 | .num k x=>.num k x
 | .seq k l=>.seq k l
def GP (κ:Nat→Nat):List Ch→List Ch
 | []=>[]
 | c::r=>R9 κ c::GP κ r
def Vj (κ:Nat→Nat):List (Bool×List Ch)→List (Bool×List Ch)
 | []=>[]
 | (g,cs)::r=>(g,GP κ cs)::Vj κ r
def R_ (κ:Nat→Nat):AV→AV
 | .val g cs=>.val g (GP κ cs)
 | .tup xs=>.tup (Vj κ xs)
 | .any=>.any
section
variable {β β':Env} {κ:Nat→Nat}
theorem rP:∀ {caps:List (Nat×Nat)} {l:List Value},(∀ k∈caps.map (·.1),∀ X,β k=some X→β' (κ k)=some X)→Ec β caps l→Ec β' (Vi κ caps) l
 | [],_,_,h=>h
 | (b,o)::r,l,hk,⟨B,n,l',h1,h2,h3⟩=>⟨B,n,l',hk b (by simp) _ h1,rP (fun k h=>hk k (by simp at h ⊢;exact .inr h)) h2,h3⟩
theorem AGU {c:Ch} {l:List Value} (hk:∀ k∈JV c,∀ X,β k=some X→β' (κ k)=some X) (h:BI β c l):BI β' (R9 κ c) l:=by
 cases c<;>simp only [JV] at hk<;>simp only [R9,BI] at h ⊢
 case n=>exact h
 case b=>exact h
 case v=>exact h
 case p=>obtain ⟨B,n,h1,h2⟩:=h;exact ⟨B,n,hk _ (by simp) _ h1,h2⟩
 case sl =>
  rcases h with ⟨B,n,h1,h2⟩ | ⟨h1,h2⟩
  ·exact .inl ⟨B,n,hk _ (by simp) _ h1,h2⟩
  ·exact .inr ⟨hk _ (by simp) _ h1,h2⟩
 case sx =>
  rcases h with ⟨B,n,cap,h1,h2⟩ | ⟨h1,h2⟩
  ·exact .inl ⟨B,n,cap,hk _ (by simp) _ h1,h2⟩
  ·exact .inr ⟨hk _ (by simp) _ h1,h2⟩
 case num=>exact h
 case seq=>exact h
 case clo=>obtain ⟨ps,h1,h2⟩:=h;exact ⟨ps,rP hk h1,h2⟩
theorem SA:∀ {cs:List Ch} {l:List Value},(∀ k∈DP cs,∀ X,β k=some X→β' (κ k)=some X)→AN β cs l→AN β' (GP κ cs) l
 | [],_,_,h=>h
 | c::cs,l,hk,⟨l1,l2,h1,h2,h3⟩=>by
  simp only [DP,DJ,List.mem_append] at hk
  exact ⟨l1,l2,AGU (fun k h=>hk k (.inl h)) h1,SA (fun k h=>hk k (.inr h)) h2,h3⟩
theorem rS {g:Bool} {cs:List Ch} {u:Value} (hk:∀ k∈DP cs,∀ X,β k=some X→β' (κ k)=some X) (h:Bn β g cs u):Bn β' g (GP κ cs) u:=by
 cases g
 ·exact SA hk h
 ·obtain ⟨l,h1,h2⟩:=h;exact ⟨l,SA hk h1,h2⟩
theorem rT:∀ {xs:List (Bool×List Ch)} {l:List Value},(∀ k∈H4 xs,∀ X,β k=some X→β' (κ k)=some X)→Ed β xs l→Ed β' (Vj κ xs) l
 | [],_,_,h=>h
 | (g,cs)::xs,l,hk,⟨u,l',h1,h2,h3⟩=>by
  simp only [H4,DJ,List.mem_append] at hk
  exact ⟨u,l',rS (fun k h=>hk k (.inl h)) h1,rT (fun k h=>hk k (.inr h)) h2,h3⟩
theorem AGV {x:AV} {u:Value} (hk:∀ k∈H5 x,∀ X,β k=some X→β' (κ k)=some X) (h:AP β x u):AP β' (R_ κ x) u:=by
 cases x with
 | val g cs=>exact rS hk h
 | tup xs=>obtain ⟨us,h1,h2⟩:=h;exact ⟨us,rT hk h1,h2⟩
 | any=>trivial
end
def Ad (P:Program) (f:FuncId) (args0:List AV) (H0:Heap) (k0:Nat) (W:List Nat) (val:AV) (H1:Heap):Prop :=
 ∀ (β:Env) (us:List Value) (w:World),A7 β args0 us→Good β H0 w→(∀ b,k0≤b→β b=none)→Calls P f ⟨us⟩ w (Ay β w W val H1)
def nth:List Nat→Nat→Nat
 | [],_=>0
 | x::_,0=>x
 | _::r,n+1=>nth r n
def NS (ρ:List Nat) (k0 fr:Nat):Nat→Nat:=fun k=>match Nat.blt k k0 with | true=>nth ρ k | false=>fr+(k-k0)
def A4 (β:Env) (ρ:List Nat) (k0:Nat):Env:=fun k=>match Nat.blt k k0 with | true=>β (nth ρ k) | false=>none
def PM (κ:Nat→Nat) (H1:Heap):List Nat→Heap
 | []=>[]
 | k::r=>(κ k,(AG H1 k).map fun b=>⟨b.ty,GP κ b.cs,b.opn⟩)::PM κ H1 r
def HO (k0:Nat):Heap→List Nat
 | []=>[]
 | (k,_)::r=>match Nat.blt k k0,GM k (HO k0 r) with
  | false,false=>k::HO k0 r
  | _,_=>HO k0 r
theorem bY {k0 k:Nat}:∀ {H:Heap},k∈HO k0 H→k0≤k
 | [],h=>by cases h
 | (j,y)::r,h=>by
  simp only [HO] at h
  split at h
  ·rename_i hb _
   rcases List.mem_cons.1 h with rfl | h
   ·rcases Nat.lt_or_ge k k0 with hlt | hge
    ·rw [A8.2 hlt] at hb;cases hb
    ·exact hge
   ·exact bY h
  ·exact bY h
theorem bZ {k0 k:Nat} {b:Blk}:∀ {H:Heap},AG H k=some b→k0≤k→k∈HO k0 H
 | [],h,_=>by cases h
 | (j,y)::r,h,hk=>by
  simp only [AG] at h
  simp only [HO]
  split at h
  ·rename_i e
   have:=An.1 e
   subst this
   have h1:Nat.blt j k0=false:=by cases hq:Nat.blt j k0 with | false=>rfl | true=>have:=A8.1 hq;omega
   rw [h1]
   cases hm:GM j (HO k0 r) with
   | true=>exact PA.1 hm
   | false=>simp
  ·have ih:=bZ h hk
   split
   ·exact List.mem_cons_of_mem _ ih
   ·exact ih
def NT (k0:Nat) (H1:Heap):List Nat→Bool
 | []=>true
 | k::r=>match Nat.blt k k0,AG H1 k with
  | true,_=>NT k0 H1 r
  | false,some _=>NT k0 H1 r
  | false,none=>false
theorem SF {k0:Nat} {H1:Heap}:∀ {l:List Nat},NT k0 H1 l=true→∀ k∈l,k<k0∨(AG H1 k).isSome=true
 | [],_,k,h=>by cases h
 | x::r,h,k,hk=>by
  simp only [NT] at h
  split at h
  ·rename_i hb
   rcases List.mem_cons.1 hk with rfl | hk
   ·exact .inl (A8.1 hb)
   ·exact SF h k hk
  ·rename_i b hb hg
   rcases List.mem_cons.1 hk with rfl | hk
   ·exact .inr (by rw [hg];rfl)
   ·exact SF h k hk
  ·cases h
def Vk (k0:Nat) (H1:Heap):List Nat→Bool
 | []=>true
 | k::r=>match AG H1 k with
  | some b=>match NT k0 H1 (DP b.cs),Nat.beq b.ty CG with | true,false=>Vk k0 H1 r | _,_=>false
  | none=>false
theorem Vl {k0:Nat} {H1:Heap}:∀ {l:List Nat},Vk k0 H1 l=true→∀ k∈l,∃ b,AG H1 k=some b∧NT k0 H1 (DP b.cs)=true∧b.ty≠CG
 | [],_,k,h=>by cases h
 | x::r,h,k,hk=>by
  simp only [Vk] at h
  split at h
  ·rename_i b hb
   split at h
   ·rename_i hok hro
    rcases List.mem_cons.1 hk with rfl | hk
    ·exact ⟨b,hb,hok,Gx hro⟩
    ·exact Vl h k hk
   ·cases h
  ·cases h
def A5 (ρ:List Nat) (k0 fr nw:Nat) (W:List Nat) (val:AV) (H1:Heap) (conds:List (Bool×Bool)) (path:List Bool):R :=
 ⟨R_ (NS ρ k0 fr) val,PM (NS ρ k0 fr) H1 (cat W (HO k0 H1)),nw,conds,path⟩
def Cu (k0 nw:Nat) (W:List Nat) (val:AV) (H1:Heap):Bool :=
 Lb k0 W&&(NT k0 H1 (H5 val)&&(Vk k0 H1 (cat W (HO k0 H1))&&Ip (k0+nw) H1))
theorem rU {κ:Nat→Nat} {H1:Heap} {k:Nat} {y:Option Blk}:∀ {l:List Nat},(k,y)∈PM κ H1 l→∃ j∈l,k=κ j∧y=(AG H1 j).map fun b=>⟨b.ty,GP κ b.cs,b.opn⟩
 | [],h=>by cases h
 | x::r,h=>by
  simp only [PM,List.mem_cons,Prod.mk.injEq] at h
  rcases h with ⟨h1,h2⟩ | h
  ·exact ⟨x,by simp,h1,h2⟩
  ·obtain ⟨j,h1,h2⟩:=rU h
   exact ⟨j,by simp [h1],h2⟩
theorem rV {κ:Nat→Nat} {H1:Heap} {j:Nat}:∀ {l:List Nat},j∈l→(κ j,(AG H1 j).map fun b=>(⟨b.ty,GP κ b.cs,b.opn⟩:Blk))∈PM κ H1 l
 | x::r,h=>by
  simp only [PM,List.mem_cons]
  rcases List.mem_cons.1 h with rfl | h
  ·exact .inl rfl
  ·exact .inr (rV h)
theorem rZ {β:Env} {w w':World} {ρ:List Nat} {k0 fr nw:Nat} {W:List Nat} {val:AV} {H H1:Heap} {u:Value} {β1:Env} {conds:List (Bool×Bool)} {path:List Bool} (g:Good β H w)
  (ho:Out (A4 β ρ k0) w W val H1 u w' β1) (hb:Cu k0 nw W val H1=true) (hf:∀ b,fr≤b→b<fr+nw→β b=none) (hdef:∀ k,k<k0→∃ X,β (nth ρ k)=some X):∃ β',Eff β fr (A5 ρ k0 fr nw W val H1 conds path) w u w' β':=by
 unfold Cu at hb
 simp only [Bool.and_eq_true] at hb
 obtain ⟨c1,c2,c3,c4⟩:=hb
 have hW:=PI c1
 have hlive:∀ k,(AG H1 k).isSome=true→k<k0+nw:=by
  intro k hk
  obtain ⟨b,hb⟩:=Option.isSome_iff_exists.1 hk
  exact (Jr c4 hb).1
 have newr:∀ k,k0≤k→(AG H1 k).isSome=true→E5 H1 k=true:=by
  intro k hk hs
  obtain ⟨b,hb⟩:=Option.isSome_iff_exists.1 hs
  obtain ⟨b',hb',_,hr⟩:=Vl c3 k (by rw [DJ,List.mem_append];exact .inr (bZ hb hk))
  exact Ef hb' hr
 let β':Env:=fun b=>match Nat.ble fr b&&Nat.blt b (fr+nw),AG H1 (k0+(b-fr)) with
  | true,some _=>β1 (k0+(b-fr))
  | true,none=>none
  | false,_=>β b
 have out:∀ b,¬ (fr≤b∧b<fr+nw)→β' b=β b:=by
  intro b hb
  have:(Nat.ble fr b&&Nat.blt b (fr+nw))=false:=by
   cases h:Nat.ble fr b&&Nat.blt b (fr+nw) with
   | false=>rfl
   | true =>
    have:=Bool.and_eq_true_iff.1 h
    exact absurd ⟨Nat.le_of_ble_eq_true this.1,A8.1 this.2⟩ hb
  show (match Nat.ble fr b&&Nat.blt b (fr+nw),AG H1 (k0+(b-fr)) with | true,some _=>β1 (k0+(b-fr)) | true,none=>none | false,_=>β b)=β b
  rw [this]
 have inn:∀ b,fr≤b→b<fr+nw→∀ X,β' b=some X→(AG H1 (k0+(b-fr))).isSome=true∧β1 (k0+(b-fr))=some X:=by
  intro b h1 h2 X hX
  have:(Nat.ble fr b&&Nat.blt b (fr+nw))=true:=by rw [Nat.ble_eq_true_of_le h1,A8.2 h2];rfl
  change (match Nat.ble fr b&&Nat.blt b (fr+nw),AG H1 (k0+(b-fr)) with | true,some _=>β1 (k0+(b-fr)) | true,none=>none | false,_=>β b)=some X at hX
  rw [this] at hX
  cases hq:AG H1 (k0+(b-fr)) with
  | none=>rw [hq] at hX;cases hX
  | some y=>rw [hq] at hX;exact ⟨rfl,hX⟩
 have new1:∀ k,k0≤k→(AG H1 k).isSome=true→∀ X,β1 k=some X→β' (fr+(k-k0))=some X:=by
  intro k hk hl X hX
  have h2:=hlive k hl
  have e:k0+(fr+(k-k0)-fr)=k:=by omega
  have:(Nat.ble fr (fr+(k-k0))&&Nat.blt (fr+(k-k0)) (fr+nw))=true:=by rw [Nat.ble_eq_true_of_le (by omega),A8.2 (by omega)];rfl
  show (match Nat.ble fr (fr+(k-k0))&&Nat.blt (fr+(k-k0)) (fr+nw),AG H1 (k0+(fr+(k-k0)-fr)) with | true,some _=>β1 (k0+(fr+(k-k0)-fr)) | true,none=>none | false,_=>β (fr+(k-k0)))=some X
  rw [this,e]
  obtain ⟨y,hy⟩:=Option.isSome_iff_exists.1 hl
  rw [hy];exact hX
 have ext0:Env.le β β':=by
  intro b X hb
  rw [out b (fun h=>by rw [hf b h.1 h.2] at hb;cases hb)]
  exact hb
 have inE:∀ k,k<k0→A4 β ρ k0 k=β (nth ρ k):=fun k hk=>by simp [A4,A8.2 hk]
 have oldk:∀ k,k<k0→∀ X,β1 k=some X→β (nth ρ k)=some X:=by
  intro k hk X hX
  obtain ⟨Y,hq⟩:=hdef k hk
  have:=ho.ext k Y (by rw [inE k hk];exact hq)
  rw [this] at hX;injection hX with hX;subst hX
  exact hq
 have kapk:∀ k,(k<k0∨(AG H1 k).isSome=true)→∀ X,β1 k=some X→β' (NS ρ k0 fr k)=some X:=by
  intro k hk X hX
  unfold NS
  rcases Nat.lt_or_ge k k0 with hlt | hge
  ·rw [A8.2 hlt];exact ext0 _ _ (oldk k hlt X hX)
  ·have:Nat.blt k k0=false:=by cases h:Nat.blt k k0 with | false=>rfl | true=>have:=A8.1 h;omega
   rw [this]
   rcases hk with hk | hk
   ·omega
   ·exact new1 k hge hk X hX
 refine ⟨β',ext0,?_,?_,?_,?_,?_,?_,ho.size,ho.os,ho.tape,ho.output⟩
 ·intro b X hX
  by_cases hr:fr≤b∧b<fr+nw
  ·obtain ⟨hl,h1⟩:=inn b hr.1 hr.2 X hX
   refine .inr ⟨hr.1,hr.2,fun B n e=>?_⟩
   subst e
   rcases ho.new _ _ h1 with h | h
   ·have:Nat.blt (k0+(b-fr)) k0=false:=by cases h:Nat.blt (k0+(b-fr)) k0 with | false=>rfl | true=>have:=A8.1 h;omega
    simp [A4,this] at h
   ·rcases h B n rfl with h | ⟨k,m',hk,hk2⟩
    ·exact .inl h
    ·have hk0:=hW k hk
     obtain ⟨bb,hbb,_,hbr⟩:=Vl c3 k (by rw [DJ,List.mem_append];exact .inl hk)
     have:=ho.good.inj _ _ _ _ _ (Ef hbb hbr) hl (ho.ext k _ hk2) h1
     omega
  ·rw [out b hr] at hX;exact .inl hX
 ·intro b B n hX
  by_cases hr:fr≤b∧b<fr+nw
  ·exact ho.good.lt _ _ _ (inn b hr.1 hr.2 _ hX).2
  ·rw [out b hr] at hX
   exact Nat.lt_of_lt_of_le (g.lt _ _ _ hX) ho.size
 ·intro b b' B n n' h1 h2 h3 h4 h5 h6
  obtain ⟨l1,q1⟩:=inn b h1 h3 _ h5
  obtain ⟨l2,q2⟩:=inn b' h2 h4 _ h6
  have:=ho.good.inj _ _ _ _ _ (newr _ (by omega) l1) l2 q1 q2
  omega
 ·exact AGV (fun k hk X hX=>kapk k (SF c2 k hk) X hX) ho.val
 ·intro k y hk
  obtain ⟨j,hj,e1,e2⟩:=rU hk
  obtain ⟨bb,hbb,hok,_⟩:=Vl c3 j hj
  rw [hbb] at e2
  simp only [Option.map_some,Option.some.injEq] at e2
  subst e1;subst e2
  have hkj:j<k0∨(AG H1 j).isSome=true:=.inr (by rw [hbb];rfl)
  rcases ho.good.heap j bb hbb with ⟨B,n,l,t,pre,ty,fz,q1,q2,q3⟩ | ⟨q1,q2,q3⟩
  ·exact .inl ⟨B,n,l,t,pre,ty,fz,kapk j hkj _ q1,SA (fun k hk X hX=>kapk k (SF hok k hk) X hX) q2,q3⟩
  ·exact .inr ⟨kapk j hkj _ q1,q2,SA (fun k hk X hX=>kapk k (SF hok k hk) X hX) q3⟩
 ·intro B hB hno
  refine ho.frame B hB fun k m hk hk2=>?_
  have hk0:=hW k hk
  rw [inE k hk0] at hk2
  have hmem:=rV (κ:=NS ρ k0 fr) (H1:=H1) (j:=k) (l:=cat W (HO k0 H1)) (by rw [DJ,List.mem_append];exact .inl hk)
  have e:NS ρ k0 fr k=nth ρ k:=by simp [NS,A8.2 hk0]
  rw [e] at hmem
  exact hno _ _ m hmem hk2
section
variable {P:Program} {O:Orc} {f:FuncId} {fn:Func}
theorem FN (hfn:P.funcs[f]? = some fn) (hbd:fn.body.isSome=true) (hname:(fn.name=="runtime.NumGoroutine")=false) {s:ASpec}
  (h:∀ args H fr path r,s args H fr path=some r→∃ (ρ:List Nat) (args0:List AV) (H0:Heap) (k0 nw:Nat) (W:List Nat) (val:AV) (H1:Heap) (conds:List (Bool×Bool)) (path':List Bool),
   r=A5 ρ k0 fr nw W val H1 conds path'∧(∀ β us w,A7 β args us→Good β H w→AQ conds→Ad P f args0 H0 k0 W val H1∧Cu k0 nw W val H1=true∧A7 (A4 β ρ k0) args0 us∧Good (A4 β ρ k0) H0 w∧(∀ k,k<k0→∃ X,β (nth ρ k)=some X))):A6 P f s:=by
 intro args H fr path r β us w hs hc ha hg hf
 obtain ⟨ρ,args0,H0,k0,nw,W,val,H1,conds,path',rfl,hh⟩:=h args H fr path r hs
 obtain ⟨hcan,hb,ha0,hg0,hdef⟩:=hh β us w ha hg hc
 refine R6 hfn hbd hname (Calls.mono (hcan (A4 β ρ k0) us w ha0 hg0 fun b hb=>?_) ?_)
 ·have:Nat.blt b k0=false:=by cases h:Nat.blt b k0 with | false=>rfl | true=>have:=A8.1 h;omega
  simp [A4,this]
 ·rintro e w' ⟨u,β1,rfl,ho⟩
  obtain ⟨β',he⟩:=rZ (conds:=conds) (path:=path') hg ho hb hf hdef
  exact ⟨u,β',rfl,he⟩
def AM (P:Program) (O:Orc) (fn:Func) (fuel k0:Nat) (ks:List Nat) (x:ASt):Option (List (Bool×Bool)×List Nat×AV×Heap) :=
 match Jj P O none fuel x with
 | some (g,y)=>match NR P fn y with
  | some v=>some (g.conds,Ds k0 g.keys,v,restrict y.s.H ks)
  | none=>none
 | none=>none
theorem As {β0:Env} {w0:World} {n:Fz} {W:List Nat} (hO:OrcOk P O) (hm:P.follows .mixedOrders=true) (hfn:P.funcs[f]? = some fn) {fuel k0:Nat} {ks ks':List Nat} {x:ASt} {conds:List (Bool×Bool)} {v:AV} {H1:Heap}
  (h:AM P O fn fuel k0 ks x=some (conds,ks',v,H1)) (hc:AQ conds) (hwf:B4 n x.s) (h0:∀ b,k0≤b→β0 b=none) (hks:∀ k∈ks',k∈W) (hD:n.D=[]:=by rfl):ASafe P f β0 w0 (Ay β0 w0 W v H1) n W x:=by
 unfold AM at h
 split at h
 case h_2=>cases h
 rename_i g y hrun
 split at h
 case h_2=>cases h
 rename_i v' hv
 injection h with h;injection h with h1 h;injection h with h2 h;injection h with h3 h4
 subst h1;subst h3;subst h4
 refine Ae (W:=W) hO hm (fuel:=fuel) (k0:=k0) (fg:=none) (stop:=none) (ks:=ks') (y:=y) (by unfold AS;rw [hrun];simp only;rw [h2]) hc hwf h0 hks fun _=>?_
 refine rO hfn hv ?_ hD
 rintro e w ⟨u,β,q0,q1⟩
 exact ⟨u,β,q0,{ q1 with good:=q1.good.restrict ks }⟩
theorem Av (hfn:P.funcs[f]? = some fn) (hb:fn.body.isSome=true) {args0:List AV} {H0:Heap} {k0:Nat} {path:List Bool} {W:List Nat} {v:AV} {H1:Heap} (hlen:Nat.ble (H8 args0) fn.ntmps=true)
  (h:∀ β0 w0,(∀ b,k0≤b→β0 b=none)→ASafe P f β0 w0 (Ay β0 w0 W v H1) fn.ntmps W (Af fn args0 H0 k0 path)):Ad P f args0 H0 k0 W v H1 :=
 fun β us w ha hg hf=>PK hfn hb hlen (ASafe.old (k0:=k0) hf (fun _ h=>by cases h) (h β w hf)) ha hg hf
end
end Go.Proofs.YtjlcdlekmpjjnaaGreat.Ex
namespace Go.Proofs.YtjlcdlekmpjjnaaGreat.Ex
open Go.RowKit (Below)
open Go.ChangeShapes Go.WideShapes Go.ChangeAt Go.RowKit
section
variable {H:Type} {enc:TypeId×Value→H} {P:Program} {w:World} {base:Nat} {spare:Nat→Bool} {held:Bool}
theorem AGW {k:IntKind} {i:Int} (h:(Lit.int k i).wf=true):has k i:=by
 simp only [Lit.wf,Bool.and_eq_true,decide_eq_true_eq] at h
 exact h
end
theorem r7 {H:Type} {enc:TypeId×Value→H} {P:Program} {W:World} {base:Nat} {spare:Nat→Bool} {held:Bool}:∀ {ts:List TypeId} {vs:List Value} {ds:List (DataW H)} {ps:List MemPlace},DataW.TrodAll enc P W base spare held ts vs ds ps→vs.length=ts.length∧ds.length=ts.length
 | [],[],[],_,_=>⟨rfl,rfl⟩
 | _::_,_::_,_::_,_,⟨_,_,_,h,_⟩=>by have:=r7 h;simp [this]
theorem r9 {H:Type} {enc:TypeId×Value→H} {P:Program} (hl:laidOutB P=true) {W W':World} (hb:Below W.heap.size W W'):∀ {ts:List TypeId} {vs:List Value} {ds:List (DataW H)} {ps:List MemPlace},
  ts.all (fun t=>P.readableRec t&&decide (t<P.types.size))=true→DataW.TrodAll enc P W 0 (fun _=>true) true ts vs ds ps→DataW.TrodAll enc P W' 0 (fun b=>decide (b<W.heap.size)) true ts vs ds ps
 | [],[],[],_,_,h=>h
 | _::_,_::_,_::_,_,hr,⟨p,q,h1,h2,e⟩=>by
  simp only [List.all_cons,Bool.and_eq_true,decide_eq_true_eq] at hr
  have hlt:∀ x∈p,x.block<W.heap.size:=by obtain ⟨m,hm⟩:=h1;exact DataW.trod_lt m _ _ _ hm
  exact ⟨p,q,Below.trod hl hr.1.1 hr.1.2 h1 hb hlt,r9 hl hb (by simpa using hr.2) h2,e⟩
def AGX (s:ChangeSpec) (n:Nat):Prop:=s.vars=[]∧∀ (H:Type) (ds:List (DataW H)),ds.length=n→(s.fn H ds).results=[.lit (.bool true)]∧(s.fn H ds).args=ds∧(s.fn H ds).vars=[]
def Vm (P:Program) (f:FuncId) (fn:Func):Prop :=
 ∀ (H:Type) (enc:TypeId×Value→H) (us:List Value) (W:World) (base:Nat) (ds:List (DataW H)) (ps:List MemPlace),(∀ (j:Nat) t v,fn.params[j]? = some t→us[j]? = some v→Value.okWide P W .any base t v) →
  DataW.TrodAll enc P W 0 (fun _=>true) true fn.params.toList us ds ps→(DataW.weightsEach P fn.params.toList ds).all (· ≤ reachBytes)=true→W.noneFrozen ps→Calls P f ⟨us⟩ W fun e w'=>e=.returned (.bool true)∧Below W.heap.size W w'
theorem law_lift {C:Checked} {os:Os} {f:FuncId} {fn:Func} {s:ChangeSpec} {H:Type} {enc:TypeId×Value→H} (own:ownKnob C.prog.godebug=none) (started:os.Started) (noInit:C.prog.inits.idxOf? f=none) (hfn:C.prog.funcs[f]? = some fn)
  (witness:∃ (w:World) (tape:Tape) (i:Input),w.os=os∧(w.forCall tape i).Shaped C.prog∧i.vars=[]∧Input.okWide C.prog (w.forCall tape i) .any w.heap.size f i ∧
   s.pre6 enc C.prog fn [] false (w.forCall tape i).memory i.args∧Assume.holds {} C.prog (lone (Frame.enter C.prog f i.args .normal) [] (w.forCall tape i)))
  (hs:AGX s fn.params.size) (htypes:s.plain.varTypes C.prog=[]) {tb:TypeId} (hrt:fn.resultTypes=#[tb]) (hub:C.prog.underlying tb=some .bool) (hlaid:laidOutB C.prog=true)
  (hpar:fn.params.toList.all (fun t=>C.prog.readableRec t&&decide (t<C.prog.types.size))=true) (walk:Vm C.prog f fn) :
  ReturnsInHanded {} C os f .any (s.pre6 enc C.prog fn [] false) (s.post enc C.prog fn false true false false):=by
 refine returnsInHanded_of_change_sized own started noInit hfn witness ?_
 intro W base args ds gs before hval hW _ hwt _
 have hW':=hW
 obtain ⟨p,q,hA,hV,rfl,hfz,hnd⟩:=hW
 obtain ⟨hs1,hs2⟩:=hs
 rw [hs1] at hV
 obtain ⟨rfl,rfl⟩:=trodVars_none hV
 obtain ⟨l1,l2⟩:=r7 hA
 rw [htypes,List.append_nil,List.append_nil] at hwt
 have e:args=⟨args.toList⟩:=rfl
 rw [e]
 refine (walk H enc args.toList W base ds p (fun j t v h1 h2=>hval j t v h1 (by simpa using h2)) hA hwt (by simpa using hfz)).mono fun e W' ⟨he,bel⟩=>?_
 subst he
 have hds:ds.length=fn.params.size:=by rw [l2];simp
 obtain ⟨r1,r2,r3⟩:=hs2 H (ds++[]) (by rw [List.append_nil];exact hds)
 refine ⟨_,rfl,ds,[],p++[],[],p,[],hW',?_,?_,?_,bel.frame _,fun h=>by cases h⟩
 ·rw [r1,hrt]
  exact trodAll_mk1 (Go.RowKit.shut_bool hub _)
 ·rw [r2,List.append_nil]
  exact r9 hlaid bel hpar hA
 ·rw [r3,hs1];rfl
end Go.Proofs.YtjlcdlekmpjjnaaGreat.Ex
namespace Go.Proofs.YtjlcdlekmpjjnaaGreat.Ex
section
variable {β β':Env} {κ:Nat→Nat}
theorem sA:∀ {caps:List (Nat×Nat)} {l:List Value},(∀ k∈caps.map (·.1),∀ X,β (κ k)=some X→β' k=some X)→Ec β (Vi κ caps) l→Ec β' caps l
 | [],_,_,h=>h
 | (b,o)::r,l,hk,⟨B,n,l',h1,h2,h3⟩=>⟨B,n,l',hk b (by simp) _ h1,sA (fun k h=>hk k (by simp at h ⊢;exact .inr h)) h2,h3⟩
theorem AGY {c:Ch} {l:List Value} (hk:∀ k∈JV c,∀ X,β (κ k)=some X→β' k=some X) (h:BI β (R9 κ c) l):BI β' c l:=by
 cases c<;>simp only [JV] at hk<;>simp only [R9,BI] at h ⊢
 case n=>exact h
 case b=>exact h
 case v=>exact h
 case p=>obtain ⟨B,n,h1,h2⟩:=h;exact ⟨B,n,hk _ (by simp) _ h1,h2⟩
 case sl =>
  rcases h with ⟨B,n,h1,h2⟩ | ⟨h1,h2⟩
  ·exact .inl ⟨B,n,hk _ (by simp) _ h1,h2⟩
  ·exact .inr ⟨hk _ (by simp) _ h1,h2⟩
 case sx =>
  rcases h with ⟨B,n,cap,h1,h2⟩ | ⟨h1,h2⟩
  ·exact .inl ⟨B,n,cap,hk _ (by simp) _ h1,h2⟩
  ·exact .inr ⟨hk _ (by simp) _ h1,h2⟩
 case num=>exact h
 case seq=>exact h
 case clo=>obtain ⟨ps,h1,h2⟩:=h;exact ⟨ps,sA hk h1,h2⟩
theorem SG:∀ {cs:List Ch} {l:List Value},(∀ k∈DP cs,∀ X,β (κ k)=some X→β' k=some X)→AN β (GP κ cs) l→AN β' cs l
 | [],_,_,h=>h
 | c::cs,l,hk,⟨l1,l2,h1,h2,h3⟩=>by
  simp only [DP,DJ,List.mem_append] at hk
  exact ⟨l1,l2,AGY (fun k h=>hk k (.inl h)) h1,SG (fun k h=>hk k (.inr h)) h2,h3⟩
theorem sF {g:Bool} {cs:List Ch} {u:Value} (hk:∀ k∈DP cs,∀ X,β (κ k)=some X→β' k=some X) (h:Bn β g (GP κ cs) u):Bn β' g cs u:=by
 cases g
 ·exact SG hk h
 ·obtain ⟨l,h1,h2⟩:=h;exact ⟨l,SG hk h1,h2⟩
theorem sG:∀ {xs:List (Bool×List Ch)} {l:List Value},(∀ k∈H4 xs,∀ X,β (κ k)=some X→β' k=some X)→Ed β (Vj κ xs) l→Ed β' xs l
 | [],_,_,h=>h
 | (g,cs)::xs,l,hk,⟨u,l',h1,h2,h3⟩=>by
  simp only [H4,DJ,List.mem_append] at hk
  exact ⟨u,l',sF (fun k h=>hk k (.inl h)) h1,sG (fun k h=>hk k (.inr h)) h2,h3⟩
theorem AGZ {x:AV} {u:Value} (hk:∀ k∈H5 x,∀ X,β (κ k)=some X→β' k=some X) (h:AP β (R_ κ x) u):AP β' x u:=by
 cases x with
 | val g cs=>exact sF hk h
 | tup xs=>obtain ⟨us,h1,h2⟩:=h;exact ⟨us,sG hk h1,h2⟩
 | any=>trivial
end
def E7 (κ:Nat→Nat):List AV→List AV
 | []=>[]
 | x::r=>R_ κ x::E7 κ r
theorem sH (κ:Nat→Nat):∀ (T:List AV) (t:Nat),Aq (E7 κ T) t=R_ κ (Aq T t)
 | [],_=>rfl
 | _::_,0=>rfl
 | _::r,t+1=>sH κ r t
def EL (κ:Nat→Nat):Heap→Heap
 | []=>[]
 | (k,y)::r=>(κ k,(match y with | some b=>some ⟨b.ty,GP κ b.cs,b.opn⟩ | none=>none))::EL κ r
def Bt (k0:Nat) (ρ:List Nat):Nat→Nat:=fun k=>match Nat.blt k k0 with | true=>k | false=>nth ρ (k-k0)
def PN (n:Nat):List Nat→Bool
 | []=>true
 | k::r=>match Nat.ble n k with | true=>PN n r | false=>false
def SH:List Nat→Bool
 | []=>true
 | k::r=>match GM k r with | true=>false | false=>SH r
theorem Vn {n:Nat}:∀ {l:List Nat} {i:Nat},PN n l=true→i<l.length→n≤nth l i
 | [],i,_,h=>by simp at h
 | k::r,0,h,_=>by
  simp only [PN] at h
  split at h
  ·rename_i hb;exact Nat.le_of_ble_eq_true hb
  ·cases h
 | k::r,i+1,h,hi=>by
  simp only [PN] at h
  split at h
  ·exact Vn (l:=r) h (by simpa using hi)
  ·cases h
theorem b8:∀ {l:List Nat} {i:Nat},i<l.length→nth l i∈l
 | [],i,h=>by simp at h
 | k::r,0,_=>by simp [nth]
 | k::r,i+1,h=>by simp only [nth];exact List.mem_cons_of_mem _ (b8 (by simpa using h))
theorem sI:∀ {l:List Nat} {i j:Nat},SH l=true→i<l.length→j<l.length→nth l i=nth l j→i=j
 | [],i,_,_,h,_,_=>by simp at h
 | k::r,i,j,h,hi,hj,e=>by
  simp only [SH] at h
  split at h
  ·cases h
  ·rename_i hm
   have hm':k ∉ r:=fun hk=>by rw [PA.2 hk] at hm;cases hm
   match i,j with
   | 0,0=>rfl
   | 0,j+1=>exact absurd (by rw [show k=nth r j from e];exact b8 (by simpa using hj)) hm'
   | i+1,0=>exact absurd (by rw [show k=nth r i from e.symm];exact b8 (by simpa using hi)) hm'
   | i+1,j+1=>rw [sI (l:=r) h (by simpa using hi) (by simpa using hj) e]
section
variable {P:Program} {f:FuncId} {β0:Env} {w0:World} {R:Ending→World→Prop} {n:Fz} {W:List Nat}
theorem AGa {k0:Nat} {ρ:List Nat} (h1:PN k0 ρ=true) (h2:SH ρ=true) {a b:Nat} (ha:a<k0+ρ.length) (hb:b<k0+ρ.length) (e:Bt k0 ρ a=Bt k0 ρ b):a=b:=by
 unfold Bt at e
 have lt:∀ {x:Nat},Nat.blt x k0=false→k0≤x:=fun {x} h=>by
  rcases Nat.lt_or_ge x k0 with q | q
  ·rw [A8.2 q] at h;cases h
  ·exact q
 split at e<;>split at e
 ·exact e
 ·rename_i _ p _ q
  have:=Vn (i:=b-k0) h1 (by have:=lt q;omega)
  have:=A8.1 p;omega
 ·rename_i _ p _ q
  have:=Vn (i:=a-k0) h1 (by have:=lt p;omega)
  have:=A8.1 q;omega
 ·rename_i _ p _ q
  have:=sI h2 (by have:=lt p;omega) (by have:=lt q;omega) e
  have:=lt p;have:=lt q;omega
theorem sJ {κ:Nat→Nat} {m:Nat} (hinj:∀ a b,a<m→b<m→κ a=κ b→a=b):∀ {H:Heap} {j:Nat},(∀ k y,(k,y)∈H→k<m)→j<m→AG (EL κ H) (κ j)=(AG H j).map fun b=>⟨b.ty,GP κ b.cs,b.opn⟩
 | [],_,_,_=>rfl
 | (k,y)::r,j,hk,hj=>by
  have hkm:=hk k y (by simp)
  simp only [EL,AG]
  by_cases e:k=j
  ·subst e
   have q1:Nat.beq (κ k) (κ k)=true:=An.2 rfl
   have q2:Nat.beq k k=true:=An.2 rfl
   rw [q1,q2]
   cases y<;>rfl
  ·have q2:Nat.beq k j=false:=FJ e
   have q1:Nat.beq (κ k) (κ j)=false:=FJ fun h=>e (hinj k j hkm hj h)
   rw [q1,q2]
   exact sJ hinj (fun k y h=>hk k y (by simp [h])) hj
def Jt (m:Nat):Heap→Bool
 | []=>true
 | (k,y)::r=>match Nat.blt k m with
  | true=>match y with
   | some b=>match Lb m (DP b.cs) with | true=>Jt m r | false=>false
   | none=>Jt m r
  | false=>false
theorem sK {m:Nat}:∀ {H:Heap} {k:Nat} {y:Option Blk},Jt m H=true→(k,y)∈H→k<m
 | [],_,_,_,h=>by cases h
 | (j,z)::r,k,y,h,hm=>by
  simp only [Jt] at h
  split at h
  ·rename_i hj
   have hr:Jt m r=true:=by
    split at h
    ·split at h
     ·exact h
     ·cases h
    ·exact h
   rcases List.mem_cons.1 hm with e | e
   ·injection e with e1 e2;rw [e1];exact A8.1 hj
   ·exact sK hr e
  ·cases h
theorem sL {m:Nat}:∀ {H:Heap} {k:Nat} {b:Blk},Jt m H=true→AG H k=some b→k<m∧∀ x∈DP b.cs,x<m
 | [],_,_,_,h=>by cases h
 | (j,z)::r,k,b,h,hm=>by
  simp only [Jt] at h
  simp only [AG] at hm
  split at h
  ·rename_i hj
   split at hm
   ·rename_i e
    subst hm
    simp only at h
    split at h
    ·rename_i hc;exact ⟨by rw [← An.1 e];exact A8.1 hj,PI hc⟩
    ·cases h
   ·have hr:Jt m r=true:=by
     split at h
     ·split at h
      ·exact h
      ·cases h
     ·exact h
    exact sL hr hm
  ·cases h
def sM (k0:Nat) (ρ:List Nat) (m:Nat) (T:List AV) (H:Heap):Bool:=Nat.beq m (k0+ρ.length)&&(PN k0 ρ&&(SH ρ&&(PH m T&&Jt m H)))
theorem FO {k0 m:Nat} {ρ:List Nat} {todo:List Item} {T:List AV} {H:Heap} {fr:Nat} {p:List Bool} (hb:sM k0 ρ m T H=true) (h0:∀ b,k0≤b→β0 b=none)
  (hs:ASafe P f β0 w0 R n W ⟨todo,⟨T,H,m,p⟩⟩):ASafe P f β0 w0 R n W ⟨todo,⟨E7 (Bt k0 ρ) T,EL (Bt k0 ρ) H,fr,p⟩⟩:=by
 unfold sM at hb
 simp only [Bool.and_eq_true] at hb
 obtain ⟨hm,h1,h2,h3,h4⟩:=hb
 have hm:=An.1 hm
 intro β a w hi _
 let κ:=Bt k0 ρ
 let β':Env:=fun k=>match Nat.blt k m with | true=>β (κ k) | false=>none
 have bl:∀ {k},k<m→β' k=β (κ k):=fun {k} h=>by
  show (match Nat.blt k m with | true=>β (κ k) | false=>none)=_
  rw [A8.2 h]
 have bs:∀ {k X},β' k=some X→k<m∧β (κ k)=some X:=fun {k X} h=>by
  change (match Nat.blt k m with | true=>β (κ k) | false=>none)=some X at h
  split at h
  ·rename_i hb;exact ⟨A8.1 hb,h⟩
  ·cases h
 have hinj:∀ a b,a<m→b<m→κ a=κ b→a=b:=fun a b ha hb e=>AGa h1 h2 (by omega) (by omega) e
 have old:∀ {k},k<k0→κ k=k:=fun {k} h=>by show Bt k0 ρ k=k;unfold Bt;rw [A8.2 h]
 have new:∀ {k},k0≤k→k<m→k0≤κ k:=fun {k} h hk=>by
  show k0≤Bt k0 ρ k
  unfold Bt
  split
  ·exact h
  ·exact Vn h1 (by omega)
 have hg:∀ j,j<m→AG (EL κ H) (κ j)=(AG H j).map fun b=>⟨b.ty,GP κ b.cs,b.opn⟩:=fun j hj=>sJ hinj (fun k y h=>sK h4 h) hj
 refine hs β' a w { hi with tmp:=fun t=>?_,good:=⟨fun b blk hb=>?_,fun b b' B n n' q1 q2 q3 q4=>?_,fun b B n q=>hi.good.lt _ _ _ (bs q).2⟩,new:=fun b X hb=>?_,ext:=fun b X hb=>?_ } fun b hb=>?_
 ·have ht:=hi.tmp t
  simp only at ht
  rw [sH] at ht
  have hk:=bV (t:=t) h3
  exact AGZ (fun k hkk X hX=>by rw [bl (hk k hkk)];exact hX) ht
 ·simp only at hb
  obtain ⟨hbm,hbk⟩:=sL h4 hb
  have hg':=hg b hbm
  rw [hb] at hg'
  rcases hi.good.heap (κ b) _ hg' with ⟨B,n,l,t,pre,ty,fz,e1,e2,e3,e4,e5⟩ | ⟨e1,e2,e3⟩
  ·exact .inl ⟨B,n,l,t,pre,ty,fz,by rw [bl hbm];exact e1,SG (fun k hkk X hX=>by rw [bl (hbk k hkk)];exact hX) e2,e3,e4,e5⟩
  ·exact .inr ⟨by rw [bl hbm];exact e1,e2,SG (fun k hkk X hX=>by rw [bl (hbk k hkk)];exact hX) e3⟩
 ·simp only at q1 q2
  obtain ⟨d,hd,hr⟩:=F0 q1
  obtain ⟨d',hd'⟩:=Option.isSome_iff_exists.1 q2
  have m1:=(bs q3).1
  have m2:=(bs q4).1
  refine hinj b b' m1 m2 (hi.good.inj _ _ B n n' (Ef (blk:=⟨d.ty,GP κ d.cs,d.opn⟩) (by rw [hg b m1,hd];rfl) hr) (by rw [hg b' m2,hd'];rfl) (bs q3).2 (bs q4).2)
 ·obtain ⟨hbm,hX⟩:=bs hb
  rcases Nat.lt_or_ge b k0 with hlt | hge
  ·rw [old hlt] at hX;exact hi.new b X hX
  ·rcases hi.new _ X hX with q | q
   ·rw [h0 _ (new hge hbm)] at q;cases q
   ·exact .inr q
 ·have hlt:b<k0:=by
   rcases Nat.lt_or_ge b k0 with h | h
   ·exact h
   ·rw [h0 b h] at hb;cases hb
  rw [bl (by omega),old hlt]
  exact hi.ext b X hb
 ·show (match Nat.blt b m with | true=>β (κ b) | false=>none)=none
  have:Nat.blt b m=false:=by
   cases hq:Nat.blt b m with
   | false=>rfl
   | true=>have:=A8.1 hq;simp only at hb;omega
  rw [this]
def Ju (k sz:Nat):List Nat→Nat→List AV→List AV
 | _,_,[]=>[]
 | ts,i,x::r=>(match GM i ts,x with
  | true,.val false [.v (.slice none 0 0)]=>.val false [.sx k 0 sz]
  | _,y=>y)::Ju k sz ts (i+1) r
theorem sN (k sz:Nat) (ts:List Nat):∀ (T:List AV) (i t:Nat),Aq (Ju k sz ts i T) t=Aq T t∨(Aq T t=.val false [.v (.slice none 0 0)]∧Aq (Ju k sz ts i T) t=.val false [.sx k 0 sz])
 | [],_,_=>.inl rfl
 | x::r,i,0=>by
  simp only [Ju,Aq]
  split
  ·exact .inr ⟨rfl,rfl⟩
  ·exact .inl rfl
 | x::r,i,t+1=>sN k sz ts r (i+1) t
theorem PO {ts:List Nat} {sz:Nat} {ty:TypeId} {kd:IntKind} {todo:List Item} {T:List AV} {H:Heap} {fr:Nat} {p:List Bool} (hw:AG H fr=none) (h0:β0 fr=none)
  (hs:ASafe P f β0 w0 R n W ⟨todo,⟨Ju fr sz ts 0 T,H++[(fr,some ⟨ty,[.seq kd []],true⟩)],fr+1,p⟩⟩):ASafe P f β0 w0 R n W ⟨todo,⟨T,H,fr,p⟩⟩:=by
 intro β a w hi hf
 have hfr:β fr=none:=hf fr (Nat.le_refl _)
 let β':Env:=fun k=>match Nat.beq k fr with | true=>some Loc.nil | false=>β k
 have bo:∀ {k},k≠fr→β' k=β k:=fun {k} h=>by
  show (match Nat.beq k fr with | true=>some Loc.nil | false=>β k)=_
  rw [FJ h]
 have bn:β' fr=some Loc.nil:=by
  show (match Nat.beq fr fr with | true=>some Loc.nil | false=>β fr)=_
  rw [An.2 rfl]
 have le:Env.le β β':=fun b X h=>by
  rw [bo fun e=>by rw [e,hfr] at h;cases h];exact h
 have app:∀ (H:Heap) (b:Nat),(b≠fr→AG (H++[(fr,some (⟨ty,[.seq kd []],true⟩:Blk))]) b=AG H b)∧(AG H fr=none→AG (H++[(fr,some (⟨ty,[.seq kd []],true⟩:Blk))]) fr=some ⟨ty,[.seq kd []],true⟩∨AG (H++[(fr,some (⟨ty,[.seq kd []],true⟩:Blk))]) fr=none):=by
  intro H b
  induction H with
  | nil =>
   refine ⟨fun hb=>by simp [AG,FJ (Ne.symm hb)],fun _=>.inl (by simp [AG])⟩
  | cons e r ih =>
   obtain ⟨k,y⟩:=e
   refine ⟨fun hb=>?_,fun h=>?_⟩
   ·simp only [List.cons_append,AG];rw [ih.1 hb]
   ·simp only [List.cons_append,AG] at h ⊢
    split at h
    ·right;simpa using h
    ·exact ih.2 h
 refine hs β' a w { hi with tmp:=fun t=>?_,good:=⟨fun b blk hb=>?_,fun b b' B n n' q1 q2 q3 q4=>?_,fun b B n q=>?_⟩,new:=fun b X hb=>?_,ext:=Env.le_trans hi.ext le } fun b hb=>?_
 ·simp only
  have ht:=hi.tmp t
  simp only at ht
  rcases sN fr sz ts T 0 t with e | ⟨e1,e2⟩
  ·rw [e];exact RZ le ht
  ·rw [e1] at ht
   rw [e2]
   obtain ⟨l1,l2,⟨q1,_⟩,q2,q3⟩:=ht
   exact ⟨l1,l2,.inr ⟨bn,rfl,q1⟩,q2,q3⟩
 ·simp only at hb
  by_cases e:b=fr
  ·subst e
   rcases (app H b).2 hw with q | q
   ·rw [q] at hb;injection hb with hb;subst hb
    exact .inr ⟨bn,.inl rfl,⟨[],[],⟨rfl,by simp⟩,rfl,rfl⟩⟩
   ·rw [q] at hb;cases hb
  ·rw [(app H b).1 e] at hb
   exact U2 le (hi.good.heap b blk hb)
 ·simp only at q1 q2
  have e1:b≠fr:=fun e=>by rw [e,bn] at q3;cases q3
  have e2:b'≠fr:=fun e=>by rw [e,bn] at q4;cases q4
  rw [bo e1] at q3
  rw [bo e2] at q4
  obtain ⟨d,hd,hr⟩:=F0 q1
  rw [(app H b).1 e1] at hd
  rw [(app H b').1 e2] at q2
  exact hi.good.inj b b' B n n' (Ef hd hr) q2 q3 q4
 ·by_cases e:b=fr
  ·rw [e,bn] at q;cases q
  ·rw [bo e] at q;exact hi.good.lt b B n q
 ·by_cases e:b=fr
  ·rw [e,bn] at hb;injection hb with hb;subst hb
   exact .inr fun B m h=>by cases h
  ·rw [bo e] at hb;exact hi.new b X hb
 ·have e:b≠fr:=by simp only at hb;omega
  rw [bo e];exact hf b (by simp only at hb ⊢;omega)
end
def sO:List AV→Bool
 | []=>false
 | .val false [.v (.slice none 0 0)]::_=>true
 | _::r=>sO r
def b9 (k:Nat):List AV→List AV
 | []=>[]
 | x::r=>(match x with
  | .val false [.v (.slice none 0 0)]=>.val false [.sl k 0 0 0]
  | y=>y)::b9 k r
def Du (s:ASpec):ASpec:=fun args H fr path=>match sO args with
 | true=>match s (b9 fr args) ((fr,some ⟨CG,[],false⟩)::H) (fr+1) path with
  | some r=>some { r with nw:=r.nw+1 }
  | none=>none
 | false=>s args H fr path
theorem EM {P:Program} {f:FuncId} {s:ASpec} (h:A6 P f s):A6 P f (Du s):=by
 intro args H fr path r β us w hs hc ha hg hf
 unfold Du at hs
 split at hs
 case h_2=>exact h args H fr path r β us w hs hc ha hg hf
 split at hs
 case h_2=>cases hs
 rename_i r1 hr1
 injection hs with hs
 subst hs
 have hfr:β fr=none:=hf fr (Nat.le_refl _) (by show fr<fr+(r1.nw+1);omega)
 let β1:Env:=fun k=>match Nat.beq k fr with | true=>some Loc.nil | false=>β k
 have bo:∀ {k},k≠fr→β1 k=β k:=fun {k} h=>by
  show (match Nat.beq k fr with | true=>some Loc.nil | false=>β k)=_
  rw [FJ h]
 have bn:β1 fr=some Loc.nil:=by
  show (match Nat.beq fr fr with | true=>some Loc.nil | false=>β fr)=_
  rw [An.2 rfl]
 have le:Env.le β β1:=fun b X h=>by
  rw [bo fun e=>by rw [e,hfr] at h;cases h];exact h
 have hargs:∀ {args:List AV} {us:List Value},A7 β args us→A7 β1 (b9 fr args) us:=by
  intro args
  induction args with
  | nil=>intro us h;exact h
  | cons x r ih =>
   rintro us ⟨u,us',h1,h2,h3⟩
   refine ⟨u,us',?_,ih h2,h3⟩
   split
   ·obtain ⟨l1,l2,⟨q1,_⟩,q2,q3⟩:=h1
    exact ⟨l1,l2,.inr ⟨bn,rfl,rfl,rfl,q1⟩,q2,q3⟩
   ·exact RZ le h1
 have hgood:Good β1 ((fr,some ⟨CG,[],false⟩)::H) w:=by
  have at_:∀ {b B n},β1 b=some (.at_ B n)→b≠fr∧β b=some (.at_ B n):=fun {b B n} q=>by
   have e:b≠fr:=fun e=>by rw [e,bn] at q;cases q
   exact ⟨e,by rwa [bo e] at q⟩
  have hh:∀ {b},b≠fr→AG ((fr,some (⟨CG,[],false⟩:Blk))::H) b=AG H b:=fun {b} e=>by simp only [AG];rw [FJ (Ne.symm e)]
  refine ⟨fun b blk hb=>?_,fun b b' B n n' q1 q2 q3 q4=>?_,fun b B n q=>hg.lt _ _ _ (at_ q).2⟩
  ·by_cases e:b=fr
   ·subst e
    simp only [AG] at hb
    rw [An.2 rfl] at hb
    injection hb with hb;subst hb
    exact .inr ⟨bn,.inr rfl,rfl⟩
   ·rw [hh e] at hb
    exact U2 le (hg.heap b blk hb)
  ·obtain ⟨e1,q3⟩:=at_ q3
   obtain ⟨e2,q4⟩:=at_ q4
   obtain ⟨d,hd,hr⟩:=F0 q1
   rw [hh e1] at hd
   rw [hh e2] at q2
   exact hg.inj b b' B n n' (Ef hd hr) q2 q3 q4
 have:=h _ _ _ _ r1 β1 us w hr1 hc (hargs ha) hgood fun b h1 h2=>by
  rw [bo (by omega)];exact hf b (by omega) (by show b<fr+(r1.nw+1);omega)
 have mono:∀ e w',VK β1 (fr+1) r1 w e w'→VK β fr { r1 with nw:=r1.nw+1 } w e w':=by
  rintro e w' ⟨u,β',rfl,he⟩
  have bf:β' fr=some Loc.nil:=he.ext fr _ bn
  refine ⟨u,β',rfl,{ he with ext:=Env.le_trans le he.ext,new:=fun b X q=>?_,inj:=fun b b' B n n' q1 q2 q3 q4 q5 q6=>?_,frame:=fun B hB hno=>he.frame B hB fun k y n hk hk2=>?_ }⟩
  ·rcases he.new b X q with q' | ⟨q1,q2,q3⟩
   ·by_cases e:b=fr
    ·subst e
     rw [bn] at q';injection q' with q';subst q'
     exact .inr ⟨Nat.le_refl _,(by show b<b+(r1.nw+1);omega),fun B n h=>by cases h⟩
    ·rw [bo e] at q';exact .inl q'
   ·refine .inr ⟨by omega,(by show b<fr+(r1.nw+1);omega),fun B n e=>?_⟩
    rcases q3 B n e with q | ⟨k,m,k1,k2⟩
    ·exact .inl q
    ·refine .inr ⟨k,m,k1,?_⟩
     rwa [bo fun e=>by rw [e,bn] at k2;cases k2] at k2
  ·have e1:b≠fr:=fun e=>by rw [e,bf] at q5;cases q5
   have e2:b'≠fr:=fun e=>by rw [e,bf] at q6;cases q6
   change b<fr+(r1.nw+1) at q3
   change b'<fr+(r1.nw+1) at q4
   exact he.inj b b' B n n' (by omega) (by omega) (by omega) (by omega) q5 q6
  ·have e:k≠fr:=fun e=>by rw [e,bn] at hk2;cases hk2
   rw [bo e] at hk2
   exact hno k y n hk hk2
 unfold LP at this ⊢
 split at this
 ·exact mono _ _ this
 ·exact Calls.mono this fun e w' h=>mono e w' h
 ·exact this
def Jv (fr:Nat) (H H1:Heap):List Nat→Bool
 | []=>true
 | k::r=>match Nat.blt k fr with
  | true=>match AG H k with | some _=>Jv fr H H1 r | none=>false
  | false=>match AG H1 k with | some _=>Jv fr H H1 r | none=>false
theorem cA {fr:Nat} {H H1:Heap}:∀ {l:List Nat},Jv fr H H1 l=true→∀ k∈l,(k<fr∧(AG H k).isSome=true)∨(fr≤k∧(AG H1 k).isSome=true)
 | [],_,k,h=>by cases h
 | x::r,h,k,hk=>by
  simp only [Jv] at h
  split at h
  ·rename_i hb
   split at h
   ·rename_i b hg
    rcases List.mem_cons.1 hk with rfl | hk
    ·exact .inl ⟨A8.1 hb,by rw [hg];rfl⟩
    ·exact cA h k hk
   ·cases h
  ·rename_i hb
   split at h
   ·rename_i b hg
    rcases List.mem_cons.1 hk with rfl | hk
    ·refine .inr ⟨?_,by rw [hg];rfl⟩
     rcases Nat.lt_or_ge k fr with q | q
     ·rw [A8.2 q] at hb;cases hb
     ·exact q
    ·exact cA h k hk
   ·cases h
def PP (fr:Nat) (H H1:Heap):List Nat→Bool
 | []=>true
 | k::r=>match AG H1 k with
  | some b=>match Jv fr H H1 (DP b.cs),Nat.beq b.ty CG with | true,false=>PP fr H H1 r | _,_=>false
  | none=>PP fr H H1 r
theorem SI {fr:Nat} {H H1:Heap}:∀ {l:List Nat},PP fr H H1 l=true→∀ k∈l,∀ b,AG H1 k=some b→Jv fr H H1 (DP b.cs)=true∧b.ty≠CG
 | [],_,k,h=>by cases h
 | x::r,h,k,hk=>by
  intro b' hb'
  simp only [PP] at h
  split at h
  ·rename_i b hb
   split at h
   ·rename_i hok hro
    rcases List.mem_cons.1 hk with rfl | hk
    ·rw [hb] at hb';injection hb' with hb';subst hb';exact ⟨hok,Gx hro⟩
    ·exact SI h k hk b' hb'
   ·cases h
  ·rename_i hb
   rcases List.mem_cons.1 hk with rfl | hk
   ·rw [hb] at hb';cases hb'
   ·exact SI h k hk b' hb'
def NU (H1:Heap):List Nat→List Nat
 | []=>[]
 | k::r=>match AG H1 k with | some _=>k::NU H1 r | none=>NU H1 r
theorem cB {H1:Heap} {k:Nat}:∀ {l:List Nat},k∈l→(AG H1 k).isSome=true→k∈NU H1 l
 | x::r,h,hs=>by
  simp only [NU]
  rcases List.mem_cons.1 h with rfl | h
  ·obtain ⟨b,hb⟩:=Option.isSome_iff_exists.1 hs
   rw [hb];simp
  ·split
   ·exact List.mem_cons_of_mem _ (cB h hs)
   ·exact cB h hs
theorem cC {H1:Heap} {k:Nat}:∀ {l:List Nat},k∈NU H1 l→k∈l
 | x::r,h=>by
  simp only [NU] at h
  split at h
  ·rcases List.mem_cons.1 h with rfl | h
   ·simp
   ·exact List.mem_cons_of_mem _ (cC h)
  ·exact List.mem_cons_of_mem _ (cC h)
def SJ (fr:Nat) (H1:Heap):List Nat:=NU H1 (HO fr H1)
def NV (H1:Heap):List Nat→Heap
 | []=>[]
 | k::r=>(k,AG H1 k)::NV H1 r
theorem sP {H1:Heap} {k:Nat} {y:Option Blk}:∀ {l:List Nat},(k,y)∈NV H1 l→k∈l∧y=AG H1 k
 | [],h=>by cases h
 | x::r,h=>by
  simp only [NV,List.mem_cons,Prod.mk.injEq] at h
  rcases h with ⟨rfl,h2⟩ | h
  ·exact ⟨by simp,h2⟩
  ·obtain ⟨h1,h2⟩:=sP h
   exact ⟨by simp [h1],h2⟩
theorem cD {H1:Heap} {k:Nat}:∀ {l:List Nat},k∈l→(k,AG H1 k)∈NV H1 l
 | x::r,h=>by
  simp only [NV,List.mem_cons]
  rcases List.mem_cons.1 h with rfl | h
  ·exact .inl rfl
  ·exact .inr (cD h)
theorem cE {k0:Nat}:∀ {l:List Nat},∀ k∈Ds k0 l,k<k0
 | [],k,h=>by cases h
 | x::r,k,h=>by
  simp only [Ds] at h
  split at h
  ·rename_i hb _
   rcases List.mem_cons.1 h with rfl | h
   ·exact A8.1 hb
   ·exact cE k h
  ·exact cE k h
def Vo (n:Nat):List AV→Bool
 | []=>true
 | x::r=>match Lb n (H5 x) with | true=>Vo n r | false=>false
theorem sQ {β β':Env} {n:Nat} (he:∀ k,k<n→β' k=β k):∀ {args:List AV} {us:List Value},Vo n args=true→A7 β args us→A7 β' args us
 | [],_,_,h=>h
 | x::r,us,hb,⟨u,us',h1,h2,h3⟩=>by
  simp only [Vo] at hb
  split at hb
  ·rename_i hx
   exact ⟨u,us',bU (fun k hk=>he k (PI hx k hk)) h1,sQ he hb h2,h3⟩
  ·cases hb
def BY (P:Program) (O:Orc) (fn:Func) (fuel:Nat):ASpec:=fun args H fr path =>
 match fn.body with
 | some c=>match Jj P O none fuel ⟨[.code c],⟨Jn args fn.ntmps,H,fr,path⟩⟩ with
  | some (g,y)=>match NR P fn y,Nat.ble (H8 args) fn.ntmps&&(Vo fr args&&(Ip fr H&&(Ip y.s.fr y.s.H&&Nat.ble fr y.s.fr))) with
   | some v,true=>match Jv fr H y.s.H (cat (H5 v) (Ds fr g.keys)),PP fr H y.s.H (cat (Ds fr g.keys) (SJ fr y.s.H)) with
    | true,true=>some ⟨v,NV y.s.H (cat (Ds fr g.keys) (SJ fr y.s.H)),y.s.fr-fr,g.conds,y.s.path⟩
    | _,_=>none
   | _,_=>none
  | none=>none
 | none=>none
theorem AGb {β:Env} {w w':World} {fr fr':Nat} {W:List Nat} {v:AV} {H H1:Heap} {u:Value} {β1:Env} {conds:List (Bool×Bool)} {path:List Bool} (g:Good β H w) (ho:Out (Jp β fr) w W v H1 u w' β1) (hW:∀ k∈W,k<fr)
  (hl:Ip fr' H1=true) (hle:fr≤fr') (ov:Jv fr H H1 (cat (H5 v) W)=true) (ob:PP fr H H1 (cat W (SJ fr H1))=true) (hf:∀ b,fr≤b→b<fr'→β b=none) :
  ∃ β',Eff β fr ⟨v,NV H1 (cat W (SJ fr H1)),fr'-fr,conds,path⟩ w u w' β':=by
 let β':Env:=fun b=>match Nat.ble fr b&&Nat.blt b fr',AG H1 b with
  | true,some _=>β1 b
  | true,none=>none
  | false,_=>β b
 have out:∀ b,¬ (fr≤b∧b<fr')→β' b=β b:=by
  intro b hb
  have:(Nat.ble fr b&&Nat.blt b fr')=false:=by
   cases h:Nat.ble fr b&&Nat.blt b fr' with
   | false=>rfl
   | true =>
    have:=Bool.and_eq_true_iff.1 h
    exact absurd ⟨Nat.le_of_ble_eq_true this.1,A8.1 this.2⟩ hb
  show (match Nat.ble fr b&&Nat.blt b fr',AG H1 b with | true,some _=>β1 b | true,none=>none | false,_=>β b)=β b
  rw [this]
 have inn:∀ b,fr≤b→b<fr'→∀ X,β' b=some X→(AG H1 b).isSome=true∧β1 b=some X:=by
  intro b h1 h2 X hX
  have:(Nat.ble fr b&&Nat.blt b fr')=true:=by rw [Nat.ble_eq_true_of_le h1,A8.2 h2];rfl
  change (match Nat.ble fr b&&Nat.blt b fr',AG H1 b with | true,some _=>β1 b | true,none=>none | false,_=>β b)=some X at hX
  rw [this] at hX
  cases hq:AG H1 b with
  | none=>rw [hq] at hX;cases hX
  | some y=>rw [hq] at hX;exact ⟨rfl,hX⟩
 have hlive:∀ k,(AG H1 k).isSome=true→k<fr':=by
  intro k hk
  obtain ⟨b,hb⟩:=Option.isSome_iff_exists.1 hk
  exact (Jr hl hb).1
 have newr:∀ k,fr≤k→(AG H1 k).isSome=true→E5 H1 k=true:=by
  intro k hk hs
  obtain ⟨b,hb⟩:=Option.isSome_iff_exists.1 hs
  exact Ef hb (SI ob k (by rw [DJ,List.mem_append];exact .inr (cB (bZ hb hk) hs)) b hb).2
 have new1:∀ k,fr≤k→(AG H1 k).isSome=true→β' k=β1 k:=by
  intro k hk hs
  have:(Nat.ble fr k&&Nat.blt k fr')=true:=by rw [Nat.ble_eq_true_of_le hk,A8.2 (hlive k hs)];rfl
  show (match Nat.ble fr k&&Nat.blt k fr',AG H1 k with | true,some _=>β1 k | true,none=>none | false,_=>β k)=β1 k
  rw [this]
  obtain ⟨y,hy⟩:=Option.isSome_iff_exists.1 hs
  rw [hy]
 have old1:∀ k,k<fr→(AG H k).isSome=true→β' k=β1 k:=by
  intro k hk hs
  obtain ⟨b,hb⟩:=Option.isSome_iff_exists.1 hs
  rw [out k (fun q=>by omega)]
  have hq:∃ X,β k=some X:=by
   rcases g.heap k b hb with ⟨B,n,_,_,_,_,_,h,_⟩ | ⟨h,_⟩<;>exact ⟨_,h⟩
  obtain ⟨X,hX⟩:=hq
  rw [hX,ho.ext k X (by rw [F3 hk];exact hX)]
 have occ:∀ l,Jv fr H H1 l=true→∀ k∈l,β' k=β1 k:=by
  intro l hl k hk
  rcases cA hl k hk with ⟨h1,h2⟩ | ⟨h1,h2⟩
  ·exact old1 k h1 h2
  ·exact new1 k h1 h2
 have ext0:Env.le β β':=by
  intro b X hb
  rw [out b (fun h=>by rw [hf b h.1 h.2] at hb;cases hb)]
  exact hb
 have hsub:fr+(fr'-fr)=fr':=by omega
 refine ⟨β',ext0,?_,?_,?_,?_,?_,?_,ho.size,ho.os,ho.tape,ho.output⟩
 ·intro b X hX
  by_cases hr:fr≤b∧b<fr'
  ·obtain ⟨hl,h1⟩:=inn b hr.1 hr.2 X hX
   refine .inr ⟨hr.1,by simp only [hsub];exact hr.2,fun B n e=>?_⟩
   subst e
   rcases ho.new _ _ h1 with h | h
   ·rw [PJ hr.1] at h;cases h
   ·rcases h B n rfl with h | ⟨k,m',hk,hk2⟩
    ·exact .inl h
    ·have hk0:=hW k hk
     have hkW:k∈cat W (SJ fr H1):=by rw [DJ,List.mem_append];exact .inl hk
     cases hbb:AG H1 k with
     | some bb =>
      have:=ho.good.inj _ _ _ _ _ (Ef hbb (SI ob k hkW bb hbb).2) hl (ho.ext k _ hk2) h1
      omega
     | none =>
      rw [F3 hk0] at hk2
      exact .inr ⟨k,m',by rw [← hbb];exact cD hkW,hk2⟩
  ·rw [out b hr] at hX;exact .inl hX
 ·intro b B n hX
  by_cases hr:fr≤b∧b<fr'
  ·exact ho.good.lt _ _ _ (inn b hr.1 hr.2 _ hX).2
  ·rw [out b hr] at hX
   exact Nat.lt_of_lt_of_le (g.lt _ _ _ hX) ho.size
 ·intro b b' B n n' h1 h2 h3 h4 h5 h6
  simp only [hsub] at h3 h4
  obtain ⟨l1,q1⟩:=inn b h1 h3 _ h5
  obtain ⟨l2,q2⟩:=inn b' h2 h4 _ h6
  exact ho.good.inj _ _ _ _ _ (newr _ h1 l1) l2 q1 q2
 ·exact bU (fun k hk=>occ _ ov k (by rw [DJ,List.mem_append];exact .inl hk)) ho.val
 ·intro k y hk
  obtain ⟨hj,e2⟩:=sP hk
  have hbb:AG H1 k=some y:=e2.symm
  obtain ⟨hok,_⟩:=SI ob k hj y hbb
  have hkk:β' k=β1 k:=by
   rw [DJ,List.mem_append] at hj
   rcases hj with hj | hj
   ·exact occ _ ov k (by rw [DJ,List.mem_append];exact .inr hj)
   ·exact new1 k (bY (cC hj)) (by rw [hbb];rfl)
  rcases ho.good.heap k _ hbb with ⟨B,n,l,t,pre,ty,fz,q1,q2,q3⟩ | ⟨q1,q2,q3⟩
  ·exact .inl ⟨B,n,l,t,pre,ty,fz,by rw [hkk];exact q1,Jq (fun k hk=>occ _ hok k hk) q2,q3⟩
  ·exact .inr ⟨by rw [hkk];exact q1,q2,Jq (fun k hk=>occ _ hok k hk) q3⟩
 ·intro B hB hno
  refine ho.frame B hB fun k m hk hk2=>?_
  have hk0:=hW k hk
  rw [F3 hk0] at hk2
  exact hno k _ m (cD (by rw [DJ,List.mem_append];exact .inl hk)) hk2
section
variable {P:Program} {O:Orc} (hO:OrcOk P O) (hm:P.follows .mixedOrders=true) {f:FuncId} {fn:Func}
include hO hm in
theorem Bj (hfn:P.funcs[f]? = some fn) (hb:fn.body.isSome=true) (hname:(fn.name=="runtime.NumGoroutine")=false) (fuel:Nat):A6 P f (BY P O fn fuel):=by
 intro args H fr path r β us w hs hc ha hg hf
 unfold BY at hs
 split at hs
 case h_2=>cases hs
 rename_i c hbody
 split at hs
 case h_2=>cases hs
 rename_i g y hrun
 split at hs
 case h_2=>cases hs
 rename_i v hv hchk
 split at hs
 case h_2=>cases hs
 rename_i hov hob
 injection hs with hs
 subst hs
 simp only [Bool.and_eq_true] at hchk
 obtain ⟨c1,c2,c3,c4,c5⟩:=hchk
 have hle:=Nat.le_of_ble_eq_true c5
 have hlen:=Nat.le_of_ble_eq_true c1
 rw [LY] at hlen
 have hg0:Good (Jp β fr) H w:=by
  refine ⟨fun b blk hb=>?_,fun b b' B n n' h1 h2 h3 h4=>hg.inj b b' B n n' h1 h2 (NQ h3).1 (NQ h4).1,fun b B n h=>hg.lt b B n (NQ h).1⟩
  obtain ⟨e1,e2⟩:=Jr c3 hb
  rcases hg.heap b blk hb with ⟨B,n,l,t,pre,ty,fz,q1,q2,q3⟩ | ⟨q1,q2,q3⟩
  ·exact .inl ⟨B,n,l,t,pre,ty,fz,by rw [F3 e1];exact q1,Jq (fun k hk=>F3 (e2 k hk)) q2,q3⟩
  ·exact .inr ⟨by rw [F3 e1];exact q1,q2,Jq (fun k hk=>F3 (e2 k hk)) q3⟩
 have hwf:B4 fn.ntmps (⟨Jn args fn.ntmps,H,fr,path⟩:St):=by
  refine ⟨fun b hb=>?_,?_⟩
  ·cases hq:AG H b with
   | none=>rfl
   | some blk=>have:=(Jr c3 hq).1;simp only at hb;omega
  ·simp only [Jn,VV,LY,List.length_append,bL];omega
 refine R6 hfn hb hname (Calls.mono (bO (R:=Ay (Jp β fr) w (Ds fr g.keys) v y.s.H) (fr:=fr) (path:=path) hfn hbody hlen ?_ (sQ (fun k hk=>F3 hk) c2 ha) hg0 (fun b hb=>PJ hb)) ?_)
 ·refine ASafe.old (W':=Ds fr g.keys) (k0:=fr) (fun b hb=>PJ hb) (fun k hk=>by cases hk) ?_
  refine Ae (W:=Ds fr g.keys) hO hm (fuel:=fuel) (k0:=fr) (fg:=none) (stop:=none) (ks:=Ds fr g.keys) (y:=y) (by unfold AS;rw [hrun]) hc hwf (fun b hb=>PJ hb) (fun k hk=>hk) fun _=>?_
  exact rO hfn hv fun _ _ h=>h
 ·rintro e w' ⟨u,β1,rfl,ho⟩
  obtain ⟨β',he⟩:=AGb (conds:=g.conds) (path:=y.s.path) hg ho cE c4 hle hov hob fun b h1 h2=>hf b h1 (by show b<fr+(y.s.fr-fr);omega)
  exact ⟨u,β',rfl,he⟩
end
end Go.Proofs.YtjlcdlekmpjjnaaGreat.Ex
namespace Go.Proofs.YtjlcdlekmpjjnaaGreat.Ex
open Go.RowKit (Below)
section
variable {P:Program} {f:FuncId} {fn:Func} {R:Ending→World→Prop} {a:Act} {w:World}
theorem Safe.leaves (hfn:P.funcs[f]? = some fn) {todo:List Item} (ht:NP todo=true) (h:Leaves P fn a.tmps R a.defers .returning w):Safe P f R todo a w:=by
 intro b cs hb hk
 have key:∀ td,∃ e w' fr',R e w'∧Comes P (lone { b.at a td with mode:=.returning } cs w) (lone fr' cs w') e∧fr'.fn=f∧fr'.leaving P w' e:=by
  intro td
  obtain ⟨e,w',fr',q1,q2,q3,q4⟩:=leaves_steps a.defers .returning w { b.at a td with mode:=.returning } cs rfl rfl rfl (by show P.funcs[b.fn]? = some fn;rw [hb];exact hfn) hk h
  exact ⟨e,w',fr',q1,q2,q3.trans hb,q4⟩
 unfold NP at ht
 split at ht
 ·obtain ⟨e,w',fr',q1,q2,q3,q4⟩:=key []
  exact ⟨e,w',fr',q1,.of_steps (.one step_end) q2,q3,q4⟩
 ·rename_i k
  obtain ⟨e,w',fr',q1,q2,q3,q4⟩:=key (.code .ret::k)
  exact ⟨e,w',fr',q1,.of_steps (.one step_ret) q2,q3,q4⟩
 ·cases ht
theorem Safe.of_wpP (hfn:P.funcs[f]? = some fn) {c:Code} {k:List Item} (h:c.wp P (fun e a' w'=>(e=.normal∧Safe P f R k a' w')∨∃ chain,e=.panic chain∧Leaves P fn a'.tmps R a'.defers (.panicking chain) w') a w):Safe P f R (.code c::k) a w:=by
 intro b cs hb hk
 obtain ⟨e,a',w',hq,harr⟩:=h b k cs
 rcases hq with ⟨he,hs⟩ | ⟨chain,he,hl⟩
 ·subst he
  obtain ⟨e,w'',fr,h1,h2,h3,h4⟩:=hs b cs hb hk
  exact ⟨e,w'',fr,h1,.of_steps harr h2,h3,h4⟩
 ·subst he
  obtain ⟨todo,hs⟩:=harr
  obtain ⟨e,w'',fr',q1,q2,q3,q4⟩:=leaves_steps a'.defers (.panicking chain) w' { b.at a' todo with mode:=.panicking chain } cs rfl rfl rfl (by show P.funcs[b.fn]? = some fn;rw [hb];exact hfn) hk hl
  exact ⟨e,w'',fr',q1,.of_steps hs q2,q3.trans hb,q4⟩
end
def SK (P:Program) (O:Orc):Nat→ASt→Option (Log×ASt)
 | 0,x=>some (⟨[],[]⟩,x)
 | n+1,x=>match PE P O x with
  | some (g,y)=>match SK P O n y with
   | some (g',z)=>some (⟨g.conds++g'.conds,cat g.keys g'.keys⟩,z)
   | none=>none
  | none=>none
section
variable {P:Program} {O:Orc} (hO:OrcOk P O) (hm:P.follows .mixedOrders=true) {f:FuncId} {β0:Env} {w0:World} {R:Ending→World→Prop} {n:Fz}
include hO hm
theorem sR:∀ {m:Nat} {W:List Nat} {x y:ASt} {g:Log},SK P O m x=some (g,y)→AQ g.conds→B4 n x.s→(B4 n y.s→ASafe P f β0 w0 R n (W++g.keys) y)→ASafe P f β0 w0 R n W x
 | 0,W,x,y,g,h,hc,hwf,hs=>by
  simp only [SK] at h
  injection h with h;injection h with h1 h2;subst h1;subst h2
  have:=hs hwf
  simpa using this
 | m+1,W,x,y,g,h,hc,hwf,hs=>by
  simp only [SK] at h
  split at h
  ·rename_i g1 y1 hst
   split at h
   ·rename_i g2 z hr
    injection h with h;injection h with h1 h2;subst h1;subst h2
    obtain ⟨c1,c2⟩:=CX.1 hc
    refine bI hO hm hst c1 hwf (sR hr c2 (bJ hst hwf) fun hw=>?_)
    have:=hs hw
    simpa [DJ] using this
   ·cases h
  ·cases h
end
def C5 (P:Program) (O:Orc) (m k0:Nat) (x:ASt):Option (List (Bool×Bool)×List Nat×ASt) :=
 match SK P O m x with
 | some (g,y)=>some (g.conds,Ds k0 g.keys,y)
 | none=>none
theorem HP {P:Program} {O:Orc} {f:FuncId} {β0:Env} {w0:World} {R:Ending→World→Prop} {n:Fz} {W:List Nat} (hO:OrcOk P O) (hm:P.follows .mixedOrders=true) {m k0:Nat} {x y:ASt} {conds:List (Bool×Bool)} {ks:List Nat}
  (h:C5 P O m k0 x=some (conds,ks,y)) (hc:AQ conds) (hwf:B4 n x.s) (h0:∀ b,k0≤b→β0 b=none) (hks:∀ k∈ks,k∈W) (hs:B4 n y.s→ASafe P f β0 w0 R n W y):ASafe P f β0 w0 R n W x:=by
 unfold C5 at h
 split at h
 case h_2=>cases h
 rename_i g y1 hrun
 injection h with h;injection h with h1 h;injection h with h2 h3
 subst h1;subst h3
 refine sR hO hm hrun hc hwf fun hw=>ASafe.old h0 (fun k hk hlt=>?_) (hs hw)
 rcases List.mem_append.1 hk with hk | hk
 ·exact hk
 ·exact hks k (by rw [← h2];exact bW hk hlt)
section
variable {P:Program} {O:Orc} (hO:OrcOk P O) {ops:Array Oper} {β0:Env} {w0:World} {W:List Nat} {n:Fz}
include hO
theorem SL {Q:Exit→Act→World→Prop} {tl:List Nat}:∀ (pre:List Oper) (i:Nat) (s s':St) (recs:List Rec) (β:Env) (a:Act) (w:World),(∀ j o,pre[j]? = some o→ops[i+j]? = some o)→Dk P O ops pre i s=some (recs,s')→AQ (H7 recs) →
  Inv β0 w0 W n β (Aq s.T) s.H a w→(∀ b,s.fr≤b→β b=none)→(∀ b,s.fr≤b→AG s.H b=none)→s.T.length=n.n→(∀ k∈FM recs,k∈W) →
  (∀ β a w,Inv β0 w0 W n β (Aq s'.T) s'.H a w→(∀ b,s'.fr≤b→β b=none)→wpOps P ops Q tl a w)→wpOps P ops Q (List.range' i pre.length++tl) a w
 | [],i,s,s',recs,β,a,w,_,h,_,hi,hf,_,_,_,hQ=>by
  simp only [Dk,Option.some.injEq,Prod.mk.injEq] at h
  obtain ⟨rfl,rfl⟩:=h
  exact hQ β a w hi hf
 | o::rest,i,s,s',recs,β,a,w,hpre,h,hc,hi,hf,hfH,hn,hW,hQ=>by
  simp only [Dk] at h
  split at h
  ·rename_i e he
   split at h
   ·rename_i hd
    split at h
    ·rename_i recs' s'' hr
     injection h with h;injection h with h1 h2;subst h1;subst h2
     obtain ⟨c1,c2⟩:=CX.1 hc
     have ho:ops[i]? = some o:=hpre 0 o rfl
     have hu:=R2 he (fun b h1 _=>hfH b h1)
     rw [List.length_cons,List.range'_succ,List.cons_append,wpOps_cons]
     refine aT hO hi.tmp hi.good he c1 (fun b h1 _=>hf b h1) (fun b h1 _=>hfH b h1) ho fun u w' β' hE hG=>?_
     have hi':=hi.step hE hG (fun k y hk=>hW k (by simp only [FM,DJ,List.mem_append];exact .inl (NL.2 ⟨y,hk⟩))) (d:=o.dst) (fun t ht=>by
      rw [ht] at hd
      have:=R1 hd
      omega)
     refine SL rest (i+1) _ _ recs' β' _ w' (fun j o' hj=>by rw [show i+1+j=i+(j+1) by omega];exact hpre (j+1) o' hj) hr c2 (hi'.congr (fun t=>(aU hd t).symm) (fun _=>rfl)) ?_ (VO hu hfH) (by rw [← hn];exact VN) (fun k hk=>hW k (by simp only [FM,DJ,List.mem_append];exact .inr hk)) hQ
     intro b hb
     cases hβ:β' b with
     | none=>rfl
     | some X =>
      simp only at hb
      rcases hE.new b X hβ with h | ⟨_,h,_⟩
      ·rw [hf b (by omega)] at h;cases h
      ·omega
    ·cases h
   ·cases h
  ·cases h
end
def AGc (P:Program) (f:FuncId) (args0:List AV) (H0:Heap) (k0:Nat) (c:List PanicEntry):Prop :=
 ∀ (β:Env) (us:List Value) (w:World),A7 β args0 us→Good β H0 w→(∀ b,k0≤b→β b=none)→Calls P f ⟨us⟩ w fun e w'=>e=.panicked c∧Below w.heap.size w w'
theorem sS {P:Program} {ops:Array Oper} {Q:Exit→Act→World→Prop} {i:Nat} {tl:List Nat} {a:Act} {w:World} {o:Oper} {c:Call} {g:FuncId} {fn:Func} {chain:List PanicEntry} (ho:ops[i]? = some o) (hop:o.op=.call c) (hg:o.guard=none) (hcal:c.callee=.value (.func g))
  (hfn:P.funcs[g]? = some fn) (hb:fn.body.isSome=true) (hname:(fn.name=="runtime.NumGoroutine")=false) (h:Calls P g (c.args.map a.eval) w fun e w'=>e=.panicked chain∧Q (.panic chain) a w'):wpOps P ops Q (i::tl) a w:=by
 simp only [wpOps,ho]
 have hw:Region.wanted o (yielded ops a.tmps)=true:=by unfold Region.wanted;rw [hg]
 rw [if_pos hw]
 refine .inl ?_
 have h1:fn.name≠"runtime.NumGoroutine":=by simpa using hname
 have h2:¬ fn.body=none:=by cases hq:fn.body<;>simp [hq] at hb ⊢
 have e:(execOp a.eval o).run P w=.ok (.enter g (c.args.map a.eval)) w:=by
  simp [execOp,hop,resolve,hcal,Deferred.ofValue,invoke,callFunc,hfn,h1,h2,Act.eval]
 unfold Oper.wp
 rw [e,Oper.upon_enter]
 refine h.mono ?_
 rintro e w' ⟨rfl,hq⟩
 exact hq
theorem sU {P:Program} {ops:Array Oper} {Q:Exit→Act→World→Prop} {i:Nat} {a:Act} {w:World} {o:Oper} {c:Call} {t:Tmp} {F:FuncId} {ps:Array Value} (ho:ops[i]? = some o) (hop:o.op=.defer c) (hg:o.guard=none) (hd:o.dst=none)
  (hcal:c.callee=.value (.tmp t)) (hargs:c.args=#[]) (ht:a.tmps.getD t undef=.func (.func F) #[] ps) (h:Q .normal { a with defers:={ target:=.fn (.func F) ps,args:=#[] }::a.defers } w):wpOps P ops Q [i] a w:=by
 simp only [wpOps,ho]
 have hw:Region.wanted o (yielded ops a.tmps)=true:=by unfold Region.wanted;rw [hg]
 rw [if_pos hw]
 refine .inl ?_
 have e:(execOp a.eval o).run P w=.ok (.defer { target:=.fn (.func F) ps,args:=#[] }) w:=by
  simp [execOp,hop,resolve,hcal,hargs,Deferred.ofValue,Act.eval,ht]
 unfold Oper.wp
 rw [e,Oper.upon_defer,hd]
 exact h
theorem AGd {P:Program} {ops:Array Oper} {Q:Exit→Act→World→Prop} {a:Act} {w:World} {o0 o1:Oper} {t:Tmp} {T:TypeId} {v:Value} {k:IntKind} (h0:ops[0]? = some o0) (h1:ops[1]? = some o1) (hop0:o0.op=.makeInterface T (.const v)) (hg0:o0.guard=none)
  (hd0:o0.dst=some t) (hop1:o1.op=.panic (.tmp t)) (hg1:o1.guard=none) (hu:P.underlying T=some (.int k)) (ht:t<a.tmps.size) (h:∀ a',a'.defers=a.defers→Q (.panic [{ v:=.iface T v,recovered:=false }]) a' w):wpOps P ops Q [0,1] a w:=by
 have w0:Region.wanted o0 (yielded ops a.tmps)=true:=by unfold Region.wanted;rw [hg0]
 have w1:Region.wanted o1 (yielded ops (a.put o0.dst (.iface T v)).tmps)=true:=by unfold Region.wanted;rw [hg1]
 have e0:(execOp a.eval o0).run P w=.ok (.value (.iface T v)) w:=by
  simp [execOp,hop0,Instr.makeInterface,run_underlying hu,Act.eval]
 have e1:(execOp (a.put o0.dst (.iface T v)).eval o1).run P w=.halt (.panic (.iface T v)) w:=by
  simp [execOp,hop1,hd0,Act.put,Act.eval,Array.getD_eq_getD_getElem?,ht,Instr.panic,goPanic]
 simp only [wpOps,h0,h1]
 rw [if_pos w0]
 refine .inl ?_
 show o0.upon P a _ Q ((execOp a.eval o0).run P w)
 rw [e0,Oper.upon_value,if_pos w1]
 refine .inl ?_
 show o1.upon P (a.put o0.dst (.iface T v)) _ Q ((execOp (a.put o0.dst (.iface T v)).eval o1).run P w)
 rw [e1,Oper.upon_panic]
 exact h _ (by rw [hd0];rfl)
def DR:List Item→Array Oper
 | .code (.region _ ops _)::_=>ops
 | _=>#[]
def NW:List Item→Nat
 | .code (.region id _ _)::_=>id
 | _=>0
def Jw:List Item→List Item
 | _::k=>k
 | []=>[]
theorem Inv.root {β0 β:Env} {w0 w:World} {W:List Nat} {n:Fz} {τ:Nat→AV} {H:Heap} {a:Act} (i:Inv β0 w0 W n β τ H a w):Inv β w [] n β τ H a w where
 tmp:=i.tmp
 good:=i.good
 sz:=i.sz
 dfr:=i.dfr
 new:=fun _ _ h=>.inl h
 ext:=Env.le_refl β
 frame:=fun _ _ _=>rfl
 size:=Nat.le_refl _
 os:=rfl
 tape:=rfl
 output:=rfl
theorem Inv.push {β0 β:Env} {w0 w:World} {W:List Nat} {k:Nat} {τ:Nat→AV} {H:Heap} {a:Act} {d:Deferred} (i:Inv β0 w0 W ⟨k,[]⟩ β τ H a w):Inv β0 w0 W ⟨k,[d]⟩ β τ H { a with defers:=d::a.defers } w :=
 { i with sz:=i.sz,dfr:=by rw [i.dfr] }
theorem sV {β:Env} {a b:Nat} {ps:List Value} (h:Ec β [(a,0),(b,0)] ps):∃ A m B n,β a=some (.at_ A m)∧β b=some (.at_ B n)∧ps=[.pointer (some ⟨A,m.2+0,none⟩),.pointer (some ⟨B,n.2+0,none⟩)]:=by
 obtain ⟨A,m,l,h1,⟨B,n,l',h2,h3,h4⟩,h5⟩:=h
 simp only [Ec] at h3
 subst h3;subst h4;subst h5
 exact ⟨A,m,B,n,h1,h2,rfl⟩
theorem cF {P:Program} {O:Orc} {f:FuncId} {fn:Func} {β0:Env} {w0:World} {R:Ending→World→Prop} {n:Fz} {W:List Nat} (hO:OrcOk P O) (hm:P.follows .mixedOrders=true) (hfn:P.funcs[f]? = some fn) {fuel k0:Nat} {ks ks':List Nat} {x:ASt} {conds:List (Bool×Bool)} {v:AV} {H1:Heap}
  (h:AM P O fn fuel k0 ks x=some (conds,ks',v,H1)) (hc:AQ conds) (hwf:B4 n x.s) (h0:∀ b,k0≤b→β0 b=none) (hks:∀ k∈ks',k∈W) {F:FuncId} {fnF:Func} {p q:Value} (hD:n.D=[{ target:=.fn (.func F) #[p,q],args:=#[] }])
  (hF:P.funcs[F]? = some fnF) (hb:fnF.body.isSome=true) (hname:(fnF.name=="runtime.NumGoroutine")=false) (idle:∀ w,CallsD P F #[p,q] .returning w fun e u' w'=>e=.returned (.tuple #[])∧u'=.returning∧w'=w)
  (hR:∀ e w',Ay β0 w0 W v H1 e w'→R e w'):ASafe P f β0 w0 R n W x:=by
 unfold AM at h
 split at h
 case h_2=>cases h
 rename_i g y hrun
 split at h
 case h_2=>cases h
 rename_i v' hv
 injection h with h;injection h with h1 h;injection h with h2 h;injection h with h3 h4
 subst h1;subst h3;subst h4
 refine Ae (W:=W) hO hm (fuel:=fuel) (k0:=k0) (fg:=none) (stop:=none) (ks:=ks') (y:=y) (by unfold AS;rw [hrun];simp only;rw [h2]) hc hwf h0 hks fun _=>?_
 intro β a w hi hf
 unfold NR at hv
 split at hv
 case h_2=>cases hv
 rename_i l e1 e2
 injection hv with hv;subst hv
 obtain ⟨u,hu,hr⟩:=rC hi.tmp hi.good e2
 have q1:fnF.name≠"runtime.NumGoroutine":=by simpa using hname
 have q2:¬ fnF.body=none:=by cases hq:fnF.body<;>simp [hq] at hb ⊢
 refine Safe.leaves hfn e1 ?_
 rw [hi.dfr,hD]
 refine leaves_cons (f:=F) (args:=#[p,q]) (by simp) (by simp [invoke,callFunc,hF,q1,q2]) ?_
 refine (idle w).mono ?_
 rintro e u' w' ⟨rfl,rfl,rfl⟩
 exact ⟨u,hu,hR _ _ ⟨u,β,rfl,hr,hi.good.restrict ks,hi.new,hi.ext,hi.frame,hi.size,hi.os,hi.tape,hi.output⟩⟩
end Go.Proofs.YtjlcdlekmpjjnaaGreat.Ex
namespace Go.Proofs.YtjlcdlekmpjjnaaGreat
open Ex
theorem AB:Tryz.prog.follows .mixedOrders=true:=by kernel_rfl
def S0:List (FuncId×ASpec):=[(152,subSpec),(147,addSpec)]
def K0:List (TypeId×List (Option IntKind)):=[(30,List.replicate 6 (some .u64)),(32,List.replicate 12 (some .u64)++[none])]
set_option maxRecDepth 100000
set_option maxHeartbeats 4000000
theorem Aa:Jo Tryz.prog K0:=⟨⟨by kernel_rfl,by kernel_rfl,by kernel_rfl⟩,⟨by kernel_rfl,by kernel_rfl,by kernel_rfl⟩,trivial⟩
theorem G2:AX Tryz.prog S0:=⟨AGP Tryz.func152 (by kernel_rfl) (by kernel_rfl) (by kernel_rfl) (by kernel_rfl),AGN Tryz.func147 (by kernel_rfl) (by kernel_rfl) (by kernel_rfl) (by kernel_rfl),trivial⟩
theorem PQ {β:Env} {A:AV} {u:Value} {c:Bool} {k:IntKind} {i:Int} (h:BJ (some A)=some (c,k,i)) (hr:AP β A u):AP β (.val false [.v (.int k i)]) u∧has k i:=by
 obtain ⟨rfl,h2⟩:=CH (β:=β) (u:=u) (fun B hB=>by injection hB with hB;subst hB;exact hr) h
 exact ⟨Aw ⟨rfl,rfl,h2⟩,h2⟩
theorem SM {β:Env} {k x:Nat} (h:x<2^(64*k)):AN β [.num k x] (words k x):=⟨_,[],⟨h,rfl⟩,rfl,by simp⟩
theorem Jx {β:Env} {k x:Nat} {a:List Ch} {u:Value} (h:CP k a=some x) (hr:AP β (.val true a) u) :
  AP β (.val true [.num k x]) u∧AP β (.val true (JQ k x)) u∧x<2^(64*k):=by
 obtain ⟨l,h1,rfl⟩:=hr
 obtain ⟨h2,h3⟩:=F1 h h1
 subst h2
 exact ⟨⟨_,SM h3,rfl⟩,⟨_,AFF k x,rfl⟩,h3⟩
theorem AGe {β:Env} {k x:Nat} {u:Value} (hx:x<2^(64*k)) (hr:AP β (.val true (JQ k x)) u):AP β (.val true [.num k x]) u:=by
 obtain ⟨l,h1,rfl⟩:=hr
 have:l=words k x:=by
  have gen:∀ (is:List Nat) (l:List Value),AN β (is.map fun i=>Ch.v (.int .u64 (AE x i))) l→l=is.map fun i=>Value.int .u64 (AE x i):=by
   intro is
   induction is with
   | nil=>intro l h;exact h
   | cons i is ih =>
    intro l ⟨l1,l2,q1,q2,q3⟩
    rw [q3,q1.1,ih l2 q2];rfl
  exact gen _ _ h1
 subst this
 exact ⟨_,SM hx,rfl⟩
theorem AGf {k:Nat} {x:Nat}:CP k [.num k x]=some x:=by simp [CP]
def HQ (x y:Int):Int:=x*y / 18446744073709551616
def Dv (x y:Int):Int:=x*y % 18446744073709551616
def NX (x:Int):Int:=bits .and .u64 x 4294967295
def G3 (x:Int):Int:=Int.fdiv x (2^32)
def mW (x:Int):Int:=IntKind.u64.wrap x
def Vp (x y:Int):Int:=mW (NX x*NX y)
def mt (x y:Int):Int:=mW (mW (G3 x*NX y)+G3 (Vp x y))
def SO (x y:Int):Int:=mW (NX (mt x y)+mW (NX x*G3 y))
theorem AGg (x y:Int):AR Tryz.prog (AH S0 K0) Tryz.f157 [.val false [.v (.int .u64 x)],.val false [.v (.int .u64 y)]] [] 300 =
 some ([(decide (0≤(32:Int)∧0≤x),true),(decide (0≤(32:Int)∧0≤y),true),(decide (0≤(32:Int)∧0≤Vp x y),true),(decide (0≤(32:Int)∧0≤mt x y),true),(decide (0≤(32:Int)∧0≤SO x y),true)],
  .tup [(false,[.v (.int .u64 (mW (mW (mW (G3 x*G3 y)+G3 (mt x y))+G3 (SO x y))))]),(false,[.v (.int .u64 (mW (x*y)))])]):=by kernel_rfl
theorem SS {x:Int} (h0:0≤x) (h1:x<18446744073709551616):NX x=x % 4294967296:=by
 obtain ⟨X,rfl⟩:=Int.eq_ofNat_of_zero_le h0
 have h:=(bits_nat .u64 64 (by decide) (fun n h0 h1=>by rw [IntKind.wrap_u64];omega) X 4294967295 (by omega) (by decide)).1
 show bits .and .u64 (X:Int) ((4294967295:Nat):Int)=_
 rw [h]
 have e4:(4294967295:Nat)=2^32-1:=by decide
 rw [e4,Nat.and_two_pow_sub_one_eq_mod]
 omega
theorem AGh (x:Int):G3 x=x / 4294967296:=by
 unfold G3
 rw [Int.fdiv_eq_ediv_of_nonneg _ (by decide)]
 rfl
theorem EN (x:Int):mW x=x % 18446744073709551616:=IntKind.wrap_u64 x
theorem AGi {x y:Int} (hx:0≤x∧x<18446744073709551616) (hy:0≤y∧y<18446744073709551616) :
  mW (mW (mW (G3 x*G3 y)+G3 (mt x y))+G3 (SO x y))=HQ x y∧mW (x*y)=Dv x y∧0≤Vp x y∧0≤mt x y∧0≤SO x y:=by
 have n0:∀ z,0≤mW z:=fun z=>by rw [EN];omega
 refine ⟨?_,EN _,n0 _,n0 _,n0 _⟩
 have hw:∀ z,0≤mW z∧mW z<18446744073709551616:=fun z=>by rw [EN];omega
 have lt:=SS (show 0≤mt x y from (hw _).1) (show mt x y<_ from (hw _).2)
 unfold HQ SO
 rw [lt,SS hx.1 hx.2]
 clear lt
 unfold mt Vp
 rw [SS hx.1 hx.2,SS hy.1 hy.2]
 simp only [AGh,EN]
 obtain ⟨a,ha⟩:∃ a,a=x / 4294967296:=⟨_,rfl⟩
 obtain ⟨b,hb⟩:∃ b,b=x % 4294967296:=⟨_,rfl⟩
 obtain ⟨c,hc⟩:∃ c,c=y / 4294967296:=⟨_,rfl⟩
 obtain ⟨d,hd⟩:∃ d,d=y % 4294967296:=⟨_,rfl⟩
 have a1:0≤a∧a≤4294967295:=by omega
 have b1:0≤b∧b≤4294967295:=by omega
 have c1:0≤c∧c≤4294967295:=by omega
 have d1:0≤d∧d≤4294967295:=by omega
 rw [← ha,← hb,← hc,← hd]
 have exy:x*y=(a*c)*18446744073709551616+(a*d+b*c)*4294967296+b*d:=by
  have e1:x=a*4294967296+b:=by omega
  have e2:y=c*4294967296+d:=by omega
  rw [e1,e2]
  simp only [Int.add_mul,Int.mul_add]
  have q1:a*4294967296*(c*4294967296)=a*c*18446744073709551616:=by
   rw [Int.mul_assoc,Int.mul_left_comm 4294967296 c,← Int.mul_assoc];omega
  have q2:a*4294967296*d=a*d*4294967296:=Int.mul_right_comm _ _ _
  have q3:b*(c*4294967296)=b*c*4294967296:=(Int.mul_assoc _ _ _).symm
  omega
 rw [exy]
 have pb:∀ {u v:Int},0≤u∧u≤4294967295→0≤v∧v≤4294967295→0≤u*v∧u*v≤18446744065119617025:=by
  intro u v hu hv
  refine ⟨Int.mul_nonneg hu.1 hv.1,?_⟩
  have:=Int.mul_le_mul hu.2 hv.2 hv.1 (by omega)
  omega
 have p1:=pb a1 c1
 have p2:=pb a1 d1
 have p3:=pb b1 c1
 have p4:=pb b1 d1
 generalize a*c=AC at *
 generalize a*d=AD at *
 generalize b*c=BC at *
 generalize b*d=BD at *
 clear ha hb hc hd exy a1 b1 c1 d1 pb hx hy n0 hw
 omega
def cG:List AV→Option AV
 | [A,B]=>match BJ (some A),BJ (some B) with
  | some (_,.u64,x),some (_,.u64,y)=>some (.tup [(false,[.v (.int .u64 (HQ x y))]),(false,[.v (.int .u64 (Dv x y))])])
  | _,_=>none
 | _=>none
theorem AGj:∀ args v,cG args=some v→AU Tryz.prog 157 args v:=by
 intro args v h us w ha
 unfold cG at h
 split at h
 case h_2=>cases h
 rename_i A B
 split at h
 case h_2=>cases h
 rename_i c1 x c2 y hx hy
 injection h with h;subst h
 obtain ⟨u1,us1,r1,ha,rfl⟩:=ha
 obtain ⟨u2,us2,r2,ha,rfl⟩:=ha
 simp only [A7] at ha
 subst ha
 obtain ⟨q1,h1⟩:=PQ hx r1
 obtain ⟨q2,h2⟩:=PQ hy r2
 have b1:=DQ h1
 have b2:=DQ h2
 obtain ⟨m1,m2,m3,m4,m5⟩:=AGi b1 b2
 have:=AW (AK G2 Aa) AB Tryz.func157 (AGg x y) (by simp [AQ,b1.1,b2.1,m3,m4,m5]) rfl _ w ⟨u1,_,q1,⟨u2,_,q2,rfl,rfl⟩,rfl⟩
 rw [m1,m2] at this
 exact this
def Pw:List Ch:=[.n .u64 0xb9feffffffffaaab,.n .u64 0x1eabfffeb153ffff,.n .u64 0x6730d2a0f6b0f624,.n .u64 0x64774b84f38512bf,.n .u64 0x4b1ba7b6434bacd7,.n .u64 0x1a0111ea397fe69a]
theorem AGk:AR Tryz.prog (AH S0 K0) Tryz.f151 [] [] 100=some ([],.val true Pw):=by kernel_rfl
theorem AGl:AU Tryz.prog 151 [] (.val true Pw):=AW (AK G2 Aa) AB Tryz.func151 AGk trivial rfl
def Vq:List AV→Option AV | []=>some (.val true Pw) | _=>none
def S1:List (FuncId×ASpec):=(151,Aj Vq)::(157,Aj cG)::S0
theorem Vr:AX Tryz.prog S1:=⟨Ak Tryz.func151 (by kernel_rfl) (by kernel_rfl) (fun args v h=>by
 unfold Vq at h
 split at h
 ·injection h with h;subst h;exact AGl
 ·cases h),Ak Tryz.func157 (by kernel_rfl) (by kernel_rfl) AGj,G2⟩
end Go.Proofs.YtjlcdlekmpjjnaaGreat
namespace Go.Proofs.YtjlcdlekmpjjnaaGreat
open Ex
set_option maxRecDepth 100000
set_option maxHeartbeats 4000000
def pN:Nat:=0x1a0111ea397fe69a4b1ba7b6434bacd764774b84f38512bf6730d2a0f6b0f6241eabfffeb153ffffb9feffffffffaaab
def RR:Nat:=39402006196394479212279040100143613805079739270465446667948293404245721771497210611414266254884915640806627990306816
theorem CZ:RR=2^(64*6):=by kernel_rfl
theorem AGm:2^(64*6)=2^64*(2^64*(2^64*(2^64*(2^64*2^64)))):=by kernel_rfl
theorem Le (x:Nat):(x:Int)=AE x 0+18446744073709551616*((x / 2^64:Nat):Int):=by
 simp only [AE,Nat.mul_zero,Nat.pow_zero,Nat.div_one];omega
theorem BN (x i:Nat):0≤AE x i∧AE x i<18446744073709551616:=DQ (U4 x i)
theorem sW {x:Nat} (h:x<18446744073709551616):AE x 0=x:=by
 simp only [AE,Nat.mul_zero,Nat.pow_zero,Nat.div_one];omega
def E8 (a0 a1 a2 a3 a4 a5:Int):Int:=a0+18446744073709551616*(a1+18446744073709551616*(a2+18446744073709551616*(a3+18446744073709551616*(a4+18446744073709551616*a5))))
theorem NY {x:Nat} (h:x<2^(64*6)):(x:Int)=E8 (AE x 0) (AE x 1) (AE x 2) (AE x 3) (AE x 4) (AE x 5):=by
 rw [AGm] at h
 have s0:=Le x
 have s1:=Le (x / 2^64)
 have s2:=Le (x / 2^64 / 2^64)
 have s3:=Le (x / 2^64 / 2^64 / 2^64)
 have s4:=Le (x / 2^64 / 2^64 / 2^64 / 2^64)
 have s5:AE (x / 2^64 / 2^64 / 2^64 / 2^64 / 2^64) 0=((x / 2^64 / 2^64 / 2^64 / 2^64 / 2^64:Nat):Int):=by
  apply sW
  have l1:=Nat.div_lt_of_lt_mul h
  have l2:=Nat.div_lt_of_lt_mul l1
  have l3:=Nat.div_lt_of_lt_mul l2
  have l4:=Nat.div_lt_of_lt_mul l3
  exact Nat.div_lt_of_lt_mul l4
 simp only [E8,EA]
 rw [s5]
 rw [← s4,← s3,← s2,← s1,← s0]
theorem AGn {y:Nat} {d0 d1 d2 d3 d4 d5:Int} (b0:0≤d0∧d0<18446744073709551616) (b1:0≤d1∧d1<18446744073709551616) (b2:0≤d2∧d2<18446744073709551616) (b3:0≤d3∧d3<18446744073709551616) (b4:0≤d4∧d4<18446744073709551616) (b5:0≤d5∧d5<18446744073709551616)
  (h:(y:Int)=E8 d0 d1 d2 d3 d4 d5):d0=AE y 0∧d1=AE y 1∧d2=AE y 2∧d3=AE y 3∧d4=AE y 4∧d5=AE y 5∧y<2^(64*6):=by
 unfold E8 at h
 have step:∀ (z:Nat) (d K:Int),0≤d∧d<18446744073709551616→(z:Int)=d+18446744073709551616*K→d=AE z 0∧((z / 2^64:Nat):Int)=K:=by
  intro z d K hd hz
  have:=Le z
  have hb:=BN z 0
  omega
 obtain ⟨e0,k0⟩:=step y d0 _ b0 h
 obtain ⟨e1,k1⟩:=step _ d1 _ b1 k0
 obtain ⟨e2,k2⟩:=step _ d2 _ b2 k1
 obtain ⟨e3,k3⟩:=step _ d3 _ b3 k2
 obtain ⟨e4,k4⟩:=step _ d4 _ b4 k3
 have e5:d5=AE (y / 2^64 / 2^64 / 2^64 / 2^64 / 2^64) 0:=by rw [sW (by omega)];exact k4.symm
 refine ⟨e0,by rw [e1,EA],by rw [e2,EA,EA],by rw [e3,EA,EA,EA],by rw [e4,EA,EA,EA,EA],by rw [e5,EA,EA,EA,EA,EA],?_⟩
 rw [← CZ]
 unfold RR
 omega
def w6 (a0 a1 a2 a3 a4 a5:Int):List Ch:=[.v (.int .u64 a0),.v (.int .u64 a1),.v (.int .u64 a2),.v (.int .u64 a3),.v (.int .u64 a4),.v (.int .u64 a5)]
theorem cH (x:Nat):JQ 6 x=w6 (AE x 0) (AE x 1) (AE x 2) (AE x 3) (AE x 4) (AE x 5):=rfl
theorem Vs {β:Env} {u:Value} {y:Nat} {d0 d1 d2 d3 d4 d5:Int} (b0:0≤d0∧d0<18446744073709551616) (b1:0≤d1∧d1<18446744073709551616) (b2:0≤d2∧d2<18446744073709551616) (b3:0≤d3∧d3<18446744073709551616) (b4:0≤d4∧d4<18446744073709551616) (b5:0≤d5∧d5<18446744073709551616)
  (h:(y:Int)=E8 d0 d1 d2 d3 d4 d5) (hr:AP β (.val true (w6 d0 d1 d2 d3 d4 d5)) u):AP β (.val true [.num 6 y]) u:=by
 obtain ⟨e0,e1,e2,e3,e4,e5,hlt⟩:=AGn b0 b1 b2 b3 b4 b5 h
 rw [e0,e1,e2,e3,e4,e5,← cH] at hr
 exact AGe hlt hr
theorem Jy {a b c:Int} (ha:0≤a∧a<18446744073709551616) (hb:0≤b∧b<18446744073709551616) (hc:0≤c∧c≤1) :
  DK a b c=a-b-c+18446744073709551616*GN a b c∧(0≤DK a b c∧DK a b c<18446744073709551616)∧(0≤GN a b c∧GN a b c≤1):=by
 unfold DK GN
 split<;>omega
theorem cI {a b c:Int} (ha:0≤a∧a<18446744073709551616) (hb:0≤b∧b<18446744073709551616) (hc:0≤c∧c≤1) :
  a+b+c=Bd a b c+18446744073709551616*B8 a b c∧(0≤Bd a b c∧Bd a b c<18446744073709551616)∧(0≤B8 a b c∧B8 a b c≤1):=by
 unfold Bd B8
 omega
theorem Cw {c:Int} (h:0≤c∧c≤1):Bo c=true:=by simp [Bo,h.1,h.2]
def Lf (a0:Int):Int:=GN a0 0xb9feffffffffaaab 0
def Lg (a0 a1:Int):Int:=GN a1 0x1eabfffeb153ffff (Lf a0)
def Lh (a0 a1 a2:Int):Int:=GN a2 0x6730d2a0f6b0f624 (Lg a0 a1)
def Li (a0 a1 a2 a3:Int):Int:=GN a3 0x64774b84f38512bf (Lh a0 a1 a2)
def Lj (a0 a1 a2 a3 a4:Int):Int:=GN a4 0x4b1ba7b6434bacd7 (Li a0 a1 a2 a3)
def HR (a0 a1 a2 a3 a4 a5:Int):Int:=GN a5 0x1a0111ea397fe69a (Lj a0 a1 a2 a3 a4)
def AGo (a0 a1 a2 a3 a4 a5:Int):List Ch:=w6 (DK a0 0xb9feffffffffaaab 0) (DK a1 0x1eabfffeb153ffff (Lf a0)) (DK a2 0x6730d2a0f6b0f624 (Lg a0 a1)) (DK a3 0x64774b84f38512bf (Lh a0 a1 a2)) (DK a4 0x4b1ba7b6434bacd7 (Li a0 a1 a2 a3)) (DK a5 0x1a0111ea397fe69a (Lj a0 a1 a2 a3 a4))
def cJ (a0 a1 a2 a3 a4:Int) (r:List (Bool×Bool)):List (Bool×Bool):=(Bo 0,true)::(Bo (Lf a0),true)::(Bo (Lg a0 a1),true)::(Bo (Lh a0 a1 a2),true)::(Bo (Li a0 a1 a2 a3),true)::(Bo (Lj a0 a1 a2 a3 a4),true)::r
theorem AGp (a0 a1 a2 a3 a4 a5 h:Int):AR Tryz.prog (AH S1 K0) Tryz.f148 [.val true (w6 a0 a1 a2 a3 a4 a5),.val false [.v (.int .u64 h)]] [true] 300 =
 some (cJ a0 a1 a2 a3 a4 [(decide (h<HR a0 a1 a2 a3 a4 a5),true)],.val true (w6 a0 a1 a2 a3 a4 a5)):=by kernel_rfl
theorem AGq (a0 a1 a2 a3 a4 a5 h:Int):AR Tryz.prog (AH S1 K0) Tryz.f148 [.val true (w6 a0 a1 a2 a3 a4 a5),.val false [.v (.int .u64 h)]] [false] 300 =
 some (cJ a0 a1 a2 a3 a4 [(decide (h<HR a0 a1 a2 a3 a4 a5),false)],.val true (AGo a0 a1 a2 a3 a4 a5)):=by kernel_rfl
def G4 (x h:Nat):Nat:=if x<pN∧h=0 then x else (x+(RR-pN)) % RR
def cK:List AV→Option AV
 | [.val true a,B]=>match CP 6 a,BJ (some B) with
  | some x,some (_,.u64,h)=>some (.val true [.num 6 (G4 x h.toNat)])
  | _,_=>none
 | _=>none
theorem AGr:∀ args v,cK args=some v→AU Tryz.prog 148 args v:=by
 intro args v h us w ha
 unfold cK at h
 split at h
 case h_2=>cases h
 rename_i a B
 split at h
 case h_2=>cases h
 rename_i x c h0 hx hy
 injection h with h;subst h
 obtain ⟨u1,us1,r1,ha,rfl⟩:=ha
 obtain ⟨u2,us2,r2,ha,rfl⟩:=ha
 simp only [A7] at ha
 subst ha
 obtain ⟨q0,q1,hlt⟩:=Jx hx r1
 obtain ⟨q2,h2⟩:=PQ hy r2
 have bh:=DQ h2
 rw [cH] at q1
 have hX:=NY hlt
 have w0:=BN x 0
 have w1:=BN x 1
 have w2:=BN x 2
 have w3:=BN x 3
 have w4:=BN x 4
 have w5:=BN x 5
 generalize AE x 0=a0 at *
 generalize AE x 1=a1 at *
 generalize AE x 2=a2 at *
 generalize AE x 3=a3 at *
 generalize AE x 4=a4 at *
 generalize AE x 5=a5 at *
 obtain ⟨d0,e0,f0⟩:=Jy (b:=0xb9feffffffffaaab) (c:=0) w0 (by omega) (by omega)
 obtain ⟨d1,e1,f1⟩:=Jy (b:=0x1eabfffeb153ffff) (c:=Lf a0) w1 (by omega) f0
 obtain ⟨d2,e2,f2⟩:=Jy (b:=0x6730d2a0f6b0f624) (c:=Lg a0 a1) w2 (by omega) f1
 obtain ⟨d3,e3,f3⟩:=Jy (b:=0x64774b84f38512bf) (c:=Lh a0 a1 a2) w3 (by omega) f2
 obtain ⟨d4,e4,f4⟩:=Jy (b:=0x4b1ba7b6434bacd7) (c:=Li a0 a1 a2 a3) w4 (by omega) f3
 obtain ⟨d5,e5,f5⟩:=Jy (b:=0x1a0111ea397fe69a) (c:=Lj a0 a1 a2 a3 a4) w5 (by omega) f4
 have hconds:∀ r,AQ r→AQ (cJ a0 a1 a2 a3 a4 r):=fun r hr =>
  ⟨rfl,Cw f0,Cw f1,Cw f2,Cw f3,Cw f4,hr⟩
 change DK a0 0xb9feffffffffaaab 0=a0-0xb9feffffffffaaab-0+18446744073709551616*Lf a0 at d0
 change DK a1 0x1eabfffeb153ffff (Lf a0)=a1-0x1eabfffeb153ffff-Lf a0+18446744073709551616*Lg a0 a1 at d1
 change DK a2 0x6730d2a0f6b0f624 (Lg a0 a1)=a2-0x6730d2a0f6b0f624-Lg a0 a1+18446744073709551616*Lh a0 a1 a2 at d2
 change DK a3 0x64774b84f38512bf (Lh a0 a1 a2)=a3-0x64774b84f38512bf-Lh a0 a1 a2+18446744073709551616*Li a0 a1 a2 a3 at d3
 change DK a4 0x4b1ba7b6434bacd7 (Li a0 a1 a2 a3)=a4-0x4b1ba7b6434bacd7-Li a0 a1 a2 a3+18446744073709551616*Lj a0 a1 a2 a3 a4 at d4
 change DK a5 0x1a0111ea397fe69a (Lj a0 a1 a2 a3 a4)=a5-0x1a0111ea397fe69a-Lj a0 a1 a2 a3 a4+18446744073709551616*HR a0 a1 a2 a3 a4 a5 at d5
 change 0≤HR a0 a1 a2 a3 a4 a5∧HR a0 a1 a2 a3 a4 a5≤1 at f5
 unfold E8 at hX
 have hsum:E8 (DK a0 0xb9feffffffffaaab 0) (DK a1 0x1eabfffeb153ffff (Lf a0)) (DK a2 0x6730d2a0f6b0f624 (Lg a0 a1)) (DK a3 0x64774b84f38512bf (Lh a0 a1 a2)) (DK a4 0x4b1ba7b6434bacd7 (Li a0 a1 a2 a3)) (DK a5 0x1a0111ea397fe69a (Lj a0 a1 a2 a3 a4)) =
   (x:Int)-(pN:Nat)+(RR:Nat)*HR a0 a1 a2 a3 a4 a5:=by
  unfold E8 pN RR
  omega
 have hbnd:0≤(x:Int)-(pN:Nat)+(RR:Nat)*HR a0 a1 a2 a3 a4 a5∧(x:Int)-(pN:Nat)+(RR:Nat)*HR a0 a1 a2 a3 a4 a5<(RR:Nat):=by
  rw [← hsum];unfold E8 RR;omega
 have hltR:x<RR:=by rw [CZ];exact hlt
 by_cases hcase:x<pN∧h0.toNat=0
 ·have hb6:h0<HR a0 a1 a2 a3 a4 a5:=by
   unfold pN RR at hbnd;unfold pN at hcase;omega
  have:=AW (AK Vr Aa) AB Tryz.func148 (AGp a0 a1 a2 a3 a4 a5 h0) (hconds _ ⟨by simp [hb6],trivial⟩) rfl _ w ⟨u1,_,q1,⟨u2,_,q2,rfl,rfl⟩,rfl⟩
  refine Calls.mono this ?_
  rintro e w' ⟨u,rfl,hu,hbl⟩
  refine ⟨u,rfl,?_,hbl⟩
  unfold G4
  rw [if_pos hcase]
  exact Vs w0 w1 w2 w3 w4 w5 hX hu
 ·have hb6:¬ h0<HR a0 a1 a2 a3 a4 a5:=by
   unfold pN RR at hbnd;unfold pN at hcase;omega
  have:=AW (AK Vr Aa) AB Tryz.func148 (AGq a0 a1 a2 a3 a4 a5 h0) (hconds _ ⟨by simp [hb6],trivial⟩) rfl _ w ⟨u1,_,q1,⟨u2,_,q2,rfl,rfl⟩,rfl⟩
  refine Calls.mono this ?_
  rintro e w' ⟨u,rfl,hu,hbl⟩
  refine ⟨u,rfl,?_,hbl⟩
  unfold G4
  rw [if_neg hcase]
  refine Vs e0 e1 e2 e3 e4 e5 ?_ hu
  rw [hsum]
  have h01:HR a0 a1 a2 a3 a4 a5=0∨HR a0 a1 a2 a3 a4 a5=1:=by omega
  unfold pN RR at *
  rcases h01 with h01 | h01<;>rw [h01] at hbnd ⊢<;>omega
def S2:List (FuncId×ASpec):=(148,Aj cK)::S1
theorem Vt:AX Tryz.prog S2:=⟨Ak Tryz.func148 (by kernel_rfl) (by kernel_rfl) AGr,Vr⟩
def Be (x:Option (List (Bool×Bool)×List Nat×ASt)):List Item:=match x with | some (_,_,y)=>y.todo | none=>[]
def GQ:List Ch:=[.n .u64 0,.n .u64 0,.n .u64 0,.n .u64 0,.n .u64 0,.n .u64 0]
noncomputable def AGs:List Item:=Be (AS Tryz.prog (AH S2 K0) (some 0) 100 0 (some ([1,2],[0,1],2)) (Af Tryz.f131 [.val true [.num 6 0]] [] 0 []))
noncomputable def PR (x:Nat) (path:List Bool):ASt:=⟨AGs,⟨[.any,.val false [.p 0 0],.val false [.p 1 0],.any,.any,.any,.any,.any,.any,.any,.any],
 [(0,some ⟨30,[.num 6 x],false⟩),(1,some ⟨30,GQ,false⟩)],2,path⟩⟩
theorem AGt (x:Nat):AS Tryz.prog (AH S2 K0) (some 0) 100 0 (some ([1,2],[0,1],2)) (Af Tryz.f131 [.val true [.num 6 x]] [] 0 [])=some ([],[],PR x []):=by kernel_rfl
theorem AGu (x:Nat):AS Tryz.prog (AH S2 K0) (some 0) 100 0 (some ([1,2],[0,1],2)) (PR x [false])=some ([(decide (G4 x 0=x),false)],[],PR (G4 x 0) []):=by kernel_rfl
theorem AGv (x:Nat):Dt Tryz.prog (AH S2 K0) Tryz.f131 100 0 (PR x [true])=some ([(decide (G4 x 0=x),true)],[],.val true [.num 6 x]):=by kernel_rfl
theorem sZ (x:Nat) (p:List Bool):B4 Tryz.f131.ntmps (PR x p).s:=AL (by kernel_rfl)
theorem s6 {x:Nat} (h:x<pN):G4 x 0=x:=if_pos ⟨h,rfl⟩
theorem cL {x:Nat} (h:pN≤x) (hx:x<RR):G4 x 0=x-pN:=by
 unfold G4
 rw [if_neg (by omega)]
 have:pN≤RR:=by decide
 rw [show x+(RR-pN)=(x-pN)+RR by omega,Nat.add_mod_right,Nat.mod_eq_of_lt (by omega)]
theorem CQ:0<pN:=by decide
theorem AGw (w0:World) (v:Nat):∀ (x:Nat),x<RR→x % pN=v→ASafe Tryz.prog 131 Bc w0 (F4 w0 (.val true [.num 6 v])) Tryz.f131.ntmps [] (PR x []):=by
 intro x
 induction x using Nat.strongRecOn with
 | _ x ih =>
  intro hx hv
  rcases Nat.lt_or_ge x pN with hlt | hge
  ·rw [Nat.mod_eq_of_lt hlt] at hv
   subst hv
   exact Ab [true] (GO (AK Vt Aa) AB Tryz.func131 (AGv x) ⟨by simp [s6 hlt],trivial⟩ (sZ x _) (fun _ _=>rfl) rfl)
  ·have hp:=CQ
   refine Ab [false] (Ae (AK Vt Aa) AB (AGu x) ⟨by simp [cL hge hx];omega,trivial⟩ (sZ x _) (fun _ _=>rfl) (fun _ h=>by cases h) fun _=>?_)
   rw [cL hge hx]
   exact ih (x-pN) (by omega) (by omega) (by rw [← hv,← Nat.mod_eq_sub_mod hge])
def Vu:List AV→Option AV
 | [.val true a]=>match CP 6 a with
  | some x=>some (.val true [.num 6 (x % pN)])
  | none=>none
 | _=>none
theorem s7:∀ args v,Vu args=some v→AU Tryz.prog 131 args v:=by
 intro args v h us w ha
 unfold Vu at h
 split at h
 case h_2=>cases h
 rename_i a
 split at h
 case h_2=>cases h
 rename_i x hx
 injection h with h;subst h
 obtain ⟨u1,us1,r1,ha,rfl⟩:=ha
 simp only [A7] at ha
 subst ha
 obtain ⟨q0,q1,hlt⟩:=Jx hx r1
 rw [← CZ] at hlt
 exact Js (args:=[.val true [.num 6 x]]) (path:=[]) Tryz.func131 (by kernel_rfl) (by kernel_rfl) (fun w0=>Ae (AK Vt Aa) AB (AGt x) trivial (AL (by kernel_rfl)) (fun _ _=>rfl) (fun _ h=>by cases h) fun _=>AGw w0 _ x hlt rfl) _ w ⟨u1,_,q0,rfl,rfl⟩
def S3:List (FuncId×ASpec):=(131,Aj Vu)::S2
theorem Vv:AX Tryz.prog S3:=⟨Ak Tryz.func131 (by kernel_rfl) (by kernel_rfl) s7,Vt⟩
def Lk (d0 d1 d2 d3 d4 d5:Int):Nat:=d0.toNat+18446744073709551616*(d1.toNat+18446744073709551616*(d2.toNat+18446744073709551616*(d3.toNat+18446744073709551616*(d4.toNat+18446744073709551616*(d5.toNat+18446744073709551616*0)))))
def BP (x y:Nat):Nat→Int
 | 0=>0
 | i+1=>B8 (AE x i) (AE y i) (BP x y i)
def Bf (x y:Nat):Nat→Int
 | 0=>0
 | i+1=>GN (AE x i) (AE y i) (Bf x y i)
def Dw (x y i:Nat):Int:=Bd (AE x i) (AE y i) (BP x y i)
def BR (x y i:Nat):Int:=DK (AE x i) (AE y i) (Bf x y i)
theorem Ej (x y:Nat):∀ i,0≤BP x y i∧BP x y i≤1
 | 0=>by simp [BP]
 | i+1=>(cI (BN x i) (BN y i) (Ej x y i)).2.2
theorem Ek (x y:Nat):∀ i,0≤Bf x y i∧Bf x y i≤1
 | 0=>by simp [Bf]
 | i+1=>(Jy (BN x i) (BN y i) (Ek x y i)).2.2
theorem PS (x y i:Nat):0≤Dw x y i∧Dw x y i<18446744073709551616:=(cI (BN x i) (BN y i) (Ej x y i)).2.1
theorem EB (x y i:Nat):0≤BR x y i∧BR x y i<18446744073709551616:=(Jy (BN x i) (BN y i) (Ek x y i)).2.1
theorem PT (x y i:Nat):AE x i+AE y i+BP x y i=Dw x y i+18446744073709551616*BP x y (i+1):=(cI (BN x i) (BN y i) (Ej x y i)).1
theorem NZ (x y i:Nat):BR x y i=AE x i-AE y i-Bf x y i+18446744073709551616*Bf x y (i+1):=(Jy (BN x i) (BN y i) (Ek x y i)).1
theorem AGx {x y:Nat} (hx:x<RR) (hy:y<RR):E8 (Dw x y 0) (Dw x y 1) (Dw x y 2) (Dw x y 3) (Dw x y 4) (Dw x y 5)+(RR:Nat)*BP x y 6=x+y:=by
 have h1:=NY (x:=x) (by rw [← CZ];exact hx)
 have h2:=NY (x:=y) (by rw [← CZ];exact hy)
 have e0:AE x 0+AE y 0+BP x y 0=Dw x y 0+18446744073709551616*BP x y 1:=PT x y 0
 have e1:AE x 1+AE y 1+BP x y 1=Dw x y 1+18446744073709551616*BP x y 2:=PT x y 1
 have e2:AE x 2+AE y 2+BP x y 2=Dw x y 2+18446744073709551616*BP x y 3:=PT x y 2
 have e3:AE x 3+AE y 3+BP x y 3=Dw x y 3+18446744073709551616*BP x y 4:=PT x y 3
 have e4:AE x 4+AE y 4+BP x y 4=Dw x y 4+18446744073709551616*BP x y 5:=PT x y 4
 have e5:AE x 5+AE y 5+BP x y 5=Dw x y 5+18446744073709551616*BP x y 6:=PT x y 5
 have z:BP x y 0=0:=rfl
 unfold E8 at *
 unfold RR
 omega
theorem AGy {x y:Nat} (hx:x<RR) (hy:y<RR):E8 (BR x y 0) (BR x y 1) (BR x y 2) (BR x y 3) (BR x y 4) (BR x y 5)=x-y+(RR:Nat)*Bf x y 6:=by
 have h1:=NY (x:=x) (by rw [← CZ];exact hx)
 have h2:=NY (x:=y) (by rw [← CZ];exact hy)
 have e0:BR x y 0=AE x 0-AE y 0-Bf x y 0+18446744073709551616*Bf x y 1:=NZ x y 0
 have e1:BR x y 1=AE x 1-AE y 1-Bf x y 1+18446744073709551616*Bf x y 2:=NZ x y 1
 have e2:BR x y 2=AE x 2-AE y 2-Bf x y 2+18446744073709551616*Bf x y 3:=NZ x y 2
 have e3:BR x y 3=AE x 3-AE y 3-Bf x y 3+18446744073709551616*Bf x y 4:=NZ x y 3
 have e4:BR x y 4=AE x 4-AE y 4-Bf x y 4+18446744073709551616*Bf x y 5:=NZ x y 4
 have e5:BR x y 5=AE x 5-AE y 5-Bf x y 5+18446744073709551616*Bf x y 6:=NZ x y 5
 have z:Bf x y 0=0:=rfl
 unfold E8 at *
 unfold RR
 omega
theorem Vw {d0 d1 d2 d3 d4 d5:Int} (b0:0≤d0∧d0<18446744073709551616) (b1:0≤d1∧d1<18446744073709551616) (b2:0≤d2∧d2<18446744073709551616) (b3:0≤d3∧d3<18446744073709551616) (b4:0≤d4∧d4<18446744073709551616) (b5:0≤d5∧d5<18446744073709551616) :
  (Lk d0 d1 d2 d3 d4 d5:Int)=E8 d0 d1 d2 d3 d4 d5∧Lk d0 d1 d2 d3 d4 d5<RR:=by
 unfold Lk E8 RR
 omega
def Jz (x y:Nat):Nat:=Lk (Dw x y 0) (Dw x y 1) (Dw x y 2) (Dw x y 3) (Dw x y 4) (Dw x y 5)
def Vx (x y:Nat):Nat:=Lk (BR x y 0) (BR x y 1) (BR x y 2) (BR x y 3) (BR x y 4) (BR x y 5)
theorem cM {x y:Nat} (hx:x<RR) (hy:y<RR):Jz x y+RR*(BP x y 6).toNat=x+y∧Jz x y<RR:=by
 obtain ⟨h1,h2⟩:=Vw (PS x y 0) (PS x y 1) (PS x y 2) (PS x y 3) (PS x y 4) (PS x y 5)
 have h3:=AGx hx hy
 have h4:=Ej x y 6
 unfold Jz
 refine ⟨?_,h2⟩
 rw [← h1] at h3
 have h01:BP x y 6=0∨BP x y 6=1:=by omega
 unfold RR at *
 rcases h01 with e | e<;>rw [e] at h3 ⊢<;>simp only [Int.toNat_zero,Int.toNat_one]<;>omega
theorem s8 {x y:Nat} (hx:x<RR) (hy:y<RR):Vx x y=(x+(RR-y)) % RR:=by
 obtain ⟨h1,h2⟩:=Vw (EB x y 0) (EB x y 1) (EB x y 2) (EB x y 3) (EB x y 4) (EB x y 5)
 have h3:=AGy hx hy
 have h4:=Ek x y 6
 unfold Vx
 rw [← h1] at h3
 have h01:Bf x y 6=0∨Bf x y 6=1:=by omega
 unfold RR at *
 rcases h01 with e | e<;>rw [e] at h3<;>omega
theorem AGz {x y:Nat} (hx:x<RR) (hy:y<RR):(((x+(RR-y)) % RR:Nat):Int)=E8 (BR x y 0) (BR x y 1) (BR x y 2) (BR x y 3) (BR x y 4) (BR x y 5):=by
 rw [← s8 hx hy]
 exact (Vw (EB x y 0) (EB x y 1) (EB x y 2) (EB x y 3) (EB x y 4) (EB x y 5)).1
theorem F5 (x:Nat):x % pN<pN:=Nat.mod_lt _ CQ
theorem Nf:pN+pN<RR:=by decide
theorem cN {x:Nat} (h:x<pN+pN):G4 x 0=x % pN:=by
 rcases Nat.lt_or_ge x pN with h1 | h1
 ·rw [s6 h1,Nat.mod_eq_of_lt h1]
 ·have:=Nf
  rw [cL h1 (by omega),Nat.mod_eq_sub_mod h1,Nat.mod_eq_of_lt (by omega)]
theorem AG0 (x y:Nat):AR Tryz.prog (AH S3 K0) Tryz.f85 [.val true [.num 6 x],.val true [.num 6 y]] [] 300 =
 some ([(Bo 0,true),(Bo (BP (x % pN) (y % pN) 1),true),(Bo (BP (x % pN) (y % pN) 2),true),(Bo (BP (x % pN) (y % pN) 3),true),(Bo (BP (x % pN) (y % pN) 4),true),(Bo (BP (x % pN) (y % pN) 5),true)],
  .val true [.num 6 (G4 (Jz (x % pN) (y % pN)) (BP (x % pN) (y % pN) 6).toNat)]):=by kernel_rfl
theorem AG1 (x:Nat):AR Tryz.prog (AH S3 K0) Tryz.f87 [.val true [.num 6 x]] [] 300 =
 some ([(Bo 0,true),(Bo (Bf pN (x % pN) 1),true),(Bo (Bf pN (x % pN) 2),true),(Bo (Bf pN (x % pN) 3),true),(Bo (Bf pN (x % pN) 4),true),(Bo (Bf pN (x % pN) 5),true)],
  .val true [.num 6 (G4 (Vx pN (x % pN)) 0)]):=by kernel_rfl
theorem AG2 (x y:Nat):AR Tryz.prog (AH S3 K0) Tryz.f214 [.val true [.num 6 x],.val true [.num 6 y]] [] 300 =
 some ([(Bo 0,true),(Bo (Bf x y 1),true),(Bo (Bf x y 2),true),(Bo (Bf x y 3),true),(Bo (Bf x y 4),true),(Bo (Bf x y 5),true)],
  .val true (w6 (BR x y 0) (BR x y 1) (BR x y 2) (BR x y 3) (BR x y 4) (BR x y 5))):=by kernel_rfl
def DL (x y:Nat):Nat:=(x % pN+y % pN) % pN
def DM (x:Nat):Nat:=(pN-x % pN) % pN
def DW (x y:Nat):Nat:=DL x (DM y)
def E9 (g:Nat→AV):List AV→Option AV
 | [.val true a]=>match CP 6 a with
  | some x=>some (g x)
  | none=>none
 | _=>none
def H9 (g:Nat→Nat→AV):List AV→Option AV
 | [.val true a,.val true b]=>match CP 6 a,CP 6 b with
  | some x,some y=>some (g x y)
  | _,_=>none
 | _=>none
theorem F6 {f:FuncId} {g:Nat→AV} (h:∀ x,x<RR→AU Tryz.prog f [.val true [.num 6 x]] (g x)):∀ args v,E9 g args=some v→AU Tryz.prog f args v:=by
 intro args v hs us w ha
 unfold E9 at hs
 split at hs
 case h_2=>cases hs
 rename_i a
 split at hs
 case h_2=>cases hs
 rename_i x hx
 injection hs with hs;subst hs
 obtain ⟨u1,us1,r1,ha,rfl⟩:=ha
 simp only [A7] at ha
 subst ha
 obtain ⟨q0,q1,hlt⟩:=Jx hx r1
 exact h x (by rw [CZ];exact hlt) _ w ⟨u1,_,q0,rfl,rfl⟩
theorem J0 {f:FuncId} {g:Nat→Nat→AV} (h:∀ x y,x<RR→y<RR→AU Tryz.prog f [.val true [.num 6 x],.val true [.num 6 y]] (g x y)):∀ args v,H9 g args=some v→AU Tryz.prog f args v:=by
 intro args v hs us w ha
 unfold H9 at hs
 split at hs
 case h_2=>cases hs
 rename_i a b
 split at hs
 case h_2=>cases hs
 rename_i x y hx hy
 injection hs with hs;subst hs
 obtain ⟨u1,us1,r1,ha,rfl⟩:=ha
 obtain ⟨u2,us2,r2,ha,rfl⟩:=ha
 simp only [A7] at ha
 subst ha
 obtain ⟨q0,q1,hlt⟩:=Jx hx r1
 obtain ⟨p0,p1,hlt2⟩:=Jx hy r2
 exact h x y (by rw [CZ];exact hlt) (by rw [CZ];exact hlt2) _ w ⟨u1,_,q0,⟨u2,_,p0,rfl,rfl⟩,rfl⟩
theorem HS (x:Nat):x % pN<RR:=Nat.lt_trans (F5 x) (by decide)
theorem s9 (x y:Nat):AU Tryz.prog 85 [.val true [.num 6 x],.val true [.num 6 y]] (.val true [.num 6 (DL x y)]):=by
 have h:=AW (AK Vv Aa) AB Tryz.func85 (AG0 x y) ⟨rfl,Cw (Ej _ _ _),Cw (Ej _ _ _),Cw (Ej _ _ _),Cw (Ej _ _ _),Cw (Ej _ _ _),trivial⟩ rfl
 obtain ⟨h1,h2⟩:=cM (HS x) (HS y)
 have h3:=F5 x
 have h4:=F5 y
 have h5:=Nf
 have hc:(BP (x % pN) (y % pN) 6).toNat=0:=by
  have:=Ej (x % pN) (y % pN) 6
  have h01:(BP (x % pN) (y % pN) 6).toNat=0∨(BP (x % pN) (y % pN) 6).toNat=1:=by omega
  rcases h01 with e | e
  ·exact e
  ·rw [e] at h1;omega
 rw [hc] at h h1
 rw [cN (by omega)] at h
 have:Jz (x % pN) (y % pN)=x % pN+y % pN:=by omega
 rw [this] at h
 exact h
theorem tA (x:Nat):AU Tryz.prog 87 [.val true [.num 6 x]] (.val true [.num 6 (DM x)]):=by
 have h:=AW (AK Vv Aa) AB Tryz.func87 (AG1 x) ⟨rfl,Cw (Ek _ _ _),Cw (Ek _ _ _),Cw (Ek _ _ _),Cw (Ek _ _ _),Cw (Ek _ _ _),trivial⟩ rfl
 have h3:=F5 x
 have h5:=Nf
 have:Vx pN (x % pN)=pN-x % pN:=by
  rw [s8 (by omega) (by omega),show pN+(RR-x % pN)=(pN-x % pN)+RR by omega,Nat.add_mod_right,Nat.mod_eq_of_lt (by omega)]
 rw [this,cN (by omega)] at h
 exact h
theorem AG3 (x y:Nat) (hx:x<RR) (hy:y<RR):AU Tryz.prog 214 [.val true [.num 6 x],.val true [.num 6 y]] (.val true [.num 6 ((x+(RR-y)) % RR)]):=by
 intro us w ha
 have h:=AW (AK Vv Aa) AB Tryz.func214 (AG2 x y) ⟨rfl,Cw (Ek _ _ _),Cw (Ek _ _ _),Cw (Ek _ _ _),Cw (Ek _ _ _),Cw (Ek _ _ _),trivial⟩ rfl us w ha
 refine Calls.mono h ?_
 rintro e w' ⟨u,rfl,hu,hbl⟩
 exact ⟨u,rfl,Vs (EB x y 0) (EB x y 1) (EB x y 2) (EB x y 3) (EB x y 4) (EB x y 5) (AGz hx hy) hu,hbl⟩
def AY (x:Nat):AV:=.val true [.num 6 x]
def S4:List (FuncId×ASpec):=(85,Aj (H9 fun x y=>AY (DL x y)))::(87,Aj (E9 fun x=>AY (DM x)))::(214,Aj (H9 fun x y=>AY ((x+(RR-y)) % RR)))::S3
theorem tB:AX Tryz.prog S4:=⟨Ak Tryz.func85 (by kernel_rfl) (by kernel_rfl) (J0 fun x y _ _=>s9 x y),Ak Tryz.func87 (by kernel_rfl) (by kernel_rfl) (F6 fun x _=>tA x),Ak Tryz.func214 (by kernel_rfl) (by kernel_rfl) (J0 AG3),Vv⟩
theorem AG4 (x y:Nat):AR Tryz.prog (AH S4 K0) Tryz.f133 [AY x,AY y] [] 300=some ([],AY (DW x y)):=by kernel_rfl
theorem tC (x y:Nat):AU Tryz.prog 133 [AY x,AY y] (AY (DW x y)):=AW (AK tB Aa) AB Tryz.func133 (AG4 x y) trivial rfl
def S5:List (FuncId×ASpec):=(133,Aj (H9 fun x y=>AY (DW x y)))::S4
theorem Vy:AX Tryz.prog S5:=⟨Ak Tryz.func133 (by kernel_rfl) (by kernel_rfl) (J0 fun x y _ _=>tC x y),tB⟩
def BG:List Int→Int
 | []=>0
 | d::r=>d+18446744073709551616*BG r
theorem Sz:∀ (k x:Nat),x<2^(64*k)→BG ((List.range k).map (AE x))=x
 | 0,x,h=>by simp only [Nat.mul_zero,Nat.pow_zero] at h;simp [BG];omega
 | k+1,x,h=>by
  have hq:x / 2^64<2^(64*k):=by
   apply Nat.div_lt_of_lt_mul
   rw [← Nat.pow_add]
   rwa [show 64+64*k=64*(k+1) by omega]
  have ih:=Sz k (x / 2^64) hq
  rw [List.range_succ_eq_map,List.map_cons,List.map_map]
  have e:(AE x ∘ Nat.succ)=AE (x / 2^64):=by funext i;simp [Function.comp,EA]
  rw [e]
  show AE x 0+18446744073709551616*BG _=_
  rw [ih,← Le]
theorem S_:∀ (ds:List Int) (y:Nat),(∀ d∈ds,0≤d∧d<18446744073709551616)→(y:Int)=BG ds→ds=(List.range ds.length).map (AE y)∧y<2^(64*ds.length)
 | [],y,_,h=>by simp only [BG] at h;simp;omega
 | d::ds,y,hb,h=>by
  have hd:=hb d (by simp)
  have hs:=Le y
  have hw:=BN y 0
  simp only [BG] at h
  have e1:d=AE y 0:=by omega
  have e2:((y / 2^64:Nat):Int)=BG ds:=by omega
  obtain ⟨i1,i2⟩:=S_ ds _ (fun d h=>hb d (by simp [h])) e2
  refine ⟨?_,?_⟩
  ·rw [List.length_cons,List.range_succ_eq_map,List.map_cons,List.map_map]
   have e:(AE y ∘ Nat.succ)=AE (y / 2^64):=by funext i;simp [Function.comp,EA]
   rw [e,← i1,← e1]
  ·rw [List.length_cons,show 64*(ds.length+1)=64+64*ds.length by omega,Nat.pow_add]
   have:=Nat.lt_mul_div_succ y (show 0<2^64 by decide)
   have h2:y / 2^64+1≤2^(64*ds.length):=i2
   exact Nat.lt_of_lt_of_le this (Nat.mul_le_mul_left _ h2)
def Iq (ds:List Int):List Ch:=ds.map fun d=>.v (.int .u64 d)
theorem tD {β:Env}:∀ {ds:List Int} {l:List Value},AN β (Iq ds) l→l=ds.map (.int .u64)∧∀ d∈ds,has .u64 d
 | [],l,h=>by simp [Iq,AN] at h;simp [h]
 | d::ds,l,⟨l1,l2,⟨h1,h1'⟩,h2,h3⟩=>by
  obtain ⟨i1,i2⟩:=tD h2
  subst h1;subst i1;subst h3
  refine ⟨rfl,fun x hx=>?_⟩
  rcases List.mem_cons.1 hx with rfl | hx
  ·exact h1'.2
  ·exact i2 x hx
theorem Vz {β β':Env} {ds:List Int} {l:List Value} {y:Nat} (h:(y:Int)=BG ds) (hr:AN β (Iq ds) l):AN β' [.num ds.length y] l:=by
 obtain ⟨h1,h2⟩:=tD hr
 obtain ⟨h3,h4⟩:=S_ ds y (fun d hd=>DQ (h2 d hd)) h
 have:l=words ds.length y:=by
  rw [h1,words]
  conv=>lhs;rw [h3]
  simp [List.map_map,Function.comp]
 rw [this]
 exact SM h4
theorem EO {β β':Env} {k x:Nat} {a:List Ch} {l:List Value} (h:CP k a=some x) (hr:AN β a l):AN β' [.num k x] l:=by
 obtain ⟨h2,h3⟩:=F1 h hr
 subst h2
 exact SM h3
theorem H_ {β:Env} {ρ:List Nat} {k0 j:Nat} (h:j<k0):A4 β ρ k0 j=β (nth ρ j):=by simp [A4,A8.2 h]
theorem BZ {β:Env} {b:Blk} {k:Nat} {w:World} (h:EI β b k w):∃ X,β k=some X:=by
 rcases h with ⟨B,n,_,_,_,_,_,h,_⟩ | ⟨h,_⟩<;>exact ⟨_,h⟩
theorem S' {β β':Env} {b d:Blk} {k j:Nat} {w:World} (h:EI β b k w) (he:β' j=β k) (hd:d.ty=CG∨(d.ty=b.ty∧d.opn=b.opn)) (hc:∀ l,AN β b.cs l→AN β' d.cs l):EI β' d j w:=by
 rcases h with ⟨B,n,l,t,pre,ty,fz,h1,h2,h3,h4,h5⟩ | ⟨h1,h2,h3⟩
 ·refine .inl ⟨B,n,l,t,pre,ty,fz,by rw [he];exact h1,hc _ h2,h3,h4,fun hr=>?_⟩
  obtain ⟨e1,e2⟩:=hd.resolve_left hr
  rw [e1] at hr ⊢
  rw [e2]
  exact h5 hr
 ·refine .inr ⟨by rw [he];exact h1,?_,hc _ h3⟩
  rcases hd with e | ⟨e1,e2⟩
  ·exact .inr e
  ·rw [e1,e2];exact h2
def Ng:Nat→List Blk→Heap
 | _,[]=>[]
 | j,b::r=>(j,some b)::Ng (j+1) r
theorem Ll:∀ {bs:List Blk} {j k:Nat} {b:Blk},AG (Ng j bs) k=some b→j≤k∧bs[k-j]? = some b
 | [],_,_,_,h=>by cases h
 | d::bs,j,k,b,h=>by
  simp only [Ng,AG] at h
  split at h
  ·rename_i e
   have:=An.1 e
   subst this
   injection h with h
   exact ⟨Nat.le_refl _,by simp [h]⟩
  ·rename_i e
   have:=Gw e
   obtain ⟨h1,h2⟩:=Ll h
   refine ⟨by omega,?_⟩
   rw [show k-j=(k-(j+1))+1 by omega,List.getElem?_cons_succ]
   exact h2
theorem TA {β:Env} {H:Heap} {w:World} {ρ:List Nat} {bs:List Blk} (g:Ex.Good β H w)
  (h:∀ j d,bs[j]? = some d→∃ b,AG H (nth ρ j)=some b∧(d.ty=CG∨(d.ty=b.ty∧d.opn=b.opn))∧∀ l,AN β b.cs l→AN (A4 β ρ bs.length) d.cs l)
  (hne:∀ i j d,bs[i]? = some d→d.ty≠CG→i≠j→j<bs.length→nth ρ i≠nth ρ j):Ex.Good (A4 β ρ bs.length) (Ng 0 bs) w:=by
 have hlt:∀ {j:Nat} {d:Blk},bs[j]? = some d→j<bs.length:=fun hj=>by
  rcases Nat.lt_or_ge _ bs.length with h | h
  ·exact h
  ·rw [List.getElem?_eq_none h] at hj;cases hj
 refine ⟨fun j blk hj=>?_,fun i j B n n' h1 h2 h3 h4=>?_,fun j B n hj=>?_⟩
 ·obtain ⟨_,hj⟩:=Ll hj
  rw [Nat.sub_zero] at hj
  obtain ⟨b,hb,hd,hc⟩:=h j blk hj
  exact S' (g.heap _ b hb) (H_ (hlt hj)) hd hc
 ·obtain ⟨d,hd,hr⟩:=F0 h1
  obtain ⟨e,he⟩:=Option.isSome_iff_exists.1 h2
  obtain ⟨_,hd⟩:=Ll hd
  obtain ⟨_,he⟩:=Ll he
  rw [Nat.sub_zero] at hd he
  by_cases hij:i=j
  ·exact hij
  ·exfalso
   obtain ⟨b,hb,hdd,_⟩:=h i d hd
   obtain ⟨b',hb',_⟩:=h j e he
   rw [H_ (hlt hd)] at h3
   rw [H_ (hlt he)] at h4
   have hbr:b.ty≠CG:=by
    obtain ⟨e1,_⟩:=hdd.resolve_left hr
    rw [← e1];exact hr
   exact hne i j d hd hr hij (hlt he) (g.inj _ _ B n n' (Ef hb hbr) (by rw [hb'];rfl) h3 h4)
 ·unfold A4 at hj
  split at hj
  ·exact g.lt _ _ _ hj
  ·cases hj
def Ai (c:List Ch):Blk:=⟨CG,c,false⟩
theorem TB {β:Env} {H:Heap} {w:World} {k:Nat} {b:Blk} {c:List Ch} (g:Ex.Good β H w) (hk:AG H k=some b) (hc:∀ l,AN β b.cs l→AN (A4 β [k] 1) c l):Ex.Good (A4 β [k] 1) [(0,some (Ai c))] w:=by
 refine TA (ρ:=[k]) (bs:=[Ai c]) g (fun j d hj=>?_) fun i j d hi hr=>?_
 ·match j,hj with
  | 0,hj=>injection hj with hj;subst hj;exact ⟨b,hk,.inl rfl,hc⟩
 ·match i,hi with
  | 0,hi=>injection hi with hi;subst hi;exact absurd rfl hr
theorem tE {β:Env} {H:Heap} {w:World} {k t:Nat} {b d:Blk} {c e:List Ch} (g:Ex.Good β H w) (hk:AG H k=some b) (ht:AG H t=some d)
  (hc:∀ l,AN β b.cs l→AN (A4 β [k,t] 2) c l) (he:∀ l,AN β d.cs l→AN (A4 β [k,t] 2) e l):Ex.Good (A4 β [k,t] 2) [(0,some (Ai c)),(1,some (Ai e))] w:=by
 refine TA (ρ:=[k,t]) (bs:=[Ai c,Ai e]) g (fun j z hj=>?_) fun i j z hi hr=>?_
 ·match j,hj with
  | 0,hj=>injection hj with hj;subst hj;exact ⟨b,hk,.inl rfl,hc⟩
  | 1,hj=>injection hj with hj;subst hj;exact ⟨d,ht,.inl rfl,he⟩
 ·match i,hi with
  | 0,hi=>injection hi with hi;subst hi;exact absurd rfl hr
  | 1,hi=>injection hi with hi;subst hi;exact absurd rfl hr
theorem tG {β:Env} {H:Heap} {w:World} {k t:Nat} {b d:Blk} {c e:List Ch} (g:Ex.Good β H w) (hk:AG H k=some b) (ht:AG H t=some d) (hne:k≠t)
  (hc:∀ l,AN β b.cs l→AN (A4 β [k,t] 2) c l) (he:∀ l,AN β d.cs l→AN (A4 β [k,t] 2) e l):Ex.Good (A4 β [k,t] 2) [(0,some ⟨b.ty,c,b.opn⟩),(1,some ⟨d.ty,e,d.opn⟩)] w:=by
 refine TA (ρ:=[k,t]) (bs:=[⟨b.ty,c,b.opn⟩,⟨d.ty,e,d.opn⟩]) g (fun j z hj=>?_) fun i j z hi hr hij hj=>?_
 ·match j,hj with
  | 0,hj=>injection hj with hj;subst hj;exact ⟨b,hk,.inr ⟨rfl,rfl⟩,hc⟩
  | 1,hj=>injection hj with hj;subst hj;exact ⟨d,ht,.inr ⟨rfl,rfl⟩,he⟩
 ·match i,j,hi,hj,hij with
  | 0,1,_,_,_=>exact hne
  | 1,0,_,_,_=>exact hne.symm
  | 0,0,_,_,q=>exact absurd rfl q
  | 1,1,_,_,q=>exact absurd rfl q
theorem TC {β0:Env} {w0:World} {W:List Nat} {v:AV} {j:Nat} {ty:TypeId} {o:Bool} {c c':List Ch} (hc:∀ (β:Env) l,AN β c l→AN β c' l) {e:Ending} {w:World} (h:Ay β0 w0 W v [(j,some ⟨ty,c,o⟩)] e w):Ay β0 w0 W v [(j,some ⟨ty,c',o⟩)] e w:=by
 obtain ⟨u,β,h1,h2⟩:=h
 have hg:∀ b blk,AG [(j,some (⟨ty,c',o⟩:Blk))] b=some blk→b=j∧blk=⟨ty,c',o⟩∧AG [(j,some (⟨ty,c,o⟩:Blk))] b=some ⟨ty,c,o⟩:=by
  intro b blk hb
  simp only [AG] at hb ⊢
  split at hb
  ·rename_i hbj
   injection hb with hb
   exact ⟨(An.1 hbj).symm,hb.symm,rfl⟩
  ·cases hb
 refine ⟨u,β,h1,{ h2 with good:=⟨fun b blk hb=>?_,fun b b' B n n' q1 q2 q3 q4=>?_,h2.good.lt⟩ }⟩
 ·obtain ⟨e1,e2,e3⟩:=hg b blk hb
  subst e2
  exact S' (d:=⟨ty,c',o⟩) (h2.good.heap b _ e3) rfl (.inr ⟨rfl,rfl⟩) (hc β)
 ·obtain ⟨x,hx,_⟩:=F0 q1
  obtain ⟨y,hy⟩:=Option.isSome_iff_exists.1 q2
  rw [(hg b x hx).1,(hg b' y hy).1]
def B5 (x:Int) (y T:Nat):Nat→Int
 | 0=>0
 | i+1=>mW (mW (HQ x (AE y i)+B8 (Dv x (AE y i)) (B5 x y T i) 0)+B8 (AE T i) (Bd (Dv x (AE y i)) (B5 x y T i) 0) 0)
def BO (x:Int) (y T i:Nat):Int:=Bd (AE T i) (Bd (Dv x (AE y i)) (B5 x y T i) 0) 0
def Lm (x:Int) (y T:Nat):Int:=Bd (AE T 6) (B5 x y T 6) 0
def PU (x:Int) (y T:Nat):Int:=mW (AE T 7+B8 (AE T 6) (B5 x y T 6) 0)
theorem tH {a T c:Int} (ha:0≤a∧a≤340282366920938463426481119284349108225) (hT:0≤T∧T<18446744073709551616) (hc:0≤c∧c<18446744073709551616) :
  a+T+c=Bd T (Bd (a % 18446744073709551616) c 0) 0+18446744073709551616*mW (mW (a / 18446744073709551616+B8 (a % 18446744073709551616) c 0)+B8 T (Bd (a % 18446744073709551616) c 0) 0) ∧
  (0≤mW (mW (a / 18446744073709551616+B8 (a % 18446744073709551616) c 0)+B8 T (Bd (a % 18446744073709551616) c 0) 0)∧mW (mW (a / 18446744073709551616+B8 (a % 18446744073709551616) c 0)+B8 T (Bd (a % 18446744073709551616) c 0) 0)<18446744073709551616):=by
 simp only [EN]
 unfold Bd B8
 omega
theorem cO {x y:Int} (hx:0≤x∧x<18446744073709551616) (hy:0≤y∧y<18446744073709551616):0≤x*y∧x*y≤340282366920938463426481119284349108225:=by
 refine ⟨Int.mul_nonneg hx.1 hy.1,?_⟩
 have:=Int.mul_le_mul (show x≤18446744073709551615 by omega) (show y≤18446744073709551615 by omega) hy.1 (by decide)
 omega
theorem cS {x:Int} (hx:0≤x∧x<18446744073709551616) (y T:Nat):∀ i,0≤B5 x y T i∧B5 x y T i<18446744073709551616
 | 0=>by simp [B5]
 | i+1=>(tH (cO hx (BN y i)) (BN T i) (cS hx y T i)).2
theorem Nh {x:Int} (hx:0≤x∧x<18446744073709551616) (y T i:Nat):x*AE y i+AE T i+B5 x y T i=BO x y T i+18446744073709551616*B5 x y T (i+1) :=
 (tH (cO hx (BN y i)) (BN T i) (cS hx y T i)).1
def R8:Nat:=13407807929942597099574024998205846127479365820592393377723561443721764030073546976801874298166903427690031858186486050853753882811946569946433649006084096
theorem tI:R8=2^(64*8):=by kernel_rfl
def F7 (T:Nat) (x:Int) (y:Nat):Nat:=(T+x.toNat*y) % R8
def Ir (x:Int) (y T:Nat):List Int:=[BO x y T 0,BO x y T 1,BO x y T 2,BO x y T 3,BO x y T 4,BO x y T 5,Lm x y T,PU x y T]
def TD (x:Int) (y T:Nat):List Int:=[BO x y T 1,BO x y T 2,BO x y T 3,BO x y T 4,BO x y T 5,Lm x y T,PU x y T,0]
theorem AG5 {x:Int} (hx:0≤x∧x<18446744073709551616) {y T:Nat} (hy:y<RR) (hT:T<R8) :
  ((F7 T x y:Nat):Int)=BG (Ir x y T)∧((F7 T x y / 18446744073709551616:Nat):Int)=BG (TD x y T):=by
 have e0:x*AE y 0+AE T 0+B5 x y T 0=BO x y T 0+18446744073709551616*B5 x y T 1:=Nh hx y T 0
 have e1:x*AE y 1+AE T 1+B5 x y T 1=BO x y T 1+18446744073709551616*B5 x y T 2:=Nh hx y T 1
 have e2:x*AE y 2+AE T 2+B5 x y T 2=BO x y T 2+18446744073709551616*B5 x y T 3:=Nh hx y T 2
 have e3:x*AE y 3+AE T 3+B5 x y T 3=BO x y T 3+18446744073709551616*B5 x y T 4:=Nh hx y T 3
 have e4:x*AE y 4+AE T 4+B5 x y T 4=BO x y T 4+18446744073709551616*B5 x y T 5:=Nh hx y T 4
 have e5:x*AE y 5+AE T 5+B5 x y T 5=BO x y T 5+18446744073709551616*B5 x y T 6:=Nh hx y T 5
 have z:B5 x y T 0=0:=rfl
 have c6:=cS hx y T 6
 have t6:=BN T 6
 have t7:=BN T 7
 have e6:AE T 6+B5 x y T 6=Lm x y T+18446744073709551616*B8 (AE T 6) (B5 x y T 6) 0:=by unfold Lm Bd B8;omega
 have b0:0≤BO x y T 0∧BO x y T 0<18446744073709551616:=by unfold BO Bd;omega
 have b1:0≤BO x y T 1∧BO x y T 1<18446744073709551616:=by unfold BO Bd;omega
 have b2:0≤BO x y T 2∧BO x y T 2<18446744073709551616:=by unfold BO Bd;omega
 have b3:0≤BO x y T 3∧BO x y T 3<18446744073709551616:=by unfold BO Bd;omega
 have b4:0≤BO x y T 4∧BO x y T 4<18446744073709551616:=by unfold BO Bd;omega
 have b5:0≤BO x y T 5∧BO x y T 5<18446744073709551616:=by unfold BO Bd;omega
 have b6:0≤Lm x y T∧Lm x y T<18446744073709551616:=by unfold Lm Bd;omega
 have e7:PU x y T=(AE T 7+B8 (AE T 6) (B5 x y T 6) 0) % 18446744073709551616:=EN _
 have dT:=Sz 8 T (by rw [← tI];exact hT)
 have dy:=Sz 6 y (by rw [← CZ];exact hy)
 have dT':BG [AE T 0,AE T 1,AE T 2,AE T 3,AE T 4,AE T 5,AE T 6,AE T 7]=T:=dT
 have dy':BG [AE y 0,AE y 1,AE y 2,AE y 3,AE y 4,AE y 5]=y:=dy
 have em:x*(y:Int)=BG [x*AE y 0,x*AE y 1,x*AE y 2,x*AE y 3,x*AE y 4,x*AE y 5]:=by
  rw [← dy']
  simp only [BG,Int.mul_add,Int.mul_zero,Int.mul_left_comm x 18446744073709551616]
 have key:((T+x.toNat*y:Nat):Int)=BG (Ir x y T)+(R8:Nat)*((AE T 7+B8 (AE T 6) (B5 x y T 6) 0) / 18446744073709551616):=by
  have:((x.toNat*y:Nat):Int)=x*y:=by rw [Int.natCast_mul,Int.toNat_of_nonneg hx.1]
  rw [Int.natCast_add,this,em,← dT']
  clear em this dT dy dT' dy'
  generalize x*AE y 0=q0 at *
  generalize x*AE y 1=q1 at *
  generalize x*AE y 2=q2 at *
  generalize x*AE y 3=q3 at *
  generalize x*AE y 4=q4 at *
  generalize x*AE y 5=q5 at *
  generalize B8 (AE T 6) (B5 x y T 6) 0=o at *
  unfold Ir R8
  simp only [BG]
  omega
 have hbd:0≤BG (Ir x y T)∧BG (Ir x y T)<(R8:Nat):=by
  have b7:0≤PU x y T∧PU x y T<18446744073709551616:=by omega
  clear key em dT dy dT' dy' e0 e1 e2 e3 e4 e5 e6 e7
  unfold Ir R8
  simp only [BG]
  omega
 have h0:((F7 T x y:Nat):Int)=BG (Ir x y T):=by
  unfold F7
  rw [Int.natCast_emod,key,Int.add_mul_emod_self_left,Int.emod_eq_of_lt hbd.1 hbd.2]
 refine ⟨h0,?_⟩
 rw [Int.natCast_ediv,h0]
 have:BG (Ir x y T)=BO x y T 0+18446744073709551616*BG (TD x y T):=by
  unfold Ir TD
  simp only [BG]
  omega
 omega
def Lo (y T:Nat):Heap:=[(0,some ⟨30,[.num 6 y],false⟩),(1,some ⟨206,[.num 8 T],false⟩)]
def Lp (x s:Int):List AV:=[.val false [.v (.int .u64 x)],.val false [.p 0 0],.val false [.n .i64 s],.val false [.p 1 0]]
def G5:Nat→List (Bool×Bool)
 | 0=>[]
 | n+1=>(true,true)::G5 n
theorem J1:∀ n,AQ (G5 n)
 | 0=>trivial
 | n+1=>⟨rfl,J1 n⟩
theorem AG6 (x:Int) (y T:Nat):AM Tryz.prog (AH S5 K0) Tryz.f217 600 2 [1] (Af Tryz.f217 (Lp x 0) (Lo y T) 2 []) =
 some (G5 15,[1],.tup [],[(1,some ⟨206,Iq (Ir x y T),false⟩)]):=by kernel_rfl
def nv:Ch→Ch
 | .n k i=>.v (.int k i)
 | c=>c
theorem AG7 {β:Env} {c:Ch} {l:List Value} (h:BI β c l):BI β (nv c) l:=by
 cases c<;>try exact h
 exact ⟨h.1,rfl,h.2⟩
theorem TE {β:Env}:∀ {cs:List Ch} {l:List Value},AN β cs l→AN β (cs.map nv) l
 | [],_,h=>h
 | _::_,_,⟨l1,l2,h1,h2,h3⟩=>⟨l1,l2,AG7 h1,TE h2,h3⟩
def tJ (x:Int) (y T:Nat):List Ch:=[.v (.int .u64 (BO x y T 1)),.v (.int .u64 (BO x y T 2)),.v (.int .u64 (BO x y T 3)),.v (.int .u64 (BO x y T 4)),.v (.int .u64 (BO x y T 5)),.v (.int .u64 (Lm x y T)),.v (.int .u64 (PU x y T)),.n .u64 0]
theorem AG8 (x:Int) (y T:Nat):AM Tryz.prog (AH S5 K0) Tryz.f217 600 2 [1] (Af Tryz.f217 (Lp x 1) (Lo y T) 2 []) =
 some (G5 15,[1],.tup [],[(1,some ⟨206,tJ x y T,false⟩)]):=by kernel_rfl
theorem AG9 (x:Int) (y T:Nat):Iq (TD x y T)=(tJ x y T).map nv:=rfl
def TF (T:Nat):Heap:=[(1,some ⟨206,[.num 8 T],false⟩)]
theorem tK {x:Int} (hx:0≤x∧x<18446744073709551616) {y T:Nat} (hy:y<RR) (hT:T<R8) :
  Ad Tryz.prog 217 (Lp x 0) (Lo y T) 2 [1] (.tup []) (TF (F7 T x y))∧Ad Tryz.prog 217 (Lp x 1) (Lo y T) 2 [1] (.tup []) (TF (F7 T x y / 18446744073709551616)):=by
 obtain ⟨h0,h1⟩:=AG5 hx hy hT
 constructor
 ·intro β us w ha hg hf
  have:=Av Tryz.func217 (by kernel_rfl) (args0:=Lp x 0) (H0:=Lo y T) (k0:=2) (path:=[]) (W:=[1]) (by kernel_rfl) (fun β0 w0 hb=>As (AK Vy Aa) AB Tryz.func217 (AG6 x y T) (J1 _) (AL (by kernel_rfl)) hb (fun _ h=>h)) β us w ha hg hf
  exact Calls.mono this fun e w' h=>TC (fun _ _ hr=>Vz h0 hr) h
 ·intro β us w ha hg hf
  have:=Av Tryz.func217 (by kernel_rfl) (args0:=Lp x 1) (H0:=Lo y T) (k0:=2) (path:=[]) (W:=[1]) (by kernel_rfl) (fun β0 w0 hb=>As (AK Vy Aa) AB Tryz.func217 (AG8 x y T) (J1 _) (AL (by kernel_rfl)) hb (fun _ h=>h)) β us w ha hg hf
  exact Calls.mono this fun e w' h=>TC (fun _ _ hr=>Vz (ds:=TD x y T) h1 (by rw [AG9];exact TE hr)) h
def cT (k t fr:Nat) (T:Nat) (path:List Bool):R:=A5 [k,t] 2 fr 0 [1] (.tup []) (TF T) [] path
def stepSpec:ASpec:=fun args H fr path =>
 match args with
 | [X,.val false [.p k 0],.val false [.n .i64 s],.val false [.p t 0]]=>match BJ (some X),AG H k,AG H t with
  | some (_,.u64,x),some ⟨ty1,c1,false⟩,some ⟨ty2,c2,false⟩=>match Nat.beq ty1 30,Nat.beq ty2 206,CP 6 c1,CP 8 c2,Nat.beq k t with
   | true,true,some y,some T,false=>match s with
    | .ofNat 0=>some (cT k t fr (F7 T x y) path)
    | .ofNat 1=>some (cT k t fr (F7 T x y / 18446744073709551616) path)
    | _=>none
   | _,_,_,_,_=>none
  | _,_,_=>none
 | _=>none
theorem HT {β:Env} {H:Heap} {w:World} {k:Nat} {b:Blk} (g:Ex.Good β H w) (h:AG H k=some b):∃ l,AN β b.cs l:=by
 rcases g.heap k b h with ⟨_,_,l,_,_,_,_,_,h,_⟩ | ⟨_,_,h⟩
 ·exact ⟨l,h⟩
 ·exact ⟨_,h⟩
theorem AG_:A6 Tryz.prog 217 stepSpec:=by
 refine FN Tryz.func217 (by kernel_rfl) (by kernel_rfl) fun args H fr path r h=>?_
 unfold stepSpec at h
 split at h
 case h_2=>cases h
 rename_i X k s t
 split at h
 case h_2=>cases h
 rename_i c0 x ty1 c1 ty2 c2 hX hk ht
 split at h
 case h_2=>cases h
 rename_i y T q1 q2 hy hT hne
 have q1':=An.1 q1
 have q2':=An.1 q2
 subst q1';subst q2'
 have hne':k≠t:=fun e=>by subst e;rw [An.2 rfl] at hne;cases hne
 have core:∀ (v:Nat) (r:R),r=cT k t fr v path→(∀ (hx:0≤x∧x<18446744073709551616) (_:y<RR) (_:T<R8),Ad Tryz.prog 217 (Lp x s) (Lo y T) 2 [1] (.tup []) (TF v))→∃ (ρ:List Nat) (args0:List AV) (H0:Heap) (k0 nw:Nat) (W:List Nat) (val:AV) (H1:Heap) (conds:List (Bool×Bool)) (path':List Bool),
   r=A5 ρ k0 fr nw W val H1 conds path'∧(∀ β us w,A7 β [X,.val false [.p k 0],.val false [.n .i64 s],.val false [.p t 0]] us→Ex.Good β H w→AQ conds→Ad Tryz.prog 217 args0 H0 k0 W val H1∧Cu k0 nw W val H1=true∧A7 (A4 β ρ k0) args0 us∧Ex.Good (A4 β ρ k0) H0 w∧(∀ k,k<k0→∃ X,β (nth ρ k)=some X)):=by
  intro v r hr hc
  refine ⟨[k,t],Lp x s,Lo y T,2,0,[1],.tup [],TF v,[],path,hr,fun β us w ha hg _=>?_⟩
  obtain ⟨u1,us1,r1,⟨u2,us2,r2,⟨u3,us3,r3,⟨u4,us4,r4,ha,rfl⟩,rfl⟩,rfl⟩,rfl⟩:=ha
  obtain ⟨rfl,p1⟩:=CH (β:=β) (u:=u1) (fun A hA=>by injection hA with hA;subst hA;exact r1) hX
  obtain ⟨l1,g1⟩:=HT hg hk
  obtain ⟨l2,g2⟩:=HT hg ht
  refine ⟨hc (DQ p1) (by rw [CZ];exact (F1 hy g1).2) (by rw [tI];exact (F1 hT g2).2),by kernel_rfl,⟨_,_,Aw ⟨rfl,rfl,p1⟩,⟨u2,_,?_,⟨u3,_,?_,⟨u4,us4,?_,ha,rfl⟩,rfl⟩,rfl⟩,rfl⟩,tG hg hk ht hne' (fun l h=>EO hy h) (fun l h=>EO hT h),fun j hj=>?_⟩
  ·exact r2
  ·exact r3
  ·exact r4
  ·match j,hj with
   | 0,_=>exact BZ (hg.heap _ _ hk)
   | 1,_=>exact BZ (hg.heap _ _ ht)
 split at h
 ·injection h with h
  exact core _ _ h.symm fun a b c=>(tK a b c).1
 ·injection h with h
  exact core _ _ h.symm fun a b c=>(tK a b c).2
 ·cases h
def S6:List (FuncId×ASpec):=(217,stepSpec)::S5
theorem cU:AX Tryz.prog S6:=⟨AG_,Vy⟩
def mP:Int:=0x89f3fffcfffcfffd
def TG (T:Nat) (x:Int) (b:Nat):Nat:=F7 (F7 T x b) (mW (AE (F7 T x b) 0*mP)) pN / 18446744073709551616
def IA (a b:Nat):Nat→Nat
 | 0=>0
 | i+1=>TG (IA a b i) (AE a i) b
def cV (T:Nat):Nat:=G4 (Lk (AE T 0) (AE T 1) (AE T 2) (AE T 3) (AE T 4) (AE T 5)) (AE T 6).toNat
theorem AG' (x y:Nat):AR Tryz.prog (AH S6 K0) Tryz.f149 [AY x,AY y] [] 3000=some (G5 2,AY (cV (IA x y 6))):=by kernel_rfl
def RI:Nat:=3231460744492646417066832100176244795738767926513225105051837195607029917124509527734802654356338138714468589979680
theorem tM:RR*RI % pN=1:=by kernel_rfl
theorem cW (x i:Nat):(AE x i).toNat=x / 2^(64*i) % 2^64:=by unfold AE;omega
theorem AHA:0x89f3fffcfffcfffd*pN % 18446744073709551616=18446744073709551615:=by kernel_rfl
theorem AHB {s q:Nat} (h:q % 18446744073709551616=s % 18446744073709551616*18446744073709551615 % 18446744073709551616):(s+q) % 18446744073709551616=0:=by omega
theorem AHC (s:Nat):(s+(s % 18446744073709551616*0x89f3fffcfffcfffd % 18446744073709551616)*pN) % 18446744073709551616=0:=by
 apply AHB
 rw [Nat.mod_mul_mod,Nat.mul_assoc,Nat.mul_mod (s % 18446744073709551616) (0x89f3fffcfffcfffd*pN),AHA,Nat.mod_mod]
theorem Ni (n:Nat):mW (n:Int)=((n % 18446744073709551616:Nat):Int):=by rw [EN];omega
theorem AHD {T:Nat} {x:Int} {b:Nat} (hx:0≤x∧x<18446744073709551616) (hb:b<pN) (hT:T<b+pN):∃ m,TG T x b*18446744073709551616=T+x.toNat*b+m*pN∧TG T x b<b+pN:=by
 have hp:pN+pN<RR:=Nf
 have hx2:x.toNat≤18446744073709551615:=by omega
 have h1:x.toNat*b≤18446744073709551615*b:=Nat.mul_le_mul_right b hx2
 have s1:F7 T x b=T+x.toNat*b:=by
  unfold F7
  refine Nat.mod_eq_of_lt ?_
  unfold RR at hp;unfold R8
  omega
 have hm:(mW (AE (T+x.toNat*b) 0*mP)).toNat=(T+x.toNat*b) % 18446744073709551616*0x89f3fffcfffcfffd % 18446744073709551616:=by
  have e1:AE (T+x.toNat*b) 0=(((T+x.toNat*b) % 18446744073709551616:Nat):Int):=by
   simp only [AE,Nat.mul_zero,Nat.pow_zero,Nat.div_one]
  have e2:mP=((0x89f3fffcfffcfffd:Nat):Int):=rfl
  rw [e1,e2,← Int.natCast_mul,Ni,Int.toNat_natCast]
 have hz:=AHC (T+x.toNat*b)
 unfold TG
 rw [s1]
 have h2:F7 (T+x.toNat*b) (mW (AE (T+x.toNat*b) 0*mP)) pN=T+x.toNat*b+(T+x.toNat*b) % 18446744073709551616*0x89f3fffcfffcfffd % 18446744073709551616*pN:=by
  unfold F7
  rw [hm]
  refine Nat.mod_eq_of_lt ?_
  have h3:(T+x.toNat*b) % 18446744073709551616*0x89f3fffcfffcfffd % 18446744073709551616≤18446744073709551615:=by omega
  have h4:=Nat.mul_le_mul_right pN h3
  unfold RR at hp;unfold R8
  omega
 rw [h2]
 refine ⟨(T+x.toNat*b) % 18446744073709551616*0x89f3fffcfffcfffd % 18446744073709551616,?_,?_⟩
 ·omega
 ·have h3:(T+x.toNat*b) % 18446744073709551616*0x89f3fffcfffcfffd % 18446744073709551616≤18446744073709551615:=by omega
  have h4:=Nat.mul_le_mul_right pN h3
  generalize (T+x.toNat*b) % 18446744073709551616*0x89f3fffcfffcfffd % 18446744073709551616*pN=q at *
  generalize x.toNat*b=r at *
  omega
theorem tN {a b:Nat} (hb:b<pN):∀ i,∃ k,IA a b i*2^(64*i)=a % 2^(64*i)*b+k*pN∧IA a b i<b+pN
 | 0=>⟨0,by simp [IA,Nat.mod_one],by have:=CQ;simp only [IA];omega⟩
 | i+1=>by
  obtain ⟨k,h1,h2⟩:=tN (a:=a) hb i
  obtain ⟨m,h3,h4⟩:=AHD (DQ (U4 a i)) hb h2
  refine ⟨k+m*2^(64*i),?_,h4⟩
  rw [cW] at h3
  have e:2^(64*(i+1))=18446744073709551616*2^(64*i):=by rw [show 64*(i+1)=64+64*i by omega,Nat.pow_add]
  have e2:a % 2^(64*(i+1))=a % 2^(64*i)+2^(64*i)*(a / 2^(64*i) % 2^64):=by
   rw [show 64*(i+1)=64*i+64 by omega,Nat.pow_add,Nat.mod_mul]
  rw [e2,e]
  show TG (IA a b i) (AE a i) b*_=_
  rw [← Nat.mul_assoc,h3,Nat.add_mul,Nat.add_mul,h1,Nat.add_mul,Nat.add_mul]
  rw [Nat.mul_right_comm (a / 2^(64*i) % 2^64) b,Nat.mul_comm (a / 2^(64*i) % 2^64) (2^(64*i)),Nat.mul_right_comm m pN]
  omega
def DS (x y:Nat):Nat:=cV (IA x y 6)
theorem tO {x:Nat} (h:x<RR):Lk (AE x 0) (AE x 1) (AE x 2) (AE x 3) (AE x 4) (AE x 5)=x:=by
 have h1:=NY (x:=x) (by rw [← CZ];exact h)
 have h2:=(Vw (BN x 0) (BN x 1) (BN x 2) (BN x 3) (BN x 4) (BN x 5)).1
 omega
theorem PV {x y:Nat} (hx:x<RR) (hy:y<pN):DS x y=x*y*RI % pN:=by
 obtain ⟨k,h1,h2⟩:=tN (a:=x) hy 6
 have hp:=Nf
 have hlt:IA x y 6<RR:=by omega
 unfold DS cV
 rw [tO hlt,cW,← CZ] at *
 have e6:IA x y 6 / RR=0:=Nat.div_eq_of_lt hlt
 rw [e6,Nat.zero_mod,cN (by omega)]
 try rw [Nat.mod_eq_of_lt hx] at h1
 have h3:IA x y 6*RR*RI % pN=x*y*RI % pN:=by
  rw [h1,Nat.add_mul,Nat.mul_right_comm k pN,Nat.add_mul_mod_self_right]
 rw [← h3,Nat.mul_assoc,Nat.mul_mod,tM,Nat.mul_one,Nat.mod_mod]
theorem AHE (x y:Nat):AU Tryz.prog 149 [AY x,AY y] (AY (DS x y)):=AW (AK cU Aa) AB Tryz.func149 (AG' x y) (J1 _) rfl
def G6:Nat:=2708263910654730174793787626328176511836455197166317677006154293982164122222515399004018013397331347120527951271750
theorem AHF:AR Tryz.prog (AH S6 K0) Tryz.f150 [] [] 100=some ([],.val true [.n .u64 0xf4df1f341c341746,.n .u64 0xa76e6a609d104f1,.n .u64 0x8de5476c4c95b6d5,.n .u64 0x67eb88a9939d83c0,.n .u64 0x9a793e85b519952d,.n .u64 0x11988fe592cae3aa]):=by kernel_rfl
theorem Nj {f:FuncId} {v v':AV} (h:AU Tryz.prog f [] v) (hv:∀ u,AP Bc v u→AP Bc v' u):∀ args w,(match args with | []=>some v' | _=>none)=some w→AU Tryz.prog f args w:=by
 intro args w hs
 split at hs
 ·injection hs with hs;subst hs
  intro us w ha
  refine Calls.mono (h us w ha) ?_
  rintro e w' ⟨u,h1,h2,h3⟩
  exact ⟨u,h1,hv u h2,h3⟩
 ·cases hs
theorem AHG:AU Tryz.prog 150 [] (.val true [.n .u64 0xf4df1f341c341746,.n .u64 0xa76e6a609d104f1,.n .u64 0x8de5476c4c95b6d5,.n .u64 0x67eb88a9939d83c0,.n .u64 0x9a793e85b519952d,.n .u64 0x11988fe592cae3aa]):=AW (AK cU Aa) AB Tryz.func150 AHF trivial rfl
theorem TH {β:Env} {a:List Ch} {x:Nat} (h:CP 6 a=some x) {u:Value} (hr:AP β (.val true a) u):AP β (AY x) u:=(Jx h hr).1
def S7:List (FuncId×ASpec):=(150,Aj fun args=>match args with | []=>some (AY G6) | _=>none)::(149,Aj (H9 fun x y=>AY (DS x y)))::S6
theorem tP:AX Tryz.prog S7:=⟨Ak Tryz.func150 (by kernel_rfl) (by kernel_rfl) (Nj AHG fun u h=>TH (by kernel_rfl) h),Ak Tryz.func149 (by kernel_rfl) (by kernel_rfl) (J0 fun x y _ _=>AHE x y),cU⟩
theorem AHH (x y:Nat):AR Tryz.prog (AH S7 K0) Tryz.f86 [AY x,AY y] [] 300=some ([],AY (DS (DS (x % pN) (y % pN)) G6)):=by kernel_rfl
def Ag (x y:Nat):Nat:=x*y % pN
theorem AHI:G6*RI % pN*RI % pN=1:=by kernel_rfl
theorem tQ:G6<pN:=by decide
theorem AHJ {x y:Nat} (hx:x<RR) (hy:y<pN):DS x y<pN:=by rw [PV hx hy];exact Nat.mod_lt _ CQ
theorem AHK (x y:Nat):DS (DS (x % pN) (y % pN)) G6=Ag x y:=by
 have h1:=HS x
 have h2:=F5 y
 have h3:=AHJ h1 h2
 rw [PV (Nat.lt_trans h3 (by decide)) tQ,PV h1 h2]
 unfold Ag
 have:=AHI
 rw [Nat.mod_mul_mod] at this
 rw [Nat.mul_assoc,Nat.mod_mul_mod,show x % pN*(y % pN)*RI*(G6*RI)=(x % pN*(y % pN))*(G6*RI*RI) by simp only [Nat.mul_comm,Nat.mul_left_comm],Nat.mul_mod,this,Nat.mul_one,Nat.mod_mod,← Nat.mul_mod]
theorem tS (x y:Nat):AU Tryz.prog 86 [AY x,AY y] (AY (Ag x y)):=by
 rw [← AHK]
 exact AW (AK tP Aa) AB Tryz.func86 (AHH x y) trivial rfl
def S8:List (FuncId×ASpec):=(86,Aj (H9 fun x y=>AY (Ag x y)))::S7
theorem TI:AX Tryz.prog S8:=⟨Ak Tryz.func86 (by kernel_rfl) (by kernel_rfl) (J0 fun x y _ _=>tS x y),tP⟩
def wI (z:Int):Int:=IntKind.i64.wrap z
theorem Am {z:Int} (h:-9223372036854775808≤z∧z≤9223372036854775807):wI z=z:=by unfold wI;rw [IntKind.wrap_i64];omega
def IB (v s:Int):Int:=bits .and .u64 (Int.fdiv v (2^min s.toNat 64)) 1
theorem TJ (v s:Nat) (hv:v<18446744073709551616) (hs:s<64):IB v s=((v / 2^s % 2:Nat):Int):=by
 unfold IB
 rw [Int.toNat_natCast,Nat.min_eq_left (by omega),Int.fdiv_eq_ediv_of_nonneg _ (by exact_mod_cast Nat.zero_le (2^s))]
 have e:((v:Int) / 2^s)=((v / 2^s:Nat):Int):=by
  rw [Int.natCast_ediv,Int.natCast_pow];rfl
 rw [e]
 have hlt:v / 2^s<18446744073709551616:=Nat.lt_of_le_of_lt (Nat.div_le_self _ _) hv
 have h:=(bits_nat .u64 64 (by decide) (fun n h0 h1=>by rw [IntKind.wrap_u64];omega) (v / 2^s) 1 (by omega) (by decide)).1
 refine Eq.trans h ?_
 rw [Nat.and_one_is_mod]
def AF:List Int→Nat
 | []=>0
 | d::r=>d.toNat+18446744073709551616*AF r
theorem TK:∀ (ws:List Int) (j:Nat),(∀ d∈ws,0≤d∧d<18446744073709551616)→AF ws / 2^(64*j) % 2^64=(ws.getD j 0).toNat
 | [],j,_=>by simp [AF]
 | d::r,0,h=>by
  have:=h d (by simp)
  simp only [AF,Nat.mul_zero,Nat.pow_zero,Nat.div_one,List.getD_cons_zero]
  omega
 | d::r,j+1,h=>by
  have hd:=h d (by simp)
  have ih:=TK r j fun d h'=>h d (by simp [h'])
  rw [show 64*(j+1)=64+64*j by omega,Nat.pow_add,← Nat.div_div_eq_div_mul]
  have:AF (d::r) / 2^64=AF r:=by simp only [AF];omega
  rw [this,ih];rfl
theorem G7:∀ (ws:List Int),(∀ d∈ws,0≤d∧d<18446744073709551616)→AF ws<2^(64*ws.length)
 | [],_=>by simp [AF]
 | d::r,h=>by
  have hd:=h d (by simp)
  have ih:=G7 r fun d h'=>h d (by simp [h'])
  rw [List.length_cons,show 64*(r.length+1)=64+64*r.length by omega,Nat.pow_add]
  simp only [AF]
  generalize 2^(64*r.length)=Q at *
  omega
theorem TL (ws:List Int) (i:Nat) (h:∀ d∈ws,0≤d∧d<18446744073709551616):(ws.getD (i / 64) 0).toNat / 2^(i % 64) % 2=AF ws / 2^i % 2:=by
 rw [← TK ws (i / 64) h]
 have e:2^64=2^(i % 64)*2^(64-i % 64):=by rw [← Nat.pow_add];congr 1;omega
 rw [e,Nat.mod_mul_right_div_self,Nat.div_div_eq_div_mul,← Nat.pow_add,show 64*(i / 64)+i % 64=i by omega]
 refine Nat.mod_mod_of_dvd _ ?_
 have:64-i % 64=(63-i % 64)+1:=by omega
 rw [this,Nat.pow_succ]
 exact Nat.dvd_mul_left _ _
def FQ (y:Nat):Nat:=y*RR % pN
theorem cX (y:Nat):FQ y<pN:=Nat.mod_lt _ CQ
theorem tU:∀ y,y*(RR*RI) % pN=y % pN:=fun y=>by rw [Nat.mul_mod,tM,Nat.mul_one,Nat.mod_mod]
theorem cY (a b:Nat):DS (FQ a) (FQ b)=FQ (a*b):=by
 rw [PV (Nat.lt_trans (cX a) (by decide)) (cX b)]
 unfold FQ
 rw [Nat.mul_assoc,Nat.mod_mul_mod,Nat.mul_left_comm,Nat.mod_mul_mod,← Nat.mul_assoc,show b*RR*(a*RR)*RI=a*b*RR*(RR*RI) by simp only [Nat.mul_comm,Nat.mul_left_comm],tU]
theorem AHL:G6*RI % pN=RR % pN:=by kernel_rfl
theorem tW {x:Nat} (hx:x<RR):DS x G6=FQ x:=by
 rw [PV hx tQ,Nat.mul_assoc,Nat.mul_mod,AHL,← Nat.mul_mod];rfl
theorem AHM (y:Nat):DS (FQ y) 1=y % pN:=by
 rw [PV (Nat.lt_trans (cX y) (by decide)) (by decide),Nat.mul_one]
 unfold FQ
 rw [Nat.mod_mul_mod,Nat.mul_assoc,tU]
theorem AHN (y:Nat):FQ (y % pN)=FQ y:=by unfold FQ;rw [Nat.mod_mul_mod]
noncomputable def AHO:List Item:=Be (AS Tryz.prog (AH S8 K0) (some 0) 100 1 (some ([1,4,5,6,7],[0,2,3,4],5)) (Af Tryz.f144 [AY 0,.val false [.sl 0 0 0 0]] [(0,some ⟨0,[.seq .u64 []],false⟩)] 1 []))
noncomputable def AHP (off n m:Nat) (i:Int):List AV:=.any::.val false [.sl 0 off n m]::.any::.any::.val false [.p 2 0]::.val false [.p 3 0]::.val false [.p 4 0]::.val false [.v (.int .i64 i)]::List.replicate (Tryz.f144.ntmps-8) .any
noncomputable def J3 (off n m:Nat) (xs:List Int) (b acc:Nat) (i:Int) (path:List Bool):ASt:=⟨AHO,⟨AHP off n m i,
 [(0,some (Ai [.seq .u64 xs])),(2,some ⟨30,GQ,false⟩),(3,some ⟨30,[.num 6 b],false⟩),(4,some ⟨30,[.num 6 acc],false⟩)],5,path⟩⟩
def J4 (x off n m:Nat):List AV:=[AY x,.val false [.sl 0 off n m]]
def Az (xs:List Int):Heap:=[(0,some (Ai [.seq .u64 xs]))]
theorem AHQ (x off n m:Nat) (xs:List Int):AS Tryz.prog (AH S8 K0) (some 0) 100 1 (some ([1,4,5,6,7],[0,2,3,4],5)) (Af Tryz.f144 (J4 x off n m) (Az xs) 1 []) =
 some ([(AJ .i64 n,true)],[],J3 off n m xs (DS (x % pN) G6) (DS 1 G6) (wI (wI (64*(n:Int))-1)) []):=by kernel_rfl
def B6 (xs:List Int) (off:Nat) (i:Int):Int:=xs.getD (off+(wI (Int.tdiv i 64)).toNat*1) 0
def cZ (off n:Nat) (xs:List Int) (i:Int) (Bs:Bool):List (Bool×Bool):=[(decide (0≤i),true),(true,true),(decide (0≤wI (Int.tdiv i 64)∧wI (Int.tdiv i 64)<n),true),
 (decide (off+(wI (Int.tdiv i 64)).toNat*1<xs.length),true),(decide (0≤i∧(0:Int)<64),true),(decide (0≤Int.tmod i 64∧0≤B6 xs off i),true),(decide (IB (B6 xs off i) (Int.tmod i 64)=1),Bs)]
theorem pow_one (off n m b acc:Nat) (xs:List Int) (i:Int):AS Tryz.prog (AH S8 K0) (some 0) 100 1 (some ([1,4,5,6,7],[0,2,3,4],5)) (J3 off n m xs b acc i [true,true]) =
 some (cZ off n xs i true,[],J3 off n m xs b (DS (DS acc acc) b) (wI (i-1)) []):=by kernel_rfl
theorem pow_zero (off n m b acc:Nat) (xs:List Int) (i:Int):AS Tryz.prog (AH S8 K0) (some 0) 100 1 (some ([1,4,5,6,7],[0,2,3,4],5)) (J3 off n m xs b acc i [true,false]) =
 some (cZ off n xs i false,[],J3 off n m xs b (DS acc acc) (wI (i-1)) []):=by kernel_rfl
theorem AHR (off n m b acc:Nat) (xs:List Int) (i:Int):AM Tryz.prog (AH S8 K0) Tryz.f144 100 1 [] (J3 off n m xs b acc i [false]) =
 some ([(decide (0≤i),false)],[],AY (DS acc 1),[]):=by kernel_rfl
theorem c9 (off n m b acc:Nat) (xs:List Int) (i:Int) (p:List Bool):B4 Tryz.f144.ntmps (J3 off n m xs b acc i p).s:=AL (by kernel_rfl)
theorem tY (x E:Nat):∃ y,y=x^E % pN:=⟨_,rfl⟩
noncomputable def Dx (x E:Nat):Nat:=Classical.choose (tY x E)
theorem IC (x E:Nat):Dx x E=x^E % pN:=Classical.choose_spec (tY x E)
def F8 (x E c:Nat):Nat:=FQ (x^(E / 2^c))
theorem G8 {xs:List Int} {off n:Nat} {j:Nat} (hj:j<n):((xs.drop off).take n).getD j 0=xs.getD (off+j) 0:=by
 rw [List.getD_eq_getElem?_getD,List.getD_eq_getElem?_getD,List.getElem?_take_of_lt hj,List.getElem?_drop]
section
variable {off n m:Nat} {xs:List Int} (hall:∀ d∈xs,0≤d∧d<18446744073709551616) (hlen:off+n≤xs.length) (hn:n≤1125899906842624) {x:Nat} {β0:Env} {w0:World} (hb:∀ b,1≤b→β0 b=none)
include hall hlen hn hb
theorem AHS:∀ c,c≤64*n→ASafe Tryz.prog 144 β0 w0 (Ay β0 w0 [] (AY (Dx x (AF ((xs.drop off).take n)))) []) Tryz.f144.ntmps [] (J3 off n m xs (FQ x) (F8 x (AF ((xs.drop off).take n)) c) ((c:Int)-1) []):=by
 intro c
 induction c with
 | zero =>
  intro _
  have h:ASafe Tryz.prog 144 β0 w0 (Ay β0 w0 [] (AY (DS (F8 x (AF ((xs.drop off).take n)) 0) 1)) []) Tryz.f144.ntmps [] (J3 off n m xs (FQ x) (F8 x (AF ((xs.drop off).take n)) 0) (((0:Nat):Int)-1) [false]) :=
   As (AK TI Aa) AB Tryz.func144 (AHR ..) ⟨rfl,trivial⟩ (c9 ..) hb (fun _ h=>by cases h)
  rw [show DS (F8 x (AF ((xs.drop off).take n)) 0) 1=Dx x (AF ((xs.drop off).take n)) from by unfold F8;rw [IC,Nat.pow_zero,Nat.div_one,AHM]] at h
  exact Ab [false] h
 | succ c ih =>
  intro hc
  have hi:((c+1:Nat):Int)-1=(c:Int):=by omega
  rw [hi]
  have hlt:∀ d∈(xs.drop off).take n,0≤d∧d<18446744073709551616:=fun d hd=>hall d (List.mem_of_mem_drop (List.mem_of_mem_take hd))
  have hq:Int.tdiv (c:Int) 64=((c / 64:Nat):Int):=by rw [Int.tdiv_eq_ediv_of_nonneg (by omega)];rfl
  have hr:Int.tmod (c:Int) 64=((c % 64:Nat):Int):=by rw [Int.tmod_eq_emod_of_nonneg (by omega)];rfl
  have hw:wI (Int.tdiv (c:Int) 64)=((c / 64:Nat):Int):=by rw [hq];exact Am (by omega)
  have hj:c / 64<n:=by omega
  have hv:B6 xs off c=((xs.drop off).take n).getD (c / 64) 0:=by
   unfold B6
   rw [hw,Int.toNat_natCast,Nat.mul_one,G8 hj]
  have hvb:0≤B6 xs off c∧B6 xs off c<18446744073709551616:=by
   rw [hv,List.getD_eq_getElem?_getD]
   cases h:((xs.drop off).take n)[c / 64]? with
   | none=>simp
   | some d=>exact hlt d (List.mem_of_getElem? h)
  have hbit:IB (B6 xs off c) (Int.tmod c 64)=((AF ((xs.drop off).take n) / 2^c % 2:Nat):Int):=by
   obtain ⟨V,hV⟩:=Int.eq_ofNat_of_zero_le hvb.1
   rw [hr,← TL _ c hlt,← hv,hV,Int.toNat_natCast]
   exact TJ V _ (by omega) (by omega)
  have hnext:wI ((c:Int)-1)=(c:Int)-1:=Am (by omega)
  have hconds:∀ Bs,decide (IB (B6 xs off c) (Int.tmod c 64)=1)=Bs→AQ (cZ off n xs c Bs):=by
   intro Bs hbt
   refine ⟨by simp,rfl,?_,?_,?_,?_,hbt,trivial⟩
   ·rw [hw];simp;omega
   ·rw [hw];simp;omega
   ·simp
   ·simp only [decide_eq_true_eq];rw [hr];exact ⟨by omega,hvb.1⟩
  have hdiv:AF ((xs.drop off).take n) / 2^c=2*(AF ((xs.drop off).take n) / 2^(c+1))+AF ((xs.drop off).take n) / 2^c % 2:=by
   rw [Nat.pow_succ,← Nat.div_div_eq_div_mul];omega
  have ihc:=ih (by omega)
  rcases Nat.mod_two_eq_zero_or_one (AF ((xs.drop off).take n) / 2^c) with h0 | h1
  ·refine Ab [true,false] (Ae (AK TI Aa) AB (pow_zero ..) (hconds false (by rw [hbit,h0];rfl)) (c9 ..) hb (fun _ h=>by cases h) fun _=>?_)
   rw [hnext]
   have:DS (F8 x (AF ((xs.drop off).take n)) (c+1)) (F8 x (AF ((xs.drop off).take n)) (c+1))=F8 x (AF ((xs.drop off).take n)) c:=by
    unfold F8
    rw [cY,← Nat.pow_add]
    congr 2;omega
   rw [this]
   exact ihc
  ·refine Ab [true,true] (Ae (AK TI Aa) AB (pow_one ..) (hconds true (by rw [hbit,h1];rfl)) (c9 ..) hb (fun _ h=>by cases h) fun _=>?_)
   rw [hnext]
   have:DS (DS (F8 x (AF ((xs.drop off).take n)) (c+1)) (F8 x (AF ((xs.drop off).take n)) (c+1))) (FQ x)=F8 x (AF ((xs.drop off).take n)) c:=by
    unfold F8
    rw [cY,← Nat.pow_add,cY,← Nat.pow_succ]
    congr 2;omega
   rw [this]
   exact ihc
end
theorem tZ {off n m:Nat} {xs:List Int} (hall:∀ d∈xs,0≤d∧d<18446744073709551616) (hlen:off+n≤xs.length) (hn:n≤1125899906842624) (x:Nat) :
  Ad Tryz.prog 144 (J4 x off n m) (Az xs) 1 [] (AY (Dx x (AF ((xs.drop off).take n)))) []:=by
 refine Av (path:=[]) Tryz.func144 (by kernel_rfl) (by kernel_rfl) fun β0 w0 hb=>?_
 refine Ae (AK TI Aa) AB (AHQ x off n m xs) ⟨?_,trivial⟩ (AL (by kernel_rfl)) hb (fun _ h=>by cases h) fun _=>?_
 ·simp only [AJ,Bool.and_eq_true,decide_eq_true_eq];omega
 ·have h:=AHS hall hlen hn (x:=x) (m:=m) (w0:=w0) hb (64*n) (Nat.le_refl _)
  have e1:DS (x % pN) G6=FQ x:=by rw [tW (HS x),AHN]
  have e2:DS 1 G6=F8 x (AF ((xs.drop off).take n)) (64*n):=by
   rw [tW (by decide)]
   unfold F8
   have hl:AF ((xs.drop off).take n)<2^(64*n):=by
    have:=G7 ((xs.drop off).take n) fun d hd=>hall d (List.mem_of_mem_drop (List.mem_of_mem_take hd))
    rwa [List.length_take,List.length_drop,Nat.min_eq_left (by omega)] at this
   rw [Nat.div_eq_of_lt hl,Nat.pow_zero]
  have e3:wI (wI (64*(n:Int))-1)=((64*n:Nat):Int)-1:=by
   rw [Am (z:=64*(n:Int)) (by omega),Am (by omega)];omega
  rw [e1,e2,e3]
  exact h
noncomputable def powSpec:ASpec:=fun args H fr path =>
 match args with
 | [.val true a,.val false [.sl k off n _]]=>match CP 6 a,AG H k with
  | some x,some ⟨_,cs,_⟩=>match Ao .u64 cs with
   | some xs=>some (A5 [k] 1 fr 0 [] (AY (Dx x (AF ((xs.drop off).take n)))) [] [(Nat.ble (off+n) xs.length,true),(Nat.ble n 1125899906842624,true)] path)
   | none=>none
  | _,_=>none
 | _=>none
theorem t0:A6 Tryz.prog 144 powSpec:=by
 refine FN Tryz.func144 (by kernel_rfl) (by kernel_rfl) fun args H fr path r h=>?_
 unfold powSpec at h
 split at h
 case h_2=>cases h
 rename_i a k off n m
 split at h
 case h_2=>cases h
 rename_i x ty cs o hx hk
 split at h
 case h_2=>cases h
 rename_i xs hxs
 injection h with h
 refine ⟨[k],J4 x off n m,Az xs,1,0,[],AY (Dx x (AF ((xs.drop off).take n))),[],_,path,h.symm,fun β us w ha hg hc=>?_⟩
 obtain ⟨u1,us1,r1,⟨u2,us2,r2,ha,rfl⟩,rfl⟩:=ha
 obtain ⟨l,g1⟩:=HT hg hk
 obtain ⟨_,g2⟩:=CY hxs g1
 refine ⟨tZ (fun d hd=>DQ (g2 d hd)) (Nat.le_of_ble_eq_true hc.1) (Nat.le_of_ble_eq_true hc.2.1) x,by kernel_rfl,⟨u1,_,?_,⟨u2,us2,?_,ha,rfl⟩,rfl⟩,TB (c:=[.seq .u64 xs]) hg hk (fun l h=>?_),fun j hj=>?_⟩
 ·obtain ⟨l,q,rfl⟩:=r1;exact ⟨l,EO hx q,rfl⟩
 ·exact r2
 ·obtain ⟨q1,q2⟩:=CY hxs h
  exact ⟨_,[],⟨q1,q2⟩,rfl,by simp⟩
 ·match j,hj with
  | 0,_=>exact BZ (hg.heap _ _ hk)
noncomputable def S9:List (FuncId×ASpec):=(144,powSpec)::S8
theorem AHT:AX Tryz.prog S9:=⟨t0,TI⟩
def AA (xs:List Int) (off n:Nat):List Int:=(xs.drop off).take n
theorem Cp {xs:List Int} {off n:Nat} {P:Int→Prop} (h:∀ d∈xs,P d):∀ d∈AA xs off n,P d:=fun d hd=>h d (List.mem_of_mem_drop (List.mem_of_mem_take hd))
def Al (xs:List Int) (off n:Nat) (i:Int):Int:=(AA xs off n).getD i.toNat 0
def Ls (off n m:Nat) (i:Int):List AV:=[.val false [.sl 0 off n m],.val false [.v (.int .i64 i)]]
theorem AHU (off n m:Nat) (i:Int) (xs:List Int):AM Tryz.prog (AH S0 K0) Tryz.f197 100 1 [] (Af Tryz.f197 (Ls off n m i) (Az xs) 1 [true]) =
 some ([(AJ .i64 n,true),(decide (i<n),true),(decide (0≤i∧i<n),true),(decide (off+i.toNat*1<xs.length),true)],[],.val false [.v (.int .u64 (xs.getD (off+i.toNat*1) 0))],[]):=by kernel_rfl
theorem AHV (off n m:Nat) (i:Int) (xs:List Int):AM Tryz.prog (AH S0 K0) Tryz.f197 100 1 [] (Af Tryz.f197 (Ls off n m i) (Az xs) 1 [false]) =
 some ([(AJ .i64 n,true),(decide (i<n),false)],[],.val false [.n .u64 0],[]):=by kernel_rfl
theorem BU {P:Program} {f:FuncId} {args0:List AV} {H0 H1:Heap} {k0:Nat} {W:List Nat} {v v':AV} (h:Ad P f args0 H0 k0 W v H1) (hv:∀ β u,AP β v u→AP β v' u):Ad P f args0 H0 k0 W v' H1 :=
 fun β us w a b c=>Calls.mono (h β us w a b c) fun _ _ ⟨u,β',q1,q2⟩=>⟨u,β',q1,{ q2 with val:=hv _ _ q2.val }⟩
theorem dB {β:Env} {k:IntKind} {i:Int} {u:Value} (h:AP β (.val false [.n k i]) u):AP β (.val false [.v (.int k i)]) u:=TE (cs:=[.n k i]) h
theorem AHW {off n m:Nat} {xs:List Int} (hlen:off+n≤xs.length) (hn:AJ .i64 n=true) {i:Int} (hi:0≤i) :
  Ad Tryz.prog 197 (Ls off n m i) (Az xs) 1 [] (.val false [.v (.int .u64 (Al xs off n i))]) []:=by
 by_cases h:i<n
 ·refine Av (path:=[true]) Tryz.func197 (by kernel_rfl) (by kernel_rfl) fun β0 w0 hb=>?_
  rw [show Al xs off n i=xs.getD (off+i.toNat*1) 0 from by rw [Nat.mul_one];exact G8 (by omega)]
  exact As (AK G2 Aa) AB Tryz.func197 (AHU off n m i xs) ⟨hn,by simp [h],by simp [hi,h],by simp;omega,trivial⟩ (AL (by kernel_rfl)) hb (fun _ h=>by cases h)
 ·have e:Al xs off n i=0:=by
   unfold Al AA
   rw [List.getD_eq_getElem?_getD,List.getElem?_eq_none (by rw [List.length_take];omega)];rfl
  rw [e]
  refine BU (v:=.val false [.n .u64 0]) (Av (path:=[false]) Tryz.func197 (by kernel_rfl) (by kernel_rfl) fun β0 w0 hb=>?_) fun _ _=>dB
  exact As (AK G2 Aa) AB Tryz.func197 (AHV off n m i xs) ⟨hn,by simp [h],trivial⟩ (AL (by kernel_rfl)) hb (fun _ h=>by cases h)
def atSpec:ASpec:=fun args H fr path =>
 match args with
 | [.val false [.sl k off n _],I]=>match BJ (some I),AG H k with
  | some (_,.i64,i),some ⟨_,cs,_⟩=>match Ao .u64 cs with
   | some xs=>some (A5 [k] 1 fr 0 [] (.val false [.v (.int .u64 (Al xs off n i))]) [] [(Nat.ble (off+n) xs.length,true),(AJ .i64 n,true),(decide (0≤i),true)] path)
   | none=>none
  | _,_=>none
 | _=>none
theorem HU {β:Env} {H:Heap} {w:World} {k:Nat} {ty:Nat} {cs:List Ch} {o:Bool} {xs:List Int} (hg:Ex.Good β H w) (hk:AG H k=some ⟨ty,cs,o⟩) (hxs:Ao .u64 cs=some xs) :
  (∀ d∈xs,0≤d∧d<18446744073709551616)∧Ex.Good (A4 β [k] 1) (Az xs) w∧(∀ j,j<1→∃ X,β (nth [k] j)=some X):=by
 obtain ⟨l,g1⟩:=HT hg hk
 obtain ⟨_,g2⟩:=CY hxs g1
 refine ⟨fun d hd=>DQ (g2 d hd),TB (c:=[.seq .u64 xs]) hg hk (fun l h=>?_),fun j hj=>?_⟩
 ·obtain ⟨q1,q2⟩:=CY hxs h
  exact ⟨_,[],⟨q1,q2⟩,rfl,by simp⟩
 ·match j,hj with
  | 0,_=>exact BZ (hg.heap _ _ hk)
theorem AHX:A6 Tryz.prog 197 atSpec:=by
 refine FN Tryz.func197 (by kernel_rfl) (by kernel_rfl) fun args H fr path r h=>?_
 unfold atSpec at h
 split at h
 case h_2=>cases h
 rename_i k off n m I
 split at h
 case h_2=>cases h
 rename_i c0 i ty cs o hI hk
 split at h
 case h_2=>cases h
 rename_i xs hxs
 injection h with h
 refine ⟨[k],Ls off n m i,Az xs,1,0,[],_,[],_,path,h.symm,fun β us w ha hg hc=>?_⟩
 obtain ⟨u1,us1,r1,⟨u2,us2,r2,ha,rfl⟩,rfl⟩:=ha
 obtain ⟨g1,g2,g3⟩:=HU hg hk hxs
 obtain ⟨rfl,p1⟩:=CH (β:=β) (u:=u2) (fun A hA=>by injection hA with hA;subst hA;exact r2) hI
 exact ⟨AHW (Nat.le_of_ble_eq_true hc.1) hc.2.1 (by simpa using hc.2.2.1),by kernel_rfl,⟨u1,_,r1,⟨_,us2,Aw ⟨rfl,rfl,p1⟩,ha,rfl⟩,rfl⟩,g2,g3⟩
noncomputable def S10:List (FuncId×ASpec):=(197,atSpec)::S9
theorem ID:AX Tryz.prog S10:=⟨AHX,AHT⟩
def Co (xs ys:List Int):Heap:=[(0,some (Ai [.seq .u64 xs])),(1,some (Ai [.seq .u64 ys]))]
def EC (off n m off' n' m':Nat):List AV:=[.val false [.sl 0 off n m],.val false [.sl 1 off' n' m']]
noncomputable def AHY:List Item:=Be (AS Tryz.prog (AH S10 K0) (some 0) 100 2 none (Af Tryz.f141 (EC 0 0 0 0 0 0) (Co [] []) 2 []))
noncomputable def AHZ (off n m off' n' m':Nat) (i:Int):List AV:=.val false [.sl 0 off n m]::.val false [.sl 1 off' n' m']::.any::.any::.val false [.n .i64 0]::.val false [.v (.int .i64 i)]::List.replicate (Tryz.f141.ntmps-6) .any
section
variable (off n m off' n' m':Nat) (xs ys:List Int)
noncomputable def Lt (i:Int) (p:List Bool):ASt:=⟨AHY,⟨AHZ off n m off' n' m' i,Co xs ys,2,p⟩⟩
def DC (a b:Int):Int:=if b > a then b else a
theorem AHa:AS Tryz.prog (AH S10 K0) (some 0) 100 2 (some ([0,1,4,5],[0,1],2)) (Af Tryz.f141 (EC off n m off' n' m') (Co xs ys) 2 []) =
 some ([(AJ .i64 n,true),(AJ .i64 n',true)],[],Lt off n m off' n' m' xs ys (wI (DC n n'-1)) []):=by kernel_rfl
def V0 (i:Int) (r:List (Bool×Bool)):List (Bool×Bool):=(decide (0≤i),true)::(Nat.ble (off+n) xs.length,true)::(AJ .i64 n,true)::(decide (0≤i),true)::(Nat.ble (off'+n') ys.length,true)::(AJ .i64 n',true)::(decide (0≤i),true)::r
theorem AHb (i:Int):AS Tryz.prog (AH S10 K0) (some 0) 100 2 (some ([0,1,4,5],[0,1],2)) (Lt off n m off' n' m' xs ys i [true,true]) =
 some (V0 off n off' n' xs ys i [(decide (Al xs off n i=Al ys off' n' i),true)],[],Lt off n m off' n' m' xs ys (wI (i-1)) []):=by kernel_rfl
theorem AHc (i:Int):AM Tryz.prog (AH S10 K0) Tryz.f141 100 2 [] (Lt off n m off' n' m' xs ys i [true,false,true]) =
 some (V0 off n off' n' xs ys i [(decide (Al xs off n i=Al ys off' n' i),false),(decide (Al xs off n i<Al ys off' n' i),true)],[],.val false [.n .i64 (-1)],[]):=by kernel_rfl
theorem AHd (i:Int):AM Tryz.prog (AH S10 K0) Tryz.f141 100 2 [] (Lt off n m off' n' m' xs ys i [true,false,false]) =
 some (V0 off n off' n' xs ys i [(decide (Al xs off n i=Al ys off' n' i),false),(decide (Al xs off n i<Al ys off' n' i),false)],[],.val false [.n .i64 1],[]):=by kernel_rfl
theorem AHe (i:Int):AM Tryz.prog (AH S10 K0) Tryz.f141 100 2 [] (Lt off n m off' n' m' xs ys i [false]) =
 some ([(decide (0≤i),false)],[],.val false [.n .i64 0],[]):=by kernel_rfl
theorem V1 (i:Int) (p:List Bool):B4 Tryz.f141.ntmps (Lt off n m off' n' m' xs ys i p).s:=AL (by kernel_rfl)
end
theorem Lx {P:Program} {f:FuncId} {β0:Env} {w0:World} {W W':List Nat} {v v':AV} {H:Heap} {n:Nat} {x:ASt} (h:ASafe P f β0 w0 (Ay β0 w0 W v H) n W' x) (hv:∀ β u,AP β v u→AP β v' u):ASafe P f β0 w0 (Ay β0 w0 W v' H) n W' x:=by
 intro β a w hi hf b cs q1 q2
 obtain ⟨e',w',fr,⟨u,β',q5,q6⟩,q4⟩:=h β a w hi hf b cs q1 q2
 exact ⟨e',w',fr,⟨u,β',q5,{ q6 with val:=hv _ _ q6.val }⟩,q4⟩
theorem PW {x y Q:Nat} (h:x / Q<y / Q):x<y:=Nat.lt_of_not_le fun hle=>absurd (Nat.div_le_div_right (c:=Q) hle) (by omega)
def C6 (x y:Nat):Int:=if x<y then -1 else if y<x then 1 else 0
theorem PX {ws:List Int} (h:∀ d∈ws,0≤d∧d<18446744073709551616) (c:Nat):AF ws / 2^(64*c)=(ws.getD c 0).toNat+18446744073709551616*(AF ws / 2^(64*(c+1))):=by
 rw [← TK ws c h,show 64*(c+1)=64*c+64 by omega,Nat.pow_add,← Nat.div_div_eq_div_mul]
 omega
theorem J5 {ws:List Int} (h:∀ d∈ws,0≤d∧d<18446744073709551616) (c:Nat):0≤ws.getD c 0∧ws.getD c 0<18446744073709551616:=by
 rw [List.getD_eq_getElem?_getD]
 cases h':ws[c]? with
 | none=>simp
 | some d=>exact h d (List.mem_of_getElem? h')
theorem Nk {β:Env} {k:IntKind} {i j:Int} {u:Value} (e:i=j) (h:AP β (.val false [.n k i]) u):AP β (.val false [.v (.int k j)]) u:=by subst e;exact dB h
section
variable {off n m off' n' m':Nat} {xs ys:List Int} (hx:∀ d∈xs,0≤d∧d<18446744073709551616) (hy:∀ d∈ys,0≤d∧d<18446744073709551616) (hl:off+n≤xs.length) (hl':off'+n'≤ys.length)
 (hn:AJ .i64 n=true) (hn':AJ .i64 n'=true) {β0:Env} {w0:World} (hb:∀ b,2≤b→β0 b=none)
include hx hy hl hl' hn hn' hb
theorem AHf:∀ c,c≤max n n'→AF (AA xs off n) / 2^(64*c)=AF (AA ys off' n') / 2^(64*c) →
  ASafe Tryz.prog 141 β0 w0 (Ay β0 w0 [] (.val false [.v (.int .i64 (C6 (AF (AA xs off n)) (AF (AA ys off' n'))))]) []) Tryz.f141.ntmps [] (Lt off n m off' n' m' xs ys ((c:Int)-1) []):=by
 intro c
 induction c with
 | zero =>
  intro _ heq
  rw [Nat.mul_zero,Nat.pow_zero,Nat.div_one,Nat.div_one] at heq
  have h:=As (w0:=w0) (W:=[]) (n:=Tryz.f141.ntmps) (AK ID Aa) AB Tryz.func141 (AHe off n m off' n' m' xs ys (((0:Nat):Int)-1)) ⟨rfl,trivial⟩ (V1 ..) hb (fun _ h=>by cases h)
  exact Ab [false] (Lx h fun _ _=>Nk (by unfold C6;rw [heq];simp))
 | succ c ih =>
  intro hc heq
  have hi:((c+1:Nat):Int)-1=(c:Int):=by omega
  rw [hi]
  have bn:n≤9223372036854775807:=by simp only [AJ,Bool.and_eq_true,decide_eq_true_eq] at hn;omega
  have bn':n'≤9223372036854775807:=by simp only [AJ,Bool.and_eq_true,decide_eq_true_eq] at hn';omega
  have sx:=PX (Cp (off:=off) (n:=n) hx) c
  have sy:=PX (Cp (off:=off') (n:=n') hy) c
  have bx:=J5 (Cp (off:=off) (n:=n) hx) c
  have byy:=J5 (Cp (off:=off') (n:=n') hy) c
  have ex:Al xs off n c=(AA xs off n).getD c 0:=by unfold Al;rw [Int.toNat_natCast]
  have ey:Al ys off' n' c=(AA ys off' n').getD c 0:=by unfold Al;rw [Int.toNat_natCast]
  have hC:∀ r,AQ r→AQ (V0 off n off' n' xs ys c r):=fun r hr=>⟨by simp,Nat.ble_eq_true_of_le hl,hn,by simp,Nat.ble_eq_true_of_le hl',hn',by simp,hr⟩
  by_cases he:Al xs off n c=Al ys off' n' c
  ·refine Ab [true,true] (Ae (AK ID Aa) AB (AHb ..) (hC _ ⟨by simp [he],trivial⟩) (V1 ..) hb (fun _ h=>by cases h) fun _=>?_)
   rw [Am (z:=(c:Int)-1) (by omega)]
   exact ih (by omega) (by rw [sx,sy,heq,← ex,← ey,he])
  ·by_cases hlt:Al xs off n c<Al ys off' n' c
   ·have h:=As (w0:=w0) (W:=[]) (n:=Tryz.f141.ntmps) (AK ID Aa) AB Tryz.func141 (AHc off n m off' n' m' xs ys c) (hC _ ⟨by simp [he],by simp [hlt],trivial⟩) (V1 ..) hb (fun _ h=>by cases h)
    refine Ab [true,false,true] (Lx h fun _ _=>Nk ?_)
    have:AF (AA xs off n)<AF (AA ys off' n'):=PW (Q:=2^(64*c)) (by rw [sx,sy,heq];omega)
    unfold C6;rw [if_pos this]
   ·have h:=As (w0:=w0) (W:=[]) (n:=Tryz.f141.ntmps) (AK ID Aa) AB Tryz.func141 (AHd off n m off' n' m' xs ys c) (hC _ ⟨by simp [he],by simp [hlt],trivial⟩) (V1 ..) hb (fun _ h=>by cases h)
    refine Ab [true,false,false] (Lx h fun _ _=>Nk ?_)
    have:AF (AA ys off' n')<AF (AA xs off n):=PW (Q:=2^(64*c)) (by rw [sx,sy,heq];omega)
    unfold C6;rw [if_neg (by omega),if_pos this]
end
theorem AHg {off n m off' n' m':Nat} {xs ys:List Int} (hx:∀ d∈xs,0≤d∧d<18446744073709551616) (hy:∀ d∈ys,0≤d∧d<18446744073709551616) (hl:off+n≤xs.length) (hl':off'+n'≤ys.length)
  (hn:AJ .i64 n=true) (hn':AJ .i64 n'=true):Ad Tryz.prog 141 (EC off n m off' n' m') (Co xs ys) 2 [] (.val false [.v (.int .i64 (C6 (AF (AA xs off n)) (AF (AA ys off' n'))))]) []:=by
 refine Av (path:=[]) Tryz.func141 (by kernel_rfl) (by kernel_rfl) fun β0 w0 hb=>?_
 refine Ae (AK ID Aa) AB (AHa off n m off' n' m' xs ys) ⟨hn,hn',trivial⟩ (AL (by kernel_rfl)) hb (fun _ h=>by cases h) fun _=>?_
 have bn:n≤9223372036854775807:=by simp only [AJ,Bool.and_eq_true,decide_eq_true_eq] at hn;omega
 have bn':n'≤9223372036854775807:=by simp only [AJ,Bool.and_eq_true,decide_eq_true_eq] at hn';omega
 have e:wI (DC n n'-1)=((max n n':Nat):Int)-1:=by
  have:DC n n'=((max n n':Nat):Int):=by unfold DC;split<;>omega
  rw [this,Am (by omega)]
 rw [e]
 refine AHf hx hy hl hl' hn hn' hb _ (Nat.le_refl _) ?_
 have big:∀ (zs:List Int) (of k:Nat),(∀ d∈zs,0≤d∧d<18446744073709551616)→k≤max n n'→AF (AA zs of k) / 2^(64*max n n')=0:=by
  intro zs of k hz hk
  refine Nat.div_eq_of_lt (Nat.lt_of_lt_of_le (G7 _ (Cp hz)) (Nat.pow_le_pow_right (by decide) ?_))
  have:(AA zs of k).length≤k:=by unfold AA;rw [List.length_take];omega
  omega
 rw [big xs off n hx (by omega),big ys off' n' hy (by omega)]
theorem V2 {β:Env} {H:Heap} {w:World} {k t:Nat} {ty ty':Nat} {cs ds:List Ch} {o o':Bool} {xs ys:List Int} (hg:Ex.Good β H w) (hk:AG H k=some ⟨ty,cs,o⟩) (ht:AG H t=some ⟨ty',ds,o'⟩) (hxs:Ao .u64 cs=some xs) (hys:Ao .u64 ds=some ys) :
  (∀ d∈xs,0≤d∧d<18446744073709551616)∧(∀ d∈ys,0≤d∧d<18446744073709551616)∧Ex.Good (A4 β [k,t] 2) (Co xs ys) w∧(∀ j,j<2→∃ X,β (nth [k,t] j)=some X):=by
 obtain ⟨l,g1⟩:=HT hg hk
 obtain ⟨_,g2⟩:=CY hxs g1
 obtain ⟨l',g1'⟩:=HT hg ht
 obtain ⟨_,g2'⟩:=CY hys g1'
 refine ⟨fun d hd=>DQ (g2 d hd),fun d hd=>DQ (g2' d hd),tE (c:=[.seq .u64 xs]) (e:=[.seq .u64 ys]) hg hk ht (fun l h=>?_) (fun l h=>?_),fun j hj=>?_⟩
 ·obtain ⟨q1,q2⟩:=CY hxs h
  exact ⟨_,[],⟨q1,q2⟩,rfl,by simp⟩
 ·obtain ⟨q1,q2⟩:=CY hys h
  exact ⟨_,[],⟨q1,q2⟩,rfl,by simp⟩
 ·match j,hj with
  | 0,_=>exact BZ (hg.heap _ _ hk)
  | 1,_=>exact BZ (hg.heap _ _ ht)
def cmpSpec:ASpec:=fun args H fr path =>
 match args with
 | [.val false [.sl k off n _],.val false [.sl t off' n' _]]=>match AG H k,AG H t with
  | some ⟨_,cs,_⟩,some ⟨_,ds,_⟩=>match Ao .u64 cs,Ao .u64 ds with
   | some xs,some ys=>some (A5 [k,t] 2 fr 0 [] (.val false [.v (.int .i64 (C6 (AF (AA xs off n)) (AF (AA ys off' n'))))]) [] [(Nat.ble (off+n) xs.length,true),(Nat.ble (off'+n') ys.length,true),(AJ .i64 n,true),(AJ .i64 n',true)] path)
   | _,_=>none
  | _,_=>none
 | _=>none
theorem AHh:A6 Tryz.prog 141 cmpSpec:=by
 refine FN Tryz.func141 (by kernel_rfl) (by kernel_rfl) fun args H fr path r h=>?_
 unfold cmpSpec at h
 split at h
 case h_2=>cases h
 rename_i k off n m t off' n' m'
 split at h
 case h_2=>cases h
 rename_i ty cs o ty' ds o' hk ht
 split at h
 case h_2=>cases h
 rename_i xs ys hxs hys
 injection h with h
 refine ⟨[k,t],EC off n m off' n' m',Co xs ys,2,0,[],_,[],_,path,h.symm,fun β us w ha hg hc=>?_⟩
 obtain ⟨u1,us1,r1,⟨u2,us2,r2,ha,rfl⟩,rfl⟩:=ha
 obtain ⟨g1,g1',g2,g3⟩:=V2 hg hk ht hxs hys
 exact ⟨AHg g1 g1' (Nat.le_of_ble_eq_true hc.1) (Nat.le_of_ble_eq_true hc.2.1) hc.2.2.1 hc.2.2.2.1,by kernel_rfl,⟨u1,_,r1,⟨u2,us2,r2,ha,rfl⟩,rfl⟩,g2,g3⟩
noncomputable def S11:List (FuncId×ASpec):=(141,cmpSpec)::S10
theorem V3:AX Tryz.prog S11:=⟨AHh,ID⟩
def HV (x:Nat):List Int:=(List.range 6).map (AE x)++[]
theorem L2 {x:Nat} (h:x<RR):AF (AA (HV x) (0+0*1) (6-0))=x :=
 (show AF (AA (HV x) (0+0*1) (6-0))=Lk (AE x 0) (AE x 1) (AE x 2) (AE x 3) (AE x 4) (AE x 5) by kernel_rfl).trans (tO h)
def Cq (i:Int):AV:=.val false [.v (.int .i64 i)]
def BB (b:Bool):AV:=.val false [.v (.bool b)]
theorem AHi (x:Nat):AR Tryz.prog (AH S11 K0) Tryz.f146 [AY x] [] 300=some ([],Cq (wI (bits .and .u64 (AE (x % pN) 0) 1))):=by kernel_rfl
def ED (x:Nat):Int:=((x % pN % 2:Nat):Int)
theorem dC (x:Nat):AE x 0=((x % 18446744073709551616:Nat):Int):=by simp only [AE,Nat.mul_zero,Nat.pow_zero,Nat.div_one]
theorem t5 (v:Nat) (hv:v<18446744073709551616):bits .and .u64 (v:Int) 1=((v % 2:Nat):Int):=by
 have h:=(bits_nat .u64 64 (by decide) (fun n h0 h1=>by rw [IntKind.wrap_u64];omega) v 1 (by omega) (by decide)).1
 refine Eq.trans h ?_
 rw [Nat.and_one_is_mod]
theorem AHj (x:Nat):AU Tryz.prog 146 [AY x] (Cq (ED x)):=by
 have h:=AW (AK V3 Aa) AB Tryz.func146 (AHi x) trivial rfl
 have e:wI (bits .and .u64 (AE (x % pN) 0) 1)=ED x:=by
  rw [dC,t5 _ (by omega),Am (by omega)]
  unfold ED;omega
 rw [e] at h
 exact h
theorem AHk (x:Nat):AR Tryz.prog (AH S11 K0) Tryz.f81 [AY x] [] 300=some (G5 4,BB (decide (0<C6 (AF (AA (HV (x % pN)) (0+0*1) (6-0))) (AF (AA (HV (DM x)) (0+0*1) (6-0)))))):=by kernel_rfl
def BE (x:Nat):Bool:=decide (DM x<x % pN)
theorem dD (x:Nat):DM x<pN:=Nat.mod_lt _ CQ
theorem AHl (x:Nat):AU Tryz.prog 81 [AY x] (BB (BE x)):=by
 have h:=AW (AK V3 Aa) AB Tryz.func81 (AHk x) (J1 _) rfl
 rw [L2 (HS x),L2 (Nat.lt_trans (dD x) (by decide))] at h
 have e:decide (0<C6 (x % pN) (DM x))=BE x:=by
  unfold C6 BE
  by_cases h1:x % pN<DM x
  ·rw [if_pos h1,decide_eq_false (by omega),decide_eq_false (by omega)]
  ·by_cases h2:DM x<x % pN
   ·rw [if_neg h1,if_pos h2,decide_eq_true h2];rfl
   ·rw [if_neg h1,if_neg h2,decide_eq_false h2];rfl
 rw [e] at h
 exact h
def QN:Nat:=1000602388805416848354447456433976039139220704984751971333014534031007912622709466110671907282253916009473568139947
def QC:List Ch:=[.n .u64 0xee7fbfffffffeaab,.n .u64 0x7aaffffac54ffff,.n .u64 0xd9cc34a83dac3d89,.n .u64 0xd91dd2e13ce144af,.n .u64 0x92c6e9ed90d2eb35,.n .u64 0x680447a8e5ff9a6]
theorem AHm:AR Tryz.prog (AH S11 K0) Tryz.f143 [] [] 300=some ([],.val true QC):=by kernel_rfl
theorem AHn:AU Tryz.prog 143 [] (.val true QC):=AW (AK V3 Aa) AB Tryz.func143 AHm trivial rfl
noncomputable def S12:List (FuncId×ASpec):=(143,Aj fun args=>match args with | []=>some (AY QN) | _=>none)::(146,Aj (E9 fun x=>Cq (ED x)))::(81,Aj (E9 fun x=>BB (BE x)))::S11
theorem dF:AX Tryz.prog S12:=⟨Ak Tryz.func143 (by kernel_rfl) (by kernel_rfl) (Nj AHn fun u h=>TH (by kernel_rfl) h),Ak Tryz.func146 (by kernel_rfl) (by kernel_rfl) (F6 fun x _=>AHj x),Ak Tryz.func81 (by kernel_rfl) (by kernel_rfl) (F6 fun x _=>AHl x),V3⟩
def HW (y:Nat):Nat:=if ED y=1 then DM y else y
theorem AHo (y:Nat):AR Tryz.prog (AH S12 K0) Tryz.f145 [AY y] [true] 300=some ([(decide (ED y=1),true)],AY (DM y)):=by kernel_rfl
theorem AHp (y:Nat):AR Tryz.prog (AH S12 K0) Tryz.f145 [AY y] [false] 300=some ([(decide (ED y=1),false)],AY y):=by kernel_rfl
theorem AHq (y:Nat):AU Tryz.prog 145 [AY y] (AY (HW y)):=by
 unfold HW
 by_cases h:ED y=1
 ·rw [if_pos h];exact AW (AK dF Aa) AB Tryz.func145 (AHo y) ⟨by simp [h],trivial⟩ rfl
 ·rw [if_neg h];exact AW (AK dF Aa) AB Tryz.func145 (AHp y) ⟨by simp [h],trivial⟩ rfl
noncomputable def S13:List (FuncId×ASpec):=(145,Aj (E9 fun x=>AY (HW x)))::S12
theorem dG:AX Tryz.prog S13:=⟨Ak Tryz.func145 (by kernel_rfl) (by kernel_rfl) (F6 fun x _=>AHq x),dF⟩
noncomputable def Nl (a:Nat):Nat:=Dx a (AF (AA (HV QN) (0+0*1) (6-0)))
theorem AHr (a:Nat):AR Tryz.prog (AH S13 K0) Tryz.f84 [AY a] [true] 300=some ([(true,true),(true,true),(!decide (Ag (Nl a) (Nl a)=a % pN),true)],.tup [(true,GQ),(false,[.b false])]):=by kernel_rfl
theorem AHs (a:Nat):AR Tryz.prog (AH S13 K0) Tryz.f84 [AY a] [false] 300=some ([(true,true),(true,true),(!decide (Ag (Nl a) (Nl a)=a % pN),false)],.tup [(true,[.num 6 (HW (Nl a))]),(false,[.b true])]):=by kernel_rfl
noncomputable def DT (a:Nat):Bool:=decide (Ag (Dx a QN) (Dx a QN)=a % pN)
noncomputable def De (a:Nat):Nat:=if DT a=true then HW (Dx a QN) else 0
theorem dH (a:Nat):Nl a=Dx a QN:=by unfold Nl;rw [L2 (by decide)]
noncomputable def t8 (a:Nat):AV:=.tup [(true,[.num 6 (De a)]),(false,[.v (.bool (DT a))])]
theorem C7 {P:Program} {f:FuncId} {args:List AV} {v v':AV} (h:AU P f args v) (hv:∀ u,AP Bc v u→AP Bc v' u):AU P f args v' :=
 fun us w a=>Calls.mono (h us w a) fun _ _ ⟨u,q1,q2,q3⟩=>⟨u,q1,hv u q2,q3⟩
theorem It {b b':Bool} {u:Value} (e:b=b') (h:Bn Bc false [.b b] u):Bn Bc false [.v (.bool b')] u:=by
 subst e
 obtain ⟨l1,l2,p1,p2,p3⟩:=h
 exact ⟨l1,l2,⟨p1,rfl,trivial⟩,p2,p3⟩
theorem AHt (a:Nat):AU Tryz.prog 84 [AY a] (t8 a):=by
 by_cases h:DT a=true
 ·have h1:=AW (AK dG Aa) AB Tryz.func84 (AHs a) ⟨rfl,rfl,by rw [dH];unfold DT at h;rw [h];rfl,trivial⟩ rfl
  refine C7 h1 ?_
  rintro u ⟨us,⟨u1,l1,q1,⟨u2,l2,q2,q3,rfl⟩,rfl⟩,rfl⟩
  refine ⟨_,⟨u1,_,?_,⟨u2,l2,It h.symm q2,q3,rfl⟩,rfl⟩,rfl⟩
  unfold De;rw [if_pos h,← dH];exact q1
 ·have h0:DT a=false:=by simpa using h
  have h1:=AW (AK dG Aa) AB Tryz.func84 (AHr a) ⟨rfl,rfl,by rw [dH];unfold DT at h0;rw [h0];rfl,trivial⟩ rfl
  refine C7 h1 ?_
  rintro u ⟨us,⟨u1,l1,q1,⟨u2,l2,q2,q3,rfl⟩,rfl⟩,rfl⟩
  refine ⟨_,⟨u1,_,?_,⟨u2,l2,It h0.symm q2,q3,rfl⟩,rfl⟩,rfl⟩
  unfold De;rw [if_neg h]
  exact TH (by kernel_rfl) q1
noncomputable def S14:List (FuncId×ASpec):=(84,Aj (E9 t8))::S13
theorem AHu:AX Tryz.prog S14:=⟨Ak Tryz.func84 (by kernel_rfl) (by kernel_rfl) (F6 fun x _=>AHt x),dG⟩
noncomputable def S15:List (FuncId×ASpec):=S14
theorem AHv:AX Tryz.prog S15:=AHu
def EE (sp:List AV→Option (List (Bool×Bool)×AV)):ASpec:=fun args _ _ path =>
 match VW args,sp args with
 | true,some (c,v)=>match LZ v with
  | true=>some { Br v path with conds:=c }
  | false=>none
 | _,_=>none
theorem El {P:Program} {f:FuncId} {fn:Func} {sp:List AV→Option (List (Bool×Bool)×AV)} (hfn:P.funcs[f]? = some fn) (hb:fn.body.isSome=true) (hname:(fn.name=="runtime.NumGoroutine")=false) (h:∀ args c v,sp args=some (c,v)→AQ c→AU P f args v):A6 P f (EE sp):=by
 intro args H fr path r β us w hs hc ha hg hf
 unfold EE at hs
 split at hs
 ·rename_i c v hk hv
  split at hs
  ·rename_i hkv
   injection hs with hs;subst hs
   refine R6 hfn hb hname (Calls.mono (h args c v hv hc us w (bS hk ha)) ?_)
   rintro e w' ⟨u,rfl,hu,hbl⟩
   refine ⟨u,β,rfl,?_⟩
   exact ⟨Env.le_refl _,fun _ _ h=>.inl h,fun b B n hb=>Nat.lt_of_lt_of_le (hg.lt b B n hb) hbl.size,fun b b' _ _ _ h1 _ h3=>by simp [Br] at h3;omega,In hkv hu,fun _ _ h=>(by cases h),fun B hB _=>hbl.block B hB,hbl.size,hbl.os,hbl.tape,hbl.output⟩
  ·cases hs
 ·cases hs
noncomputable def S16:List (FuncId×ASpec):=S15
theorem AHw:AX Tryz.prog S16:=AHv
def EF:AV→AV
 | .val g cs=>.val g (cs.map nv)
 | a=>a
theorem t9 {β:Env} {a:AV} {u:Value} (h:AP β a u):AP β (EF a) u:=by
 cases a with
 | val g cs=>cases g with
  | false=>exact TE h
  | true=>obtain ⟨l,q,e⟩:=h;exact ⟨l,TE q,e⟩
 | tup xs=>exact h
 | any=>exact h
theorem uA:∀ (T:List AV) (t:Nat),Aq (T.map EF) t=EF (Aq T t)∨Aq (T.map EF) t=Aq T t
 | [],_=>.inr rfl
 | _::_,0=>.inl rfl
 | _::r,t+1=>uA r t
theorem E_ {P:Program} {f:FuncId} {β0:Env} {w0:World} {R:Ending→World→Prop} {n:Nat} {W:List Nat} {todo:List Item} {T:List AV} {H:Heap} {fr:Nat} {p:List Bool} (h:ASafe P f β0 w0 R n W ⟨todo,⟨T.map EF,H,fr,p⟩⟩):ASafe P f β0 w0 R n W ⟨todo,⟨T,H,fr,p⟩⟩:=by
 intro β a w hi hf
 refine h β a w { hi with tmp:=fun t=>?_ } hf
 rcases uA T t with e | e
 ·show AP β (Aq (T.map EF) t) _
  rw [e];exact t9 (hi.tmp t)
 ·show AP β (Aq (T.map EF) t) _
  rw [e];exact hi.tmp t
def Em (A B i:Nat):Nat:=(A % 2^(64*i)+B % 2^(64*i)) / 2^(64*i)
theorem AHx (A B i:Nat):Em A B i≤1:=by
 have hp:0<2^(64*i):=Nat.pow_pos (by decide)
 have h1:=Nat.mod_lt A hp
 have h2:=Nat.mod_lt B hp
 exact Nat.le_of_lt_succ (Nat.div_lt_of_lt_mul (by omega))
theorem AHy (A B Q W:Nat) (hp:0<Q):(A % (Q*W)+B % (Q*W)) / (Q*W)=(A / Q % W+B / Q % W+(A % Q+B % Q) / Q) / W∧(A+B) / Q=A / Q+B / Q+(A % Q+B % Q) / Q:=by
 constructor
 ·rw [Nat.mod_mul,Nat.mod_mul,← Nat.div_div_eq_div_mul]
  congr 1
  rw [show A % Q+Q*(A / Q % W)+(B % Q+Q*(B / Q % W))=A % Q+B % Q+Q*(A / Q % W+B / Q % W) by rw [Nat.mul_add];omega,Nat.add_mul_div_left _ _ hp]
  omega
 ·have ea:=Nat.div_add_mod A Q
  have eb:=Nat.div_add_mod B Q
  rw [show A+B=A % Q+B % Q+Q*(A / Q+B / Q) by rw [Nat.mul_add];omega,Nat.add_mul_div_left _ _ hp]
  omega
theorem AHz (A B i:Nat):A / 2^(64*i) % 18446744073709551616+B / 2^(64*i) % 18446744073709551616+Em A B i=(A+B) / 2^(64*i) % 18446744073709551616+18446744073709551616*Em A B (i+1):=by
 obtain ⟨h1,h2⟩:=AHy A B (2^(64*i)) 18446744073709551616 (Nat.pow_pos (by decide))
 have e:2^(64*(i+1))=2^(64*i)*18446744073709551616:=by rw [show 64*(i+1)=64*i+64 by omega,Nat.pow_add]
 unfold Em
 rw [e,h1,h2]
 omega
def dI (S L i:Nat):List Int:=(List.range i).map (AE S)++List.replicate (L-i) 0
theorem Nm {xs:List Int} {off n:Nat} (h:∀ d∈xs,0≤d∧d<18446744073709551616) (i:Nat):Al xs off n i=((AF (AA xs off n) / 2^(64*i) % 18446744073709551616:Nat):Int):=by
 have:=TK (AA xs off n) i (Cp h)
 have hb:=J5 (Cp (off:=off) (n:=n) h) i
 unfold Al
 rw [Int.toNat_natCast]
 have e:(2:Nat)^64=18446744073709551616:=rfl
 rw [e] at this
 omega
theorem AH0 (A B i:Nat):Bd ((A / 2^(64*i) % 18446744073709551616:Nat):Int) ((B / 2^(64*i) % 18446744073709551616:Nat):Int) (Em A B i)=AE (A+B) i ∧
  B8 ((A / 2^(64*i) % 18446744073709551616:Nat):Int) ((B / 2^(64*i) % 18446744073709551616:Nat):Int) (Em A B i)=Em A B (i+1):=by
 have h:=AHz A B i
 unfold Bd B8 AE
 have e:(2:Nat)^64=18446744073709551616:=rfl
 rw [e]
 constructor<;>omega
section
variable {off n m off' n' m':Nat} {xs xs':List Int} (hx:∀ d∈xs,0≤d∧d<18446744073709551616) (hy:∀ d∈xs',0≤d∧d<18446744073709551616) (hl:off+n≤xs.length) (hl':off'+n'≤xs'.length)
 (hn:AJ .i64 n=true) (hn':AJ .i64 n'=true) {β0:Env} {w0:World} (hb:∀ b,2≤b→β0 b=none)
include hx hy hl hl' hn hn' hb
end
noncomputable def S17:List (FuncId×ASpec):=S16
theorem AH1:AX Tryz.prog S17:=AHw
noncomputable def S18:List (FuncId×ASpec):=S17
theorem AH2:AX Tryz.prog S18:=AH1
def L3 (m x:Nat):Nat→Nat→Nat
 | 0,_=>1 % m
 | f+1,e=>(match e % 2 with
  | 0=>L3 m (x*x % m) f (e / 2)
  | _=>x*L3 m (x*x % m) f (e / 2) % m)
theorem dJ (m:Nat):∀ (f x e:Nat),e<2^f→L3 m x f e=x^e % m
 | 0,x,e,h=>by
  have:e=0:=by simpa using h
  subst this;rfl
 | f+1,x,e,h=>by
  have ih:=dJ m f (x*x % m) (e / 2) (by rw [Nat.pow_succ] at h;omega)
  have h2:(x*x % m)^(e / 2) % m=x^(2*(e / 2)) % m:=by
   rw [← Nat.pow_mod,Nat.pow_mul,Nat.pow_two]
  unfold L3
  rcases Nat.mod_two_eq_zero_or_one e with h0 | h1
  ·rw [h0]
   show L3 m (x*x % m) f (e / 2)=_
   rw [ih,h2,show 2*(e / 2)=e by omega]
  ·rw [h1]
   show x*L3 m (x*x % m) f (e / 2) % m=_
   rw [ih,h2,Nat.mul_mod,Nat.mod_mod,← Nat.mul_mod,← Nat.pow_succ',show (2*(e / 2)).succ=e by omega]
theorem uB:(2:Nat)^384=RR:=by kernel_rfl
noncomputable def S19:List (FuncId×ASpec):=S18
theorem AH3:AX Tryz.prog S19:=AH2
end Go.Proofs.YtjlcdlekmpjjnaaGreat
namespace Go.Proofs.YtjlcdlekmpjjnaaGreat
open Ex
open Go.RowKit (Below)
set_option maxRecDepth 100000
set_option maxHeartbeats 4000000
theorem own:ownKnob Tryz.prog.godebug=none:=by kernel_rfl
theorem laidOut:laidOutB Tryz.prog=true:=by kernel_rfl
theorem under_bool:Tryz.prog.underlying 4=some .bool:=by kernel_rfl
theorem args0 {ts:List TypeId} {H:Type} {enc:TypeId×Value→H} {W:World} {us:List Value} {ds:List (DataW H)} {ps:List MemPlace} (hA:DataW.TrodAll enc Tryz.prog W 0 (fun _=>true) true ts us ds ps) (ht:ts=[]):us=[]:=by
 subst ht
 cases us with
 | nil=>rfl
 | cons=>cases ds<;>cases hA
theorem dK {H:Type} {enc:TypeId×Value→H} {W:World} {t:TypeId} {ts:List TypeId} {us:List Value} {ds:List (DataW H)} {ps:List MemPlace} (hA:DataW.TrodAll enc Tryz.prog W 0 (fun _=>true) true (t::ts) us ds ps) :
  ∃ v us' d ds' p q,us=v::us'∧ds=d::ds'∧DataW.Trod enc Tryz.prog W 0 (fun _=>true) true t v d p∧DataW.TrodAll enc Tryz.prog W 0 (fun _=>true) true ts us' ds' q:=by
 cases us with
 | nil=>cases ds<;>cases hA
 | cons v us'=>cases ds with
  | nil=>cases hA
  | cons d ds' =>
   obtain ⟨p,q,h1,h2,_⟩:=hA
   exact ⟨v,us',d,ds',p,q,rfl,rfl,h1,h2⟩
theorem len2 {α:Type} {l:List α} (h:l.length=2):∃ a b,l=[a,b]:=by
 match l,h with
 | [a,b],_=>exact ⟨a,b,rfl⟩
end Go.Proofs.YtjlcdlekmpjjnaaGreat
namespace Go.Proofs.YtjlcdlekmpjjnaaGreat
set_option maxRecDepth 100000
set_option maxHeartbeats 4000000
theorem allHeard:Tryz.pinned.checked.prog.stopsHeard=true:=by kernel_rfl
theorem allEnter:Tryz.pinned.checked.prog.mayEnter=true:=by kernel_rfl
theorem allLifts:Tryz.pinned.checked.prog.liftsFinal=false:=by kernel_rfl
theorem allKeys:Tryz.pinned.checked.prog.plainKeys=true:=by kernel_rfl
theorem allLaid:laidOutB Tryz.pinned.checked.prog=true:=by kernel_rfl
theorem allMaps:mapsRowed Tryz.pinned.checked.prog=true:=by kernel_rfl
end Go.Proofs.YtjlcdlekmpjjnaaGreat
namespace Go.Proofs.YtjlcdlekmpjjnaaGreat
open Ex
set_option maxRecDepth 100000
set_option maxHeartbeats 4000000
def PL:List Int:=[0xb9feffffffffaaab,0x1eabfffeb153ffff,0x6730d2a0f6b0f624,0x64774b84f38512bf,0x4b1ba7b6434bacd7,0x1a0111ea397fe69a]
theorem uC {x:Nat} (h:x<RR):AF (AA (HV x) 0 6)=x:=L2 h
theorem AH4 {S L:Nat} (h:S<2^(64*L)):AF (AA (dI S L L) 0 L)=S:=by
 unfold dI AA
 rw [Nat.sub_self,List.replicate_zero,List.append_nil,List.drop_zero,List.take_of_length_le (by simp)]
 have gen:∀ (L S:Nat),S<2^(64*L)→AF ((List.range L).map (AE S))=S:=by
  intro L
  induction L with
  | zero=>intro S h;simp at h;subst h;rfl
  | succ L ih =>
   intro S h
   rw [List.range_succ_eq_map,List.map_cons,List.map_map]
   have e:(AE S ∘ Nat.succ)=AE (S / 2^64):=by
    funext i
    exact EA S i |>.symm▸rfl
   rw [e]
   simp only [AF]
   rw [ih (S / 2^64) (by rw [show 64*(L+1)=64+64*L by omega,Nat.pow_add] at h;exact Nat.div_lt_of_lt_mul h),cW,Nat.mul_zero,Nat.pow_zero,Nat.div_one]
   omega
 exact gen L S h
theorem AH5 {a:Nat} (h:a % pN≠0):DM a=pN-a % pN:=by
 have hp:=F5 a
 unfold DM
 rw [Nat.mod_eq_of_lt (by omega)]
theorem V4:pN % 2=1:=by kernel_rfl
end Go.Proofs.YtjlcdlekmpjjnaaGreat
