/- Part 2 of the proof: ExL, ExM, ExN, ExO, ExP, ExQ, ExR, ExS, ExT, Fa, Fb, Fc, Fd, Fe, Ff, Fg, Fh, Fi, Fj, Fk, Fl, Fm. -/
import Derived.Test.YtjlcdlekmpjjnaaGreatPA
import Derived.Below
import Derived.ProofKit
import Derived.OpenShut
import Derived.ChangeOld
import Derived.SizedLaws
import Derived.Recover
import Derived.Test.YtjlcdlekmpjjnaaGreatProg
/- The executor's regions in any order: the check, and that it suffices. -/
namespace Go.Proofs.YtjlcdlekmpjjnaaGreat.Ex
def maskE (acc:List Nat):List Edge→Nat
 | []=>0
 | e::r=>match Region.binds .any e with
  | true=>2^e.on ||| (acc.getD e.on 0 ||| maskE acc r)
  | false=>maskE acc r
theorem maskE_bit {acc:List Nat} {k:Nat}:∀ {es:List Edge},(maskE acc es).testBit k=true→∃ e∈es,Region.binds .any e=true∧(k=e.on∨(acc.getD e.on 0).testBit k=true)
 | [],h=>by simp [maskE] at h
 | e::r,h=>by
  simp only [maskE] at h
  split at h
  ·rename_i hb
   rw [Nat.testBit_or,Nat.testBit_or,Bool.or_eq_true,Bool.or_eq_true] at h
   rcases h with h | h | h
   ·rw [Nat.testBit_two_pow] at h
    exact ⟨e,by simp,hb,.inl (by simpa using (of_decide_eq_true h).symm)⟩
   ·exact ⟨e,by simp,hb,.inr h⟩
   ·obtain ⟨e',h1,h2⟩:=maskE_bit h
    exact ⟨e',by simp [h1],h2⟩
  ·obtain ⟨e',h1,h2⟩:=maskE_bit h
   exact ⟨e',by simp [h1],h2⟩
def masks:List Oper→List Nat→List Nat
 | [],acc=>acc
 | o::r,acc=>masks r (acc++[maskE acc o.after.toList])
theorem masks_prefix:∀ {l:List Oper} {acc:List Nat} {j:Nat},j<acc.length→(masks l acc).getD j 0=acc.getD j 0
 | [],_,_,_=>rfl
 | o::r,acc,j,h=>by
  simp only [masks]
  rw [masks_prefix (by simp;omega)]
  simp only [List.getD_eq_getElem?_getD]
  rw [List.getElem?_append_left h]
theorem masks_spec:∀ {l:List Oper} {acc:List Nat} {j k:Nat} {o:Oper},l[j]? = some o→((masks l acc).getD (acc.length+j) 0).testBit k=true →
  ∃ e∈o.after.toList,Region.binds .any e=true∧(k=e.on∨((masks l acc).getD e.on 0).testBit k=true)
 | [],_,_,_,_,h,_=>by simp at h
 | o::r,acc,0,k,o',h,hb=>by
  simp only [List.getElem?_cons_zero,Option.some.injEq] at h
  subst h
  simp only [masks,Nat.add_zero] at hb ⊢
  rw [masks_prefix (by simp)] at hb
  have:(acc++[maskE acc o.after.toList]).getD acc.length 0=maskE acc o.after.toList:=by simp [List.getD_eq_getElem?_getD]
  rw [this] at hb
  obtain ⟨e,h1,h2,h3⟩:=maskE_bit hb
  refine ⟨e,h1,h2,h3.imp id fun h=>?_⟩
  rcases Nat.lt_or_ge e.on acc.length with hlt | hge
  ·rw [masks_prefix (by simp;omega)]
   have:(acc++[maskE acc o.after.toList]).getD e.on 0=acc.getD e.on 0:=by
    simp only [List.getD_eq_getElem?_getD]
    rw [List.getElem?_append_left hlt]
   rw [this];exact h
  ·have:acc.getD e.on 0=0:=by simp [List.getD_eq_getElem?_getD,List.getElem?_eq_none hge]
   rw [this] at h;simp at h
 | o::r,acc,j+1,k,o',h,hb=>by
  simp only [masks] at hb ⊢
  have e1:acc.length+(j+1)=(acc++[maskE acc o.after.toList]).length+j:=by simp;omega
  rw [e1] at hb
  exact masks_spec (by simpa using h) hb
def edgesOk:List Edge→Nat→Bool
 | [],_=>true
 | e::r,i=>match Region.binds .any e with
  | true=>match Nat.blt e.on i with | true=>edgesOk r i | false=>false
  | false=>edgesOk r i
theorem edgesOk_spec:∀ {es:List Edge} {i:Nat},edgesOk es i=true→∀ e∈es,Region.binds .any e=true→e.on<i
 | [],_,_,e,h,_=>by cases h
 | e'::r,i,h,e,he,hb=>by
  simp only [edgesOk] at h
  split at h
  ·split at h
   ·rename_i hlt
    rcases List.mem_cons.1 he with rfl | he
    ·unfold Nat.blt at hlt;exact Nat.le_of_ble_eq_true hlt
    ·exact edgesOk_spec h e he hb
   ·cases h
  ·rename_i hnb
   rcases List.mem_cons.1 he with rfl | he
   ·rw [hb] at hnb;cases hnb
   ·exact edgesOk_spec h e he hb
def allEdges:List Oper→Nat→Bool
 | [],_=>true
 | o::r,i=>match edgesOk o.after.toList i with | true=>allEdges r (i+1) | false=>false
theorem allEdges_spec:∀ {l:List Oper} {i j:Nat} {o:Oper},allEdges l i=true→l[j]? = some o→∀ e∈o.after.toList,Region.binds .any e=true→e.on<i+j
 | [],_,_,_,_,h=>by simp at h
 | o::r,i,0,o',h,hj=>by
  simp only [List.getElem?_cons_zero,Option.some.injEq] at hj
  subst hj
  simp only [allEdges] at h
  split at h
  ·rename_i he;exact edgesOk_spec he
  ·cases h
 | o::r,i,j+1,o',h,hj=>by
  simp only [allEdges] at h
  split at h
  ·have:=allEdges_spec h (by simpa using hj)
   intro e he hb
   have:=this e he hb
   omega
  ·cases h
def disj:List Nat→List Nat→Bool
 | [],_=>true
 | x::r,l=>match mem x l with | true=>false | false=>disj r l
theorem disj_spec:∀ {a b:List Nat},disj a b=true→∀ x∈a,x ∉ b
 | [],_,_,x,h=>by cases h
 | y::r,b,h,x,hx=>by
  simp only [disj] at h
  split at h
  ·cases h
  ·rename_i hm
   rcases List.mem_cons.1 hx with rfl | hx
   ·intro hb;rw [mem_iff.2 hb] at hm;cases hm
   ·exact disj_spec h x hx
def dstL (d:Option Nat):List Nat:=match d with | some d=>[d] | none=>[]
def indepB' (r s:Rec):Bool :=
 disj (dstL r.dst) s.ts&&(disj (dstL s.dst) r.ts&&(disj (dstL r.dst) (dstL s.dst)&&(disj (updKeys r.r.upd) s.ks&&(disj (updKeys s.r.upd) r.ks&&disj (updKeys r.r.upd) (updKeys s.r.upd)))))
def outside (l:List Nat) (fr nw:Nat):Bool:=match l with
 | []=>true
 | k::r=>match Nat.ble fr k&&Nat.blt k (fr+nw) with | true=>false | false=>outside r fr nw
theorem outside_spec:∀ {l:List Nat} {fr nw:Nat},outside l fr nw=true→∀ k∈l,fr≤k→¬ k<fr+nw
 | [],_,_,_,k,h,_=>by cases h
 | x::r,fr,nw,h,k,hk,h1=>by
  intro h2
  simp only [outside] at h
  split at h
  ·cases h
  ·rename_i hb
   rcases List.mem_cons.1 hk with rfl | hk
   ·have e1:=Nat.ble_eq_true_of_le h1
    have e2:Nat.blt k (fr+nw)=true:=by unfold Nat.blt;exact Nat.ble_eq_true_of_le h2
    rw [e1,e2] at hb;cases hb
   ·exact outside_spec h k hk h1 h2
def indepB (r s:Rec):Bool :=
 outside s.ks r.fr r.r.nw&&indepB' r s
def bit (m i:Nat):Bool:=Nat.testBit m i
def chkOne (i:Nat) (r:Rec):List Rec→List Nat→Bool
 | [],_=>true
 | s::L,m::ms=>match bit m i with
  | true=>chkOne i r L ms
  | false=>match indepB r s with | true=>chkOne i r L ms | false=>false
 | _::_,[]=>false
def chkAll:List Rec→List Nat→Nat→Bool
 | [],_,_=>true
 | r::L,_::ms,i=>match chkOne i r L ms with | true=>chkAll L ms (i+1) | false=>false
 | _::_,[],_=>false
theorem chkOne_spec {i:Nat} {r:Rec}:∀ {L:List Rec} {ms:List Nat} {j:Nat} {s:Rec},chkOne i r L ms=true→L[j]? = some s→(ms.getD j 0).testBit i=false→indepB r s=true
 | [],_,_,_,_,h,_=>by simp at h
 | s::L,[],j,s',h,_,_=>by simp [chkOne] at h
 | s::L,m::ms,0,s',h,hj,hb=>by
  simp only [List.getElem?_cons_zero,Option.some.injEq] at hj
  subst hj
  simp only [chkOne,bit] at h
  have hb':m.testBit i=false:=by simpa using hb
  rw [hb'] at h
  simp only at h
  split at h
  ·assumption
  ·cases h
 | s::L,m::ms,j+1,s',h,hj,hb=>by
  simp only [chkOne] at h
  have key:chkOne i r L ms=true:=by
   split at h
   ·exact h
   ·split at h
    ·exact h
    ·cases h
  exact chkOne_spec key (by simpa using hj) (by simpa using hb)
theorem chkAll_spec:∀ {L:List Rec} {ms:List Nat} {i j j':Nat} {r s:Rec},chkAll L ms i=true→L[j]? = some r→L[j']? = some s→j<j'→(ms.getD j' 0).testBit (i+j)=false→indepB r s=true
 | [],_,_,_,_,_,_,_,h,_,_,_=>by simp at h
 | q::L,[],_,_,_,_,_,h,_,_,_,_=>by simp [chkAll] at h
 | q::L,m::ms,i,0,j'+1,r,s,h,hj,hj',_,hb=>by
  simp only [List.getElem?_cons_zero,Option.some.injEq] at hj
  subst hj
  simp only [chkAll] at h
  split at h
  ·rename_i h1
   exact chkOne_spec h1 (by simpa using hj') (by simpa using hb)
  ·cases h
 | q::L,m::ms,i,j+1,j'+1,r,s,h,hj,hj',hlt,hb=>by
  simp only [chkAll] at h
  split at h
  ·exact chkAll_spec h (by simpa using hj) (by simpa using hj') (by omega) (by rw [show i+1+j=i+(j+1) by omega];simpa using hb)
  ·cases h
 | q::L,m::ms,i,j,0,r,s,h,hj,hj',hlt,hb=>by omega
theorem indep_parts {r s:Rec} (h:indepB r s=true) :
  (∀ d,r.dst=some d→d ∉ s.ts)∧(∀ d,s.dst=some d→d ∉ r.ts)∧(∀ d,r.dst=some d→s.dst≠some d)∧(∀ k y,(k,y)∈r.r.upd→k ∉ s.ks)∧(∀ k y,(k,y)∈s.r.upd→k ∉ r.ks)∧(∀ k y y',(k,y)∈r.r.upd→(k,y') ∉ s.r.upd):=by
 have h:=(Bool.and_eq_true_iff.1 h).2
 unfold indepB' at h
 simp only [Bool.and_eq_true] at h
 obtain ⟨h1,h2,h3,h4,h5,h6⟩:=h
 refine ⟨fun d hd=>disj_spec h1 d (by simp [dstL,hd]),fun d hd=>disj_spec h2 d (by simp [dstL,hd]),fun d hd he=>disj_spec h3 d (by simp [dstL,hd]) (by simp [dstL,he]),
  fun k y hk=>disj_spec h4 k (updKeys_mem.2 ⟨y,hk⟩),fun k y hk=>disj_spec h5 k (updKeys_mem.2 ⟨y,hk⟩),fun k y y' hk hk'=>disj_spec h6 k (updKeys_mem.2 ⟨y,hk⟩) (updKeys_mem.2 ⟨y',hk'⟩)⟩
theorem restrict_mem {H:Heap} {b:Nat}:∀ {ks:List Nat},(hget (restrict H ks) b).isSome=true→b∈ks
 | [],h=>by simp [restrict,hget] at h
 | k::r,h=>by
  simp only [restrict] at h
  split at h
  ·simp only [hget] at h
   split at h
   ·rename_i e;rw [← nbeq.1 e];simp
   ·exact List.mem_cons_of_mem _ (restrict_mem h)
  ·exact List.mem_cons_of_mem _ (restrict_mem h)
theorem opEff_keys {P:Program} {O:Orc} {ops:Array Oper} {i:Nat} {o:Oper} {ts:List Nat} {τ:Nat→AV} {H:Heap} {fr:Nat} {path:List Bool} {r:R} (h:opEff P O ops i o ts τ H fr path=some r) :
  ∀ k y,(k,y)∈r.upd→k∈foot o (restrT τ ts) ts H∨(fr≤k∧k<fr+r.nw):=by
 have key:∀ (r0:R),updOk (restrict H (foot o (restrT τ ts) ts H)) fr r0.nw r0.upd=true→∀ k y,(k,y)∈r0.upd→k∈foot o (restrT τ ts) ts H∨(fr≤k∧k<fr+r0.nw):=by
  intro r0 hu k y hk
  rcases (updOk_spec hu).1 k y hk with h | ⟨h1,h2,_⟩
  ·exact .inl (restrict_mem (rwK_isSome h))
  ·exact .inr ⟨h1,h2⟩
 unfold opEff at h
 split at h
 ·injection h with h;subst h
  intro k y hk;cases hk
 ·split at h
  ·rename_i r0 ha
   split at h
   ·rename_i hu
    unfold resolveR at h
    split at h
    ·split at h
     ·injection h with h;subst h;exact key r0 hu
     ·cases h
    ·injection h with h;subst h;exact key r0 hu
   ·cases h
  ·cases h
 ·cases h
theorem dstF_none {d:Option Nat} {v:AV} {t:Nat} (h:d≠some t):dstF d v t=none:=by
 unfold dstF
 cases d with
 | none=>rfl
 | some d=>simp only;rw [nbeq_ne (fun e=>h (by rw [e]))]
theorem look_none {u:Heap} {b:Nat} (h:∀ y,(b,y) ∉ u):look u b=none:=by
 cases hl:look u b with
 | none=>rfl
 | some y=>exact absurd (look_spec.1 y hl) (h y)
def left (listed:Array Bool) (m:Nat):Nat:=(List.range m).countP fun i=>!listed.getD i true
theorem countP_le_of {α:Type} (p q:α→Bool):∀ (l:List α),(∀ x∈l,q x=true→p x=true)→l.countP q≤l.countP p
 | [],_=>Nat.le_refl _
 | x::l,h=>by
  have ih:=countP_le_of p q l (fun y hy=>h y (by simp [hy]))
  rw [List.countP_cons,List.countP_cons]
  cases hq:q x with
  | false=>simp;cases p x<;>simp<;>omega
  | true=>rw [h x (by simp) hq];simp;exact ih
theorem countP_lt_of {α:Type} (p q:α→Bool):∀ (l:List α) (y:α),y∈l→p y=true→q y=false→(∀ x∈l,q x=true→p x=true)→l.countP q<l.countP p
 | x::l,y,hy,hp,hq,h=>by
  rw [List.countP_cons,List.countP_cons]
  rcases List.mem_cons.1 hy with rfl | hy'
  ·have:=countP_le_of p q l (fun z hz=>h z (by simp [hz]))
   rw [hp,hq];simp;omega
  ·have:=countP_lt_of p q l y hy' hp hq (fun z hz=>h z (by simp [hz]))
   cases hqx:q x with
   | false=>simp;cases p x<;>simp<;>omega
   | true=>rw [h x (by simp) hqx];simp;exact this
section
variable {P:Program} {O:Orc} (hO:OrcOk P O) {ops:Array Oper} {β0:Env} {w0:World} {W:List Nat} {n:Fz}
include hO
theorem any_ok {Q:Exit→Act→World→Prop} {s s':St} {recs:List Rec} (hrun:runOps P O ops ops.toList 0 s=some (recs,s')) (hchk:chkAll recs (masks ops.toList []) 0=true) (hedge:allEdges ops.toList 0=true)
  (hc:okConds (recConds recs)) (hfH:∀ b,s.fr≤b→hget s.H b=none) (hn:s.T.length=n.n) (hW:∀ k∈recKeys recs,k∈W)
  (hQ:∀ β a w,Inv β0 w0 W n β (tget s'.T) s'.H a w→(∀ b,s'.fr≤b→β b=none)→Q .normal a w) :
  ∀ (fuel:Nat) (listed:Array Bool) (β:Env) (a:Act) (w:World),listed.size=ops.size→left listed ops.size≤fuel →
   Inv β0 w0 W n β (stG (fun i=>listed.getD i false) 0 (LT recs) (tget s.T)) (hD (fun i=>listed.getD i false) 0 recs s.H) a w →
   (∀ b,s'.fr≤b→β b=none)→(∀ j r,recs[j]? = some r→listed.getD j false=false→∀ b,r.fr≤b→b<r.fr+r.r.nw→β b=none) →
   (∀ j,listed.getD j false=true→∀ k,((masks ops.toList []).getD j 0).testBit k=true→listed.getD k false=true) →
   wpAny P .any ops Q fuel listed a w:=by
 obtain ⟨r1,r2,r3,r4,r5,r6⟩:=runOps_all hrun hfH
 have hlen:recs.length=ops.size:=by rw [r1];simp
 have done:∀ (listed:Array Bool),listed.size=ops.size→Region.ready .any ops listed=[]→∀ i,i<ops.size→listed.getD i false=true:=by
  intro listed hsz hr i
  induction i using Nat.strongRecOn with
  | _ i ih =>
   intro hi
   cases hl:listed.getD i false with
   | true=>rfl
   | false =>
    exfalso
    have ho:ops[i]? = some ops[i]:=Array.getElem?_eq_getElem hi
    have hmem:i∈Region.ready .any ops listed:=by
     unfold Region.ready
     rw [List.mem_filter]
     refine ⟨List.mem_range.2 hi,?_⟩
     have hl':listed.getD i true=false:=by
      rw [Array.getD_eq_getD_getElem?] at hl ⊢
      rw [Array.getElem?_eq_getElem (by omega)] at hl ⊢
      simpa using hl
     rw [ho]
     simp only [hl',Bool.not_false,Bool.true_and,Option.map_some,Option.getD_some]
     rw [Array.all_eq_true_iff_forall_mem]
     intro e he
     cases hb:Region.binds .any e with
     | false=>rfl
     | true =>
      have:=allEdges_spec hedge (j:=i) (o:=ops[i]) (by simp) e (by simpa using he) hb
      rw [ih e.on (by omega) (by omega)]
      rfl
    rw [hr] at hmem
    cases hmem
 have fin:∀ (listed:Array Bool) (β:Env) (a:Act) (w:World),listed.size=ops.size→Region.ready .any ops listed=[] →
   Inv β0 w0 W n β (stG (fun i=>listed.getD i false) 0 (LT recs) (tget s.T)) (hD (fun i=>listed.getD i false) 0 recs s.H) a w→(∀ b,s'.fr≤b→β b=none)→Q .normal a w:=by
  intro listed β a w hsz hr hi hf
  have hd:=done listed hsz hr
  refine hQ β a w (hi.congr (fun t=>?_) (fun b=>?_)) hf
  ·rw [r3]
   refine stG_agree (fun j f hj hne=>?_) rfl
   have:j<ops.size:=by
    have:=(List.getElem?_eq_some_iff.1 hj).1
    simp [LT] at this;omega
   rw [Nat.zero_add,hd j this] at hne
   exact absurd rfl hne
  ·rw [r4,hD_get r2]
   refine stG_agree (fun j f hj hne=>?_) rfl
   have:j<ops.size:=by
    have:=(List.getElem?_eq_some_iff.1 hj).1
    simp [LH] at this;omega
   rw [Nat.zero_add,hd j this] at hne
   exact absurd rfl hne
 intro fuel
 induction fuel with
 | zero =>
  intro listed β a w hsz hleft hi hf _ _
  have hr:Region.ready .any ops listed=[]:=by
   apply List.eq_nil_iff_forall_not_mem.2
   intro i hm
   unfold Region.ready at hm
   rw [List.mem_filter] at hm
   have h1:(!listed.getD i true)=true:=(Bool.and_eq_true_iff.1 hm.2).1
   have:0<left listed ops.size:=List.countP_pos_iff.2 ⟨i,hm.1,h1⟩
   omega
  exact ⟨hr,fin listed β a w hsz hr hi hf⟩
 | succ fuel ih =>
  intro listed β a w hsz hleft hi hf hfr hclosed
  refine ⟨fun hr=>fin listed β a w hsz hr hi hf,fun i hmem=>?_⟩
  unfold Region.ready at hmem
  rw [List.mem_filter] at hmem
  obtain ⟨hrange,hready⟩:=hmem
  have hilt:=List.mem_range.1 hrange
  obtain ⟨hnl,hedges⟩:=Bool.and_eq_true_iff.1 hready
  have hnl':listed.getD i false=false:=by
   rw [Array.getD_eq_getD_getElem?] at hnl ⊢
   rw [Array.getElem?_eq_getElem (by omega)] at hnl ⊢
   simpa using hnl
  have ho:ops[i]? = some ops[i]:=Array.getElem?_eq_getElem hilt
  rw [ho] at hedges
  simp only [Option.map_some,Option.getD_some] at hedges
  have hdeps:∀ e∈ops[i].after.toList,Region.binds .any e=true→listed.getD e.on false=true:=by
   intro e he hb
   have:=Array.all_eq_true_iff_forall_mem.1 hedges e (by simpa using he)
   rw [hb] at this
   simpa using this
  have hbits:∀ k,((masks ops.toList []).getD i 0).testBit k=true→listed.getD k false=true:=by
   intro k hk
   obtain ⟨e,h1,h2,h3⟩:=masks_spec (l:=ops.toList) (acc:=[]) (j:=i) (k:=k) (o:=ops[i]) (by simp) (by simpa using hk)
   have:=hdeps e h1 h2
   rcases h3 with h3 | h3
   ·rw [h3];exact this
   ·exact hclosed e.on this k h3
  have hrec:recs[i]? = some recs[i]:=List.getElem?_eq_getElem (by omega)
  obtain ⟨o,T,H,path,q1,q2,q3,q4,q5,q6,q7,q8,q9,q10,q11⟩:=r5 i _ hrec
  have ho':o=ops[i]:=by
   rw [Array.getElem?_toList,ho] at q1
   injection q1 with q1;exact q1.symm
  subst ho'
  rw [Nat.zero_add] at q2
  have later:∀ j r,recs[j]? = some r→i<j→listed.getD j false=true→indepB recs[i] r=true:=by
   intro j r hj hlt hl
   refine chkAll_spec hchk hrec hj hlt ?_
   rw [Nat.zero_add]
   cases hb:((masks ops.toList []).getD j 0).testBit i with
   | false=>rfl
   | true=>rw [hclosed j hl i hb] at hnl';cases hnl'
  have earlier:∀ j r,recs[j]? = some r→j<i→listed.getD j false=false→indepB r recs[i]=true:=by
   intro j r hj hlt hl
   refine chkAll_spec hchk hj hrec hlt ?_
   rw [Nat.zero_add]
   cases hb:((masks ops.toList []).getD i 0).testBit j with
   | false=>rfl
   | true=>rw [hbits j hb] at hl;cases hl
  have blt:∀ j,Nat.blt j i=true↔j<i:=fun j=>by unfold Nat.blt;exact ⟨Nat.le_of_ble_eq_true,Nat.ble_eq_true_of_le⟩
  have side:∀ j r,recs[j]? = some r→(fun x=>Nat.blt x i) (0+j)≠(fun i=>listed.getD i false) (0+j)→(∀ t∈recs[i].ts,r.dst≠some t)∧(∀ k∈recs[i].ks,∀ y,(k,y) ∉ r.r.upd):=by
   intro j r hj hne
   simp only [Nat.zero_add] at hne
   rcases Nat.lt_trichotomy j i with hlt | rfl | hlt
   ·have hb:=(blt j).2 hlt
    rw [hb] at hne
    have hl:listed.getD j false=false:=by cases h:listed.getD j false with | false=>rfl | true=>rw [h] at hne;exact absurd rfl hne
    obtain ⟨p1,_,_,p4,_,_⟩:=indep_parts (earlier j r hj hlt hl)
    exact ⟨fun t ht hd=>p1 t hd ht,fun k hk y hy=>p4 k y hy hk⟩
   ·have hb:Nat.blt j j=false:=by cases h:Nat.blt j j with | false=>rfl | true=>exact absurd ((blt j).1 h) (by omega)
    rw [hb,hnl'] at hne;exact absurd rfl hne
   ·have hb:Nat.blt j i=false:=by cases h:Nat.blt j i with | false=>rfl | true=>exact absurd ((blt j).1 h) (by omega)
    rw [hb] at hne
    have hl:listed.getD j false=true:=by cases h:listed.getD j false with | true=>rfl | false=>rw [h] at hne;exact absurd rfl hne
    obtain ⟨_,p2,_,_,p5,_⟩:=indep_parts (later j r hj hlt hl)
    exact ⟨fun t ht hd=>p2 t hd ht,fun k hk y hy=>p5 k y hy hk⟩
  have agT:∀ t∈tsOf ops ops[i],tget T t=stG (fun i=>listed.getD i false) 0 (LT recs) (tget s.T) t:=by
   intro t ht
   rw [q6]
   refine stG_agree (fun j f hj hne=>?_) rfl
   simp only [LT,List.getElem?_map,Option.map_eq_some_iff] at hj
   obtain ⟨r,hr,rfl⟩:=hj
   exact dstF_none ((side j r hr hne).1 t (by rw [q4];exact ht))
  have agH:∀ k∈foot ops[i] (restrT (tget T) (tsOf ops ops[i])) (tsOf ops ops[i]) H,hget H k=hget (hD (fun i=>listed.getD i false) 0 recs s.H) k:=by
   intro k hk
   rw [q7,hD_get r2]
   refine stG_agree (fun j f hj hne=>?_) rfl
   simp only [LH,List.getElem?_map,Option.map_eq_some_iff] at hj
   obtain ⟨r,hr,rfl⟩:=hj
   exact look_none fun y=>(side j r hr hne).2 k (by rw [q5,q4];exact hk) y
  rw [opEff_congr agT agH] at q2
  have hcr:okConds recs[i].r.conds:=by
   have:∀ (L:List Rec) (j:Nat) (r:Rec),okConds (recConds L)→L[j]? = some r→okConds r.r.conds:=by
    intro L
    induction L with
    | nil=>intro j r _ h;simp at h
    | cons q L ihL =>
     intro j r hcL hj
     obtain ⟨c1,c2⟩:=okConds_append.1 hcL
     cases j with
     | zero=>simp at hj;subst hj;exact c1
     | succ j=>exact ihL j r c2 (by simpa using hj)
   exact this recs i _ hc hrec
  have keysW:∀ k y,(k,y)∈recs[i].r.upd→k∈W:=by
   intro k y hk
   refine hW k ?_
   have:∀ (L:List Rec) (r:Rec),r∈L→k∈updKeys r.r.upd→k∈recKeys L:=by
    intro L
    induction L with
    | nil=>intro r h;cases h
    | cons q L ihL =>
     intro r hr hkr
     simp only [recKeys,cat_eq,List.mem_append]
     rcases List.mem_cons.1 hr with rfl | hr
     ·exact .inl hkr
     ·exact .inr (ihL r hr hkr)
   exact this recs _ (List.getElem_mem _) (updKeys_mem.2 ⟨y,hk⟩)
  have freeH:∀ b,recs[i].fr≤b→b<recs[i].fr+recs[i].r.nw→hget (hD (fun i=>listed.getD i false) 0 recs s.H) b=none:=by
   intro b h1 h2
   have e:=q11 b h1
   rw [q7] at e
   rw [hD_get r2,← e]
   refine stG_agree (fun j f hj hne=>?_) rfl
   simp only [LH,List.getElem?_map,Option.map_eq_some_iff] at hj
   obtain ⟨r,hr,rfl⟩:=hj
   refine look_none fun y hy=>?_
   obtain ⟨o2,T2,H2,path2,w1,w2,_,w4,w5,_,_,_,w9,w10,w11⟩:=r5 j r hr
   have hu2:=opEff_upd w2 (fun b h1 _=>w11 b h1)
   simp only [Nat.zero_add] at hne
   rcases Nat.lt_trichotomy j i with hlt | rfl | hlt
   ·have:=r6 j i r _ hr hrec hlt
    rcases (updOk_spec hu2).1 b y hy with hh | ⟨_,hh,_⟩
    ·have hh:=rwK_isSome hh;rw [w11 b (by omega)] at hh;cases hh
    ·omega
   ·have hb:Nat.blt j j=false:=by cases h:Nat.blt j j with | false=>rfl | true=>exact absurd ((blt j).1 h) (by omega)
    rw [hb,hnl'] at hne;exact absurd rfl hne
   ·have hb:Nat.blt j i=false:=by cases h:Nat.blt j i with | false=>rfl | true=>exact absurd ((blt j).1 h) (by omega)
    rw [hb] at hne
    have hl:listed.getD j false=true:=by cases h:listed.getD j false with | true=>rfl | false=>rw [h] at hne;exact absurd rfl hne
    have hind:=later j r hr hlt hl
    have h6:=r6 i j _ r hrec hr hlt
    rcases opEff_keys w2 b y hy with hh | ⟨hh,_⟩
    ·rw [← w4,← w5] at hh
     exact outside_spec (Bool.and_eq_true_iff.1 hind).1 b hh h1 h2
    ·omega
  refine opEff_wp hO hi.tmp hi.good q2 hcr (hfr i _ hrec hnl') freeH ho fun u w' β' hE hG=>?_
  have hset:∀ j,(listed.setIfInBounds i true).getD j false=if j=i then true else listed.getD j false:=by
   intro j
   rw [Array.getD_eq_getD_getElem?,Array.getD_eq_getD_getElem?]
   by_cases hji:j=i
   ·subst hji;rw [Array.getElem?_setIfInBounds_self_of_lt (by omega)];simp
   ·rw [Array.getElem?_setIfInBounds_ne (Ne.symm hji),if_neg hji]
  have hst:=hi.step hE hG keysW (d:=ops[i].dst) (fun t ht=>by rw [← hn];exact q8 t ht)
  refine ih _ β' _ w' (by simpa using hsz) ?_ (hst.congr (fun t=>?_) (fun b=>?_)) ?_ ?_ ?_
  ·have hlt:left (listed.setIfInBounds i true) ops.size<left listed ops.size:=by
    refine countP_lt_of _ _ _ i hrange hnl ?_ ?_
    ·rw [Array.getD_eq_getD_getElem?,Array.getElem?_setIfInBounds_self_of_lt (by omega)];rfl
    ·intro j _ hj
     by_cases hji:j=i
     ·subst hji;exact hnl
     ·rw [Array.getD_eq_getD_getElem?,Array.getElem?_setIfInBounds_ne (Ne.symm hji),← Array.getD_eq_getD_getElem?] at hj;exact hj
   omega
  ·rw [upT_upd1]
   have hf:(LT recs)[i]? = some (dstF ops[i].dst recs[i].r.val):=by simp [LT,hrec,q3]
   refine (stG_insert hf (by rw [Nat.zero_add];exact hnl') (by rw [Nat.zero_add,hset,if_pos rfl]) (fun j hj=>by rw [Nat.zero_add,hset,if_neg hj]) ?_).symm
   intro j g hg hlt hl
   simp only [LT,List.getElem?_map,Option.map_eq_some_iff] at hg
   obtain ⟨r,hr,rfl⟩:=hg
   rw [Nat.zero_add] at hl
   obtain ⟨_,_,p3,_⟩:=indep_parts (later j r hr hlt hl)
   by_cases hd:ops[i].dst=some t
   ·exact .inl (dstF_none (p3 t (by rw [q3];exact hd)))
   ·exact .inr (dstF_none hd)
  ·rw [hget_happly_upd1 (r2 _ (List.getElem_mem _)),hD_get r2]
   have hf:(LH recs)[i]? = some (look recs[i].r.upd):=by simp [LH,hrec]
   have hfun:hget (hD (fun i=>listed.getD i false) 0 recs s.H)=stG (fun i=>listed.getD i false) 0 (LH recs) (hget s.H):=funext (hD_get r2)
   rw [hfun]
   refine (stG_insert hf (by rw [Nat.zero_add];exact hnl') (by rw [Nat.zero_add,hset,if_pos rfl]) (fun j hj=>by rw [Nat.zero_add,hset,if_neg hj]) ?_).symm
   intro j g hg hlt hl
   simp only [LH,List.getElem?_map,Option.map_eq_some_iff] at hg
   obtain ⟨r,hr,rfl⟩:=hg
   rw [Nat.zero_add] at hl
   obtain ⟨_,_,_,_,_,p6⟩:=indep_parts (later j r hr hlt hl)
   by_cases hk:∃ y,(b,y)∈recs[i].r.upd
   ·obtain ⟨y,hy⟩:=hk
    exact .inl (look_none fun y' hy'=>p6 b y y' hy hy')
   ·exact .inr (look_none fun y hy=>hk ⟨y,hy⟩)
  ·intro b hb
   cases hβ:β' b with
   | none=>rfl
   | some X =>
    rcases hE.new b X hβ with h | ⟨_,h,_⟩
    ·rw [hf b hb] at h;cases h
    ·omega
  ·intro j r hj hl b h1 h2
   rw [hset] at hl
   by_cases hji:j=i
   ·rw [if_pos hji] at hl;cases hl
   ·rw [if_neg hji] at hl
    cases hβ:β' b with
    | none=>rfl
    | some X =>
     rcases hE.new b X hβ with h | ⟨h3,h4,_⟩
     ·rw [hfr j r hj hl b h1 h2] at h;cases h
     ·rcases Nat.lt_or_ge j i with hlt | hge
      ·have:=r6 j i r _ hj hrec hlt;omega
      ·have:=r6 i j _ r hrec hj (by omega);omega
  ·intro j hj k hk
   rw [hset] at hj ⊢
   by_cases hki:k=i
   ·rw [if_pos hki]
   ·rw [if_neg hki]
    by_cases hji:j=i
    ·subst hji;exact hbits k hk
    ·rw [if_neg hji] at hj;exact hclosed j hj k hk
end
end Go.Proofs.YtjlcdlekmpjjnaaGreat.Ex
/- The executor's steps through a function's code, and what a run says of a call. -/
namespace Go.Proofs.YtjlcdlekmpjjnaaGreat.Ex
structure ASt where
 todo:List Item
 s:St
structure Log where
 conds:List (Bool×Bool)
 keys:List Nat
def aRegion (P:Program) (O:Orc) (ops:Array Oper) (draw:Bool) (s:St):Option (Log×St) :=
 match runOps P O ops ops.toList 0 s with
 | some (recs,s')=>match draw with
  | false=>some (⟨recConds recs,recKeys recs⟩,s')
  | true=>match chkAll recs (masks ops.toList []) 0,allEdges ops.toList 0 with
   | true,true=>some (⟨recConds recs,recKeys recs⟩,s')
   | _,_=>none
 | none=>none
def aStep (P:Program) (O:Orc) (x:ASt):Option (Log×ASt) :=
 match x.todo with
 | .code .skip::k=>some (⟨[],[]⟩,⟨k,x.s⟩)
 | .code (.label _)::k=>some (⟨[],[]⟩,⟨k,x.s⟩)
 | .inBlock _::k=>some (⟨[],[]⟩,⟨k,x.s⟩)
 | .inScope _::k=>some (⟨[],[]⟩,⟨k,x.s⟩)
 | .code (.seq a b)::k=>some (⟨[],[]⟩,⟨.code a::.code b::k,x.s⟩)
 | .code (.cond c a b)::k=>match evO (tget x.s.T) c with
  | some (.val false [.b true])=>some (⟨[],[]⟩,⟨.code a::k,x.s⟩)
  | some (.val false [.b false])=>some (⟨[],[]⟩,⟨.code b::k,x.s⟩)
  | some (.val false [.v (.bool z)])=>match x.s.path with
   | true::rest=>some (⟨[(z,true)],[]⟩,⟨.code a::k,{ x.s with path:=rest }⟩)
   | false::rest=>some (⟨[(z,false)],[]⟩,⟨.code b::k,{ x.s with path:=rest }⟩)
   | []=>none
  | _=>none
 | .code (.block id c)::k=>some (⟨[],[]⟩,⟨.code c::.inBlock id::k,x.s⟩)
 | .code (.loop c)::k=>some (⟨[],[]⟩,⟨.code c::.inLoop c::k,x.s⟩)
 | .inLoop c::k=>some (⟨[],[]⟩,⟨.code c::.inLoop c::k,x.s⟩)
 | .code (.scope c)::k=>some (⟨[],[]⟩,⟨.code c::.inScope c::k,x.s⟩)
 | .code (.exit id)::k=>match exitTo id k with
  | some k'=>some (⟨[],[]⟩,⟨k',x.s⟩)
  | none=>none
 | .code (.goto l)::k=>match gotoIn l k with
  | some k'=>some (⟨[],[]⟩,⟨k',x.s⟩)
  | none=>none
 | .code (.region _ ops draw)::k=>match aRegion P O ops draw x.s with
  | some (g,s')=>some (g,⟨k,s'⟩)
  | none=>none
 | _=>none
def Safe (P:Program) (f:FuncId) (R:Ending→World→Prop) (todo:List Item) (a:Act) (w:World):Prop :=
 ∀ (b:Frame) (cs:List Frame),b.fn=f→b.kind=.normal→∃ e w' fr,R e w'∧Comes P (lone (b.at a todo) cs w) (lone fr cs w') e∧fr.fn=f∧fr.leaving P w' e
section
variable {P:Program} {f:FuncId} {R:Ending→World→Prop} {a:Act} {w:World} {k:List Item}
theorem Safe.of_step {todo todo':List Item} (h:∀ (b:Frame) (cs:List Frame),step P (lone (b.at a todo) cs w)=.next (lone (b.at a todo') cs w)) (hs:Safe P f R todo' a w):Safe P f R todo a w:=by
 intro b cs hb hk
 obtain ⟨e,w',fr,h1,h2,h3,h4⟩:=hs b cs hb hk
 exact ⟨e,w',fr,h1,.of_steps (.one (h b cs)) h2,h3,h4⟩
theorem Safe.of_wp {c:Code} {k:List Item} (h:c.wp P (fun e a' w'=>e=.normal∧Safe P f R k a' w') a w):Safe P f R (.code c::k) a w:=by
 intro b cs hb hk
 obtain ⟨e,a',w',⟨he,hs⟩,harr⟩:=h b k cs
 subst he
 obtain ⟨e,w'',fr,h1,h2,h3,h4⟩:=hs b cs hb hk
 exact ⟨e,w'',fr,h1,.of_steps harr h2,h3,h4⟩
theorem step_scope {b:Frame} {cs:List Frame} {c:Code}:step P (lone (b.at a (.code (.scope c)::k)) cs w)=.next (lone (b.at a (.code c::.inScope c::k)) cs w) :=
 step_lone_go (by simp [stepG,stepG.exec,Frame.at])
theorem step_inScope {b:Frame} {cs:List Frame} {c:Code}:step P (lone (b.at a (.inScope c::k)) cs w)=.next (lone (b.at a k) cs w) :=
 step_lone_go (by simp [stepG,stepG.exec,Frame.at])
theorem Safe.done {fn:Func} {v:Value} {todo:List Item} (hfn:P.funcs[f]? = some fn) (hd:a.defers=[]) (hr:(results fn a.tmps).run P w=.ok v w) (hR:R (.returned v) w)
  (ht:(∃ k,todo=.code .ret::k)∨todo=[]):Safe P f R todo a w:=by
 intro b cs hb hk
 rcases ht with ⟨k,rfl⟩ | rfl
 ·exact ⟨.returned v,w,{ b.at a (.code .ret::k) with mode:=.returning },hR,Steps.one step_ret,hb,rfl,hd,hk,fn,by show P.funcs[b.fn]? = some fn;rw [hb];exact hfn,hr⟩
 ·exact ⟨.returned v,w,{ b.at a [] with mode:=.returning },hR,Steps.one step_end,hb,rfl,hd,hk,fn,by show P.funcs[b.fn]? = some fn;rw [hb];exact hfn,hr⟩
end
def ASafe (P:Program) (f:FuncId) (β0:Env) (w0:World) (R:Ending→World→Prop) (n:Fz) (W:List Nat) (x:ASt):Prop :=
 ∀ (β:Env) (a:Act) (w:World),Inv β0 w0 W n β (tget x.s.T) x.s.H a w→(∀ b,x.s.fr≤b→β b=none)→Safe P f R x.todo a w
def wfSt (n:Fz) (s:St):Prop:=(∀ b,s.fr≤b→hget s.H b=none)∧s.T.length=n.n
theorem Inv.mono {β0:Env} {w0:World} {W W':List Nat} {n:Fz} {β:Env} {τ:Nat→AV} {H:Heap} {a:Act} {w:World} (i:Inv β0 w0 W n β τ H a w) (h:∀ k∈W,k∈W'):Inv β0 w0 W' n β τ H a w :=
 { i with
  new:=fun b X hb=>(i.new b X hb).imp id fun q B m e=>(q B m e).imp id fun ⟨k,m',h1,h2⟩=>⟨k,m',h k h1,h2⟩
  frame:=fun B hB hno=>i.frame B hB fun k m hk=>hno k m (h k hk) }
section
variable {P:Program} {O:Orc} (hO:OrcOk P O) (hm:P.follows .mixedOrders=true) {f:FuncId} {β0:Env} {w0:World} {R:Ending→World→Prop} {n:Fz} {W:List Nat}
include hO hm
theorem region_safe {id:Nat} {ops:Array Oper} {draw:Bool} {s s':St} {g:Log} {k:List Item} (h:aRegion P O ops draw s=some (g,s')) (hc:okConds g.conds) (hwf:wfSt n s)
  (hs:ASafe P f β0 w0 R n (W++g.keys) ⟨k,s'⟩):ASafe P f β0 w0 R n W ⟨.code (.region id ops draw)::k,s⟩:=by
 intro β a w hi hf
 obtain ⟨hfH,hn⟩:=hwf
 have hi':=hi.mono (W':=W++g.keys) (fun k hk=>List.mem_append.2 (.inl hk))
 unfold aRegion at h
 split at h
 ·rename_i recs s1 hrun
  split at h
  ·injection h with h;injection h with h1 h2;subst h1;subst h2
   refine Safe.of_wp (wp_region ?_)
   have:=seq_ok hO (Q:=fun e a' w'=>e=.normal∧Safe P f R k a' w') ops.toList 0 s s1 recs β a w (by simp) hrun hc hi' hf hfH hn (fun k hk=>List.mem_append.2 (.inr hk)) (fun β a w hi hf=>⟨rfl,hs β a w hi hf⟩)
   rw [List.range_eq_range']
   simpa using this
  ·split at h
   ·rename_i hchk hedge
    injection h with h;injection h with h1 h2;subst h1;subst h2
    refine Safe.of_wp (wp_region_any hm ?_)
    obtain ⟨r1,r2,r3,r4,r5,r6⟩:=runOps_all hrun hfH
    have hlist:∀ j,(Array.replicate ops.size false).getD j false=false:=by
     intro j
     rw [Array.getD_eq_getD_getElem?,Array.getElem?_replicate]
     split<;>rfl
    have e2:∀ {X:Type} (L:List (Nat→Option X)) (i:Nat) (s:Nat→X),stG (fun i=>(Array.replicate ops.size false).getD i false) i L s=s:=by
     intro X L
     induction L with
     | nil=>intro i s;rfl
     | cons f L ih=>intro i s;rw [stG,hlist];exact ih _ _
    refine any_ok hO (Q:=fun e a' w'=>e=.normal∧Safe P f R k a' w') hrun hchk hedge hc hfH hn (fun k hk=>List.mem_append.2 (.inr hk)) (fun β a w hi hf=>⟨rfl,hs β a w hi hf⟩) _ _ β a _ (by simp) ?_ ?_ ?_ ?_ ?_
    ·refine Nat.le_trans List.countP_le_length ?_
     simp
    ·refine (hi'.drew).congr (fun t=>by rw [e2]) (fun b=>by rw [hD_get r2,e2])
    ·intro b hb
     have:s.fr≤s1.fr:=(runOps_fresh hrun hfH).2.1
     exact hf b (Nat.le_trans this hb)
    ·intro j r hj _ b h1 h2
     obtain ⟨_,_,_,_,_,_,_,_,_,_,_,_,q9,_⟩:=r5 j r hj
     exact hf b (Nat.le_trans q9 h1)
    ·intro j hj
     rw [hlist] at hj;cases hj
   ·cases h
 ·cases h
theorem step_safe {x y:ASt} {g:Log} (h:aStep P O x=some (g,y)) (hc:okConds g.conds) (hwf:wfSt n x.s) (hs:ASafe P f β0 w0 R n (W++g.keys) y):ASafe P f β0 w0 R n W x:=by
 obtain ⟨todo,s⟩:=x
 unfold aStep at h
 simp only at h
 have pl:∀ {k':List Item},(⟨[],[]⟩,⟨k',s⟩)=(g,y)→(∀ (a:Act) (w:World) (b:Frame) (cs:List Frame),step P (lone (b.at a todo) cs w)=.next (lone (b.at a k') cs w))→ASafe P f β0 w0 R n W ⟨todo,s⟩:=by
  intro k' he hst β a w hi hf
  injection he with h1 h2;subst h1;subst h2
  exact Safe.of_step (hst a w) (hs β a w (by simpa using hi) hf)
 split at h
 all_goals first | (cases h;done) | skip
 ·injection h with h;exact pl h (fun _ _ _ _=>step_skip)
 ·injection h with h;exact pl h (fun _ _ _ _=>step_label)
 ·injection h with h;exact pl h (fun _ _ _ _=>step_inBlock)
 ·injection h with h;exact pl h (fun _ _ _ _=>step_inScope)
 ·injection h with h;exact pl h (fun _ _ _ _=>step_seq)
 ·rename_i c ca cb k
  have cond:∀ (z:Bool) (path':List Bool) (cc:List (Bool×Bool)),(⟨cc,[]⟩,⟨.code (if z then ca else cb)::k,{ s with path:=path' }⟩)=(g,y)→(okConds cc→∀ (β:Env) (a:Act),(∀ t,relA β (tget s.T t) (a.tmps.getD t undef))→a.eval c=.bool z)→ASafe P f β0 w0 R n W ⟨.code (.cond c ca cb)::k,s⟩:=by
   intro z path' cc he hev β a w hi hf
   injection he with h1 h2;subst h1;subst h2
   refine Safe.of_step (fun b cs=>step_cond (hev hc β a hi.tmp)) (hs β a w (by simpa using hi) hf)
  split at h
  ·rename_i hev
   injection h with h
   refine cond true s.path [] (by simpa using h) fun _ β a ht=>?_
   have:=rel_one (evO_rel ht hev)
   simpa [relC] using this
  ·rename_i hev
   injection h with h
   refine cond false s.path [] (by simpa using h) fun _ β a ht=>?_
   have:=rel_one (evO_rel ht hev)
   simpa [relC] using this
  ·rename_i z hev
   split at h
   ·rename_i rest hp
    injection h with h
    refine cond true rest [(z,true)] (by simpa using h) fun hz β a ht=>?_
    have:=(rel_one (evO_rel ht hev)).1
    injection this with this _
    rw [this,hz.1]
   ·rename_i rest hp
    injection h with h
    refine cond false rest [(z,false)] (by simpa using h) fun hz β a ht=>?_
    have:=(rel_one (evO_rel ht hev)).1
    injection this with this _
    rw [this,hz.1]
   ·cases h
  ·cases h
 ·injection h with h;exact pl h (fun _ _ _ _=>step_block)
 ·injection h with h;exact pl h (fun _ _ _ _=>step_loop)
 ·injection h with h;exact pl h (fun _ _ _ _=>step_inLoop)
 ·injection h with h;exact pl h (fun _ _ _ _=>step_scope)
 ·split at h
  ·rename_i k' he
   injection h with h;exact pl h (fun _ _ _ _=>step_exit he)
  ·cases h
 ·split at h
  ·rename_i k' he
   injection h with h;exact pl h (fun _ _ _ _=>step_goto he)
  ·cases h
 ·split at h
  ·rename_i g' s' hr
   injection h with h;injection h with h1 h2;subst h1;subst h2
   exact region_safe hO hm hr hc hwf hs
  ·cases h
omit hO hm in
theorem aStep_wf {x y:ASt} {g:Log} (h:aStep P O x=some (g,y)) (hwf:wfSt n x.s):wfSt n y.s:=by
 obtain ⟨todo,s⟩:=x
 unfold aStep at h
 simp only at h hwf
 have pl:∀ {k':List Item} {c:Log},(c,(⟨k',s⟩:ASt))=(g,y)→wfSt n y.s:=by
  intro k' c he
  injection he with h1 h2;subst h2;exact hwf
 split at h
 all_goals first | (cases h;done) | skip
 all_goals first | (injection h with h;exact pl h) | skip
 ·split at h
  ·injection h with h;exact pl h
  ·injection h with h;exact pl h
  ·split at h
   ·injection h with h;injection h with h1 h2;subst h2;exact hwf
   ·injection h with h;injection h with h1 h2;subst h2;exact hwf
   ·cases h
  ·cases h
 ·split at h
  ·injection h with h;exact pl h
  ·cases h
 ·split at h
  ·injection h with h;exact pl h
  ·cases h
 ·split at h
  ·rename_i g' s' hr
   injection h with h;injection h with h1 h2;subst h2
   unfold aRegion at hr
   split at hr
   ·rename_i recs s1 hrun
    have:=runOps_fresh hrun hwf.1
    have hw:wfSt n s1:=⟨this.1,by rw [this.2.2];exact hwf.2⟩
    split at hr
    ·injection hr with hr;injection hr with _ hr;subst hr;exact hw
    ·split at hr
     ·injection hr with hr;injection hr with _ hr;subst hr;exact hw
     ·cases hr
   ·cases hr
  ·cases h
end
def isHead (stop:Option Nat) (before:List Item) (after:List Item):Bool :=
 match stop,before with
 | some d,.inLoop _::_=>match d with | 0=>true | d+1=>Nat.beq after.length (d+1)
 | some d,.code (.loop _)::_=>match d with | 0=>true | d+1=>Nat.beq after.length (d+1)
 | _,_=>false
def aEnd:List Item→Bool
 | []=>true
 | .code .ret::_=>true
 | _=>false
def aRun (P:Program) (O:Orc) (stop:Option Nat):Nat→ASt→Option (Log×ASt)
 | 0,_=>none
 | n+1,x=>match aEnd x.todo with
  | true=>some (⟨[],[]⟩,x)
  | false=>match aStep P O x with
   | some (g,y)=>match isHead stop x.todo y.todo with
    | true=>some (g,y)
    | false=>match aRun P O stop n y with
     | some (g',z)=>some (⟨g.conds++g'.conds,cat g.keys g'.keys⟩,z)
     | none=>none
   | none=>none
section
variable {P:Program} {O:Orc} (hO:OrcOk P O) (hm:P.follows .mixedOrders=true) {f:FuncId} {β0:Env} {w0:World} {R:Ending→World→Prop} {n:Fz}
include hO hm
theorem run_safe {stop:Option Nat}:∀ {m:Nat} {W:List Nat} {x y:ASt} {g:Log},aRun P O stop m x=some (g,y)→okConds g.conds→wfSt n x.s→(wfSt n y.s→ASafe P f β0 w0 R n (W++g.keys) y)→ASafe P f β0 w0 R n W x
 | 0,_,_,_,_,h,_,_,_=>by simp [aRun] at h
 | m+1,W,x,y,g,h,hc,hwf,hs=>by
  simp only [aRun] at h
  split at h
  ·injection h with h;injection h with h1 h2;subst h1;subst h2
   have:=hs hwf
   simpa using this
  ·split at h
   ·rename_i g1 y1 hst
    split at h
    ·injection h with h;injection h with h1 h2;subst h1;subst h2
     exact step_safe hO hm hst hc hwf (hs (aStep_wf hst hwf))
    ·split at h
     ·rename_i g2 z hr
      injection h with h;injection h with h1 h2;subst h1;subst h2
      obtain ⟨c1,c2⟩:=okConds_append.1 hc
      refine step_safe hO hm hst c1 hwf (run_safe hr c2 (aStep_wf hst hwf) fun hw=>?_)
      have:=hs hw
      simpa [cat_eq] using this
     ·cases h
   ·cases h
end
def aResult (P:Program) (T:List AV) (H:Heap):ResultVar→Option (Bool×List Ch)
 | .tmp t=>match tget T t with
  | .val g cs=>some (g,cs)
  | _=>none
 | .cell a t=>match tget T a with
  | .val false [.p bk off]=>match hget H bk with
   | some blk=>match loadCs P t blk.cs off [] with
    | some r=>match r.conds,r.val with
     | [],.val g cs=>some (g,cs)
     | _,_=>none
    | none=>none
   | none=>none
  | _=>none
def aResults (P:Program) (T:List AV) (H:Heap):List ResultVar→Option (List (Bool×List Ch))
 | []=>some []
 | x::r=>match aResult P T H x,aResults P T H r with
  | some a,some l=>some (a::l)
  | _,_=>none
def oneOf (l:List (Bool×List Ch)):AV:=match l with
 | [(g,cs)]=>.val g cs
 | l=>.tup l
theorem aResult_run {P:Program} {β:Env} {T:List AV} {H:Heap} {tmps:Array Value} {w:World} (ht:∀ t,relA β (tget T t) (tmps.getD t undef)) (g:Good β H w) {x:ResultVar} {a:Bool×List Ch} (h:aResult P T H x=some a) :
  ∃ u,((match x with | .tmp t=>pure (tmps.getD t undef) | .cell a t=>do loadVar t (← asAddr (tmps.getD a undef)):Sem Value)).run P w=.ok u w∧relG β a.1 a.2 u:=by
 unfold aResult at h
 split at h
 ·rename_i t
  split at h
  ·rename_i gg cs hT
   injection h with h;subst h
   have:=ht t
   rw [hT] at this
   exact ⟨_,rfl,this⟩
  ·cases h
 ·rename_i ad t
  split at h
  ·rename_i bk off hT
   split at h
   ·rename_i blk hb
    split at h
    ·rename_i r hl
     split at h
     ·rename_i gg cs hcv hvv
      injection h with h;subst h
      have:=ht ad
      rw [hT] at this
      obtain ⟨B',n',e4,e5⟩:=rel_one this
      injection e5 with e5 _
      rcases g.heap _ _ hb with ⟨B,n,l,t',pre,ty',fz,e1,e2,e3,e0,_⟩ | ⟨e1,_⟩
      ·rw [e1] at e4;injection e4 with e4;injection e4 with e4 e4';subst e4;subst e4'
       obtain ⟨v,hv,he⟩:=loadCs_sound g e2 e3 hl (by rw [hcv];trivial) 0
       rw [e0] at hv
       refine ⟨v,?_,?_⟩
       ·simp only [e5,asAddr,Sem.run_bind,Sem.run_pure,Result.andThen_ok,hv]
       ·have:=he.val
        rw [hvv] at this
        exact this
      ·rw [e1] at e4;cases e4
     ·cases h
    ·cases h
   ·cases h
  ·cases h
theorem aResults_run {P:Program} {β:Env} {T:List AV} {H:Heap} {fn:Func} {tmps:Array Value} {w:World} (ht:∀ t,relA β (tget T t) (tmps.getD t undef)) (g:Good β H w) {l:List (Bool×List Ch)} (h:aResults P T H fn.results.toList=some l) :
  ∃ v,(results fn tmps).run P w=.ok v w∧relA β (oneOf l) v:=by
 have key:∀ (rs:List ResultVar) (l:List (Bool×List Ch)),aResults P T H rs=some l →
   ∃ us,(rs.mapM (m:=Sem) fun | .tmp t=>pure (tmps.getD t undef) | .cell a t=>do loadVar t (← asAddr (tmps.getD a undef))).run P w=.ok us w∧relT β l us:=by
  intro rs
  induction rs with
  | nil=>intro l h;simp only [aResults,Option.some.injEq] at h;subst h;exact ⟨[],by simp,rfl⟩
  | cons x rs ih =>
   intro l h
   simp only [aResults] at h
   split at h
   ·rename_i a l' h1 h2
    injection h with h;subst h
    obtain ⟨u,hu,hr⟩:=aResult_run ht g h1
    obtain ⟨us,hus,hrs⟩:=ih l' h2
    refine ⟨u::us,?_,u,us,hr,hrs,rfl⟩
    rw [List.mapM_cons,Sem.run_bind,hu]
    simp only [Result.andThen_ok,Sem.run_bind,hus,Sem.run_pure]
   ·cases h
 obtain ⟨us,hus,hrel⟩:=key _ _ h
 unfold results
 rw [Array.mapM_eq_mapM_toList,Sem.run_bind,Sem.run_map]
 refine ⟨if h:us.toArray.size=1 then us.toArray[0] else .tuple us.toArray,?_,?_⟩
 ·have e:∀ (x:Sem (List Value)),x.run P w=.ok us w→((x.run P w).andThen fun a w'=>Result.ok a.toArray w').andThen (fun vs w'=>Result.ok (if h:vs.size=1 then vs[0] else Value.tuple vs) w')=.ok (if h:us.toArray.size=1 then us.toArray[0] else .tuple us.toArray) w:=by
   intro x hx;rw [hx];rfl
  exact e _ hus
 unfold oneOf
 split
 ·rename_i gg cs
  obtain ⟨u,l',h1,h2,h3⟩:=hrel
  simp only [relT] at h2;subst h2;subst h3
  show relA β (.val gg cs) u
  exact h1
 ·rename_i hno
  have hlen:us.length=l.length:=by
   have:∀ (l:List (Bool×List Ch)) (us:List Value),relT β l us→us.length=l.length:=by
    intro l
    induction l with
    | nil=>intro us h;simp only [relT] at h;simp [h]
    | cons x l ih=>intro us ⟨u,l',h1,h2,h3⟩;simp [h3,ih _ h2]
   exact this _ _ hrel
  rw [dif_neg (by
   intro h1
   have:l.length=1:=by rw [← hlen];simpa using h1
   obtain ⟨⟨gg,cs⟩,rfl⟩:=List.length_eq_one_iff.1 this
   exact hno gg cs rfl)]
  exact ⟨us,hrel,rfl⟩
end Go.Proofs.YtjlcdlekmpjjnaaGreat.Ex
/- What a run of the executor says of a call of the function: contracts. -/
namespace Go.Proofs.YtjlcdlekmpjjnaaGreat.Ex
open Go.RowKit (Below)
def pads:Nat→List AV
 | 0=>[]
 | n+1=>.tup []::pads n
def acat:List AV→List AV→List AV
 | [],l=>l
 | x::r,l=>x::acat r l
theorem acat_eq:∀ (a b:List AV),acat a b=a++b
 | [],_=>rfl
 | x::r,b=>by simp [acat,acat_eq r b]
theorem pads_length:∀ n,(pads n).length=n
 | 0=>rfl
 | n+1=>by simp [pads,pads_length n]
def alen:List AV→Nat
 | []=>0
 | _::r=>alen r+1
theorem alen_eq:∀ l:List AV,alen l=l.length
 | []=>rfl
 | _::r=>by simp [alen,alen_eq r]
def initT (args:List AV) (n:Nat):List AV:=acat args (pads (n-alen args))
theorem relAs_length {β:Env}:∀ {xs:List AV} {us:List Value},relAs β xs us→us.length=xs.length
 | [],us,h=>by simp only [relAs] at h;simp [h]
 | x::xs,us,⟨u,us',_,h2,h3⟩=>by simp [h3,relAs_length h2]
theorem tget_rel {β:Env}:∀ {xs:List AV} {us:List Value} (m:Nat),relAs β xs us→∀ t,relA β (tget (xs++pads m) t) ((us++List.replicate m undef).getD t undef)
 | [],us,0,h,t=>by simp only [relAs] at h;subst h;exact trivial
 | [],us,m+1,h,0=>by
  simp only [relAs] at h;subst h
  exact ⟨[],rfl,rfl⟩
 | [],us,m+1,h,t+1=>by
  simp only [relAs] at h;subst h
  have:=tget_rel (β:=β) (xs:=[]) (us:=[]) m rfl t
  simpa [pads,tget,List.replicate_succ] using this
 | x::xs,us,m,⟨u,us',h1,h2,h3⟩,0=>by subst h3;exact h1
 | x::xs,us,m,⟨u,us',h1,h2,h3⟩,t+1=>by
  subst h3
  have:=tget_rel m h2 t
  simpa [tget] using this
structure Out (β0:Env) (w0:World) (W:List Nat) (val:AV) (H:Heap) (u:Value) (w:World) (β:Env):Prop where
 val:relA β val u
 good:Good β H w
 new:∀ b X,β b=some X→β0 b=some X∨∀ B m,X=.at_ B m→w0.heap.size≤B∨∃ k m',k∈W∧β0 k=some (.at_ B m')
 ext:Env.le β0 β
 frame:∀ B,B<w0.heap.size→(∀ k m,k∈W→β0 k≠some (.at_ B m))→w.heap[B]? = w0.heap[B]?
 size:w0.heap.size≤w.heap.size
 os:w.os=w0.os
 tape:w.tape=w0.tape
 output:w.output=w0.output
def Outs (β0:Env) (w0:World) (W:List Nat) (val:AV) (H:Heap):Ending→World→Prop:=fun e w=>∃ u β,e=.returned u∧Out β0 w0 W val H u w β
section
variable {P:Program} {O:Orc} (hO:OrcOk P O) (hm:P.follows .mixedOrders=true) {f:FuncId} {fn:Func} {c:Code}
theorem calls_of_safe {R:Ending→World→Prop} (hfn:P.funcs[f]? = some fn) (hb:fn.body=some c) {args:List AV} {H:Heap} {fr:Nat} {path:List Bool} {β:Env} {us:List Value} {w:World} (hlen:args.length≤fn.ntmps)
  (h:ASafe P f β w R fn.ntmps [] ⟨[.code c],⟨initT args fn.ntmps,H,fr,path⟩⟩) (ha:relAs β args us) (hg:Good β H w) (hf:∀ b,fr≤b→β b=none):Calls P f ⟨us⟩ w R:=by
 have hul:=relAs_length ha
 have hs:=h β { tmps:=(⟨us⟩:Array Value)++Array.replicate (fn.ntmps-us.length) undef,defers:=[] } w ?_ hf
 ·intro cs
  let b:Frame:={ (default:Frame) with fn:=f,kind:=.normal }
  have henter:Frame.enter P f ⟨us⟩ .normal=b.at { tmps:=(⟨us⟩:Array Value)++Array.replicate (fn.ntmps-us.length) undef,defers:=[] } [.code c]:=by
   simp [Frame.enter,Frame.at,hfn,hb,b]
  rw [henter]
  exact hs b cs rfl rfl
 ·have hT:∀ t,relA β (tget (initT args fn.ntmps) t) (((⟨us⟩:Array Value)++Array.replicate (fn.ntmps-us.length) undef).getD t undef):=by
   intro t
   have:=tget_rel (fn.ntmps-us.length) ha t
   have e:((⟨us⟩:Array Value)++Array.replicate (fn.ntmps-us.length) undef).getD t undef=(us++List.replicate (fn.ntmps-us.length) undef).getD t undef:=by
    rw [Array.getD_eq_getD_getElem?,List.getD_eq_getElem?_getD,← Array.getElem?_toList]
    simp
   rw [e,initT,acat_eq,alen_eq,← hul]
   exact this
  exact ⟨hT,hg,by simp;omega,rfl,fun b X hb=>.inl hb,Env.le_refl _,fun _ _ _=>rfl,Nat.le_refl _,rfl,rfl,rfl⟩
theorem safe_end {β0:Env} {w0:World} {n:Fz} {W:List Nat} {y:ASt} {l:List (Bool×List Ch)} (hD:n.D=[]) (hfn:P.funcs[f]? = some fn) (hend:aEnd y.todo=true) (hres:aResults P y.s.T y.s.H fn.results.toList=some l) :
  ASafe P f β0 w0 (Outs β0 w0 W (oneOf l) y.s.H) n W y:=by
 intro β a w hi _
 obtain ⟨v,hv,hr⟩:=aResults_run hi.tmp hi.good hres
 refine Safe.done hfn (hi.dfr.trans hD) hv ⟨v,β,rfl,hr,hi.good,hi.new,hi.ext,hi.frame,hi.size,hi.os,hi.tape,hi.output⟩ ?_
 unfold aEnd at hend
 split at hend
 ·rename_i h;exact .inr h
 ·rename_i k h;exact .inl ⟨k,h⟩
 ·cases hend
def noKeys:AV→Bool
 | .val _ cs=>nilB (chsKeys cs)
 | .tup xs=>nilB (tupKeys xs)
 | .any=>false
def noKeysL:List AV→Bool
 | []=>true
 | x::r=>noKeys x&&noKeysL r
theorem relP_any {β β':Env}:∀ {caps:List (Nat×Nat)} {l:List Value},caps.map (·.1)=[]→relP β caps l→relP β' caps l
 | [],_,_,h=>h
 | _::_,_,h,_=>by simp at h
theorem relC_any {β β':Env} {c:Ch} {l:List Value} (hk:chKeys c=[]) (h:relC β c l):relC β' c l:=by
 cases c<;>simp only [chKeys] at hk<;>simp only [relC] at h ⊢
 case n=>exact h
 case b=>exact h
 case v=>exact h
 case p=>cases hk
 case sl=>cases hk
 case sx=>cases hk
 case num=>exact h
 case seq=>exact h
 case clo=>obtain ⟨ps,h1,h2⟩:=h;exact ⟨ps,relP_any hk h1,h2⟩
theorem relL_any {β β':Env}:∀ {cs:List Ch} {l:List Value},chsKeys cs=[]→relL β cs l→relL β' cs l
 | [],_,_,h=>h
 | c::cs,l,hk,⟨l1,l2,h1,h2,h3⟩=>by
  simp only [chsKeys,cat_eq,List.append_eq_nil_iff] at hk
  exact ⟨l1,l2,relC_any hk.1 h1,relL_any hk.2 h2,h3⟩
theorem relG_any {β β':Env} {g:Bool} {cs:List Ch} {u:Value} (hk:chsKeys cs=[]) (h:relG β g cs u):relG β' g cs u:=by
 cases g
 ·exact relL_any hk h
 ·obtain ⟨l,h1,h2⟩:=h;exact ⟨l,relL_any hk h1,h2⟩
theorem relT_any {β β':Env}:∀ {xs:List (Bool×List Ch)} {l:List Value},tupKeys xs=[]→relT β xs l→relT β' xs l
 | [],_,_,h=>h
 | (g,cs)::xs,l,hk,⟨u,l',h1,h2,h3⟩=>by
  simp only [tupKeys,cat_eq,List.append_eq_nil_iff] at hk
  exact ⟨u,l',relG_any hk.1 h1,relT_any hk.2 h2,h3⟩
theorem relA_any {β β':Env} {x:AV} {u:Value} (hk:noKeys x=true) (h:relA β x u):relA β' x u:=by
 cases x with
 | val g cs=>exact relG_any (nilB_spec hk) h
 | tup xs=>obtain ⟨us,h1,h2⟩:=h;exact ⟨us,relT_any (nilB_spec hk) h1,h2⟩
 | any=>cases hk
theorem relAs_any {β β':Env}:∀ {xs:List AV} {us:List Value},noKeysL xs=true→relAs β xs us→relAs β' xs us
 | [],_,_,h=>h
 | x::xs,us,hk,⟨u,us',h1,h2,h3⟩=>by
  have hk':=Bool.and_eq_true_iff.1 hk
  exact ⟨u,us',relA_any hk'.1 h1,relAs_any hk'.2 h2,h3⟩
def noEnv:Env:=fun _=>none
def PureOk (P:Program) (f:FuncId) (args:List AV) (v:AV):Prop :=
 ∀ (us:List Value) (w:World),relAs noEnv args us→Calls P f ⟨us⟩ w fun e w'=>∃ u,e=.returned u∧relA noEnv v u∧Below w.heap.size w w'
def pureRun (P:Program) (O:Orc) (fn:Func) (args:List AV) (path:List Bool) (fuel:Nat):Option (List (Bool×Bool)×AV) :=
 match fn.body with
 | some c=>match aRun P O none fuel ⟨[.code c],⟨initT args fn.ntmps,[],0,path⟩⟩ with
  | some (g,y)=>match aEnd y.todo,aResults P y.s.T y.s.H fn.results.toList,Nat.ble (alen args) fn.ntmps with
   | true,some l,true=>some (g.conds,oneOf l)
   | _,_,_=>none
  | none=>none
 | none=>none
theorem Good.none_ (w:World):Good noEnv [] w where
 heap:=fun b blk h=>by cases h
 inj:=fun b b' B n n' h=>by cases h
 lt:=fun b B n h=>by cases h
include hO hm in
theorem pure_ok (hfn:P.funcs[f]? = some fn) {args:List AV} {path:List Bool} {fuel:Nat} {conds:List (Bool×Bool)} {v:AV} (h:pureRun P O fn args path fuel=some (conds,v)) (hc:okConds conds) (hk:noKeys v=true):PureOk P f args v:=by
 unfold pureRun at h
 split at h
 case h_2=>cases h
 rename_i c hb
 split at h
 case h_2=>cases h
 rename_i g y hrun
 split at h
 case h_2=>cases h
 rename_i l hend hres hlen
 injection h with h;injection h with h1 h2;subst h1;subst h2
 intro us w ha
 have hlen':=Nat.le_of_ble_eq_true hlen
 rw [alen_eq] at hlen'
 refine Calls.mono (calls_of_safe (R:=Outs noEnv w g.keys (oneOf l) y.s.H) (fr:=0) (path:=path) hfn hb hlen' ?_ ha (Good.none_ w) (fun _ _=>rfl)) ?_
 ·refine run_safe hO hm hrun hc ⟨fun _ _=>rfl,?_⟩ fun _=>?_
  ·simp only [initT,acat_eq,alen_eq,List.length_append,pads_length];omega
  ·rw [List.nil_append];exact safe_end rfl hfn hend hres
 ·rintro e w' ⟨u,β,rfl,ho⟩
  exact ⟨u,rfl,relA_any hk ho.val,ho.os,ho.tape,ho.output,ho.size,fun k hk=>ho.frame k hk (fun _ _ _ h=>by cases h)⟩
theorem callX_of_calls {us:Array Value} {w:World} {R:Ending→World→Prop} (hfn:P.funcs[f]? = some fn) (hb:fn.body.isSome=true) (hname:(fn.name=="runtime.NumGoroutine")=false) (h:Calls P f us w R):CallX P f us w R:=by
 unfold CallX
 have h1:fn.name≠"runtime.NumGoroutine":=by simpa using hname
 have h2:¬ fn.body=none:=by cases hq:fn.body<;>simp [hq] at hb ⊢
 have:(callFunc f us).run P w=.ok (.enter f us) w:=by
  simp [callFunc,hfn,h1,h2]
 rw [this];exact h
def pureSpec (sp:List AV→Option AV):ASpec:=fun args _ _ path =>
 match noKeysL args,sp args with
 | true,some v=>match noKeys v with
  | true=>some (pureR v path)
  | false=>none
 | _,_=>none
theorem pureSpec_ok {sp:List AV→Option AV} (hfn:P.funcs[f]? = some fn) (hb:fn.body.isSome=true) (hname:(fn.name=="runtime.NumGoroutine")=false) (h:∀ args v,sp args=some v→PureOk P f args v):SpecOk P f (pureSpec sp):=by
 intro args H fr path r β us w hs hc ha hg hf
 unfold pureSpec at hs
 split at hs
 ·rename_i v hk hv
  split at hs
  ·rename_i hkv
   injection hs with hs;subst hs
   refine callX_of_calls hfn hb hname (Calls.mono (h args v hv us w (relAs_any hk ha)) ?_)
   rintro e w' ⟨u,rfl,hu,hbl⟩
   refine ⟨u,β,rfl,?_⟩
   exact ⟨Env.le_refl _,fun _ _ h=>.inl h,fun b B n hb=>Nat.lt_of_lt_of_le (hg.lt b B n hb) hbl.size,fun b b' _ _ _ h1 _ h3=>by simp [pureR] at h3;omega,relA_any hkv hu,fun _ _ h=>(by cases h),fun B hB _=>hbl.block B hB,hbl.size,hbl.os,hbl.tape,hbl.output⟩
  ·cases hs
 ·cases hs
def sumW (a b c:Int):Int:=(a+b+c) % 18446744073709551616
def carW (a b c:Int):Int:=(a+b+c) / 18446744073709551616
def difW (a b c:Int):Int:=(a-b-c) % 18446744073709551616
def borW (a b c:Int):Int:=if a<b+c then 1 else 0
def is01 (c:Int):Bool:=decide (0≤c∧c≤1)
def addSpec:ASpec:=fun args _ _ path =>
 match args with
 | [x,y,z]=>match asI (some x),asI (some y),asI (some z) with
  | some (_,.u64,a),some (_,.u64,b),some (_,.u64,c)=>some ⟨.tup [(false,[.v (.int .u64 (sumW a b c))]),(false,[.v (.int .u64 (carW a b c))])],[],0,[(is01 c,true)],path⟩
  | _,_,_=>none
 | _=>none
def subSpec:ASpec:=fun args _ _ path =>
 match args with
 | [x,y,z]=>match asI (some x),asI (some y),asI (some z) with
  | some (_,.u64,a),some (_,.u64,b),some (_,.u64,c)=>some ⟨.tup [(false,[.v (.int .u64 (difW a b c))]),(false,[.v (.int .u64 (borW a b c))])],[],0,[(is01 c,true)],path⟩
  | _,_,_=>none
 | _=>none
def sub64Entry:Array Value→Sem Value:=fun args=>do
 let (x,y,b) ← Extern.MathBitsCarry.three "Sub64" args
 pure (Extern.MathBitsCarry.pair ((x+Extern.MathBitsCarry.m64-y-b) % Extern.MathBitsCarry.m64) (if x<y+b then 1 else 0))
theorem callX_of_extern {e:Array Value→Sem Value} {us:Array Value} {w w':World} {v:Value} {R:Ending→World→Prop} (hfn:P.funcs[f]? = some fn) (hname:(fn.name=="runtime.NumGoroutine")=false) (hb:fn.body.isNone=true) (hn:Extern.findNext fn=none) (he:Extern.find fn=some e)
  (hr:(e us).run P w=.ok v w') (h:R (.returned v) w'):CallX P f us w R:=by
 unfold CallX
 rw [run_callFunc_extern hfn hname hb hn he us w,hr]
 exact h
theorem u64_bounds {a:Int} (h:has .u64 a):0≤a∧a<18446744073709551616:=by
 have:=(has_iff _ _).1 h
 simp only [hasB,Bool.and_eq_true,decide_eq_true_eq] at this
 omega
theorem has_u64 {a:Int} (h1:0≤a) (h2:a<18446744073709551616):has .u64 a:=by
 rw [has_iff]
 simp only [hasB,Bool.and_eq_true,decide_eq_true_eq]
 omega
theorem addSpec_ok (hfn:P.funcs[f]? = some fn) (hname:(fn.name=="runtime.NumGoroutine")=false) (hb:fn.body.isNone=true) (hn:Extern.findNext fn=none) (he:Extern.find fn=some add64Entry):SpecOk P f addSpec:=by
 intro args H fr path r β us w hs hc ha hg hf
 unfold addSpec at hs
 split at hs
 case h_2=>cases hs
 rename_i x y z
 split at hs
 case h_2=>cases hs
 rename_i c1 a c2 b c3 c hx hy hz
 injection hs with hs;subst hs
 obtain ⟨u1,us1,r1,ha,rfl⟩:=ha
 obtain ⟨u2,us2,r2,ha,rfl⟩:=ha
 obtain ⟨u3,us3,r3,ha,rfl⟩:=ha
 simp only [relAs] at ha
 subst ha
 obtain ⟨rfl,p1⟩:=asI_rel (β:=β) (u:=u1) (fun A hA=>by injection hA with hA;subst hA;exact r1) hx
 obtain ⟨rfl,p2⟩:=asI_rel (β:=β) (u:=u2) (fun A hA=>by injection hA with hA;subst hA;exact r2) hy
 obtain ⟨rfl,p3⟩:=asI_rel (β:=β) (u:=u3) (fun A hA=>by injection hA with hA;subst hA;exact r3) hz
 have hcc:=hc.1
 simp only [is01,decide_eq_true_eq] at hcc
 have b1:=u64_bounds p1
 have b2:=u64_bounds p2
 refine callX_of_extern hfn hname hb hn he (run_add64 a b c b1.1 b2.1 hcc.1 hcc.2 w) ⟨_,β,rfl,Eff.pure_ hg ⟨_,⟨_,_,rel_one' ⟨rfl,rfl,?_⟩,⟨_,_,rel_one' ⟨rfl,rfl,?_⟩,rfl,rfl⟩,rfl⟩,rfl⟩⟩
 ·show has .u64 ((a+b+c) % 18446744073709551616);exact has_u64 (by omega) (by omega)
 ·show has .u64 ((a+b+c) / 18446744073709551616);exact has_u64 (by omega) (by omega)
theorem run_sub64 (x y c:Int) (hx:0≤x∧x<18446744073709551616) (hy:0≤y∧y<18446744073709551616) (hc0:0≤c) (hc:c≤1) (w:World) :
  (sub64Entry #[.int .u64 x,.int .u64 y,.int .u64 c]).run P w=.ok (.tuple #[.int .u64 ((x-y-c) % 18446744073709551616),.int .u64 (if x<y+c then 1 else 0)]) w:=by
 have key:∀ k:Nat,k≤1→(sub64Entry #[.int .u64 x,.int .u64 y,.int .u64 (k:Int)]).run P w =
   .ok (Extern.MathBitsCarry.pair ((x.toNat+Extern.MathBitsCarry.m64-y.toNat-k) % Extern.MathBitsCarry.m64) (if x.toNat<y.toNat+k then 1 else 0)) w:=by
  intro k hk
  have:k=0∨k=1:=by omega
  rcases this with rfl | rfl<;>rfl
 obtain ⟨k,rfl⟩:=Int.eq_ofNat_of_zero_le hc0
 rw [key k (by omega)]
 obtain ⟨X,rfl⟩:=Int.eq_ofNat_of_zero_le hx.1
 obtain ⟨Y,rfl⟩:=Int.eq_ofNat_of_zero_le hy.1
 simp only [Extern.MathBitsCarry.pair,Extern.MathBitsCarry.m64,Int.toNat_natCast]
 have e1:(Int.ofNat ((X+2^64-Y-k) % 2^64))=((X:Int)-Y-k) % 18446744073709551616:=by
  have:(X+2^64-Y-k:Nat)=(X+18446744073709551616-Y-k:Nat):=rfl
  show (((X+18446744073709551616-Y-k) % 18446744073709551616:Nat):Int)=_
  omega
 have e2:(Int.ofNat (if X<Y+k then 1 else 0))=if (X:Int)<Y+k then 1 else 0:=by
  by_cases h:X<Y+k
  ·rw [if_pos h,if_pos (by omega)];rfl
  ·rw [if_neg h,if_neg (by omega)];rfl
 rw [e1,e2]
theorem subSpec_ok (hfn:P.funcs[f]? = some fn) (hname:(fn.name=="runtime.NumGoroutine")=false) (hb:fn.body.isNone=true) (hn:Extern.findNext fn=none) (he:Extern.find fn=some sub64Entry):SpecOk P f subSpec:=by
 intro args H fr path r β us w hs hc ha hg hf
 unfold subSpec at hs
 split at hs
 case h_2=>cases hs
 rename_i x y z
 split at hs
 case h_2=>cases hs
 rename_i c1 a c2 b c3 c hx hy hz
 injection hs with hs;subst hs
 obtain ⟨u1,us1,r1,ha,rfl⟩:=ha
 obtain ⟨u2,us2,r2,ha,rfl⟩:=ha
 obtain ⟨u3,us3,r3,ha,rfl⟩:=ha
 simp only [relAs] at ha
 subst ha
 obtain ⟨rfl,p1⟩:=asI_rel (β:=β) (u:=u1) (fun A hA=>by injection hA with hA;subst hA;exact r1) hx
 obtain ⟨rfl,p2⟩:=asI_rel (β:=β) (u:=u2) (fun A hA=>by injection hA with hA;subst hA;exact r2) hy
 obtain ⟨rfl,p3⟩:=asI_rel (β:=β) (u:=u3) (fun A hA=>by injection hA with hA;subst hA;exact r3) hz
 have hcc:=hc.1
 simp only [is01,decide_eq_true_eq] at hcc
 have b1:=u64_bounds p1
 have b2:=u64_bounds p2
 refine callX_of_extern hfn hname hb hn he (run_sub64 a b c b1 b2 hcc.1 hcc.2 w) ⟨_,β,rfl,Eff.pure_ hg ⟨_,⟨_,_,rel_one' ⟨rfl,rfl,?_⟩,⟨_,_,rel_one' ⟨rfl,rfl,?_⟩,rfl,rfl⟩,rfl⟩,rfl⟩⟩
 ·show has .u64 ((a-b-c) % 18446744073709551616);exact has_u64 (by omega) (by omega)
 ·show has .u64 (if a<b+c then 1 else 0)
  split<;>exact has_u64 (by omega) (by omega)
def lookS:List (FuncId×ASpec)→FuncId→Option ASpec
 | [],_=>none
 | (k,s)::r,f=>match Nat.beq k f with | true=>some s | false=>lookS r f
def lookK:List (TypeId×List (Option IntKind))→TypeId→Option (List (Option IntKind))
 | [],_=>none
 | (k,s)::r,f=>match Nat.beq k f with | true=>some s | false=>lookK r f
def orc (L:List (FuncId×ASpec)) (K:List (TypeId×List (Option IntKind))):Orc:=⟨lookS L,lookK K⟩
def SpecsOk (P:Program):List (FuncId×ASpec)→Prop
 | []=>True
 | (f,s)::r=>SpecOk P f s∧SpecsOk P r
def KindsOk (P:Program):List (TypeId×List (Option IntKind))→Prop
 | []=>True
 | (t,ks)::r=>(leafs P 20 t=some ks∧P.eqGuardType P.depth t=false∧(match P.underlying t with | some d=>wide d | none=>false)=true)∧KindsOk P r
theorem lookS_ok {L:List (FuncId×ASpec)} (h:SpecsOk P L) {f:FuncId} {s:ASpec} (hl:lookS L f=some s):SpecOk P f s:=by
 induction L with
 | nil=>cases hl
 | cons e L ih =>
  obtain ⟨k,q⟩:=e
  simp only [lookS] at hl
  split at hl
  ·rename_i hb
   injection hl with hl;subst hl
   rw [← nbeq.1 hb];exact h.1
  ·exact ih h.2 hl
theorem lookK_ok {L:List (TypeId×List (Option IntKind))} (h:KindsOk P L) {f:TypeId} {s:List (Option IntKind)} (hl:lookK L f=some s) :
  leafs P 20 f=some s∧P.eqGuardType P.depth f=false∧(match P.underlying f with | some d=>wide d | none=>false)=true:=by
 induction L with
 | nil=>cases hl
 | cons e L ih =>
  obtain ⟨k,q⟩:=e
  simp only [lookK] at hl
  split at hl
  ·rename_i hb
   injection hl with hl;subst hl
   rw [← nbeq.1 hb];exact h.1
  ·exact ih h.2 hl
theorem orc_ok {L:List (FuncId×ASpec)} {K:List (TypeId×List (Option IntKind))} (h:SpecsOk P L) (k:KindsOk P K):OrcOk P (orc L K) :=
 ⟨fun _ _ hl=>lookS_ok h hl,fun _ _ hl=>lookK_ok k hl⟩
end
end Go.Proofs.YtjlcdlekmpjjnaaGreat.Ex
/- Runs from one loop's head to the next: what is forgotten there. -/
namespace Go.Proofs.YtjlcdlekmpjjnaaGreat.Ex
def forgetT (keep:List Nat):Nat→List AV→List AV
 | _,[]=>[]
 | i,x::r=>match mem i keep with
  | true=>x::forgetT keep (i+1) r
  | false=>.any::forgetT keep (i+1) r
def allLt (n:Nat):List Nat→Bool
 | []=>true
 | k::r=>match Nat.blt k n with | true=>allLt n r | false=>false
def tLt (n:Nat):List AV→Bool
 | []=>true
 | x::r=>match allLt n (avKeys x) with | true=>tLt n r | false=>false
def hLt (n:Nat):Heap→Bool
 | []=>true
 | (k,y)::r=>match Nat.blt k n,y with
  | true,some blk=>match allLt n (chsKeys blk.cs) with | true=>hLt n r | false=>false
  | true,none=>hLt n r
  | false,_=>false
theorem nblt {a b:Nat}:Nat.blt a b=true↔a<b:=by unfold Nat.blt;exact ⟨Nat.le_of_ble_eq_true,Nat.ble_eq_true_of_le⟩
theorem allLt_spec {n:Nat}:∀ {l:List Nat},allLt n l=true→∀ k∈l,k<n
 | [],_,k,h=>by cases h
 | x::r,h,k,hk=>by
  simp only [allLt] at h
  split at h
  ·rename_i hb
   rcases List.mem_cons.1 hk with rfl | hk
   ·exact nblt.1 hb
   ·exact allLt_spec h k hk
  ·cases h
def cutEnv (β:Env) (n:Nat):Env:=fun b=>match Nat.blt b n with | true=>β b | false=>none
theorem cutEnv_lt {β:Env} {n b:Nat} (h:b<n):cutEnv β n b=β b:=by simp [cutEnv,nblt.2 h]
theorem cutEnv_ge {β:Env} {n b:Nat} (h:n≤b):cutEnv β n b=none:=by
 have:Nat.blt b n=false:=by cases hb:Nat.blt b n with | false=>rfl | true=>have:=nblt.1 hb;omega
 simp [cutEnv,this]
theorem cutEnv_some {β:Env} {n b:Nat} {X:Loc} (h:cutEnv β n b=some X):β b=some X∧b<n:=by
 rcases Nat.lt_or_ge b n with hlt | hge
 ·rw [cutEnv_lt hlt] at h;exact ⟨h,hlt⟩
 ·rw [cutEnv_ge hge] at h;cases h
section
variable {β β':Env}
theorem relP_on:∀ {caps:List (Nat×Nat)} {l:List Value},(∀ k∈caps.map (·.1),β' k=β k)→relP β caps l→relP β' caps l
 | [],_,_,h=>h
 | (b,o)::r,l,hk,⟨B,n,l',h1,h2,h3⟩=>⟨B,n,l',by rw [hk b (by simp)];exact h1,relP_on (fun k h=>hk k (by simp at h ⊢;exact .inr h)) h2,h3⟩
theorem relC_on {c:Ch} {l:List Value} (hk:∀ k∈chKeys c,β' k=β k) (h:relC β c l):relC β' c l:=by
 cases c<;>simp only [chKeys] at hk<;>simp only [relC] at h ⊢
 case n=>exact h
 case b=>exact h
 case v=>exact h
 case p=>rw [hk _ (by simp)];exact h
 case sl=>rw [hk _ (by simp)];exact h
 case sx=>rw [hk _ (by simp)];exact h
 case num=>exact h
 case seq=>exact h
 case clo=>obtain ⟨ps,h1,h2⟩:=h;exact ⟨ps,relP_on hk h1,h2⟩
theorem relL_on:∀ {cs:List Ch} {l:List Value},(∀ k∈chsKeys cs,β' k=β k)→relL β cs l→relL β' cs l
 | [],_,_,h=>h
 | c::cs,l,hk,⟨l1,l2,h1,h2,h3⟩=>by
  simp only [chsKeys,cat_eq,List.mem_append] at hk
  exact ⟨l1,l2,relC_on (fun k h=>hk k (.inl h)) h1,relL_on (fun k h=>hk k (.inr h)) h2,h3⟩
theorem relG_on {g:Bool} {cs:List Ch} {u:Value} (hk:∀ k∈chsKeys cs,β' k=β k) (h:relG β g cs u):relG β' g cs u:=by
 cases g
 ·exact relL_on hk h
 ·obtain ⟨l,h1,h2⟩:=h;exact ⟨l,relL_on hk h1,h2⟩
theorem relT_on:∀ {xs:List (Bool×List Ch)} {l:List Value},(∀ k∈tupKeys xs,β' k=β k)→relT β xs l→relT β' xs l
 | [],_,_,h=>h
 | (g,cs)::xs,l,hk,⟨u,l',h1,h2,h3⟩=>by
  simp only [tupKeys,cat_eq,List.mem_append] at hk
  exact ⟨u,l',relG_on (fun k h=>hk k (.inl h)) h1,relT_on (fun k h=>hk k (.inr h)) h2,h3⟩
theorem relA_on {x:AV} {u:Value} (hk:∀ k∈avKeys x,β' k=β k) (h:relA β x u):relA β' x u:=by
 cases x with
 | val g cs=>exact relG_on hk h
 | tup xs=>obtain ⟨us,h1,h2⟩:=h;exact ⟨us,relT_on hk h1,h2⟩
 | any=>trivial
end
def forget (keep ks:List Nat) (fr:Nat) (path:List Bool) (s:St):Option St :=
 match tLt fr (forgetT keep 0 s.T),hLt fr (restrict s.H ks) with
 | true,true=>some ⟨forgetT keep 0 s.T,restrict s.H ks,fr,path⟩
 | _,_=>none
theorem tLt_get {n:Nat}:∀ {T:List AV} {t:Nat},tLt n T=true→∀ k∈avKeys (tget T t),k<n
 | [],_,_,k,h=>by simp [tget,avKeys] at h
 | x::r,0,h,k,hk=>by
  simp only [tLt] at h
  split at h
  ·rename_i h1;exact allLt_spec h1 k hk
  ·cases h
 | x::r,t+1,h,k,hk=>by
  simp only [tLt] at h
  split at h
  ·exact tLt_get h k hk
  ·cases h
theorem hLt_get {n:Nat}:∀ {H:Heap} {b:Nat} {blk:Blk},hLt n H=true→hget H b=some blk→b<n∧∀ k∈chsKeys blk.cs,k<n
 | [],_,_,_,h=>by cases h
 | (k,y)::r,b,blk,h,hb=>by
  simp only [hLt] at h
  simp only [hget] at hb
  split at h
  ·rename_i hk
   split at h
   ·rename_i hall
    split at hb
    ·rename_i e;rw [← nbeq.1 e];injection hb with hb;subst hb;exact ⟨nblt.1 hk,allLt_spec hall⟩
    ·exact hLt_get h hb
   ·cases h
  ·rename_i hk
   split at hb
   ·cases hb
   ·exact hLt_get h hb
  ·cases h
theorem forgetT_get (keep:List Nat):∀ {T:List AV} {i t:Nat},tget (forgetT keep i T) t=tget T t∨tget (forgetT keep i T) t=.any
 | [],i,t=>.inl rfl
 | x::r,i,0=>by
  simp only [forgetT]
  split
  ·exact .inl rfl
  ·exact .inr rfl
 | x::r,i,t+1=>by
  simp only [forgetT]
  split<;>exact forgetT_get keep
theorem forgetT_length (keep:List Nat):∀ {T:List AV} {i:Nat},(forgetT keep i T).length=T.length
 | [],_=>rfl
 | x::r,i=>by simp only [forgetT];split<;>simp [forgetT_length keep]
section
variable {P:Program} {O:Orc} {f:FuncId} {β0:Env} {w0:World} {R:Ending→World→Prop} {n:Fz} {W:List Nat}
theorem forget_wf {keep ks:List Nat} {fr:Nat} {path:List Bool} {s s':St} (h:forget keep ks fr path s=some s') (hwf:wfSt n s):wfSt n s':=by
 unfold forget at h
 split at h
 ·rename_i h1 h2
  injection h with h;subst h
  refine ⟨fun b hb=>?_,by simp only [forgetT_length];exact hwf.2⟩
  cases hq:hget (restrict s.H ks) b with
  | none=>rfl
  | some blk=>have:=(hLt_get h2 hq).1;simp only at hb;omega
 ·cases h
theorem forget_safe {keep ks:List Nat} {fr:Nat} {path:List Bool} {s s':St} {todo:List Item} (h:forget keep ks fr path s=some s') (hβ0:∀ b,fr≤b→β0 b=none)
  (hs:ASafe P f β0 w0 R n W ⟨todo,s'⟩):ASafe P f β0 w0 R n W ⟨todo,s⟩:=by
 unfold forget at h
 split at h
 ·rename_i h1 h2
  injection h with h;subst h
  intro β a w hi hf
  refine hs (cutEnv β fr) a w ?_ (fun b hb=>cutEnv_ge hb)
  refine { hi with tmp:=fun t=>?_,good:=?_,new:=fun b X hb=>?_,ext:=fun b B hb=>?_ }
  ·have hk:=tLt_get (t:=t) h1
   simp only
   rcases forgetT_get keep (T:=s.T) (i:=0) (t:=t) with e | e
   ·rw [e] at hk ⊢
    exact relA_on (fun k hkk=>cutEnv_lt (hk k hkk)) (hi.tmp t)
   ·rw [e];trivial
  ·refine ⟨fun b blk hb=>?_,fun b b' B m m' h3 h4 h5 h6=>?_,fun b B m hb=>hi.good.lt b B m (cutEnv_some hb).1⟩
   ·obtain ⟨e1,e2⟩:=hLt_get h2 hb
    rcases hi.good.heap b blk (restrict_get hb) with ⟨B,m,l,t,pre,ty,fz,q1,q2,q3⟩ | ⟨q1,q2,q3⟩
    ·exact .inl ⟨B,m,l,t,pre,ty,fz,by rw [cutEnv_lt e1];exact q1,relL_on (fun k hk=>cutEnv_lt (e2 k hk)) q2,q3⟩
    ·exact .inr ⟨by rw [cutEnv_lt e1];exact q1,q2,relL_on (fun k hk=>cutEnv_lt (e2 k hk)) q3⟩
   ·obtain ⟨x,hx,hr⟩:=rwK_some h3
    obtain ⟨y,hy⟩:=Option.isSome_iff_exists.1 h4
    exact hi.good.inj b b' B m m' (rwK_mk (restrict_get hx) hr) (by rw [restrict_get hy];rfl) (cutEnv_some h5).1 (cutEnv_some h6).1
  ·exact hi.new b X (cutEnv_some hb).1
  ·have hlt:b<fr:=by
    rcases Nat.lt_or_ge b fr with h | h
    ·exact h
    ·rw [hβ0 b h] at hb;cases hb
   rw [cutEnv_lt hlt];exact hi.ext b B hb
 ·cases h
def oldKeys (k0:Nat):List Nat→List Nat
 | []=>[]
 | k::r=>match Nat.blt k k0,mem k (oldKeys k0 r) with
  | true,false=>k::oldKeys k0 r
  | _,_=>oldKeys k0 r
theorem oldKeys_mem {k0 k:Nat}:∀ {l:List Nat},k∈l→k<k0→k∈oldKeys k0 l
 | [],h,_=>by cases h
 | x::r,h,hlt=>by
  simp only [oldKeys]
  rcases List.mem_cons.1 h with rfl | h
  ·rw [nblt.2 hlt]
   cases hm:mem k (oldKeys k0 r) with
   | true=>simp only;exact mem_iff.1 hm
   | false=>simp
  ·have ih:=oldKeys_mem h hlt
   split
   ·exact List.mem_cons_of_mem _ ih
   ·exact ih
theorem Inv.old {W W':List Nat} {k0:Nat} {β:Env} {τ:Nat→AV} {H:Heap} {a:Act} {w:World} (i:Inv β0 w0 W n β τ H a w) (h0:∀ b,k0≤b→β0 b=none) (h:∀ k∈W,k<k0→k∈W'):Inv β0 w0 W' n β τ H a w :=
 { i with
  new:=fun b X hb=>(i.new b X hb).imp id fun q B m e=>(q B m e).imp id fun ⟨k,m',h1,h2⟩=>⟨k,m',h k h1 (by
   rcases Nat.lt_or_ge k k0 with h | h
   ·exact h
   ·rw [h0 k h] at h2;cases h2),h2⟩
  frame:=fun B hB hno=>i.frame B hB fun k m hk hk2=>hno k m (h k hk (by
   rcases Nat.lt_or_ge k k0 with h | h
   ·exact h
   ·rw [h0 k h] at hk2;cases hk2)) hk2 }
theorem ASafe.old {W W':List Nat} {k0:Nat} {x:ASt} (h0:∀ b,k0≤b→β0 b=none) (h:∀ k∈W,k<k0→k∈W') (hs:ASafe P f β0 w0 R n W' x):ASafe P f β0 w0 R n W x :=
 fun β a w hi hf=>hs β a w (hi.old h0 h) hf
def aSeg (P:Program) (O:Orc) (stop:Option Nat) (fuel k0:Nat) (fg:Option (List Nat×List Nat×Nat)) (x:ASt):Option (List (Bool×Bool)×List Nat×ASt) :=
 match aRun P O stop fuel x with
 | some (g,y)=>match fg with
  | some (keep,ks,fr)=>match forget keep ks fr [] y.s,Nat.ble k0 fr with
   | some s',true=>some (g.conds,oldKeys k0 g.keys,⟨y.todo,s'⟩)
   | _,_=>none
  | none=>some (g.conds,oldKeys k0 g.keys,y)
 | none=>none
theorem seg_safe (hO:OrcOk P O) (hm:P.follows .mixedOrders=true) {stop:Option Nat} {fuel k0:Nat} {fg:Option (List Nat×List Nat×Nat)} {x y:ASt} {conds:List (Bool×Bool)} {ks:List Nat} (h:aSeg P O stop fuel k0 fg x=some (conds,ks,y))
  (hc:okConds conds) (hwf:wfSt n x.s) (h0:∀ b,k0≤b→β0 b=none) (hks:∀ k∈ks,k∈W) (hs:wfSt n y.s→ASafe P f β0 w0 R n W y):ASafe P f β0 w0 R n W x:=by
 unfold aSeg at h
 split at h
 case h_2=>cases h
 rename_i g y1 hrun
 have hW:∀ k∈W++g.keys,k<k0→oldKeys k0 g.keys=ks→k∈W:=by
  intro k hk hlt he
  rcases List.mem_append.1 hk with hk | hk
  ·exact hk
  ·exact hks k (by rw [← he];exact oldKeys_mem hk hlt)
 split at h
 ·rename_i keep ks' fr
  split at h
  ·rename_i s' hfg hle
   injection h with h;injection h with h1 h;injection h with h2 h3
   subst h1;subst h3
   refine run_safe hO hm hrun hc hwf fun hw=>?_
   have hle':=Nat.le_of_ble_eq_true hle
   refine ASafe.old h0 (fun k hk hlt=>hW k hk hlt h2) ?_
   exact forget_safe hfg (fun b hb=>h0 b (by omega)) (hs (forget_wf hfg hw))
  ·cases h
 ·injection h with h;injection h with h1 h;injection h with h2 h3
  subst h1;subst h3
  refine run_safe hO hm hrun hc hwf fun hw=>?_
  exact ASafe.old h0 (fun k hk hlt=>hW k hk hlt h2) (hs hw)
def wfB (n:Fz) (s:St):Bool:=hLt s.fr s.H&&Nat.beq (alen s.T) n.n
theorem wfB_ok {s:St} (h:wfB n s=true):wfSt n s:=by
 have h':=Bool.and_eq_true_iff.1 h
 refine ⟨fun b hb=>?_,by have:=nbeq.1 h'.2;rwa [alen_eq] at this⟩
 cases hq:hget s.H b with
 | none=>rfl
 | some blk=>have:=(hLt_get h'.1 hq).1;omega
def entry (fn:Func) (args:List AV) (H:Heap) (k0:Nat) (path:List Bool):ASt :=
 ⟨match fn.body with | some c=>[.code c] | none=>[],⟨initT args fn.ntmps,H,k0,path⟩⟩
def aFin (P:Program) (fn:Func) (y:ASt):Option AV :=
 match aEnd y.todo,aResults P y.s.T y.s.H fn.results.toList with
 | true,some l=>some (oneOf l)
 | _,_=>none
theorem fin_safe {fn:Func} {y:ASt} {v:AV} (hfn:P.funcs[f]? = some fn) (h:aFin P fn y=some v) (hR:∀ e w,Outs β0 w0 W v y.s.H e w→R e w) (hD:n.D=[]:=by rfl):ASafe P f β0 w0 R n W y:=by
 unfold aFin at h
 split at h
 ·rename_i l h1 h2
  injection h with h;subst h
  intro β a w hi hf
  have:=safe_end (P:=P) (n:=n) (W:=W) (β0:=β0) (w0:=w0) hD hfn h1 h2 β a w hi hf
  intro b cs hb hk
  obtain ⟨e,w',fr,q1,q2⟩:=this b cs hb hk
  exact ⟨e,w',fr,hR _ _ q1,q2⟩
 ·cases h
end
section
variable {P:Program} {f:FuncId} {fn:Func}
theorem calls_of_entry {R:Ending→World→Prop} (hfn:P.funcs[f]? = some fn) (hb:fn.body.isSome=true) {args:List AV} {H:Heap} {k0:Nat} {path:List Bool} {β:Env} {us:List Value} {w:World} (hlen:Nat.ble (alen args) fn.ntmps=true)
  (h:ASafe P f β w R fn.ntmps [] (entry fn args H k0 path)) (ha:relAs β args us) (hg:Good β H w) (hf:∀ b,k0≤b→β b=none):Calls P f ⟨us⟩ w R:=by
 obtain ⟨c,hc⟩:=Option.isSome_iff_exists.1 hb
 have hl:=Nat.le_of_ble_eq_true hlen
 rw [alen_eq] at hl
 unfold entry at h
 rw [hc] at h
 exact calls_of_safe hfn hc hl h ha hg hf
end
open Go.RowKit (Below)
def PureOut (w0:World) (v:AV):Ending→World→Prop:=fun e w'=>∃ u,e=.returned u∧relA noEnv v u∧Below w0.heap.size w0 w'
def segRet (P:Program) (O:Orc) (fn:Func) (fuel k0:Nat) (x:ASt):Option (List (Bool×Bool)×List Nat×AV) :=
 match aRun P O none fuel x with
 | some (g,y)=>match aFin P fn y with
  | some v=>some (g.conds,oldKeys k0 g.keys,v)
  | none=>none
 | none=>none
section
variable {P:Program} {O:Orc} {f:FuncId} {fn:Func} {β0:Env} {w0:World} {n:Fz}
theorem ret_safe (hO:OrcOk P O) (hm:P.follows .mixedOrders=true) (hfn:P.funcs[f]? = some fn) {fuel k0:Nat} {x:ASt} {conds:List (Bool×Bool)} {v:AV} (h:segRet P O fn fuel k0 x=some (conds,[],v)) (hc:okConds conds) (hwf:wfSt n x.s)
  (h0:∀ b,k0≤b→β0 b=none) (hk:noKeys v=true) (hD:n.D=[]:=by rfl):ASafe P f β0 w0 (PureOut w0 v) n [] x:=by
 unfold segRet at h
 split at h
 case h_2=>cases h
 rename_i g y hrun
 split at h
 case h_2=>cases h
 rename_i v' hv
 injection h with h;injection h with h1 h;injection h with h2 h3
 subst h1;subst h3
 refine seg_safe (W:=[]) hO hm (fuel:=fuel) (k0:=k0) (fg:=none) (stop:=none) (ks:=[]) (y:=y) (by unfold aSeg;rw [hrun];simp only;rw [h2]) hc hwf h0 (fun _ h=>by cases h) fun _=>?_
 intro β a w hi hf
 unfold aFin at hv
 split at hv
 case h_2=>cases hv
 rename_i l e1 e2
 injection hv with hv;subst hv
 have:=safe_end (P:=P) (n:=n) (W:=[]) (β0:=β0) (w0:=w0) hD hfn e1 e2 β a w hi hf
 intro b cs hb hkd
 obtain ⟨e,w',fr,⟨u,β',q0,q1⟩,q2⟩:=this b cs hb hkd
 exact ⟨e,w',fr,⟨u,q0,relA_any hk q1.val,q1.os,q1.tape,q1.output,q1.size,fun k hk=>q1.frame k hk (fun _ _ h=>by cases h)⟩,q2⟩
theorem pure_entry (hfn:P.funcs[f]? = some fn) (hb:fn.body.isSome=true) {args:List AV} {path:List Bool} {v:AV} (hlen:Nat.ble (alen args) fn.ntmps=true)
  (h:∀ w0,ASafe P f noEnv w0 (PureOut w0 v) fn.ntmps [] (entry fn args [] 0 path)):PureOk P f args v :=
 fun _ w ha=>calls_of_entry hfn hb hlen (h w) ha (Good.none_ w) (fun _ _=>rfl)
theorem path_safe {R:Ending→World→Prop} {W:List Nat} {todo:List Item} {T:List AV} {H:Heap} {fr:Nat} {p:List Bool} (q:List Bool) (h:ASafe P f β0 w0 R n W ⟨todo,⟨T,H,fr,q⟩⟩):ASafe P f β0 w0 R n W ⟨todo,⟨T,H,fr,p⟩⟩:=h
end
end Go.Proofs.YtjlcdlekmpjjnaaGreat.Ex
/- Contracts of functions that take memory: from the keys of the proof to the caller's keys. -/
namespace Go.Proofs.YtjlcdlekmpjjnaaGreat.Ex
def renP (κ:Nat→Nat):List (Nat×Nat)→List (Nat×Nat)
 | []=>[]
 | (b,o)::r=>(κ b,o)::renP κ r
def renC (κ:Nat→Nat):Ch→Ch
 | .p b o=>.p (κ b) o
 | .sl b o l c=>.sl (κ b) o l c
 | .sx b l s=>.sx (κ b) l s
 | .clo f caps=>.clo f (renP κ caps)
 | .n k i=>.n k i
 | .b x=>.b x
 | .v x=>.v x
 | .num k x=>.num k x
 | .seq k l=>.seq k l
def renL (κ:Nat→Nat):List Ch→List Ch
 | []=>[]
 | c::r=>renC κ c::renL κ r
def renT (κ:Nat→Nat):List (Bool×List Ch)→List (Bool×List Ch)
 | []=>[]
 | (g,cs)::r=>(g,renL κ cs)::renT κ r
def renA (κ:Nat→Nat):AV→AV
 | .val g cs=>.val g (renL κ cs)
 | .tup xs=>.tup (renT κ xs)
 | .any=>.any
section
variable {β β':Env} {κ:Nat→Nat}
theorem relP_ren:∀ {caps:List (Nat×Nat)} {l:List Value},(∀ k∈caps.map (·.1),∀ X,β k=some X→β' (κ k)=some X)→relP β caps l→relP β' (renP κ caps) l
 | [],_,_,h=>h
 | (b,o)::r,l,hk,⟨B,n,l',h1,h2,h3⟩=>⟨B,n,l',hk b (by simp) _ h1,relP_ren (fun k h=>hk k (by simp at h ⊢;exact .inr h)) h2,h3⟩
theorem relC_ren {c:Ch} {l:List Value} (hk:∀ k∈chKeys c,∀ X,β k=some X→β' (κ k)=some X) (h:relC β c l):relC β' (renC κ c) l:=by
 cases c<;>simp only [chKeys] at hk<;>simp only [renC,relC] at h ⊢
 case n=>exact h
 case b=>exact h
 case v=>exact h
 case p=>obtain ⟨B,n,h1,h2⟩:=h;exact ⟨B,n,hk _ (by simp) _ h1,h2⟩
 case sl =>
  rcases h with ⟨B,n,h1,h2⟩ | ⟨h1,h2⟩
  ·exact .inl ⟨B,n,hk _ (by simp) _ h1,h2⟩
  ·exact .inr ⟨hk _ (by simp) _ h1,h2⟩
 case sx =>
  rcases h with ⟨B,n,cap,h1,h2⟩ | ⟨h1,h2⟩
  ·exact .inl ⟨B,n,cap,hk _ (by simp) _ h1,h2⟩
  ·exact .inr ⟨hk _ (by simp) _ h1,h2⟩
 case num=>exact h
 case seq=>exact h
 case clo=>obtain ⟨ps,h1,h2⟩:=h;exact ⟨ps,relP_ren hk h1,h2⟩
theorem relL_ren:∀ {cs:List Ch} {l:List Value},(∀ k∈chsKeys cs,∀ X,β k=some X→β' (κ k)=some X)→relL β cs l→relL β' (renL κ cs) l
 | [],_,_,h=>h
 | c::cs,l,hk,⟨l1,l2,h1,h2,h3⟩=>by
  simp only [chsKeys,cat_eq,List.mem_append] at hk
  exact ⟨l1,l2,relC_ren (fun k h=>hk k (.inl h)) h1,relL_ren (fun k h=>hk k (.inr h)) h2,h3⟩
theorem relG_ren {g:Bool} {cs:List Ch} {u:Value} (hk:∀ k∈chsKeys cs,∀ X,β k=some X→β' (κ k)=some X) (h:relG β g cs u):relG β' g (renL κ cs) u:=by
 cases g
 ·exact relL_ren hk h
 ·obtain ⟨l,h1,h2⟩:=h;exact ⟨l,relL_ren hk h1,h2⟩
theorem relT_ren:∀ {xs:List (Bool×List Ch)} {l:List Value},(∀ k∈tupKeys xs,∀ X,β k=some X→β' (κ k)=some X)→relT β xs l→relT β' (renT κ xs) l
 | [],_,_,h=>h
 | (g,cs)::xs,l,hk,⟨u,l',h1,h2,h3⟩=>by
  simp only [tupKeys,cat_eq,List.mem_append] at hk
  exact ⟨u,l',relG_ren (fun k h=>hk k (.inl h)) h1,relT_ren (fun k h=>hk k (.inr h)) h2,h3⟩
theorem relA_ren {x:AV} {u:Value} (hk:∀ k∈avKeys x,∀ X,β k=some X→β' (κ k)=some X) (h:relA β x u):relA β' (renA κ x) u:=by
 cases x with
 | val g cs=>exact relG_ren hk h
 | tup xs=>obtain ⟨us,h1,h2⟩:=h;exact ⟨us,relT_ren hk h1,h2⟩
 | any=>trivial
end
def CanOk (P:Program) (f:FuncId) (args0:List AV) (H0:Heap) (k0:Nat) (W:List Nat) (val:AV) (H1:Heap):Prop :=
 ∀ (β:Env) (us:List Value) (w:World),relAs β args0 us→Good β H0 w→(∀ b,k0≤b→β b=none)→Calls P f ⟨us⟩ w (Outs β w W val H1)
def nth:List Nat→Nat→Nat
 | [],_=>0
 | x::_,0=>x
 | _::r,n+1=>nth r n
def kap (ρ:List Nat) (k0 fr:Nat):Nat→Nat:=fun k=>match Nat.blt k k0 with | true=>nth ρ k | false=>fr+(k-k0)
def inEnv (β:Env) (ρ:List Nat) (k0:Nat):Env:=fun k=>match Nat.blt k k0 with | true=>β (nth ρ k) | false=>none
def oldUpd (κ:Nat→Nat) (H1:Heap):List Nat→Heap
 | []=>[]
 | k::r=>(κ k,(hget H1 k).map fun b=>⟨b.ty,renL κ b.cs,b.opn⟩)::oldUpd κ H1 r
def newKeys (k0:Nat):Heap→List Nat
 | []=>[]
 | (k,_)::r=>match Nat.blt k k0,mem k (newKeys k0 r) with
  | false,false=>k::newKeys k0 r
  | _,_=>newKeys k0 r
theorem newKeys_spec {k0 k:Nat}:∀ {H:Heap},k∈newKeys k0 H→k0≤k
 | [],h=>by cases h
 | (j,y)::r,h=>by
  simp only [newKeys] at h
  split at h
  ·rename_i hb _
   rcases List.mem_cons.1 h with rfl | h
   ·rcases Nat.lt_or_ge k k0 with hlt | hge
    ·rw [nblt.2 hlt] at hb;cases hb
    ·exact hge
   ·exact newKeys_spec h
  ·exact newKeys_spec h
theorem newKeys_mem {k0 k:Nat} {b:Blk}:∀ {H:Heap},hget H k=some b→k0≤k→k∈newKeys k0 H
 | [],h,_=>by cases h
 | (j,y)::r,h,hk=>by
  simp only [hget] at h
  simp only [newKeys]
  split at h
  ·rename_i e
   have:=nbeq.1 e
   subst this
   have h1:Nat.blt j k0=false:=by cases hq:Nat.blt j k0 with | false=>rfl | true=>have:=nblt.1 hq;omega
   rw [h1]
   cases hm:mem j (newKeys k0 r) with
   | true=>exact mem_iff.1 hm
   | false=>simp
  ·have ih:=newKeys_mem h hk
   split
   ·exact List.mem_cons_of_mem _ ih
   ·exact ih
def keysOk (k0:Nat) (H1:Heap):List Nat→Bool
 | []=>true
 | k::r=>match Nat.blt k k0,hget H1 k with
  | true,_=>keysOk k0 H1 r
  | false,some _=>keysOk k0 H1 r
  | false,none=>false
theorem keysOk_spec {k0:Nat} {H1:Heap}:∀ {l:List Nat},keysOk k0 H1 l=true→∀ k∈l,k<k0∨(hget H1 k).isSome=true
 | [],_,k,h=>by cases h
 | x::r,h,k,hk=>by
  simp only [keysOk] at h
  split at h
  ·rename_i hb
   rcases List.mem_cons.1 hk with rfl | hk
   ·exact .inl (nblt.1 hb)
   ·exact keysOk_spec h k hk
  ·rename_i b hb hg
   rcases List.mem_cons.1 hk with rfl | hk
   ·exact .inr (by rw [hg];rfl)
   ·exact keysOk_spec h k hk
  ·cases h
def blksOk (k0:Nat) (H1:Heap):List Nat→Bool
 | []=>true
 | k::r=>match hget H1 k with
  | some b=>match keysOk k0 H1 (chsKeys b.cs),Nat.beq b.ty roTy with | true,false=>blksOk k0 H1 r | _,_=>false
  | none=>false
theorem blksOk_spec {k0:Nat} {H1:Heap}:∀ {l:List Nat},blksOk k0 H1 l=true→∀ k∈l,∃ b,hget H1 k=some b∧keysOk k0 H1 (chsKeys b.cs)=true∧b.ty≠roTy
 | [],_,k,h=>by cases h
 | x::r,h,k,hk=>by
  simp only [blksOk] at h
  split at h
  ·rename_i b hb
   split at h
   ·rename_i hok hro
    rcases List.mem_cons.1 hk with rfl | hk
    ·exact ⟨b,hb,hok,nbeq_ro hro⟩
    ·exact blksOk_spec h k hk
   ·cases h
  ·cases h
def trR (ρ:List Nat) (k0 fr nw:Nat) (W:List Nat) (val:AV) (H1:Heap) (conds:List (Bool×Bool)) (path:List Bool):R :=
 ⟨renA (kap ρ k0 fr) val,oldUpd (kap ρ k0 fr) H1 (cat W (newKeys k0 H1)),nw,conds,path⟩
def canB (k0 nw:Nat) (W:List Nat) (val:AV) (H1:Heap):Bool :=
 allLt k0 W&&(keysOk k0 H1 (avKeys val)&&(blksOk k0 H1 (cat W (newKeys k0 H1))&&hLt (k0+nw) H1))
theorem oldUpd_mem {κ:Nat→Nat} {H1:Heap} {k:Nat} {y:Option Blk}:∀ {l:List Nat},(k,y)∈oldUpd κ H1 l→∃ j∈l,k=κ j∧y=(hget H1 j).map fun b=>⟨b.ty,renL κ b.cs,b.opn⟩
 | [],h=>by cases h
 | x::r,h=>by
  simp only [oldUpd,List.mem_cons,Prod.mk.injEq] at h
  rcases h with ⟨h1,h2⟩ | h
  ·exact ⟨x,by simp,h1,h2⟩
  ·obtain ⟨j,h1,h2⟩:=oldUpd_mem h
   exact ⟨j,by simp [h1],h2⟩
theorem mem_oldUpd {κ:Nat→Nat} {H1:Heap} {j:Nat}:∀ {l:List Nat},j∈l→(κ j,(hget H1 j).map fun b=>(⟨b.ty,renL κ b.cs,b.opn⟩:Blk))∈oldUpd κ H1 l
 | x::r,h=>by
  simp only [oldUpd,List.mem_cons]
  rcases List.mem_cons.1 h with rfl | h
  ·exact .inl rfl
  ·exact .inr (mem_oldUpd h)
theorem tr_eff {β:Env} {w w':World} {ρ:List Nat} {k0 fr nw:Nat} {W:List Nat} {val:AV} {H H1:Heap} {u:Value} {β1:Env} {conds:List (Bool×Bool)} {path:List Bool} (g:Good β H w)
  (ho:Out (inEnv β ρ k0) w W val H1 u w' β1) (hb:canB k0 nw W val H1=true) (hf:∀ b,fr≤b→b<fr+nw→β b=none) (hdef:∀ k,k<k0→∃ X,β (nth ρ k)=some X):∃ β',Eff β fr (trR ρ k0 fr nw W val H1 conds path) w u w' β':=by
 unfold canB at hb
 simp only [Bool.and_eq_true] at hb
 obtain ⟨c1,c2,c3,c4⟩:=hb
 have hW:=allLt_spec c1
 have hlive:∀ k,(hget H1 k).isSome=true→k<k0+nw:=by
  intro k hk
  obtain ⟨b,hb⟩:=Option.isSome_iff_exists.1 hk
  exact (hLt_get c4 hb).1
 have newr:∀ k,k0≤k→(hget H1 k).isSome=true→rwK H1 k=true:=by
  intro k hk hs
  obtain ⟨b,hb⟩:=Option.isSome_iff_exists.1 hs
  obtain ⟨b',hb',_,hr⟩:=blksOk_spec c3 k (by rw [cat_eq,List.mem_append];exact .inr (newKeys_mem hb hk))
  exact rwK_mk hb' hr
 let β':Env:=fun b=>match Nat.ble fr b&&Nat.blt b (fr+nw),hget H1 (k0+(b-fr)) with
  | true,some _=>β1 (k0+(b-fr))
  | true,none=>none
  | false,_=>β b
 have out:∀ b,¬ (fr≤b∧b<fr+nw)→β' b=β b:=by
  intro b hb
  have:(Nat.ble fr b&&Nat.blt b (fr+nw))=false:=by
   cases h:Nat.ble fr b&&Nat.blt b (fr+nw) with
   | false=>rfl
   | true =>
    have:=Bool.and_eq_true_iff.1 h
    exact absurd ⟨Nat.le_of_ble_eq_true this.1,nblt.1 this.2⟩ hb
  show (match Nat.ble fr b&&Nat.blt b (fr+nw),hget H1 (k0+(b-fr)) with | true,some _=>β1 (k0+(b-fr)) | true,none=>none | false,_=>β b)=β b
  rw [this]
 have inn:∀ b,fr≤b→b<fr+nw→∀ X,β' b=some X→(hget H1 (k0+(b-fr))).isSome=true∧β1 (k0+(b-fr))=some X:=by
  intro b h1 h2 X hX
  have:(Nat.ble fr b&&Nat.blt b (fr+nw))=true:=by rw [Nat.ble_eq_true_of_le h1,nblt.2 h2];rfl
  change (match Nat.ble fr b&&Nat.blt b (fr+nw),hget H1 (k0+(b-fr)) with | true,some _=>β1 (k0+(b-fr)) | true,none=>none | false,_=>β b)=some X at hX
  rw [this] at hX
  cases hq:hget H1 (k0+(b-fr)) with
  | none=>rw [hq] at hX;cases hX
  | some y=>rw [hq] at hX;exact ⟨rfl,hX⟩
 have new1:∀ k,k0≤k→(hget H1 k).isSome=true→∀ X,β1 k=some X→β' (fr+(k-k0))=some X:=by
  intro k hk hl X hX
  have h2:=hlive k hl
  have e:k0+(fr+(k-k0)-fr)=k:=by omega
  have:(Nat.ble fr (fr+(k-k0))&&Nat.blt (fr+(k-k0)) (fr+nw))=true:=by rw [Nat.ble_eq_true_of_le (by omega),nblt.2 (by omega)];rfl
  show (match Nat.ble fr (fr+(k-k0))&&Nat.blt (fr+(k-k0)) (fr+nw),hget H1 (k0+(fr+(k-k0)-fr)) with | true,some _=>β1 (k0+(fr+(k-k0)-fr)) | true,none=>none | false,_=>β (fr+(k-k0)))=some X
  rw [this,e]
  obtain ⟨y,hy⟩:=Option.isSome_iff_exists.1 hl
  rw [hy];exact hX
 have ext0:Env.le β β':=by
  intro b X hb
  rw [out b (fun h=>by rw [hf b h.1 h.2] at hb;cases hb)]
  exact hb
 have inE:∀ k,k<k0→inEnv β ρ k0 k=β (nth ρ k):=fun k hk=>by simp [inEnv,nblt.2 hk]
 have oldk:∀ k,k<k0→∀ X,β1 k=some X→β (nth ρ k)=some X:=by
  intro k hk X hX
  obtain ⟨Y,hq⟩:=hdef k hk
  have:=ho.ext k Y (by rw [inE k hk];exact hq)
  rw [this] at hX;injection hX with hX;subst hX
  exact hq
 have kapk:∀ k,(k<k0∨(hget H1 k).isSome=true)→∀ X,β1 k=some X→β' (kap ρ k0 fr k)=some X:=by
  intro k hk X hX
  unfold kap
  rcases Nat.lt_or_ge k k0 with hlt | hge
  ·rw [nblt.2 hlt];exact ext0 _ _ (oldk k hlt X hX)
  ·have:Nat.blt k k0=false:=by cases h:Nat.blt k k0 with | false=>rfl | true=>have:=nblt.1 h;omega
   rw [this]
   rcases hk with hk | hk
   ·omega
   ·exact new1 k hge hk X hX
 refine ⟨β',ext0,?_,?_,?_,?_,?_,?_,ho.size,ho.os,ho.tape,ho.output⟩
 ·intro b X hX
  by_cases hr:fr≤b∧b<fr+nw
  ·obtain ⟨hl,h1⟩:=inn b hr.1 hr.2 X hX
   refine .inr ⟨hr.1,hr.2,fun B n e=>?_⟩
   subst e
   rcases ho.new _ _ h1 with h | h
   ·have:Nat.blt (k0+(b-fr)) k0=false:=by cases h:Nat.blt (k0+(b-fr)) k0 with | false=>rfl | true=>have:=nblt.1 h;omega
    simp [inEnv,this] at h
   ·rcases h B n rfl with h | ⟨k,m',hk,hk2⟩
    ·exact .inl h
    ·have hk0:=hW k hk
     obtain ⟨bb,hbb,_,hbr⟩:=blksOk_spec c3 k (by rw [cat_eq,List.mem_append];exact .inl hk)
     have:=ho.good.inj _ _ _ _ _ (rwK_mk hbb hbr) hl (ho.ext k _ hk2) h1
     omega
  ·rw [out b hr] at hX;exact .inl hX
 ·intro b B n hX
  by_cases hr:fr≤b∧b<fr+nw
  ·exact ho.good.lt _ _ _ (inn b hr.1 hr.2 _ hX).2
  ·rw [out b hr] at hX
   exact Nat.lt_of_lt_of_le (g.lt _ _ _ hX) ho.size
 ·intro b b' B n n' h1 h2 h3 h4 h5 h6
  obtain ⟨l1,q1⟩:=inn b h1 h3 _ h5
  obtain ⟨l2,q2⟩:=inn b' h2 h4 _ h6
  have:=ho.good.inj _ _ _ _ _ (newr _ (by omega) l1) l2 q1 q2
  omega
 ·exact relA_ren (fun k hk X hX=>kapk k (keysOk_spec c2 k hk) X hX) ho.val
 ·intro k y hk
  obtain ⟨j,hj,e1,e2⟩:=oldUpd_mem hk
  obtain ⟨bb,hbb,hok,_⟩:=blksOk_spec c3 j hj
  rw [hbb] at e2
  simp only [Option.map_some,Option.some.injEq] at e2
  subst e1;subst e2
  have hkj:j<k0∨(hget H1 j).isSome=true:=.inr (by rw [hbb];rfl)
  rcases ho.good.heap j bb hbb with ⟨B,n,l,t,pre,ty,fz,q1,q2,q3⟩ | ⟨q1,q2,q3⟩
  ·exact .inl ⟨B,n,l,t,pre,ty,fz,kapk j hkj _ q1,relL_ren (fun k hk X hX=>kapk k (keysOk_spec hok k hk) X hX) q2,q3⟩
  ·exact .inr ⟨kapk j hkj _ q1,q2,relL_ren (fun k hk X hX=>kapk k (keysOk_spec hok k hk) X hX) q3⟩
 ·intro B hB hno
  refine ho.frame B hB fun k m hk hk2=>?_
  have hk0:=hW k hk
  rw [inE k hk0] at hk2
  have hmem:=mem_oldUpd (κ:=kap ρ k0 fr) (H1:=H1) (j:=k) (l:=cat W (newKeys k0 H1)) (by rw [cat_eq,List.mem_append];exact .inl hk)
  have e:kap ρ k0 fr k=nth ρ k:=by simp [kap,nblt.2 hk0]
  rw [e] at hmem
  exact hno _ _ m hmem hk2
section
variable {P:Program} {O:Orc} {f:FuncId} {fn:Func}
theorem can_spec (hfn:P.funcs[f]? = some fn) (hbd:fn.body.isSome=true) (hname:(fn.name=="runtime.NumGoroutine")=false) {s:ASpec}
  (h:∀ args H fr path r,s args H fr path=some r→∃ (ρ:List Nat) (args0:List AV) (H0:Heap) (k0 nw:Nat) (W:List Nat) (val:AV) (H1:Heap) (conds:List (Bool×Bool)) (path':List Bool),
   r=trR ρ k0 fr nw W val H1 conds path'∧(∀ β us w,relAs β args us→Good β H w→okConds conds→CanOk P f args0 H0 k0 W val H1∧canB k0 nw W val H1=true∧relAs (inEnv β ρ k0) args0 us∧Good (inEnv β ρ k0) H0 w∧(∀ k,k<k0→∃ X,β (nth ρ k)=some X))):SpecOk P f s:=by
 intro args H fr path r β us w hs hc ha hg hf
 obtain ⟨ρ,args0,H0,k0,nw,W,val,H1,conds,path',rfl,hh⟩:=h args H fr path r hs
 obtain ⟨hcan,hb,ha0,hg0,hdef⟩:=hh β us w ha hg hc
 refine callX_of_calls hfn hbd hname (Calls.mono (hcan (inEnv β ρ k0) us w ha0 hg0 fun b hb=>?_) ?_)
 ·have:Nat.blt b k0=false:=by cases h:Nat.blt b k0 with | false=>rfl | true=>have:=nblt.1 h;omega
  simp [inEnv,this]
 ·rintro e w' ⟨u,β1,rfl,ho⟩
  obtain ⟨β',he⟩:=tr_eff (conds:=conds) (path:=path') hg ho hb hf hdef
  exact ⟨u,β',rfl,he⟩
def segOut (P:Program) (O:Orc) (fn:Func) (fuel k0:Nat) (ks:List Nat) (x:ASt):Option (List (Bool×Bool)×List Nat×AV×Heap) :=
 match aRun P O none fuel x with
 | some (g,y)=>match aFin P fn y with
  | some v=>some (g.conds,oldKeys k0 g.keys,v,restrict y.s.H ks)
  | none=>none
 | none=>none
theorem out_safe {β0:Env} {w0:World} {n:Fz} {W:List Nat} (hO:OrcOk P O) (hm:P.follows .mixedOrders=true) (hfn:P.funcs[f]? = some fn) {fuel k0:Nat} {ks ks':List Nat} {x:ASt} {conds:List (Bool×Bool)} {v:AV} {H1:Heap}
  (h:segOut P O fn fuel k0 ks x=some (conds,ks',v,H1)) (hc:okConds conds) (hwf:wfSt n x.s) (h0:∀ b,k0≤b→β0 b=none) (hks:∀ k∈ks',k∈W) (hD:n.D=[]:=by rfl):ASafe P f β0 w0 (Outs β0 w0 W v H1) n W x:=by
 unfold segOut at h
 split at h
 case h_2=>cases h
 rename_i g y hrun
 split at h
 case h_2=>cases h
 rename_i v' hv
 injection h with h;injection h with h1 h;injection h with h2 h;injection h with h3 h4
 subst h1;subst h3;subst h4
 refine seg_safe (W:=W) hO hm (fuel:=fuel) (k0:=k0) (fg:=none) (stop:=none) (ks:=ks') (y:=y) (by unfold aSeg;rw [hrun];simp only;rw [h2]) hc hwf h0 hks fun _=>?_
 refine fin_safe hfn hv ?_ hD
 rintro e w ⟨u,β,q0,q1⟩
 exact ⟨u,β,q0,{ q1 with good:=q1.good.restrict ks }⟩
theorem can_entry (hfn:P.funcs[f]? = some fn) (hb:fn.body.isSome=true) {args0:List AV} {H0:Heap} {k0:Nat} {path:List Bool} {W:List Nat} {v:AV} {H1:Heap} (hlen:Nat.ble (alen args0) fn.ntmps=true)
  (h:∀ β0 w0,(∀ b,k0≤b→β0 b=none)→ASafe P f β0 w0 (Outs β0 w0 W v H1) fn.ntmps W (entry fn args0 H0 k0 path)):CanOk P f args0 H0 k0 W v H1 :=
 fun β us w ha hg hf=>calls_of_entry hfn hb hlen (ASafe.old (k0:=k0) hf (fun _ h=>by cases h) (h β w hf)) ha hg hf
end
end Go.Proofs.YtjlcdlekmpjjnaaGreat.Ex
/- From contracts to the given statements: what arguments that can be read are; the lift for plain values. -/
namespace Go.Proofs.YtjlcdlekmpjjnaaGreat.Ex
open Go.RowKit (Below)
open Go.ChangeShapes Go.WideShapes Go.ChangeAt Go.RowKit
section
variable {H:Type} {enc:TypeId×Value→H} {P:Program} {w:World} {base:Nat} {spare:Nat→Bool} {held:Bool}
theorem wf_has {k:IntKind} {i:Int} (h:(Lit.int k i).wf=true):has k i:=by
 simp only [Lit.wf,Bool.and_eq_true,decide_eq_true_eq] at h
 exact h
end
theorem trodAll_len {H:Type} {enc:TypeId×Value→H} {P:Program} {W:World} {base:Nat} {spare:Nat→Bool} {held:Bool}:∀ {ts:List TypeId} {vs:List Value} {ds:List (DataW H)} {ps:List MemPlace},DataW.TrodAll enc P W base spare held ts vs ds ps→vs.length=ts.length∧ds.length=ts.length
 | [],[],[],_,_=>⟨rfl,rfl⟩
 | _::_,_::_,_::_,_,⟨_,_,_,h,_⟩=>by have:=trodAll_len h;simp [this]
theorem trodAll_below {H:Type} {enc:TypeId×Value→H} {P:Program} (hl:laidOutB P=true) {W W':World} (hb:Below W.heap.size W W'):∀ {ts:List TypeId} {vs:List Value} {ds:List (DataW H)} {ps:List MemPlace},
  ts.all (fun t=>P.readableRec t&&decide (t<P.types.size))=true→DataW.TrodAll enc P W 0 (fun _=>true) true ts vs ds ps→DataW.TrodAll enc P W' 0 (fun b=>decide (b<W.heap.size)) true ts vs ds ps
 | [],[],[],_,_,h=>h
 | _::_,_::_,_::_,_,hr,⟨p,q,h1,h2,e⟩=>by
  simp only [List.all_cons,Bool.and_eq_true,decide_eq_true_eq] at hr
  have hlt:∀ x∈p,x.block<W.heap.size:=by obtain ⟨m,hm⟩:=h1;exact DataW.trod_lt m _ _ _ hm
  exact ⟨p,q,Below.trod hl hr.1.1 hr.1.2 h1 hb hlt,trodAll_below hl hb (by simpa using hr.2) h2,e⟩
def LawSpec (s:ChangeSpec) (n:Nat):Prop:=s.vars=[]∧∀ (H:Type) (ds:List (DataW H)),ds.length=n→(s.fn H ds).results=[.lit (.bool true)]∧(s.fn H ds).args=ds∧(s.fn H ds).vars=[]
def LawWalk (P:Program) (f:FuncId) (fn:Func):Prop :=
 ∀ (H:Type) (enc:TypeId×Value→H) (us:List Value) (W:World) (base:Nat) (ds:List (DataW H)) (ps:List MemPlace),(∀ (j:Nat) t v,fn.params[j]? = some t→us[j]? = some v→Value.okWide P W .any base t v) →
  DataW.TrodAll enc P W 0 (fun _=>true) true fn.params.toList us ds ps→(DataW.weightsEach P fn.params.toList ds).all (· ≤ reachBytes)=true→W.noneFrozen ps→Calls P f ⟨us⟩ W fun e w'=>e=.returned (.bool true)∧Below W.heap.size W w'
theorem law_lift {C:Checked} {os:Os} {f:FuncId} {fn:Func} {s:ChangeSpec} {H:Type} {enc:TypeId×Value→H} (own:ownKnob C.prog.godebug=none) (started:os.Started) (noInit:C.prog.inits.idxOf? f=none) (hfn:C.prog.funcs[f]? = some fn)
  (witness:∃ (w:World) (tape:Tape) (i:Input),w.os=os∧(w.forCall tape i).Shaped C.prog∧i.vars=[]∧Input.okWide C.prog (w.forCall tape i) .any w.heap.size f i ∧
   s.pre6 enc C.prog fn [] false (w.forCall tape i).memory i.args∧Assume.holds {} C.prog (lone (Frame.enter C.prog f i.args .normal) [] (w.forCall tape i)))
  (hs:LawSpec s fn.params.size) (htypes:s.plain.varTypes C.prog=[]) {tb:TypeId} (hrt:fn.resultTypes=#[tb]) (hub:C.prog.underlying tb=some .bool) (hlaid:laidOutB C.prog=true)
  (hpar:fn.params.toList.all (fun t=>C.prog.readableRec t&&decide (t<C.prog.types.size))=true) (walk:LawWalk C.prog f fn) :
  ReturnsInHanded {} C os f .any (s.pre6 enc C.prog fn [] false) (s.post enc C.prog fn false true false false):=by
 refine returnsInHanded_of_change_sized own started noInit hfn witness ?_
 intro W base args ds gs before hval hW _ hwt _
 have hW':=hW
 obtain ⟨p,q,hA,hV,rfl,hfz,hnd⟩:=hW
 obtain ⟨hs1,hs2⟩:=hs
 rw [hs1] at hV
 obtain ⟨rfl,rfl⟩:=trodVars_none hV
 obtain ⟨l1,l2⟩:=trodAll_len hA
 rw [htypes,List.append_nil,List.append_nil] at hwt
 have e:args=⟨args.toList⟩:=rfl
 rw [e]
 refine (walk H enc args.toList W base ds p (fun j t v h1 h2=>hval j t v h1 (by simpa using h2)) hA hwt (by simpa using hfz)).mono fun e W' ⟨he,bel⟩=>?_
 subst he
 have hds:ds.length=fn.params.size:=by rw [l2];simp
 obtain ⟨r1,r2,r3⟩:=hs2 H (ds++[]) (by rw [List.append_nil];exact hds)
 refine ⟨_,rfl,ds,[],p++[],[],p,[],hW',?_,?_,?_,bel.frame _,fun h=>by cases h⟩
 ·rw [r1,hrt]
  exact trodAll_mk1 (Go.RowKit.shut_bool hub _)
 ·rw [r2,List.append_nil]
  exact trodAll_below hlaid bel hpar hA
 ·rw [r3,hs1];rfl
end Go.Proofs.YtjlcdlekmpjjnaaGreat.Ex
/- Keys named anew, and nil slices told as slices that grow: for loops that append. -/
namespace Go.Proofs.YtjlcdlekmpjjnaaGreat.Ex
section
variable {β β':Env} {κ:Nat→Nat}
theorem relP_unren:∀ {caps:List (Nat×Nat)} {l:List Value},(∀ k∈caps.map (·.1),∀ X,β (κ k)=some X→β' k=some X)→relP β (renP κ caps) l→relP β' caps l
 | [],_,_,h=>h
 | (b,o)::r,l,hk,⟨B,n,l',h1,h2,h3⟩=>⟨B,n,l',hk b (by simp) _ h1,relP_unren (fun k h=>hk k (by simp at h ⊢;exact .inr h)) h2,h3⟩
theorem relC_unren {c:Ch} {l:List Value} (hk:∀ k∈chKeys c,∀ X,β (κ k)=some X→β' k=some X) (h:relC β (renC κ c) l):relC β' c l:=by
 cases c<;>simp only [chKeys] at hk<;>simp only [renC,relC] at h ⊢
 case n=>exact h
 case b=>exact h
 case v=>exact h
 case p=>obtain ⟨B,n,h1,h2⟩:=h;exact ⟨B,n,hk _ (by simp) _ h1,h2⟩
 case sl =>
  rcases h with ⟨B,n,h1,h2⟩ | ⟨h1,h2⟩
  ·exact .inl ⟨B,n,hk _ (by simp) _ h1,h2⟩
  ·exact .inr ⟨hk _ (by simp) _ h1,h2⟩
 case sx =>
  rcases h with ⟨B,n,cap,h1,h2⟩ | ⟨h1,h2⟩
  ·exact .inl ⟨B,n,cap,hk _ (by simp) _ h1,h2⟩
  ·exact .inr ⟨hk _ (by simp) _ h1,h2⟩
 case num=>exact h
 case seq=>exact h
 case clo=>obtain ⟨ps,h1,h2⟩:=h;exact ⟨ps,relP_unren hk h1,h2⟩
theorem relL_unren:∀ {cs:List Ch} {l:List Value},(∀ k∈chsKeys cs,∀ X,β (κ k)=some X→β' k=some X)→relL β (renL κ cs) l→relL β' cs l
 | [],_,_,h=>h
 | c::cs,l,hk,⟨l1,l2,h1,h2,h3⟩=>by
  simp only [chsKeys,cat_eq,List.mem_append] at hk
  exact ⟨l1,l2,relC_unren (fun k h=>hk k (.inl h)) h1,relL_unren (fun k h=>hk k (.inr h)) h2,h3⟩
theorem relG_unren {g:Bool} {cs:List Ch} {u:Value} (hk:∀ k∈chsKeys cs,∀ X,β (κ k)=some X→β' k=some X) (h:relG β g (renL κ cs) u):relG β' g cs u:=by
 cases g
 ·exact relL_unren hk h
 ·obtain ⟨l,h1,h2⟩:=h;exact ⟨l,relL_unren hk h1,h2⟩
theorem relT_unren:∀ {xs:List (Bool×List Ch)} {l:List Value},(∀ k∈tupKeys xs,∀ X,β (κ k)=some X→β' k=some X)→relT β (renT κ xs) l→relT β' xs l
 | [],_,_,h=>h
 | (g,cs)::xs,l,hk,⟨u,l',h1,h2,h3⟩=>by
  simp only [tupKeys,cat_eq,List.mem_append] at hk
  exact ⟨u,l',relG_unren (fun k h=>hk k (.inl h)) h1,relT_unren (fun k h=>hk k (.inr h)) h2,h3⟩
theorem relA_unren {x:AV} {u:Value} (hk:∀ k∈avKeys x,∀ X,β (κ k)=some X→β' k=some X) (h:relA β (renA κ x) u):relA β' x u:=by
 cases x with
 | val g cs=>exact relG_unren hk h
 | tup xs=>obtain ⟨us,h1,h2⟩:=h;exact ⟨us,relT_unren hk h1,h2⟩
 | any=>trivial
end
def renTs (κ:Nat→Nat):List AV→List AV
 | []=>[]
 | x::r=>renA κ x::renTs κ r
theorem tget_renTs (κ:Nat→Nat):∀ (T:List AV) (t:Nat),tget (renTs κ T) t=renA κ (tget T t)
 | [],_=>rfl
 | _::_,0=>rfl
 | _::r,t+1=>tget_renTs κ r t
def renH (κ:Nat→Nat):Heap→Heap
 | []=>[]
 | (k,y)::r=>(κ k,(match y with | some b=>some ⟨b.ty,renL κ b.cs,b.opn⟩ | none=>none))::renH κ r
def rkey (k0:Nat) (ρ:List Nat):Nat→Nat:=fun k=>match Nat.blt k k0 with | true=>k | false=>nth ρ (k-k0)
def allGe (n:Nat):List Nat→Bool
 | []=>true
 | k::r=>match Nat.ble n k with | true=>allGe n r | false=>false
def nodupB:List Nat→Bool
 | []=>true
 | k::r=>match mem k r with | true=>false | false=>nodupB r
theorem allGe_nth {n:Nat}:∀ {l:List Nat} {i:Nat},allGe n l=true→i<l.length→n≤nth l i
 | [],i,_,h=>by simp at h
 | k::r,0,h,_=>by
  simp only [allGe] at h
  split at h
  ·rename_i hb;exact Nat.le_of_ble_eq_true hb
  ·cases h
 | k::r,i+1,h,hi=>by
  simp only [allGe] at h
  split at h
  ·exact allGe_nth (l:=r) h (by simpa using hi)
  ·cases h
theorem nth_mem:∀ {l:List Nat} {i:Nat},i<l.length→nth l i∈l
 | [],i,h=>by simp at h
 | k::r,0,_=>by simp [nth]
 | k::r,i+1,h=>by simp only [nth];exact List.mem_cons_of_mem _ (nth_mem (by simpa using h))
theorem nodupB_nth:∀ {l:List Nat} {i j:Nat},nodupB l=true→i<l.length→j<l.length→nth l i=nth l j→i=j
 | [],i,_,_,h,_,_=>by simp at h
 | k::r,i,j,h,hi,hj,e=>by
  simp only [nodupB] at h
  split at h
  ·cases h
  ·rename_i hm
   have hm':k ∉ r:=fun hk=>by rw [mem_iff.2 hk] at hm;cases hm
   match i,j with
   | 0,0=>rfl
   | 0,j+1=>exact absurd (by rw [show k=nth r j from e];exact nth_mem (by simpa using hj)) hm'
   | i+1,0=>exact absurd (by rw [show k=nth r i from e.symm];exact nth_mem (by simpa using hi)) hm'
   | i+1,j+1=>rw [nodupB_nth (l:=r) h (by simpa using hi) (by simpa using hj) e]
section
variable {P:Program} {f:FuncId} {β0:Env} {w0:World} {R:Ending→World→Prop} {n:Fz} {W:List Nat}
theorem rkey_inj {k0:Nat} {ρ:List Nat} (h1:allGe k0 ρ=true) (h2:nodupB ρ=true) {a b:Nat} (ha:a<k0+ρ.length) (hb:b<k0+ρ.length) (e:rkey k0 ρ a=rkey k0 ρ b):a=b:=by
 unfold rkey at e
 have lt:∀ {x:Nat},Nat.blt x k0=false→k0≤x:=fun {x} h=>by
  rcases Nat.lt_or_ge x k0 with q | q
  ·rw [nblt.2 q] at h;cases h
  ·exact q
 split at e<;>split at e
 ·exact e
 ·rename_i _ p _ q
  have:=allGe_nth (i:=b-k0) h1 (by have:=lt q;omega)
  have:=nblt.1 p;omega
 ·rename_i _ p _ q
  have:=allGe_nth (i:=a-k0) h1 (by have:=lt p;omega)
  have:=nblt.1 q;omega
 ·rename_i _ p _ q
  have:=nodupB_nth h2 (by have:=lt p;omega) (by have:=lt q;omega) e
  have:=lt p;have:=lt q;omega
theorem hget_renH {κ:Nat→Nat} {m:Nat} (hinj:∀ a b,a<m→b<m→κ a=κ b→a=b):∀ {H:Heap} {j:Nat},(∀ k y,(k,y)∈H→k<m)→j<m→hget (renH κ H) (κ j)=(hget H j).map fun b=>⟨b.ty,renL κ b.cs,b.opn⟩
 | [],_,_,_=>rfl
 | (k,y)::r,j,hk,hj=>by
  have hkm:=hk k y (by simp)
  simp only [renH,hget]
  by_cases e:k=j
  ·subst e
   have q1:Nat.beq (κ k) (κ k)=true:=nbeq.2 rfl
   have q2:Nat.beq k k=true:=nbeq.2 rfl
   rw [q1,q2]
   cases y<;>rfl
  ·have q2:Nat.beq k j=false:=nbeq_ne e
   have q1:Nat.beq (κ k) (κ j)=false:=nbeq_ne fun h=>e (hinj k j hkm hj h)
   rw [q1,q2]
   exact hget_renH hinj (fun k y h=>hk k y (by simp [h])) hj
def keysLt (m:Nat):Heap→Bool
 | []=>true
 | (k,y)::r=>match Nat.blt k m with
  | true=>match y with
   | some b=>match allLt m (chsKeys b.cs) with | true=>keysLt m r | false=>false
   | none=>keysLt m r
  | false=>false
theorem keysLt_mem {m:Nat}:∀ {H:Heap} {k:Nat} {y:Option Blk},keysLt m H=true→(k,y)∈H→k<m
 | [],_,_,_,h=>by cases h
 | (j,z)::r,k,y,h,hm=>by
  simp only [keysLt] at h
  split at h
  ·rename_i hj
   have hr:keysLt m r=true:=by
    split at h
    ·split at h
     ·exact h
     ·cases h
    ·exact h
   rcases List.mem_cons.1 hm with e | e
   ·injection e with e1 e2;rw [e1];exact nblt.1 hj
   ·exact keysLt_mem hr e
  ·cases h
theorem keysLt_blk {m:Nat}:∀ {H:Heap} {k:Nat} {b:Blk},keysLt m H=true→hget H k=some b→k<m∧∀ x∈chsKeys b.cs,x<m
 | [],_,_,_,h=>by cases h
 | (j,z)::r,k,b,h,hm=>by
  simp only [keysLt] at h
  simp only [hget] at hm
  split at h
  ·rename_i hj
   split at hm
   ·rename_i e
    subst hm
    simp only at h
    split at h
    ·rename_i hc;exact ⟨by rw [← nbeq.1 e];exact nblt.1 hj,allLt_spec hc⟩
    ·cases h
   ·have hr:keysLt m r=true:=by
     split at h
     ·split at h
      ·exact h
      ·cases h
     ·exact h
    exact keysLt_blk hr hm
  ·cases h
def renB (k0:Nat) (ρ:List Nat) (m:Nat) (T:List AV) (H:Heap):Bool:=Nat.beq m (k0+ρ.length)&&(allGe k0 ρ&&(nodupB ρ&&(tLt m T&&keysLt m H)))
theorem ren_safe {k0 m:Nat} {ρ:List Nat} {todo:List Item} {T:List AV} {H:Heap} {fr:Nat} {p:List Bool} (hb:renB k0 ρ m T H=true) (h0:∀ b,k0≤b→β0 b=none)
  (hs:ASafe P f β0 w0 R n W ⟨todo,⟨T,H,m,p⟩⟩):ASafe P f β0 w0 R n W ⟨todo,⟨renTs (rkey k0 ρ) T,renH (rkey k0 ρ) H,fr,p⟩⟩:=by
 unfold renB at hb
 simp only [Bool.and_eq_true] at hb
 obtain ⟨hm,h1,h2,h3,h4⟩:=hb
 have hm:=nbeq.1 hm
 intro β a w hi _
 let κ:=rkey k0 ρ
 let β':Env:=fun k=>match Nat.blt k m with | true=>β (κ k) | false=>none
 have bl:∀ {k},k<m→β' k=β (κ k):=fun {k} h=>by
  show (match Nat.blt k m with | true=>β (κ k) | false=>none)=_
  rw [nblt.2 h]
 have bs:∀ {k X},β' k=some X→k<m∧β (κ k)=some X:=fun {k X} h=>by
  change (match Nat.blt k m with | true=>β (κ k) | false=>none)=some X at h
  split at h
  ·rename_i hb;exact ⟨nblt.1 hb,h⟩
  ·cases h
 have hinj:∀ a b,a<m→b<m→κ a=κ b→a=b:=fun a b ha hb e=>rkey_inj h1 h2 (by omega) (by omega) e
 have old:∀ {k},k<k0→κ k=k:=fun {k} h=>by show rkey k0 ρ k=k;unfold rkey;rw [nblt.2 h]
 have new:∀ {k},k0≤k→k<m→k0≤κ k:=fun {k} h hk=>by
  show k0≤rkey k0 ρ k
  unfold rkey
  split
  ·exact h
  ·exact allGe_nth h1 (by omega)
 have hg:∀ j,j<m→hget (renH κ H) (κ j)=(hget H j).map fun b=>⟨b.ty,renL κ b.cs,b.opn⟩:=fun j hj=>hget_renH hinj (fun k y h=>keysLt_mem h4 h) hj
 refine hs β' a w { hi with tmp:=fun t=>?_,good:=⟨fun b blk hb=>?_,fun b b' B n n' q1 q2 q3 q4=>?_,fun b B n q=>hi.good.lt _ _ _ (bs q).2⟩,new:=fun b X hb=>?_,ext:=fun b X hb=>?_ } fun b hb=>?_
 ·have ht:=hi.tmp t
  simp only at ht
  rw [tget_renTs] at ht
  have hk:=tLt_get (t:=t) h3
  exact relA_unren (fun k hkk X hX=>by rw [bl (hk k hkk)];exact hX) ht
 ·simp only at hb
  obtain ⟨hbm,hbk⟩:=keysLt_blk h4 hb
  have hg':=hg b hbm
  rw [hb] at hg'
  rcases hi.good.heap (κ b) _ hg' with ⟨B,n,l,t,pre,ty,fz,e1,e2,e3,e4,e5⟩ | ⟨e1,e2,e3⟩
  ·exact .inl ⟨B,n,l,t,pre,ty,fz,by rw [bl hbm];exact e1,relL_unren (fun k hkk X hX=>by rw [bl (hbk k hkk)];exact hX) e2,e3,e4,e5⟩
  ·exact .inr ⟨by rw [bl hbm];exact e1,e2,relL_unren (fun k hkk X hX=>by rw [bl (hbk k hkk)];exact hX) e3⟩
 ·simp only at q1 q2
  obtain ⟨d,hd,hr⟩:=rwK_some q1
  obtain ⟨d',hd'⟩:=Option.isSome_iff_exists.1 q2
  have m1:=(bs q3).1
  have m2:=(bs q4).1
  refine hinj b b' m1 m2 (hi.good.inj _ _ B n n' (rwK_mk (blk:=⟨d.ty,renL κ d.cs,d.opn⟩) (by rw [hg b m1,hd];rfl) hr) (by rw [hg b' m2,hd'];rfl) (bs q3).2 (bs q4).2)
 ·obtain ⟨hbm,hX⟩:=bs hb
  rcases Nat.lt_or_ge b k0 with hlt | hge
  ·rw [old hlt] at hX;exact hi.new b X hX
  ·rcases hi.new _ X hX with q | q
   ·rw [h0 _ (new hge hbm)] at q;cases q
   ·exact .inr q
 ·have hlt:b<k0:=by
   rcases Nat.lt_or_ge b k0 with h | h
   ·exact h
   ·rw [h0 b h] at hb;cases hb
  rw [bl (by omega),old hlt]
  exact hi.ext b X hb
 ·show (match Nat.blt b m with | true=>β (κ b) | false=>none)=none
  have:Nat.blt b m=false:=by
   cases hq:Nat.blt b m with
   | false=>rfl
   | true=>have:=nblt.1 hq;simp only at hb;omega
  rw [this]
def nilT (k sz:Nat):List Nat→Nat→List AV→List AV
 | _,_,[]=>[]
 | ts,i,x::r=>(match mem i ts,x with
  | true,.val false [.v (.slice none 0 0)]=>.val false [.sx k 0 sz]
  | _,y=>y)::nilT k sz ts (i+1) r
theorem nilT_get (k sz:Nat) (ts:List Nat):∀ (T:List AV) (i t:Nat),tget (nilT k sz ts i T) t=tget T t∨(tget T t=.val false [.v (.slice none 0 0)]∧tget (nilT k sz ts i T) t=.val false [.sx k 0 sz])
 | [],_,_=>.inl rfl
 | x::r,i,0=>by
  simp only [nilT,tget]
  split
  ·exact .inr ⟨rfl,rfl⟩
  ·exact .inl rfl
 | x::r,i,t+1=>nilT_get k sz ts r (i+1) t
theorem nil_safe {ts:List Nat} {sz:Nat} {ty:TypeId} {kd:IntKind} {todo:List Item} {T:List AV} {H:Heap} {fr:Nat} {p:List Bool} (hw:hget H fr=none) (h0:β0 fr=none)
  (hs:ASafe P f β0 w0 R n W ⟨todo,⟨nilT fr sz ts 0 T,H++[(fr,some ⟨ty,[.seq kd []],true⟩)],fr+1,p⟩⟩):ASafe P f β0 w0 R n W ⟨todo,⟨T,H,fr,p⟩⟩:=by
 intro β a w hi hf
 have hfr:β fr=none:=hf fr (Nat.le_refl _)
 let β':Env:=fun k=>match Nat.beq k fr with | true=>some Loc.nil | false=>β k
 have bo:∀ {k},k≠fr→β' k=β k:=fun {k} h=>by
  show (match Nat.beq k fr with | true=>some Loc.nil | false=>β k)=_
  rw [nbeq_ne h]
 have bn:β' fr=some Loc.nil:=by
  show (match Nat.beq fr fr with | true=>some Loc.nil | false=>β fr)=_
  rw [nbeq.2 rfl]
 have le:Env.le β β':=fun b X h=>by
  rw [bo fun e=>by rw [e,hfr] at h;cases h];exact h
 have app:∀ (H:Heap) (b:Nat),(b≠fr→hget (H++[(fr,some (⟨ty,[.seq kd []],true⟩:Blk))]) b=hget H b)∧(hget H fr=none→hget (H++[(fr,some (⟨ty,[.seq kd []],true⟩:Blk))]) fr=some ⟨ty,[.seq kd []],true⟩∨hget (H++[(fr,some (⟨ty,[.seq kd []],true⟩:Blk))]) fr=none):=by
  intro H b
  induction H with
  | nil =>
   refine ⟨fun hb=>by simp [hget,nbeq_ne (Ne.symm hb)],fun _=>.inl (by simp [hget])⟩
  | cons e r ih =>
   obtain ⟨k,y⟩:=e
   refine ⟨fun hb=>?_,fun h=>?_⟩
   ·simp only [List.cons_append,hget];rw [ih.1 hb]
   ·simp only [List.cons_append,hget] at h ⊢
    split at h
    ·right;simpa using h
    ·exact ih.2 h
 refine hs β' a w { hi with tmp:=fun t=>?_,good:=⟨fun b blk hb=>?_,fun b b' B n n' q1 q2 q3 q4=>?_,fun b B n q=>?_⟩,new:=fun b X hb=>?_,ext:=Env.le_trans hi.ext le } fun b hb=>?_
 ·simp only
  have ht:=hi.tmp t
  simp only at ht
  rcases nilT_get fr sz ts T 0 t with e | ⟨e1,e2⟩
  ·rw [e];exact relA_mono le ht
  ·rw [e1] at ht
   rw [e2]
   obtain ⟨l1,l2,⟨q1,_⟩,q2,q3⟩:=ht
   exact ⟨l1,l2,.inr ⟨bn,rfl,q1⟩,q2,q3⟩
 ·simp only at hb
  by_cases e:b=fr
  ·subst e
   rcases (app H b).2 hw with q | q
   ·rw [q] at hb;injection hb with hb;subst hb
    exact .inr ⟨bn,.inl rfl,⟨[],[],⟨rfl,by simp⟩,rfl,rfl⟩⟩
   ·rw [q] at hb;cases hb
  ·rw [(app H b).1 e] at hb
   exact relB_mono le (hi.good.heap b blk hb)
 ·simp only at q1 q2
  have e1:b≠fr:=fun e=>by rw [e,bn] at q3;cases q3
  have e2:b'≠fr:=fun e=>by rw [e,bn] at q4;cases q4
  rw [bo e1] at q3
  rw [bo e2] at q4
  obtain ⟨d,hd,hr⟩:=rwK_some q1
  rw [(app H b).1 e1] at hd
  rw [(app H b').1 e2] at q2
  exact hi.good.inj b b' B n n' (rwK_mk hd hr) q2 q3 q4
 ·by_cases e:b=fr
  ·rw [e,bn] at q;cases q
  ·rw [bo e] at q;exact hi.good.lt b B n q
 ·by_cases e:b=fr
  ·rw [e,bn] at hb;injection hb with hb;subst hb
   exact .inr fun B m h=>by cases h
  ·rw [bo e] at hb;exact hi.new b X hb
 ·have e:b≠fr:=by simp only at hb;omega
  rw [bo e];exact hf b (by simp only at hb ⊢;omega)
end
def hasNil:List AV→Bool
 | []=>false
 | .val false [.v (.slice none 0 0)]::_=>true
 | _::r=>hasNil r
def nilAs (k:Nat):List AV→List AV
 | []=>[]
 | x::r=>(match x with
  | .val false [.v (.slice none 0 0)]=>.val false [.sl k 0 0 0]
  | y=>y)::nilAs k r
def nilSpec (s:ASpec):ASpec:=fun args H fr path=>match hasNil args with
 | true=>match s (nilAs fr args) ((fr,some ⟨roTy,[],false⟩)::H) (fr+1) path with
  | some r=>some { r with nw:=r.nw+1 }
  | none=>none
 | false=>s args H fr path
theorem nilSpec_ok {P:Program} {f:FuncId} {s:ASpec} (h:SpecOk P f s):SpecOk P f (nilSpec s):=by
 intro args H fr path r β us w hs hc ha hg hf
 unfold nilSpec at hs
 split at hs
 case h_2=>exact h args H fr path r β us w hs hc ha hg hf
 split at hs
 case h_2=>cases hs
 rename_i r1 hr1
 injection hs with hs
 subst hs
 have hfr:β fr=none:=hf fr (Nat.le_refl _) (by show fr<fr+(r1.nw+1);omega)
 let β1:Env:=fun k=>match Nat.beq k fr with | true=>some Loc.nil | false=>β k
 have bo:∀ {k},k≠fr→β1 k=β k:=fun {k} h=>by
  show (match Nat.beq k fr with | true=>some Loc.nil | false=>β k)=_
  rw [nbeq_ne h]
 have bn:β1 fr=some Loc.nil:=by
  show (match Nat.beq fr fr with | true=>some Loc.nil | false=>β fr)=_
  rw [nbeq.2 rfl]
 have le:Env.le β β1:=fun b X h=>by
  rw [bo fun e=>by rw [e,hfr] at h;cases h];exact h
 have hargs:∀ {args:List AV} {us:List Value},relAs β args us→relAs β1 (nilAs fr args) us:=by
  intro args
  induction args with
  | nil=>intro us h;exact h
  | cons x r ih =>
   rintro us ⟨u,us',h1,h2,h3⟩
   refine ⟨u,us',?_,ih h2,h3⟩
   split
   ·obtain ⟨l1,l2,⟨q1,_⟩,q2,q3⟩:=h1
    exact ⟨l1,l2,.inr ⟨bn,rfl,rfl,rfl,q1⟩,q2,q3⟩
   ·exact relA_mono le h1
 have hgood:Good β1 ((fr,some ⟨roTy,[],false⟩)::H) w:=by
  have at_:∀ {b B n},β1 b=some (.at_ B n)→b≠fr∧β b=some (.at_ B n):=fun {b B n} q=>by
   have e:b≠fr:=fun e=>by rw [e,bn] at q;cases q
   exact ⟨e,by rwa [bo e] at q⟩
  have hh:∀ {b},b≠fr→hget ((fr,some (⟨roTy,[],false⟩:Blk))::H) b=hget H b:=fun {b} e=>by simp only [hget];rw [nbeq_ne (Ne.symm e)]
  refine ⟨fun b blk hb=>?_,fun b b' B n n' q1 q2 q3 q4=>?_,fun b B n q=>hg.lt _ _ _ (at_ q).2⟩
  ·by_cases e:b=fr
   ·subst e
    simp only [hget] at hb
    rw [nbeq.2 rfl] at hb
    injection hb with hb;subst hb
    exact .inr ⟨bn,.inr rfl,rfl⟩
   ·rw [hh e] at hb
    exact relB_mono le (hg.heap b blk hb)
  ·obtain ⟨e1,q3⟩:=at_ q3
   obtain ⟨e2,q4⟩:=at_ q4
   obtain ⟨d,hd,hr⟩:=rwK_some q1
   rw [hh e1] at hd
   rw [hh e2] at q2
   exact hg.inj b b' B n n' (rwK_mk hd hr) q2 q3 q4
 have:=h _ _ _ _ r1 β1 us w hr1 hc (hargs ha) hgood fun b h1 h2=>by
  rw [bo (by omega)];exact hf b (by omega) (by show b<fr+(r1.nw+1);omega)
 have mono:∀ e w',Ret β1 (fr+1) r1 w e w'→Ret β fr { r1 with nw:=r1.nw+1 } w e w':=by
  rintro e w' ⟨u,β',rfl,he⟩
  have bf:β' fr=some Loc.nil:=he.ext fr _ bn
  refine ⟨u,β',rfl,{ he with ext:=Env.le_trans le he.ext,new:=fun b X q=>?_,inj:=fun b b' B n n' q1 q2 q3 q4 q5 q6=>?_,frame:=fun B hB hno=>he.frame B hB fun k y n hk hk2=>?_ }⟩
  ·rcases he.new b X q with q' | ⟨q1,q2,q3⟩
   ·by_cases e:b=fr
    ·subst e
     rw [bn] at q';injection q' with q';subst q'
     exact .inr ⟨Nat.le_refl _,(by show b<b+(r1.nw+1);omega),fun B n h=>by cases h⟩
    ·rw [bo e] at q';exact .inl q'
   ·refine .inr ⟨by omega,(by show b<fr+(r1.nw+1);omega),fun B n e=>?_⟩
    rcases q3 B n e with q | ⟨k,m,k1,k2⟩
    ·exact .inl q
    ·refine .inr ⟨k,m,k1,?_⟩
     rwa [bo fun e=>by rw [e,bn] at k2;cases k2] at k2
  ·have e1:b≠fr:=fun e=>by rw [e,bf] at q5;cases q5
   have e2:b'≠fr:=fun e=>by rw [e,bf] at q6;cases q6
   change b<fr+(r1.nw+1) at q3
   change b'<fr+(r1.nw+1) at q4
   exact he.inj b b' B n n' (by omega) (by omega) (by omega) (by omega) q5 q6
  ·have e:k≠fr:=fun e=>by rw [e,bn] at hk2;cases hk2
   rw [bo e] at hk2
   exact hno k y n hk hk2
 unfold CallX at this ⊢
 split at this
 ·exact mono _ _ this
 ·exact Calls.mono this fun e w' h=>mono e w' h
 ·exact this
end Go.Proofs.YtjlcdlekmpjjnaaGreat.Ex
/- Calls that are run where they stand: the callee's code on the caller's memory. -/
namespace Go.Proofs.YtjlcdlekmpjjnaaGreat.Ex
def occOk (fr:Nat) (H H1:Heap):List Nat→Bool
 | []=>true
 | k::r=>match Nat.blt k fr with
  | true=>match hget H k with | some _=>occOk fr H H1 r | none=>false
  | false=>match hget H1 k with | some _=>occOk fr H H1 r | none=>false
theorem occOk_spec {fr:Nat} {H H1:Heap}:∀ {l:List Nat},occOk fr H H1 l=true→∀ k∈l,(k<fr∧(hget H k).isSome=true)∨(fr≤k∧(hget H1 k).isSome=true)
 | [],_,k,h=>by cases h
 | x::r,h,k,hk=>by
  simp only [occOk] at h
  split at h
  ·rename_i hb
   split at h
   ·rename_i b hg
    rcases List.mem_cons.1 hk with rfl | hk
    ·exact .inl ⟨nblt.1 hb,by rw [hg];rfl⟩
    ·exact occOk_spec h k hk
   ·cases h
  ·rename_i hb
   split at h
   ·rename_i b hg
    rcases List.mem_cons.1 hk with rfl | hk
    ·refine .inr ⟨?_,by rw [hg];rfl⟩
     rcases Nat.lt_or_ge k fr with q | q
     ·rw [nblt.2 q] at hb;cases hb
     ·exact q
    ·exact occOk_spec h k hk
   ·cases h
def blksIn (fr:Nat) (H H1:Heap):List Nat→Bool
 | []=>true
 | k::r=>match hget H1 k with
  | some b=>match occOk fr H H1 (chsKeys b.cs),Nat.beq b.ty roTy with | true,false=>blksIn fr H H1 r | _,_=>false
  | none=>blksIn fr H H1 r
theorem blksIn_spec {fr:Nat} {H H1:Heap}:∀ {l:List Nat},blksIn fr H H1 l=true→∀ k∈l,∀ b,hget H1 k=some b→occOk fr H H1 (chsKeys b.cs)=true∧b.ty≠roTy
 | [],_,k,h=>by cases h
 | x::r,h,k,hk=>by
  intro b' hb'
  simp only [blksIn] at h
  split at h
  ·rename_i b hb
   split at h
   ·rename_i hok hro
    rcases List.mem_cons.1 hk with rfl | hk
    ·rw [hb] at hb';injection hb' with hb';subst hb';exact ⟨hok,nbeq_ro hro⟩
    ·exact blksIn_spec h k hk b' hb'
   ·cases h
  ·rename_i hb
   rcases List.mem_cons.1 hk with rfl | hk
   ·rw [hb] at hb';cases hb'
   ·exact blksIn_spec h k hk b' hb'
def liveL (H1:Heap):List Nat→List Nat
 | []=>[]
 | k::r=>match hget H1 k with | some _=>k::liveL H1 r | none=>liveL H1 r
theorem liveL_mem {H1:Heap} {k:Nat}:∀ {l:List Nat},k∈l→(hget H1 k).isSome=true→k∈liveL H1 l
 | x::r,h,hs=>by
  simp only [liveL]
  rcases List.mem_cons.1 h with rfl | h
  ·obtain ⟨b,hb⟩:=Option.isSome_iff_exists.1 hs
   rw [hb];simp
  ·split
   ·exact List.mem_cons_of_mem _ (liveL_mem h hs)
   ·exact liveL_mem h hs
theorem liveL_sub {H1:Heap} {k:Nat}:∀ {l:List Nat},k∈liveL H1 l→k∈l
 | x::r,h=>by
  simp only [liveL] at h
  split at h
  ·rcases List.mem_cons.1 h with rfl | h
   ·simp
   ·exact List.mem_cons_of_mem _ (liveL_sub h)
  ·exact List.mem_cons_of_mem _ (liveL_sub h)
def newL (fr:Nat) (H1:Heap):List Nat:=liveL H1 (newKeys fr H1)
def updOf (H1:Heap):List Nat→Heap
 | []=>[]
 | k::r=>(k,hget H1 k)::updOf H1 r
theorem updOf_mem {H1:Heap} {k:Nat} {y:Option Blk}:∀ {l:List Nat},(k,y)∈updOf H1 l→k∈l∧y=hget H1 k
 | [],h=>by cases h
 | x::r,h=>by
  simp only [updOf,List.mem_cons,Prod.mk.injEq] at h
  rcases h with ⟨rfl,h2⟩ | h
  ·exact ⟨by simp,h2⟩
  ·obtain ⟨h1,h2⟩:=updOf_mem h
   exact ⟨by simp [h1],h2⟩
theorem mem_updOf {H1:Heap} {k:Nat}:∀ {l:List Nat},k∈l→(k,hget H1 k)∈updOf H1 l
 | x::r,h=>by
  simp only [updOf,List.mem_cons]
  rcases List.mem_cons.1 h with rfl | h
  ·exact .inl rfl
  ·exact .inr (mem_updOf h)
theorem oldKeys_lt {k0:Nat}:∀ {l:List Nat},∀ k∈oldKeys k0 l,k<k0
 | [],k,h=>by cases h
 | x::r,k,h=>by
  simp only [oldKeys] at h
  split at h
  ·rename_i hb _
   rcases List.mem_cons.1 h with rfl | h
   ·exact nblt.1 hb
   ·exact oldKeys_lt k h
  ·exact oldKeys_lt k h
def argsLt (n:Nat):List AV→Bool
 | []=>true
 | x::r=>match allLt n (avKeys x) with | true=>argsLt n r | false=>false
theorem argsLt_rel {β β':Env} {n:Nat} (he:∀ k,k<n→β' k=β k):∀ {args:List AV} {us:List Value},argsLt n args=true→relAs β args us→relAs β' args us
 | [],_,_,h=>h
 | x::r,us,hb,⟨u,us',h1,h2,h3⟩=>by
  simp only [argsLt] at hb
  split at hb
  ·rename_i hx
   exact ⟨u,us',relA_on (fun k hk=>he k (allLt_spec hx k hk)) h1,argsLt_rel he hb h2,h3⟩
  ·cases hb
def inlSpec (P:Program) (O:Orc) (fn:Func) (fuel:Nat):ASpec:=fun args H fr path =>
 match fn.body with
 | some c=>match aRun P O none fuel ⟨[.code c],⟨initT args fn.ntmps,H,fr,path⟩⟩ with
  | some (g,y)=>match aFin P fn y,Nat.ble (alen args) fn.ntmps&&(argsLt fr args&&(hLt fr H&&(hLt y.s.fr y.s.H&&Nat.ble fr y.s.fr))) with
   | some v,true=>match occOk fr H y.s.H (cat (avKeys v) (oldKeys fr g.keys)),blksIn fr H y.s.H (cat (oldKeys fr g.keys) (newL fr y.s.H)) with
    | true,true=>some ⟨v,updOf y.s.H (cat (oldKeys fr g.keys) (newL fr y.s.H)),y.s.fr-fr,g.conds,y.s.path⟩
    | _,_=>none
   | _,_=>none
  | none=>none
 | none=>none
theorem inl_eff {β:Env} {w w':World} {fr fr':Nat} {W:List Nat} {v:AV} {H H1:Heap} {u:Value} {β1:Env} {conds:List (Bool×Bool)} {path:List Bool} (g:Good β H w) (ho:Out (cutEnv β fr) w W v H1 u w' β1) (hW:∀ k∈W,k<fr)
  (hl:hLt fr' H1=true) (hle:fr≤fr') (ov:occOk fr H H1 (cat (avKeys v) W)=true) (ob:blksIn fr H H1 (cat W (newL fr H1))=true) (hf:∀ b,fr≤b→b<fr'→β b=none) :
  ∃ β',Eff β fr ⟨v,updOf H1 (cat W (newL fr H1)),fr'-fr,conds,path⟩ w u w' β':=by
 let β':Env:=fun b=>match Nat.ble fr b&&Nat.blt b fr',hget H1 b with
  | true,some _=>β1 b
  | true,none=>none
  | false,_=>β b
 have out:∀ b,¬ (fr≤b∧b<fr')→β' b=β b:=by
  intro b hb
  have:(Nat.ble fr b&&Nat.blt b fr')=false:=by
   cases h:Nat.ble fr b&&Nat.blt b fr' with
   | false=>rfl
   | true =>
    have:=Bool.and_eq_true_iff.1 h
    exact absurd ⟨Nat.le_of_ble_eq_true this.1,nblt.1 this.2⟩ hb
  show (match Nat.ble fr b&&Nat.blt b fr',hget H1 b with | true,some _=>β1 b | true,none=>none | false,_=>β b)=β b
  rw [this]
 have inn:∀ b,fr≤b→b<fr'→∀ X,β' b=some X→(hget H1 b).isSome=true∧β1 b=some X:=by
  intro b h1 h2 X hX
  have:(Nat.ble fr b&&Nat.blt b fr')=true:=by rw [Nat.ble_eq_true_of_le h1,nblt.2 h2];rfl
  change (match Nat.ble fr b&&Nat.blt b fr',hget H1 b with | true,some _=>β1 b | true,none=>none | false,_=>β b)=some X at hX
  rw [this] at hX
  cases hq:hget H1 b with
  | none=>rw [hq] at hX;cases hX
  | some y=>rw [hq] at hX;exact ⟨rfl,hX⟩
 have hlive:∀ k,(hget H1 k).isSome=true→k<fr':=by
  intro k hk
  obtain ⟨b,hb⟩:=Option.isSome_iff_exists.1 hk
  exact (hLt_get hl hb).1
 have newr:∀ k,fr≤k→(hget H1 k).isSome=true→rwK H1 k=true:=by
  intro k hk hs
  obtain ⟨b,hb⟩:=Option.isSome_iff_exists.1 hs
  exact rwK_mk hb (blksIn_spec ob k (by rw [cat_eq,List.mem_append];exact .inr (liveL_mem (newKeys_mem hb hk) hs)) b hb).2
 have new1:∀ k,fr≤k→(hget H1 k).isSome=true→β' k=β1 k:=by
  intro k hk hs
  have:(Nat.ble fr k&&Nat.blt k fr')=true:=by rw [Nat.ble_eq_true_of_le hk,nblt.2 (hlive k hs)];rfl
  show (match Nat.ble fr k&&Nat.blt k fr',hget H1 k with | true,some _=>β1 k | true,none=>none | false,_=>β k)=β1 k
  rw [this]
  obtain ⟨y,hy⟩:=Option.isSome_iff_exists.1 hs
  rw [hy]
 have old1:∀ k,k<fr→(hget H k).isSome=true→β' k=β1 k:=by
  intro k hk hs
  obtain ⟨b,hb⟩:=Option.isSome_iff_exists.1 hs
  rw [out k (fun q=>by omega)]
  have hq:∃ X,β k=some X:=by
   rcases g.heap k b hb with ⟨B,n,_,_,_,_,_,h,_⟩ | ⟨h,_⟩<;>exact ⟨_,h⟩
  obtain ⟨X,hX⟩:=hq
  rw [hX,ho.ext k X (by rw [cutEnv_lt hk];exact hX)]
 have occ:∀ l,occOk fr H H1 l=true→∀ k∈l,β' k=β1 k:=by
  intro l hl k hk
  rcases occOk_spec hl k hk with ⟨h1,h2⟩ | ⟨h1,h2⟩
  ·exact old1 k h1 h2
  ·exact new1 k h1 h2
 have ext0:Env.le β β':=by
  intro b X hb
  rw [out b (fun h=>by rw [hf b h.1 h.2] at hb;cases hb)]
  exact hb
 have hsub:fr+(fr'-fr)=fr':=by omega
 refine ⟨β',ext0,?_,?_,?_,?_,?_,?_,ho.size,ho.os,ho.tape,ho.output⟩
 ·intro b X hX
  by_cases hr:fr≤b∧b<fr'
  ·obtain ⟨hl,h1⟩:=inn b hr.1 hr.2 X hX
   refine .inr ⟨hr.1,by simp only [hsub];exact hr.2,fun B n e=>?_⟩
   subst e
   rcases ho.new _ _ h1 with h | h
   ·rw [cutEnv_ge hr.1] at h;cases h
   ·rcases h B n rfl with h | ⟨k,m',hk,hk2⟩
    ·exact .inl h
    ·have hk0:=hW k hk
     have hkW:k∈cat W (newL fr H1):=by rw [cat_eq,List.mem_append];exact .inl hk
     cases hbb:hget H1 k with
     | some bb =>
      have:=ho.good.inj _ _ _ _ _ (rwK_mk hbb (blksIn_spec ob k hkW bb hbb).2) hl (ho.ext k _ hk2) h1
      omega
     | none =>
      rw [cutEnv_lt hk0] at hk2
      exact .inr ⟨k,m',by rw [← hbb];exact mem_updOf hkW,hk2⟩
  ·rw [out b hr] at hX;exact .inl hX
 ·intro b B n hX
  by_cases hr:fr≤b∧b<fr'
  ·exact ho.good.lt _ _ _ (inn b hr.1 hr.2 _ hX).2
  ·rw [out b hr] at hX
   exact Nat.lt_of_lt_of_le (g.lt _ _ _ hX) ho.size
 ·intro b b' B n n' h1 h2 h3 h4 h5 h6
  simp only [hsub] at h3 h4
  obtain ⟨l1,q1⟩:=inn b h1 h3 _ h5
  obtain ⟨l2,q2⟩:=inn b' h2 h4 _ h6
  exact ho.good.inj _ _ _ _ _ (newr _ h1 l1) l2 q1 q2
 ·exact relA_on (fun k hk=>occ _ ov k (by rw [cat_eq,List.mem_append];exact .inl hk)) ho.val
 ·intro k y hk
  obtain ⟨hj,e2⟩:=updOf_mem hk
  have hbb:hget H1 k=some y:=e2.symm
  obtain ⟨hok,_⟩:=blksIn_spec ob k hj y hbb
  have hkk:β' k=β1 k:=by
   rw [cat_eq,List.mem_append] at hj
   rcases hj with hj | hj
   ·exact occ _ ov k (by rw [cat_eq,List.mem_append];exact .inr hj)
   ·exact new1 k (newKeys_spec (liveL_sub hj)) (by rw [hbb];rfl)
  rcases ho.good.heap k _ hbb with ⟨B,n,l,t,pre,ty,fz,q1,q2,q3⟩ | ⟨q1,q2,q3⟩
  ·exact .inl ⟨B,n,l,t,pre,ty,fz,by rw [hkk];exact q1,relL_on (fun k hk=>occ _ hok k hk) q2,q3⟩
  ·exact .inr ⟨by rw [hkk];exact q1,q2,relL_on (fun k hk=>occ _ hok k hk) q3⟩
 ·intro B hB hno
  refine ho.frame B hB fun k m hk hk2=>?_
  have hk0:=hW k hk
  rw [cutEnv_lt hk0] at hk2
  exact hno k _ m (mem_updOf (by rw [cat_eq,List.mem_append];exact .inl hk)) hk2
section
variable {P:Program} {O:Orc} (hO:OrcOk P O) (hm:P.follows .mixedOrders=true) {f:FuncId} {fn:Func}
include hO hm in
theorem inl_ok (hfn:P.funcs[f]? = some fn) (hb:fn.body.isSome=true) (hname:(fn.name=="runtime.NumGoroutine")=false) (fuel:Nat):SpecOk P f (inlSpec P O fn fuel):=by
 intro args H fr path r β us w hs hc ha hg hf
 unfold inlSpec at hs
 split at hs
 case h_2=>cases hs
 rename_i c hbody
 split at hs
 case h_2=>cases hs
 rename_i g y hrun
 split at hs
 case h_2=>cases hs
 rename_i v hv hchk
 split at hs
 case h_2=>cases hs
 rename_i hov hob
 injection hs with hs
 subst hs
 simp only [Bool.and_eq_true] at hchk
 obtain ⟨c1,c2,c3,c4,c5⟩:=hchk
 have hle:=Nat.le_of_ble_eq_true c5
 have hlen:=Nat.le_of_ble_eq_true c1
 rw [alen_eq] at hlen
 have hg0:Good (cutEnv β fr) H w:=by
  refine ⟨fun b blk hb=>?_,fun b b' B n n' h1 h2 h3 h4=>hg.inj b b' B n n' h1 h2 (cutEnv_some h3).1 (cutEnv_some h4).1,fun b B n h=>hg.lt b B n (cutEnv_some h).1⟩
  obtain ⟨e1,e2⟩:=hLt_get c3 hb
  rcases hg.heap b blk hb with ⟨B,n,l,t,pre,ty,fz,q1,q2,q3⟩ | ⟨q1,q2,q3⟩
  ·exact .inl ⟨B,n,l,t,pre,ty,fz,by rw [cutEnv_lt e1];exact q1,relL_on (fun k hk=>cutEnv_lt (e2 k hk)) q2,q3⟩
  ·exact .inr ⟨by rw [cutEnv_lt e1];exact q1,q2,relL_on (fun k hk=>cutEnv_lt (e2 k hk)) q3⟩
 have hwf:wfSt fn.ntmps (⟨initT args fn.ntmps,H,fr,path⟩:St):=by
  refine ⟨fun b hb=>?_,?_⟩
  ·cases hq:hget H b with
   | none=>rfl
   | some blk=>have:=(hLt_get c3 hq).1;simp only at hb;omega
  ·simp only [initT,acat_eq,alen_eq,List.length_append,pads_length];omega
 refine callX_of_calls hfn hb hname (Calls.mono (calls_of_safe (R:=Outs (cutEnv β fr) w (oldKeys fr g.keys) v y.s.H) (fr:=fr) (path:=path) hfn hbody hlen ?_ (argsLt_rel (fun k hk=>cutEnv_lt hk) c2 ha) hg0 (fun b hb=>cutEnv_ge hb)) ?_)
 ·refine ASafe.old (W':=oldKeys fr g.keys) (k0:=fr) (fun b hb=>cutEnv_ge hb) (fun k hk=>by cases hk) ?_
  refine seg_safe (W:=oldKeys fr g.keys) hO hm (fuel:=fuel) (k0:=fr) (fg:=none) (stop:=none) (ks:=oldKeys fr g.keys) (y:=y) (by unfold aSeg;rw [hrun]) hc hwf (fun b hb=>cutEnv_ge hb) (fun k hk=>hk) fun _=>?_
  exact fin_safe hfn hv fun _ _ h=>h
 ·rintro e w' ⟨u,β1,rfl,ho⟩
  obtain ⟨β',he⟩:=inl_eff (conds:=g.conds) (path:=y.s.path) hg ho oldKeys_lt c4 hle hov hob fun b h1 h2=>hf b h1 (by show b<fr+(y.s.fr-fr);omega)
  exact ⟨u,β',rfl,he⟩
end
end Go.Proofs.YtjlcdlekmpjjnaaGreat.Ex
/- Calls that are deferred, and panics on their way. -/
namespace Go.Proofs.YtjlcdlekmpjjnaaGreat.Ex
open Go.RowKit (Below)
section
variable {P:Program} {f:FuncId} {fn:Func} {R:Ending→World→Prop} {a:Act} {w:World}
theorem Safe.leaves (hfn:P.funcs[f]? = some fn) {todo:List Item} (ht:aEnd todo=true) (h:Leaves P fn a.tmps R a.defers .returning w):Safe P f R todo a w:=by
 intro b cs hb hk
 have key:∀ td,∃ e w' fr',R e w'∧Comes P (lone { b.at a td with mode:=.returning } cs w) (lone fr' cs w') e∧fr'.fn=f∧fr'.leaving P w' e:=by
  intro td
  obtain ⟨e,w',fr',q1,q2,q3,q4⟩:=leaves_steps a.defers .returning w { b.at a td with mode:=.returning } cs rfl rfl rfl (by show P.funcs[b.fn]? = some fn;rw [hb];exact hfn) hk h
  exact ⟨e,w',fr',q1,q2,q3.trans hb,q4⟩
 unfold aEnd at ht
 split at ht
 ·obtain ⟨e,w',fr',q1,q2,q3,q4⟩:=key []
  exact ⟨e,w',fr',q1,.of_steps (.one step_end) q2,q3,q4⟩
 ·rename_i k
  obtain ⟨e,w',fr',q1,q2,q3,q4⟩:=key (.code .ret::k)
  exact ⟨e,w',fr',q1,.of_steps (.one step_ret) q2,q3,q4⟩
 ·cases ht
theorem Safe.of_wpP (hfn:P.funcs[f]? = some fn) {c:Code} {k:List Item} (h:c.wp P (fun e a' w'=>(e=.normal∧Safe P f R k a' w')∨∃ chain,e=.panic chain∧Leaves P fn a'.tmps R a'.defers (.panicking chain) w') a w):Safe P f R (.code c::k) a w:=by
 intro b cs hb hk
 obtain ⟨e,a',w',hq,harr⟩:=h b k cs
 rcases hq with ⟨he,hs⟩ | ⟨chain,he,hl⟩
 ·subst he
  obtain ⟨e,w'',fr,h1,h2,h3,h4⟩:=hs b cs hb hk
  exact ⟨e,w'',fr,h1,.of_steps harr h2,h3,h4⟩
 ·subst he
  obtain ⟨todo,hs⟩:=harr
  obtain ⟨e,w'',fr',q1,q2,q3,q4⟩:=leaves_steps a'.defers (.panicking chain) w' { b.at a' todo with mode:=.panicking chain } cs rfl rfl rfl (by show P.funcs[b.fn]? = some fn;rw [hb];exact hfn) hk hl
  exact ⟨e,w'',fr',q1,.of_steps hs q2,q3.trans hb,q4⟩
end
def aSteps (P:Program) (O:Orc):Nat→ASt→Option (Log×ASt)
 | 0,x=>some (⟨[],[]⟩,x)
 | n+1,x=>match aStep P O x with
  | some (g,y)=>match aSteps P O n y with
   | some (g',z)=>some (⟨g.conds++g'.conds,cat g.keys g'.keys⟩,z)
   | none=>none
  | none=>none
section
variable {P:Program} {O:Orc} (hO:OrcOk P O) (hm:P.follows .mixedOrders=true) {f:FuncId} {β0:Env} {w0:World} {R:Ending→World→Prop} {n:Fz}
include hO hm
theorem steps_safe:∀ {m:Nat} {W:List Nat} {x y:ASt} {g:Log},aSteps P O m x=some (g,y)→okConds g.conds→wfSt n x.s→(wfSt n y.s→ASafe P f β0 w0 R n (W++g.keys) y)→ASafe P f β0 w0 R n W x
 | 0,W,x,y,g,h,hc,hwf,hs=>by
  simp only [aSteps] at h
  injection h with h;injection h with h1 h2;subst h1;subst h2
  have:=hs hwf
  simpa using this
 | m+1,W,x,y,g,h,hc,hwf,hs=>by
  simp only [aSteps] at h
  split at h
  ·rename_i g1 y1 hst
   split at h
   ·rename_i g2 z hr
    injection h with h;injection h with h1 h2;subst h1;subst h2
    obtain ⟨c1,c2⟩:=okConds_append.1 hc
    refine step_safe hO hm hst c1 hwf (steps_safe hr c2 (aStep_wf hst hwf) fun hw=>?_)
    have:=hs hw
    simpa [cat_eq] using this
   ·cases h
  ·cases h
end
def aSegN (P:Program) (O:Orc) (m k0:Nat) (x:ASt):Option (List (Bool×Bool)×List Nat×ASt) :=
 match aSteps P O m x with
 | some (g,y)=>some (g.conds,oldKeys k0 g.keys,y)
 | none=>none
theorem segN_safe {P:Program} {O:Orc} {f:FuncId} {β0:Env} {w0:World} {R:Ending→World→Prop} {n:Fz} {W:List Nat} (hO:OrcOk P O) (hm:P.follows .mixedOrders=true) {m k0:Nat} {x y:ASt} {conds:List (Bool×Bool)} {ks:List Nat}
  (h:aSegN P O m k0 x=some (conds,ks,y)) (hc:okConds conds) (hwf:wfSt n x.s) (h0:∀ b,k0≤b→β0 b=none) (hks:∀ k∈ks,k∈W) (hs:wfSt n y.s→ASafe P f β0 w0 R n W y):ASafe P f β0 w0 R n W x:=by
 unfold aSegN at h
 split at h
 case h_2=>cases h
 rename_i g y1 hrun
 injection h with h;injection h with h1 h;injection h with h2 h3
 subst h1;subst h3
 refine steps_safe hO hm hrun hc hwf fun hw=>ASafe.old h0 (fun k hk hlt=>?_) (hs hw)
 rcases List.mem_append.1 hk with hk | hk
 ·exact hk
 ·exact hks k (by rw [← h2];exact oldKeys_mem hk hlt)
section
variable {P:Program} {O:Orc} (hO:OrcOk P O) {ops:Array Oper} {β0:Env} {w0:World} {W:List Nat} {n:Fz}
include hO
theorem seq_pre {Q:Exit→Act→World→Prop} {tl:List Nat}:∀ (pre:List Oper) (i:Nat) (s s':St) (recs:List Rec) (β:Env) (a:Act) (w:World),(∀ j o,pre[j]? = some o→ops[i+j]? = some o)→runOps P O ops pre i s=some (recs,s')→okConds (recConds recs) →
  Inv β0 w0 W n β (tget s.T) s.H a w→(∀ b,s.fr≤b→β b=none)→(∀ b,s.fr≤b→hget s.H b=none)→s.T.length=n.n→(∀ k∈recKeys recs,k∈W) →
  (∀ β a w,Inv β0 w0 W n β (tget s'.T) s'.H a w→(∀ b,s'.fr≤b→β b=none)→wpOps P ops Q tl a w)→wpOps P ops Q (List.range' i pre.length++tl) a w
 | [],i,s,s',recs,β,a,w,_,h,_,hi,hf,_,_,_,hQ=>by
  simp only [runOps,Option.some.injEq,Prod.mk.injEq] at h
  obtain ⟨rfl,rfl⟩:=h
  exact hQ β a w hi hf
 | o::rest,i,s,s',recs,β,a,w,hpre,h,hc,hi,hf,hfH,hn,hW,hQ=>by
  simp only [runOps] at h
  split at h
  ·rename_i e he
   split at h
   ·rename_i hd
    split at h
    ·rename_i recs' s'' hr
     injection h with h;injection h with h1 h2;subst h1;subst h2
     obtain ⟨c1,c2⟩:=okConds_append.1 hc
     have ho:ops[i]? = some o:=hpre 0 o rfl
     have hu:=opEff_upd he (fun b h1 _=>hfH b h1)
     rw [List.length_cons,List.range'_succ,List.cons_append,wpOps_cons]
     refine opEff_wp hO hi.tmp hi.good he c1 (fun b h1 _=>hf b h1) (fun b h1 _=>hfH b h1) ho fun u w' β' hE hG=>?_
     have hi':=hi.step hE hG (fun k y hk=>hW k (by simp only [recKeys,cat_eq,List.mem_append];exact .inl (updKeys_mem.2 ⟨y,hk⟩))) (d:=o.dst) (fun t ht=>by
      rw [ht] at hd
      have:=lenLt_spec hd
      omega)
     refine seq_pre rest (i+1) _ _ recs' β' _ w' (fun j o' hj=>by rw [show i+1+j=i+(j+1) by omega];exact hpre (j+1) o' hj) hr c2 (hi'.congr (fun t=>(applyT_get hd t).symm) (fun _=>rfl)) ?_ (fresh_happly hu hfH) (by rw [← hn];exact applyT_length) (fun k hk=>hW k (by simp only [recKeys,cat_eq,List.mem_append];exact .inr hk)) hQ
     intro b hb
     cases hβ:β' b with
     | none=>rfl
     | some X =>
      simp only at hb
      rcases hE.new b X hβ with h | ⟨_,h,_⟩
      ·rw [hf b (by omega)] at h;cases h
      ·omega
    ·cases h
   ·cases h
  ·cases h
end
def PanOk (P:Program) (f:FuncId) (args0:List AV) (H0:Heap) (k0:Nat) (c:List PanicEntry):Prop :=
 ∀ (β:Env) (us:List Value) (w:World),relAs β args0 us→Good β H0 w→(∀ b,k0≤b→β b=none)→Calls P f ⟨us⟩ w fun e w'=>e=.panicked c∧Below w.heap.size w w'
theorem pan_wp {P:Program} {ops:Array Oper} {Q:Exit→Act→World→Prop} {i:Nat} {tl:List Nat} {a:Act} {w:World} {o:Oper} {c:Call} {g:FuncId} {fn:Func} {chain:List PanicEntry} (ho:ops[i]? = some o) (hop:o.op=.call c) (hg:o.guard=none) (hcal:c.callee=.value (.func g))
  (hfn:P.funcs[g]? = some fn) (hb:fn.body.isSome=true) (hname:(fn.name=="runtime.NumGoroutine")=false) (h:Calls P g (c.args.map a.eval) w fun e w'=>e=.panicked chain∧Q (.panic chain) a w'):wpOps P ops Q (i::tl) a w:=by
 simp only [wpOps,ho]
 have hw:Region.wanted o (yielded ops a.tmps)=true:=by unfold Region.wanted;rw [hg]
 rw [if_pos hw]
 refine .inl ?_
 have h1:fn.name≠"runtime.NumGoroutine":=by simpa using hname
 have h2:¬ fn.body=none:=by cases hq:fn.body<;>simp [hq] at hb ⊢
 have e:(execOp a.eval o).run P w=.ok (.enter g (c.args.map a.eval)) w:=by
  simp [execOp,hop,resolve,hcal,Deferred.ofValue,invoke,callFunc,hfn,h1,h2,Act.eval]
 unfold Oper.wp
 rw [e,Oper.upon_enter]
 refine h.mono ?_
 rintro e w' ⟨rfl,hq⟩
 exact hq
theorem defer_wp {P:Program} {ops:Array Oper} {Q:Exit→Act→World→Prop} {i:Nat} {a:Act} {w:World} {o:Oper} {c:Call} {t:Tmp} {F:FuncId} {ps:Array Value} (ho:ops[i]? = some o) (hop:o.op=.defer c) (hg:o.guard=none) (hd:o.dst=none)
  (hcal:c.callee=.value (.tmp t)) (hargs:c.args=#[]) (ht:a.tmps.getD t undef=.func (.func F) #[] ps) (h:Q .normal { a with defers:={ target:=.fn (.func F) ps,args:=#[] }::a.defers } w):wpOps P ops Q [i] a w:=by
 simp only [wpOps,ho]
 have hw:Region.wanted o (yielded ops a.tmps)=true:=by unfold Region.wanted;rw [hg]
 rw [if_pos hw]
 refine .inl ?_
 have e:(execOp a.eval o).run P w=.ok (.defer { target:=.fn (.func F) ps,args:=#[] }) w:=by
  simp [execOp,hop,resolve,hcal,hargs,Deferred.ofValue,Act.eval,ht]
 unfold Oper.wp
 rw [e,Oper.upon_defer,hd]
 exact h
theorem Inv.out {β0 β1 β:Env} {w0 w1 w:World} {W W':List Nat} {n:Fz} {τ:Nat→AV} {H H':Heap} {a:Act} {val:AV} {u:Value} (i:Inv β0 w0 W n β1 τ H a w1) (o:Out β1 w1 W' val H' u w β):Out β0 w0 (W++W') val H' u w β where
 val:=o.val
 good:=o.good
 new b X hb:=by
  rcases o.new b X hb with h | h
  ·rcases i.new b X h with h | h
   ·exact .inl h
   ·exact .inr fun B m e=>(h B m e).imp (fun q=>q) fun ⟨k,m',q1,q2⟩=>⟨k,m',List.mem_append.2 (.inl q1),q2⟩
  ·refine .inr fun B m e=>?_
   rcases h B m e with q | ⟨k,m',q1,q2⟩
   ·exact .inl (Nat.le_trans i.size q)
   ·rcases i.new k _ q2 with r | r
    ·exact .inr ⟨k,m',List.mem_append.2 (.inr q1),r⟩
    ·exact (r B m' rfl).imp (fun q=>q) fun ⟨k',m'',s1,s2⟩=>⟨k',m'',List.mem_append.2 (.inl s1),s2⟩
 ext:=Env.le_trans i.ext o.ext
 frame B hB hno:=by
  rw [o.frame B (Nat.lt_of_lt_of_le hB i.size) ?_,i.frame B hB fun k m hk=>hno k m (List.mem_append.2 (.inl hk))]
  intro k m hk hk2
  rcases i.new k _ hk2 with r | r
  ·exact hno k m (List.mem_append.2 (.inr hk)) r
  ·rcases r B m rfl with q | ⟨k',m',s1,s2⟩
   ·omega
   ·exact hno k' m' (List.mem_append.2 (.inl s1)) s2
 size:=Nat.le_trans i.size o.size
 os:=o.os.trans i.os
 tape:=o.tape.trans i.tape
 output:=o.output.trans i.output
theorem raise_wp {P:Program} {ops:Array Oper} {Q:Exit→Act→World→Prop} {a:Act} {w:World} {o0 o1:Oper} {t:Tmp} {T:TypeId} {v:Value} {k:IntKind} (h0:ops[0]? = some o0) (h1:ops[1]? = some o1) (hop0:o0.op=.makeInterface T (.const v)) (hg0:o0.guard=none)
  (hd0:o0.dst=some t) (hop1:o1.op=.panic (.tmp t)) (hg1:o1.guard=none) (hu:P.underlying T=some (.int k)) (ht:t<a.tmps.size) (h:∀ a',a'.defers=a.defers→Q (.panic [{ v:=.iface T v,recovered:=false }]) a' w):wpOps P ops Q [0,1] a w:=by
 have w0:Region.wanted o0 (yielded ops a.tmps)=true:=by unfold Region.wanted;rw [hg0]
 have w1:Region.wanted o1 (yielded ops (a.put o0.dst (.iface T v)).tmps)=true:=by unfold Region.wanted;rw [hg1]
 have e0:(execOp a.eval o0).run P w=.ok (.value (.iface T v)) w:=by
  simp [execOp,hop0,Instr.makeInterface,run_underlying hu,Act.eval]
 have e1:(execOp (a.put o0.dst (.iface T v)).eval o1).run P w=.halt (.panic (.iface T v)) w:=by
  simp [execOp,hop1,hd0,Act.put,Act.eval,Array.getD_eq_getD_getElem?,ht,Instr.panic,goPanic]
 simp only [wpOps,h0,h1]
 rw [if_pos w0]
 refine .inl ?_
 show o0.upon P a _ Q ((execOp a.eval o0).run P w)
 rw [e0,Oper.upon_value,if_pos w1]
 refine .inl ?_
 show o1.upon P (a.put o0.dst (.iface T v)) _ Q ((execOp (a.put o0.dst (.iface T v)).eval o1).run P w)
 rw [e1,Oper.upon_panic]
 exact h _ (by rw [hd0];rfl)
def headOps:List Item→Array Oper
 | .code (.region _ ops _)::_=>ops
 | _=>#[]
def headId:List Item→Nat
 | .code (.region id _ _)::_=>id
 | _=>0
def rest1:List Item→List Item
 | _::k=>k
 | []=>[]
theorem Inv.root {β0 β:Env} {w0 w:World} {W:List Nat} {n:Fz} {τ:Nat→AV} {H:Heap} {a:Act} (i:Inv β0 w0 W n β τ H a w):Inv β w [] n β τ H a w where
 tmp:=i.tmp
 good:=i.good
 sz:=i.sz
 dfr:=i.dfr
 new:=fun _ _ h=>.inl h
 ext:=Env.le_refl β
 frame:=fun _ _ _=>rfl
 size:=Nat.le_refl _
 os:=rfl
 tape:=rfl
 output:=rfl
theorem Inv.push {β0 β:Env} {w0 w:World} {W:List Nat} {k:Nat} {τ:Nat→AV} {H:Heap} {a:Act} {d:Deferred} (i:Inv β0 w0 W ⟨k,[]⟩ β τ H a w):Inv β0 w0 W ⟨k,[d]⟩ β τ H { a with defers:=d::a.defers } w :=
 { i with sz:=i.sz,dfr:=by rw [i.dfr] }
theorem relP_two {β:Env} {a b:Nat} {ps:List Value} (h:relP β [(a,0),(b,0)] ps):∃ A m B n,β a=some (.at_ A m)∧β b=some (.at_ B n)∧ps=[.pointer (some ⟨A,m.2+0,none⟩),.pointer (some ⟨B,n.2+0,none⟩)]:=by
 obtain ⟨A,m,l,h1,⟨B,n,l',h2,h3,h4⟩,h5⟩:=h
 simp only [relP] at h3
 subst h3;subst h4;subst h5
 exact ⟨A,m,B,n,h1,h2,rfl⟩
theorem out_idle {P:Program} {O:Orc} {f:FuncId} {fn:Func} {β0:Env} {w0:World} {R:Ending→World→Prop} {n:Fz} {W:List Nat} (hO:OrcOk P O) (hm:P.follows .mixedOrders=true) (hfn:P.funcs[f]? = some fn) {fuel k0:Nat} {ks ks':List Nat} {x:ASt} {conds:List (Bool×Bool)} {v:AV} {H1:Heap}
  (h:segOut P O fn fuel k0 ks x=some (conds,ks',v,H1)) (hc:okConds conds) (hwf:wfSt n x.s) (h0:∀ b,k0≤b→β0 b=none) (hks:∀ k∈ks',k∈W) {F:FuncId} {fnF:Func} {p q:Value} (hD:n.D=[{ target:=.fn (.func F) #[p,q],args:=#[] }])
  (hF:P.funcs[F]? = some fnF) (hb:fnF.body.isSome=true) (hname:(fnF.name=="runtime.NumGoroutine")=false) (idle:∀ w,CallsD P F #[p,q] .returning w fun e u' w'=>e=.returned (.tuple #[])∧u'=.returning∧w'=w)
  (hR:∀ e w',Outs β0 w0 W v H1 e w'→R e w'):ASafe P f β0 w0 R n W x:=by
 unfold segOut at h
 split at h
 case h_2=>cases h
 rename_i g y hrun
 split at h
 case h_2=>cases h
 rename_i v' hv
 injection h with h;injection h with h1 h;injection h with h2 h;injection h with h3 h4
 subst h1;subst h3;subst h4
 refine seg_safe (W:=W) hO hm (fuel:=fuel) (k0:=k0) (fg:=none) (stop:=none) (ks:=ks') (y:=y) (by unfold aSeg;rw [hrun];simp only;rw [h2]) hc hwf h0 hks fun _=>?_
 intro β a w hi hf
 unfold aFin at hv
 split at hv
 case h_2=>cases hv
 rename_i l e1 e2
 injection hv with hv;subst hv
 obtain ⟨u,hu,hr⟩:=aResults_run hi.tmp hi.good e2
 have q1:fnF.name≠"runtime.NumGoroutine":=by simpa using hname
 have q2:¬ fnF.body=none:=by cases hq:fnF.body<;>simp [hq] at hb ⊢
 refine Safe.leaves hfn e1 ?_
 rw [hi.dfr,hD]
 refine leaves_cons (f:=F) (args:=#[p,q]) (by simp) (by simp [invoke,callFunc,hF,q1,q2]) ?_
 refine (idle w).mono ?_
 rintro e u' w' ⟨rfl,rfl,rfl⟩
 exact ⟨u,hu,hR _ _ ⟨u,β,rfl,hr,hi.good.restrict ks,hi.new,hi.ext,hi.frame,hi.size,hi.os,hi.tape,hi.output⟩⟩
end Go.Proofs.YtjlcdlekmpjjnaaGreat.Ex
/- Contracts of the smallest functions: math/bits' carries and products, the modulus. -/
namespace Go.Proofs.YtjlcdlekmpjjnaaGreat
open Ex
theorem mixed:Tryz.prog.follows .mixedOrders=true:=by kernel_rfl
def S0:List (FuncId×ASpec):=[(152,subSpec),(147,addSpec)]
def K0:List (TypeId×List (Option IntKind)):=[(30,List.replicate 6 (some .u64)),(32,List.replicate 12 (some .u64)++[none])]
set_option maxRecDepth 100000
set_option maxHeartbeats 4000000
theorem K0ok:KindsOk Tryz.prog K0:=⟨⟨by kernel_rfl,by kernel_rfl,by kernel_rfl⟩,⟨by kernel_rfl,by kernel_rfl,by kernel_rfl⟩,trivial⟩
theorem S0ok:SpecsOk Tryz.prog S0:=⟨subSpec_ok Tryz.func152 (by kernel_rfl) (by kernel_rfl) (by kernel_rfl) (by kernel_rfl),addSpec_ok Tryz.func147 (by kernel_rfl) (by kernel_rfl) (by kernel_rfl) (by kernel_rfl),trivial⟩
theorem normI {β:Env} {A:AV} {u:Value} {c:Bool} {k:IntKind} {i:Int} (h:asI (some A)=some (c,k,i)) (hr:relA β A u):relA β (.val false [.v (.int k i)]) u∧has k i:=by
 obtain ⟨rfl,h2⟩:=asI_rel (β:=β) (u:=u) (fun B hB=>by injection hB with hB;subst hB;exact hr) h
 exact ⟨rel_one' ⟨rfl,rfl,h2⟩,h2⟩
theorem relL_num {β:Env} {k x:Nat} (h:x<2^(64*k)):relL β [.num k x] (words k x):=⟨_,[],⟨h,rfl⟩,rfl,by simp⟩
theorem normN {β:Env} {k x:Nat} {a:List Ch} {u:Value} (h:asNum k a=some x) (hr:relA β (.val true a) u) :
  relA β (.val true [.num k x]) u∧relA β (.val true (wordsCh k x)) u∧x<2^(64*k):=by
 obtain ⟨l,h1,rfl⟩:=hr
 obtain ⟨h2,h3⟩:=asNum_rel h h1
 subst h2
 exact ⟨⟨_,relL_num h3,rfl⟩,⟨_,relL_words k x,rfl⟩,h3⟩
theorem toNum {β:Env} {k x:Nat} {u:Value} (hx:x<2^(64*k)) (hr:relA β (.val true (wordsCh k x)) u):relA β (.val true [.num k x]) u:=by
 obtain ⟨l,h1,rfl⟩:=hr
 have:l=words k x:=by
  have gen:∀ (is:List Nat) (l:List Value),relL β (is.map fun i=>Ch.v (.int .u64 (wordN x i))) l→l=is.map fun i=>Value.int .u64 (wordN x i):=by
   intro is
   induction is with
   | nil=>intro l h;exact h
   | cons i is ih =>
    intro l ⟨l1,l2,q1,q2,q3⟩
    rw [q3,q1.1,ih l2 q2];rfl
  exact gen _ _ h1
 subst this
 exact ⟨_,relL_num hx,rfl⟩
def mulHi (x y:Int):Int:=x*y / 18446744073709551616
def mulLo (x y:Int):Int:=x*y % 18446744073709551616
def mLo (x:Int):Int:=bits .and .u64 x 4294967295
def mHi (x:Int):Int:=Int.fdiv x (2^32)
def mW (x:Int):Int:=IntKind.u64.wrap x
def mw0 (x y:Int):Int:=mW (mLo x*mLo y)
def mt (x y:Int):Int:=mW (mW (mHi x*mLo y)+mHi (mw0 x y))
def mw1 (x y:Int):Int:=mW (mLo (mt x y)+mW (mLo x*mHi y))
theorem mul64_run (x y:Int):pureRun Tryz.prog (orc S0 K0) Tryz.f157 [.val false [.v (.int .u64 x)],.val false [.v (.int .u64 y)]] [] 300 =
 some ([(decide (0≤(32:Int)∧0≤x),true),(decide (0≤(32:Int)∧0≤y),true),(decide (0≤(32:Int)∧0≤mw0 x y),true),(decide (0≤(32:Int)∧0≤mt x y),true),(decide (0≤(32:Int)∧0≤mw1 x y),true)],
  .tup [(false,[.v (.int .u64 (mW (mW (mW (mHi x*mHi y)+mHi (mt x y))+mHi (mw1 x y))))]),(false,[.v (.int .u64 (mW (x*y)))])]):=by kernel_rfl
theorem mLo_eq {x:Int} (h0:0≤x) (h1:x<18446744073709551616):mLo x=x % 4294967296:=by
 obtain ⟨X,rfl⟩:=Int.eq_ofNat_of_zero_le h0
 have h:=(bits_nat .u64 64 (by decide) (fun n h0 h1=>by rw [IntKind.wrap_u64];omega) X 4294967295 (by omega) (by decide)).1
 show bits .and .u64 (X:Int) ((4294967295:Nat):Int)=_
 rw [h]
 have e4:(4294967295:Nat)=2^32-1:=by decide
 rw [e4,Nat.and_two_pow_sub_one_eq_mod]
 omega
theorem mHi_eq (x:Int):mHi x=x / 4294967296:=by
 unfold mHi
 rw [Int.fdiv_eq_ediv_of_nonneg _ (by decide)]
 rfl
theorem mW_eq (x:Int):mW x=x % 18446744073709551616:=IntKind.wrap_u64 x
theorem mul64_math {x y:Int} (hx:0≤x∧x<18446744073709551616) (hy:0≤y∧y<18446744073709551616) :
  mW (mW (mW (mHi x*mHi y)+mHi (mt x y))+mHi (mw1 x y))=mulHi x y∧mW (x*y)=mulLo x y∧0≤mw0 x y∧0≤mt x y∧0≤mw1 x y:=by
 have n0:∀ z,0≤mW z:=fun z=>by rw [mW_eq];omega
 refine ⟨?_,mW_eq _,n0 _,n0 _,n0 _⟩
 have hw:∀ z,0≤mW z∧mW z<18446744073709551616:=fun z=>by rw [mW_eq];omega
 have lt:=mLo_eq (show 0≤mt x y from (hw _).1) (show mt x y<_ from (hw _).2)
 unfold mulHi mw1
 rw [lt,mLo_eq hx.1 hx.2]
 clear lt
 unfold mt mw0
 rw [mLo_eq hx.1 hx.2,mLo_eq hy.1 hy.2]
 simp only [mHi_eq,mW_eq]
 obtain ⟨a,ha⟩:∃ a,a=x / 4294967296:=⟨_,rfl⟩
 obtain ⟨b,hb⟩:∃ b,b=x % 4294967296:=⟨_,rfl⟩
 obtain ⟨c,hc⟩:∃ c,c=y / 4294967296:=⟨_,rfl⟩
 obtain ⟨d,hd⟩:∃ d,d=y % 4294967296:=⟨_,rfl⟩
 have a1:0≤a∧a≤4294967295:=by omega
 have b1:0≤b∧b≤4294967295:=by omega
 have c1:0≤c∧c≤4294967295:=by omega
 have d1:0≤d∧d≤4294967295:=by omega
 rw [← ha,← hb,← hc,← hd]
 have exy:x*y=(a*c)*18446744073709551616+(a*d+b*c)*4294967296+b*d:=by
  have e1:x=a*4294967296+b:=by omega
  have e2:y=c*4294967296+d:=by omega
  rw [e1,e2]
  simp only [Int.add_mul,Int.mul_add]
  have q1:a*4294967296*(c*4294967296)=a*c*18446744073709551616:=by
   rw [Int.mul_assoc,Int.mul_left_comm 4294967296 c,← Int.mul_assoc];omega
  have q2:a*4294967296*d=a*d*4294967296:=Int.mul_right_comm _ _ _
  have q3:b*(c*4294967296)=b*c*4294967296:=(Int.mul_assoc _ _ _).symm
  omega
 rw [exy]
 have pb:∀ {u v:Int},0≤u∧u≤4294967295→0≤v∧v≤4294967295→0≤u*v∧u*v≤18446744065119617025:=by
  intro u v hu hv
  refine ⟨Int.mul_nonneg hu.1 hv.1,?_⟩
  have:=Int.mul_le_mul hu.2 hv.2 hv.1 (by omega)
  omega
 have p1:=pb a1 c1
 have p2:=pb a1 d1
 have p3:=pb b1 c1
 have p4:=pb b1 d1
 generalize a*c=AC at *
 generalize a*d=AD at *
 generalize b*c=BC at *
 generalize b*d=BD at *
 clear ha hb hc hd exy a1 b1 c1 d1 pb hx hy n0 hw
 omega
def mulSp:List AV→Option AV
 | [A,B]=>match asI (some A),asI (some B) with
  | some (_,.u64,x),some (_,.u64,y)=>some (.tup [(false,[.v (.int .u64 (mulHi x y))]),(false,[.v (.int .u64 (mulLo x y))])])
  | _,_=>none
 | _=>none
theorem mul64_ok:∀ args v,mulSp args=some v→PureOk Tryz.prog 157 args v:=by
 intro args v h us w ha
 unfold mulSp at h
 split at h
 case h_2=>cases h
 rename_i A B
 split at h
 case h_2=>cases h
 rename_i c1 x c2 y hx hy
 injection h with h;subst h
 obtain ⟨u1,us1,r1,ha,rfl⟩:=ha
 obtain ⟨u2,us2,r2,ha,rfl⟩:=ha
 simp only [relAs] at ha
 subst ha
 obtain ⟨q1,h1⟩:=normI hx r1
 obtain ⟨q2,h2⟩:=normI hy r2
 have b1:=u64_bounds h1
 have b2:=u64_bounds h2
 obtain ⟨m1,m2,m3,m4,m5⟩:=mul64_math b1 b2
 have:=pure_ok (orc_ok S0ok K0ok) mixed Tryz.func157 (mul64_run x y) (by simp [okConds,b1.1,b2.1,m3,m4,m5]) rfl _ w ⟨u1,_,q1,⟨u2,_,q2,rfl,rfl⟩,rfl⟩
 rw [m1,m2] at this
 exact this
def Pw:List Ch:=[.n .u64 0xb9feffffffffaaab,.n .u64 0x1eabfffeb153ffff,.n .u64 0x6730d2a0f6b0f624,.n .u64 0x64774b84f38512bf,.n .u64 0x4b1ba7b6434bacd7,.n .u64 0x1a0111ea397fe69a]
theorem P_run:pureRun Tryz.prog (orc S0 K0) Tryz.f151 [] [] 100=some ([],.val true Pw):=by kernel_rfl
theorem P_ok:PureOk Tryz.prog 151 [] (.val true Pw):=pure_ok (orc_ok S0ok K0ok) mixed Tryz.func151 P_run trivial rfl
def P_sp:List AV→Option AV | []=>some (.val true Pw) | _=>none
def S1:List (FuncId×ASpec):=(151,pureSpec P_sp)::(157,pureSpec mulSp)::S0
theorem S1ok:SpecsOk Tryz.prog S1:=⟨pureSpec_ok Tryz.func151 (by kernel_rfl) (by kernel_rfl) (fun args v h=>by
 unfold P_sp at h
 split at h
 ·injection h with h;subst h;exact P_ok
 ·cases h),pureSpec_ok Tryz.func157 (by kernel_rfl) (by kernel_rfl) mul64_ok,S0ok⟩
end Go.Proofs.YtjlcdlekmpjjnaaGreat
/- Numbers of six words; the contracts of fp's sums: less, Reduce. -/
namespace Go.Proofs.YtjlcdlekmpjjnaaGreat
open Ex
set_option maxRecDepth 100000
set_option maxHeartbeats 4000000
def pN:Nat:=0x1a0111ea397fe69a4b1ba7b6434bacd764774b84f38512bf6730d2a0f6b0f6241eabfffeb153ffffb9feffffffffaaab
def RR:Nat:=39402006196394479212279040100143613805079739270465446667948293404245721771497210611414266254884915640806627990306816
theorem RR_eq:RR=2^(64*6):=by kernel_rfl
theorem pow6:2^(64*6)=2^64*(2^64*(2^64*(2^64*(2^64*2^64)))):=by kernel_rfl
theorem word_step (x:Nat):(x:Int)=wordN x 0+18446744073709551616*((x / 2^64:Nat):Int):=by
 simp only [wordN,Nat.mul_zero,Nat.pow_zero,Nat.div_one];omega
theorem word_bd (x i:Nat):0≤wordN x i∧wordN x i<18446744073709551616:=u64_bounds (wordN_has x i)
theorem word_lt {x:Nat} (h:x<18446744073709551616):wordN x 0=x:=by
 simp only [wordN,Nat.mul_zero,Nat.pow_zero,Nat.div_one];omega
def sum6 (a0 a1 a2 a3 a4 a5:Int):Int:=a0+18446744073709551616*(a1+18446744073709551616*(a2+18446744073709551616*(a3+18446744073709551616*(a4+18446744073709551616*a5))))
theorem digits6 {x:Nat} (h:x<2^(64*6)):(x:Int)=sum6 (wordN x 0) (wordN x 1) (wordN x 2) (wordN x 3) (wordN x 4) (wordN x 5):=by
 rw [pow6] at h
 have s0:=word_step x
 have s1:=word_step (x / 2^64)
 have s2:=word_step (x / 2^64 / 2^64)
 have s3:=word_step (x / 2^64 / 2^64 / 2^64)
 have s4:=word_step (x / 2^64 / 2^64 / 2^64 / 2^64)
 have s5:wordN (x / 2^64 / 2^64 / 2^64 / 2^64 / 2^64) 0=((x / 2^64 / 2^64 / 2^64 / 2^64 / 2^64:Nat):Int):=by
  apply word_lt
  have l1:=Nat.div_lt_of_lt_mul h
  have l2:=Nat.div_lt_of_lt_mul l1
  have l3:=Nat.div_lt_of_lt_mul l2
  have l4:=Nat.div_lt_of_lt_mul l3
  exact Nat.div_lt_of_lt_mul l4
 simp only [sum6,wordN_succ]
 rw [s5]
 rw [← s4,← s3,← s2,← s1,← s0]
theorem of_digits6 {y:Nat} {d0 d1 d2 d3 d4 d5:Int} (b0:0≤d0∧d0<18446744073709551616) (b1:0≤d1∧d1<18446744073709551616) (b2:0≤d2∧d2<18446744073709551616) (b3:0≤d3∧d3<18446744073709551616) (b4:0≤d4∧d4<18446744073709551616) (b5:0≤d5∧d5<18446744073709551616)
  (h:(y:Int)=sum6 d0 d1 d2 d3 d4 d5):d0=wordN y 0∧d1=wordN y 1∧d2=wordN y 2∧d3=wordN y 3∧d4=wordN y 4∧d5=wordN y 5∧y<2^(64*6):=by
 unfold sum6 at h
 have step:∀ (z:Nat) (d K:Int),0≤d∧d<18446744073709551616→(z:Int)=d+18446744073709551616*K→d=wordN z 0∧((z / 2^64:Nat):Int)=K:=by
  intro z d K hd hz
  have:=word_step z
  have hb:=word_bd z 0
  omega
 obtain ⟨e0,k0⟩:=step y d0 _ b0 h
 obtain ⟨e1,k1⟩:=step _ d1 _ b1 k0
 obtain ⟨e2,k2⟩:=step _ d2 _ b2 k1
 obtain ⟨e3,k3⟩:=step _ d3 _ b3 k2
 obtain ⟨e4,k4⟩:=step _ d4 _ b4 k3
 have e5:d5=wordN (y / 2^64 / 2^64 / 2^64 / 2^64 / 2^64) 0:=by rw [word_lt (by omega)];exact k4.symm
 refine ⟨e0,by rw [e1,wordN_succ],by rw [e2,wordN_succ,wordN_succ],by rw [e3,wordN_succ,wordN_succ,wordN_succ],by rw [e4,wordN_succ,wordN_succ,wordN_succ,wordN_succ],by rw [e5,wordN_succ,wordN_succ,wordN_succ,wordN_succ,wordN_succ],?_⟩
 rw [← RR_eq]
 unfold RR
 omega
def w6 (a0 a1 a2 a3 a4 a5:Int):List Ch:=[.v (.int .u64 a0),.v (.int .u64 a1),.v (.int .u64 a2),.v (.int .u64 a3),.v (.int .u64 a4),.v (.int .u64 a5)]
theorem wordsCh6 (x:Nat):wordsCh 6 x=w6 (wordN x 0) (wordN x 1) (wordN x 2) (wordN x 3) (wordN x 4) (wordN x 5):=rfl
theorem num_of_w6 {β:Env} {u:Value} {y:Nat} {d0 d1 d2 d3 d4 d5:Int} (b0:0≤d0∧d0<18446744073709551616) (b1:0≤d1∧d1<18446744073709551616) (b2:0≤d2∧d2<18446744073709551616) (b3:0≤d3∧d3<18446744073709551616) (b4:0≤d4∧d4<18446744073709551616) (b5:0≤d5∧d5<18446744073709551616)
  (h:(y:Int)=sum6 d0 d1 d2 d3 d4 d5) (hr:relA β (.val true (w6 d0 d1 d2 d3 d4 d5)) u):relA β (.val true [.num 6 y]) u:=by
 obtain ⟨e0,e1,e2,e3,e4,e5,hlt⟩:=of_digits6 b0 b1 b2 b3 b4 b5 h
 rw [e0,e1,e2,e3,e4,e5,← wordsCh6] at hr
 exact toNum hlt hr
theorem dif_eq {a b c:Int} (ha:0≤a∧a<18446744073709551616) (hb:0≤b∧b<18446744073709551616) (hc:0≤c∧c≤1) :
  difW a b c=a-b-c+18446744073709551616*borW a b c∧(0≤difW a b c∧difW a b c<18446744073709551616)∧(0≤borW a b c∧borW a b c≤1):=by
 unfold difW borW
 split<;>omega
theorem sum_eq {a b c:Int} (ha:0≤a∧a<18446744073709551616) (hb:0≤b∧b<18446744073709551616) (hc:0≤c∧c≤1) :
  a+b+c=sumW a b c+18446744073709551616*carW a b c∧(0≤sumW a b c∧sumW a b c<18446744073709551616)∧(0≤carW a b c∧carW a b c≤1):=by
 unfold sumW carW
 omega
theorem is01_of {c:Int} (h:0≤c∧c≤1):is01 c=true:=by simp [is01,h.1,h.2]
def lb1 (a0:Int):Int:=borW a0 0xb9feffffffffaaab 0
def lb2 (a0 a1:Int):Int:=borW a1 0x1eabfffeb153ffff (lb1 a0)
def lb3 (a0 a1 a2:Int):Int:=borW a2 0x6730d2a0f6b0f624 (lb2 a0 a1)
def lb4 (a0 a1 a2 a3:Int):Int:=borW a3 0x64774b84f38512bf (lb3 a0 a1 a2)
def lb5 (a0 a1 a2 a3 a4:Int):Int:=borW a4 0x4b1ba7b6434bacd7 (lb4 a0 a1 a2 a3)
def lb6 (a0 a1 a2 a3 a4 a5:Int):Int:=borW a5 0x1a0111ea397fe69a (lb5 a0 a1 a2 a3 a4)
def ldif (a0 a1 a2 a3 a4 a5:Int):List Ch:=w6 (difW a0 0xb9feffffffffaaab 0) (difW a1 0x1eabfffeb153ffff (lb1 a0)) (difW a2 0x6730d2a0f6b0f624 (lb2 a0 a1)) (difW a3 0x64774b84f38512bf (lb3 a0 a1 a2)) (difW a4 0x4b1ba7b6434bacd7 (lb4 a0 a1 a2 a3)) (difW a5 0x1a0111ea397fe69a (lb5 a0 a1 a2 a3 a4))
def lconds (a0 a1 a2 a3 a4:Int) (r:List (Bool×Bool)):List (Bool×Bool):=(is01 0,true)::(is01 (lb1 a0),true)::(is01 (lb2 a0 a1),true)::(is01 (lb3 a0 a1 a2),true)::(is01 (lb4 a0 a1 a2 a3),true)::(is01 (lb5 a0 a1 a2 a3 a4),true)::r
theorem less_no (a0 a1 a2 a3 a4 a5 h:Int):pureRun Tryz.prog (orc S1 K0) Tryz.f148 [.val true (w6 a0 a1 a2 a3 a4 a5),.val false [.v (.int .u64 h)]] [true] 300 =
 some (lconds a0 a1 a2 a3 a4 [(decide (h<lb6 a0 a1 a2 a3 a4 a5),true)],.val true (w6 a0 a1 a2 a3 a4 a5)):=by kernel_rfl
theorem less_yes (a0 a1 a2 a3 a4 a5 h:Int):pureRun Tryz.prog (orc S1 K0) Tryz.f148 [.val true (w6 a0 a1 a2 a3 a4 a5),.val false [.v (.int .u64 h)]] [false] 300 =
 some (lconds a0 a1 a2 a3 a4 [(decide (h<lb6 a0 a1 a2 a3 a4 a5),false)],.val true (ldif a0 a1 a2 a3 a4 a5)):=by kernel_rfl
def lessN (x h:Nat):Nat:=if x<pN∧h=0 then x else (x+(RR-pN)) % RR
def lessSp:List AV→Option AV
 | [.val true a,B]=>match asNum 6 a,asI (some B) with
  | some x,some (_,.u64,h)=>some (.val true [.num 6 (lessN x h.toNat)])
  | _,_=>none
 | _=>none
theorem less_ok:∀ args v,lessSp args=some v→PureOk Tryz.prog 148 args v:=by
 intro args v h us w ha
 unfold lessSp at h
 split at h
 case h_2=>cases h
 rename_i a B
 split at h
 case h_2=>cases h
 rename_i x c h0 hx hy
 injection h with h;subst h
 obtain ⟨u1,us1,r1,ha,rfl⟩:=ha
 obtain ⟨u2,us2,r2,ha,rfl⟩:=ha
 simp only [relAs] at ha
 subst ha
 obtain ⟨q0,q1,hlt⟩:=normN hx r1
 obtain ⟨q2,h2⟩:=normI hy r2
 have bh:=u64_bounds h2
 rw [wordsCh6] at q1
 have hX:=digits6 hlt
 have w0:=word_bd x 0
 have w1:=word_bd x 1
 have w2:=word_bd x 2
 have w3:=word_bd x 3
 have w4:=word_bd x 4
 have w5:=word_bd x 5
 generalize wordN x 0=a0 at *
 generalize wordN x 1=a1 at *
 generalize wordN x 2=a2 at *
 generalize wordN x 3=a3 at *
 generalize wordN x 4=a4 at *
 generalize wordN x 5=a5 at *
 obtain ⟨d0,e0,f0⟩:=dif_eq (b:=0xb9feffffffffaaab) (c:=0) w0 (by omega) (by omega)
 obtain ⟨d1,e1,f1⟩:=dif_eq (b:=0x1eabfffeb153ffff) (c:=lb1 a0) w1 (by omega) f0
 obtain ⟨d2,e2,f2⟩:=dif_eq (b:=0x6730d2a0f6b0f624) (c:=lb2 a0 a1) w2 (by omega) f1
 obtain ⟨d3,e3,f3⟩:=dif_eq (b:=0x64774b84f38512bf) (c:=lb3 a0 a1 a2) w3 (by omega) f2
 obtain ⟨d4,e4,f4⟩:=dif_eq (b:=0x4b1ba7b6434bacd7) (c:=lb4 a0 a1 a2 a3) w4 (by omega) f3
 obtain ⟨d5,e5,f5⟩:=dif_eq (b:=0x1a0111ea397fe69a) (c:=lb5 a0 a1 a2 a3 a4) w5 (by omega) f4
 have hconds:∀ r,okConds r→okConds (lconds a0 a1 a2 a3 a4 r):=fun r hr =>
  ⟨rfl,is01_of f0,is01_of f1,is01_of f2,is01_of f3,is01_of f4,hr⟩
 change difW a0 0xb9feffffffffaaab 0=a0-0xb9feffffffffaaab-0+18446744073709551616*lb1 a0 at d0
 change difW a1 0x1eabfffeb153ffff (lb1 a0)=a1-0x1eabfffeb153ffff-lb1 a0+18446744073709551616*lb2 a0 a1 at d1
 change difW a2 0x6730d2a0f6b0f624 (lb2 a0 a1)=a2-0x6730d2a0f6b0f624-lb2 a0 a1+18446744073709551616*lb3 a0 a1 a2 at d2
 change difW a3 0x64774b84f38512bf (lb3 a0 a1 a2)=a3-0x64774b84f38512bf-lb3 a0 a1 a2+18446744073709551616*lb4 a0 a1 a2 a3 at d3
 change difW a4 0x4b1ba7b6434bacd7 (lb4 a0 a1 a2 a3)=a4-0x4b1ba7b6434bacd7-lb4 a0 a1 a2 a3+18446744073709551616*lb5 a0 a1 a2 a3 a4 at d4
 change difW a5 0x1a0111ea397fe69a (lb5 a0 a1 a2 a3 a4)=a5-0x1a0111ea397fe69a-lb5 a0 a1 a2 a3 a4+18446744073709551616*lb6 a0 a1 a2 a3 a4 a5 at d5
 change 0≤lb6 a0 a1 a2 a3 a4 a5∧lb6 a0 a1 a2 a3 a4 a5≤1 at f5
 unfold sum6 at hX
 have hsum:sum6 (difW a0 0xb9feffffffffaaab 0) (difW a1 0x1eabfffeb153ffff (lb1 a0)) (difW a2 0x6730d2a0f6b0f624 (lb2 a0 a1)) (difW a3 0x64774b84f38512bf (lb3 a0 a1 a2)) (difW a4 0x4b1ba7b6434bacd7 (lb4 a0 a1 a2 a3)) (difW a5 0x1a0111ea397fe69a (lb5 a0 a1 a2 a3 a4)) =
   (x:Int)-(pN:Nat)+(RR:Nat)*lb6 a0 a1 a2 a3 a4 a5:=by
  unfold sum6 pN RR
  omega
 have hbnd:0≤(x:Int)-(pN:Nat)+(RR:Nat)*lb6 a0 a1 a2 a3 a4 a5∧(x:Int)-(pN:Nat)+(RR:Nat)*lb6 a0 a1 a2 a3 a4 a5<(RR:Nat):=by
  rw [← hsum];unfold sum6 RR;omega
 have hltR:x<RR:=by rw [RR_eq];exact hlt
 by_cases hcase:x<pN∧h0.toNat=0
 ·have hb6:h0<lb6 a0 a1 a2 a3 a4 a5:=by
   unfold pN RR at hbnd;unfold pN at hcase;omega
  have:=pure_ok (orc_ok S1ok K0ok) mixed Tryz.func148 (less_no a0 a1 a2 a3 a4 a5 h0) (hconds _ ⟨by simp [hb6],trivial⟩) rfl _ w ⟨u1,_,q1,⟨u2,_,q2,rfl,rfl⟩,rfl⟩
  refine Calls.mono this ?_
  rintro e w' ⟨u,rfl,hu,hbl⟩
  refine ⟨u,rfl,?_,hbl⟩
  unfold lessN
  rw [if_pos hcase]
  exact num_of_w6 w0 w1 w2 w3 w4 w5 hX hu
 ·have hb6:¬ h0<lb6 a0 a1 a2 a3 a4 a5:=by
   unfold pN RR at hbnd;unfold pN at hcase;omega
  have:=pure_ok (orc_ok S1ok K0ok) mixed Tryz.func148 (less_yes a0 a1 a2 a3 a4 a5 h0) (hconds _ ⟨by simp [hb6],trivial⟩) rfl _ w ⟨u1,_,q1,⟨u2,_,q2,rfl,rfl⟩,rfl⟩
  refine Calls.mono this ?_
  rintro e w' ⟨u,rfl,hu,hbl⟩
  refine ⟨u,rfl,?_,hbl⟩
  unfold lessN
  rw [if_neg hcase]
  refine num_of_w6 e0 e1 e2 e3 e4 e5 ?_ hu
  rw [hsum]
  have h01:lb6 a0 a1 a2 a3 a4 a5=0∨lb6 a0 a1 a2 a3 a4 a5=1:=by omega
  unfold pN RR at *
  rcases h01 with h01 | h01<;>rw [h01] at hbnd ⊢<;>omega
def S2:List (FuncId×ASpec):=(148,pureSpec lessSp)::S1
theorem S2ok:SpecsOk Tryz.prog S2:=⟨pureSpec_ok Tryz.func148 (by kernel_rfl) (by kernel_rfl) less_ok,S1ok⟩
end Go.Proofs.YtjlcdlekmpjjnaaGreat
/- The contract of fp.Reduce. -/
namespace Go.Proofs.YtjlcdlekmpjjnaaGreat
open Ex
set_option maxRecDepth 100000
set_option maxHeartbeats 4000000
def todoOf (x:Option (List (Bool×Bool)×List Nat×ASt)):List Item:=match x with | some (_,_,y)=>y.todo | none=>[]
def zero6:List Ch:=[.n .u64 0,.n .u64 0,.n .u64 0,.n .u64 0,.n .u64 0,.n .u64 0]
noncomputable def redTodo:List Item:=todoOf (aSeg Tryz.prog (orc S2 K0) (some 0) 100 0 (some ([1,2],[0,1],2)) (entry Tryz.f131 [.val true [.num 6 0]] [] 0 []))
noncomputable def redS (x:Nat) (path:List Bool):ASt:=⟨redTodo,⟨[.any,.val false [.p 0 0],.val false [.p 1 0],.any,.any,.any,.any,.any,.any,.any,.any],
 [(0,some ⟨30,[.num 6 x],false⟩),(1,some ⟨30,zero6,false⟩)],2,path⟩⟩
theorem red_entry (x:Nat):aSeg Tryz.prog (orc S2 K0) (some 0) 100 0 (some ([1,2],[0,1],2)) (entry Tryz.f131 [.val true [.num 6 x]] [] 0 [])=some ([],[],redS x []):=by kernel_rfl
theorem red_step (x:Nat):aSeg Tryz.prog (orc S2 K0) (some 0) 100 0 (some ([1,2],[0,1],2)) (redS x [false])=some ([(decide (lessN x 0=x),false)],[],redS (lessN x 0) []):=by kernel_rfl
theorem red_exit (x:Nat):segRet Tryz.prog (orc S2 K0) Tryz.f131 100 0 (redS x [true])=some ([(decide (lessN x 0=x),true)],[],.val true [.num 6 x]):=by kernel_rfl
theorem red_wf (x:Nat) (p:List Bool):wfSt Tryz.f131.ntmps (redS x p).s:=wfB_ok (by kernel_rfl)
theorem lessN_lt {x:Nat} (h:x<pN):lessN x 0=x:=if_pos ⟨h,rfl⟩
theorem lessN_ge {x:Nat} (h:pN≤x) (hx:x<RR):lessN x 0=x-pN:=by
 unfold lessN
 rw [if_neg (by omega)]
 have:pN≤RR:=by decide
 rw [show x+(RR-pN)=(x-pN)+RR by omega,Nat.add_mod_right,Nat.mod_eq_of_lt (by omega)]
theorem pN_pos:0<pN:=by decide
theorem red_safe (w0:World) (v:Nat):∀ (x:Nat),x<RR→x % pN=v→ASafe Tryz.prog 131 noEnv w0 (PureOut w0 (.val true [.num 6 v])) Tryz.f131.ntmps [] (redS x []):=by
 intro x
 induction x using Nat.strongRecOn with
 | _ x ih =>
  intro hx hv
  rcases Nat.lt_or_ge x pN with hlt | hge
  ·rw [Nat.mod_eq_of_lt hlt] at hv
   subst hv
   exact path_safe [true] (ret_safe (orc_ok S2ok K0ok) mixed Tryz.func131 (red_exit x) ⟨by simp [lessN_lt hlt],trivial⟩ (red_wf x _) (fun _ _=>rfl) rfl)
  ·have hp:=pN_pos
   refine path_safe [false] (seg_safe (orc_ok S2ok K0ok) mixed (red_step x) ⟨by simp [lessN_ge hge hx];omega,trivial⟩ (red_wf x _) (fun _ _=>rfl) (fun _ h=>by cases h) fun _=>?_)
   rw [lessN_ge hge hx]
   exact ih (x-pN) (by omega) (by omega) (by rw [← hv,← Nat.mod_eq_sub_mod hge])
def redSp:List AV→Option AV
 | [.val true a]=>match asNum 6 a with
  | some x=>some (.val true [.num 6 (x % pN)])
  | none=>none
 | _=>none
theorem red_ok:∀ args v,redSp args=some v→PureOk Tryz.prog 131 args v:=by
 intro args v h us w ha
 unfold redSp at h
 split at h
 case h_2=>cases h
 rename_i a
 split at h
 case h_2=>cases h
 rename_i x hx
 injection h with h;subst h
 obtain ⟨u1,us1,r1,ha,rfl⟩:=ha
 simp only [relAs] at ha
 subst ha
 obtain ⟨q0,q1,hlt⟩:=normN hx r1
 rw [← RR_eq] at hlt
 exact pure_entry (args:=[.val true [.num 6 x]]) (path:=[]) Tryz.func131 (by kernel_rfl) (by kernel_rfl) (fun w0=>seg_safe (orc_ok S2ok K0ok) mixed (red_entry x) trivial (wfB_ok (by kernel_rfl)) (fun _ _=>rfl) (fun _ h=>by cases h) fun _=>red_safe w0 _ x hlt rfl) _ w ⟨u1,_,q0,rfl,rfl⟩
def S3:List (FuncId×ASpec):=(131,pureSpec redSp)::S2
theorem S3ok:SpecsOk Tryz.prog S3:=⟨pureSpec_ok Tryz.func131 (by kernel_rfl) (by kernel_rfl) red_ok,S2ok⟩
end Go.Proofs.YtjlcdlekmpjjnaaGreat
/- The contracts of fp.Add, fp.Neg, fp.Sub, fp.minusOf. -/
namespace Go.Proofs.YtjlcdlekmpjjnaaGreat
open Ex
set_option maxRecDepth 100000
set_option maxHeartbeats 4000000
def nest6 (d0 d1 d2 d3 d4 d5:Int):Nat:=d0.toNat+18446744073709551616*(d1.toNat+18446744073709551616*(d2.toNat+18446744073709551616*(d3.toNat+18446744073709551616*(d4.toNat+18446744073709551616*(d5.toNat+18446744073709551616*0)))))
def cch (x y:Nat):Nat→Int
 | 0=>0
 | i+1=>carW (wordN x i) (wordN y i) (cch x y i)
def bch (x y:Nat):Nat→Int
 | 0=>0
 | i+1=>borW (wordN x i) (wordN y i) (bch x y i)
def sumD (x y i:Nat):Int:=sumW (wordN x i) (wordN y i) (cch x y i)
def difD (x y i:Nat):Int:=difW (wordN x i) (wordN y i) (bch x y i)
theorem cch_bd (x y:Nat):∀ i,0≤cch x y i∧cch x y i≤1
 | 0=>by simp [cch]
 | i+1=>(sum_eq (word_bd x i) (word_bd y i) (cch_bd x y i)).2.2
theorem bch_bd (x y:Nat):∀ i,0≤bch x y i∧bch x y i≤1
 | 0=>by simp [bch]
 | i+1=>(dif_eq (word_bd x i) (word_bd y i) (bch_bd x y i)).2.2
theorem sumD_bd (x y i:Nat):0≤sumD x y i∧sumD x y i<18446744073709551616:=(sum_eq (word_bd x i) (word_bd y i) (cch_bd x y i)).2.1
theorem difD_bd (x y i:Nat):0≤difD x y i∧difD x y i<18446744073709551616:=(dif_eq (word_bd x i) (word_bd y i) (bch_bd x y i)).2.1
theorem sumD_eq (x y i:Nat):wordN x i+wordN y i+cch x y i=sumD x y i+18446744073709551616*cch x y (i+1):=(sum_eq (word_bd x i) (word_bd y i) (cch_bd x y i)).1
theorem difD_eq (x y i:Nat):difD x y i=wordN x i-wordN y i-bch x y i+18446744073709551616*bch x y (i+1):=(dif_eq (word_bd x i) (word_bd y i) (bch_bd x y i)).1
theorem sum6_chain {x y:Nat} (hx:x<RR) (hy:y<RR):sum6 (sumD x y 0) (sumD x y 1) (sumD x y 2) (sumD x y 3) (sumD x y 4) (sumD x y 5)+(RR:Nat)*cch x y 6=x+y:=by
 have h1:=digits6 (x:=x) (by rw [← RR_eq];exact hx)
 have h2:=digits6 (x:=y) (by rw [← RR_eq];exact hy)
 have e0:wordN x 0+wordN y 0+cch x y 0=sumD x y 0+18446744073709551616*cch x y 1:=sumD_eq x y 0
 have e1:wordN x 1+wordN y 1+cch x y 1=sumD x y 1+18446744073709551616*cch x y 2:=sumD_eq x y 1
 have e2:wordN x 2+wordN y 2+cch x y 2=sumD x y 2+18446744073709551616*cch x y 3:=sumD_eq x y 2
 have e3:wordN x 3+wordN y 3+cch x y 3=sumD x y 3+18446744073709551616*cch x y 4:=sumD_eq x y 3
 have e4:wordN x 4+wordN y 4+cch x y 4=sumD x y 4+18446744073709551616*cch x y 5:=sumD_eq x y 4
 have e5:wordN x 5+wordN y 5+cch x y 5=sumD x y 5+18446744073709551616*cch x y 6:=sumD_eq x y 5
 have z:cch x y 0=0:=rfl
 unfold sum6 at *
 unfold RR
 omega
theorem dif6_chain {x y:Nat} (hx:x<RR) (hy:y<RR):sum6 (difD x y 0) (difD x y 1) (difD x y 2) (difD x y 3) (difD x y 4) (difD x y 5)=x-y+(RR:Nat)*bch x y 6:=by
 have h1:=digits6 (x:=x) (by rw [← RR_eq];exact hx)
 have h2:=digits6 (x:=y) (by rw [← RR_eq];exact hy)
 have e0:difD x y 0=wordN x 0-wordN y 0-bch x y 0+18446744073709551616*bch x y 1:=difD_eq x y 0
 have e1:difD x y 1=wordN x 1-wordN y 1-bch x y 1+18446744073709551616*bch x y 2:=difD_eq x y 1
 have e2:difD x y 2=wordN x 2-wordN y 2-bch x y 2+18446744073709551616*bch x y 3:=difD_eq x y 2
 have e3:difD x y 3=wordN x 3-wordN y 3-bch x y 3+18446744073709551616*bch x y 4:=difD_eq x y 3
 have e4:difD x y 4=wordN x 4-wordN y 4-bch x y 4+18446744073709551616*bch x y 5:=difD_eq x y 4
 have e5:difD x y 5=wordN x 5-wordN y 5-bch x y 5+18446744073709551616*bch x y 6:=difD_eq x y 5
 have z:bch x y 0=0:=rfl
 unfold sum6 at *
 unfold RR
 omega
theorem nest6_eq {d0 d1 d2 d3 d4 d5:Int} (b0:0≤d0∧d0<18446744073709551616) (b1:0≤d1∧d1<18446744073709551616) (b2:0≤d2∧d2<18446744073709551616) (b3:0≤d3∧d3<18446744073709551616) (b4:0≤d4∧d4<18446744073709551616) (b5:0≤d5∧d5<18446744073709551616) :
  (nest6 d0 d1 d2 d3 d4 d5:Int)=sum6 d0 d1 d2 d3 d4 d5∧nest6 d0 d1 d2 d3 d4 d5<RR:=by
 unfold nest6 sum6 RR
 omega
def sumN (x y:Nat):Nat:=nest6 (sumD x y 0) (sumD x y 1) (sumD x y 2) (sumD x y 3) (sumD x y 4) (sumD x y 5)
def difN (x y:Nat):Nat:=nest6 (difD x y 0) (difD x y 1) (difD x y 2) (difD x y 3) (difD x y 4) (difD x y 5)
theorem sumN_eq {x y:Nat} (hx:x<RR) (hy:y<RR):sumN x y+RR*(cch x y 6).toNat=x+y∧sumN x y<RR:=by
 obtain ⟨h1,h2⟩:=nest6_eq (sumD_bd x y 0) (sumD_bd x y 1) (sumD_bd x y 2) (sumD_bd x y 3) (sumD_bd x y 4) (sumD_bd x y 5)
 have h3:=sum6_chain hx hy
 have h4:=cch_bd x y 6
 unfold sumN
 refine ⟨?_,h2⟩
 rw [← h1] at h3
 have h01:cch x y 6=0∨cch x y 6=1:=by omega
 unfold RR at *
 rcases h01 with e | e<;>rw [e] at h3 ⊢<;>simp only [Int.toNat_zero,Int.toNat_one]<;>omega
theorem difN_eq {x y:Nat} (hx:x<RR) (hy:y<RR):difN x y=(x+(RR-y)) % RR:=by
 obtain ⟨h1,h2⟩:=nest6_eq (difD_bd x y 0) (difD_bd x y 1) (difD_bd x y 2) (difD_bd x y 3) (difD_bd x y 4) (difD_bd x y 5)
 have h3:=dif6_chain hx hy
 have h4:=bch_bd x y 6
 unfold difN
 rw [← h1] at h3
 have h01:bch x y 6=0∨bch x y 6=1:=by omega
 unfold RR at *
 rcases h01 with e | e<;>rw [e] at h3<;>omega
theorem difD_chain_num {x y:Nat} (hx:x<RR) (hy:y<RR):(((x+(RR-y)) % RR:Nat):Int)=sum6 (difD x y 0) (difD x y 1) (difD x y 2) (difD x y 3) (difD x y 4) (difD x y 5):=by
 rw [← difN_eq hx hy]
 exact (nest6_eq (difD_bd x y 0) (difD_bd x y 1) (difD_bd x y 2) (difD_bd x y 3) (difD_bd x y 4) (difD_bd x y 5)).1
theorem modp_lt (x:Nat):x % pN<pN:=Nat.mod_lt _ pN_pos
theorem pN_RR:pN+pN<RR:=by decide
theorem lessN_sum {x:Nat} (h:x<pN+pN):lessN x 0=x % pN:=by
 rcases Nat.lt_or_ge x pN with h1 | h1
 ·rw [lessN_lt h1,Nat.mod_eq_of_lt h1]
 ·have:=pN_RR
  rw [lessN_ge h1 (by omega),Nat.mod_eq_sub_mod h1,Nat.mod_eq_of_lt (by omega)]
theorem add_run (x y:Nat):pureRun Tryz.prog (orc S3 K0) Tryz.f85 [.val true [.num 6 x],.val true [.num 6 y]] [] 300 =
 some ([(is01 0,true),(is01 (cch (x % pN) (y % pN) 1),true),(is01 (cch (x % pN) (y % pN) 2),true),(is01 (cch (x % pN) (y % pN) 3),true),(is01 (cch (x % pN) (y % pN) 4),true),(is01 (cch (x % pN) (y % pN) 5),true)],
  .val true [.num 6 (lessN (sumN (x % pN) (y % pN)) (cch (x % pN) (y % pN) 6).toNat)]):=by kernel_rfl
theorem neg_run (x:Nat):pureRun Tryz.prog (orc S3 K0) Tryz.f87 [.val true [.num 6 x]] [] 300 =
 some ([(is01 0,true),(is01 (bch pN (x % pN) 1),true),(is01 (bch pN (x % pN) 2),true),(is01 (bch pN (x % pN) 3),true),(is01 (bch pN (x % pN) 4),true),(is01 (bch pN (x % pN) 5),true)],
  .val true [.num 6 (lessN (difN pN (x % pN)) 0)]):=by kernel_rfl
theorem minusOf_run (x y:Nat):pureRun Tryz.prog (orc S3 K0) Tryz.f214 [.val true [.num 6 x],.val true [.num 6 y]] [] 300 =
 some ([(is01 0,true),(is01 (bch x y 1),true),(is01 (bch x y 2),true),(is01 (bch x y 3),true),(is01 (bch x y 4),true),(is01 (bch x y 5),true)],
  .val true (w6 (difD x y 0) (difD x y 1) (difD x y 2) (difD x y 3) (difD x y 4) (difD x y 5))):=by kernel_rfl
def addN (x y:Nat):Nat:=(x % pN+y % pN) % pN
def negN (x:Nat):Nat:=(pN-x % pN) % pN
def subN (x y:Nat):Nat:=addN x (negN y)
def sp1 (g:Nat→AV):List AV→Option AV
 | [.val true a]=>match asNum 6 a with
  | some x=>some (g x)
  | none=>none
 | _=>none
def sp2 (g:Nat→Nat→AV):List AV→Option AV
 | [.val true a,.val true b]=>match asNum 6 a,asNum 6 b with
  | some x,some y=>some (g x y)
  | _,_=>none
 | _=>none
theorem sp1_ok {f:FuncId} {g:Nat→AV} (h:∀ x,x<RR→PureOk Tryz.prog f [.val true [.num 6 x]] (g x)):∀ args v,sp1 g args=some v→PureOk Tryz.prog f args v:=by
 intro args v hs us w ha
 unfold sp1 at hs
 split at hs
 case h_2=>cases hs
 rename_i a
 split at hs
 case h_2=>cases hs
 rename_i x hx
 injection hs with hs;subst hs
 obtain ⟨u1,us1,r1,ha,rfl⟩:=ha
 simp only [relAs] at ha
 subst ha
 obtain ⟨q0,q1,hlt⟩:=normN hx r1
 exact h x (by rw [RR_eq];exact hlt) _ w ⟨u1,_,q0,rfl,rfl⟩
theorem sp2_ok {f:FuncId} {g:Nat→Nat→AV} (h:∀ x y,x<RR→y<RR→PureOk Tryz.prog f [.val true [.num 6 x],.val true [.num 6 y]] (g x y)):∀ args v,sp2 g args=some v→PureOk Tryz.prog f args v:=by
 intro args v hs us w ha
 unfold sp2 at hs
 split at hs
 case h_2=>cases hs
 rename_i a b
 split at hs
 case h_2=>cases hs
 rename_i x y hx hy
 injection hs with hs;subst hs
 obtain ⟨u1,us1,r1,ha,rfl⟩:=ha
 obtain ⟨u2,us2,r2,ha,rfl⟩:=ha
 simp only [relAs] at ha
 subst ha
 obtain ⟨q0,q1,hlt⟩:=normN hx r1
 obtain ⟨p0,p1,hlt2⟩:=normN hy r2
 exact h x y (by rw [RR_eq];exact hlt) (by rw [RR_eq];exact hlt2) _ w ⟨u1,_,q0,⟨u2,_,p0,rfl,rfl⟩,rfl⟩
theorem lt_RR_mod (x:Nat):x % pN<RR:=Nat.lt_trans (modp_lt x) (by decide)
theorem add_ok (x y:Nat):PureOk Tryz.prog 85 [.val true [.num 6 x],.val true [.num 6 y]] (.val true [.num 6 (addN x y)]):=by
 have h:=pure_ok (orc_ok S3ok K0ok) mixed Tryz.func85 (add_run x y) ⟨rfl,is01_of (cch_bd _ _ _),is01_of (cch_bd _ _ _),is01_of (cch_bd _ _ _),is01_of (cch_bd _ _ _),is01_of (cch_bd _ _ _),trivial⟩ rfl
 obtain ⟨h1,h2⟩:=sumN_eq (lt_RR_mod x) (lt_RR_mod y)
 have h3:=modp_lt x
 have h4:=modp_lt y
 have h5:=pN_RR
 have hc:(cch (x % pN) (y % pN) 6).toNat=0:=by
  have:=cch_bd (x % pN) (y % pN) 6
  have h01:(cch (x % pN) (y % pN) 6).toNat=0∨(cch (x % pN) (y % pN) 6).toNat=1:=by omega
  rcases h01 with e | e
  ·exact e
  ·rw [e] at h1;omega
 rw [hc] at h h1
 rw [lessN_sum (by omega)] at h
 have:sumN (x % pN) (y % pN)=x % pN+y % pN:=by omega
 rw [this] at h
 exact h
theorem neg_ok (x:Nat):PureOk Tryz.prog 87 [.val true [.num 6 x]] (.val true [.num 6 (negN x)]):=by
 have h:=pure_ok (orc_ok S3ok K0ok) mixed Tryz.func87 (neg_run x) ⟨rfl,is01_of (bch_bd _ _ _),is01_of (bch_bd _ _ _),is01_of (bch_bd _ _ _),is01_of (bch_bd _ _ _),is01_of (bch_bd _ _ _),trivial⟩ rfl
 have h3:=modp_lt x
 have h5:=pN_RR
 have:difN pN (x % pN)=pN-x % pN:=by
  rw [difN_eq (by omega) (by omega),show pN+(RR-x % pN)=(pN-x % pN)+RR by omega,Nat.add_mod_right,Nat.mod_eq_of_lt (by omega)]
 rw [this,lessN_sum (by omega)] at h
 exact h
theorem minusOf_ok (x y:Nat) (hx:x<RR) (hy:y<RR):PureOk Tryz.prog 214 [.val true [.num 6 x],.val true [.num 6 y]] (.val true [.num 6 ((x+(RR-y)) % RR)]):=by
 intro us w ha
 have h:=pure_ok (orc_ok S3ok K0ok) mixed Tryz.func214 (minusOf_run x y) ⟨rfl,is01_of (bch_bd _ _ _),is01_of (bch_bd _ _ _),is01_of (bch_bd _ _ _),is01_of (bch_bd _ _ _),is01_of (bch_bd _ _ _),trivial⟩ rfl us w ha
 refine Calls.mono h ?_
 rintro e w' ⟨u,rfl,hu,hbl⟩
 exact ⟨u,rfl,num_of_w6 (difD_bd x y 0) (difD_bd x y 1) (difD_bd x y 2) (difD_bd x y 3) (difD_bd x y 4) (difD_bd x y 5) (difD_chain_num hx hy) hu,hbl⟩
def num6 (x:Nat):AV:=.val true [.num 6 x]
def S4:List (FuncId×ASpec):=(85,pureSpec (sp2 fun x y=>num6 (addN x y)))::(87,pureSpec (sp1 fun x=>num6 (negN x)))::(214,pureSpec (sp2 fun x y=>num6 ((x+(RR-y)) % RR)))::S3
theorem S4ok:SpecsOk Tryz.prog S4:=⟨pureSpec_ok Tryz.func85 (by kernel_rfl) (by kernel_rfl) (sp2_ok fun x y _ _=>add_ok x y),pureSpec_ok Tryz.func87 (by kernel_rfl) (by kernel_rfl) (sp1_ok fun x _=>neg_ok x),pureSpec_ok Tryz.func214 (by kernel_rfl) (by kernel_rfl) (sp2_ok minusOf_ok),S3ok⟩
theorem sub_run (x y:Nat):pureRun Tryz.prog (orc S4 K0) Tryz.f133 [num6 x,num6 y] [] 300=some ([],num6 (subN x y)):=by kernel_rfl
theorem sub_ok (x y:Nat):PureOk Tryz.prog 133 [num6 x,num6 y] (num6 (subN x y)):=pure_ok (orc_ok S4ok K0ok) mixed Tryz.func133 (sub_run x y) trivial rfl
def S5:List (FuncId×ASpec):=(133,pureSpec (sp2 fun x y=>num6 (subN x y)))::S4
theorem S5ok:SpecsOk Tryz.prog S5:=⟨pureSpec_ok Tryz.func133 (by kernel_rfl) (by kernel_rfl) (sp2_ok fun x y _ _=>sub_ok x y),S4ok⟩
end Go.Proofs.YtjlcdlekmpjjnaaGreat
/- Numbers of any words; memory handed over; the contract of the step of fp.reduced. -/
namespace Go.Proofs.YtjlcdlekmpjjnaaGreat
open Ex
set_option maxRecDepth 100000
set_option maxHeartbeats 4000000
def sumL:List Int→Int
 | []=>0
 | d::r=>d+18446744073709551616*sumL r
theorem sumL_digits:∀ (k x:Nat),x<2^(64*k)→sumL ((List.range k).map (wordN x))=x
 | 0,x,h=>by simp only [Nat.mul_zero,Nat.pow_zero] at h;simp [sumL];omega
 | k+1,x,h=>by
  have hq:x / 2^64<2^(64*k):=by
   apply Nat.div_lt_of_lt_mul
   rw [← Nat.pow_add]
   rwa [show 64+64*k=64*(k+1) by omega]
  have ih:=sumL_digits k (x / 2^64) hq
  rw [List.range_succ_eq_map,List.map_cons,List.map_map]
  have e:(wordN x ∘ Nat.succ)=wordN (x / 2^64):=by funext i;simp [Function.comp,wordN_succ]
  rw [e]
  show wordN x 0+18446744073709551616*sumL _=_
  rw [ih,← word_step]
theorem sumL_of:∀ (ds:List Int) (y:Nat),(∀ d∈ds,0≤d∧d<18446744073709551616)→(y:Int)=sumL ds→ds=(List.range ds.length).map (wordN y)∧y<2^(64*ds.length)
 | [],y,_,h=>by simp only [sumL] at h;simp;omega
 | d::ds,y,hb,h=>by
  have hd:=hb d (by simp)
  have hs:=word_step y
  have hw:=word_bd y 0
  simp only [sumL] at h
  have e1:d=wordN y 0:=by omega
  have e2:((y / 2^64:Nat):Int)=sumL ds:=by omega
  obtain ⟨i1,i2⟩:=sumL_of ds _ (fun d h=>hb d (by simp [h])) e2
  refine ⟨?_,?_⟩
  ·rw [List.length_cons,List.range_succ_eq_map,List.map_cons,List.map_map]
   have e:(wordN y ∘ Nat.succ)=wordN (y / 2^64):=by funext i;simp [Function.comp,wordN_succ]
   rw [e,← i1,← e1]
  ·rw [List.length_cons,show 64*(ds.length+1)=64+64*ds.length by omega,Nat.pow_add]
   have:=Nat.lt_mul_div_succ y (show 0<2^64 by decide)
   have h2:y / 2^64+1≤2^(64*ds.length):=i2
   exact Nat.lt_of_lt_of_le this (Nat.mul_le_mul_left _ h2)
def wsCh (ds:List Int):List Ch:=ds.map fun d=>.v (.int .u64 d)
theorem wsCh_rel {β:Env}:∀ {ds:List Int} {l:List Value},relL β (wsCh ds) l→l=ds.map (.int .u64)∧∀ d∈ds,has .u64 d
 | [],l,h=>by simp [wsCh,relL] at h;simp [h]
 | d::ds,l,⟨l1,l2,⟨h1,h1'⟩,h2,h3⟩=>by
  obtain ⟨i1,i2⟩:=wsCh_rel h2
  subst h1;subst i1;subst h3
  refine ⟨rfl,fun x hx=>?_⟩
  rcases List.mem_cons.1 hx with rfl | hx
  ·exact h1'.2
  ·exact i2 x hx
theorem num_of_ws {β β':Env} {ds:List Int} {l:List Value} {y:Nat} (h:(y:Int)=sumL ds) (hr:relL β (wsCh ds) l):relL β' [.num ds.length y] l:=by
 obtain ⟨h1,h2⟩:=wsCh_rel hr
 obtain ⟨h3,h4⟩:=sumL_of ds y (fun d hd=>u64_bounds (h2 d hd)) h
 have:l=words ds.length y:=by
  rw [h1,words]
  conv=>lhs;rw [h3]
  simp [List.map_map,Function.comp]
 rw [this]
 exact relL_num h4
theorem num_any {β β':Env} {k x:Nat} {a:List Ch} {l:List Value} (h:asNum k a=some x) (hr:relL β a l):relL β' [.num k x] l:=by
 obtain ⟨h2,h3⟩:=asNum_rel h hr
 subst h2
 exact relL_num h3
theorem inEnv_at {β:Env} {ρ:List Nat} {k0 j:Nat} (h:j<k0):inEnv β ρ k0 j=β (nth ρ j):=by simp [inEnv,nblt.2 h]
theorem relB_def {β:Env} {b:Blk} {k:Nat} {w:World} (h:relB β b k w):∃ X,β k=some X:=by
 rcases h with ⟨B,n,_,_,_,_,_,h,_⟩ | ⟨h,_⟩<;>exact ⟨_,h⟩
theorem relB_in {β β':Env} {b d:Blk} {k j:Nat} {w:World} (h:relB β b k w) (he:β' j=β k) (hd:d.ty=roTy∨(d.ty=b.ty∧d.opn=b.opn)) (hc:∀ l,relL β b.cs l→relL β' d.cs l):relB β' d j w:=by
 rcases h with ⟨B,n,l,t,pre,ty,fz,h1,h2,h3,h4,h5⟩ | ⟨h1,h2,h3⟩
 ·refine .inl ⟨B,n,l,t,pre,ty,fz,by rw [he];exact h1,hc _ h2,h3,h4,fun hr=>?_⟩
  obtain ⟨e1,e2⟩:=hd.resolve_left hr
  rw [e1] at hr ⊢
  rw [e2]
  exact h5 hr
 ·refine .inr ⟨by rw [he];exact h1,?_,hc _ h3⟩
  rcases hd with e | ⟨e1,e2⟩
  ·exact .inr e
  ·rw [e1,e2];exact h2
def enumH:Nat→List Blk→Heap
 | _,[]=>[]
 | j,b::r=>(j,some b)::enumH (j+1) r
theorem hget_enum:∀ {bs:List Blk} {j k:Nat} {b:Blk},hget (enumH j bs) k=some b→j≤k∧bs[k-j]? = some b
 | [],_,_,_,h=>by cases h
 | d::bs,j,k,b,h=>by
  simp only [enumH,hget] at h
  split at h
  ·rename_i e
   have:=nbeq.1 e
   subst this
   injection h with h
   exact ⟨Nat.le_refl _,by simp [h]⟩
  ·rename_i e
   have:=nbeq_false e
   obtain ⟨h1,h2⟩:=hget_enum h
   refine ⟨by omega,?_⟩
   rw [show k-j=(k-(j+1))+1 by omega,List.getElem?_cons_succ]
   exact h2
theorem good_enum {β:Env} {H:Heap} {w:World} {ρ:List Nat} {bs:List Blk} (g:Ex.Good β H w)
  (h:∀ j d,bs[j]? = some d→∃ b,hget H (nth ρ j)=some b∧(d.ty=roTy∨(d.ty=b.ty∧d.opn=b.opn))∧∀ l,relL β b.cs l→relL (inEnv β ρ bs.length) d.cs l)
  (hne:∀ i j d,bs[i]? = some d→d.ty≠roTy→i≠j→j<bs.length→nth ρ i≠nth ρ j):Ex.Good (inEnv β ρ bs.length) (enumH 0 bs) w:=by
 have hlt:∀ {j:Nat} {d:Blk},bs[j]? = some d→j<bs.length:=fun hj=>by
  rcases Nat.lt_or_ge _ bs.length with h | h
  ·exact h
  ·rw [List.getElem?_eq_none h] at hj;cases hj
 refine ⟨fun j blk hj=>?_,fun i j B n n' h1 h2 h3 h4=>?_,fun j B n hj=>?_⟩
 ·obtain ⟨_,hj⟩:=hget_enum hj
  rw [Nat.sub_zero] at hj
  obtain ⟨b,hb,hd,hc⟩:=h j blk hj
  exact relB_in (g.heap _ b hb) (inEnv_at (hlt hj)) hd hc
 ·obtain ⟨d,hd,hr⟩:=rwK_some h1
  obtain ⟨e,he⟩:=Option.isSome_iff_exists.1 h2
  obtain ⟨_,hd⟩:=hget_enum hd
  obtain ⟨_,he⟩:=hget_enum he
  rw [Nat.sub_zero] at hd he
  by_cases hij:i=j
  ·exact hij
  ·exfalso
   obtain ⟨b,hb,hdd,_⟩:=h i d hd
   obtain ⟨b',hb',_⟩:=h j e he
   rw [inEnv_at (hlt hd)] at h3
   rw [inEnv_at (hlt he)] at h4
   have hbr:b.ty≠roTy:=by
    obtain ⟨e1,_⟩:=hdd.resolve_left hr
    rw [← e1];exact hr
   exact hne i j d hd hr hij (hlt he) (g.inj _ _ B n n' (rwK_mk hb hbr) (by rw [hb'];rfl) h3 h4)
 ·unfold inEnv at hj
  split at hj
  ·exact g.lt _ _ _ hj
  ·cases hj
def roB (c:List Ch):Blk:=⟨roTy,c,false⟩
theorem good1 {β:Env} {H:Heap} {w:World} {k:Nat} {b:Blk} {c:List Ch} (g:Ex.Good β H w) (hk:hget H k=some b) (hc:∀ l,relL β b.cs l→relL (inEnv β [k] 1) c l):Ex.Good (inEnv β [k] 1) [(0,some (roB c))] w:=by
 refine good_enum (ρ:=[k]) (bs:=[roB c]) g (fun j d hj=>?_) fun i j d hi hr=>?_
 ·match j,hj with
  | 0,hj=>injection hj with hj;subst hj;exact ⟨b,hk,.inl rfl,hc⟩
 ·match i,hi with
  | 0,hi=>injection hi with hi;subst hi;exact absurd rfl hr
theorem good2r {β:Env} {H:Heap} {w:World} {k t:Nat} {b d:Blk} {c e:List Ch} (g:Ex.Good β H w) (hk:hget H k=some b) (ht:hget H t=some d)
  (hc:∀ l,relL β b.cs l→relL (inEnv β [k,t] 2) c l) (he:∀ l,relL β d.cs l→relL (inEnv β [k,t] 2) e l):Ex.Good (inEnv β [k,t] 2) [(0,some (roB c)),(1,some (roB e))] w:=by
 refine good_enum (ρ:=[k,t]) (bs:=[roB c,roB e]) g (fun j z hj=>?_) fun i j z hi hr=>?_
 ·match j,hj with
  | 0,hj=>injection hj with hj;subst hj;exact ⟨b,hk,.inl rfl,hc⟩
  | 1,hj=>injection hj with hj;subst hj;exact ⟨d,ht,.inl rfl,he⟩
 ·match i,hi with
  | 0,hi=>injection hi with hi;subst hi;exact absurd rfl hr
  | 1,hi=>injection hi with hi;subst hi;exact absurd rfl hr
theorem good2 {β:Env} {H:Heap} {w:World} {k t:Nat} {b d:Blk} {c e:List Ch} (g:Ex.Good β H w) (hk:hget H k=some b) (ht:hget H t=some d) (hne:k≠t)
  (hc:∀ l,relL β b.cs l→relL (inEnv β [k,t] 2) c l) (he:∀ l,relL β d.cs l→relL (inEnv β [k,t] 2) e l):Ex.Good (inEnv β [k,t] 2) [(0,some ⟨b.ty,c,b.opn⟩),(1,some ⟨d.ty,e,d.opn⟩)] w:=by
 refine good_enum (ρ:=[k,t]) (bs:=[⟨b.ty,c,b.opn⟩,⟨d.ty,e,d.opn⟩]) g (fun j z hj=>?_) fun i j z hi hr hij hj=>?_
 ·match j,hj with
  | 0,hj=>injection hj with hj;subst hj;exact ⟨b,hk,.inr ⟨rfl,rfl⟩,hc⟩
  | 1,hj=>injection hj with hj;subst hj;exact ⟨d,ht,.inr ⟨rfl,rfl⟩,he⟩
 ·match i,j,hi,hj,hij with
  | 0,1,_,_,_=>exact hne
  | 1,0,_,_,_=>exact hne.symm
  | 0,0,_,_,q=>exact absurd rfl q
  | 1,1,_,_,q=>exact absurd rfl q
theorem outs_block1 {β0:Env} {w0:World} {W:List Nat} {v:AV} {j:Nat} {ty:TypeId} {o:Bool} {c c':List Ch} (hc:∀ (β:Env) l,relL β c l→relL β c' l) {e:Ending} {w:World} (h:Outs β0 w0 W v [(j,some ⟨ty,c,o⟩)] e w):Outs β0 w0 W v [(j,some ⟨ty,c',o⟩)] e w:=by
 obtain ⟨u,β,h1,h2⟩:=h
 have hg:∀ b blk,hget [(j,some (⟨ty,c',o⟩:Blk))] b=some blk→b=j∧blk=⟨ty,c',o⟩∧hget [(j,some (⟨ty,c,o⟩:Blk))] b=some ⟨ty,c,o⟩:=by
  intro b blk hb
  simp only [hget] at hb ⊢
  split at hb
  ·rename_i hbj
   injection hb with hb
   exact ⟨(nbeq.1 hbj).symm,hb.symm,rfl⟩
  ·cases hb
 refine ⟨u,β,h1,{ h2 with good:=⟨fun b blk hb=>?_,fun b b' B n n' q1 q2 q3 q4=>?_,h2.good.lt⟩ }⟩
 ·obtain ⟨e1,e2,e3⟩:=hg b blk hb
  subst e2
  exact relB_in (d:=⟨ty,c',o⟩) (h2.good.heap b _ e3) rfl (.inr ⟨rfl,rfl⟩) (hc β)
 ·obtain ⟨x,hx,_⟩:=rwK_some q1
  obtain ⟨y,hy⟩:=Option.isSome_iff_exists.1 q2
  rw [(hg b x hx).1,(hg b' y hy).1]
def stC (x:Int) (y T:Nat):Nat→Int
 | 0=>0
 | i+1=>mW (mW (mulHi x (wordN y i)+carW (mulLo x (wordN y i)) (stC x y T i) 0)+carW (wordN T i) (sumW (mulLo x (wordN y i)) (stC x y T i) 0) 0)
def stT (x:Int) (y T i:Nat):Int:=sumW (wordN T i) (sumW (mulLo x (wordN y i)) (stC x y T i) 0) 0
def stT6 (x:Int) (y T:Nat):Int:=sumW (wordN T 6) (stC x y T 6) 0
def stT7 (x:Int) (y T:Nat):Int:=mW (wordN T 7+carW (wordN T 6) (stC x y T 6) 0)
theorem st_word {a T c:Int} (ha:0≤a∧a≤340282366920938463426481119284349108225) (hT:0≤T∧T<18446744073709551616) (hc:0≤c∧c<18446744073709551616) :
  a+T+c=sumW T (sumW (a % 18446744073709551616) c 0) 0+18446744073709551616*mW (mW (a / 18446744073709551616+carW (a % 18446744073709551616) c 0)+carW T (sumW (a % 18446744073709551616) c 0) 0) ∧
  (0≤mW (mW (a / 18446744073709551616+carW (a % 18446744073709551616) c 0)+carW T (sumW (a % 18446744073709551616) c 0) 0)∧mW (mW (a / 18446744073709551616+carW (a % 18446744073709551616) c 0)+carW T (sumW (a % 18446744073709551616) c 0) 0)<18446744073709551616):=by
 simp only [mW_eq]
 unfold sumW carW
 omega
theorem mul_bd {x y:Int} (hx:0≤x∧x<18446744073709551616) (hy:0≤y∧y<18446744073709551616):0≤x*y∧x*y≤340282366920938463426481119284349108225:=by
 refine ⟨Int.mul_nonneg hx.1 hy.1,?_⟩
 have:=Int.mul_le_mul (show x≤18446744073709551615 by omega) (show y≤18446744073709551615 by omega) hy.1 (by decide)
 omega
theorem stC_bd {x:Int} (hx:0≤x∧x<18446744073709551616) (y T:Nat):∀ i,0≤stC x y T i∧stC x y T i<18446744073709551616
 | 0=>by simp [stC]
 | i+1=>(st_word (mul_bd hx (word_bd y i)) (word_bd T i) (stC_bd hx y T i)).2
theorem st_eq {x:Int} (hx:0≤x∧x<18446744073709551616) (y T i:Nat):x*wordN y i+wordN T i+stC x y T i=stT x y T i+18446744073709551616*stC x y T (i+1) :=
 (st_word (mul_bd hx (word_bd y i)) (word_bd T i) (stC_bd hx y T i)).1
def R8:Nat:=13407807929942597099574024998205846127479365820592393377723561443721764030073546976801874298166903427690031858186486050853753882811946569946433649006084096
theorem R8_eq:R8=2^(64*8):=by kernel_rfl
def stepN (T:Nat) (x:Int) (y:Nat):Nat:=(T+x.toNat*y) % R8
def stL0 (x:Int) (y T:Nat):List Int:=[stT x y T 0,stT x y T 1,stT x y T 2,stT x y T 3,stT x y T 4,stT x y T 5,stT6 x y T,stT7 x y T]
def stL1 (x:Int) (y T:Nat):List Int:=[stT x y T 1,stT x y T 2,stT x y T 3,stT x y T 4,stT x y T 5,stT6 x y T,stT7 x y T,0]
theorem step_num {x:Int} (hx:0≤x∧x<18446744073709551616) {y T:Nat} (hy:y<RR) (hT:T<R8) :
  ((stepN T x y:Nat):Int)=sumL (stL0 x y T)∧((stepN T x y / 18446744073709551616:Nat):Int)=sumL (stL1 x y T):=by
 have e0:x*wordN y 0+wordN T 0+stC x y T 0=stT x y T 0+18446744073709551616*stC x y T 1:=st_eq hx y T 0
 have e1:x*wordN y 1+wordN T 1+stC x y T 1=stT x y T 1+18446744073709551616*stC x y T 2:=st_eq hx y T 1
 have e2:x*wordN y 2+wordN T 2+stC x y T 2=stT x y T 2+18446744073709551616*stC x y T 3:=st_eq hx y T 2
 have e3:x*wordN y 3+wordN T 3+stC x y T 3=stT x y T 3+18446744073709551616*stC x y T 4:=st_eq hx y T 3
 have e4:x*wordN y 4+wordN T 4+stC x y T 4=stT x y T 4+18446744073709551616*stC x y T 5:=st_eq hx y T 4
 have e5:x*wordN y 5+wordN T 5+stC x y T 5=stT x y T 5+18446744073709551616*stC x y T 6:=st_eq hx y T 5
 have z:stC x y T 0=0:=rfl
 have c6:=stC_bd hx y T 6
 have t6:=word_bd T 6
 have t7:=word_bd T 7
 have e6:wordN T 6+stC x y T 6=stT6 x y T+18446744073709551616*carW (wordN T 6) (stC x y T 6) 0:=by unfold stT6 sumW carW;omega
 have b0:0≤stT x y T 0∧stT x y T 0<18446744073709551616:=by unfold stT sumW;omega
 have b1:0≤stT x y T 1∧stT x y T 1<18446744073709551616:=by unfold stT sumW;omega
 have b2:0≤stT x y T 2∧stT x y T 2<18446744073709551616:=by unfold stT sumW;omega
 have b3:0≤stT x y T 3∧stT x y T 3<18446744073709551616:=by unfold stT sumW;omega
 have b4:0≤stT x y T 4∧stT x y T 4<18446744073709551616:=by unfold stT sumW;omega
 have b5:0≤stT x y T 5∧stT x y T 5<18446744073709551616:=by unfold stT sumW;omega
 have b6:0≤stT6 x y T∧stT6 x y T<18446744073709551616:=by unfold stT6 sumW;omega
 have e7:stT7 x y T=(wordN T 7+carW (wordN T 6) (stC x y T 6) 0) % 18446744073709551616:=mW_eq _
 have dT:=sumL_digits 8 T (by rw [← R8_eq];exact hT)
 have dy:=sumL_digits 6 y (by rw [← RR_eq];exact hy)
 have dT':sumL [wordN T 0,wordN T 1,wordN T 2,wordN T 3,wordN T 4,wordN T 5,wordN T 6,wordN T 7]=T:=dT
 have dy':sumL [wordN y 0,wordN y 1,wordN y 2,wordN y 3,wordN y 4,wordN y 5]=y:=dy
 have em:x*(y:Int)=sumL [x*wordN y 0,x*wordN y 1,x*wordN y 2,x*wordN y 3,x*wordN y 4,x*wordN y 5]:=by
  rw [← dy']
  simp only [sumL,Int.mul_add,Int.mul_zero,Int.mul_left_comm x 18446744073709551616]
 have key:((T+x.toNat*y:Nat):Int)=sumL (stL0 x y T)+(R8:Nat)*((wordN T 7+carW (wordN T 6) (stC x y T 6) 0) / 18446744073709551616):=by
  have:((x.toNat*y:Nat):Int)=x*y:=by rw [Int.natCast_mul,Int.toNat_of_nonneg hx.1]
  rw [Int.natCast_add,this,em,← dT']
  clear em this dT dy dT' dy'
  generalize x*wordN y 0=q0 at *
  generalize x*wordN y 1=q1 at *
  generalize x*wordN y 2=q2 at *
  generalize x*wordN y 3=q3 at *
  generalize x*wordN y 4=q4 at *
  generalize x*wordN y 5=q5 at *
  generalize carW (wordN T 6) (stC x y T 6) 0=o at *
  unfold stL0 R8
  simp only [sumL]
  omega
 have hbd:0≤sumL (stL0 x y T)∧sumL (stL0 x y T)<(R8:Nat):=by
  have b7:0≤stT7 x y T∧stT7 x y T<18446744073709551616:=by omega
  clear key em dT dy dT' dy' e0 e1 e2 e3 e4 e5 e6 e7
  unfold stL0 R8
  simp only [sumL]
  omega
 have h0:((stepN T x y:Nat):Int)=sumL (stL0 x y T):=by
  unfold stepN
  rw [Int.natCast_emod,key,Int.add_mul_emod_self_left,Int.emod_eq_of_lt hbd.1 hbd.2]
 refine ⟨h0,?_⟩
 rw [Int.natCast_ediv,h0]
 have:sumL (stL0 x y T)=stT x y T 0+18446744073709551616*sumL (stL1 x y T):=by
  unfold stL0 stL1
  simp only [sumL]
  omega
 omega
def stepH (y T:Nat):Heap:=[(0,some ⟨30,[.num 6 y],false⟩),(1,some ⟨206,[.num 8 T],false⟩)]
def stepA (x s:Int):List AV:=[.val false [.v (.int .u64 x)],.val false [.p 0 0],.val false [.n .i64 s],.val false [.p 1 0]]
def allT:Nat→List (Bool×Bool)
 | 0=>[]
 | n+1=>(true,true)::allT n
theorem allT_ok:∀ n,okConds (allT n)
 | 0=>trivial
 | n+1=>⟨rfl,allT_ok n⟩
theorem step_run0 (x:Int) (y T:Nat):segOut Tryz.prog (orc S5 K0) Tryz.f217 600 2 [1] (entry Tryz.f217 (stepA x 0) (stepH y T) 2 []) =
 some (allT 15,[1],.tup [],[(1,some ⟨206,wsCh (stL0 x y T),false⟩)]):=by kernel_rfl
def nv:Ch→Ch
 | .n k i=>.v (.int k i)
 | c=>c
theorem relC_nv {β:Env} {c:Ch} {l:List Value} (h:relC β c l):relC β (nv c) l:=by
 cases c<;>try exact h
 exact ⟨h.1,rfl,h.2⟩
theorem relL_nv {β:Env}:∀ {cs:List Ch} {l:List Value},relL β cs l→relL β (cs.map nv) l
 | [],_,h=>h
 | _::_,_,⟨l1,l2,h1,h2,h3⟩=>⟨l1,l2,relC_nv h1,relL_nv h2,h3⟩
def stW1 (x:Int) (y T:Nat):List Ch:=[.v (.int .u64 (stT x y T 1)),.v (.int .u64 (stT x y T 2)),.v (.int .u64 (stT x y T 3)),.v (.int .u64 (stT x y T 4)),.v (.int .u64 (stT x y T 5)),.v (.int .u64 (stT6 x y T)),.v (.int .u64 (stT7 x y T)),.n .u64 0]
theorem step_run1 (x:Int) (y T:Nat):segOut Tryz.prog (orc S5 K0) Tryz.f217 600 2 [1] (entry Tryz.f217 (stepA x 1) (stepH y T) 2 []) =
 some (allT 15,[1],.tup [],[(1,some ⟨206,stW1 x y T,false⟩)]):=by kernel_rfl
theorem stL1_eq (x:Int) (y T:Nat):wsCh (stL1 x y T)=(stW1 x y T).map nv:=rfl
def endH (T:Nat):Heap:=[(1,some ⟨206,[.num 8 T],false⟩)]
theorem step_can {x:Int} (hx:0≤x∧x<18446744073709551616) {y T:Nat} (hy:y<RR) (hT:T<R8) :
  CanOk Tryz.prog 217 (stepA x 0) (stepH y T) 2 [1] (.tup []) (endH (stepN T x y))∧CanOk Tryz.prog 217 (stepA x 1) (stepH y T) 2 [1] (.tup []) (endH (stepN T x y / 18446744073709551616)):=by
 obtain ⟨h0,h1⟩:=step_num hx hy hT
 constructor
 ·intro β us w ha hg hf
  have:=can_entry Tryz.func217 (by kernel_rfl) (args0:=stepA x 0) (H0:=stepH y T) (k0:=2) (path:=[]) (W:=[1]) (by kernel_rfl) (fun β0 w0 hb=>out_safe (orc_ok S5ok K0ok) mixed Tryz.func217 (step_run0 x y T) (allT_ok _) (wfB_ok (by kernel_rfl)) hb (fun _ h=>h)) β us w ha hg hf
  exact Calls.mono this fun e w' h=>outs_block1 (fun _ _ hr=>num_of_ws h0 hr) h
 ·intro β us w ha hg hf
  have:=can_entry Tryz.func217 (by kernel_rfl) (args0:=stepA x 1) (H0:=stepH y T) (k0:=2) (path:=[]) (W:=[1]) (by kernel_rfl) (fun β0 w0 hb=>out_safe (orc_ok S5ok K0ok) mixed Tryz.func217 (step_run1 x y T) (allT_ok _) (wfB_ok (by kernel_rfl)) hb (fun _ h=>h)) β us w ha hg hf
  exact Calls.mono this fun e w' h=>outs_block1 (fun _ _ hr=>num_of_ws (ds:=stL1 x y T) h1 (by rw [stL1_eq];exact relL_nv hr)) h
def stepR (k t fr:Nat) (T:Nat) (path:List Bool):R:=trR [k,t] 2 fr 0 [1] (.tup []) (endH T) [] path
def stepSpec:ASpec:=fun args H fr path =>
 match args with
 | [X,.val false [.p k 0],.val false [.n .i64 s],.val false [.p t 0]]=>match asI (some X),hget H k,hget H t with
  | some (_,.u64,x),some ⟨ty1,c1,false⟩,some ⟨ty2,c2,false⟩=>match Nat.beq ty1 30,Nat.beq ty2 206,asNum 6 c1,asNum 8 c2,Nat.beq k t with
   | true,true,some y,some T,false=>match s with
    | .ofNat 0=>some (stepR k t fr (stepN T x y) path)
    | .ofNat 1=>some (stepR k t fr (stepN T x y / 18446744073709551616) path)
    | _=>none
   | _,_,_,_,_=>none
  | _,_,_=>none
 | _=>none
theorem hget_rel {β:Env} {H:Heap} {w:World} {k:Nat} {b:Blk} (g:Ex.Good β H w) (h:hget H k=some b):∃ l,relL β b.cs l:=by
 rcases g.heap k b h with ⟨_,_,l,_,_,_,_,_,h,_⟩ | ⟨_,_,h⟩
 ·exact ⟨l,h⟩
 ·exact ⟨_,h⟩
theorem stepSpec_ok:SpecOk Tryz.prog 217 stepSpec:=by
 refine can_spec Tryz.func217 (by kernel_rfl) (by kernel_rfl) fun args H fr path r h=>?_
 unfold stepSpec at h
 split at h
 case h_2=>cases h
 rename_i X k s t
 split at h
 case h_2=>cases h
 rename_i c0 x ty1 c1 ty2 c2 hX hk ht
 split at h
 case h_2=>cases h
 rename_i y T q1 q2 hy hT hne
 have q1':=nbeq.1 q1
 have q2':=nbeq.1 q2
 subst q1';subst q2'
 have hne':k≠t:=fun e=>by subst e;rw [nbeq.2 rfl] at hne;cases hne
 have core:∀ (v:Nat) (r:R),r=stepR k t fr v path→(∀ (hx:0≤x∧x<18446744073709551616) (_:y<RR) (_:T<R8),CanOk Tryz.prog 217 (stepA x s) (stepH y T) 2 [1] (.tup []) (endH v))→∃ (ρ:List Nat) (args0:List AV) (H0:Heap) (k0 nw:Nat) (W:List Nat) (val:AV) (H1:Heap) (conds:List (Bool×Bool)) (path':List Bool),
   r=trR ρ k0 fr nw W val H1 conds path'∧(∀ β us w,relAs β [X,.val false [.p k 0],.val false [.n .i64 s],.val false [.p t 0]] us→Ex.Good β H w→okConds conds→CanOk Tryz.prog 217 args0 H0 k0 W val H1∧canB k0 nw W val H1=true∧relAs (inEnv β ρ k0) args0 us∧Ex.Good (inEnv β ρ k0) H0 w∧(∀ k,k<k0→∃ X,β (nth ρ k)=some X)):=by
  intro v r hr hc
  refine ⟨[k,t],stepA x s,stepH y T,2,0,[1],.tup [],endH v,[],path,hr,fun β us w ha hg _=>?_⟩
  obtain ⟨u1,us1,r1,⟨u2,us2,r2,⟨u3,us3,r3,⟨u4,us4,r4,ha,rfl⟩,rfl⟩,rfl⟩,rfl⟩:=ha
  obtain ⟨rfl,p1⟩:=asI_rel (β:=β) (u:=u1) (fun A hA=>by injection hA with hA;subst hA;exact r1) hX
  obtain ⟨l1,g1⟩:=hget_rel hg hk
  obtain ⟨l2,g2⟩:=hget_rel hg ht
  refine ⟨hc (u64_bounds p1) (by rw [RR_eq];exact (asNum_rel hy g1).2) (by rw [R8_eq];exact (asNum_rel hT g2).2),by kernel_rfl,⟨_,_,rel_one' ⟨rfl,rfl,p1⟩,⟨u2,_,?_,⟨u3,_,?_,⟨u4,us4,?_,ha,rfl⟩,rfl⟩,rfl⟩,rfl⟩,good2 hg hk ht hne' (fun l h=>num_any hy h) (fun l h=>num_any hT h),fun j hj=>?_⟩
  ·exact r2
  ·exact r3
  ·exact r4
  ·match j,hj with
   | 0,_=>exact relB_def (hg.heap _ _ hk)
   | 1,_=>exact relB_def (hg.heap _ _ ht)
 split at h
 ·injection h with h
  exact core _ _ h.symm fun a b c=>(step_can a b c).1
 ·injection h with h
  exact core _ _ h.symm fun a b c=>(step_can a b c).2
 ·cases h
def S6:List (FuncId×ASpec):=(217,stepSpec)::S5
theorem S6ok:SpecsOk Tryz.prog S6:=⟨stepSpec_ok,S5ok⟩
end Go.Proofs.YtjlcdlekmpjjnaaGreat
/- The contract of fp.reduced: Montgomery's product. -/
namespace Go.Proofs.YtjlcdlekmpjjnaaGreat
open Ex
set_option maxRecDepth 100000
set_option maxHeartbeats 4000000
def mP:Int:=0x89f3fffcfffcfffd
def mont (T:Nat) (x:Int) (b:Nat):Nat:=stepN (stepN T x b) (mW (wordN (stepN T x b) 0*mP)) pN / 18446744073709551616
def redT (a b:Nat):Nat→Nat
 | 0=>0
 | i+1=>mont (redT a b i) (wordN a i) b
def redOut (T:Nat):Nat:=lessN (nest6 (wordN T 0) (wordN T 1) (wordN T 2) (wordN T 3) (wordN T 4) (wordN T 5)) (wordN T 6).toNat
theorem reduced_run (x y:Nat):pureRun Tryz.prog (orc S6 K0) Tryz.f149 [num6 x,num6 y] [] 3000=some (allT 2,num6 (redOut (redT x y 6))):=by kernel_rfl
def RI:Nat:=3231460744492646417066832100176244795738767926513225105051837195607029917124509527734802654356338138714468589979680
theorem RI_eq:RR*RI % pN=1:=by kernel_rfl
theorem wordN_nat (x i:Nat):(wordN x i).toNat=x / 2^(64*i) % 2^64:=by unfold wordN;omega
theorem mP_pN:0x89f3fffcfffcfffd*pN % 18446744073709551616=18446744073709551615:=by kernel_rfl
theorem mont_arith {s q:Nat} (h:q % 18446744073709551616=s % 18446744073709551616*18446744073709551615 % 18446744073709551616):(s+q) % 18446744073709551616=0:=by omega
theorem mont_zero (s:Nat):(s+(s % 18446744073709551616*0x89f3fffcfffcfffd % 18446744073709551616)*pN) % 18446744073709551616=0:=by
 apply mont_arith
 rw [Nat.mod_mul_mod,Nat.mul_assoc,Nat.mul_mod (s % 18446744073709551616) (0x89f3fffcfffcfffd*pN),mP_pN,Nat.mod_mod]
theorem mW_nat (n:Nat):mW (n:Int)=((n % 18446744073709551616:Nat):Int):=by rw [mW_eq];omega
theorem mont_spec {T:Nat} {x:Int} {b:Nat} (hx:0≤x∧x<18446744073709551616) (hb:b<pN) (hT:T<b+pN):∃ m,mont T x b*18446744073709551616=T+x.toNat*b+m*pN∧mont T x b<b+pN:=by
 have hp:pN+pN<RR:=pN_RR
 have hx2:x.toNat≤18446744073709551615:=by omega
 have h1:x.toNat*b≤18446744073709551615*b:=Nat.mul_le_mul_right b hx2
 have s1:stepN T x b=T+x.toNat*b:=by
  unfold stepN
  refine Nat.mod_eq_of_lt ?_
  unfold RR at hp;unfold R8
  omega
 have hm:(mW (wordN (T+x.toNat*b) 0*mP)).toNat=(T+x.toNat*b) % 18446744073709551616*0x89f3fffcfffcfffd % 18446744073709551616:=by
  have e1:wordN (T+x.toNat*b) 0=(((T+x.toNat*b) % 18446744073709551616:Nat):Int):=by
   simp only [wordN,Nat.mul_zero,Nat.pow_zero,Nat.div_one]
  have e2:mP=((0x89f3fffcfffcfffd:Nat):Int):=rfl
  rw [e1,e2,← Int.natCast_mul,mW_nat,Int.toNat_natCast]
 have hz:=mont_zero (T+x.toNat*b)
 unfold mont
 rw [s1]
 have h2:stepN (T+x.toNat*b) (mW (wordN (T+x.toNat*b) 0*mP)) pN=T+x.toNat*b+(T+x.toNat*b) % 18446744073709551616*0x89f3fffcfffcfffd % 18446744073709551616*pN:=by
  unfold stepN
  rw [hm]
  refine Nat.mod_eq_of_lt ?_
  have h3:(T+x.toNat*b) % 18446744073709551616*0x89f3fffcfffcfffd % 18446744073709551616≤18446744073709551615:=by omega
  have h4:=Nat.mul_le_mul_right pN h3
  unfold RR at hp;unfold R8
  omega
 rw [h2]
 refine ⟨(T+x.toNat*b) % 18446744073709551616*0x89f3fffcfffcfffd % 18446744073709551616,?_,?_⟩
 ·omega
 ·have h3:(T+x.toNat*b) % 18446744073709551616*0x89f3fffcfffcfffd % 18446744073709551616≤18446744073709551615:=by omega
  have h4:=Nat.mul_le_mul_right pN h3
  generalize (T+x.toNat*b) % 18446744073709551616*0x89f3fffcfffcfffd % 18446744073709551616*pN=q at *
  generalize x.toNat*b=r at *
  omega
theorem redT_spec {a b:Nat} (hb:b<pN):∀ i,∃ k,redT a b i*2^(64*i)=a % 2^(64*i)*b+k*pN∧redT a b i<b+pN
 | 0=>⟨0,by simp [redT,Nat.mod_one],by have:=pN_pos;simp only [redT];omega⟩
 | i+1=>by
  obtain ⟨k,h1,h2⟩:=redT_spec (a:=a) hb i
  obtain ⟨m,h3,h4⟩:=mont_spec (u64_bounds (wordN_has a i)) hb h2
  refine ⟨k+m*2^(64*i),?_,h4⟩
  rw [wordN_nat] at h3
  have e:2^(64*(i+1))=18446744073709551616*2^(64*i):=by rw [show 64*(i+1)=64+64*i by omega,Nat.pow_add]
  have e2:a % 2^(64*(i+1))=a % 2^(64*i)+2^(64*i)*(a / 2^(64*i) % 2^64):=by
   rw [show 64*(i+1)=64*i+64 by omega,Nat.pow_add,Nat.mod_mul]
  rw [e2,e]
  show mont (redT a b i) (wordN a i) b*_=_
  rw [← Nat.mul_assoc,h3,Nat.add_mul,Nat.add_mul,h1,Nat.add_mul,Nat.add_mul]
  rw [Nat.mul_right_comm (a / 2^(64*i) % 2^64) b,Nat.mul_comm (a / 2^(64*i) % 2^64) (2^(64*i)),Nat.mul_right_comm m pN]
  omega
def monN (x y:Nat):Nat:=redOut (redT x y 6)
theorem nest6_digits {x:Nat} (h:x<RR):nest6 (wordN x 0) (wordN x 1) (wordN x 2) (wordN x 3) (wordN x 4) (wordN x 5)=x:=by
 have h1:=digits6 (x:=x) (by rw [← RR_eq];exact h)
 have h2:=(nest6_eq (word_bd x 0) (word_bd x 1) (word_bd x 2) (word_bd x 3) (word_bd x 4) (word_bd x 5)).1
 omega
theorem monN_eq {x y:Nat} (hx:x<RR) (hy:y<pN):monN x y=x*y*RI % pN:=by
 obtain ⟨k,h1,h2⟩:=redT_spec (a:=x) hy 6
 have hp:=pN_RR
 have hlt:redT x y 6<RR:=by omega
 unfold monN redOut
 rw [nest6_digits hlt,wordN_nat,← RR_eq] at *
 have e6:redT x y 6 / RR=0:=Nat.div_eq_of_lt hlt
 rw [e6,Nat.zero_mod,lessN_sum (by omega)]
 try rw [Nat.mod_eq_of_lt hx] at h1
 have h3:redT x y 6*RR*RI % pN=x*y*RI % pN:=by
  rw [h1,Nat.add_mul,Nat.mul_right_comm k pN,Nat.add_mul_mod_self_right]
 rw [← h3,Nat.mul_assoc,Nat.mul_mod,RI_eq,Nat.mul_one,Nat.mod_mod]
theorem reduced_ok (x y:Nat):PureOk Tryz.prog 149 [num6 x,num6 y] (num6 (monN x y)):=pure_ok (orc_ok S6ok K0ok) mixed Tryz.func149 (reduced_run x y) (allT_ok _) rfl
def sqN:Nat:=2708263910654730174793787626328176511836455197166317677006154293982164122222515399004018013397331347120527951271750
theorem square_run:pureRun Tryz.prog (orc S6 K0) Tryz.f150 [] [] 100=some ([],.val true [.n .u64 0xf4df1f341c341746,.n .u64 0xa76e6a609d104f1,.n .u64 0x8de5476c4c95b6d5,.n .u64 0x67eb88a9939d83c0,.n .u64 0x9a793e85b519952d,.n .u64 0x11988fe592cae3aa]):=by kernel_rfl
theorem sp0_ok {f:FuncId} {v v':AV} (h:PureOk Tryz.prog f [] v) (hv:∀ u,relA noEnv v u→relA noEnv v' u):∀ args w,(match args with | []=>some v' | _=>none)=some w→PureOk Tryz.prog f args w:=by
 intro args w hs
 split at hs
 ·injection hs with hs;subst hs
  intro us w ha
  refine Calls.mono (h us w ha) ?_
  rintro e w' ⟨u,h1,h2,h3⟩
  exact ⟨u,h1,hv u h2,h3⟩
 ·cases hs
theorem square_ok:PureOk Tryz.prog 150 [] (.val true [.n .u64 0xf4df1f341c341746,.n .u64 0xa76e6a609d104f1,.n .u64 0x8de5476c4c95b6d5,.n .u64 0x67eb88a9939d83c0,.n .u64 0x9a793e85b519952d,.n .u64 0x11988fe592cae3aa]):=pure_ok (orc_ok S6ok K0ok) mixed Tryz.func150 square_run trivial rfl
theorem num6_of {β:Env} {a:List Ch} {x:Nat} (h:asNum 6 a=some x) {u:Value} (hr:relA β (.val true a) u):relA β (num6 x) u:=(normN h hr).1
def S7:List (FuncId×ASpec):=(150,pureSpec fun args=>match args with | []=>some (num6 sqN) | _=>none)::(149,pureSpec (sp2 fun x y=>num6 (monN x y)))::S6
theorem S7ok:SpecsOk Tryz.prog S7:=⟨pureSpec_ok Tryz.func150 (by kernel_rfl) (by kernel_rfl) (sp0_ok square_ok fun u h=>num6_of (by kernel_rfl) h),pureSpec_ok Tryz.func149 (by kernel_rfl) (by kernel_rfl) (sp2_ok fun x y _ _=>reduced_ok x y),S6ok⟩
theorem mul_run (x y:Nat):pureRun Tryz.prog (orc S7 K0) Tryz.f86 [num6 x,num6 y] [] 300=some ([],num6 (monN (monN (x % pN) (y % pN)) sqN)):=by kernel_rfl
def mulN (x y:Nat):Nat:=x*y % pN
theorem sq_RI:sqN*RI % pN*RI % pN=1:=by kernel_rfl
theorem sqN_lt:sqN<pN:=by decide
theorem monN_lt {x y:Nat} (hx:x<RR) (hy:y<pN):monN x y<pN:=by rw [monN_eq hx hy];exact Nat.mod_lt _ pN_pos
theorem mul_mon (x y:Nat):monN (monN (x % pN) (y % pN)) sqN=mulN x y:=by
 have h1:=lt_RR_mod x
 have h2:=modp_lt y
 have h3:=monN_lt h1 h2
 rw [monN_eq (Nat.lt_trans h3 (by decide)) sqN_lt,monN_eq h1 h2]
 unfold mulN
 have:=sq_RI
 rw [Nat.mod_mul_mod] at this
 rw [Nat.mul_assoc,Nat.mod_mul_mod,show x % pN*(y % pN)*RI*(sqN*RI)=(x % pN*(y % pN))*(sqN*RI*RI) by simp only [Nat.mul_comm,Nat.mul_left_comm],Nat.mul_mod,this,Nat.mul_one,Nat.mod_mod,← Nat.mul_mod]
theorem mul_ok (x y:Nat):PureOk Tryz.prog 86 [num6 x,num6 y] (num6 (mulN x y)):=by
 rw [← mul_mon]
 exact pure_ok (orc_ok S7ok K0ok) mixed Tryz.func86 (mul_run x y) trivial rfl
def S8:List (FuncId×ASpec):=(86,pureSpec (sp2 fun x y=>num6 (mulN x y)))::S7
theorem S8ok:SpecsOk Tryz.prog S8:=⟨pureSpec_ok Tryz.func86 (by kernel_rfl) (by kernel_rfl) (sp2_ok fun x y _ _=>mul_ok x y),S7ok⟩
end Go.Proofs.YtjlcdlekmpjjnaaGreat
/- The contract of fp.Pow. -/
namespace Go.Proofs.YtjlcdlekmpjjnaaGreat
open Ex
set_option maxRecDepth 100000
set_option maxHeartbeats 4000000
def wI (z:Int):Int:=IntKind.i64.wrap z
theorem wI_eq {z:Int} (h:-9223372036854775808≤z∧z≤9223372036854775807):wI z=z:=by unfold wI;rw [IntKind.wrap_i64];omega
def bitI (v s:Int):Int:=bits .and .u64 (Int.fdiv v (2^min s.toNat 64)) 1
theorem bitI_eq (v s:Nat) (hv:v<18446744073709551616) (hs:s<64):bitI v s=((v / 2^s % 2:Nat):Int):=by
 unfold bitI
 rw [Int.toNat_natCast,Nat.min_eq_left (by omega),Int.fdiv_eq_ediv_of_nonneg _ (by exact_mod_cast Nat.zero_le (2^s))]
 have e:((v:Int) / 2^s)=((v / 2^s:Nat):Int):=by
  rw [Int.natCast_ediv,Int.natCast_pow];rfl
 rw [e]
 have hlt:v / 2^s<18446744073709551616:=Nat.lt_of_le_of_lt (Nat.div_le_self _ _) hv
 have h:=(bits_nat .u64 64 (by decide) (fun n h0 h1=>by rw [IntKind.wrap_u64];omega) (v / 2^s) 1 (by omega) (by decide)).1
 refine Eq.trans h ?_
 rw [Nat.and_one_is_mod]
def natL:List Int→Nat
 | []=>0
 | d::r=>d.toNat+18446744073709551616*natL r
theorem natL_word:∀ (ws:List Int) (j:Nat),(∀ d∈ws,0≤d∧d<18446744073709551616)→natL ws / 2^(64*j) % 2^64=(ws.getD j 0).toNat
 | [],j,_=>by simp [natL]
 | d::r,0,h=>by
  have:=h d (by simp)
  simp only [natL,Nat.mul_zero,Nat.pow_zero,Nat.div_one,List.getD_cons_zero]
  omega
 | d::r,j+1,h=>by
  have hd:=h d (by simp)
  have ih:=natL_word r j fun d h'=>h d (by simp [h'])
  rw [show 64*(j+1)=64+64*j by omega,Nat.pow_add,← Nat.div_div_eq_div_mul]
  have:natL (d::r) / 2^64=natL r:=by simp only [natL];omega
  rw [this,ih];rfl
theorem natL_lt:∀ (ws:List Int),(∀ d∈ws,0≤d∧d<18446744073709551616)→natL ws<2^(64*ws.length)
 | [],_=>by simp [natL]
 | d::r,h=>by
  have hd:=h d (by simp)
  have ih:=natL_lt r fun d h'=>h d (by simp [h'])
  rw [List.length_cons,show 64*(r.length+1)=64+64*r.length by omega,Nat.pow_add]
  simp only [natL]
  generalize 2^(64*r.length)=Q at *
  omega
theorem natL_bit (ws:List Int) (i:Nat) (h:∀ d∈ws,0≤d∧d<18446744073709551616):(ws.getD (i / 64) 0).toNat / 2^(i % 64) % 2=natL ws / 2^i % 2:=by
 rw [← natL_word ws (i / 64) h]
 have e:2^64=2^(i % 64)*2^(64-i % 64):=by rw [← Nat.pow_add];congr 1;omega
 rw [e,Nat.mod_mul_right_div_self,Nat.div_div_eq_div_mul,← Nat.pow_add,show 64*(i / 64)+i % 64=i by omega]
 refine Nat.mod_mod_of_dvd _ ?_
 have:64-i % 64=(63-i % 64)+1:=by omega
 rw [this,Nat.pow_succ]
 exact Nat.dvd_mul_left _ _
def toM (y:Nat):Nat:=y*RR % pN
theorem toM_lt (y:Nat):toM y<pN:=Nat.mod_lt _ pN_pos
theorem RI_one:∀ y,y*(RR*RI) % pN=y % pN:=fun y=>by rw [Nat.mul_mod,RI_eq,Nat.mul_one,Nat.mod_mod]
theorem monN_toM (a b:Nat):monN (toM a) (toM b)=toM (a*b):=by
 rw [monN_eq (Nat.lt_trans (toM_lt a) (by decide)) (toM_lt b)]
 unfold toM
 rw [Nat.mul_assoc,Nat.mod_mul_mod,Nat.mul_left_comm,Nat.mod_mul_mod,← Nat.mul_assoc,show b*RR*(a*RR)*RI=a*b*RR*(RR*RI) by simp only [Nat.mul_comm,Nat.mul_left_comm],RI_one]
theorem sqN_M:sqN*RI % pN=RR % pN:=by kernel_rfl
theorem monN_sq {x:Nat} (hx:x<RR):monN x sqN=toM x:=by
 rw [monN_eq hx sqN_lt,Nat.mul_assoc,Nat.mul_mod,sqN_M,← Nat.mul_mod];rfl
theorem monN_one (y:Nat):monN (toM y) 1=y % pN:=by
 rw [monN_eq (Nat.lt_trans (toM_lt y) (by decide)) (by decide),Nat.mul_one]
 unfold toM
 rw [Nat.mod_mul_mod,Nat.mul_assoc,RI_one]
theorem toM_mod (y:Nat):toM (y % pN)=toM y:=by unfold toM;rw [Nat.mod_mul_mod]
noncomputable def powTodo:List Item:=todoOf (aSeg Tryz.prog (orc S8 K0) (some 0) 100 1 (some ([1,4,5,6,7],[0,2,3,4],5)) (entry Tryz.f144 [num6 0,.val false [.sl 0 0 0 0]] [(0,some ⟨0,[.seq .u64 []],false⟩)] 1 []))
noncomputable def powT (off n m:Nat) (i:Int):List AV:=.any::.val false [.sl 0 off n m]::.any::.any::.val false [.p 2 0]::.val false [.p 3 0]::.val false [.p 4 0]::.val false [.v (.int .i64 i)]::List.replicate (Tryz.f144.ntmps-8) .any
noncomputable def powS (off n m:Nat) (xs:List Int) (b acc:Nat) (i:Int) (path:List Bool):ASt:=⟨powTodo,⟨powT off n m i,
 [(0,some (roB [.seq .u64 xs])),(2,some ⟨30,zero6,false⟩),(3,some ⟨30,[.num 6 b],false⟩),(4,some ⟨30,[.num 6 acc],false⟩)],5,path⟩⟩
def powA (x off n m:Nat):List AV:=[num6 x,.val false [.sl 0 off n m]]
def seqH (xs:List Int):Heap:=[(0,some (roB [.seq .u64 xs]))]
theorem pow_entry (x off n m:Nat) (xs:List Int):aSeg Tryz.prog (orc S8 K0) (some 0) 100 1 (some ([1,4,5,6,7],[0,2,3,4],5)) (entry Tryz.f144 (powA x off n m) (seqH xs) 1 []) =
 some ([(hasB .i64 n,true)],[],powS off n m xs (monN (x % pN) sqN) (monN 1 sqN) (wI (wI (64*(n:Int))-1)) []):=by kernel_rfl
def powW (xs:List Int) (off:Nat) (i:Int):Int:=xs.getD (off+(wI (Int.tdiv i 64)).toNat*1) 0
def powC (off n:Nat) (xs:List Int) (i:Int) (bit:Bool):List (Bool×Bool):=[(decide (0≤i),true),(true,true),(decide (0≤wI (Int.tdiv i 64)∧wI (Int.tdiv i 64)<n),true),
 (decide (off+(wI (Int.tdiv i 64)).toNat*1<xs.length),true),(decide (0≤i∧(0:Int)<64),true),(decide (0≤Int.tmod i 64∧0≤powW xs off i),true),(decide (bitI (powW xs off i) (Int.tmod i 64)=1),bit)]
theorem pow_one (off n m b acc:Nat) (xs:List Int) (i:Int):aSeg Tryz.prog (orc S8 K0) (some 0) 100 1 (some ([1,4,5,6,7],[0,2,3,4],5)) (powS off n m xs b acc i [true,true]) =
 some (powC off n xs i true,[],powS off n m xs b (monN (monN acc acc) b) (wI (i-1)) []):=by kernel_rfl
theorem pow_zero (off n m b acc:Nat) (xs:List Int) (i:Int):aSeg Tryz.prog (orc S8 K0) (some 0) 100 1 (some ([1,4,5,6,7],[0,2,3,4],5)) (powS off n m xs b acc i [true,false]) =
 some (powC off n xs i false,[],powS off n m xs b (monN acc acc) (wI (i-1)) []):=by kernel_rfl
theorem pow_exit (off n m b acc:Nat) (xs:List Int) (i:Int):segOut Tryz.prog (orc S8 K0) Tryz.f144 100 1 [] (powS off n m xs b acc i [false]) =
 some ([(decide (0≤i),false)],[],num6 (monN acc 1),[]):=by kernel_rfl
theorem pow_wf (off n m b acc:Nat) (xs:List Int) (i:Int) (p:List Bool):wfSt Tryz.f144.ntmps (powS off n m xs b acc i p).s:=wfB_ok (by kernel_rfl)
theorem powN_ex (x E:Nat):∃ y,y=x^E % pN:=⟨_,rfl⟩
noncomputable def powN (x E:Nat):Nat:=Classical.choose (powN_ex x E)
theorem powN_eq (x E:Nat):powN x E=x^E % pN:=Classical.choose_spec (powN_ex x E)
def accN (x E c:Nat):Nat:=toM (x^(E / 2^c))
theorem bit_word {xs:List Int} {off n:Nat} {j:Nat} (hj:j<n):((xs.drop off).take n).getD j 0=xs.getD (off+j) 0:=by
 rw [List.getD_eq_getElem?_getD,List.getD_eq_getElem?_getD,List.getElem?_take_of_lt hj,List.getElem?_drop]
section
variable {off n m:Nat} {xs:List Int} (hall:∀ d∈xs,0≤d∧d<18446744073709551616) (hlen:off+n≤xs.length) (hn:n≤1125899906842624) {x:Nat} {β0:Env} {w0:World} (hb:∀ b,1≤b→β0 b=none)
include hall hlen hn hb
theorem pow_safe:∀ c,c≤64*n→ASafe Tryz.prog 144 β0 w0 (Outs β0 w0 [] (num6 (powN x (natL ((xs.drop off).take n)))) []) Tryz.f144.ntmps [] (powS off n m xs (toM x) (accN x (natL ((xs.drop off).take n)) c) ((c:Int)-1) []):=by
 intro c
 induction c with
 | zero =>
  intro _
  have h:ASafe Tryz.prog 144 β0 w0 (Outs β0 w0 [] (num6 (monN (accN x (natL ((xs.drop off).take n)) 0) 1)) []) Tryz.f144.ntmps [] (powS off n m xs (toM x) (accN x (natL ((xs.drop off).take n)) 0) (((0:Nat):Int)-1) [false]) :=
   out_safe (orc_ok S8ok K0ok) mixed Tryz.func144 (pow_exit ..) ⟨rfl,trivial⟩ (pow_wf ..) hb (fun _ h=>by cases h)
  rw [show monN (accN x (natL ((xs.drop off).take n)) 0) 1=powN x (natL ((xs.drop off).take n)) from by unfold accN;rw [powN_eq,Nat.pow_zero,Nat.div_one,monN_one]] at h
  exact path_safe [false] h
 | succ c ih =>
  intro hc
  have hi:((c+1:Nat):Int)-1=(c:Int):=by omega
  rw [hi]
  have hlt:∀ d∈(xs.drop off).take n,0≤d∧d<18446744073709551616:=fun d hd=>hall d (List.mem_of_mem_drop (List.mem_of_mem_take hd))
  have hq:Int.tdiv (c:Int) 64=((c / 64:Nat):Int):=by rw [Int.tdiv_eq_ediv_of_nonneg (by omega)];rfl
  have hr:Int.tmod (c:Int) 64=((c % 64:Nat):Int):=by rw [Int.tmod_eq_emod_of_nonneg (by omega)];rfl
  have hw:wI (Int.tdiv (c:Int) 64)=((c / 64:Nat):Int):=by rw [hq];exact wI_eq (by omega)
  have hj:c / 64<n:=by omega
  have hv:powW xs off c=((xs.drop off).take n).getD (c / 64) 0:=by
   unfold powW
   rw [hw,Int.toNat_natCast,Nat.mul_one,bit_word hj]
  have hvb:0≤powW xs off c∧powW xs off c<18446744073709551616:=by
   rw [hv,List.getD_eq_getElem?_getD]
   cases h:((xs.drop off).take n)[c / 64]? with
   | none=>simp
   | some d=>exact hlt d (List.mem_of_getElem? h)
  have hbit:bitI (powW xs off c) (Int.tmod c 64)=((natL ((xs.drop off).take n) / 2^c % 2:Nat):Int):=by
   obtain ⟨V,hV⟩:=Int.eq_ofNat_of_zero_le hvb.1
   rw [hr,← natL_bit _ c hlt,← hv,hV,Int.toNat_natCast]
   exact bitI_eq V _ (by omega) (by omega)
  have hnext:wI ((c:Int)-1)=(c:Int)-1:=wI_eq (by omega)
  have hconds:∀ bit,decide (bitI (powW xs off c) (Int.tmod c 64)=1)=bit→okConds (powC off n xs c bit):=by
   intro bit hbt
   refine ⟨by simp,rfl,?_,?_,?_,?_,hbt,trivial⟩
   ·rw [hw];simp;omega
   ·rw [hw];simp;omega
   ·simp
   ·simp only [decide_eq_true_eq];rw [hr];exact ⟨by omega,hvb.1⟩
  have hdiv:natL ((xs.drop off).take n) / 2^c=2*(natL ((xs.drop off).take n) / 2^(c+1))+natL ((xs.drop off).take n) / 2^c % 2:=by
   rw [Nat.pow_succ,← Nat.div_div_eq_div_mul];omega
  have ihc:=ih (by omega)
  rcases Nat.mod_two_eq_zero_or_one (natL ((xs.drop off).take n) / 2^c) with h0 | h1
  ·refine path_safe [true,false] (seg_safe (orc_ok S8ok K0ok) mixed (pow_zero ..) (hconds false (by rw [hbit,h0];rfl)) (pow_wf ..) hb (fun _ h=>by cases h) fun _=>?_)
   rw [hnext]
   have:monN (accN x (natL ((xs.drop off).take n)) (c+1)) (accN x (natL ((xs.drop off).take n)) (c+1))=accN x (natL ((xs.drop off).take n)) c:=by
    unfold accN
    rw [monN_toM,← Nat.pow_add]
    congr 2;omega
   rw [this]
   exact ihc
  ·refine path_safe [true,true] (seg_safe (orc_ok S8ok K0ok) mixed (pow_one ..) (hconds true (by rw [hbit,h1];rfl)) (pow_wf ..) hb (fun _ h=>by cases h) fun _=>?_)
   rw [hnext]
   have:monN (monN (accN x (natL ((xs.drop off).take n)) (c+1)) (accN x (natL ((xs.drop off).take n)) (c+1))) (toM x)=accN x (natL ((xs.drop off).take n)) c:=by
    unfold accN
    rw [monN_toM,← Nat.pow_add,monN_toM,← Nat.pow_succ]
    congr 2;omega
   rw [this]
   exact ihc
end
theorem pow_can {off n m:Nat} {xs:List Int} (hall:∀ d∈xs,0≤d∧d<18446744073709551616) (hlen:off+n≤xs.length) (hn:n≤1125899906842624) (x:Nat) :
  CanOk Tryz.prog 144 (powA x off n m) (seqH xs) 1 [] (num6 (powN x (natL ((xs.drop off).take n)))) []:=by
 refine can_entry (path:=[]) Tryz.func144 (by kernel_rfl) (by kernel_rfl) fun β0 w0 hb=>?_
 refine seg_safe (orc_ok S8ok K0ok) mixed (pow_entry x off n m xs) ⟨?_,trivial⟩ (wfB_ok (by kernel_rfl)) hb (fun _ h=>by cases h) fun _=>?_
 ·simp only [hasB,Bool.and_eq_true,decide_eq_true_eq];omega
 ·have h:=pow_safe hall hlen hn (x:=x) (m:=m) (w0:=w0) hb (64*n) (Nat.le_refl _)
  have e1:monN (x % pN) sqN=toM x:=by rw [monN_sq (lt_RR_mod x),toM_mod]
  have e2:monN 1 sqN=accN x (natL ((xs.drop off).take n)) (64*n):=by
   rw [monN_sq (by decide)]
   unfold accN
   have hl:natL ((xs.drop off).take n)<2^(64*n):=by
    have:=natL_lt ((xs.drop off).take n) fun d hd=>hall d (List.mem_of_mem_drop (List.mem_of_mem_take hd))
    rwa [List.length_take,List.length_drop,Nat.min_eq_left (by omega)] at this
   rw [Nat.div_eq_of_lt hl,Nat.pow_zero]
  have e3:wI (wI (64*(n:Int))-1)=((64*n:Nat):Int)-1:=by
   rw [wI_eq (z:=64*(n:Int)) (by omega),wI_eq (by omega)];omega
  rw [e1,e2,e3]
  exact h
noncomputable def powSpec:ASpec:=fun args H fr path =>
 match args with
 | [.val true a,.val false [.sl k off n _]]=>match asNum 6 a,hget H k with
  | some x,some ⟨_,cs,_⟩=>match toSeq .u64 cs with
   | some xs=>some (trR [k] 1 fr 0 [] (num6 (powN x (natL ((xs.drop off).take n)))) [] [(Nat.ble (off+n) xs.length,true),(Nat.ble n 1125899906842624,true)] path)
   | none=>none
  | _,_=>none
 | _=>none
theorem powSpec_ok:SpecOk Tryz.prog 144 powSpec:=by
 refine can_spec Tryz.func144 (by kernel_rfl) (by kernel_rfl) fun args H fr path r h=>?_
 unfold powSpec at h
 split at h
 case h_2=>cases h
 rename_i a k off n m
 split at h
 case h_2=>cases h
 rename_i x ty cs o hx hk
 split at h
 case h_2=>cases h
 rename_i xs hxs
 injection h with h
 refine ⟨[k],powA x off n m,seqH xs,1,0,[],num6 (powN x (natL ((xs.drop off).take n))),[],_,path,h.symm,fun β us w ha hg hc=>?_⟩
 obtain ⟨u1,us1,r1,⟨u2,us2,r2,ha,rfl⟩,rfl⟩:=ha
 obtain ⟨l,g1⟩:=hget_rel hg hk
 obtain ⟨_,g2⟩:=toSeq_rel hxs g1
 refine ⟨pow_can (fun d hd=>u64_bounds (g2 d hd)) (Nat.le_of_ble_eq_true hc.1) (Nat.le_of_ble_eq_true hc.2.1) x,by kernel_rfl,⟨u1,_,?_,⟨u2,us2,?_,ha,rfl⟩,rfl⟩,good1 (c:=[.seq .u64 xs]) hg hk (fun l h=>?_),fun j hj=>?_⟩
 ·obtain ⟨l,q,rfl⟩:=r1;exact ⟨l,num_any hx q,rfl⟩
 ·exact r2
 ·obtain ⟨q1,q2⟩:=toSeq_rel hxs h
  exact ⟨_,[],⟨q1,q2⟩,rfl,by simp⟩
 ·match j,hj with
  | 0,_=>exact relB_def (hg.heap _ _ hk)
noncomputable def S9:List (FuncId×ASpec):=(144,powSpec)::S8
theorem S9ok:SpecsOk Tryz.prog S9:=⟨powSpec_ok,S8ok⟩
end Go.Proofs.YtjlcdlekmpjjnaaGreat
/- The contracts of limb: words, orders. -/
namespace Go.Proofs.YtjlcdlekmpjjnaaGreat
open Ex
set_option maxRecDepth 100000
set_option maxHeartbeats 4000000
def win (xs:List Int) (off n:Nat):List Int:=(xs.drop off).take n
theorem win_has {xs:List Int} {off n:Nat} {P:Int→Prop} (h:∀ d∈xs,P d):∀ d∈win xs off n,P d:=fun d hd=>h d (List.mem_of_mem_drop (List.mem_of_mem_take hd))
def atV (xs:List Int) (off n:Nat) (i:Int):Int:=(win xs off n).getD i.toNat 0
def atA (off n m:Nat) (i:Int):List AV:=[.val false [.sl 0 off n m],.val false [.v (.int .i64 i)]]
theorem at_in (off n m:Nat) (i:Int) (xs:List Int):segOut Tryz.prog (orc S0 K0) Tryz.f197 100 1 [] (entry Tryz.f197 (atA off n m i) (seqH xs) 1 [true]) =
 some ([(hasB .i64 n,true),(decide (i<n),true),(decide (0≤i∧i<n),true),(decide (off+i.toNat*1<xs.length),true)],[],.val false [.v (.int .u64 (xs.getD (off+i.toNat*1) 0))],[]):=by kernel_rfl
theorem at_out (off n m:Nat) (i:Int) (xs:List Int):segOut Tryz.prog (orc S0 K0) Tryz.f197 100 1 [] (entry Tryz.f197 (atA off n m i) (seqH xs) 1 [false]) =
 some ([(hasB .i64 n,true),(decide (i<n),false)],[],.val false [.n .u64 0],[]):=by kernel_rfl
theorem can_val {P:Program} {f:FuncId} {args0:List AV} {H0 H1:Heap} {k0:Nat} {W:List Nat} {v v':AV} (h:CanOk P f args0 H0 k0 W v H1) (hv:∀ β u,relA β v u→relA β v' u):CanOk P f args0 H0 k0 W v' H1 :=
 fun β us w a b c=>Calls.mono (h β us w a b c) fun _ _ ⟨u,β',q1,q2⟩=>⟨u,β',q1,{ q2 with val:=hv _ _ q2.val }⟩
theorem nv_val {β:Env} {k:IntKind} {i:Int} {u:Value} (h:relA β (.val false [.n k i]) u):relA β (.val false [.v (.int k i)]) u:=relL_nv (cs:=[.n k i]) h
theorem at_can {off n m:Nat} {xs:List Int} (hlen:off+n≤xs.length) (hn:hasB .i64 n=true) {i:Int} (hi:0≤i) :
  CanOk Tryz.prog 197 (atA off n m i) (seqH xs) 1 [] (.val false [.v (.int .u64 (atV xs off n i))]) []:=by
 by_cases h:i<n
 ·refine can_entry (path:=[true]) Tryz.func197 (by kernel_rfl) (by kernel_rfl) fun β0 w0 hb=>?_
  rw [show atV xs off n i=xs.getD (off+i.toNat*1) 0 from by rw [Nat.mul_one];exact bit_word (by omega)]
  exact out_safe (orc_ok S0ok K0ok) mixed Tryz.func197 (at_in off n m i xs) ⟨hn,by simp [h],by simp [hi,h],by simp;omega,trivial⟩ (wfB_ok (by kernel_rfl)) hb (fun _ h=>by cases h)
 ·have e:atV xs off n i=0:=by
   unfold atV win
   rw [List.getD_eq_getElem?_getD,List.getElem?_eq_none (by rw [List.length_take];omega)];rfl
  rw [e]
  refine can_val (v:=.val false [.n .u64 0]) (can_entry (path:=[false]) Tryz.func197 (by kernel_rfl) (by kernel_rfl) fun β0 w0 hb=>?_) fun _ _=>nv_val
  exact out_safe (orc_ok S0ok K0ok) mixed Tryz.func197 (at_out off n m i xs) ⟨hn,by simp [h],trivial⟩ (wfB_ok (by kernel_rfl)) hb (fun _ h=>by cases h)
def atSpec:ASpec:=fun args H fr path =>
 match args with
 | [.val false [.sl k off n _],I]=>match asI (some I),hget H k with
  | some (_,.i64,i),some ⟨_,cs,_⟩=>match toSeq .u64 cs with
   | some xs=>some (trR [k] 1 fr 0 [] (.val false [.v (.int .u64 (atV xs off n i))]) [] [(Nat.ble (off+n) xs.length,true),(hasB .i64 n,true),(decide (0≤i),true)] path)
   | none=>none
  | _,_=>none
 | _=>none
theorem good_seq {β:Env} {H:Heap} {w:World} {k:Nat} {ty:Nat} {cs:List Ch} {o:Bool} {xs:List Int} (hg:Ex.Good β H w) (hk:hget H k=some ⟨ty,cs,o⟩) (hxs:toSeq .u64 cs=some xs) :
  (∀ d∈xs,0≤d∧d<18446744073709551616)∧Ex.Good (inEnv β [k] 1) (seqH xs) w∧(∀ j,j<1→∃ X,β (nth [k] j)=some X):=by
 obtain ⟨l,g1⟩:=hget_rel hg hk
 obtain ⟨_,g2⟩:=toSeq_rel hxs g1
 refine ⟨fun d hd=>u64_bounds (g2 d hd),good1 (c:=[.seq .u64 xs]) hg hk (fun l h=>?_),fun j hj=>?_⟩
 ·obtain ⟨q1,q2⟩:=toSeq_rel hxs h
  exact ⟨_,[],⟨q1,q2⟩,rfl,by simp⟩
 ·match j,hj with
  | 0,_=>exact relB_def (hg.heap _ _ hk)
theorem atSpec_ok:SpecOk Tryz.prog 197 atSpec:=by
 refine can_spec Tryz.func197 (by kernel_rfl) (by kernel_rfl) fun args H fr path r h=>?_
 unfold atSpec at h
 split at h
 case h_2=>cases h
 rename_i k off n m I
 split at h
 case h_2=>cases h
 rename_i c0 i ty cs o hI hk
 split at h
 case h_2=>cases h
 rename_i xs hxs
 injection h with h
 refine ⟨[k],atA off n m i,seqH xs,1,0,[],_,[],_,path,h.symm,fun β us w ha hg hc=>?_⟩
 obtain ⟨u1,us1,r1,⟨u2,us2,r2,ha,rfl⟩,rfl⟩:=ha
 obtain ⟨g1,g2,g3⟩:=good_seq hg hk hxs
 obtain ⟨rfl,p1⟩:=asI_rel (β:=β) (u:=u2) (fun A hA=>by injection hA with hA;subst hA;exact r2) hI
 exact ⟨at_can (Nat.le_of_ble_eq_true hc.1) hc.2.1 (by simpa using hc.2.2.1),by kernel_rfl,⟨u1,_,r1,⟨_,us2,rel_one' ⟨rfl,rfl,p1⟩,ha,rfl⟩,rfl⟩,g2,g3⟩
noncomputable def S10:List (FuncId×ASpec):=(197,atSpec)::S9
theorem S10ok:SpecsOk Tryz.prog S10:=⟨atSpec_ok,S9ok⟩
end Go.Proofs.YtjlcdlekmpjjnaaGreat
/- The contract of limb.Cmp. -/
namespace Go.Proofs.YtjlcdlekmpjjnaaGreat
open Ex
set_option maxRecDepth 100000
set_option maxHeartbeats 4000000
def seqH2 (xs ys:List Int):Heap:=[(0,some (roB [.seq .u64 xs])),(1,some (roB [.seq .u64 ys]))]
def sl2 (off n m off' n' m':Nat):List AV:=[.val false [.sl 0 off n m],.val false [.sl 1 off' n' m']]
noncomputable def cmpTodo:List Item:=todoOf (aSeg Tryz.prog (orc S10 K0) (some 0) 100 2 none (entry Tryz.f141 (sl2 0 0 0 0 0 0) (seqH2 [] []) 2 []))
noncomputable def cmpT (off n m off' n' m':Nat) (i:Int):List AV:=.val false [.sl 0 off n m]::.val false [.sl 1 off' n' m']::.any::.any::.val false [.n .i64 0]::.val false [.v (.int .i64 i)]::List.replicate (Tryz.f141.ntmps-6) .any
section
variable (off n m off' n' m':Nat) (xs ys:List Int)
noncomputable def cmpS (i:Int) (p:List Bool):ASt:=⟨cmpTodo,⟨cmpT off n m off' n' m' i,seqH2 xs ys,2,p⟩⟩
def maxI (a b:Int):Int:=if b > a then b else a
theorem cmp_entry:aSeg Tryz.prog (orc S10 K0) (some 0) 100 2 (some ([0,1,4,5],[0,1],2)) (entry Tryz.f141 (sl2 off n m off' n' m') (seqH2 xs ys) 2 []) =
 some ([(hasB .i64 n,true),(hasB .i64 n',true)],[],cmpS off n m off' n' m' xs ys (wI (maxI n n'-1)) []):=by kernel_rfl
def cmpC (i:Int) (r:List (Bool×Bool)):List (Bool×Bool):=(decide (0≤i),true)::(Nat.ble (off+n) xs.length,true)::(hasB .i64 n,true)::(decide (0≤i),true)::(Nat.ble (off'+n') ys.length,true)::(hasB .i64 n',true)::(decide (0≤i),true)::r
theorem cmp_same (i:Int):aSeg Tryz.prog (orc S10 K0) (some 0) 100 2 (some ([0,1,4,5],[0,1],2)) (cmpS off n m off' n' m' xs ys i [true,true]) =
 some (cmpC off n off' n' xs ys i [(decide (atV xs off n i=atV ys off' n' i),true)],[],cmpS off n m off' n' m' xs ys (wI (i-1)) []):=by kernel_rfl
theorem cmp_lt (i:Int):segOut Tryz.prog (orc S10 K0) Tryz.f141 100 2 [] (cmpS off n m off' n' m' xs ys i [true,false,true]) =
 some (cmpC off n off' n' xs ys i [(decide (atV xs off n i=atV ys off' n' i),false),(decide (atV xs off n i<atV ys off' n' i),true)],[],.val false [.n .i64 (-1)],[]):=by kernel_rfl
theorem cmp_gt (i:Int):segOut Tryz.prog (orc S10 K0) Tryz.f141 100 2 [] (cmpS off n m off' n' m' xs ys i [true,false,false]) =
 some (cmpC off n off' n' xs ys i [(decide (atV xs off n i=atV ys off' n' i),false),(decide (atV xs off n i<atV ys off' n' i),false)],[],.val false [.n .i64 1],[]):=by kernel_rfl
theorem cmp_end (i:Int):segOut Tryz.prog (orc S10 K0) Tryz.f141 100 2 [] (cmpS off n m off' n' m' xs ys i [false]) =
 some ([(decide (0≤i),false)],[],.val false [.n .i64 0],[]):=by kernel_rfl
theorem cmp_wf (i:Int) (p:List Bool):wfSt Tryz.f141.ntmps (cmpS off n m off' n' m' xs ys i p).s:=wfB_ok (by kernel_rfl)
end
theorem asafe_val {P:Program} {f:FuncId} {β0:Env} {w0:World} {W W':List Nat} {v v':AV} {H:Heap} {n:Nat} {x:ASt} (h:ASafe P f β0 w0 (Outs β0 w0 W v H) n W' x) (hv:∀ β u,relA β v u→relA β v' u):ASafe P f β0 w0 (Outs β0 w0 W v' H) n W' x:=by
 intro β a w hi hf b cs q1 q2
 obtain ⟨e',w',fr,⟨u,β',q5,q6⟩,q4⟩:=h β a w hi hf b cs q1 q2
 exact ⟨e',w',fr,⟨u,β',q5,{ q6 with val:=hv _ _ q6.val }⟩,q4⟩
theorem ltdiv {x y Q:Nat} (h:x / Q<y / Q):x<y:=Nat.lt_of_not_le fun hle=>absurd (Nat.div_le_div_right (c:=Q) hle) (by omega)
def cmpI (x y:Nat):Int:=if x<y then -1 else if y<x then 1 else 0
theorem natL_split {ws:List Int} (h:∀ d∈ws,0≤d∧d<18446744073709551616) (c:Nat):natL ws / 2^(64*c)=(ws.getD c 0).toNat+18446744073709551616*(natL ws / 2^(64*(c+1))):=by
 rw [← natL_word ws c h,show 64*(c+1)=64*c+64 by omega,Nat.pow_add,← Nat.div_div_eq_div_mul]
 omega
theorem getD_bd {ws:List Int} (h:∀ d∈ws,0≤d∧d<18446744073709551616) (c:Nat):0≤ws.getD c 0∧ws.getD c 0<18446744073709551616:=by
 rw [List.getD_eq_getElem?_getD]
 cases h':ws[c]? with
 | none=>simp
 | some d=>exact h d (List.mem_of_getElem? h')
theorem nval {β:Env} {k:IntKind} {i j:Int} {u:Value} (e:i=j) (h:relA β (.val false [.n k i]) u):relA β (.val false [.v (.int k j)]) u:=by subst e;exact nv_val h
section
variable {off n m off' n' m':Nat} {xs ys:List Int} (hx:∀ d∈xs,0≤d∧d<18446744073709551616) (hy:∀ d∈ys,0≤d∧d<18446744073709551616) (hl:off+n≤xs.length) (hl':off'+n'≤ys.length)
 (hn:hasB .i64 n=true) (hn':hasB .i64 n'=true) {β0:Env} {w0:World} (hb:∀ b,2≤b→β0 b=none)
include hx hy hl hl' hn hn' hb
theorem cmp_safe:∀ c,c≤max n n'→natL (win xs off n) / 2^(64*c)=natL (win ys off' n') / 2^(64*c) →
  ASafe Tryz.prog 141 β0 w0 (Outs β0 w0 [] (.val false [.v (.int .i64 (cmpI (natL (win xs off n)) (natL (win ys off' n'))))]) []) Tryz.f141.ntmps [] (cmpS off n m off' n' m' xs ys ((c:Int)-1) []):=by
 intro c
 induction c with
 | zero =>
  intro _ heq
  rw [Nat.mul_zero,Nat.pow_zero,Nat.div_one,Nat.div_one] at heq
  have h:=out_safe (w0:=w0) (W:=[]) (n:=Tryz.f141.ntmps) (orc_ok S10ok K0ok) mixed Tryz.func141 (cmp_end off n m off' n' m' xs ys (((0:Nat):Int)-1)) ⟨rfl,trivial⟩ (cmp_wf ..) hb (fun _ h=>by cases h)
  exact path_safe [false] (asafe_val h fun _ _=>nval (by unfold cmpI;rw [heq];simp))
 | succ c ih =>
  intro hc heq
  have hi:((c+1:Nat):Int)-1=(c:Int):=by omega
  rw [hi]
  have bn:n≤9223372036854775807:=by simp only [hasB,Bool.and_eq_true,decide_eq_true_eq] at hn;omega
  have bn':n'≤9223372036854775807:=by simp only [hasB,Bool.and_eq_true,decide_eq_true_eq] at hn';omega
  have sx:=natL_split (win_has (off:=off) (n:=n) hx) c
  have sy:=natL_split (win_has (off:=off') (n:=n') hy) c
  have bx:=getD_bd (win_has (off:=off) (n:=n) hx) c
  have byy:=getD_bd (win_has (off:=off') (n:=n') hy) c
  have ex:atV xs off n c=(win xs off n).getD c 0:=by unfold atV;rw [Int.toNat_natCast]
  have ey:atV ys off' n' c=(win ys off' n').getD c 0:=by unfold atV;rw [Int.toNat_natCast]
  have hC:∀ r,okConds r→okConds (cmpC off n off' n' xs ys c r):=fun r hr=>⟨by simp,Nat.ble_eq_true_of_le hl,hn,by simp,Nat.ble_eq_true_of_le hl',hn',by simp,hr⟩
  by_cases he:atV xs off n c=atV ys off' n' c
  ·refine path_safe [true,true] (seg_safe (orc_ok S10ok K0ok) mixed (cmp_same ..) (hC _ ⟨by simp [he],trivial⟩) (cmp_wf ..) hb (fun _ h=>by cases h) fun _=>?_)
   rw [wI_eq (z:=(c:Int)-1) (by omega)]
   exact ih (by omega) (by rw [sx,sy,heq,← ex,← ey,he])
  ·by_cases hlt:atV xs off n c<atV ys off' n' c
   ·have h:=out_safe (w0:=w0) (W:=[]) (n:=Tryz.f141.ntmps) (orc_ok S10ok K0ok) mixed Tryz.func141 (cmp_lt off n m off' n' m' xs ys c) (hC _ ⟨by simp [he],by simp [hlt],trivial⟩) (cmp_wf ..) hb (fun _ h=>by cases h)
    refine path_safe [true,false,true] (asafe_val h fun _ _=>nval ?_)
    have:natL (win xs off n)<natL (win ys off' n'):=ltdiv (Q:=2^(64*c)) (by rw [sx,sy,heq];omega)
    unfold cmpI;rw [if_pos this]
   ·have h:=out_safe (w0:=w0) (W:=[]) (n:=Tryz.f141.ntmps) (orc_ok S10ok K0ok) mixed Tryz.func141 (cmp_gt off n m off' n' m' xs ys c) (hC _ ⟨by simp [he],by simp [hlt],trivial⟩) (cmp_wf ..) hb (fun _ h=>by cases h)
    refine path_safe [true,false,false] (asafe_val h fun _ _=>nval ?_)
    have:natL (win ys off' n')<natL (win xs off n):=ltdiv (Q:=2^(64*c)) (by rw [sx,sy,heq];omega)
    unfold cmpI;rw [if_neg (by omega),if_pos this]
end
theorem cmp_can {off n m off' n' m':Nat} {xs ys:List Int} (hx:∀ d∈xs,0≤d∧d<18446744073709551616) (hy:∀ d∈ys,0≤d∧d<18446744073709551616) (hl:off+n≤xs.length) (hl':off'+n'≤ys.length)
  (hn:hasB .i64 n=true) (hn':hasB .i64 n'=true):CanOk Tryz.prog 141 (sl2 off n m off' n' m') (seqH2 xs ys) 2 [] (.val false [.v (.int .i64 (cmpI (natL (win xs off n)) (natL (win ys off' n'))))]) []:=by
 refine can_entry (path:=[]) Tryz.func141 (by kernel_rfl) (by kernel_rfl) fun β0 w0 hb=>?_
 refine seg_safe (orc_ok S10ok K0ok) mixed (cmp_entry off n m off' n' m' xs ys) ⟨hn,hn',trivial⟩ (wfB_ok (by kernel_rfl)) hb (fun _ h=>by cases h) fun _=>?_
 have bn:n≤9223372036854775807:=by simp only [hasB,Bool.and_eq_true,decide_eq_true_eq] at hn;omega
 have bn':n'≤9223372036854775807:=by simp only [hasB,Bool.and_eq_true,decide_eq_true_eq] at hn';omega
 have e:wI (maxI n n'-1)=((max n n':Nat):Int)-1:=by
  have:maxI n n'=((max n n':Nat):Int):=by unfold maxI;split<;>omega
  rw [this,wI_eq (by omega)]
 rw [e]
 refine cmp_safe hx hy hl hl' hn hn' hb _ (Nat.le_refl _) ?_
 have big:∀ (zs:List Int) (of k:Nat),(∀ d∈zs,0≤d∧d<18446744073709551616)→k≤max n n'→natL (win zs of k) / 2^(64*max n n')=0:=by
  intro zs of k hz hk
  refine Nat.div_eq_of_lt (Nat.lt_of_lt_of_le (natL_lt _ (win_has hz)) (Nat.pow_le_pow_right (by decide) ?_))
  have:(win zs of k).length≤k:=by unfold win;rw [List.length_take];omega
  omega
 rw [big xs off n hx (by omega),big ys off' n' hy (by omega)]
theorem good_seq2 {β:Env} {H:Heap} {w:World} {k t:Nat} {ty ty':Nat} {cs ds:List Ch} {o o':Bool} {xs ys:List Int} (hg:Ex.Good β H w) (hk:hget H k=some ⟨ty,cs,o⟩) (ht:hget H t=some ⟨ty',ds,o'⟩) (hxs:toSeq .u64 cs=some xs) (hys:toSeq .u64 ds=some ys) :
  (∀ d∈xs,0≤d∧d<18446744073709551616)∧(∀ d∈ys,0≤d∧d<18446744073709551616)∧Ex.Good (inEnv β [k,t] 2) (seqH2 xs ys) w∧(∀ j,j<2→∃ X,β (nth [k,t] j)=some X):=by
 obtain ⟨l,g1⟩:=hget_rel hg hk
 obtain ⟨_,g2⟩:=toSeq_rel hxs g1
 obtain ⟨l',g1'⟩:=hget_rel hg ht
 obtain ⟨_,g2'⟩:=toSeq_rel hys g1'
 refine ⟨fun d hd=>u64_bounds (g2 d hd),fun d hd=>u64_bounds (g2' d hd),good2r (c:=[.seq .u64 xs]) (e:=[.seq .u64 ys]) hg hk ht (fun l h=>?_) (fun l h=>?_),fun j hj=>?_⟩
 ·obtain ⟨q1,q2⟩:=toSeq_rel hxs h
  exact ⟨_,[],⟨q1,q2⟩,rfl,by simp⟩
 ·obtain ⟨q1,q2⟩:=toSeq_rel hys h
  exact ⟨_,[],⟨q1,q2⟩,rfl,by simp⟩
 ·match j,hj with
  | 0,_=>exact relB_def (hg.heap _ _ hk)
  | 1,_=>exact relB_def (hg.heap _ _ ht)
def cmpSpec:ASpec:=fun args H fr path =>
 match args with
 | [.val false [.sl k off n _],.val false [.sl t off' n' _]]=>match hget H k,hget H t with
  | some ⟨_,cs,_⟩,some ⟨_,ds,_⟩=>match toSeq .u64 cs,toSeq .u64 ds with
   | some xs,some ys=>some (trR [k,t] 2 fr 0 [] (.val false [.v (.int .i64 (cmpI (natL (win xs off n)) (natL (win ys off' n'))))]) [] [(Nat.ble (off+n) xs.length,true),(Nat.ble (off'+n') ys.length,true),(hasB .i64 n,true),(hasB .i64 n',true)] path)
   | _,_=>none
  | _,_=>none
 | _=>none
theorem cmpSpec_ok:SpecOk Tryz.prog 141 cmpSpec:=by
 refine can_spec Tryz.func141 (by kernel_rfl) (by kernel_rfl) fun args H fr path r h=>?_
 unfold cmpSpec at h
 split at h
 case h_2=>cases h
 rename_i k off n m t off' n' m'
 split at h
 case h_2=>cases h
 rename_i ty cs o ty' ds o' hk ht
 split at h
 case h_2=>cases h
 rename_i xs ys hxs hys
 injection h with h
 refine ⟨[k,t],sl2 off n m off' n' m',seqH2 xs ys,2,0,[],_,[],_,path,h.symm,fun β us w ha hg hc=>?_⟩
 obtain ⟨u1,us1,r1,⟨u2,us2,r2,ha,rfl⟩,rfl⟩:=ha
 obtain ⟨g1,g1',g2,g3⟩:=good_seq2 hg hk ht hxs hys
 exact ⟨cmp_can g1 g1' (Nat.le_of_ble_eq_true hc.1) (Nat.le_of_ble_eq_true hc.2.1) hc.2.2.1 hc.2.2.2.1,by kernel_rfl,⟨u1,_,r1,⟨u2,us2,r2,ha,rfl⟩,rfl⟩,g2,g3⟩
noncomputable def S11:List (FuncId×ASpec):=(141,cmpSpec)::S10
theorem S11ok:SpecsOk Tryz.prog S11:=⟨cmpSpec_ok,S10ok⟩
end Go.Proofs.YtjlcdlekmpjjnaaGreat
/- The contracts of fproot. -/
namespace Go.Proofs.YtjlcdlekmpjjnaaGreat
open Ex
set_option maxRecDepth 100000
set_option maxHeartbeats 4000000
def ws6 (x:Nat):List Int:=(List.range 6).map (wordN x)++[]
theorem natL_num6 {x:Nat} (h:x<RR):natL (win (ws6 x) (0+0*1) (6-0))=x :=
 (show natL (win (ws6 x) (0+0*1) (6-0))=nest6 (wordN x 0) (wordN x 1) (wordN x 2) (wordN x 3) (wordN x 4) (wordN x 5) by kernel_rfl).trans (nest6_digits h)
def intA (i:Int):AV:=.val false [.v (.int .i64 i)]
def boolA (b:Bool):AV:=.val false [.v (.bool b)]
theorem sign_run (x:Nat):pureRun Tryz.prog (orc S11 K0) Tryz.f146 [num6 x] [] 300=some ([],intA (wI (bits .and .u64 (wordN (x % pN) 0) 1))):=by kernel_rfl
def signN (x:Nat):Int:=((x % pN % 2:Nat):Int)
theorem word0_mod2 (x:Nat):wordN x 0=((x % 18446744073709551616:Nat):Int):=by simp only [wordN,Nat.mul_zero,Nat.pow_zero,Nat.div_one]
theorem and_one (v:Nat) (hv:v<18446744073709551616):bits .and .u64 (v:Int) 1=((v % 2:Nat):Int):=by
 have h:=(bits_nat .u64 64 (by decide) (fun n h0 h1=>by rw [IntKind.wrap_u64];omega) v 1 (by omega) (by decide)).1
 refine Eq.trans h ?_
 rw [Nat.and_one_is_mod]
theorem sign_ok (x:Nat):PureOk Tryz.prog 146 [num6 x] (intA (signN x)):=by
 have h:=pure_ok (orc_ok S11ok K0ok) mixed Tryz.func146 (sign_run x) trivial rfl
 have e:wI (bits .and .u64 (wordN (x % pN) 0) 1)=signN x:=by
  rw [word0_mod2,and_one _ (by omega),wI_eq (by omega)]
  unfold signN;omega
 rw [e] at h
 exact h
theorem bigger_run (x:Nat):pureRun Tryz.prog (orc S11 K0) Tryz.f81 [num6 x] [] 300=some (allT 4,boolA (decide (0<cmpI (natL (win (ws6 (x % pN)) (0+0*1) (6-0))) (natL (win (ws6 (negN x)) (0+0*1) (6-0)))))):=by kernel_rfl
def biggerN (x:Nat):Bool:=decide (negN x<x % pN)
theorem negN_lt (x:Nat):negN x<pN:=Nat.mod_lt _ pN_pos
theorem bigger_ok (x:Nat):PureOk Tryz.prog 81 [num6 x] (boolA (biggerN x)):=by
 have h:=pure_ok (orc_ok S11ok K0ok) mixed Tryz.func81 (bigger_run x) (allT_ok _) rfl
 rw [natL_num6 (lt_RR_mod x),natL_num6 (Nat.lt_trans (negN_lt x) (by decide))] at h
 have e:decide (0<cmpI (x % pN) (negN x))=biggerN x:=by
  unfold cmpI biggerN
  by_cases h1:x % pN<negN x
  ·rw [if_pos h1,decide_eq_false (by omega),decide_eq_false (by omega)]
  ·by_cases h2:negN x<x % pN
   ·rw [if_neg h1,if_pos h2,decide_eq_true h2];rfl
   ·rw [if_neg h1,if_neg h2,decide_eq_false h2];rfl
 rw [e] at h
 exact h
def QN:Nat:=1000602388805416848354447456433976039139220704984751971333014534031007912622709466110671907282253916009473568139947
def QC:List Ch:=[.n .u64 0xee7fbfffffffeaab,.n .u64 0x7aaffffac54ffff,.n .u64 0xd9cc34a83dac3d89,.n .u64 0xd91dd2e13ce144af,.n .u64 0x92c6e9ed90d2eb35,.n .u64 0x680447a8e5ff9a6]
theorem quarter_run:pureRun Tryz.prog (orc S11 K0) Tryz.f143 [] [] 300=some ([],.val true QC):=by kernel_rfl
theorem quarter_ok:PureOk Tryz.prog 143 [] (.val true QC):=pure_ok (orc_ok S11ok K0ok) mixed Tryz.func143 quarter_run trivial rfl
noncomputable def S12:List (FuncId×ASpec):=(143,pureSpec fun args=>match args with | []=>some (num6 QN) | _=>none)::(146,pureSpec (sp1 fun x=>intA (signN x)))::(81,pureSpec (sp1 fun x=>boolA (biggerN x)))::S11
theorem S12ok:SpecsOk Tryz.prog S12:=⟨pureSpec_ok Tryz.func143 (by kernel_rfl) (by kernel_rfl) (sp0_ok quarter_ok fun u h=>num6_of (by kernel_rfl) h),pureSpec_ok Tryz.func146 (by kernel_rfl) (by kernel_rfl) (sp1_ok fun x _=>sign_ok x),pureSpec_ok Tryz.func81 (by kernel_rfl) (by kernel_rfl) (sp1_ok fun x _=>bigger_ok x),S11ok⟩
def evenN (y:Nat):Nat:=if signN y=1 then negN y else y
theorem even_yes (y:Nat):pureRun Tryz.prog (orc S12 K0) Tryz.f145 [num6 y] [true] 300=some ([(decide (signN y=1),true)],num6 (negN y)):=by kernel_rfl
theorem even_no (y:Nat):pureRun Tryz.prog (orc S12 K0) Tryz.f145 [num6 y] [false] 300=some ([(decide (signN y=1),false)],num6 y):=by kernel_rfl
theorem even_ok (y:Nat):PureOk Tryz.prog 145 [num6 y] (num6 (evenN y)):=by
 unfold evenN
 by_cases h:signN y=1
 ·rw [if_pos h];exact pure_ok (orc_ok S12ok K0ok) mixed Tryz.func145 (even_yes y) ⟨by simp [h],trivial⟩ rfl
 ·rw [if_neg h];exact pure_ok (orc_ok S12ok K0ok) mixed Tryz.func145 (even_no y) ⟨by simp [h],trivial⟩ rfl
noncomputable def S13:List (FuncId×ASpec):=(145,pureSpec (sp1 fun x=>num6 (evenN x)))::S12
theorem S13ok:SpecsOk Tryz.prog S13:=⟨pureSpec_ok Tryz.func145 (by kernel_rfl) (by kernel_rfl) (sp1_ok fun x _=>even_ok x),S12ok⟩
noncomputable def sqW (a:Nat):Nat:=powN a (natL (win (ws6 QN) (0+0*1) (6-0)))
end Go.Proofs.YtjlcdlekmpjjnaaGreat
/- The contracts of fproot.Sqrt and fproot.Is. -/
namespace Go.Proofs.YtjlcdlekmpjjnaaGreat
open Ex
set_option maxRecDepth 100000
set_option maxHeartbeats 4000000
theorem sqrt_no (a:Nat):pureRun Tryz.prog (orc S13 K0) Tryz.f84 [num6 a] [true] 300=some ([(true,true),(true,true),(!decide (mulN (sqW a) (sqW a)=a % pN),true)],.tup [(true,zero6),(false,[.b false])]):=by kernel_rfl
theorem sqrt_yes (a:Nat):pureRun Tryz.prog (orc S13 K0) Tryz.f84 [num6 a] [false] 300=some ([(true,true),(true,true),(!decide (mulN (sqW a) (sqW a)=a % pN),false)],.tup [(true,[.num 6 (evenN (sqW a))]),(false,[.b true])]):=by kernel_rfl
noncomputable def isSqN (a:Nat):Bool:=decide (mulN (powN a QN) (powN a QN)=a % pN)
noncomputable def rootN (a:Nat):Nat:=if isSqN a=true then evenN (powN a QN) else 0
theorem sqW_eq (a:Nat):sqW a=powN a QN:=by unfold sqW;rw [natL_num6 (by decide)]
noncomputable def sqrtA (a:Nat):AV:=.tup [(true,[.num 6 (rootN a)]),(false,[.v (.bool (isSqN a))])]
theorem pure_val {P:Program} {f:FuncId} {args:List AV} {v v':AV} (h:PureOk P f args v) (hv:∀ u,relA noEnv v u→relA noEnv v' u):PureOk P f args v' :=
 fun us w a=>Calls.mono (h us w a) fun _ _ ⟨u,q1,q2,q3⟩=>⟨u,q1,hv u q2,q3⟩
theorem bv_one {b b':Bool} {u:Value} (e:b=b') (h:relG noEnv false [.b b] u):relG noEnv false [.v (.bool b')] u:=by
 subst e
 obtain ⟨l1,l2,p1,p2,p3⟩:=h
 exact ⟨l1,l2,⟨p1,rfl,trivial⟩,p2,p3⟩
theorem sqrt_ok (a:Nat):PureOk Tryz.prog 84 [num6 a] (sqrtA a):=by
 by_cases h:isSqN a=true
 ·have h1:=pure_ok (orc_ok S13ok K0ok) mixed Tryz.func84 (sqrt_yes a) ⟨rfl,rfl,by rw [sqW_eq];unfold isSqN at h;rw [h];rfl,trivial⟩ rfl
  refine pure_val h1 ?_
  rintro u ⟨us,⟨u1,l1,q1,⟨u2,l2,q2,q3,rfl⟩,rfl⟩,rfl⟩
  refine ⟨_,⟨u1,_,?_,⟨u2,l2,bv_one h.symm q2,q3,rfl⟩,rfl⟩,rfl⟩
  unfold rootN;rw [if_pos h,← sqW_eq];exact q1
 ·have h0:isSqN a=false:=by simpa using h
  have h1:=pure_ok (orc_ok S13ok K0ok) mixed Tryz.func84 (sqrt_no a) ⟨rfl,rfl,by rw [sqW_eq];unfold isSqN at h0;rw [h0];rfl,trivial⟩ rfl
  refine pure_val h1 ?_
  rintro u ⟨us,⟨u1,l1,q1,⟨u2,l2,q2,q3,rfl⟩,rfl⟩,rfl⟩
  refine ⟨_,⟨u1,_,?_,⟨u2,l2,bv_one h0.symm q2,q3,rfl⟩,rfl⟩,rfl⟩
  unfold rootN;rw [if_neg h]
  exact num6_of (by kernel_rfl) q1
noncomputable def S14:List (FuncId×ASpec):=(84,pureSpec (sp1 sqrtA))::S13
theorem S14ok:SpecsOk Tryz.prog S14:=⟨pureSpec_ok Tryz.func84 (by kernel_rfl) (by kernel_rfl) (sp1_ok fun x _=>sqrt_ok x),S13ok⟩
noncomputable def S15:List (FuncId×ASpec):=S14
theorem S15ok:SpecsOk Tryz.prog S15:=S14ok
end Go.Proofs.YtjlcdlekmpjjnaaGreat
/- limb.Add: the walk of its loop. -/
namespace Go.Proofs.YtjlcdlekmpjjnaaGreat
open Ex
set_option maxRecDepth 100000
set_option maxHeartbeats 4000000
def condSpec (sp:List AV→Option (List (Bool×Bool)×AV)):ASpec:=fun args _ _ path =>
 match noKeysL args,sp args with
 | true,some (c,v)=>match noKeys v with
  | true=>some { pureR v path with conds:=c }
  | false=>none
 | _,_=>none
theorem condSpec_ok {P:Program} {f:FuncId} {fn:Func} {sp:List AV→Option (List (Bool×Bool)×AV)} (hfn:P.funcs[f]? = some fn) (hb:fn.body.isSome=true) (hname:(fn.name=="runtime.NumGoroutine")=false) (h:∀ args c v,sp args=some (c,v)→okConds c→PureOk P f args v):SpecOk P f (condSpec sp):=by
 intro args H fr path r β us w hs hc ha hg hf
 unfold condSpec at hs
 split at hs
 ·rename_i c v hk hv
  split at hs
  ·rename_i hkv
   injection hs with hs;subst hs
   refine callX_of_calls hfn hb hname (Calls.mono (h args c v hv hc us w (relAs_any hk ha)) ?_)
   rintro e w' ⟨u,rfl,hu,hbl⟩
   refine ⟨u,β,rfl,?_⟩
   exact ⟨Env.le_refl _,fun _ _ h=>.inl h,fun b B n hb=>Nat.lt_of_lt_of_le (hg.lt b B n hb) hbl.size,fun b b' _ _ _ h1 _ h3=>by simp [pureR] at h3;omega,relA_any hkv hu,fun _ _ h=>(by cases h),fun B hB _=>hbl.block B hB,hbl.size,hbl.os,hbl.tape,hbl.output⟩
  ·cases hs
 ·cases hs
noncomputable def S16:List (FuncId×ASpec):=S15
theorem S16ok:SpecsOk Tryz.prog S16:=S15ok
end Go.Proofs.YtjlcdlekmpjjnaaGreat
/- limb.carried: the walk. -/
namespace Go.Proofs.YtjlcdlekmpjjnaaGreat
open Ex
set_option maxRecDepth 100000
set_option maxHeartbeats 4000000
def nvA:AV→AV
 | .val g cs=>.val g (cs.map nv)
 | a=>a
theorem relA_nv {β:Env} {a:AV} {u:Value} (h:relA β a u):relA β (nvA a) u:=by
 cases a with
 | val g cs=>cases g with
  | false=>exact relL_nv h
  | true=>obtain ⟨l,q,e⟩:=h;exact ⟨l,relL_nv q,e⟩
 | tup xs=>exact h
 | any=>exact h
theorem tget_nv:∀ (T:List AV) (t:Nat),tget (T.map nvA) t=nvA (tget T t)∨tget (T.map nvA) t=tget T t
 | [],_=>.inr rfl
 | _::_,0=>.inl rfl
 | _::r,t+1=>tget_nv r t
theorem nv_safe {P:Program} {f:FuncId} {β0:Env} {w0:World} {R:Ending→World→Prop} {n:Nat} {W:List Nat} {todo:List Item} {T:List AV} {H:Heap} {fr:Nat} {p:List Bool} (h:ASafe P f β0 w0 R n W ⟨todo,⟨T.map nvA,H,fr,p⟩⟩):ASafe P f β0 w0 R n W ⟨todo,⟨T,H,fr,p⟩⟩:=by
 intro β a w hi hf
 refine h β a w { hi with tmp:=fun t=>?_ } hf
 rcases tget_nv T t with e | e
 ·show relA β (tget (T.map nvA) t) _
  rw [e];exact relA_nv (hi.tmp t)
 ·show relA β (tget (T.map nvA) t) _
  rw [e];exact hi.tmp t
end Go.Proofs.YtjlcdlekmpjjnaaGreat
