/- Part 6 of the proof: Vd, Ve, Vf, Vg, Vh, Wa, Sa, Sb, Sc, Sd, Se, Sf, Sg, Sh, Si, Sj, Sk, Sl, Sm, Sn, So, Sp, Sq, Sr, Ss, St, Su, Sv, Sw, Sx, Sy, Yb, Yc. -/
import Derived.Test.YtjlcdlekmpjjnaaGreatPE
import Derived.Laws.BitsLemmas
namespace Go.Proofs.YtjlcdlekmpjjnaaGreat
open Ex Num Rg
open Go.RowKit (Below)
open Sh (R av rd mo en mo_en)
set_option maxRecDepth 100000
set_option maxHeartbeats 4000000
theorem X3 {w:World} {B:Nat} {v:Value} {ty:TypeId} (h:w.heap[B]? = some (.cells #[v] ty (0,0))):w.cell? ⟨B,0,none⟩=some v∧w.frozen? ⟨B,0,none⟩=false:=by
 constructor
 ·simp [World.cell?,h]
 ·simp [World.frozen?,h]
theorem X4 {w:World} {a:Addr} {v:Value} {B:Nat} (h:B≠a.block):(w.setCell a v).heap[B]? = w.heap[B]?:=by
 simp only [World.setCell,Array.getElem?_modify]
 rw [if_neg (fun e=>h e.symm)]
theorem ACT (w:World) (a:Addr) (v:Value):(w.setCell a v).heap.size=w.heap.size∧(w.setCell a v).os=w.os∧(w.setCell a v).tape=w.tape∧(w.setCell a v).output=w.output:=by
 refine ⟨?_,rfl,rfl,rfl⟩
 simp [World.setCell]
theorem ACU {w:World} {B:Nat} {u v:Value} {ty:TypeId} (h:w.heap[B]? = some (.cells #[u] ty (0,0))):(w.setCell ⟨B,0,none⟩ v).heap[B]? = some (.cells #[v] ty (0,0)):=by
 simp [World.setCell,Array.getElem?_modify,h]
noncomputable def UN:Value:=.tuple #[.slice none 0 0,.int .i64 210]
theorem ACV {F:FuncId} {fnF:Func} (hF:Tryz.prog.funcs[F]? = some fnF) (hb:fnF.body.isSome=true) (hname:(fnF.name=="runtime.NumGoroutine")=false)
  (hcatch:∀ (p q:Addr) (x y:Value) (w:World),w.cell? p=some x→w.frozen? p=false→w.cell? q=some y→w.frozen? q=false→p.block≠q.block →
   CallsD Tryz.prog F #[.pointer (some p),.pointer (some q)] (.panicking [{ v:=.iface 33 (.int .i64 210),recovered:=false }]) w fun e u' w' =>
    e=.returned (.tuple #[])∧u'=.panicking [{ v:=.iface 33 (.int .i64 210),recovered:=true }]∧w'=(w.setCell p (.slice none 0 0)).setCell q (.int .i64 210))
  {fn:Func} {t1 t2:Tmp} {tmps:Array Value} {B1 B2:Nat} {ty1 ty2:TypeId} {R:Ending→World→Prop} {w:World} (hres:fn.results=#[.cell t1 28,.cell t2 33])
  (ht1:tmps.getD t1 undef=.pointer (some ⟨B1,0,none⟩)) (ht2:tmps.getD t2 undef=.pointer (some ⟨B2,0,none⟩)) (c1:w.heap[B1]? = some (.cells #[.slice none 0 0] ty1 (0,0))) (c2:w.heap[B2]? = some (.cells #[.int .i64 0] ty2 (0,0))) (hne:B1≠B2)
  (hR:∀ w',(∀ B,B≠B1→B≠B2→w'.heap[B]? = w.heap[B]?)→w'.heap.size=w.heap.size→w'.os=w.os→w'.tape=w.tape→w'.output=w.output→R (.returned UN) w') :
  Leaves Tryz.prog fn tmps R [{ target:=.fn (.func F) #[.pointer (some ⟨B1,0,none⟩),.pointer (some ⟨B2,0,none⟩)],args:=#[] }] (.panicking errC) w:=by
 obtain ⟨a1,f1⟩:=X3 c1
 obtain ⟨a2,f2⟩:=X3 c2
 have h1:fnF.name≠"runtime.NumGoroutine":=by simpa using hname
 have h2:¬ fnF.body=none:=by cases hq:fnF.body<;>simp [hq] at hb ⊢
 refine leaves_cons (f:=F) (args:=#[.pointer (some ⟨B1,0,none⟩),.pointer (some ⟨B2,0,none⟩)]) (by simp) (by simp [invoke,callFunc,hF,h1,h2]) ?_
 refine (hcatch ⟨B1,0,none⟩ ⟨B2,0,none⟩ _ _ w a1 f1 a2 f2 hne).mono ?_
 rintro e u' w' ⟨rfl,rfl,rfl⟩
 have c2':(w.setCell ⟨B1,0,none⟩ (.slice none 0 0)).heap[B2]? = some (.cells #[.int .i64 0] ty2 (0,0)):=(X4 fun e=>hne e.symm).trans c2
 have e2:=(X3 (ACU (v:=.int .i64 210) c2')).1
 have e1:=(X3 ((X4 (a:=⟨B2,0,none⟩) (v:=.int .i64 210) hne).trans (ACU (v:=.slice none 0 0) c1))).1
 obtain ⟨q1,q2,q3,q4⟩:=ACT (w.setCell ⟨B1,0,none⟩ (.slice none 0 0)) ⟨B2,0,none⟩ (.int .i64 210)
 obtain ⟨r1,r2,r3,r4⟩:=ACT w ⟨B1,0,none⟩ (.slice none 0 0)
 refine ⟨UN,?_,hR _ (fun B n1 n2=>by rw [X4 n2,X4 n1]) (q1.trans r1) (q2.trans r2) (q3.trans r3) (q4.trans r4)⟩
 rw [Array.getD_eq_getD_getElem?] at ht1 ht2
 simp [results,hres,ht1,ht2,go_sem,e1,e2,UN]
section
variable (n m:Nat) (xs:List Int) (p:List Bool)
noncomputable abbrev skF:Func:=Tryz.f35
noncomputable def skA:ASt:=Af skF [AI 0 0 n m] (Au xs) 1 p
noncomputable def X5:ASt:=EZ (C5 Tryz.prog oVc 3 1 (skA n m xs p))
noncomputable def skI:List Item:=(X5 0 0 [] []).todo
noncomputable abbrev skO:Array Oper:=DR skI
noncomputable def Do (x:Option (List Rec×St)):St:=match x with | some (_,s)=>s | none=>⟨[],[],0,[]⟩
noncomputable def Hs (x:Option (List Rec×St)):List Rec:=match x with | some (r,_)=>r | none=>[]
noncomputable def Mk:Option (List Rec×St):=Dk Tryz.prog oVc skO [skO.getD 0 default] 0 (X5 n m xs p).s
theorem AUo:C5 Tryz.prog oVc 3 1 (skA n m xs p)=some ([],[],X5 n m xs p):=by kernel_rfl
theorem AUp:(X5 n m xs p).todo=.code (.region (NW skI) skO false)::Jw skI:=by kernel_rfl
theorem AUq:Mk n m xs p=some (Hs (Mk n m xs p),Do (Mk n m xs p)):=by kernel_rfl
theorem AUr:H7 (Hs (Mk n m xs p))=[]:=by kernel_rfl
theorem AUs:FM (Hs (Mk n m xs p))=[]:=by kernel_rfl
theorem AUt:Aq (Do (Mk n m xs p)).T 6=.val false [.clo 102 [(1,0),(2,0)]]:=by kernel_rfl
theorem kC:(Do (Mk n m xs p)).fr=3:=by kernel_rfl
noncomputable def Ml:ASt:=⟨Jw skI,Do (Mk n m xs p)⟩
end
theorem ACX {n m:Nat} {xs:List Int} (p:List Bool) {β:Env} {us:List Value} {w:World} {R:Ending→World→Prop} (ha:A7 β [AI 0 0 n m] us) (hg:Ex.Good β (Au xs) w) (hf:∀ b,1≤b→β b=none)
  (h:∀ (β':Env) (a:Act) (w':World) (A B:Nat) (m1 m2:Nat×Nat),β' 1=some (.at_ A m1)→β' 2=some (.at_ B m2)→(∀ b,3≤b→β' b=none) →
   Inv β w [] ⟨skF.ntmps,[{ target:=.fn (.func 102) #[.pointer (some ⟨A,m1.2+0,none⟩),.pointer (some ⟨B,m2.2+0,none⟩)],args:=#[] }]⟩ β' (Aq (Ml n m xs p).s.T) (Ml n m xs p).s.H a w' →
   Ex.Safe Tryz.prog 35 R (Ml n m xs p).todo a w'):Calls Tryz.prog 35 ⟨us⟩ w R:=by
 refine PK (args:=[AI 0 0 n m]) (H:=Au xs) (k0:=1) (path:=p) Tryz.func35 (by kernel_rfl) (by kernel_rfl) ?_ ha hg hf
 refine HP UM AB (AUo n m xs p) trivial (AL (by kernel_rfl)) hf (fun _ h=>by cases h) fun hw=>?_
 intro β' a w' hi hf'
 rw [AUp]
 refine Ex.Safe.of_wp (wp_region ?_)
 have hs:List.range skO.size=List.range' 0 [skO.getD 0 default].length++[1]:=by kernel_rfl
 rw [hs]
 refine SL UM (W:=[]) _ 0 _ _ _ β' a w' (fun j o hj=>?_) (AUq n m xs p) (by rw [AUr];trivial) hi hf' hw.1 hw.2 (by rw [AUs];intro k hk;cases hk) ?_
 ·cases j with
  | zero=>injection hj with hj;subst hj;kernel_rfl
  | succ j=>simp at hj
 ·intro β2 a2 w2 hi2 hf2
  have hc:=hi2.tmp 6
  rw [AUt] at hc
  obtain ⟨ps,hp,hu⟩:=A3 hc
  obtain ⟨A,m1,B,m2,e1,e2,rfl⟩:=sV hp
  injection hu with hu _
  refine sU (o:=skO.getD 1 default) (c:=match (skO.getD 1 default).op with | .defer c=>c | _=>⟨.builtin .len,#[],#[]⟩) (t:=6) (by kernel_rfl) (by kernel_rfl) (by kernel_rfl) (by kernel_rfl) (by kernel_rfl) (by kernel_rfl) hu ⟨rfl,?_⟩
  exact h β2 _ w2 A B m1 m2 e1 e2 (fun b hb=>hf2 b (by rw [kC];exact hb)) hi2.push
theorem X6 {β:Env} {H:Heap} {w:World} {k ty A:Nat} {m:Nat×Nat} {c:Ch} {v:Value} (hg:Ex.Good β H w) (hk:AG H k=some ⟨ty,[c],false⟩) (hr:Nat.beq ty CG=false) (hA:β k=some (.at_ A m)) (hc:∀ l,BI β c l→l=[v]):w.heap[A]? = some (.cells #[v] ty (0,0))∧m.2=0:=by
 rcases NB (hg.heap k _ hk) (Gx hr) with ⟨B,n,l,t,e1,e2,e3,e4,_⟩ | ⟨e1,_⟩
 ·rw [hA] at e1
  injection e1 with e1;injection e1 with e1 e5
  subst e1;subst e5
  obtain ⟨l1,l2,q1,q2,q3⟩:=e2
  simp only [AN] at q2
  rw [e4 rfl,q3,q2,hc _ q1] at e3
  exact ⟨e3,rfl⟩
 ·rw [hA] at e1;cases e1
section
variable (n m:Nat) (xs:List Int) (p:List Bool)
noncomputable def X7:ASt:=EZ (C5 Tryz.prog oVc 1 1 (Ml n m xs p))
noncomputable def skJ:List Item:=(X7 0 0 [] []).todo
noncomputable def IO:Option (List Rec×St):=Dk Tryz.prog oVc (DR skJ) [(DR skJ).getD 0 default] 0 (X7 n m xs p).s
theorem AUu:C5 Tryz.prog oVc 1 3 (Ml n m xs p)=some ([],[],X7 n m xs p):=by kernel_rfl
theorem AUv:(X7 n m xs p).todo=.code (.region (NW skJ) (DR skJ) false)::Jw skJ:=by kernel_rfl
theorem AUw:IO n m xs p=some (Hs (IO n m xs p),Do (IO n m xs p)):=by kernel_rfl
theorem AUx:H7 (Hs (IO n m xs p))=[]:=by kernel_rfl
theorem AUy:FM (Hs (IO n m xs p))=[]:=by kernel_rfl
theorem AUz:Aq (Do (IO n m xs p)).T 8=AI 0 0 n m:=by kernel_rfl
theorem AU0:Aq (Do (IO n m xs p)).T 2=.val false [.p 1 0]:=by kernel_rfl
theorem AU1:Aq (Do (IO n m xs p)).T 3=.val false [.p 2 0]:=by kernel_rfl
theorem AU2:AG (Do (IO n m xs p)).H 0=some (Ai [.seq .u8 xs]):=by kernel_rfl
theorem ACY:AG (Do (IO n m xs p)).H 1=some ⟨28,[.v (.slice none 0 0)],false⟩:=by kernel_rfl
theorem ACZ:AG (Do (IO n m xs p)).H 2=some ⟨33,[.n .i64 0],false⟩:=by kernel_rfl
end
theorem ACa (xs:List Int):Ao .u8 [.seq .u8 xs]=some xs:=by kernel_rfl
theorem X8 {β:Env} {T:AV} {u:Value} {k A:Nat} {m:Nat×Nat} (hT:T=.val false [.p k 0]) (h:AP β T u) (hA:β k=some (.at_ A m)):u=.pointer (some ⟨A,m.2+0,none⟩):=by
 subst hT
 obtain ⟨B,n,h1,h2⟩:=A3 h
 rw [hA] at h1
 injection h1 with h1;injection h1 with h1 h3
 subst h1;subst h3
 injection h2
theorem X9 {w w':World} (h:Below w.heap.size w w') {B:Nat} {o:Obj} (hB:w.heap[B]? = some o):w'.heap[B]? = some o:=by
 rw [h.block B (Array.getElem?_eq_some_iff.1 hB).1];exact hB
theorem ACb {β:Env} {H:Heap} {w w':World} (hg:Ex.Good β H w) (hs:w.heap.size≤w'.heap.size) (hf:∀ B,B<w.heap.size→w'.heap[B]? = w.heap[B]?) (ho:w'.os=w.os) (ht:w'.tape=w.tape) (hp:w'.output=w.output):Ay β w [] (Di 210) [] (.returned UN) w' :=
 ⟨UN,β,rfl,{
  val:=⟨_,⟨_,_,Aw ⟨rfl,rfl,trivial⟩,⟨_,_,Aw ⟨rfl,(EJ _ _).2 (by decide)⟩,rfl,rfl⟩,rfl⟩,rfl⟩
  good:=⟨(fun _ _ h=>by cases h),(fun _ _ _ _ _ h=>by cases h),(fun b B n h=>Nat.lt_of_lt_of_le (hg.lt b B n h) hs)⟩
  new:=fun _ _ h=>.inl h
  ext:=Env.le_refl β
  frame:=fun B hB _=>hf B hB
  size:=hs
  os:=ho
  tape:=ht
  output:=hp }⟩
theorem AU3 {n m:Nat} {xs:List Int} (hl:n≤xs.length) (hn:AJ .i64 n=true) (hk:Bm n (AT (AA xs 0 n))=false) :
  Ad Tryz.prog 35 [AI 0 0 n m] (Au xs) 1 [] (Di 210) []:=by
 intro β us w ha hg hf
 refine ACX [] ha hg hf fun β' a w' A B m1 m2 hA hB hf' hi=>?_
 refine HP (β0:=β') (w0:=w') (W:=[]) UM AB (AUu n m xs []) trivial (AL (by kernel_rfl)) hf' (fun _ h=>by cases h) (fun hw=>?_) β' a w' hi.root (fun b hb=>hf' b (by rw [show (Ml n m xs []).s.fr=3 from kC n m xs []] at hb;exact hb))
 intro β1 a1 w1 hi1 hf1
 rw [AUv]
 refine Ex.Safe.of_wpP Tryz.func35 (wp_region ?_)
 have hs:List.range (DR skJ).size=List.range' 0 [(DR skJ).getD 0 default].length++(1::List.range' 2 ((DR skJ).size-2)):=by kernel_rfl
 rw [hs]
 refine SL UM (W:=[]) _ 0 _ _ _ β1 a1 w1 (fun j o hj=>?_) (AUw n m xs []) (by rw [AUx];trivial) hi1 hf1 hw.1 hw.2 (by rw [AUy];intro k hk;cases hk) ?_
 ·cases j with
  | zero=>injection hj with hj;subst hj;kernel_rfl
  | succ j=>simp at hj
 intro β2 a2 w2 hi2 _
 have r8:=hi2.tmp 8
 rw [AUz] at r8
 obtain ⟨_,g2,_⟩:=Cx hi2.good (AU2 n m xs []) (ACa xs)
 have hpan:=ACR hl hn hk (A4 β2 [0] 1) [a2.tmps.getD 8 undef] w2 ⟨_,[],BS (by omega) rfl r8,rfl,rfl⟩ g2 (fun b hb=>by
  have:Nat.blt b 1=false:=by cases h:Nat.blt b 1 with | false=>rfl | true=>have:=A8.1 h;omega
  simp [A4,this])
 refine sS (o:=(DR skJ).getD 1 default) (c:=match ((DR skJ).getD 1 default).op with | .call c=>c | _=>⟨.builtin .len,#[],#[]⟩) (g:=104) (chain:=errC) (by kernel_rfl) (by kernel_rfl) (by kernel_rfl) (by kernel_rfl) Tryz.func104 (by kernel_rfl) (by kernel_rfl) ?_
 have hargs:(match ((DR skJ).getD 1 default).op with | .call c=>c | _=>⟨.builtin .len,#[],#[]⟩).args=#[.tmp 8]:=by kernel_rfl
 rw [hargs,show Array.map a2.eval #[Operand.tmp 8]=#[a2.eval (.tmp 8)] from by simp]
 refine Calls.mono (R:=fun e w'=>e=.panicked errC∧Below w2.heap.size w2 w') hpan ?_
 rintro e w3 ⟨rfl,hbl⟩
 refine ⟨rfl,.inr ⟨errC,rfl,?_⟩⟩
 have hA2:=hi2.ext 1 _ hA
 have hB2:=hi2.ext 2 _ hB
 obtain ⟨c1,z1⟩:=X6 (v:=.slice none 0 0) hi2.good (ACY n m xs []) (by kernel_rfl) hA2 fun l h=>h.1
 obtain ⟨c2,z2⟩:=X6 (v:=.int .i64 0) hi2.good (ACZ n m xs []) (by kernel_rfl) hB2 fun l h=>h.1
 have hne:A≠B:=fun e=>by
  subst e
  have:=hi2.good.inj 1 2 A m1 m2 (by rw [Ef (ACY n m xs []) (Gx (by kernel_rfl))]) (by rw [ACZ];rfl) hA2 hB2
  cases this
 have big:∀ {k C:Nat} {q:Nat×Nat},1≤k→β' k=some (.at_ C q)→w.heap.size≤C:=by
  intro k C q hk0 hC
  rcases hi.new k _ hC with h | h
  ·rw [hf k hk0] at h;cases h
  ·rcases h C q rfl with h | ⟨j,_,hj,_⟩
   ·exact h
   ·cases hj
 have bA:=big (by omega) hA
 have bB:=big (by omega) hB
 have t1:=X8 (AU0 n m xs []) (hi2.tmp 2) hA2
 have t2:=X8 (AU1 n m xs []) (hi2.tmp 3) hB2
 rw [z1] at t1
 rw [z2] at t2
 rw [hi2.dfr,z1,z2]
 refine ACV Tryz.func102 (by kernel_rfl) (by kernel_rfl) (fun p q x y w a b c d e=>AUU p q x y w a b c d e) (t1:=2) (t2:=3) (by kernel_rfl) t1 t2 (X9 hbl c1) (X9 hbl c2) hne fun w4 k1 k2 k3 k4 k5=>?_
 refine ACb hg ?_ (fun C hC=>?_) ?_ ?_ ?_
 ·rw [k2];exact Nat.le_trans hi.size (Nat.le_trans hi2.size hbl.size)
 ·rw [k1 C (by omega) (by omega),hbl.block C (Nat.lt_of_lt_of_le hC (Nat.le_trans hi.size hi2.size)),hi2.frame C (Nat.lt_of_lt_of_le hC hi.size) (fun _ _ h=>by cases h),hi.frame C hC (fun _ _ h=>by cases h)]
 ·rw [k3,hbl.os,hi2.os,hi.os]
 ·rw [k4,hbl.tape,hi2.tape,hi.tape]
 ·rw [k5,hbl.output,hi2.output,hi.output]
noncomputable def Mm (N:Nat):Pt FP:=Es (AF (AA (MZ N) 0 4)) (Ah (Cz G1B) (BT G1B) (BL G1B))
theorem AU4 {N:Nat} (h:N<R4):Mm N=BH N G1B:=by
 unfold Mm Es
 rw [MG,if_pos UC,UK h]
def kD:AV:=.tup [(false,[.sl 12 0 48 48]),(false,[.n .i64 0])]
def kE (l:List Int):Heap:=[(12,some ⟨5,[.seq .u8 l],true⟩)]
theorem AU5 (n m:Nat) (xs:List Int):AM Tryz.prog oVc skF 400 1 [12] (Ml n m xs [false,true,true,true,true,true,true,true,true,true]) =
 some ((Nat.ble n xs.length,true)::(Nat.ble n m,true)::(AJ .i64 n,true)::(Bm n (AT (AA xs 0 n)),true)::tt 2 [(Bh (Ah (Cz (Mm (Bp n (AT (AA xs 0 n))))) (BT (Mm (Bp n (AT (AA xs 0 n))))) (BL (Mm (Bp n (AT (AA xs 0 n)))))),true)],[],kD,
  kE (DZ true (Ah (Cz (Mm (Bp n (AT (AA xs 0 n))))) (BT (Mm (Bp n (AT (AA xs 0 n))))) (BL (Mm (Bp n (AT (AA xs 0 n)))))))):=by kernel_rfl
theorem ACc (N:Nat):Bh (BH N G1B)=true:=by
 have h1:=(P6 G1B).1 UC
 unfold Bh
 rw [(P6 _).2 (GT C1 h1 N),← f9 C1 h1,Nat.mul_comm,f9 C1 h1,rG1,Py]
 rfl
theorem AU6 {n m:Nat} {xs:List Int} (hl:n≤xs.length) (hm:n≤m) (hn:AJ .i64 n=true) (hk:Bm n (AT (AA xs 0 n))=true) :
  Ad Tryz.prog 35 [AI 0 0 n m] (Au xs) 1 [] kD (kE (DZ true (BH (AT (AA xs 0 n)) G1B))):=by
 obtain ⟨k1,k2,_⟩:=Ma.1 hk
 have hV:Bp n (AT (AA xs 0 n))=AT (AA xs 0 n):=if_pos ⟨k1,k2⟩
 have hrun:=AU5 n m xs
 rw [hV,MG,AU4 (Nat.lt_trans k2 OQ)] at hrun
 intro β us w ha hg hf
 refine ACX [false,true,true,true,true,true,true,true,true,true] ha hg hf fun β' a w' A B m1 m2 _ _ hf' hi=>?_
 exact cF UM AB Tryz.func35 hrun ⟨Nat.ble_eq_true_of_le hl,Nat.ble_eq_true_of_le hm,hn,hk,Ac 2 ⟨ACc _,trivial⟩⟩ (AL (by kernel_rfl)) hf (fun _ h=>by cases h) rfl Tryz.func102 (by kernel_rfl) (by kernel_rfl)
  (fun w=>AUT _ _ w) (fun _ _ h=>h) β' a w' hi (fun b hb=>hf' b (by rw [show (Ml n m xs _).s.fr=3 from kC n m xs _] at hb;exact hb))
noncomputable def skSp:ASpec:=fun args H fr path=>match args,path with
 | [S],b::rest=>match I_ S with
  | some (k,n,m)=>match AG H k with
   | some ⟨_,cs,_⟩=>match Ao .u8 cs with
    | some xs=>match b with
     | true=>some (A5 [k] 1 fr 0 [] (Di 210) [] [(Nat.ble n xs.length,true),(Nat.ble n m,true),(AJ .i64 n,true),(Bm n (AT (AA xs 0 n)),false)] rest)
     | false=>some (A5 [k] 1 fr 12 [] kD (kE (DZ true (BH (AT (AA xs 0 n)) G1B))) [(Nat.ble n xs.length,true),(Nat.ble n m,true),(AJ .i64 n,true),(Bm n (AT (AA xs 0 n)),true)] rest)
    | none=>none
   | _=>none
  | none=>none
 | _,_=>none
theorem AU7:A6 Tryz.prog 35 skSp:=by
 refine CS Tryz.func35 (by kernel_rfl) (by kernel_rfl) fun args H fr path r hs=>?_
 unfold skSp at hs
 split at hs
 case h_2=>cases hs
 rename_i S b rest
 split at hs
 case h_2=>cases hs
 rename_i k n m hS
 split at hs
 case h_2=>cases hs
 rename_i ty cs o hk'
 split at hs
 case h_2=>cases hs
 rename_i xs hxs
 split at hs
 ·injection hs with hs
  refine ⟨[k],1,0,[],_,_,_,rest,hs.symm,fun β us w ha hg hc=>?_⟩
  obtain ⟨u1,us1,r1,ha,rfl⟩:=ha
  obtain ⟨hl,hm,hn,hb,_⟩:=hc
  obtain ⟨m',_,r1⟩:=I' hS (Nat.le_of_ble_eq_true hm) r1
  obtain ⟨g1,g2,g3⟩:=Cx hg hk' hxs
  exact ⟨[AI 0 0 n m'],Au xs,AU3 (Nat.le_of_ble_eq_true hl) hn hb,by kernel_rfl,⟨u1,_,BS (by omega) rfl r1,ha,rfl⟩,g2,g3⟩
 ·injection hs with hs
  refine ⟨[k],1,12,[],_,_,_,rest,hs.symm,fun β us w ha hg hc=>?_⟩
  obtain ⟨u1,us1,r1,ha,rfl⟩:=ha
  obtain ⟨hl,hm,hn,hb,_⟩:=hc
  obtain ⟨m',hm',r1⟩:=I' hS (Nat.le_of_ble_eq_true hm) r1
  obtain ⟨g1,g2,g3⟩:=Cx hg hk' hxs
  exact ⟨[AI 0 0 n m'],Au xs,AU6 (Nat.le_of_ble_eq_true hl) hm' hn hb,by kernel_rfl,⟨u1,_,BS (by omega) rfl r1,ha,rfl⟩,g2,g3⟩
noncomputable def SVe:List (FuncId×ASpec):=(35,skSp)::(46,Du smSp)::(28,Du (UF fun s L=>Kq (Kp s L)))::SVc
theorem ACd:AX Tryz.prog SVe:=⟨AU7,EM AQd,EM (iW Tryz.func28 (by kernel_rfl) (by kernel_rfl) (fun _ _=>by kernel_rfl) fun _ _ _ s hl hm hn=>ABX hl hm hn s),ACS⟩
noncomputable abbrev oVe:Orc:=AH SVe KV
theorem X_:OrcOk Tryz.prog oVe:=AK ACd A9
noncomputable def SVf:List (FuncId×ASpec):=(48,BY Tryz.prog oVe Tryz.f48 300)::(34,BY Tryz.prog oVe Tryz.f34 300)::(39,BY Tryz.prog oVe Tryz.f39 600)::(66,BY Tryz.prog oVe Tryz.f66 300)::SVe
theorem ACe:AX Tryz.prog SVf:=⟨Bj X_ AB Tryz.func48 (by kernel_rfl) (by kernel_rfl) 300,Bj X_ AB Tryz.func34 (by kernel_rfl) (by kernel_rfl) 300,Bj X_ AB Tryz.func39 (by kernel_rfl) (by kernel_rfl) 600,Bj X_ AB Tryz.func66 (by kernel_rfl) (by kernel_rfl) 300,ACd⟩
noncomputable abbrev oVf:Orc:=AH SVf KV
theorem AU8:OrcOk Tryz.prog oVf:=AK ACe A9
end Go.Proofs.YtjlcdlekmpjjnaaGreat
namespace Go.Proofs.YtjlcdlekmpjjnaaGreat
open Ex Num Rg
open Sh (R av rd mo en mo_en)
set_option maxRecDepth 100000
set_option maxHeartbeats 4000000
def AU9:List Int:=List.take (Int.toNat 31) (List.drop 0 (List.replicate (Int.toNat 31) 0))++[1]
def Ky:Nat:=AT (AA AU9 0 (Int.toNat 31+1))
def X':Nat:=AT (AA (List.replicate (Int.toNat 32) 0) 0 (Int.toNat 32))
theorem kG:Ky=1:=by kernel_rfl
theorem AU_:X'=0:=by kernel_rfl
noncomputable def ACf:List (Bool×Bool):=tt 7 ((Bm (Int.toNat 32) X',false)::tt 9 ((Bm (Int.toNat 31+1) Ky,true)::(Bh (Ah (Cz G1B) (BT G1B) (BL G1B)),true)::(Nat.ble (0+48) (DZ true (BH Ky G1B)).length,true)::(Nat.ble (0+48) (DZ true (Ah (Cz G1B) (BT G1B) (BL G1B))).length,true) ::
 tt 2 ((Hn (AA (DZ true (BH Ky G1B)) 0 48) (AA (DZ true (Ah (Cz G1B) (BT G1B) (BL G1B))) 0 48),true)::tt 2 ((Nat.ble 48 (DZ true (BH Ky G1B)).length,true)::tt 2 ((decide ((Kp true (AA (DZ true (BH Ky G1B)) 0 48)).2=0),true)::(!BL (Kp true (AA (DZ true (BH Ky G1B)) 0 48)).1,true)::tt 3 [(false,false)])))))
theorem AU':AR Tryz.prog oVf Tryz.f42 [] [true,true,true,false,false,true,true,true,true,false] 1000=some (ACf,.val false [.b true]):=by kernel_rfl
theorem AVA (s i b:Bool) (B:List Int):(C_ s i b B).length=B.length:=by
 cases B with
 | nil=>cases s<;>cases i<;>cases b<;>rfl
 | cons f t=>rw [QM];rfl
theorem ACg (s:Bool) (p:Pt FP):(DZ s p).length=96:=by rw [XS,AVA,UE,OD];rfl
theorem AVB:Bm (Int.toNat 32) X'=false:=by
 cases h:Bm (Int.toNat 32) X' with
 | false=>rfl
 | true=>exact absurd AU_ (Ma.1 h).2.2
theorem AVC:1<rN:=by rw [rN_eq];exact A8.1 (by kernel_rfl)
theorem AVD:Bm (Int.toNat 31+1) Ky=true:=Ma.2 ⟨rfl,by rw [kG];exact AVC,by rw [kG];decide⟩
theorem AVE (l:List Int):Hn l l=true:=decide_eq_true rfl
theorem AVF:AU Tryz.prog 42 [] (.val false [.b true]):=by
 have r:=AU'
 have e1:BH Ky G1B=G1B:=by rw [kG];rfl
 have hd:Kp true (AA (DZ true G1B) 0 48)=(G1B,0):=ARy AA' true
 unfold ACf at r
 rw [MG,e1,hd] at r
 have hb:Nat.ble 48 (DZ true G1B).length=true:=by rw [ACg];rfl
 have hb':Nat.ble (0+48) (DZ true G1B).length=true:=by rw [ACg];rfl
 exact AW AU8 AB Tryz.func42 r (Ac 7 ⟨AVB,Ac 9 ⟨AVD,AA',hb',hb',Ac 2 ⟨AVE _,Ac 2 ⟨hb,Ac 2 ⟨decide_eq_true rfl,rfl,Ac 3 ⟨rfl,trivial⟩⟩⟩⟩⟩⟩) rfl
noncomputable def SVw:List (FuncId×ASpec):=(42,Aj ANQ)::SVf
theorem ACh:AX Tryz.prog SVw:=⟨Ak Tryz.func42 (by kernel_rfl) (by kernel_rfl) (Nj AVF fun u h=>h),ACe⟩
noncomputable abbrev oVw:Orc:=AH SVw KV
theorem AVG:OrcOk Tryz.prog oVw:=AK ACh A9
noncomputable def SVg:List (FuncId×ASpec):=(43,BY Tryz.prog oVw Tryz.f43 300)::SVw
theorem ACi:AX Tryz.prog SVg:=⟨Bj AVG AB Tryz.func43 (by kernel_rfl) (by kernel_rfl) 300,ACh⟩
theorem Kz {f:FuncId} {args:List AV} {H:Heap} {k0:Nat} (h:Ad Tryz.prog f args H k0 [] (.val false [.b true]) []):Ad Tryz.prog f args H k0 [] (BB true) [] :=
 BU h fun _ _ ⟨l1,l2,h1,h3,h4⟩=>⟨l1,l2,⟨h1,rfl,trivial⟩,h3,h4⟩
section
variable {n0 m0 n1 m1 n2 m2:Nat} {x0 x1 x2:List Int}
end
theorem K3 {P:Program}:∀ {S T:List (FuncId×ASpec)},AX P S→AX P T→AX P (S++T)
 | [],_,_,h=>h
 | _::_,_,h,h'=>⟨h.1,K3 h.2 h'⟩
section
variable (oa:Option Addr) (m:Nat)
end
end Go.Proofs.YtjlcdlekmpjjnaaGreat
namespace Go.Proofs.YtjlcdlekmpjjnaaGreat
open Ex Num
set_option maxRecDepth 100000
set_option maxHeartbeats 4000000
theorem D6 (a b:Nat) (ha:a<4294967296) (hb:b<4294967296):bits .and .u32 (a:Int) (b:Int)=((a &&& b:Nat):Int)∧bits .or .u32 (a:Int) (b:Int)=((a ||| b:Nat):Int)∧bits .xor .u32 (a:Int) (b:Int)=((a ^^^ b:Nat):Int):=by
 have ha':a % 2^IntKind.u32.bits=a:=Nat.mod_eq_of_lt ha
 have hb':b % 2^IntKind.u32.bits=b:=Nat.mod_eq_of_lt hb
 have h1:(a &&& b)<4294967296:=Nat.and_lt_two_pow (n:=32) _ hb
 have h2:(a ||| b)<4294967296:=Nat.or_lt_two_pow (n:=32) ha hb
 have h3:(a ^^^ b)<4294967296:=Nat.xor_lt_two_pow (n:=32) ha hb
 refine ⟨?_,?_,?_⟩
 ·simp only [bits,BitVec.ofInt_natCast,BitVec.toNat_and,BitVec.toNat_ofNat,ha',hb',IntKind.wrap_u32];omega
 ·simp only [bits,BitVec.ofInt_natCast,BitVec.toNat_or,BitVec.toNat_ofNat,ha',hb',IntKind.wrap_u32];omega
 ·simp only [bits,BitVec.ofInt_natCast,BitVec.toNat_xor,BitVec.toNat_ofNat,ha',hb',IntKind.wrap_u32];omega
def rr (x n:Nat):Nat:=x / 2^n ||| x*2^(32-n) % 4294967296
theorem JB {x:Nat} (h:x<4294967296) (n:Nat):rr x n<4294967296:=Nat.or_lt_two_pow (n:=32) (Nat.lt_of_le_of_lt (Nat.div_le_self _ _) h) (Nat.mod_lt _ (by decide))
def K4 (x j:Int):Int:=AO false .u32 (x*2^min j.toNat IntKind.u32.bits)
def JC (x j:Int):Int:=Int.fdiv x (2^min j.toNat IntKind.u32.bits)
theorem QU (x j:Nat) (hj:j≤32):K4 (x:Int) (j:Int)=((x*2^j % 4294967296:Nat):Int):=by
 unfold K4
 rw [CO,IntKind.wrap_u32,Int.toNat_natCast,Nat.min_eq_left (show j≤IntKind.u32.bits from hj)]
 have:(x:Int)*2^j=((x*2^j:Nat):Int):=by rw [Int.natCast_mul,Int.natCast_pow];rfl
 rw [this];omega
theorem UO (x j:Nat) (hj:j≤32):JC (x:Int) (j:Int)=((x / 2^j:Nat):Int):=by
 unfold JC
 rw [Int.toNat_natCast,Nat.min_eq_left (show j≤IntKind.u32.bits from hj),Int.fdiv_eq_ediv_of_nonneg _ (by exact_mod_cast Nat.zero_le (2^j)),Int.natCast_ediv,Int.natCast_pow]
 rfl
def QV (k:Int):Int:=bits .and .u64 (AO false .u64 k) 31
def UP (k:Int):Int:=AO false .u64 (32-QV k)
def GG (x k:Int):Int:=((rr x.toNat (-k).toNat:Nat):Int)
theorem ACj {n:Nat} (h0:0<n) (h:n<32):QV (-(n:Int))=((32-n:Nat):Int)∧UP (-(n:Int))=(n:Int):=by
 have h1:QV (-(n:Int))=((32-n:Nat):Int):=by
  unfold QV
  have e:AO false .u64 (-(n:Int))=((18446744073709551616-n:Nat):Int):=by rw [CO,IntKind.wrap_u64];omega
  rw [e,show (31:Int)=((31:Nat):Int) from rfl,(bits_nat .u64 64 (Nat.le_refl _) (fun z a b=>by rw [IntKind.wrap_u64];omega) _ 31 (by omega) (by decide)).1]
  rw [show (31:Nat)=2^5-1 from rfl,Nat.and_two_pow_sub_one_eq_mod]
  omega
 refine ⟨h1,?_⟩
 unfold UP
 rw [h1,CO,IntKind.wrap_u64];omega
theorem AVH (x k:Int):AR Tryz.prog (AH [] KV) Tryz.f228 [.val false [.v (.int .u32 x)],.val false [.v (.int .i64 k)]] [] 300=some ((true,true)::(decide (0≤AO (true&&false) IntKind.u64 (32-bits BinOp.and IntKind.u64 (AO false IntKind.u64 k) (31))∧0≤x),true)::[],.val false [.v (.int .u32 (bits .or .u32 (K4 x (QV k)) (JC x (UP k))))]):=by kernel_rfl
theorem IP {A:AV} {c:Bool} {k:IntKind} {x:Int} {β:Env} {u:Value} (h:BJ (some A)=some (c,k,x)) (hr:AP β A u):has k x∧∀ β':Env,AP β' (.val false [.v (.int k x)]) u:=by
 obtain ⟨rfl,p⟩:=CH (β:=β) (u:=u) (fun B hB=>by injection hB with hB;subst hB;exact hr) h
 exact ⟨p,fun β'=>Aw ⟨rfl,rfl,p⟩⟩
theorem YA {x:Int} (h:has .u32 x):0≤x∧x<4294967296:=by
 rw [EJ] at h;simp only [AJ,Bool.and_eq_true,decide_eq_true_eq] at h;omega
theorem AVI {x:Int} (h0:0≤x) (h1:x<4294967296) {k:Int} (h2:-32<k) (h3:k<0):bits .or .u32 (K4 x (QV k)) (JC x (UP k))=GG x k:=by
 obtain ⟨a,rfl⟩:=Int.eq_ofNat_of_zero_le h0
 obtain ⟨n,rfl⟩:∃ n:Nat,k=-(n:Int):=⟨(-k).toNat,by omega⟩
 obtain ⟨e1,e2⟩:=ACj (n:=n) (by omega) (by omega)
 rw [e1,e2,QU _ _ (by omega),UO _ _ (by omega),(D6 _ _ (Nat.mod_lt _ (by decide)) (Nat.lt_of_le_of_lt (Nat.div_le_self _ _) (by omega))).2.1,Nat.or_comm]
 unfold GG rr
 rw [Int.neg_neg,Int.toNat_natCast,Int.toNat_natCast]
def kI:List AV→Option (List (Bool×Bool)×AV)
 | [X,K]=>match BJ (some X),BJ (some K) with
  | some (_,.u32,x),some (_,.i64,k)=>some ([(decide (-32<k∧k<0),true)],.val false [.v (.int .u32 (GG x k))])
  | _,_=>none
 | _=>none
theorem AVJ:∀ args c v,kI args=some (c,v)→AQ c→AU Tryz.prog 228 args v:=by
 intro args c v hs hc us w ha
 unfold kI at hs
 split at hs
 case h_2=>cases hs
 rename_i X K
 split at hs
 case h_2=>cases hs
 rename_i c1 x c2 k hX hK
 injection hs with hs;injection hs with hs1 hs2;subst hs1;subst hs2
 have hk:-32<k∧k<0:=of_decide_eq_true hc.1
 obtain ⟨u1,us1,r1,⟨u2,us2,r2,ha,rfl⟩,rfl⟩:=ha
 obtain ⟨p1,q1⟩:=IP hX r1
 obtain ⟨p2,q2⟩:=IP hK r2
 obtain ⟨b1,b2⟩:=YA p1
 have h:=AVH x k
 rw [AVI b1 b2 hk.1 hk.2] at h
 obtain ⟨n,hn⟩:∃ n:Nat,k=-(n:Int):=⟨(-k).toNat,by omega⟩
 have hm:(0:Int)≤UP k:=by rw [hn,(ACj (n:=n) (by omega) (by omega)).2];omega
 exact AW (AK (L:=[]) trivial A9) AB Tryz.func228 h ⟨rfl,decide_eq_true ⟨hm,b1⟩,trivial⟩ rfl _ w ⟨u1,_,q1 _,⟨u2,_,q2 _,ha,rfl⟩,rfl⟩
noncomputable def SSa0:List (FuncId×ASpec):=(228,EE kI)::[]
theorem ACk:AX Tryz.prog SSa0:=⟨El Tryz.func228 (by kernel_rfl) (by kernel_rfl) AVJ,trivial⟩
noncomputable abbrev oS0:Orc:=AH SSa0 KV
theorem kJ:OrcOk Tryz.prog oS0:=AK ACk A9
def K5 (a b c x:Nat):Nat:=rr x a ^^^ rr x b ^^^ rr x c
def K6 (a b c x:Nat):Nat:=rr x a ^^^ rr x b ^^^ x / 2^c
theorem AVK (x a b c:Int):AR Tryz.prog oS0 Tryz.f227 [.val false [.v (.int .u32 x)],.val false [.v (.int .i64 a)],.val false [.v (.int .i64 b)],.val false [.v (.int .i64 c)]] [] 300=some ((decide (-32<AO false IntKind.i64 (0-a)∧AO false IntKind.i64 (0-a)<0),true)::(decide (-32<AO false IntKind.i64 (0-b)∧AO false IntKind.i64 (0-b)<0),true)::(decide (-32<AO false IntKind.i64 (0-c)∧AO false IntKind.i64 (0-c)<0),true)::[],.val false [.v (.int .u32 (bits .xor .u32 (bits .xor .u32 (GG x (AO false .i64 (0-a))) (GG x (AO false .i64 (0-b)))) (GG x (AO false .i64 (0-c)))))]):=by kernel_rfl
theorem AVL (x a b c:Int):AR Tryz.prog oS0 Tryz.f286 [.val false [.v (.int .u32 x)],.val false [.v (.int .i64 a)],.val false [.v (.int .i64 b)],.val false [.v (.int .i64 c)]] [] 300=some ((decide (-32<AO false IntKind.i64 (0-a)∧AO false IntKind.i64 (0-a)<0),true)::(decide (-32<AO false IntKind.i64 (0-b)∧AO false IntKind.i64 (0-b)<0),true)::(decide (0≤c∧0≤x),true)::[],.val false [.v (.int .u32 (bits .xor .u32 (bits .xor .u32 (GG x (AO false .i64 (0-a))) (GG x (AO false .i64 (0-b)))) (JC x c)))]):=by kernel_rfl
theorem AVM (x n:Int):AR Tryz.prog oS0 Tryz.f234 [.val false [.v (.int .u32 x)],.val false [.v (.int .u64 n)]] [] 300=some ((decide (0≤n∧0≤x),true)::(decide (0≤AO (true&&false) IntKind.u64 (32-n)),true)::[],.val false [.v (.int .u32 (bits .or .u32 (JC x n) (K4 x (AO false .u64 (32-n)))))]):=by kernel_rfl
theorem ACl {a:Int} (h0:0<a) (h1:a<32):AO false .i64 (0-a)=-a:=by rw [CO,IntKind.wrap_i64];omega
theorem UQ {x a:Int} (h0:0<a) (h1:a<32):GG x (AO false .i64 (0-a))=((rr x.toNat a.toNat:Nat):Int):=by
 rw [ACl h0 h1];unfold GG;rw [Int.neg_neg]
def GZ (a:Int):Bool:=decide (0<a∧a<32)
theorem UR {a:Int} (h:GZ a=true):decide (-32<AO false .i64 (0-a)∧AO false .i64 (0-a)<0)=true:=by
 have h:=of_decide_eq_true h
 rw [ACl h.1 h.2]
 exact decide_eq_true ⟨by omega,by omega⟩
def YB (f:Nat→Nat→Nat→Nat→Nat):List AV→Option (List (Bool×Bool)×AV)
 | [X,A,B,C]=>match BJ (some X),BJ (some A),BJ (some B),BJ (some C) with
  | some (_,.u32,x),some (_,.i64,a),some (_,.i64,b),some (_,.i64,c)=>some ([(GZ a,true),(GZ b,true),(GZ c,true)],.val false [.v (.int .u32 (f a.toNat b.toNat c.toNat x.toNat:Nat))])
  | _,_,_,_=>none
 | _=>none
theorem ACm {F:FuncId} {f:Nat→Nat→Nat→Nat→Nat} (h:∀ x a b c:Int,0≤x→x<4294967296→GZ a=true→GZ b=true→GZ c=true→AU Tryz.prog F [.val false [.v (.int .u32 x)],.val false [.v (.int .i64 a)],.val false [.v (.int .i64 b)],.val false [.v (.int .i64 c)]] (.val false [.v (.int .u32 (f a.toNat b.toNat c.toNat x.toNat:Nat))])) :
  ∀ args c v,YB f args=some (c,v)→AQ c→AU Tryz.prog F args v:=by
 intro args c v hs hc us w ha
 unfold YB at hs
 split at hs
 case h_2=>cases hs
 rename_i X A B C
 split at hs
 case h_2=>cases hs
 rename_i c1 x c2 a c3 b c4 d hX hA hB hC
 injection hs with hs;injection hs with hs1 hs2;subst hs1;subst hs2
 obtain ⟨k1,k2,k3,_⟩:=hc
 obtain ⟨u1,us1,r1,⟨u2,us2,r2,⟨u3,us3,r3,⟨u4,us4,r4,ha,rfl⟩,rfl⟩,rfl⟩,rfl⟩:=ha
 obtain ⟨p1,q1⟩:=IP hX r1
 obtain ⟨_,q2⟩:=IP hA r2
 obtain ⟨_,q3⟩:=IP hB r3
 obtain ⟨_,q4⟩:=IP hC r4
 obtain ⟨b1,b2⟩:=YA p1
 exact h x a b d b1 b2 k1 k2 k3 _ w ⟨u1,_,q1 _,⟨u2,_,q2 _,⟨u3,_,q3 _,⟨u4,_,q4 _,ha,rfl⟩,rfl⟩,rfl⟩,rfl⟩
theorem YC {a b c:Nat} (h1:a<4294967296) (h2:b<4294967296) (h3:c<4294967296):bits .xor .u32 (bits .xor .u32 (a:Int) (b:Int)) (c:Int)=((a ^^^ b ^^^ c:Nat):Int):=by
 rw [(D6 _ _ h1 h2).2.2,(D6 _ _ (Nat.xor_lt_two_pow (n:=32) h1 h2) h3).2.2]
theorem AVN (x a b c:Int) (h0:0≤x) (h1:x<4294967296) (ha:GZ a=true) (hb:GZ b=true) (hc:GZ c=true):AU Tryz.prog 227 [.val false [.v (.int .u32 x)],.val false [.v (.int .i64 a)],.val false [.v (.int .i64 b)],.val false [.v (.int .i64 c)]] (.val false [.v (.int .u32 (K5 a.toNat b.toNat c.toNat x.toNat:Nat))]):=by
 have h:=AVK x a b c
 have la:=of_decide_eq_true ha
 have lb:=of_decide_eq_true hb
 have lc:=of_decide_eq_true hc
 have lx:x.toNat<4294967296:=by omega
 have e:bits .xor .u32 (bits .xor .u32 (GG x (AO false .i64 (0-a))) (GG x (AO false .i64 (0-b)))) (GG x (AO false .i64 (0-c)))=(K5 a.toNat b.toNat c.toNat x.toNat:Nat):=by
  rw [UQ la.1 la.2,UQ lb.1 lb.2,UQ lc.1 lc.2,YC (JB lx _) (JB lx _) (JB lx _)];rfl
 rw [e] at h
 exact AW kJ AB Tryz.func227 h ⟨UR ha,UR hb,UR hc,trivial⟩ rfl
theorem AVO (x a b c:Int) (h0:0≤x) (h1:x<4294967296) (ha:GZ a=true) (hb:GZ b=true) (hc:GZ c=true):AU Tryz.prog 286 [.val false [.v (.int .u32 x)],.val false [.v (.int .i64 a)],.val false [.v (.int .i64 b)],.val false [.v (.int .i64 c)]] (.val false [.v (.int .u32 (K6 a.toNat b.toNat c.toNat x.toNat:Nat))]):=by
 have h:=AVL x a b c
 have la:=of_decide_eq_true ha
 have lb:=of_decide_eq_true hb
 have lc:=of_decide_eq_true hc
 have lx:x.toNat<4294967296:=by omega
 have e:bits .xor .u32 (bits .xor .u32 (GG x (AO false .i64 (0-a))) (GG x (AO false .i64 (0-b)))) (JC x c)=(K6 a.toNat b.toNat c.toNat x.toNat:Nat):=by
  have es:JC x c=((x.toNat / 2^c.toNat:Nat):Int):=by
   have:=UO x.toNat c.toNat (by omega)
   rw [Int.toNat_of_nonneg h0,Int.toNat_of_nonneg (by omega)] at this
   exact this
  rw [UQ la.1 la.2,UQ lb.1 lb.2,es,YC (JB lx _) (JB lx _) (Nat.lt_of_le_of_lt (Nat.div_le_self _ _) lx)];rfl
 rw [e] at h
 exact AW kJ AB Tryz.func286 h ⟨UR ha,UR hb,decide_eq_true ⟨by omega,h0⟩,trivial⟩ rfl
def kK:List AV→Option (List (Bool×Bool)×AV)
 | [X,K]=>match BJ (some X),BJ (some K) with
  | some (_,.u32,x),some (_,.u64,k)=>some ([(GZ k,true)],.val false [.v (.int .u32 (rr x.toNat k.toNat:Nat))])
  | _,_=>none
 | _=>none
theorem AVP:∀ args c v,kK args=some (c,v)→AQ c→AU Tryz.prog 234 args v:=by
 intro args c v hs hc us w ha
 unfold kK at hs
 split at hs
 case h_2=>cases hs
 rename_i X K
 split at hs
 case h_2=>cases hs
 rename_i c1 x c2 k hX hK
 injection hs with hs;injection hs with hs1 hs2;subst hs1;subst hs2
 have hk:=of_decide_eq_true hc.1
 obtain ⟨u1,us1,r1,⟨u2,us2,r2,ha,rfl⟩,rfl⟩:=ha
 obtain ⟨p1,q1⟩:=IP hX r1
 obtain ⟨_,q2⟩:=IP hK r2
 obtain ⟨b1,b2⟩:=YA p1
 have h:=AVM x k
 obtain ⟨y,rfl⟩:=Int.eq_ofNat_of_zero_le b1
 obtain ⟨n,rfl⟩:=Int.eq_ofNat_of_zero_le (Int.le_of_lt hk.1)
 have e1:AO false .u64 (32-(n:Int))=((32-n:Nat):Int):=by rw [CO,IntKind.wrap_u64];omega
 rw [e1,QU _ _ (by omega),UO _ _ (by omega),(D6 _ _ (Nat.lt_of_le_of_lt (Nat.div_le_self _ _) (by omega)) (Nat.mod_lt _ (by decide))).2.1] at h
 exact AW kJ AB Tryz.func234 h ⟨decide_eq_true ⟨by omega,by omega⟩,decide_eq_true (by show (0:Int)≤AO false .u64 (32-(n:Int));rw [e1];omega),trivial⟩ rfl _ w ⟨u1,_,q1 _,⟨u2,_,q2 _,ha,rfl⟩,rfl⟩
noncomputable def SSa:List (FuncId×ASpec):=(227,EE (YB K5))::(286,EE (YB K6))::(234,EE kK)::SSa0
theorem ACn:AX Tryz.prog SSa:=⟨El Tryz.func227 (by kernel_rfl) (by kernel_rfl) (ACm AVN),El Tryz.func286 (by kernel_rfl) (by kernel_rfl) (ACm AVO),El Tryz.func234 (by kernel_rfl) (by kernel_rfl) AVP,ACk⟩
def YD (s:Nat→Int) (k w:Int):Int:=AO false .u32 (AO false .u32 (AO false .u32 (AO false .u32 (s 7+(K5 6 11 25 (s 4).toNat:Nat))+bits .xor .u32 (s 6) (bits .and .u32 (s 4) (bits .xor .u32 (s 5) (s 6))))+k)+w)
def kO (s:Nat→Int):Int:=AO false .u32 ((K5 2 13 22 (s 0).toNat:Nat)+bits .or .u32 (bits .and .u32 (s 0) (s 1)) (bits .and .u32 (s 2) (bits .or .u32 (s 0) (s 1))))
def kP (s:Nat→Int) (k w:Int):Nat→Int
 | 0=>AO false .u32 (YD s k w+kO s)
 | 1=>s 0
 | 2=>s 1
 | 3=>s 2
 | 4=>AO false .u32 (s 3+YD s k w)
 | 5=>s 4
 | 6=>s 5
 | _=>s 6
def w8 (s:Nat→Int):List Ch:=[.v (.int .u32 (s 0)),.v (.int .u32 (s 1)),.v (.int .u32 (s 2)),.v (.int .u32 (s 3)),.v (.int .u32 (s 4)),.v (.int .u32 (s 5)),.v (.int .u32 (s 6)),.v (.int .u32 (s 7))]
noncomputable def AVQ:ASpec:=fun _ _ fr path=>some (A5 [] 0 fr 0 [] (.val true [.seq .u32 (List.replicate 64 0)]) [] [] path)
noncomputable def AVR:Option (List (Bool×Bool)×List Nat×ASt):=AS Tryz.prog (AH ((226,AVQ)::SSa) KV) (some 0) 100 1 none (Af Tryz.f163 [.val true [.seq .u32 (List.replicate 8 0)],.val true [.seq .u8 (List.replicate 64 0)]] [] 0 [])
noncomputable def AVS:List Item:=Be AVR
noncomputable def QW (hs ks ws:List Int) (s:Nat→Int) (t:AV) (p:List Bool):ASt:=⟨AVS,⟨C8 Tryz.f163.ntmps [(2,.val false [.p 0 0]),(4,.val false [.p 2 0]),(5,.val false [.p 3 0]),(6,.val false [.p 4 0]),(7,.val false [.v (.func (.func 227) #[] #[])]),(8,.val false [.p 5 0]),(20,t)],
 [(0,some ⟨173,[.seq .u32 hs],false⟩),(2,some ⟨173,List.replicate 8 (.n .u32 0),false⟩),(3,some ⟨213,[.seq .u32 ks],false⟩),(4,some ⟨213,[.seq .u32 ws],false⟩),(5,some ⟨173,w8 s,false⟩)],6,p⟩⟩
abbrev kQ:Option (List Nat×List Nat×Nat):=some ([2,4,5,6,7,8,20],[0,2,3,4,5],6)
def shC (ks ws:List Int) (t:Int):List (Bool×Bool):=(decide (t<64),true)::tt 3 ((decide (0≤t∧t<64),true)::(decide (0+t.toNat*1<ks.length),true)::(decide (0≤t∧t<64),true)::(decide (0+t.toNat*1<ws.length),true)::tt 5 [])
theorem AVT (hs ks ws:List Int) (s:Nat→Int) (t:Int):AS Tryz.prog (AH SSa KV) (some 0) 100 1 kQ (QW hs ks ws s (iA t) [true]) =
 some (shC ks ws t,[],QW hs ks ws (kP s (ks.getD (0+t.toNat*1) 0) (ws.getD (0+t.toNat*1) 0)) (iA (wI (t+1))) []):=by kernel_rfl
def YE (x y z:Nat):Nat:=z ^^^ (x &&& (y ^^^ z))
def YF (x y z:Nat):Nat:=(x &&& y) ||| (z &&& (x ||| y))
def QX (s:Nat→Nat) (k w:Nat):Nat:=(s 7+K5 6 11 25 (s 4)+YE (s 4) (s 5) (s 6)+k+w) % 4294967296
def US (s:Nat→Nat):Nat:=(K5 2 13 22 (s 0)+YF (s 0) (s 1) (s 2)) % 4294967296
def OR (s:Nat→Nat) (k w:Nat):Nat→Nat
 | 0=>(QX s k w+US s) % 4294967296
 | 1=>s 0
 | 2=>s 1
 | 3=>s 2
 | 4=>(s 3+QX s k w) % 4294967296
 | 5=>s 4
 | 6=>s 5
 | _=>s 6
theorem UT (x:Nat):AO false .u32 (x:Int)=((x % 4294967296:Nat):Int):=by rw [CO,IntKind.wrap_u32];omega
theorem Dc (x y:Nat):AO false .u32 ((x:Int)+(y:Int))=(((x+y) % 4294967296:Nat):Int):=by rw [CO,IntKind.wrap_u32];omega
theorem ACp {s:Nat→Nat} (hs:∀ i,s i<4294967296) (k w:Nat):YD (fun i=>(s i:Int)) k w=(QX s k w:Nat):=by
 unfold YD QX YE
 have h:=fun i=>hs i
 rw [(D6 _ _ (hs 5) (hs 6)).2.2,(D6 _ _ (hs 4) (Nat.xor_lt_two_pow (n:=32) (hs 5) (hs 6))).1,(D6 _ _ (hs 6) (Nat.and_lt_two_pow (n:=32) _ (Nat.xor_lt_two_pow (n:=32) (hs 5) (hs 6)))).2.2,Int.toNat_natCast,Dc,Dc,Dc,Dc]
 congr 1
 omega
theorem AVU {s:Nat→Nat} (hs:∀ i,s i<4294967296):kO (fun i=>(s i:Int))=(US s:Nat):=by
 unfold kO US YF
 rw [(D6 _ _ (hs 0) (hs 1)).1,(D6 _ _ (hs 0) (hs 1)).2.1,(D6 _ _ (hs 2) (Nat.or_lt_two_pow (n:=32) (hs 0) (hs 1))).1,(D6 _ _ (Nat.and_lt_two_pow (n:=32) _ (hs 1)) (Nat.and_lt_two_pow (n:=32) _ (Nat.or_lt_two_pow (n:=32) (hs 0) (hs 1)))).2.1,Int.toNat_natCast,Dc]
theorem AVV {s:Nat→Nat} (hs:∀ i,s i<4294967296) (k w:Nat):kP (fun i=>(s i:Int)) k w=fun i=>(OR s k w i:Int):=by
 funext i
 unfold kP OR
 split
 ·rw [ACp hs,AVU hs,Dc]
 ·rfl
 ·rfl
 ·rfl
 ·rw [ACp hs,Dc]
 ·rfl
 ·rfl
 ·rfl
theorem AVW {s:Nat→Nat} (hs:∀ i,s i<4294967296) (k w:Nat) (i:Nat):OR s k w i<4294967296:=by
 unfold OR
 split
 all_goals first | exact Nat.mod_lt _ (by decide) | exact hs _
def Ht (s:Nat→Nat) (K W:Nat→Nat):Nat→Nat→Nat
 | 0=>s
 | t+1=>OR (Ht s K W t) (K t) (W t)
theorem kR {s:Nat→Nat} (hs:∀ i,s i<4294967296) (K W:Nat→Nat):∀ t i,Ht s K W t i<4294967296
 | 0,i=>hs i
 | t+1,i=>AVW (kR hs K W t) _ _ i
theorem AVX {x y z:Nat} (hz:z<4294967296):(x &&& y) ^^^ ((4294967295 ^^^ x) &&& z)=YE x y z:=by
 unfold YE
 refine Nat.eq_of_testBit_eq fun i=>?_
 have e:(4294967295:Nat).testBit i=decide (i<32):=Nat.testBit_two_pow_sub_one 32 i
 simp only [Nat.testBit_xor,Nat.testBit_and,e]
 by_cases h:i<32
 ·rw [decide_eq_true h]
  cases x.testBit i<;>cases y.testBit i<;>cases z.testBit i<;>rfl
 ·rw [Nat.testBit_lt_two_pow (Nat.lt_of_lt_of_le hz (Nat.pow_le_pow_right (n:=2) (by decide) (by omega:32≤i)))]
  cases x.testBit i<;>cases y.testBit i<;>simp
theorem AVY (x y z:Nat):(x &&& y) ^^^ (x &&& z) ^^^ (y &&& z)=YF x y z:=by
 unfold YF
 refine Nat.eq_of_testBit_eq fun i=>?_
 simp only [Nat.testBit_xor,Nat.testBit_and,Nat.testBit_or]
 cases x.testBit i<;>cases y.testBit i<;>cases z.testBit i<;>rfl
def Ea (k:Nat) (cs:List Ch):Heap→Heap
 | []=>[]
 | (j,b)::r=>match Nat.beq j k with
  | true=>(j,match b with | some ⟨ty,_,o⟩=>some ⟨ty,cs,o⟩ | none=>none)::r
  | false=>(j,b)::Ea k cs r
theorem kU {k:Nat} {cs cs':List Ch} {ty:TypeId} {o:Bool}:∀ {H:Heap},AG H k=some ⟨ty,cs,o⟩→∀ b x,AG (Ea k cs' H) b=some x→AG H b=some x∨(b=k∧x=⟨ty,cs',o⟩)
 | [],h,_,_,_=>by cases h
 | (j,z)::r,h,b,x,hx=>by
  simp only [AG] at h ⊢
  unfold Ea at hx
  cases e:Nat.beq j k with
  | true =>
   rw [e] at h hx
   have hz:z=some ⟨ty,cs,o⟩:=h
   subst hz
   simp only [AG] at hx
   cases e':Nat.beq j b with
   | true =>
    rw [e'] at hx
    injection hx with hx
    exact .inr ⟨(An.1 e').symm.trans (An.1 e),hx.symm⟩
   | false=>rw [e'] at hx;exact .inl hx
  | false =>
   rw [e] at h hx
   simp only [AG] at hx
   cases e':Nat.beq j b with
   | true=>rw [e'] at hx;exact .inl hx
   | false=>rw [e'] at hx;exact kU (H:=r) h b x hx
theorem AVZ {β:Env} {H:Heap} {k:Nat} {ty:TypeId} {cs cs':List Ch} {o:Bool} {w:World} (hk:AG H k=some ⟨ty,cs,o⟩) (h:∀ β l,AN β cs l→AN β cs' l) (g:Ex.Good β H w):Ex.Good β (Ea k cs' H) w:=by
 have hs:∀ b x,AG (Ea k cs' H) b=some x→∃ y,AG H b=some y∧y.ty=x.ty:=fun b x hb=>by
  rcases kU hk b x hb with e | ⟨rfl,rfl⟩
  ·exact ⟨x,e,rfl⟩
  ·exact ⟨_,hk,rfl⟩
 refine ⟨fun b blk hb=>?_,fun b b' B n n' h1 h2 h3 h4=>?_,g.lt⟩
 ·rcases kU hk b blk hb with e | ⟨rfl,rfl⟩
  ·exact g.heap b blk e
  ·exact zW h (g.heap b _ hk)
 ·obtain ⟨x,hx,hr⟩:=F0 h1
  obtain ⟨y,hy,e⟩:=hs b x hx
  obtain ⟨x',hx'⟩:=Option.isSome_iff_exists.1 h2
  obtain ⟨y',hy',_⟩:=hs b' x' hx'
  exact g.inj b b' B n n' (Ef hy (by rw [e];exact hr)) (by rw [hy'];rfl) h3 h4
theorem ACq {P:Program} {f:FuncId} {β0:Env} {w0:World} {R:Ending→World→Prop} {n:Fz} {W:List Nat} {todo:List Item} {T:List AV} {H H':Heap} {k:Nat} {ty:TypeId} {cs cs':List Ch} {o:Bool} {fr:Nat} {p:List Bool} (hk:AG H k=some ⟨ty,cs,o⟩) (h:∀ β l,AN β cs l→AN β cs' l) (e:Ea k cs' H=H')
  (hs:ASafe P f β0 w0 R n W ⟨todo,⟨T,H',fr,p⟩⟩):ASafe P f β0 w0 R n W ⟨todo,⟨T,H,fr,p⟩⟩ :=
 fun β a w hi hf=>hs β a w { hi with good:=e▸AVZ hk h hi.good } hf
theorem QY {k:IntKind} {cs:List Ch} {xs:List Int} (h:Ao k cs=some xs) (β:Env) (l:List Value) (hr:AN β cs l):AN β [.seq k xs] l:=by
 obtain ⟨q1,q2⟩:=CY h hr
 exact ⟨_,[],⟨q1,q2⟩,rfl,by simp⟩
def kL:List Int:=[1116352408,1899447441,3049323471,3921009573,961987163,1508970993,2453635748,2870763221,3624381080,310598401,607225278,1426881987,1925078388,2162078206,2614888103,3248222580,3835390401,4022224774,264347078,604807628,770255983,1249150122,1555081692,1996064986,2554220882,2821834349,2952996808,3210313671,3336571891,3584528711,113926993,338241895,666307205,773529912,1294757372,1396182291,1695183700,1986661051,2177026350,2456956037,2730485921,2820302411,3259730800,3345764771,3516065817,3600352804,4094571909,275423344,430227734,506948616,659060556,883997877,958139571,1322822218,1537002063,1747873779,1955562222,2024104815,2227730452,2361852424,2428436474,2756734187,3204031479,3329325298]
noncomputable abbrev oSa:Orc:=AH SSa KV
theorem IQ:OrcOk Tryz.prog oSa:=AK ACn A9
noncomputable def kX (t:Int):ASt:=EZ (C5 Tryz.prog oSa 5 0 (Af Tryz.f235 [iA t] [] 0 []))
noncomputable def kCs:List Ch:=match AG (kX 0).s.H 0 with | some b=>b.cs | none=>[]
noncomputable def kH:Heap:=[(0,some ⟨213,[.seq .u32 kL],false⟩)]
theorem AVa (t:Int):C5 Tryz.prog oSa 5 0 (Af Tryz.f235 [iA t] [] 0 [])=some ([],[],kX t):=by kernel_rfl
theorem AVb (t:Int):AG (kX t).s.H 0=some ⟨213,kCs,false⟩:=by kernel_rfl
theorem AVc (t:Int):Ea 0 [.seq .u32 kL] (kX t).s.H=kH:=by kernel_rfl
theorem AVd:Ao .u32 kCs=some kL:=by kernel_rfl
def kW (t:Int):AV:=.val false [.v (.int .u32 (kL.getD (0+t.toNat*1) 0))]
theorem AVe (t:Int):AM Tryz.prog oSa Tryz.f235 100 0 [] ⟨(kX t).todo,⟨(kX t).s.T,kH,(kX t).s.fr,(kX t).s.path⟩⟩=some ([(decide (0≤t∧t<64),true),(decide (0+t.toNat*1<kL.length),true)],[],kW t,[]):=by kernel_rfl
theorem AVf {t:Int} (h:0≤t∧t<64):Ad Tryz.prog 235 [iA t] [] 0 [] (kW t) []:=by
 refine Av (path:=[]) Tryz.func235 (by kernel_rfl) (by kernel_rfl) fun β0 w0 hb=>?_
 refine HP IQ AB (AVa t) trivial (AL (by kernel_rfl)) hb (fun _ h=>by cases h) fun hw=>?_
 refine ACq (AVb t) (QY AVd) (AVc t) ?_
 exact As IQ AB Tryz.func235 (AVe t) ⟨decide_eq_true h,decide_eq_true (by show 0+t.toNat*1<64;omega),trivial⟩ (AL (by kernel_rfl)) hb (fun _ h=>by cases h)
def kSp:ASpec:=fun args _ fr path=>match args with
 | [X]=>match BJ (some X) with
  | some (_,.i64,t)=>some (A5 [] 0 fr 0 [] (kW t) [] [(decide (0≤t∧t<64),true)] path)
  | _=>none
 | _=>none
theorem AVg:A6 Tryz.prog 235 kSp:=by
 refine CS Tryz.func235 (by kernel_rfl) (by kernel_rfl) fun args H fr path r hs=>?_
 unfold kSp at hs
 split at hs
 case h_2=>cases hs
 rename_i X
 split at hs
 case h_2=>cases hs
 rename_i c t hX
 injection hs with hs
 refine ⟨[],0,0,[],_,_,_,path,hs.symm,fun β us w ha hg hc=>?_⟩
 obtain ⟨u1,us1,r1,ha,rfl⟩:=ha
 exact ⟨[iA t],[],AVf (of_decide_eq_true hc.1),by kernel_rfl,⟨u1,_,(IP hX r1).2 _,ha,rfl⟩,⟨(fun _ _ h=>by cases h),(fun _ _ _ _ _ h=>by cases h),(fun b B n h=>by
  have e:Nat.blt b 0=false:=by cases q:Nat.blt b 0 with | false=>rfl | true=>exact absurd (A8.1 q) (Nat.not_lt_zero b)
  simp [A4,e] at h)⟩,fun k h=>by cases h⟩
def JD (b:Nat→Nat) (t:Nat):Nat:=((b (4*t)*256+b (4*t+1))*256+b (4*t+2))*256+b (4*t+3)
def QZ (l:List Nat) (n:Nat):Nat:=(K6 17 19 10 (l.getD (n+14) 0)+l.getD (n+9) 0+K6 7 18 3 (l.getD (n+1) 0)+l.getD n 0) % 4294967296
def E0 (b:Nat→Nat):Nat→List Nat
 | 0=>(List.range 16).map (JD b)
 | n+1=>E0 b n++[QZ (E0 b n) n]
theorem UU (b:Nat→Nat):∀ n,(E0 b n).length=n+16
 | 0=>rfl
 | n+1=>by rw [E0,List.length_append,UU b n];rfl
theorem AVh {b:Nat→Nat} (hb:∀ i,b i<256) (t:Nat):JD b t<4294967296:=by
 unfold JD
 have h0:=hb (4*t)
 have h1:=hb (4*t+1)
 have h2:=hb (4*t+2)
 have h3:=hb (4*t+3)
 omega
theorem ACs {b:Nat→Nat} (hb:∀ i,b i<256):∀ n,∀ x∈E0 b n,x<4294967296
 | 0,x,h=>by
  obtain ⟨t,_,rfl⟩:=List.mem_map.1 h
  exact AVh hb t
 | n+1,x,h=>by
  rcases List.mem_append.1 h with h | h
  ·exact ACs hb n x h
  ·rw [List.mem_singleton] at h;subst h;exact Nat.mod_lt _ (by decide)
def Fv (b:Nat→Nat) (t:Nat):Nat:=(E0 b 48).getD t 0
def kN (t:Nat):Nat:=(kL.getD t 0).toNat
def OS (h b:Nat→Nat) (i:Nat):Nat:=(Ht h kN (Fv b) 64 i+h i) % 4294967296
def UV:Nat→Nat
 | 0=>0x6a09e667
 | 1=>0xbb67ae85
 | 2=>0x3c6ef372
 | 3=>0xa54ff53a
 | 4=>0x510e527f
 | 5=>0x9b05688c
 | 6=>0x1f83d9ab
 | _=>0x5be0cd19
def Ap (n:Nat):Nat:=(n+72) / 64*64
def CW (xs:List Int):List Int:=xs++128::(List.replicate (Ap xs.length-xs.length-9) 0++BK (8*xs.length) 8)
theorem K7 (n:Nat):n+9≤Ap n:=by unfold Ap;omega
theorem ACt (xs:List Int):(CW xs).length=Ap xs.length:=by
 unfold CW
 have:=K7 xs.length
 simp only [List.length_append,List.length_cons,List.length_replicate,BK,List.length_map,List.length_range]
 omega
def OT:List (Bool×Bool)→Bool
 | []=>true
 | (a,b)::r=>match a,b with
  | true,true=>OT r
  | false,false=>OT r
  | _,_=>false
theorem Qi:∀ {c:List (Bool×Bool)},OT c=true→AQ c
 | [],_=>trivial
 | (true,true)::_,h=>⟨rfl,Qi h⟩
 | (false,false)::_,h=>⟨rfl,Qi h⟩
 | (true,false)::_,h=>by cases h
 | (false,true)::_,h=>by cases h
def cdO (x:Option (List (Bool×Bool)×List Nat×ASt)):List (Bool×Bool):=match x with | some (c,_,_)=>c | none=>[]
def kyO (x:Option (List (Bool×Bool)×List Nat×ASt)):List Nat:=match x with | some (_,k,_)=>k | none=>[]
def isO (x:Option (List (Bool×Bool)×List Nat×ASt)):Bool:=match x with | some _=>true | none=>false
theorem AVi {x:Option (List (Bool×Bool)×List Nat×ASt)} (h:isO x=true):x=some (cdO x,kyO x,EZ x):=by
 cases x with
 | none=>cases h
 | some v=>rfl
theorem K8 {P:Program} {f:FuncId} {β0:Env} {w0:World} {R:Ending→World→Prop} {n:Fz} {W:List Nat} {x:ASt} {k:Nat} {ty:TypeId} {cs cs':List Ch} {o:Bool} (hk:AG x.s.H k=some ⟨ty,cs,o⟩) (h:∀ β l,AN β cs l→AN β cs' l)
  (hs:ASafe P f β0 w0 R n W ⟨x.todo,⟨x.s.T,Ea k cs' x.s.H,x.s.fr,x.s.path⟩⟩):ASafe P f β0 w0 R n W x:=ACq (H':=Ea k cs' x.s.H) hk h rfl hs
structure Runs (x:Option (List (Bool×Bool)×List Nat×ASt)):Prop where
 isO:isO x=true
 ky:kyO x=[]
 cd:OT (cdO x)=true
theorem AVj {P:Program} {O:Orc} {f:FuncId} {β0:Env} {w0:World} {R:Ending→World→Prop} {n:Fz} {W:List Nat} (hO:OrcOk P O) (hm:P.follows .mixedOrders=true) {m k0:Nat} {x:ASt}
  (h:Runs (C5 P O m k0 x)) (hwf:B4 n x.s) (h0:∀ b,k0≤b→β0 b=none) (hs:B4 n (EZ (C5 P O m k0 x)).s→ASafe P f β0 w0 R n W (EZ (C5 P O m k0 x))):ASafe P f β0 w0 R n W x:=by
 obtain ⟨h1,h2,h3⟩:=h
 generalize e:C5 P O m k0 x=y at *
 refine HP hO hm (e.trans (AVi h1)) (Qi h3) hwf h0 (fun k hk=>?_) hs
 rw [h2] at hk;cases hk
def Ax (f:Nat→Int):List Int:=(List.range 64).map f
def l8 (f:Nat→Int):List Int:=(List.range 8).map f
theorem Qj {xs:List Int} {n:Nat} (h:xs.length=n):xs=(List.range n).map fun i=>xs.getD i 0:=by
 subst h
 refine List.ext_getElem (by simp) fun i h1 h2=>?_
 simp [List.getD_eq_getElem?_getD,h1]
def ws5:List Bool:=[true,true,true,true,false]
def kY:Nat→List Bool
 | 0=>[]
 | n+1=>ws5++kY n
noncomputable def wsA (f:Nat→Int):ASt:=Af Tryz.f226 [.val false [.p 0 0]] [(0,some (Ai [.seq .u8 (Ax f)]))] 1 (kY 16)
noncomputable def wsO (f:Nat→Int):=C5 Tryz.prog oSa 1186 1 (wsA f)
noncomputable def K9 (f:Nat→Int):ASt:=EZ (wsO f)
noncomputable def AVl:List Item:=Be (AS Tryz.prog oSa (some 0) 100 1 none (K9 fun _=>0))
noncomputable def wsH (ws:List Int):Heap:=[(1,some ⟨213,[.seq .u32 ws],false⟩)]
noncomputable def JE (ws:List Int) (t:AV) (p:List Bool):ASt:=⟨AVl,⟨C8 Tryz.f226.ntmps [(2,.val false [.p 1 0]),(6,.val false [.v (.func (.func 286) #[] #[])]),(7,t)],wsH ws,2,p⟩⟩
noncomputable def ACy (f:Nat→Int):List Ch:=match AG (K9 f).s.H 1 with | some b=>b.cs | none=>[]
def sB (s b:Int):Int:=bits .or .u32 (K4 s 8) (AO false .u32 b)
def wE (f:Nat→Int) (t:Nat):Int:=sB (sB (sB (sB 0 (f (4*t))) (f (4*t+1))) (f (4*t+2))) (f (4*t+3))
theorem AVn (f:Nat→Int):Runs (wsO f):=⟨by kernel_rfl,by kernel_rfl,by kernel_rfl⟩
theorem AVo (f:Nat→Int):AG (K9 f).s.H 1=some ⟨213,ACy f,false⟩:=by kernel_rfl
theorem AVp (f:Nat→Int):Ao .u32 (ACy f)=some ((List.range 16).map (wE f)++List.replicate 48 0):=by kernel_rfl
theorem AVq (f:Nat→Int) (L:List Int):AS Tryz.prog oSa (some 0) 100 1 (some ([2,6,7],[1],2)) ⟨(K9 f).todo,⟨(K9 f).s.T,Ea 1 [.seq .u32 L] (K9 f).s.H,(K9 f).s.fr,(K9 f).s.path⟩⟩=some ([],[],JE L (.val false [.n .i64 16]) []):=by kernel_rfl
def gI (ws:List Int) (d:Int):Int:=ws.getD (0+d.toNat*1) 0
def kZ (ws:List Int) (t:Int):Int:=AO false .u32 (AO false .u32 (AO false .u32 ((K6 17 19 10 (gI ws (wI (t-2))).toNat:Nat)+gI ws (wI (t-7)))+(K6 7 18 3 (gI ws (wI (t-15))).toNat:Nat))+gI ws (wI (t-16)))
def FE (d:Int) (n:Nat) (r:List (Bool×Bool)):List (Bool×Bool):=(decide (0≤d∧d<64),true)::(decide (0+d.toNat*1<n),true)::r
def wsC (ws:List Int) (t:Int):List (Bool×Bool):=(decide (t<64),true)::FE (wI (t-2)) ws.length (tt 3 (FE (wI (t-7)) ws.length (FE (wI (t-15)) ws.length (tt 3 (FE (wI (t-16)) ws.length (FE t ws.length []))))))
theorem AVr (ws:List Int) (t:Int):AS Tryz.prog oSa (some 0) 200 1 (some ([2,6,7],[1],2)) (JE ws (iA t) [true])=some (wsC ws t,[],JE (ws.set (0+t.toNat*1) (kZ ws t)) (iA (wI (t+1))) []):=by kernel_rfl
theorem AVs (f:Nat→Int) (t:Int):AM Tryz.prog oSa Tryz.f226 100 1 [] (JE (Ax f) (iA t) [false])=some ([(decide (t<64),false)],[],.val true [.seq .u32 (Ax f)],[]):=by kernel_rfl
theorem YG {s b:Nat} (hs:s<16777216) (hb:b<256):sB (s:Int) (b:Int)=((s*256+b:Nat):Int):=by
 unfold sB
 rw [show (8:Int)=((8:Nat):Int) from rfl,QU s 8 (by decide),UT,Nat.mod_eq_of_lt (show s*2^8<4294967296 by omega),Nat.mod_eq_of_lt (show b<4294967296 by omega),(D6 _ _ (by omega) (by omega)).2.1]
 have:=Nat.shiftLeft_add_eq_or_of_lt (i:=8) hb s
 rw [Nat.shiftLeft_eq] at this
 rw [← this]
theorem AVt {b:Nat→Nat} (hb:∀ i,b i<256) (t:Nat):wE (fun i=>(b i:Int)) t=(JD b t:Nat):=by
 unfold wE JD
 have h0:=hb (4*t)
 have h1:=hb (4*t+1)
 have h2:=hb (4*t+2)
 have h3:=hb (4*t+3)
 rw [show (0:Int)=((0:Nat):Int) from rfl,YG (by decide) h0,YG (by omega) h1,YG (by omega) h2,YG (by omega) h3,Nat.zero_mul,Nat.zero_add]
def FF (b:Nat→Nat) (n:Nat):List Int:=(E0 b n).map (fun x:Nat=>(x:Int))++List.replicate (48-n) 0
theorem k6 (b:Nat→Nat) {n:Nat} (h:n≤48):(FF b n).length=64:=by
 unfold FF
 rw [List.length_append,List.length_map,UU,List.length_replicate];omega
theorem AC0 (b:Nat→Nat) {n i:Nat} (h:i<n+16):(FF b n).getD i 0=((E0 b n).getD i 0:Nat):=by
 unfold FF
 have hl:i<(E0 b n).length:=by rw [UU];exact h
 simp [List.getD_eq_getElem?_getD,List.getElem?_append_left,hl]
theorem AC1 (b:Nat→Nat) {n:Nat} (h:n<48):(FF b n).set (n+16) (QZ (E0 b n) n:Nat)=FF b (n+1):=by
 unfold FF
 rw [List.set_append_right _ _ (by rw [List.length_map,UU];exact Nat.le_refl _),List.length_map,UU,Nat.sub_self,show 48-n=(48-(n+1))+1 by omega,List.replicate_succ,List.set_cons_zero,E0,List.map_append,List.append_assoc]
 rfl
theorem AC2 (b:Nat→Nat):FF b 48=Ax fun t=>(Fv b t:Int):=by
 rw [Qj (k6 b (Nat.le_refl 48))]
 refine List.map_congr_left fun i hi=>?_
 rw [AC0 b (by rw [List.mem_range] at hi;omega)]
 rfl
theorem AVu {b:Nat→Nat} (hb:∀ i,b i<256):(List.range 16).map (wE fun i=>(b i:Int))++List.replicate 48 0=FF b 0:=by
 unfold FF
 rw [E0,List.map_map]
 congr 1
 exact List.map_congr_left fun t _=>AVt hb t
theorem Fw {n k:Nat} (h:n<64) (hk:k≤16):wI (((n+16:Nat):Int)-(k:Int))=((n+16-k:Nat):Int):=by rw [Am (by omega)];omega
theorem JF (b:Nat→Nat) {n i:Nat} (h:i<n+16):gI (FF b n) (i:Int)=((E0 b n).getD i 0:Nat):=by
 unfold gI
 rw [Int.toNat_natCast,Nat.zero_add,Nat.mul_one,AC0 b h]
theorem AVv (b:Nat→Nat) {n:Nat} (h:n<48):kZ (FF b n) ((n+16:Nat):Int)=(QZ (E0 b n) n:Nat):=by
 unfold kZ QZ
 rw [show (2:Int)=((2:Nat):Int) from rfl,show (7:Int)=((7:Nat):Int) from rfl,show (15:Int)=((15:Nat):Int) from rfl,show (16:Int)=((16:Nat):Int) from rfl,Fw (by omega) (by decide),Fw (by omega) (by decide),Fw (by omega) (by decide),Fw (by omega) (by decide),JF b (by omega),JF b (by omega),JF b (by omega),JF b (by omega)]
 rw [Int.toNat_natCast,Int.toNat_natCast,Dc,Dc,Dc,show n+16-2=n+14 by omega,show n+16-7=n+9 by omega,show n+16-15=n+1 by omega,show n+16-16=n by omega]
 congr 1
 omega
theorem Fx {d n:Nat} {r:List (Bool×Bool)} (hd:d<64) (hn:d<n) (h:AQ r):AQ (FE (d:Int) n r) :=
 ⟨decide_eq_true ⟨by omega,by omega⟩,decide_eq_true (by omega),h⟩
theorem AVw (L:List Int):(JE L (.val false [.n .i64 16]) []).s.T.map EF=(JE L (iA 16) []).s.T:=by kernel_rfl
theorem AVx {β0:Env} {w0:World} {R:Ending→World→Prop} {n:Nat} {W:List Nat} {L:List Int} (h:ASafe Tryz.prog 226 β0 w0 R n W (JE L (iA 16) [])):ASafe Tryz.prog 226 β0 w0 R n W (JE L (.val false [.n .i64 16]) []):=by
 refine E_ (T:=(JE L (.val false [.n .i64 16]) []).s.T) ?_
 rw [AVw]
 exact h
theorem AVy {b:Nat→Nat} (hb:∀ i,b i<256) {β0:Env} {w0:World} (h0:∀ b,1≤b→β0 b=none):ASafe Tryz.prog 226 β0 w0 (Ay β0 w0 [] (.val true [.seq .u32 (Ax fun t=>(Fv b t:Int))]) []) Tryz.f226.ntmps [] (K9 fun i=>(b i:Int)):=by
 refine K8 (AVo _) (QY (AVp _)) ?_
 rw [AVu hb]
 refine Ae IQ AB (AVq _ _) trivial (AL (by kernel_rfl)) h0 (fun _ h=>by cases h) fun _=>?_
 refine AVx ?_
 have loop:∀ r n,n+r=48→ASafe Tryz.prog 226 β0 w0 (Ay β0 w0 [] (.val true [.seq .u32 (Ax fun t=>(Fv b t:Int))]) []) Tryz.f226.ntmps [] (JE (FF b n) (iA ((n+16:Nat):Int)) []):=by
  intro r
  induction r with
  | zero =>
   intro n hn
   obtain rfl:n=48:=by omega
   rw [AC2]
   exact Ab [false] (As IQ AB Tryz.func226 (AVs _ _) ⟨by decide,trivial⟩ (AL (by kernel_rfl)) h0 (fun _ h=>by cases h))
  | succ r ih =>
   intro n hn
   refine Ab [true] (Ae IQ AB (AVr _ _) ?_ (AL (by kernel_rfl)) h0 (fun _ h=>by cases h) fun _=>?_)
   ·have hl:=k6 b (show n≤48 by omega)
    unfold wsC
    rw [hl,show (2:Int)=((2:Nat):Int) from rfl,show (7:Int)=((7:Nat):Int) from rfl,show (15:Int)=((15:Nat):Int) from rfl,show (16:Int)=((16:Nat):Int) from rfl,Fw (by omega) (by decide),Fw (by omega) (by decide),Fw (by omega) (by decide),Fw (by omega) (by decide)]
    exact ⟨decide_eq_true (by omega),Fx (by omega) (by omega) (Ac 3 (Fx (by omega) (by omega) (Fx (by omega) (by omega) (Ac 3 (Fx (by omega) (by omega) (Fx (by omega) (by omega) trivial))))))⟩
   ·rw [AVv b (by omega),show 0+((n+16:Nat):Int).toNat*1=n+16 by omega,AC1 b (by omega),Am (z:=((n+16:Nat):Int)+1) (by omega)]
    have:=ih (n+1) (by omega)
    rw [show ((n+1+16:Nat):Int)=((n+16:Nat):Int)+1 by omega] at this
    exact this
 have:=loop 48 0 rfl
 rw [show ((0+16:Nat):Int)=16 from rfl] at this
 exact this
theorem AVz {b:Nat→Nat} (hb:∀ i,b i<256) {β0:Env} {w0:World} (h0:∀ b,1≤b→β0 b=none):ASafe Tryz.prog 226 β0 w0 (Ay β0 w0 [] (.val true [.seq .u32 (Ax fun t=>(Fv b t:Int))]) []) Tryz.f226.ntmps [] (wsA fun i=>(b i:Int)) :=
 AVj IQ AB (AVn fun i=>(b i:Int)) (AL (by kernel_rfl)) h0 fun _=>AVy hb h0
theorem AV0 {b:Nat→Nat} (hb:∀ i,b i<256):Ad Tryz.prog 226 [.val false [.p 0 0]] [(0,some (Ai [.seq .u8 (Ax fun i=>(b i:Int))]))] 1 [] (.val true [.seq .u32 (Ax fun t=>(Fv b t:Int))]) [] :=
 Av (path:=kY 16) Tryz.func226 (by kernel_rfl) (by kernel_rfl) fun _ _ h0=>AVz hb h0
def bN (xs:List Int) (i:Nat):Nat:=(xs.getD i 0).toNat % 256
theorem AC3 (xs:List Int) (i:Nat):bN xs i<256:=Nat.mod_lt _ (by decide)
theorem k7 {xs:List Int} {P:Int→Prop} (h:∀ d∈xs,P d) (h0:P 0) (i:Nat):P (xs.getD i 0):=by
 rw [List.getD_eq_getElem?_getD]
 cases e:xs[i]? with
 | none=>exact h0
 | some d=>exact h d (List.mem_of_getElem? e)
theorem AV1 {xs:List Int} (h:∀ d∈xs,0≤d∧d<256) (i:Nat):(bN xs i:Int)=xs.getD i 0:=by
 have:=k7 (P:=fun d=>0≤d∧d<256) h ⟨by decide,by decide⟩ i
 unfold bN;omega
theorem k8 {xs:List Int} (h:∀ d∈xs,0≤d∧d<256) (hl:xs.length=64):xs=Ax fun i=>(bN xs i:Int):=by
 conv=>lhs;rw [Qj hl]
 exact List.map_congr_left fun i _=>(AV1 h i).symm
def wdsSp:ASpec:=fun args H fr path=>match args with
 | [.val false [.p k 0]]=>match AG H k with
  | some ⟨_,cs,_⟩=>match Ao .u8 cs with
   | some xs=>some (A5 [k] 1 fr 0 [] (.val true [.seq .u32 (Ax fun t=>(Fv (bN xs) t:Int))]) [] [(Nat.beq xs.length 64,true)] path)
   | none=>none
  | none=>none
 | _=>none
theorem AC4 {β:Env} {j k:Nat} {ρ:List Nat} {k0:Nat} {u:Value} (hj:j<k0) (hn:nth ρ j=k) (h:AP β (.val false [.p k 0]) u):AP (A4 β ρ k0) (.val false [.p j 0]) u:=by
 obtain ⟨l1,l2,⟨B,q,q1,q2⟩,h2,h3⟩:=h
 have e:A4 β ρ k0 j=β k:=by rw [H_ hj,hn]
 exact ⟨l1,l2,⟨B,q,by rw [e];exact q1,q2⟩,h2,h3⟩
theorem AV2:A6 Tryz.prog 226 wdsSp:=by
 refine CS Tryz.func226 (by kernel_rfl) (by kernel_rfl) fun args H fr path r hs=>?_
 unfold wdsSp at hs
 split at hs
 case h_2=>cases hs
 rename_i k
 split at hs
 case h_2=>cases hs
 rename_i ty cs o hk
 split at hs
 case h_2=>cases hs
 rename_i xs hxs
 injection hs with hs
 refine ⟨[k],1,0,[],_,_,_,path,hs.symm,fun β us w ha hg hc=>?_⟩
 obtain ⟨u1,us1,r1,ha,rfl⟩:=ha
 obtain ⟨g1,g2,g3⟩:=Cx hg hk hxs
 have hl:=An.1 hc.1
 refine ⟨[.val false [.p 0 0]],Au xs,?_,by kernel_rfl,⟨u1,_,AC4 (by omega) rfl r1,ha,rfl⟩,g2,g3⟩
 have:=AV0 (AC3 xs)
 rw [← k8 g1 hl] at this
 exact this
noncomputable def SSg:List (FuncId×ASpec):=(226,wdsSp)::SSa
theorem AV3:AX Tryz.prog SSg:=⟨AV2,ACn⟩
noncomputable def AV4:List Item:=Be (AS Tryz.prog oSa (some 0) 100 0 none (Af Tryz.f233 [.val true [.seq .u8 (Ax fun _=>0)]] [] 0 []))
noncomputable def Mn (f:Nat→Int) (ws:List Int) (t:AV) (p:List Bool):ASt:=⟨AV4,⟨C8 Tryz.f233.ntmps [(1,.val false [.p 0 0]),(2,.val false [.p 1 0]),(3,.val false [.p 2 0]),(4,t)],[(0,some ⟨176,[.seq .u8 (Ax f)],false⟩),(1,some ⟨213,List.replicate 64 (.n .u32 0),false⟩),(2,some ⟨213,[.seq .u32 ws],false⟩)],3,p⟩⟩
abbrev YH:Option (List Nat×List Nat×Nat):=some ([1,2,3,4],[0,1,2],3)
noncomputable def Mo (f:Nat→Int):ASt:=EZ (AS Tryz.prog oSa (some 0) 100 0 YH (Af Tryz.f233 [.val true [.seq .u8 (Ax f)]] [] 0 []))
theorem AV5 (f:Nat→Int):AS Tryz.prog oSa (some 0) 100 0 YH (Af Tryz.f233 [.val true [.seq .u8 (Ax f)]] [] 0 [])=some ([],[],Mo f):=by kernel_rfl
theorem AV6 (f:Nat→Int):AG (Mo f).s.H 2=some ⟨213,List.replicate 64 (.n .u32 0),false⟩:=by kernel_rfl
theorem AV7 {f:Nat→Int} {L:List Int}:(⟨(Mo f).todo,⟨(Mo f).s.T.map EF,Ea 2 [.seq .u32 L] (Mo f).s.H,(Mo f).s.fr,(Mo f).s.path⟩⟩:ASt)=Mn f L (iA 0) []:=by kernel_rfl
def k9 (f:Nat→Int) (t:Int):Int:=AO false .u32 (AO false .u32 (AO false .u32 (K4 (AO false .u32 (gI (Ax f) (wI (4*t)))) 24+K4 (AO false .u32 (gI (Ax f) (wI (wI (4*t)+1)))) 16)+K4 (AO false .u32 (gI (Ax f) (wI (wI (4*t)+2)))) 8)+AO false .u32 (gI (Ax f) (wI (wI (4*t)+3))))
theorem AV8 (f:Nat→Int) (ws:List Int) (t:Int):AS Tryz.prog oSa (some 0) 200 0 YH (Mn f ws (iA t) [true,true]) =
 some ((decide (t<64),true)::(decide (t<16),true)::FE (wI (4*t)) (Ax f).length ((true,true)::FE (wI (wI (4*t)+1)) (Ax f).length ((true,true)::FE (wI (wI (4*t)+2)) (Ax f).length ((true,true)::FE (wI (wI (4*t)+3)) (Ax f).length (FE t ws.length [])))),[],Mn f (ws.set (0+t.toNat*1) (k9 f t)) (iA (wI (t+1))) []):=by kernel_rfl
def YI (x:Int) (a b c:Nat):Int:=bits .xor .u32 (bits .xor .u32 (rr x.toNat a:Nat) (rr x.toNat b:Nat)) (JC x c)
def lB (ws:List Int) (t:Int):Int:=AO false .u32 (AO false .u32 (AO false .u32 (YI (gI ws (wI (t-2))) 17 19 10+gI ws (wI (t-7)))+YI (gI ws (wI (t-15))) 7 18 3)+gI ws (wI (t-16)))
theorem AV9 (f:Nat→Int) (ws:List Int) (t:Int):AS Tryz.prog oSa (some 0) 200 0 YH (Mn f ws (iA t) [true,false]) =
 some ((decide (t<64),true)::(decide (t<16),false)::FE (wI (t-15)) ws.length (FE (wI (t-2)) ws.length (tt 2 ((decide ((0:Int)≤3∧0≤gI ws (wI (t-15))),true)::tt 2 ((decide ((0:Int)≤10∧0≤gI ws (wI (t-2))),true)::FE (wI (t-7)) ws.length (FE (wI (t-16)) ws.length (FE t ws.length [])))))),[],Mn f (ws.set (0+t.toNat*1) (lB ws t)) (iA (wI (t+1))) []):=by kernel_rfl
theorem AV_ (f g:Nat→Int) (t:Int):Dt Tryz.prog oSa Tryz.f233 100 0 (Mn f (Ax g) (iA t) [false])=some ([(decide (t<64),false)],[],.val true [.seq .u32 (Ax g)]):=by kernel_rfl
theorem Qk (f:Nat→Int) {i:Nat} (h:i<64):gI (Ax f) (i:Int)=f i:=by
 unfold gI Ax
 rw [Int.toNat_natCast,Nat.zero_add,Nat.mul_one]
 simp [List.getD_eq_getElem?_getD,h]
theorem Mp {t j:Nat} (h:t<16):wI (4*(t:Int))=((4*t:Nat):Int)∧wI (((4*t:Nat):Int)+(j:Int))=wI (((4*t+j:Nat):Int)):=by
 refine ⟨by rw [Am (by omega)];omega,by congr 1⟩
theorem Ql {n:Nat} (h:n<64):wI ((n:Nat):Int)=n:=Am (by omega)
theorem AV' {b:Nat→Nat} (hb:∀ i,b i<256) {t:Nat} (h:t<16):k9 (fun i=>(b i:Int)) (t:Int)=(JD b t:Nat):=by
 unfold k9 JD
 have h0:=hb (4*t)
 have h1:=hb (4*t+1)
 have h2:=hb (4*t+2)
 have h3:=hb (4*t+3)
 rw [(Mp (j:=0) h).1,show (1:Int)=((1:Nat):Int) from rfl,show (2:Int)=((2:Nat):Int) from rfl,show (3:Int)=((3:Nat):Int) from rfl,(Mp (j:=1) h).2,(Mp (j:=2) h).2,(Mp (j:=3) h).2,Ql (by omega),Ql (by omega),Ql (by omega)]
 rw [Qk _ (by omega),Qk _ (by omega),Qk _ (by omega),Qk _ (by omega),UT,UT,UT,UT,show (24:Int)=((24:Nat):Int) from rfl,show (16:Int)=((16:Nat):Int) from rfl,show (8:Int)=((8:Nat):Int) from rfl,QU _ _ (by decide),QU _ _ (by decide),QU _ _ (by decide),Dc,Dc,Dc]
 congr 1
 omega
theorem AC5 {x:Nat} (hx:x<4294967296) (a b c:Nat) (hc:c≤32):YI (x:Int) a b c=(K6 a b c x:Nat):=by
 unfold YI K6
 rw [Int.toNat_natCast,UO _ _ hc,YC (JB hx _) (JB hx _) (Nat.lt_of_le_of_lt (Nat.div_le_self _ _) hx)]
theorem AC6 {b:Nat→Nat} (hb:∀ i,b i<256) (n i:Nat):(E0 b n).getD i 0<4294967296:=by
 rw [List.getD_eq_getElem?_getD]
 cases e:(E0 b n)[i]? with
 | none=>exact (by decide:(0:Nat)<4294967296)
 | some d=>exact ACs hb n d (List.mem_of_getElem? e)
theorem AWA {b:Nat→Nat} (hb:∀ i,b i<256) {n:Nat} (h:n<48):lB (FF b n) ((n+16:Nat):Int)=(QZ (E0 b n) n:Nat):=by
 unfold lB QZ
 rw [show (2:Int)=((2:Nat):Int) from rfl,show (7:Int)=((7:Nat):Int) from rfl,show (15:Int)=((15:Nat):Int) from rfl,show (16:Int)=((16:Nat):Int) from rfl,Fw (by omega) (by decide),Fw (by omega) (by decide),Fw (by omega) (by decide),Fw (by omega) (by decide),JF b (by omega),JF b (by omega),JF b (by omega),JF b (by omega)]
 rw [AC5 (AC6 hb _ _) _ _ _ (by decide),AC5 (AC6 hb _ _) _ _ _ (by decide),Dc,Dc,Dc,show n+16-2=n+14 by omega,show n+16-7=n+9 by omega,show n+16-15=n+1 by omega,show n+16-16=n by omega]
 congr 1
 omega
theorem AWB {b:Nat→Nat}:G_ (fun i=>(JD b i:Int)) 64 16=FF b 0:=by
 unfold G_ FF
 rw [E0,List.map_map]
 rfl
theorem AWC {b:Nat→Nat} (hb:∀ i,b i<256) (w0:World):ASafe Tryz.prog 233 Bc w0 (F4 w0 (.val true [.seq .u32 (Ax fun t=>(Fv b t:Int))])) Tryz.f233.ntmps [] (Mo fun i=>(b i:Int)):=by
 refine K8 (AV6 _) (QY (k:=.u32) (xs:=List.replicate 64 0) (by kernel_rfl)) ?_
 refine E_ ?_
 rw [AV7]
 have loop2:∀ r n,n+r=48→ASafe Tryz.prog 233 Bc w0 (F4 w0 (.val true [.seq .u32 (Ax fun t=>(Fv b t:Int))])) Tryz.f233.ntmps [] (Mn (fun i=>(b i:Int)) (FF b n) (iA ((n+16:Nat):Int)) []):=by
  intro r
  induction r with
  | zero =>
   intro n hn
   obtain rfl:n=48:=by omega
   rw [AC2]
   exact Ab [false] (GO IQ AB Tryz.func233 (AV_ _ _ _) ⟨by decide,trivial⟩ (AL (by kernel_rfl)) (fun _ _=>rfl) rfl)
  | succ r ih =>
   intro n hn
   refine Ab [true,false] (Ae IQ AB (AV9 _ _ _) ?_ (AL (by kernel_rfl)) (fun _ _=>rfl) (fun _ h=>by cases h) fun _=>?_)
   ·have hl:=k6 b (show n≤48 by omega)
    rw [hl,show (2:Int)=((2:Nat):Int) from rfl,show (7:Int)=((7:Nat):Int) from rfl,show (15:Int)=((15:Nat):Int) from rfl,show (16:Int)=((16:Nat):Int) from rfl,Fw (by omega) (by decide),Fw (by omega) (by decide),Fw (by omega) (by decide),Fw (by omega) (by decide),JF b (by omega),JF b (by omega)]
    exact ⟨decide_eq_true (by omega),decide_eq_false (by omega),Fx (by omega) (by omega) (Fx (by omega) (by omega) (Ac 2 ⟨decide_eq_true ⟨by decide,by omega⟩,Ac 2 ⟨decide_eq_true ⟨by decide,by omega⟩,Fx (by omega) (by omega) (Fx (by omega) (by omega) (Fx (by omega) (by omega) trivial))⟩⟩))⟩
   ·rw [AWA hb (by omega),show 0+((n+16:Nat):Int).toNat*1=n+16 by omega,AC1 b (by omega),Am (z:=((n+16:Nat):Int)+1) (by omega)]
    have:=ih (n+1) (by omega)
    rw [show ((n+1+16:Nat):Int)=((n+16:Nat):Int)+1 by omega] at this
    exact this
 have loop1:∀ r i,i+r=16→ASafe Tryz.prog 233 Bc w0 (F4 w0 (.val true [.seq .u32 (Ax fun t=>(Fv b t:Int))])) Tryz.f233.ntmps [] (Mn (fun i=>(b i:Int)) (G_ (fun i=>(JD b i:Int)) 64 i) (iA (i:Int)) []):=by
  intro r
  induction r with
  | zero =>
   intro i hi
   obtain rfl:i=16:=by omega
   rw [AWB]
   exact loop2 48 0 rfl
  | succ r ih =>
   intro i hi
   refine Ab [true,true] (Ae IQ AB (AV8 _ _ _) ?_ (AL (by kernel_rfl)) (fun _ _=>rfl) (fun _ h=>by cases h) fun _=>?_)
   ·rw [v0 (by omega),(Mp (j:=0) (show i<16 by omega)).1,show (1:Int)=((1:Nat):Int) from rfl,show (2:Int)=((2:Nat):Int) from rfl,show (3:Int)=((3:Nat):Int) from rfl,(Mp (j:=1) (show i<16 by omega)).2,(Mp (j:=2) (show i<16 by omega)).2,(Mp (j:=3) (show i<16 by omega)).2,Ql (by omega),Ql (by omega),Ql (by omega),show (Ax fun i=>(b i:Int)).length=64 from rfl]
    exact ⟨decide_eq_true (by omega),decide_eq_true (by omega),Fx (by omega) (by omega) ⟨rfl,Fx (by omega) (by omega) ⟨rfl,Fx (by omega) (by omega) ⟨rfl,Fx (by omega) (by omega) (Fx (by omega) (by omega) trivial)⟩⟩⟩⟩
   ·rw [AV' hb (by omega),show 0+((i:Nat):Int).toNat*1=i by omega,v5 (f:=fun i=>(JD b i:Int)) (by omega),Am (z:=(i:Int)+1) (by omega)]
    exact ih (i+1) (by omega)
 have:=loop1 16 0 rfl
 rw [v6] at this
 exact this
theorem AWD {b:Nat→Nat} (hb:∀ i,b i<256):AU Tryz.prog 233 [.val true [.seq .u8 (Ax fun i=>(b i:Int))]] (.val true [.seq .u32 (Ax fun t=>(Fv b t:Int))]) :=
 Js (path:=[]) Tryz.func233 (by kernel_rfl) (by kernel_rfl) fun w0=>Ae IQ AB (AV5 _) trivial (AL (by kernel_rfl)) (fun _ _=>rfl) (fun _ h=>by cases h) fun _=>AWC hb w0
theorem Qm {A:List Ch} {k:IntKind} {xs:List Int} {β:Env} {u:Value} (h:Ao k A=some xs) (hr:AP β (.val true A) u):(∀ x∈xs,has k x)∧∀ β':Env,AP β' (.val true [.seq k xs]) u:=by
 obtain ⟨l,hl,rfl⟩:=hr
 obtain ⟨rfl,q⟩:=CY h hl
 exact ⟨q,fun β'=>⟨_,LO q,rfl⟩⟩
theorem AC7 {x:Int} (h:has .u8 x):0≤x∧x<256:=by
 rw [EJ] at h;simp only [AJ,Bool.and_eq_true,decide_eq_true_eq] at h;omega
def lC:List AV→Option (List (Bool×Bool)×AV)
 | [.val true cs]=>match Ao .u8 cs with
  | some xs=>some ([(Nat.beq xs.length 64,true)],.val true [.seq .u32 (Ax fun t=>(Fv (bN xs) t:Int))])
  | none=>none
 | _=>none
theorem AWE:∀ args c v,lC args=some (c,v)→AQ c→AU Tryz.prog 233 args v:=by
 intro args c v hs hc us w ha
 unfold lC at hs
 split at hs
 case h_2=>cases hs
 rename_i cs
 split at hs
 case h_2=>cases hs
 rename_i xs hx
 injection hs with hs;injection hs with hs1 hs2;subst hs1;subst hs2
 obtain ⟨u1,us1,r1,ha,rfl⟩:=ha
 obtain ⟨p1,q1⟩:=Qm hx r1
 have hb:=fun d hd=>AC7 (p1 d hd)
 have h:=AWD (AC3 xs)
 rw [← k8 hb (An.1 hc.1)] at h
 exact h _ w ⟨u1,_,q1 _,ha,rfl⟩
noncomputable def SSi:List (FuncId×ASpec):=(233,EE lC)::(235,kSp)::SSg
theorem AC8:AX Tryz.prog SSi:=⟨El Tryz.func233 (by kernel_rfl) (by kernel_rfl) AWE,AVg,AV3⟩
noncomputable abbrev oSi:Orc:=AH SSi KV
theorem JG:OrcOk Tryz.prog oSi:=AK AC8 A9
def YJ (x:Option (List (Bool×Bool)×List Nat×AV)):AV:=match x with | some (_,_,v)=>v | none=>.any
def cvO (x:Option (List (Bool×Bool)×List Nat×AV)):List (Bool×Bool):=match x with | some (c,_,_)=>c | none=>[]
def kvO (x:Option (List (Bool×Bool)×List Nat×AV)):List Nat:=match x with | some (_,k,_)=>k | none=>[]
def ivO (x:Option (List (Bool×Bool)×List Nat×AV)):Bool:=match x with | some _=>true | none=>false
structure Rets (x:Option (List (Bool×Bool)×List Nat×AV)):Prop where
 isO:ivO x=true
 ky:kvO x=[]
 cd:OT (cvO x)=true
 nk:LZ (YJ x)=true
theorem AC9 {P:Program} {O:Orc} {f:FuncId} {fn:Func} {β0:Env} {w0:World} {n:Fz} (hO:OrcOk P O) (hm:P.follows .mixedOrders=true) (hfn:P.funcs[f]? = some fn) {fuel k0:Nat} {x:ASt}
  (h:Rets (Dt P O fn fuel k0 x)) (hwf:B4 n x.s) (h0:∀ b,k0≤b→β0 b=none) (hD:n.D=[]:=by rfl):ASafe P f β0 w0 (F4 w0 (YJ (Dt P O fn fuel k0 x))) n [] x:=by
 obtain ⟨h1,h2,h3,h4⟩:=h
 generalize e:Dt P O fn fuel k0 x=y at *
 cases y with
 | none=>cases h1
 | some v =>
  obtain ⟨c,k,v⟩:=v
  have hk:k=[]:=h2
  subst hk
  exact GO hO hm hfn e (Qi h3) hwf h0 h4 hD
theorem AC_ (f:Nat→Int) (β:Env) (l:List Value) (h:AN β [.seq .u32 (l8 f)] l):AN β (w8 f) l:=by
 obtain ⟨l1,l2,⟨rfl,hx⟩,h2,rfl⟩:=h
 simp only [AN] at h2
 subst h2
 have hm:∀ i,i<8→oV (.int .u32 (f i)):=fun i hi=>⟨rfl,hx _ (List.mem_map.2 ⟨i,List.mem_range.2 hi,rfl⟩)⟩
 exact ⟨[_],_,⟨rfl,hm 0 (by decide)⟩,⟨[_],_,⟨rfl,hm 1 (by decide)⟩,⟨[_],_,⟨rfl,hm 2 (by decide)⟩,⟨[_],_,⟨rfl,hm 3 (by decide)⟩,⟨[_],_,⟨rfl,hm 4 (by decide)⟩,⟨[_],_,⟨rfl,hm 5 (by decide)⟩,⟨[_],_,⟨rfl,hm 6 (by decide)⟩,⟨[_],_,⟨rfl,hm 7 (by decide)⟩,rfl,rfl⟩,rfl⟩,rfl⟩,rfl⟩,rfl⟩,rfl⟩,rfl⟩,rfl⟩
def scW (b:Nat→Int):Nat→Int:=fun t=>(Fv (bN (Ax b)) t:Int)
def A_ (f:Nat→Nat):Nat→Int:=fun i=>(f i:Int)
noncomputable def ADA (h b:Nat→Int):ASt:=Af Tryz.f163 [.val true [.seq .u32 (l8 h)],.val true [.seq .u8 (Ax b)]] [] 0 []
noncomputable def Mq (h b:Nat→Int):ASt:=EZ (AS Tryz.prog oSi (some 0) 100 0 kQ (ADA h b))
noncomputable def ADB:List Ch:=match AG (Mq (fun _=>0) fun _=>0).s.H 3 with | some b=>b.cs | none=>[]
theorem AWI (h b:Nat→Int):AS Tryz.prog oSi (some 0) 100 0 kQ (ADA h b)=some ([(true,true)],[],Mq h b):=by kernel_rfl
theorem AWJ (h b:Nat→Int):AG (Mq h b).s.H 3=some ⟨213,ADB,false⟩:=by kernel_rfl
theorem AWK:Ao .u32 ADB=some kL:=by kernel_rfl
noncomputable def OU (h b:Nat→Int):ASt:=⟨(Mq h b).todo,⟨(Mq h b).s.T,Ea 3 [.seq .u32 kL] (Mq h b).s.H,(Mq h b).s.fr,(Mq h b).s.path⟩⟩
theorem AWL (h b:Nat→Int):AG (OU h b).s.H 5=some ⟨173,[.seq .u32 (l8 h)],false⟩:=by kernel_rfl
theorem AWM (h b:Nat→Int):(⟨(OU h b).todo,⟨(OU h b).s.T.map EF,Ea 5 (w8 h) (OU h b).s.H,(OU h b).s.fr,(OU h b).s.path⟩⟩:ASt)=QW (l8 h) kL (Ax (scW b)) h (iA 0) []:=by kernel_rfl
theorem AWN (h ws s:Nat→Int):Rets (Dt Tryz.prog oSi Tryz.f163 400 0 (QW (l8 h) kL (Ax ws) s (iA 64) [false])):=⟨by kernel_rfl,by kernel_rfl,by kernel_rfl,by kernel_rfl⟩
theorem AWO (h ws s:Nat→Int):YJ (Dt Tryz.prog oSi Tryz.f163 400 0 (QW (l8 h) kL (Ax ws) s (iA 64) [false]))=.val true (w8 fun i=>AO false .u32 (s i+h i)):=by kernel_rfl
theorem ADC {t:Nat} (h:t<64):kL.getD (0+(t:Int).toNat*1) 0=(kN t:Nat):=by
 have:=k7 (xs:=kL) (P:=fun d=>0≤d) (by decide) (by decide) t
 rw [show 0+(t:Int).toNat*1=t by omega]
 unfold kN;omega
theorem ADD (f:Nat→Int) {t:Nat} (h:t<64):(Ax f).getD (0+(t:Int).toNat*1) 0=f t:=Qk f h
theorem AWP {h:Nat→Nat} (hh:∀ i,h i<4294967296) (W:Nat→Nat) (w0:World):∀ r t,t+r=64 →
  ASafe Tryz.prog 163 Bc w0 (F4 w0 (.val true (w8 fun i=>AO false .u32 (Ht h kN W 64 i+h i)))) Tryz.f163.ntmps [] (QW (l8 (A_ h)) kL (Ax (A_ W)) (A_ (Ht h kN W t)) (iA (t:Int)) []):=by
 intro r
 induction r with
 | zero =>
  intro t ht
  obtain rfl:t=64:=by omega
  have:=AC9 (P:=Tryz.prog) (n:=Tryz.f163.ntmps) (β0:=Bc) (w0:=w0) JG AB Tryz.func163 (AWN (A_ h) (A_ W) (A_ (Ht h kN W 64))) (AL (by kernel_rfl)) (fun _ _=>rfl)
  rw [AWO] at this
  exact Ab [false] this
 | succ r ih =>
  intro t ht
  refine Ab [true] (Ae IQ AB (AVT _ _ _ _ _) ?_ (AL (by kernel_rfl)) (fun _ _=>rfl) (fun _ h=>by cases h) fun _=>?_)
  ·unfold shC
   exact ⟨decide_eq_true (by omega),Ac 3 ⟨decide_eq_true ⟨by omega,by omega⟩,decide_eq_true (by show 0+(t:Int).toNat*1<64;omega),decide_eq_true ⟨by omega,by omega⟩,decide_eq_true (by show 0+(t:Int).toNat*1<64;omega),Ac 5 trivial⟩⟩
  ·rw [ADC (by omega),ADD _ (by omega)]
   have e:=AVV (kR hh kN W t) (kN t) (W t)
   unfold A_
   rw [e,Am (z:=(t:Int)+1) (by omega)]
   exact ih (t+1) (by omega)
theorem AWQ {h:Nat→Nat} (hh:∀ i,h i<4294967296) (b:Nat→Int):AU Tryz.prog 163 [.val true [.seq .u32 (l8 (A_ h))],.val true [.seq .u8 (Ax b)]] (.val true (w8 fun i=>AO false .u32 (Ht h kN (Fv (bN (Ax b))) 64 i+h i))) :=
 Js (path:=[]) Tryz.func163 (by kernel_rfl) (by kernel_rfl) fun w0=>Ae JG AB (AWI (A_ h) b) ⟨rfl,trivial⟩ (AL (by kernel_rfl)) (fun _ _=>rfl) (fun _ h=>by cases h) fun _ =>
  K8 (AWJ _ _) (QY AWK) (show ASafe _ _ _ _ _ _ _ (OU (A_ h) b) from K8 (AWL _ _) (AC_ _) (E_ (by
   rw [AWM]
   exact AWP hh _ w0 64 0 rfl)))
noncomputable def ADE (h b:Nat→Int):ASt:=Af Tryz.f176 [.val true [.seq .u32 (l8 h)],.val true [.seq .u8 (Ax b)]] [] 0 []
abbrev lD:Option (List Nat×List Nat×Nat):=some ([2,4,5,6,7],[0,2,3,4],5)
noncomputable def Mr (h b:Nat→Int):ASt:=EZ (AS Tryz.prog oSi (some 0) 100 0 lD (ADE h b))
noncomputable def AWR:List Item:=(Mr (fun _=>0) fun _=>0).todo
noncomputable def Qn (h ws s:Nat→Int) (t:AV) (p:List Bool):ASt:=⟨AWR,⟨C8 Tryz.f176.ntmps [(2,.val false [.p 0 0]),(4,.val false [.p 2 0]),(5,.val false [.p 3 0]),(6,.val false [.p 4 0]),(7,t)],
 [(0,some ⟨173,[.seq .u32 (l8 h)],false⟩),(2,some ⟨173,List.replicate 8 (.n .u32 0),false⟩),(3,some ⟨213,[.seq .u32 (Ax ws)],false⟩),(4,some ⟨173,w8 s,false⟩)],5,p⟩⟩
theorem AWS (h b:Nat→Int):AS Tryz.prog oSi (some 0) 100 0 lD (ADE h b)=some ([(true,true)],[],Mr h b):=by kernel_rfl
theorem AWT (h b:Nat→Int):AG (Mr h b).s.H 4=some ⟨173,[.seq .u32 (l8 h)],false⟩:=by kernel_rfl
theorem AWU (h b:Nat→Int):(⟨(Mr h b).todo,⟨(Mr h b).s.T.map EF,Ea 4 (w8 h) (Mr h b).s.H,(Mr h b).s.fr,(Mr h b).s.path⟩⟩:ASt)=Qn h (scW b) h (iA 0) []:=by kernel_rfl
def YK (a b c:Nat) (x:Int):Int:=bits .xor .u32 (bits .xor .u32 (rr x.toNat a:Nat) (rr x.toNat b:Nat)) (rr x.toNat c:Nat)
def Qo (s:Nat→Int) (k w:Int):Int:=AO false .u32 (AO false .u32 (AO false .u32 (AO false .u32 (s 7+YK 6 11 25 (s 4))+bits .xor .u32 (bits .and .u32 (s 4) (s 5)) (bits .and .u32 (bits .xor .u32 4294967295 (s 4)) (s 6)))+k)+w)
def YL (s:Nat→Int):Int:=AO false .u32 (YK 2 13 22 (s 0)+bits .xor .u32 (bits .xor .u32 (bits .and .u32 (s 0) (s 1)) (bits .and .u32 (s 0) (s 2))) (bits .and .u32 (s 1) (s 2)))
def lE (s:Nat→Int) (k w:Int):Nat→Int
 | 0=>AO false .u32 (Qo s k w+YL s)
 | 1=>s 0
 | 2=>s 1
 | 3=>s 2
 | 4=>AO false .u32 (s 3+Qo s k w)
 | 5=>s 4
 | 6=>s 5
 | _=>s 6
theorem AWV (h ws s:Nat→Int) (t:Int):AS Tryz.prog oSi (some 0) 100 0 lD (Qn h ws s (iA t) [true]) =
 some ((decide (t<64),true)::tt 3 ((decide (0≤t∧t<64),true)::FE t (Ax ws).length (tt 3 [])),[],Qn h ws (lE s (kL.getD (0+t.toNat*1) 0) ((Ax ws).getD (0+t.toNat*1) 0)) (iA (wI (t+1))) []):=by kernel_rfl
theorem AWW (h ws s:Nat→Int):Rets (Dt Tryz.prog oSi Tryz.f176 400 0 (Qn h ws s (iA 64) [false])):=⟨by kernel_rfl,by kernel_rfl,by kernel_rfl,by kernel_rfl⟩
theorem AWX (h ws s:Nat→Int):YJ (Dt Tryz.prog oSi Tryz.f176 400 0 (Qn h ws s (iA 64) [false]))=.val true (w8 fun i=>AO false .u32 (h i+s i)):=by kernel_rfl
theorem ADF {x:Nat} (hx:x<4294967296) (a b c:Nat):YK a b c (x:Int)=(K5 a b c x:Nat):=by
 unfold YK K5
 rw [Int.toNat_natCast,YC (JB hx _) (JB hx _) (JB hx _)]
theorem AWY {s:Nat→Nat} (hs:∀ i,s i<4294967296) (k w:Nat):Qo (A_ s) k w=(QX s k w:Nat):=by
 unfold Qo QX A_
 have h5:(s 4 &&& s 5)<4294967296:=Nat.and_lt_two_pow (n:=32) _ (hs 5)
 have h6:((4294967295 ^^^ s 4) &&& s 6)<4294967296:=Nat.and_lt_two_pow (n:=32) _ (hs 6)
 have h7:(4294967295 ^^^ s 4)<4294967296:=Nat.xor_lt_two_pow (n:=32) (by decide) (hs 4)
 rw [show (4294967295:Int)=((4294967295:Nat):Int) from rfl,ADF (hs 4),(D6 _ _ (by decide) (hs 4)).2.2,(D6 _ _ (hs 4) (hs 5)).1,(D6 _ _ h7 (hs 6)).1,(D6 _ _ h5 h6).2.2,AVX (hs 6),Dc,Dc,Dc,Dc]
 congr 1
 omega
theorem AWZ {s:Nat→Nat} (hs:∀ i,s i<4294967296):YL (A_ s)=(US s:Nat):=by
 unfold YL US A_
 have a1:(s 0 &&& s 1)<4294967296:=Nat.and_lt_two_pow (n:=32) _ (hs 1)
 have a2:(s 0 &&& s 2)<4294967296:=Nat.and_lt_two_pow (n:=32) _ (hs 2)
 have a3:(s 1 &&& s 2)<4294967296:=Nat.and_lt_two_pow (n:=32) _ (hs 2)
 rw [ADF (hs 0),(D6 _ _ (hs 0) (hs 1)).1,(D6 _ _ (hs 0) (hs 2)).1,(D6 _ _ (hs 1) (hs 2)).1,(D6 _ _ a1 a2).2.2,(D6 _ _ (Nat.xor_lt_two_pow (n:=32) a1 a2) a3).2.2,AVY,Dc]
theorem AWa {s:Nat→Nat} (hs:∀ i,s i<4294967296) (k w:Nat):lE (A_ s) k w=A_ (OR s k w):=by
 funext i
 have e1:=AWY hs k w
 have e2:=AWZ hs
 show lE (A_ s) k w i=((OR s k w i:Nat):Int)
 match i with
 | 0 =>
  show AO false .u32 (Qo (A_ s) k w+YL (A_ s))=_
  rw [e1,e2,Dc];rfl
 | 1=>rfl
 | 2=>rfl
 | 3=>rfl
 | 4 =>
  show AO false .u32 (A_ s 3+Qo (A_ s) k w)=_
  rw [e1];exact Dc _ _
 | 5=>rfl
 | 6=>rfl
 | _+7=>rfl
theorem AWb {h:Nat→Nat} (hh:∀ i,h i<4294967296) (W:Nat→Nat) (w0:World):∀ r t,t+r=64 →
  ASafe Tryz.prog 176 Bc w0 (F4 w0 (.val true (w8 fun i=>AO false .u32 (h i+Ht h kN W 64 i)))) Tryz.f176.ntmps [] (Qn (A_ h) (A_ W) (A_ (Ht h kN W t)) (iA (t:Int)) []):=by
 intro r
 induction r with
 | zero =>
  intro t ht
  obtain rfl:t=64:=by omega
  have:=AC9 (P:=Tryz.prog) (n:=Tryz.f176.ntmps) (β0:=Bc) (w0:=w0) JG AB Tryz.func176 (AWW (A_ h) (A_ W) (A_ (Ht h kN W 64))) (AL (by kernel_rfl)) (fun _ _=>rfl)
  rw [AWX] at this
  exact Ab [false] this
 | succ r ih =>
  intro t ht
  refine Ab [true] (Ae JG AB (AWV _ _ _ _) ?_ (AL (by kernel_rfl)) (fun _ _=>rfl) (fun _ h=>by cases h) fun _=>?_)
  ·exact ⟨decide_eq_true (by omega),Ac 3 ⟨decide_eq_true ⟨by omega,by omega⟩,Fx (by omega) (by show t<64;omega) (Ac 3 trivial)⟩⟩
  ·rw [ADC (by omega),ADD _ (by omega),Am (z:=(t:Int)+1) (by omega)]
   have e:=AWa (kR hh kN W t) (kN t) (W t)
   rw [show A_ W t=((W t:Nat):Int) from rfl,e]
   exact ih (t+1) (by omega)
theorem AWc {h:Nat→Nat} (hh:∀ i,h i<4294967296) (b:Nat→Int):AU Tryz.prog 176 [.val true [.seq .u32 (l8 (A_ h))],.val true [.seq .u8 (Ax b)]] (.val true (w8 fun i=>AO false .u32 (h i+Ht h kN (Fv (bN (Ax b))) 64 i))) :=
 Js (path:=[]) Tryz.func176 (by kernel_rfl) (by kernel_rfl) fun w0=>Ae JG AB (AWS (A_ h) b) ⟨rfl,trivial⟩ (AL (by kernel_rfl)) (fun _ _=>rfl) (fun _ h=>by cases h) fun _ =>
  K8 (AWT _ _) (AC_ _) (E_ (by
   rw [AWU]
   exact AWb hh _ w0 64 0 rfl))
def wN (xs:List Int) (i:Nat):Nat:=(xs.getD i 0).toNat % 4294967296
theorem AWd (xs:List Int) (i:Nat):wN xs i<4294967296:=Nat.mod_lt _ (by decide)
theorem AWe {xs:List Int} (h:∀ d∈xs,0≤d∧d<4294967296) (hl:xs.length=8):xs=l8 (A_ (wN xs)):=by
 conv=>lhs;rw [Qj hl]
 refine List.map_congr_left fun i _=>?_
 have:=k7 (P:=fun d=>0≤d∧d<4294967296) h ⟨by decide,by decide⟩ i
 unfold A_ wN;omega
def YM:List AV→Option (List (Bool×Bool)×AV)
 | [.val true hs,.val true bs]=>match Ao .u32 hs,Ao .u8 bs with
  | some xs,some ys=>some ([(Nat.beq xs.length 8,true),(Nat.beq ys.length 64,true)],.val true [.seq .u32 (l8 (A_ (OS (wN xs) (bN ys))))])
  | _,_=>none
 | _=>none
theorem AWf (f:Nat→Int):Ao .u32 (w8 f)=some (l8 f):=by kernel_rfl
theorem ADG {F:FuncId} (h:∀ (h:Nat→Nat) (b:Nat→Int),(∀ i,h i<4294967296)→AU Tryz.prog F [.val true [.seq .u32 (l8 (A_ h))],.val true [.seq .u8 (Ax b)]] (.val true (w8 (A_ (OS h (bN (Ax b))))))):∀ args c v,YM args=some (c,v)→AQ c→AU Tryz.prog F args v:=by
 intro args c v hs hc us w ha
 unfold YM at hs
 split at hs
 case h_2=>cases hs
 rename_i hs' bs'
 split at hs
 case h_2=>cases hs
 rename_i xs ys hx hy
 injection hs with hs;injection hs with hs1 hs2;subst hs1;subst hs2
 obtain ⟨u1,us1,r1,⟨u2,us2,r2,ha,rfl⟩,rfl⟩:=ha
 obtain ⟨p1,q1⟩:=Qm hx r1
 obtain ⟨p2,q2⟩:=Qm hy r2
 have e1:=AWe (fun d hd=>YA (p1 d hd)) (An.1 hc.1)
 have e2:=k8 (fun d hd=>AC7 (p2 d hd)) (An.1 hc.2.1)
 have q:=h (wN xs) (fun i=>(bN ys i:Int)) (AWd xs)
 rw [← e2,← e1] at q
 refine C7 q (fun u hu=>(Qm (AWf _) hu).2 _) _ w ⟨u1,_,q1 _,⟨u2,_,q2 _,ha,rfl⟩,rfl⟩
noncomputable def SSj:List (FuncId×ASpec):=(163,EE YM)::(176,EE YM)::SSi
theorem ADH (f g:Nat→Nat):(fun i=>AO false .u32 ((f i:Int)+(g i:Int)))=A_ fun i=>(f i+g i) % 4294967296:=by
 funext i
 rw [Dc];rfl
theorem AWg:AX Tryz.prog SSj:=⟨El Tryz.func163 (by kernel_rfl) (by kernel_rfl) (ADG fun h b hh=>by
  have:=AWQ hh b
  rw [ADH] at this
  exact this),El Tryz.func176 (by kernel_rfl) (by kernel_rfl) (ADG fun h b hh=>by
  have:=AWc hh b
  rw [ADH,show (fun i=>(h i+Ht h kN (Fv (bN (Ax b))) 64 i) % 4294967296)=OS h (bN (Ax b)) from funext fun i=>by unfold OS;rw [Nat.add_comm]] at this
  exact this),AC8⟩
def Qp (k:Nat):Heap→Heap
 | []=>[]
 | (j,b)::r=>match Nat.beq j k with
  | true=>(j,match b with | some ⟨ty,cs,_⟩=>some ⟨ty,cs,true⟩ | none=>none)::r
  | false=>(j,b)::Qp k r
theorem lF {k:Nat} {cs:List Ch} {ty:TypeId} {o:Bool}:∀ {H:Heap},AG H k=some ⟨ty,cs,o⟩→∀ b x,AG (Qp k H) b=some x→AG H b=some x∨(b=k∧x=⟨ty,cs,true⟩)
 | [],h,_,_,_=>by cases h
 | (j,z)::r,h,b,x,hx=>by
  simp only [AG] at h ⊢
  unfold Qp at hx
  cases e:Nat.beq j k with
  | true =>
   rw [e] at h hx
   have hz:z=some ⟨ty,cs,o⟩:=h
   subst hz
   simp only [AG] at hx
   cases e':Nat.beq j b with
   | true =>
    rw [e'] at hx
    injection hx with hx
    exact .inr ⟨(An.1 e').symm.trans (An.1 e),hx.symm⟩
   | false=>rw [e'] at hx;exact .inl hx
  | false =>
   rw [e] at h hx
   simp only [AG] at hx
   cases e':Nat.beq j b with
   | true=>rw [e'] at hx;exact .inl hx
   | false=>rw [e'] at hx;exact lF (H:=r) h b x hx
theorem AWh {β:Env} {ty:TypeId} {cs:List Ch} {o:Bool} {k:Nat} {w:World} (hr:EI β ⟨ty,cs,o⟩ k w):EI β ⟨ty,cs,true⟩ k w:=by
 rcases hr with ⟨B,n,l,t,pre,ty',fz,q1,q2,q3,q4,q5⟩ | ⟨q1,q2,q3⟩
 ·exact .inl ⟨B,n,l,t,pre,ty',fz,q1,q2,q3,q4,fun h=>by
   obtain ⟨a1,a2,a3,a4,a5⟩:=q5 h
   exact ⟨a1,a2,a3,(fun h=>by cases h),a5⟩⟩
 ·exact .inr ⟨q1,.inl rfl,q3⟩
theorem AWi {P:Program} {f:FuncId} {β0:Env} {w0:World} {R:Ending→World→Prop} {n:Fz} {W:List Nat} {x:ASt} {k:Nat} {ty:TypeId} {cs:List Ch} {o:Bool} (hk:AG x.s.H k=some ⟨ty,cs,o⟩)
  (hs:ASafe P f β0 w0 R n W ⟨x.todo,⟨x.s.T,Qp k x.s.H,x.s.fr,x.s.path⟩⟩):ASafe P f β0 w0 R n W x:=by
 intro β a w hi hf
 refine hs β a w { hi with good:=?_ } hf
 have g:=hi.good
 have hh:∀ b y,AG (Qp k x.s.H) b=some y→∃ z,AG x.s.H b=some z∧z.ty=y.ty:=fun b y hb=>by
  rcases lF hk b y hb with e | ⟨rfl,rfl⟩
  ·exact ⟨y,e,rfl⟩
  ·exact ⟨_,hk,rfl⟩
 refine ⟨fun b blk hb=>?_,fun b b' B n n' h1 h2 h3 h4=>?_,g.lt⟩
 ·rcases lF hk b blk hb with e | ⟨rfl,rfl⟩
  ·exact g.heap b blk e
  ·exact AWh (g.heap b _ hk)
 ·obtain ⟨y,hy,hr⟩:=F0 h1
  obtain ⟨z,hz,e⟩:=hh b y hy
  obtain ⟨y',hy'⟩:=Option.isSome_iff_exists.1 h2
  obtain ⟨z',hz',_⟩:=hh b' y' hy'
  exact g.inj b b' B n n' (Ef hz (by rw [e];exact hr)) (by rw [hz'];rfl) h3 h4
def Qq (n:Nat):Int:=wI (wI (Int.tdiv (wI (wI ((n:Int)+9)+63)) 64)*64)
def K_ (n:Nat):Nat:=(Qq n).toNat
def UW (n:Nat):List Int:=List.replicate (K_ n) 0
def UX (off n:Nat) (xs:List Int):List Int:=(UW n).take 0++((xs.drop off).take (Nat.min n (K_ n))++(UW n).drop (0+Nat.min n (K_ n)*1))
def lG (off n:Nat) (xs:List Int):List Int:=(UX off n xs).set (0+(n:Int).toNat*1) 128
noncomputable def pdT:List Item:=Be (AS Tryz.prog oSi (some 0) 100 1 none (Af Tryz.f161 [AI 0 0 0 0] (Au []) 1 []))
noncomputable def UY (N:Int) (L:Nat) (ys:List Int) (i k:AV) (p:List Bool):ASt:=⟨pdT,⟨C8 Tryz.f161.ntmps [(3,iA N),(4,AI 1 0 L L),(5,i),(6,k)],[(1,some ⟨5,[.seq .u8 ys],false⟩)],2,p⟩⟩
def Qr (k:Int):AV:=.val false [.v (.int .u64 k)]
abbrev pdK:Option (List Nat×List Nat×Nat):=some ([3,4,5,6],[1],2)
theorem AWk (off n m:Nat) (xs:List Int):AS Tryz.prog oSi (some 0) 400 1 pdK (Af Tryz.f161 [AI 0 off n m] (Au xs) 1 []) =
 some ((AJ .i64 n,true)::(true,true)::(L_ (Qq n) 1,true)::(Nat.ble (off+Nat.min n (K_ n)) xs.length,true)::(Nat.ble (0+Nat.min n (K_ n)*1) (UW n).length,true)::(AJ .i64 n,true)::(decide ((0:Int)≤n∧(n:Int)<K_ n),true)::(decide (0+(n:Int).toNat*1<(UX off n xs).length),true)::(AJ .i64 n,true)::[],[],
  UY (Qq n) (K_ n) (lG off n xs) (.val false [.n .i64 0]) (Qr (AO false .u64 (8*AO false .u64 n))) []):=by kernel_rfl
def Qs (N i:Int):Int:=wI (wI (N-1)-i)
theorem AWl (N:Int) (L:Nat) (ys:List Int) (i k:Int):AS Tryz.prog oSi (some 0) 400 1 pdK (UY N L ys (iA i) (Qr k) [true]) =
 some ((decide (i<8),true)::(decide (0≤Qs N i∧Qs N i<L),true)::(decide (0+(Qs N i).toNat*1<ys.length),true)::(decide ((0:Int)≤8∧0≤k),true)::[],[],UY N L (ys.set (0+(Qs N i).toNat*1) (AO false .u8 k)) (iA (wI (i+1))) (Qr (Int.fdiv k (2^min (8:Int).toNat IntKind.u64.bits))) []):=by kernel_rfl
theorem AWm (N:Int) (L:Nat) (ys:List Int) (i k:Int):AM Tryz.prog oSi Tryz.f161 400 1 [1] (UY N L ys (iA i) (Qr k) [false])=some ([(decide (i<8),false)],[],AI 1 0 L L,[(1,some ⟨5,[.seq .u8 ys],false⟩)]):=by kernel_rfl
theorem ADJ {n:Nat} (h:n≤35184372088832):Qq n=(Ap n:Nat)∧K_ n=Ap n:=by
 have e1:wI (wI ((n:Int)+9)+63)=((n+72:Nat):Int):=by rw [Am (z:=(n:Int)+9) (by omega),Am (by omega)];omega
 have e2:Int.tdiv ((n+72:Nat):Int) 64=(((n+72) / 64:Nat):Int):=by rw [Int.tdiv_eq_ediv_of_nonneg (by omega)];rfl
 have e3:Qq n=(Ap n:Nat):=by
  unfold Qq Ap
  rw [e1,e2,Am (z:=(((n+72) / 64:Nat):Int)) (by omega),Am (by omega)]
  rfl
 exact ⟨e3,by unfold K_;rw [e3];rfl⟩
def IR (xs:List Int) (i:Nat):List Int:=xs++128::(List.replicate (Ap xs.length-xs.length-9) 0++(List.replicate (8-i) 0++(BK (8*xs.length) 8).drop (8-i)))
theorem AWn (xs:List Int):IR xs 0=xs++128::List.replicate (Ap xs.length-xs.length-1) 0:=by
 unfold IR
 have:=K7 xs.length
 rw [List.drop_eq_nil_of_le (by rw [Hg];exact Nat.le_refl _),List.append_nil,List.replicate_append_replicate]
 congr 3
 omega
theorem AWo (xs:List Int):IR xs 8=CW xs:=by
 unfold IR CW
 rw [Nat.sub_self,List.replicate_zero,List.drop_zero,List.nil_append]
theorem AWp (xs:List Int) {i:Nat} (h:i≤8):(IR xs i).length=Ap xs.length:=by
 have:=K7 xs.length
 unfold IR
 simp only [List.length_append,List.length_cons,List.length_replicate,List.length_drop,Hg]
 omega
theorem AWq (xs:List Int) {i:Nat} (h:i<8):(IR xs i).set (Ap xs.length-1-i) (Eo (8*xs.length) i)=IR xs (i+1):=by
 have hp:=K7 xs.length
 unfold IR
 rw [List.set_append_right _ _ (by omega),show Ap xs.length-1-i-xs.length=(Ap xs.length-xs.length-9+(7-i))+1 by omega,List.set_cons_succ,List.set_append_right _ _ (by simp),List.length_replicate,Nat.add_sub_cancel_left,show 8-i=(7-i)+1 by omega,List.replicate_succ',List.append_assoc,List.set_append_right _ _ (by simp),List.length_replicate,Nat.sub_self,show 8-(i+1)=7-i by omega]
 have e:(BK (8*xs.length) 8).drop (7-i)=Eo (8*xs.length) i::(BK (8*xs.length) 8).drop (7-i+1):=by
  rw [List.drop_eq_getElem_cons (by rw [Hg];omega)]
  congr 1
  simp only [BK,List.getElem_map,List.getElem_range]
  congr 1;omega
 rw [e]
 rfl
theorem AWr {off n:Nat} {xs:List Int} (hl:off+n≤xs.length) (hn:n≤35184372088832):UX off n xs=AA xs off n++List.replicate (Ap n-n) 0∧lG off n xs=IR (AA xs off n) 0:=by
 have hp:=K7 n
 have hw:(AA xs off n).length=n:=by unfold AA;rw [List.length_take,List.length_drop];omega
 have e:UX off n xs=AA xs off n++List.replicate (Ap n-n) 0:=by
  unfold UX UW
  rw [(ADJ hn).2,show Nat.min n (Ap n)=n from Nat.min_eq_left (by omega),List.take_zero,List.nil_append,Nat.zero_add,Nat.mul_one,List.drop_replicate]
  rfl
 refine ⟨e,?_⟩
 unfold lG
 rw [e,AWn,hw,show 0+(n:Int).toNat*1=n by omega,List.set_append_right _ _ (by omega),hw,Nat.sub_self,show Ap n-n=(Ap n-n-1)+1 by omega,List.replicate_succ,List.set_cons_zero]
 rfl
theorem AWs {off n m:Nat} {xs:List Int} (hl:off+n≤xs.length) (hn:n≤35184372088832):Ad Tryz.prog 161 [AI 0 off n m] (Au xs) 1 [] (AI 1 0 (Ap n) (Ap n)) [(1,some ⟨5,[.seq .u8 (CW (AA xs off n))],false⟩)]:=by
 have hp:=K7 n
 have hw:(AA xs off n).length=n:=by unfold AA;rw [List.length_take,List.length_drop];omega
 have hN:Ap n≤n+72:=by unfold Ap;omega
 obtain ⟨e1,e2⟩:=ADJ hn
 obtain ⟨e3,e4⟩:=AWr (off:=off) (n:=n) hl hn
 refine Av (path:=[]) Tryz.func161 (by kernel_rfl) (by kernel_rfl) fun β0 w0 h0=>?_
 refine Ae JG AB (AWk off n m xs) ?_ (AL (by kernel_rfl)) h0 (fun _ h=>by cases h) fun _=>?_
 ·have hh:AJ .i64 n=true:=by simp only [AJ,Bool.and_eq_true,decide_eq_true_eq];omega
  refine ⟨hh,rfl,?_,Nat.ble_eq_true_of_le ?_,Nat.ble_eq_true_of_le ?_,hh,decide_eq_true ⟨by omega,by omega⟩,decide_eq_true ?_,hh,trivial⟩
  ·rw [e1];unfold L_;exact decide_eq_true ⟨by omega,by omega,by omega,by omega⟩
  ·rw [e2,show Nat.min n (Ap n)=n from Nat.min_eq_left (by omega)];exact hl
  ·unfold UW;rw [e2,show Nat.min n (Ap n)=n from Nat.min_eq_left (by omega),List.length_replicate];omega
  ·rw [e3,List.length_append,hw,List.length_replicate];omega
 ·rw [e4,e1,e2,show AO false .u64 (8*AO false .u64 (n:Int))=((8*n:Nat):Int) by rw [CO,CO,IntKind.wrap_u64,IntKind.wrap_u64];omega]
  have loop:∀ r i,i+r=8→ASafe Tryz.prog 161 β0 w0 (Ay β0 w0 [] (AI 1 0 (Ap n) (Ap n)) [(1,some ⟨5,[.seq .u8 (CW (AA xs off n))],false⟩)]) Tryz.f161.ntmps [] (UY (Ap n:Nat) (Ap n) (IR (AA xs off n) i) (iA (i:Int)) (Qr ((8*n / 256^i:Nat):Int)) []):=by
   intro r
   induction r with
   | zero =>
    intro i hi
    obtain rfl:i=8:=by omega
    rw [AWo]
    exact Ab [false] (As JG AB Tryz.func161 (AWm ..) ⟨by decide,trivial⟩ (AL (by kernel_rfl)) h0 (fun _ h=>by cases h))
   | succ r ih =>
    intro i hi
    have ej:Qs (Ap n:Nat) i=((Ap n-1-i:Nat):Int):=by unfold Qs;rw [Am (z:=((Ap n:Nat):Int)-1) (by omega),Am (by omega)];omega
    refine Ab [true] (Ae JG AB (AWl ..) ?_ (AL (by kernel_rfl)) h0 (fun _ h=>by cases h) fun _=>?_)
    ·rw [ej,AWp _ (by omega),hw]
     exact ⟨decide_eq_true (by omega),decide_eq_true ⟨by omega,by omega⟩,decide_eq_true (by omega),decide_eq_true ⟨by decide,Int.natCast_nonneg _⟩,trivial⟩
    ·have ek:Int.fdiv ((8*n / 256^i:Nat):Int) (2^min (8:Int).toNat IntKind.u64.bits)=((8*n / 256^(i+1):Nat):Int):=by
      rw [show min (8:Int).toNat IntKind.u64.bits=8 from rfl,Int.fdiv_eq_ediv_of_nonneg _ (by decide),Nat.pow_succ,← Nat.div_div_eq_div_mul]
      rfl
     have ev:AO false .u8 ((8*n / 256^i:Nat):Int)=Eo (8*n) i:=by rw [CO,IntKind.wrap_u8];unfold Eo;omega
     have es:=AWq (AA xs off n) (show i<8 by omega)
     rw [hw] at es
     rw [ej,ek,ev,show 0+((Ap n-1-i:Nat):Int).toNat*1=Ap n-1-i by omega,es,Am (z:=(i:Int)+1) (by omega)]
     exact ih (i+1) (by omega)
  have:=loop 8 0 rfl
  rw [Nat.pow_zero,Nat.div_one] at this
  exact E_ this
def pdSp:ASpec:=fun args H fr path=>match args with
 | [S]=>match By S with
  | some (k,off,n)=>match AG H k with
   | some ⟨_,cs,_⟩=>match Ao .u8 cs with
    | some xs=>some (A5 [k] 1 fr 1 [] (AI 1 0 (Ap n) (Ap n)) [(1,some ⟨5,[.seq .u8 (CW (AA xs off n))],false⟩)] [(Nat.ble (off+n) xs.length,true),(Nat.ble n 35184372088832,true)] path)
    | none=>none
   | none=>none
  | none=>none
 | _=>none
theorem AWt:A6 Tryz.prog 161 pdSp:=by
 refine CS Tryz.func161 (by kernel_rfl) (by kernel_rfl) fun args H fr path r hs=>?_
 unfold pdSp at hs
 split at hs
 case h_2=>cases hs
 rename_i S
 split at hs
 case h_2=>cases hs
 rename_i k off n hS
 split at hs
 case h_2=>cases hs
 rename_i ty cs o hk
 split at hs
 case h_2=>cases hs
 rename_i xs hxs
 injection hs with hs
 refine ⟨[k],1,1,[],_,_,_,path,hs.symm,fun β us w ha hg hc=>?_⟩
 obtain ⟨u1,us1,r1,ha,rfl⟩:=ha
 obtain ⟨m,r1⟩:=DF hS r1
 obtain ⟨g1,g2,g3⟩:=Cx hg hk hxs
 exact ⟨[AI 0 off n m],Au xs,AWs (Nat.le_of_ble_eq_true hc.1) (Nat.le_of_ble_eq_true hc.2.1),by kernel_rfl,⟨u1,_,BS (by omega) rfl r1,ha,rfl⟩,g2,g3⟩
noncomputable def SSk:List (FuncId×ASpec):=(161,pdSp)::SSj
theorem AWu:AX Tryz.prog SSk:=⟨AWt,AWg⟩
def YN:AV:=.val true [.n .u32 1779033703,.n .u32 3144134277,.n .u32 1013904242,.n .u32 2773480762,.n .u32 1359893119,.n .u32 2600822924,.n .u32 528734635,.n .u32 1541459225]
theorem AWv:AR Tryz.prog oSi Tryz.f162 [] [] 100=some ([],YN):=by kernel_rfl
theorem AWw:AR Tryz.prog oSi Tryz.f175 [] [] 100=some ([],YN):=by kernel_rfl
noncomputable def bgV:AV:=.val true [.seq .u32 (l8 (A_ UV))]
theorem AWx {β β':Env} {u:Value} (h:AP β YN u):AP β' bgV u:=(Qm (k:=.u32) (xs:=l8 (A_ UV)) (by kernel_rfl) h).2 _
noncomputable def YO:List AV→Option AV
 | []=>some bgV
 | _=>none
theorem ADL {F:FuncId} (h:AU Tryz.prog F [] YN):∀ args v,YO args=some v→AU Tryz.prog F args v:=by
 intro args v hs
 unfold YO at hs
 split at hs
 case h_2=>cases hs
 injection hs with hs;subst hs
 exact C7 h fun u hu=>AWx hu
noncomputable def SSl:List (FuncId×ASpec):=(162,Aj YO)::(175,Aj YO)::SSk
theorem ADM:AX Tryz.prog SSl:=⟨Ak Tryz.func162 (by kernel_rfl) (by kernel_rfl) (ADL (AW JG AB Tryz.func162 AWv trivial rfl)),Ak Tryz.func175 (by kernel_rfl) (by kernel_rfl) (ADL (AW JG AB Tryz.func175 AWw trivial rfl)),AWu⟩
noncomputable abbrev oSl:Orc:=AH SSl KV
theorem K':OrcOk Tryz.prog oSl:=AK ADM A9
def JH (p:List Int):Nat→Nat→Nat
 | 0=>UV
 | k+1=>OS (wN (l8 (A_ (JH p k)))) (bN ((p.drop (64*k)).take 64))
def YP (xs:List Int) (i:Nat):Nat:=JH (CW xs) (Ap xs.length / 64) (i / 4) / 2^(24-8*(i % 4)) % 256
theorem AWy (xs:List Int) (i:Nat):YP xs i<256:=Nat.mod_lt _ (by decide)
def DA (xs:List Int):List Int:=(List.range 32).map fun i=>(YP xs i:Int)
theorem LA (xs:List Int):(DA xs).length=32:=rfl
theorem AWz (xs:List Int):∀ d∈DA xs,0≤d∧d<256:=by
 intro d hd
 obtain ⟨i,_,rfl⟩:=List.mem_map.1 hd
 have:=AWy xs i
 omega
def Hu (x:Option (List (Bool×Bool)×List Nat×AV×Heap)):AV:=match x with | some (_,_,v,_)=>v | none=>.any
def Ms (x:Option (List (Bool×Bool)×List Nat×AV×Heap)):Heap:=match x with | some (_,_,_,h)=>h | none=>[]
def o4B (x:Option (List (Bool×Bool)×List Nat×AV×Heap)):Bool:=match x with | some (c,[],_,_)=>OT c | _=>false
structure Outr (x:Option (List (Bool×Bool)×List Nat×AV×Heap)):Prop where
 ok:o4B x=true
theorem ADN {P:Program} {O:Orc} {f:FuncId} {fn:Func} {β0:Env} {w0:World} {n:Fz} {W:List Nat} (hO:OrcOk P O) (hm:P.follows .mixedOrders=true) (hfn:P.funcs[f]? = some fn) {fuel k0:Nat} {ks:List Nat} {x:ASt}
  (h:Outr (AM P O fn fuel k0 ks x)) (hwf:B4 n x.s) (h0:∀ b,k0≤b→β0 b=none) (hD:n.D=[]:=by rfl):ASafe P f β0 w0 (Ay β0 w0 W (Hu (AM P O fn fuel k0 ks x)) (Ms (AM P O fn fuel k0 ks x))) n W x:=by
 obtain ⟨h1⟩:=h
 generalize e:AM P O fn fuel k0 ks x=y at *
 cases y with
 | none=>cases h1
 | some v =>
  obtain ⟨c,k,v,H⟩:=v
  cases k with
  | nil=>exact As hO hm hfn e (Qi h1) hwf h0 (fun _ h=>by cases h) hD
  | cons=>cases h1
theorem ADO {β0:Env} {w0:World} {W:List Nat} {v v':AV} {H:Heap} (h:∀ β u,AP β v u→AP β v' u) {e:Ending} {w:World} (ho:Ay β0 w0 W v H e w):Ay β0 w0 W v' H e w:=by
 obtain ⟨u,β,q,o⟩:=ho
 exact ⟨u,β,q,{ o with val:=h _ _ o.val }⟩
noncomputable def smE (off n m:Nat) (xs:List Int):ASt:=Af Tryz.f98 [AI 0 off n m] (Au xs) 1 []
abbrev YQ:Option (List Nat×List Nat×Nat):=some ([2,3,4],[1,2,3],4)
noncomputable def Mt (off n m:Nat) (xs:List Int):ASt:=EZ (AS Tryz.prog oSl (some 0) 100 1 YQ (smE off n m xs))
noncomputable def smT:List Item:=(Mt 0 0 0 []).todo
noncomputable def Mu (off L:Nat) (P:List Int) (s:Nat→Int) (p:List Bool):ASt:=⟨smT,⟨C8 Tryz.f98.ntmps [(2,.val false [.p 1 0]),(3,AI 2 off L L),(4,.val false [.p 3 0])],[(1,some ⟨122,List.replicate 32 (.n .u8 0),false⟩),(2,some ⟨5,[.seq .u8 P],true⟩),(3,some ⟨173,[.seq .u32 (l8 s)],false⟩)],4,p⟩⟩
theorem AW2 (off n m:Nat) (xs:List Int):AS Tryz.prog oSl (some 0) 100 1 YQ (smE off n m xs)=some ((Nat.ble (off+n) xs.length,true)::(Nat.ble n 35184372088832,true)::[],[],Mt off n m xs):=by kernel_rfl
theorem AW3 (off n m:Nat) (xs:List Int):AG (Mt off n m xs).s.H 2=some ⟨5,[.seq .u8 (CW (AA xs off n))],false⟩:=by kernel_rfl
theorem AW4 (off n m:Nat) (xs:List Int):(⟨(Mt off n m xs).todo,⟨(Mt off n m xs).s.T,Qp 2 (Mt off n m xs).s.H,(Mt off n m xs).s.fr,(Mt off n m xs).s.path⟩⟩:ASt)=Mu 0 (Ap n) (CW (AA xs off n)) (A_ UV) []:=by kernel_rfl
def lH (off L:Nat) (P:List Int) (b:Bool):List (Bool×Bool):=(AJ .i64 L,true)::(decide ((0:Int)<L),true)::(decide ((0:Int)≤64∧(64:Int)≤L),true)::(true,true)::(true,true)::(Nat.ble (off+64) P.length,true)::(true,true)::(Nat.beq ((P.drop off).take 64).length 64,true)::(decide ((0:Int)≤64∧(64:Int)≤L),true)::(Nat.beq L (64:Int).toNat,b)::[]
def lI (s:Nat→Int) (P:List Int) (off:Nat):Nat→Int:=A_ (OS (wN (l8 s)) (bN ((P.drop off).take 64)))
theorem AW5 (off L:Nat) (P:List Int) (s:Nat→Int):AS Tryz.prog oSl (some 0) 100 1 YQ (Mu off L P s [true,false])=some (lH off L P false,[],Mu (off+(64:Int).toNat*1) (L-(64:Int).toNat) P (lI s P off) []):=by kernel_rfl
theorem AW6 (off L:Nat) (P:List Int) (s:Nat→Int):AS Tryz.prog oSl (some 0) 100 1 YQ (Mu off L P s [true,true])=some (lH off L P true,[],Mu off (L-(64:Int).toNat) P (lI s P off) []):=by kernel_rfl
noncomputable def OV (off:Nat) (P:List Int) (s:Nat→Nat):=AM Tryz.prog oSl Tryz.f98 1000 1 [] (Mu off 0 P (A_ s) [false])
theorem AW7 (off:Nat) (P:List Int) (s:Nat→Nat):Outr (OV off P s):=⟨by kernel_rfl⟩
def lJ (s:Nat→Int):List Int:=(List.range 32).map fun i=>AO false .u8 (JC (s (i / 4)) ((24-8*(i % 4):Nat):Int))
def YR:AV→List Ch
 | .val true cs=>cs
 | _=>[]
theorem AW8 (off:Nat) (P:List Int) (s:Nat→Nat):Hu (OV off P s)=.val true (YR (Hu (OV off P s))):=by kernel_rfl
theorem AW9 (off:Nat) (P:List Int) (s:Nat→Nat):Ao .u8 (YR (Hu (OV off P s)))=some (lJ (A_ s)):=by kernel_rfl
theorem AW_ (off:Nat) (P:List Int) (s:Nat→Nat):Ms (OV off P s)=[]:=by kernel_rfl
theorem ADQ (s:Nat→Nat):lJ (A_ s)=(List.range 32).map fun i=>((s (i / 4) / 2^(24-8*(i % 4)) % 256:Nat):Int):=by
 refine List.map_congr_left fun i _=>?_
 unfold A_
 rw [UO _ _ (by omega),CO,IntKind.wrap_u8]
 omega
theorem ADR {A:AV} {cs:List Ch} {k:IntKind} {xs:List Int} (h1:A=.val true cs) (h2:Ao k cs=some xs) (β:Env) (u:Value) (hr:AP β A u):AP β (.val true [.seq k xs]) u:=by
 subst h1
 exact (Qm h2 hr).2 _
theorem lK {P:Program} {f:FuncId} {β0:Env} {w0:World} {R R':Ending→World→Prop} {W:List Nat} {n:Fz} {x:ASt} (h:ASafe P f β0 w0 R n W x) (hv:∀ e w,R e w→R' e w):ASafe P f β0 w0 R' n W x:=by
 intro β a w hi hf b cs q1 q2
 obtain ⟨e',w',fr,q5,q4⟩:=h β a w hi hf b cs q1 q2
 exact ⟨e',w',fr,hv _ _ q5,q4⟩
theorem AW' {β0:Env} {w0:World} (h0:∀ b,1≤b→β0 b=none) (off:Nat) (P:List Int) (s:Nat→Nat) :
  ASafe Tryz.prog 98 β0 w0 (Ay β0 w0 [] (.val true [.seq .u8 ((List.range 32).map fun i=>((s (i / 4) / 2^(24-8*(i % 4)) % 256:Nat):Int))]) []) Tryz.f98.ntmps [] (Mu off 0 P (A_ s) [false]):=by
 have:=ADN (P:=Tryz.prog) (n:=Tryz.f98.ntmps) (β0:=β0) (w0:=w0) (W:=[]) K' AB Tryz.func98 (AW7 off P s) (AL (by kernel_rfl)) h0
 refine lK this fun e w ho=>?_
 have ho:Ay β0 w0 [] (Hu (OV off P s)) (Ms (OV off P s)) e w:=ho
 rw [AW_] at ho
 rw [← ADQ s]
 exact ADO (ADR (AW8 off P s) (AW9 off P s)) ho
theorem ADS {off L:Nat} {P:List Int} {b:Bool} (h1:64≤L) (h2:off+L≤P.length) (h3:L≤281474976710656) (hb:Nat.beq L 64=b):AQ (lH off L P b):=by
 refine ⟨?_,decide_eq_true (by omega),decide_eq_true ⟨by decide,by omega⟩,rfl,rfl,Nat.ble_eq_true_of_le (by omega),rfl,An.2 ?_,decide_eq_true ⟨by decide,by omega⟩,hb,trivial⟩
 ·simp only [AJ,Bool.and_eq_true,decide_eq_true_eq];omega
 ·rw [List.length_take,List.length_drop];omega
theorem AXA {off n m:Nat} {xs:List Int} (hl:off+n≤xs.length) (hn:n≤35184372088832):Ad Tryz.prog 98 [AI 0 off n m] (Au xs) 1 [] (.val true [.seq .u8 (DA (AA xs off n))]) []:=by
 have hw:(AA xs off n).length=n:=by unfold AA;rw [List.length_take,List.length_drop];omega
 have hK:Ap n=64*(Ap n / 64):=by unfold Ap;omega
 have hp:=K7 n
 have hN:Ap n≤n+72:=by unfold Ap;omega
 have hlen:=ACt (AA xs off n)
 rw [hw] at hlen
 refine Av (path:=[]) Tryz.func98 (by kernel_rfl) (by kernel_rfl) fun β0 w0 h0=>?_
 refine Ae K' AB (AW2 off n m xs) ⟨Nat.ble_eq_true_of_le hl,Nat.ble_eq_true_of_le hn,trivial⟩ (AL (by kernel_rfl)) h0 (fun _ h=>by cases h) fun _=>?_
 refine AWi (AW3 off n m xs) ?_
 rw [AW4]
 have loop:∀ r k,1≤r→k+r=Ap n / 64→ASafe Tryz.prog 98 β0 w0 (Ay β0 w0 [] (.val true [.seq .u8 (DA (AA xs off n))]) []) Tryz.f98.ntmps [] (Mu (64*k) (Ap n-64*k) (CW (AA xs off n)) (A_ (JH (CW (AA xs off n)) k)) []):=by
  intro r
  induction r with
  | zero=>intro k h;omega
  | succ r ih =>
   intro k _ hk
   cases r with
   | zero =>
    refine Ab [true,true] (Ae K' AB (AW6 ..) (ADS (by omega) (by omega) (by omega) (An.2 (by omega))) (AL (by kernel_rfl)) h0 (fun _ h=>by cases h) fun _=>?_)
    rw [show Ap n-64*k-(64:Int).toNat=0 by rw [show (64:Int).toNat=64 from rfl];omega]
    have e:lI (A_ (JH (CW (AA xs off n)) k)) (CW (AA xs off n)) (64*k)=A_ (JH (CW (AA xs off n)) (Ap n / 64)):=by rw [← hk];rfl
    rw [e]
    have:=AW' h0 (64*k) (CW (AA xs off n)) (JH (CW (AA xs off n)) (Ap n / 64)) (w0:=w0)
    unfold DA YP
    rw [hw]
    exact Ab [false] this
   | succ r =>
    refine Ab [true,false] (Ae K' AB (AW5 ..) (ADS (by omega) (by omega) (by omega) ?_) (AL (by kernel_rfl)) h0 (fun _ h=>by cases h) fun _=>?_)
    ·cases q:Nat.beq (Ap n-64*k) 64 with
     | false=>rfl
     | true=>have:=An.1 q;omega
    ·have:=ih (k+1) (by omega) (by omega)
     rw [show 64*(k+1)=64*k+(64:Int).toNat*1 by rw [show (64:Int).toNat=64 from rfl];omega,show Ap n-(64*k+(64:Int).toNat*1)=Ap n-64*k-(64:Int).toNat by rw [show (64:Int).toNat=64 from rfl];omega] at this
     exact this
 have:=loop (Ap n / 64) 0 (by omega) (by omega)
 exact this
def sumSp:ASpec:=fun args H fr path=>match args with
 | [S]=>match By S with
  | some (k,off,n)=>match AG H k with
   | some ⟨_,cs,_⟩=>match Ao .u8 cs with
    | some xs=>some (A5 [k] 1 fr 0 [] (.val true [.seq .u8 (DA (AA xs off n))]) [] [(Nat.ble (off+n) xs.length,true),(Nat.ble n 35184372088832,true)] path)
    | none=>none
   | none=>none
  | none=>none
 | _=>none
theorem ADT {F:FuncId} {fn:Func} (hfn:Tryz.prog.funcs[F]? = some fn) (hb:fn.body.isSome=true) (hname:(fn.name=="runtime.NumGoroutine")=false) (hcan:∀ {off n m:Nat} {xs:List Int},(∀ d∈xs,0≤d∧d<256)→off+n≤xs.length→n≤35184372088832→Ad Tryz.prog F [AI 0 off n m] (Au xs) 1 [] (.val true [.seq .u8 (DA (AA xs off n))]) []):A6 Tryz.prog F sumSp:=by
 refine CS hfn hb hname fun args H fr path r hs=>?_
 unfold sumSp at hs
 split at hs
 case h_2=>cases hs
 rename_i S
 split at hs
 case h_2=>cases hs
 rename_i k off n hS
 split at hs
 case h_2=>cases hs
 rename_i ty cs o hk
 split at hs
 case h_2=>cases hs
 rename_i xs hxs
 injection hs with hs
 refine ⟨[k],1,0,[],_,_,_,path,hs.symm,fun β us w ha hg hc=>?_⟩
 obtain ⟨u1,us1,r1,ha,rfl⟩:=ha
 obtain ⟨m,r1⟩:=DF hS r1
 obtain ⟨g1,g2,g3⟩:=Cx hg hk hxs
 exact ⟨[AI 0 off n m],Au xs,hcan g1 (Nat.le_of_ble_eq_true hc.1) (Nat.le_of_ble_eq_true hc.2.1),rfl,⟨u1,_,BS (by omega) rfl r1,ha,rfl⟩,g2,g3⟩
noncomputable def SSm:List (FuncId×ASpec):=(98,sumSp)::SSl
theorem AXB:AX Tryz.prog SSm:=⟨ADT Tryz.func98 (by kernel_rfl) (by kernel_rfl) fun _=>AXA,ADM⟩
noncomputable def ADU (off n m:Nat) (xs:List Int):ASt:=Af Tryz.f174 [AI 0 off n m] (Au xs) 1 []
noncomputable def lL:List Item:=Be (AS Tryz.prog oSl (some 0) 100 1 none (ADU 0 0 0 []))
noncomputable def lM (off n m:Nat) (s:AV):List AV:=C8 Tryz.f174.ntmps [(0,AI 0 off n m),(3,s)]
def lN (xs ys:List Int):Heap:=[(0,some (Ai [.seq .u8 xs])),(1,some ⟨5,[.seq .u8 ys],true⟩)]
noncomputable def YS (off n m:Nat) (xs ys:List Int) (L:Nat) (p:List Bool):ASt:=⟨lL,⟨lM off n m (.val false [.sx 1 L 1]),lN xs ys,2,p⟩⟩
noncomputable def ADV:List Item:=Be (AS Tryz.prog oSl (some 0) 100 1 none (YS 0 0 0 [] [] 0 [false]))
noncomputable def ADW (s i:AV) (k:Int):List AV:=C8 Tryz.f174.ntmps [(3,s),(4,Qr k),(5,i)]
def Mv (ys:List Int):Heap:=[(1,some ⟨5,[.seq .u8 ys],true⟩)]
noncomputable def UZ (ys:List Int) (L:Nat) (k:Int) (i:AV) (p:List Bool):ASt:=⟨ADV,⟨ADW (.val false [.sx 1 L 1]) i k,Mv ys,2,p⟩⟩
def DO (L:Nat):Bool:=decide (1≤1∧2*L*1≤281474976710656)
theorem AXC (off n m:Nat) (xs:List Int):AS Tryz.prog oSl (some 0) 100 1 (some ([0,3],[0,4],5)) (ADU off n m xs) =
 some ((true,true)::(Nat.ble (off+n) xs.length,true)::(DO (0+n),true)::(Nat.ble (0+n) ([]++(xs.drop off).take n).length,true)::(DO (0+n+1),true)::[],[],⟨lL,⟨E7 (Bt 1 [4]) (lM off n m (.val false [.sx 1 (0+n+1) 1])),EL (Bt 1 [4]) (lN xs (([]++(xs.drop off).take n).take (0+n)++[128])),5,[]⟩⟩):=by kernel_rfl
theorem AXD (off n m:Nat) (xs ys:List Int) (L:Nat):AS Tryz.prog oSl (some 0) 100 1 (some ([0,3],[0,3],4)) (YS off n m xs ys L [true]) =
 some ((AJ .i64 L,true)::(true,true)::(!decide (Int.tmod (L:Int) 64=56),true)::(Nat.ble L ys.length,true)::(DO (L+1),true)::[],[],⟨lL,⟨E7 (Bt 1 [3]) (lM off n m (.val false [.sx 1 (L+1) 1])),EL (Bt 1 [3]) (lN xs (ys.take L++[0])),4,[]⟩⟩):=by kernel_rfl
theorem AXE (off n m:Nat) (xs ys:List Int) (L:Nat):AS Tryz.prog oSl (some 0) 100 1 (some ([3,4,5],[1],2)) (YS off n m xs ys L [false]) =
 some ((AJ .i64 L,true)::(true,true)::(!decide (Int.tmod (L:Int) 64=56),false)::(AJ .i64 n,true)::[],[],UZ ys L (AO false .u64 (8*AO false .u64 n)) (.val false [.n .i64 7]) []):=by kernel_rfl
def lO (k i:Int):Int:=AO false .u8 (Int.fdiv k (2^min (AO false .u64 (wI (8*i))).toNat IntKind.u64.bits))
theorem AXF (ys:List Int) (L:Nat) (k i:Int):AS Tryz.prog oSl (some 0) 100 1 (some ([3,4,5],[3],4)) (UZ ys L k (iA i) [true]) =
 some ((decide (0≤i),true)::(decide (0≤AO false .u64 (wI (8*i))∧0≤k),true)::(Nat.ble L ys.length,true)::(DO (L+1),true)::[],[],⟨ADV,⟨E7 (Bt 1 [3]) (ADW (.val false [.sx 1 (L+1) 1]) (iA (wI (i-1))) k),EL (Bt 1 [3]) (Mv (ys.take L++[lO k i])),4,[]⟩⟩):=by kernel_rfl
theorem AXG (ys:List Int) (L:Nat) (k i:Int):AM Tryz.prog oSl Tryz.f174 100 1 [1] (UZ ys L k (iA i) [false])=some ([(decide (0≤i),false)],[],.val false [.sx 1 L 1],Mv ys):=by kernel_rfl
def IS (xs:List Int) (j:Nat):List Int:=xs++128::List.replicate j 0
theorem lP (xs:List Int) (j:Nat):(IS xs j).length=xs.length+1+j:=by unfold IS;simp;omega
theorem AXH (xs:List Int) (j:Nat):IS xs j++[0]=IS xs (j+1):=by
 unfold IS
 rw [List.replicate_succ',List.append_assoc];rfl
theorem AXI (xs:List Int) {c:Nat} (h:c<8) (A:Nat):xs++(BK A 8).take c++[Eo A (7-c)]=xs++(BK A 8).take (c+1):=by
 rw [List.append_assoc,List.take_succ_eq_append_getElem (by rw [Hg];exact h)]
 congr 2
 simp only [BK,List.getElem_map,List.getElem_range]
theorem DV {L:Nat} (h:L≤140737488355328):DO L=true:=decide_eq_true ⟨Nat.le_refl _,by omega⟩
theorem AXJ {off n m:Nat} {xs:List Int} (hl:off+n≤xs.length) (hn:n≤35184372088832):Ad Tryz.prog 174 [AI 0 off n m] (Au xs) 1 [] (.val false [.sx 1 (Ap n) 1]) (Mv (CW (AA xs off n))):=by
 have hw:(AA xs off n).length=n:=by unfold AA;rw [List.length_take,List.length_drop];omega
 have hp:=K7 n
 have hN:Ap n≤n+72:=by unfold Ap;omega
 have hh:∀ L:Nat,L≤70368744177664→AJ .i64 L=true:=fun L h=>by simp only [AJ,Bool.and_eq_true,decide_eq_true_eq];omega
 refine Av (path:=[]) Tryz.func174 (by kernel_rfl) (by kernel_rfl) fun β0 w0 h0=>?_
 have h0':∀ b,1≤b→β0 b=none:=h0
 have loop2:∀ r c,c+r=8→ASafe Tryz.prog 174 β0 w0 (Ay β0 w0 [] (.val false [.sx 1 (Ap n) 1]) (Mv (CW (AA xs off n)))) Tryz.f174.ntmps [] (UZ (IS (AA xs off n) (Ap n-n-9)++(BK (8*n) 8).take c) (Ap n-8+c) ((8*n:Nat):Int) (iA (7-(c:Int))) []):=by
  intro r
  induction r with
  | zero =>
   intro c hc
   obtain rfl:c=8:=by omega
   have e:IS (AA xs off n) (Ap n-n-9)++(BK (8*n) 8).take 8=CW (AA xs off n):=by
    unfold IS CW
    rw [hw,List.take_of_length_le (by rw [Hg];exact Nat.le_refl _),List.append_assoc];rfl
   rw [e,show Ap n-8+8=Ap n by omega]
   exact Ab [false] (As K' AB Tryz.func174 (AXG ..) ⟨by decide,trivial⟩ (AL (by kernel_rfl)) h0 (fun _ h=>by cases h))
  | succ r ih =>
   intro c hc
   have ei:(7:Int)-(c:Int)=((7-c:Nat):Int):=by omega
   have e8:AO false .u64 (wI (8*((7-c:Nat):Int)))=((8*(7-c):Nat):Int):=by rw [Am (by omega),CO,IntKind.wrap_u64];omega
   have hlen:(IS (AA xs off n) (Ap n-n-9)++(BK (8*n) 8).take c).length=Ap n-8+c:=by
    rw [List.length_append,lP,hw,List.length_take,Hg];omega
   refine Ab [true] (Ae K' AB (AXF ..) ?_ (AL (by kernel_rfl)) h0 (fun _ h=>by cases h) fun _=>?_)
   ·rw [ei,e8,hlen]
    exact ⟨decide_eq_true (by omega),decide_eq_true ⟨by omega,by omega⟩,Nat.ble_eq_true_of_le (Nat.le_refl _),DV (by omega),trivial⟩
   ·refine FO (m:=2) (by kernel_rfl) h0 ?_
    have ev:lO ((8*n:Nat):Int) (7-(c:Int))=Eo (8*n) (7-c):=by
     unfold lO Eo
     rw [ei,e8,Int.toNat_natCast,show min (8*(7-c)) IntKind.u64.bits=8*(7-c) from Nat.min_eq_left (by show 8*(7-c)≤64;omega),Int.fdiv_eq_ediv_of_nonneg _ (by exact_mod_cast Nat.zero_le (2^(8*(7-c)))),CO,IntKind.wrap_u8,KA]
     have:((8*n:Nat):Int) / (2^(8*(7-c)))=((8*n / 2^(8*(7-c)):Nat):Int):=by rw [Int.natCast_ediv,Int.natCast_pow];rfl
     rw [this];omega
    rw [ev,List.take_of_length_le (by rw [hlen];exact Nat.le_refl _),AXI _ (by omega),Am (z:=(7:Int)-(c:Int)-1) (by omega)]
    have:=ih (c+1) (by omega)
    rw [show (7:Int)-((c+1:Nat):Int)=7-(c:Int)-1 by omega] at this
    exact this
 have mid:ASafe Tryz.prog 174 β0 w0 (Ay β0 w0 [] (.val false [.sx 1 (Ap n) 1]) (Mv (CW (AA xs off n)))) Tryz.f174.ntmps [] (UZ (IS (AA xs off n) (Ap n-n-9)) (Ap n-8) ((8*n:Nat):Int) (.val false [.n .i64 7]) []):=by
  have:=loop2 8 0 rfl
  rw [List.take_zero,List.append_nil] at this
  exact E_ this
 have loop1:∀ r j,n+1+j+r=Ap n-8→ASafe Tryz.prog 174 β0 w0 (Ay β0 w0 [] (.val false [.sx 1 (Ap n) 1]) (Mv (CW (AA xs off n)))) Tryz.f174.ntmps [] (YS off n m xs (IS (AA xs off n) j) (n+1+j) []):=by
  intro r
  induction r with
  | zero =>
   intro j hj
   have ht:Int.tmod ((n+1+j:Nat):Int) 64=56:=by
    rw [Int.tmod_eq_emod_of_nonneg (by omega)];unfold Ap at hj;omega
   refine Ab [false] (Ae K' AB (AXE ..) ⟨hh _ (by omega),rfl,by rw [decide_eq_true ht];rfl,hh _ (by omega),trivial⟩ (AL (by kernel_rfl)) h0 (fun _ h=>by cases h) fun _=>?_)
   rw [show AO false .u64 (8*AO false .u64 (n:Int))=((8*n:Nat):Int) by rw [CO,CO,IntKind.wrap_u64,IntKind.wrap_u64];omega,show j=Ap n-n-9 by omega,show n+1+(Ap n-n-9)=Ap n-8 by omega]
   exact mid
  | succ r ih =>
   intro j hj
   have ht:Int.tmod ((n+1+j:Nat):Int) 64≠56:=by
    rw [Int.tmod_eq_emod_of_nonneg (by omega)];unfold Ap at hj;omega
   refine Ab [true] (Ae K' AB (AXD ..) ⟨hh _ (by omega),rfl,by rw [decide_eq_false ht];rfl,Nat.ble_eq_true_of_le (by rw [lP,hw];exact Nat.le_refl _),DV (by omega),trivial⟩ (AL (by kernel_rfl)) h0 (fun _ h=>by cases h) fun _=>?_)
   refine FO (m:=2) (by kernel_rfl) h0 ?_
   rw [List.take_of_length_le (by rw [lP,hw];exact Nat.le_refl _),AXH]
   exact ih (j+1) (by omega)
 refine Ae K' AB (AXC off n m xs) ⟨rfl,Nat.ble_eq_true_of_le hl,DV (by omega),Nat.ble_eq_true_of_le ?_,DV (by omega),trivial⟩ (AL (by kernel_rfl)) h0 (fun _ h=>by cases h) fun _=>?_
 ·rw [List.nil_append,List.length_take,List.length_drop];omega
 ·refine FO (m:=2) (by kernel_rfl) h0 ?_
  rw [List.nil_append,List.take_of_length_le (l:=(xs.drop off).take n) (by rw [List.length_take];omega),Nat.zero_add]
  exact loop1 (Ap n-8-(n+1)) 0 (by omega)
def rpadSp:ASpec:=fun args H fr path=>match args with
 | [S]=>match By S with
  | some (k,off,n)=>match AG H k with
   | some ⟨_,cs,_⟩=>match Ao .u8 cs with
    | some xs=>some (A5 [k] 1 fr 1 [] (.val false [.sx 1 (Ap n) 1]) (Mv (CW (AA xs off n))) [(Nat.ble (off+n) xs.length,true),(Nat.ble n 35184372088832,true)] path)
    | none=>none
   | none=>none
  | none=>none
 | _=>none
theorem AXK:A6 Tryz.prog 174 rpadSp:=by
 refine CS Tryz.func174 (by kernel_rfl) (by kernel_rfl) fun args H fr path r hs=>?_
 unfold rpadSp at hs
 split at hs
 case h_2=>cases hs
 rename_i S
 split at hs
 case h_2=>cases hs
 rename_i k off n hS
 split at hs
 case h_2=>cases hs
 rename_i ty cs o hk
 split at hs
 case h_2=>cases hs
 rename_i xs hxs
 injection hs with hs
 refine ⟨[k],1,1,[],_,_,_,path,hs.symm,fun β us w ha hg hc=>?_⟩
 obtain ⟨u1,us1,r1,ha,rfl⟩:=ha
 obtain ⟨m,r1⟩:=DF hS r1
 obtain ⟨g1,g2,g3⟩:=Cx hg hk hxs
 exact ⟨[AI 0 off n m],Au xs,AXJ (Nat.le_of_ble_eq_true hc.1) (Nat.le_of_ble_eq_true hc.2.1),by kernel_rfl,⟨u1,_,BS (by omega) rfl r1,ha,rfl⟩,g2,g3⟩
noncomputable def SSn:List (FuncId×ASpec):=(174,rpadSp)::SSm
theorem ADX:AX Tryz.prog SSn:=⟨AXK,AXB⟩
noncomputable abbrev oSn:Orc:=AH SSn KV
theorem lR:OrcOk Tryz.prog oSn:=AK ADX A9
noncomputable def ADY (off n m:Nat) (xs:List Int):ASt:=Af Tryz.f112 [AI 0 off n m] (Au xs) 1 []
abbrev lS:Option (List Nat×List Nat×Nat):=some ([2,3,4,5],[1,2,3],4)
noncomputable def Mw (off n m:Nat) (xs:List Int):ASt:=EZ (AS Tryz.prog oSn (some 0) 100 1 lS (ADY off n m xs))
noncomputable def AXL:List Item:=(Mw 0 0 0 []).todo
noncomputable def Qt (N:Nat) (P:List Int) (s:Nat→Int) (i:Int) (p:List Bool):ASt:=⟨AXL,⟨C8 Tryz.f112.ntmps [(2,.val false [.p 1 0]),(3,.val false [.sx 2 N 1]),(4,.val false [.p 3 0]),(5,iA i)],[(1,some ⟨122,List.replicate 32 (.n .u8 0),false⟩),(2,some ⟨5,[.seq .u8 P],true⟩),(3,some ⟨173,[.seq .u32 (l8 s)],false⟩)],4,p⟩⟩
theorem AXM (off n m:Nat) (xs:List Int):AS Tryz.prog oSn (some 0) 100 1 lS (ADY off n m xs)=some ((Nat.ble (off+n) xs.length,true)::(Nat.ble n 35184372088832,true)::[],[],Mw off n m xs):=by kernel_rfl
theorem AXN (off n m:Nat) (xs:List Int):(⟨(Mw off n m xs).todo,⟨(Mw off n m xs).s.T.map EF,(Mw off n m xs).s.H,(Mw off n m xs).s.fr,(Mw off n m xs).s.path⟩⟩:ASt)=Qt (Ap n) (CW (AA xs off n)) (A_ UV) 0 []:=by kernel_rfl
def Mx (i:Int) (j:Nat):Int:=wI (i+(j:Int))
def YT (N len:Nat) (i:Int):Nat→Nat→List (Bool×Bool)
 | 0,_=>[(true,true),(true,true)]
 | f+1,j=>(decide (0≤Mx i j∧Mx i j<N),true)::(decide (0+(Mx i j).toNat*1<len),true)::YT N len i f (j+1)
def lU (P:List Int) (i:Int):List Int:=(List.range 64).map fun j=>P.getD (0+(Mx i j).toNat*1) 0
def lV (s:Nat→Int) (P:List Int) (i:Int):Nat→Int:=A_ (OS (wN (l8 s)) (bN (lU P i)))
theorem AXO (N:Nat) (P:List Int) (s:Nat→Int) (i:Int):AS Tryz.prog oSn (some 4) 3000 1 lS (Qt N P s i [true])=some ((AJ .i64 N,true)::(decide (wI (i+64)≤N),true)::YT N P.length i 64 0,[],Qt N P (lV s P i) (wI (i+64)) []):=by kernel_rfl
noncomputable def OW (N:Nat) (P:List Int) (s:Nat→Nat) (i:Int):=AM Tryz.prog oSn Tryz.f112 1000 1 [] (Qt N P (A_ s) i [false])
def YU:List (Bool×Bool)→List (Bool×Bool)
 | _::_::r=>r
 | _=>[]
def lW (x:Option (List (Bool×Bool)×List Nat×AV×Heap)):List (Bool×Bool):=match x with | some (c,_,_,_)=>c | none=>[]
def o4K (x:Option (List (Bool×Bool)×List Nat×AV×Heap)):List Nat:=match x with | some (_,k,_,_)=>k | none=>[0]
def o4I (x:Option (List (Bool×Bool)×List Nat×AV×Heap)):Bool:=match x with | some _=>true | none=>false
structure Outc (x:Option (List (Bool×Bool)×List Nat×AV×Heap)) (a b:Bool×Bool):Prop where
 io:o4I x=true
 ky:o4K x=[]
 co:lW x=a::b::YU (lW x)
 cd:OT (YU (lW x))=true
theorem AXR {P:Program} {O:Orc} {f:FuncId} {fn:Func} {β0:Env} {w0:World} {n:Fz} {W:List Nat} (hO:OrcOk P O) (hm:P.follows .mixedOrders=true) (hfn:P.funcs[f]? = some fn) {fuel k0:Nat} {ks:List Nat} {x:ASt} {a b:Bool×Bool}
  (h:Outc (AM P O fn fuel k0 ks x) a b) (ha:a.1=a.2) (hb:b.1=b.2) (hwf:B4 n x.s) (h0:∀ b,k0≤b→β0 b=none) (hD:n.D=[]:=by rfl):ASafe P f β0 w0 (Ay β0 w0 W (Hu (AM P O fn fuel k0 ks x)) (Ms (AM P O fn fuel k0 ks x))) n W x:=by
 obtain ⟨h1,h2,h3,h4⟩:=h
 generalize e:AM P O fn fuel k0 ks x=y at *
 cases y with
 | none=>cases h1
 | some v =>
  obtain ⟨c',k,v,H⟩:=v
  have h2:k=[]:=h2
  have h3':c'=a::b::YU c':=h3
  subst h2
  refine As hO hm hfn e ?_ hwf h0 (fun _ h=>by cases h) hD
  have h5:AQ (a::b::YU c'):=⟨ha,hb,Qi h4⟩
  rwa [← h3'] at h5
theorem AXS {P:Program} {f:FuncId} {β0:Env} {w0:World} {R:Ending→World→Prop} {n:Nat} {W:List Nat} {x:ASt} (h:ASafe P f β0 w0 R n W ⟨x.todo,⟨x.s.T.map EF,x.s.H,x.s.fr,x.s.path⟩⟩):ASafe P f β0 w0 R n W x:=E_ (T:=x.s.T) h
theorem AXT (N:Nat) (P:List Int) (s:Nat→Nat) (i:Int):Outc (OW N P s i) (AJ .i64 N,true) (decide (wI (i+64)≤N),false):=⟨by kernel_rfl,by kernel_rfl,by kernel_rfl,by kernel_rfl⟩
theorem AXU (N:Nat) (P:List Int) (s:Nat→Nat) (i:Int):Hu (OW N P s i)=.val true (YR (Hu (OW N P s i))):=by kernel_rfl
theorem AXV (N:Nat) (P:List Int) (s:Nat→Nat) (i:Int):Ao .u8 (YR (Hu (OW N P s i)))=some (lJ (A_ s)):=by kernel_rfl
theorem AXW (N:Nat) (P:List Int) (s:Nat→Nat) (i:Int):Ms (OW N P s i)=[]:=by kernel_rfl
theorem AXX {β0:Env} {w0:World} (h0:∀ b,1≤b→β0 b=none) {N:Nat} (P:List Int) (s:Nat→Nat) {i:Int} (hN:AJ .i64 N=true) (hi:decide (wI (i+64)≤N)=false) :
  ASafe Tryz.prog 112 β0 w0 (Ay β0 w0 [] (.val true [.seq .u8 ((List.range 32).map fun i=>((s (i / 4) / 2^(24-8*(i % 4)) % 256:Nat):Int))]) []) Tryz.f112.ntmps [] (Qt N P (A_ s) i [false]):=by
 have:=AXR (P:=Tryz.prog) (n:=Tryz.f112.ntmps) (β0:=β0) (w0:=w0) (W:=[]) lR AB Tryz.func112 (AXT N P s i) hN hi (AL (by kernel_rfl)) h0
 refine lK this fun e w ho=>?_
 have ho:Ay β0 w0 [] (Hu (OW N P s i)) (Ms (OW N P s i)) e w:=ho
 rw [AXW] at ho
 rw [← ADQ s]
 exact ADO (ADR (AXU N P s i) (AXV N P s i)) ho
theorem ADZ {N len:Nat} {i:Nat} (hN:N≤281474976710656) (hl:N≤len):∀ f j,i+j+f≤N→AQ (YT N len (i:Int) f j)
 | 0,_,_=>⟨rfl,rfl,trivial⟩
 | f+1,j,h=>by
  have e:Mx (i:Int) j=((i+j:Nat):Int):=by unfold Mx;rw [Am (by omega)];omega
  rw [YT,e]
  exact ⟨decide_eq_true ⟨by omega,by omega⟩,decide_eq_true (by omega),ADZ hN hl f (j+1) (by omega)⟩
theorem AXY {P:List Int} {i:Nat} (h:i+64≤P.length) (hP:P.length≤281474976710656):lU P (i:Int)=(P.drop i).take 64:=by
 unfold lU
 refine List.ext_getElem (by simp;omega) fun k h1 h2=>?_
 have hk:k<64:=by simpa using h1
 have e:Mx (i:Int) k=((i+k:Nat):Int):=by unfold Mx;rw [Am (by omega)];omega
 rw [List.getElem_map,List.getElem_range,e,List.getElem_take,List.getElem_drop,show 0+((i+k:Nat):Int).toNat*1=i+k by omega]
 simp [List.getD_eq_getElem?_getD,show i+k<P.length by omega]
theorem AXZ {off n m:Nat} {xs:List Int} (hl:off+n≤xs.length) (hn:n≤35184372088832):Ad Tryz.prog 112 [AI 0 off n m] (Au xs) 1 [] (.val true [.seq .u8 (DA (AA xs off n))]) []:=by
 have hw:(AA xs off n).length=n:=by unfold AA;rw [List.length_take,List.length_drop];omega
 have hK:Ap n=64*(Ap n / 64):=by unfold Ap;omega
 have hp:=K7 n
 have hN:Ap n≤n+72:=by unfold Ap;omega
 have hlen:=ACt (AA xs off n)
 rw [hw] at hlen
 have hh:AJ .i64 (Ap n)=true:=by simp only [AJ,Bool.and_eq_true,decide_eq_true_eq];omega
 refine Av (path:=[]) Tryz.func112 (by kernel_rfl) (by kernel_rfl) fun β0 w0 h0=>?_
 refine Ae lR AB (AXM off n m xs) ⟨Nat.ble_eq_true_of_le hl,Nat.ble_eq_true_of_le hn,trivial⟩ (AL (by kernel_rfl)) h0 (fun _ h=>by cases h) fun _=>?_
 refine AXS (x:=Mw off n m xs) ?_
 rw [AXN]
 have loop:∀ r k,k+r=Ap n / 64→ASafe Tryz.prog 112 β0 w0 (Ay β0 w0 [] (.val true [.seq .u8 (DA (AA xs off n))]) []) Tryz.f112.ntmps [] (Qt (Ap n) (CW (AA xs off n)) (A_ (JH (CW (AA xs off n)) k)) ((64*k:Nat):Int) []):=by
  intro r
  induction r with
  | zero =>
   intro k hk
   have:=AXX (N:=Ap n) (i:=((64*k:Nat):Int)) h0 (CW (AA xs off n)) (JH (CW (AA xs off n)) (Ap n / 64)) (w0:=w0) hh (by rw [Am (by omega)];exact decide_eq_false (by omega))
   unfold DA YP
   rw [hw,show k=Ap n / 64 by omega] at *
   exact Ab [false] this
  | succ r ih =>
   intro k hk
   refine Ab [true] (Ae lR AB (AXO ..) ⟨hh,by rw [Am (by omega)];exact decide_eq_true (by omega),ADZ (by omega) (by omega) 64 0 (by omega)⟩ (AL (by kernel_rfl)) h0 (fun _ h=>by cases h) fun _=>?_)
   have e:lV (A_ (JH (CW (AA xs off n)) k)) (CW (AA xs off n)) ((64*k:Nat):Int)=A_ (JH (CW (AA xs off n)) (k+1)):=by
    unfold lV
    rw [AXY (by omega) (by omega)]
    rfl
   rw [e,Am (z:=((64*k:Nat):Int)+64) (by omega)]
   have:=ih (k+1) (by omega)
   rw [show ((64*(k+1):Nat):Int)=((64*k:Nat):Int)+64 by omega] at this
   exact this
 exact loop (Ap n / 64) 0 (by omega)
noncomputable def SSo:List (FuncId×ASpec):=(112,sumSp)::SSn
theorem ADa:AX Tryz.prog SSo:=⟨ADT Tryz.func112 (by kernel_rfl) (by kernel_rfl) fun _=>AXZ,ADX⟩
noncomputable abbrev oSo:Orc:=AH SSo KV
theorem Qu:OrcOk Tryz.prog oSo:=AK ADa A9
noncomputable abbrev grF:Func:=Tryz.f165
def JI:AV:=.val false [.v (.slice none 0 0)]
noncomputable def lX (i:Int) (p:List Bool):ASt:=Af grF [JI,iA i] [] 0 p
def My (i:Int):Int:=wI (i-wI ((0:Int)-0))
def lY (i:Int):Heap:=[(0,some ⟨5,[.seq .u8 (List.replicate i.toNat 0)],true⟩)]
theorem AXa (i:Int):AM Tryz.prog oSo grF 200 0 [0] (lX i [false,true])=some ((decide (i<0),false)::(true,true)::(decide (0<My i),true)::(true,true)::(decide (0≤My i∧My i≤9223372036854775807),true)::(DO (0+(My i).toNat),true)::(true,true)::(true,true)::[],[],.val false [.sx 0 0 1],lY (My i)):=by kernel_rfl
noncomputable def Qv (i:Int):ASt:=EZ (C5 Tryz.prog oSo 14 0 (lX i [false,false]))
theorem AXb (i:Int):C5 Tryz.prog oSo 14 0 (lX i [false,false])=some ((decide (i<0),false)::(true,true)::(decide (0<My i),false)::[],[],Qv i):=by kernel_rfl
theorem AXc (i:Int):AM Tryz.prog oSo grF 200 0 [0] ⟨(Qv i).todo,⟨Ju 0 1 [0] 0 (Qv i).s.T,[]++[(0,some ⟨5,[.seq .u8 []],true⟩)],0+1,[]⟩⟩=some ([],[],.val false [.sx 0 0 1],[(0,some ⟨5,[.seq .u8 []],true⟩)]):=by kernel_rfl
theorem AXd (i:Int):Qv i=⟨(Qv i).todo,⟨(Qv i).s.T,[],0,[]⟩⟩:=by kernel_rfl
theorem AXe {i:Nat} (h:i≤35184372088832):My (i:Int)=i:=by
 unfold My
 rw [show wI ((0:Int)-0)=0 from rfl,Am (by omega)];omega
theorem AXf {i:Nat} (h:i≤35184372088832):Ad Tryz.prog 165 [JI,iA i] [] 0 [] (.val false [.sx 0 0 1]) (lY i):=by
 have e:=AXe h
 rcases Nat.eq_zero_or_pos i with h0 | h0
 ·subst h0
  refine Av (path:=[false,false]) Tryz.func165 (by kernel_rfl) (by kernel_rfl) fun β0 w0 hb=>?_
  refine HP Qu AB (AXb ((0:Nat):Int)) ⟨by decide,rfl,by rw [e];decide,trivial⟩ (AL (by kernel_rfl)) hb (fun _ h=>by cases h) fun _=>?_
  rw [AXd]
  refine PO (ts:=[0]) (sz:=1) (ty:=5) (kd:=.u8) rfl (hb 0 (Nat.le_refl _)) ?_
  exact As Qu AB Tryz.func165 (AXc _) trivial (AL (by kernel_rfl)) hb (fun _ h=>by cases h)
 ·refine Av (path:=[false,true]) Tryz.func165 (by kernel_rfl) (by kernel_rfl) fun β0 w0 hb=>?_
  have:=As (P:=Tryz.prog) (n:=grF.ntmps) (β0:=β0) (w0:=w0) (W:=[]) Qu AB Tryz.func165 (AXa (i:Int)) ⟨decide_eq_false (by omega),rfl,decide_eq_true (by rw [e];omega),rfl,decide_eq_true (by rw [e];omega),by rw [e];exact DV (by omega),rfl,rfl,trivial⟩ (AL (by kernel_rfl)) hb (fun _ h=>by cases h)
  rw [e] at this
  exact this
def grSp:ASpec:=fun args _ fr path=>match args with
 | [.val false [.v (.slice none 0 0)],I]=>match BJ (some I) with
  | some (_,.i64,i)=>some (A5 [] 0 fr 1 [] (.val false [.sx 0 0 1]) (lY i) [(decide (0≤i∧i≤35184372088832),true)] path)
  | _=>none
 | _=>none
theorem AXg {β:Env} {w:World}:Ex.Good (A4 β [] 0) [] w:=⟨(fun _ _ h=>by cases h),(fun _ _ _ _ _ h=>by cases h),(fun b B n h=>by
 have e:Nat.blt b 0=false:=by cases q:Nat.blt b 0 with | false=>rfl | true=>exact absurd (A8.1 q) (Nat.not_lt_zero b)
 simp [A4,e] at h)⟩
theorem AXh:A6 Tryz.prog 165 grSp:=by
 refine CS Tryz.func165 (by kernel_rfl) (by kernel_rfl) fun args H fr path r hs=>?_
 unfold grSp at hs
 split at hs
 case h_2=>cases hs
 rename_i I
 split at hs
 case h_2=>cases hs
 rename_i c i hI
 injection hs with hs
 refine ⟨[],0,1,[],_,_,_,path,hs.symm,fun β us w ha hg hc=>?_⟩
 obtain ⟨u1,us1,r1,⟨u2,us2,r2,ha,rfl⟩,rfl⟩:=ha
 have hi:=of_decide_eq_true hc.1
 obtain ⟨n,rfl⟩:=Int.eq_ofNat_of_zero_le hi.1
 exact ⟨[JI,iA n],[],AXf (by omega),by kernel_rfl,⟨u1,_,In rfl r1,⟨u2,_,(IP hI r2).2 _,ha,rfl⟩,rfl⟩,AXg,fun k h=>by cases h⟩
noncomputable def SSp:List (FuncId×ASpec):=(165,grSp)::SSo
theorem ADb:AX Tryz.prog SSp:=⟨AXh,ADa⟩
noncomputable abbrev oSp:Orc:=AH SSp KV
theorem YV:OrcOk Tryz.prog oSp:=AK ADb A9
noncomputable abbrev ccF:Func:=Tryz.f100
def Hv (k:Nat) (ys:List Int):Heap:=[(k,some ⟨5,[.seq .u8 ys],true⟩)]
theorem CN {xs:List Int} {off n:Nat} (h:off+n≤xs.length):(AA xs off n).length=n:=by unfold AA;rw [List.length_take,List.length_drop];omega
theorem Dd {l:List Int} {n:Nat} (h:l.length=n):l.take n=l:=List.take_of_length_le (by omega)
theorem D7 {a b:List Int} {n m:Nat} (h:a.length=n) (k:b.length=m):(a++b).length=n+m:=by rw [List.length_append,h,k]
theorem DI {L:Nat} (h:L≤35184372088832):AJ .i64 L=true:=by simp only [AJ,Bool.and_eq_true,decide_eq_true_eq];omega
theorem YW (n:Nat):decide ((n:Int)<0)=false:=decide_eq_false (by omega)
theorem OX {a b:Nat} (h:a+b≤35184372088832):wI ((a:Int)+(b:Int))=((a+b:Nat):Int):=by rw [Am (by omega)];omega
noncomputable def l5 (o1 n1 m1 o2 n2 m2:Nat) (x1 x2:List Int):Heap:=[(0,some (Ai [.sl 1 o1 n1 m1,.sl 2 o2 n2 m2])),(1,some (Ai [.seq .u8 x1])),(2,some (Ai [.seq .u8 x2]))]
noncomputable def AXi (o1 n1 m1 o2 n2 m2:Nat) (x1 x2:List Int):ASt:=Af ccF [AI 0 0 2 2] (l5 o1 n1 m1 o2 n2 m2 x1 x2) 3 [true,false,true,false,false,true,true,false]
def YX (n1 n2:Nat):Int:=wI (wI (0+(n1:Int))+(n2:Int))
def ADc (o1 n1 o2 n2:Nat) (x1 x2:List Int):List Int:=(AA x1 o1 n1).take (0+n1)++AA x2 o2 n2
theorem AXj (o1 n1 m1 o2 n2 m2:Nat) (x1 x2:List Int):AM Tryz.prog oSp ccF 400 3 [5] (AXi o1 n1 m1 o2 n2 m2 x1 x2)=some (tt 3 ((AJ .i64 n1,true)::(decide (wI (0+(n1:Int))<0),false)::tt 2 ((AJ .i64 n2,true)::(decide (wI (wI (0+(n1:Int))+(n2:Int))<0),false)::(false,false)::(decide (0≤YX n1 n2∧YX n1 n2≤35184372088832),true)::tt 4 ((Nat.ble (o1+n1) x1.length,true)::(DO (0+n1),true)::tt 2 ((Nat.ble (0+n1) (AA x1 o1 n1).length,true)::(Nat.ble (o2+n2) x2.length,true)::(DO (0+n1+n2),true)::(false,false)::[])))),[],.val false [.sx 5 (0+n1+n2) 1],Hv 5 (ADc o1 n1 o2 n2 x1 x2)):=by kernel_rfl
theorem AXk {o1 n1 m1 o2 n2 m2:Nat} {x1 x2:List Int} (h1:o1+n1≤x1.length) (h2:o2+n2≤x2.length) (hn:n1+n2≤35184372088832):Ad Tryz.prog 100 [AI 0 0 2 2] (l5 o1 n1 m1 o2 n2 m2 x1 x2) 3 [] (.val false [.sx 5 (n1+n2) 1]) (Hv 5 (AA x1 o1 n1++AA x2 o2 n2)):=by
 have w1:=CN h1
 have w2:=CN h2
 have e1:wI (0+(n1:Int))=(n1:Nat):=by rw [Am (by omega)];omega
 have e2:=OX (a:=n1) (b:=n2) (by omega)
 have eA:YX n1 n2=((n1+n2:Nat):Int):=by unfold YX;rw [e1,e2]
 have l1:=w1
 have l2:=D7 l1 w2
 have q2:(AA x1 o1 n1).take (0+n1)++AA x2 o2 n2=AA x1 o1 n1++AA x2 o2 n2:=by rw [show 0+n1=n1 by omega,Dd l1]
 have eY:ADc o1 n1 o2 n2 x1 x2=AA x1 o1 n1++AA x2 o2 n2:=q2
 have eL:0+n1+n2=n1+n2:=by omega
 refine Av (path:=[true,false,true,false,false,true,true,false]) Tryz.func100 (by kernel_rfl) (by kernel_rfl) fun β0 w0 hb=>?_
 have:=As (P:=Tryz.prog) (n:=ccF.ntmps) (β0:=β0) (w0:=w0) (W:=[]) YV AB Tryz.func100 (AXj o1 n1 m1 o2 n2 m2 x1 x2) ?_ (AL (by kernel_rfl)) hb (fun _ h=>by cases h)
 ·rw [eY,eL] at this
  exact this
 ·rw [eA]
  simp only [e1,e2,YW]
  exact Ac 3 ⟨DI (by omega),rfl,Ac 2 ⟨DI (by omega),rfl,rfl,decide_eq_true ⟨by omega,by omega⟩,Ac 4 ⟨Nat.ble_eq_true_of_le h1,DV (by omega),Ac 2 ⟨Nat.ble_eq_true_of_le (by rw [w1];omega),Nat.ble_eq_true_of_le h2,DV (by omega),rfl,trivial⟩⟩⟩⟩
noncomputable def l6 (o1 n1 m1 o2 n2 m2 o3 n3 m3:Nat) (x1 x2 x3:List Int):Heap:=[(0,some (Ai [.sl 1 o1 n1 m1,.sl 2 o2 n2 m2,.sl 3 o3 n3 m3])),(1,some (Ai [.seq .u8 x1])),(2,some (Ai [.seq .u8 x2])),(3,some (Ai [.seq .u8 x3]))]
noncomputable def AXl (o1 n1 m1 o2 n2 m2 o3 n3 m3:Nat) (x1 x2 x3:List Int):ASt:=Af ccF [AI 0 0 3 3] (l6 o1 n1 m1 o2 n2 m2 o3 n3 m3 x1 x2 x3) 4 [true,false,true,false,true,false,false,true,true,true,false]
def YY (n1 n2 n3:Nat):Int:=wI (wI (wI (0+(n1:Int))+(n2:Int))+(n3:Int))
def ADd (o1 n1 o2 n2 o3 n3:Nat) (x1 x2 x3:List Int):List Int:=((AA x1 o1 n1).take (0+n1)++AA x2 o2 n2).take (0+n1+n2)++AA x3 o3 n3
theorem AXm (o1 n1 m1 o2 n2 m2 o3 n3 m3:Nat) (x1 x2 x3:List Int):AM Tryz.prog oSp ccF 400 4 [7] (AXl o1 n1 m1 o2 n2 m2 o3 n3 m3 x1 x2 x3)=some (tt 3 ((AJ .i64 n1,true)::(decide (wI (0+(n1:Int))<0),false)::tt 2 ((AJ .i64 n2,true)::(decide (wI (wI (0+(n1:Int))+(n2:Int))<0),false)::tt 2 ((AJ .i64 n3,true)::(decide (wI (wI (wI (0+(n1:Int))+(n2:Int))+(n3:Int))<0),false)::(false,false)::(decide (0≤YY n1 n2 n3∧YY n1 n2 n3≤35184372088832),true)::tt 4 ((Nat.ble (o1+n1) x1.length,true)::(DO (0+n1),true)::tt 2 ((Nat.ble (0+n1) (AA x1 o1 n1).length,true)::(Nat.ble (o2+n2) x2.length,true)::(DO (0+n1+n2),true)::tt 2 ((Nat.ble (0+n1+n2) ((AA x1 o1 n1).take (0+n1)++AA x2 o2 n2).length,true)::(Nat.ble (o3+n3) x3.length,true)::(DO (0+n1+n2+n3),true)::(false,false)::[])))))),[],.val false [.sx 7 (0+n1+n2+n3) 1],Hv 7 (ADd o1 n1 o2 n2 o3 n3 x1 x2 x3)):=by kernel_rfl
theorem AXn {o1 n1 m1 o2 n2 m2 o3 n3 m3:Nat} {x1 x2 x3:List Int} (h1:o1+n1≤x1.length) (h2:o2+n2≤x2.length) (h3:o3+n3≤x3.length) (hn:n1+n2+n3≤35184372088832):Ad Tryz.prog 100 [AI 0 0 3 3] (l6 o1 n1 m1 o2 n2 m2 o3 n3 m3 x1 x2 x3) 4 [] (.val false [.sx 7 (n1+n2+n3) 1]) (Hv 7 (AA x1 o1 n1++AA x2 o2 n2++AA x3 o3 n3)):=by
 have w1:=CN h1
 have w2:=CN h2
 have w3:=CN h3
 have e1:wI (0+(n1:Int))=(n1:Nat):=by rw [Am (by omega)];omega
 have e2:=OX (a:=n1) (b:=n2) (by omega)
 have e3:=OX (a:=n1+n2) (b:=n3) (by omega)
 have eA:YY n1 n2 n3=((n1+n2+n3:Nat):Int):=by unfold YY;rw [e1,e2,e3]
 have l1:=w1
 have l2:=D7 l1 w2
 have l3:=D7 l2 w3
 have q2:(AA x1 o1 n1).take (0+n1)++AA x2 o2 n2=AA x1 o1 n1++AA x2 o2 n2:=by rw [show 0+n1=n1 by omega,Dd l1]
 have q3:((AA x1 o1 n1).take (0+n1)++AA x2 o2 n2).take (0+n1+n2)++AA x3 o3 n3=AA x1 o1 n1++AA x2 o2 n2++AA x3 o3 n3:=by rw [q2,show 0+n1+n2=n1+n2 by omega,Dd l2]
 have eY:ADd o1 n1 o2 n2 o3 n3 x1 x2 x3=AA x1 o1 n1++AA x2 o2 n2++AA x3 o3 n3:=q3
 have eL:0+n1+n2+n3=n1+n2+n3:=by omega
 refine Av (path:=[true,false,true,false,true,false,false,true,true,true,false]) Tryz.func100 (by kernel_rfl) (by kernel_rfl) fun β0 w0 hb=>?_
 have:=As (P:=Tryz.prog) (n:=ccF.ntmps) (β0:=β0) (w0:=w0) (W:=[]) YV AB Tryz.func100 (AXm o1 n1 m1 o2 n2 m2 o3 n3 m3 x1 x2 x3) ?_ (AL (by kernel_rfl)) hb (fun _ h=>by cases h)
 ·rw [eY,eL] at this
  exact this
 ·rw [eA]
  simp only [e1,e2,e3,YW]
  exact Ac 3 ⟨DI (by omega),rfl,Ac 2 ⟨DI (by omega),rfl,Ac 2 ⟨DI (by omega),rfl,rfl,decide_eq_true ⟨by omega,by omega⟩,Ac 4 ⟨Nat.ble_eq_true_of_le h1,DV (by omega),Ac 2 ⟨Nat.ble_eq_true_of_le (by rw [w1];omega),Nat.ble_eq_true_of_le h2,DV (by omega),Ac 2 ⟨Nat.ble_eq_true_of_le (by rw [q2,l2];omega),Nat.ble_eq_true_of_le h3,DV (by omega),rfl,trivial⟩⟩⟩⟩⟩⟩
noncomputable def l7 (o1 n1 m1 o2 n2 m2 o3 n3 m3 o4 n4 m4:Nat) (x1 x2 x3 x4:List Int):Heap:=[(0,some (Ai [.sl 1 o1 n1 m1,.sl 2 o2 n2 m2,.sl 3 o3 n3 m3,.sl 4 o4 n4 m4])),(1,some (Ai [.seq .u8 x1])),(2,some (Ai [.seq .u8 x2])),(3,some (Ai [.seq .u8 x3])),(4,some (Ai [.seq .u8 x4]))]
noncomputable def AXo (o1 n1 m1 o2 n2 m2 o3 n3 m3 o4 n4 m4:Nat) (x1 x2 x3 x4:List Int):ASt:=Af ccF [AI 0 0 4 4] (l7 o1 n1 m1 o2 n2 m2 o3 n3 m3 o4 n4 m4 x1 x2 x3 x4) 5 [true,false,true,false,true,false,true,false,false,true,true,true,true,false]
def YZ (n1 n2 n3 n4:Nat):Int:=wI (wI (wI (wI (0+(n1:Int))+(n2:Int))+(n3:Int))+(n4:Int))
def ADe (o1 n1 o2 n2 o3 n3 o4 n4:Nat) (x1 x2 x3 x4:List Int):List Int:=(((AA x1 o1 n1).take (0+n1)++AA x2 o2 n2).take (0+n1+n2)++AA x3 o3 n3).take (0+n1+n2+n3)++AA x4 o4 n4
theorem AXp (o1 n1 m1 o2 n2 m2 o3 n3 m3 o4 n4 m4:Nat) (x1 x2 x3 x4:List Int):AM Tryz.prog oSp ccF 400 5 [9] (AXo o1 n1 m1 o2 n2 m2 o3 n3 m3 o4 n4 m4 x1 x2 x3 x4)=some (tt 3 ((AJ .i64 n1,true)::(decide (wI (0+(n1:Int))<0),false)::tt 2 ((AJ .i64 n2,true)::(decide (wI (wI (0+(n1:Int))+(n2:Int))<0),false)::tt 2 ((AJ .i64 n3,true)::(decide (wI (wI (wI (0+(n1:Int))+(n2:Int))+(n3:Int))<0),false)::tt 2 ((AJ .i64 n4,true)::(decide (wI (wI (wI (wI (0+(n1:Int))+(n2:Int))+(n3:Int))+(n4:Int))<0),false)::(false,false)::(decide (0≤YZ n1 n2 n3 n4∧YZ n1 n2 n3 n4≤35184372088832),true)::tt 4 ((Nat.ble (o1+n1) x1.length,true)::(DO (0+n1),true)::tt 2 ((Nat.ble (0+n1) (AA x1 o1 n1).length,true)::(Nat.ble (o2+n2) x2.length,true)::(DO (0+n1+n2),true)::tt 2 ((Nat.ble (0+n1+n2) ((AA x1 o1 n1).take (0+n1)++AA x2 o2 n2).length,true)::(Nat.ble (o3+n3) x3.length,true)::(DO (0+n1+n2+n3),true)::tt 2 ((Nat.ble (0+n1+n2+n3) (((AA x1 o1 n1).take (0+n1)++AA x2 o2 n2).take (0+n1+n2)++AA x3 o3 n3).length,true)::(Nat.ble (o4+n4) x4.length,true)::(DO (0+n1+n2+n3+n4),true)::(false,false)::[])))))))),[],.val false [.sx 9 (0+n1+n2+n3+n4) 1],Hv 9 (ADe o1 n1 o2 n2 o3 n3 o4 n4 x1 x2 x3 x4)):=by kernel_rfl
theorem AXq {o1 n1 m1 o2 n2 m2 o3 n3 m3 o4 n4 m4:Nat} {x1 x2 x3 x4:List Int} (h1:o1+n1≤x1.length) (h2:o2+n2≤x2.length) (h3:o3+n3≤x3.length) (h4:o4+n4≤x4.length) (hn:n1+n2+n3+n4≤35184372088832):Ad Tryz.prog 100 [AI 0 0 4 4] (l7 o1 n1 m1 o2 n2 m2 o3 n3 m3 o4 n4 m4 x1 x2 x3 x4) 5 [] (.val false [.sx 9 (n1+n2+n3+n4) 1]) (Hv 9 (AA x1 o1 n1++AA x2 o2 n2++AA x3 o3 n3++AA x4 o4 n4)):=by
 have w1:=CN h1
 have w2:=CN h2
 have w3:=CN h3
 have w4:=CN h4
 have e1:wI (0+(n1:Int))=(n1:Nat):=by rw [Am (by omega)];omega
 have e2:=OX (a:=n1) (b:=n2) (by omega)
 have e3:=OX (a:=n1+n2) (b:=n3) (by omega)
 have e4:=OX (a:=n1+n2+n3) (b:=n4) (by omega)
 have eA:YZ n1 n2 n3 n4=((n1+n2+n3+n4:Nat):Int):=by unfold YZ;rw [e1,e2,e3,e4]
 have l1:=w1
 have l2:=D7 l1 w2
 have l3:=D7 l2 w3
 have l4:=D7 l3 w4
 have q2:(AA x1 o1 n1).take (0+n1)++AA x2 o2 n2=AA x1 o1 n1++AA x2 o2 n2:=by rw [show 0+n1=n1 by omega,Dd l1]
 have q3:((AA x1 o1 n1).take (0+n1)++AA x2 o2 n2).take (0+n1+n2)++AA x3 o3 n3=AA x1 o1 n1++AA x2 o2 n2++AA x3 o3 n3:=by rw [q2,show 0+n1+n2=n1+n2 by omega,Dd l2]
 have q4:(((AA x1 o1 n1).take (0+n1)++AA x2 o2 n2).take (0+n1+n2)++AA x3 o3 n3).take (0+n1+n2+n3)++AA x4 o4 n4=AA x1 o1 n1++AA x2 o2 n2++AA x3 o3 n3++AA x4 o4 n4:=by rw [q3,show 0+n1+n2+n3=n1+n2+n3 by omega,Dd l3]
 have eY:ADe o1 n1 o2 n2 o3 n3 o4 n4 x1 x2 x3 x4=AA x1 o1 n1++AA x2 o2 n2++AA x3 o3 n3++AA x4 o4 n4:=q4
 have eL:0+n1+n2+n3+n4=n1+n2+n3+n4:=by omega
 refine Av (path:=[true,false,true,false,true,false,true,false,false,true,true,true,true,false]) Tryz.func100 (by kernel_rfl) (by kernel_rfl) fun β0 w0 hb=>?_
 have:=As (P:=Tryz.prog) (n:=ccF.ntmps) (β0:=β0) (w0:=w0) (W:=[]) YV AB Tryz.func100 (AXp o1 n1 m1 o2 n2 m2 o3 n3 m3 o4 n4 m4 x1 x2 x3 x4) ?_ (AL (by kernel_rfl)) hb (fun _ h=>by cases h)
 ·rw [eY,eL] at this
  exact this
 ·rw [eA]
  simp only [e1,e2,e3,e4,YW]
  exact Ac 3 ⟨DI (by omega),rfl,Ac 2 ⟨DI (by omega),rfl,Ac 2 ⟨DI (by omega),rfl,Ac 2 ⟨DI (by omega),rfl,rfl,decide_eq_true ⟨by omega,by omega⟩,Ac 4 ⟨Nat.ble_eq_true_of_le h1,DV (by omega),Ac 2 ⟨Nat.ble_eq_true_of_le (by rw [w1];omega),Nat.ble_eq_true_of_le h2,DV (by omega),Ac 2 ⟨Nat.ble_eq_true_of_le (by rw [q2,l2];omega),Nat.ble_eq_true_of_le h3,DV (by omega),Ac 2 ⟨Nat.ble_eq_true_of_le (by rw [q3,l3];omega),Nat.ble_eq_true_of_le h4,DV (by omega),rfl,trivial⟩⟩⟩⟩⟩⟩⟩⟩
noncomputable def l9 (o1 n1 m1 o2 n2 m2:Nat) (x1 x2:List Int):Heap:=[(0,some (Ai [.v (.slice none 0 0),.sl 1 o1 n1 m1,.sl 2 o2 n2 m2])),(1,some (Ai [.seq .u8 x1])),(2,some (Ai [.seq .u8 x2]))]
noncomputable def AXr (o1 n1 m1 o2 n2 m2:Nat) (x1 x2:List Int):ASt:=Af ccF [AI 0 0 3 3] (l9 o1 n1 m1 o2 n2 m2 x1 x2) 3 [true,false,true,false,true,false,false,true,true,true,false]
def Yg (n1 n2:Nat):Int:=wI (wI (wI (0+0)+(n1:Int))+(n2:Int))
def ADf (o1 n1 o2 n2:Nat) (x1 x2:List Int):List Int:=(AA x1 o1 n1).take (0+n1)++AA x2 o2 n2
theorem AXs (o1 n1 m1 o2 n2 m2:Nat) (x1 x2:List Int):AM Tryz.prog oSp ccF 400 3 [6] (AXr o1 n1 m1 o2 n2 m2 x1 x2)=some (tt 4 ((false,false)::tt 2 ((AJ .i64 n1,true)::(decide (wI (wI (0+0)+(n1:Int))<0),false)::tt 2 ((AJ .i64 n2,true)::(decide (wI (wI (wI (0+0)+(n1:Int))+(n2:Int))<0),false)::(false,false)::(decide (0≤Yg n1 n2∧Yg n1 n2≤35184372088832),true)::tt 9 ((Nat.ble (o1+n1) x1.length,true)::(DO (0+n1),true)::tt 2 ((Nat.ble (0+n1) (AA x1 o1 n1).length,true)::(Nat.ble (o2+n2) x2.length,true)::(DO (0+n1+n2),true)::(false,false)::[]))))),[],.val false [.sx 6 (0+n1+n2) 1],Hv 6 (ADf o1 n1 o2 n2 x1 x2)):=by kernel_rfl
theorem AXt {o1 n1 m1 o2 n2 m2:Nat} {x1 x2:List Int} (h1:o1+n1≤x1.length) (h2:o2+n2≤x2.length) (hn:n1+n2≤35184372088832):Ad Tryz.prog 100 [AI 0 0 3 3] (l9 o1 n1 m1 o2 n2 m2 x1 x2) 3 [] (.val false [.sx 6 (n1+n2) 1]) (Hv 6 (AA x1 o1 n1++AA x2 o2 n2)):=by
 have w1:=CN h1
 have w2:=CN h2
 have e0:wI ((0:Int)+0)=0:=rfl
 have e1:wI (0+(n1:Int))=(n1:Nat):=by rw [Am (by omega)];omega
 have e2:=OX (a:=n1) (b:=n2) (by omega)
 have eA:Yg n1 n2=((n1+n2:Nat):Int):=by unfold Yg;rw [e0,e1,e2]
 have l1:=w1
 have l2:=D7 l1 w2
 have q2:(AA x1 o1 n1).take (0+n1)++AA x2 o2 n2=AA x1 o1 n1++AA x2 o2 n2:=by rw [show 0+n1=n1 by omega,Dd l1]
 have eY:ADf o1 n1 o2 n2 x1 x2=AA x1 o1 n1++AA x2 o2 n2:=q2
 have eL:0+n1+n2=n1+n2:=by omega
 refine Av (path:=[true,false,true,false,true,false,false,true,true,true,false]) Tryz.func100 (by kernel_rfl) (by kernel_rfl) fun β0 w0 hb=>?_
 have:=As (P:=Tryz.prog) (n:=ccF.ntmps) (β0:=β0) (w0:=w0) (W:=[]) YV AB Tryz.func100 (AXs o1 n1 m1 o2 n2 m2 x1 x2) ?_ (AL (by kernel_rfl)) hb (fun _ h=>by cases h)
 ·rw [eY,eL] at this
  exact this
 ·rw [eA]
  simp only [e0,e1,e2,YW]
  exact Ac 4 ⟨rfl,Ac 2 ⟨DI (by omega),rfl,Ac 2 ⟨DI (by omega),rfl,rfl,decide_eq_true ⟨by omega,by omega⟩,Ac 9 ⟨Nat.ble_eq_true_of_le h1,DV (by omega),Ac 2 ⟨Nat.ble_eq_true_of_le (by rw [w1];omega),Nat.ble_eq_true_of_le h2,DV (by omega),rfl,trivial⟩⟩⟩⟩⟩
theorem JJ {β:Env} {H:Heap} {w:World} {ρ:List Nat} {bs:List Blk} (g:Ex.Good β H w) (h:∀ j d,bs[j]? = some d→d.ty=CG∧EI (A4 β ρ bs.length) d j w):Ex.Good (A4 β ρ bs.length) (Ng 0 bs) w:=by
 refine ⟨fun j blk hj=>?_,fun i j B n n' h1 _ _ _=>?_,fun j B n hj=>?_⟩
 ·obtain ⟨_,hj⟩:=Ll hj
  rw [Nat.sub_zero] at hj
  exact (h j blk hj).2
 ·obtain ⟨d,hd,hr⟩:=F0 h1
  obtain ⟨_,hd⟩:=Ll hd
  rw [Nat.sub_zero] at hd
  exact absurd (h i d hd).1 hr
 ·unfold A4 at hj
  split at hj
  ·exact g.lt _ _ _ hj
  ·cases hj
theorem IT {β:Env} {C:Ch} {k off n:Nat} {l:List Value} (h:By (.val false [C])=some (k,off,n)) (hr:BI β C l):∃ m,BI β (.sl k off n m) l:=by
 have h1:∃ u,l=[u]:=by
  unfold By at h
  split at h
  ·rename_i he
   injection he with _ he;injection he with he _;subst he
   rcases hr with ⟨B,q,_,e⟩ | ⟨_,_,_,_,e⟩<;>exact ⟨_,e⟩
  ·rename_i he
   injection he with _ he;injection he with he _;subst he
   rcases hr with ⟨B,q,cap,_,e,_⟩ | ⟨_,_,e⟩<;>exact ⟨_,e⟩
  ·cases h
 obtain ⟨u,rfl⟩:=h1
 obtain ⟨m,hm⟩:=DF (u:=u) h (Aw hr)
 exact ⟨m,A3 hm⟩
theorem IU {β:Env} {k j off n m:Nat} {ρ:List Nat} {k0:Nat} {l:List Value} (hj:j<k0) (hn:nth ρ j=k) (h:BI β (.sl k off n m) l):BI (A4 β ρ k0) (.sl j off n m) l:=by
 have e:A4 β ρ k0 j=β k:=by rw [H_ hj,hn]
 rcases h with ⟨B,q,q1,q2⟩ | ⟨q1,q2⟩
 ·exact .inl ⟨B,q,by rw [e];exact q1,q2⟩
 ·exact .inr ⟨by rw [e];exact q1,q2⟩
theorem Dj {β:Env} {H:Heap} {w:World} {k j ty:Nat} {cs:List Ch} {o:Bool} {xs:List Int} {ρ:List Nat} {k0:Nat} (hg:Ex.Good β H w) (hk:AG H k=some ⟨ty,cs,o⟩) (hx:Ao .u8 cs=some xs) (hj:j<k0) (hn:nth ρ j=k):EI (A4 β ρ k0) (Ai [.seq .u8 xs]) j w:=by
 refine S' (hg.heap _ _ hk) (by rw [H_ hj,hn]) (.inl rfl) fun l h=>?_
 obtain ⟨q1,q2⟩:=CY hx h
 exact ⟨_,[],⟨q1,q2⟩,rfl,by simp⟩
theorem Yi {β:Env} {H:Heap} {w:World} {k ty:Nat} {c:Ch} {cs:List Ch} {o:Bool} (hg:Ex.Good β H w) (hk:AG H k=some ⟨ty,c::cs,o⟩) (hz:D_ c=1):∃ l,AN β (c::cs) l∧∀ (β':Env) (cs':List Ch) (j:Nat),β' j=β k→AN β' cs' l→EI β' (Ai cs') j w:=by
 rcases hg.heap _ _ hk with ⟨B,n,l,t,pre,ty',fz,q1,q2,q3,q4,_⟩ | ⟨_,_,q3⟩
 ·exact ⟨l,q2,fun β' cs' j he hr=>.inl ⟨B,n,l,t,pre,ty',fz,he.trans q1,hr,q3,q4,fun h=>absurd rfl h⟩⟩
 ·have:=U3 q3
  simp only [NC,hz,List.length_nil] at this
  omega
def HL (H:Heap) (c:Ch):Option (Nat×Nat×Nat×List Int):=match By (.val false [c]) with
 | some (k,off,n)=>match AG H k with
  | some ⟨_,cs,_⟩=>match Ao .u8 cs with
   | some xs=>some (k,off,n,xs)
   | none=>none
  | none=>none
 | none=>none
theorem IV {H:Heap} {c:Ch} {k off n:Nat} {xs:List Int} (h:HL H c=some (k,off,n,xs)):By (.val false [c])=some (k,off,n)∧∃ ty cs o,AG H k=some ⟨ty,cs,o⟩∧Ao .u8 cs=some xs:=by
 unfold HL at h
 split at h
 case h_2=>cases h
 rename_i k' off' n' h1
 split at h
 case h_2=>cases h
 rename_i ty cs o h2
 split at h
 case h_2=>cases h
 rename_i xs' h3
 injection h with h;injection h with e1 h;injection h with e2 h;injection h with e3 e4
 subst e1;subst e2;subst e3;subst e4
 exact ⟨h1,ty,cs,o,h2,h3⟩
theorem mA {c:Ch} {x:Nat×Nat×Nat} (h:By (.val false [c])=some x):D_ c=1:=by
 unfold By at h
 split at h
 ·rename_i he
  injection he with _ he;injection he with he _;subst he;rfl
 ·rename_i he
  injection he with _ he;injection he with he _;subst he;rfl
 ·cases h
def mB (H:Heap) (k fr:Nat) (path:List Bool) (c1 c2:Ch):Option R:=match HL H c1,HL H c2 with
 | some (k1,o1,n1,x1),some (k2,o2,n2,x2)=>some (A5 [k,k1,k2] 3 fr 3 [] (.val false [.sx 5 (n1+n2) 1]) (Hv 5 (AA x1 o1 n1++AA x2 o2 n2)) [(Nat.ble (o1+n1) x1.length,true),(Nat.ble (o2+n2) x2.length,true),(Nat.ble (n1+n2) 35184372088832,true)] path)
 | _,_=>none
def mC (H:Heap) (k fr:Nat) (path:List Bool) (c1 c2 c3:Ch):Option R:=match HL H c1,HL H c2,HL H c3 with
 | some (k1,o1,n1,x1),some (k2,o2,n2,x2),some (k3,o3,n3,x3)=>some (A5 [k,k1,k2,k3] 4 fr 4 [] (.val false [.sx 7 (n1+n2+n3) 1]) (Hv 7 (AA x1 o1 n1++AA x2 o2 n2++AA x3 o3 n3)) [(Nat.ble (o1+n1) x1.length,true),(Nat.ble (o2+n2) x2.length,true),(Nat.ble (o3+n3) x3.length,true),(Nat.ble (n1+n2+n3) 35184372088832,true)] path)
 | _,_,_=>none
def mD (H:Heap) (k fr:Nat) (path:List Bool) (c1 c2 c3 c4:Ch):Option R:=match HL H c1,HL H c2,HL H c3,HL H c4 with
 | some (k1,o1,n1,x1),some (k2,o2,n2,x2),some (k3,o3,n3,x3),some (k4,o4,n4,x4)=>some (A5 [k,k1,k2,k3,k4] 5 fr 5 [] (.val false [.sx 9 (n1+n2+n3+n4) 1]) (Hv 9 (AA x1 o1 n1++AA x2 o2 n2++AA x3 o3 n3++AA x4 o4 n4)) [(Nat.ble (o1+n1) x1.length,true),(Nat.ble (o2+n2) x2.length,true),(Nat.ble (o3+n3) x3.length,true),(Nat.ble (o4+n4) x4.length,true),(Nat.ble (n1+n2+n3+n4) 35184372088832,true)] path)
 | _,_,_,_=>none
def mF (H:Heap) (k fr:Nat) (path:List Bool) (c2 c3:Ch):Option R:=match HL H c2,HL H c3 with
 | some (k1,o1,n1,x1),some (k2,o2,n2,x2)=>some (A5 [k,k1,k2] 3 fr 4 [] (.val false [.sx 6 (n1+n2) 1]) (Hv 6 (AA x1 o1 n1++AA x2 o2 n2)) [(Nat.ble (o1+n1) x1.length,true),(Nat.ble (o2+n2) x2.length,true),(Nat.ble (n1+n2) 35184372088832,true)] path)
 | _,_=>none
def ccSp:ASpec:=fun args H fr path=>match args with
 | [.val false [.sl k 0 n m]]=>match AG H k,Nat.beq m n with
  | some ⟨_,cs,_⟩,true=>match cs with
   | [c1,c2]=>match Nat.beq n 2 with
    | true=>mB H k fr path c1 c2
    | false=>none
   | [c1,c2,c3]=>match Nat.beq n 3,c1 with
    | true,.v (.slice none 0 0)=>mF H k fr path c2 c3
    | true,c1=>mC H k fr path c1 c2 c3
    | _,_=>none
   | [c1,c2,c3,c4]=>match Nat.beq n 4 with
    | true=>mD H k fr path c1 c2 c3 c4
    | false=>none
   | _=>none
  | _,_=>none
 | _=>none
theorem AXu {H:Heap} {k fr ty:Nat} {path:List Bool} {c1 c2:Ch} {o:Bool} {r:R} (hk:AG H k=some ⟨ty,[c1,c2],o⟩) (hs:mB H k fr path c1 c2=some r) :
  ∃ (ρ:List Nat) (k0 nw:Nat) (W:List Nat) (val:AV) (H1:Heap) (conds:List (Bool×Bool)) (path':List Bool),
   r=A5 ρ k0 fr nw W val H1 conds path'∧(∀ β us w,A7 β [AI k 0 2 2] us→Ex.Good β H w→AQ conds→∃ args0 H0,Ad Tryz.prog 100 args0 H0 k0 W val H1∧Cu k0 nw W val H1=true∧A7 (A4 β ρ k0) args0 us∧Ex.Good (A4 β ρ k0) H0 w∧(∀ k,k<k0→∃ X,β (nth ρ k)=some X)):=by
 unfold mB at hs
 split at hs
 case h_2=>cases hs
 rename_i k1 o1 n1 x1 k2 o2 n2 x2 a1 a2
 injection hs with hs
 obtain ⟨s1,ty1,cs1,p1,g1,t1⟩:=IV a1
 obtain ⟨s2,ty2,cs2,p2,g2,t2⟩:=IV a2
 refine ⟨[k,k1,k2],3,3,[],_,_,_,path,hs.symm,fun β us w ha hg hc=>?_⟩
 obtain ⟨b1,b2,hS,_⟩:=hc
 obtain ⟨u1,us1,r1,ha,rfl⟩:=ha
 obtain ⟨l,hl,hv⟩:=Yi hg hk (mA s1)
 obtain ⟨v1,l1,d1,f1,rfl⟩:=hl
 obtain ⟨v2,l2,d2,f2,rfl⟩:=f1
 obtain ⟨m1,d1⟩:=IT s1 d1
 obtain ⟨m2,d2⟩:=IT s2 d2
 refine ⟨[AI 0 0 2 2],l5 o1 n1 m1 o2 n2 m2 x1 x2,AXk (Nat.le_of_ble_eq_true b1) (Nat.le_of_ble_eq_true b2) (Nat.le_of_ble_eq_true hS),rfl,⟨u1,_,BS (by omega) rfl r1,ha,rfl⟩,JJ (bs:=[Ai [.sl 1 o1 n1 m1,.sl 2 o2 n2 m2],Ai [.seq .u8 x1],Ai [.seq .u8 x2]]) hg fun j d hj=>?_,fun j hj=>?_⟩
 ·match j,hj with
  | 0,hj=>injection hj with hj;subst hj;exact ⟨rfl,hv _ _ _ (H_ (by show 0<3;decide)) ⟨_,_,IU (by show 1<3;decide) rfl d1,⟨_,_,IU (by show 2<3;decide) rfl d2,f2,rfl⟩,rfl⟩⟩
  | 1,hj=>injection hj with hj;subst hj;exact ⟨rfl,Dj hg g1 t1 (by show 1<3;decide) rfl⟩
  | 2,hj=>injection hj with hj;subst hj;exact ⟨rfl,Dj hg g2 t2 (by show 2<3;decide) rfl⟩
 ·match j,hj with
  | 0,_=>exact BZ (hg.heap _ _ hk)
  | 1,_=>exact BZ (hg.heap _ _ g1)
  | 2,_=>exact BZ (hg.heap _ _ g2)
theorem AXv {H:Heap} {k fr ty:Nat} {path:List Bool} {c1 c2 c3:Ch} {o:Bool} {r:R} (hk:AG H k=some ⟨ty,[c1,c2,c3],o⟩) (hs:mC H k fr path c1 c2 c3=some r) :
  ∃ (ρ:List Nat) (k0 nw:Nat) (W:List Nat) (val:AV) (H1:Heap) (conds:List (Bool×Bool)) (path':List Bool),
   r=A5 ρ k0 fr nw W val H1 conds path'∧(∀ β us w,A7 β [AI k 0 3 3] us→Ex.Good β H w→AQ conds→∃ args0 H0,Ad Tryz.prog 100 args0 H0 k0 W val H1∧Cu k0 nw W val H1=true∧A7 (A4 β ρ k0) args0 us∧Ex.Good (A4 β ρ k0) H0 w∧(∀ k,k<k0→∃ X,β (nth ρ k)=some X)):=by
 unfold mC at hs
 split at hs
 case h_2=>cases hs
 rename_i k1 o1 n1 x1 k2 o2 n2 x2 k3 o3 n3 x3 a1 a2 a3
 injection hs with hs
 obtain ⟨s1,ty1,cs1,p1,g1,t1⟩:=IV a1
 obtain ⟨s2,ty2,cs2,p2,g2,t2⟩:=IV a2
 obtain ⟨s3,ty3,cs3,p3,g3,t3⟩:=IV a3
 refine ⟨[k,k1,k2,k3],4,4,[],_,_,_,path,hs.symm,fun β us w ha hg hc=>?_⟩
 obtain ⟨b1,b2,b3,hS,_⟩:=hc
 obtain ⟨u1,us1,r1,ha,rfl⟩:=ha
 obtain ⟨l,hl,hv⟩:=Yi hg hk (mA s1)
 obtain ⟨v1,l1,d1,f1,rfl⟩:=hl
 obtain ⟨v2,l2,d2,f2,rfl⟩:=f1
 obtain ⟨v3,l3,d3,f3,rfl⟩:=f2
 obtain ⟨m1,d1⟩:=IT s1 d1
 obtain ⟨m2,d2⟩:=IT s2 d2
 obtain ⟨m3,d3⟩:=IT s3 d3
 refine ⟨[AI 0 0 3 3],l6 o1 n1 m1 o2 n2 m2 o3 n3 m3 x1 x2 x3,AXn (Nat.le_of_ble_eq_true b1) (Nat.le_of_ble_eq_true b2) (Nat.le_of_ble_eq_true b3) (Nat.le_of_ble_eq_true hS),rfl,⟨u1,_,BS (by omega) rfl r1,ha,rfl⟩,JJ (bs:=[Ai [.sl 1 o1 n1 m1,.sl 2 o2 n2 m2,.sl 3 o3 n3 m3],Ai [.seq .u8 x1],Ai [.seq .u8 x2],Ai [.seq .u8 x3]]) hg fun j d hj=>?_,fun j hj=>?_⟩
 ·match j,hj with
  | 0,hj=>injection hj with hj;subst hj;exact ⟨rfl,hv _ _ _ (H_ (by show 0<4;decide)) ⟨_,_,IU (by show 1<4;decide) rfl d1,⟨_,_,IU (by show 2<4;decide) rfl d2,⟨_,_,IU (by show 3<4;decide) rfl d3,f3,rfl⟩,rfl⟩,rfl⟩⟩
  | 1,hj=>injection hj with hj;subst hj;exact ⟨rfl,Dj hg g1 t1 (by show 1<4;decide) rfl⟩
  | 2,hj=>injection hj with hj;subst hj;exact ⟨rfl,Dj hg g2 t2 (by show 2<4;decide) rfl⟩
  | 3,hj=>injection hj with hj;subst hj;exact ⟨rfl,Dj hg g3 t3 (by show 3<4;decide) rfl⟩
 ·match j,hj with
  | 0,_=>exact BZ (hg.heap _ _ hk)
  | 1,_=>exact BZ (hg.heap _ _ g1)
  | 2,_=>exact BZ (hg.heap _ _ g2)
  | 3,_=>exact BZ (hg.heap _ _ g3)
theorem AXw {H:Heap} {k fr ty:Nat} {path:List Bool} {c1 c2 c3 c4:Ch} {o:Bool} {r:R} (hk:AG H k=some ⟨ty,[c1,c2,c3,c4],o⟩) (hs:mD H k fr path c1 c2 c3 c4=some r) :
  ∃ (ρ:List Nat) (k0 nw:Nat) (W:List Nat) (val:AV) (H1:Heap) (conds:List (Bool×Bool)) (path':List Bool),
   r=A5 ρ k0 fr nw W val H1 conds path'∧(∀ β us w,A7 β [AI k 0 4 4] us→Ex.Good β H w→AQ conds→∃ args0 H0,Ad Tryz.prog 100 args0 H0 k0 W val H1∧Cu k0 nw W val H1=true∧A7 (A4 β ρ k0) args0 us∧Ex.Good (A4 β ρ k0) H0 w∧(∀ k,k<k0→∃ X,β (nth ρ k)=some X)):=by
 unfold mD at hs
 split at hs
 case h_2=>cases hs
 rename_i k1 o1 n1 x1 k2 o2 n2 x2 k3 o3 n3 x3 k4 o4 n4 x4 a1 a2 a3 a4
 injection hs with hs
 obtain ⟨s1,ty1,cs1,p1,g1,t1⟩:=IV a1
 obtain ⟨s2,ty2,cs2,p2,g2,t2⟩:=IV a2
 obtain ⟨s3,ty3,cs3,p3,g3,t3⟩:=IV a3
 obtain ⟨s4,ty4,cs4,p4,g4,t4⟩:=IV a4
 refine ⟨[k,k1,k2,k3,k4],5,5,[],_,_,_,path,hs.symm,fun β us w ha hg hc=>?_⟩
 obtain ⟨b1,b2,b3,b4,hS,_⟩:=hc
 obtain ⟨u1,us1,r1,ha,rfl⟩:=ha
 obtain ⟨l,hl,hv⟩:=Yi hg hk (mA s1)
 obtain ⟨v1,l1,d1,f1,rfl⟩:=hl
 obtain ⟨v2,l2,d2,f2,rfl⟩:=f1
 obtain ⟨v3,l3,d3,f3,rfl⟩:=f2
 obtain ⟨v4,l4,d4,f4,rfl⟩:=f3
 obtain ⟨m1,d1⟩:=IT s1 d1
 obtain ⟨m2,d2⟩:=IT s2 d2
 obtain ⟨m3,d3⟩:=IT s3 d3
 obtain ⟨m4,d4⟩:=IT s4 d4
 refine ⟨[AI 0 0 4 4],l7 o1 n1 m1 o2 n2 m2 o3 n3 m3 o4 n4 m4 x1 x2 x3 x4,AXq (Nat.le_of_ble_eq_true b1) (Nat.le_of_ble_eq_true b2) (Nat.le_of_ble_eq_true b3) (Nat.le_of_ble_eq_true b4) (Nat.le_of_ble_eq_true hS),rfl,⟨u1,_,BS (by omega) rfl r1,ha,rfl⟩,JJ (bs:=[Ai [.sl 1 o1 n1 m1,.sl 2 o2 n2 m2,.sl 3 o3 n3 m3,.sl 4 o4 n4 m4],Ai [.seq .u8 x1],Ai [.seq .u8 x2],Ai [.seq .u8 x3],Ai [.seq .u8 x4]]) hg fun j d hj=>?_,fun j hj=>?_⟩
 ·match j,hj with
  | 0,hj=>injection hj with hj;subst hj;exact ⟨rfl,hv _ _ _ (H_ (by show 0<5;decide)) ⟨_,_,IU (by show 1<5;decide) rfl d1,⟨_,_,IU (by show 2<5;decide) rfl d2,⟨_,_,IU (by show 3<5;decide) rfl d3,⟨_,_,IU (by show 4<5;decide) rfl d4,f4,rfl⟩,rfl⟩,rfl⟩,rfl⟩⟩
  | 1,hj=>injection hj with hj;subst hj;exact ⟨rfl,Dj hg g1 t1 (by show 1<5;decide) rfl⟩
  | 2,hj=>injection hj with hj;subst hj;exact ⟨rfl,Dj hg g2 t2 (by show 2<5;decide) rfl⟩
  | 3,hj=>injection hj with hj;subst hj;exact ⟨rfl,Dj hg g3 t3 (by show 3<5;decide) rfl⟩
  | 4,hj=>injection hj with hj;subst hj;exact ⟨rfl,Dj hg g4 t4 (by show 4<5;decide) rfl⟩
 ·match j,hj with
  | 0,_=>exact BZ (hg.heap _ _ hk)
  | 1,_=>exact BZ (hg.heap _ _ g1)
  | 2,_=>exact BZ (hg.heap _ _ g2)
  | 3,_=>exact BZ (hg.heap _ _ g3)
  | 4,_=>exact BZ (hg.heap _ _ g4)
theorem AXx {H:Heap} {k fr ty:Nat} {path:List Bool} {c2 c3:Ch} {o:Bool} {r:R} (hk:AG H k=some ⟨ty,[.v (.slice none 0 0),c2,c3],o⟩) (hs:mF H k fr path c2 c3=some r) :
  ∃ (ρ:List Nat) (k0 nw:Nat) (W:List Nat) (val:AV) (H1:Heap) (conds:List (Bool×Bool)) (path':List Bool),
   r=A5 ρ k0 fr nw W val H1 conds path'∧(∀ β us w,A7 β [AI k 0 3 3] us→Ex.Good β H w→AQ conds→∃ args0 H0,Ad Tryz.prog 100 args0 H0 k0 W val H1∧Cu k0 nw W val H1=true∧A7 (A4 β ρ k0) args0 us∧Ex.Good (A4 β ρ k0) H0 w∧(∀ k,k<k0→∃ X,β (nth ρ k)=some X)):=by
 unfold mF at hs
 split at hs
 case h_2=>cases hs
 rename_i k1 o1 n1 x1 k2 o2 n2 x2 a1 a2
 injection hs with hs
 obtain ⟨s1,ty1,cs1,p1,g1,t1⟩:=IV a1
 obtain ⟨s2,ty2,cs2,p2,g2,t2⟩:=IV a2
 refine ⟨[k,k1,k2],3,4,[],_,_,_,path,hs.symm,fun β us w ha hg hc=>?_⟩
 obtain ⟨b1,b2,hS,_⟩:=hc
 obtain ⟨u1,us1,r1,ha,rfl⟩:=ha
 obtain ⟨l,hl,hv⟩:=Yi hg hk rfl
 obtain ⟨v1,l1,d1,f1,rfl⟩:=hl
 obtain ⟨v2,l2,d2,f2,rfl⟩:=f1
 obtain ⟨v3,l3,d3,f3,rfl⟩:=f2
 obtain ⟨m1,d2⟩:=IT s1 d2
 obtain ⟨m2,d3⟩:=IT s2 d3
 refine ⟨[AI 0 0 3 3],l9 o1 n1 m1 o2 n2 m2 x1 x2,AXt (Nat.le_of_ble_eq_true b1) (Nat.le_of_ble_eq_true b2) (Nat.le_of_ble_eq_true hS),rfl,⟨u1,_,BS (by omega) rfl r1,ha,rfl⟩,JJ (bs:=[Ai [.v (.slice none 0 0),.sl 1 o1 n1 m1,.sl 2 o2 n2 m2],Ai [.seq .u8 x1],Ai [.seq .u8 x2]]) hg fun j d hj=>?_,fun j hj=>?_⟩
 ·match j,hj with
  | 0,hj=>injection hj with hj;subst hj;exact ⟨rfl,hv _ _ _ (H_ (by show 0<3;decide)) ⟨_,_,d1,⟨_,_,IU (by show 1<3;decide) rfl d2,⟨_,_,IU (by show 2<3;decide) rfl d3,f3,rfl⟩,rfl⟩,rfl⟩⟩
  | 1,hj=>injection hj with hj;subst hj;exact ⟨rfl,Dj hg g1 t1 (by show 1<3;decide) rfl⟩
  | 2,hj=>injection hj with hj;subst hj;exact ⟨rfl,Dj hg g2 t2 (by show 2<3;decide) rfl⟩
 ·match j,hj with
  | 0,_=>exact BZ (hg.heap _ _ hk)
  | 1,_=>exact BZ (hg.heap _ _ g1)
  | 2,_=>exact BZ (hg.heap _ _ g2)
theorem AXy:A6 Tryz.prog 100 ccSp:=by
 refine CS Tryz.func100 (by kernel_rfl) (by kernel_rfl) fun args H fr path r hs=>?_
 unfold ccSp at hs
 split at hs
 case h_2=>cases hs
 rename_i k n m
 split at hs
 case h_2=>cases hs
 rename_i ty cs o hk hm
 obtain rfl:=An.1 hm
 split at hs
 ·split at hs
  case h_2=>cases hs
  rename_i hn
  obtain rfl:=An.1 hn
  exact AXu hk hs
 ·split at hs
  ·rename_i hn
   obtain rfl:=An.1 hn
   exact AXx hk hs
  ·rename_i hn _
   obtain rfl:=An.1 hn
   exact AXv hk hs
  ·cases hs
 ·split at hs
  case h_2=>cases hs
  rename_i hn
  obtain rfl:=An.1 hn
  exact AXw hk hs
 ·cases hs
noncomputable def SSr:List (FuncId×ASpec):=(100,ccSp)::SSp
theorem ADg:AX Tryz.prog SSr:=⟨AXy,ADb⟩
noncomputable abbrev oSr:Orc:=AH SSr KV
theorem AXz:OrcOk Tryz.prog oSr:=AK ADg A9
def JK (f:Nat→Int) (x:Int):Nat→Int:=fun i=>bits .xor .u8 (f i) x
def mG (x:Int):AV:=.val false [.v (.int .u8 x)]
theorem ADh {β:Env} {k:IntKind}:∀ {xs:List Int},(∀ x∈xs,has k x)→AN β (xs.map fun x=>Ch.v (.int k x)) (xs.map (.int k))
 | [],_=>rfl
 | x::_,h=>⟨[_],_,⟨rfl,rfl,h x (List.mem_cons_self ..)⟩,ADh (fun y hy=>h y (List.mem_cons_of_mem _ hy)),rfl⟩
def Yj (f:Nat→Int):List Ch:=(Ax f).map fun x=>Ch.v (.int .u8 x)
noncomputable def mxE (f:Nat→Int) (x:Int):ASt:=Af Tryz.f229 [mG x,.val false [.p 0 0]] [(0,some (Ai (Yj f)))] 1 []
noncomputable def Ua (f:Nat→Int) (x:Int):=AM Tryz.prog oSr Tryz.f229 1000 1 [1] (mxE f x)
theorem AX1 (f:Nat→Int) (x:Int):Outr (Ua f x):=⟨by kernel_rfl⟩
theorem AX2 (f:Nat→Int) (x:Int):Hu (Ua f x)=AI 1 0 64 64:=by kernel_rfl
theorem AX3 (f:Nat→Int) (x:Int):Ms (Ua f x)=[(1,some ⟨5,[.seq .u8 (Ax (JK f x))],false⟩)]:=by kernel_rfl
theorem AX4 (f:Nat→Int) (x:Int):Ad Tryz.prog 229 [mG x,.val false [.p 0 0]] [(0,some (Ai (Yj f)))] 1 [] (AI 1 0 64 64) [(1,some ⟨5,[.seq .u8 (Ax (JK f x))],false⟩)]:=by
 refine Av (path:=[]) Tryz.func229 (by kernel_rfl) (by kernel_rfl) fun β0 w0 h0=>?_
 have:=ADN (P:=Tryz.prog) (n:=Tryz.f229.ntmps) (β0:=β0) (w0:=w0) (W:=[]) AXz AB Tryz.func229 (AX1 f x) (AL (by kernel_rfl)) h0
 refine lK this fun e w ho=>?_
 have ho:Ay β0 w0 [] (Hu (Ua f x)) (Ms (Ua f x)) e w:=ho
 rw [AX2,AX3] at ho
 exact ho
def mxSp:ASpec:=fun args H fr path=>match args with
 | [X,.val false [.p k 0]]=>match BJ (some X),AG H k with
  | some (_,.u8,x),some ⟨_,cs,_⟩=>match Ao .u8 cs with
   | some xs=>some (A5 [k] 1 fr 1 [] (AI 1 0 64 64) [(1,some ⟨5,[.seq .u8 (Ax (JK (fun i=>xs.getD i 0) x))],false⟩)] [(Nat.beq xs.length 64,true)] path)
   | none=>none
  | _,_=>none
 | _=>none
theorem AX5:A6 Tryz.prog 229 mxSp:=by
 refine CS Tryz.func229 (by kernel_rfl) (by kernel_rfl) fun args H fr path r hs=>?_
 unfold mxSp at hs
 split at hs
 case h_2=>cases hs
 rename_i X k
 split at hs
 case h_2=>cases hs
 rename_i c x ty cs o hX hk
 split at hs
 case h_2=>cases hs
 rename_i xs hxs
 injection hs with hs
 refine ⟨[k],1,1,[],_,_,_,path,hs.symm,fun β us w ha hg hc=>?_⟩
 obtain ⟨u1,us1,r1,⟨u2,us2,r2,ha,rfl⟩,rfl⟩:=ha
 have e:xs=Ax fun i=>xs.getD i 0:=Qj (An.1 hc.1)
 refine ⟨[mG x,.val false [.p 0 0]],[(0,some (Ai (Yj fun i=>xs.getD i 0)))],AX4 _ _,rfl,⟨u1,_,(IP hX r1).2 _,⟨u2,_,AC4 (by omega) rfl r2,ha,rfl⟩,rfl⟩,TB hg hk fun l hl=>?_,fun j hj=>?_⟩
 ·obtain ⟨q1,q2⟩:=CY hxs hl
  have:=ADh (β:=A4 β [k] 1) q2
  rw [← q1] at this
  unfold Yj
  rw [← e]
  exact this
 ·match j,hj with
  | 0,_=>exact BZ (hg.heap _ _ hk)
noncomputable def SSs0:List (FuncId×ASpec):=(229,mxSp)::SSr
theorem ADi:AX Tryz.prog SSs0:=⟨AX5,ADg⟩
noncomputable abbrev oSs0:Orc:=AH SSs0 KV
theorem AX6:OrcOk Tryz.prog oSs0:=AK ADi A9
noncomputable def SSs:List (FuncId×ASpec):=(230,BY Tryz.prog oSs0 Tryz.f230 200)::SSs0
theorem ADj:AX Tryz.prog SSs:=⟨Bj AX6 AB Tryz.func230 (by kernel_rfl) (by kernel_rfl) 200,ADi⟩
noncomputable abbrev oSs:Orc:=AH SSs KV
theorem Yk:OrcOk Tryz.prog oSs:=AK ADj A9
theorem ADk {P:Program} {f:FuncId} {β0:Env} {w0:World} {R:Ending→World→Prop} {n:Fz} {W:List Nat} {x y:ASt} {k:Nat} {ty:TypeId} {cs cs':List Ch} {o:Bool} {keep ks:List Nat} {fr:Nat} (hk:AG x.s.H k=some ⟨ty,cs,o⟩) (h:∀ β l,AN β cs l→AN β cs' l)
  (hf:Ld keep ks fr [] ⟨x.s.T,Ea k cs' x.s.H,x.s.fr,x.s.path⟩=some y.s) (ht:x.todo=y.todo) (hβ0:∀ b,fr≤b→β0 b=none) (hs:ASafe P f β0 w0 R n W y):ASafe P f β0 w0 R n W x:=by
 refine K8 hk h (rM hf hβ0 ?_)
 rw [ht]
 exact hs
def kF (k:List Int):Nat→Int:=fun i=>k.getD i 0
def mH (k:List Int):List Int:=if 64<k.length then DA k else k
def Yl (f:Nat→Int) (b:List Int):List Int:=DA (Ax (JK f 92)++DA (Ax (JK f 54)++b))
def D8 (k b:List Int):List Int:=Yl (kF (mH k)) b
noncomputable abbrev macF:Func:=Tryz.f164
section
variable (o1 n1 m1 o2 n2 m2:Nat) (x1 x2:List Int)
noncomputable def Ym (p:List Bool):ASt:=Af macF [AI 0 o1 n1 m1,AI 1 o2 n2 m2] [(0,some (Ai [.seq .u8 x1])),(1,some (Ai [.seq .u8 x2]))] 2 p
noncomputable def IW:ASt:=EZ (C5 Tryz.prog oSs 10 2 (Ym o1 n1 m1 o2 n2 m2 x1 x2 [false]))
noncomputable def mI:ASt:=⟨(IW o1 n1 m1 o2 n2 m2 x1 x2).todo,⟨(IW o1 n1 m1 o2 n2 m2 x1 x2).s.T,Ea 3 [.seq .u8 (List.replicate 64 0)] (IW o1 n1 m1 o2 n2 m2 x1 x2).s.H,4,[]⟩⟩
noncomputable def LB:ASt:=EZ (C5 Tryz.prog oSs 1 2 (mI o1 n1 m1 o2 n2 m2 x1 x2))
noncomputable def LC:ASt:=EZ (C5 Tryz.prog oSs 13 2 (Ym o1 n1 m1 o2 n2 m2 x1 x2 [true]))
noncomputable def AX7:List Item:=(LB 0 0 0 0 0 0 [] []).todo
noncomputable def Qw (f:Nat→Int):ASt:=⟨AX7,⟨C8 macF.ntmps [(1,AI 1 o2 n2 m2),(4,.val false [.p 2 0]),(5,.val false [.p 3 0])],[(1,some (Ai [.seq .u8 x2])),(2,some ⟨122,List.replicate 32 (.n .u8 0),false⟩),(3,some ⟨176,[.seq .u8 (Ax f)],false⟩)],4,[]⟩⟩
theorem AX8:C5 Tryz.prog oSs 10 2 (Ym o1 n1 m1 o2 n2 m2 x1 x2 [false])=some ((AJ .i64 n1,true)::(decide ((64:Int)<n1),false)::[],[],IW o1 n1 m1 o2 n2 m2 x1 x2):=by kernel_rfl
theorem AX9:AG (IW o1 n1 m1 o2 n2 m2 x1 x2).s.H 3=some ⟨176,List.replicate 64 (.n .u8 0),false⟩:=by kernel_rfl
theorem AX_:(⟨(IW o1 n1 m1 o2 n2 m2 x1 x2).todo,⟨(IW o1 n1 m1 o2 n2 m2 x1 x2).s.T,Ea 3 [.seq .u8 (List.replicate 64 0)] (IW o1 n1 m1 o2 n2 m2 x1 x2).s.H,(IW o1 n1 m1 o2 n2 m2 x1 x2).s.fr,(IW o1 n1 m1 o2 n2 m2 x1 x2).s.path⟩⟩:ASt)=mI o1 n1 m1 o2 n2 m2 x1 x2:=by kernel_rfl
def Yn:List Int:=(List.replicate 64 0).take 0++((x1.drop o1).take (Nat.min n1 (64-0))++(List.replicate 64 0).drop (0+0*1+Nat.min n1 (64-0)*1))
theorem AX':C5 Tryz.prog oSs 1 2 (mI o1 n1 m1 o2 n2 m2 x1 x2)=some ((Nat.ble (o1+Nat.min n1 (64-0)) x1.length,true)::(Nat.ble (0+0*1+Nat.min n1 (64-0)*1) (List.replicate 64 (0:Int)).length,true)::[],[],LB o1 n1 m1 o2 n2 m2 x1 x2):=by kernel_rfl
theorem AYA:AG (LB o1 n1 m1 o2 n2 m2 x1 x2).s.H 3=some ⟨176,[.seq .u8 (Yn o1 n1 x1)],false⟩:=by kernel_rfl
theorem AYB (f:Nat→Int):Ld [1,4,5] [1,2,3] 4 [] ⟨(LB o1 n1 m1 o2 n2 m2 x1 x2).s.T,Ea 3 [.seq .u8 (Ax f)] (LB o1 n1 m1 o2 n2 m2 x1 x2).s.H,(LB o1 n1 m1 o2 n2 m2 x1 x2).s.fr,(LB o1 n1 m1 o2 n2 m2 x1 x2).s.path⟩=some (Qw o2 n2 m2 x2 f).s:=by kernel_rfl
theorem AYC (f:Nat→Int):(LB o1 n1 m1 o2 n2 m2 x1 x2).todo=(Qw o2 n2 m2 x2 f).todo:=by kernel_rfl
theorem AYD:C5 Tryz.prog oSs 13 2 (Ym o1 n1 m1 o2 n2 m2 x1 x2 [true])=some ((AJ .i64 n1,true)::(decide ((64:Int)<n1),true)::(Nat.ble (o1+n1) x1.length,true)::(Nat.ble n1 35184372088832,true)::(true,true)::[],[],LC o1 n1 m1 o2 n2 m2 x1 x2):=by kernel_rfl
noncomputable def ADl:List Ch:=match AG (LC o1 n1 m1 o2 n2 m2 x1 x2).s.H 3 with | some b=>b.cs | none=>[]
theorem AYE:AG (LC o1 n1 m1 o2 n2 m2 x1 x2).s.H 3=some ⟨176,ADl o1 n1 m1 o2 n2 m2 x1 x2,false⟩:=by kernel_rfl
theorem AYF:Ao .u8 (ADl o1 n1 m1 o2 n2 m2 x1 x2)=some (Ax (kF (DA (AA x1 o1 n1)))):=by kernel_rfl
theorem AYG (f:Nat→Int):Ld [1,4,5] [1,2,3] 4 [] ⟨(LC o1 n1 m1 o2 n2 m2 x1 x2).s.T,Ea 3 [.seq .u8 (Ax f)] (LC o1 n1 m1 o2 n2 m2 x1 x2).s.H,(LC o1 n1 m1 o2 n2 m2 x1 x2).s.fr,(LC o1 n1 m1 o2 n2 m2 x1 x2).s.path⟩=some (Qw o2 n2 m2 x2 f).s:=by kernel_rfl
theorem AYH (f:Nat→Int):(LC o1 n1 m1 o2 n2 m2 x1 x2).todo=(Qw o2 n2 m2 x2 f).todo:=by kernel_rfl
def Yo (f:Nat→Int):List Int:=AA (Ax (JK (fun i=>(Ax f).getD i 0) 54)) 0 64++AA x2 o2 n2
def mJ (f:Nat→Int):List Int:=DA (AA (AA (Ax (JK (fun i=>(Ax f).getD i 0) 92)) 0 64++AA (DA (AA (Yo o2 n2 x2 f) 0 (64+n2))) 0 32) 0 (64+32))
theorem AYI (f:Nat→Int):AM Tryz.prog oSs macF 400 2 [] (Qw o2 n2 m2 x2 f)=some (tt 2 ((Nat.ble (o2+n2) x2.length,true)::(Nat.ble (64+n2) 35184372088832,true)::(Nat.ble (0+(64+n2)) (Yo o2 n2 x2 f).length,true)::(Nat.ble (64+n2) 35184372088832,true)::tt 6 []),[],.val true [.seq .u8 (mJ o2 n2 x2 f)],[]):=by kernel_rfl
end
theorem Dp {l:List Int} {n:Nat} (h:l.length=n):AA l 0 n=l:=by unfold AA;rw [List.drop_zero];exact Dd h
theorem Uc (f:Nat→Int):(Ax f).length=64:=rfl
theorem ADm (f:Nat→Int) (x:Int):Ax (JK (fun i=>(Ax f).getD i 0) x)=Ax (JK f x):=by
 refine List.map_congr_left fun i hi=>?_
 have h:=Qk f (List.mem_range.1 hi)
 unfold gI at h
 rw [show 0+(i:Int).toNat*1=i by omega] at h
 exact congrArg (fun z=>bits .xor .u8 z x) h
theorem ADn (o2 n2:Nat) (x2:List Int) (f:Nat→Int):Yo o2 n2 x2 f=Ax (JK f 54)++AA x2 o2 n2:=by
 unfold Yo
 rw [Dp (Uc _),ADm]
theorem AYJ {o2 n2:Nat} {x2:List Int} (h:o2+n2≤x2.length) (f:Nat→Int):mJ o2 n2 x2 f=Yl f (AA x2 o2 n2):=by
 unfold mJ Yl
 rw [ADn,Dp (Uc _),ADm,Dp (LA _),Dp (D7 (Uc _) (CN h)),Dp (D7 (Uc _) (LA _))]
theorem ADo {o2 n2 m2:Nat} {x2:List Int} (h2:o2+n2≤x2.length) (hn:n2≤17592186044416) (f:Nat→Int) {β0:Env} {w0:World} (hb:∀ b,2≤b→β0 b=none) :
  ASafe Tryz.prog 164 β0 w0 (Ay β0 w0 [] (.val true [.seq .u8 (Yl f (AA x2 o2 n2))]) []) macF.ntmps [] (Qw o2 n2 m2 x2 f):=by
 have:=As (P:=Tryz.prog) (n:=macF.ntmps) (β0:=β0) (w0:=w0) (W:=[]) Yk AB Tryz.func164 (AYI o2 n2 m2 x2 f) (Ac 2 ⟨Nat.ble_eq_true_of_le h2,Nat.ble_eq_true_of_le (by omega),Nat.ble_eq_true_of_le (by rw [ADn,D7 (Uc _) (CN h2)];omega),Nat.ble_eq_true_of_le (by omega),Ac 6 trivial⟩) (AL (by kernel_rfl)) hb (fun _ h=>by cases h)
 rw [AYJ h2] at this
 exact this
theorem AYK {o1 n1:Nat} {x1:List Int} (h1:o1+n1≤x1.length) (hn:n1≤64):Yn o1 n1 x1=Ax (kF (AA x1 o1 n1)):=by
 have e:Yn o1 n1 x1=AA x1 o1 n1++List.replicate (64-n1) 0:=by
  unfold Yn
  rw [Nat.sub_zero,show Nat.min n1 64=n1 from Nat.min_eq_left hn,List.take_zero,List.nil_append,List.drop_replicate,show 64-(0+0*1+n1*1)=64-n1 by omega]
  rfl
 have hl:(AA x1 o1 n1++List.replicate (64-n1) (0:Int)).length=64:=by rw [List.length_append,CN h1,List.length_replicate];omega
 rw [e,Qj hl]
 refine List.map_congr_left fun i _=>?_
 unfold kF
 rw [List.getD_eq_getElem?_getD,List.getD_eq_getElem?_getD]
 by_cases q:i<n1
 ·rw [List.getElem?_append_left (by rw [CN h1];exact q)]
 ·rw [List.getElem?_append_right (by rw [CN h1];omega),List.getElem?_eq_none (l:=AA x1 o1 n1) (by rw [CN h1];omega),List.getElem?_replicate]
  split<;>rfl
theorem AYL {k:IntKind} {xs ys:List Int} (e:xs=ys) (β:Env) (l:List Value) (h:AN β [.seq k xs] l):AN β [.seq k ys] l:=e▸h
theorem AYM {o1 n1 m1 o2 n2 m2:Nat} {x1 x2:List Int} (h1:o1+n1≤x1.length) (h2:o2+n2≤x2.length) (hn1:n1≤64) (hn:n2≤17592186044416) {β0:Env} {w0:World} (hb:∀ b,2≤b→β0 b=none) :
  ASafe Tryz.prog 164 β0 w0 (Ay β0 w0 [] (.val true [.seq .u8 (D8 (AA x1 o1 n1) (AA x2 o2 n2))]) []) macF.ntmps [] (LB o1 n1 m1 o2 n2 m2 x1 x2):=by
 have:=ADo (m2:=m2) h2 hn (kF (AA x1 o1 n1)) (w0:=w0) hb
 unfold D8 mH
 rw [CN h1,if_neg (by omega)]
 exact ADk (AYA ..) (AYL (AYK h1 hn1)) (AYB o1 n1 m1 o2 n2 m2 x1 x2 _) (AYC ..) (fun b h=>hb b (by omega)) this
theorem AYN {o1 n1 m1 o2 n2 m2:Nat} {x1 x2:List Int} (h1:o1+n1≤x1.length) (h2:o2+n2≤x2.length) (hn1:64<n1) (hn:n2≤17592186044416) {β0:Env} {w0:World} (hb:∀ b,2≤b→β0 b=none) :
  ASafe Tryz.prog 164 β0 w0 (Ay β0 w0 [] (.val true [.seq .u8 (D8 (AA x1 o1 n1) (AA x2 o2 n2))]) []) macF.ntmps [] (LC o1 n1 m1 o2 n2 m2 x1 x2):=by
 have:=ADo (m2:=m2) h2 hn (kF (DA (AA x1 o1 n1))) (w0:=w0) hb
 unfold D8 mH
 rw [CN h1,if_pos hn1]
 exact ADk (AYE ..) (QY (AYF ..)) (AYG o1 n1 m1 o2 n2 m2 x1 x2 _) (AYH ..) (fun b h=>hb b (by omega)) this
theorem AYO {o1 n1 m1 o2 n2 m2:Nat} {x1 x2:List Int} (h1:o1+n1≤x1.length) (h2:o2+n2≤x2.length) (hn1:n1≤64) (hn:n2≤17592186044416) {β0:Env} {w0:World} (hb:∀ b,2≤b→β0 b=none) :
  ASafe Tryz.prog 164 β0 w0 (Ay β0 w0 [] (.val true [.seq .u8 (D8 (AA x1 o1 n1) (AA x2 o2 n2))]) []) macF.ntmps [] (IW o1 n1 m1 o2 n2 m2 x1 x2):=by
 refine K8 (AX9 ..) (QY (k:=.u8) (xs:=List.replicate 64 0) (by kernel_rfl)) ?_
 rw [AX_]
 refine HP Yk AB (AX' ..) ⟨Nat.ble_eq_true_of_le ?_,Nat.ble_eq_true_of_le ?_,trivial⟩ (AL (by kernel_rfl)) hb (fun _ h=>by cases h) fun _=>AYM h1 h2 hn1 hn hb
 ·rw [Nat.sub_zero,show Nat.min n1 64=n1 from Nat.min_eq_left hn1];exact h1
 ·rw [Nat.sub_zero,show Nat.min n1 64=n1 from Nat.min_eq_left hn1,List.length_replicate];omega
theorem AYP {o1 n1 m1 o2 n2 m2:Nat} {x1 x2:List Int} (h1:o1+n1≤x1.length) (h2:o2+n2≤x2.length) (hn1:n1≤17592186044416) (hn:n2≤17592186044416) :
  Ad Tryz.prog 164 [AI 0 o1 n1 m1,AI 1 o2 n2 m2] [(0,some (Ai [.seq .u8 x1])),(1,some (Ai [.seq .u8 x2]))] 2 [] (.val true [.seq .u8 (D8 (AA x1 o1 n1) (AA x2 o2 n2))]) []:=by
 have hh:AJ .i64 n1=true:=DI (by omega)
 rcases Nat.lt_or_ge 64 n1 with q | q
 ·exact Av (path:=[true]) Tryz.func164 (by kernel_rfl) (by kernel_rfl) fun β0 w0 hb=>HP Yk AB (AYD ..) ⟨hh,decide_eq_true (by omega),Nat.ble_eq_true_of_le h1,Nat.ble_eq_true_of_le (by omega),rfl,trivial⟩ (AL (by kernel_rfl)) hb (fun _ h=>by cases h) fun _=>AYN h1 h2 q hn hb
 ·exact Av (path:=[false]) Tryz.func164 (by kernel_rfl) (by kernel_rfl) fun β0 w0 hb=>HP Yk AB (AX8 ..) ⟨hh,decide_eq_false (by omega),trivial⟩ (AL (by kernel_rfl)) hb (fun _ h=>by cases h) fun _=>AYO h1 h2 q hn hb
def mK (g:List Int→List Int→AV) (B:Nat):ASpec:=fun args H fr path=>match args with
 | [S,T]=>match By S,By T with
  | some (k,o,n),some (l,p,m)=>match AG H k,AG H l with
   | some ⟨_,cs,_⟩,some ⟨_,ds,_⟩=>match Ao .u8 cs,Ao .u8 ds with
    | some xs,some ys=>some (A5 [k,l] 2 fr 0 [] (g (AA xs o n) (AA ys p m)) [] [(Nat.ble (o+n) xs.length,true),(Nat.ble (p+m) ys.length,true),(Nat.ble n B,true),(Nat.ble m B,true)] path)
    | _,_=>none
   | _,_=>none
  | _,_=>none
 | _=>none
theorem AYQ {F:FuncId} {fn:Func} {g:List Int→List Int→AV} {B:Nat} (hfn:Tryz.prog.funcs[F]? = some fn) (hb:fn.body.isSome=true) (hname:(fn.name=="runtime.NumGoroutine")=false) (hk:∀ a b,Cu 2 0 [] (g a b) []=true)
  (h:∀ {o1 n1 m1 o2 n2 m2:Nat} {x1 x2:List Int},(∀ d∈x1,0≤d∧d<256)→(∀ d∈x2,0≤d∧d<256)→o1+n1≤x1.length→o2+n2≤x2.length→n1≤B→n2≤B→Ad Tryz.prog F [AI 0 o1 n1 m1,AI 1 o2 n2 m2] [(0,some (Ai [.seq .u8 x1])),(1,some (Ai [.seq .u8 x2]))] 2 [] (g (AA x1 o1 n1) (AA x2 o2 n2)) []):A6 Tryz.prog F (mK g B):=by
 refine CS hfn hb hname fun args H fr path r hs=>?_
 unfold mK at hs
 split at hs
 case h_2=>cases hs
 rename_i S T
 split at hs
 case h_2=>cases hs
 rename_i k o n l p m hS hT
 split at hs
 case h_2=>cases hs
 rename_i ty cs op ty' ds op' hk' hl'
 split at hs
 case h_2=>cases hs
 rename_i xs ys hx hy
 injection hs with hs
 refine ⟨[k,l],2,0,[],_,_,_,path,hs.symm,fun β us w ha hg hc=>?_⟩
 obtain ⟨c1,c2,c3,c4,_⟩:=hc
 obtain ⟨u1,us1,r1,⟨u2,us2,r2,ha,rfl⟩,rfl⟩:=ha
 obtain ⟨m1,r1⟩:=DF hS r1
 obtain ⟨m2,r2⟩:=DF hT r2
 obtain ⟨g1,_,_⟩:=Cx hg hk' hx
 obtain ⟨g2,_,_⟩:=Cx hg hl' hy
 refine ⟨[AI 0 o n m1,AI 1 p m m2],[(0,some (Ai [.seq .u8 xs])),(1,some (Ai [.seq .u8 ys]))],h g1 g2 (Nat.le_of_ble_eq_true c1) (Nat.le_of_ble_eq_true c2) (Nat.le_of_ble_eq_true c3) (Nat.le_of_ble_eq_true c4),hk _ _,⟨u1,_,BS (by omega) rfl r1,⟨u2,_,BS (by omega) rfl r2,ha,rfl⟩,rfl⟩,JJ (bs:=[Ai [.seq .u8 xs],Ai [.seq .u8 ys]]) hg fun j d hj=>?_,fun j hj=>?_⟩
 ·match j,hj with
  | 0,hj=>injection hj with hj;subst hj;exact ⟨rfl,Dj hg hk' hx (by show 0<2;decide) rfl⟩
  | 1,hj=>injection hj with hj;subst hj;exact ⟨rfl,Dj hg hl' hy (by show 1<2;decide) rfl⟩
 ·match j,hj with
  | 0,_=>exact BZ (hg.heap _ _ hk')
  | 1,_=>exact BZ (hg.heap _ _ hl')
def AYR (a b:List Int):AV:=.val true [.seq .u8 (D8 a b)]
noncomputable def SSt0:List (FuncId×ASpec):=(164,mK AYR 17592186044416)::SSs
theorem ADp:AX Tryz.prog SSt0:=⟨AYQ Tryz.func164 (by kernel_rfl) (by kernel_rfl) (fun _ _=>rfl) fun _ _=>AYP,ADj⟩
noncomputable abbrev oSt0:Orc:=AH SSt0 KV
theorem AYS:OrcOk Tryz.prog oSt0:=AK ADp A9
noncomputable def SSt:List (FuncId×ASpec):=(99,BY Tryz.prog oSt0 Tryz.f99 100)::SSt0
theorem ADq:AX Tryz.prog SSt:=⟨Bj AYS AB Tryz.func99 (by kernel_rfl) (by kernel_rfl) 100,ADp⟩
noncomputable abbrev oSt:Orc:=AH SSt KV
theorem AYT:OrcOk Tryz.prog oSt:=AK ADq A9
noncomputable abbrev exF:Func:=Tryz.f101
section
variable (o1 n1 m1 o2 n2 m2:Nat) (x1 x2:List Int)
noncomputable def exE (p:List Bool):ASt:=Af exF [AI 0 o1 n1 m1,AI 1 o2 n2 m2,.val false [.n .i64 48]] [(0,some (Ai [.seq .u8 x1])),(1,some (Ai [.seq .u8 x2]))] 2 p
def Qy:List Int:=AA x2 o2 n2++AA [1] 0 1
def Yp:List Int:=D8 (AA x1 o1 n1) (AA (Qy o2 n2 x2) 0 (n2+1))
def Qz:List Int:=AA (Yp o1 n1 o2 n2 x1 x2) (0+0*1) (32-0)++AA x2 o2 n2++AA [2] 0 1
def mL:List Int:=D8 (AA x1 o1 n1) (AA (Qz o1 n1 o2 n2 x1 x2) 0 (32-0+n2+1))
def mM:List Int:=List.append (List.take (0+(32-0)) (List.append [] (List.take (32-0) (List.drop (0+0*1) (Yp o1 n1 o2 n2 x1 x2))))) (List.take (32-0) (List.drop (0+0*1) (mL o1 n1 o2 n2 x1 x2)))
theorem AYV:AM Tryz.prog oSt exF 400 2 [17] (exE o1 n1 m1 o2 n2 m2 x1 x2 [true,true,false])=some (tt 2 ((Nat.ble (o2+n2) x2.length,true)::(true,true)::(Nat.ble (n2+1) 35184372088832,true)::(Nat.ble (o1+n1) x1.length,true)::(Nat.ble (0+(n2+1)) (Qy o2 n2 x2).length,true)::(Nat.ble n1 17592186044416,true)::(Nat.ble (n2+1) 17592186044416,true)::tt 5 ((Nat.ble (o2+n2) x2.length,true)::(true,true)::(Nat.ble (32-0+n2+1) 35184372088832,true)::(Nat.ble (o1+n1) x1.length,true)::(Nat.ble (0+(32-0+n2+1)) (Qz o1 n1 o2 n2 x1 x2).length,true)::(Nat.ble n1 17592186044416,true)::(Nat.ble (32-0+n2+1) 17592186044416,true)::tt 4 ((false,false)::(true,true)::[]))),[],.tup [(false,[.sx 17 48 1]),(false,[.n .i64 0])],[(17,some ⟨5,[.seq .u8 (mM o1 n1 o2 n2 x1 x2)],true⟩)]):=by kernel_rfl
end
def OY (k i:List Int):List Int:=D8 k (i++[1])++D8 k (D8 k (i++[1])++i++[2])
theorem Ud (a b:List Int):(D8 a b).length=32:=rfl
theorem AYW {o1 n1 o2 n2:Nat} {x1 x2:List Int} (h2:o2+n2≤x2.length):mM o1 n1 o2 n2 x1 x2=OY (AA x1 o1 n1) (AA x2 o2 n2)∧(Qy o2 n2 x2).length=n2+1∧(Qz o1 n1 o2 n2 x1 x2).length=32+n2+1:=by
 have w:AA [(1:Int)] 0 1=[1]:=rfl
 have w':AA [(2:Int)] 0 1=[2]:=rfl
 have l1:(Qy o2 n2 x2).length=n2+1:=by unfold Qy;rw [w];exact D7 (CN h2) rfl
 have t1:Yp o1 n1 o2 n2 x1 x2=D8 (AA x1 o1 n1) (AA x2 o2 n2++[1]):=by unfold Yp;rw [Dp l1];unfold Qy;rw [w]
 have b2:Qz o1 n1 o2 n2 x1 x2=D8 (AA x1 o1 n1) (AA x2 o2 n2++[1])++AA x2 o2 n2++[2]:=by
  unfold Qz
  rw [w',t1,show 0+0*1=0 from rfl,show 32-0=32 from rfl,Dp (Ud _ _)]
 have l2:(Qz o1 n1 o2 n2 x1 x2).length=32+n2+1:=by rw [b2];exact D7 (D7 (Ud _ _) (CN h2)) rfl
 have t2:mL o1 n1 o2 n2 x1 x2=D8 (AA x1 o1 n1) (D8 (AA x1 o1 n1) (AA x2 o2 n2++[1])++AA x2 o2 n2++[2]):=by unfold mL;rw [show 32-0+n2+1=32+n2+1 from rfl,Dp l2,b2]
 refine ⟨?_,l1,l2⟩
 unfold mM OY
 rw [t1,t2]
 generalize ha:D8 (AA x1 o1 n1) (AA x2 o2 n2++[1])=a
 have la:a.length=32:=by rw [← ha];exact Ud _ _
 generalize hb:D8 (AA x1 o1 n1) (a++AA x2 o2 n2++[2])=b
 have lb:b.length=32:=by rw [← hb];exact Ud _ _
 show List.take (0+(32-0)) ([]++List.take (32-0) (List.drop (0+0*1) a))++List.take (32-0) (List.drop (0+0*1) b)=a++b
 rw [show 0+0*1=0 from rfl,show 32-0=32 from rfl,List.drop_zero,List.drop_zero,List.nil_append,Dd la,Dd lb,Dd (by omega)]
def exO (ys:List Int):Heap:=[(17,some ⟨5,[.seq .u8 ys],true⟩)]
theorem AYY {o1 n1 m1 o2 n2 m2:Nat} {x1 x2:List Int} (h1:o1+n1≤x1.length) (h2:o2+n2≤x2.length) (hn1:n1≤8796093022208) (hn:n2≤8796093022208) :
  Ad Tryz.prog 101 [AI 0 o1 n1 m1,AI 1 o2 n2 m2,.val false [.n .i64 48]] [(0,some (Ai [.seq .u8 x1])),(1,some (Ai [.seq .u8 x2]))] 2 [] (.tup [(false,[.sx 17 48 1]),(false,[.n .i64 0])]) (exO (OY (AA x1 o1 n1) (AA x2 o2 n2))):=by
 obtain ⟨e,l1,l2⟩:=AYW (o1:=o1) (n1:=n1) (x1:=x1) h2
 refine Av (path:=[true,true,false]) Tryz.func101 (by kernel_rfl) (by kernel_rfl) fun β0 w0 hb=>?_
 have:=As (P:=Tryz.prog) (n:=exF.ntmps) (β0:=β0) (w0:=w0) (W:=[]) AYT AB Tryz.func101 (AYV o1 n1 m1 o2 n2 m2 x1 x2) (Ac 2 ⟨Nat.ble_eq_true_of_le h2,rfl,Nat.ble_eq_true_of_le (by omega),Nat.ble_eq_true_of_le h1,Nat.ble_eq_true_of_le (by rw [l1];omega),Nat.ble_eq_true_of_le (by omega),Nat.ble_eq_true_of_le (by omega),Ac 5 ⟨Nat.ble_eq_true_of_le h2,rfl,Nat.ble_eq_true_of_le (by omega),Nat.ble_eq_true_of_le h1,Nat.ble_eq_true_of_le (by rw [l2];omega),Nat.ble_eq_true_of_le (by omega),Nat.ble_eq_true_of_le (by omega),Ac 4 ⟨rfl,rfl,trivial⟩⟩⟩) (AL (by kernel_rfl)) hb (fun _ h=>by cases h)
 rw [e] at this
 exact this
theorem Yq {β:Env} {H:Heap} {w:World} {S T:AV} {k o n l p m:Nat} {ty ty':TypeId} {cs ds:List Ch} {op op':Bool} {xs ys:List Int} {u1 u2:Value} (hg:Ex.Good β H w) (hS:By S=some (k,o,n)) (hT:By T=some (l,p,m)) (hk:AG H k=some ⟨ty,cs,op⟩) (hl:AG H l=some ⟨ty',ds,op'⟩) (hx:Ao .u8 cs=some xs) (hy:Ao .u8 ds=some ys) (r1:AP β S u1) (r2:AP β T u2) :
  ∃ m1 m2,AP (A4 β [k,l] 2) (AI 0 o n m1) u1∧AP (A4 β [k,l] 2) (AI 1 p m m2) u2∧(∀ d∈xs,0≤d∧d<256)∧(∀ d∈ys,0≤d∧d<256)∧Ex.Good (A4 β [k,l] 2) [(0,some (Ai [.seq .u8 xs])),(1,some (Ai [.seq .u8 ys]))] w∧(∀ j,j<2→∃ X,β (nth [k,l] j)=some X):=by
 obtain ⟨m1,r1⟩:=DF hS r1
 obtain ⟨m2,r2⟩:=DF hT r2
 obtain ⟨g1,_,_⟩:=Cx hg hk hx
 obtain ⟨g2,_,_⟩:=Cx hg hl hy
 refine ⟨m1,m2,BS (by omega) rfl r1,BS (by omega) rfl r2,g1,g2,JJ (bs:=[Ai [.seq .u8 xs],Ai [.seq .u8 ys]]) hg fun j d hj=>?_,fun j hj=>?_⟩
 ·match j,hj with
  | 0,hj=>injection hj with hj;subst hj;exact ⟨rfl,Dj hg hk hx (by show 0<2;decide) rfl⟩
  | 1,hj=>injection hj with hj;subst hj;exact ⟨rfl,Dj hg hl hy (by show 1<2;decide) rfl⟩
 ·match j,hj with
  | 0,_=>exact BZ (hg.heap _ _ hk)
  | 1,_=>exact BZ (hg.heap _ _ hl)
def mN (K nw:Nat):ASpec:=fun args H fr path=>match args with
 | [S,T,.val false [.n .i64 48]]=>match By S,By T with
  | some (k,o,n),some (l,p,m)=>match AG H k,AG H l with
   | some ⟨_,cs,_⟩,some ⟨_,ds,_⟩=>match Ao .u8 cs,Ao .u8 ds with
    | some xs,some ys=>some (A5 [k,l] 2 fr nw [] (.tup [(false,[.sx K 48 1]),(false,[.n .i64 0])]) [(K,some ⟨5,[.seq .u8 (OY (AA xs o n) (AA ys p m))],true⟩)] [(Nat.ble (o+n) xs.length,true),(Nat.ble (p+m) ys.length,true),(Nat.ble n 8796093022208,true),(Nat.ble m 8796093022208,true)] path)
    | _,_=>none
   | _,_=>none
  | _,_=>none
 | _=>none
theorem AYZ {F:FuncId} {fn:Func} {K nw:Nat} (hfn:Tryz.prog.funcs[F]? = some fn) (hb:fn.body.isSome=true) (hname:(fn.name=="runtime.NumGoroutine")=false) (hk:∀ L,Cu 2 nw [] (.tup [(false,[.sx K 48 1]),(false,[.n .i64 0])]) [(K,some ⟨5,[.seq .u8 L],true⟩)]=true)
  (h:∀ {o1 n1 m1 o2 n2 m2:Nat} {x1 x2:List Int},o1+n1≤x1.length→o2+n2≤x2.length→n1≤8796093022208→n2≤8796093022208→Ad Tryz.prog F [AI 0 o1 n1 m1,AI 1 o2 n2 m2,.val false [.n .i64 48]] [(0,some (Ai [.seq .u8 x1])),(1,some (Ai [.seq .u8 x2]))] 2 [] (.tup [(false,[.sx K 48 1]),(false,[.n .i64 0])]) [(K,some ⟨5,[.seq .u8 (OY (AA x1 o1 n1) (AA x2 o2 n2))],true⟩)]):A6 Tryz.prog F (mN K nw):=by
 refine CS hfn hb hname fun args H fr path r hs=>?_
 unfold mN at hs
 split at hs
 case h_2=>cases hs
 rename_i S T
 split at hs
 case h_2=>cases hs
 rename_i k o n l p m hS hT
 split at hs
 case h_2=>cases hs
 rename_i ty cs op ty' ds op' hk' hl'
 split at hs
 case h_2=>cases hs
 rename_i xs ys hx hy
 injection hs with hs
 refine ⟨[k,l],2,nw,[],_,_,_,path,hs.symm,fun β us w ha hg hc=>?_⟩
 obtain ⟨c1,c2,c3,c4,_⟩:=hc
 obtain ⟨u1,us1,r1,⟨u2,us2,r2,⟨u3,us3,r3,ha,rfl⟩,rfl⟩,rfl⟩:=ha
 obtain ⟨m1,m2,q1,q2,_,_,q5,q6⟩:=Yq hg hS hT hk' hl' hx hy r1 r2
 exact ⟨_,_,h (Nat.le_of_ble_eq_true c1) (Nat.le_of_ble_eq_true c2) (Nat.le_of_ble_eq_true c3) (Nat.le_of_ble_eq_true c4),hk _,⟨u1,_,q1,⟨u2,_,q2,⟨u3,_,In rfl r3,ha,rfl⟩,rfl⟩,rfl⟩,q5,q6⟩
noncomputable def SSu:List (FuncId×ASpec):=(101,mN 17 16)::SSt
theorem AYa:AX Tryz.prog SSu:=⟨AYZ Tryz.func101 (by kernel_rfl) (by kernel_rfl) (fun _=>rfl) AYY,ADq⟩
noncomputable def SSv:List (FuncId×ASpec):=SSu
theorem AYb:AX Tryz.prog SSv:=AYa
section
variable (o1 n1 m1 o2 n2 m2:Nat) (x1 x2:List Int)
end
noncomputable def SSw0:List (FuncId×ASpec):=SSv
theorem AYc:AX Tryz.prog SSw0:=AYb
section
variable (o1 n1 m1 o2 n2 m2:Nat) (x1 x2:List Int)
end
noncomputable def SSw:List (FuncId×ASpec):=SSw0
theorem AYd:AX Tryz.prog SSw:=AYc
def mO (g:List Int→AV) (B:Nat):ASpec:=fun args H fr path=>match args with
 | [S]=>match By S with
  | some (k,off,n)=>match AG H k with
   | some ⟨_,cs,_⟩=>match Ao .u8 cs with
    | some xs=>some (A5 [k] 1 fr 0 [] (g (AA xs off n)) [] [(Nat.ble (off+n) xs.length,true),(Nat.ble n B,true)] path)
    | none=>none
   | none=>none
  | none=>none
 | _=>none
theorem AYe {F:FuncId} {fn:Func} {g:List Int→AV} {B:Nat} (hfn:Tryz.prog.funcs[F]? = some fn) (hb:fn.body.isSome=true) (hname:(fn.name=="runtime.NumGoroutine")=false) (hk:∀ a,Cu 1 0 [] (g a) []=true) (hcan:∀ {off n m:Nat} {xs:List Int},(∀ d∈xs,0≤d∧d<256)→off+n≤xs.length→n≤B→Ad Tryz.prog F [AI 0 off n m] (Au xs) 1 [] (g (AA xs off n)) []):A6 Tryz.prog F (mO g B):=by
 refine CS hfn hb hname fun args H fr path r hs=>?_
 unfold mO at hs
 split at hs
 case h_2=>cases hs
 rename_i S
 split at hs
 case h_2=>cases hs
 rename_i k off n hS
 split at hs
 case h_2=>cases hs
 rename_i ty cs o hk'
 split at hs
 case h_2=>cases hs
 rename_i xs hxs
 injection hs with hs
 refine ⟨[k],1,0,[],_,_,_,path,hs.symm,fun β us w ha hg hc=>?_⟩
 obtain ⟨u1,us1,r1,ha,rfl⟩:=ha
 obtain ⟨m,r1⟩:=DF hS r1
 obtain ⟨g1,g2,g3⟩:=Cx hg hk' hxs
 exact ⟨[AI 0 off n m],Au xs,hcan g1 (Nat.le_of_ble_eq_true hc.1) (Nat.le_of_ble_eq_true hc.2.1),hk _,⟨u1,_,BS (by omega) rfl r1,ha,rfl⟩,g2,g3⟩
noncomputable def SSx0:List (FuncId×ASpec):=SSw++SVb3
theorem mQ:AX Tryz.prog SSx0:=K3 AYd X1
noncomputable abbrev oSx0:Orc:=AH SSx0 KV
theorem AYf:OrcOk Tryz.prog oSx0:=AK mQ A9
def HM (off n:Nat) (xs:List Int):List Int:=List.map (AE (AT (AA xs off n))) (List.range ((n+7) / 8))++[]
theorem AYg (off n m:Nat) (xs:List Int):AM Tryz.prog oSx0 Tryz.f21 300 1 [] (Af Tryz.f21 [AI 0 off n m] (Au xs) 1 []) =
 some ((Nat.ble (off+n) xs.length,true)::(Nat.ble n 35184372088832,true)::(Nat.ble (0+(n+7) / 8) (HM off n xs).length,true)::(Nat.ble ((n+7) / 8) 1125899906842624,true)::[],[],GF (AF (AA (HM off n xs) 0 ((n+7) / 8)) % rN),[]):=by kernel_rfl
theorem mR {off n:Nat} {xs:List Int} (hx:∀ d∈xs,0≤d∧d<256) (hl:off+n≤xs.length):AF (AA (HM off n xs) 0 ((n+7) / 8))=AT (AA xs off n):=by
 have e:HM off n xs=DE (AT (AA xs off n)) ((n+7) / 8):=by unfold HM DE;rw [List.append_nil]
 rw [e,Dp (by simp [DE]),wM]
 have h:=WM (AA xs off n) (Cp hx)
 rw [CN hl,KA] at h
 exact Nat.lt_of_lt_of_le h (Nat.pow_le_pow_right (by decide) (by omega))
theorem AYh {off n m:Nat} {xs:List Int} (hx:∀ d∈xs,0≤d∧d<256) (hl:off+n≤xs.length) (hn:n≤35184372088832):Ad Tryz.prog 21 [AI 0 off n m] (Au xs) 1 [] (GF (AT (AA xs off n) % rN)) []:=by
 have:=A2 mQ A9 Tryz.func21 (by kernel_rfl) (by kernel_rfl) (AYg off n m xs) (by kernel_rfl) ⟨Nat.ble_eq_true_of_le hl,Nat.ble_eq_true_of_le hn,Nat.ble_eq_true_of_le (by unfold HM;simp),Nat.ble_eq_true_of_le (by omega),trivial⟩
 rw [mR hx hl] at this
 exact this
def mS (x:Nat):AV:=.val true [.seq .u8 (BK x 32)]
theorem AYi (a:Nat):AR Tryz.prog oSx0 Tryz.f53 [GF a] [] 300=some (tt 4 [],mS (AF (AA (MZ (a % rN)) 0 4))):=by kernel_rfl
theorem AYj {a:Nat} (_h:a<R4):AU Tryz.prog 53 [GF a] (mS (a % rN)):=by
 have h1:=AW AYf AB Tryz.func53 (AYi a) (Ac 4 trivial) rfl
 rw [UK (j6 a)] at h1
 exact h1
noncomputable def SSx:List (FuncId×ASpec):=(21,mO (fun l=>GF (AT l % rN)) 35184372088832)::(53,Aj (Xx fun x=>mS (x % rN)))::SSx0
theorem ADr:AX Tryz.prog SSx:=⟨AYe Tryz.func21 (by kernel_rfl) (by kernel_rfl) (fun _=>rfl) AYh,Ak Tryz.func53 (by kernel_rfl) (by kernel_rfl) (ACN fun _ h=>AYj h),mQ⟩
noncomputable abbrev oSx:Orc:=AH SSx KV
theorem Ue:OrcOk Tryz.prog oSx:=AK ADr A9
def tagK:List Int:=[66,76,83,45,83,73,71,45,75,69,89,71,69,78,45,83,65,76,84,45]
noncomputable def OZ (y b i:List Int):Nat:=AT (AA (OY (D8 (DA y) (b++[0])) (i++[0,48])) 0 48) % rN
noncomputable def Mz (b i:List Int):Nat→List Int→Nat
 | 0,_=>0
 | r+1,y=>if OZ y b i=0 then Mz b i r (DA y) else OZ y b i
theorem ADs:∃ f:List Int→List Int→Nat,∀ b i,f b i=Mz b i 16 tagK:=⟨_,fun _ _=>rfl⟩
noncomputable def M0:List Int→List Int→Nat:=Classical.choose ADs
theorem AYk (b i:List Int):M0 b i=Mz b i 16 tagK:=Classical.choose_spec ADs b i
noncomputable abbrev kgF:Func:=Tryz.f34
section
variable (o1 n1 m1 o2 n2 m2:Nat) (x1 x2 y:List Int) (i:Int)
noncomputable def mT (p:List Bool):ASt:=Af kgF [AI 0 o1 n1 m1,AI 1 o2 n2 m2] [(0,some (Ai [.seq .u8 x1])),(1,some (Ai [.seq .u8 x2]))] 2 p
noncomputable def ADt:List Item:=Be (AS Tryz.prog oSx (some 0) 100 2 none (mT 0 0 0 0 0 0 [] [] [false]))
noncomputable def kgT (c:AV):List AV:=C8 kgF.ntmps [(0,AI 0 o1 n1 m1),(1,AI 1 o2 n2 m2),(6,.val false [.p 2 0]),(18,c)]
def kgH:Heap:=[(0,some (Ai [.seq .u8 x1])),(1,some (Ai [.seq .u8 x2])),(2,some ⟨122,[.seq .u8 (DA y)],false⟩)]
noncomputable def Uf (p:List Bool):ASt:=⟨ADt,⟨kgT o1 n1 m1 o2 n2 m2 (iA i),kgH x1 x2 y,3,p⟩⟩
theorem AYl:AS Tryz.prog oSx (some 0) 100 2 (some ([0,1,6,18],[0,1,3],4)) (mT o1 n1 m1 o2 n2 m2 x1 x2 [false])=some ((AJ .i64 n1,true)::(decide ((n1:Int)<32),false)::tt 2 [],[],⟨ADt,⟨E7 (Bt 2 [3]) (kgT o1 n1 m1 o2 n2 m2 (.val false [.n .i64 0])),EL (Bt 2 [3]) (kgH x1 x2 (AA tagK 0 20)),4,[]⟩⟩):=by kernel_rfl
def Yr:List Int:=AA x1 o1 n1++AA [0] 0 1
def Ys:List Int:=AA x2 o2 n2++AA [0,48] 0 2
noncomputable def Yt:Nat:=AT (AA (OY (AA (D8 (AA (DA y) (0+0*1) (32-0)) (AA (Yr o1 n1 x1) 0 (n1+1))) (0+0*1) (32-0)) (AA (Ys o2 n2 x2) 0 (n2+2))) 0 48) % rN
noncomputable def Yu (b:Bool) (r:List (Bool×Bool)):List (Bool×Bool):=(decide (i<16),true)::(Nat.ble (o1+n1) x1.length,true)::(true,true)::(Nat.ble (n1+1) 35184372088832,true)::(true,true)::(Nat.ble (0+(n1+1)) (Yr o1 n1 x1).length,true)::(true,true)::(Nat.ble (n1+1) 17592186044416,true)::(Nat.ble (o2+n2) x2.length,true)::(true,true)::(Nat.ble (n2+2) 35184372088832,true)::(true,true)::(Nat.ble (0+(n2+2)) (Ys o2 n2 x2).length,true)::(true,true)::(Nat.ble (n2+2) 8796093022208,true)::tt 2 ((!decide (Yt o1 n1 o2 n2 x1 x2 y=0),b)::r)
theorem AYm:AS Tryz.prog oSx (some 0) 100 2 (some ([0,1,6,18],[0,1,2],3)) (Uf o1 n1 m1 o2 n2 m2 x1 x2 y i [true,false])=some (Yu o1 n1 o2 n2 x1 x2 y i false (tt 2 []),[],Uf o1 n1 m1 o2 n2 m2 x1 x2 (AA (DA y) (0+0*1) (32-0)) (wI (i+1)) []):=by kernel_rfl
def Yv (K:Nat) (xs:List Int):Heap:=[(K,some ⟨22,[.seq .u8 xs],false⟩)]
def Yw (K:Nat):AV:=.tup [(false,[.sl K 0 32 32]),(false,[.n .i64 0])]
def Oi (e:Int):AV:=.tup [(false,[.v (.slice none 0 0)]),(false,[.n .i64 e])]
theorem AYn:AM Tryz.prog oSx kgF 400 2 [32] (Uf o1 n1 m1 o2 n2 m2 x1 x2 y i [true,true])=some (Yu o1 n1 o2 n2 x1 x2 y i true [],[],Yw 32,Yv 32 (BK (Yt o1 n1 o2 n2 x1 x2 y % rN) 32)):=by kernel_rfl
theorem AYo:AM Tryz.prog oSx kgF 400 2 [] (Uf o1 n1 m1 o2 n2 m2 x1 x2 y i [false])=some ((decide (i<16),false)::[],[],Oi 210,[]):=by kernel_rfl
theorem AYp:AM Tryz.prog oSx kgF 400 2 [] (mT o1 n1 m1 o2 n2 m2 x1 x2 [true])=some ((AJ .i64 n1,true)::(decide ((n1:Int)<32),true)::[],[],Oi 211,[]):=by kernel_rfl
end
theorem ADw {o1 n1 o2 n2:Nat} {x1 x2:List Int} (h1:o1+n1≤x1.length) (h2:o2+n2≤x2.length) (y:List Int):Yt o1 n1 o2 n2 x1 x2 y=OZ y (AA x1 o1 n1) (AA x2 o2 n2):=by
 unfold Yt OZ
 have e1:Yr o1 n1 x1=AA x1 o1 n1++[0]:=rfl
 have e2:Ys o2 n2 x2=AA x2 o2 n2++[0,48]:=rfl
 rw [e1,e2,show 0+0*1=0 from rfl,show 32-0=32 from rfl,Dp (LA _),Dp (Ud _ _),Dp (D7 (b:=[0]) (m:=1) (CN h1) rfl),Dp (D7 (b:=[0,48]) (m:=2) (CN h2) rfl)]
theorem ADx {o1 n1 o2 n2:Nat} {x1 x2 y:List Int} {i:Int} {b:Bool} {r:List (Bool×Bool)} (h1:o1+n1≤x1.length) (h2:o2+n2≤x2.length) (hn1:n1≤4398046511104) (hn2:n2≤4398046511104) (hi:i<16) (hb:(!decide (OZ y (AA x1 o1 n1) (AA x2 o2 n2)=0))=b) (hr:AQ r):AQ (Yu o1 n1 o2 n2 x1 x2 y i b r):=by
 have l1:(Yr o1 n1 x1).length=n1+1:=D7 (CN h1) rfl
 have l2:(Ys o2 n2 x2).length=n2+2:=D7 (CN h2) rfl
 unfold Yu
 rw [ADw h1 h2,l1,l2]
 exact ⟨decide_eq_true hi,Nat.ble_eq_true_of_le h1,rfl,Nat.ble_eq_true_of_le (by omega),rfl,Nat.ble_eq_true_of_le (by omega),rfl,Nat.ble_eq_true_of_le (by omega),Nat.ble_eq_true_of_le h2,rfl,Nat.ble_eq_true_of_le (by omega),rfl,Nat.ble_eq_true_of_le (by omega),rfl,Nat.ble_eq_true_of_le (by omega),Ac 2 ⟨hb,hr⟩⟩
noncomputable def Oj (K N:Nat):AV:=if N=0 then Oi 210 else Yw K
noncomputable def Ok (K N:Nat):Heap:=if N=0 then [] else Yv K (BK N 32)
theorem AYq (y b i:List Int):OZ y b i<rN:=Nat.mod_lt _ j5
theorem AYr {o1 n1 m1 o2 n2 m2:Nat} {x1 x2:List Int} (h1:o1+n1≤x1.length) (h2:o2+n2≤x2.length) (hn1:n1≤4398046511104) (hn2:n2≤4398046511104) {β0:Env} {w0:World} (hb:∀ b,2≤b→β0 b=none):∀ (r i:Nat) (y:List Int),i+r=16 →
  ASafe Tryz.prog 34 β0 w0 (Ay β0 w0 [] (Oj 32 (Mz (AA x1 o1 n1) (AA x2 o2 n2) r y)) (Ok 32 (Mz (AA x1 o1 n1) (AA x2 o2 n2) r y))) kgF.ntmps [] (Uf o1 n1 m1 o2 n2 m2 x1 x2 y (i:Int) []):=by
 intro r
 induction r with
 | zero =>
  intro i y hi
  obtain rfl:i=16:=by omega
  unfold Oj Ok Mz
  rw [if_pos rfl,if_pos rfl]
  exact Ab [false] (As Ue AB Tryz.func34 (AYo ..) ⟨by decide,trivial⟩ (AL (by kernel_rfl)) hb (fun _ h=>by cases h))
 | succ r ih =>
  intro i y hi
  by_cases hz:OZ y (AA x1 o1 n1) (AA x2 o2 n2)=0
  ·refine Ab [true,false] (Ae Ue AB (AYm ..) (ADx h1 h2 hn1 hn2 (by omega) (by rw [decide_eq_true hz];rfl) (Ac 2 trivial)) (AL (by kernel_rfl)) hb (fun _ h=>by cases h) fun _=>?_)
   rw [show 0+0*1=0 from rfl,show 32-0=32 from rfl,Dp (LA _),Am (z:=(i:Int)+1) (by omega)]
   have:=ih (i+1) (DA y) (by omega)
   unfold Mz
   rw [if_pos hz]
   exact this
  ·have:=As (P:=Tryz.prog) (n:=kgF.ntmps) (β0:=β0) (w0:=w0) (W:=[]) Ue AB Tryz.func34 (AYn o1 n1 m1 o2 n2 m2 x1 x2 y (i:Int)) (ADx h1 h2 hn1 hn2 (by omega) (by rw [decide_eq_false hz];rfl) trivial) (AL (by kernel_rfl)) hb (fun _ h=>by cases h)
   rw [ADw h1 h2,Nat.mod_eq_of_lt (AYq _ _ _)] at this
   unfold Oj Ok Mz
   rw [if_neg hz,if_neg hz,if_neg hz]
   exact Ab [true,true] this
theorem AYs:AA tagK 0 20=tagK:=by kernel_rfl
theorem AYt {o1 n1 m1 o2 n2 m2:Nat} {x1 x2:List Int} (h1:o1+n1≤x1.length) (h2:o2+n2≤x2.length) (hn1:n1≤4398046511104) (hn2:n2≤4398046511104) (hn:¬ n1<32) :
  Ad Tryz.prog 34 [AI 0 o1 n1 m1,AI 1 o2 n2 m2] [(0,some (Ai [.seq .u8 x1])),(1,some (Ai [.seq .u8 x2]))] 2 [] (Oj 32 (M0 (AA x1 o1 n1) (AA x2 o2 n2))) (Ok 32 (M0 (AA x1 o1 n1) (AA x2 o2 n2))):=by
 refine Av (path:=[false]) Tryz.func34 (by kernel_rfl) (by kernel_rfl) fun β0 w0 hb=>?_
 refine Ae Ue AB (AYl o1 n1 m1 o2 n2 m2 x1 x2) ⟨DI (by omega),decide_eq_false (by omega),Ac 2 trivial⟩ (AL (by kernel_rfl)) hb (fun _ h=>by cases h) fun _=>?_
 refine FO (m:=3) (by kernel_rfl) hb ?_
 rw [AYs,AYk]
 exact E_ (AYr h1 h2 hn1 hn2 hb 16 0 tagK rfl)
theorem AYu {o1 n1 m1 o2 n2 m2:Nat} {x1 x2:List Int} (hn:n1<32) :
  Ad Tryz.prog 34 [AI 0 o1 n1 m1,AI 1 o2 n2 m2] [(0,some (Ai [.seq .u8 x1])),(1,some (Ai [.seq .u8 x2]))] 2 [] (Oi 211) [] :=
 Av (path:=[true]) Tryz.func34 (by kernel_rfl) (by kernel_rfl) fun β0 w0 hb=>As Ue AB Tryz.func34 (AYp o1 n1 m1 o2 n2 m2 x1 x2) ⟨DI (by omega),decide_eq_true (by omega),trivial⟩ (AL (by kernel_rfl)) hb (fun _ h=>by cases h)
noncomputable def mU (K nw:Nat):ASpec:=fun args H fr path=>match args with
 | [S,T]=>match By S,By T with
  | some (k,o,n),some (l,p,m)=>match AG H k,AG H l with
   | some ⟨_,cs,_⟩,some ⟨_,ds,_⟩=>match Ao .u8 cs,Ao .u8 ds with
    | some xs,some ys=>match path with
     | true::rest=>some (A5 [k,l] 2 fr 0 [] (Oi 211) [] [(decide (n<32),true)] rest)
     | false::true::rest=>some (A5 [k,l] 2 fr 0 [] (Oi 210) [] [(decide (n<32),false),(Nat.ble (o+n) xs.length,true),(Nat.ble (p+m) ys.length,true),(Nat.ble n 4398046511104,true),(Nat.ble m 4398046511104,true),(decide (M0 (AA xs o n) (AA ys p m)=0),true)] rest)
     | false::false::rest=>some (A5 [k,l] 2 fr nw [] (Yw K) (Yv K (BK (M0 (AA xs o n) (AA ys p m)) 32)) [(decide (n<32),false),(Nat.ble (o+n) xs.length,true),(Nat.ble (p+m) ys.length,true),(Nat.ble n 4398046511104,true),(Nat.ble m 4398046511104,true),(decide (M0 (AA xs o n) (AA ys p m)=0),false)] rest)
     | _=>none
    | _,_=>none
   | _,_=>none
  | _,_=>none
 | _=>none
theorem AYv {F:FuncId} {fn:Func} {K nw:Nat} (hfn:Tryz.prog.funcs[F]? = some fn) (hb:fn.body.isSome=true) (hname:(fn.name=="runtime.NumGoroutine")=false) (hk:∀ L,Cu 2 nw [] (Yw K) (Yv K L)=true)
  (h0:∀ {o1 n1 m1 o2 n2 m2:Nat} {x1 x2:List Int},n1<32→Ad Tryz.prog F [AI 0 o1 n1 m1,AI 1 o2 n2 m2] [(0,some (Ai [.seq .u8 x1])),(1,some (Ai [.seq .u8 x2]))] 2 [] (Oi 211) [])
  (h:∀ {o1 n1 m1 o2 n2 m2:Nat} {x1 x2:List Int},(∀ d∈x1,0≤d∧d<256)→(∀ d∈x2,0≤d∧d<256)→o1+n1≤x1.length→o2+n2≤x2.length→n1≤4398046511104→n2≤4398046511104→¬ n1<32→Ad Tryz.prog F [AI 0 o1 n1 m1,AI 1 o2 n2 m2] [(0,some (Ai [.seq .u8 x1])),(1,some (Ai [.seq .u8 x2]))] 2 [] (Oj K (M0 (AA x1 o1 n1) (AA x2 o2 n2))) (Ok K (M0 (AA x1 o1 n1) (AA x2 o2 n2)))):A6 Tryz.prog F (mU K nw):=by
 refine CS hfn hb hname fun args H fr path r hs=>?_
 unfold mU at hs
 split at hs
 case h_2=>cases hs
 rename_i S T
 split at hs
 case h_2=>cases hs
 rename_i k o n l p m hS hT
 split at hs
 case h_2=>cases hs
 rename_i ty cs op ty' ds op' hk' hl'
 split at hs
 case h_2=>cases hs
 rename_i xs ys hx hy
 split at hs
 ·rename_i rest
  injection hs with hs
  refine ⟨[k,l],2,0,[],_,_,_,rest,hs.symm,fun β us w ha hg hc=>?_⟩
  obtain ⟨u1,us1,r1,⟨u2,us2,r2,ha,rfl⟩,rfl⟩:=ha
  obtain ⟨m1,m2,q1,q2,_,_,q5,q6⟩:=Yq hg hS hT hk' hl' hx hy r1 r2
  exact ⟨_,_,h0 (of_decide_eq_true hc.1),rfl,⟨u1,_,q1,⟨u2,_,q2,ha,rfl⟩,rfl⟩,q5,q6⟩
 ·rename_i rest
  injection hs with hs
  refine ⟨[k,l],2,0,[],_,_,_,rest,hs.symm,fun β us w ha hg hc=>?_⟩
  obtain ⟨u1,us1,r1,⟨u2,us2,r2,ha,rfl⟩,rfl⟩:=ha
  obtain ⟨m1,m2,q1,q2,b1,b2,q5,q6⟩:=Yq hg hS hT hk' hl' hx hy r1 r2
  obtain ⟨c0,c1,c2,c3,c4,c5,_⟩:=hc
  have:=h (o1:=o) (n1:=n) (m1:=m1) (o2:=p) (n2:=m) (m2:=m2) b1 b2 (Nat.le_of_ble_eq_true c1) (Nat.le_of_ble_eq_true c2) (Nat.le_of_ble_eq_true c3) (Nat.le_of_ble_eq_true c4) (of_decide_eq_false c0)
  unfold Oj Ok at this
  rw [if_pos (of_decide_eq_true c5),if_pos (of_decide_eq_true c5)] at this
  exact ⟨_,_,this,rfl,⟨u1,_,q1,⟨u2,_,q2,ha,rfl⟩,rfl⟩,q5,q6⟩
 ·rename_i rest
  injection hs with hs
  refine ⟨[k,l],2,nw,[],_,_,_,rest,hs.symm,fun β us w ha hg hc=>?_⟩
  obtain ⟨u1,us1,r1,⟨u2,us2,r2,ha,rfl⟩,rfl⟩:=ha
  obtain ⟨m1,m2,q1,q2,b1,b2,q5,q6⟩:=Yq hg hS hT hk' hl' hx hy r1 r2
  obtain ⟨c0,c1,c2,c3,c4,c5,_⟩:=hc
  have:=h (o1:=o) (n1:=n) (m1:=m1) (o2:=p) (n2:=m) (m2:=m2) b1 b2 (Nat.le_of_ble_eq_true c1) (Nat.le_of_ble_eq_true c2) (Nat.le_of_ble_eq_true c3) (Nat.le_of_ble_eq_true c4) (of_decide_eq_false c0)
  unfold Oj Ok at this
  rw [if_neg (of_decide_eq_false c5),if_neg (of_decide_eq_false c5)] at this
  exact ⟨_,_,this,hk _,⟨u1,_,q1,⟨u2,_,q2,ha,rfl⟩,rfl⟩,q5,q6⟩
 ·cases hs
noncomputable def SSy:List (FuncId×ASpec):=(34,mU 32 31)::SSx
theorem Yx:AX Tryz.prog SSy:=⟨AYv Tryz.func34 (by kernel_rfl) (by kernel_rfl) (fun _=>rfl) AYu fun _ _=>AYt,ADr⟩
noncomputable abbrev oSy:Orc:=AH SSy KV
theorem Hw:OrcOk Tryz.prog oSy:=AK Yx A9
noncomputable abbrev waddF:Func:=Tryz.f334
noncomputable abbrev wsubF:Func:=Tryz.f294
def wu (z:Int):Int:=AO false .u64 z
theorem mV (z:Int):wu z=z % 18446744073709551616:=by unfold wu;rw [CO,IntKind.wrap_u64]
def mX (L:Nat):Bool:=decide (1≤8∧2*L*8≤281474976710656)
theorem ADy {L:Nat} (h:L≤17592186044416):mX L=true:=decide_eq_true ⟨by decide,by omega⟩
def GH (zs:List Int):Heap:=[(2,some ⟨24,[.seq .u64 zs],true⟩)]
def Q0 (xs ys zs:List Int):Heap:=Co xs ys++GH zs
section
variable (off n m off' n' m':Nat) (xs ys zs:List Int) (L:Nat) (c i:Int)
noncomputable def Yy:List Item:=Be (AS Tryz.prog oSy (some 0) 100 2 none (Af waddF (EC 0 0 0 0 0 0) (Co [] []) 2 []))
noncomputable def Yz (s c i:AV):List AV:=C8 waddF.ntmps [(0,AI 0 off n m),(1,AI 1 off' n' m'),(6,s),(7,c),(8,i)]
noncomputable def Q1 (p:List Bool):ASt:=⟨Yy,⟨Yz off n m off' n' m' (.val false [.sx 2 L 1]) (.val false [.v (.int .u64 c)]) (iA i),Q0 xs ys zs,3,p⟩⟩
abbrev Ol:Option (List Nat×List Nat×Nat):=some ([0,1,6,7,8],[0,1,4],5)
theorem AYw:AS Tryz.prog oSy (some 0) 100 2 (some ([0,1,6,7,8],[0,1],2)) (Af waddF (EC off n m off' n' m') (Co xs ys) 2 [])=some ([],[],⟨Yy,⟨Yz off n m off' n' m' JI (.val false [.n .u64 0]) (.val false [.n .i64 0]),Co xs ys,2,[]⟩⟩):=by kernel_rfl
theorem AYx:(⟨Yy,⟨(Ju 2 1 [6] 0 (Yz off n m off' n' m' JI (.val false [.n .u64 0]) (.val false [.n .i64 0]))).map EF,Co xs ys++[(2,some ⟨24,[.seq .u64 []],true⟩)],2+1,[]⟩⟩:ASt)=Q1 off n m off' n' m' xs ys [] 0 0 0 []:=by kernel_rfl
def M1 (r:List (Bool×Bool)):List (Bool×Bool):=(AJ .i64 n,true)::(AJ .i64 n',true)::(decide (i<DC n n'),true)::(Nat.ble (off+n) xs.length,true)::(AJ .i64 n,true)::(decide (0≤i),true)::(Nat.ble (off'+n') ys.length,true)::(AJ .i64 n',true)::(decide (0≤i),true)::r
def Y0:List (Bool×Bool):=[(Nat.ble L zs.length,true),(mX (L+1),true)]
noncomputable def Y1 (k:Int) (T:Int):ASt:=⟨Yy,⟨E7 (Bt 2 [4]) (Yz off n m off' n' m' (.val false [.sx 2 (L+1) 1]) (.val false [.n .u64 k]) (iA (wI (i+1)))),EL (Bt 2 [4]) (Q0 xs ys (zs.take L++[T])),5,[]⟩⟩
theorem AYy:AS Tryz.prog oSy (some 0) 100 2 Ol (Q1 off n m off' n' m' xs ys zs L c i [true,true]) =
 some (M1 off n off' n' xs ys i ((decide (wu (Al xs off n i+Al ys off' n' i)<Al xs off n i),true)::Y0 zs L),[],Y1 off n m off' n' m' xs ys zs L i 1 (wu (wu (Al xs off n i+Al ys off' n' i)+c))):=by kernel_rfl
theorem AYz:AS Tryz.prog oSy (some 0) 100 2 Ol (Q1 off n m off' n' m' xs ys zs L c i [true,false,true]) =
 some (M1 off n off' n' xs ys i ((decide (wu (Al xs off n i+Al ys off' n' i)<Al xs off n i),false)::(decide (wu (wu (Al xs off n i+Al ys off' n' i)+c)<wu (Al xs off n i+Al ys off' n' i)),true)::Y0 zs L),[],Y1 off n m off' n' m' xs ys zs L i 1 (wu (wu (Al xs off n i+Al ys off' n' i)+c))):=by kernel_rfl
theorem AY0:AS Tryz.prog oSy (some 0) 100 2 Ol (Q1 off n m off' n' m' xs ys zs L c i [true,false,false]) =
 some (M1 off n off' n' xs ys i ((decide (wu (Al xs off n i+Al ys off' n' i)<Al xs off n i),false)::(decide (wu (wu (Al xs off n i+Al ys off' n' i)+c)<wu (Al xs off n i+Al ys off' n' i)),false)::Y0 zs L),[],Y1 off n m off' n' m' xs ys zs L i 0 (wu (wu (Al xs off n i+Al ys off' n' i)+c))):=by kernel_rfl
theorem AY1:AM Tryz.prog oSy waddF 100 2 [2] (Q1 off n m off' n' m' xs ys zs L c i [false])=some ((AJ .i64 n,true)::(AJ .i64 n',true)::(decide (i<DC n n'),false)::[],[],.tup [(false,[.sx 2 L 1]),(false,[.v (.int .u64 c)])],GH zs):=by kernel_rfl
noncomputable def Y2:List Item:=Be (AS Tryz.prog oSy (some 0) 100 2 none (Af wsubF (EC 0 0 0 0 0 0) (Co [] []) 2 []))
noncomputable def Y3 (s c i:AV):List AV:=C8 wsubF.ntmps [(0,AI 0 off n m),(1,AI 1 off' n' m'),(6,s),(7,c),(8,i)]
noncomputable def Om (p:List Bool):ASt:=⟨Y2,⟨Y3 off n m off' n' m' (.val false [.sx 2 L 1]) (.val false [.v (.int .u64 c)]) (iA i),Q0 xs ys zs,3,p⟩⟩
theorem AY2:AS Tryz.prog oSy (some 0) 100 2 (some ([0,1,6,7,8],[0,1],2)) (Af wsubF (EC off n m off' n' m') (Co xs ys) 2 [])=some ([],[],⟨Y2,⟨Y3 off n m off' n' m' JI (.val false [.n .u64 0]) (.val false [.n .i64 0]),Co xs ys,2,[]⟩⟩):=by kernel_rfl
theorem AY3:(⟨Y2,⟨(Ju 2 1 [6] 0 (Y3 off n m off' n' m' JI (.val false [.n .u64 0]) (.val false [.n .i64 0]))).map EF,Co xs ys++[(2,some ⟨24,[.seq .u64 []],true⟩)],2+1,[]⟩⟩:ASt)=Om off n m off' n' m' xs ys [] 0 0 0 []:=by kernel_rfl
noncomputable def Ug (k:Int) (T:Int):ASt:=⟨Y2,⟨E7 (Bt 2 [4]) (Y3 off n m off' n' m' (.val false [.sx 2 (L+1) 1]) (.val false [.n .u64 k]) (iA (wI (i+1)))),EL (Bt 2 [4]) (Q0 xs ys (zs.take L++[T])),5,[]⟩⟩
def Oo:Int:=wu (wu (Al xs off n i-Al ys off' n' i)-c)
def Uh (b:Bool) (r:List (Bool×Bool)):List (Bool×Bool):=(Nat.ble L zs.length,true)::(mX (L+1),true)::(decide (Al xs off n i<Al ys off' n' i),b)::r
theorem AY4:AS Tryz.prog oSy (some 0) 100 2 Ol (Om off n m off' n' m' xs ys zs L c i [true,true])=some (M1 off n off' n' xs ys i (Uh off n off' n' xs ys zs L i true []),[],Ug off n m off' n' m' xs ys zs L i 1 (Oo off n off' n' xs ys c i)):=by kernel_rfl
theorem AY5:AS Tryz.prog oSy (some 0) 100 2 Ol (Om off n m off' n' m' xs ys zs L c i [true,false,true,true])=some (M1 off n off' n' xs ys i (Uh off n off' n' xs ys zs L i false [(decide (Al xs off n i=Al ys off' n' i),true),(decide (c=1),true)]),[],Ug off n m off' n' m' xs ys zs L i 1 (Oo off n off' n' xs ys c i)):=by kernel_rfl
theorem AY6:AS Tryz.prog oSy (some 0) 100 2 Ol (Om off n m off' n' m' xs ys zs L c i [true,false,true,false])=some (M1 off n off' n' xs ys i (Uh off n off' n' xs ys zs L i false [(decide (Al xs off n i=Al ys off' n' i),true),(decide (c=1),false)]),[],Ug off n m off' n' m' xs ys zs L i 0 (Oo off n off' n' xs ys c i)):=by kernel_rfl
theorem AY7:AS Tryz.prog oSy (some 0) 100 2 Ol (Om off n m off' n' m' xs ys zs L c i [true,false,false])=some (M1 off n off' n' xs ys i (Uh off n off' n' xs ys zs L i false [(decide (Al xs off n i=Al ys off' n' i),false)]),[],Ug off n m off' n' m' xs ys zs L i 0 (Oo off n off' n' xs ys c i)):=by kernel_rfl
theorem AY8:AM Tryz.prog oSy wsubF 100 2 [2] (Om off n m off' n' m' xs ys zs L c i [false])=some ((AJ .i64 n,true)::(AJ .i64 n',true)::(decide (i<DC n n'),false)::[],[],.tup [(false,[.sx 2 L 1]),(false,[.v (.int .u64 c)])],GH zs):=by kernel_rfl
end
theorem AY9 {X Y c:Int} (hX:0≤X∧X<18446744073709551616) (hY:0≤Y∧Y<18446744073709551616) (hc:0≤c∧c≤1) :
  wu (wu (X+Y)+c)=Bd X Y c∧((wu (X+Y)<X∨wu (wu (X+Y)+c)<wu (X+Y))→B8 X Y c=1)∧(¬ wu (X+Y)<X→¬ wu (wu (X+Y)+c)<wu (X+Y)→B8 X Y c=0):=by
 simp only [mV]
 unfold Bd B8
 omega
def Fy (A B i:Nat):Nat:=if A % 2^(64*i)<B % 2^(64*i) then 1 else 0
theorem AY_ (A B i:Nat):Fy A B i≤1:=by unfold Fy;split<;>omega
theorem AY' {A B Q:Nat} (h:B≤A) (hp:0<Q):A / Q=(A-B) / Q+B / Q+(if A % Q<B % Q then 1 else 0):=by
 have ha:=Nat.div_add_mod A Q
 have hb:=Nat.div_add_mod B Q
 have la:=Nat.mod_lt A hp
 have lb:=Nat.mod_lt B hp
 have hq:B / Q≤A / Q:=Nat.div_le_div_right h
 obtain ⟨d,hd⟩:∃ d,A / Q=B / Q+d:=⟨A / Q-B / Q,by omega⟩
 rw [hd,Nat.mul_add] at ha
 by_cases c:A % Q<B % Q
 ·rw [if_pos c]
  have h0:d≠0:=fun e=>by rw [e,Nat.mul_zero] at ha;omega
  obtain ⟨k,rfl⟩:∃ k,d=k+1:=⟨d-1,by omega⟩
  rw [Nat.mul_succ] at ha
  have e:A-B=(Q+A % Q-B % Q)+Q*k:=by omega
  rw [hd,e,Nat.add_mul_div_left _ _ hp,Nat.div_eq_of_lt (by omega:Q+A % Q-B % Q<Q)]
  omega
 ·rw [if_neg c]
  have e:A-B=(A % Q-B % Q)+Q*d:=by omega
  rw [hd,e,Nat.add_mul_div_left _ _ hp,Nat.div_eq_of_lt (by omega:A % Q-B % Q<Q)]
  omega
theorem AZA (A B i:Nat):Fy A B (i+1)=if A / 2^(64*i) % 18446744073709551616<B / 2^(64*i) % 18446744073709551616∨(A / 2^(64*i) % 18446744073709551616=B / 2^(64*i) % 18446744073709551616∧Fy A B i=1) then 1 else 0:=by
 have e:2^(64*(i+1))=2^(64*i)*18446744073709551616:=by rw [show 64*(i+1)=64*i+64 by omega,Nat.pow_add]
 unfold Fy
 rw [e,Nat.mod_mul,Nat.mod_mul]
 have hp:0<2^(64*i):=Nat.pow_pos (by decide)
 generalize 2^(64*i)=Q at *
 have la:=Nat.mod_lt A hp
 have lb:=Nat.mod_lt B hp
 generalize A / Q % 18446744073709551616=x
 generalize B / Q % 18446744073709551616=y
 generalize A % Q=u at *
 generalize B % Q=v at *
 rcases Nat.lt_trichotomy x y with h | h | h
 ·have:Q*(x+1)≤Q*y:=Nat.mul_le_mul_left Q h
  rw [Nat.mul_succ] at this
  rw [if_pos (by omega),if_pos (.inl h)]
 ·subst h
  by_cases c:u<v
  ·rw [if_pos (by omega),if_pos (.inr ⟨rfl,by rw [if_pos c]⟩)]
  ·rw [if_neg (by omega),if_neg (by rintro (q | ⟨_,q⟩);exact absurd q (Nat.lt_irrefl _);rw [if_neg c] at q;cases q)]
 ·have:Q*(y+1)≤Q*x:=Nat.mul_le_mul_left Q h
  rw [Nat.mul_succ] at this
  rw [if_neg (by omega),if_neg (by omega)]
theorem AZB {X Y D b c q:Nat} (h:q=D+c+b) (hX:X=q % 18446744073709551616) (hc:Y=c % 18446744073709551616):wu (wu ((X:Int)-(Y:Int))-(b:Int))=((D % 18446744073709551616:Nat):Int):=by
 simp only [mV]
 omega
theorem ADz (S i:Nat):wl (i+1) S=wl i S++[AE S i]:=by unfold wl;rw [List.range_succ,List.map_append];rfl
def M2 (M:Nat) (c:Int):AV:=.tup [(false,[.sx 2 M 1]),(false,[.v (.int .u64 c)])]
theorem Y4 {off n off' n':Nat} {xs ys:List Int} (hl:off+n≤xs.length) (hl':off'+n'≤ys.length) (hn:n≤17592186044415) (hn':n'≤17592186044415) {i:Nat} (hi:i<max n n') {r:List (Bool×Bool)} (hr:AQ r):AQ (M1 off n off' n' xs ys i r):=by
 have h1:AJ .i64 (n:Int)=true:=DI (by omega)
 have h2:AJ .i64 (n':Int)=true:=DI (by omega)
 have hm:DC (n:Int) n'=((max n n':Nat):Int):=by unfold DC;split<;>omega
 exact ⟨h1,h2,by rw [hm];exact decide_eq_true (by omega),Nat.ble_eq_true_of_le hl,h1,decide_eq_true (by omega),Nat.ble_eq_true_of_le hl',h2,decide_eq_true (by omega),hr⟩
section
variable {off n m off' n' m':Nat} {xs ys:List Int} (hx:∀ d∈xs,0≤d∧d<18446744073709551616) (hy:∀ d∈ys,0≤d∧d<18446744073709551616) (hl:off+n≤xs.length) (hl':off'+n'≤ys.length)
 (hn:n≤17592186044415) (hn':n'≤17592186044415)
include hx hy hl hl' hn hn'
theorem AZC:Ad Tryz.prog 334 (EC off n m off' n' m') (Co xs ys) 2 [] (M2 (max n n') (Em (AF (AA xs off n)) (AF (AA ys off' n')) (max n n'))) (GH (wl (max n n') (AF (AA xs off n)+AF (AA ys off' n')))):=by
 refine Av (path:=[]) Tryz.func334 (by kernel_rfl) (by kernel_rfl) fun β0 w0 hb=>?_
 refine Ae Hw AB (AYw off n m off' n' m' xs ys) trivial (AL (by kernel_rfl)) hb (fun _ h=>by cases h) fun _=>?_
 refine PO (ts:=[6]) (sz:=1) (ty:=24) (kd:=.u64) rfl (hb 2 (Nat.le_refl _)) (E_ ?_)
 rw [AYx]
 have h1:AJ .i64 (n:Int)=true:=DI (by omega)
 have h2:AJ .i64 (n':Int)=true:=DI (by omega)
 have hm:DC (n:Int) n'=((max n n':Nat):Int):=by unfold DC;split<;>omega
 have loop:∀ r i,i+r=max n n'→ASafe Tryz.prog 334 β0 w0 (Ay β0 w0 [] (M2 (max n n') (Em (AF (AA xs off n)) (AF (AA ys off' n')) (max n n'))) (GH (wl (max n n') (AF (AA xs off n)+AF (AA ys off' n'))))) waddF.ntmps []
   (Q1 off n m off' n' m' xs ys (wl i (AF (AA xs off n)+AF (AA ys off' n'))) i (Em (AF (AA xs off n)) (AF (AA ys off' n')) i) i []):=by
  intro r
  induction r with
  | zero =>
   intro i hi
   obtain rfl:i=max n n':=by omega
   exact Ab [false] (As Hw AB Tryz.func334 (AY1 ..) ⟨h1,h2,by rw [hm];exact decide_eq_false (by omega),trivial⟩ (AL (by kernel_rfl)) hb (fun _ h=>by cases h))
  | succ r ih =>
   intro i hi
   have ea:=Nm (off:=off) (n:=n) hx i
   have eb:=Nm (off:=off') (n:=n') hy i
   obtain ⟨w1,w2⟩:=AH0 (AF (AA xs off n)) (AF (AA ys off' n')) i
   have hc1:=AHx (AF (AA xs off n)) (AF (AA ys off' n')) i
   rw [← ea,← eb] at w1 w2
   obtain ⟨k1,k2,k3⟩:=AY9 (X:=Al xs off n i) (Y:=Al ys off' n' i) (c:=(Em (AF (AA xs off n)) (AF (AA ys off' n')) i:Nat)) (by rw [ea];omega) (by rw [eb];omega) (by omega)
   rw [w1] at k1
   rw [w2] at k2 k3
   have hD:AQ (Y0 (wl i (AF (AA xs off n)+AF (AA ys off' n'))) i):=⟨Nat.ble_eq_true_of_le (by rw [Hk];omega),ADy (by omega),trivial⟩
   have next:∀ k:Nat,(Em (AF (AA xs off n)) (AF (AA ys off' n')) (i+1):Int)=k→k<2→ASafe Tryz.prog 334 β0 w0 (Ay β0 w0 [] (M2 (max n n') (Em (AF (AA xs off n)) (AF (AA ys off' n')) (max n n'))) (GH (wl (max n n') (AF (AA xs off n)+AF (AA ys off' n'))))) waddF.ntmps []
     (Y1 off n m off' n' m' xs ys (wl i (AF (AA xs off n)+AF (AA ys off' n'))) i i k (wu (wu (Al xs off n i+Al ys off' n' i)+(Em (AF (AA xs off n)) (AF (AA ys off' n')) i:Nat)))):=by
    intro k hk hk2
    refine FO (m:=3) (by kernel_rfl) hb (E_ ?_)
    rw [k1,Dd (by rw [Hk]),← ADz,Am (z:=(i:Int)+1) (by omega)]
    have:=ih (i+1) (by omega)
    rw [hk] at this
    match k,hk2 with
    | 0,_=>exact this
    | 1,_=>exact this
   by_cases c1:wu (Al xs off n i+Al ys off' n' i)<Al xs off n i
   ·exact Ab [true,true] (Ae Hw AB (AYy ..) (Y4 hl hl' hn hn' (by omega) ⟨decide_eq_true c1,hD⟩) (AL (by kernel_rfl)) hb (fun _ h=>by cases h) fun _=>next 1 (k2 (.inl c1)) (by decide))
   ·by_cases c2:wu (wu (Al xs off n i+Al ys off' n' i)+(Em (AF (AA xs off n)) (AF (AA ys off' n')) i:Nat))<wu (Al xs off n i+Al ys off' n' i)
    ·exact Ab [true,false,true] (Ae Hw AB (AYz ..) (Y4 hl hl' hn hn' (by omega) ⟨decide_eq_false c1,decide_eq_true c2,hD⟩) (AL (by kernel_rfl)) hb (fun _ h=>by cases h) fun _=>next 1 (k2 (.inr c2)) (by decide))
    ·exact Ab [true,false,false] (Ae Hw AB (AY0 ..) (Y4 hl hl' hn hn' (by omega) ⟨decide_eq_false c1,decide_eq_false c2,hD⟩) (AL (by kernel_rfl)) hb (fun _ h=>by cases h) fun _=>next 0 (k3 c1 c2) (by decide))
 have e0:Em (AF (AA xs off n)) (AF (AA ys off' n')) 0=0:=by unfold Em;simp [Nat.mod_one]
 have:=loop (max n n') 0 (by omega)
 rw [e0] at this
 exact this
theorem AZD (hle:AF (AA ys off' n')≤AF (AA xs off n)):Ad Tryz.prog 294 (EC off n m off' n' m') (Co xs ys) 2 [] (M2 (max n n') (Fy (AF (AA xs off n)) (AF (AA ys off' n')) (max n n'))) (GH (wl (max n n') (AF (AA xs off n)-AF (AA ys off' n')))):=by
 refine Av (path:=[]) Tryz.func294 (by kernel_rfl) (by kernel_rfl) fun β0 w0 hb=>?_
 refine Ae Hw AB (AY2 off n m off' n' m' xs ys) trivial (AL (by kernel_rfl)) hb (fun _ h=>by cases h) fun _=>?_
 refine PO (ts:=[6]) (sz:=1) (ty:=24) (kd:=.u64) rfl (hb 2 (Nat.le_refl _)) (E_ ?_)
 rw [AY3]
 have h1:AJ .i64 (n:Int)=true:=DI (by omega)
 have h2:AJ .i64 (n':Int)=true:=DI (by omega)
 have hm:DC (n:Int) n'=((max n n':Nat):Int):=by unfold DC;split<;>omega
 have loop:∀ r i,i+r=max n n'→ASafe Tryz.prog 294 β0 w0 (Ay β0 w0 [] (M2 (max n n') (Fy (AF (AA xs off n)) (AF (AA ys off' n')) (max n n'))) (GH (wl (max n n') (AF (AA xs off n)-AF (AA ys off' n'))))) wsubF.ntmps []
   (Om off n m off' n' m' xs ys (wl i (AF (AA xs off n)-AF (AA ys off' n'))) i (Fy (AF (AA xs off n)) (AF (AA ys off' n')) i) i []):=by
  intro r
  induction r with
  | zero =>
   intro i hi
   obtain rfl:i=max n n':=by omega
   exact Ab [false] (As Hw AB Tryz.func294 (AY8 ..) ⟨h1,h2,by rw [hm];exact decide_eq_false (by omega),trivial⟩ (AL (by kernel_rfl)) hb (fun _ h=>by cases h))
  | succ r ih =>
   intro i hi
   have ea:=Nm (off:=off) (n:=n) hx i
   have eb:=Nm (off:=off') (n:=n') hy i
   have hc1:=AY_ (AF (AA xs off n)) (AF (AA ys off' n')) i
   have hg:=AY' (A:=AF (AA xs off n)) (B:=AF (AA ys off' n')) (Q:=2^(64*i)) hle (Nat.pow_pos (by decide))
   have hnx:=AZA (AF (AA xs off n)) (AF (AA ys off' n')) i
   have k1:Oo off n off' n' xs ys (Fy (AF (AA xs off n)) (AF (AA ys off' n')) i:Nat) i=AE (AF (AA xs off n)-AF (AA ys off' n')) i:=by
    unfold Oo AE
    rw [ea,eb]
    exact AZB hg rfl rfl
   have hD:∀ b r,decide (Al xs off n i<Al ys off' n' i)=b→AQ r→AQ (Uh off n off' n' xs ys (wl i (AF (AA xs off n)-AF (AA ys off' n'))) i i b r):=fun b r hb hr=>⟨Nat.ble_eq_true_of_le (by rw [Hk];omega),ADy (by omega),hb,hr⟩
   have next:∀ k:Nat,Fy (AF (AA xs off n)) (AF (AA ys off' n')) (i+1)=k→k<2→ASafe Tryz.prog 294 β0 w0 (Ay β0 w0 [] (M2 (max n n') (Fy (AF (AA xs off n)) (AF (AA ys off' n')) (max n n'))) (GH (wl (max n n') (AF (AA xs off n)-AF (AA ys off' n'))))) wsubF.ntmps []
     (Ug off n m off' n' m' xs ys (wl i (AF (AA xs off n)-AF (AA ys off' n'))) i i k (Oo off n off' n' xs ys (Fy (AF (AA xs off n)) (AF (AA ys off' n')) i:Nat) i)):=by
    intro k hk hk2
    refine FO (m:=3) (by kernel_rfl) hb (E_ ?_)
    rw [k1,Dd (by rw [Hk]),← ADz,Am (z:=(i:Int)+1) (by omega)]
    have:=ih (i+1) (by omega)
    rw [hk] at this
    match k,hk2 with
    | 0,_=>exact this
    | 1,_=>exact this
   have go:=fun r (hr:AQ r)=>Y4 hl hl' hn hn' (i:=i) (by omega) hr
   rw [ea,eb] at hD
   by_cases c1:AF (AA xs off n) / 2^(64*i) % 18446744073709551616<AF (AA ys off' n') / 2^(64*i) % 18446744073709551616
   ·rw [if_pos (.inl c1)] at hnx
    exact Ab [true,true] (Ae Hw AB (AY4 ..) (go _ (hD _ _ (decide_eq_true (by omega)) trivial)) (AL (by kernel_rfl)) hb (fun _ h=>by cases h) fun _=>next 1 hnx (by decide))
   ·by_cases c2:AF (AA xs off n) / 2^(64*i) % 18446744073709551616=AF (AA ys off' n') / 2^(64*i) % 18446744073709551616
    ·have e2:decide (Al xs off n i=Al ys off' n' i)=true:=by rw [ea,eb,c2];exact decide_eq_true rfl
     by_cases c3:Fy (AF (AA xs off n)) (AF (AA ys off' n')) i=1
     ·rw [if_pos (.inr ⟨c2,c3⟩)] at hnx
      exact Ab [true,false,true,true] (Ae Hw AB (AY5 ..) (go _ (hD _ _ (decide_eq_false (by omega)) ⟨e2,decide_eq_true (by omega),trivial⟩)) (AL (by kernel_rfl)) hb (fun _ h=>by cases h) fun _=>next 1 hnx (by decide))
     ·rw [if_neg (by rintro (q | q);exact c1 q;exact c3 q.2)] at hnx
      exact Ab [true,false,true,false] (Ae Hw AB (AY6 ..) (go _ (hD _ _ (decide_eq_false (by omega)) ⟨e2,decide_eq_false (by omega),trivial⟩)) (AL (by kernel_rfl)) hb (fun _ h=>by cases h) fun _=>next 0 hnx (by decide))
    ·have e2:decide (Al xs off n i=Al ys off' n' i)=false:=by rw [ea,eb];exact decide_eq_false (by omega)
     rw [if_neg (by rintro (q | q);exact c1 q;exact c2 q.1)] at hnx
     exact Ab [true,false,false] (Ae Hw AB (AY7 ..) (go _ (hD _ _ (decide_eq_false (by omega)) ⟨e2,trivial⟩)) (AL (by kernel_rfl)) hb (fun _ h=>by cases h) fun _=>next 0 hnx (by decide))
 have e0:Fy (AF (AA xs off n)) (AF (AA ys off' n')) 0=0:=by unfold Fy;simp [Nat.mod_one]
 have:=loop (max n n') 0 (by omega)
 rw [e0] at this
 exact this
end
def Q2 (val:Nat→List Int→Nat→List Int→AV) (hp:Nat→List Int→Nat→List Int→Heap) (nw:Nat) (cs:List Int→List Int→List (Bool×Bool)):ASpec:=fun args H fr path=>match args with
 | [S,T]=>match By S,By T with
  | some (k,o,n),some (t,p,m)=>match AG H k,AG H t with
   | some ⟨_,ds,_⟩,some ⟨_,es,_⟩=>match Ao .u64 ds,Ao .u64 es with
    | some xs,some ys=>some (A5 [k,t] 2 fr nw [] (val n (AA xs o n) m (AA ys p m)) (hp n (AA xs o n) m (AA ys p m)) ((Nat.ble (o+n) xs.length,true)::(Nat.ble (p+m) ys.length,true)::(Nat.ble n 17592186044415,true)::(Nat.ble m 17592186044415,true)::cs (AA xs o n) (AA ys p m)) path)
    | _,_=>none
   | _,_=>none
  | _,_=>none
 | _=>none
theorem Y5 {f:FuncId} {fn:Func} {val:Nat→List Int→Nat→List Int→AV} {hp:Nat→List Int→Nat→List Int→Heap} {nw:Nat} {cs:List Int→List Int→List (Bool×Bool)} (hfn:Tryz.prog.funcs[f]? = some fn) (hb:fn.body.isSome=true) (hname:(fn.name=="runtime.NumGoroutine")=false)
  (hk:∀ n a m b,Cu 2 nw [] (val n a m b) (hp n a m b)=true)
  (h:∀ (off n m off' n' m':Nat) (xs ys:List Int),(∀ d∈xs,0≤d∧d<18446744073709551616)→(∀ d∈ys,0≤d∧d<18446744073709551616)→off+n≤xs.length→off'+n'≤ys.length→n≤17592186044415→n'≤17592186044415→AQ (cs (AA xs off n) (AA ys off' n')) →
   Ad Tryz.prog f (EC off n m off' n' m') (Co xs ys) 2 [] (val n (AA xs off n) n' (AA ys off' n')) (hp n (AA xs off n) n' (AA ys off' n'))):A6 Tryz.prog f (Q2 val hp nw cs):=by
 refine CS hfn hb hname fun args H fr path r hs=>?_
 unfold Q2 at hs
 split at hs
 case h_2=>cases hs
 rename_i S T
 split at hs
 case h_2=>cases hs
 rename_i k o n t p m hS hT
 split at hs
 case h_2=>cases hs
 rename_i ty ds op ty' es op' hk' ht'
 split at hs
 case h_2=>cases hs
 rename_i xs ys hx hy
 injection hs with hs
 refine ⟨[k,t],2,nw,[],_,_,_,path,hs.symm,fun β us w ha hg hc=>?_⟩
 obtain ⟨u1,us1,r1,⟨u2,us2,r2,ha,rfl⟩,rfl⟩:=ha
 obtain ⟨m1,r1⟩:=DF hS r1
 obtain ⟨m2,r2⟩:=DF hT r2
 obtain ⟨g1,g1',g2,g3⟩:=V2 hg hk' ht' hx hy
 obtain ⟨c1,c2,c3,c4,c5⟩:=hc
 exact ⟨_,_,h o n m1 p m m2 xs ys g1 g1' (Nat.le_of_ble_eq_true c1) (Nat.le_of_ble_eq_true c2) (Nat.le_of_ble_eq_true c3) (Nat.le_of_ble_eq_true c4) c5,hk _ _ _ _,⟨u1,_,BS (by omega) rfl r1,⟨u2,_,BS (by omega) rfl r2,ha,rfl⟩,rfl⟩,g2,g3⟩
def AZE:ASpec:=Q2 (fun n a m b=>M2 (max n m) (Em (AF a) (AF b) (max n m))) (fun n a m b=>GH (wl (max n m) (AF a+AF b))) 1 (fun _ _=>[])
def AZF:ASpec:=Q2 (fun n a m b=>M2 (max n m) (Fy (AF a) (AF b) (max n m))) (fun n a m b=>GH (wl (max n m) (AF a-AF b))) 1 (fun a b=>[(decide (AF b≤AF a),true)])
def AZG:ASpec:=Q2 (fun _ a _ b=>.val false [.v (.int .i64 (C6 (AF a) (AF b)))]) (fun _ _ _ _=>[]) 0 (fun _ _=>[])
noncomputable def SYb0:List (FuncId×ASpec):=(334,AZE)::(294,AZF)::(240,Du AZG)::SSy
theorem AD0:AX Tryz.prog SYb0:=⟨Y5 Tryz.func334 (by kernel_rfl) (by kernel_rfl) (fun _ _ _ _=>by kernel_rfl) fun _ _ _ _ _ _ _ _ hx hy hl hl' hn hn' _=>AZC hx hy hl hl' hn hn',Y5 Tryz.func294 (by kernel_rfl) (by kernel_rfl) (fun _ _ _ _=>by kernel_rfl) fun _ _ _ _ _ _ _ _ hx hy hl hl' hn hn' hc=>AZD hx hy hl hl' hn hn' (of_decide_eq_true hc.1),EM (Y5 Tryz.func240 (by kernel_rfl) (by kernel_rfl) (fun _ _ _ _=>by kernel_rfl) fun _ _ _ _ _ _ _ _ hx hy hl hl' hn hn' _=>yA hx hy hl hl' (DI (by omega)) (DI (by omega))),Yx⟩
noncomputable abbrev oYb0:Orc:=AH SYb0 KV
theorem AZH:OrcOk Tryz.prog oYb0:=AK AD0 A9
noncomputable def SYb:List (FuncId×ASpec):=(293,BY Tryz.prog oYb0 Tryz.f293 100)::SYb0
theorem AD1:AX Tryz.prog SYb:=⟨Bj AZH AB Tryz.func293 (by kernel_rfl) (by kernel_rfl) 100,AD0⟩
noncomputable abbrev oYb:Orc:=AH SYb KV
theorem Ui:OrcOk Tryz.prog oYb:=AK AD1 A9
noncomputable abbrev wmodF:Func:=Tryz.f237
def z5:List Int:=[0,0,0,0,0]
section
variable (off n m off' m':Nat) (xs ys zs:List Int) (i:Int)
noncomputable def AD2 (p:List Bool):ASt:=Af wmodF (EC off n m off' 4 m') (Co xs ys) 2 p
noncomputable def Y6:List Item:=Be (AS Tryz.prog oYb (some 0) 300 2 none (AD2 0 0 0 0 0 [] [] [false]))
noncomputable def Y7 (s i:AV):List AV:=C8 wmodF.ntmps [(0,AI 0 off n m),(1,AI 1 off' 4 m'),(6,s),(7,i)]
noncomputable def Y8 (p:List Bool):ASt:=⟨Y6,⟨Y7 off n m off' m' (.val false [.sx 2 5 1]) (iA i),Q0 xs ys zs,3,p⟩⟩
def AD3:Heap:=Co xs ys++[(2,some ⟨24,[.seq .u64 z5],false⟩)]
noncomputable def AZI (p:List Bool):ASt:=⟨Y6,⟨Y7 off n m off' m' (.val false [.sl 2 0 5 5]) (iA i),AD3 xs ys,3,p⟩⟩
theorem AZJ:AS Tryz.prog oYb (some 0) 300 2 (some ([0,1,6,7],[0,1,3],4)) (AD2 off n m off' m' xs ys [false]) =
 some ([(Nat.ble (off'+4) ys.length,true),(true,true),(true,true),(true,true),(decide (C6 (AF (AA ys off' 4)) (AF (AA [] 0 0))=0),false),(true,true),(true,true),(AJ .i64 n,true)],[],
  ⟨Y6,⟨E7 (Bt 2 [3]) (Y7 off n m off' m' (.val false [.sl 2 0 5 5]) (iA (wI (wI (64*(n:Int))-1)))),EL (Bt 2 [3]) (AD3 xs ys),4,[]⟩⟩):=by kernel_rfl
def Oq:List Int:=wl 5 (AF (AA zs 0 5)+AF (AA zs 0 5))
def LD:List Int:=(Oq zs).set (0+Int.toNat 0*1) (wu ((Oq zs).getD (0+Int.toNat 0*1) 0+IG xs off i))
def Uj (b:Bool) (r:List (Bool×Bool)):List (Bool×Bool):=(decide (0≤i),true)::(Nat.ble (0+5) zs.length,true)::(Nat.ble (0+5) zs.length,true)::(true,true)::(true,true)::(true,true)::(decide (0+Int.toNat 0*1<(Oq zs).length),true)::(true,true) ::
 (decide (0≤wI (Int.tdiv i 64)∧wI (Int.tdiv i 64)<n),true)::(decide (off+(wI (Int.tdiv i 64)).toNat*1<xs.length),true)::(decide (0≤i∧(0:Int)<64),true)::(decide (0≤wu (Int.tmod i 64)∧0≤xs.getD (off+(wI (Int.tdiv i 64)).toNat*1) 0),true)::(true,true) ::
 (decide (0+Int.toNat 0*1<(Oq zs).length),true)::(Nat.ble (0+5) (LD off xs zs i).length,true)::(Nat.ble (off'+4) ys.length,true)::(true,true)::(true,true)::(decide (0≤C6 (AF (AA (LD off xs zs i) 0 5)) (AF (AA ys off' 4))),b)::r
noncomputable def mY (K:List Nat) (fr:Nat) (ws:List Int):ASt:=⟨Y6,⟨E7 (Bt 2 K) (Y7 off n m off' m' (.val false [.sx 2 5 1]) (iA (wI (i-1)))),EL (Bt 2 K) (Q0 xs ys ws),fr,[]⟩⟩
theorem AZK:AS Tryz.prog oYb (some 0) 300 2 (some ([0,1,6,7],[0,1,3],4)) (Y8 off n m off' m' xs ys zs i [true,false])=some (Uj off n off' xs ys zs i false [],[],mY off n m off' m' xs ys i [3] 4 (LD off xs zs i)):=by kernel_rfl
def mZ:List Int:=wl 5 (AF (AA (LD off xs zs i) 0 5)-AF (AA ys off' 4))
theorem AZL:AS Tryz.prog oYb (some 0) 300 2 (some ([0,1,6,7],[0,1,4],5)) (Y8 off n m off' m' xs ys zs i [true,true]) =
 some (Uj off n off' xs ys zs i true [(Nat.ble (0+5) (LD off xs zs i).length,true),(Nat.ble (off'+4) ys.length,true),(true,true),(true,true),(decide (AF (AA ys off' 4)≤AF (AA (LD off xs zs i) 0 5)),true)],[],mY off n m off' m' xs ys i [4] 5 (mZ off off' xs ys zs i)):=by kernel_rfl
theorem AZM:AS Tryz.prog oYb (some 0) 300 2 (some ([0,1,6,7],[0,1,3],4)) (AZI off n m off' m' xs ys i [true,false])=some (Uj off n off' xs ys z5 i false [],[],mY off n m off' m' xs ys i [3] 4 (LD off xs z5 i)):=by kernel_rfl
def Y9:AV:=.tup [(false,[.sx 2 4 1]),(false,[.n .i64 0])]
theorem AZN:AM Tryz.prog oYb wmodF 300 2 [2] (Y8 off n m off' m' xs ys zs i [false])=some ([(decide (0≤i),false),(true,true),(true,true)],[],Y9,GH zs):=by kernel_rfl
end
theorem AZO (N b:Nat) (hb:b≤1):(wl 5 (N+N)).set (0+Int.toNat 0*1) (wu ((wl 5 (N+N)).getD (0+Int.toNat 0*1) 0+(b:Int)))=wl 5 (N+N+b):=by
 have key:∀ k,(N+N+b) / 2^(64*(k+1))=(N+N) / 2^(64*(k+1)):=fun k=>by
  rw [show 64*(k+1)=(64*k+63)+1 by omega,Nat.pow_succ,Nat.mul_comm,← Nat.div_div_eq_div_mul,← Nat.div_div_eq_div_mul,show (N+N+b) / 2=(N+N) / 2 by omega]
 have w:∀ k,AE (N+N+b) (k+1)=AE (N+N) (k+1):=fun k=>by unfold AE;rw [key k]
 have w0:wu (AE (N+N) 0+(b:Int))=AE (N+N+b) 0:=by
  unfold AE
  rw [mV,Nat.mul_zero,Nat.pow_zero,Nat.div_one,Nat.div_one,show (2:Nat)^64=18446744073709551616 from rfl]
  omega
 show [wu (AE (N+N) 0+(b:Int)),AE (N+N) 1,AE (N+N) 2,AE (N+N) 3,AE (N+N) 4]=[AE (N+N+b) 0,AE (N+N+b) 1,AE (N+N+b) 2,AE (N+N+b) 3,AE (N+N+b) 4]
 rw [w0,w 0,w 1,w 2,w 3]
theorem AZP {X M:Nat} (h:M≤X) (h2:X<M+M):X % M=X-M:=by rw [Nat.mod_eq_sub_mod h,Nat.mod_eq_of_lt (by omega)]
def P5:Nat:=2135987035920910082395021706169552114602704522356652769947041607822219725780640550022962086936576
theorem AZQ:P5=2^(64*5):=by kernel_rfl
theorem Y_ {x:Nat} (h:x<P5):AF (AA (wl 5 x) 0 5)=x:=by rw [Dp (Hk 5 x)];exact T4 (by rw [← AZQ];exact h)
section
variable {off n m off' m':Nat} {xs ys:List Int} (hx:∀ d∈xs,0≤d∧d<18446744073709551616) (hl:off+n≤xs.length) (hl':off'+4≤ys.length) (hn:n≤17592186044415)
 {M:Nat} (hM:AF (AA ys off' 4)=M) (h0:0<M) (hM2:M+M+1<P5) {β0:Env} {w0:World} (hb:∀ b,2≤b→β0 b=none)
theorem m6 {N c:Nat} (hN:N<P5) (hx:∀ d∈xs,0≤d∧d<18446744073709551616) (hn:n≤17592186044415) (hc:c<64*n):Oq (wl 5 N)=wl 5 (N+N)∧LD off xs (wl 5 N) (c:Int)=wl 5 (N+N+AF (AA xs off n) / 2^c % 2):=by
 have e1:Oq (wl 5 N)=wl 5 (N+N):=by unfold Oq;rw [Y_ hN]
 refine ⟨e1,?_⟩
 obtain ⟨_,_,_,_,f5⟩:=T' (off:=off) hx (by omega:n≤1125899906842624) hc
 unfold LD
 rw [e1,(Pk xs off c).1,f5]
 exact AZO N _ (by omega)
theorem AD4 {A B:Nat}:decide (0≤C6 A B)=decide (B≤A):=by
 unfold C6
 by_cases h:A<B
 ·rw [if_pos h,decide_eq_false (by decide),decide_eq_false (by omega)]
 ·rw [if_neg h,decide_eq_true (by omega:B≤A)]
  split<;>exact decide_eq_true (by decide)
include hx hl hl' hn hM hM2 in
theorem m7 {N c:Nat} (hN:N<M) (hc:c<64*n) {b:Bool} (hbit:decide (M≤N+N+AF (AA xs off n) / 2^c % 2)=b) {r:List (Bool×Bool)} (hr:AQ r):AQ (Uj off n off' xs ys (wl 5 N) (c:Int) b r):=by
 obtain ⟨e1,e2⟩:=m6 (off:=off) (N:=N) (c:=c) (by omega) hx hn hc
 obtain ⟨f1,f2,f3,f4,_⟩:=T' (off:=off) hx (by omega:n≤1125899906842624) hc
 have hw:=(Pk xs off c).2
 have hpw:B6 xs off c=xs.getD (off+(wI (Int.tdiv (c:Int) 64)).toNat*1) 0:=rfl
 unfold Uj
 rw [e1,e2,Hk,Hk,Hk,Y_ (by omega),hM,AD4,← hpw]
 refine ⟨decide_eq_true (by omega),rfl,rfl,rfl,rfl,rfl,rfl,rfl,?_,?_,decide_eq_true ⟨by omega,by decide⟩,?_,rfl,rfl,rfl,Nat.ble_eq_true_of_le hl',rfl,rfl,hbit,hr⟩
 ·rw [f1];exact decide_eq_true (by omega)
 ·rw [f1];exact decide_eq_true (by omega)
 ·exact decide_eq_true ⟨by unfold wu;rw [hw];exact f4,f3⟩
include hx hl hl' hn hM h0 hM2 hb in
theorem AZR:∀ c,c≤64*n→ASafe Tryz.prog 237 β0 w0 (Ay β0 w0 [] Y9 (GH (wl 5 (AF (AA xs off n) % M)))) wmodF.ntmps [] (Y8 off n m off' m' xs ys (wl 5 (AF (AA xs off n) / 2^c % M)) ((c:Int)-1) []):=by
 intro c
 induction c with
 | zero =>
  intro _
  rw [Nat.pow_zero,Nat.div_one]
  exact Ab [false] (As Ui AB Tryz.func237 (AZN ..) ⟨rfl,rfl,rfl,trivial⟩ (AL (by kernel_rfl)) hb (fun _ h=>by cases h))
 | succ c ih =>
  intro hc
  have hi:((c+1:Nat):Int)-1=(c:Int):=by omega
  rw [hi]
  have hN:AF (AA xs off n) / 2^(c+1) % M<M:=Nat.mod_lt _ h0
  have hd:=UA (AF (AA xs off n)) c
  obtain ⟨e1,e2⟩:=m6 (off:=off) (N:=AF (AA xs off n) / 2^(c+1) % M) (c:=c) (by omega) hx hn (by omega)
  have hq:AF (AA xs off n) / 2^c % M=(AF (AA xs off n) / 2^(c+1) % M+AF (AA xs off n) / 2^(c+1) % M+AF (AA xs off n) / 2^c % 2) % M:=by
   conv=>lhs;rw [hd]
   rw [Nat.two_mul]
   conv=>lhs;rw [Nat.add_mod,Nat.add_mod (AF (AA xs off n) / 2^(c+1))]
   conv=>rhs;rw [Nat.add_mod]
  have hlt:AF (AA xs off n) / 2^c % 2<2:=Nat.mod_lt _ (by decide)
  have hwi:wI ((c:Int)-1)=(c:Int)-1:=Am (by omega)
  have next:=ih (by omega)
  by_cases hge:M≤AF (AA xs off n) / 2^(c+1) % M+AF (AA xs off n) / 2^(c+1) % M+AF (AA xs off n) / 2^c % 2
  ·refine Ab [true,true] (Ae Ui AB (AZL ..) (m7 hx hl hl' hn hM hM2 hN (by omega) (decide_eq_true hge) ?_) (AL (by kernel_rfl)) hb (fun _ h=>by cases h) fun _=>?_)
   ·rw [e2,Hk,Y_ (by omega),hM]
    exact ⟨rfl,Nat.ble_eq_true_of_le hl',rfl,rfl,decide_eq_true hge,trivial⟩
   ·refine FO (m:=3) (by kernel_rfl) hb ?_
    rw [hwi]
    have ey:mZ off off' xs ys (wl 5 (AF (AA xs off n) / 2^(c+1) % M)) (c:Int)=wl 5 (AF (AA xs off n) / 2^c % M):=by
     unfold mZ
     rw [e2,Y_ (by omega),hM,hq,AZP hge (by omega)]
    rw [ey]
    exact next
  ·refine Ab [true,false] (Ae Ui AB (AZK ..) (m7 hx hl hl' hn hM hM2 hN (by omega) (decide_eq_false hge) trivial) (AL (by kernel_rfl)) hb (fun _ h=>by cases h) fun _=>?_)
   refine FO (m:=3) (by kernel_rfl) hb ?_
   rw [hwi,e2]
   rw [hq.trans (Nat.mod_eq_of_lt (by omega))] at next
   exact next
theorem AZS:z5=wl 5 0:=by kernel_rfl
include hx hl hl' hn hM h0 hM2 in
theorem AZT (hn0:0<n) (h1:1<M):Ad Tryz.prog 237 (EC off n m off' 4 m') (Co xs ys) 2 [] Y9 (GH (wl 5 (AF (AA xs off n) % M))):=by
 refine Av (path:=[false]) Tryz.func237 (by kernel_rfl) (by kernel_rfl) fun β0 w0 hb=>?_
 have ez:AF (AA [] 0 0)=0:=by kernel_rfl
 refine Ae Ui AB (AZJ off n m off' m' xs ys) ⟨Nat.ble_eq_true_of_le hl',rfl,rfl,rfl,?_,rfl,rfl,DI (by omega),trivial⟩ (AL (by kernel_rfl)) hb (fun _ h=>by cases h) fun _=>?_
 ·rw [ez,hM]
  refine decide_eq_false ?_
  unfold C6
  rw [if_neg (by omega),if_pos h0]
  decide
 refine FO (m:=3) (by kernel_rfl) hb ?_
 have e4:wI (wI (64*(n:Int))-1)=((64*n-1:Nat):Int):=by
  rw [Am (z:=64*(n:Int)) (by omega),Am (by omega)];omega
 rw [e4]
 obtain ⟨c,hc⟩:∃ c,64*n=c+1:=⟨64*n-1,by omega⟩
 rw [show 64*n-1=c by omega]
 have htop:AF (AA xs off n) / 2^(c+1)=0:=by rw [← hc];exact Nat.div_eq_of_lt (XH hx hl)
 have hd:=UA (AF (AA xs off n)) c
 rw [htop,Nat.mul_zero,Nat.zero_add] at hd
 have hlt:AF (AA xs off n) / 2^c % 2<2:=Nat.mod_lt _ (by decide)
 obtain ⟨e1,e2⟩:=m6 (off:=off) (N:=0) (c:=c) (by omega) hx hn (by omega)
 have hC:=m7 (c:=c) (N:=0) hx hl hl' hn hM hM2 h0 (by omega) (b:=false) (decide_eq_false (by omega)) (r:=[]) trivial
 rw [← AZS] at e2 hC
 refine Ab [true,false] (Ae Ui AB (AZM ..) hC (AL (by kernel_rfl)) hb (fun _ h=>by cases h) fun _=>?_)
 refine FO (m:=3) (by kernel_rfl) hb ?_
 rw [e2,Am (z:=(c:Int)-1) (by omega)]
 have next:=AZR (m:=m) (m':=m') (w0:=w0) hx hl hl' hn hM h0 hM2 hb c (by omega)
 rw [(congrArg (· % M) hd).trans (Nat.mod_eq_of_lt (by omega))] at next
 rw [Nat.zero_add] at *
 exact next
end
def modSp3:ASpec:=Q2 (fun _ _ _ _=>Y9) (fun _ a _ b=>GH (wl 5 (AF a % AF b))) 1 (fun a b=>[(Nat.blt 0 a.length,true),(Nat.beq b.length 4,true),(Nat.blt 1 (AF b),true),(Nat.blt (AF b+AF b+1) P5,true)])
theorem AZU:A6 Tryz.prog 237 modSp3:=by
 refine Y5 Tryz.func237 (by kernel_rfl) (by kernel_rfl) (fun _ _ _ _=>by kernel_rfl) fun off n m off' n' m' xs ys hx hy hl hl' hn hn' hc=>?_
 obtain ⟨c1,c2,c3,c4,_⟩:=hc
 rw [CN hl] at c1
 rw [CN hl'] at c2
 obtain rfl:=An.1 c2
 exact AZT hx hl hl' hn rfl (by have:=A8.1 c3;omega) (A8.1 c4) (A8.1 c1) (A8.1 c3)
end Go.Proofs.YtjlcdlekmpjjnaaGreat
