/- Part 6 of the proof. -/
import Derived.Test.YtgnajdcdcblaoaaGreatPE
import Derived.Test.YtgnajdcdcblaoaaGreatPB
import Derived.Test.YtgnajdcdcblaoaaGreatPD
set_option maxRecDepth 100000
set_option maxHeartbeats 4000000
open Go.Proofs.Tryz renaming prog→dr
open Go.Proofs.Tryz
namespace Go.Proofs.YtgnajdcdcblaoaaGreat
open Ex Num Rg
open Go.RowKit (Below)
open Sh (R av rd mo en mo_en)
def zN:Nat:=Int.toNat 0+18446744073709551616*(Int.toNat 0+18446744073709551616*(Int.toNat 0+18446744073709551616*(Int.toNat 0+18446744073709551616*0)))
theorem Ae7:zN=0:=dm
section
variable (n m:Nat) (xs:dt)
noncomputable def iY (p:List Bool):h_:=Ak f44 [AQ 0 0 n m] (A7 xs) 1 p
noncomputable def yY (r:du):du:=(Nat.ble (0+n) xs.length,true)::(AK .i64 n,true)::r
theorem Ae8:AU dr oVb3 f44 300 1 [1] (iY n m xs ef)=some (yY n xs [(!decide (M_ n (Ap (AA xs 0 n))=0),false),(decide (F4 n (Ap (AA xs 0 n))=zN),false)],[],AQ 1 0 4 4,[(1,some ⟨60,[.num 4 (F4 n (Ap (AA xs 0 n)))],false⟩)]):=dm
noncomputable def Iv (x:Option (du×List Nat×h_)):h_:=match x with | some (_,_,y)=>y | none=>⟨[],⟨[],[],0,[]⟩⟩
noncomputable def ZB (p:List Bool):h_:=Iv (GF dr oVb3 8 1 (iY n m xs p))
theorem Ae9:GF dr oVb3 8 1 (iY n m xs dz)=some (yY n xs [(!decide (M_ n (Ap (AA xs 0 n))=0),true)],[],ZB n m xs dz):=dm
theorem Ae_:GF dr oVb3 8 1 (iY n m xs ee)=some (yY n xs [(!decide (M_ n (Ap (AA xs 0 n))=0),false),(decide (F4 n (Ap (AA xs 0 n))=zN),true)],[],ZB n m xs ee):=dm
noncomputable def scI:List Item:=(ZB 0 0 [] dz).todo
theorem Ae':(ZB n m xs dz).todo=.code (.region (XO scI) (Hq scI) false)::UN scI:=dm
theorem AfA:(ZB n m xs ee).todo=.code (.region (XO scI) (Hq scI) false)::UN scI:=dm
end
noncomputable abbrev scO:Array Oper:=Hq scI
theorem AfB {Q:Exit→Act→gn→Prop} {a:Act} {w:gn} (ht:17<a.tmps.size) (h:∀ a',a'.defers=a.defers→Q (.panic [{ v:=.iface 31 (.int .i64 210),recovered:=false }]) a' w):wpOps dr scO Q [0,1] a w :=
 AO_ (k:=.i64) (t:=17) (T:=31) (v:=.int .i64 210) (o0:=scO.getD 0 default) (o1:=scO.getD 1 default) dm dm dm dm dm dm dm dm ht h
noncomputable def G9 (n N:Nat):Bool:=decide (M_ n N=0)&&!decide (F4 n N=zN)
theorem yZ {n N:Nat}:G9 n N=true↔n=32∧N<rN∧N≠0:=by
 unfold G9 M_ F4;rw [Ae7];by_cases h1:n=32
 ·by_cases h2:N<rN
  ·by_cases h3:N=0<;>simp [h1,h2,h3]
  ·simp [h1,h2]
 ·simp [h1]
theorem AfC {n m:Nat} {xs:dt} (hl:n≤xs.length) (hn:AK .i64 n=true) (hk:G9 n (Ap (AA xs 0 n))=true) :
  Ab dr 44 [AQ 0 0 n m] (A7 xs) 1 [] (AQ 1 0 4 4) [(1,some ⟨60,[.num 4 (F4 n (Ap (AA xs 0 n)))],false⟩)]:=by
 unfold G9 at hk;simp only [jx,Bool.not_eq_true',jt,decide_eq_false_iff_not] at hk;exact Bf iX BR func44 dm dm (Ae8 n m xs) dm ⟨jr dn,hn,by rw [jm hk.1];rfl,jq hk.2,trivial⟩
noncomputable def errC:List PanicEntry:=[{ v:=.iface 31 (.int .i64 210),recovered:=false }]
theorem AfD {n m:Nat} {xs:dt} (hl:n≤xs.length) (hn:AK .i64 n=true) (hk:G9 n (Ap (AA xs 0 n))=false):AO7 dr 44 [AQ 0 0 n m] (A7 xs) 1 errC:=by
 intro β us w ha hg hf;have fin:∀ (y:h_),y.todo=.code (.region (XO scI) (Hq scI) false)::UN scI→gz dr 44 β w (fun e w'=>e=.panicked errC∧Below w.heap.size w w') f44.ntmps [] y:=by
  intro y hy β' a w' hi _;rw [hy];refine Safe.of_wpP func44 (wp_region ?_)
  have hs:List.range (Hq scI).size=[0,1]:=dm
  rw [hs];refine AfB (by rw [hi.sz];decide) fun a' ha'=>.inr ⟨errC,rfl,?_⟩
  rw [ha',hi.dfr];exact ⟨rfl,hi.os,hi.tape,hi.output,hi.size,fun k hk=>hi.frame k hk fun _ _ h=>by cases h⟩
 have hl':Nat.ble (0+n) xs.length=true:=jr dn
 by_cases he:M_ n (Ap (AA xs 0 n))=0
 ·have hz:F4 n (Ap (AA xs 0 n))=zN:=by
   unfold G9 at hk;rw [jm he] at hk;simpa using hk
  refine XH (args:=[AQ 0 0 n m]) (H:=A7 xs) (k0:=1) (ie:=ee) func44 dm dm ?_ ha hg hf
  exact RN AJg AB (Ae_ n m xs) ⟨hl',hn,by rw [jm he];rfl,jm hz,trivial⟩ (AR dm) hf jl fun _=>fin _ (AfA n m xs)
 ·refine XH (args:=[AQ 0 0 n m]) (H:=A7 xs) (k0:=1) (ie:=dz) func44 dm dm ?_ ha hg hf
  exact RN AJg AB (Ae9 n m xs) ⟨hl',hn,by rw [jq he];rfl,trivial⟩ (AR dm) hf jl fun _=>fin _ (Ae' n m xs)
noncomputable def secSp:ASpec:=fun args H fr ie=>match args with
 | [S]=>match Io S with
  | some (k,n,m)=>match AF H k with
   | some ⟨_,cs,_⟩=>match A' .u8 cs with
    | some xs=>some (BP [k] 1 fr 1 [] (AQ 1 0 4 4) [(1,some ⟨60,[.num 4 (F4 n (Ap (AA xs 0 n)))],false⟩)] [(Nat.ble n xs.length,true),(Nat.ble n m,true),(AK .i64 n,true),(G9 n (Ap (AA xs 0 n)),true)] ie)
    | none=>none
   | _=>none
  | none=>none
 | _=>none
theorem AfE:BI dr 44 secSp:=by
 refine DN func44 dm dm fun args H fr ie r hs=>?_
 unfold secSp at hs;split at hs;case h_2=>cases hs
 rename_i S;split at hs;case h_2=>cases hs
 rename_i k n m hS;split at hs;case h_2=>cases hs
 rename_i ty cs o hk';split at hs;case h_2=>cases hs
 rename_i xs jh;injection hs with hs;refine ⟨[k],1,1,[],_,_,_,ie,hs.symm,fun β us w ha hg hc=>?_⟩
 obtain ⟨u1,jf,r1,ha,rfl⟩:=ha;obtain ⟨hl,hm,hn,hb,_⟩:=hc;obtain ⟨m',_,r1⟩:=KO hS (jp hm) r1
 obtain ⟨g1,g2,g3⟩:=EP hg hk' jh;exact ⟨[AQ 0 0 n m'],A7 xs,AfC (jp hl) hn hb,dm,⟨u1,_,CV dn rfl r1,ha,rfl⟩,g2,g3⟩
noncomputable def SVc:dw:=(44,secSp)::SVb3
theorem AJh:AX dr SVc:=⟨AfE,iX⟩
noncomputable abbrev oVc:ia:=AG SVc KV
theorem ZC:g_ dr oVc:=AH AJh BR
theorem iZ {w:gn} {B:Nat} {v:gq} {ty:gt} (h:w.heap[B]? = some (.cells #[v] ty (0,0))):w.cell? ⟨B,0,none⟩=some v∧w.frozen? ⟨B,0,none⟩=false:=by
 constructor
 ·simp [World.cell?,h]
 ·simp [World.frozen?,h]
theorem i7 {w:gn} {a:Addr} {v:gq} {B:Nat} (h:B≠a.block):(w.setCell a v).heap[B]? = w.heap[B]?:=by
 simp only [World.setCell,tr];rw [jn (fun e=>h e.symm)]
theorem AJi (w:gn) (a:Addr) (v:gq):(w.setCell a v).heap.size=w.heap.size∧(w.setCell a v).os=w.os∧(w.setCell a v).tape=w.tape∧(w.setCell a v).output=w.output:=by
 refine ⟨?_,rfl,rfl,rfl⟩
 simp [World.setCell]
theorem AJj {w:gn} {B:Nat} {u v:gq} {ty:gt} (h:w.heap[B]? = some (.cells #[u] ty (0,0))):(w.setCell ⟨B,0,none⟩ v).heap[B]? = some (.cells #[v] ty (0,0)):=by
 simp [World.setCell,Array.getElem?_modify,h]
noncomputable def ZD:gq:=.tuple #[.slice none 0 0,.int .i64 210]
theorem AfF {F:gp} {fnF:Func} (hF:dr.funcs[F]? = some fnF) (hb:fnF.body.isSome=true) (iq:fw fnF)
  (hcatch:∀ (p q:Addr) (x y:gq) (w:gn),w.cell? p=some x→w.frozen? p=false→w.cell? q=some y→w.frozen? q=false→p.block≠q.block →
   CallsD dr F #[.pointer (some p),.pointer (some q)] (.panicking [{ v:=.iface 31 (.int .i64 210),recovered:=false }]) w fun e u' w' =>
    e=.returned (.tuple #[])∧u'=.panicking [{ v:=.iface 31 (.int .i64 210),recovered:=true }]∧w'=(w.setCell p (.slice none 0 0)).setCell q (.int .i64 210))
  {fn:Func} {t1 t2:Tmp} {tmps:Array gq} {B1 B2:Nat} {ty1 ty2:gt} {R:Ending→gn→Prop} {w:gn} (hres:fn.results=#[.cell t1 22,.cell t2 31])
  (ht1:tmps.getD t1 undef=.pointer (some ⟨B1,0,none⟩)) (ht2:tmps.getD t2 undef=.pointer (some ⟨B2,0,none⟩)) (c1:w.heap[B1]? = some (.cells #[.slice none 0 0] ty1 (0,0))) (c2:w.heap[B2]? = some (.cells #[.int .i64 0] ty2 (0,0))) (jd:B1≠B2)
  (hR:∀ w',(∀ B,B≠B1→B≠B2→w'.heap[B]? = w.heap[B]?)→w'.heap.size=w.heap.size→w'.os=w.os→w'.tape=w.tape→w'.output=w.output→R (.returned ZD) w') :
  Leaves dr fn tmps R [{ target:=.fn (.func F) #[.pointer (some ⟨B1,0,none⟩),.pointer (some ⟨B2,0,none⟩)],args:=#[] }] (.panicking errC) w:=by
 obtain ⟨a1,f1⟩:=iZ c1;obtain ⟨a2,f2⟩:=iZ c2;have h1:fnF.name≠"runtime.NumGoroutine":=by simpa using iq
 have h2:¬ fnF.body=none:=by cases hq:fnF.body<;>simp [hq] at hb ⊢
 refine leaves_cons (f:=F) (args:=#[.pointer (some ⟨B1,0,none⟩),.pointer (some ⟨B2,0,none⟩)]) (by simp) (by simp [invoke,callFunc,hF,h1,h2]) ?_
 refine (hcatch ⟨B1,0,none⟩ ⟨B2,0,none⟩ _ _ w a1 f1 a2 f2 jd).mono ?_
 rintro e u' w' ⟨rfl,rfl,rfl⟩
 have c2':(w.setCell ⟨B1,0,none⟩ (.slice none 0 0)).heap[B2]? = some (.cells #[.int .i64 0] ty2 (0,0)):=(i7 fun e=>jd e.symm).trans c2
 have e2:=(iZ (AJj (v:=.int .i64 210) c2')).1
 have e1:=(iZ ((i7 (a:=⟨B2,0,none⟩) (v:=.int .i64 210) jd).trans (AJj (v:=.slice none 0 0) c1))).1
 obtain ⟨q1,q2,q3,q4⟩:=AJi (w.setCell ⟨B1,0,none⟩ (.slice none 0 0)) ⟨B2,0,none⟩ (.int .i64 210)
 obtain ⟨r1,r2,r3,r4⟩:=AJi w ⟨B1,0,none⟩ (.slice none 0 0)
 refine ⟨ZD,?_,hR _ (fun B n1 n2=>by rw [i7 n2,i7 n1]) (q1.trans r1) (q2.trans r2) (q3.trans r3) (q4.trans r4)⟩
 rw [mi] at ht1 ht2;simp [results,hres,ht1,ht2,go_sem,e1,e2,ZD]
section
variable (n m:Nat) (xs:dt) (p:List Bool)
noncomputable abbrev skF:Func:=f20
noncomputable def skA:h_:=Ak skF [AQ 0 0 n m] (A7 xs) 1 p
noncomputable def i9:h_:=Iv (GF dr oVc 3 1 (skA n m xs p))
noncomputable def skI:List Item:=(i9 0 0 [] []).todo
noncomputable abbrev skO:Array Oper:=Hq skI
noncomputable def Lx (x:Option (List Rec×St)):St:=match x with | some (_,s)=>s | none=>⟨[],[],0,[]⟩
noncomputable def Vi (x:Option (List Rec×St)):List Rec:=match x with | some (r,_)=>r | none=>[]
noncomputable def QI:Option (List Rec×St):=D2 dr oVc skO [skO.getD 0 default] 0 (i9 n m xs p).s
theorem AfG:GF dr oVc 3 1 (skA n m xs p)=some ([],[],i9 n m xs p):=dm
theorem AfH:(i9 n m xs p).todo=.code (.region (XO skI) skO false)::UN skI:=dm
theorem AfI:QI n m xs p=some (Vi (QI n m xs p),Lx (QI n m xs p)):=dm
theorem AfJ:I9 (Vi (QI n m xs p))=[]:=dm
theorem AfK:D_ (Vi (QI n m xs p))=[]:=dm
theorem AfL:Aq (Lx (QI n m xs p)).T 6=.val false [.clo 41 [(1,0),(2,0)]]:=dm
theorem y8:(Lx (QI n m xs p)).fr=3:=dm
noncomputable def QJ:h_:=⟨UN skI,Lx (QI n m xs p)⟩
end
theorem AJl {n m:Nat} {xs:dt} (p:List Bool) {β:Env} {us:List gq} {w:gn} {R:Ending→gn→Prop} (ha:BL β [AQ 0 0 n m] us) (hg:Ex.Good β (A7 xs) w) (hf:∀ b,1≤b→β b=none)
  (h:∀ (β':Env) (a:Act) (w':gn) (A B:Nat) (m1 m2:Nat×Nat),β' 1=some (.at_ A m1)→β' 2=some (.at_ B m2)→(∀ b,3≤b→β' b=none) →
   Inv β w [] ⟨skF.ntmps,[{ target:=.fn (.func 41) #[.pointer (some ⟨A,m1.2+0,none⟩),.pointer (some ⟨B,m2.2+0,none⟩)],args:=#[] }]⟩ β' (Aq (QJ n m xs p).s.T) (QJ n m xs p).s.H a w' →
   Ex.Safe dr 20 R (QJ n m xs p).todo a w'):Calls dr 20 ⟨us⟩ w R:=by
 refine XH (args:=[AQ 0 0 n m]) (H:=A7 xs) (k0:=1) (ie:=p) func20 dm dm ?_ ha hg hf
 refine RN ZC AB (AfG n m xs p) trivial (AR dm) hf jl fun hw=>?_
 intro β' a w' hi hf';rw [AfH];refine Ex.Safe.of_wp (wp_region ?_)
 have hs:List.range skO.size=List.range' 0 [skO.getD 0 default].length++[1]:=dm
 rw [hs];refine rA ZC (W:=[]) _ 0 _ _ _ β' a w' (fun j o hj=>?_) (AfI n m xs p) (by rw [AfJ];trivial) hi hf' hw.1 hw.2 (by rw [AfK];intro k hk;cases hk) ?_
 ·cases j with
  | zero=>injection hj with hj;subst hj;kernel_rfl
  | succ j=>simp at hj
 ·intro β2 a2 w2 hi2 hf2;have hc:=hi2.tmp 6;rw [AfL] at hc;obtain ⟨ps,hp,hu⟩:=A5 hc;obtain ⟨A,m1,B,m2,e1,e2,rfl⟩:=AO' hp;injection hu with hu _;refine AO9 (o:=skO.getD 1 default) (c:=match (skO.getD 1 default).op with | .defer c=>c | _=>⟨.builtin .len,#[],#[]⟩) (t:=6) dm dm dm dm dm dm hu ⟨rfl,?_⟩
  exact h β2 _ w2 A B m1 m2 e1 e2 (fun b hb=>hf2 b (by rw [y8];exact hb)) hi2.push
theorem AJm {β:Env} {H:Heap} {w:gn} {k ty A:Nat} {m:Nat×Nat} {c:Ch} {v:gq} (hg:Ex.Good β H w) (hk:AF H k=some ⟨ty,[c],false⟩) (hr:Nat.ble Br ty=false) (hA:β k=some (.at_ A m)) (hc:∀ l,BM β c l→l=[v]):w.heap[A]? = some (.cells #[v] ty (0,0))∧m.2=0:=by
 rcases Q0 (hg.heap k _ hk) (PB hr) with ⟨B,n,l,t,e1,e2,e3,e4,_⟩ | ⟨e1,_⟩
 ·rw [hA] at e1;injection e1 with e1;injection e1 with e1 e5;subst e1;subst e5;obtain ⟨l1,l2,q1,q2,q3⟩:=e2;simp only [AP] at q2;rw [e4 rfl,q3,q2,hc _ q1] at e3;exact ⟨e3,rfl⟩
 ·rw [hA] at e1;cases e1
section
variable (n m:Nat) (xs:dt) (p:List Bool)
noncomputable def jA:h_:=Iv (GF dr oVc 1 1 (QJ n m xs p))
noncomputable def skJ:List Item:=(jA 0 0 [] []).todo
noncomputable def L0:Option (List Rec×St):=D2 dr oVc (Hq skJ) [(Hq skJ).getD 0 default] 0 (jA n m xs p).s
theorem AfM:GF dr oVc 1 3 (QJ n m xs p)=some ([],[],jA n m xs p):=dm
theorem AfN:(jA n m xs p).todo=.code (.region (XO skJ) (Hq skJ) false)::UN skJ:=dm
theorem AfO:L0 n m xs p=some (Vi (L0 n m xs p),Lx (L0 n m xs p)):=dm
theorem AfP:I9 (Vi (L0 n m xs p))=[]:=dm
theorem AfQ:D_ (Vi (L0 n m xs p))=[]:=dm
theorem AfR:Aq (Lx (L0 n m xs p)).T 8=AQ 0 0 n m:=dm
theorem AfS:Aq (Lx (L0 n m xs p)).T 2=.val false [.p 1 0]:=dm
theorem AfT:Aq (Lx (L0 n m xs p)).T 3=.val false [.p 2 0]:=dm
theorem AfU:AF (Lx (L0 n m xs p)).H 0=some (An [.seq .u8 xs]):=dm
theorem AJn:AF (Lx (L0 n m xs p)).H 1=some ⟨22,[.v (.slice none 0 0)],false⟩:=dm
theorem AJo:AF (Lx (L0 n m xs p)).H 2=some ⟨31,[.n .i64 0],false⟩:=dm
end
theorem AfV (xs:dt):A' .u8 [.seq .u8 xs]=some xs:=dm
theorem AJp {β:Env} {T:AV} {u:gq} {k A:Nat} {m:Nat×Nat} (hT:T=.val false [.p k 0]) (h:AO β T u) (hA:β k=some (.at_ A m)):u=.pointer (some ⟨A,m.2+0,none⟩):=by
 subst hT;obtain ⟨B,n,h1,h2⟩:=A5 h;rw [hA] at h1;injection h1 with h1;injection h1 with h1 h3;subst h1;subst h3;injection h2
theorem AJq {w w':gn} (h:Below w.heap.size w w') {B:Nat} {o:Obj} (hB:w.heap[B]? = some o):w'.heap[B]? = some o:=by
 rw [h.block B (rv.1 hB).1];exact hB
theorem AfW {β:Env} {H:Heap} {w w':gn} (hg:Ex.Good β H w) (hs:w.heap.size≤w'.heap.size) (hf:∀ B,B<w.heap.size→w'.heap[B]? = w.heap[B]?) (ho:w'.os=w.os) (ht:w'.tape=w.tape) (hp:w'.output=w.output):BA β w [] (P7 210) [] (.returned ZD) w' :=
 ⟨ZD,β,rfl,{
  val:=⟨_,⟨_,_,Az ⟨rfl,rfl,trivial⟩,⟨_,_,Az ⟨rfl,(FX _ _).2 dp⟩,rfl,rfl⟩,rfl⟩,rfl⟩
  good:=⟨(fun _ _ h=>by cases h),(fun _ _ _ _ _ h=>by cases h),(fun b B n h=>li (hg.lt b B n h) hs)⟩
  new:=fun _ _ h=>.inl h
  ext:=Env.le_refl β
  frame:=fun B hB _=>hf B hB
  size:=hs
  os:=ho
  tape:=ht
  output:=hp }⟩
theorem AfX {n m:Nat} {xs:dt} (hl:n≤xs.length) (hn:AK .i64 n=true) (hk:G9 n (Ap (AA xs 0 n))=false) :
  Ab dr 20 [AQ 0 0 n m] (A7 xs) 1 [] (P7 210) []:=by
 intro β us w ha hg hf;refine AJl [] ha hg hf fun β' a w' A B m1 m2 hA hB hf' hi=>?_
 refine RN (β0:=β') (w0:=w') (W:=[]) ZC AB (AfM n m xs []) trivial (AR dm) hf' jl (fun hw=>?_) β' a w' hi.root (fun b hb=>hf' b (by rw [show (QJ n m xs []).s.fr=3 from y8 n m xs []] at hb;exact hb))
 intro β1 a1 w1 hi1 hf1;rw [AfN];refine Ex.Safe.of_wpP func20 (wp_region ?_)
 have hs:List.range (Hq skJ).size=List.range' 0 [(Hq skJ).getD 0 default].length++(1::List.range' 2 ((Hq skJ).size-2)):=dm
 rw [hs];refine rA ZC (W:=[]) _ 0 _ _ _ β1 a1 w1 (fun j o hj=>?_) (AfO n m xs []) (by rw [AfP];trivial) hi1 hf1 hw.1 hw.2 (by rw [AfQ];intro k hk;cases hk) ?_
 ·cases j with
  | zero=>injection hj with hj;subst hj;kernel_rfl
  | succ j=>simp at hj
 intro β2 a2 w2 hi2 _;have r8:=hi2.tmp 8;rw [AfR] at r8;obtain ⟨_,g2,_⟩:=EP hi2.good (AfU n m xs []) (AfV xs)
 have hpan:=AfD hl hn hk (A9 β2 [0] 1) [a2.tmps.getD 8 undef] w2 ⟨_,[],CV dn rfl r8,rfl,rfl⟩ g2 (fun b hb=>by
  have:Nat.blt b 1=false:=by cases h:Nat.blt b 1 with | false=>rfl | true=>have:=BX.1 h;omega
  simp [A9,this])
 refine AO8 (o:=(Hq skJ).getD 1 default) (c:=match ((Hq skJ).getD 1 default).op with | .call c=>c | _=>⟨.builtin .len,#[],#[]⟩) (g:=44) (chain:=errC) dm dm dm dm func44 dm dm ?_
 have hargs:(match ((Hq skJ).getD 1 default).op with | .call c=>c | _=>⟨.builtin .len,#[],#[]⟩).args=#[.tmp 8]:=dm
 rw [hargs,show Array.map a2.eval #[Operand.tmp 8]=#[a2.eval (.tmp 8)] from by simp]
 refine Calls.mono (R:=fun e w'=>e=.panicked errC∧Below w2.heap.size w2 w') hpan ?_
 rintro e w3 ⟨rfl,hbl⟩
 refine ⟨rfl,.inr ⟨errC,rfl,?_⟩⟩
 have hA2:=hi2.ext 1 _ hA;have hB2:=hi2.ext 2 _ hB;obtain ⟨c1,z1⟩:=AJm (v:=.slice none 0 0) hi2.good (AJn n m xs []) dm hA2 fun l h=>h.1
 obtain ⟨c2,z2⟩:=AJm (v:=.int .i64 0) hi2.good (AJo n m xs []) dm hB2 fun l h=>h.1
 have jd:A≠B:=fun e=>by
  subst e;have:=hi2.good.inj 1 2 A m1 m2 (by rw [GC (AJn n m xs []) (Z5 dm)]) (by rw [AJo];rfl) hA2 hB2
  cases this
 have jk:∀ {k C:Nat} {q:Nat×Nat},1≤k→β' k=some (.at_ C q)→w.heap.size≤C:=by
  intro k C q hk0 hC;rcases hi.new k _ hC with h | h
  ·rw [hf k hk0] at h;cases h
  ·rcases h C q rfl with h | ⟨j,_,hj,_⟩
   ·exact h
   ·cases hj
 have bA:=jk dn hA;have bB:=jk dn hB;have t1:=AJp (AfS n m xs []) (hi2.tmp 2) hA2
 have t2:=AJp (AfT n m xs []) (hi2.tmp 3) hB2
 rw [z1] at t1;rw [z2] at t2;rw [hi2.dfr,z1,z2];refine AfF func41 dm dm (fun p q x y w a b c d e=>Aeu p q x y w a b c d e) (t1:=2) (t2:=3) dm t1 t2 (AJq hbl c1) (AJq hbl c2) jd fun w4 k1 k2 k3 k4 k5=>?_
 refine AfW hg ?_ (fun C hC=>?_) ?_ ?_ ?_
 ·rw [k2];exact mw hi.size (mw hi2.size hbl.size)
 ·rw [k1 C dn dn,hbl.block C (li hC (mw hi.size hi2.size)),hi2.frame C (li hC hi.size) (fun _ _ h=>by cases h),hi.frame C hC (fun _ _ h=>by cases h)]
 ·rw [k3,hbl.os,hi2.os,hi.os]
 ·rw [k4,hbl.tape,hi2.tape,hi.tape]
 ·rw [k5,hbl.output,hi2.output,hi.output]
noncomputable def QK (N:Nat):Pt FP:=HQ (AI (AA (Y' N) 0 4)) (AL (A8 G1B) (Av G1B) (Ao G1B))
theorem AfY {N:Nat} (h:N<R4):QK N=smul N G1B:=by
 unfold QK HQ;rw [U6,jo gR,AJb h]
def y9:AV:=.tup [(false,[.sl 12 0 48 48]),(false,[.n .i64 0])]
def zA (l:dt):Heap:=[(12,some ⟨5,[.seq .u8 l],true⟩)]
theorem AfZ (n m:Nat) (xs:dt):AU dr oVc skF 400 1 [12] (QJ n m xs [false,true,true,true,true,true,true,true,true,true]) =
 some ((Nat.ble n xs.length,true)::(Nat.ble n m,true)::(AK .i64 n,true)::(G9 n (Ap (AA xs 0 n)),true)::tt 2 [(A2 (AL (A8 (QK (F4 n (Ap (AA xs 0 n))))) (Av (QK (F4 n (Ap (AA xs 0 n))))) (Ao (QK (F4 n (Ap (AA xs 0 n)))))),true)],[],y9,
  zA (E0 true (AL (A8 (QK (F4 n (Ap (AA xs 0 n))))) (Av (QK (F4 n (Ap (AA xs 0 n))))) (Ao (QK (F4 n (Ap (AA xs 0 n)))))))):=dm
theorem Afa (N:Nat):A2 (smul N G1B)=true:=by
 have h1:=(Ih G1B).1 gR
 unfold A2;rw [(Ih _).2 (CE C1 h1 N),← JP C1 h1,ko,JP C1 h1,rG1,Gz];rfl
theorem Afb {n m:Nat} {xs:dt} (hl:n≤xs.length) (hm:n≤m) (hn:AK .i64 n=true) (hk:G9 n (Ap (AA xs 0 n))=true) :
  Ab dr 20 [AQ 0 0 n m] (A7 xs) 1 [] y9 (zA (E0 true (smul (Ap (AA xs 0 n)) G1B))):=by
 obtain ⟨k1,k2,_⟩:=yZ.1 hk;have hV:F4 n (Ap (AA xs 0 n))=Ap (AA xs 0 n):=jo ⟨k1,k2⟩
 have i_:=AfZ n m xs;rw [hV,U6,AfY (nl k2 AJX)] at i_;intro β us w ha hg hf;refine AJl [false,true,true,true,true,true,true,true,true,true] ha hg hf fun β' a w' A B m1 m2 _ _ hf' hi=>?_
 exact APA ZC AB func20 i_ ⟨jr hl,jr hm,hn,hk,AY 2 ⟨Afa _,trivial⟩⟩ (AR dm) hf jl rfl func41 dm dm
  (fun w=>Aet _ _ w) (fun _ _ h=>h) β' a w' hi (fun b hb=>hf' b (by rw [show (QJ n m xs _).s.fr=3 from y8 n m xs _] at hb;exact hb))
noncomputable def skSp:ASpec:=fun args H fr ie=>match args,ie with
 | [S],b::ij=>match Io S with
  | some (k,n,m)=>match AF H k with
   | some ⟨_,cs,_⟩=>match A' .u8 cs with
    | some xs=>match b with
     | true=>some (BP [k] 1 fr 0 [] (P7 210) [] [(Nat.ble n xs.length,true),(Nat.ble n m,true),(AK .i64 n,true),(G9 n (Ap (AA xs 0 n)),false)] ij)
     | false=>some (BP [k] 1 fr 12 [] y9 (zA (E0 true (smul (Ap (AA xs 0 n)) G1B))) [(Nat.ble n xs.length,true),(Nat.ble n m,true),(AK .i64 n,true),(G9 n (Ap (AA xs 0 n)),true)] ij)
    | none=>none
   | _=>none
  | none=>none
 | _,_=>none
theorem Afc:BI dr 20 skSp:=by
 refine DN func20 dm dm fun args H fr ie r hs=>?_
 unfold skSp at hs;split at hs;case h_2=>cases hs
 rename_i S b ij;split at hs;case h_2=>cases hs
 rename_i k n m hS;split at hs;case h_2=>cases hs
 rename_i ty cs o hk';split at hs;case h_2=>cases hs
 rename_i xs jh;split at hs
 ·injection hs with hs;refine ⟨[k],1,0,[],_,_,_,ij,hs.symm,fun β us w ha hg hc=>?_⟩
  obtain ⟨u1,jf,r1,ha,rfl⟩:=ha;obtain ⟨hl,hm,hn,hb,_⟩:=hc;obtain ⟨m',_,r1⟩:=KO hS (jp hm) r1
  obtain ⟨g1,g2,g3⟩:=EP hg hk' jh;exact ⟨[AQ 0 0 n m'],A7 xs,AfX (jp hl) hn hb,dm,⟨u1,_,CV dn rfl r1,ha,rfl⟩,g2,g3⟩
 ·injection hs with hs;refine ⟨[k],1,12,[],_,_,_,ij,hs.symm,fun β us w ha hg hc=>?_⟩
  obtain ⟨u1,jf,r1,ha,rfl⟩:=ha;obtain ⟨hl,hm,hn,hb,_⟩:=hc;obtain ⟨m',hm',r1⟩:=KO hS (jp hm) r1
  obtain ⟨g1,g2,g3⟩:=EP hg hk' jh;exact ⟨[AQ 0 0 n m'],A7 xs,Afb (jp hl) hm' hn hb,dm,⟨u1,_,CV dn rfl r1,ha,rfl⟩,g2,g3⟩
noncomputable def SVe:dw:=(20,skSp)::(25,D3 smSp)::(28,D3 (Li fun s L=>FI (EQ s L)))::SVc
theorem AJr:AX dr SVe:=⟨Afc,EK AZ9,EK (OS func28 dm dm (fun _ _=>by kernel_rfl) fun _ _ _ hl hm hn=>xI hl hm hn true rfl),AJh⟩
noncomputable abbrev oVe:ia:=AG SVe KV
theorem jB:g_ dr oVe:=AH AJr BR
noncomputable def SVf:dw:=(11,BF dr oVe f11 300)::(19,BF dr oVe f19 300)::(21,BF dr oVe f21 600)::(22,BF dr oVe f22 300)::SVe
theorem AJs:AX dr SVf:=⟨BJ jB AB func11 dm dm 300,BJ jB AB func19 dm dm 300,BJ jB AB func21 dm dm 600,BJ jB AB func22 dm dm 300,AJr⟩
noncomputable abbrev oVf:ia:=AG SVf KV
theorem Afd:g_ dr oVf:=AH AJs BR
open Ex Num Rg
open Sh (R av rd mo en mo_en)
def Afe:dt:=List.take (Int.toNat 31) (List.drop 0 (List.replicate (Int.toNat 31) 0))++[1]
def Oq:Nat:=Ap (AA Afe 0 (Int.toNat 31+1))
def jF:Nat:=Ap (AA (List.replicate (Int.toNat 32) 0) 0 (Int.toNat 32))
theorem zB:Oq=1:=dm
theorem Aff:jF=0:=dm
noncomputable def AJt:du:=tt 7 ((G9 (Int.toNat 32) jF,false)::tt 9 ((G9 (Int.toNat 31+1) Oq,true)::(A2 (AL (A8 G1B) (Av G1B) (Ao G1B)),true)::(Nat.ble (0+48) (E0 true (smul Oq G1B)).length,true)::(Nat.ble (0+48) (E0 true (AL (A8 G1B) (Av G1B) (Ao G1B))).length,true) ::
 tt 2 ((M4 (AA (E0 true (smul Oq G1B)) 0 48) (AA (E0 true (AL (A8 G1B) (Av G1B) (Ao G1B))) 0 48),true)::tt 2 ((Nat.ble 48 (E0 true (smul Oq G1B)).length,true)::tt 2 ((decide ((EQ true (AA (E0 true (smul Oq G1B)) 0 48)).2=0),true)::(!Ao (EQ true (AA (E0 true (smul Oq G1B)) 0 48)).1,true)::tt 3 [(false,false)])))))
theorem Afg:AJ dr oVf f7 [] [true,true,true,false,false,true,true,true,true,false] 1000=some (AJt,.val false [.b true]):=dm
theorem Afh (s i b:Bool) (B:dt):(DY s i b B).length=B.length:=by
 cases B with
 | nil=>cases s<;>cases i<;>cases b<;>rfl
 | cons f t=>rw [VO];rfl
theorem AJu (s:Bool) (p:Pt FP):(E0 s p).length=96:=by rw [Ym,Afh,VQ,Yn];rfl
theorem Afi:G9 (Int.toNat 32) jF=false:=by
 cases h:G9 (Int.toNat 32) jF with
 | false=>rfl
 | true=>exact absurd Aff (yZ.1 h).2.2
theorem Afj:1<rN:=by rw [rN_eq];exact BX.1 dm
theorem Afk:G9 (Int.toNat 31+1) Oq=true:=yZ.2 ⟨rfl,by rw [zB];exact Afj,by rw [zB];decide⟩
theorem Afl (l:dt):M4 l l=true:=jm rfl
theorem Afm:AT dr 7 [] (.val false [.b true]):=by
 have r:=Afg;have e1:smul Oq G1B=G1B:=by rw [zB];rfl
 have hd:EQ true (AA (E0 true G1B) 0 48)=(G1B,0):=AIR Yk true
 unfold AJt at r;rw [U6,e1,hd] at r;have hb:Nat.ble 48 (E0 true G1B).length=true:=by rw [AJu];rfl
 have hb':Nat.ble (0+48) (E0 true G1B).length=true:=by rw [AJu];rfl
 exact AN Afd AB func7 r (AY 7 ⟨Afi,AY 9 ⟨Afk,Yk,hb',hb',AY 2 ⟨Afl _,AY 2 ⟨hb,AY 2 ⟨jm rfl,rfl,AY 3 ⟨rfl,trivial⟩⟩⟩⟩⟩⟩) rfl
noncomputable def SVw:dw:=(7,Af AW3)::SVf
theorem AJv:AX dr SVw:=⟨Ah func7 dm dm (RX Afm fun u h=>h),AJs⟩
noncomputable abbrev oVw:ia:=AG SVw KV
theorem Afn:g_ dr oVw:=AH AJv BR
noncomputable def SVg:dw:=(8,BF dr oVw f8 300)::SVw
theorem jG:AX dr SVg:=⟨BJ Afn AB func8 dm dm 300,AJv⟩
theorem zC {f:gp} {args:List AV} {H:Heap} {k0:Nat} (h:Ab dr f args H k0 [] (.val false [.b true]) []):Ab dr f args H k0 [] (Aw true) [] :=
 BN h fun _ _ ⟨l1,l2,h1,h3,h4⟩=>⟨l1,l2,⟨h1,rfl,trivial⟩,h3,h4⟩
open Ex Num Rg
open Ex Num
theorem zD (a:Addr) (x y:Nat):(a.add x).add y=a.add (x+y):=by
 unfold Addr.add;by_cases hx:x=0
 ·subst hx;simp
 ·by_cases hy:y=0
  ·subst hy;simp [hx]
  ·simp [hx,hy,Nat.add_assoc]
theorem AJw {W:gn} {c:Nat}:∀ (css:List (List gq)) (a:Addr),(∀ cs∈css,cs.length=c)→(∀ i,i<css.length→∀ k,k<c→W.cell? ((a.add (i*c)).add k)=(css.getD i [])[k]?)→∀ j,j<css.flatten.length→W.cell? (a.add j)=css.flatten[j]?
 | [],a,_,_,j,hj=>by simp at hj
 | cs::r,a,hl,h,j,hj=>by
  have hc:cs.length=c:=hl cs (qr ..)
  rw [List.flatten_cons] at hj ⊢;by_cases q:j<c
  ·have:=h 0 (by simp) j q
   rw [p_,zD,kr] at this;rw [this,om dn];rfl
  ·have ih:=AJw r (a.add c) (fun x hx=>hl x (oq _ hx)) (fun i hi k hk=>by
    have:=h (i+1) (by simpa using hi) k hk
    rw [zD a c,show c+i*c=(i+1)*c by rw [rk];omega,this];rfl) (j-c) (by rw [ku] at hj;omega)
   rw [zD,show c+(j-c)=j by omega] at ih
   rw [ih,ru dn,hc]
theorem AJx {W:gn} {a:Addr} {c:Array gq} {row:gt} {fz:Nat×Nat} (hblk:W.heap[a.block]? = some (.cells c row fz)) (hs:a.spot=none) (ho:a.off≤c.size) {l:List gq} (h:∀ j,j<l.length→W.cell? (a.add j)=l[j]?) :
  c.toList=c.toList.take a.off++(l++c.toList.drop (a.off+l.length))∧a.off+l.length≤c.size:=by
 have AF:∀ i,i<l.length→c[a.off+i]? = l[i]?:=by
  intro i hi;have h1:=h i hi;have e2:a.add i=⟨a.block,a.off+i,none⟩:=by
   unfold Addr.add;split
   ·rename_i h0;subst h0;cases a;simp only at hs;simp [hs]
   ·rfl
  rw [e2] at h1;simp only [World.cell?,hblk] at h1;simpa using h1
 have hend:a.off+l.length≤c.size:=by
  rcases md l.length with h0 | hp
  ·omega
  ·have:=AF (l.length-1) dn
   rw [nh dn] at this;have:=(rv.1 this).1
   omega
 refine ⟨?_,hend⟩
 have hmid:(c.toList.drop a.off).take l.length=l:=by
  refine tn fun i=>?_
  by_cases hi:i<l.length
  ·rw [rx hi,qv,rq,AF i hi]
  ·rw [mq (by simp;omega),mq dn]
 conv=>lhs;rw [← nq a.off c.toList,← nq l.length (c.toList.drop a.off),hmid,od]
section
variable {H:Type} {enc:gt×gq→H} {W:gn} {base:Nat}
theorem Afo {t e:gt} {c:Nat} {v:gq} {d:DataW H} {p:List MemPlace} (hu:dr.underlying t=some (.slice e)) (hc:dr.cellsOf e=c)
  (hv:Value.okWide dr W .any base t v) (ht:DataW.Trod enc dr W 0 (fun _=>true) true t v d p) :
  ∃ (L:Ex.Loc) (n m:Nat) (css:List (List gq)),css.length=n∧n≤m∧n≤maxLen∧(∀ B q,L=Ex.Loc.at_ B q→B<W.heap.size)∧(∀ cs∈css,cs.length=c∧∃ (ir:Nat) (y:DataW H×List MemPlace),DataW.trod enc dr W 0 (fun _=>true) true ir e cs=some y) ∧
   ∀ ls:List Ex.Loc,AO (DH (ls++[L])) (.val false [.sl ls.length 0 n m]) v∧∀ chs l r,css.flatten=l++r→AP (DH (ls++[L])) chs l→DK (DH (ls++[L])) (An chs) ls.length W:=by
 obtain ⟨ir,hf⟩:=ht;obtain ⟨a0,len0,cap0,rfl⟩:=Go.WideShapes.okWide_slice hu hv;have hcells:(Value.slice a0 len0 cap0).cells=#[Value.slice a0 len0 cap0]:=rfl
 rw [hcells] at hf;rcases DataW.trod_slice hu hf with ⟨hcs,_⟩ | ⟨a,len,cap,elems,ij,k,_,hcs,_,hb,hl,hm,ii,hel,_,_⟩
 ·have e1:Value.slice a0 len0 cap0=.slice none 0 0:=by simpa using hcs
  rw [e1];refine ⟨.nil,0,0,[],rfl,ju _,qt _,(fun B q h=>by cases h),(fun cs h=>by cases h),fun ls=>⟨?_,fun chs l r e h=>.inr (.inl ⟨.nil,JL _ _,Or.inr rfl,by rw [(List.append_eq_nil_iff.1 e.symm).1] at h;exact h⟩)⟩⟩
  exact Az (.inr (.inl ⟨JL _ _,rfl,rfl,rfl,rfl⟩))
 ·have e1:Value.slice a0 len0 cap0=.slice (some a) len cap:=by simpa using hcs
  rw [e1] at hv ⊢;have hk:Cell.ok dr W .any base t (.slice (some a) len cap):=by
   have:=hv
   simp only [Value.okWide,hu,Cell.okWide] at this;exact this
  simp only [Cell.ok,hu] at hk;obtain ⟨_,_,_,hspot,row,cells,hsh,hlies⟩:=hk;obtain ⟨C,fz,hblk,hsz⟩:∃ C fz,W.heap[a.block]? = some (.cells C row fz)∧cells=C.size:=by
   unfold World.shape? at hsh
   split at hsh
   ·rename_i C el fz hq;injection hsh with hsh;injection hsh with h1 h2;exact ⟨C,fz,by rw [hq,h1],h2.symm⟩
   ·cases hsh
  have hoff:a.off≤C.size:=by
   have h1:=uU _ hlies;have h2:=qu cells (dr.cellsOf row)
   omega
  have hex:∀ i,i<len→∃ cs y,W.cells? 0 (a.add (i*dr.cellsOf e)) (dr.cellsOf e)=some cs∧DataW.trod enc dr W 0 (fun _=>true) true k e cs=some y:=fun i hi=>by
   have h:=hel i hi;rw [nh dn,Option.bind_eq_some_iff] at h;obtain ⟨cs,h1,h2⟩:=h;exact ⟨cs,_,h1,h2⟩
  obtain ⟨css,hcl,hce⟩:∃ css:List (List gq),css.length=len∧∀ i,i<len→W.cells? 0 (a.add (i*c)) c=some (css.getD i [])∧∃ y,DataW.trod enc dr W 0 (fun _=>true) true k e (css.getD i [])=some y:=by
   rw [hc] at hex;refine ⟨(List.range len).map fun i=>if h:i<len then Classical.choose (hex i h) else [],by simp,fun i hi=>?_⟩
   have e:((List.range len).map fun i=>if h:i<len then Classical.choose (hex i h) else []).getD i []=Classical.choose (hex i hi):=by
    rw [kq,qe,List.getElem?_range hi];simp [hi]
   rw [e];obtain ⟨y,h1,h2⟩:=lf (hex i hi)
   exact ⟨h1,y,h2⟩
  have hmem:∀ cs∈css,∃ i,i<len∧css.getD i []=cs:=fun cs hcs=>by
   obtain ⟨i,hi⟩:=List.getElem?_of_mem hcs
   have jb:=(ug.1 hi).1
   exact ⟨i,dn,by rw [kq,hi];rfl⟩
  have ip:∀ cs∈css,cs.length=c:=fun cs hcs=>by
   obtain ⟨i,hi,e⟩:=hmem cs hcs;rw [← e];exact (World.cells?_some (hce i hi).1).2.1
  have hcell:=AJw (W:=W) css a ip fun i hi q hq=>(World.cells?_some (hce i dn).1).2.2 q hq
  obtain ⟨hlist,hend⟩:=AJx hblk hspot hoff hcell;have ea:a=⟨a.block,a.off,none⟩:=by cases a;simp only at hspot;simp [hspot]
  refine ⟨.at_ a.block (C.size,a.off),len,cap,css,hcl,hl,mw hl hm,fun B q h=>?_,fun cs hcs=>⟨ip cs hcs,?_⟩,fun ls=>⟨?_,fun chs l r e h=>.inl ⟨a.block,(C.size,a.off),l,r++C.toList.drop (a.off+css.flatten.length),C.toList.take a.off,row,fz,JL _ _,h,?_,?_,fun hr=>absurd rfl hr⟩⟩⟩
  ·injection h with h1 h2;rw [← h1];exact (rv.1 hblk).1
  ·obtain ⟨i,hi,e⟩:=hmem cs hcs;obtain ⟨y,hy⟩:=(hce i hi).2
   exact ⟨k,y,by rw [← e];exact hy⟩
  ·refine Az (.inl ⟨a.block,(C.size,a.off),JL _ _,?_⟩)
   rw [og,← ea]
  ·rw [← ol l r,← e,← hlist];exact hblk
  ·simp;omega
end
open Ex Num Rg
theorem Vj (ls r:List Ex.Loc):Env.le (DH ls) (DH (ls++r)):=fun b X h=>by
 have hb:b<ls.length:=by
  rcases kf b ls.length with q | q
  ·exact q
  ·simp only [DH] at h;rw [mq q] at h;cases h
 simp only [DH] at h ⊢;rw [om hb];exact h
def Afp (W:gn) (L:Ex.Loc) (n m:Nat) (v:gq) (css:List (List gq)):Prop:=∀ ls:List Ex.Loc,AO (DH (ls++[L])) (.val false [.sl ls.length 0 n m]) v∧∀ chs l r,css.flatten=l++r→AP (DH (ls++[L])) chs l→DK (DH (ls++[L])) (An chs) ls.length W
theorem Afq {β:Env}:AP β [] []:=rfl
open Ex Num Rg
open Sh (R av rd mo en mo_en)
theorem H9 {P:gr}:∀ {S T:dw},AX P S→AX P T→AX P (S++T)
 | [],_,_,h=>h
 | _::_,_,h,h'=>⟨h.1,H9 h.2 h'⟩
def Ot (oa:Option Addr) (m:Nat):List AV:=[.val false [.v (.slice oa 0 m)],.val false [.b true]]
noncomputable def SWr:dw:=(59,BF dr (AG [] KV) f59 300)::(65,BF dr (AG [] KV) f65 300)::[]
theorem Afr:AX dr SWr:=⟨BJ (AH (L:=[]) trivial BR) AB func59 dm dm 300,BJ (AH (L:=[]) trivial BR) AB func65 dm dm 300,trivial⟩
noncomputable abbrev oWr:ia:=AG SWr KV
theorem jH:g_ dr oWr:=AH Afr BR
def zE (e:Int):AV:=.tup [(true,FR false),(false,[.n .i64 e])]
section
variable (oa:Option Addr) (m:Nat)
theorem Afs:AJ dr oWr f45 (Ot oa m) d_ 300=some (tt 2 [],HV 200):=dm
theorem Aft:AJ dr oWr f53 (Ot oa m) d_ 300=some (tt 2 [],HV 200):=dm
theorem Afu:AJ dr oWr f28 (Ot oa m) d_ 300=some (tt 2 [],zE 200):=dm
theorem Afv:AJ dr oWr f29 (Ot oa m) d_ 300=some (tt 2 [],zE 200):=dm
theorem Afw:AT dr 45 (Ot oa m) (GP (.pt 0 0,200)):=CG (AN jH AB func45 (Afs oa m) (AY 2 trivial) rfl) fun _ q=>QD q
theorem Afx:AT dr 53 (Ot oa m) (GP (.pt 0 0,200)):=CG (AN jH AB func53 (Aft oa m) (AY 2 trivial) rfl) fun _ q=>QD q
theorem AJy {β:Env} {e:Int} {u:gq} (h:AO β (zE e) u):AO β (FI (.pt 0 0,e)) u:=CQ (fun _ q=>(G1 (x:=0) (y:=0) (i:=false) dm q).1) (fun _ q=>EM rfl q) h
theorem Afy:AT dr 28 (Ot oa m) (FI (.pt 0 0,200)):=CG (AN jH AB func28 (Afu oa m) (AY 2 trivial) rfl) fun _ q=>AJy q
theorem Afz:AT dr 29 (Ot oa m) (FI (.pt 0 0,200)):=CG (AN jH AB func29 (Afv oa m) (AY 2 trivial) rfl) fun _ q=>AJy q
end
def ZE (v:AV):List AV→Option AV
 | [.val false [.v (.slice _ 0 _)],.val false [.b true]]=>some v
 | _=>none
theorem jI {f:gp} {v:AV} (h:∀ oa m,AT dr f (Ot oa m) v):∀ args r,ZE v args=some r→AT dr f args r:=by
 intro args r hs;unfold ZE at hs;split at hs;case h_2=>cases hs
 injection hs with hs;subst hs;exact h _ _
def Vk (v:AV) (s:ASpec):ASpec:=fun args H fr ie=>match ZE v args with
 | some _=>Af (ZE v) args H fr ie
 | none=>s args H fr ie
theorem jJ {f:gp} {v:AV} {s:ASpec} (h1:BI dr f s) (h2:BI dr f (Af (ZE v))):BI dr f (Vk v s):=by
 intro args H fr ie r β us w hs;unfold Vk at hs;split at hs
 ·exact h2 args H fr ie r β us w hs
 ·exact h1 args H fr ie r β us w hs
noncomputable def SWe:dw:=(45,Vk (GP (.pt 0 0,200)) (D3 (Li fun s L=>GP (G6 s L))))::(53,Vk (GP (.pt 0 0,200)) (D3 (Li fun s L=>GP (G6 s L))))::(28,Vk (FI (.pt 0 0,200)) (D3 (Li fun s L=>FI (EQ s L))))::(29,Vk (FI (.pt 0 0,200)) (D3 (Li fun s L=>FI (EQ s L))))::[]
theorem AJz:AX dr SWe:=⟨jJ (EK (OS func45 dm dm (fun _ _=>by kernel_rfl) fun _ _ _ hl hm hn=>AIf hl hm hn true rfl)) (Ah func45 dm dm (jI Afw)),jJ (EK (OS func53 dm dm (fun _ _=>by kernel_rfl) fun _ _ _ hl hm hn=>AJE hl hm hn true rfl)) (Ah func53 dm dm (jI Afx)),jJ (EK (OS func28 dm dm (fun _ _=>by kernel_rfl) fun _ _ _ hl hm hn=>xI hl hm hn true rfl)) (Ah func28 dm dm (jI Afy)),jJ (EK (OS func29 dm dm (fun _ _=>by kernel_rfl) fun _ _ _ hl hm hn=>AJC hl hm hn true rfl)) (Ah func29 dm dm (jI Afz)),trivial⟩
def Af0 (W:gn) (cs:List gq):Prop:=∃ oa n m,cs=[.slice oa n m]∧n≤m∧AK .i64 (n:Int)=true∧(0<n→∃ (L:Ex.Loc) (zs:dt),(∀ x∈zs,0≤x∧x<256)∧n≤zs.length∧(∀ B q,L=Ex.Loc.at_ B q→B<W.heap.size)∧∀ (ls:List Ex.Loc),BM (DH (ls++[L])) (.sl ls.length 0 n m) [.slice oa n m]∧DK (DH (ls++[L])) (An [.seq .u8 zs]) ls.length W)
section
variable {H:Type} {enc:gt×gq→H} {W:gn} {base:Nat}
theorem Af1 {cs:List gq} {ir:Nat} {y:DataW H×List MemPlace} (ht:DataW.trod enc dr W 0 (fun _=>true) true ir 22 cs=some y) :
  Af0 W cs:=by
 rcases Go.ChangeShapes.open_ints X_ u5 u6 ht with ⟨rfl,_⟩ | ⟨a,len,cap,zs,rfl,hb,hl,hm,hz,_,hcell,jj⟩
 ·exact ⟨none,0,0,rfl,ju _,rfl,fun h=>by cases h⟩
 ·simp only [if_true] at hz;refine ⟨some a,len,cap,rfl,hl,u7 (mw hl hm),fun hl1=>?_⟩
  have h0:=hcell 0 dn;have e0:a.add 0=a:=rfl
  rw [e0] at h0;obtain ⟨C,row,fz,hblk⟩:∃ C row fz,W.heap[a.block]? = some (.cells C row fz):=by
   unfold World.cell? at h0
   split at h0
   ·exact ⟨_,_,_,by assumption⟩
   ·cases h0
  have hs:a.spot=none:=by
   simp only [World.cell?,hblk] at h0;cases hq:a.spot with
   | none=>rfl
   | some _=>rw [hq] at h0;cases h0
  have hget0:C[a.off]? = some (.int .u8 (zs.getD 0 0)):=by
   simp only [World.cell?,hblk,hs] at h0;simpa using h0
  have hoff:a.off≤C.size:=Nat.le_of_lt (rv.1 hget0).1
  obtain ⟨hlist,hend⟩:=AJx (l:=zs.map (.int .u8)) hblk hs hoff fun j hj=>by
   rw [ma] at hj;rw [hcell j hj,qe,nh hj,kq,nh hj];rfl
  rw [ma] at hlist hend;have ea:a=⟨a.block,a.off,none⟩:=by cases a;simp only at hs;simp [hs]
  have hhas:∀ x∈zs,has .u8 x:=fun x hx=>ADc (jj x hx)
  refine ⟨.at_ a.block (C.size,a.off),zs,fun x hx=>tN (hhas x hx),dn,fun B q h=>?_,fun ls=>⟨.inl ⟨a.block,(C.size,a.off),JL _ _,?_⟩,.inl ⟨a.block,(C.size,a.off),zs.map (.int .u8),C.toList.drop (a.off+zs.length),C.toList.take a.off,row,fz,JL _ _,⟨_,[],⟨rfl,hhas⟩,rfl,by simp⟩,?_,?_,fun hr=>absurd rfl hr⟩⟩⟩
  ·injection h with h1 h2;rw [← h1];exact (rv.1 hblk).1
  ·rw [og,← ea]
  ·rw [← hlist];exact hblk
  ·simp;omega
end
open Ex Num
theorem FK (a b:Nat) (ha:a<4294967296) (hb:b<4294967296):bits .and .u32 (a:Int) (b:Int)=((a &&& b:Nat):Int)∧bits .or .u32 (a:Int) (b:Int)=((a ||| b:Nat):Int)∧bits .xor .u32 (a:Int) (b:Int)=((a ^^^ b:Nat):Int):=by
 have ha':a % 2^IntKind.u32.bits=a:=jv ha
 have hb':b % 2^IntKind.u32.bits=b:=jv hb
 have h1:(a &&& b)<4294967296:=qn (n:=32) _ hb
 have h2:(a ||| b)<4294967296:=Nat.or_lt_two_pow (n:=32) ha hb
 have h3:(a ^^^ b)<4294967296:=ti (n:=32) ha hb
 refine ⟨?_,?_,?_⟩
 ·simp only [bits,BitVec.ofInt_natCast,BitVec.toNat_and,BitVec.toNat_ofNat,ha',hb',IntKind.wrap_u32];omega
 ·simp only [bits,BitVec.ofInt_natCast,BitVec.toNat_or,BitVec.toNat_ofNat,ha',hb',IntKind.wrap_u32];omega
 ·simp only [bits,BitVec.ofInt_natCast,BitVec.toNat_xor,BitVec.toNat_ofNat,ha',hb',IntKind.wrap_u32];omega
def rr (x n:Nat):Nat:=x / 2^n ||| x*2^(32-n) % 4294967296
theorem NA {x:Nat} (h:x<4294967296) (n:Nat):rr x n<4294967296:=Nat.or_lt_two_pow (n:=32) (qj (ra _ _) h) (ki _ dp)
def Ou (x j:Int):Int:=AW false .u32 (x*2^min j.toNat IntKind.u32.bits)
def NB (x j:Int):Int:=Int.fdiv x (2^min j.toNat IntKind.u32.bits)
theorem Vl (x j:Nat) (hj:j≤32):Ou (x:Int) (j:Int)=((x*2^j % 4294967296:Nat):Int):=by
 unfold Ou;rw [DD,IntKind.wrap_u32,jz,mr (show j≤IntKind.u32.bits from hj)]
 have:(x:Int)*2^j=((x*2^j:Nat):Int):=by rw [lu,ql];rfl
 rw [this];omega
theorem ZF (x j:Nat) (hj:j≤32):NB (x:Int) (j:Int)=((x / 2^j:Nat):Int):=by
 unfold NB;rw [jz,mr (show j≤IntKind.u32.bits from hj),q_ _ (by exact_mod_cast qt (2^j)),se,ql]
 rfl
def Vm (k:Int):Int:=bits .and .u64 (AW false .u64 k) 31
def ZG (k:Int):Int:=AW false .u64 (32-Vm k)
def H_ (x k:Int):Int:=((rr x.toNat (-k).toNat:Nat):Int)
theorem AJ0 {n:Nat} (h0:0<n) (h:n<32):Vm (-(n:Int))=((32-n:Nat):Int)∧ZG (-(n:Int))=(n:Int):=by
 have h1:Vm (-(n:Int))=((32-n:Nat):Int):=by
  unfold Vm;have e:AW false .u64 (-(n:Int))=((18446744073709551616-n:Nat):Int):=by rw [DD,IntKind.wrap_u64];omega
  rw [e,show (31:Int)=((31:Nat):Int) from rfl,(bits_nat .u64 64 (ju _) (fun z a b=>by rw [IntKind.wrap_u64];omega) _ 31 dn dp).1]
  rw [show (31:Nat)=2^5-1 from rfl,Nat.and_two_pow_sub_one_eq_mod]
  omega
 refine ⟨h1,?_⟩
 unfold ZG;rw [h1,DD,IntKind.wrap_u64];omega
theorem Af2 (x k:Int):AJ dr (AG [] KV) f165 [.val false [.v (.int .u32 x)],.val false [.v (.int .i64 k)]] [] 300=some ((true,true)::(decide (0≤AW (true&&false) IntKind.u64 (32-bits BinOp.and IntKind.u64 (AW false IntKind.u64 k) (31))∧0≤x),true)::[],.val false [.v (.int .u32 (bits .or .u32 (Ou x (Vm k)) (NB x (ZG k))))]):=dm
theorem NC {A:AV} {c:Bool} {k:IntKind} {x:Int} {β:Env} {u:gq} (h:Bp (some A)=some (c,k,x)) (hr:AO β A u):has k x∧∀ β':Env,AO β' (.val false [.v (.int k x)]) u:=by
 obtain ⟨rfl,p⟩:=C3 (β:=β) (u:=u) (fun B hB=>by injection hB with hB;subst hB;exact hr) h
 exact ⟨p,fun β'=>Az ⟨rfl,rfl,p⟩⟩
theorem jK {x:Int} (h:has .u32 x):0≤x∧x<4294967296:=by
 rw [FX] at h;simp only [AK,jx,jt] at h;omega
theorem Af3 {x:Int} (h0:0≤x) (h1:x<4294967296) {k:Int} (h2:-32<k) (h3:k<0):bits .or .u32 (Ou x (Vm k)) (NB x (ZG k))=H_ x k:=by
 obtain ⟨a,rfl⟩:=kw h0;obtain ⟨n,rfl⟩:∃ n:Nat,k=-(n:Int):=⟨(-k).toNat,dn⟩
 obtain ⟨e1,e2⟩:=AJ0 (n:=n) dn dn
 rw [e1,e2,Vl _ _ dn,ZF _ _ dn,(FK _ _ (ki _ dp) (qj (ra _ _) dn)).2.1,Nat.or_comm];unfold H_ rr;rw [Int.neg_neg,jz,jz]
def zG:List AV→Option (du×AV)
 | [X,K]=>match Bp (some X),Bp (some K) with
  | some (_,.u32,x),some (_,.i64,k)=>some ([(decide (-32<k∧k<0),true)],.val false [.v (.int .u32 (H_ x k))])
  | _,_=>none
 | _=>none
theorem Af4:∀ args c v,zG args=some (c,v)→AM c→AT dr 165 args v:=by
 intro args c v hs hc us w ha;unfold zG at hs;split at hs;case h_2=>cases hs
 rename_i X K;split at hs;case h_2=>cases hs
 rename_i c1 x c2 k hX hK;injection hs with hs;injection hs with hs1 hs2;subst hs1;subst hs2;have hk:-32<k∧k<0:=kj hc.1
 obtain ⟨u1,jf,r1,⟨u2,jg,r2,ha,rfl⟩,rfl⟩:=ha;obtain ⟨p1,q1⟩:=NC hX r1;obtain ⟨p2,q2⟩:=NC hK r2;obtain ⟨b1,b2⟩:=jK p1;have h:=Af2 x k;rw [Af3 b1 b2 hk.1 hk.2] at h;obtain ⟨n,hn⟩:∃ n:Nat,k=-(n:Int):=⟨(-k).toNat,dn⟩
 have hm:(0:Int)≤ZG k:=by rw [hn,(AJ0 (n:=n) dn dn).2];omega
 exact AN (AH (L:=[]) trivial BR) AB func165 h ⟨rfl,jm ⟨hm,b1⟩,trivial⟩ rfl _ w ⟨u1,_,q1 _,⟨u2,_,q2 _,ha,rfl⟩,rfl⟩
noncomputable def SSa0:dw:=(165,FO zG)::[]
theorem AJ1:AX dr SSa0:=⟨GK func165 dm dm Af4,trivial⟩
noncomputable abbrev oS0:ia:=AG SSa0 KV
theorem zH:g_ dr oS0:=AH AJ1 BR
def Ov (a b c x:Nat):Nat:=rr x a ^^^ rr x b ^^^ rr x c
def Ow (a b c x:Nat):Nat:=rr x a ^^^ rr x b ^^^ x / 2^c
theorem Af5 (x a b c:Int):AJ dr oS0 f164 [.val false [.v (.int .u32 x)],.val false [.v (.int .i64 a)],.val false [.v (.int .i64 b)],.val false [.v (.int .i64 c)]] [] 300=some ((decide (-32<AW false IntKind.i64 (0-a)∧AW false IntKind.i64 (0-a)<0),true)::(decide (-32<AW false IntKind.i64 (0-b)∧AW false IntKind.i64 (0-b)<0),true)::(decide (-32<AW false IntKind.i64 (0-c)∧AW false IntKind.i64 (0-c)<0),true)::[],.val false [.v (.int .u32 (bits .xor .u32 (bits .xor .u32 (H_ x (AW false .i64 (0-a))) (H_ x (AW false .i64 (0-b)))) (H_ x (AW false .i64 (0-c)))))]):=dm
theorem Af6 (x a b c:Int):AJ dr oS0 f233 [.val false [.v (.int .u32 x)],.val false [.v (.int .i64 a)],.val false [.v (.int .i64 b)],.val false [.v (.int .i64 c)]] [] 300=some ((decide (-32<AW false IntKind.i64 (0-a)∧AW false IntKind.i64 (0-a)<0),true)::(decide (-32<AW false IntKind.i64 (0-b)∧AW false IntKind.i64 (0-b)<0),true)::(decide (0≤c∧0≤x),true)::[],.val false [.v (.int .u32 (bits .xor .u32 (bits .xor .u32 (H_ x (AW false .i64 (0-a))) (H_ x (AW false .i64 (0-b)))) (NB x c)))]):=dm
theorem Af7 (x n:Int):AJ dr oS0 f291 [.val false [.v (.int .u32 x)],.val false [.v (.int .u64 n)]] [] 300=some ((decide (0≤n∧0≤x),true)::(decide (0≤AW (true&&false) IntKind.u64 (32-n)),true)::[],.val false [.v (.int .u32 (bits .or .u32 (NB x n) (Ou x (AW false .u64 (32-n)))))]):=dm
theorem AJ2 {a:Int} (h0:0<a) (h1:a<32):AW false .i64 (0-a)=-a:=by rw [DD,IntKind.wrap_i64];omega
theorem ZH {x a:Int} (h0:0<a) (h1:a<32):H_ x (AW false .i64 (0-a))=((rr x.toNat a.toNat:Nat):Int):=by
 rw [AJ2 h0 h1];unfold H_;rw [Int.neg_neg]
def Iw (a:Int):Bool:=decide (0<a∧a<32)
theorem ZI {a:Int} (h:Iw a=true):decide (-32<AW false .i64 (0-a)∧AW false .i64 (0-a)<0)=true:=by
 have h:=kj h;rw [AJ2 h.1 h.2];exact jm ⟨dn,dn⟩
def jL (f:Nat→Nat→Nat→Nat→Nat):List AV→Option (du×AV)
 | [X,A,B,C]=>match Bp (some X),Bp (some A),Bp (some B),Bp (some C) with
  | some (_,.u32,x),some (_,.i64,a),some (_,.i64,b),some (_,.i64,c)=>some ([(Iw a,true),(Iw b,true),(Iw c,true)],.val false [.v (.int .u32 (f a.toNat b.toNat c.toNat x.toNat:Nat))])
  | _,_,_,_=>none
 | _=>none
theorem AJ3 {F:gp} {f:Nat→Nat→Nat→Nat→Nat} (h:∀ x a b c:Int,0≤x→x<4294967296→Iw a=true→Iw b=true→Iw c=true→AT dr F [.val false [.v (.int .u32 x)],.val false [.v (.int .i64 a)],.val false [.v (.int .i64 b)],.val false [.v (.int .i64 c)]] (.val false [.v (.int .u32 (f a.toNat b.toNat c.toNat x.toNat:Nat))])) :
  ∀ args c v,jL f args=some (c,v)→AM c→AT dr F args v:=by
 intro args c v hs hc us w ha;unfold jL at hs;split at hs;case h_2=>cases hs
 rename_i X A B C;split at hs;case h_2=>cases hs
 rename_i c1 x c2 a c3 b c4 d hX hA hB hC;injection hs with hs;injection hs with hs1 hs2;subst hs1;subst hs2;obtain ⟨k1,k2,k3,_⟩:=hc;obtain ⟨u1,jf,r1,⟨u2,jg,r2,⟨u3,us3,r3,⟨u4,us4,r4,ha,rfl⟩,rfl⟩,rfl⟩,rfl⟩:=ha;obtain ⟨p1,q1⟩:=NC hX r1;obtain ⟨_,q2⟩:=NC hA r2;obtain ⟨_,q3⟩:=NC hB r3;obtain ⟨_,q4⟩:=NC hC r4;obtain ⟨b1,b2⟩:=jK p1;exact h x a b d b1 b2 k1 k2 k3 _ w ⟨u1,_,q1 _,⟨u2,_,q2 _,⟨u3,_,q3 _,⟨u4,_,q4 _,ha,rfl⟩,rfl⟩,rfl⟩,rfl⟩
theorem jM {a b c:Nat} (h1:a<4294967296) (h2:b<4294967296) (h3:c<4294967296):bits .xor .u32 (bits .xor .u32 (a:Int) (b:Int)) (c:Int)=((a ^^^ b ^^^ c:Nat):Int):=by
 rw [(FK _ _ h1 h2).2.2,(FK _ _ (ti (n:=32) h1 h2) h3).2.2]
theorem Af8 (x a b c:Int) (h0:0≤x) (h1:x<4294967296) (ha:Iw a=true) (hb:Iw b=true) (hc:Iw c=true):AT dr 164 [.val false [.v (.int .u32 x)],.val false [.v (.int .i64 a)],.val false [.v (.int .i64 b)],.val false [.v (.int .i64 c)]] (.val false [.v (.int .u32 (Ov a.toNat b.toNat c.toNat x.toNat:Nat))]):=by
 have h:=Af5 x a b c;have la:=kj ha;have lb:=kj hb;have lc:=kj hc;have lx:x.toNat<4294967296:=dn
 have e:bits .xor .u32 (bits .xor .u32 (H_ x (AW false .i64 (0-a))) (H_ x (AW false .i64 (0-b)))) (H_ x (AW false .i64 (0-c)))=(Ov a.toNat b.toNat c.toNat x.toNat:Nat):=by
  rw [ZH la.1 la.2,ZH lb.1 lb.2,ZH lc.1 lc.2,jM (NA lx _) (NA lx _) (NA lx _)];rfl
 rw [e] at h;exact AN zH AB func164 h ⟨ZI ha,ZI hb,ZI hc,trivial⟩ rfl
theorem Af9 (x a b c:Int) (h0:0≤x) (h1:x<4294967296) (ha:Iw a=true) (hb:Iw b=true) (hc:Iw c=true):AT dr 233 [.val false [.v (.int .u32 x)],.val false [.v (.int .i64 a)],.val false [.v (.int .i64 b)],.val false [.v (.int .i64 c)]] (.val false [.v (.int .u32 (Ow a.toNat b.toNat c.toNat x.toNat:Nat))]):=by
 have h:=Af6 x a b c;have la:=kj ha;have lb:=kj hb;have lc:=kj hc;have lx:x.toNat<4294967296:=dn
 have e:bits .xor .u32 (bits .xor .u32 (H_ x (AW false .i64 (0-a))) (H_ x (AW false .i64 (0-b)))) (NB x c)=(Ow a.toNat b.toNat c.toNat x.toNat:Nat):=by
  have es:NB x c=((x.toNat / 2^c.toNat:Nat):Int):=by
   have:=ZF x.toNat c.toNat dn
   rw [uq h0,uq dn] at this;exact this
  rw [ZH la.1 la.2,ZH lb.1 lb.2,es,jM (NA lx _) (NA lx _) (qj (ra _ _) lx)];rfl
 rw [e] at h;exact AN zH AB func233 h ⟨ZI ha,ZI hb,jm ⟨dn,h0⟩,trivial⟩ rfl
def zI:List AV→Option (du×AV)
 | [X,K]=>match Bp (some X),Bp (some K) with
  | some (_,.u32,x),some (_,.u64,k)=>some ([(Iw k,true)],.val false [.v (.int .u32 (rr x.toNat k.toNat:Nat))])
  | _,_=>none
 | _=>none
theorem Af_:∀ args c v,zI args=some (c,v)→AM c→AT dr 291 args v:=by
 intro args c v hs hc us w ha;unfold zI at hs;split at hs;case h_2=>cases hs
 rename_i X K;split at hs;case h_2=>cases hs
 rename_i c1 x c2 k hX hK;injection hs with hs;injection hs with hs1 hs2;subst hs1;subst hs2;have hk:=kj hc.1;obtain ⟨u1,jf,r1,⟨u2,jg,r2,ha,rfl⟩,rfl⟩:=ha;obtain ⟨p1,q1⟩:=NC hX r1;obtain ⟨_,q2⟩:=NC hK r2;obtain ⟨b1,b2⟩:=jK p1;have h:=Af7 x k;obtain ⟨y,rfl⟩:=kw b1;obtain ⟨n,rfl⟩:=kw (Int.le_of_lt hk.1)
 have e1:AW false .u64 (32-(n:Int))=((32-n:Nat):Int):=by rw [DD,IntKind.wrap_u64];omega
 rw [e1,Vl _ _ dn,ZF _ _ dn,(FK _ _ (qj (ra _ _) dn) (ki _ dp)).2.1] at h;exact AN zH AB func291 h ⟨jm ⟨dn,dn⟩,jm (by show (0:Int)≤AW false .u64 (32-(n:Int));rw [e1];omega),trivial⟩ rfl _ w ⟨u1,_,q1 _,⟨u2,_,q2 _,ha,rfl⟩,rfl⟩
noncomputable def SSa:dw:=(164,FO (jL Ov))::(233,FO (jL Ow))::(291,FO zI)::SSa0
theorem AJ4:AX dr SSa:=⟨GK func164 dm dm (AJ3 Af8),GK func233 dm dm (AJ3 Af9),GK func291 dm dm Af_,AJ1⟩
def jN (s:Nat→Int) (k w:Int):Int:=AW false .u32 (AW false .u32 (AW false .u32 (AW false .u32 (s 7+(Ov 6 11 25 (s 4).toNat:Nat))+bits .xor .u32 (s 6) (bits .and .u32 (s 4) (bits .xor .u32 (s 5) (s 6))))+k)+w)
def zJ (s:Nat→Int):Int:=AW false .u32 ((Ov 2 13 22 (s 0).toNat:Nat)+bits .or .u32 (bits .and .u32 (s 0) (s 1)) (bits .and .u32 (s 2) (bits .or .u32 (s 0) (s 1))))
def zK (s:Nat→Int) (k w:Int):Nat→Int
 | 0=>AW false .u32 (jN s k w+zJ s)
 | 1=>s 0
 | 2=>s 1
 | 3=>s 2
 | 4=>AW false .u32 (s 3+jN s k w)
 | 5=>s 4
 | 6=>s 5
 | _=>s 6
def w8 (s:Nat→Int):List Ch:=[.v (.int .u32 (s 0)),.v (.int .u32 (s 1)),.v (.int .u32 (s 2)),.v (.int .u32 (s 3)),.v (.int .u32 (s 4)),.v (.int .u32 (s 5)),.v (.int .u32 (s 6)),.v (.int .u32 (s 7))]
noncomputable def Af':ASpec:=fun _ _ fr ie=>some (BP [] 0 fr 0 [] (.val true [.seq .u32 (List.replicate 64 0)]) [] [] ie)
noncomputable def AgA:Option (du×List Nat×h_):=AZ dr (AG ((163,Af')::SSa) KV) (some 0) 100 1 none (Ak f87 [.val true [.seq .u32 (List.replicate 8 0)],.val true [.seq .u8 (List.replicate 64 0)]] [] 0 [])
noncomputable def AgB:List Item:=B6 AgA
noncomputable def Vn (hs ks ws:dt) (s:Nat→Int) (t:AV) (p:List Bool):h_:=⟨AgB,⟨Dx f87.ntmps [(2,.val false [.p 0 0]),(4,.val false [.p 2 0]),(5,.val false [.p 3 0]),(6,.val false [.p 4 0]),(7,.val false [.v (.func (.func 164) #[] #[])]),(8,.val false [.p 5 0]),(20,t)],
 [(0,some ⟨109,[.seq .u32 hs],false⟩),(2,some ⟨109,List.replicate 8 (.n .u32 0),false⟩),(3,some ⟨160,[.seq .u32 ks],false⟩),(4,some ⟨160,[.seq .u32 ws],false⟩),(5,some ⟨109,w8 s,false⟩)],6,p⟩⟩
abbrev zO:Option (List Nat×List Nat×Nat):=some ([2,4,5,6,7,8,20],[0,2,3,4,5],6)
def shC (ks ws:dt) (t:Int):du:=(decide (t<64),true)::tt 3 ((decide (0≤t∧t<64),true)::(decide (0+t.toNat*1<ks.length),true)::(decide (0≤t∧t<64),true)::(decide (0+t.toNat*1<ws.length),true)::tt 5 [])
theorem AgC (hs ks ws:dt) (s:Nat→Int) (t:Int):AZ dr (AG SSa KV) (some 0) 100 1 zO (Vn hs ks ws s (iA t) dz) =
 some (shC ks ws t,[],Vn hs ks ws (zK s (ks.getD (0+t.toNat*1) 0) (ws.getD (0+t.toNat*1) 0)) (iA (wI (t+1))) []):=dm
def jO (x y z:Nat):Nat:=z ^^^ (x &&& (y ^^^ z))
def jP (x y z:Nat):Nat:=(x &&& y) ||| (z &&& (x ||| y))
def Vo (s:Nat→Nat) (k w:Nat):Nat:=(s 7+Ov 6 11 25 (s 4)+jO (s 4) (s 5) (s 6)+k+w) % 4294967296
def ZJ (s:Nat→Nat):Nat:=(Ov 2 13 22 (s 0)+jP (s 0) (s 1) (s 2)) % 4294967296
def TJ (s:Nat→Nat) (k w:Nat):Nat→Nat
 | 0=>(Vo s k w+ZJ s) % 4294967296
 | 1=>s 0
 | 2=>s 1
 | 3=>s 2
 | 4=>(s 3+Vo s k w) % 4294967296
 | 5=>s 4
 | 6=>s 5
 | _=>s 6
theorem ZK (x:Nat):AW false .u32 (x:Int)=((x % 4294967296:Nat):Int):=by rw [DD,IntKind.wrap_u32];omega
theorem ES (x y:Nat):AW false .u32 ((x:Int)+(y:Int))=(((x+y) % 4294967296:Nat):Int):=by rw [DD,IntKind.wrap_u32];omega
theorem AJ6 {s:Nat→Nat} (hs:∀ i,s i<4294967296) (k w:Nat):jN (fun i=>(s i:Int)) k w=(Vo s k w:Nat):=by
 unfold jN Vo jO;have h:=fun i=>hs i
 rw [(FK _ _ (hs 5) (hs 6)).2.2,(FK _ _ (hs 4) (ti (n:=32) (hs 5) (hs 6))).1,(FK _ _ (hs 6) (qn (n:=32) _ (ti (n:=32) (hs 5) (hs 6)))).2.2,jz,ES,ES,ES,ES];congr 1
 omega
theorem AgD {s:Nat→Nat} (hs:∀ i,s i<4294967296):zJ (fun i=>(s i:Int))=(ZJ s:Nat):=by
 unfold zJ ZJ jP;rw [(FK _ _ (hs 0) (hs 1)).1,(FK _ _ (hs 0) (hs 1)).2.1,(FK _ _ (hs 2) (Nat.or_lt_two_pow (n:=32) (hs 0) (hs 1))).1,(FK _ _ (qn (n:=32) _ (hs 1)) (qn (n:=32) _ (Nat.or_lt_two_pow (n:=32) (hs 0) (hs 1)))).2.1,jz,ES]
theorem AgE {s:Nat→Nat} (hs:∀ i,s i<4294967296) (k w:Nat):zK (fun i=>(s i:Int)) k w=fun i=>(TJ s k w i:Int):=by
 funext i
 unfold zK TJ;split
 ·rw [AJ6 hs,AgD hs,ES]
 ·rfl
 ·rfl
 ·rfl
 ·rw [AJ6 hs,ES]
 ·rfl
 ·rfl
 ·rfl
theorem AgF {s:Nat→Nat} (hs:∀ i,s i<4294967296) (k w:Nat) (i:Nat):TJ s k w i<4294967296:=by
 unfold TJ;split
 all_goals first | exact ki _ dp | exact hs _
def KX (s:Nat→Nat) (K W:Nat→Nat):Nat→Nat→Nat
 | 0=>s
 | t+1=>TJ (KX s K W t) (K t) (W t)
theorem zP {s:Nat→Nat} (hs:∀ i,s i<4294967296) (K W:Nat→Nat):∀ t i,KX s K W t i<4294967296
 | 0,i=>hs i
 | t+1,i=>AgF (zP hs K W t) _ _ i
theorem AgG {x y z:Nat} (hz:z<4294967296):(x &&& y) ^^^ ((4294967295 ^^^ x) &&& z)=jO x y z:=by
 unfold jO;refine Nat.eq_of_testBit_eq fun i=>?_
 have e:(4294967295:Nat).testBit i=decide (i<32):=Nat.testBit_two_pow_sub_one 32 i
 simp only [Nat.testBit_xor,Nat.testBit_and,e];by_cases h:i<32
 ·rw [jm h];cases x.testBit i<;>cases y.testBit i<;>cases z.testBit i<;>rfl
 ·rw [Nat.testBit_lt_two_pow (li hz (pq (n:=2) dp (by omega:32≤i)))]
  cases x.testBit i<;>cases y.testBit i<;>simp
theorem AgH (x y z:Nat):(x &&& y) ^^^ (x &&& z) ^^^ (y &&& z)=jP x y z:=by
 unfold jP;refine Nat.eq_of_testBit_eq fun i=>?_
 simp only [Nat.testBit_xor,Nat.testBit_and,Nat.testBit_or];cases x.testBit i<;>cases y.testBit i<;>cases z.testBit i<;>rfl
def Ix (k:Nat) (cs:List Ch):Heap→Heap
 | []=>[]
 | (j,b)::r=>match Nat.beq j k with
  | true=>(j,match b with | some ⟨ty,_,o⟩=>some ⟨ty,cs,o⟩ | none=>none)::r
  | false=>(j,b)::Ix k cs r
theorem zQ {k:Nat} {cs cs':List Ch} {ty:gt} {o:Bool}:∀ {H:Heap},AF H k=some ⟨ty,cs,o⟩→∀ b x,AF (Ix k cs' H) b=some x→AF H b=some x∨(b=k∧x=⟨ty,cs',o⟩)
 | [],h,_,_,_=>by cases h
 | (j,z)::r,h,b,x,hx=>by
  simp only [AF] at h ⊢;unfold Ix at hx;cases e:Nat.beq j k with
  | true =>
   rw [e] at h hx;have hz:z=some ⟨ty,cs,o⟩:=h
   subst hz;simp only [AF] at hx;cases e':Nat.beq j b with
   | true =>
    rw [e'] at hx;injection hx with hx;exact .inr ⟨(Ar.1 e').symm.trans (Ar.1 e),hx.symm⟩
   | false=>rw [e'] at hx;exact .inl hx
  | false =>
   rw [e] at h hx;simp only [AF] at hx;cases e':Nat.beq j b with
   | true=>rw [e'] at hx;exact .inl hx
   | false=>rw [e'] at hx;exact zQ (H:=r) h b x hx
theorem AgI {β:Env} {H:Heap} {k:Nat} {ty:gt} {cs cs':List Ch} {o:Bool} {w:gn} (hk:AF H k=some ⟨ty,cs,o⟩) (h:∀ β l,AP β cs l→AP β cs' l) (g:Ex.Good β H w):Ex.Good β (Ix k cs' H) w:=by
 have hs:∀ b x,AF (Ix k cs' H) b=some x→∃ y,AF H b=some y∧y.ty=x.ty:=fun b x hb=>by
  rcases zQ hk b x hb with e | ⟨rfl,rfl⟩
  ·exact ⟨x,e,rfl⟩
  ·exact ⟨_,hk,rfl⟩
 refine ⟨fun b blk hb=>?_,fun b b' B n n' h1 h2 h3 h4=>?_,g.lt⟩
 ·rcases zQ hk b blk hb with e | ⟨rfl,rfl⟩
  ·exact g.heap b blk e
  ·exact AGk h (g.heap b _ hk)
 ·obtain ⟨x,hx,hr⟩:=GU h1;obtain ⟨y,hy,e⟩:=hs b x hx;obtain ⟨x',hx'⟩:=mc.1 h2;obtain ⟨y',hy',_⟩:=hs b' x' hx';exact g.inj b b' B n n' (GC hy (by rw [e];exact hr)) (by rw [hy'];rfl) h3 h4
theorem AJ7 {P:gr} {f:gp} {β0:Env} {w0:gn} {R:Ending→gn→Prop} {n:Fz} {W:List Nat} {todo:List Item} {T:List AV} {H H':Heap} {k:Nat} {ty:gt} {cs cs':List Ch} {o:Bool} {fr:Nat} {p:List Bool} (hk:AF H k=some ⟨ty,cs,o⟩) (h:∀ β l,AP β cs l→AP β cs' l) (e:Ix k cs' H=H')
  (hs:gz P f β0 w0 R n W ⟨todo,⟨T,H',fr,p⟩⟩):gz P f β0 w0 R n W ⟨todo,⟨T,H,fr,p⟩⟩ :=
 fun β a w hi hf=>hs β a w { hi with good:=e▸AgI hk h hi.good } hf
theorem jQ {k:IntKind} {cs:List Ch} {xs:dt} (h:A' k cs=some xs) (β:Env) (l:List gq) (hr:AP β cs l):AP β [.seq k xs] l:=by
 obtain ⟨q1,q2⟩:=DL h hr;exact ⟨_,[],⟨q1,q2⟩,rfl,by simp⟩
def kL:dt:=[1116352408,1899447441,3049323471,3921009573,961987163,1508970993,2453635748,2870763221,3624381080,310598401,607225278,1426881987,1925078388,2162078206,2614888103,3248222580,3835390401,4022224774,264347078,604807628,770255983,1249150122,1555081692,1996064986,2554220882,2821834349,2952996808,3210313671,3336571891,3584528711,113926993,338241895,666307205,773529912,1294757372,1396182291,1695183700,1986661051,2177026350,2456956037,2730485921,2820302411,3259730800,3345764771,3516065817,3600352804,4094571909,275423344,430227734,506948616,659060556,883997877,958139571,1322822218,1537002063,1747873779,1955562222,2024104815,2227730452,2361852424,2428436474,2756734187,3204031479,3329325298]
noncomputable abbrev oSa:ia:=AG SSa KV
theorem L3:g_ dr oSa:=AH AJ4 BR
noncomputable def kX (t:Int):h_:=Iv (GF dr oSa 5 0 (Ak f292 [iA t] [] 0 []))
noncomputable def kCs:List Ch:=match AF (kX 0).s.H 0 with | some b=>b.cs | none=>[]
noncomputable def kH:Heap:=[(0,some ⟨160,[.seq .u32 kL],false⟩)]
theorem AgJ (t:Int):GF dr oSa 5 0 (Ak f292 [iA t] [] 0 [])=some ([],[],kX t):=dm
theorem AgK (t:Int):AF (kX t).s.H 0=some ⟨160,kCs,false⟩:=dm
theorem AgL (t:Int):Ix 0 [.seq .u32 kL] (kX t).s.H=kH:=dm
theorem AgM:A' .u32 kCs=some kL:=dm
def zT (t:Int):AV:=.val false [.v (.int .u32 (kL.getD (0+t.toNat*1) 0))]
theorem AgN (t:Int):AU dr oSa f292 100 0 [] ⟨(kX t).todo,⟨(kX t).s.T,kH,(kX t).s.fr,(kX t).s.ie⟩⟩=some ([(decide (0≤t∧t<64),true),(decide (0+t.toNat*1<kL.length),true)],[],zT t,[]):=dm
theorem AgO {t:Int} (h:0≤t∧t<64):Ab dr 292 [iA t] [] 0 [] (zT t) []:=by
 refine A_ (ie:=[]) func292 dm dm fun β0 w0 hb=>?_
 refine RN L3 AB (AgJ t) trivial (AR dm) hb jl fun hw=>?_
 refine AJ7 (AgK t) (jQ AgM) (AgL t) ?_
 exact A6 L3 AB func292 (AgN t) ⟨jm h,jm (by show 0+t.toNat*1<64;omega),trivial⟩ (AR dm) hb jl
def kSp:ASpec:=fun args _ fr ie=>match args with
 | [X]=>match Bp (some X) with
  | some (_,.i64,t)=>some (BP [] 0 fr 0 [] (zT t) [] [(decide (0≤t∧t<64),true)] ie)
  | _=>none
 | _=>none
theorem AgP:BI dr 292 kSp:=by
 refine DN func292 dm dm fun args H fr ie r hs=>?_
 unfold kSp at hs;split at hs;case h_2=>cases hs
 rename_i X;split at hs;case h_2=>cases hs
 rename_i c t hX;injection hs with hs;refine ⟨[],0,0,[],_,_,_,ie,hs.symm,fun β us w ha hg hc=>?_⟩
 obtain ⟨u1,jf,r1,ha,rfl⟩:=ha;exact ⟨[iA t],[],AgO (kj hc.1),dm,⟨u1,_,(NC hX r1).2 _,ha,rfl⟩,⟨(fun _ _ h=>by cases h),(fun _ _ _ _ _ h=>by cases h),(fun b B n h=>by
  have e:Nat.blt b 0=false:=by cases q:Nat.blt b 0 with | false=>rfl | true=>exact absurd (BX.1 q) (pf b)
  simp [A9,e] at h)⟩,fun k h=>by cases h⟩
def ND (b:Nat→Nat) (t:Nat):Nat:=((b (4*t)*256+b (4*t+1))*256+b (4*t+2))*256+b (4*t+3)
def Vp (l:List Nat) (n:Nat):Nat:=(Ow 17 19 10 (l.getD (n+14) 0)+l.getD (n+9) 0+Ow 7 18 3 (l.getD (n+1) 0)+l.getD n 0) % 4294967296
def GQ (b:Nat→Nat):Nat→List Nat
 | 0=>(List.range 16).map (ND b)
 | n+1=>GQ b n++[Vp (GQ b n) n]
theorem ZL (b:Nat→Nat):∀ n,(GQ b n).length=n+16
 | 0=>rfl
 | n+1=>by rw [GQ,ku,ZL b n];rfl
theorem AgQ {b:Nat→Nat} (hb:∀ i,b i<256) (t:Nat):ND b t<4294967296:=by
 unfold ND;have h0:=hb (4*t)
 have h1:=hb (4*t+1)
 have h2:=hb (4*t+2)
 have h3:=hb (4*t+3)
 omega
theorem AJ9 {b:Nat→Nat} (hb:∀ i,b i<256):∀ n,∀ x∈GQ b n,x<4294967296
 | 0,x,h=>by
  obtain ⟨t,_,rfl⟩:=ml.1 h;exact AgQ hb t
 | n+1,x,h=>by
  rcases j_.1 h with h | h
  ·exact AJ9 hb n x h
  ·rw [l_] at h;subst h;exact ki _ dp
def HX (b:Nat→Nat) (t:Nat):Nat:=(GQ b 48).getD t 0
def kN (t:Nat):Nat:=(kL.getD t 0).toNat
def TK (h b:Nat→Nat) (i:Nat):Nat:=(KX h kN (HX b) 64 i+h i) % 4294967296
def ZM:Nat→Nat
 | 0=>0x6a09e667
 | 1=>0xbb67ae85
 | 2=>0x3c6ef372
 | 3=>0xa54ff53a
 | 4=>0x510e527f
 | 5=>0x9b05688c
 | 6=>0x1f83d9ab
 | _=>0x5be0cd19
def A4 (n:Nat):Nat:=(n+72) / 64*64
def DJ (xs:dt):dt:=xs++128::(List.replicate (A4 xs.length-xs.length-9) 0++Bv (8*xs.length) 8)
theorem Ox (n:Nat):n+9≤A4 n:=by unfold A4;omega
theorem AJ_ (xs:dt):(DJ xs).length=A4 xs.length:=by
 unfold DJ;have:=Ox xs.length
 simp only [ku,k_,oz,Bv,ma,pp];omega
def TL:du→Bool
 | []=>true
 | (a,b)::r=>match a,b with
  | true,true=>TL r
  | false,false=>TL r
  | _,_=>false
theorem Vq:∀ {c:du},TL c=true→AM c
 | [],_=>trivial
 | (true,true)::_,h=>⟨rfl,Vq h⟩
 | (false,false)::_,h=>⟨rfl,Vq h⟩
 | (true,false)::_,h=>by cases h
 | (false,true)::_,h=>by cases h
def cdO (x:Option (du×List Nat×h_)):du:=match x with | some (c,_,_)=>c | none=>[]
def kyO (x:Option (du×List Nat×h_)):List Nat:=match x with | some (_,k,_)=>k | none=>[]
def isO (x:Option (du×List Nat×h_)):Bool:=match x with | some _=>true | none=>false
theorem AgR {x:Option (du×List Nat×h_)} (h:isO x=true):x=some (cdO x,kyO x,Iv x):=by
 cases x with
 | none=>cases h
 | some v=>rfl
theorem TM {P:gr} {f:gp} {β0:Env} {w0:gn} {R:Ending→gn→Prop} {n:Fz} {W:List Nat} {x:h_} {k:Nat} {ty:gt} {cs cs':List Ch} {o:Bool} (hk:AF x.s.H k=some ⟨ty,cs,o⟩) (h:∀ β l,AP β cs l→AP β cs' l)
  (hs:gz P f β0 w0 R n W ⟨x.todo,⟨x.s.T,Ix k cs' x.s.H,x.s.fr,x.s.ie⟩⟩):gz P f β0 w0 R n W x:=AJ7 (H':=Ix k cs' x.s.H) hk h rfl hs
structure Runs (x:Option (du×List Nat×h_)):Prop where
 isO:isO x=true
 ky:kyO x=[]
 cd:TL (cdO x)=true
theorem AgS {P:gr} {O:ia} {f:gp} {β0:Env} {w0:gn} {R:Ending→gn→Prop} {n:Fz} {W:List Nat} (hO:g_ P O) (hm:P.follows .mixedOrders=true) {m k0:Nat} {x:h_}
  (h:Runs (GF P O m k0 x)) (jj:BW n x.s) (h0:∀ b,k0≤b→β0 b=none) (hs:BW n (Iv (GF P O m k0 x)).s→gz P f β0 w0 R n W (Iv (GF P O m k0 x))):gz P f β0 w0 R n W x:=by
 obtain ⟨h1,h2,h3⟩:=h;generalize e:GF P O m k0 x=y at *
 refine RN hO hm (e.trans (AgR h1)) (Vq h3) jj h0 (fun k hk=>?_) hs
 rw [h2] at hk;cases hk
def Bk (f:Nat→Int):dt:=(List.range 64).map f
def l8 (f:Nat→Int):dt:=(List.range 8).map f
theorem jS {xs:dt} {n:Nat} (h:xs.length=n):xs=(List.range n).map fun i=>xs.getD i 0:=by
 subst h;refine sf (by simp) fun i h1 h2=>?_
 simp [List.getD_eq_getElem?_getD,h1]
def ws5:List Bool:=[true,true,true,true,false]
def zU:Nat→List Bool
 | 0=>[]
 | n+1=>ws5++zU n
noncomputable def wsA (f:Nat→Int):h_:=Ak f163 [.val false [.p 0 0]] [(0,some (An [.seq .u8 (Bk f)]))] 1 (zU 16)
noncomputable def wsO (f:Nat→Int):=GF dr oSa 1186 1 (wsA f)
noncomputable def Oy (f:Nat→Int):h_:=Iv (wsO f)
noncomputable def AgU:List Item:=B6 (AZ dr oSa (some 0) 100 1 none (Oy fun _=>0))
noncomputable def wsH (ws:dt):Heap:=[(1,some ⟨160,[.seq .u32 ws],false⟩)]
noncomputable def NE (ws:dt) (t:AV) (p:List Bool):h_:=⟨AgU,⟨Dx f163.ntmps [(2,.val false [.p 1 0]),(6,.val false [.v (.func (.func 233) #[] #[])]),(7,t)],wsH ws,2,p⟩⟩
noncomputable def AKD (f:Nat→Int):List Ch:=match AF (Oy f).s.H 1 with | some b=>b.cs | none=>[]
def sB (s b:Int):Int:=bits .or .u32 (Ou s 8) (AW false .u32 b)
def wE (f:Nat→Int) (t:Nat):Int:=sB (sB (sB (sB 0 (f (4*t))) (f (4*t+1))) (f (4*t+2))) (f (4*t+3))
theorem AgW (f:Nat→Int):Runs (wsO f):=⟨dm,dm,dm⟩
theorem AgX (f:Nat→Int):AF (Oy f).s.H 1=some ⟨160,AKD f,false⟩:=dm
theorem AgY (f:Nat→Int):A' .u32 (AKD f)=some ((List.range 16).map (wE f)++List.replicate 48 0):=dm
theorem AgZ (f:Nat→Int) (L:dt):AZ dr oSa (some 0) 100 1 (some ([2,6,7],[1],2)) ⟨(Oy f).todo,⟨(Oy f).s.T,Ix 1 [.seq .u32 L] (Oy f).s.H,(Oy f).s.fr,(Oy f).s.ie⟩⟩=some ([],[],NE L (.val false [.n .i64 16]) []):=dm
def gI (ws:dt) (d:Int):Int:=ws.getD (0+d.toNat*1) 0
def zV (ws:dt) (t:Int):Int:=AW false .u32 (AW false .u32 (AW false .u32 ((Ow 17 19 10 (gI ws (wI (t-2))).toNat:Nat)+gI ws (wI (t-7)))+(Ow 7 18 3 (gI ws (wI (t-15))).toNat:Nat))+gI ws (wI (t-16)))
def G_ (d:Int) (n:Nat) (r:du):du:=(decide (0≤d∧d<64),true)::(decide (0+d.toNat*1<n),true)::r
def wsC (ws:dt) (t:Int):du:=(decide (t<64),true)::G_ (wI (t-2)) ws.length (tt 3 (G_ (wI (t-7)) ws.length (G_ (wI (t-15)) ws.length (tt 3 (G_ (wI (t-16)) ws.length (G_ t ws.length []))))))
theorem Aga (ws:dt) (t:Int):AZ dr oSa (some 0) 200 1 (some ([2,6,7],[1],2)) (NE ws (iA t) dz)=some (wsC ws t,[],NE (ws.set (0+t.toNat*1) (zV ws t)) (iA (wI (t+1))) []):=dm
theorem Agb (f:Nat→Int) (t:Int):AU dr oSa f163 100 1 [] (NE (Bk f) (iA t) dx)=some ([(decide (t<64),false)],[],.val true [.seq .u32 (Bk f)],[]):=dm
theorem jT {s b:Nat} (hs:s<16777216) (hb:b<256):sB (s:Int) (b:Int)=((s*256+b:Nat):Int):=by
 unfold sB;rw [show (8:Int)=((8:Nat):Int) from rfl,Vl s 8 dp,ZK,jv (show s*2^8<4294967296 by omega),jv (show b<4294967296 by omega),(FK _ _ dn dn).2.1]
 have:=Nat.shiftLeft_add_eq_or_of_lt (i:=8) hb s
 rw [Nat.shiftLeft_eq] at this;rw [← this]
theorem Agc {b:Nat→Nat} (hb:∀ i,b i<256) (t:Nat):wE (fun i=>(b i:Int)) t=(ND b t:Nat):=by
 unfold wE ND;have h0:=hb (4*t)
 have h1:=hb (4*t+1)
 have h2:=hb (4*t+2)
 have h3:=hb (4*t+3)
 rw [show (0:Int)=((0:Nat):Int) from rfl,jT dp h0,jT dn h1,jT dn h2,jT dn h3,p_,kr]
def G' (b:Nat→Nat) (n:Nat):dt:=(GQ b n).map (fun x:Nat=>(x:Int))++List.replicate (48-n) 0
theorem zW (b:Nat→Nat) {n:Nat} (h:n≤48):(G' b n).length=64:=by
 unfold G';rw [ku,ma,ZL,oz];omega
theorem AKF (b:Nat→Nat) {n i:Nat} (h:i<n+16):(G' b n).getD i 0=((GQ b n).getD i 0:Nat):=by
 unfold G';have hl:i<(GQ b n).length:=by rw [ZL];exact h
 simp [List.getD_eq_getElem?_getD,List.getElem?_append_left,hl]
theorem AKG (b:Nat→Nat) {n:Nat} (h:n<48):(G' b n).set (n+16) (Vp (GQ b n) n:Nat)=G' b (n+1):=by
 unfold G';rw [te _ _ (by rw [ma,ZL];exact ju _),ma,ZL,pe,show 48-n=(48-(n+1))+1 by omega,sk,List.set_cons_zero,GQ,pi,ol]
 rfl
theorem AKH (b:Nat→Nat):G' b 48=Bk fun t=>(HX b t:Int):=by
 rw [jS (zW b (ju 48))];refine nx fun i hi=>?_
 rw [AKF b (by rw [mj] at hi;omega)]
 rfl
theorem Agd {b:Nat→Nat} (hb:∀ i,b i<256):(List.range 16).map (wE fun i=>(b i:Int))++List.replicate 48 0=G' b 0:=by
 unfold G';rw [GQ,ot];congr 1
 exact nx fun t _=>Agc hb t
theorem HY {n k:Nat} (h:n<64) (hk:k≤16):wI (((n+16:Nat):Int)-(k:Int))=((n+16-k:Nat):Int):=by rw [Au dn];omega
theorem NF (b:Nat→Nat) {n i:Nat} (h:i<n+16):gI (G' b n) (i:Int)=((GQ b n).getD i 0:Nat):=by
 unfold gI;rw [jz,kr,kt,AKF b h]
theorem Age (b:Nat→Nat) {n:Nat} (h:n<48):zV (G' b n) ((n+16:Nat):Int)=(Vp (GQ b n) n:Nat):=by
 unfold zV Vp;rw [show (2:Int)=((2:Nat):Int) from rfl,show (7:Int)=((7:Nat):Int) from rfl,show (15:Int)=((15:Nat):Int) from rfl,show (16:Int)=((16:Nat):Int) from rfl,HY dn dp,HY dn dp,HY dn dp,HY dn dp,NF b dn,NF b dn,NF b dn,NF b dn]
 rw [jz,jz,ES,ES,ES,show n+16-2=n+14 by omega,show n+16-7=n+9 by omega,show n+16-15=n+1 by omega,show n+16-16=n by omega]
 congr 1
 omega
theorem HZ {d n:Nat} {r:du} (hd:d<64) (hn:d<n) (h:AM r):AM (G_ (d:Int) n r) :=
 ⟨jm ⟨dn,dn⟩,jm dn,h⟩
theorem Agf (L:dt):(NE L (.val false [.n .i64 16]) []).s.T.map GL=(NE L (iA 16) []).s.T:=dm
theorem Agg {β0:Env} {w0:gn} {R:Ending→gn→Prop} {n:Nat} {W:List Nat} {L:dt} (h:gz dr 163 β0 w0 R n W (NE L (iA 16) [])):gz dr 163 β0 w0 R n W (NE L (.val false [.n .i64 16]) []):=by
 refine Hv (T:=(NE L (.val false [.n .i64 16]) []).s.T) ?_
 rw [Agf];exact h
theorem Agh {b:Nat→Nat} (hb:∀ i,b i<256) {β0:Env} {w0:gn} (h0:∀ b,1≤b→β0 b=none):gz dr 163 β0 w0 (BA β0 w0 [] (.val true [.seq .u32 (Bk fun t=>(HX b t:Int))]) []) f163.ntmps [] (Oy fun i=>(b i:Int)):=by
 refine TM (AgX _) (jQ (AgY _)) ?_
 rw [Agd hb];refine Aj L3 AB (AgZ _ _) trivial (AR dm) h0 jl fun _=>?_
 refine Agg ?_
 have loop:∀ r n,n+r=48→gz dr 163 β0 w0 (BA β0 w0 [] (.val true [.seq .u32 (Bk fun t=>(HX b t:Int))]) []) f163.ntmps [] (NE (G' b n) (iA ((n+16:Nat):Int)) []):=by
  intro r;induction r with
  | zero =>
   intro n hn;obtain rfl:n=48:=dn
   rw [AKH];exact Ai dx (A6 L3 AB func163 (Agb _ _) ⟨dp,trivial⟩ (AR dm) h0 jl)
  | succ r ih =>
   intro n hn;refine Ai dz (Aj L3 AB (Aga _ _) ?_ (AR dm) h0 jl fun _=>?_)
   ·have hl:=zW b (show n≤48 by omega)
    unfold wsC;rw [hl,show (2:Int)=((2:Nat):Int) from rfl,show (7:Int)=((7:Nat):Int) from rfl,show (15:Int)=((15:Nat):Int) from rfl,show (16:Int)=((16:Nat):Int) from rfl,HY dn dp,HY dn dp,HY dn dp,HY dn dp]
    exact ⟨jm dn,HZ dn dn (AY 3 (HZ dn dn (HZ dn dn (AY 3 (HZ dn dn (HZ dn dn trivial))))))⟩
   ·rw [Age b dn,show 0+((n+16:Nat):Int).toNat*1=n+16 by omega,AKG b dn,Au (z:=((n+16:Nat):Int)+1) dn]
    have:=ih (n+1) dn
    rw [show ((n+1+16:Nat):Int)=((n+16:Nat):Int)+1 by omega] at this
    exact this
 have:=loop 48 0 rfl
 rw [show ((0+16:Nat):Int)=16 from rfl] at this
 exact this
theorem Agi {b:Nat→Nat} (hb:∀ i,b i<256) {β0:Env} {w0:gn} (h0:∀ b,1≤b→β0 b=none):gz dr 163 β0 w0 (BA β0 w0 [] (.val true [.seq .u32 (Bk fun t=>(HX b t:Int))]) []) f163.ntmps [] (wsA fun i=>(b i:Int)) :=
 AgS L3 AB (AgW fun i=>(b i:Int)) (AR dm) h0 fun _=>Agh hb h0
theorem Agj {b:Nat→Nat} (hb:∀ i,b i<256):Ab dr 163 [.val false [.p 0 0]] [(0,some (An [.seq .u8 (Bk fun i=>(b i:Int))]))] 1 [] (.val true [.seq .u32 (Bk fun t=>(HX b t:Int))]) [] :=
 A_ (ie:=zU 16) func163 dm dm fun _ _ h0=>Agi hb h0
def bN (xs:dt) (i:Nat):Nat:=(xs.getD i 0).toNat % 256
theorem AKI (xs:dt) (i:Nat):bN xs i<256:=ki _ dp
theorem zX {xs:dt} {P:Int→Prop} (h:∀ d∈xs,P d) (h0:P 0) (i:Nat):P (xs.getD i 0):=by
 rw [kq];cases e:xs[i]? with
 | none=>exact h0
 | some d=>exact h d (pm e)
theorem Agk {xs:dt} (h:∀ d∈xs,0≤d∧d<256) (i:Nat):(bN xs i:Int)=xs.getD i 0:=by
 have:=zX (P:=fun d=>0≤d∧d<256) h ⟨dp,dp⟩ i
 unfold bN;omega
theorem zY {xs:dt} (h:∀ d∈xs,0≤d∧d<256) (hl:xs.length=64):xs=Bk fun i=>(bN xs i:Int):=by
 conv=>lhs;rw [jS hl]
 exact nx fun i _=>(Agk h i).symm
def wdsSp:ASpec:=fun args H fr ie=>match args with
 | [.val false [.p k 0]]=>match AF H k with
  | some ⟨_,cs,_⟩=>match A' .u8 cs with
   | some xs=>some (BP [k] 1 fr 0 [] (.val true [.seq .u32 (Bk fun t=>(HX (bN xs) t:Int))]) [] [(Nat.beq xs.length 64,true)] ie)
   | none=>none
  | none=>none
 | _=>none
theorem Agl {β:Env} {j k:Nat} {ρ:List Nat} {k0:Nat} {u:gq} (hj:j<k0) (hn:nth ρ j=k) (h:AO β (.val false [.p k 0]) u):AO (A9 β ρ k0) (.val false [.p j 0]) u:=by
 obtain ⟨l1,l2,⟨B,q,q1,q2⟩,h2,h3⟩:=h;have e:A9 β ρ k0 j=β k:=by rw [E6 hj,hn]
 exact ⟨l1,l2,⟨B,q,by rw [e];exact q1,q2⟩,h2,h3⟩
theorem Agm:BI dr 163 wdsSp:=by
 refine DN func163 dm dm fun args H fr ie r hs=>?_
 unfold wdsSp at hs;split at hs;case h_2=>cases hs
 rename_i k;split at hs;case h_2=>cases hs
 rename_i ty cs o hk;split at hs;case h_2=>cases hs
 rename_i xs jh;injection hs with hs;refine ⟨[k],1,0,[],_,_,_,ie,hs.symm,fun β us w ha hg hc=>?_⟩
 obtain ⟨u1,jf,r1,ha,rfl⟩:=ha;obtain ⟨g1,g2,g3⟩:=EP hg hk jh;have hl:=Ar.1 hc.1;refine ⟨[.val false [.p 0 0]],A7 xs,?_,dm,⟨u1,_,Agl dn rfl r1,ha,rfl⟩,g2,g3⟩
 have:=Agj (AKI xs)
 rw [← zY g1 hl] at this;exact this
noncomputable def SSg:dw:=(163,wdsSp)::SSa
theorem Agn:AX dr SSg:=⟨Agm,AJ4⟩
noncomputable def Ago:List Item:=B6 (AZ dr oSa (some 0) 100 0 none (Ak f290 [.val true [.seq .u8 (Bk fun _=>0)]] [] 0 []))
noncomputable def QM (f:Nat→Int) (ws:dt) (t:AV) (p:List Bool):h_:=⟨Ago,⟨Dx f290.ntmps [(1,.val false [.p 0 0]),(2,.val false [.p 1 0]),(3,.val false [.p 2 0]),(4,t)],[(0,some ⟨112,[.seq .u8 (Bk f)],false⟩),(1,some ⟨160,List.replicate 64 (.n .u32 0),false⟩),(2,some ⟨160,[.seq .u32 ws],false⟩)],3,p⟩⟩
abbrev jU:Option (List Nat×List Nat×Nat):=some ([1,2,3,4],[0,1,2],3)
noncomputable def QO (f:Nat→Int):h_:=Iv (AZ dr oSa (some 0) 100 0 jU (Ak f290 [.val true [.seq .u8 (Bk f)]] [] 0 []))
theorem Agp (f:Nat→Int):AZ dr oSa (some 0) 100 0 jU (Ak f290 [.val true [.seq .u8 (Bk f)]] [] 0 [])=some ([],[],QO f):=dm
theorem Agq (f:Nat→Int):AF (QO f).s.H 2=some ⟨160,List.replicate 64 (.n .u32 0),false⟩:=dm
theorem Agr {f:Nat→Int} {L:dt}:(⟨(QO f).todo,⟨(QO f).s.T.map GL,Ix 2 [.seq .u32 L] (QO f).s.H,(QO f).s.fr,(QO f).s.ie⟩⟩:h_)=QM f L (iA 0) []:=dm
def zZ (f:Nat→Int) (t:Int):Int:=AW false .u32 (AW false .u32 (AW false .u32 (Ou (AW false .u32 (gI (Bk f) (wI (4*t)))) 24+Ou (AW false .u32 (gI (Bk f) (wI (wI (4*t)+1)))) 16)+Ou (AW false .u32 (gI (Bk f) (wI (wI (4*t)+2)))) 8)+AW false .u32 (gI (Bk f) (wI (wI (4*t)+3))))
theorem Ags (f:Nat→Int) (ws:dt) (t:Int):AZ dr oSa (some 0) 200 0 jU (QM f ws (iA t) d_) =
 some ((decide (t<64),true)::(decide (t<16),true)::G_ (wI (4*t)) (Bk f).length ((true,true)::G_ (wI (wI (4*t)+1)) (Bk f).length ((true,true)::G_ (wI (wI (4*t)+2)) (Bk f).length ((true,true)::G_ (wI (wI (4*t)+3)) (Bk f).length (G_ t ws.length [])))),[],QM f (ws.set (0+t.toNat*1) (zZ f t)) (iA (wI (t+1))) []):=dm
def jV (x:Int) (a b c:Nat):Int:=bits .xor .u32 (bits .xor .u32 (rr x.toNat a:Nat) (rr x.toNat b:Nat)) (NB x c)
def z4 (ws:dt) (t:Int):Int:=AW false .u32 (AW false .u32 (AW false .u32 (jV (gI ws (wI (t-2))) 17 19 10+gI ws (wI (t-7)))+jV (gI ws (wI (t-15))) 7 18 3)+gI ws (wI (t-16)))
theorem Agt (f:Nat→Int) (ws:dt) (t:Int):AZ dr oSa (some 0) 200 0 jU (QM f ws (iA t) eg) =
 some ((decide (t<64),true)::(decide (t<16),false)::G_ (wI (t-15)) ws.length (G_ (wI (t-2)) ws.length (tt 2 ((decide ((0:Int)≤3∧0≤gI ws (wI (t-15))),true)::tt 2 ((decide ((0:Int)≤10∧0≤gI ws (wI (t-2))),true)::G_ (wI (t-7)) ws.length (G_ (wI (t-16)) ws.length (G_ t ws.length [])))))),[],QM f (ws.set (0+t.toNat*1) (z4 ws t)) (iA (wI (t+1))) []):=dm
theorem Agu (f g:Nat→Int) (t:Int):E' dr oSa f290 100 0 (QM f (Bk g) (iA t) dx)=some ([(decide (t<64),false)],[],.val true [.seq .u32 (Bk g)]):=dm
theorem ZN (f:Nat→Int) {i:Nat} (h:i<64):gI (Bk f) (i:Int)=f i:=by
 unfold gI Bk;rw [jz,kr,kt];simp [List.getD_eq_getElem?_getD,h]
theorem QP {t j:Nat} (h:t<16):wI (4*(t:Int))=((4*t:Nat):Int)∧wI (((4*t:Nat):Int)+(j:Int))=wI (((4*t+j:Nat):Int)):=by
 refine ⟨by rw [Au dn];omega,by congr 1⟩
theorem Vr {n:Nat} (h:n<64):wI ((n:Nat):Int)=n:=Au dn
theorem Agv {b:Nat→Nat} (hb:∀ i,b i<256) {t:Nat} (h:t<16):zZ (fun i=>(b i:Int)) (t:Int)=(ND b t:Nat):=by
 unfold zZ ND;have h0:=hb (4*t)
 have h1:=hb (4*t+1)
 have h2:=hb (4*t+2)
 have h3:=hb (4*t+3)
 rw [(QP (j:=0) h).1,show (1:Int)=((1:Nat):Int) from rfl,show (2:Int)=((2:Nat):Int) from rfl,show (3:Int)=((3:Nat):Int) from rfl,(QP (j:=1) h).2,(QP (j:=2) h).2,(QP (j:=3) h).2,Vr dn,Vr dn,Vr dn]
 rw [ZN _ dn,ZN _ dn,ZN _ dn,ZN _ dn,ZK,ZK,ZK,ZK,show (24:Int)=((24:Nat):Int) from rfl,show (16:Int)=((16:Nat):Int) from rfl,show (8:Int)=((8:Nat):Int) from rfl,Vl _ _ dp,Vl _ _ dp,Vl _ _ dp,ES,ES,ES]
 congr 1
 omega
theorem AKJ {x:Nat} (hx:x<4294967296) (a b c:Nat) (hc:c≤32):jV (x:Int) a b c=(Ow a b c x:Nat):=by
 unfold jV Ow;rw [jz,ZF _ _ hc,jM (NA hx _) (NA hx _) (qj (ra _ _) hx)]
theorem AKK {b:Nat→Nat} (hb:∀ i,b i<256) (n i:Nat):(GQ b n).getD i 0<4294967296:=by
 rw [kq];cases e:(GQ b n)[i]? with
 | none=>exact (by decide:(0:Nat)<4294967296)
 | some d=>exact AJ9 hb n d (pm e)
theorem Agw {b:Nat→Nat} (hb:∀ i,b i<256) {n:Nat} (h:n<48):z4 (G' b n) ((n+16:Nat):Int)=(Vp (GQ b n) n:Nat):=by
 unfold z4 Vp;rw [show (2:Int)=((2:Nat):Int) from rfl,show (7:Int)=((7:Nat):Int) from rfl,show (15:Int)=((15:Nat):Int) from rfl,show (16:Int)=((16:Nat):Int) from rfl,HY dn dp,HY dn dp,HY dn dp,HY dn dp,NF b dn,NF b dn,NF b dn,NF b dn]
 rw [AKJ (AKK hb _ _) _ _ _ dp,AKJ (AKK hb _ _) _ _ _ dp,ES,ES,ES,show n+16-2=n+14 by omega,show n+16-7=n+9 by omega,show n+16-15=n+1 by omega,show n+16-16=n by omega]
 congr 1
 omega
theorem Agx {b:Nat→Nat}:JK (fun i=>(ND b i:Int)) 64 16=G' b 0:=by
 unfold JK G';rw [GQ,ot];rfl
theorem Agy {b:Nat→Nat} (hb:∀ i,b i<256) (w0:gn):gz dr 290 CB w0 (Hp w0 (.val true [.seq .u32 (Bk fun t=>(HX b t:Int))])) f290.ntmps [] (QO fun i=>(b i:Int)):=by
 refine TM (Agq _) (jQ (k:=.u32) (xs:=List.replicate 64 0) dm) ?_
 refine Hv ?_
 rw [Agr];have loop2:∀ r n,n+r=48→gz dr 290 CB w0 (Hp w0 (.val true [.seq .u32 (Bk fun t=>(HX b t:Int))])) f290.ntmps [] (QM (fun i=>(b i:Int)) (G' b n) (iA ((n+16:Nat):Int)) []):=by
  intro r;induction r with
  | zero =>
   intro n hn;obtain rfl:n=48:=dn
   rw [AKH];exact Ai dx (IS L3 AB func290 (Agu _ _ _) ⟨dp,trivial⟩ (AR dm) (fun _ _=>rfl) rfl)
  | succ r ih =>
   intro n hn;refine Ai eg (Aj L3 AB (Agt _ _ _) ?_ (AR dm) (fun _ _=>rfl) jl fun _=>?_)
   ·have hl:=zW b (show n≤48 by omega)
    rw [hl,show (2:Int)=((2:Nat):Int) from rfl,show (7:Int)=((7:Nat):Int) from rfl,show (15:Int)=((15:Nat):Int) from rfl,show (16:Int)=((16:Nat):Int) from rfl,HY dn dp,HY dn dp,HY dn dp,HY dn dp,NF b dn,NF b dn]
    exact ⟨jm dn,jq dn,HZ dn dn (HZ dn dn (AY 2 ⟨jm ⟨dp,dn⟩,AY 2 ⟨jm ⟨dp,dn⟩,HZ dn dn (HZ dn dn (HZ dn dn trivial))⟩⟩))⟩
   ·rw [Agw hb dn,show 0+((n+16:Nat):Int).toNat*1=n+16 by omega,AKG b dn,Au (z:=((n+16:Nat):Int)+1) dn]
    have:=ih (n+1) dn
    rw [show ((n+1+16:Nat):Int)=((n+16:Nat):Int)+1 by omega] at this
    exact this
 have loop1:∀ r i,i+r=16→gz dr 290 CB w0 (Hp w0 (.val true [.seq .u32 (Bk fun t=>(HX b t:Int))])) f290.ntmps [] (QM (fun i=>(b i:Int)) (JK (fun i=>(ND b i:Int)) 64 i) (iA (i:Int)) []):=by
  intro r;induction r with
  | zero =>
   intro i hi;obtain rfl:i=16:=dn
   rw [Agx];exact loop2 48 0 rfl
  | succ r ih =>
   intro i hi;refine Ai d_ (Aj L3 AB (Ags _ _ _) ?_ (AR dm) (fun _ _=>rfl) jl fun _=>?_)
   ·rw [AFE dn,(QP (j:=0) (show i<16 by omega)).1,show (1:Int)=((1:Nat):Int) from rfl,show (2:Int)=((2:Nat):Int) from rfl,show (3:Int)=((3:Nat):Int) from rfl,(QP (j:=1) (show i<16 by omega)).2,(QP (j:=2) (show i<16 by omega)).2,(QP (j:=3) (show i<16 by omega)).2,Vr dn,Vr dn,Vr dn,show (Bk fun i=>(b i:Int)).length=64 from rfl]
    exact ⟨jm dn,jm dn,HZ dn dn ⟨rfl,HZ dn dn ⟨rfl,HZ dn dn ⟨rfl,HZ dn dn (HZ dn dn trivial)⟩⟩⟩⟩
   ·rw [Agv hb dn,show 0+((i:Nat):Int).toNat*1=i by omega,AFF (f:=fun i=>(ND b i:Int)) dn,Au (z:=(i:Int)+1) dn]
    exact ih (i+1) dn
 have:=loop1 16 0 rfl
 rw [AFG] at this;exact this
theorem Agz {b:Nat→Nat} (hb:∀ i,b i<256):AT dr 290 [.val true [.seq .u8 (Bk fun i=>(b i:Int))]] (.val true [.seq .u32 (Bk fun t=>(HX b t:Int))]) :=
 Nk (ie:=[]) func290 dm dm fun w0=>Aj L3 AB (Agp _) trivial (AR dm) (fun _ _=>rfl) jl fun _=>Agy hb w0
theorem Vs {A:List Ch} {k:IntKind} {xs:dt} {β:Env} {u:gq} (h:A' k A=some xs) (hr:AO β (.val true A) u):(∀ x∈xs,has k x)∧∀ β':Env,AO β' (.val true [.seq k xs]) u:=by
 obtain ⟨l,hl,rfl⟩:=hr;obtain ⟨rfl,q⟩:=DL h hl;exact ⟨q,fun β'=>⟨_,PG q,rfl⟩⟩
theorem AKL {x:Int} (h:has .u8 x):0≤x∧x<256:=by
 rw [FX] at h;simp only [AK,jx,jt] at h;omega
def z5:List AV→Option (du×AV)
 | [.val true cs]=>match A' .u8 cs with
  | some xs=>some ([(Nat.beq xs.length 64,true)],.val true [.seq .u32 (Bk fun t=>(HX (bN xs) t:Int))])
  | none=>none
 | _=>none
theorem Ag0:∀ args c v,z5 args=some (c,v)→AM c→AT dr 290 args v:=by
 intro args c v hs hc us w ha;unfold z5 at hs;split at hs;case h_2=>cases hs
 rename_i cs;split at hs;case h_2=>cases hs
 rename_i xs hx;injection hs with hs;injection hs with hs1 hs2;subst hs1;subst hs2;obtain ⟨u1,jf,r1,ha,rfl⟩:=ha;obtain ⟨p1,q1⟩:=Vs hx r1;have hb:=fun d hd=>AKL (p1 d hd)
 have h:=Agz (AKI xs)
 rw [← zY hb (Ar.1 hc.1)] at h;exact h _ w ⟨u1,_,q1 _,ha,rfl⟩
noncomputable def SSi:dw:=(290,FO z5)::(292,kSp)::SSg
theorem AKM:AX dr SSi:=⟨GK func290 dm dm Ag0,AgP,Agn⟩
noncomputable abbrev oSi:ia:=AG SSi KV
theorem NG:g_ dr oSi:=AH AKM BR
def jW (x:Option (du×List Nat×AV)):AV:=match x with | some (_,_,v)=>v | none=>.any
def cvO (x:Option (du×List Nat×AV)):du:=match x with | some (c,_,_)=>c | none=>[]
def kvO (x:Option (du×List Nat×AV)):List Nat:=match x with | some (_,k,_)=>k | none=>[]
def ivO (x:Option (du×List Nat×AV)):Bool:=match x with | some _=>true | none=>false
structure Rets (x:Option (du×List Nat×AV)):Prop where
 isO:ivO x=true
 ky:kvO x=[]
 cd:TL (cvO x)=true
 nk:Nj (jW x)=true
theorem AKN {P:gr} {O:ia} {f:gp} {fn:Func} {β0:Env} {w0:gn} {n:Fz} (hO:g_ P O) (hm:P.follows .mixedOrders=true) (jc:P.funcs[f]? = some fn) {ir k0:Nat} {x:h_}
  (h:Rets (E' P O fn ir k0 x)) (jj:BW n x.s) (h0:∀ b,k0≤b→β0 b=none) (hD:n.D=[]:=by rfl):gz P f β0 w0 (Hp w0 (jW (E' P O fn ir k0 x))) n [] x:=by
 obtain ⟨h1,h2,h3,h4⟩:=h;generalize e:E' P O fn ir k0 x=y at *
 cases y with
 | none=>cases h1
 | some v =>
  obtain ⟨c,k,v⟩:=v;have hk:k=[]:=h2
  subst hk;exact IS hO hm jc e (Vq h3) jj h0 h4 hD
theorem AKO (f:Nat→Int) (β:Env) (l:List gq) (h:AP β [.seq .u32 (l8 f)] l):AP β (w8 f) l:=by
 obtain ⟨l1,l2,⟨rfl,hx⟩,h2,rfl⟩:=h;simp only [AP] at h2;subst h2;have hm:∀ i,i<8→okV (.int .u32 (f i)):=fun i hi=>⟨rfl,hx _ (ml.2 ⟨i,mj.2 hi,rfl⟩)⟩
 exact ⟨[_],_,⟨rfl,hm 0 dp⟩,⟨[_],_,⟨rfl,hm 1 dp⟩,⟨[_],_,⟨rfl,hm 2 dp⟩,⟨[_],_,⟨rfl,hm 3 dp⟩,⟨[_],_,⟨rfl,hm 4 dp⟩,⟨[_],_,⟨rfl,hm 5 dp⟩,⟨[_],_,⟨rfl,hm 6 dp⟩,⟨[_],_,⟨rfl,hm 7 dp⟩,rfl,rfl⟩,rfl⟩,rfl⟩,rfl⟩,rfl⟩,rfl⟩,rfl⟩,rfl⟩
def scW (b:Nat→Int):Nat→Int:=fun t=>(HX (bN (Bk b)) t:Int)
def BV (f:Nat→Nat):Nat→Int:=fun i=>(f i:Int)
noncomputable def AKQ (h b:Nat→Int):h_:=Ak f87 [.val true [.seq .u32 (l8 h)],.val true [.seq .u8 (Bk b)]] [] 0 []
noncomputable def QQ (h b:Nat→Int):h_:=Iv (AZ dr oSi (some 0) 100 0 zO (AKQ h b))
noncomputable def AKR:List Ch:=match AF (QQ (fun _=>0) fun _=>0).s.H 3 with | some b=>b.cs | none=>[]
theorem Ag4 (h b:Nat→Int):AZ dr oSi (some 0) 100 0 zO (AKQ h b)=some ([(true,true)],[],QQ h b):=dm
theorem Ag5 (h b:Nat→Int):AF (QQ h b).s.H 3=some ⟨160,AKR,false⟩:=dm
theorem Ag6:A' .u32 AKR=some kL:=dm
noncomputable def TN (h b:Nat→Int):h_:=⟨(QQ h b).todo,⟨(QQ h b).s.T,Ix 3 [.seq .u32 kL] (QQ h b).s.H,(QQ h b).s.fr,(QQ h b).s.ie⟩⟩
theorem Ag7 (h b:Nat→Int):AF (TN h b).s.H 5=some ⟨109,[.seq .u32 (l8 h)],false⟩:=dm
theorem Ag8 (h b:Nat→Int):(⟨(TN h b).todo,⟨(TN h b).s.T.map GL,Ix 5 (w8 h) (TN h b).s.H,(TN h b).s.fr,(TN h b).s.ie⟩⟩:h_)=Vn (l8 h) kL (Bk (scW b)) h (iA 0) []:=dm
theorem Ag9 (h ws s:Nat→Int):Rets (E' dr oSi f87 400 0 (Vn (l8 h) kL (Bk ws) s (iA 64) dx)):=⟨dm,dm,dm,dm⟩
theorem Ag_ (h ws s:Nat→Int):jW (E' dr oSi f87 400 0 (Vn (l8 h) kL (Bk ws) s (iA 64) dx))=.val true (w8 fun i=>AW false .u32 (s i+h i)):=dm
theorem AKS {t:Nat} (h:t<64):kL.getD (0+(t:Int).toNat*1) 0=(kN t:Nat):=by
 have:=zX (xs:=kL) (P:=fun d=>0≤d) dp dp t
 rw [show 0+(t:Int).toNat*1=t by omega]
 unfold kN;omega
theorem AKT (f:Nat→Int) {t:Nat} (h:t<64):(Bk f).getD (0+(t:Int).toNat*1) 0=f t:=ZN f h
theorem Ag' {h:Nat→Nat} (hh:∀ i,h i<4294967296) (W:Nat→Nat) (w0:gn):∀ r t,t+r=64 →
  gz dr 87 CB w0 (Hp w0 (.val true (w8 fun i=>AW false .u32 (KX h kN W 64 i+h i)))) f87.ntmps [] (Vn (l8 (BV h)) kL (Bk (BV W)) (BV (KX h kN W t)) (iA (t:Int)) []):=by
 intro r;induction r with
 | zero =>
  intro t ht;obtain rfl:t=64:=dn
  have:=AKN (P:=dr) (n:=f87.ntmps) (β0:=CB) (w0:=w0) NG AB func87 (Ag9 (BV h) (BV W) (BV (KX h kN W 64))) (AR dm) (fun _ _=>rfl)
  rw [Ag_] at this;exact Ai dx this
 | succ r ih =>
  intro t ht;refine Ai dz (Aj L3 AB (AgC _ _ _ _ _) ?_ (AR dm) (fun _ _=>rfl) jl fun _=>?_)
  ·unfold shC;exact ⟨jm dn,AY 3 ⟨jm ⟨dn,dn⟩,jm (by show 0+(t:Int).toNat*1<64;omega),jm ⟨dn,dn⟩,jm (by show 0+(t:Int).toNat*1<64;omega),AY 5 trivial⟩⟩
  ·rw [AKS dn,AKT _ dn];have e:=AgE (zP hh kN W t) (kN t) (W t)
   unfold BV;rw [e,Au (z:=(t:Int)+1) dn];exact ih (t+1) dn
theorem AhA {h:Nat→Nat} (hh:∀ i,h i<4294967296) (b:Nat→Int):AT dr 87 [.val true [.seq .u32 (l8 (BV h))],.val true [.seq .u8 (Bk b)]] (.val true (w8 fun i=>AW false .u32 (KX h kN (HX (bN (Bk b))) 64 i+h i))) :=
 Nk (ie:=[]) func87 dm dm fun w0=>Aj NG AB (Ag4 (BV h) b) ⟨rfl,trivial⟩ (AR dm) (fun _ _=>rfl) jl fun _ =>
  TM (Ag5 _ _) (jQ Ag6) (show gz _ _ _ _ _ _ _ (TN (BV h) b) from TM (Ag7 _ _) (AKO _) (Hv (by
   rw [Ag8];exact Ag' hh _ w0 64 0 rfl)))
noncomputable def AKU (h b:Nat→Int):h_:=Ak f279 [.val true [.seq .u32 (l8 h)],.val true [.seq .u8 (Bk b)]] [] 0 []
abbrev z7:Option (List Nat×List Nat×Nat):=some ([2,4,5,6,7],[0,2,3,4],5)
noncomputable def QR (h b:Nat→Int):h_:=Iv (AZ dr oSi (some 0) 100 0 z7 (AKU h b))
noncomputable def AhB:List Item:=(QR (fun _=>0) fun _=>0).todo
noncomputable def Vt (h ws s:Nat→Int) (t:AV) (p:List Bool):h_:=⟨AhB,⟨Dx f279.ntmps [(2,.val false [.p 0 0]),(4,.val false [.p 2 0]),(5,.val false [.p 3 0]),(6,.val false [.p 4 0]),(7,t)],
 [(0,some ⟨109,[.seq .u32 (l8 h)],false⟩),(2,some ⟨109,List.replicate 8 (.n .u32 0),false⟩),(3,some ⟨160,[.seq .u32 (Bk ws)],false⟩),(4,some ⟨109,w8 s,false⟩)],5,p⟩⟩
theorem AhC (h b:Nat→Int):AZ dr oSi (some 0) 100 0 z7 (AKU h b)=some ([(true,true)],[],QR h b):=dm
theorem AhD (h b:Nat→Int):AF (QR h b).s.H 4=some ⟨109,[.seq .u32 (l8 h)],false⟩:=dm
theorem AhE (h b:Nat→Int):(⟨(QR h b).todo,⟨(QR h b).s.T.map GL,Ix 4 (w8 h) (QR h b).s.H,(QR h b).s.fr,(QR h b).s.ie⟩⟩:h_)=Vt h (scW b) h (iA 0) []:=dm
def jY (a b c:Nat) (x:Int):Int:=bits .xor .u32 (bits .xor .u32 (rr x.toNat a:Nat) (rr x.toNat b:Nat)) (rr x.toNat c:Nat)
def Vu (s:Nat→Int) (k w:Int):Int:=AW false .u32 (AW false .u32 (AW false .u32 (AW false .u32 (s 7+jY 6 11 25 (s 4))+bits .xor .u32 (bits .and .u32 (s 4) (s 5)) (bits .and .u32 (bits .xor .u32 4294967295 (s 4)) (s 6)))+k)+w)
def jZ (s:Nat→Int):Int:=AW false .u32 (jY 2 13 22 (s 0)+bits .xor .u32 (bits .xor .u32 (bits .and .u32 (s 0) (s 1)) (bits .and .u32 (s 0) (s 2))) (bits .and .u32 (s 1) (s 2)))
def z8 (s:Nat→Int) (k w:Int):Nat→Int
 | 0=>AW false .u32 (Vu s k w+jZ s)
 | 1=>s 0
 | 2=>s 1
 | 3=>s 2
 | 4=>AW false .u32 (s 3+Vu s k w)
 | 5=>s 4
 | 6=>s 5
 | _=>s 6
theorem AhF (h ws s:Nat→Int) (t:Int):AZ dr oSi (some 0) 100 0 z7 (Vt h ws s (iA t) dz) =
 some ((decide (t<64),true)::tt 3 ((decide (0≤t∧t<64),true)::G_ t (Bk ws).length (tt 3 [])),[],Vt h ws (z8 s (kL.getD (0+t.toNat*1) 0) ((Bk ws).getD (0+t.toNat*1) 0)) (iA (wI (t+1))) []):=dm
theorem AhG (h ws s:Nat→Int):Rets (E' dr oSi f279 400 0 (Vt h ws s (iA 64) dx)):=⟨dm,dm,dm,dm⟩
theorem AhH (h ws s:Nat→Int):jW (E' dr oSi f279 400 0 (Vt h ws s (iA 64) dx))=.val true (w8 fun i=>AW false .u32 (h i+s i)):=dm
theorem AKV {x:Nat} (hx:x<4294967296) (a b c:Nat):jY a b c (x:Int)=(Ov a b c x:Nat):=by
 unfold jY Ov;rw [jz,jM (NA hx _) (NA hx _) (NA hx _)]
theorem AhI {s:Nat→Nat} (hs:∀ i,s i<4294967296) (k w:Nat):Vu (BV s) k w=(Vo s k w:Nat):=by
 unfold Vu Vo BV;have h5:(s 4 &&& s 5)<4294967296:=qn (n:=32) _ (hs 5)
 have h6:((4294967295 ^^^ s 4) &&& s 6)<4294967296:=qn (n:=32) _ (hs 6)
 have h7:(4294967295 ^^^ s 4)<4294967296:=ti (n:=32) dp (hs 4)
 rw [show (4294967295:Int)=((4294967295:Nat):Int) from rfl,AKV (hs 4),(FK _ _ dp (hs 4)).2.2,(FK _ _ (hs 4) (hs 5)).1,(FK _ _ h7 (hs 6)).1,(FK _ _ h5 h6).2.2,AgG (hs 6),ES,ES,ES,ES]
 congr 1
 omega
theorem AhJ {s:Nat→Nat} (hs:∀ i,s i<4294967296):jZ (BV s)=(ZJ s:Nat):=by
 unfold jZ ZJ BV;have a1:(s 0 &&& s 1)<4294967296:=qn (n:=32) _ (hs 1)
 have a2:(s 0 &&& s 2)<4294967296:=qn (n:=32) _ (hs 2)
 have a3:(s 1 &&& s 2)<4294967296:=qn (n:=32) _ (hs 2)
 rw [AKV (hs 0),(FK _ _ (hs 0) (hs 1)).1,(FK _ _ (hs 0) (hs 2)).1,(FK _ _ (hs 1) (hs 2)).1,(FK _ _ a1 a2).2.2,(FK _ _ (ti (n:=32) a1 a2) a3).2.2,AgH,ES]
theorem AhK {s:Nat→Nat} (hs:∀ i,s i<4294967296) (k w:Nat):z8 (BV s) k w=BV (TJ s k w):=by
 funext i
 have e1:=AhI hs k w;have e2:=AhJ hs;show z8 (BV s) k w i=((TJ s k w i:Nat):Int);match i with
 | 0 =>
  show AW false .u32 (Vu (BV s) k w+jZ (BV s))=_;rw [e1,e2,ES];rfl
 | 1=>rfl
 | 2=>rfl
 | 3=>rfl
 | 4 =>
  show AW false .u32 (BV s 3+Vu (BV s) k w)=_;rw [e1];exact ES _ _
 | 5=>rfl
 | 6=>rfl
 | _+7=>rfl
theorem AhL {h:Nat→Nat} (hh:∀ i,h i<4294967296) (W:Nat→Nat) (w0:gn):∀ r t,t+r=64 →
  gz dr 279 CB w0 (Hp w0 (.val true (w8 fun i=>AW false .u32 (h i+KX h kN W 64 i)))) f279.ntmps [] (Vt (BV h) (BV W) (BV (KX h kN W t)) (iA (t:Int)) []):=by
 intro r;induction r with
 | zero =>
  intro t ht;obtain rfl:t=64:=dn
  have:=AKN (P:=dr) (n:=f279.ntmps) (β0:=CB) (w0:=w0) NG AB func279 (AhG (BV h) (BV W) (BV (KX h kN W 64))) (AR dm) (fun _ _=>rfl)
  rw [AhH] at this;exact Ai dx this
 | succ r ih =>
  intro t ht;refine Ai dz (Aj NG AB (AhF _ _ _ _) ?_ (AR dm) (fun _ _=>rfl) jl fun _=>?_)
  ·exact ⟨jm dn,AY 3 ⟨jm ⟨dn,dn⟩,HZ dn (by show t<64;omega) (AY 3 trivial)⟩⟩
  ·rw [AKS dn,AKT _ dn,Au (z:=(t:Int)+1) dn];have e:=AhK (zP hh kN W t) (kN t) (W t)
   rw [show BV W t=((W t:Nat):Int) from rfl,e]
   exact ih (t+1) dn
theorem AhM {h:Nat→Nat} (hh:∀ i,h i<4294967296) (b:Nat→Int):AT dr 279 [.val true [.seq .u32 (l8 (BV h))],.val true [.seq .u8 (Bk b)]] (.val true (w8 fun i=>AW false .u32 (h i+KX h kN (HX (bN (Bk b))) 64 i))) :=
 Nk (ie:=[]) func279 dm dm fun w0=>Aj NG AB (AhC (BV h) b) ⟨rfl,trivial⟩ (AR dm) (fun _ _=>rfl) jl fun _ =>
  TM (AhD _ _) (AKO _) (Hv (by
   rw [AhE];exact AhL hh _ w0 64 0 rfl))
def wN (xs:dt) (i:Nat):Nat:=(xs.getD i 0).toNat % 4294967296
theorem AhN (xs:dt) (i:Nat):wN xs i<4294967296:=ki _ dp
theorem AhO {xs:dt} (h:∀ d∈xs,0≤d∧d<4294967296) (hl:xs.length=8):xs=l8 (BV (wN xs)):=by
 conv=>lhs;rw [jS hl]
 refine nx fun i _=>?_
 have:=zX (P:=fun d=>0≤d∧d<4294967296) h ⟨dp,dp⟩ i
 unfold BV wN;omega
def j4:List AV→Option (du×AV)
 | [.val true hs,.val true bs]=>match A' .u32 hs,A' .u8 bs with
  | some xs,some ys=>some ([(Nat.beq xs.length 8,true),(Nat.beq ys.length 64,true)],.val true [.seq .u32 (l8 (BV (TK (wN xs) (bN ys))))])
  | _,_=>none
 | _=>none
theorem AhP (f:Nat→Int):A' .u32 (w8 f)=some (l8 f):=dm
theorem AKW {F:gp} (h:∀ (h:Nat→Nat) (b:Nat→Int),(∀ i,h i<4294967296)→AT dr F [.val true [.seq .u32 (l8 (BV h))],.val true [.seq .u8 (Bk b)]] (.val true (w8 (BV (TK h (bN (Bk b))))))):∀ args c v,j4 args=some (c,v)→AM c→AT dr F args v:=by
 intro args c v hs hc us w ha;unfold j4 at hs;split at hs;case h_2=>cases hs
 rename_i hs' bs';split at hs;case h_2=>cases hs
 rename_i xs ys hx hy;injection hs with hs;injection hs with hs1 hs2;subst hs1;subst hs2;obtain ⟨u1,jf,r1,⟨u2,jg,r2,ha,rfl⟩,rfl⟩:=ha;obtain ⟨p1,q1⟩:=Vs hx r1;obtain ⟨p2,q2⟩:=Vs hy r2;have e1:=AhO (fun d hd=>jK (p1 d hd)) (Ar.1 hc.1)
 have e2:=zY (fun d hd=>AKL (p2 d hd)) (Ar.1 hc.2.1)
 have q:=h (wN xs) (fun i=>(bN ys i:Int)) (AhN xs)
 rw [← e2,← e1] at q;refine CG q (fun u hu=>(Vs (AhP _) hu).2 _) _ w ⟨u1,_,q1 _,⟨u2,_,q2 _,ha,rfl⟩,rfl⟩
noncomputable def SSj:dw:=(87,FO j4)::(279,FO j4)::SSi
theorem AKX (f g:Nat→Nat):(fun i=>AW false .u32 ((f i:Int)+(g i:Int)))=BV fun i=>(f i+g i) % 4294967296:=by
 funext i
 rw [ES];rfl
theorem AhQ:AX dr SSj:=⟨GK func87 dm dm (AKW fun h b hh=>by
  have:=AhA hh b
  rw [AKX] at this;exact this),GK func279 dm dm (AKW fun h b hh=>by
  have:=AhM hh b
  rw [AKX,show (fun i=>(h i+KX h kN (HX (bN (Bk b))) 64 i) % 4294967296)=TK h (bN (Bk b)) from funext fun i=>by unfold TK;rw [Nat.add_comm]] at this
  exact this),AKM⟩
def Vv (k:Nat):Heap→Heap
 | []=>[]
 | (j,b)::r=>match Nat.beq j k with
  | true=>(j,match b with | some ⟨ty,cs,_⟩=>some ⟨ty,cs,true⟩ | none=>none)::r
  | false=>(j,b)::Vv k r
theorem z9 {k:Nat} {cs:List Ch} {ty:gt} {o:Bool}:∀ {H:Heap},AF H k=some ⟨ty,cs,o⟩→∀ b x,AF (Vv k H) b=some x→AF H b=some x∨(b=k∧x=⟨ty,cs,true⟩)
 | [],h,_,_,_=>by cases h
 | (j,z)::r,h,b,x,hx=>by
  simp only [AF] at h ⊢;unfold Vv at hx;cases e:Nat.beq j k with
  | true =>
   rw [e] at h hx;have hz:z=some ⟨ty,cs,o⟩:=h
   subst hz;simp only [AF] at hx;cases e':Nat.beq j b with
   | true =>
    rw [e'] at hx;injection hx with hx;exact .inr ⟨(Ar.1 e').symm.trans (Ar.1 e),hx.symm⟩
   | false=>rw [e'] at hx;exact .inl hx
  | false =>
   rw [e] at h hx;simp only [AF] at hx;cases e':Nat.beq j b with
   | true=>rw [e'] at hx;exact .inl hx
   | false=>rw [e'] at hx;exact z9 (H:=r) h b x hx
theorem AhR {β:Env} {ty:gt} {cs:List Ch} {o:Bool} {k:Nat} {w:gn} (hty:ty≠Br) (hr:DK β ⟨ty,cs,o⟩ k w):DK β ⟨ty,cs,true⟩ k w:=by
 rcases hr with ⟨B,n,l,t,pre,ty',fz,q1,q2,q3,q4,q5⟩ | ⟨X,q1,q2,q3⟩ | ⟨B,l,es,q,q1,q2,q3,q4⟩
 ·exact .inl ⟨B,n,l,t,pre,ty',fz,q1,q2,q3,q4,fun h=>by
   obtain ⟨a1,a2,a3,a4,a5⟩:=q5 h;exact ⟨a1,a2,a3,(fun h=>by cases h),a5⟩⟩
 ·exact .inr (.inl ⟨X,q1,by cases X with | at_=>exact q2 | nil=>exact Or.inl rfl | emp=>exact absurd q2.2 hty,q3⟩)
 ·exact .inr (.inr ⟨B,l,es,q,q1,q2,q3,q4⟩)
theorem AhS {P:gr} {f:gp} {β0:Env} {w0:gn} {R:Ending→gn→Prop} {n:Fz} {W:List Nat} {x:h_} {k:Nat} {ty:gt} {cs:List Ch} {o:Bool} (hty:ty≠Br) (hk:AF x.s.H k=some ⟨ty,cs,o⟩)
  (hs:gz P f β0 w0 R n W ⟨x.todo,⟨x.s.T,Vv k x.s.H,x.s.fr,x.s.ie⟩⟩):gz P f β0 w0 R n W x:=by
 intro β a w hi hf;refine hs β a w { hi with good:=?_ } hf
 have g:=hi.good;have hh:∀ b y,AF (Vv k x.s.H) b=some y→∃ z,AF x.s.H b=some z∧z.ty=y.ty:=fun b y hb=>by
  rcases z9 hk b y hb with e | ⟨rfl,rfl⟩
  ·exact ⟨y,e,rfl⟩
  ·exact ⟨_,hk,rfl⟩
 refine ⟨fun b blk hb=>?_,fun b b' B n n' h1 h2 h3 h4=>?_,g.lt⟩
 ·rcases z9 hk b blk hb with e | ⟨rfl,rfl⟩
  ·exact g.heap b blk e
  ·exact AhR hty (g.heap b _ hk)
 ·obtain ⟨y,hy,hr⟩:=GU h1;obtain ⟨z,hz,e⟩:=hh b y hy;obtain ⟨y',hy'⟩:=mc.1 h2;obtain ⟨z',hz',_⟩:=hh b' y' hy';exact g.inj b b' B n n' (GC hz (by rw [e];exact hr)) (by rw [hz'];rfl) h3 h4
def Vw (n:Nat):Int:=wI (wI (Int.tdiv (wI (wI ((n:Int)+9)+63)) 64)*64)
def Oz (n:Nat):Nat:=(Vw n).toNat
def ZO (n:Nat):dt:=List.replicate (Oz n) 0
def ZP (ic n:Nat) (xs:dt):dt:=(ZO n).take 0++((xs.drop ic).take (Nat.min n (Oz n))++(ZO n).drop (0+Nat.min n (Oz n)*1))
def pdX (ic n:Nat) (xs:dt):dt:=(ZP ic n xs).set (0+(n:Int).toNat*1) 128
noncomputable def pdT:List Item:=B6 (AZ dr oSi (some 0) 100 1 none (Ak f85 [AQ 0 0 0 0] (A7 []) 1 []))
noncomputable def ZQ (N:Int) (L:Nat) (ys:dt) (i k:AV) (p:List Bool):h_:=⟨pdT,⟨Dx f85.ntmps [(3,iA N),(4,AQ 1 0 L L),(5,i),(6,k)],[(1,some ⟨5,[.seq .u8 ys],false⟩)],2,p⟩⟩
def Vx (k:Int):AV:=.val false [.v (.int .u64 k)]
abbrev pdK:Option (List Nat×List Nat×Nat):=some ([3,4,5,6],[1],2)
theorem AhU (ic n m:Nat) (xs:dt):AZ dr oSi (some 0) 400 1 pdK (Ak f85 [AQ 0 ic n m] (A7 xs) 1 []) =
 some ((AK .i64 n,true)::(true,true)::(Pm (Vw n) 1,true)::(Nat.ble (ic+Nat.min n (Oz n)) xs.length,true)::(Nat.ble (0+Nat.min n (Oz n)*1) (ZO n).length,true)::(AK .i64 n,true)::(decide ((0:Int)≤n∧(n:Int)<Oz n),true)::(decide (0+(n:Int).toNat*1<(ZP ic n xs).length),true)::(AK .i64 n,true)::[],[],
  ZQ (Vw n) (Oz n) (pdX ic n xs) (.val false [.n .i64 0]) (Vx (AW false .u64 (8*AW false .u64 n))) []):=dm
def Vy (N i:Int):Int:=wI (wI (N-1)-i)
theorem AhV (N:Int) (L:Nat) (ys:dt) (i k:Int):AZ dr oSi (some 0) 400 1 pdK (ZQ N L ys (iA i) (Vx k) dz) =
 some ((decide (i<8),true)::(decide (0≤Vy N i∧Vy N i<L),true)::(decide (0+(Vy N i).toNat*1<ys.length),true)::(decide ((0:Int)≤8∧0≤k),true)::[],[],ZQ N L (ys.set (0+(Vy N i).toNat*1) (AW false .u8 k)) (iA (wI (i+1))) (Vx (Int.fdiv k (2^min (8:Int).toNat IntKind.u64.bits))) []):=dm
theorem AhW (N:Int) (L:Nat) (ys:dt) (i k:Int):AU dr oSi f85 400 1 [1] (ZQ N L ys (iA i) (Vx k) dx)=some ([(decide (i<8),false)],[],AQ 1 0 L L,[(1,some ⟨5,[.seq .u8 ys],false⟩)]):=dm
theorem AKZ {n:Nat} (h:n≤35184372088832):Vw n=(A4 n:Nat)∧Oz n=A4 n:=by
 have e1:wI (wI ((n:Int)+9)+63)=((n+72:Nat):Int):=by rw [Au (z:=(n:Int)+9) dn,Au dn];omega
 have e2:Int.tdiv ((n+72:Nat):Int) 64=(((n+72) / 64:Nat):Int):=by rw [qk dn];rfl
 have e3:Vw n=(A4 n:Nat):=by
  unfold Vw A4;rw [e1,e2,Au (z:=(((n+72) / 64:Nat):Int)) dn,Au dn];rfl
 exact ⟨e3,by unfold Oz;rw [e3];rfl⟩
def L4 (xs:dt) (i:Nat):dt:=xs++128::(List.replicate (A4 xs.length-xs.length-9) 0++(List.replicate (8-i) 0++(Bv (8*xs.length) 8).drop (8-i)))
theorem AhX (xs:dt):L4 xs 0=xs++128::List.replicate (A4 xs.length-xs.length-1) 0:=by
 unfold L4;have:=Ox xs.length
 rw [rj (by rw [J6];exact ju _),lh,List.replicate_append_replicate]
 congr 3
 omega
theorem AhY (xs:dt):L4 xs 8=DJ xs:=by
 unfold L4 DJ;rw [pe,List.replicate_zero,qf,oh]
theorem AhZ (xs:dt) {i:Nat} (h:i≤8):(L4 xs i).length=A4 xs.length:=by
 have:=Ox xs.length
 unfold L4;simp only [ku,k_,oz,lk,J6];omega
theorem Aha (xs:dt) {i:Nat} (h:i<8):(L4 xs i).set (A4 xs.length-1-i) (FC (8*xs.length) i)=L4 xs (i+1):=by
 have hp:=Ox xs.length;unfold L4;rw [te _ _ dn,show A4 xs.length-1-i-xs.length=(A4 xs.length-xs.length-9+(7-i))+1 by omega,List.set_cons_succ,te _ _ (by simp),oz,tw,show 8-i=(7-i)+1 by omega,List.replicate_succ',ol,te _ _ (by simp),oz,pe,show 8-(i+1)=7-i by omega]
 have e:(Bv (8*xs.length) 8).drop (7-i)=FC (8*xs.length) i::(Bv (8*xs.length) 8).drop (7-i+1):=by
  rw [List.drop_eq_getElem_cons (by rw [J6];omega)]
  congr 1
  simp only [Bv,List.getElem_map,List.getElem_range];congr 1;omega
 rw [e];rfl
theorem Ahb {ic n:Nat} {xs:dt} (hl:ic+n≤xs.length) (hn:n≤35184372088832):ZP ic n xs=AA xs ic n++List.replicate (A4 n-n) 0∧pdX ic n xs=L4 (AA xs ic n) 0:=by
 have hp:=Ox n;have hw:(AA xs ic n).length=n:=by unfold AA;rw [kv,lk];omega
 have e:ZP ic n xs=AA xs ic n++List.replicate (A4 n-n) 0:=by
  unfold ZP ZO;rw [(AKZ hn).2,show Nat.min n (A4 n)=n from mr dn,List.take_zero,oh,kr,kt,List.drop_replicate]
  rfl
 refine ⟨e,?_⟩
 unfold pdX;rw [e,AhX,hw,show 0+(n:Int).toNat*1=n by omega,te _ _ dn,hw,pe,show A4 n-n=(A4 n-n-1)+1 by omega,sk,List.set_cons_zero]
 rfl
theorem Ahc {ic n m:Nat} {xs:dt} (hl:ic+n≤xs.length) (hn:n≤35184372088832):Ab dr 85 [AQ 0 ic n m] (A7 xs) 1 [] (AQ 1 0 (A4 n) (A4 n)) [(1,some ⟨5,[.seq .u8 (DJ (AA xs ic n))],false⟩)]:=by
 have hp:=Ox n;have hw:(AA xs ic n).length=n:=by unfold AA;rw [kv,lk];omega
 have hN:A4 n≤n+72:=by unfold A4;omega
 obtain ⟨e1,e2⟩:=AKZ hn;obtain ⟨e3,e4⟩:=Ahb (ic:=ic) (n:=n) hl hn
 refine A_ (ie:=[]) func85 dm dm fun β0 w0 h0=>?_
 refine Aj NG AB (AhU ic n m xs) ?_ (AR dm) h0 jl fun _=>?_
 ·have hh:AK .i64 n=true:=by simp only [AK,jx,jt];omega
  refine ⟨hh,rfl,?_,jr ?_,jr ?_,hh,jm ⟨dn,dn⟩,jm ?_,hh,trivial⟩
  ·rw [e1];unfold Pm;exact jm ⟨dn,dn,dn,dn⟩
  ·rw [e2,show Nat.min n (A4 n)=n from mr dn];exact hl
  ·unfold ZO;rw [e2,show Nat.min n (A4 n)=n from mr dn,oz];omega
  ·rw [e3,ku,hw,oz];omega
 ·rw [e4,e1,e2,show AW false .u64 (8*AW false .u64 (n:Int))=((8*n:Nat):Int) by rw [DD,DD,IntKind.wrap_u64,IntKind.wrap_u64];omega]
  have loop:∀ r i,i+r=8→gz dr 85 β0 w0 (BA β0 w0 [] (AQ 1 0 (A4 n) (A4 n)) [(1,some ⟨5,[.seq .u8 (DJ (AA xs ic n))],false⟩)]) f85.ntmps [] (ZQ (A4 n:Nat) (A4 n) (L4 (AA xs ic n) i) (iA (i:Int)) (Vx ((8*n / 256^i:Nat):Int)) []):=by
   intro r;induction r with
   | zero =>
    intro i hi;obtain rfl:i=8:=dn
    rw [AhY];exact Ai dx (A6 NG AB func85 (AhW ..) ⟨dp,trivial⟩ (AR dm) h0 jl)
   | succ r ih =>
    intro i hi;have ej:Vy (A4 n:Nat) i=((A4 n-1-i:Nat):Int):=by unfold Vy;rw [Au (z:=((A4 n:Nat):Int)-1) dn,Au dn];omega
    refine Ai dz (Aj NG AB (AhV ..) ?_ (AR dm) h0 jl fun _=>?_)
    ·rw [ej,AhZ _ dn,hw];exact ⟨jm dn,jm ⟨dn,dn⟩,jm dn,jm ⟨dp,Int.natCast_nonneg _⟩,trivial⟩
    ·have ek:Int.fdiv ((8*n / 256^i:Nat):Int) (2^min (8:Int).toNat IntKind.u64.bits)=((8*n / 256^(i+1):Nat):Int):=by
      rw [show min (8:Int).toNat IntKind.u64.bits=8 from rfl,q_ _ dp,lj,← ll]
      rfl
     have ev:AW false .u8 ((8*n / 256^i:Nat):Int)=FC (8*n) i:=by rw [DD,IntKind.wrap_u8];unfold FC;omega
     have es:=Aha (AA xs ic n) (show i<8 by omega)
     rw [hw] at es;rw [ej,ek,ev,show 0+((A4 n-1-i:Nat):Int).toNat*1=A4 n-1-i by omega,es,Au (z:=(i:Int)+1) dn]
     exact ih (i+1) dn
  have:=loop 8 0 rfl
  rw [kx,ld] at this;exact Hv this
def pdSp:ASpec:=fun args H fr ie=>match args with
 | [S]=>match DS S with
  | some (k,ic,n)=>match AF H k with
   | some ⟨_,cs,_⟩=>match A' .u8 cs with
    | some xs=>some (BP [k] 1 fr 1 [] (AQ 1 0 (A4 n) (A4 n)) [(1,some ⟨5,[.seq .u8 (DJ (AA xs ic n))],false⟩)] [(Nat.ble (ic+n) xs.length,true),(Nat.ble n 35184372088832,true)] ie)
    | none=>none
   | none=>none
  | none=>none
 | _=>none
theorem Ahd:BI dr 85 pdSp:=by
 refine DN func85 dm dm fun args H fr ie r hs=>?_
 unfold pdSp at hs;split at hs;case h_2=>cases hs
 rename_i S;split at hs;case h_2=>cases hs
 rename_i k ic n hS;split at hs;case h_2=>cases hs
 rename_i ty cs o hk;split at hs;case h_2=>cases hs
 rename_i xs jh;injection hs with hs;refine ⟨[k],1,1,[],_,_,_,ie,hs.symm,fun β us w ha hg hc=>?_⟩
 obtain ⟨u1,jf,r1,ha,rfl⟩:=ha;obtain ⟨m,r1⟩:=E8 hS r1;obtain ⟨g1,g2,g3⟩:=EP hg hk jh;exact ⟨[AQ 0 ic n m],A7 xs,Ahc (jp hc.1) (jp hc.2.1),dm,⟨u1,_,CV dn rfl r1,ha,rfl⟩,g2,g3⟩
noncomputable def SSk:dw:=(85,pdSp)::SSj
theorem Ahe:AX dr SSk:=⟨Ahd,AhQ⟩
def j5:AV:=.val true [.n .u32 1779033703,.n .u32 3144134277,.n .u32 1013904242,.n .u32 2773480762,.n .u32 1359893119,.n .u32 2600822924,.n .u32 528734635,.n .u32 1541459225]
theorem Ahf:AJ dr oSi f86 [] [] 100=some ([],j5):=dm
theorem Ahg:AJ dr oSi f278 [] [] 100=some ([],j5):=dm
noncomputable def bgV:AV:=.val true [.seq .u32 (l8 (BV ZM))]
theorem Ahh {β β':Env} {u:gq} (h:AO β j5 u):AO β' bgV u:=(Vs (k:=.u32) (xs:=l8 (BV ZM)) dm h).2 _
noncomputable def j6:List AV→Option AV
 | []=>some bgV
 | _=>none
theorem AKb {F:gp} (h:AT dr F [] j5):∀ args v,j6 args=some v→AT dr F args v:=by
 intro args v hs;unfold j6 at hs;split at hs;case h_2=>cases hs
 injection hs with hs;subst hs;exact CG h fun u hu=>Ahh hu
noncomputable def SSl:dw:=(86,Af j6)::(278,Af j6)::SSk
theorem AKc:AX dr SSl:=⟨Ah func86 dm dm (AKb (AN NG AB func86 Ahf trivial rfl)),Ah func278 dm dm (AKb (AN NG AB func278 Ahg trivial rfl)),Ahe⟩
noncomputable abbrev oSl:ia:=AG SSl KV
theorem O0:g_ dr oSl:=AH AKc BR
def NH (p:dt):Nat→Nat→Nat
 | 0=>ZM
 | k+1=>TK (wN (l8 (BV (NH p k)))) (bN ((p.drop (64*k)).take 64))
def j7 (xs:dt) (i:Nat):Nat:=NH (DJ xs) (A4 xs.length / 64) (i / 4) / 2^(24-8*(i % 4)) % 256
theorem Ahi (xs:dt) (i:Nat):j7 xs i<256:=ki _ dp
def IA (xs:dt):dt:=(List.range 32).map fun i=>(j7 xs i:Int)
theorem ZR (xs:dt):(IA xs).length=32:=rfl
theorem Ahj (xs:dt):∀ d∈IA xs,0≤d∧d<256:=by
 intro d hd;obtain ⟨i,_,rfl⟩:=ml.1 hd;have:=Ahi xs i
 omega
def NI (x:Option (du×List Nat×AV×Heap)):AV:=match x with | some (_,_,v,_)=>v | none=>.any
def Vz (x:Option (du×List Nat×AV×Heap)):Heap:=match x with | some (_,_,_,h)=>h | none=>[]
def o4B (x:Option (du×List Nat×AV×Heap)):Bool:=match x with | some (c,[],_,_)=>TL c | _=>false
structure Outr (x:Option (du×List Nat×AV×Heap)):Prop where
 ok:o4B x=true
theorem Ahl {P:gr} {O:ia} {f:gp} {fn:Func} {β0:Env} {w0:gn} {n:Fz} {W:List Nat} (hO:g_ P O) (hm:P.follows .mixedOrders=true) (jc:P.funcs[f]? = some fn) {ir k0:Nat} {ks:List Nat} {x:h_}
  (h:Outr (AU P O fn ir k0 ks x)) (jj:BW n x.s) (h0:∀ b,k0≤b→β0 b=none) (hD:n.D=[]:=by rfl):gz P f β0 w0 (BA β0 w0 W (NI (AU P O fn ir k0 ks x)) (Vz (AU P O fn ir k0 ks x))) n W x:=by
 obtain ⟨h1⟩:=h;generalize e:AU P O fn ir k0 ks x=y at *
 cases y with
 | none=>cases h1
 | some v =>
  obtain ⟨c,k,v,H⟩:=v;cases k with
  | nil=>exact A6 hO hm jc e (Vq h1) jj h0 jl hD
  | cons=>cases h1
theorem AKd {β0:Env} {w0:gn} {W:List Nat} {v v':AV} {H:Heap} (h:∀ β u,AO β v u→AO β v' u) {e:Ending} {w:gn} (ho:BA β0 w0 W v H e w):BA β0 w0 W v' H e w:=by
 obtain ⟨u,β,q,o⟩:=ho;exact ⟨u,β,q,{ o with val:=h _ _ o.val }⟩
noncomputable def smE (ic n m:Nat) (xs:dt):h_:=Ak f35 [AQ 0 ic n m] (A7 xs) 1 []
abbrev j8:Option (List Nat×List Nat×Nat):=some ([2,3,4],[1,2,3],4)
noncomputable def QS (ic n m:Nat) (xs:dt):h_:=Iv (AZ dr oSl (some 0) 100 1 j8 (smE ic n m xs))
noncomputable def smT:List Item:=(QS 0 0 0 []).todo
noncomputable def QT (ic L:Nat) (P:dt) (s:Nat→Int) (p:List Bool):h_:=⟨smT,⟨Dx f35.ntmps [(2,.val false [.p 1 0]),(3,AQ 2 ic L L),(4,.val false [.p 3 0])],[(1,some ⟨54,List.replicate 32 (.n .u8 0),false⟩),(2,some ⟨5,[.seq .u8 P],true⟩),(3,some ⟨109,[.seq .u32 (l8 s)],false⟩)],4,p⟩⟩
theorem Ahn (ic n m:Nat) (xs:dt):AZ dr oSl (some 0) 100 1 j8 (smE ic n m xs)=some ((Nat.ble (ic+n) xs.length,true)::(Nat.ble n 35184372088832,true)::[],[],QS ic n m xs):=dm
theorem Aho (ic n m:Nat) (xs:dt):AF (QS ic n m xs).s.H 2=some ⟨5,[.seq .u8 (DJ (AA xs ic n))],false⟩:=dm
theorem Ahp (ic n m:Nat) (xs:dt):(⟨(QS ic n m xs).todo,⟨(QS ic n m xs).s.T,Vv 2 (QS ic n m xs).s.H,(QS ic n m xs).s.fr,(QS ic n m xs).s.ie⟩⟩:h_)=QT 0 (A4 n) (DJ (AA xs ic n)) (BV ZM) []:=dm
def smC (ic L:Nat) (P:dt) (b:Bool):du:=(AK .i64 L,true)::(decide ((0:Int)<L),true)::(decide ((0:Int)≤64∧(64:Int)≤L),true)::(true,true)::(true,true)::(Nat.ble (ic+64) P.length,true)::(true,true)::(Nat.beq ((P.drop ic).take 64).length 64,true)::(decide ((0:Int)≤64∧(64:Int)≤L),true)::(Nat.beq L (64:Int).toNat,b)::[]
def smN (s:Nat→Int) (P:dt) (ic:Nat):Nat→Int:=BV (TK (wN (l8 s)) (bN ((P.drop ic).take 64)))
theorem Ahq (ic L:Nat) (P:dt) (s:Nat→Int):AZ dr oSl (some 0) 100 1 j8 (QT ic L P s eg)=some (smC ic L P false,[],QT (ic+(64:Int).toNat*1) (L-(64:Int).toNat) P (smN s P ic) []):=dm
theorem Ahr (ic L:Nat) (P:dt) (s:Nat→Int):AZ dr oSl (some 0) 100 1 j8 (QT ic L P s d_)=some (smC ic L P true,[],QT ic (L-(64:Int).toNat) P (smN s P ic) []):=dm
noncomputable def TO (ic:Nat) (P:dt) (s:Nat→Nat):=AU dr oSl f35 1000 1 [] (QT ic 0 P (BV s) dx)
theorem Ahs (ic:Nat) (P:dt) (s:Nat→Nat):Outr (TO ic P s):=⟨dm⟩
def smV (s:Nat→Int):dt:=(List.range 32).map fun i=>AW false .u8 (NB (s (i / 4)) ((24-8*(i % 4):Nat):Int))
def j9:AV→List Ch
 | .val true cs=>cs
 | _=>[]
theorem Aht (ic:Nat) (P:dt) (s:Nat→Nat):NI (TO ic P s)=.val true (j9 (NI (TO ic P s))):=dm
theorem Ahu (ic:Nat) (P:dt) (s:Nat→Nat):A' .u8 (j9 (NI (TO ic P s)))=some (smV (BV s)):=dm
theorem Ahv (ic:Nat) (P:dt) (s:Nat→Nat):Vz (TO ic P s)=[]:=dm
theorem AKf (s:Nat→Nat):smV (BV s)=(List.range 32).map fun i=>((s (i / 4) / 2^(24-8*(i % 4)) % 256:Nat):Int):=by
 refine nx fun i _=>?_
 unfold BV;rw [ZF _ _ dn,DD,IntKind.wrap_u8];omega
theorem AKg {A:AV} {cs:List Ch} {k:IntKind} {xs:dt} (h1:A=.val true cs) (h2:A' k cs=some xs) (β:Env) (u:gq) (hr:AO β A u):AO β (.val true [.seq k xs]) u:=by
 subst h1;exact (Vs h2 hr).2 _
theorem AKh {P:gr} {f:gp} {β0:Env} {w0:gn} {R R':Ending→gn→Prop} {W:List Nat} {n:Fz} {x:h_} (h:gz P f β0 w0 R n W x) (hv:∀ e w,R e w→R' e w):gz P f β0 w0 R' n W x:=by
 intro β a w hi hf b cs q1 q2;obtain ⟨e',w',fr,q5,q4⟩:=h β a w hi hf b cs q1 q2;exact ⟨e',w',fr,hv _ _ q5,q4⟩
theorem Ahw {β0:Env} {w0:gn} (h0:∀ b,1≤b→β0 b=none) (ic:Nat) (P:dt) (s:Nat→Nat) :
  gz dr 35 β0 w0 (BA β0 w0 [] (.val true [.seq .u8 ((List.range 32).map fun i=>((s (i / 4) / 2^(24-8*(i % 4)) % 256:Nat):Int))]) []) f35.ntmps [] (QT ic 0 P (BV s) dx):=by
 have:=Ahl (P:=dr) (n:=f35.ntmps) (β0:=β0) (w0:=w0) (W:=[]) O0 AB func35 (Ahs ic P s) (AR dm) h0
 refine AKh this fun e w ho=>?_
 have ho:BA β0 w0 [] (NI (TO ic P s)) (Vz (TO ic P s)) e w:=ho
 rw [Ahv] at ho;rw [← AKf s];exact AKd (AKg (Aht ic P s) (Ahu ic P s)) ho
theorem AKi {ic L:Nat} {P:dt} {b:Bool} (h1:64≤L) (h2:ic+L≤P.length) (h3:L≤281474976710656) (hb:Nat.beq L 64=b):AM (smC ic L P b):=by
 refine ⟨?_,jm dn,jm ⟨dp,dn⟩,rfl,rfl,jr dn,rfl,Ar.2 ?_,jm ⟨dp,dn⟩,hb,trivial⟩
 ·simp only [AK,jx,jt];omega
 ·rw [kv,lk];omega
theorem Ahx {ic n m:Nat} {xs:dt} (hl:ic+n≤xs.length) (hn:n≤35184372088832):Ab dr 35 [AQ 0 ic n m] (A7 xs) 1 [] (.val true [.seq .u8 (IA (AA xs ic n))]) []:=by
 have hw:(AA xs ic n).length=n:=by unfold AA;rw [kv,lk];omega
 have hK:A4 n=64*(A4 n / 64):=by unfold A4;omega
 have hp:=Ox n;have hN:A4 n≤n+72:=by unfold A4;omega
 have ii:=AJ_ (AA xs ic n)
 rw [hw] at ii;refine A_ (ie:=[]) func35 dm dm fun β0 w0 h0=>?_
 refine Aj O0 AB (Ahn ic n m xs) ⟨jr hl,jr hn,trivial⟩ (AR dm) h0 jl fun _=>?_
 refine AhS dp (Aho ic n m xs) ?_
 rw [Ahp];have loop:∀ r k,1≤r→k+r=A4 n / 64→gz dr 35 β0 w0 (BA β0 w0 [] (.val true [.seq .u8 (IA (AA xs ic n))]) []) f35.ntmps [] (QT (64*k) (A4 n-64*k) (DJ (AA xs ic n)) (BV (NH (DJ (AA xs ic n)) k)) []):=by
  intro r;induction r with
  | zero=>intro k h;omega
  | succ r ih =>
   intro k _ hk;cases r with
   | zero =>
    refine Ai d_ (Aj O0 AB (Ahr ..) (AKi dn dn dn (Ar.2 dn)) (AR dm) h0 jl fun _=>?_)
    rw [show A4 n-64*k-(64:Int).toNat=0 by rw [show (64:Int).toNat=64 from rfl];omega]
    have e:smN (BV (NH (DJ (AA xs ic n)) k)) (DJ (AA xs ic n)) (64*k)=BV (NH (DJ (AA xs ic n)) (A4 n / 64)):=by rw [← hk];rfl
    rw [e];have:=Ahw h0 (64*k) (DJ (AA xs ic n)) (NH (DJ (AA xs ic n)) (A4 n / 64)) (w0:=w0)
    unfold IA j7;rw [hw];exact Ai dx this
   | succ r =>
    refine Ai eg (Aj O0 AB (Ahq ..) (AKi dn dn dn ?_) (AR dm) h0 jl fun _=>?_)
    ·cases q:Nat.beq (A4 n-64*k) 64 with
     | false=>rfl
     | true=>have:=Ar.1 q;omega
    ·have:=ih (k+1) dn dn
     rw [show 64*(k+1)=64*k+(64:Int).toNat*1 by rw [show (64:Int).toNat=64 from rfl];omega,show A4 n-(64*k+(64:Int).toNat*1)=A4 n-64*k-(64:Int).toNat by rw [show (64:Int).toNat=64 from rfl];omega] at this
     exact this
 have:=loop (A4 n / 64) 0 dn dn
 exact this
def sumSp:ASpec:=fun args H fr ie=>match args with
 | [S]=>match DS S with
  | some (k,ic,n)=>match AF H k with
   | some ⟨_,cs,_⟩=>match A' .u8 cs with
    | some xs=>some (BP [k] 1 fr 0 [] (.val true [.seq .u8 (IA (AA xs ic n))]) [] [(Nat.ble (ic+n) xs.length,true),(Nat.ble n 35184372088832,true)] ie)
    | none=>none
   | none=>none
  | none=>none
 | _=>none
theorem AKj {F:gp} {fn:Func} (jc:dr.funcs[F]? = some fn) (hb:fn.body.isSome=true) (iq:fw fn) (hcan:∀ {ic n m:Nat} {xs:dt},(∀ d∈xs,0≤d∧d<256)→ic+n≤xs.length→n≤35184372088832→Ab dr F [AQ 0 ic n m] (A7 xs) 1 [] (.val true [.seq .u8 (IA (AA xs ic n))]) []):BI dr F sumSp:=by
 refine DN jc hb iq fun args H fr ie r hs=>?_
 unfold sumSp at hs;split at hs;case h_2=>cases hs
 rename_i S;split at hs;case h_2=>cases hs
 rename_i k ic n hS;split at hs;case h_2=>cases hs
 rename_i ty cs o hk;split at hs;case h_2=>cases hs
 rename_i xs jh;injection hs with hs;refine ⟨[k],1,0,[],_,_,_,ie,hs.symm,fun β us w ha hg hc=>?_⟩
 obtain ⟨u1,jf,r1,ha,rfl⟩:=ha;obtain ⟨m,r1⟩:=E8 hS r1;obtain ⟨g1,g2,g3⟩:=EP hg hk jh;exact ⟨[AQ 0 ic n m],A7 xs,hcan g1 (jp hc.1) (jp hc.2.1),rfl,⟨u1,_,CV dn rfl r1,ha,rfl⟩,g2,g3⟩
noncomputable def SSm:dw:=(35,sumSp)::SSl
theorem Ahy:AX dr SSm:=⟨AKj func35 dm dm fun _=>Ahx,AKc⟩
noncomputable def AKk (ic n m:Nat) (xs:dt):h_:=Ak f277 [AQ 0 ic n m] (A7 xs) 1 []
noncomputable def AAE:List Item:=B6 (AZ dr oSl (some 0) 100 1 none (AKk 0 0 0 []))
noncomputable def AAF (ic n m:Nat) (s:AV):List AV:=Dx f277.ntmps [(0,AQ 0 ic n m),(3,s)]
def AAG (xs ys:dt):Heap:=[(0,some (An [.seq .u8 xs])),(1,some ⟨5,[.seq .u8 ys],true⟩)]
noncomputable def kC (ic n m:Nat) (xs ys:dt) (L:Nat) (p:List Bool):h_:=⟨AAE,⟨AAF ic n m (.val false [.sx 1 L 1]),AAG xs ys,2,p⟩⟩
noncomputable def AKl:List Item:=B6 (AZ dr oSl (some 0) 100 1 none (kC 0 0 0 [] [] 0 dx))
noncomputable def AKm (s i:AV) (k:Int):List AV:=Dx f277.ntmps [(3,s),(4,Vx k),(5,i)]
def QU (ys:dt):Heap:=[(1,some ⟨5,[.seq .u8 ys],true⟩)]
noncomputable def ZS (ys:dt) (L:Nat) (k:Int) (i:AV) (p:List Bool):h_:=⟨AKl,⟨AKm (.val false [.sx 1 L 1]) i k,QU ys,2,p⟩⟩
def ED (L:Nat):Bool:=decide (1≤1∧2*L*1≤281474976710656)
theorem Ahz (ic n m:Nat) (xs:dt):AZ dr oSl (some 0) 100 1 (some ([0,3],[0,4],5)) (AKk ic n m xs) =
 some ((true,true)::(Nat.ble (ic+n) xs.length,true)::(ED (0+n),true)::(Nat.ble (0+n) ([]++(xs.drop ic).take n).length,true)::(ED (0+n+1),true)::[],[],⟨AAE,⟨Jw (Dw 1 [4]) (AAF ic n m (.val false [.sx 1 (0+n+1) 1])),IU (Dw 1 [4]) (AAG xs (([]++(xs.drop ic).take n).take (0+n)++[128])),5,[]⟩⟩):=dm
theorem Ah0 (ic n m:Nat) (xs ys:dt) (L:Nat):AZ dr oSl (some 0) 100 1 (some ([0,3],[0,3],4)) (kC ic n m xs ys L dz) =
 some ((AK .i64 L,true)::(true,true)::(!decide (Int.tmod (L:Int) 64=56),true)::(Nat.ble L ys.length,true)::(ED (L+1),true)::[],[],⟨AAE,⟨Jw (Dw 1 [3]) (AAF ic n m (.val false [.sx 1 (L+1) 1])),IU (Dw 1 [3]) (AAG xs (ys.take L++[0])),4,[]⟩⟩):=dm
theorem Ah1 (ic n m:Nat) (xs ys:dt) (L:Nat):AZ dr oSl (some 0) 100 1 (some ([3,4,5],[1],2)) (kC ic n m xs ys L dx) =
 some ((AK .i64 L,true)::(true,true)::(!decide (Int.tmod (L:Int) 64=56),false)::(AK .i64 n,true)::[],[],ZS ys L (AW false .u64 (8*AW false .u64 n)) (.val false [.n .i64 7]) []):=dm
def AAH (k i:Int):Int:=AW false .u8 (Int.fdiv k (2^min (AW false .u64 (wI (8*i))).toNat IntKind.u64.bits))
theorem Ah2 (ys:dt) (L:Nat) (k i:Int):AZ dr oSl (some 0) 100 1 (some ([3,4,5],[3],4)) (ZS ys L k (iA i) dz) =
 some ((decide (0≤i),true)::(decide (0≤AW false .u64 (wI (8*i))∧0≤k),true)::(Nat.ble L ys.length,true)::(ED (L+1),true)::[],[],⟨AKl,⟨Jw (Dw 1 [3]) (AKm (.val false [.sx 1 (L+1) 1]) (iA (wI (i-1))) k),IU (Dw 1 [3]) (QU (ys.take L++[AAH k i])),4,[]⟩⟩):=dm
theorem Ah3 (ys:dt) (L:Nat) (k i:Int):AU dr oSl f277 100 1 [1] (ZS ys L k (iA i) dx)=some ([(decide (0≤i),false)],[],.val false [.sx 1 L 1],QU ys):=dm
def L5 (xs:dt) (j:Nat):dt:=xs++128::List.replicate j 0
theorem AAI (xs:dt) (j:Nat):(L5 xs j).length=xs.length+1+j:=by unfold L5;simp;omega
theorem Ah4 (xs:dt) (j:Nat):L5 xs j++[0]=L5 xs (j+1):=by
 unfold L5;rw [List.replicate_succ',ol];rfl
theorem Ah5 (xs:dt) {c:Nat} (h:c<8) (A:Nat):xs++(Bv A 8).take c++[FC A (7-c)]=xs++(Bv A 8).take (c+1):=by
 rw [ol,List.take_succ_eq_append_getElem (by rw [J6];exact h)]
 congr 2
 simp only [Bv,List.getElem_map,List.getElem_range]
theorem EN {L:Nat} (h:L≤140737488355328):ED L=true:=jm ⟨ju _,dn⟩
theorem Ah6 {ic n m:Nat} {xs:dt} (hl:ic+n≤xs.length) (hn:n≤35184372088832):Ab dr 277 [AQ 0 ic n m] (A7 xs) 1 [] (.val false [.sx 1 (A4 n) 1]) (QU (DJ (AA xs ic n))):=by
 have hw:(AA xs ic n).length=n:=by unfold AA;rw [kv,lk];omega
 have hp:=Ox n;have hN:A4 n≤n+72:=by unfold A4;omega
 have hh:∀ L:Nat,L≤70368744177664→AK .i64 L=true:=fun L h=>by simp only [AK,jx,jt];omega
 refine A_ (ie:=[]) func277 dm dm fun β0 w0 h0=>?_
 have h0':∀ b,1≤b→β0 b=none:=h0
 have loop2:∀ r c,c+r=8→gz dr 277 β0 w0 (BA β0 w0 [] (.val false [.sx 1 (A4 n) 1]) (QU (DJ (AA xs ic n)))) f277.ntmps [] (ZS (L5 (AA xs ic n) (A4 n-n-9)++(Bv (8*n) 8).take c) (A4 n-8+c) ((8*n:Nat):Int) (iA (7-(c:Int))) []):=by
  intro r;induction r with
  | zero =>
   intro c hc;obtain rfl:c=8:=dn
   have e:L5 (AA xs ic n) (A4 n-n-9)++(Bv (8*n) 8).take 8=DJ (AA xs ic n):=by
    unfold L5 DJ;rw [hw,oi (by rw [J6];exact ju _),ol];rfl
   rw [e,show A4 n-8+8=A4 n by omega]
   exact Ai dx (A6 O0 AB func277 (Ah3 ..) ⟨dp,trivial⟩ (AR dm) h0 jl)
  | succ r ih =>
   intro c hc;have ei:(7:Int)-(c:Int)=((7-c:Nat):Int):=dn
   have e8:AW false .u64 (wI (8*((7-c:Nat):Int)))=((8*(7-c):Nat):Int):=by rw [Au dn,DD,IntKind.wrap_u64];omega
   have ii:(L5 (AA xs ic n) (A4 n-n-9)++(Bv (8*n) 8).take c).length=A4 n-8+c:=by
    rw [ku,AAI,hw,kv,J6];omega
   refine Ai dz (Aj O0 AB (Ah2 ..) ?_ (AR dm) h0 jl fun _=>?_)
   ·rw [ei,e8,ii];exact ⟨jm dn,jm ⟨dn,dn⟩,jr (ju _),EN dn,trivial⟩
   ·refine Nm (m:=2) dm h0 ?_
    have ev:AAH ((8*n:Nat):Int) (7-(c:Int))=FC (8*n) (7-c):=by
     unfold AAH FC;rw [ei,e8,jz,show min (8*(7-c)) IntKind.u64.bits=8*(7-c) from mr (by show 8*(7-c)≤64;omega),q_ _ (by exact_mod_cast qt (2^(8*(7-c)))),DD,IntKind.wrap_u8,N3]
     have:((8*n:Nat):Int) / (2^(8*(7-c)))=((8*n / 2^(8*(7-c)):Nat):Int):=by rw [se,ql];rfl
     rw [this];omega
    rw [ev,oi (by rw [ii];exact ju _),Ah5 _ dn,Au (z:=(7:Int)-(c:Int)-1) dn]
    have:=ih (c+1) dn
    rw [show (7:Int)-((c+1:Nat):Int)=7-(c:Int)-1 by omega] at this
    exact this
 have mid:gz dr 277 β0 w0 (BA β0 w0 [] (.val false [.sx 1 (A4 n) 1]) (QU (DJ (AA xs ic n)))) f277.ntmps [] (ZS (L5 (AA xs ic n) (A4 n-n-9)) (A4 n-8) ((8*n:Nat):Int) (.val false [.n .i64 7]) []):=by
  have:=loop2 8 0 rfl
  rw [List.take_zero,lh] at this;exact Hv this
 have loop1:∀ r j,n+1+j+r=A4 n-8→gz dr 277 β0 w0 (BA β0 w0 [] (.val false [.sx 1 (A4 n) 1]) (QU (DJ (AA xs ic n)))) f277.ntmps [] (kC ic n m xs (L5 (AA xs ic n) j) (n+1+j) []):=by
  intro r;induction r with
  | zero =>
   intro j hj;have ht:Int.tmod ((n+1+j:Nat):Int) 64=56:=by
    rw [o_ dn];unfold A4 at hj;omega
   refine Ai dx (Aj O0 AB (Ah1 ..) ⟨hh _ dn,rfl,by rw [jm ht];rfl,hh _ dn,trivial⟩ (AR dm) h0 jl fun _=>?_)
   rw [show AW false .u64 (8*AW false .u64 (n:Int))=((8*n:Nat):Int) by rw [DD,DD,IntKind.wrap_u64,IntKind.wrap_u64];omega,show j=A4 n-n-9 by omega,show n+1+(A4 n-n-9)=A4 n-8 by omega]
   exact mid
  | succ r ih =>
   intro j hj;have ht:Int.tmod ((n+1+j:Nat):Int) 64≠56:=by
    rw [o_ dn];unfold A4 at hj;omega
   refine Ai dz (Aj O0 AB (Ah0 ..) ⟨hh _ dn,rfl,by rw [jq ht];rfl,jr (by rw [AAI,hw];exact ju _),EN dn,trivial⟩ (AR dm) h0 jl fun _=>?_)
   refine Nm (m:=2) dm h0 ?_
   rw [oi (by rw [AAI,hw];exact ju _),Ah4]
   exact ih (j+1) dn
 refine Aj O0 AB (Ahz ic n m xs) ⟨rfl,jr hl,EN dn,jr ?_,EN dn,trivial⟩ (AR dm) h0 jl fun _=>?_
 ·rw [oh,kv,lk];omega
 ·refine Nm (m:=2) dm h0 ?_
  rw [oh,oi (l:=(xs.drop ic).take n) (by rw [kv];omega),kr]
  exact loop1 (A4 n-8-(n+1)) 0 dn
def rpadSp:ASpec:=fun args H fr ie=>match args with
 | [S]=>match DS S with
  | some (k,ic,n)=>match AF H k with
   | some ⟨_,cs,_⟩=>match A' .u8 cs with
    | some xs=>some (BP [k] 1 fr 1 [] (.val false [.sx 1 (A4 n) 1]) (QU (DJ (AA xs ic n))) [(Nat.ble (ic+n) xs.length,true),(Nat.ble n 35184372088832,true)] ie)
    | none=>none
   | none=>none
  | none=>none
 | _=>none
theorem Ah7:BI dr 277 rpadSp:=by
 refine DN func277 dm dm fun args H fr ie r hs=>?_
 unfold rpadSp at hs;split at hs;case h_2=>cases hs
 rename_i S;split at hs;case h_2=>cases hs
 rename_i k ic n hS;split at hs;case h_2=>cases hs
 rename_i ty cs o hk;split at hs;case h_2=>cases hs
 rename_i xs jh;injection hs with hs;refine ⟨[k],1,1,[],_,_,_,ie,hs.symm,fun β us w ha hg hc=>?_⟩
 obtain ⟨u1,jf,r1,ha,rfl⟩:=ha;obtain ⟨m,r1⟩:=E8 hS r1;obtain ⟨g1,g2,g3⟩:=EP hg hk jh;exact ⟨[AQ 0 ic n m],A7 xs,Ah6 (jp hc.1) (jp hc.2.1),dm,⟨u1,_,CV dn rfl r1,ha,rfl⟩,g2,g3⟩
noncomputable def SSn:dw:=(277,rpadSp)::SSm
theorem AKn:AX dr SSn:=⟨Ah7,Ahy⟩
noncomputable abbrev oSn:ia:=AG SSn KV
theorem AAJ:g_ dr oSn:=AH AKn BR
noncomputable def AKo (ic n m:Nat) (xs:dt):h_:=Ak f245 [AQ 0 ic n m] (A7 xs) 1 []
abbrev AAK:Option (List Nat×List Nat×Nat):=some ([2,3,4,5],[1,2,3],4)
noncomputable def QV (ic n m:Nat) (xs:dt):h_:=Iv (AZ dr oSn (some 0) 100 1 AAK (AKo ic n m xs))
noncomputable def Ah8:List Item:=(QV 0 0 0 []).todo
noncomputable def V0 (N:Nat) (P:dt) (s:Nat→Int) (i:Int) (p:List Bool):h_:=⟨Ah8,⟨Dx f245.ntmps [(2,.val false [.p 1 0]),(3,.val false [.sx 2 N 1]),(4,.val false [.p 3 0]),(5,iA i)],[(1,some ⟨54,List.replicate 32 (.n .u8 0),false⟩),(2,some ⟨5,[.seq .u8 P],true⟩),(3,some ⟨109,[.seq .u32 (l8 s)],false⟩)],4,p⟩⟩
theorem Ah9 (ic n m:Nat) (xs:dt):AZ dr oSn (some 0) 100 1 AAK (AKo ic n m xs)=some ((Nat.ble (ic+n) xs.length,true)::(Nat.ble n 35184372088832,true)::[],[],QV ic n m xs):=dm
theorem Ah_ (ic n m:Nat) (xs:dt):(⟨(QV ic n m xs).todo,⟨(QV ic n m xs).s.T.map GL,(QV ic n m xs).s.H,(QV ic n m xs).s.fr,(QV ic n m xs).s.ie⟩⟩:h_)=V0 (A4 n) (DJ (AA xs ic n)) (BV ZM) 0 []:=dm
def QW (i:Int) (j:Nat):Int:=wI (i+(j:Int))
def kD (N len:Nat) (i:Int):Nat→Nat→du
 | 0,_=>[(true,true),(true,true)]
 | f+1,j=>(decide (0≤QW i j∧QW i j<N),true)::(decide (0+(QW i j).toNat*1<len),true)::kD N len i f (j+1)
def AAL (P:dt) (i:Int):dt:=(List.range 64).map fun j=>P.getD (0+(QW i j).toNat*1) 0
def AAM (s:Nat→Int) (P:dt) (i:Int):Nat→Int:=BV (TK (wN (l8 s)) (bN (AAL P i)))
theorem Ah' (N:Nat) (P:dt) (s:Nat→Int) (i:Int):AZ dr oSn (some 4) 3000 1 AAK (V0 N P s i dz)=some ((AK .i64 N,true)::(decide (wI (i+64)≤N),true)::kD N P.length i 64 0,[],V0 N P (AAM s P i) (wI (i+64)) []):=dm
noncomputable def TP (N:Nat) (P:dt) (s:Nat→Nat) (i:Int):=AU dr oSn f245 1000 1 [] (V0 N P (BV s) i dx)
def kE:du→du
 | _::_::r=>r
 | _=>[]
def o4C (x:Option (du×List Nat×AV×Heap)):du:=match x with | some (c,_,_,_)=>c | none=>[]
def o4K (x:Option (du×List Nat×AV×Heap)):List Nat:=match x with | some (_,k,_,_)=>k | none=>[0]
def o4I (x:Option (du×List Nat×AV×Heap)):Bool:=match x with | some _=>true | none=>false
structure Outc (x:Option (du×List Nat×AV×Heap)) (a b:Bool×Bool):Prop where
 io:o4I x=true
 ky:o4K x=[]
 co:o4C x=a::b::kE (o4C x)
 cd:TL (kE (o4C x))=true
theorem AiC {P:gr} {O:ia} {f:gp} {fn:Func} {β0:Env} {w0:gn} {n:Fz} {W:List Nat} (hO:g_ P O) (hm:P.follows .mixedOrders=true) (jc:P.funcs[f]? = some fn) {ir k0:Nat} {ks:List Nat} {x:h_} {a b:Bool×Bool}
  (h:Outc (AU P O fn ir k0 ks x) a b) (ha:a.1=a.2) (hb:b.1=b.2) (jj:BW n x.s) (h0:∀ b,k0≤b→β0 b=none) (hD:n.D=[]:=by rfl):gz P f β0 w0 (BA β0 w0 W (NI (AU P O fn ir k0 ks x)) (Vz (AU P O fn ir k0 ks x))) n W x:=by
 obtain ⟨h1,h2,h3,h4⟩:=h;generalize e:AU P O fn ir k0 ks x=y at *
 cases y with
 | none=>cases h1
 | some v =>
  obtain ⟨c',k,v,H⟩:=v;have h2:k=[]:=h2
  have h3':c'=a::b::kE c':=h3
  subst h2;refine A6 hO hm jc e ?_ jj h0 jl hD
  have h5:AM (a::b::kE c'):=⟨ha,hb,Vq h4⟩
  rwa [← h3'] at h5
theorem AiD {P:gr} {f:gp} {β0:Env} {w0:gn} {R:Ending→gn→Prop} {n:Nat} {W:List Nat} {x:h_} (h:gz P f β0 w0 R n W ⟨x.todo,⟨x.s.T.map GL,x.s.H,x.s.fr,x.s.ie⟩⟩):gz P f β0 w0 R n W x:=Hv (T:=x.s.T) h
theorem AiE (N:Nat) (P:dt) (s:Nat→Nat) (i:Int):Outc (TP N P s i) (AK .i64 N,true) (decide (wI (i+64)≤N),false):=⟨dm,dm,dm,dm⟩
theorem AiF (N:Nat) (P:dt) (s:Nat→Nat) (i:Int):NI (TP N P s i)=.val true (j9 (NI (TP N P s i))):=dm
theorem AiG (N:Nat) (P:dt) (s:Nat→Nat) (i:Int):A' .u8 (j9 (NI (TP N P s i)))=some (smV (BV s)):=dm
theorem AiH (N:Nat) (P:dt) (s:Nat→Nat) (i:Int):Vz (TP N P s i)=[]:=dm
theorem AiI {β0:Env} {w0:gn} (h0:∀ b,1≤b→β0 b=none) {N:Nat} (P:dt) (s:Nat→Nat) {i:Int} (hN:AK .i64 N=true) (hi:decide (wI (i+64)≤N)=false) :
  gz dr 245 β0 w0 (BA β0 w0 [] (.val true [.seq .u8 ((List.range 32).map fun i=>((s (i / 4) / 2^(24-8*(i % 4)) % 256:Nat):Int))]) []) f245.ntmps [] (V0 N P (BV s) i dx):=by
 have:=AiC (P:=dr) (n:=f245.ntmps) (β0:=β0) (w0:=w0) (W:=[]) AAJ AB func245 (AiE N P s i) hN hi (AR dm) h0
 refine AKh this fun e w ho=>?_
 have ho:BA β0 w0 [] (NI (TP N P s i)) (Vz (TP N P s i)) e w:=ho
 rw [AiH] at ho;rw [← AKf s];exact AKd (AKg (AiF N P s i) (AiG N P s i)) ho
theorem AKp {N len:Nat} {i:Nat} (hN:N≤281474976710656) (hl:N≤len):∀ f j,i+j+f≤N→AM (kD N len (i:Int) f j)
 | 0,_,_=>⟨rfl,rfl,trivial⟩
 | f+1,j,h=>by
  have e:QW (i:Int) j=((i+j:Nat):Int):=by unfold QW;rw [Au dn];omega
  rw [kD,e];exact ⟨jm ⟨dn,dn⟩,jm dn,AKp hN hl f (j+1) dn⟩
theorem AiJ {P:dt} {i:Nat} (h:i+64≤P.length) (hP:P.length≤281474976710656):AAL P (i:Int)=(P.drop i).take 64:=by
 unfold AAL;refine sf (by simp;omega) fun k h1 h2=>?_
 have hk:k<64:=by simpa using h1
 have e:QW (i:Int) k=((i+k:Nat):Int):=by unfold QW;rw [Au dn];omega
 rw [List.getElem_map,List.getElem_range,e,List.getElem_take,List.getElem_drop,show 0+((i+k:Nat):Int).toNat*1=i+k by omega]
 simp [List.getD_eq_getElem?_getD,show i+k<P.length by omega]
theorem AiK {ic n m:Nat} {xs:dt} (hl:ic+n≤xs.length) (hn:n≤35184372088832):Ab dr 245 [AQ 0 ic n m] (A7 xs) 1 [] (.val true [.seq .u8 (IA (AA xs ic n))]) []:=by
 have hw:(AA xs ic n).length=n:=by unfold AA;rw [kv,lk];omega
 have hK:A4 n=64*(A4 n / 64):=by unfold A4;omega
 have hp:=Ox n;have hN:A4 n≤n+72:=by unfold A4;omega
 have ii:=AJ_ (AA xs ic n)
 rw [hw] at ii;have hh:AK .i64 (A4 n)=true:=by simp only [AK,jx,jt];omega
 refine A_ (ie:=[]) func245 dm dm fun β0 w0 h0=>?_
 refine Aj AAJ AB (Ah9 ic n m xs) ⟨jr hl,jr hn,trivial⟩ (AR dm) h0 jl fun _=>?_
 refine AiD (x:=QV ic n m xs) ?_
 rw [Ah_];have loop:∀ r k,k+r=A4 n / 64→gz dr 245 β0 w0 (BA β0 w0 [] (.val true [.seq .u8 (IA (AA xs ic n))]) []) f245.ntmps [] (V0 (A4 n) (DJ (AA xs ic n)) (BV (NH (DJ (AA xs ic n)) k)) ((64*k:Nat):Int) []):=by
  intro r;induction r with
  | zero =>
   intro k hk;have:=AiI (N:=A4 n) (i:=((64*k:Nat):Int)) h0 (DJ (AA xs ic n)) (NH (DJ (AA xs ic n)) (A4 n / 64)) (w0:=w0) hh (by rw [Au dn];exact jq dn)
   unfold IA j7;rw [hw,show k=A4 n / 64 by omega] at *
   exact Ai dx this
  | succ r ih =>
   intro k hk;refine Ai dz (Aj AAJ AB (Ah' ..) ⟨hh,by rw [Au dn];exact jm dn,AKp dn dn 64 0 dn⟩ (AR dm) h0 jl fun _=>?_)
   have e:AAM (BV (NH (DJ (AA xs ic n)) k)) (DJ (AA xs ic n)) ((64*k:Nat):Int)=BV (NH (DJ (AA xs ic n)) (k+1)):=by
    unfold AAM;rw [AiJ dn dn];rfl
   rw [e,Au (z:=((64*k:Nat):Int)+64) dn];have:=ih (k+1) dn
   rw [show ((64*(k+1):Nat):Int)=((64*k:Nat):Int)+64 by omega] at this
   exact this
 exact loop (A4 n / 64) 0 dn
noncomputable def SSo:dw:=(245,sumSp)::SSn
theorem AKq:AX dr SSo:=⟨AKj func245 dm dm fun _=>AiK,AKn⟩
noncomputable abbrev oSo:ia:=AG SSo KV
theorem V1:g_ dr oSo:=AH AKq BR
noncomputable abbrev grF:Func:=f89
def V2:AV:=.val false [.v (.slice none 0 0)]
noncomputable def grE (i:Int) (p:List Bool):h_:=Ak grF [V2,iA i] [] 0 p
def QX (i:Int):Int:=wI (i-wI ((0:Int)-0))
def grO (i:Int):Heap:=[(0,some ⟨5,[.seq .u8 (List.replicate i.toNat 0)],true⟩)]
theorem AiL (i:Int):AU dr oSo grF 200 0 [0] (grE i ee)=some ((decide (i<0),false)::(true,true)::(decide (0<QX i),true)::(true,true)::(decide (0≤QX i∧QX i≤9223372036854775807),true)::(ED (0+(QX i).toNat),true)::(true,true)::(true,true)::[],[],.val false [.sx 0 0 1],grO (QX i)):=dm
noncomputable def V3 (i:Int):h_:=Iv (GF dr oSo 14 0 (grE i ef))
theorem AiM (i:Int):GF dr oSo 14 0 (grE i ef)=some ((decide (i<0),false)::(true,true)::(decide (0<QX i),false)::[],[],V3 i):=dm
theorem AiN (i:Int):AU dr oSo grF 200 0 [0] ⟨(V3 i).todo,⟨RG 0 1 [0] 0 (V3 i).s.T,[]++[(0,some ⟨5,[.seq .u8 []],true⟩)],0+1,[]⟩⟩=some ([],[],.val false [.sx 0 0 1],[(0,some ⟨5,[.seq .u8 []],true⟩)]):=dm
theorem AiO (i:Int):V3 i=⟨(V3 i).todo,⟨(V3 i).s.T,[],0,[]⟩⟩:=dm
theorem AiP {i:Nat} (h:i≤35184372088832):QX (i:Int)=i:=by
 unfold QX;rw [show wI ((0:Int)-0)=0 from rfl,Au dn];omega
theorem AiQ {i:Nat} (h:i≤35184372088832):Ab dr 89 [V2,iA i] [] 0 [] (.val false [.sx 0 0 1]) (grO i):=by
 have e:=AiP h;rcases md i with h0 | h0
 ·subst h0;refine A_ (ie:=ef) func89 dm dm fun β0 w0 hb=>?_
  refine RN V1 AB (AiM ((0:Nat):Int)) ⟨dp,rfl,by rw [e];decide,trivial⟩ (AR dm) hb jl fun _=>?_
  rw [AiO];refine bO (ts:=[0]) (sz:=1) (ty:=5) (kd:=.u8) rfl (hb 0 (ju _)) ?_
  exact A6 V1 AB func89 (AiN _) trivial (AR dm) hb jl
 ·refine A_ (ie:=ee) func89 dm dm fun β0 w0 hb=>?_
  have:=A6 (P:=dr) (n:=grF.ntmps) (β0:=β0) (w0:=w0) (W:=[]) V1 AB func89 (AiL (i:Int)) ⟨jq dn,rfl,jm (by rw [e];omega),rfl,jm (by rw [e];omega),by rw [e];exact EN dn,rfl,rfl,trivial⟩ (AR dm) hb jl
  rw [e] at this;exact this
def grSp:ASpec:=fun args _ fr ie=>match args with
 | [.val false [.v (.slice none 0 0)],I]=>match Bp (some I) with
  | some (_,.i64,i)=>some (BP [] 0 fr 1 [] (.val false [.sx 0 0 1]) (grO i) [(decide (0≤i∧i≤35184372088832),true)] ie)
  | _=>none
 | _=>none
theorem AKr {β:Env} {w:gn}:Ex.Good (A9 β [] 0) [] w:=⟨(fun _ _ h=>by cases h),(fun _ _ _ _ _ h=>by cases h),(fun b B n h=>by
 have e:Nat.blt b 0=false:=by cases q:Nat.blt b 0 with | false=>rfl | true=>exact absurd (BX.1 q) (pf b)
 simp [A9,e] at h)⟩
theorem AiR:BI dr 89 grSp:=by
 refine DN func89 dm dm fun args H fr ie r hs=>?_
 unfold grSp at hs;split at hs;case h_2=>cases hs
 rename_i I;split at hs;case h_2=>cases hs
 rename_i c i hI;injection hs with hs;refine ⟨[],0,1,[],_,_,_,ie,hs.symm,fun β us w ha hg hc=>?_⟩
 obtain ⟨u1,jf,r1,⟨u2,jg,r2,ha,rfl⟩,rfl⟩:=ha;have hi:=kj hc.1;obtain ⟨n,rfl⟩:=kw hi.1;exact ⟨[V2,iA n],[],AiQ dn,dm,⟨u1,_,MT rfl r1,⟨u2,_,(NC hI r2).2 _,ha,rfl⟩,rfl⟩,AKr,fun k h=>by cases h⟩
noncomputable def SSp:dw:=(89,grSp)::SSo
theorem AKs:AX dr SSp:=⟨AiR,AKq⟩
noncomputable abbrev oSp:ia:=AG SSp KV
theorem kF:g_ dr oSp:=AH AKs BR
abbrev ft:List Bool:=[true,false,true,false,true,false,false,true,true,true,false]
abbrev fu:List Bool:=[true,false,true,false,true,false,true,false,false,true,true,true,true,false]
open Ex Num
set_option maxRecDepth 100000
set_option maxHeartbeats 4000000
noncomputable abbrev ccF:Func:=f37
def KY (k:Nat) (ys:dt):Heap:=[(k,some ⟨5,[.seq .u8 ys],true⟩)]
theorem HA {xs:dt} {ic n:Nat} (h:ic+n≤xs.length):(AA xs ic n).length=n:=by unfold AA;rw [kv,lk];omega
theorem F5 {l:dt} {n:Nat} (h:l.length=n):l.take n=l:=oi dn
theorem L6 {a b:dt} {n m:Nat} (h:a.length=n) (k:b.length=m):(a++b).length=n+m:=by rw [ku,h,k]
theorem HB {L:Nat} (h:L≤35184372088832):AK .i64 L=true:=by simp only [AK,jx,jt];omega
theorem kG (n:Nat):decide ((n:Int)<0)=false:=jq dn
theorem TQ {a b:Nat} (h:a+b≤35184372088832):wI ((a:Int)+(b:Int))=((a+b:Nat):Int):=by rw [Au dn];omega
noncomputable def AAQ (o1 n1 m1 o2 n2 m2:Nat) (x1 x2:dt):Heap:=[(0,some (An [.sl 1 o1 n1 m1,.sl 2 o2 n2 m2])),(1,some (An [.seq .u8 x1])),(2,some (An [.seq .u8 x2]))]
noncomputable def AiS (o1 n1 m1 o2 n2 m2:Nat) (x1 x2:dt):h_:=Ak ccF [AQ 0 0 2 2] (AAQ o1 n1 m1 o2 n2 m2 x1 x2) 3 [true,false,true,false,false,true,true,false]
def kI (n1 n2:Nat):Int:=wI (wI (0+(n1:Int))+(n2:Int))
def AKt (o1 n1 o2 n2:Nat) (x1 x2:dt):dt:=(AA x1 o1 n1).take (0+n1)++AA x2 o2 n2
theorem AiT (o1 n1 m1 o2 n2 m2:Nat) (x1 x2:dt):AU dr oSp ccF 400 3 [5] (AiS o1 n1 m1 o2 n2 m2 x1 x2)=some (tt 3 ((AK .i64 n1,true)::(decide (wI (0+(n1:Int))<0),false)::tt 2 ((AK .i64 n2,true)::(decide (wI (wI (0+(n1:Int))+(n2:Int))<0),false)::(false,false)::(decide (0≤kI n1 n2∧kI n1 n2≤35184372088832),true)::tt 4 ((Nat.ble (o1+n1) x1.length,true)::(ED (0+n1),true)::tt 2 ((Nat.ble (0+n1) (AA x1 o1 n1).length,true)::(Nat.ble (o2+n2) x2.length,true)::(ED (0+n1+n2),true)::(false,false)::[])))),[],.val false [.sx 5 (0+n1+n2) 1],KY 5 (AKt o1 n1 o2 n2 x1 x2)):=dm
theorem AiU {o1 n1 m1 o2 n2 m2:Nat} {x1 x2:dt} (h1:o1+n1≤x1.length) (h2:o2+n2≤x2.length) (hn:n1+n2≤35184372088832):Ab dr 37 [AQ 0 0 2 2] (AAQ o1 n1 m1 o2 n2 m2 x1 x2) 3 [] (.val false [.sx 5 (n1+n2) 1]) (KY 5 (AA x1 o1 n1++AA x2 o2 n2)):=by
 have w1:=HA h1;have w2:=HA h2;have e1:wI (0+(n1:Int))=(n1:Nat):=by rw [Au dn];omega
 have e2:=TQ (a:=n1) (b:=n2) dn
 have eA:kI n1 n2=((n1+n2:Nat):Int):=by unfold kI;rw [e1,e2]
 have l1:=w1;have l2:=L6 l1 w2;have q2:(AA x1 o1 n1).take (0+n1)++AA x2 o2 n2=AA x1 o1 n1++AA x2 o2 n2:=by rw [show 0+n1=n1 by omega,F5 l1]
 have eY:AKt o1 n1 o2 n2 x1 x2=AA x1 o1 n1++AA x2 o2 n2:=q2
 have eL:0+n1+n2=n1+n2:=dn
 refine A_ (ie:=[true,false,true,false,false,true,true,false]) func37 dm dm fun β0 w0 hb=>?_
 have:=A6 (P:=dr) (n:=ccF.ntmps) (β0:=β0) (w0:=w0) (W:=[]) kF AB func37 (AiT o1 n1 m1 o2 n2 m2 x1 x2) ?_ (AR dm) hb jl
 ·rw [eY,eL] at this;exact this
 ·rw [eA];simp only [e1,e2,kG];exact AY 3 ⟨HB dn,rfl,AY 2 ⟨HB dn,rfl,rfl,jm ⟨dn,dn⟩,AY 4 ⟨jr h1,EN dn,AY 2 ⟨jr (by rw [w1];omega),jr h2,EN dn,rfl,trivial⟩⟩⟩⟩
noncomputable def AAR (o1 n1 m1 o2 n2 m2 o3 n3 m3:Nat) (x1 x2 x3:dt):Heap:=[(0,some (An [.sl 1 o1 n1 m1,.sl 2 o2 n2 m2,.sl 3 o3 n3 m3])),(1,some (An [.seq .u8 x1])),(2,some (An [.seq .u8 x2])),(3,some (An [.seq .u8 x3]))]
noncomputable def AiV (o1 n1 m1 o2 n2 m2 o3 n3 m3:Nat) (x1 x2 x3:dt):h_:=Ak ccF [AQ 0 0 3 3] (AAR o1 n1 m1 o2 n2 m2 o3 n3 m3 x1 x2 x3) 4 ft
def kJ (n1 n2 n3:Nat):Int:=wI (wI (wI (0+(n1:Int))+(n2:Int))+(n3:Int))
def AKu (o1 n1 o2 n2 o3 n3:Nat) (x1 x2 x3:dt):dt:=((AA x1 o1 n1).take (0+n1)++AA x2 o2 n2).take (0+n1+n2)++AA x3 o3 n3
theorem AiW (o1 n1 m1 o2 n2 m2 o3 n3 m3:Nat) (x1 x2 x3:dt):AU dr oSp ccF 400 4 [7] (AiV o1 n1 m1 o2 n2 m2 o3 n3 m3 x1 x2 x3)=some (tt 3 ((AK .i64 n1,true)::(decide (wI (0+(n1:Int))<0),false)::tt 2 ((AK .i64 n2,true)::(decide (wI (wI (0+(n1:Int))+(n2:Int))<0),false)::tt 2 ((AK .i64 n3,true)::(decide (wI (wI (wI (0+(n1:Int))+(n2:Int))+(n3:Int))<0),false)::(false,false)::(decide (0≤kJ n1 n2 n3∧kJ n1 n2 n3≤35184372088832),true)::tt 4 ((Nat.ble (o1+n1) x1.length,true)::(ED (0+n1),true)::tt 2 ((Nat.ble (0+n1) (AA x1 o1 n1).length,true)::(Nat.ble (o2+n2) x2.length,true)::(ED (0+n1+n2),true)::tt 2 ((Nat.ble (0+n1+n2) ((AA x1 o1 n1).take (0+n1)++AA x2 o2 n2).length,true)::(Nat.ble (o3+n3) x3.length,true)::(ED (0+n1+n2+n3),true)::(false,false)::[])))))),[],.val false [.sx 7 (0+n1+n2+n3) 1],KY 7 (AKu o1 n1 o2 n2 o3 n3 x1 x2 x3)):=dm
theorem AiX {o1 n1 m1 o2 n2 m2 o3 n3 m3:Nat} {x1 x2 x3:dt} (h1:o1+n1≤x1.length) (h2:o2+n2≤x2.length) (h3:o3+n3≤x3.length) (hn:n1+n2+n3≤35184372088832):Ab dr 37 [AQ 0 0 3 3] (AAR o1 n1 m1 o2 n2 m2 o3 n3 m3 x1 x2 x3) 4 [] (.val false [.sx 7 (n1+n2+n3) 1]) (KY 7 (AA x1 o1 n1++AA x2 o2 n2++AA x3 o3 n3)):=by
 have w1:=HA h1;have w2:=HA h2;have w3:=HA h3;have e1:wI (0+(n1:Int))=(n1:Nat):=by rw [Au dn];omega
 have e2:=TQ (a:=n1) (b:=n2) dn
 have e3:=TQ (a:=n1+n2) (b:=n3) dn
 have eA:kJ n1 n2 n3=((n1+n2+n3:Nat):Int):=by unfold kJ;rw [e1,e2,e3]
 have l1:=w1;have l2:=L6 l1 w2;have l3:=L6 l2 w3;have q2:(AA x1 o1 n1).take (0+n1)++AA x2 o2 n2=AA x1 o1 n1++AA x2 o2 n2:=by rw [show 0+n1=n1 by omega,F5 l1]
 have q3:((AA x1 o1 n1).take (0+n1)++AA x2 o2 n2).take (0+n1+n2)++AA x3 o3 n3=AA x1 o1 n1++AA x2 o2 n2++AA x3 o3 n3:=by rw [q2,show 0+n1+n2=n1+n2 by omega,F5 l2]
 have eY:AKu o1 n1 o2 n2 o3 n3 x1 x2 x3=AA x1 o1 n1++AA x2 o2 n2++AA x3 o3 n3:=q3
 have eL:0+n1+n2+n3=n1+n2+n3:=dn
 refine A_ (ie:=ft) func37 dm dm fun β0 w0 hb=>?_
 have:=A6 (P:=dr) (n:=ccF.ntmps) (β0:=β0) (w0:=w0) (W:=[]) kF AB func37 (AiW o1 n1 m1 o2 n2 m2 o3 n3 m3 x1 x2 x3) ?_ (AR dm) hb jl
 ·rw [eY,eL] at this;exact this
 ·rw [eA];simp only [e1,e2,e3,kG];exact AY 3 ⟨HB dn,rfl,AY 2 ⟨HB dn,rfl,AY 2 ⟨HB dn,rfl,rfl,jm ⟨dn,dn⟩,AY 4 ⟨jr h1,EN dn,AY 2 ⟨jr (by rw [w1];omega),jr h2,EN dn,AY 2 ⟨jr (by rw [q2,l2];omega),jr h3,EN dn,rfl,trivial⟩⟩⟩⟩⟩⟩
noncomputable def AAS (o1 n1 m1 o2 n2 m2 o3 n3 m3 o4 n4 m4:Nat) (x1 x2 x3 x4:dt):Heap:=[(0,some (An [.sl 1 o1 n1 m1,.sl 2 o2 n2 m2,.sl 3 o3 n3 m3,.sl 4 o4 n4 m4])),(1,some (An [.seq .u8 x1])),(2,some (An [.seq .u8 x2])),(3,some (An [.seq .u8 x3])),(4,some (An [.seq .u8 x4]))]
noncomputable def AiY (o1 n1 m1 o2 n2 m2 o3 n3 m3 o4 n4 m4:Nat) (x1 x2 x3 x4:dt):h_:=Ak ccF [AQ 0 0 4 4] (AAS o1 n1 m1 o2 n2 m2 o3 n3 m3 o4 n4 m4 x1 x2 x3 x4) 5 fu
def kK (n1 n2 n3 n4:Nat):Int:=wI (wI (wI (wI (0+(n1:Int))+(n2:Int))+(n3:Int))+(n4:Int))
def AKv (o1 n1 o2 n2 o3 n3 o4 n4:Nat) (x1 x2 x3 x4:dt):dt:=(((AA x1 o1 n1).take (0+n1)++AA x2 o2 n2).take (0+n1+n2)++AA x3 o3 n3).take (0+n1+n2+n3)++AA x4 o4 n4
theorem AiZ (o1 n1 m1 o2 n2 m2 o3 n3 m3 o4 n4 m4:Nat) (x1 x2 x3 x4:dt):AU dr oSp ccF 400 5 [9] (AiY o1 n1 m1 o2 n2 m2 o3 n3 m3 o4 n4 m4 x1 x2 x3 x4)=some (tt 3 ((AK .i64 n1,true)::(decide (wI (0+(n1:Int))<0),false)::tt 2 ((AK .i64 n2,true)::(decide (wI (wI (0+(n1:Int))+(n2:Int))<0),false)::tt 2 ((AK .i64 n3,true)::(decide (wI (wI (wI (0+(n1:Int))+(n2:Int))+(n3:Int))<0),false)::tt 2 ((AK .i64 n4,true)::(decide (wI (wI (wI (wI (0+(n1:Int))+(n2:Int))+(n3:Int))+(n4:Int))<0),false)::(false,false)::(decide (0≤kK n1 n2 n3 n4∧kK n1 n2 n3 n4≤35184372088832),true)::tt 4 ((Nat.ble (o1+n1) x1.length,true)::(ED (0+n1),true)::tt 2 ((Nat.ble (0+n1) (AA x1 o1 n1).length,true)::(Nat.ble (o2+n2) x2.length,true)::(ED (0+n1+n2),true)::tt 2 ((Nat.ble (0+n1+n2) ((AA x1 o1 n1).take (0+n1)++AA x2 o2 n2).length,true)::(Nat.ble (o3+n3) x3.length,true)::(ED (0+n1+n2+n3),true)::tt 2 ((Nat.ble (0+n1+n2+n3) (((AA x1 o1 n1).take (0+n1)++AA x2 o2 n2).take (0+n1+n2)++AA x3 o3 n3).length,true)::(Nat.ble (o4+n4) x4.length,true)::(ED (0+n1+n2+n3+n4),true)::(false,false)::[])))))))),[],.val false [.sx 9 (0+n1+n2+n3+n4) 1],KY 9 (AKv o1 n1 o2 n2 o3 n3 o4 n4 x1 x2 x3 x4)):=dm
theorem Aia {o1 n1 m1 o2 n2 m2 o3 n3 m3 o4 n4 m4:Nat} {x1 x2 x3 x4:dt} (h1:o1+n1≤x1.length) (h2:o2+n2≤x2.length) (h3:o3+n3≤x3.length) (h4:o4+n4≤x4.length) (hn:n1+n2+n3+n4≤35184372088832):Ab dr 37 [AQ 0 0 4 4] (AAS o1 n1 m1 o2 n2 m2 o3 n3 m3 o4 n4 m4 x1 x2 x3 x4) 5 [] (.val false [.sx 9 (n1+n2+n3+n4) 1]) (KY 9 (AA x1 o1 n1++AA x2 o2 n2++AA x3 o3 n3++AA x4 o4 n4)):=by
 have w1:=HA h1;have w2:=HA h2;have w3:=HA h3;have w4:=HA h4;have e1:wI (0+(n1:Int))=(n1:Nat):=by rw [Au dn];omega
 have e2:=TQ (a:=n1) (b:=n2) dn
 have e3:=TQ (a:=n1+n2) (b:=n3) dn
 have e4:=TQ (a:=n1+n2+n3) (b:=n4) dn
 have eA:kK n1 n2 n3 n4=((n1+n2+n3+n4:Nat):Int):=by unfold kK;rw [e1,e2,e3,e4]
 have l1:=w1;have l2:=L6 l1 w2;have l3:=L6 l2 w3;have l4:=L6 l3 w4;have q2:(AA x1 o1 n1).take (0+n1)++AA x2 o2 n2=AA x1 o1 n1++AA x2 o2 n2:=by rw [show 0+n1=n1 by omega,F5 l1]
 have q3:((AA x1 o1 n1).take (0+n1)++AA x2 o2 n2).take (0+n1+n2)++AA x3 o3 n3=AA x1 o1 n1++AA x2 o2 n2++AA x3 o3 n3:=by rw [q2,show 0+n1+n2=n1+n2 by omega,F5 l2]
 have q4:(((AA x1 o1 n1).take (0+n1)++AA x2 o2 n2).take (0+n1+n2)++AA x3 o3 n3).take (0+n1+n2+n3)++AA x4 o4 n4=AA x1 o1 n1++AA x2 o2 n2++AA x3 o3 n3++AA x4 o4 n4:=by rw [q3,show 0+n1+n2+n3=n1+n2+n3 by omega,F5 l3]
 have eY:AKv o1 n1 o2 n2 o3 n3 o4 n4 x1 x2 x3 x4=AA x1 o1 n1++AA x2 o2 n2++AA x3 o3 n3++AA x4 o4 n4:=q4
 have eL:0+n1+n2+n3+n4=n1+n2+n3+n4:=dn
 refine A_ (ie:=fu) func37 dm dm fun β0 w0 hb=>?_
 have:=A6 (P:=dr) (n:=ccF.ntmps) (β0:=β0) (w0:=w0) (W:=[]) kF AB func37 (AiZ o1 n1 m1 o2 n2 m2 o3 n3 m3 o4 n4 m4 x1 x2 x3 x4) ?_ (AR dm) hb jl
 ·rw [eY,eL] at this;exact this
 ·rw [eA];simp only [e1,e2,e3,e4,kG];exact AY 3 ⟨HB dn,rfl,AY 2 ⟨HB dn,rfl,AY 2 ⟨HB dn,rfl,AY 2 ⟨HB dn,rfl,rfl,jm ⟨dn,dn⟩,AY 4 ⟨jr h1,EN dn,AY 2 ⟨jr (by rw [w1];omega),jr h2,EN dn,AY 2 ⟨jr (by rw [q2,l2];omega),jr h3,EN dn,AY 2 ⟨jr (by rw [q3,l3];omega),jr h4,EN dn,rfl,trivial⟩⟩⟩⟩⟩⟩⟩⟩
noncomputable def AAT (o1 n1 m1 o2 n2 m2:Nat) (x1 x2:dt):Heap:=[(0,some (An [.v (.slice none 0 0),.sl 1 o1 n1 m1,.sl 2 o2 n2 m2])),(1,some (An [.seq .u8 x1])),(2,some (An [.seq .u8 x2]))]
noncomputable def Aib (o1 n1 m1 o2 n2 m2:Nat) (x1 x2:dt):h_:=Ak ccF [AQ 0 0 3 3] (AAT o1 n1 m1 o2 n2 m2 x1 x2) 3 ft
def kO (n1 n2:Nat):Int:=wI (wI (wI (0+0)+(n1:Int))+(n2:Int))
def AKw (o1 n1 o2 n2:Nat) (x1 x2:dt):dt:=(AA x1 o1 n1).take (0+n1)++AA x2 o2 n2
theorem Aic (o1 n1 m1 o2 n2 m2:Nat) (x1 x2:dt):AU dr oSp ccF 400 3 [6] (Aib o1 n1 m1 o2 n2 m2 x1 x2)=some (tt 4 ((false,false)::tt 2 ((AK .i64 n1,true)::(decide (wI (wI (0+0)+(n1:Int))<0),false)::tt 2 ((AK .i64 n2,true)::(decide (wI (wI (wI (0+0)+(n1:Int))+(n2:Int))<0),false)::(false,false)::(decide (0≤kO n1 n2∧kO n1 n2≤35184372088832),true)::tt 9 ((Nat.ble (o1+n1) x1.length,true)::(ED (0+n1),true)::tt 2 ((Nat.ble (0+n1) (AA x1 o1 n1).length,true)::(Nat.ble (o2+n2) x2.length,true)::(ED (0+n1+n2),true)::(false,false)::[]))))),[],.val false [.sx 6 (0+n1+n2) 1],KY 6 (AKw o1 n1 o2 n2 x1 x2)):=dm
theorem Aid {o1 n1 m1 o2 n2 m2:Nat} {x1 x2:dt} (h1:o1+n1≤x1.length) (h2:o2+n2≤x2.length) (hn:n1+n2≤35184372088832):Ab dr 37 [AQ 0 0 3 3] (AAT o1 n1 m1 o2 n2 m2 x1 x2) 3 [] (.val false [.sx 6 (n1+n2) 1]) (KY 6 (AA x1 o1 n1++AA x2 o2 n2)):=by
 have w1:=HA h1;have w2:=HA h2;have e0:wI ((0:Int)+0)=0:=rfl
 have e1:wI (0+(n1:Int))=(n1:Nat):=by rw [Au dn];omega
 have e2:=TQ (a:=n1) (b:=n2) dn
 have eA:kO n1 n2=((n1+n2:Nat):Int):=by unfold kO;rw [e0,e1,e2]
 have l1:=w1;have l2:=L6 l1 w2;have q2:(AA x1 o1 n1).take (0+n1)++AA x2 o2 n2=AA x1 o1 n1++AA x2 o2 n2:=by rw [show 0+n1=n1 by omega,F5 l1]
 have eY:AKw o1 n1 o2 n2 x1 x2=AA x1 o1 n1++AA x2 o2 n2:=q2
 have eL:0+n1+n2=n1+n2:=dn
 refine A_ (ie:=ft) func37 dm dm fun β0 w0 hb=>?_
 have:=A6 (P:=dr) (n:=ccF.ntmps) (β0:=β0) (w0:=w0) (W:=[]) kF AB func37 (Aic o1 n1 m1 o2 n2 m2 x1 x2) ?_ (AR dm) hb jl
 ·rw [eY,eL] at this;exact this
 ·rw [eA];simp only [e0,e1,e2,kG];exact AY 4 ⟨rfl,AY 2 ⟨HB dn,rfl,AY 2 ⟨HB dn,rfl,rfl,jm ⟨dn,dn⟩,AY 9 ⟨jr h1,EN dn,AY 2 ⟨jr (by rw [w1];omega),jr h2,EN dn,rfl,trivial⟩⟩⟩⟩⟩
open Ex Num
theorem NJ {β:Env} {H:Heap} {w:gn} {ρ:List Nat} {bs:List ib} (g:Ex.Good β H w) (h:∀ j d,bs[j]? = some d→d.ty=Br∧DK (A9 β ρ bs.length) d j w):Ex.Good (A9 β ρ bs.length) (LG 0 bs) w:=by
 refine ⟨fun j blk hj=>?_,fun i j B n n' h1 _ _ _=>?_,fun j B n hj=>?_⟩
 ·obtain ⟨_,hj⟩:=PY hj;rw [pv] at hj;exact (h j blk hj).2
 ·obtain ⟨d,hd,hr⟩:=GU h1;obtain ⟨_,hd⟩:=PY hd;rw [pv] at hd;exact absurd (h i d hd).1 hr
 ·unfold A9 at hj;split at hj
  ·exact g.lt _ _ _ hj
  ·cases hj
theorem L7 {β:Env} {C:Ch} {k ic n:Nat} {l:List gq} (h:DS (.val false [C])=some (k,ic,n)) (hr:BM β C l):∃ m,BM β (.sl k ic n m) l:=by
 have h1:∃ u,l=[u]:=by
  unfold DS at h;split at h
  ·rename_i he;injection he with _ he;injection he with he _;subst he;rcases hr with ⟨B,q,_,e⟩ | ⟨_,_,_,_,e⟩ | ⟨_,_,_,_,_,_,e⟩<;>exact ⟨_,e⟩
  ·rename_i he;injection he with _ he;injection he with he _;subst he;rcases hr with ⟨B,q,cap,_,e,_⟩ | ⟨_,_,e⟩<;>exact ⟨_,e⟩
  ·cases h
 obtain ⟨u,rfl⟩:=h1;obtain ⟨m,hm⟩:=E8 (u:=u) h (Az hr)
 exact ⟨m,A5 hm⟩
theorem L8 {β:Env} {k j ic n m:Nat} {ρ:List Nat} {k0:Nat} {l:List gq} (hj:j<k0) (hn:nth ρ j=k) (h:BM β (.sl k ic n m) l):BM (A9 β ρ k0) (.sl j ic n m) l:=by
 have e:A9 β ρ k0 j=β k:=by rw [E6 hj,hn]
 rcases h with ⟨B,q,q1,q2⟩ | ⟨q1,q2⟩ | ⟨q1,q2⟩
 ·exact .inl ⟨B,q,by rw [e];exact q1,q2⟩
 ·exact .inr (.inl ⟨by rw [e];exact q1,q2⟩)
 ·exact .inr (.inr ⟨by rw [e];exact q1,q2⟩)
theorem IB {β:Env} {H:Heap} {w:gn} {k j ty:Nat} {cs:List Ch} {o:Bool} {xs:dt} {ρ:List Nat} {k0:Nat} (hg:Ex.Good β H w) (hk:AF H k=some ⟨ty,cs,o⟩) (hx:A' .u8 cs=some xs) (hj:j<k0) (hn:nth ρ j=k):DK (A9 β ρ k0) (An [.seq .u8 xs]) j w:=by
 refine UU (hg.heap _ _ hk) (by rw [E6 hj,hn]) (.inl ⟨rfl,rfl,nofun⟩) fun l h=>?_
 obtain ⟨q1,q2⟩:=DL hx h;exact ⟨_,[],⟨q1,q2⟩,rfl,by simp⟩
theorem kP {β:Env} {H:Heap} {w:gn} {k ty:Nat} {c:Ch} {cs:List Ch} {o:Bool} (hg:Ex.Good β H w) (hk:AF H k=some ⟨ty,c::cs,o⟩) (hz:E9 c=1) (hw:IQ [c]=true):∃ l,AP β (c::cs) l∧∀ (β':Env) (cs':List Ch) (j:Nat),β' j=β k→AP β' cs' l→DK β' (An cs') j w:=by
 rcases hg.heap _ _ hk with ⟨B,n,l,t,pre,ty',fz,q1,q2,q3,q4,_⟩ | ⟨_,_,_,q3⟩ | ⟨B,l,es,q,q1,q2,⟨l1,l2,q3,q5,q6⟩,q4⟩
 ·exact ⟨l,q2,fun β' cs' j he hr=>.inl ⟨B,n,l,t,pre,ty',fz,he.trans q1,hr,q3,q4,fun h=>absurd rfl h⟩⟩
 ·have:=Tv q3
  simp only [MF,hz,tj] at this;omega
 ·exfalso
  have h1:=Q1 q3;rw [hz] at h1;match l1,h1,q6 with
  | [x],_,q6 =>
   injection q6 with q6 _;subst q6;exact Z2 hw ⟨_,[],q3,rfl,rfl⟩ (qr ..)
def JV (H:Heap) (c:Ch):Option (Nat×Nat×Nat×dt):=match DS (.val false [c]) with
 | some (k,ic,n)=>match AF H k with
  | some ⟨_,cs,_⟩=>match A' .u8 cs with
   | some xs=>some (k,ic,n,xs)
   | none=>none
  | none=>none
 | none=>none
theorem L9 {H:Heap} {c:Ch} {k ic n:Nat} {xs:dt} (h:JV H c=some (k,ic,n,xs)):DS (.val false [c])=some (k,ic,n)∧∃ ty cs o,AF H k=some ⟨ty,cs,o⟩∧A' .u8 cs=some xs:=by
 unfold JV at h;split at h;case h_2=>cases h
 rename_i k' ig n' h1;split at h;case h_2=>cases h
 rename_i ty cs o h2;split at h;case h_2=>cases h
 rename_i xs' h3;injection h with h;injection h with e1 h;injection h with e2 h;injection h with e3 e4;subst e1;subst e2;subst e3;subst e4;exact ⟨h1,ty,cs,o,h2,h3⟩
theorem AAU {c:Ch} {x:Nat×Nat×Nat} (h:DS (.val false [c])=some x):E9 c=1:=by
 unfold DS at h;split at h
 ·rename_i he;injection he with _ he;injection he with he _;subst he;rfl
 ·rename_i he;injection he with _ he;injection he with he _;subst he;rfl
 ·cases h
theorem AAV {c:Ch} {x:Nat×Nat×Nat} (h:DS (.val false [c])=some x):IQ [c]=true:=by
 unfold DS at h;split at h
 ·rename_i he;injection he with _ he;injection he with he _;subst he;rfl
 ·rename_i he;injection he with _ he;injection he with he _;subst he;rfl
 ·cases h
def AAW (H:Heap) (k fr:Nat) (ie:List Bool) (c1 c2:Ch):Option R:=match JV H c1,JV H c2 with
 | some (k1,o1,n1,x1),some (k2,o2,n2,x2)=>some (BP [k,k1,k2] 3 fr 3 [] (.val false [.sx 5 (n1+n2) 1]) (KY 5 (AA x1 o1 n1++AA x2 o2 n2)) [(Nat.ble (o1+n1) x1.length,true),(Nat.ble (o2+n2) x2.length,true),(Nat.ble (n1+n2) 35184372088832,true)] ie)
 | _,_=>none
def AAX (H:Heap) (k fr:Nat) (ie:List Bool) (c1 c2 c3:Ch):Option R:=match JV H c1,JV H c2,JV H c3 with
 | some (k1,o1,n1,x1),some (k2,o2,n2,x2),some (k3,o3,n3,x3)=>some (BP [k,k1,k2,k3] 4 fr 4 [] (.val false [.sx 7 (n1+n2+n3) 1]) (KY 7 (AA x1 o1 n1++AA x2 o2 n2++AA x3 o3 n3)) [(Nat.ble (o1+n1) x1.length,true),(Nat.ble (o2+n2) x2.length,true),(Nat.ble (o3+n3) x3.length,true),(Nat.ble (n1+n2+n3) 35184372088832,true)] ie)
 | _,_,_=>none
def AAY (H:Heap) (k fr:Nat) (ie:List Bool) (c1 c2 c3 c4:Ch):Option R:=match JV H c1,JV H c2,JV H c3,JV H c4 with
 | some (k1,o1,n1,x1),some (k2,o2,n2,x2),some (k3,o3,n3,x3),some (k4,o4,n4,x4)=>some (BP [k,k1,k2,k3,k4] 5 fr 5 [] (.val false [.sx 9 (n1+n2+n3+n4) 1]) (KY 9 (AA x1 o1 n1++AA x2 o2 n2++AA x3 o3 n3++AA x4 o4 n4)) [(Nat.ble (o1+n1) x1.length,true),(Nat.ble (o2+n2) x2.length,true),(Nat.ble (o3+n3) x3.length,true),(Nat.ble (o4+n4) x4.length,true),(Nat.ble (n1+n2+n3+n4) 35184372088832,true)] ie)
 | _,_,_,_=>none
def AAZ (H:Heap) (k fr:Nat) (ie:List Bool) (c2 c3:Ch):Option R:=match JV H c2,JV H c3 with
 | some (k1,o1,n1,x1),some (k2,o2,n2,x2)=>some (BP [k,k1,k2] 3 fr 4 [] (.val false [.sx 6 (n1+n2) 1]) (KY 6 (AA x1 o1 n1++AA x2 o2 n2)) [(Nat.ble (o1+n1) x1.length,true),(Nat.ble (o2+n2) x2.length,true),(Nat.ble (n1+n2) 35184372088832,true)] ie)
 | _,_=>none
def ccSp:ASpec:=fun args H fr ie=>match args with
 | [.val false [.sl k 0 n m]]=>match AF H k,Nat.beq m n with
  | some ⟨_,cs,_⟩,true=>match cs with
   | [c1,c2]=>match Nat.beq n 2 with
    | true=>AAW H k fr ie c1 c2
    | false=>none
   | [c1,c2,c3]=>match Nat.beq n 3,c1 with
    | true,.v (.slice none 0 0)=>AAZ H k fr ie c2 c3
    | true,c1=>AAX H k fr ie c1 c2 c3
    | _,_=>none
   | [c1,c2,c3,c4]=>match Nat.beq n 4 with
    | true=>AAY H k fr ie c1 c2 c3 c4
    | false=>none
   | _=>none
  | _,_=>none
 | _=>none
theorem Aie {H:Heap} {k fr ty:Nat} {ie:List Bool} {c1 c2:Ch} {o:Bool} {r:R} (hk:AF H k=some ⟨ty,[c1,c2],o⟩) (hs:AAW H k fr ie c1 c2=some r) :
  ∃ (ρ:List Nat) (k0 nw:Nat) (W:List Nat) (val:AV) (H1:Heap) (conds:du) (path':List Bool),
   r=BP ρ k0 fr nw W val H1 conds path'∧(∀ β us w,BL β [AQ k 0 2 2] us→Ex.Good β H w→AM conds→∃ iw H0,Ab dr 37 iw H0 k0 W val H1∧EJ k0 nw W val H1=true∧BL (A9 β ρ k0) iw us∧Ex.Good (A9 β ρ k0) H0 w∧(∀ k,k<k0→∃ X,β (nth ρ k)=some X)):=by
 unfold AAW at hs;split at hs;case h_2=>cases hs
 rename_i k1 o1 n1 x1 k2 o2 n2 x2 a1 a2;injection hs with hs;obtain ⟨s1,ty1,cs1,p1,g1,t1⟩:=L9 a1;obtain ⟨s2,ty2,cs2,p2,g2,t2⟩:=L9 a2;refine ⟨[k,k1,k2],3,3,[],_,_,_,ie,hs.symm,fun β us w ha hg hc=>?_⟩
 obtain ⟨b1,b2,hS,_⟩:=hc;obtain ⟨u1,jf,r1,ha,rfl⟩:=ha;obtain ⟨l,hl,hv⟩:=kP hg hk (AAU s1) (AAV s1)
 obtain ⟨v1,l1,d1,f1,rfl⟩:=hl;obtain ⟨v2,l2,d2,f2,rfl⟩:=f1;obtain ⟨m1,d1⟩:=L7 s1 d1;obtain ⟨m2,d2⟩:=L7 s2 d2;refine ⟨[AQ 0 0 2 2],AAQ o1 n1 m1 o2 n2 m2 x1 x2,AiU (jp b1) (jp b2) (jp hS),rfl,⟨u1,_,CV dn rfl r1,ha,rfl⟩,NJ (bs:=[An [.sl 1 o1 n1 m1,.sl 2 o2 n2 m2],An [.seq .u8 x1],An [.seq .u8 x2]]) hg fun j d hj=>?_,fun j hj=>?_⟩
 ·match j,hj with
  | 0,hj=>injection hj with hj;subst hj;exact ⟨rfl,hv _ _ _ (E6 (by show 0<3;decide)) ⟨_,_,L8 (by show 1<3;decide) rfl d1,⟨_,_,L8 (by show 2<3;decide) rfl d2,f2,rfl⟩,rfl⟩⟩
  | 1,hj=>injection hj with hj;subst hj;exact ⟨rfl,IB hg g1 t1 (by show 1<3;decide) rfl⟩
  | 2,hj=>injection hj with hj;subst hj;exact ⟨rfl,IB hg g2 t2 (by show 2<3;decide) rfl⟩
 ·match j,hj with
  | 0,_=>exact CM (hg.heap _ _ hk)
  | 1,_=>exact CM (hg.heap _ _ g1)
  | 2,_=>exact CM (hg.heap _ _ g2)
theorem Aif {H:Heap} {k fr ty:Nat} {ie:List Bool} {c1 c2 c3:Ch} {o:Bool} {r:R} (hk:AF H k=some ⟨ty,[c1,c2,c3],o⟩) (hs:AAX H k fr ie c1 c2 c3=some r) :
  ∃ (ρ:List Nat) (k0 nw:Nat) (W:List Nat) (val:AV) (H1:Heap) (conds:du) (path':List Bool),
   r=BP ρ k0 fr nw W val H1 conds path'∧(∀ β us w,BL β [AQ k 0 3 3] us→Ex.Good β H w→AM conds→∃ iw H0,Ab dr 37 iw H0 k0 W val H1∧EJ k0 nw W val H1=true∧BL (A9 β ρ k0) iw us∧Ex.Good (A9 β ρ k0) H0 w∧(∀ k,k<k0→∃ X,β (nth ρ k)=some X)):=by
 unfold AAX at hs;split at hs;case h_2=>cases hs
 rename_i k1 o1 n1 x1 k2 o2 n2 x2 k3 o3 n3 x3 a1 a2 a3;injection hs with hs;obtain ⟨s1,ty1,cs1,p1,g1,t1⟩:=L9 a1;obtain ⟨s2,ty2,cs2,p2,g2,t2⟩:=L9 a2;obtain ⟨s3,ty3,cs3,p3,g3,t3⟩:=L9 a3;refine ⟨[k,k1,k2,k3],4,4,[],_,_,_,ie,hs.symm,fun β us w ha hg hc=>?_⟩
 obtain ⟨b1,b2,b3,hS,_⟩:=hc;obtain ⟨u1,jf,r1,ha,rfl⟩:=ha;obtain ⟨l,hl,hv⟩:=kP hg hk (AAU s1) (AAV s1)
 obtain ⟨v1,l1,d1,f1,rfl⟩:=hl;obtain ⟨v2,l2,d2,f2,rfl⟩:=f1;obtain ⟨v3,l3,d3,f3,rfl⟩:=f2;obtain ⟨m1,d1⟩:=L7 s1 d1;obtain ⟨m2,d2⟩:=L7 s2 d2;obtain ⟨m3,d3⟩:=L7 s3 d3;refine ⟨[AQ 0 0 3 3],AAR o1 n1 m1 o2 n2 m2 o3 n3 m3 x1 x2 x3,AiX (jp b1) (jp b2) (jp b3) (jp hS),rfl,⟨u1,_,CV dn rfl r1,ha,rfl⟩,NJ (bs:=[An [.sl 1 o1 n1 m1,.sl 2 o2 n2 m2,.sl 3 o3 n3 m3],An [.seq .u8 x1],An [.seq .u8 x2],An [.seq .u8 x3]]) hg fun j d hj=>?_,fun j hj=>?_⟩
 ·match j,hj with
  | 0,hj=>injection hj with hj;subst hj;exact ⟨rfl,hv _ _ _ (E6 (by show 0<4;decide)) ⟨_,_,L8 (by show 1<4;decide) rfl d1,⟨_,_,L8 (by show 2<4;decide) rfl d2,⟨_,_,L8 (by show 3<4;decide) rfl d3,f3,rfl⟩,rfl⟩,rfl⟩⟩
  | 1,hj=>injection hj with hj;subst hj;exact ⟨rfl,IB hg g1 t1 (by show 1<4;decide) rfl⟩
  | 2,hj=>injection hj with hj;subst hj;exact ⟨rfl,IB hg g2 t2 (by show 2<4;decide) rfl⟩
  | 3,hj=>injection hj with hj;subst hj;exact ⟨rfl,IB hg g3 t3 (by show 3<4;decide) rfl⟩
 ·match j,hj with
  | 0,_=>exact CM (hg.heap _ _ hk)
  | 1,_=>exact CM (hg.heap _ _ g1)
  | 2,_=>exact CM (hg.heap _ _ g2)
  | 3,_=>exact CM (hg.heap _ _ g3)
theorem Aig {H:Heap} {k fr ty:Nat} {ie:List Bool} {c1 c2 c3 c4:Ch} {o:Bool} {r:R} (hk:AF H k=some ⟨ty,[c1,c2,c3,c4],o⟩) (hs:AAY H k fr ie c1 c2 c3 c4=some r) :
  ∃ (ρ:List Nat) (k0 nw:Nat) (W:List Nat) (val:AV) (H1:Heap) (conds:du) (path':List Bool),
   r=BP ρ k0 fr nw W val H1 conds path'∧(∀ β us w,BL β [AQ k 0 4 4] us→Ex.Good β H w→AM conds→∃ iw H0,Ab dr 37 iw H0 k0 W val H1∧EJ k0 nw W val H1=true∧BL (A9 β ρ k0) iw us∧Ex.Good (A9 β ρ k0) H0 w∧(∀ k,k<k0→∃ X,β (nth ρ k)=some X)):=by
 unfold AAY at hs;split at hs;case h_2=>cases hs
 rename_i k1 o1 n1 x1 k2 o2 n2 x2 k3 o3 n3 x3 k4 o4 n4 x4 a1 a2 a3 a4;injection hs with hs;obtain ⟨s1,ty1,cs1,p1,g1,t1⟩:=L9 a1;obtain ⟨s2,ty2,cs2,p2,g2,t2⟩:=L9 a2;obtain ⟨s3,ty3,cs3,p3,g3,t3⟩:=L9 a3;obtain ⟨s4,ty4,cs4,p4,g4,t4⟩:=L9 a4;refine ⟨[k,k1,k2,k3,k4],5,5,[],_,_,_,ie,hs.symm,fun β us w ha hg hc=>?_⟩
 obtain ⟨b1,b2,b3,b4,hS,_⟩:=hc;obtain ⟨u1,jf,r1,ha,rfl⟩:=ha;obtain ⟨l,hl,hv⟩:=kP hg hk (AAU s1) (AAV s1)
 obtain ⟨v1,l1,d1,f1,rfl⟩:=hl;obtain ⟨v2,l2,d2,f2,rfl⟩:=f1;obtain ⟨v3,l3,d3,f3,rfl⟩:=f2;obtain ⟨v4,l4,d4,f4,rfl⟩:=f3;obtain ⟨m1,d1⟩:=L7 s1 d1;obtain ⟨m2,d2⟩:=L7 s2 d2;obtain ⟨m3,d3⟩:=L7 s3 d3;obtain ⟨m4,d4⟩:=L7 s4 d4;refine ⟨[AQ 0 0 4 4],AAS o1 n1 m1 o2 n2 m2 o3 n3 m3 o4 n4 m4 x1 x2 x3 x4,Aia (jp b1) (jp b2) (jp b3) (jp b4) (jp hS),rfl,⟨u1,_,CV dn rfl r1,ha,rfl⟩,NJ (bs:=[An [.sl 1 o1 n1 m1,.sl 2 o2 n2 m2,.sl 3 o3 n3 m3,.sl 4 o4 n4 m4],An [.seq .u8 x1],An [.seq .u8 x2],An [.seq .u8 x3],An [.seq .u8 x4]]) hg fun j d hj=>?_,fun j hj=>?_⟩
 ·match j,hj with
  | 0,hj=>injection hj with hj;subst hj;exact ⟨rfl,hv _ _ _ (E6 (by show 0<5;decide)) ⟨_,_,L8 (by show 1<5;decide) rfl d1,⟨_,_,L8 (by show 2<5;decide) rfl d2,⟨_,_,L8 (by show 3<5;decide) rfl d3,⟨_,_,L8 (by show 4<5;decide) rfl d4,f4,rfl⟩,rfl⟩,rfl⟩,rfl⟩⟩
  | 1,hj=>injection hj with hj;subst hj;exact ⟨rfl,IB hg g1 t1 (by show 1<5;decide) rfl⟩
  | 2,hj=>injection hj with hj;subst hj;exact ⟨rfl,IB hg g2 t2 (by show 2<5;decide) rfl⟩
  | 3,hj=>injection hj with hj;subst hj;exact ⟨rfl,IB hg g3 t3 (by show 3<5;decide) rfl⟩
  | 4,hj=>injection hj with hj;subst hj;exact ⟨rfl,IB hg g4 t4 (by show 4<5;decide) rfl⟩
 ·match j,hj with
  | 0,_=>exact CM (hg.heap _ _ hk)
  | 1,_=>exact CM (hg.heap _ _ g1)
  | 2,_=>exact CM (hg.heap _ _ g2)
  | 3,_=>exact CM (hg.heap _ _ g3)
  | 4,_=>exact CM (hg.heap _ _ g4)
theorem Aih {H:Heap} {k fr ty:Nat} {ie:List Bool} {c2 c3:Ch} {o:Bool} {r:R} (hk:AF H k=some ⟨ty,[.v (.slice none 0 0),c2,c3],o⟩) (hs:AAZ H k fr ie c2 c3=some r) :
  ∃ (ρ:List Nat) (k0 nw:Nat) (W:List Nat) (val:AV) (H1:Heap) (conds:du) (path':List Bool),
   r=BP ρ k0 fr nw W val H1 conds path'∧(∀ β us w,BL β [AQ k 0 3 3] us→Ex.Good β H w→AM conds→∃ iw H0,Ab dr 37 iw H0 k0 W val H1∧EJ k0 nw W val H1=true∧BL (A9 β ρ k0) iw us∧Ex.Good (A9 β ρ k0) H0 w∧(∀ k,k<k0→∃ X,β (nth ρ k)=some X)):=by
 unfold AAZ at hs;split at hs;case h_2=>cases hs
 rename_i k1 o1 n1 x1 k2 o2 n2 x2 a1 a2;injection hs with hs;obtain ⟨s1,ty1,cs1,p1,g1,t1⟩:=L9 a1;obtain ⟨s2,ty2,cs2,p2,g2,t2⟩:=L9 a2;refine ⟨[k,k1,k2],3,4,[],_,_,_,ie,hs.symm,fun β us w ha hg hc=>?_⟩
 obtain ⟨b1,b2,hS,_⟩:=hc;obtain ⟨u1,jf,r1,ha,rfl⟩:=ha;obtain ⟨l,hl,hv⟩:=kP hg hk rfl rfl;obtain ⟨v1,l1,d1,f1,rfl⟩:=hl;obtain ⟨v2,l2,d2,f2,rfl⟩:=f1;obtain ⟨v3,l3,d3,f3,rfl⟩:=f2;obtain ⟨m1,d2⟩:=L7 s1 d2;obtain ⟨m2,d3⟩:=L7 s2 d3;refine ⟨[AQ 0 0 3 3],AAT o1 n1 m1 o2 n2 m2 x1 x2,Aid (jp b1) (jp b2) (jp hS),rfl,⟨u1,_,CV dn rfl r1,ha,rfl⟩,NJ (bs:=[An [.v (.slice none 0 0),.sl 1 o1 n1 m1,.sl 2 o2 n2 m2],An [.seq .u8 x1],An [.seq .u8 x2]]) hg fun j d hj=>?_,fun j hj=>?_⟩
 ·match j,hj with
  | 0,hj=>injection hj with hj;subst hj;exact ⟨rfl,hv _ _ _ (E6 (by show 0<3;decide)) ⟨_,_,d1,⟨_,_,L8 (by show 1<3;decide) rfl d2,⟨_,_,L8 (by show 2<3;decide) rfl d3,f3,rfl⟩,rfl⟩,rfl⟩⟩
  | 1,hj=>injection hj with hj;subst hj;exact ⟨rfl,IB hg g1 t1 (by show 1<3;decide) rfl⟩
  | 2,hj=>injection hj with hj;subst hj;exact ⟨rfl,IB hg g2 t2 (by show 2<3;decide) rfl⟩
 ·match j,hj with
  | 0,_=>exact CM (hg.heap _ _ hk)
  | 1,_=>exact CM (hg.heap _ _ g1)
  | 2,_=>exact CM (hg.heap _ _ g2)
theorem Aii:BI dr 37 ccSp:=by
 refine DN func37 dm dm fun args H fr ie r hs=>?_
 unfold ccSp at hs;split at hs;case h_2=>cases hs
 rename_i k n m;split at hs;case h_2=>cases hs
 rename_i ty cs o hk hm;obtain rfl:=Ar.1 hm
 split at hs
 ·split at hs;case h_2=>cases hs
  rename_i hn;obtain rfl:=Ar.1 hn
  exact Aie hk hs
 ·split at hs
  ·rename_i hn;obtain rfl:=Ar.1 hn
   exact Aih hk hs
  ·rename_i hn _;obtain rfl:=Ar.1 hn
   exact Aif hk hs
  ·cases hs
 ·split at hs;case h_2=>cases hs
  rename_i hn;obtain rfl:=Ar.1 hn
  exact Aig hk hs
 ·cases hs
noncomputable def SSr:dw:=(37,ccSp)::SSp
theorem Aij:AX dr SSr:=⟨Aii,AKs⟩
noncomputable def SSs0:dw:=SSr
theorem Aik:AX dr SSs0:=Aij
noncomputable def SSs:dw:=SSs0
theorem Ail:AX dr SSs:=Aik
theorem QY {l:dt} {n:Nat} (h:l.length=n):AA l 0 n=l:=by unfold AA;rw [qf];exact F5 h
noncomputable def SSt0:dw:=SSs
theorem Aim:AX dr SSt0:=Ail
noncomputable def SSt:dw:=SSt0
theorem Ain:AX dr SSt:=Aim
noncomputable def SSu:dw:=SSt
theorem Aio:AX dr SSu:=Ain
noncomputable def SSv:dw:=SSu
theorem Aip:AX dr SSv:=Aio
noncomputable def SSw0:dw:=SSv
theorem Aiq:AX dr SSw0:=Aip
noncomputable def SSw:dw:=SSw0
theorem Air:AX dr SSw:=Aiq
noncomputable def SSx0:dw:=SSw++SVb3
theorem Ais:AX dr SSx0:=H9 Air iX
def kQ (ic n:Nat) (xs:dt):dt:=List.map (AE (Ap (AA xs ic n))) (List.range ((n+7) / 8))++[]
theorem Ait {ic n:Nat} {xs:dt} (hx:∀ d∈xs,0≤d∧d<256) (hl:ic+n≤xs.length):AI (AA (kQ ic n xs) 0 ((n+7) / 8))=Ap (AA xs ic n):=by
 have e:kQ ic n xs=D7 (Ap (AA xs ic n)) ((n+7) / 8):=by unfold kQ D7;rw [lh]
 rw [e,QY (by simp [D7]),AFT]
 have h:=Ul (AA xs ic n) (DG hx)
 rw [HA hl,N3] at h;exact li h (pq dp dn)
noncomputable def SSx:dw:=SSx0
theorem Aiu:AX dr SSx:=Ais
noncomputable def SSy:dw:=SSx
theorem kR:AX dr SSy:=Aiu
noncomputable abbrev oSy:ia:=AG SSy KV
theorem Aiv:g_ dr oSy:=AH kR BR
def AAa (val:Nat→dt→Nat→dt→AV) (hp:Nat→dt→Nat→dt→Heap) (nw:Nat) (cs:dt→dt→du):ASpec:=fun args H fr ie=>match args with
 | [S,T]=>match DS S,DS T with
  | some (k,o,n),some (t,p,m)=>match AF H k,AF H t with
   | some ⟨_,ds,_⟩,some ⟨_,es,_⟩=>match A' .u64 ds,A' .u64 es with
    | some xs,some ys=>some (BP [k,t] 2 fr nw [] (val n (AA xs o n) m (AA ys p m)) (hp n (AA xs o n) m (AA ys p m)) ((Nat.ble (o+n) xs.length,true)::(Nat.ble (p+m) ys.length,true)::(Nat.ble n 17592186044415,true)::(Nat.ble m 17592186044415,true)::cs (AA xs o n) (AA ys p m)) ie)
    | _,_=>none
   | _,_=>none
  | _,_=>none
 | _=>none
theorem Aiw {f:gp} {fn:Func} {val:Nat→dt→Nat→dt→AV} {hp:Nat→dt→Nat→dt→Heap} {nw:Nat} {cs:dt→dt→du} (jc:dr.funcs[f]? = some fn) (hb:fn.body.isSome=true) (iq:fw fn)
  (hk:∀ n a m b,EJ 2 nw [] (val n a m b) (hp n a m b)=true)
  (h:∀ (ic n m ig n' m':Nat) (xs ys:dt),(∀ d∈xs,0≤d∧d<18446744073709551616)→(∀ d∈ys,0≤d∧d<18446744073709551616)→ic+n≤xs.length→ig+n'≤ys.length→n≤17592186044415→n'≤17592186044415→AM (cs (AA xs ic n) (AA ys ig n')) →
   Ab dr f (J1 ic n m ig n' m') (Gu xs ys) 2 [] (val n (AA xs ic n) n' (AA ys ig n')) (hp n (AA xs ic n) n' (AA ys ig n'))):BI dr f (AAa val hp nw cs):=by
 refine DN jc hb iq fun args H fr ie r hs=>?_
 unfold AAa at hs;split at hs;case h_2=>cases hs
 rename_i S T;split at hs;case h_2=>cases hs
 rename_i k o n t p m hS hT;split at hs;case h_2=>cases hs
 rename_i ty ds op ty' es op' hk' ht';split at hs;case h_2=>cases hs
 rename_i xs ys hx hy;injection hs with hs;refine ⟨[k,t],2,nw,[],_,_,_,ie,hs.symm,fun β us w ha hg hc=>?_⟩
 obtain ⟨u1,jf,r1,⟨u2,jg,r2,ha,rfl⟩,rfl⟩:=ha;obtain ⟨m1,r1⟩:=E8 hS r1;obtain ⟨m2,r2⟩:=E8 hT r2;obtain ⟨g1,g1',g2,g3⟩:=cH hg hk' ht' hx hy;obtain ⟨c1,c2,c3,c4,c5⟩:=hc;exact ⟨_,_,h o n m1 p m m2 xs ys g1 g1' (jp c1) (jp c2) (jp c3) (jp c4) c5,hk _ _ _ _,⟨u1,_,CV dn rfl r1,⟨u2,_,CV dn rfl r2,ha,rfl⟩,rfl⟩,g2,g3⟩
def Aix:ASpec:=AAa (fun _ a _ b=>.val false [.v (.int .i64 (EO (AI a) (AI b)))]) (fun _ _ _ _=>[]) 0 (fun _ _=>[])
noncomputable def SYb0:dw:=(146,D3 Aix)::SSy
theorem Aiy:AX dr SYb0:=⟨EK (Aiw func146 dm dm (fun _ _ _ _=>by kernel_rfl) fun _ _ _ _ _ _ _ _ hx hy hl hl' hn hn' _=>AF2 hx hy hl hl' (HB dn) (HB dn)),kR⟩
noncomputable def SYb:dw:=SYb0
theorem Aiz:AX dr SYb:=Aiy
open Ex Num Rg
open Sh (R av rd mo en mo_en)
noncomputable def SYd0:dw:=(SYb++(SVg++(SQt++SQg)))
theorem Ai0:AX dr SYd0:=H9 Aiz (H9 jG (H9 AJK AJF))
noncomputable def SYd1:dw:=SYd0
theorem Ai1:AX dr SYd1:=Ai0
noncomputable def SYd2:dw:=SYd1
theorem AKx:AX dr SYd2:=Ai1
noncomputable def SYe:dw:=SYd2
theorem Ai2:AX dr SYe:=AKx
noncomputable def SYf0:dw:=SYe
theorem Ai3:AX dr SYf0:=Ai2
noncomputable def SYf1:dw:=SYf0
theorem Ai4:AX dr SYf1:=Ai3
noncomputable def SYf:dw:=SYf1
theorem Ai5:AX dr SYf:=Ai4
end Go.Proofs.YtgnajdcdcblaoaaGreat
namespace Go.Proofs.YtgnajdcdcblaoaaGreat.Rg
open FD (inv)
section
variable {F:Type} [FD F]
variable {c f:F→F} (hc:MH c) (hf:MH f)
theorem MH.pwc {φ:F→F} (h:MH φ) (x:F):∀ n,φ (Rg.pw x n)=Rg.pw (φ x) n
 | 0=>h.one
 | n+1=>by show φ (Rg.pw x n*x)=Rg.pw (φ x) n*φ x;rw [h.mul,MH.pwc h x n]
include hc hf in
end
end Go.Proofs.YtgnajdcdcblaoaaGreat.Rg
namespace Go.Proofs.YtgnajdcdcblaoaaGreat
abbrev gk:Nat:=0x1904d3bf02bb0667c231beb4202c0d1f0fd603fd3cbd5f4f7b2443d784bab9c4f67ea53d63e7813d8d0775ed92235fb8
abbrev gl:Nat:=0xfc3e2b36c4e03288e9e902231f9fb854a14787b6c7b36fec0c8ec971f63c5f282d5ac14d6c7ec22cf78a126ddc4af3
open Ex Num Rg
open Sh (R av rd mo en mo_en)
set_option maxRecDepth 100000
set_option maxHeartbeats 4000000
set_option synthInstance.maxSize 100000
set_option synthInstance.maxHeartbeats 400000
set_option maxHeartbeats 1000000
noncomputable section
def B9:gw:=⟨tf gk,tf gl⟩
def V4 (r:R gw) (k:R gw→Bool):Bool:=KK r.1 fun x=>KK r.2 fun y=>k (x,y)
theorem AKy (r:R gw) (k:R gw→Bool):V4 r k=k r:=by unfold V4;rw [LW,LW];rfl
def kU (a:R gw) (k:R gw→Bool) (N i:Nat):R gw→Bool:=Nat.rec k (fun i ih r=>V4 (mu gw r r) fun s=>cond (Nat.beq (N / 2^i % 2) 1) (V4 (mu gw s a) ih) (ih s)) i
theorem Ai6 {a:R gw} {k:R gw→Bool} {N:Nat}:∀ (i:Nat) (r:R gw),(mo r:gw)=pw (mo a) (N / 2^i)→kU a k N i r=true→∃ s:R gw,(mo s:gw)=pw (mo a) N∧k s=true:=by
 intro i;induction i with
 | zero =>
  intro r hr h;rw [kx,ld] at hr;exact ⟨r,hr,h⟩
 | succ i ih =>
  intro r hr h;have h':V4 (mu gw r r) (fun s=>cond (Nat.beq (N / 2^i % 2) 1) (V4 (mu gw s a) (kU a k N i)) (kU a k N i s))=true:=h
  rw [AKy,AKy] at h';have hdiv:N / 2^i=N / 2^(i+1)+N / 2^(i+1)+N / 2^i % 2:=by
   rw [lj,← ll];omega
  have hs:(mo (mu gw r r):gw)=pw (mo a) (N / 2^(i+1)+N / 2^(i+1)):=by unfold mu;rw [mo_en,hr,← Rt]
  cases hb:Nat.beq (N / 2^i % 2) 1 with
  | true =>
   rw [hb] at h';refine ih _ ?_ h'
   rw [hdiv,nf hb,LS,← hs];unfold mu;rw [mo_en]
  | false =>
   rw [hb] at h';have h1:N / 2^i % 2=0:=by
    have:=Nat.ne_of_beq_eq_false hb
    omega
   refine ih _ ?_ h'
   rw [hs,hdiv,h1];rfl
theorem Ai7:pw xi ((pN-1) / 6)=B9:=by
 have h:kU ((1:Nat),(1:Nat)) (fun s=>Nat.beq s.1 gk&&Nat.beq s.2 gl) ((pN-1) / 6) 379 ((1:Nat),(0:Nat))=true:=dm
 have ea:(mo (((1:Nat),(1:Nat)):R gw):gw)=xi:=Qx.ext D6 D6
 obtain ⟨s,h1,h2⟩:=Ai6 379 ((1:Nat),(0:Nat)) (by
  have e:(pN-1) / 6 / 2^379=0:=dm
  rw [e];exact Qx.ext D6 tf_zero) h
 rw [ea] at h1;obtain ⟨q1,q2⟩:=jy.1 h2;rw [← h1];exact Qx.ext (jw tf (nf q1)) (jw tf (nf q2))
def gg:gw:=B9*B9
def gv:gy→gy:=Rg.kM Qx.conj gg
def g6:gy:=⟨B9,0,0⟩
def gu:gx→gx:=Rg.qM gv g6
theorem V5 {x y:gw} (h:decide (x=y)=true):x=y:=kj h
theorem Ai8:Qx.conj xi=xi*(gg*(gg*gg)):=V5 dm
theorem Ai9:RH gv:=AeD Qx.conj_rh Ai8
theorem f12_rh:RH gu:=by
 refine AeE Ai9 ?_
 refine Kx.ext ?_ ?_ ?_
 ·show Qx.conj 0=0*(B9*B9+xi*(0*0+0*0))+xi*(1*(B9*0+0*0+0*B9)+0*(B9*0+0*B9+xi*(0*0)));rw [Qx.conj_rh.zero];exact ring [B9,xi] (a:=0) dm
 ·show Qx.conj 1*gg=0*(B9*0+0*B9+xi*(0*0))+1*(B9*B9+xi*(0*0+0*0))+xi*(0*(B9*0+0*0+0*B9));rw [Qx.conj_rh.one];unfold gg;exact ring [B9,xi] (a:=1*(B9*B9)) dm
 ·show Qx.conj 0*(gg*gg)=0*(B9*0+0*0+0*B9)+1*(B9*0+0*B9+xi*(0*0))+0*(B9*B9+xi*(0*0+0*0));rw [Qx.conj_rh.zero];exact ring [B9,gg,xi] (a:=0*(gg*gg)) dm
theorem AKz:∃ n:Nat,n=0xd201000000010000:=⟨_,rfl⟩
def XX:Nat:=Classical.choose AKz
theorem Ai_:XX=0xd201000000010000:=lf AKz
theorem AK0:∃ n:Nat,n=0x396c8c005555e1568c00aaab0000aaab:=⟨_,rfl⟩
def EE:Nat:=Classical.choose AK0
theorem Ai':EE=0x396c8c005555e1568c00aaab0000aaab:=lf AK0
def finF (x:gx):gx:=TD Qx.conj gu EE XX x
theorem finF_mh:MH finF:=AJM Qx.conj_rh.mh f12_rh.mh EE XX
theorem AjA {x:gx} (hx:x≠0):finF x*finF (Qx.conj x)=1:=AeI Qx.conj_rh.mh f12_rh.mh Qx.conj_conj EE XX hx
end
open Ex Num
theorem AAb {β:Env} {k n m:Nat} {u:gq} (h:AO β (AQ k 0 n m) u) (hn:1≤n):β k≠some .emp:=fun e=>by
 obtain ⟨l1,l2,h1,h2,h3⟩:=h;rcases h1 with ⟨B,q,q1,_⟩ | ⟨q1,_⟩ | ⟨_,_,q,_⟩
 ·rw [e] at q1;cases q1
 ·rw [e] at q1;cases q1
 ·omega
def V6 (c:List Ch):ib:=⟨Br,c,true⟩
theorem AAc {β:Env} {H:Heap} {w:gn} {k j ty:Nat} {cs:List Ch} {o:Bool} {xs:dt} {ρ:List Nat} {k0:Nat} (hg:Ex.Good β H w) (hk:AF H k=some ⟨ty,cs,o⟩) (hx:A' .u8 cs=some xs) (jd:β k≠some .emp) (hj:j<k0) (hn:nth ρ j=k):DK (A9 β ρ k0) (V6 [.seq .u8 xs]) j w:=by
 have e:A9 β ρ k0 j=β k:=by rw [E6 hj,hn]
 rcases IB hg hk hx hj hn with ⟨B,n,l,t,pre,ty',fz,q1,q2,q3,q4,q5⟩ | ⟨X,q1,q2,q3⟩ | ⟨_,_,_,_,_,h,_⟩
 ·exact .inl ⟨B,n,l,t,pre,ty',fz,q1,q2,q3,q4,fun h=>absurd rfl h⟩
 ·refine .inr (.inl ⟨X,q1,?_,q3⟩)
  cases X with
  | at_=>exact q2
  | nil=>exact Or.inl rfl
  | emp=>exact absurd (e.symm.trans q1) jd
 ·exact absurd h (show ¬ Jr≤Br by decide)
noncomputable abbrev xeF:Func:=f214
noncomputable def SXa0:dw:=(259,BF dr oSy f259 300)::SSy
theorem AjB:AX dr SXa0:=⟨BJ Aiv AB func259 dm dm 300,kR⟩
noncomputable abbrev oXa0:ia:=AG SXa0 KV
theorem AAd:g_ dr oXa0:=AH AjB BR
noncomputable def JW (xs ds:dt):Heap:=[(0,some (An [.seq .u8 xs])),(1,some (V6 [.seq .u8 ds]))]
noncomputable def xeE (o n m n' m':Nat) (xs ds:dt) (p:List Bool):h_:=Ak xeF [AQ 0 o n m,AQ 1 0 n' m',.val false [.n .i64 256]] (JW xs ds) 2 p
noncomputable def AAe:List Item:=B6 (AZ dr oXa0 (some 4) 300 2 none (xeE 0 0 0 0 0 [] [] ef))
noncomputable def xeT (L:Nat) (s i:AV):List AV:=Dx xeF.ntmps [(2,.val false [.n .i64 256]),(8,.val false [.sx 2 L 1]),(9,.val false [.p 3 0]),(10,s),(11,.val false [.p 4 0]),(12,i)]
def O1 (f:Nat→Int):dt:=(List.range 32).map f
noncomputable def V7 (xs ds tg F:dt) (b:ib):Heap:=[(0,some (An [.seq .u8 xs])),(1,some (V6 [.seq .u8 ds])),(2,some ⟨5,[.seq .u8 tg],true⟩),(3,some ⟨54,[.seq .u8 F],false⟩),(4,some b)]
noncomputable def kW (g:dt):ib:=⟨54,[.seq .u8 g],false⟩
noncomputable def ZT (xs ds tg:dt) (L:Nat) (f g:Nat→Int) (ys:dt) (M:Nat) (i:Int) (p:List Bool):h_:=⟨AAe,⟨xeT L (.val false [.sx 5 M 1]) (iA i),V7 xs ds tg (O1 f) (kW (O1 g))++[(5,some ⟨5,[.seq .u8 ys],true⟩)],6,p⟩⟩
section
variable (xs ds tg:dt) (L:Nat) (f g:Nat→Int) (ys:dt) (M:Nat) (i:Int)
def V8:dt:=O1 fun k=>bits .xor .u8 (g k) (f k)
def QZ:dt:=AA (V8 f g) (0+0*1) (32-0)++AA [AW false .u8 i] 0 1++AA tg 0 L
def V9:dt:=IA (AA (QZ tg L f g i) 0 (32-0+1+L))
noncomputable def xeN (z:dt):h_:=⟨AAe,⟨Jw (Dw 2 [2,3,4,13]) (xeT L (.val false [.sx 5 (M+(32-0)) 1]) (iA (wI (i+1)))),IU (Dw 2 [2,3,4,13]) (V7 xs ds tg (O1 f) (kW z)++[(5,some ⟨5,[.seq .u8 (ys.take M++List.take (32-0) (List.drop (0+0*1) z))],true⟩)]),14,[]⟩⟩
theorem AjD:AZ dr oXa0 (some 4) 600 2 (some ([2,8,9,10,11,12],[0,1,2,3,4,13],14)) (ZT xs ds tg L f g ys M i dz) =
 some ((AK .i64 M,true)::(decide ((M:Int)<256),true)::tt 98 ((Nat.ble (0+L) tg.length,true)::(Nat.ble (32-0+1+L) 35184372088832,true)::(Nat.ble (0+(32-0+1+L)) (QZ tg L f g i).length,true)::(Nat.ble (32-0+1+L) 35184372088832,true)::(Nat.ble M ys.length,true)::(true,true)::(ED (M+(32-0)),true)::[]),[],xeN xs ds tg L f ys M i (V9 tg L f g i)):=dm
def TR:Heap:=[(5,some ⟨5,[.seq .u8 ys],true⟩)]
theorem AjE:AU dr oXa0 xeF 300 2 [5] (ZT xs ds tg L f g ys M i dx)=some ([(AK .i64 M,true),(decide ((M:Int)<256),false),(decide ((0:Int)≤256∧(256:Int)≤M),true),(true,true)],[],.tup [(false,[.sl 5 0 256 256]),(false,[.n .i64 0])],TR ys):=dm
end
section
variable (o n m n' m':Nat) (xs ds:dt)
def IC:Nat:=Int.toNat (n':Int)-0
def ZU:dt:=List.take (IC n') (List.drop 0 ds)++[AW false .u8 n']
def ZV:dt:=AA (List.replicate 64 0) 0 64++AA xs o n++AA [1,0,0] 0 3++AA (ZU n' ds) 0 (IC n'+1)
def AK2:ib:=⟨54,List.replicate 32 (.n .u8 0),false⟩
theorem AjF:AZ dr oXa0 (some 4) 300 2 (some ([2,8,9,10,11,12],[0,1,3,13,14],15)) (xeE o n m n' m' xs ds ef) =
 some ((AK .i64 n',true)::(decide ((n':Int)<1),false)::(AK .i64 n',true)::(decide ((255:Int)<n'),false)::(AK .i64 n',true)::(AK .i64 n',true)::(decide ((0:Int)≤n'∧(n':Int)≤m'),true)::(decide ((0:Int)≤n'∧(n':Int)≤Int.toNat (n':Int)),true)::(true,true)::(AK .i64 n',true)::(Nat.ble (0+IC n') ds.length,true) ::
  (Nat.beq (IC n') (IC n')&&Nat.blt 0 1,true)::(ED (IC n'+1),true)::(true,true)::(true,true)::(Nat.ble (o+n) xs.length,true)::(true,true)::(Nat.ble (0+(IC n'+1)) (ZU n' ds).length,true)::(Nat.ble (64+n+3+(IC n'+1)) 35184372088832,true)::(Nat.ble (0+(64+n+3+(IC n'+1))) (ZV o n n' xs ds).length,true)::(Nat.ble (64+n+3+(IC n'+1)) 35184372088832,true)::[],[],
  ⟨AAe,⟨Jw (Dw 2 [3,13,14]) (xeT (IC n'+1) V2 (.val false [.n .i64 1])),IU (Dw 2 [3,13,14]) (V7 xs ds (ZU n' ds) (IA (AA (ZV o n n' xs ds) 0 (64+n+3+(IC n'+1)))) AK2),15,[]⟩⟩):=dm
end
def HC (d:dt):dt:=d++[(d.length:Int)]
def V_ (x t:dt):dt:=IA (List.replicate 64 0++x++[1,0,0]++t)
def TS (F l:dt):dt:=V8 (fun k=>F.getD k 0) fun k=>l.getD k 0
def xd (F t:dt):Nat→dt
 | 0=>List.replicate 32 0
 | i+1=>IA (TS F (xd F t i)++[((i+1:Nat):Int)]++t)
def ID (F t:dt):Nat→dt
 | 0=>[]
 | i+1=>ID F t i++xd F t (i+1)
theorem AK3:∃ f:dt→dt→dt,∀ x d,f x d=ID (V_ x (HC d)) (HC d) 8:=⟨_,fun _ _=>rfl⟩
noncomputable def KZ:dt→dt→dt:=Classical.choose AK3
theorem kY (x d:dt):KZ x d=ID (V_ x (HC d)) (HC d) 8:=lf AK3 x d
theorem TT (F t:dt):∀ i,(xd F t i).length=32
 | 0=>oz
 | _+1=>ZR _
theorem V' (F t:dt):∀ i,(ID F t i).length=32*i
 | 0=>rfl
 | i+1=>by
  show (ID F t i++xd F t (i+1)).length=_;rw [ku,V' F t i,TT];omega
theorem WA {l:dt} (h:l.length=32):O1 (fun k=>l.getD k 0)=l:=(jS h).symm
theorem AAg (f g:Nat→Int):(V8 f g).length=32:=by unfold V8 O1;rw [ma,pp]
theorem AAh {i:Nat} (h:i<256):AW false .u8 (i:Int)=(i:Int):=by rw [DD,IntKind.wrap_u8];omega
theorem AAi {F l t:dt} {L i:Nat} (ht:t.length=L) (hi:i<256):QZ t L (fun k=>F.getD k 0) (fun k=>l.getD k 0) (i:Int)=TS F l++[(i:Int)]++t:=by
 unfold QZ TS;rw [show 0+0*1=0 from rfl,show 32-0=32 from rfl,QY (AAg _ _),QY ht,AAh hi]
 rfl
theorem AK4 {F l t:dt} {L i:Nat} (ht:t.length=L) (hi:i<256):(QZ t L (fun k=>F.getD k 0) (fun k=>l.getD k 0) (i:Int)).length=32-0+1+L:=by
 rw [AAi ht hi,ku,ku,ht];unfold TS;rw [AAg];rfl
theorem AjG {xs ds t F:dt} {L:Nat} (_hF:F.length=32) (ht:t.length=L) (hL:L≤1000) {β0:Env} {w0:gn} (hb:∀ b,2≤b→β0 b=none):∀ r i:Nat,i+r=8 →
  gz dr 214 β0 w0 (BA β0 w0 [] (.tup [(false,[.sl 5 0 256 256]),(false,[.n .i64 0])]) (TR (ID F t 8))) xeF.ntmps []
   (ZT xs ds t L (fun k=>F.getD k 0) (fun k=>(xd F t i).getD k 0) (ID F t i) (32*i) ((i+1:Nat):Int) []):=by
 intro r;induction r with
 | zero =>
  intro i hi;obtain rfl:i=8:=dn
  exact Ai dx (A6 AAd AB func214 (AjE ..) ⟨dp,dp,dp,rfl,trivial⟩ (AR dm) hb jl)
 | succ r ih =>
  intro i hi;refine Ai dz (Aj AAd AB (AjD ..) ⟨HB dn,jm dn,AY 98 ⟨jr dn,jr dn,?_,jr dn,?_,rfl,EN dn,trivial⟩⟩ (AR dm) hb jl fun _=>?_)
  ·rw [AK4 ht dn];exact jr dn
  ·rw [V'];exact jr dn
  ·have ez:V9 t L (fun k=>F.getD k 0) (fun k=>(xd F t i).getD k 0) ((i+1:Nat):Int)=xd F t (i+1):=by
    unfold V9;rw [QY (AK4 ht dn),AAi ht dn];rfl
   rw [ez];refine Nm (m:=6) dm hb ?_
   have e1:(ID F t i).take (32*i)++List.take (32-0) (List.drop (0+0*1) (xd F t (i+1)))=ID F t (i+1):=by
    rw [F5 (V' F t i),show 0+0*1=0 from rfl,show 32-0=32 from rfl,qf,F5 (TT F t (i+1))]
    rfl
   have next:=ih (i+1) dn
   unfold ZT at next;rw [WA (TT F t (i+1))] at next;rw [e1,Au (z:=((i+1:Nat):Int)+1) dn];exact next
def TU (ts:List Nat):Nat→List AV→List AV
 | _,[]=>[]
 | i,x::r=>(match EU i ts with | true=>GL x | false=>x)::TU ts (i+1) r
theorem AK5 (ts:List Nat):∀ (T:List AV) (i t:Nat),Aq (TU ts i T) t=GL (Aq T t)∨Aq (TU ts i T) t=Aq T t
 | [],_,_=>.inr rfl
 | x::r,i,0=>by
  simp only [TU,Aq];split
  ·exact .inl rfl
  ·exact .inr rfl
 | _::r,i,t+1=>AK5 ts r (i+1) t
theorem AK6 {P:gr} {f:gp} {β0:Env} {w0:gn} {R:Ending→gn→Prop} {n:Fz} {W:List Nat} {todo:List Item} {T:List AV} {H:Heap} {fr:Nat} {p:List Bool} (ts:List Nat) (h:gz P f β0 w0 R n W ⟨todo,⟨TU ts 0 T,H,fr,p⟩⟩):gz P f β0 w0 R n W ⟨todo,⟨T,H,fr,p⟩⟩:=by
 intro β a w hi hf;refine h β a w { hi with tmp:=fun t=>?_ } hf
 rcases AK5 ts T 0 t with e | e
 ·show AO β (Aq (TU ts 0 T) t) _;rw [e];exact AER (hi.tmp t)
 ·show AO β (Aq (TU ts 0 T) t) _;rw [e];exact hi.tmp t
theorem AK7 (β:Env) (l:List gq) (h:AP β (List.replicate 32 (.n .u8 0)) l):AP β [.seq .u8 (List.replicate 32 0)] l:=by
 have e:A' .u8 (List.replicate 32 (.n .u8 0))=some (List.replicate 32 0):=dm
 obtain ⟨h1,h2⟩:=DL e h;exact ⟨_,[],⟨h1,h2⟩,rfl,by simp⟩
theorem AjH {o n m n' m':Nat} {xs ds:dt} (h1:o+n≤xs.length) (h2:n'≤ds.length) (hn:n≤4398046511104) (hn1:1≤n') (hn':n'≤255) (hm:n'≤m') :
  Ab dr 214 [AQ 0 o n m,AQ 1 0 n' m',.val false [.n .i64 256]] (JW xs ds) 2 [] (.tup [(false,[.sl 5 0 256 256]),(false,[.n .i64 0])]) (TR (KZ (AA xs o n) (AA ds 0 n'))):=by
 have hd:(AA ds 0 n').length=n':=HA dn
 have eL:IC n'=n':=by unfold IC;omega
 have eG:ZU n' ds=HC (AA ds 0 n'):=by
  unfold ZU HC;rw [eL,hd,AAh dn];rfl
 have lT:(HC (AA ds 0 n')).length=n'+1:=L6 hd rfl
 have eQ:ZV o n n' xs ds=List.replicate 64 0++AA xs o n++[1,0,0]++HC (AA ds 0 n'):=by
  unfold ZV;rw [eL,eG,QY lT];rfl
 have lQ:(ZV o n n' xs ds).length=64+n+3+(IC n'+1):=by
  rw [eQ,ku,ku,ku,lT,HA h1,oz,eL];rfl
 refine A_ (ie:=ef) func214 dm dm fun β0 w0 hb=>?_
 refine Aj AAd AB (AjF o n m n' m' xs ds) ?_ (AR dm) hb jl fun _=>?_
 ·have hh:AK .i64 (n':Int)=true:=HB dn
  rw [lQ,eG,lT,eL];exact ⟨hh,jq dn,hh,jq dn,hh,hh,jm dn,jm dn,rfl,hh,jr dn,by rw [Nat.beq_refl];rfl,EN dn,rfl,rfl,jr h1,rfl,jr dn,jr dn,jr dn,jr dn,trivial⟩
 ·refine Nm (m:=5) dm hb ?_
  refine bO (ts:=[10]) (sz:=1) (ty:=5) (kd:=.u8) rfl (hb 5 dp) (AK6 [12] ?_)
  refine TM (k:=4) (ty:=54) (o:=false) (cs':=[.seq .u8 (List.replicate 32 0)]) rfl AK7 ?_
  rw [QY lQ,eQ,eG,eL,kY];have next:=AjG (xs:=xs) (ds:=ds) (F:=V_ (AA xs o n) (HC (AA ds 0 n'))) (w0:=w0) (ZR _) lT dn hb 8 0 rfl
  unfold ZT at next;rw [WA (l:=V_ (AA xs o n) (HC (AA ds 0 n'))) (ZR _),WA (TT _ _ 0)] at next;exact next
def xeV:AV:=.tup [(false,[.sl 5 0 256 256]),(false,[.n .i64 0])]
noncomputable def AAj (v:AV) (K nw:Nat):ASpec:=fun args H fr ie=>match args with
 | [S,T,.val false [.n .i64 256]]=>match DS S,Io T with
  | some (k,o,n),some (t,n',m')=>match AF H k,AF H t with
   | some ⟨_,cs,_⟩,some ⟨_,es,_⟩=>match A' .u8 cs,A' .u8 es with
    | some xs,some ds=>some (BP [k,t] 2 fr nw [] v [(K,some ⟨5,[.seq .u8 (KZ (AA xs o n) (AA ds 0 n'))],true⟩)] [(Nat.ble (o+n) xs.length,true),(Nat.ble n' ds.length,true),(Nat.ble n 4398046511104,true),(Nat.ble 1 n',true),(Nat.ble n' 255,true),(Nat.ble n' m',true)] ie)
    | _,_=>none
   | _,_=>none
  | _,_=>none
 | _=>none
theorem AjJ {F:gp} {fn:Func} {v:AV} {K nw:Nat} (jc:dr.funcs[F]? = some fn) (hb:fn.body.isSome=true) (iq:fw fn) (hk:∀ l,EJ 2 nw [] v [(K,some ⟨5,[.seq .u8 l],true⟩)]=true)
  (h:∀ {o n m n' m':Nat} {xs ds:dt},(∀ d∈xs,0≤d∧d<256)→(∀ d∈ds,0≤d∧d<256)→o+n≤xs.length→n'≤ds.length→n≤4398046511104→1≤n'→n'≤255→n'≤m'→Ab dr F [AQ 0 o n m,AQ 1 0 n' m',.val false [.n .i64 256]] (JW xs ds) 2 [] v [(K,some ⟨5,[.seq .u8 (KZ (AA xs o n) (AA ds 0 n'))],true⟩)]):BI dr F (AAj v K nw):=by
 refine DN jc hb iq fun args H fr ie r hs=>?_
 unfold AAj at hs;split at hs;case h_2=>cases hs
 rename_i S T;split at hs;case h_2=>cases hs
 rename_i k o n t n' m' hS hT;split at hs;case h_2=>cases hs
 rename_i ty cs op ty' es op' hk' ht';split at hs;case h_2=>cases hs
 rename_i xs ds hx hd;injection hs with hs;refine ⟨[k,t],2,nw,[],_,_,_,ie,hs.symm,fun β us w ha hg hc=>?_⟩
 obtain ⟨u1,jf,r1,⟨u2,jg,r2,⟨u3,us3,r3,ha,rfl⟩,rfl⟩,rfl⟩:=ha;obtain ⟨c1,c2,c3,c4,c5,c6,_⟩:=hc;obtain ⟨m,r1⟩:=E8 hS r1;obtain ⟨m2,hm2,r2⟩:=KO hT (jp c6) r2
 obtain ⟨g1,_,_⟩:=EP hg hk' hx;obtain ⟨g2,_,_⟩:=EP hg ht' hd;refine ⟨_,_,h (o:=o) (n:=n) (m:=m) (n':=n') (m':=m2) g1 g2 (jp c1) (jp c2) (jp c3) (jp c4) (jp c5) hm2,hk _,⟨u1,_,CV dn rfl r1,⟨u2,_,CV dn rfl r2,⟨u3,_,MT rfl r3,ha,rfl⟩,rfl⟩,rfl⟩,NJ (bs:=[An [.seq .u8 xs],V6 [.seq .u8 ds]]) hg fun j d hj=>?_,fun j hj=>?_⟩
 ·match j,hj with
  | 0,hj=>injection hj with hj;subst hj;exact ⟨rfl,IB hg hk' hx (by show 0<2;decide) rfl⟩
  | 1,hj=>injection hj with hj;subst hj;exact ⟨rfl,AAc hg ht' hd (AAb r2 (jp c4)) (by show 1<2;decide) rfl⟩
 ·match j,hj with
  | 0,_=>exact CM (hg.heap _ _ hk')
  | 1,_=>exact CM (hg.heap _ _ ht')
noncomputable def SCb0:dw:=(214,AAj xeV 5 4)::(SIe++SSy)
theorem AjK:AX dr SCb0:=⟨AjJ func214 dm dm (fun _=>rfl) fun _ _ h1 h2 h3 h4 h5 h6=>AjH h1 h2 h3 h4 h5 h6,H9 AG2 kR⟩
noncomputable abbrev oCb0:ia:=AG SCb0 KV
theorem AjL:g_ dr oCb0:=AH AjK BR
noncomputable abbrev fdsF:Func:=f154
section
variable (o n m n' m':Nat) (xs ds:dt)
noncomputable def AjM (p:List Bool):h_:=Ak fdsF [AQ 0 o n m,AQ 1 0 n' m',.val false [.n .i64 2]] (JW xs ds) 2 p
noncomputable def FL:dt:=KZ (AA xs o n) (AA ds 0 n')
noncomputable def GR (Z:dt) (j:Nat):Nat:=AI (AA (kQ (64*j) 64 Z) 0 ((64+7) / 8)) % pN
noncomputable def kZ (K:Nat) (a b c d:Nat):Heap:=[(K,some ⟨68,[.num 6 a,.num 6 b,.num 6 c,.num 6 d],true⟩)]
noncomputable def AjN (Z:dt):du:=(Nat.ble (o+n) xs.length,true)::(Nat.ble n' ds.length,true)::(Nat.ble n 4398046511104,true)::(Nat.ble 1 n',true)::(Nat.ble n' 255,true)::(Nat.ble n' m',true)::tt 4 ((Nat.ble 64 Z.length,true)::tt 5 ((false,false)::(Nat.ble 128 Z.length,true)::tt 5 ((false,false)::tt 4 ((Nat.ble 192 Z.length,true)::tt 5 ((false,false)::(Nat.ble 256 Z.length,true)::tt 7 ((false,false)::[]))))))
theorem AjO:AU dr oCb0 fdsF 300 2 [13] (AjM o n m n' m' xs ds fq) =
 some (AjN o n n' m' xs ds (FL o n n' xs ds),[],.tup [(false,[.sx 13 2 12]),(false,[.n .i64 0])],kZ 13 (GR (FL o n n' xs ds) 0) (GR (FL o n n' xs ds) 1) (GR (FL o n n' xs ds) 2) (GR (FL o n n' xs ds) 3)):=dm
end
theorem AAk (x d:dt):(KZ x d).length=256:=by rw [kY,V']
theorem AK8 (F t:dt):∀ i,∀ d∈ID F t i,0≤d∧d<256
 | 0,_,h=>by cases h
 | i+1,d,h=>by
  rcases j_.1 (show d∈ID F t i++xd F t (i+1) from h) with h | h
  ·exact AK8 F t i d h
  ·exact Ahj _ d h
theorem AjP (x d:dt):∀ z∈KZ x d,0≤z∧z<256:=by rw [kY];exact AK8 _ _ 8
theorem AK9:∃ f:dt→dt→Nat→Nat,∀ x d j,f x d j=Ap (AA (KZ x d) (64*j) 64) % pN:=⟨_,fun _ _ _=>rfl⟩
noncomputable def Qi:dt→dt→Nat→Nat:=Classical.choose AK9
theorem AjQ (x d:dt) (j:Nat):Qi x d j=Ap (AA (KZ x d) (64*j) 64) % pN:=lf AK9 x d j
noncomputable def WB (x d:dt):ib:=⟨68,[.num 6 (Qi x d 0),.num 6 (Qi x d 1),.num 6 (Qi x d 2),.num 6 (Qi x d 3)],true⟩
theorem Qj (x d:dt) {j:Nat} (hj:j<4):GR (KZ x d) j=Qi x d j:=by
 unfold GR;rw [Ait (AjP x d) (by rw [AAk];omega),AjQ]
theorem AjR {o n m n' m':Nat} {xs ds:dt} (h1:o+n≤xs.length) (h2:n'≤ds.length) (hn:n≤4398046511104) (hn1:1≤n') (hn':n'≤255) (hm:n'≤m') :
  Ab dr 154 [AQ 0 o n m,AQ 1 0 n' m',.val false [.n .i64 2]] (JW xs ds) 2 [] (.tup [(false,[.sx 13 2 12]),(false,[.n .i64 0])]) [(13,some (WB (AA xs o n) (AA ds 0 n')))]:=by
 refine A_ (ie:=fq) func154 dm dm fun β0 w0 hb=>?_
 have lZ:(FL o n n' xs ds).length=256:=AAk _ _
 have b64:∀ k,k≤256→Nat.ble k (FL o n n' xs ds).length=true:=fun k hk=>jr (by rw [lZ];exact hk)
 have:=A6 (P:=dr) (n:=fdsF.ntmps) (β0:=β0) (w0:=w0) (W:=[]) AjL AB func154 (AjO o n m n' m' xs ds) ⟨jr h1,jr h2,jr hn,jr hn1,jr hn',jr hm,AY 4 ⟨b64 64 dp,AY 5 ⟨rfl,b64 128 dp,AY 5 ⟨rfl,AY 4 ⟨b64 192 dp,AY 5 ⟨rfl,b64 256 dp,AY 7 ⟨rfl,trivial⟩⟩⟩⟩⟩⟩⟩ (AR dm) hb jl
 have e:kZ 13 (GR (FL o n n' xs ds) 0) (GR (FL o n n' xs ds) 1) (GR (FL o n n' xs ds) 2) (GR (FL o n n' xs ds) 3)=[(13,some (WB (AA xs o n) (AA ds 0 n')))]:=by
  unfold FL;rw [Qj _ _ dp,Qj _ _ dp,Qj _ _ dp,Qj _ _ dp];rfl
 rw [e] at this;exact this
noncomputable def ZW (c:Int) (v:AV) (K nw:Nat) (g:dt→dt→ib):ASpec:=fun args H fr ie=>match args with
 | [S,T,.val false [.n .i64 z]]=>match decide (z=c) with
  | true=>match DS S,Io T with
   | some (k,o,n),some (t,n',m')=>match AF H k,AF H t with
    | some ⟨_,cs,_⟩,some ⟨_,es,_⟩=>match A' .u8 cs,A' .u8 es with
     | some xs,some ds=>some (BP [k,t] 2 fr nw [] v [(K,some (g (AA xs o n) (AA ds 0 n')))] [(Nat.ble (o+n) xs.length,true),(Nat.ble n' ds.length,true),(Nat.ble n 4398046511104,true),(Nat.ble 1 n',true),(Nat.ble n' 255,true),(Nat.ble n' m',true)] ie)
     | _,_=>none
    | _,_=>none
   | _,_=>none
  | false=>none
 | _=>none
theorem AAl {c:Int} {F:gp} {fn:Func} {v:AV} {K nw:Nat} {g:dt→dt→ib} (jc:dr.funcs[F]? = some fn) (hb:fn.body.isSome=true) (iq:fw fn) (hk:∀ l d,EJ 2 nw [] v [(K,some (g l d))]=true)
  (h:∀ {o n m n' m':Nat} {xs ds:dt},(∀ d∈xs,0≤d∧d<256)→(∀ d∈ds,0≤d∧d<256)→o+n≤xs.length→n'≤ds.length→n≤4398046511104→1≤n'→n'≤255→n'≤m'→Ab dr F [AQ 0 o n m,AQ 1 0 n' m',.val false [.n .i64 c]] (JW xs ds) 2 [] v [(K,some (g (AA xs o n) (AA ds 0 n')))]):BI dr F (ZW c v K nw g):=by
 refine DN jc hb iq fun args H fr ie r hs=>?_
 unfold ZW at hs;split at hs;case h_2=>cases hs
 rename_i S T z;split at hs;case h_2=>cases hs
 rename_i hz;obtain rfl:z=c:=kj hz
 split at hs;case h_2=>cases hs
 rename_i k o n t n' m' hS hT;split at hs;case h_2=>cases hs
 rename_i ty cs op ty' es op' hk' ht';split at hs;case h_2=>cases hs
 rename_i xs ds hx hd;injection hs with hs;refine ⟨[k,t],2,nw,[],_,_,_,ie,hs.symm,fun β us w ha hg hc=>?_⟩
 obtain ⟨u1,jf,r1,⟨u2,jg,r2,⟨u3,us3,r3,ha,rfl⟩,rfl⟩,rfl⟩:=ha;obtain ⟨c1,c2,c3,c4,c5,c6,_⟩:=hc;obtain ⟨m,r1⟩:=E8 hS r1;obtain ⟨m2,hm2,r2⟩:=KO hT (jp c6) r2
 obtain ⟨g1,_,_⟩:=EP hg hk' hx;obtain ⟨g2,_,_⟩:=EP hg ht' hd;refine ⟨_,_,h (o:=o) (n:=n) (m:=m) (n':=n') (m':=m2) g1 g2 (jp c1) (jp c2) (jp c3) (jp c4) (jp c5) hm2,hk _ _,⟨u1,_,CV dn rfl r1,⟨u2,_,CV dn rfl r2,⟨u3,_,MT rfl r3,ha,rfl⟩,rfl⟩,rfl⟩,NJ (bs:=[An [.seq .u8 xs],V6 [.seq .u8 ds]]) hg fun j d hj=>?_,fun j hj=>?_⟩
 ·match j,hj with
  | 0,hj=>injection hj with hj;subst hj;exact ⟨rfl,IB hg hk' hx (by show 0<2;decide) rfl⟩
  | 1,hj=>injection hj with hj;subst hj;exact ⟨rfl,AAc hg ht' hd (AAb r2 (jp c4)) (by show 1<2;decide) rfl⟩
 ·match j,hj with
  | 0,_=>exact CM (hg.heap _ _ hk')
  | 1,_=>exact CM (hg.heap _ _ ht')
def fdV (K:Nat):AV:=.tup [(false,[.sx K 2 12]),(false,[.n .i64 0])]
noncomputable def SCc:dw:=[(154,ZW 2 (fdV 13) 13 12 WB)]
theorem AjS:AX dr SCc:=⟨AAl func154 dm dm (fun _ _=>rfl) fun _ _ h1 h2 h3 h4 h5 h6=>AjR h1 h2 h3 h4 h5 h6,trivial⟩
noncomputable abbrev rxF:Func:=f187
noncomputable def rxE (o n m n' m':Nat) (xs ds:dt) (p:List Bool):h_:=Ak rxF [AQ 0 o n m,AQ 1 0 n' m',.val false [.n .i64 256]] (JW xs ds) 2 p
noncomputable def AAn:List Item:=B6 (AZ dr oSo (some 4) 300 2 none (rxE 0 0 0 0 0 [] [] ef))
noncomputable def rxT (L:Nat) (s i:AV):List AV:=Dx rxF.ntmps [(2,.val false [.n .i64 256]),(8,.val false [.sx 2 L 1]),(10,.val false [.p 3 0]),(11,s),(12,.val false [.p 4 0]),(13,i)]
noncomputable def ZX (xs ds tg:dt) (L:Nat) (f g:Nat→Int) (ys:dt) (M:Nat) (i:Int) (p:List Bool):h_:=⟨AAn,⟨rxT L (.val false [.sx 5 M 1]) (iA i),V7 xs ds tg (O1 f) (kW (O1 g))++TR ys,6,p⟩⟩
theorem AjT (a b:Int):bits .xor .u8 a b=bits .xor .u8 b a:=by simp only [bits];rw [BitVec.xor_comm]
theorem AjU (f g:Nat→Int):V8 f g=V8 g f:=nx fun _ _=>AjT _ _
section
variable (xs ds tg:dt) (L:Nat) (f g:Nat→Int) (ys:dt) (M:Nat) (i:Int)
noncomputable def rxN (z:dt):h_:=⟨AAn,⟨Jw (Dw 2 [2,3,4,73]) (rxT L (.val false [.sx 5 (M+(32-0)) 1]) (iA (wI (i+1)))),IU (Dw 2 [2,3,4,73]) (V7 xs ds tg (O1 f) (kW z)++[(5,some ⟨5,[.seq .u8 (ys.take M++List.take (32-0) (List.drop (0+0*1) z))],true⟩)]),74,[]⟩⟩
theorem AjW:AZ dr oSo (some 4) 600 2 (some ([2,8,10,11,12,13],[0,1,2,3,4,73],74)) (ZX xs ds tg L f g ys M i dz) =
 some ((AK .i64 M,true)::(decide ((M:Int)<256),true)::tt 130 ((Nat.ble L tg.length,true)::(ED (33+L),true)::(Nat.ble (0+(33+L)) (QZ tg L g f i).length,true)::(Nat.ble (33+L) 35184372088832,true)::(Nat.ble M ys.length,true)::(true,true)::(ED (M+(32-0)),true)::[]),[],rxN xs ds tg L f ys M i (V9 tg L g f i)):=dm
theorem AjX:AU dr oSo rxF 300 2 [5] (ZX xs ds tg L f g ys M i dx)=some ([(AK .i64 M,true),(decide ((M:Int)<256),false),(decide ((0:Int)≤256∧(256:Int)≤M),true)],[],.tup [(false,[.sx 5 256 1]),(false,[.n .i64 0])],TR ys):=dm
end
section
variable (o n m n' m':Nat) (xs ds:dt)
def WC:dt:=List.take (0+n') (List.take n' (List.drop 0 ds))++[AW false .u8 n']
def k6:dt:=List.take 64 (List.drop 0 (List.replicate 64 0))++List.take n (List.drop o xs)
def WD:dt:=List.take (64+n) (k6 o n xs)++[1,0,0]
def WE:dt:=List.take (64+n+3) (WD o n xs)++List.take (0+n'+1) (WC n' ds)
theorem AjY:AZ dr oSo (some 4) 300 2 (some ([2,8,10,11,12,13],[0,1,5,11,12],13)) (rxE o n m n' m' xs ds ef) =
 some ((AK .i64 n',true)::(decide ((n':Int)<1),false)::(AK .i64 n',true)::(decide ((255:Int)<n'),false)::(true,true)::(Nat.ble (0+n') ds.length,true)::(ED (0+n'),true)::(AK .i64 n',true)::(Nat.ble (0+n') (List.take n' (List.drop 0 ds)).length,true)::(ED (0+n'+1),true)::(true,true)::(true,true)::(true,true)::(Nat.ble (o+n) xs.length,true)::(ED (64+n),true)::(Nat.ble (64+n) (k6 o n xs).length,true)::(ED (64+n+3),true)::(Nat.ble (64+n+3) (WD o n xs).length,true)::(Nat.ble (0+n'+1) (WC n' ds).length,true)::(ED (64+n+3+(0+n'+1)),true)::(Nat.ble (0+(64+n+3+(0+n'+1))) (WE o n n' xs ds).length,true)::(Nat.ble (64+n+3+(0+n'+1)) 35184372088832,true)::[],[],
  ⟨AAn,⟨Jw (Dw 2 [5,11,12]) (rxT (0+n'+1) V2 (.val false [.n .i64 1])),IU (Dw 2 [5,11,12]) (V7 xs ds (WC n' ds) (IA (AA (WE o n n' xs ds) 0 (64+n+3+(0+n'+1)))) AK2),13,[]⟩⟩):=dm
end
theorem AjZ {xs ds t F:dt} {L:Nat} (_hF:F.length=32) (ht:t.length=L) (hL:L≤1000) {β0:Env} {w0:gn} (hb:∀ b,2≤b→β0 b=none):∀ r i:Nat,i+r=8 →
  gz dr 187 β0 w0 (BA β0 w0 [] (.tup [(false,[.sx 5 256 1]),(false,[.n .i64 0])]) (TR (ID F t 8))) rxF.ntmps []
   (ZX xs ds t L (fun k=>F.getD k 0) (fun k=>(xd F t i).getD k 0) (ID F t i) (32*i) ((i+1:Nat):Int) []):=by
 intro r;induction r with
 | zero =>
  intro i hi;obtain rfl:i=8:=dn
  exact Ai dx (A6 V1 AB func187 (AjX ..) ⟨dp,dp,dp,trivial⟩ (AR dm) hb jl)
 | succ r ih =>
  intro i hi;have eA:QZ t L (fun k=>(xd F t i).getD k 0) (fun k=>F.getD k 0) ((i+1:Nat):Int)=TS F (xd F t i)++[((i+1:Nat):Int)]++t:=by
   rw [← AAi ht dn];unfold QZ;rw [AjU]
  have lA:(TS F (xd F t i)++[((i+1:Nat):Int)]++t).length=33+L:=by
   rw [ku,ku,ht];unfold TS;rw [AAg];rfl
  refine Ai dz (Aj V1 AB (AjW ..) ⟨HB dn,jm dn,AY 130 ⟨jr dn,EN dn,?_,jr dn,?_,rfl,EN dn,trivial⟩⟩ (AR dm) hb jl fun _=>?_)
  ·rw [eA,lA];exact jr dn
  ·rw [V'];exact jr dn
  ·have ez:V9 t L (fun k=>(xd F t i).getD k 0) (fun k=>F.getD k 0) ((i+1:Nat):Int)=xd F t (i+1):=by
    unfold V9;rw [eA,QY (by rw [lA])]
    rfl
   rw [ez];refine Nm (m:=6) dm hb ?_
   have e1:(ID F t i).take (32*i)++List.take (32-0) (List.drop (0+0*1) (xd F t (i+1)))=ID F t (i+1):=by
    rw [F5 (V' F t i),show 0+0*1=0 from rfl,show 32-0=32 from rfl,qf,F5 (TT F t (i+1))]
    rfl
   have next:=ih (i+1) dn
   unfold ZX at next;rw [WA (TT F t (i+1))] at next;rw [e1,Au (z:=((i+1:Nat):Int)+1) dn];exact next
theorem Aja {o n m n' m':Nat} {xs ds:dt} (h1:o+n≤xs.length) (h2:n'≤ds.length) (hn:n≤4398046511104) (hn1:1≤n') (hn':n'≤255) :
  Ab dr 187 [AQ 0 o n m,AQ 1 0 n' m',.val false [.n .i64 256]] (JW xs ds) 2 [] (.tup [(false,[.sx 5 256 1]),(false,[.n .i64 0])]) (TR (KZ (AA xs o n) (AA ds 0 n'))):=by
 have hd:(AA ds 0 n').length=n':=HA dn
 have l0:(List.take n' (List.drop 0 ds)).length=n':=HA (ic:=0) dn
 have eG:WC n' ds=HC (AA ds 0 n'):=by
  unfold WC HC;rw [hd,AAh dn,kr,F5 l0];rfl
 have lT:(HC (AA ds 0 n')).length=n'+1:=L6 hd rfl
 have e1:k6 o n xs=List.replicate 64 0++AA xs o n:=rfl
 have l1:(k6 o n xs).length=64+n:=by rw [e1,ku,oz,HA h1]
 have e2:WD o n xs=List.replicate 64 0++AA xs o n++[1,0,0]:=by unfold WD;rw [F5 l1,e1]
 have l2:(WD o n xs).length=64+n+3:=by unfold WD;rw [F5 l1];exact L6 l1 rfl
 have lx:(WC n' ds).length=0+n'+1:=by rw [eG,lT];omega
 have e3:WE o n n' xs ds=List.replicate 64 0++AA xs o n++[1,0,0]++HC (AA ds 0 n'):=by unfold WE;rw [F5 l2,F5 lx,e2,eG]
 have l3:(WE o n n' xs ds).length=64+n+3+(0+n'+1):=by unfold WE;rw [F5 l2,F5 lx];exact L6 l2 lx
 refine A_ (ie:=ef) func187 dm dm fun β0 w0 hb=>?_
 refine Aj V1 AB (AjY o n m n' m' xs ds) ?_ (AR dm) hb jl fun _=>?_
 ·have hh:AK .i64 (n':Int)=true:=HB dn
  rw [l3,lx,l2,l1,l0];exact ⟨hh,jq dn,hh,jq dn,rfl,jr dn,EN dn,hh,jr dn,EN dn,rfl,rfl,rfl,jr h1,EN dn,jr dn,EN dn,jr dn,jr dn,EN dn,jr dn,jr dn,trivial⟩
 ·refine Nm (m:=5) dm hb ?_
  refine bO (ts:=[11]) (sz:=1) (ty:=5) (kd:=.u8) rfl (hb 5 dp) (AK6 [13] ?_)
  refine TM (k:=4) (ty:=54) (o:=false) (cs':=[.seq .u8 (List.replicate 32 0)]) rfl AK7 ?_
  rw [QY l3,e3,eG,kY];have next:=AjZ (xs:=xs) (ds:=ds) (F:=V_ (AA xs o n) (HC (AA ds 0 n'))) (w0:=w0) (ZR _) (show (HC (AA ds 0 n')).length=0+n'+1 by rw [lT];omega) dn hb 8 0 rfl
  unfold ZX at next;rw [WA (l:=V_ (AA xs o n) (HC (AA ds 0 n'))) (ZR _),WA (TT _ _ 0)] at next;exact next
def WF (m:Nat):Nat→Nat→List AV→List AV
 | _,_,[]=>[]
 | t,i,x::r=>(match Nat.beq i t,x with
  | true,.val false [.sx k len _]=>.val false [.sl k 0 len m]
  | _,y=>y)::WF m t (i+1) r
theorem AK' (m t:Nat):∀ (T:List AV) (i j:Nat),Aq (WF m t i T) j=Aq T j∨∃ k len sz,i+j=t∧Aq T j=.val false [.sx k len sz]∧Aq (WF m t i T) j=.val false [.sl k 0 len m]
 | [],_,_=>.inl rfl
 | x::r,i,0=>by
  simp only [WF,Aq];split
  ·rename_i k len sz h;exact .inr ⟨_,_,_,Ar.1 h,rfl,rfl⟩
  ·exact .inl rfl
 | x::r,i,j+1=>by
  rcases AK' m t r (i+1) j with h | ⟨k,len,sz,h1,h2,h3⟩
  ·exact .inl h
  ·exact .inr ⟨k,len,sz,dn,h2,h3⟩
theorem Ajb {P:gr} {f:gp} {β0:Env} {w0:gn} {R:Ending→gn→Prop} {n:Fz} {W:List Nat} {todo:List Item} {T:List AV} {H:Heap} {fr:Nat} {p:List Bool} {t k len sz:Nat} (ht:Aq T t=.val false [.sx k len sz])
  (h:∀ m,len≤m→gz P f β0 w0 R n W ⟨todo,⟨WF m t 0 T,H,fr,p⟩⟩):gz P f β0 w0 R n W ⟨todo,⟨T,H,fr,p⟩⟩:=by
 intro β a w hi hf;have r:=hi.tmp t;change AO β (Aq T t) _ at r
 rw [ht] at r;have key:∃ m,len≤m∧AO β (.val false [.sl k 0 len m]) (a.tmps.getD t undef):=by
  obtain ⟨l1,l2,h1,h2,h3⟩:=r;rcases h1 with ⟨B,q,cap,q1,q2,q3,q4⟩ | ⟨q1,q2,q3⟩
  ·exact ⟨cap,q3,l1,l2,.inl ⟨B,(q,0),q1,by rw [q2]⟩,h2,h3⟩
  ·exact ⟨0,dn,l1,l2,.inr (.inl ⟨q1,rfl,q2,rfl,q3⟩),h2,h3⟩
 obtain ⟨m,hm,r⟩:=key;refine h m hm β a w { hi with tmp:=fun j=>?_ } hf
 show AO β (Aq (WF m t 0 T) j) _;rcases AK' m t T 0 j with e | ⟨k',len',sz',e1,e2,e3⟩
 ·rw [e];exact hi.tmp j
 ·have e1:j=t:=dn
  subst e1;rw [ht] at e2;injection e2 with _ e2;injection e2 with e2;injection e2 with x1 x2 x3;subst x1;subst x2;rw [e3];exact r
def rxV:AV:=.tup [(false,[.sx 5 256 1]),(false,[.n .i64 0])]
noncomputable def SCe0:dw:=(187,ZW 256 rxV 5 4 fun x d=>⟨5,[.seq .u8 (KZ x d)],true⟩)::SYd2
theorem Ajd:AX dr SCe0:=⟨AAl func187 dm dm (fun _ _=>rfl) fun _ _ h1 h2 h3 h4 h5 _=>Aja h1 h2 h3 h4 h5,AKx⟩
noncomputable abbrev oCe0:ia:=AG SCe0 KV
theorem ALA:g_ dr oCe0:=AH Ajd BR
noncomputable abbrev fdrF:Func:=f121
noncomputable def ALB (o n m n' m':Nat) (xs ds:dt) (p:List Bool):h_:=Ak fdrF [AQ 0 o n m,AQ 1 0 n' m',.val false [.n .i64 2]] (JW xs ds) 2 p
noncomputable def ALC:List Item:=B6 (AZ dr oCe0 (some 0) 300 2 none (ALB 0 0 0 0 0 [] [] []))
noncomputable def ALD (s:AV):List AV:=Dx fdrF.ntmps [(2,.val false [.n .i64 2]),(9,s),(11,V2),(12,.val false [.n .i64 0])]
noncomputable def Aje (Z:dt) (s:AV) (p:List Bool):h_:=⟨ALC,⟨ALD s,[(2,some ⟨5,[.seq .u8 Z],true⟩)],3,p⟩⟩
section
variable (o n m n' m':Nat) (xs ds:dt)
theorem Ajf:AZ dr oCe0 (some 0) 300 2 (some ([2,9,11,12],[5],6)) (ALB o n m n' m' xs ds []) =
 some ([(Nat.ble (o+n) xs.length,true),(Nat.ble n' ds.length,true),(Nat.ble n 4398046511104,true),(Nat.ble 1 n',true),(Nat.ble n' 255,true),(Nat.ble n' m',true)],[],⟨ALC,⟨Jw (Dw 2 [5]) (ALD (.val false [.sx 2 256 1])),IU (Dw 2 [5]) [(2,some ⟨5,[.seq .u8 (FL o n n' xs ds)],true⟩)],6,[]⟩⟩):=dm
theorem Ajg (Z:dt):AU dr oCe0 fdrF 300 2 [14] (Aje Z (AQ 2 0 256 m) ep) =
 some ((decide ((0:Int)≤64∧(64:Int)≤m),true)::(true,true)::(Nat.beq m 0,false)::(Nat.ble 64 Z.length,true)::tt 3 ((decide ((0:Int)≤128∧(128:Int)≤m),true)::(true,true)::(Nat.beq m 64,false)::(Nat.ble 128 Z.length,true)::tt 4 ((decide ((0:Int)≤192∧(192:Int)≤m),true)::(true,true)::(Nat.beq m 128,false)::(Nat.ble 192 Z.length,true)::tt 3 ((decide ((0:Int)≤256∧(256:Int)≤m),true)::(true,true)::(Nat.beq m 192,false)::(Nat.ble 256 Z.length,true)::tt 4 []))),[],
  .tup [(false,[.sx 14 2 12]),(false,[.n .i64 0])],kZ 14 (GR Z 0) (GR Z 1) (GR Z 2) (GR Z 3)):=dm
end
theorem Ajh {o n m n' m':Nat} {xs ds:dt} (h1:o+n≤xs.length) (h2:n'≤ds.length) (hn:n≤4398046511104) (hn1:1≤n') (hn':n'≤255) (hm:n'≤m') :
  Ab dr 121 [AQ 0 o n m,AQ 1 0 n' m',.val false [.n .i64 2]] (JW xs ds) 2 [] (fdV 14) [(14,some (WB (AA xs o n) (AA ds 0 n')))]:=by
 refine A_ (ie:=[]) func121 dm dm fun β0 w0 hb=>?_
 refine Aj ALA AB (Ajf o n m n' m' xs ds) ⟨jr h1,jr h2,jr hn,jr hn1,jr hn',jr hm,trivial⟩ (AR dm) hb jl fun _=>?_
 refine Nm (m:=3) dm hb ?_
 refine Ajb (t:=9) (k:=2) (len:=256) (sz:=1) dm fun c hc=>?_
 have lZ:(FL o n n' xs ds).length=256:=AAk _ _
 have b64:∀ k,k≤256→Nat.ble k (FL o n n' xs ds).length=true:=fun k hk=>jr (by rw [lZ];exact hk)
 have bc:∀ k,k<256→Nat.beq c k=false:=fun k hk=>GA dn
 have:=A6 (P:=dr) (n:=fdrF.ntmps) (β0:=β0) (w0:=w0) (W:=[]) ALA AB func121 (Ajg c (FL o n n' xs ds)) ⟨jm dn,rfl,bc 0 dp,b64 64 dp,AY 3 ⟨jm dn,rfl,bc 64 dp,b64 128 dp,AY 4 ⟨jm dn,rfl,bc 128 dp,b64 192 dp,AY 3 ⟨jm dn,rfl,bc 192 dp,b64 256 dp,AY 4 trivial⟩⟩⟩⟩ (AR dm) hb jl
 have e:kZ 14 (GR (FL o n n' xs ds) 0) (GR (FL o n n' xs ds) 1) (GR (FL o n n' xs ds) 2) (GR (FL o n n' xs ds) 3)=[(14,some (WB (AA xs o n) (AA ds 0 n')))]:=by
  unfold FL;rw [Qj _ _ dp,Qj _ _ dp,Qj _ _ dp,Qj _ _ dp];rfl
 rw [e] at this;exact Ai ep this
noncomputable def SCe:dw:=(121,ZW 2 (fdV 14) 14 13 WB)::SCc
theorem Aji:AX dr SCe:=⟨AAl func121 dm dm (fun _ _=>rfl) fun _ _ h1 h2 h3 h4 h5 h6=>Ajh h1 h2 h3 h4 h5 h6,AjS⟩
open Ex Num Rg
open Sh (R av rd mo en mo_en)
noncomputable def SCf0:dw:=(174,Af (BZ gw fun r=>DR (B8 (mo r))))::(SVg++(SQt++SQg))
theorem k7:AX dr SCf0:=⟨Ah func174 dm dm (Bi AIV),H9 jG (H9 AJK AJF)⟩
noncomputable abbrev oCf0:ia:=AG SCf0 KV
theorem L_:g_ dr oCf0:=AH k7 BR
noncomputable def SCf1:dw:=(260,BF dr oCf0 f260 3000)::(263,BF dr oCf0 f263 100)::(262,BF dr oCf0 f262 100)::(261,BF dr oCf0 f261 100)::(281,BF dr oCf0 f281 100)::(280,BF dr oCf0 f280 100)::(248,BF dr oCf0 f248 100)::SCf0
theorem AAp:AX dr SCf1:=⟨BJ L_ AB func260 dm dm 3000,BJ L_ AB func263 dm dm 100,BJ L_ AB func262 dm dm 100,BJ L_ AB func261 dm dm 100,BJ L_ AB func281 dm dm 100,BJ L_ AB func280 dm dm 100,BJ L_ AB func248 dm dm 100,k7⟩
noncomputable abbrev oCf1:ia:=AG SCf1 KV
theorem ALE:g_ dr oCf1:=AH AAp BR
noncomputable section
def aR:R gw:=((0:Nat),(240:Nat))
def bR:R gw:=((1012:Nat),(1012:Nat))
def zR:R gw:=ng gw ((2:Nat),(1:Nat))
def oR:R gw:=((1:Nat),(0:Nat))
def Bo:R gw:=((0:Nat),(0:Nat))
def aF:gw:=mo aR
def bF:gw:=mo bR
def zF:gw:=mo zR
theorem ZY:(mo oR:gw)=1:=Qx.ext D6 rfl
theorem Qk:(mo Bo:gw)=0:=rfl
def Cr (x:gw):gw:=x*x*x+aF*x+bF
def sdP (r:R gw):R gw:=ad gw (mu gw (ad gw (mu gw (ad gw (mu gw (ad gw (mu gw Bo r) oR) r) Bo) r) aR) r) bR
def sdR (r:R gw):R gw:=ad gw (ad gw (mu gw (mu gw r r) r) (mu gw aR r)) bR
theorem Ajj (r:R gw):AJ dr oCf1 f247 [va gw r] [] 300=some ([],va gw (sdR r)):=dm
theorem Ajk (r:R gw):AJ dr oCf1 f265 [va gw r] [true,true,true,true,false] 300=some (tt 9 ((false,false)::[]),va gw (sdP r)):=dm
theorem Ajl (r:R gw):sdR r=en (Cr (mo r)):=by simp only [sdR,ad,mu,mo_en];rfl
theorem Ajm (x a b:gw):(((0*x+1)*x+0)*x+a)*x+b=x*x*x+a*x+b:=ring [x,a,b] (a:=(((0*x+1)*x+0)*x+a)*x+b) (b:=x*x*x+a*x+b) dm
theorem Ajn (r:R gw):sdP r=en (Cr (mo r)):=by
 simp only [sdP,ad,mu,mo_en,ZY,Qk];exact jw en (Ajm _ _ _)
def SCf2:dw:=(265,Af (BZ gw fun r=>va gw (en (Cr (mo r)))))::(247,Af (BZ gw fun r=>va gw (en (Cr (mo r)))))::SCf1
theorem ALF:AX dr SCf2:=⟨Ah func265 dm dm (Bi fun r=>by rw [← Ajn];exact AN ALE AB func265 (Ajk r) (AY 9 ⟨rfl,trivial⟩) rfl),Ah func247 dm dm (Bi fun r=>by rw [← Ajl];exact AN ALE AB func247 (Ajj r) trivial rfl),AAp⟩
abbrev oCf2:ia:=AG SCf2 KV
theorem ALG:g_ dr oCf2:=AH ALF BR
def SCf3:dw:=(264,BF dr oCf2 f264 300)::(246,BF dr oCf2 f246 300)::SCf2
theorem Ajo:AX dr SCf3:=⟨BJ ALG AB func264 dm dm 300,BJ ALG AB func246 dm dm 300,ALF⟩
abbrev oCf3:ia:=AG SCf3 KV
theorem k8:g_ dr oCf3:=AH Ajo BR
def wR (r:R gw):R gw:=mu gw zR (mu gw r r)
def tR (r:R gw):R gw:=ad gw (mu gw (wR r) (wR r)) (wR r)
def IE (r:R gw):Bool→R gw
 | true=>mu gw bR (iv gw (mu gw zR aR))
 | false=>mu gw (ng gw (mu gw bR (iv gw aR))) (ad gw oR (iv gw (tR r)))
def Ql (r:R gw) (b:Bool):R gw:=mu gw (wR r) (IE r b)
def MA (x:R gw):R gw:=en (EZ (mo (en (Cr (mo x)):R gw)))
def WG (x:R gw):Bool:=CZ (mo (en (Cr (mo x)):R gw))
def ZZ (r y:R gw):Bool:=!decide (B8 (mo y)=B8 (mo r))
def WH (y:R gw):Bool→R gw
 | true=>ng gw y
 | false=>y
def WI (x y:R gw):AV:=.tup [(true,av x),(true,av y)]
end
theorem Ajp (r:R gw):∀ b c:Bool,AJ dr oCf3 f218 [va gw r] [b,c,true] 300=some ([(CI (tR r) Bo,b),(ZZ r (MA (IE r b)),c),(WG (IE r b),true)],WI (IE r b) (WH (MA (IE r b)) c))
 | true,true=>dm
 | true,false=>dm
 | false,true=>dm
 | false,false=>dm
theorem Ajq (r:R gw):∀ b c d:Bool,AJ dr oCf3 f218 [va gw r] [b,c,false,d] 300=some ([(CI (tR r) Bo,b),(ZZ r (MA (IE r b)),c),(WG (IE r b),false),(ZZ r (MA (Ql r b)),d)],WI (Ql r b) (WH (MA (Ql r b)) d))
 | true,true,true=>dm
 | true,false,true=>dm
 | false,true,true=>dm
 | false,false,true=>dm
 | true,true,false=>dm
 | true,false,false=>dm
 | false,true,false=>dm
 | false,false,false=>dm
noncomputable def k9 (r y:R gw):Bool:=!decide (B8 (mo r)=B8 (mo y))
theorem Ajr (r:R gw):∀ b d:Bool,AJ dr oCf3 f190 [va gw r] [b,false,d] 300=some ([(CI (tR r) Bo,b),(!WG (IE r b),false),(k9 r (MA (IE r b)),d)],WI (IE r b) (WH (MA (IE r b)) d))
 | true,true=>dm
 | true,false=>dm
 | false,true=>dm
 | false,false=>dm
theorem Ajs (r:R gw):∀ b d:Bool,AJ dr oCf3 f190 [va gw r] [b,true,d] 300=some ([(CI (tR r) Bo,b),(!WG (IE r b),true),(k9 r (MA (Ql r b)),d)],WI (Ql r b) (WH (MA (Ql r b)) d))
 | true,true=>dm
 | true,false=>dm
 | false,true=>dm
 | false,false=>dm
noncomputable section
def wF (u:gw):gw:=zF*(u*u)
def tF (u:gw):gw:=wF u*wF u+wF u
def NK (u:gw):Bool→gw
 | true=>bF*FD.inv (zF*aF)
 | false=>-(bF*FD.inv aF)*(1+FD.inv (tF u))
def F6 (u:gw):Bool:=decide (tF u=0)
def IF (u:gw):gw:=NK u (F6 u)
def Iy (u:gw):gw:=match CZ (Cr (IF u)) with
 | true=>IF u
 | false=>wF u*IF u
def lB (u y:gw):gw:=match (!decide (B8 y=B8 u)) with
 | true=>-y
 | false=>y
def Qm (u:gw):gw:=lB u (EZ (Cr (Iy u)))
theorem Ajt (r:R gw):tR r=en (tF (mo r)):=by simp only [tR,wR,ad,mu,mo_en];rfl
theorem lC (r:R gw):CI (tR r) Bo=F6 (mo r):=by rw [Ajt,show Bo=en (0:gw) from rfl,R9];rfl
theorem AAs (r:R gw):∀ b,IE r b=en (NK (mo r) b)
 | true=>by simp only [IE,iv,mu,mo_en];rfl
 | false=>by simp only [IE,tR,wR,iv,ad,ng,mu,mo_en,ZY];rfl
theorem ALH (r:R gw) (b:Bool):Ql r b=en (wF (mo r)*NK (mo r) b):=by unfold Ql;rw [AAs];simp only [wR,mu,mo_en];rfl
theorem O2 (x:gw):MA (en x)=en (EZ (Cr x)):=by unfold MA;rw [mo_en,mo_en]
theorem lD (x:gw):WG (en x)=CZ (Cr x):=by unfold WG;rw [mo_en,mo_en]
theorem AAt (r:R gw) (y:gw):ZZ r (en y)=!decide (B8 y=B8 (mo r)):=by unfold ZZ;rw [mo_en]
theorem ALI (r:R gw) (y:gw):k9 r (en y)=!decide (B8 y=B8 (mo r)):=by unfold k9;rw [mo_en];exact jw _ (decide_eq_decide.2 ⟨Eq.symm,Eq.symm⟩)
theorem lE (r:R gw) (y:gw):WH (en y) (!decide (B8 y=B8 (mo r)))=en (lB (mo r) y):=by
 unfold lB WH;cases (!decide (B8 y=B8 (mo r))) with
 | true=>exact (show ng gw (en y)=en (-y) by unfold ng;rw [mo_en])
 | false=>rfl
def WJ (u:gw):AV:=WI (en (Iy u)) (en (Qm u))
theorem Aju (r:R gw):AT dr 218 [va gw r] (WJ (mo r)):=by
 have e1:=AAs r (F6 (mo r))
 have e2:=ALH r (F6 (mo r))
 unfold WJ Qm Iy IF;cases hi:CZ (Cr (NK (mo r) (F6 (mo r)))) with
 | true =>
  have h:=AN k8 AB func218 (Ajp r (F6 (mo r)) (!decide (B8 (EZ (Cr (NK (mo r) (F6 (mo r)))))=B8 (mo r)))) ⟨lC r,by rw [e1,O2,AAt],by rw [e1,lD];exact hi,trivial⟩ rfl
  rw [e1,O2,lE] at h;exact h
 | false =>
  have h:=AN k8 AB func218 (Ajq r (F6 (mo r)) (!decide (B8 (EZ (Cr (NK (mo r) (F6 (mo r)))))=B8 (mo r))) (!decide (B8 (EZ (Cr (wF (mo r)*NK (mo r) (F6 (mo r)))))=B8 (mo r)))) ⟨lC r,by rw [e1,O2,AAt],by rw [e1,lD];exact hi,by rw [e2,O2,AAt],trivial⟩ rfl
  rw [e2,O2,lE] at h;exact h
theorem Ajv (r:R gw):AT dr 190 [va gw r] (WJ (mo r)):=by
 have e1:=AAs r (F6 (mo r))
 have e2:=ALH r (F6 (mo r))
 unfold WJ Qm Iy IF;cases hi:CZ (Cr (NK (mo r) (F6 (mo r)))) with
 | true =>
  have h:=AN k8 AB func190 (Ajr r (F6 (mo r)) (!decide (B8 (EZ (Cr (NK (mo r) (F6 (mo r)))))=B8 (mo r)))) ⟨lC r,by rw [e1,lD,hi];rfl,by rw [e1,O2,ALI],trivial⟩ rfl
  rw [e1,O2,lE] at h;exact h
 | false =>
  have h:=AN k8 AB func190 (Ajs r (F6 (mo r)) (!decide (B8 (EZ (Cr (wF (mo r)*NK (mo r) (F6 (mo r)))))=B8 (mo r)))) ⟨lC r,by rw [e1,lD,hi];rfl,by rw [e2,O2,ALI],trivial⟩ rfl
  rw [e2,O2,lE] at h;exact h
theorem ALJ:∃ f:gw→gw×gw,∀ u,f u=(Iy u,Qm u):=⟨_,fun _=>rfl⟩
def MB:gw→gw×gw:=Classical.choose ALJ
theorem ALK (u:gw):MB u=(Iy u,Qm u):=lf ALJ u
def lF (u:gw):AV:=WI (en (MB u).1) (en (MB u).2)
theorem ALL (u:gw):lF u=WJ u:=by unfold lF WJ;rw [ALK]
def SCf:dw:=(218,Af (BZ gw fun r=>lF (mo r)))::(190,Af (BZ gw fun r=>lF (mo r)))::SCf1
theorem AAu:AX dr SCf:=⟨Ah func218 dm dm (Bi fun r=>by rw [ALL];exact Aju r),Ah func190 dm dm (Bi fun r=>by rw [ALL];exact Ajv r),AAp⟩
abbrev oCf:ia:=AG SCf KV
theorem ALM:g_ dr oCf:=AH AAu BR
end
noncomputable section
def SCg0:dw:=(282,BF dr oCf f282 300)::(283,BF dr oCf f283 300)::SCf
theorem ALN:AX dr SCg0:=⟨BJ ALM AB func282 dm dm 300,BJ ALM AB func283 dm dm 300,AAu⟩
abbrev oCg0:ia:=AG SCg0 KV
theorem Ajw:g_ dr oCg0:=AH ALN BR
def SCg1:dw:=(251,BF dr oCg0 f251 600)::SCg0
theorem Ajx:AX dr SCg1:=⟨BJ Ajw AB func251 dm dm 600,ALN⟩
abbrev oCg1:ia:=AG SCg1 KV
theorem WK:g_ dr oCg1:=AH Ajx BR
def lG:R gw:=((0:Nat),(4002409555221667393417789825735904156556882819939007885332058136124031650490837864442687629129015664037894272559715:Nat))
def lH:R gw:=((12:Nat),(4002409555221667393417789825735904156556882819939007885332058136124031650490837864442687629129015664037894272559775:Nat))
def lI:R gw:=((1:Nat),(0:Nat))
def i4a:R gw:=((4002409555221667393417789825735904156556882819939007885332058136124031650490837864442687629129015664037894272559355:Nat),(4002409555221667393417789825735904156556882819939007885332058136124031650490837864442687629129015664037894272559355:Nat))
def i4b:R gw:=((0:Nat),(4002409555221667393417789825735904156556882819939007885332058136124031650490837864442687629129015664037894272559571:Nat))
def i4c:R gw:=((18:Nat),(4002409555221667393417789825735904156556882819939007885332058136124031650490837864442687629129015664037894272559769:Nat))
def i4d:R gw:=((1:Nat),(0:Nat))
def i1a:R gw:=((889424345604814976315064405719089812568196182208668418962679585805340366775741747653930584250892369786198727235542:Nat),(889424345604814976315064405719089812568196182208668418962679585805340366775741747653930584250892369786198727235542:Nat))
def i1b:R gw:=((0:Nat),(2668273036814444928945193217157269437704588546626005256888038757416021100327225242961791752752677109358596181706522:Nat))
def i1c:R gw:=((2668273036814444928945193217157269437704588546626005256888038757416021100327225242961791752752677109358596181706526:Nat),(1334136518407222464472596608578634718852294273313002628444019378708010550163612621480895876376338554679298090853261:Nat))
def i1d:R gw:=((3557697382419259905260257622876359250272784728834673675850718343221361467102966990615722337003569479144794908942033:Nat),(0:Nat))
def i3a:R gw:=((3261222600550988246488569487636662646083386001431784202863158481286248011511053074731078808919938689216061999863558:Nat),(3261222600550988246488569487636662646083386001431784202863158481286248011511053074731078808919938689216061999863558:Nat))
def i3b:R gw:=((0:Nat),(889424345604814976315064405719089812568196182208668418962679585805340366775741747653930584250892369786198727235518:Nat))
def i3c:R gw:=((2668273036814444928945193217157269437704588546626005256888038757416021100327225242961791752752677109358596181706524:Nat),(1334136518407222464472596608578634718852294273313002628444019378708010550163612621480895876376338554679298090853263:Nat))
def i3d:R gw:=((2816510427748580758331037284777117739799287910327449993381818688383577828123182200904113516794492504322962636245776:Nat),(0:Nat))
def WL (r a b c d:R gw):R gw:=ad gw (mu gw (ad gw (mu gw (ad gw (mu gw (ad gw (mu gw Bo r) d) r) c) r) b) r) a
def pl3 (r a b c:R gw):R gw:=ad gw (mu gw (ad gw (mu gw (ad gw (mu gw Bo r) c) r) b) r) a
def TV (r:R gw) (p2:R gw):R gw:=mu gw (WL r i1a i1b i1c i1d) (iv gw p2)
def TW (r s:R gw) (p4:R gw):R gw:=mu gw s (mu gw (WL r i3a i3b i3c i3d) (iv gw p4))
def TX (x y:R gw):AV:=.val true (Bs (av x) (Bs (av y) [.b false]))
def WM (r:R gw):R gw:=pl3 r lG lH lI
def Qn (r:R gw):R gw:=WL r i4a i4b i4c i4d
def WN (r:R gw):R gw:=WL r lG lH lI Bo
end
section
variable (r s:R gw)
theorem Ajy:AJ dr oCg1 f217 [va gw r,va gw s] [true,true,true,false,true,true,true,true,false,true] 600=some (tt 7 ((false,false)::tt 9 ((false,false)::(CI (WM r) Bo,true)::[])),.val true (CS true)):=dm
theorem Ajz:AJ dr oCg1 f217 [va gw r,va gw s] [true,true,true,false,true,true,true,true,false,false,true] 600=some (tt 7 ((false,false)::tt 9 ((false,false)::(CI (WM r) Bo,false)::(CI (Qn r) Bo,true)::[])),.val true (CS true)):=dm
theorem Aj0:AJ dr oCg1 f217 [va gw r,va gw s] [true,true,true,false,true,true,true,true,false,false,false,true,true,true,true,false,true,true,true,true,false] 600=some (tt 7 ((false,false)::tt 9 ((false,false)::(CI (WM r) Bo,false)::(CI (Qn r) Bo,false)::tt 9 ((false,false)::tt 9 ((false,false)::[])))),TX (TV r (WM r)) (TW r s (Qn r))):=dm
theorem Aj1:AJ dr oCg1 f192 [va gw r,va gw s] dz 600=some ([(CI (WN r) Bo,true)],.val true (CS true)):=dm
theorem Aj2:AJ dr oCg1 f192 [va gw r,va gw s] ee 600=some ([(CI (WN r) Bo,false),(CI (Qn r) Bo,true)],.val true (CS true)):=dm
theorem Aj3:AJ dr oCg1 f192 [va gw r,va gw s] ef 600=some ([(CI (WN r) Bo,false),(CI (Qn r) Bo,false)],TX (TV r (WN r)) (TW r s (Qn r))):=dm
end
noncomputable section
def TY (x a b c d:gw):gw:=(((0*x+d)*x+c)*x+b)*x+a
def E3 (k:Nat) (x:gw):gw:=match k with
 | 1=>TY x (mo i1a) (mo i1b) (mo i1c) (mo i1d)
 | 2=>TY x (mo lG) (mo lH) (mo lI) 0
 | 3=>TY x (mo i3a) (mo i3b) (mo i3c) (mo i3d)
 | _=>TY x (mo i4a) (mo i4b) (mo i4c) (mo i4d)
def Za (p1 p2 p3 p4 y:gw):P2:=match decide (p2=0) with
 | true=>.inf
 | false=>match decide (p4=0) with
  | true=>.inf
  | false=>.pt (p1*FD.inv p2) (y*(p3*FD.inv p4))
def Qo (x y:gw):P2:=Za (E3 1 x) (E3 2 x) (E3 3 x) (E3 4 x) y
theorem lJ (r a b c d:R gw):WL r a b c d=en (TY (mo r) (mo a) (mo b) (mo c) (mo d)):=by simp only [WL,ad,mu,mo_en,Qk];rfl
theorem Aj4 (x a b c:gw):((0*x+c)*x+b)*x+a=TY x a b c 0:=ring [x,a,b,c] (a:=((0*x+c)*x+b)*x+a) (b:=(((0*x+0)*x+c)*x+b)*x+a) dm
theorem Aj5 (r:R gw):WM r=en (E3 2 (mo r)):=by
 simp only [WM,pl3,ad,mu,mo_en,Qk];exact jw en (Aj4 _ _ _ _)
theorem Aj6 (r:R gw):WN r=en (E3 2 (mo r)):=by unfold WN;rw [lJ];rfl
theorem ALP (r:R gw):Qn r=en (E3 4 (mo r)):=by unfold Qn;rw [lJ];rfl
theorem Aj7 (r:R gw) (p:gw):TV r (en p)=en (E3 1 (mo r)*FD.inv p):=by unfold TV iv mu;rw [lJ,mo_en,mo_en,mo_en];rfl
theorem Aj8 (r s:R gw) (p:gw):TW r s (en p)=en (mo s*(E3 3 (mo r)*FD.inv p)):=by unfold TW iv mu;rw [lJ,mo_en,mo_en,mo_en,mo_en];rfl
theorem Aj9:Bo=en (0:gw):=rfl
theorem Aj_ {F:gp} {args:List AV} (X Y:gw) (h:AT dr F args (TX (en X) (en Y))):AT dr F args (ve (.pt X Y:P2)):=EY (α:=P2) (r:=(en (.pt X Y:P2):R P2)) h dm
theorem Aj' {F:gp} {r s:R gw} {p1 p2 p3 p4:gw}
  (h1:decide (p2=0)=true→AT dr F [va gw r,va gw s] (.val true (CS true))) (h2:decide (p2=0)=false→decide (p4=0)=true→AT dr F [va gw r,va gw s] (.val true (CS true)))
  (h3:decide (p2=0)=false→decide (p4=0)=false→AT dr F [va gw r,va gw s] (TX (en (p1*FD.inv p2)) (en (mo s*(p3*FD.inv p4))))):AT dr F [va gw r,va gw s] (ve (Za p1 p2 p3 p4 (mo s))):=by
 have z:AT dr F [va gw r,va gw s] (.val true (CS true))→AT dr F [va gw r,va gw s] (ve (.inf:P2)):=fun h=>EY (α:=P2) (r:=(en (.inf:P2):R P2)) h dm
 unfold Za;cases q2:decide (p2=0) with
 | true=>exact z (h1 q2)
 | false =>
  cases q4:decide (p4=0) with
  | true=>exact z (h2 q2 q4)
  | false=>exact Aj_ _ _ (h3 q2 q4)
theorem ALQ {p:R gw} {x:gw} (e:p=en x):CI p Bo=decide (x=0):=by rw [e,Aj9,R9]
theorem AkA {x y x' y':R gw} (e1:x=x') (e2:y=y'):TX x y=TX x' y':=by rw [e1,e2]
theorem ALR {F:gp} {r s:R gw} {p2 p4:R gw} (e2:p2=en (E3 2 (mo r))) (e4:p4=en (E3 4 (mo r)))
  (h1:CI p2 Bo=true→AT dr F [va gw r,va gw s] (.val true (CS true))) (h2:CI p2 Bo=false→CI p4 Bo=true→AT dr F [va gw r,va gw s] (.val true (CS true)))
  (h3:CI p2 Bo=false→CI p4 Bo=false→AT dr F [va gw r,va gw s] (TX (TV r p2) (TW r s p4))):AT dr F [va gw r,va gw s] (ve (Qo (mo r) (mo s))):=by
 have f2:=ALQ e2;have f4:=ALQ e4;have ex:TV r p2=en (E3 1 (mo r)*FD.inv (E3 2 (mo r))):=(jw (TV r) e2).trans (Aj7 r _)
 have ey:TW r s p4=en (mo s*(E3 3 (mo r)*FD.inv (E3 4 (mo r)))):=(jw (TW r s) e4).trans (Aj8 r s _)
 unfold Qo;generalize E3 1 (mo r)=q1 at *
 generalize E3 2 (mo r)=q2 at *
 generalize E3 3 (mo r)=q3 at *
 generalize E3 4 (mo r)=q4 at *
 exact Aj' (fun h=>h1 (f2.trans h)) (fun h h'=>h2 (f2.trans h) (f4.trans h')) fun h h'=>(AkA ex ey)▸h3 (f2.trans h) (f4.trans h')
theorem AkB (r s:R gw):AT dr 217 [va gw r,va gw s] (ve (Qo (mo r) (mo s))) :=
 ALR (Aj5 r) (ALP r) (fun h=>AN WK AB func217 (Ajy r s) (AY 7 ⟨rfl,AY 9 ⟨rfl,h,trivial⟩⟩) rfl) (fun h h'=>AN WK AB func217 (Ajz r s) (AY 7 ⟨rfl,AY 9 ⟨rfl,h,h',trivial⟩⟩) rfl)
  fun h h'=>AN WK AB func217 (Aj0 r s) (AY 7 ⟨rfl,AY 9 ⟨rfl,h,h',AY 9 ⟨rfl,AY 9 ⟨rfl,trivial⟩⟩⟩⟩) rfl
theorem AkC (r s:R gw):AT dr 192 [va gw r,va gw s] (ve (Qo (mo r) (mo s))) :=
 ALR (Aj6 r) (ALP r) (fun h=>AN WK AB func192 (Aj1 r s) ⟨h,trivial⟩ rfl) (fun h h'=>AN WK AB func192 (Aj2 r s) ⟨h,h',trivial⟩ rfl)
  fun h h'=>AN WK AB func192 (Aj3 r s) ⟨h,h',trivial⟩ rfl
theorem ALS:∃ f:gw→gw→P2,∀ x y,f x y=Qo x y:=⟨_,fun _ _=>rfl⟩
def TZ:gw→gw→P2:=Classical.choose ALS
theorem AA7 (x y:gw):TZ x y=Qo x y:=lf ALS x y
def SCg:dw:=(217,Af (DO gw gw fun r s=>ve (TZ (mo r) (mo s))))::(192,Af (DO gw gw fun r s=>ve (TZ (mo r) (mo s))))::SCf
theorem ALT:AX dr SCg:=⟨Ah func217 dm dm (DX fun r s=>by rw [AA7];exact AkB r s),Ah func192 dm dm (DX fun r s=>by rw [AA7];exact AkC r s),AAu⟩
abbrev oCg:ia:=AG SCg KV
theorem ALU:g_ dr oCg:=AH ALT BR
end
noncomputable section
def hcL:dt:=[16717924791090763089,6451771550755190452,16813287336095381155,3368952460600638490,7891079509683868336,3646841576362204053,11062809923385098209,9863631852917151592,6362576984766887208,848540440590185907]
theorem ALV:∃ n,n=AI hcL:=⟨_,rfl⟩
def O3:Nat:=Classical.choose ALV
theorem AA8:O3=AI hcL:=lf ALV
theorem AkD (r:R P2):AJ dr oCg f219 [va P2 r] [] 300=some ([(true,true),(true,true)],KJ (Ew (AI hcL) (mo r)) (FS (mo r))):=dm
theorem AkE (r:R P2):AJ dr oCg f193 [va P2 r] [] 300=some ([(true,true),(true,true)],KJ (Ew (AI hcL) (mo r)) (FS (mo r))):=dm
def SCi0:dw:=(219,Af (BZ P2 fun r=>KJ (Ew O3 (mo r)) (FS (mo r))))::(193,Af (BZ P2 fun r=>KJ (Ew O3 (mo r)) (FS (mo r))))::SCg
theorem ALW:AX dr SCi0:=⟨Ah func219 dm dm (Bi fun r=>by rw [AA8];exact AN ALU AB func219 (AkD r) ⟨rfl,rfl,trivial⟩ rfl),Ah func193 dm dm (Bi fun r=>by rw [AA8];exact AN ALU AB func193 (AkE r) ⟨rfl,rfl,trivial⟩ rfl),ALT⟩
abbrev oCi0:ia:=AG SCi0 KV
theorem AkF:g_ dr oCi0:=AH ALW BR
def SCi1:dw:=(216,BF dr oCi0 f216 300)::SCi0
theorem AkG:AX dr SCi1:=⟨BJ AkF AB func216 dm dm 300,ALW⟩
abbrev oCi1:ia:=AG SCi1 KV
theorem ALX:g_ dr oCi1:=AH AkG BR
def siR (r:R gw):P2:=TZ (mo (en (MB (mo r)).1:R gw)) (mo (en (MB (mo r)).2:R gw))
def Zb (r s:R gw):P2:=Ew O3 (mo (en (Rg.add (mo (en (siR r):R P2):P2) (mo (en (siR s):R P2))):R P2))
theorem AkH (r s:R gw):AJ dr oCi1 f155 [va gw r,va gw s] [] 300=some ([],ve (Zb r s)):=dm
theorem AkI (r s:R gw):AJ dr oCi1 f122 [va gw r,va gw s] [] 300=some ([],ve (Zb r s)):=dm
def lK (u v:gw):P2:=Ew O3 (Rg.add (TZ (MB u).1 (MB u).2) (TZ (MB v).1 (MB v).2))
theorem AkJ (r s:R gw):Zb r s=lK (mo r) (mo s):=by unfold Zb siR lK;simp only [mo_en]
theorem ALY:∃ f:gw→gw→P2,∀ x y,f x y=lK x y:=⟨_,fun _ _=>rfl⟩
def Ta:gw→gw→P2:=Classical.choose ALY
theorem ALZ (x y:gw):Ta x y=lK x y:=lf ALY x y
theorem ALa (r s:R gw):ve (Ta (mo r) (mo s))=ve (Zb r s):=by rw [ALZ,AkJ]
def SCi2:dw:=(155,Af (DO gw gw fun r s=>ve (Ta (mo r) (mo s))))::(122,Af (DO gw gw fun r s=>ve (Ta (mo r) (mo s))))::SCe
theorem AkK:AX dr SCi2:=⟨Ah func155 dm dm (DX fun r s=>by rw [ALa];exact AN ALX AB func155 (AkH r s) trivial rfl),Ah func122 dm dm (DX fun r s=>by rw [ALa];exact AN ALX AB func122 (AkI r s) trivial rfl),Aji⟩
abbrev AA_:ia:=AG SCi2 KV
end
noncomputable def lL (g:dt→dt→AV):ASpec:=fun args H fr ie=>match args with
 | [S,T]=>match DS S,Io T with
  | some (k,o,n),some (t,n',m')=>match AF H k,AF H t with
   | some ⟨_,cs,_⟩,some ⟨_,es,_⟩=>match A' .u8 cs,A' .u8 es with
    | some xs,some ds=>some (BP [k,t] 2 fr 0 [] (g (AA xs o n) (AA ds 0 n')) [] [(Nat.ble (o+n) xs.length,true),(Nat.ble n' ds.length,true),(Nat.ble n 4398046511104,true),(Nat.ble 1 n',true),(Nat.ble n' 255,true),(Nat.ble n' m',true)] ie)
    | _,_=>none
   | _,_=>none
  | _,_=>none
 | _=>none
theorem ALb {F:gp} {fn:Func} {g:dt→dt→AV} (jc:dr.funcs[F]? = some fn) (hb:fn.body.isSome=true) (iq:fw fn) (hk:∀ l d,EJ 2 0 [] (g l d) []=true)
  (h:∀ {o n m n' m':Nat} {xs ds:dt},(∀ d∈xs,0≤d∧d<256)→(∀ d∈ds,0≤d∧d<256)→o+n≤xs.length→n'≤ds.length→n≤4398046511104→1≤n'→n'≤255→n'≤m'→Ab dr F [AQ 0 o n m,AQ 1 0 n' m'] (JW xs ds) 2 [] (g (AA xs o n) (AA ds 0 n')) []):BI dr F (lL g):=by
 refine DN jc hb iq fun args H fr ie r hs=>?_
 unfold lL at hs;split at hs;case h_2=>cases hs
 rename_i S T;split at hs;case h_2=>cases hs
 rename_i k o n t n' m' hS hT;split at hs;case h_2=>cases hs
 rename_i ty cs op ty' es op' hk' ht';split at hs;case h_2=>cases hs
 rename_i xs ds hx hd;injection hs with hs;refine ⟨[k,t],2,0,[],_,_,_,ie,hs.symm,fun β us w ha hg hc=>?_⟩
 obtain ⟨u1,jf,r1,⟨u2,jg,r2,ha,rfl⟩,rfl⟩:=ha;obtain ⟨c1,c2,c3,c4,c5,c6,_⟩:=hc;obtain ⟨m,r1⟩:=E8 hS r1;obtain ⟨m2,hm2,r2⟩:=KO hT (jp c6) r2
 obtain ⟨g1,_,_⟩:=EP hg hk' hx;obtain ⟨g2,_,_⟩:=EP hg ht' hd;refine ⟨_,_,h (o:=o) (n:=n) (m:=m) (n':=n') (m':=m2) g1 g2 (jp c1) (jp c2) (jp c3) (jp c4) (jp c5) hm2,hk _ _,⟨u1,_,CV dn rfl r1,⟨u2,_,CV dn rfl r2,ha,rfl⟩,rfl⟩,NJ (bs:=[An [.seq .u8 xs],V6 [.seq .u8 ds]]) hg fun j d hj=>?_,fun j hj=>?_⟩
 ·match j,hj with
  | 0,hj=>injection hj with hj;subst hj;exact ⟨rfl,IB hg hk' hx (by show 0<2;decide) rfl⟩
  | 1,hj=>injection hj with hj;subst hj;exact ⟨rfl,AAc hg ht' hd (AAb r2 (jp c4)) (by show 1<2;decide) rfl⟩
 ·match j,hj with
  | 0,_=>exact CM (hg.heap _ _ hk')
  | 1,_=>exact CM (hg.heap _ _ ht')
noncomputable section
def lM (f:Func) (o n m n' m':Nat) (xs ds:dt):h_:=Ak f [AQ 0 o n m,AQ 1 0 n' m'] (JW xs ds) 2 []
def fdR (x d:dt) (j:Nat):R gw:=(Qi x d j,Qi x d (j+1))
def Zc (x d:dt):P2:=Ta (mo (fdR x d 0)) (mo (fdR x d 2))
def hsC (o n n' m':Nat) (xs ds:dt):du:=(Nat.ble (o+n) xs.length,true)::(Nat.ble n' ds.length,true)::(Nat.ble n 4398046511104,true)::(Nat.ble 1 n',true)::(Nat.ble n' 255,true)::(Nat.ble n' m',true)::tt 2 []
def WO (p:P2):AV:=.tup [(true,av (en p:R P2)),(false,[.n .i64 0])]
section
variable (o n m n' m':Nat) (xs ds:dt)
theorem AkL:AU dr AA_ f76 300 2 [] (lM f76 o n m n' m' xs ds)=some (hsC o n n' m' xs ds,[],WO (Zc (AA xs o n) (AA ds 0 n')),[]):=dm
theorem AkM:AU dr AA_ f55 300 2 [] (lM f55 o n m n' m' xs ds)=some (hsC o n n' m' xs ds,[],WO (Zc (AA xs o n) (AA ds 0 n')),[]):=dm
end
theorem ALd:∃ f:dt→dt→P2,∀ x d,f x d=Zc x d:=⟨_,fun _ _=>rfl⟩
def Td:dt→dt→P2:=Classical.choose ALd
theorem ALe (x d:dt):Td x d=Zc x d:=lf ALd x d
theorem ALf {F:gp} {f:Func} (hf:dr.funcs[F]? = some f) (hb1:f.body.isSome=true) (ha:Nat.ble 2 f.ntmps=true) {o n m n' m':Nat} {xs ds:dt} (hw:RD f.ntmps (lM f o n m n' m' xs ds).s=true)
  (hr:AU dr AA_ f 300 2 [] (lM f o n m n' m' xs ds)=some (hsC o n n' m' xs ds,[],WO (Zc (AA xs o n) (AA ds 0 n')),[]))
  (h1:o+n≤xs.length) (h2:n'≤ds.length) (hn:n≤4398046511104) (hn1:1≤n') (hn':n'≤255) (hm:n'≤m'):Ab dr F [AQ 0 o n m,AQ 1 0 n' m'] (JW xs ds) 2 [] (WO (Td (AA xs o n) (AA ds 0 n'))) []:=by
 rw [ALe];refine Bf AkK BR hf hb1 ha hr hw ?_
 exact ⟨jr h1,jr h2,jr hn,jr hn1,jr hn',jr hm,AY 2 trivial⟩
def SCj:dw:=(76,lL fun x d=>WO (Td x d))::(55,lL fun x d=>WO (Td x d))::[]
theorem AkN:AX dr SCj:=⟨ALb func76 dm dm (fun _ _=>by kernel_rfl) fun _ _ h1 h2 h3 h4 h5 h6=>ALf func76 dm dm dm (AkL ..) h1 h2 h3 h4 h5 h6,ALb func55 dm dm (fun _ _=>by kernel_rfl) fun _ _ h1 h2 h3 h4 h5 h6=>ALf func55 dm dm dm (AkM ..) h1 h2 h3 h4 h5 h6,trivial⟩
end
open Ex Num Rg
open Go.RowKit (Below)
open Sh (R av rd mo en mo_en)
open Ex Num Rg
open Sh (R av rd mo en mo_en)
theorem ALg:∃ f:ByteArray→Bool,∀ s,f s=(Nat.ble 1 s.size&&(Nat.ble s.size 255&&Nat.beq (MQ s).length s.size)):=⟨_,fun _=>rfl⟩
noncomputable def JX:ByteArray→Bool:=Classical.choose ALg
theorem ALh (s:ByteArray):JX s=(Nat.ble 1 s.size&&(Nat.ble s.size 255&&Nat.beq (MQ s).length s.size)):=lf ALg s
theorem AkO {s:ByteArray} (h:JX s=true):1≤s.size∧s.size≤255∧(MQ s).length=s.size:=by
 rw [ALh] at h;obtain ⟨h1,h⟩:=jy.1 h;obtain ⟨h2,h3⟩:=jy.1 h;exact ⟨jp h1,jp h2,Ar.1 h3⟩
noncomputable def SCl:dw:=SYf
theorem AkP:AX dr SCl:=Ai5
noncomputable def SCl1:dw:=SCl
theorem AkQ:AX dr SCl1:=AkP
def FV:ByteArray:=⟨List.toArray [66,76,83,95,83,73,71,95,66,76,83,49,50,51,56,49,71,50,95,88,77,68,58,83,72,65,45,50,53,54,95,83,83,87,85,95,82,79,95,80,79,80,95]⟩
theorem AkR:JX FV=true:=by rw [ALh];kernel_rfl
end Go.Proofs.YtgnajdcdcblaoaaGreat
