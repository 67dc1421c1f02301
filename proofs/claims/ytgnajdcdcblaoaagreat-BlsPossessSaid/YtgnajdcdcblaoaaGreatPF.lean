/- Part 6 of the proof. -/
import Derived.Test.YtgnajdcdcblaoaaGreatPE
import Derived.Test.YtgnajdcdcblaoaaGreatPD
set_option maxRecDepth 100000
set_option maxHeartbeats 4000000
open Go.Proofs.Tryz renaming prog→dn
namespace Go.Proofs.YtgnajdcdcblaoaaGreat
open Ex Num Rg
open Go.RowKit (Below)
open Sh (R av rd mo en mo_en)
theorem eN {w:World} {B:Nat} {v:Value} {ty:TypeId} (h:w.heap[B]? = some (.cells #[v] ty (0,0))):w.cell? ⟨B,0,none⟩=some v∧w.frozen? ⟨B,0,none⟩=false:=by
 constructor
 ·simp [World.cell?,h]
 ·simp [World.frozen?,h]
theorem eO {w:World} {a:Addr} {v:Value} {B:Nat} (h:B≠a.block):(w.setCell a v).heap[B]? = w.heap[B]?:=by
 simp only [World.setCell,pv];rw [fv (fun e=>h e.symm)]
theorem AHw (w:World) (a:Addr) (v:Value):(w.setCell a v).heap.size=w.heap.size∧(w.setCell a v).os=w.os∧(w.setCell a v).tape=w.tape∧(w.setCell a v).output=w.output:=by
 refine ⟨?_,rfl,rfl,rfl⟩
 simp [World.setCell]
theorem AHx {w:World} {B:Nat} {u v:Value} {ty:TypeId} (h:w.heap[B]? = some (.cells #[u] ty (0,0))):(w.setCell ⟨B,0,none⟩ v).heap[B]? = some (.cells #[v] ty (0,0)):=by
 simp [World.setCell,Array.getElem?_modify,h]
noncomputable def X0:Value:=.tuple #[.slice none 0 0,.int .i64 210]
theorem Acw {F:FuncId} {fnF:Func} (hF:dn.funcs[F]? = some fnF) (hb:fnF.body.isSome=true) (hname:(fnF.name=="runtime.NumGoroutine")=false)
  (hcatch:∀ (p q:Addr) (x y:Value) (w:World),w.cell? p=some x→w.frozen? p=false→w.cell? q=some y→w.frozen? q=false→p.block≠q.block →
   CallsD dn F #[.pointer (some p),.pointer (some q)] (.panicking [{ v:=.iface 31 (.int .i64 210),recovered:=false }]) w fun e u' w' =>
    e=.returned (.tuple #[])∧u'=.panicking [{ v:=.iface 31 (.int .i64 210),recovered:=true }]∧w'=(w.setCell p (.slice none 0 0)).setCell q (.int .i64 210))
  {fn:Func} {t1 t2:Tmp} {tmps:Array Value} {B1 B2:Nat} {ty1 ty2:TypeId} {R:Ending→World→Prop} {w:World} (hres:fn.results=#[.cell t1 22,.cell t2 31])
  (ht1:tmps.getD t1 undef=.pointer (some ⟨B1,0,none⟩)) (ht2:tmps.getD t2 undef=.pointer (some ⟨B2,0,none⟩)) (c1:w.heap[B1]? = some (.cells #[.slice none 0 0] ty1 (0,0))) (c2:w.heap[B2]? = some (.cells #[.int .i64 0] ty2 (0,0))) (hne:B1≠B2)
  (hR:∀ w',(∀ B,B≠B1→B≠B2→w'.heap[B]? = w.heap[B]?)→w'.heap.size=w.heap.size→w'.os=w.os→w'.tape=w.tape→w'.output=w.output→R (.returned X0) w') :
  Leaves dn fn tmps R [{ target:=.fn (.func F) #[.pointer (some ⟨B1,0,none⟩),.pointer (some ⟨B2,0,none⟩)],args:=#[] }] (.panicking errC) w:=by
 obtain ⟨a1,f1⟩:=eN c1;obtain ⟨a2,f2⟩:=eN c2;have h1:fnF.name≠"runtime.NumGoroutine":=by simpa using hname
 have h2:¬ fnF.body=none:=by cases hq:fnF.body<;>simp [hq] at hb ⊢
 refine leaves_cons (f:=F) (args:=#[.pointer (some ⟨B1,0,none⟩),.pointer (some ⟨B2,0,none⟩)]) (by simp) (by simp [invoke,callFunc,hF,h1,h2]) ?_
 refine (hcatch ⟨B1,0,none⟩ ⟨B2,0,none⟩ _ _ w a1 f1 a2 f2 hne).mono ?_
 rintro e u' w' ⟨rfl,rfl,rfl⟩
 have c2':(w.setCell ⟨B1,0,none⟩ (.slice none 0 0)).heap[B2]? = some (.cells #[.int .i64 0] ty2 (0,0)):=(eO fun e=>hne e.symm).trans c2
 have e2:=(eN (AHx (v:=.int .i64 210) c2')).1
 have e1:=(eN ((eO (a:=⟨B2,0,none⟩) (v:=.int .i64 210) hne).trans (AHx (v:=.slice none 0 0) c1))).1
 obtain ⟨q1,q2,q3,q4⟩:=AHw (w.setCell ⟨B1,0,none⟩ (.slice none 0 0)) ⟨B2,0,none⟩ (.int .i64 210)
 obtain ⟨r1,r2,r3,r4⟩:=AHw w ⟨B1,0,none⟩ (.slice none 0 0)
 refine ⟨X0,?_,hR _ (fun B n1 n2=>by rw [eO n2,eO n1]) (q1.trans r1) (q2.trans r2) (q3.trans r3) (q4.trans r4)⟩
 rw [jg] at ht1 ht2;simp [results,hres,ht1,ht2,go_sem,e1,e2,X0]
section
variable (n m:Nat) (xs:dp) (p:List Bool)
noncomputable abbrev skF:Func:=Tryz.f20
noncomputable def skA:ASt:=Ah skF [AP 0 0 n m] (Ax xs) 1 p
noncomputable def eP:ASt:=ID (FV dn oVc 3 1 (skA n m xs p))
noncomputable def skI:List Item:=(eP 0 0 [] []).todo
noncomputable abbrev skO:Array Oper:=HD skI
noncomputable def K6 (x:Option (List Rec×St)):St:=match x with | some (_,s)=>s | none=>⟨[],[],0,[]⟩
noncomputable def UR (x:Option (List Rec×St)):List Rec:=match x with | some (r,_)=>r | none=>[]
noncomputable def PX:Option (List Rec×St):=DO dn oVc skO [skO.getD 0 default] 0 (eP n m xs p).s
theorem Acx:FV dn oVc 3 1 (skA n m xs p)=some ([],[],eP n m xs p):=dk
theorem Acy:(eP n m xs p).todo=.code (.region (WH skI) skO false)::TO skI:=dk
theorem Acz:PX n m xs p=some (UR (PX n m xs p),K6 (PX n m xs p)):=dk
theorem Ac0:IW (UR (PX n m xs p))=[]:=dk
theorem Ac1:DZ (UR (PX n m xs p))=[]:=dk
theorem Ac2:Al (K6 (PX n m xs p)).T 6=.val false [.clo 41 [(1,0),(2,0)]]:=dk
theorem vU:(K6 (PX n m xs p)).fr=3:=dk
noncomputable def PY:ASt:=⟨TO skI,K6 (PX n m xs p)⟩
end
theorem AHz {n m:Nat} {xs:dp} (p:List Bool) {β:Env} {us:List Value} {w:World} {R:Ending→World→Prop} (ha:A_ β [AP 0 0 n m] us) (hg:Ex.Good β (Ax xs) w) (hf:∀ b,1≤b→β b=none)
  (h:∀ (β':Env) (a:Act) (w':World) (A B:Nat) (m1 m2:Nat×Nat),β' 1=some (.at_ A m1)→β' 2=some (.at_ B m2)→(∀ b,3≤b→β' b=none) →
   Inv β w [] ⟨skF.ntmps,[{ target:=.fn (.func 41) #[.pointer (some ⟨A,m1.2+0,none⟩),.pointer (some ⟨B,m2.2+0,none⟩)],args:=#[] }]⟩ β' (Al (PY n m xs p).s.T) (PY n m xs p).s.H a w' →
   Ex.Safe dn 20 R (PY n m xs p).todo a w'):Calls dn 20 ⟨us⟩ w R:=by
 refine WA (args:=[AP 0 0 n m]) (H:=Ax xs) (k0:=1) (path:=p) Tryz.func20 dk dk ?_ ha hg hf
 refine QQ Xz AB (Acx n m xs p) trivial (AQ dk) hf ft fun hw=>?_
 intro β' a w' hi hf';rw [Acy];refine Ex.Safe.of_wp (wp_region ?_)
 have hs:List.range skO.size=List.range' 0 [skO.getD 0 default].length++[1]:=dk
 rw [hs];refine nM Xz (W:=[]) _ 0 _ _ _ β' a w' (fun j o hj=>?_) (Acz n m xs p) (by rw [Ac0];trivial) hi hf' hw.1 hw.2 (by rw [Ac1];intro k hk;cases hk) ?_
 ·cases j with
  | zero=>injection hj with hj;subst hj;kernel_rfl
  | succ j=>simp at hj
 ·intro β2 a2 w2 hi2 hf2;have hc:=hi2.tmp 6;rw [Ac2] at hc;obtain ⟨ps,hp,hu⟩:=Aw hc;obtain ⟨A,m1,B,m2,e1,e2,rfl⟩:=ANQ hp;injection hu with hu _;refine ANO (o:=skO.getD 1 default) (c:=match (skO.getD 1 default).op with | .defer c=>c | _=>⟨.builtin .len,#[],#[]⟩) (t:=6) dk dk dk dk dk dk hu ⟨rfl,?_⟩
  exact h β2 _ w2 A B m1 m2 e1 e2 (fun b hb=>hf2 b (by rw [vU];exact hb)) hi2.push
theorem AH0 {β:Env} {H:Heap} {w:World} {k ty A:Nat} {m:Nat×Nat} {c:Ch} {v:Value} (hg:Ex.Good β H w) (hk:AF H k=some ⟨ty,[c],false⟩) (hr:Nat.ble Bf ty=false) (hA:β k=some (.at_ A m)) (hc:∀ l,BF β c l→l=[v]):w.heap[A]? = some (.cells #[v] ty (0,0))∧m.2=0:=by
 rcases P6 (hg.heap k _ hk) (OI hr) with ⟨B,n,l,t,e1,e2,e3,e4,_⟩ | ⟨e1,_⟩
 ·rw [hA] at e1;injection e1 with e1;injection e1 with e1 e5;subst e1;subst e5;obtain ⟨l1,l2,q1,q2,q3⟩:=e2;simp only [AO] at q2;rw [e4 rfl,q3,q2,hc _ q1] at e3;exact ⟨e3,rfl⟩
 ·rw [hA] at e1;cases e1
section
variable (n m:Nat) (xs:dp) (p:List Bool)
noncomputable def eR:ASt:=ID (FV dn oVc 1 1 (PY n m xs p))
noncomputable def skJ:List Item:=(eR 0 0 [] []).todo
noncomputable def K7:Option (List Rec×St):=DO dn oVc (HD skJ) [(HD skJ).getD 0 default] 0 (eR n m xs p).s
theorem Ac3:FV dn oVc 1 3 (PY n m xs p)=some ([],[],eR n m xs p):=dk
theorem Ac4:(eR n m xs p).todo=.code (.region (WH skJ) (HD skJ) false)::TO skJ:=dk
theorem Ac5:K7 n m xs p=some (UR (K7 n m xs p),K6 (K7 n m xs p)):=dk
theorem Ac6:IW (UR (K7 n m xs p))=[]:=dk
theorem Ac7:DZ (UR (K7 n m xs p))=[]:=dk
theorem Ac8:Al (K6 (K7 n m xs p)).T 8=AP 0 0 n m:=dk
theorem Ac9:Al (K6 (K7 n m xs p)).T 2=.val false [.p 1 0]:=dk
theorem Ac_:Al (K6 (K7 n m xs p)).T 3=.val false [.p 2 0]:=dk
theorem Ac':AF (K6 (K7 n m xs p)).H 0=some (Am [.seq .u8 xs]):=dk
theorem AH1:AF (K6 (K7 n m xs p)).H 1=some ⟨22,[.v (.slice none 0 0)],false⟩:=dk
theorem AH2:AF (K6 (K7 n m xs p)).H 2=some ⟨31,[.n .i64 0],false⟩:=dk
end
theorem AdA (xs:dp):Az .u8 [.seq .u8 xs]=some xs:=dk
theorem AH3 {β:Env} {T:AV} {u:Value} {k A:Nat} {m:Nat×Nat} (hT:T=.val false [.p k 0]) (h:AL β T u) (hA:β k=some (.at_ A m)):u=.pointer (some ⟨A,m.2+0,none⟩):=by
 subst hT;obtain ⟨B,n,h1,h2⟩:=Aw h;rw [hA] at h1;injection h1 with h1;injection h1 with h1 h3;subst h1;subst h3;injection h2
theorem AH4 {w w':World} (h:Below w.heap.size w w') {B:Nat} {o:Obj} (hB:w.heap[B]? = some o):w'.heap[B]? = some o:=by
 rw [h.block B (Array.getElem?_eq_some_iff.1 hB).1];exact hB
theorem AdB {β:Env} {H:Heap} {w w':World} (hg:Ex.Good β H w) (hs:w.heap.size≤w'.heap.size) (hf:∀ B,B<w.heap.size→w'.heap[B]? = w.heap[B]?) (ho:w'.os=w.os) (ht:w'.tape=w.tape) (hp:w'.output=w.output):A4 β w [] (UG 210) [] (.returned X0) w' :=
 ⟨X0,β,rfl,{
  val:=⟨_,⟨_,_,Aq ⟨rfl,rfl,trivial⟩,⟨_,_,Aq ⟨rfl,(E7 _ _).2 dm⟩,rfl,rfl⟩,rfl⟩,rfl⟩
  good:=⟨(fun _ _ h=>by cases h),(fun _ _ _ _ _ h=>by cases h),(fun b B n h=>ik (hg.lt b B n h) hs)⟩
  new:=fun _ _ h=>.inl h
  ext:=Env.le_refl β
  frame:=fun B hB _=>hf B hB
  size:=hs
  os:=ho
  tape:=ht
  output:=hp }⟩
theorem AdC {n m:Nat} {xs:dp} (hl:n≤xs.length) (hn:AJ .i64 n=true) (hk:GH n (Ak (AA xs 0 n))=false) :
  Ac dn 20 [AP 0 0 n m] (Ax xs) 1 [] (UG 210) []:=by
 intro β us w ha hg hf;refine AHz [] ha hg hf fun β' a w' A B m1 m2 hA hB hf' hi=>?_
 refine QQ (β0:=β') (w0:=w') (W:=[]) Xz AB (Ac3 n m xs []) trivial (AQ dk) hf' ft (fun hw=>?_) β' a w' hi.root (fun b hb=>hf' b (by rw [show (PY n m xs []).s.fr=3 from vU n m xs []] at hb;exact hb))
 intro β1 a1 w1 hi1 hf1;rw [Ac4];refine Ex.Safe.of_wpP Tryz.func20 (wp_region ?_)
 have hs:List.range (HD skJ).size=List.range' 0 [(HD skJ).getD 0 default].length++(1::List.range' 2 ((HD skJ).size-2)):=dk
 rw [hs];refine nM Xz (W:=[]) _ 0 _ _ _ β1 a1 w1 (fun j o hj=>?_) (Ac5 n m xs []) (by rw [Ac6];trivial) hi1 hf1 hw.1 hw.2 (by rw [Ac7];intro k hk;cases hk) ?_
 ·cases j with
  | zero=>injection hj with hj;subst hj;kernel_rfl
  | succ j=>simp at hj
 intro β2 a2 w2 hi2 _;have r8:=hi2.tmp 8;rw [Ac8] at r8;obtain ⟨_,g2,_⟩:=ED hi2.good (Ac' n m xs []) (AdA xs)
 have hpan:=Acu hl hn hk (A3 β2 [0] 1) [a2.tmps.getD 8 undef] w2 ⟨_,[],CJ dl rfl r8,rfl,rfl⟩ g2 (fun b hb=>by
  have:Nat.blt b 1=false:=by cases h:Nat.blt b 1 with | false=>rfl | true=>have:=BP.1 h;omega
  simp [A3,this])
 refine ANN (o:=(HD skJ).getD 1 default) (c:=match ((HD skJ).getD 1 default).op with | .call c=>c | _=>⟨.builtin .len,#[],#[]⟩) (g:=44) (chain:=errC) dk dk dk dk Tryz.func44 dk dk ?_
 have hargs:(match ((HD skJ).getD 1 default).op with | .call c=>c | _=>⟨.builtin .len,#[],#[]⟩).args=#[.tmp 8]:=dk
 rw [hargs,show Array.map a2.eval #[Operand.tmp 8]=#[a2.eval (.tmp 8)] from by simp]
 refine Calls.mono (R:=fun e w'=>e=.panicked errC∧Below w2.heap.size w2 w') hpan ?_
 rintro e w3 ⟨rfl,hbl⟩
 refine ⟨rfl,.inr ⟨errC,rfl,?_⟩⟩
 have hA2:=hi2.ext 1 _ hA;have hB2:=hi2.ext 2 _ hB;obtain ⟨c1,z1⟩:=AH0 (v:=.slice none 0 0) hi2.good (AH1 n m xs []) dk hA2 fun l h=>h.1
 obtain ⟨c2,z2⟩:=AH0 (v:=.int .i64 0) hi2.good (AH2 n m xs []) dk hB2 fun l h=>h.1
 have hne:A≠B:=fun e=>by
  subst e;have:=hi2.good.inj 1 2 A m1 m2 (by rw [FS (AH1 n m xs []) (Yv dk)]) (by rw [AH2];rfl) hA2 hB2
  cases this
 have big:∀ {k C:Nat} {q:Nat×Nat},1≤k→β' k=some (.at_ C q)→w.heap.size≤C:=by
  intro k C q hk0 hC;rcases hi.new k _ hC with h | h
  ·rw [hf k hk0] at h;cases h
  ·rcases h C q rfl with h | ⟨j,_,hj,_⟩
   ·exact h
   ·cases hj
 have bA:=big dl hA;have bB:=big dl hB;have t1:=AH3 (Ac9 n m xs []) (hi2.tmp 2) hA2
 have t2:=AH3 (Ac_ n m xs []) (hi2.tmp 3) hB2
 rw [z1] at t1;rw [z2] at t2;rw [hi2.dfr,z1,z2];refine Acw Tryz.func41 dk dk (fun p q x y w a b c d e=>AcY p q x y w a b c d e) (t1:=2) (t2:=3) dk t1 t2 (AH4 hbl c1) (AH4 hbl c2) hne fun w4 k1 k2 k3 k4 k5=>?_
 refine AdB hg ?_ (fun C hC=>?_) ?_ ?_ ?_
 ·rw [k2];exact ji hi.size (ji hi2.size hbl.size)
 ·rw [k1 C dl dl,hbl.block C (ik hC (ji hi.size hi2.size)),hi2.frame C (ik hC hi.size) (fun _ _ h=>by cases h),hi.frame C hC (fun _ _ h=>by cases h)]
 ·rw [k3,hbl.os,hi2.os,hi.os]
 ·rw [k4,hbl.tape,hi2.tape,hi.tape]
 ·rw [k5,hbl.output,hi2.output,hi.output]
noncomputable def PZ (N:Nat):Pt FP:=GZ (AI (AA (Xw N) 0 4)) (Aj (DV G1B) (B8 G1B) (BE G1B))
theorem AdD {N:Nat} (h:N<R4):PZ N=smul N G1B:=by
 unfold PZ GZ;rw [T3,fw cT,AHp h]
def vV:AV:=.tup [(false,[.sl 12 0 48 48]),(false,[.n .i64 0])]
def vW (l:dp):Heap:=[(12,some ⟨5,[.seq .u8 l],true⟩)]
theorem AdE (n m:Nat) (xs:dp):AR dn oVc skF 400 1 [12] (PY n m xs [false,true,true,true,true,true,true,true,true,true]) =
 some ((Nat.ble n xs.length,true)::(Nat.ble n m,true)::(AJ .i64 n,true)::(GH n (Ak (AA xs 0 n)),true)::tt 2 [(BM (Aj (DV (PZ (FJ n (Ak (AA xs 0 n))))) (B8 (PZ (FJ n (Ak (AA xs 0 n))))) (BE (PZ (FJ n (Ak (AA xs 0 n)))))),true)],[],vV,
  vW (En true (Aj (DV (PZ (FJ n (Ak (AA xs 0 n))))) (B8 (PZ (FJ n (Ak (AA xs 0 n))))) (BE (PZ (FJ n (Ak (AA xs 0 n)))))))):=dk
theorem AdF (N:Nat):BM (smul N G1B)=true:=by
 have h1:=(KX G1B).1 cT
 unfold BM;rw [(KX _).2 (B4 C1 h1 N),← Iu C1 h1,gw,Iu C1 h1,rG1,GV];rfl
theorem AdG {n m:Nat} {xs:dp} (hl:n≤xs.length) (hm:n≤m) (hn:AJ .i64 n=true) (hk:GH n (Ak (AA xs 0 n))=true) :
  Ac dn 20 [AP 0 0 n m] (Ax xs) 1 [] vV (vW (En true (smul (Ak (AA xs 0 n)) G1B))):=by
 obtain ⟨k1,k2,_⟩:=vT.1 hk;have hV:FJ n (Ak (AA xs 0 n))=Ak (AA xs 0 n):=fw ⟨k1,k2⟩
 have hrun:=AdE n m xs;rw [hV,T3,AdD (jy k2 AHl)] at hrun;intro β us w ha hg hf;refine AHz [false,true,true,true,true,true,true,true,true,true] ha hg hf fun β' a w' A B m1 m2 _ _ hf' hi=>?_
 exact ANR Xz AB Tryz.func20 hrun ⟨gb hl,gb hm,hn,hk,Ad 2 ⟨AdF _,trivial⟩⟩ (AQ dk) hf ft rfl Tryz.func41 dk dk
  (fun w=>AcX _ _ w) (fun _ _ h=>h) β' a w' hi (fun b hb=>hf' b (by rw [show (PY n m xs _).s.fr=3 from vU n m xs _] at hb;exact hb))
noncomputable def skSp:ASpec:=fun args H fr path=>match args,path with
 | [S],b::rest=>match H8 S with
  | some (k,n,m)=>match AF H k with
   | some ⟨_,cs,_⟩=>match Az .u8 cs with
    | some xs=>match b with
     | true=>some (BI [k] 1 fr 0 [] (UG 210) [] [(Nat.ble n xs.length,true),(Nat.ble n m,true),(AJ .i64 n,true),(GH n (Ak (AA xs 0 n)),false)] rest)
     | false=>some (BI [k] 1 fr 12 [] vV (vW (En true (smul (Ak (AA xs 0 n)) G1B))) [(Nat.ble n xs.length,true),(Nat.ble n m,true),(AJ .i64 n,true),(GH n (Ak (AA xs 0 n)),true)] rest)
    | none=>none
   | _=>none
  | none=>none
 | _,_=>none
theorem AdH:A' dn 20 skSp:=by
 refine DC Tryz.func20 dk dk fun args H fr path r hs=>?_
 unfold skSp at hs;split at hs;case h_2=>cases hs
 rename_i S b rest;split at hs;case h_2=>cases hs
 rename_i k n m hS;split at hs;case h_2=>cases hs
 rename_i ty cs o hk';split at hs;case h_2=>cases hs
 rename_i xs hxs;split at hs
 ·injection hs with hs;refine ⟨[k],1,0,[],_,_,_,rest,hs.symm,fun β us w ha hg hc=>?_⟩
  obtain ⟨u1,us1,r1,ha,rfl⟩:=ha;obtain ⟨hl,hm,hn,hb,_⟩:=hc;obtain ⟨m',_,r1⟩:=JY hS (f_ hm) r1
  obtain ⟨g1,g2,g3⟩:=ED hg hk' hxs;exact ⟨[AP 0 0 n m'],Ax xs,AdC (f_ hl) hn hb,dk,⟨u1,_,CJ dl rfl r1,ha,rfl⟩,g2,g3⟩
 ·injection hs with hs;refine ⟨[k],1,12,[],_,_,_,rest,hs.symm,fun β us w ha hg hc=>?_⟩
  obtain ⟨u1,us1,r1,ha,rfl⟩:=ha;obtain ⟨hl,hm,hn,hb,_⟩:=hc;obtain ⟨m',hm',r1⟩:=JY hS (f_ hm) r1
  obtain ⟨g1,g2,g3⟩:=ED hg hk' hxs;exact ⟨[AP 0 0 n m'],Ax xs,AdG (f_ hl) hm' hn hb,dk,⟨u1,_,CJ dl rfl r1,ha,rfl⟩,g2,g3⟩
noncomputable def SVe:dt:=(20,skSp)::(25,DP smSp)::(28,DP (Ky fun s L=>Er (EQ s L)))::SVc
theorem AH5:AT dn SVe:=⟨AdH,D6 AXy,D6 (Ni Tryz.func28 dk dk (fun _ _=>by kernel_rfl) fun _ _ _ hl hm hn=>uD hl hm hn true rfl),AHv⟩
noncomputable abbrev oVe:Orc:=AG SVe KV
theorem eS:OrcOk dn oVe:=AH AH5 BJ
noncomputable def SVf:dt:=(11,A5 dn oVe Tryz.f11 300)::(19,A5 dn oVe Tryz.f19 300)::(21,A5 dn oVe Tryz.f21 600)::(22,A5 dn oVe Tryz.f22 300)::SVe
theorem AH6:AT dn SVf:=⟨A7 eS AB Tryz.func11 dk dk 300,A7 eS AB Tryz.func19 dk dk 300,A7 eS AB Tryz.func21 dk dk 600,A7 eS AB Tryz.func22 dk dk 300,AH5⟩
noncomputable abbrev oVf:Orc:=AG SVf KV
theorem AdI:OrcOk dn oVf:=AH AH6 BJ
open Ex Num Rg
open Sh (R av rd mo en mo_en)
def AdJ:dp:=List.take (Int.toNat 31) (List.drop 0 (List.replicate (Int.toNat 31) 0))++[1]
def Nx:Nat:=Ak (AA AdJ 0 (Int.toNat 31+1))
def eU:Nat:=Ak (AA (List.replicate (Int.toNat 32) 0) 0 (Int.toNat 32))
theorem vX:Nx=1:=dk
theorem AdK:eU=0:=dk
noncomputable def AH7:dr:=tt 7 ((GH (Int.toNat 32) eU,false)::tt 9 ((GH (Int.toNat 31+1) Nx,true)::(BM (Aj (DV G1B) (B8 G1B) (BE G1B)),true)::(Nat.ble (0+48) (En true (smul Nx G1B)).length,true)::(Nat.ble (0+48) (En true (Aj (DV G1B) (B8 G1B) (BE G1B))).length,true) ::
 tt 2 ((PK (AA (En true (smul Nx G1B)) 0 48) (AA (En true (Aj (DV G1B) (B8 G1B) (BE G1B))) 0 48),true)::tt 2 ((Nat.ble 48 (En true (smul Nx G1B)).length,true)::tt 2 ((decide ((EQ true (AA (En true (smul Nx G1B)) 0 48)).2=0),true)::(!BE (EQ true (AA (En true (smul Nx G1B)) 0 48)).1,true)::tt 3 [(false,false)])))))
theorem AdL:AK dn oVf Tryz.f7 [] [true,true,true,false,false,true,true,true,true,false] 1000=some (AH7,.val false [.b true]):=dk
theorem AdM (s i b:Bool) (B:dp):(D9 s i b B).length=B.length:=by
 cases B with
 | nil=>cases s<;>cases i<;>cases b<;>rfl
 | cons f t=>rw [tZ];rfl
theorem AH8 (s:Bool) (p:Pt FP):(En s p).length=96:=by rw [cV,AdM,cY,cW];rfl
theorem AdN:GH (Int.toNat 32) eU=false:=by
 cases h:GH (Int.toNat 32) eU with
 | false=>rfl
 | true=>exact absurd AdK (vT.1 h).2.2
theorem AdO:1<rN:=by rw [rN_eq];exact BP.1 dk
theorem AdP:GH (Int.toNat 31+1) Nx=true:=vT.2 ⟨rfl,by rw [vX];exact AdO,by rw [vX];decide⟩
theorem AdQ (l:dp):PK l l=true:=fu rfl
theorem AdR:AS dn 7 [] (.val false [.b true]):=by
 have r:=AdL;have e1:smul Nx G1B=G1B:=by rw [vX];rfl
 have hd:EQ true (AA (En true G1B) 0 48)=(G1B,0):=AYw XZ true
 unfold AH7 at r;rw [T3,e1,hd] at r;have hb:Nat.ble 48 (En true G1B).length=true:=by rw [AH8];rfl
 have hb':Nat.ble (0+48) (En true G1B).length=true:=by rw [AH8];rfl
 exact AN AdI AB Tryz.func7 r (Ad 7 ⟨AdN,Ad 9 ⟨AdP,XZ,hb',hb',Ad 2 ⟨AdQ _,Ad 2 ⟨hb,Ad 2 ⟨fu rfl,rfl,Ad 3 ⟨rfl,trivial⟩⟩⟩⟩⟩⟩) rfl
noncomputable def SVw:dt:=(7,AZ AUr)::SVf
theorem AH9:AT dn SVw:=⟨Aa Tryz.func7 dk dk (QZ AdR fun u h=>h),AH6⟩
noncomputable abbrev oVw:Orc:=AG SVw KV
theorem AdS:OrcOk dn oVw:=AH AH9 BJ
noncomputable def SVg:dt:=(8,A5 dn oVw Tryz.f8 300)::SVw
theorem eV:AT dn SVg:=⟨A7 AdS AB Tryz.func8 dk dk 300,AH9⟩
theorem AH_ {f:FuncId} {args:List AV} {H:Heap} {k0:Nat} (h:Ac dn f args H k0 [] (.val false [.b true]) []):Ac dn f args H k0 [] (Au true) [] :=
 BA h fun _ _ ⟨l1,l2,h1,h3,h4⟩=>⟨l1,l2,⟨h1,rfl,trivial⟩,h3,h4⟩
theorem Jr {P:Program}:∀ {S T:dt},AT P S→AT P T→AT P (S++T)
 | [],_,_,h=>h
 | _::_,_,h,h'=>⟨h.1,Jr h.2 h'⟩
def Ny (oa:Option Addr) (m:Nat):List AV:=[.val false [.v (.slice oa 0 m)],.val false [.b true]]
noncomputable def SWr:dt:=(59,A5 dn (AG [] KV) Tryz.f59 300)::(65,A5 dn (AG [] KV) Tryz.f65 300)::[]
theorem AdT:AT dn SWr:=⟨A7 (AH (L:=[]) trivial BJ) AB Tryz.func59 dk dk 300,A7 (AH (L:=[]) trivial BJ) AB Tryz.func65 dk dk 300,trivial⟩
noncomputable abbrev oWr:Orc:=AG SWr KV
theorem eW:OrcOk dn oWr:=AH AdT BJ
def vY (e:Int):AV:=.tup [(true,F' false),(false,[.n .i64 e])]
section
variable (oa:Option Addr) (m:Nat)
theorem AdU:AK dn oWr Tryz.f45 (Ny oa m) dx 300=some (tt 2 [],Gz 200):=dk
theorem AdV:AK dn oWr Tryz.f53 (Ny oa m) dx 300=some (tt 2 [],Gz 200):=dk
theorem AdW:AK dn oWr Tryz.f28 (Ny oa m) dx 300=some (tt 2 [],vY 200):=dk
theorem AdX:AK dn oWr Tryz.f29 (Ny oa m) dx 300=some (tt 2 [],vY 200):=dk
theorem AdY:AS dn 45 (Ny oa m) (Fw (.pt 0 0,200)):=CW (AN eW AB Tryz.func45 (AdU oa m) (Ad 2 trivial) rfl) fun _ q=>PS q
theorem AdZ:AS dn 53 (Ny oa m) (Fw (.pt 0 0,200)):=CW (AN eW AB Tryz.func53 (AdV oa m) (Ad 2 trivial) rfl) fun _ q=>PS q
theorem AH' {β:Env} {e:Int} {u:Value} (h:AL β (vY e) u):AL β (Er (.pt 0 0,e)) u:=CZ (fun _ q=>(HT (x:=0) (y:=0) (i:=false) dk q).1) (fun _ q=>D8 rfl q) h
theorem Ada:AS dn 28 (Ny oa m) (Er (.pt 0 0,200)):=CW (AN eW AB Tryz.func28 (AdW oa m) (Ad 2 trivial) rfl) fun _ q=>AH' q
theorem Adb:AS dn 29 (Ny oa m) (Er (.pt 0 0,200)):=CW (AN eW AB Tryz.func29 (AdX oa m) (Ad 2 trivial) rfl) fun _ q=>AH' q
end
def X1 (v:AV):List AV→Option AV
 | [.val false [.v (.slice _ 0 _)],.val false [.b true]]=>some v
 | _=>none
theorem fA {f:FuncId} {v:AV} (h:∀ oa m,AS dn f (Ny oa m) v):∀ args r,X1 v args=some r→AS dn f args r:=by
 intro args r hs;unfold X1 at hs;split at hs;case h_2=>cases hs
 injection hs with hs;subst hs;exact h _ _
def US (v:AV) (s:ASpec):ASpec:=fun args H fr path=>match X1 v args with
 | some _=>AZ (X1 v) args H fr path
 | none=>s args H fr path
theorem fC {f:FuncId} {v:AV} {s:ASpec} (h1:A' dn f s) (h2:A' dn f (AZ (X1 v))):A' dn f (US v s):=by
 intro args H fr path r β us w hs;unfold US at hs;split at hs
 ·exact h2 args H fr path r β us w hs
 ·exact h1 args H fr path r β us w hs
noncomputable def SWe:dt:=(45,US (Fw (.pt 0 0,200)) (DP (Ky fun s L=>Fw (GE s L))))::(53,US (Fw (.pt 0 0,200)) (DP (Ky fun s L=>Fw (GE s L))))::(28,US (Er (.pt 0 0,200)) (DP (Ky fun s L=>Er (EQ s L))))::(29,US (Er (.pt 0 0,200)) (DP (Ky fun s L=>Er (EQ s L))))::[]
theorem Adc:AT dn SWe:=⟨fC (D6 (Ni Tryz.func45 dk dk (fun _ _=>by kernel_rfl) fun _ _ _ hl hm hn=>AGy hl hm hn true rfl)) (Aa Tryz.func45 dk dk (fA AdY)),fC (D6 (Ni Tryz.func53 dk dk (fun _ _=>by kernel_rfl) fun _ _ _ hl hm hn=>AHT hl hm hn true rfl)) (Aa Tryz.func53 dk dk (fA AdZ)),fC (D6 (Ni Tryz.func28 dk dk (fun _ _=>by kernel_rfl) fun _ _ _ hl hm hn=>uD hl hm hn true rfl)) (Aa Tryz.func28 dk dk (fA Ada)),fC (D6 (Ni Tryz.func29 dk dk (fun _ _=>by kernel_rfl) fun _ _ _ hl hm hn=>AHR hl hm hn true rfl)) (Aa Tryz.func29 dk dk (fA Adb)),trivial⟩
open Ex Num
theorem Et (a b:Nat) (ha:a<4294967296) (hb:b<4294967296):bits .and .u32 (a:Int) (b:Int)=((a &&& b:Nat):Int)∧bits .or .u32 (a:Int) (b:Int)=((a ||| b:Nat):Int)∧bits .xor .u32 (a:Int) (b:Int)=((a ^^^ b:Nat):Int):=by
 have ha':a % 2^IntKind.u32.bits=a:=ge ha
 have hb':b % 2^IntKind.u32.bits=b:=ge hb
 have h1:(a &&& b)<4294967296:=mq (n:=32) _ hb
 have h2:(a ||| b)<4294967296:=Nat.or_lt_two_pow (n:=32) ha hb
 have h3:(a ^^^ b)<4294967296:=po (n:=32) ha hb
 refine ⟨?_,?_,?_⟩
 ·simp only [bits,BitVec.ofInt_natCast,BitVec.toNat_and,BitVec.toNat_ofNat,ha',hb',IntKind.wrap_u32];omega
 ·simp only [bits,BitVec.ofInt_natCast,BitVec.toNat_or,BitVec.toNat_ofNat,ha',hb',IntKind.wrap_u32];omega
 ·simp only [bits,BitVec.ofInt_natCast,BitVec.toNat_xor,BitVec.toNat_ofNat,ha',hb',IntKind.wrap_u32];omega
def rr (x n:Nat):Nat:=x / 2^n ||| x*2^(32-n) % 4294967296
theorem MJ {x:Nat} (h:x<4294967296) (n:Nat):rr x n<4294967296:=Nat.or_lt_two_pow (n:=32) (mg (nc _ _) h) (gu _ dm)
def Nz (x j:Int):Int:=AU false .u32 (x*2^min j.toNat IntKind.u32.bits)
def MK (x j:Int):Int:=Int.fdiv x (2^min j.toNat IntKind.u32.bits)
theorem UT (x j:Nat) (hj:j≤32):Nz (x:Int) (j:Int)=((x*2^j % 4294967296:Nat):Int):=by
 unfold Nz;rw [C7,IntKind.wrap_u32,gj,jn (show j≤IntKind.u32.bits from hj)]
 have:(x:Int)*2^j=((x*2^j:Nat):Int):=by rw [iy,ml];rfl
 rw [this];omega
theorem X2 (x j:Nat) (hj:j≤32):MK (x:Int) (j:Int)=((x / 2^j:Nat):Int):=by
 unfold MK;rw [gj,jn (show j≤IntKind.u32.bits from hj),nb _ (by exact_mod_cast nq (2^j)),oe,ml]
 rfl
def UU (k:Int):Int:=bits .and .u64 (AU false .u64 k) 31
def X3 (k:Int):Int:=AU false .u64 (32-UU k)
def HW (x k:Int):Int:=((rr x.toNat (-k).toNat:Nat):Int)
theorem AIA {n:Nat} (h0:0<n) (h:n<32):UU (-(n:Int))=((32-n:Nat):Int)∧X3 (-(n:Int))=(n:Int):=by
 have h1:UU (-(n:Int))=((32-n:Nat):Int):=by
  unfold UU;have e:AU false .u64 (-(n:Int))=((18446744073709551616-n:Nat):Int):=by rw [C7,IntKind.wrap_u64];omega
  rw [e,show (31:Int)=((31:Nat):Int) from rfl,(bits_nat .u64 64 (gd _) (fun z a b=>by rw [IntKind.wrap_u64];omega) _ 31 dl dm).1]
  rw [show (31:Nat)=2^5-1 from rfl,Nat.and_two_pow_sub_one_eq_mod]
  omega
 refine ⟨h1,?_⟩
 unfold X3;rw [h1,C7,IntKind.wrap_u64];omega
theorem Ade (x k:Int):AK dn (AG [] KV) Tryz.f165 [.val false [.v (.int .u32 x)],.val false [.v (.int .i64 k)]] [] 300=some ((true,true)::(decide (0≤AU (true&&false) IntKind.u64 (32-bits BinOp.and IntKind.u64 (AU false IntKind.u64 k) (31))∧0≤x),true)::[],.val false [.v (.int .u32 (bits .or .u32 (Nz x (UU k)) (MK x (X3 k))))]):=dk
theorem ML {A:AV} {c:Bool} {k:IntKind} {x:Int} {β:Env} {u:Value} (h:Bg (some A)=some (c,k,x)) (hr:AL β A u):has k x∧∀ β':Env,AL β' (.val false [.v (.int k x)]) u:=by
 obtain ⟨rfl,p⟩:=Cy (β:=β) (u:=u) (fun B hB=>by injection hB with hB;subst hB;exact hr) h
 exact ⟨p,fun β'=>Aq ⟨rfl,rfl,p⟩⟩
theorem fD {x:Int} (h:has .u32 x):0≤x∧x<4294967296:=by
 rw [E7] at h;simp only [AJ,gi,gc] at h;omega
theorem Adf {x:Int} (h0:0≤x) (h1:x<4294967296) {k:Int} (h2:-32<k) (h3:k<0):bits .or .u32 (Nz x (UU k)) (MK x (X3 k))=HW x k:=by
 obtain ⟨a,rfl⟩:=ic h0;obtain ⟨n,rfl⟩:∃ n:Nat,k=-(n:Int):=⟨(-k).toNat,dl⟩
 obtain ⟨e1,e2⟩:=AIA (n:=n) dl dl
 rw [e1,e2,UT _ _ dl,X2 _ _ dl,(Et _ _ (gu _ dm) (mg (nc _ _) dl)).2.1,Nat.or_comm];unfold HW rr;rw [Int.neg_neg,gj,gj]
def vZ:List AV→Option (dr×AV)
 | [X,K]=>match Bg (some X),Bg (some K) with
  | some (_,.u32,x),some (_,.i64,k)=>some ([(decide (-32<k∧k<0),true)],.val false [.v (.int .u32 (HW x k))])
  | _,_=>none
 | _=>none
theorem Adg:∀ args c v,vZ args=some (c,v)→AM c→AS dn 165 args v:=by
 intro args c v hs hc us w ha;unfold vZ at hs;split at hs;case h_2=>cases hs
 rename_i X K;split at hs;case h_2=>cases hs
 rename_i c1 x c2 k hX hK;injection hs with hs;injection hs with hs1 hs2;subst hs1;subst hs2;have hk:-32<k∧k<0:=gv hc.1
 obtain ⟨u1,us1,r1,⟨u2,us2,r2,ha,rfl⟩,rfl⟩:=ha;obtain ⟨p1,q1⟩:=ML hX r1;obtain ⟨p2,q2⟩:=ML hK r2;obtain ⟨b1,b2⟩:=fD p1;have h:=Ade x k;rw [Adf b1 b2 hk.1 hk.2] at h;obtain ⟨n,hn⟩:∃ n:Nat,k=-(n:Int):=⟨(-k).toNat,dl⟩
 have hm:(0:Int)≤X3 k:=by rw [hn,(AIA (n:=n) dl dl).2];omega
 exact AN (AH (L:=[]) trivial BJ) AB Tryz.func165 h ⟨rfl,fu ⟨hm,b1⟩,trivial⟩ rfl _ w ⟨u1,_,q1 _,⟨u2,_,q2 _,ha,rfl⟩,rfl⟩
noncomputable def SSa0:dt:=(165,Ez vZ)::[]
theorem AIB:AT dn SSa0:=⟨Ft Tryz.func165 dk dk Adg,trivial⟩
noncomputable abbrev oS0:Orc:=AG SSa0 KV
theorem v0:OrcOk dn oS0:=AH AIB BJ
def N0 (a b c x:Nat):Nat:=rr x a ^^^ rr x b ^^^ rr x c
def N1 (a b c x:Nat):Nat:=rr x a ^^^ rr x b ^^^ x / 2^c
theorem Adh (x a b c:Int):AK dn oS0 Tryz.f164 [.val false [.v (.int .u32 x)],.val false [.v (.int .i64 a)],.val false [.v (.int .i64 b)],.val false [.v (.int .i64 c)]] [] 300=some ((decide (-32<AU false IntKind.i64 (0-a)∧AU false IntKind.i64 (0-a)<0),true)::(decide (-32<AU false IntKind.i64 (0-b)∧AU false IntKind.i64 (0-b)<0),true)::(decide (-32<AU false IntKind.i64 (0-c)∧AU false IntKind.i64 (0-c)<0),true)::[],.val false [.v (.int .u32 (bits .xor .u32 (bits .xor .u32 (HW x (AU false .i64 (0-a))) (HW x (AU false .i64 (0-b)))) (HW x (AU false .i64 (0-c)))))]):=dk
theorem Adi (x a b c:Int):AK dn oS0 Tryz.f233 [.val false [.v (.int .u32 x)],.val false [.v (.int .i64 a)],.val false [.v (.int .i64 b)],.val false [.v (.int .i64 c)]] [] 300=some ((decide (-32<AU false IntKind.i64 (0-a)∧AU false IntKind.i64 (0-a)<0),true)::(decide (-32<AU false IntKind.i64 (0-b)∧AU false IntKind.i64 (0-b)<0),true)::(decide (0≤c∧0≤x),true)::[],.val false [.v (.int .u32 (bits .xor .u32 (bits .xor .u32 (HW x (AU false .i64 (0-a))) (HW x (AU false .i64 (0-b)))) (MK x c)))]):=dk
theorem Adj (x n:Int):AK dn oS0 Tryz.f291 [.val false [.v (.int .u32 x)],.val false [.v (.int .u64 n)]] [] 300=some ((decide (0≤n∧0≤x),true)::(decide (0≤AU (true&&false) IntKind.u64 (32-n)),true)::[],.val false [.v (.int .u32 (bits .or .u32 (MK x n) (Nz x (AU false .u64 (32-n)))))]):=dk
theorem AIC {a:Int} (h0:0<a) (h1:a<32):AU false .i64 (0-a)=-a:=by rw [C7,IntKind.wrap_i64];omega
theorem X4 {x a:Int} (h0:0<a) (h1:a<32):HW x (AU false .i64 (0-a))=((rr x.toNat a.toNat:Nat):Int):=by
 rw [AIC h0 h1];unfold HW;rw [Int.neg_neg]
def IE (a:Int):Bool:=decide (0<a∧a<32)
theorem X5 {a:Int} (h:IE a=true):decide (-32<AU false .i64 (0-a)∧AU false .i64 (0-a)<0)=true:=by
 have h:=gv h;rw [AIC h.1 h.2];exact fu ⟨dl,dl⟩
def fE (f:Nat→Nat→Nat→Nat→Nat):List AV→Option (dr×AV)
 | [X,A,B,C]=>match Bg (some X),Bg (some A),Bg (some B),Bg (some C) with
  | some (_,.u32,x),some (_,.i64,a),some (_,.i64,b),some (_,.i64,c)=>some ([(IE a,true),(IE b,true),(IE c,true)],.val false [.v (.int .u32 (f a.toNat b.toNat c.toNat x.toNat:Nat))])
  | _,_,_,_=>none
 | _=>none
theorem AID {F:FuncId} {f:Nat→Nat→Nat→Nat→Nat} (h:∀ x a b c:Int,0≤x→x<4294967296→IE a=true→IE b=true→IE c=true→AS dn F [.val false [.v (.int .u32 x)],.val false [.v (.int .i64 a)],.val false [.v (.int .i64 b)],.val false [.v (.int .i64 c)]] (.val false [.v (.int .u32 (f a.toNat b.toNat c.toNat x.toNat:Nat))])) :
  ∀ args c v,fE f args=some (c,v)→AM c→AS dn F args v:=by
 intro args c v hs hc us w ha;unfold fE at hs;split at hs;case h_2=>cases hs
 rename_i X A B C;split at hs;case h_2=>cases hs
 rename_i c1 x c2 a c3 b c4 d hX hA hB hC;injection hs with hs;injection hs with hs1 hs2;subst hs1;subst hs2;obtain ⟨k1,k2,k3,_⟩:=hc;obtain ⟨u1,us1,r1,⟨u2,us2,r2,⟨u3,us3,r3,⟨u4,us4,r4,ha,rfl⟩,rfl⟩,rfl⟩,rfl⟩:=ha;obtain ⟨p1,q1⟩:=ML hX r1;obtain ⟨_,q2⟩:=ML hA r2;obtain ⟨_,q3⟩:=ML hB r3;obtain ⟨_,q4⟩:=ML hC r4;obtain ⟨b1,b2⟩:=fD p1;exact h x a b d b1 b2 k1 k2 k3 _ w ⟨u1,_,q1 _,⟨u2,_,q2 _,⟨u3,_,q3 _,⟨u4,_,q4 _,ha,rfl⟩,rfl⟩,rfl⟩,rfl⟩
theorem fF {a b c:Nat} (h1:a<4294967296) (h2:b<4294967296) (h3:c<4294967296):bits .xor .u32 (bits .xor .u32 (a:Int) (b:Int)) (c:Int)=((a ^^^ b ^^^ c:Nat):Int):=by
 rw [(Et _ _ h1 h2).2.2,(Et _ _ (po (n:=32) h1 h2) h3).2.2]
theorem Adk (x a b c:Int) (h0:0≤x) (h1:x<4294967296) (ha:IE a=true) (hb:IE b=true) (hc:IE c=true):AS dn 164 [.val false [.v (.int .u32 x)],.val false [.v (.int .i64 a)],.val false [.v (.int .i64 b)],.val false [.v (.int .i64 c)]] (.val false [.v (.int .u32 (N0 a.toNat b.toNat c.toNat x.toNat:Nat))]):=by
 have h:=Adh x a b c;have la:=gv ha;have lb:=gv hb;have lc:=gv hc;have lx:x.toNat<4294967296:=dl
 have e:bits .xor .u32 (bits .xor .u32 (HW x (AU false .i64 (0-a))) (HW x (AU false .i64 (0-b)))) (HW x (AU false .i64 (0-c)))=(N0 a.toNat b.toNat c.toNat x.toNat:Nat):=by
  rw [X4 la.1 la.2,X4 lb.1 lb.2,X4 lc.1 lc.2,fF (MJ lx _) (MJ lx _) (MJ lx _)];rfl
 rw [e] at h;exact AN v0 AB Tryz.func164 h ⟨X5 ha,X5 hb,X5 hc,trivial⟩ rfl
theorem Adl (x a b c:Int) (h0:0≤x) (h1:x<4294967296) (ha:IE a=true) (hb:IE b=true) (hc:IE c=true):AS dn 233 [.val false [.v (.int .u32 x)],.val false [.v (.int .i64 a)],.val false [.v (.int .i64 b)],.val false [.v (.int .i64 c)]] (.val false [.v (.int .u32 (N1 a.toNat b.toNat c.toNat x.toNat:Nat))]):=by
 have h:=Adi x a b c;have la:=gv ha;have lb:=gv hb;have lc:=gv hc;have lx:x.toNat<4294967296:=dl
 have e:bits .xor .u32 (bits .xor .u32 (HW x (AU false .i64 (0-a))) (HW x (AU false .i64 (0-b)))) (MK x c)=(N1 a.toNat b.toNat c.toNat x.toNat:Nat):=by
  have es:MK x c=((x.toNat / 2^c.toNat:Nat):Int):=by
   have:=X2 x.toNat c.toNat dl
   rw [qu h0,qu dl] at this;exact this
  rw [X4 la.1 la.2,X4 lb.1 lb.2,es,fF (MJ lx _) (MJ lx _) (mg (nc _ _) lx)];rfl
 rw [e] at h;exact AN v0 AB Tryz.func233 h ⟨X5 ha,X5 hb,fu ⟨dl,h0⟩,trivial⟩ rfl
def v5:List AV→Option (dr×AV)
 | [X,K]=>match Bg (some X),Bg (some K) with
  | some (_,.u32,x),some (_,.u64,k)=>some ([(IE k,true)],.val false [.v (.int .u32 (rr x.toNat k.toNat:Nat))])
  | _,_=>none
 | _=>none
theorem Adm:∀ args c v,v5 args=some (c,v)→AM c→AS dn 291 args v:=by
 intro args c v hs hc us w ha;unfold v5 at hs;split at hs;case h_2=>cases hs
 rename_i X K;split at hs;case h_2=>cases hs
 rename_i c1 x c2 k hX hK;injection hs with hs;injection hs with hs1 hs2;subst hs1;subst hs2;have hk:=gv hc.1;obtain ⟨u1,us1,r1,⟨u2,us2,r2,ha,rfl⟩,rfl⟩:=ha;obtain ⟨p1,q1⟩:=ML hX r1;obtain ⟨_,q2⟩:=ML hK r2;obtain ⟨b1,b2⟩:=fD p1;have h:=Adj x k;obtain ⟨y,rfl⟩:=ic b1;obtain ⟨n,rfl⟩:=ic (Int.le_of_lt hk.1)
 have e1:AU false .u64 (32-(n:Int))=((32-n:Nat):Int):=by rw [C7,IntKind.wrap_u64];omega
 rw [e1,UT _ _ dl,X2 _ _ dl,(Et _ _ (mg (nc _ _) dl) (gu _ dm)).2.1] at h;exact AN v0 AB Tryz.func291 h ⟨fu ⟨dl,dl⟩,fu (by show (0:Int)≤AU false .u64 (32-(n:Int));rw [e1];omega),trivial⟩ rfl _ w ⟨u1,_,q1 _,⟨u2,_,q2 _,ha,rfl⟩,rfl⟩
noncomputable def SSa:dt:=(164,Ez (fE N0))::(233,Ez (fE N1))::(291,Ez v5)::SSa0
theorem AIE:AT dn SSa:=⟨Ft Tryz.func164 dk dk (AID Adk),Ft Tryz.func233 dk dk (AID Adl),Ft Tryz.func291 dk dk Adm,AIB⟩
def fG (s:Nat→Int) (k w:Int):Int:=AU false .u32 (AU false .u32 (AU false .u32 (AU false .u32 (s 7+(N0 6 11 25 (s 4).toNat:Nat))+bits .xor .u32 (s 6) (bits .and .u32 (s 4) (bits .xor .u32 (s 5) (s 6))))+k)+w)
def v6 (s:Nat→Int):Int:=AU false .u32 ((N0 2 13 22 (s 0).toNat:Nat)+bits .or .u32 (bits .and .u32 (s 0) (s 1)) (bits .and .u32 (s 2) (bits .or .u32 (s 0) (s 1))))
def v7 (s:Nat→Int) (k w:Int):Nat→Int
 | 0=>AU false .u32 (fG s k w+v6 s)
 | 1=>s 0
 | 2=>s 1
 | 3=>s 2
 | 4=>AU false .u32 (s 3+fG s k w)
 | 5=>s 4
 | 6=>s 5
 | _=>s 6
def w8 (s:Nat→Int):List Ch:=[.v (.int .u32 (s 0)),.v (.int .u32 (s 1)),.v (.int .u32 (s 2)),.v (.int .u32 (s 3)),.v (.int .u32 (s 4)),.v (.int .u32 (s 5)),.v (.int .u32 (s 6)),.v (.int .u32 (s 7))]
noncomputable def Adn:ASpec:=fun _ _ fr path=>some (BI [] 0 fr 0 [] (.val true [.seq .u32 (List.replicate 64 0)]) [] [] path)
noncomputable def Ado:Option (dr×List Nat×ASt):=AW dn (AG ((163,Adn)::SSa) KV) (some 0) 100 1 none (Ah Tryz.f87 [.val true [.seq .u32 (List.replicate 8 0)],.val true [.seq .u8 (List.replicate 64 0)]] [] 0 [])
noncomputable def Adp:List Item:=Bv Ado
noncomputable def UV (hs ks ws:dp) (s:Nat→Int) (t:AV) (p:List Bool):ASt:=⟨Adp,⟨DT Tryz.f87.ntmps [(2,.val false [.p 0 0]),(4,.val false [.p 2 0]),(5,.val false [.p 3 0]),(6,.val false [.p 4 0]),(7,.val false [.v (.func (.func 164) #[] #[])]),(8,.val false [.p 5 0]),(20,t)],
 [(0,some ⟨109,[.seq .u32 hs],false⟩),(2,some ⟨109,List.replicate 8 (.n .u32 0),false⟩),(3,some ⟨160,[.seq .u32 ks],false⟩),(4,some ⟨160,[.seq .u32 ws],false⟩),(5,some ⟨109,w8 s,false⟩)],6,p⟩⟩
abbrev v8:Option (List Nat×List Nat×Nat):=some ([2,4,5,6,7,8,20],[0,2,3,4,5],6)
def shC (ks ws:dp) (t:Int):dr:=(decide (t<64),true)::tt 3 ((decide (0≤t∧t<64),true)::(decide (0+t.toNat*1<ks.length),true)::(decide (0≤t∧t<64),true)::(decide (0+t.toNat*1<ws.length),true)::tt 5 [])
theorem Adq (hs ks ws:dp) (s:Nat→Int) (t:Int):AW dn (AG SSa KV) (some 0) 100 1 v8 (UV hs ks ws s (iA t) dw) =
 some (shC ks ws t,[],UV hs ks ws (v7 s (ks.getD (0+t.toNat*1) 0) (ws.getD (0+t.toNat*1) 0)) (iA (wI (t+1))) []):=dk
def fH (x y z:Nat):Nat:=z ^^^ (x &&& (y ^^^ z))
def fI (x y z:Nat):Nat:=(x &&& y) ||| (z &&& (x ||| y))
def UW (s:Nat→Nat) (k w:Nat):Nat:=(s 7+N0 6 11 25 (s 4)+fH (s 4) (s 5) (s 6)+k+w) % 4294967296
def X6 (s:Nat→Nat):Nat:=(N0 2 13 22 (s 0)+fI (s 0) (s 1) (s 2)) % 4294967296
def RU (s:Nat→Nat) (k w:Nat):Nat→Nat
 | 0=>(UW s k w+X6 s) % 4294967296
 | 1=>s 0
 | 2=>s 1
 | 3=>s 2
 | 4=>(s 3+UW s k w) % 4294967296
 | 5=>s 4
 | 6=>s 5
 | _=>s 6
theorem X7 (x:Nat):AU false .u32 (x:Int)=((x % 4294967296:Nat):Int):=by rw [C7,IntKind.wrap_u32];omega
theorem EG (x y:Nat):AU false .u32 ((x:Int)+(y:Int))=(((x+y) % 4294967296:Nat):Int):=by rw [C7,IntKind.wrap_u32];omega
theorem AIG {s:Nat→Nat} (hs:∀ i,s i<4294967296) (k w:Nat):fG (fun i=>(s i:Int)) k w=(UW s k w:Nat):=by
 unfold fG UW fH;have h:=fun i=>hs i
 rw [(Et _ _ (hs 5) (hs 6)).2.2,(Et _ _ (hs 4) (po (n:=32) (hs 5) (hs 6))).1,(Et _ _ (hs 6) (mq (n:=32) _ (po (n:=32) (hs 5) (hs 6)))).2.2,gj,EG,EG,EG,EG];congr 1
 omega
theorem Adr {s:Nat→Nat} (hs:∀ i,s i<4294967296):v6 (fun i=>(s i:Int))=(X6 s:Nat):=by
 unfold v6 X6 fI;rw [(Et _ _ (hs 0) (hs 1)).1,(Et _ _ (hs 0) (hs 1)).2.1,(Et _ _ (hs 2) (Nat.or_lt_two_pow (n:=32) (hs 0) (hs 1))).1,(Et _ _ (mq (n:=32) _ (hs 1)) (mq (n:=32) _ (Nat.or_lt_two_pow (n:=32) (hs 0) (hs 1)))).2.1,gj,EG]
theorem Ads {s:Nat→Nat} (hs:∀ i,s i<4294967296) (k w:Nat):v7 (fun i=>(s i:Int)) k w=fun i=>(RU s k w i:Int):=by
 funext i
 unfold v7 RU;split
 ·rw [AIG hs,Adr hs,EG]
 ·rfl
 ·rfl
 ·rfl
 ·rw [AIG hs,EG]
 ·rfl
 ·rfl
 ·rfl
theorem Adt {s:Nat→Nat} (hs:∀ i,s i<4294967296) (k w:Nat) (i:Nat):RU s k w i<4294967296:=by
 unfold RU;split
 all_goals first | exact gu _ dm | exact hs _
def Js (s:Nat→Nat) (K W:Nat→Nat):Nat→Nat→Nat
 | 0=>s
 | t+1=>RU (Js s K W t) (K t) (W t)
theorem v9 {s:Nat→Nat} (hs:∀ i,s i<4294967296) (K W:Nat→Nat):∀ t i,Js s K W t i<4294967296
 | 0,i=>hs i
 | t+1,i=>Adt (v9 hs K W t) _ _ i
theorem Adu {x y z:Nat} (hz:z<4294967296):(x &&& y) ^^^ ((4294967295 ^^^ x) &&& z)=fH x y z:=by
 unfold fH;refine Nat.eq_of_testBit_eq fun i=>?_
 have e:(4294967295:Nat).testBit i=decide (i<32):=Nat.testBit_two_pow_sub_one 32 i
 simp only [Nat.testBit_xor,Nat.testBit_and,e];by_cases h:i<32
 ·rw [fu h];cases x.testBit i<;>cases y.testBit i<;>cases z.testBit i<;>rfl
 ·rw [Nat.testBit_lt_two_pow (ik hz (lu (n:=2) dm (by omega:32≤i)))]
  cases x.testBit i<;>cases y.testBit i<;>simp
theorem Adv (x y z:Nat):(x &&& y) ^^^ (x &&& z) ^^^ (y &&& z)=fI x y z:=by
 unfold fI;refine Nat.eq_of_testBit_eq fun i=>?_
 simp only [Nat.testBit_xor,Nat.testBit_and,Nat.testBit_or];cases x.testBit i<;>cases y.testBit i<;>cases z.testBit i<;>rfl
def IF (k:Nat) (cs:List Ch):Heap→Heap
 | []=>[]
 | (j,b)::r=>match Nat.beq j k with
  | true=>(j,match b with | some ⟨ty,_,o⟩=>some ⟨ty,cs,o⟩ | none=>none)::r
  | false=>(j,b)::IF k cs r
theorem wA {k:Nat} {cs cs':List Ch} {ty:TypeId} {o:Bool}:∀ {H:Heap},AF H k=some ⟨ty,cs,o⟩→∀ b x,AF (IF k cs' H) b=some x→AF H b=some x∨(b=k∧x=⟨ty,cs',o⟩)
 | [],h,_,_,_=>by cases h
 | (j,z)::r,h,b,x,hx=>by
  simp only [AF] at h ⊢;unfold IF at hx;cases e:Nat.beq j k with
  | true =>
   rw [e] at h hx;have hz:z=some ⟨ty,cs,o⟩:=h
   subst hz;simp only [AF] at hx;cases e':Nat.beq j b with
   | true =>
    rw [e'] at hx;injection hx with hx;exact .inr ⟨(An.1 e').symm.trans (An.1 e),hx.symm⟩
   | false=>rw [e'] at hx;exact .inl hx
  | false =>
   rw [e] at h hx;simp only [AF] at hx;cases e':Nat.beq j b with
   | true=>rw [e'] at hx;exact .inl hx
   | false=>rw [e'] at hx;exact wA (H:=r) h b x hx
theorem Adw {β:Env} {H:Heap} {k:Nat} {ty:TypeId} {cs cs':List Ch} {o:Bool} {w:World} (hk:AF H k=some ⟨ty,cs,o⟩) (h:∀ β l,AO β cs l→AO β cs' l) (g:Ex.Good β H w):Ex.Good β (IF k cs' H) w:=by
 have hs:∀ b x,AF (IF k cs' H) b=some x→∃ y,AF H b=some y∧y.ty=x.ty:=fun b x hb=>by
  rcases wA hk b x hb with e | ⟨rfl,rfl⟩
  ·exact ⟨x,e,rfl⟩
  ·exact ⟨_,hk,rfl⟩
 refine ⟨fun b blk hb=>?_,fun b b' B n n' h1 h2 h3 h4=>?_,g.lt⟩
 ·rcases wA hk b blk hb with e | ⟨rfl,rfl⟩
  ·exact g.heap b blk e
  ·exact AE5 h (g.heap b _ hk)
 ·obtain ⟨x,hx,hr⟩:=F1 h1;obtain ⟨y,hy,e⟩:=hs b x hx;obtain ⟨x',hx'⟩:=jd.1 h2;obtain ⟨y',hy',_⟩:=hs b' x' hx';exact g.inj b b' B n n' (FS hy (by rw [e];exact hr)) (by rw [hy'];rfl) h3 h4
theorem AIH {P:Program} {f:FuncId} {β0:Env} {w0:World} {R:Ending→World→Prop} {n:Fz} {W:List Nat} {todo:List Item} {T:List AV} {H H':Heap} {k:Nat} {ty:TypeId} {cs cs':List Ch} {o:Bool} {fr:Nat} {p:List Bool} (hk:AF H k=some ⟨ty,cs,o⟩) (h:∀ β l,AO β cs l→AO β cs' l) (e:IF k cs' H=H')
  (hs:ASafe P f β0 w0 R n W ⟨todo,⟨T,H',fr,p⟩⟩):ASafe P f β0 w0 R n W ⟨todo,⟨T,H,fr,p⟩⟩ :=
 fun β a w hi hf=>hs β a w { hi with good:=e▸Adw hk h hi.good } hf
theorem fJ {k:IntKind} {cs:List Ch} {xs:dp} (h:Az k cs=some xs) (β:Env) (l:List Value) (hr:AO β cs l):AO β [.seq k xs] l:=by
 obtain ⟨q1,q2⟩:=C8 h hr;exact ⟨_,[],⟨q1,q2⟩,rfl,by simp⟩
def kL:dp:=[1116352408,1899447441,3049323471,3921009573,961987163,1508970993,2453635748,2870763221,3624381080,310598401,607225278,1426881987,1925078388,2162078206,2614888103,3248222580,3835390401,4022224774,264347078,604807628,770255983,1249150122,1555081692,1996064986,2554220882,2821834349,2952996808,3210313671,3336571891,3584528711,113926993,338241895,666307205,773529912,1294757372,1396182291,1695183700,1986661051,2177026350,2456956037,2730485921,2820302411,3259730800,3345764771,3516065817,3600352804,4094571909,275423344,430227734,506948616,659060556,883997877,958139571,1322822218,1537002063,1747873779,1955562222,2024104815,2227730452,2361852424,2428436474,2756734187,3204031479,3329325298]
noncomputable abbrev oSa:Orc:=AG SSa KV
theorem K8:OrcOk dn oSa:=AH AIE BJ
noncomputable def kX (t:Int):ASt:=ID (FV dn oSa 5 0 (Ah Tryz.f292 [iA t] [] 0 []))
noncomputable def kCs:List Ch:=match AF (kX 0).s.H 0 with | some b=>b.cs | none=>[]
noncomputable def kH:Heap:=[(0,some ⟨160,[.seq .u32 kL],false⟩)]
theorem Adx (t:Int):FV dn oSa 5 0 (Ah Tryz.f292 [iA t] [] 0 [])=some ([],[],kX t):=dk
theorem Ady (t:Int):AF (kX t).s.H 0=some ⟨160,kCs,false⟩:=dk
theorem Adz (t:Int):IF 0 [.seq .u32 kL] (kX t).s.H=kH:=dk
theorem Ad0:Az .u32 kCs=some kL:=dk
def wB (t:Int):AV:=.val false [.v (.int .u32 (kL.getD (0+t.toNat*1) 0))]
theorem Ad1 (t:Int):AR dn oSa Tryz.f292 100 0 [] ⟨(kX t).todo,⟨(kX t).s.T,kH,(kX t).s.fr,(kX t).s.path⟩⟩=some ([(decide (0≤t∧t<64),true),(decide (0+t.toNat*1<kL.length),true)],[],wB t,[]):=dk
theorem Ad2 {t:Int} (h:0≤t∧t<64):Ac dn 292 [iA t] [] 0 [] (wB t) []:=by
 refine Ay (path:=[]) Tryz.func292 dk dk fun β0 w0 hb=>?_
 refine QQ K8 AB (Adx t) trivial (AQ dk) hb ft fun hw=>?_
 refine AIH (Ady t) (fJ Ad0) (Adz t) ?_
 exact Av K8 AB Tryz.func292 (Ad1 t) ⟨fu h,fu (by show 0+t.toNat*1<64;omega),trivial⟩ (AQ dk) hb ft
def kSp:ASpec:=fun args _ fr path=>match args with
 | [X]=>match Bg (some X) with
  | some (_,.i64,t)=>some (BI [] 0 fr 0 [] (wB t) [] [(decide (0≤t∧t<64),true)] path)
  | _=>none
 | _=>none
theorem Ad3:A' dn 292 kSp:=by
 refine DC Tryz.func292 dk dk fun args H fr path r hs=>?_
 unfold kSp at hs;split at hs;case h_2=>cases hs
 rename_i X;split at hs;case h_2=>cases hs
 rename_i c t hX;injection hs with hs;refine ⟨[],0,0,[],_,_,_,path,hs.symm,fun β us w ha hg hc=>?_⟩
 obtain ⟨u1,us1,r1,ha,rfl⟩:=ha;exact ⟨[iA t],[],Ad2 (gv hc.1),dk,⟨u1,_,(ML hX r1).2 _,ha,rfl⟩,⟨(fun _ _ h=>by cases h),(fun _ _ _ _ _ h=>by cases h),(fun b B n h=>by
  have e:Nat.blt b 0=false:=by cases q:Nat.blt b 0 with | false=>rfl | true=>exact absurd (BP.1 q) (ld b)
  simp [A3,e] at h)⟩,fun k h=>by cases h⟩
def MM (b:Nat→Nat) (t:Nat):Nat:=((b (4*t)*256+b (4*t+1))*256+b (4*t+2))*256+b (4*t+3)
def UX (l:List Nat) (n:Nat):Nat:=(N1 17 19 10 (l.getD (n+14) 0)+l.getD (n+9) 0+N1 7 18 3 (l.getD (n+1) 0)+l.getD n 0) % 4294967296
def Fx (b:Nat→Nat):Nat→List Nat
 | 0=>(List.range 16).map (MM b)
 | n+1=>Fx b n++[UX (Fx b n) n]
theorem X8 (b:Nat→Nat):∀ n,(Fx b n).length=n+16
 | 0=>rfl
 | n+1=>by rw [Fx,ib,X8 b n];rfl
theorem Ad4 {b:Nat→Nat} (hb:∀ i,b i<256) (t:Nat):MM b t<4294967296:=by
 unfold MM;have h0:=hb (4*t)
 have h1:=hb (4*t+1)
 have h2:=hb (4*t+2)
 have h3:=hb (4*t+3)
 omega
theorem AIJ {b:Nat→Nat} (hb:∀ i,b i<256):∀ n,∀ x∈Fx b n,x<4294967296
 | 0,x,h=>by
  obtain ⟨t,_,rfl⟩:=jj.1 h;exact Ad4 hb t
 | n+1,x,h=>by
  rcases gl.1 h with h | h
  ·exact AIJ hb n x h
  ·rw [ja] at h;subst h;exact gu _ dm
def G1 (b:Nat→Nat) (t:Nat):Nat:=(Fx b 48).getD t 0
def kN (t:Nat):Nat:=(kL.getD t 0).toNat
def RV (h b:Nat→Nat) (i:Nat):Nat:=(Js h kN (G1 b) 64 i+h i) % 4294967296
def X9:Nat→Nat
 | 0=>0x6a09e667
 | 1=>0xbb67ae85
 | 2=>0x3c6ef372
 | 3=>0xa54ff53a
 | 4=>0x510e527f
 | 5=>0x9b05688c
 | 6=>0x1f83d9ab
 | _=>0x5be0cd19
def Ap (n:Nat):Nat:=(n+72) / 64*64
def C5 (xs:dp):dp:=xs++128::(List.replicate (Ap xs.length-xs.length-9) 0++CI (8*xs.length) 8)
theorem N2 (n:Nat):n+9≤Ap n:=by unfold Ap;omega
theorem AIK (xs:dp):(C5 xs).length=Ap xs.length:=by
 unfold C5;have:=N2 xs.length
 simp only [ib,ii,kt,CI,jk,lm];omega
def RW:dr→Bool
 | []=>true
 | (a,b)::r=>match a,b with
  | true,true=>RW r
  | false,false=>RW r
  | _,_=>false
theorem UY:∀ {c:dr},RW c=true→AM c
 | [],_=>trivial
 | (true,true)::_,h=>⟨rfl,UY h⟩
 | (false,false)::_,h=>⟨rfl,UY h⟩
 | (true,false)::_,h=>by cases h
 | (false,true)::_,h=>by cases h
def cdO (x:Option (dr×List Nat×ASt)):dr:=match x with | some (c,_,_)=>c | none=>[]
def kyO (x:Option (dr×List Nat×ASt)):List Nat:=match x with | some (_,k,_)=>k | none=>[]
def isO (x:Option (dr×List Nat×ASt)):Bool:=match x with | some _=>true | none=>false
theorem Ad5 {x:Option (dr×List Nat×ASt)} (h:isO x=true):x=some (cdO x,kyO x,ID x):=by
 cases x with
 | none=>cases h
 | some v=>rfl
theorem RX {P:Program} {f:FuncId} {β0:Env} {w0:World} {R:Ending→World→Prop} {n:Fz} {W:List Nat} {x:ASt} {k:Nat} {ty:TypeId} {cs cs':List Ch} {o:Bool} (hk:AF x.s.H k=some ⟨ty,cs,o⟩) (h:∀ β l,AO β cs l→AO β cs' l)
  (hs:ASafe P f β0 w0 R n W ⟨x.todo,⟨x.s.T,IF k cs' x.s.H,x.s.fr,x.s.path⟩⟩):ASafe P f β0 w0 R n W x:=AIH (H':=IF k cs' x.s.H) hk h rfl hs
structure Runs (x:Option (dr×List Nat×ASt)):Prop where
 isO:isO x=true
 ky:kyO x=[]
 cd:RW (cdO x)=true
theorem Ad6 {P:Program} {O:Orc} {f:FuncId} {β0:Env} {w0:World} {R:Ending→World→Prop} {n:Fz} {W:List Nat} (hO:OrcOk P O) (hm:P.follows .mixedOrders=true) {m k0:Nat} {x:ASt}
  (h:Runs (FV P O m k0 x)) (hwf:BO n x.s) (h0:∀ b,k0≤b→β0 b=none) (hs:BO n (ID (FV P O m k0 x)).s→ASafe P f β0 w0 R n W (ID (FV P O m k0 x))):ASafe P f β0 w0 R n W x:=by
 obtain ⟨h1,h2,h3⟩:=h;generalize e:FV P O m k0 x=y at *
 refine QQ hO hm (e.trans (Ad5 h1)) (UY h3) hwf h0 (fun k hk=>?_) hs
 rw [h2] at hk;cases hk
def BY (f:Nat→Int):dp:=(List.range 64).map f
def l8 (f:Nat→Int):dp:=(List.range 8).map f
theorem fK {xs:dp} {n:Nat} (h:xs.length=n):xs=(List.range n).map fun i=>xs.getD i 0:=by
 subst h;refine og (by simp) fun i h1 h2=>?_
 simp [List.getD_eq_getElem?_getD,h1]
def ws5:List Bool:=[true,true,true,true,false]
def wC:Nat→List Bool
 | 0=>[]
 | n+1=>ws5++wC n
noncomputable def wsA (f:Nat→Int):ASt:=Ah Tryz.f163 [.val false [.p 0 0]] [(0,some (Am [.seq .u8 (BY f)]))] 1 (wC 16)
noncomputable def wsO (f:Nat→Int):=FV dn oSa 1186 1 (wsA f)
noncomputable def N3 (f:Nat→Int):ASt:=ID (wsO f)
noncomputable def Ad8:List Item:=Bv (AW dn oSa (some 0) 100 1 none (N3 fun _=>0))
noncomputable def wsH (ws:dp):Heap:=[(1,some ⟨160,[.seq .u32 ws],false⟩)]
noncomputable def MN (ws:dp) (t:AV) (p:List Bool):ASt:=⟨Ad8,⟨DT Tryz.f163.ntmps [(2,.val false [.p 1 0]),(6,.val false [.v (.func (.func 233) #[] #[])]),(7,t)],wsH ws,2,p⟩⟩
noncomputable def AIP (f:Nat→Int):List Ch:=match AF (N3 f).s.H 1 with | some b=>b.cs | none=>[]
def sB (s b:Int):Int:=bits .or .u32 (Nz s 8) (AU false .u32 b)
def wE (f:Nat→Int) (t:Nat):Int:=sB (sB (sB (sB 0 (f (4*t))) (f (4*t+1))) (f (4*t+2))) (f (4*t+3))
theorem Ad_ (f:Nat→Int):Runs (wsO f):=⟨dk,dk,dk⟩
theorem Ad' (f:Nat→Int):AF (N3 f).s.H 1=some ⟨160,AIP f,false⟩:=dk
theorem AeA (f:Nat→Int):Az .u32 (AIP f)=some ((List.range 16).map (wE f)++List.replicate 48 0):=dk
theorem AeB (f:Nat→Int) (L:dp):AW dn oSa (some 0) 100 1 (some ([2,6,7],[1],2)) ⟨(N3 f).todo,⟨(N3 f).s.T,IF 1 [.seq .u32 L] (N3 f).s.H,(N3 f).s.fr,(N3 f).s.path⟩⟩=some ([],[],MN L (.val false [.n .i64 16]) []):=dk
def gI (ws:dp) (d:Int):Int:=ws.getD (0+d.toNat*1) 0
def wD (ws:dp) (t:Int):Int:=AU false .u32 (AU false .u32 (AU false .u32 ((N1 17 19 10 (gI ws (wI (t-2))).toNat:Nat)+gI ws (wI (t-7)))+(N1 7 18 3 (gI ws (wI (t-15))).toNat:Nat))+gI ws (wI (t-16)))
def GI (d:Int) (n:Nat) (r:dr):dr:=(decide (0≤d∧d<64),true)::(decide (0+d.toNat*1<n),true)::r
def wsC (ws:dp) (t:Int):dr:=(decide (t<64),true)::GI (wI (t-2)) ws.length (tt 3 (GI (wI (t-7)) ws.length (GI (wI (t-15)) ws.length (tt 3 (GI (wI (t-16)) ws.length (GI t ws.length []))))))
theorem AeC (ws:dp) (t:Int):AW dn oSa (some 0) 200 1 (some ([2,6,7],[1],2)) (MN ws (iA t) dw)=some (wsC ws t,[],MN (ws.set (0+t.toNat*1) (wD ws t)) (iA (wI (t+1))) []):=dk
theorem AeD (f:Nat→Int) (t:Int):AR dn oSa Tryz.f163 100 1 [] (MN (BY f) (iA t) du)=some ([(decide (t<64),false)],[],.val true [.seq .u32 (BY f)],[]):=dk
theorem fL {s b:Nat} (hs:s<16777216) (hb:b<256):sB (s:Int) (b:Int)=((s*256+b:Nat):Int):=by
 unfold sB;rw [show (8:Int)=((8:Nat):Int) from rfl,UT s 8 dm,X7,ge (show s*2^8<4294967296 by omega),ge (show b<4294967296 by omega),(Et _ _ dl dl).2.1]
 have:=Nat.shiftLeft_add_eq_or_of_lt (i:=8) hb s
 rw [Nat.shiftLeft_eq] at this;rw [← this]
theorem AeE {b:Nat→Nat} (hb:∀ i,b i<256) (t:Nat):wE (fun i=>(b i:Int)) t=(MM b t:Nat):=by
 unfold wE MM;have h0:=hb (4*t)
 have h1:=hb (4*t+1)
 have h2:=hb (4*t+2)
 have h3:=hb (4*t+3)
 rw [show (0:Int)=((0:Nat):Int) from rfl,fL dm h0,fL dl h1,fL dl h2,fL dl h3,mw,gz]
def GJ (b:Nat→Nat) (n:Nat):dp:=(Fx b n).map (fun x:Nat=>(x:Int))++List.replicate (48-n) 0
theorem wG (b:Nat→Nat) {n:Nat} (h:n≤48):(GJ b n).length=64:=by
 unfold GJ;rw [ib,jk,X8,kt];omega
theorem AIR (b:Nat→Nat) {n i:Nat} (h:i<n+16):(GJ b n).getD i 0=((Fx b n).getD i 0:Nat):=by
 unfold GJ;have hl:i<(Fx b n).length:=by rw [X8];exact h
 simp [List.getD_eq_getElem?_getD,List.getElem?_append_left,hl]
theorem AIS (b:Nat→Nat) {n:Nat} (h:n<48):(GJ b n).set (n+16) (UX (Fx b n) n:Nat)=GJ b (n+1):=by
 unfold GJ;rw [pm _ _ (by rw [jk,X8];exact gd _),jk,X8,kw,show 48-n=(48-(n+1))+1 by omega,om,List.set_cons_zero,Fx,lk,lf]
 rfl
theorem AIT (b:Nat→Nat):GJ b 48=BY fun t=>(G1 b t:Int):=by
 rw [fK (wG b (gd 48))];refine kb fun i hi=>?_
 rw [AIR b (by rw [jl] at hi;omega)]
 rfl
theorem AeF {b:Nat→Nat} (hb:∀ i,b i<256):(List.range 16).map (wE fun i=>(b i:Int))++List.replicate 48 0=GJ b 0:=by
 unfold GJ;rw [Fx,kp];congr 1
 exact kb fun t _=>AeE hb t
theorem G2 {n k:Nat} (h:n<64) (hk:k≤16):wI (((n+16:Nat):Int)-(k:Int))=((n+16-k:Nat):Int):=by rw [Ao dl];omega
theorem MO (b:Nat→Nat) {n i:Nat} (h:i<n+16):gI (GJ b n) (i:Int)=((Fx b n).getD i 0:Nat):=by
 unfold gI;rw [gj,gz,g_,AIR b h]
theorem AeG (b:Nat→Nat) {n:Nat} (h:n<48):wD (GJ b n) ((n+16:Nat):Int)=(UX (Fx b n) n:Nat):=by
 unfold wD UX;rw [show (2:Int)=((2:Nat):Int) from rfl,show (7:Int)=((7:Nat):Int) from rfl,show (15:Int)=((15:Nat):Int) from rfl,show (16:Int)=((16:Nat):Int) from rfl,G2 dl dm,G2 dl dm,G2 dl dm,G2 dl dm,MO b dl,MO b dl,MO b dl,MO b dl]
 rw [gj,gj,EG,EG,EG,show n+16-2=n+14 by omega,show n+16-7=n+9 by omega,show n+16-15=n+1 by omega,show n+16-16=n by omega]
 congr 1
 omega
theorem G3 {d n:Nat} {r:dr} (hd:d<64) (hn:d<n) (h:AM r):AM (GI (d:Int) n r) :=
 ⟨fu ⟨dl,dl⟩,fu dl,h⟩
theorem AeH (L:dp):(MN L (.val false [.n .i64 16]) []).s.T.map F6=(MN L (iA 16) []).s.T:=dk
theorem AeI {β0:Env} {w0:World} {R:Ending→World→Prop} {n:Nat} {W:List Nat} {L:dp} (h:ASafe dn 163 β0 w0 R n W (MN L (iA 16) [])):ASafe dn 163 β0 w0 R n W (MN L (.val false [.n .i64 16]) []):=by
 refine Hv (T:=(MN L (.val false [.n .i64 16]) []).s.T) ?_
 rw [AeH];exact h
theorem AeJ {b:Nat→Nat} (hb:∀ i,b i<256) {β0:Env} {w0:World} (h0:∀ b,1≤b→β0 b=none):ASafe dn 163 β0 w0 (A4 β0 w0 [] (.val true [.seq .u32 (BY fun t=>(G1 b t:Int))]) []) Tryz.f163.ntmps [] (N3 fun i=>(b i:Int)):=by
 refine RX (Ad' _) (fJ (AeA _)) ?_
 rw [AeF hb];refine Ag K8 AB (AeB _ _) trivial (AQ dk) h0 ft fun _=>?_
 refine AeI ?_
 have loop:∀ r n,n+r=48→ASafe dn 163 β0 w0 (A4 β0 w0 [] (.val true [.seq .u32 (BY fun t=>(G1 b t:Int))]) []) Tryz.f163.ntmps [] (MN (GJ b n) (iA ((n+16:Nat):Int)) []):=by
  intro r;induction r with
  | zero =>
   intro n hn;obtain rfl:n=48:=dl
   rw [AIT];exact Ae du (Av K8 AB Tryz.func163 (AeD _ _) ⟨dm,trivial⟩ (AQ dk) h0 ft)
  | succ r ih =>
   intro n hn;refine Ae dw (Ag K8 AB (AeC _ _) ?_ (AQ dk) h0 ft fun _=>?_)
   ·have hl:=wG b (show n≤48 by omega)
    unfold wsC;rw [hl,show (2:Int)=((2:Nat):Int) from rfl,show (7:Int)=((7:Nat):Int) from rfl,show (15:Int)=((15:Nat):Int) from rfl,show (16:Int)=((16:Nat):Int) from rfl,G2 dl dm,G2 dl dm,G2 dl dm,G2 dl dm]
    exact ⟨fu dl,G3 dl dl (Ad 3 (G3 dl dl (G3 dl dl (Ad 3 (G3 dl dl (G3 dl dl trivial))))))⟩
   ·rw [AeG b dl,show 0+((n+16:Nat):Int).toNat*1=n+16 by omega,AIS b dl,Ao (z:=((n+16:Nat):Int)+1) dl]
    have:=ih (n+1) dl
    rw [show ((n+1+16:Nat):Int)=((n+16:Nat):Int)+1 by omega] at this
    exact this
 have:=loop 48 0 rfl
 rw [show ((0+16:Nat):Int)=16 from rfl] at this
 exact this
theorem AeK {b:Nat→Nat} (hb:∀ i,b i<256) {β0:Env} {w0:World} (h0:∀ b,1≤b→β0 b=none):ASafe dn 163 β0 w0 (A4 β0 w0 [] (.val true [.seq .u32 (BY fun t=>(G1 b t:Int))]) []) Tryz.f163.ntmps [] (wsA fun i=>(b i:Int)) :=
 Ad6 K8 AB (Ad_ fun i=>(b i:Int)) (AQ dk) h0 fun _=>AeJ hb h0
theorem AeL {b:Nat→Nat} (hb:∀ i,b i<256):Ac dn 163 [.val false [.p 0 0]] [(0,some (Am [.seq .u8 (BY fun i=>(b i:Int))]))] 1 [] (.val true [.seq .u32 (BY fun t=>(G1 b t:Int))]) [] :=
 Ay (path:=wC 16) Tryz.func163 dk dk fun _ _ h0=>AeK hb h0
def bN (xs:dp) (i:Nat):Nat:=(xs.getD i 0).toNat % 256
theorem AIU (xs:dp) (i:Nat):bN xs i<256:=gu _ dm
theorem wH {xs:dp} {P:Int→Prop} (h:∀ d∈xs,P d) (h0:P 0) (i:Nat):P (xs.getD i 0):=by
 rw [gy];cases e:xs[i]? with
 | none=>exact h0
 | some d=>exact h d (lg e)
theorem AeM {xs:dp} (h:∀ d∈xs,0≤d∧d<256) (i:Nat):(bN xs i:Int)=xs.getD i 0:=by
 have:=wH (P:=fun d=>0≤d∧d<256) h ⟨dm,dm⟩ i
 unfold bN;omega
theorem wJ {xs:dp} (h:∀ d∈xs,0≤d∧d<256) (hl:xs.length=64):xs=BY fun i=>(bN xs i:Int):=by
 conv=>lhs;rw [fK hl]
 exact kb fun i _=>(AeM h i).symm
def wdsSp:ASpec:=fun args H fr path=>match args with
 | [.val false [.p k 0]]=>match AF H k with
  | some ⟨_,cs,_⟩=>match Az .u8 cs with
   | some xs=>some (BI [k] 1 fr 0 [] (.val true [.seq .u32 (BY fun t=>(G1 (bN xs) t:Int))]) [] [(Nat.beq xs.length 64,true)] path)
   | none=>none
  | none=>none
 | _=>none
theorem AeN {β:Env} {j k:Nat} {ρ:List Nat} {k0:Nat} {u:Value} (hj:j<k0) (hn:Ex.nth ρ j=k) (h:AL β (.val false [.p k 0]) u):AL (A3 β ρ k0) (.val false [.p j 0]) u:=by
 obtain ⟨l1,l2,⟨B,q,q1,q2⟩,h2,h3⟩:=h;have e:A3 β ρ k0 j=β k:=by rw [Ed hj,hn]
 exact ⟨l1,l2,⟨B,q,by rw [e];exact q1,q2⟩,h2,h3⟩
theorem AeO:A' dn 163 wdsSp:=by
 refine DC Tryz.func163 dk dk fun args H fr path r hs=>?_
 unfold wdsSp at hs;split at hs;case h_2=>cases hs
 rename_i k;split at hs;case h_2=>cases hs
 rename_i ty cs o hk;split at hs;case h_2=>cases hs
 rename_i xs hxs;injection hs with hs;refine ⟨[k],1,0,[],_,_,_,path,hs.symm,fun β us w ha hg hc=>?_⟩
 obtain ⟨u1,us1,r1,ha,rfl⟩:=ha;obtain ⟨g1,g2,g3⟩:=ED hg hk hxs;have hl:=An.1 hc.1;refine ⟨[.val false [.p 0 0]],Ax xs,?_,dk,⟨u1,_,AeN dl rfl r1,ha,rfl⟩,g2,g3⟩
 have:=AeL (AIU xs)
 rw [← wJ g1 hl] at this;exact this
noncomputable def SSg:dt:=(163,wdsSp)::SSa
theorem AeP:AT dn SSg:=⟨AeO,AIE⟩
noncomputable def AeQ:List Item:=Bv (AW dn oSa (some 0) 100 0 none (Ah Tryz.f290 [.val true [.seq .u8 (BY fun _=>0)]] [] 0 []))
noncomputable def Pa (f:Nat→Int) (ws:dp) (t:AV) (p:List Bool):ASt:=⟨AeQ,⟨DT Tryz.f290.ntmps [(1,.val false [.p 0 0]),(2,.val false [.p 1 0]),(3,.val false [.p 2 0]),(4,t)],[(0,some ⟨112,[.seq .u8 (BY f)],false⟩),(1,some ⟨160,List.replicate 64 (.n .u32 0),false⟩),(2,some ⟨160,[.seq .u32 ws],false⟩)],3,p⟩⟩
abbrev fM:Option (List Nat×List Nat×Nat):=some ([1,2,3,4],[0,1,2],3)
noncomputable def Pb (f:Nat→Int):ASt:=ID (AW dn oSa (some 0) 100 0 fM (Ah Tryz.f290 [.val true [.seq .u8 (BY f)]] [] 0 []))
theorem AeR (f:Nat→Int):AW dn oSa (some 0) 100 0 fM (Ah Tryz.f290 [.val true [.seq .u8 (BY f)]] [] 0 [])=some ([],[],Pb f):=dk
theorem AeS (f:Nat→Int):AF (Pb f).s.H 2=some ⟨160,List.replicate 64 (.n .u32 0),false⟩:=dk
theorem AeT {f:Nat→Int} {L:dp}:(⟨(Pb f).todo,⟨(Pb f).s.T.map F6,IF 2 [.seq .u32 L] (Pb f).s.H,(Pb f).s.fr,(Pb f).s.path⟩⟩:ASt)=Pa f L (iA 0) []:=dk
def wK (f:Nat→Int) (t:Int):Int:=AU false .u32 (AU false .u32 (AU false .u32 (Nz (AU false .u32 (gI (BY f) (wI (4*t)))) 24+Nz (AU false .u32 (gI (BY f) (wI (wI (4*t)+1)))) 16)+Nz (AU false .u32 (gI (BY f) (wI (wI (4*t)+2)))) 8)+AU false .u32 (gI (BY f) (wI (wI (4*t)+3))))
theorem AeU (f:Nat→Int) (ws:dp) (t:Int):AW dn oSa (some 0) 200 0 fM (Pa f ws (iA t) dx) =
 some ((decide (t<64),true)::(decide (t<16),true)::GI (wI (4*t)) (BY f).length ((true,true)::GI (wI (wI (4*t)+1)) (BY f).length ((true,true)::GI (wI (wI (4*t)+2)) (BY f).length ((true,true)::GI (wI (wI (4*t)+3)) (BY f).length (GI t ws.length [])))),[],Pa f (ws.set (0+t.toNat*1) (wK f t)) (iA (wI (t+1))) []):=dk
def fN (x:Int) (a b c:Nat):Int:=bits .xor .u32 (bits .xor .u32 (rr x.toNat a:Nat) (rr x.toNat b:Nat)) (MK x c)
def wL (ws:dp) (t:Int):Int:=AU false .u32 (AU false .u32 (AU false .u32 (fN (gI ws (wI (t-2))) 17 19 10+gI ws (wI (t-7)))+fN (gI ws (wI (t-15))) 7 18 3)+gI ws (wI (t-16)))
theorem AeV (f:Nat→Int) (ws:dp) (t:Int):AW dn oSa (some 0) 200 0 fM (Pa f ws (iA t) ee) =
 some ((decide (t<64),true)::(decide (t<16),false)::GI (wI (t-15)) ws.length (GI (wI (t-2)) ws.length (tt 2 ((decide ((0:Int)≤3∧0≤gI ws (wI (t-15))),true)::tt 2 ((decide ((0:Int)≤10∧0≤gI ws (wI (t-2))),true)::GI (wI (t-7)) ws.length (GI (wI (t-16)) ws.length (GI t ws.length [])))))),[],Pa f (ws.set (0+t.toNat*1) (wL ws t)) (iA (wI (t+1))) []):=dk
theorem AeW (f g:Nat→Int) (t:Int):EX dn oSa Tryz.f290 100 0 (Pa f (BY g) (iA t) du)=some ([(decide (t<64),false)],[],.val true [.seq .u32 (BY g)]):=dk
theorem X_ (f:Nat→Int) {i:Nat} (h:i<64):gI (BY f) (i:Int)=f i:=by
 unfold gI BY;rw [gj,gz,g_];simp [List.getD_eq_getElem?_getD,h]
theorem Pc {t j:Nat} (h:t<16):wI (4*(t:Int))=((4*t:Nat):Int)∧wI (((4*t:Nat):Int)+(j:Int))=wI (((4*t+j:Nat):Int)):=by
 refine ⟨by rw [Ao dl];omega,by congr 1⟩
theorem UZ {n:Nat} (h:n<64):wI ((n:Nat):Int)=n:=Ao dl
theorem AeX {b:Nat→Nat} (hb:∀ i,b i<256) {t:Nat} (h:t<16):wK (fun i=>(b i:Int)) (t:Int)=(MM b t:Nat):=by
 unfold wK MM;have h0:=hb (4*t)
 have h1:=hb (4*t+1)
 have h2:=hb (4*t+2)
 have h3:=hb (4*t+3)
 rw [(Pc (j:=0) h).1,show (1:Int)=((1:Nat):Int) from rfl,show (2:Int)=((2:Nat):Int) from rfl,show (3:Int)=((3:Nat):Int) from rfl,(Pc (j:=1) h).2,(Pc (j:=2) h).2,(Pc (j:=3) h).2,UZ dl,UZ dl,UZ dl]
 rw [X_ _ dl,X_ _ dl,X_ _ dl,X_ _ dl,X7,X7,X7,X7,show (24:Int)=((24:Nat):Int) from rfl,show (16:Int)=((16:Nat):Int) from rfl,show (8:Int)=((8:Nat):Int) from rfl,UT _ _ dm,UT _ _ dm,UT _ _ dm,EG,EG,EG]
 congr 1
 omega
theorem AIV {x:Nat} (hx:x<4294967296) (a b c:Nat) (hc:c≤32):fN (x:Int) a b c=(N1 a b c x:Nat):=by
 unfold fN N1;rw [gj,X2 _ _ hc,fF (MJ hx _) (MJ hx _) (mg (nc _ _) hx)]
theorem AIW {b:Nat→Nat} (hb:∀ i,b i<256) (n i:Nat):(Fx b n).getD i 0<4294967296:=by
 rw [gy];cases e:(Fx b n)[i]? with
 | none=>exact (by decide:(0:Nat)<4294967296)
 | some d=>exact AIJ hb n d (lg e)
theorem AeY {b:Nat→Nat} (hb:∀ i,b i<256) {n:Nat} (h:n<48):wL (GJ b n) ((n+16:Nat):Int)=(UX (Fx b n) n:Nat):=by
 unfold wL UX;rw [show (2:Int)=((2:Nat):Int) from rfl,show (7:Int)=((7:Nat):Int) from rfl,show (15:Int)=((15:Nat):Int) from rfl,show (16:Int)=((16:Nat):Int) from rfl,G2 dl dm,G2 dl dm,G2 dl dm,G2 dl dm,MO b dl,MO b dl,MO b dl,MO b dl]
 rw [AIV (AIW hb _ _) _ _ _ dm,AIV (AIW hb _ _) _ _ _ dm,EG,EG,EG,show n+16-2=n+14 by omega,show n+16-7=n+9 by omega,show n+16-15=n+1 by omega,show n+16-16=n by omega]
 congr 1
 omega
theorem AeZ {b:Nat→Nat}:Ip (fun i=>(MM b i:Int)) 64 16=GJ b 0:=by
 unfold Ip GJ;rw [Fx,kp];rfl
theorem Aea {b:Nat→Nat} (hb:∀ i,b i<256) (w0:World):ASafe dn 290 By w0 (HC w0 (.val true [.seq .u32 (BY fun t=>(G1 b t:Int))])) Tryz.f290.ntmps [] (Pb fun i=>(b i:Int)):=by
 refine RX (AeS _) (fJ (k:=.u32) (xs:=List.replicate 64 0) dk) ?_
 refine Hv ?_
 rw [AeT];have loop2:∀ r n,n+r=48→ASafe dn 290 By w0 (HC w0 (.val true [.seq .u32 (BY fun t=>(G1 b t:Int))])) Tryz.f290.ntmps [] (Pa (fun i=>(b i:Int)) (GJ b n) (iA ((n+16:Nat):Int)) []):=by
  intro r;induction r with
  | zero =>
   intro n hn;obtain rfl:n=48:=dl
   rw [AIT];exact Ae du (Hr K8 AB Tryz.func290 (AeW _ _ _) ⟨dm,trivial⟩ (AQ dk) (fun _ _=>rfl) rfl)
  | succ r ih =>
   intro n hn;refine Ae ee (Ag K8 AB (AeV _ _ _) ?_ (AQ dk) (fun _ _=>rfl) ft fun _=>?_)
   ·have hl:=wG b (show n≤48 by omega)
    rw [hl,show (2:Int)=((2:Nat):Int) from rfl,show (7:Int)=((7:Nat):Int) from rfl,show (15:Int)=((15:Nat):Int) from rfl,show (16:Int)=((16:Nat):Int) from rfl,G2 dl dm,G2 dl dm,G2 dl dm,G2 dl dm,MO b dl,MO b dl]
    exact ⟨fu dl,ga dl,G3 dl dl (G3 dl dl (Ad 2 ⟨fu ⟨dm,dl⟩,Ad 2 ⟨fu ⟨dm,dl⟩,G3 dl dl (G3 dl dl (G3 dl dl trivial))⟩⟩))⟩
   ·rw [AeY hb dl,show 0+((n+16:Nat):Int).toNat*1=n+16 by omega,AIS b dl,Ao (z:=((n+16:Nat):Int)+1) dl]
    have:=ih (n+1) dl
    rw [show ((n+1+16:Nat):Int)=((n+16:Nat):Int)+1 by omega] at this
    exact this
 have loop1:∀ r i,i+r=16→ASafe dn 290 By w0 (HC w0 (.val true [.seq .u32 (BY fun t=>(G1 b t:Int))])) Tryz.f290.ntmps [] (Pa (fun i=>(b i:Int)) (Ip (fun i=>(MM b i:Int)) 64 i) (iA (i:Int)) []):=by
  intro r;induction r with
  | zero =>
   intro i hi;obtain rfl:i=16:=dl
   rw [AeZ];exact loop2 48 0 rfl
  | succ r ih =>
   intro i hi;refine Ae dx (Ag K8 AB (AeU _ _ _) ?_ (AQ dk) (fun _ _=>rfl) ft fun _=>?_)
   ·rw [ADZ dl,(Pc (j:=0) (show i<16 by omega)).1,show (1:Int)=((1:Nat):Int) from rfl,show (2:Int)=((2:Nat):Int) from rfl,show (3:Int)=((3:Nat):Int) from rfl,(Pc (j:=1) (show i<16 by omega)).2,(Pc (j:=2) (show i<16 by omega)).2,(Pc (j:=3) (show i<16 by omega)).2,UZ dl,UZ dl,UZ dl,show (BY fun i=>(b i:Int)).length=64 from rfl]
    exact ⟨fu dl,fu dl,G3 dl dl ⟨rfl,G3 dl dl ⟨rfl,G3 dl dl ⟨rfl,G3 dl dl (G3 dl dl trivial)⟩⟩⟩⟩
   ·rw [AeX hb dl,show 0+((i:Nat):Int).toNat*1=i by omega,ADa (f:=fun i=>(MM b i:Int)) dl,Ao (z:=(i:Int)+1) dl]
    exact ih (i+1) dl
 have:=loop1 16 0 rfl
 rw [ADb] at this;exact this
theorem Aeb {b:Nat→Nat} (hb:∀ i,b i<256):AS dn 290 [.val true [.seq .u8 (BY fun i=>(b i:Int))]] (.val true [.seq .u32 (BY fun t=>(G1 b t:Int))]) :=
 Mu (path:=[]) Tryz.func290 dk dk fun w0=>Ag K8 AB (AeR _) trivial (AQ dk) (fun _ _=>rfl) ft fun _=>Aea hb w0
theorem Uf {A:List Ch} {k:IntKind} {xs:dp} {β:Env} {u:Value} (h:Az k A=some xs) (hr:AL β (.val true A) u):(∀ x∈xs,has k x)∧∀ β':Env,AL β' (.val true [.seq k xs]) u:=by
 obtain ⟨l,hl,rfl⟩:=hr;obtain ⟨rfl,q⟩:=C8 h hl;exact ⟨q,fun β'=>⟨_,ON q,rfl⟩⟩
theorem AIX {x:Int} (h:has .u8 x):0≤x∧x<256:=by
 rw [E7] at h;simp only [AJ,gi,gc] at h;omega
def wM:List AV→Option (dr×AV)
 | [.val true cs]=>match Az .u8 cs with
  | some xs=>some ([(Nat.beq xs.length 64,true)],.val true [.seq .u32 (BY fun t=>(G1 (bN xs) t:Int))])
  | none=>none
 | _=>none
theorem Aec:∀ args c v,wM args=some (c,v)→AM c→AS dn 290 args v:=by
 intro args c v hs hc us w ha;unfold wM at hs;split at hs;case h_2=>cases hs
 rename_i cs;split at hs;case h_2=>cases hs
 rename_i xs hx;injection hs with hs;injection hs with hs1 hs2;subst hs1;subst hs2;obtain ⟨u1,us1,r1,ha,rfl⟩:=ha;obtain ⟨p1,q1⟩:=Uf hx r1;have hb:=fun d hd=>AIX (p1 d hd)
 have h:=Aeb (AIU xs)
 rw [← wJ hb (An.1 hc.1)] at h;exact h _ w ⟨u1,_,q1 _,ha,rfl⟩
noncomputable def SSi:dt:=(290,Ez wM)::(292,kSp)::SSg
theorem AIY:AT dn SSi:=⟨Ft Tryz.func290 dk dk Aec,Ad3,AeP⟩
noncomputable abbrev oSi:Orc:=AG SSi KV
theorem MP:OrcOk dn oSi:=AH AIY BJ
def fO (x:Option (dr×List Nat×AV)):AV:=match x with | some (_,_,v)=>v | none=>.any
def cvO (x:Option (dr×List Nat×AV)):dr:=match x with | some (c,_,_)=>c | none=>[]
def kvO (x:Option (dr×List Nat×AV)):List Nat:=match x with | some (_,k,_)=>k | none=>[]
def ivO (x:Option (dr×List Nat×AV)):Bool:=match x with | some _=>true | none=>false
structure Rets (x:Option (dr×List Nat×AV)):Prop where
 isO:ivO x=true
 ky:kvO x=[]
 cd:RW (cvO x)=true
 nk:OW (fO x)=true
theorem AIZ {P:Program} {O:Orc} {f:FuncId} {fn:Func} {β0:Env} {w0:World} {n:Fz} (hO:OrcOk P O) (hm:P.follows .mixedOrders=true) (hfn:P.funcs[f]? = some fn) {fuel k0:Nat} {x:ASt}
  (h:Rets (EX P O fn fuel k0 x)) (hwf:BO n x.s) (h0:∀ b,k0≤b→β0 b=none) (hD:n.D=[]:=by rfl):ASafe P f β0 w0 (HC w0 (fO (EX P O fn fuel k0 x))) n [] x:=by
 obtain ⟨h1,h2,h3,h4⟩:=h;generalize e:EX P O fn fuel k0 x=y at *
 cases y with
 | none=>cases h1
 | some v =>
  obtain ⟨c,k,v⟩:=v;have hk:k=[]:=h2
  subst hk;exact Hr hO hm hfn e (UY h3) hwf h0 h4 hD
theorem AIa (f:Nat→Int) (β:Env) (l:List Value) (h:AO β [.seq .u32 (l8 f)] l):AO β (w8 f) l:=by
 obtain ⟨l1,l2,⟨rfl,hx⟩,h2,rfl⟩:=h;simp only [AO] at h2;subst h2;have hm:∀ i,i<8→okV (.int .u32 (f i)):=fun i hi=>⟨rfl,hx _ (jj.2 ⟨i,jl.2 hi,rfl⟩)⟩
 exact ⟨[_],_,⟨rfl,hm 0 dm⟩,⟨[_],_,⟨rfl,hm 1 dm⟩,⟨[_],_,⟨rfl,hm 2 dm⟩,⟨[_],_,⟨rfl,hm 3 dm⟩,⟨[_],_,⟨rfl,hm 4 dm⟩,⟨[_],_,⟨rfl,hm 5 dm⟩,⟨[_],_,⟨rfl,hm 6 dm⟩,⟨[_],_,⟨rfl,hm 7 dm⟩,rfl,rfl⟩,rfl⟩,rfl⟩,rfl⟩,rfl⟩,rfl⟩,rfl⟩,rfl⟩
def scW (b:Nat→Int):Nat→Int:=fun t=>(G1 (bN (BY b)) t:Int)
def BN (f:Nat→Nat):Nat→Int:=fun i=>(f i:Int)
noncomputable def AIc (h b:Nat→Int):ASt:=Ah Tryz.f87 [.val true [.seq .u32 (l8 h)],.val true [.seq .u8 (BY b)]] [] 0 []
noncomputable def Pd (h b:Nat→Int):ASt:=ID (AW dn oSi (some 0) 100 0 v8 (AIc h b))
noncomputable def AId:List Ch:=match AF (Pd (fun _=>0) fun _=>0).s.H 3 with | some b=>b.cs | none=>[]
theorem Aeg (h b:Nat→Int):AW dn oSi (some 0) 100 0 v8 (AIc h b)=some ([(true,true)],[],Pd h b):=dk
theorem Aeh (h b:Nat→Int):AF (Pd h b).s.H 3=some ⟨160,AId,false⟩:=dk
theorem Aei:Az .u32 AId=some kL:=dk
noncomputable def RY (h b:Nat→Int):ASt:=⟨(Pd h b).todo,⟨(Pd h b).s.T,IF 3 [.seq .u32 kL] (Pd h b).s.H,(Pd h b).s.fr,(Pd h b).s.path⟩⟩
theorem Aej (h b:Nat→Int):AF (RY h b).s.H 5=some ⟨109,[.seq .u32 (l8 h)],false⟩:=dk
theorem Aek (h b:Nat→Int):(⟨(RY h b).todo,⟨(RY h b).s.T.map F6,IF 5 (w8 h) (RY h b).s.H,(RY h b).s.fr,(RY h b).s.path⟩⟩:ASt)=UV (l8 h) kL (BY (scW b)) h (iA 0) []:=dk
theorem Ael (h ws s:Nat→Int):Rets (EX dn oSi Tryz.f87 400 0 (UV (l8 h) kL (BY ws) s (iA 64) du)):=⟨dk,dk,dk,dk⟩
theorem Aem (h ws s:Nat→Int):fO (EX dn oSi Tryz.f87 400 0 (UV (l8 h) kL (BY ws) s (iA 64) du))=.val true (w8 fun i=>AU false .u32 (s i+h i)):=dk
theorem AIe {t:Nat} (h:t<64):kL.getD (0+(t:Int).toNat*1) 0=(kN t:Nat):=by
 have:=wH (xs:=kL) (P:=fun d=>0≤d) dm dm t
 rw [show 0+(t:Int).toNat*1=t by omega]
 unfold kN;omega
theorem AIf (f:Nat→Int) {t:Nat} (h:t<64):(BY f).getD (0+(t:Int).toNat*1) 0=f t:=X_ f h
theorem Aen {h:Nat→Nat} (hh:∀ i,h i<4294967296) (W:Nat→Nat) (w0:World):∀ r t,t+r=64 →
  ASafe dn 87 By w0 (HC w0 (.val true (w8 fun i=>AU false .u32 (Js h kN W 64 i+h i)))) Tryz.f87.ntmps [] (UV (l8 (BN h)) kL (BY (BN W)) (BN (Js h kN W t)) (iA (t:Int)) []):=by
 intro r;induction r with
 | zero =>
  intro t ht;obtain rfl:t=64:=dl
  have:=AIZ (P:=dn) (n:=Tryz.f87.ntmps) (β0:=By) (w0:=w0) MP AB Tryz.func87 (Ael (BN h) (BN W) (BN (Js h kN W 64))) (AQ dk) (fun _ _=>rfl)
  rw [Aem] at this;exact Ae du this
 | succ r ih =>
  intro t ht;refine Ae dw (Ag K8 AB (Adq _ _ _ _ _) ?_ (AQ dk) (fun _ _=>rfl) ft fun _=>?_)
  ·unfold shC;exact ⟨fu dl,Ad 3 ⟨fu ⟨dl,dl⟩,fu (by show 0+(t:Int).toNat*1<64;omega),fu ⟨dl,dl⟩,fu (by show 0+(t:Int).toNat*1<64;omega),Ad 5 trivial⟩⟩
  ·rw [AIe dl,AIf _ dl];have e:=Ads (v9 hh kN W t) (kN t) (W t)
   unfold BN;rw [e,Ao (z:=(t:Int)+1) dl];exact ih (t+1) dl
theorem Aeo {h:Nat→Nat} (hh:∀ i,h i<4294967296) (b:Nat→Int):AS dn 87 [.val true [.seq .u32 (l8 (BN h))],.val true [.seq .u8 (BY b)]] (.val true (w8 fun i=>AU false .u32 (Js h kN (G1 (bN (BY b))) 64 i+h i))) :=
 Mu (path:=[]) Tryz.func87 dk dk fun w0=>Ag MP AB (Aeg (BN h) b) ⟨rfl,trivial⟩ (AQ dk) (fun _ _=>rfl) ft fun _ =>
  RX (Aeh _ _) (fJ Aei) (show ASafe _ _ _ _ _ _ _ (RY (BN h) b) from RX (Aej _ _) (AIa _) (Hv (by
   rw [Aek];exact Aen hh _ w0 64 0 rfl)))
noncomputable def AIg (h b:Nat→Int):ASt:=Ah Tryz.f279 [.val true [.seq .u32 (l8 h)],.val true [.seq .u8 (BY b)]] [] 0 []
abbrev wO:Option (List Nat×List Nat×Nat):=some ([2,4,5,6,7],[0,2,3,4],5)
noncomputable def Pe (h b:Nat→Int):ASt:=ID (AW dn oSi (some 0) 100 0 wO (AIg h b))
noncomputable def Aep:List Item:=(Pe (fun _=>0) fun _=>0).todo
noncomputable def Ug (h ws s:Nat→Int) (t:AV) (p:List Bool):ASt:=⟨Aep,⟨DT Tryz.f279.ntmps [(2,.val false [.p 0 0]),(4,.val false [.p 2 0]),(5,.val false [.p 3 0]),(6,.val false [.p 4 0]),(7,t)],
 [(0,some ⟨109,[.seq .u32 (l8 h)],false⟩),(2,some ⟨109,List.replicate 8 (.n .u32 0),false⟩),(3,some ⟨160,[.seq .u32 (BY ws)],false⟩),(4,some ⟨109,w8 s,false⟩)],5,p⟩⟩
theorem Aeq (h b:Nat→Int):AW dn oSi (some 0) 100 0 wO (AIg h b)=some ([(true,true)],[],Pe h b):=dk
theorem Aer (h b:Nat→Int):AF (Pe h b).s.H 4=some ⟨109,[.seq .u32 (l8 h)],false⟩:=dk
theorem Aes (h b:Nat→Int):(⟨(Pe h b).todo,⟨(Pe h b).s.T.map F6,IF 4 (w8 h) (Pe h b).s.H,(Pe h b).s.fr,(Pe h b).s.path⟩⟩:ASt)=Ug h (scW b) h (iA 0) []:=dk
def fP (a b c:Nat) (x:Int):Int:=bits .xor .u32 (bits .xor .u32 (rr x.toNat a:Nat) (rr x.toNat b:Nat)) (rr x.toNat c:Nat)
def Uh (s:Nat→Int) (k w:Int):Int:=AU false .u32 (AU false .u32 (AU false .u32 (AU false .u32 (s 7+fP 6 11 25 (s 4))+bits .xor .u32 (bits .and .u32 (s 4) (s 5)) (bits .and .u32 (bits .xor .u32 4294967295 (s 4)) (s 6)))+k)+w)
def fQ (s:Nat→Int):Int:=AU false .u32 (fP 2 13 22 (s 0)+bits .xor .u32 (bits .xor .u32 (bits .and .u32 (s 0) (s 1)) (bits .and .u32 (s 0) (s 2))) (bits .and .u32 (s 1) (s 2)))
def wP (s:Nat→Int) (k w:Int):Nat→Int
 | 0=>AU false .u32 (Uh s k w+fQ s)
 | 1=>s 0
 | 2=>s 1
 | 3=>s 2
 | 4=>AU false .u32 (s 3+Uh s k w)
 | 5=>s 4
 | 6=>s 5
 | _=>s 6
theorem Aet (h ws s:Nat→Int) (t:Int):AW dn oSi (some 0) 100 0 wO (Ug h ws s (iA t) dw) =
 some ((decide (t<64),true)::tt 3 ((decide (0≤t∧t<64),true)::GI t (BY ws).length (tt 3 [])),[],Ug h ws (wP s (kL.getD (0+t.toNat*1) 0) ((BY ws).getD (0+t.toNat*1) 0)) (iA (wI (t+1))) []):=dk
theorem Aeu (h ws s:Nat→Int):Rets (EX dn oSi Tryz.f279 400 0 (Ug h ws s (iA 64) du)):=⟨dk,dk,dk,dk⟩
theorem Aev (h ws s:Nat→Int):fO (EX dn oSi Tryz.f279 400 0 (Ug h ws s (iA 64) du))=.val true (w8 fun i=>AU false .u32 (h i+s i)):=dk
theorem AIh {x:Nat} (hx:x<4294967296) (a b c:Nat):fP a b c (x:Int)=(N0 a b c x:Nat):=by
 unfold fP N0;rw [gj,fF (MJ hx _) (MJ hx _) (MJ hx _)]
theorem Aew {s:Nat→Nat} (hs:∀ i,s i<4294967296) (k w:Nat):Uh (BN s) k w=(UW s k w:Nat):=by
 unfold Uh UW BN;have h5:(s 4 &&& s 5)<4294967296:=mq (n:=32) _ (hs 5)
 have h6:((4294967295 ^^^ s 4) &&& s 6)<4294967296:=mq (n:=32) _ (hs 6)
 have h7:(4294967295 ^^^ s 4)<4294967296:=po (n:=32) dm (hs 4)
 rw [show (4294967295:Int)=((4294967295:Nat):Int) from rfl,AIh (hs 4),(Et _ _ dm (hs 4)).2.2,(Et _ _ (hs 4) (hs 5)).1,(Et _ _ h7 (hs 6)).1,(Et _ _ h5 h6).2.2,Adu (hs 6),EG,EG,EG,EG]
 congr 1
 omega
theorem Aex {s:Nat→Nat} (hs:∀ i,s i<4294967296):fQ (BN s)=(X6 s:Nat):=by
 unfold fQ X6 BN;have a1:(s 0 &&& s 1)<4294967296:=mq (n:=32) _ (hs 1)
 have a2:(s 0 &&& s 2)<4294967296:=mq (n:=32) _ (hs 2)
 have a3:(s 1 &&& s 2)<4294967296:=mq (n:=32) _ (hs 2)
 rw [AIh (hs 0),(Et _ _ (hs 0) (hs 1)).1,(Et _ _ (hs 0) (hs 2)).1,(Et _ _ (hs 1) (hs 2)).1,(Et _ _ a1 a2).2.2,(Et _ _ (po (n:=32) a1 a2) a3).2.2,Adv,EG]
theorem Aey {s:Nat→Nat} (hs:∀ i,s i<4294967296) (k w:Nat):wP (BN s) k w=BN (RU s k w):=by
 funext i
 have e1:=Aew hs k w;have e2:=Aex hs;show wP (BN s) k w i=((RU s k w i:Nat):Int);match i with
 | 0 =>
  show AU false .u32 (Uh (BN s) k w+fQ (BN s))=_;rw [e1,e2,EG];rfl
 | 1=>rfl
 | 2=>rfl
 | 3=>rfl
 | 4 =>
  show AU false .u32 (BN s 3+Uh (BN s) k w)=_;rw [e1];exact EG _ _
 | 5=>rfl
 | 6=>rfl
 | _+7=>rfl
theorem Aez {h:Nat→Nat} (hh:∀ i,h i<4294967296) (W:Nat→Nat) (w0:World):∀ r t,t+r=64 →
  ASafe dn 279 By w0 (HC w0 (.val true (w8 fun i=>AU false .u32 (h i+Js h kN W 64 i)))) Tryz.f279.ntmps [] (Ug (BN h) (BN W) (BN (Js h kN W t)) (iA (t:Int)) []):=by
 intro r;induction r with
 | zero =>
  intro t ht;obtain rfl:t=64:=dl
  have:=AIZ (P:=dn) (n:=Tryz.f279.ntmps) (β0:=By) (w0:=w0) MP AB Tryz.func279 (Aeu (BN h) (BN W) (BN (Js h kN W 64))) (AQ dk) (fun _ _=>rfl)
  rw [Aev] at this;exact Ae du this
 | succ r ih =>
  intro t ht;refine Ae dw (Ag MP AB (Aet _ _ _ _) ?_ (AQ dk) (fun _ _=>rfl) ft fun _=>?_)
  ·exact ⟨fu dl,Ad 3 ⟨fu ⟨dl,dl⟩,G3 dl (by show t<64;omega) (Ad 3 trivial)⟩⟩
  ·rw [AIe dl,AIf _ dl,Ao (z:=(t:Int)+1) dl];have e:=Aey (v9 hh kN W t) (kN t) (W t)
   rw [show BN W t=((W t:Nat):Int) from rfl,e]
   exact ih (t+1) dl
theorem Ae0 {h:Nat→Nat} (hh:∀ i,h i<4294967296) (b:Nat→Int):AS dn 279 [.val true [.seq .u32 (l8 (BN h))],.val true [.seq .u8 (BY b)]] (.val true (w8 fun i=>AU false .u32 (h i+Js h kN (G1 (bN (BY b))) 64 i))) :=
 Mu (path:=[]) Tryz.func279 dk dk fun w0=>Ag MP AB (Aeq (BN h) b) ⟨rfl,trivial⟩ (AQ dk) (fun _ _=>rfl) ft fun _ =>
  RX (Aer _ _) (AIa _) (Hv (by
   rw [Aes];exact Aez hh _ w0 64 0 rfl))
def wN (xs:dp) (i:Nat):Nat:=(xs.getD i 0).toNat % 4294967296
theorem Ae1 (xs:dp) (i:Nat):wN xs i<4294967296:=gu _ dm
theorem Ae2 {xs:dp} (h:∀ d∈xs,0≤d∧d<4294967296) (hl:xs.length=8):xs=l8 (BN (wN xs)):=by
 conv=>lhs;rw [fK hl]
 refine kb fun i _=>?_
 have:=wH (P:=fun d=>0≤d∧d<4294967296) h ⟨dm,dm⟩ i
 unfold BN wN;omega
def fR:List AV→Option (dr×AV)
 | [.val true hs,.val true bs]=>match Az .u32 hs,Az .u8 bs with
  | some xs,some ys=>some ([(Nat.beq xs.length 8,true),(Nat.beq ys.length 64,true)],.val true [.seq .u32 (l8 (BN (RV (wN xs) (bN ys))))])
  | _,_=>none
 | _=>none
theorem Ae3 (f:Nat→Int):Az .u32 (w8 f)=some (l8 f):=dk
theorem AIi {F:FuncId} (h:∀ (h:Nat→Nat) (b:Nat→Int),(∀ i,h i<4294967296)→AS dn F [.val true [.seq .u32 (l8 (BN h))],.val true [.seq .u8 (BY b)]] (.val true (w8 (BN (RV h (bN (BY b))))))):∀ args c v,fR args=some (c,v)→AM c→AS dn F args v:=by
 intro args c v hs hc us w ha;unfold fR at hs;split at hs;case h_2=>cases hs
 rename_i hs' bs';split at hs;case h_2=>cases hs
 rename_i xs ys hx hy;injection hs with hs;injection hs with hs1 hs2;subst hs1;subst hs2;obtain ⟨u1,us1,r1,⟨u2,us2,r2,ha,rfl⟩,rfl⟩:=ha;obtain ⟨p1,q1⟩:=Uf hx r1;obtain ⟨p2,q2⟩:=Uf hy r2;have e1:=Ae2 (fun d hd=>fD (p1 d hd)) (An.1 hc.1)
 have e2:=wJ (fun d hd=>AIX (p2 d hd)) (An.1 hc.2.1)
 have q:=h (wN xs) (fun i=>(bN ys i:Int)) (Ae1 xs)
 rw [← e2,← e1] at q;refine CW q (fun u hu=>(Uf (Ae3 _) hu).2 _) _ w ⟨u1,_,q1 _,⟨u2,_,q2 _,ha,rfl⟩,rfl⟩
noncomputable def SSj:dt:=(87,Ez fR)::(279,Ez fR)::SSi
theorem AIj (f g:Nat→Nat):(fun i=>AU false .u32 ((f i:Int)+(g i:Int)))=BN fun i=>(f i+g i) % 4294967296:=by
 funext i
 rw [EG];rfl
theorem Ae4:AT dn SSj:=⟨Ft Tryz.func87 dk dk (AIi fun h b hh=>by
  have:=Aeo hh b
  rw [AIj] at this;exact this),Ft Tryz.func279 dk dk (AIi fun h b hh=>by
  have:=Ae0 hh b
  rw [AIj,show (fun i=>(h i+Js h kN (G1 (bN (BY b))) 64 i) % 4294967296)=RV h (bN (BY b)) from funext fun i=>by unfold RV;rw [Nat.add_comm]] at this
  exact this),AIY⟩
def Uj (k:Nat):Heap→Heap
 | []=>[]
 | (j,b)::r=>match Nat.beq j k with
  | true=>(j,match b with | some ⟨ty,cs,_⟩=>some ⟨ty,cs,true⟩ | none=>none)::r
  | false=>(j,b)::Uj k r
theorem wQ {k:Nat} {cs:List Ch} {ty:TypeId} {o:Bool}:∀ {H:Heap},AF H k=some ⟨ty,cs,o⟩→∀ b x,AF (Uj k H) b=some x→AF H b=some x∨(b=k∧x=⟨ty,cs,true⟩)
 | [],h,_,_,_=>by cases h
 | (j,z)::r,h,b,x,hx=>by
  simp only [AF] at h ⊢;unfold Uj at hx;cases e:Nat.beq j k with
  | true =>
   rw [e] at h hx;have hz:z=some ⟨ty,cs,o⟩:=h
   subst hz;simp only [AF] at hx;cases e':Nat.beq j b with
   | true =>
    rw [e'] at hx;injection hx with hx;exact .inr ⟨(An.1 e').symm.trans (An.1 e),hx.symm⟩
   | false=>rw [e'] at hx;exact .inl hx
  | false =>
   rw [e] at h hx;simp only [AF] at hx;cases e':Nat.beq j b with
   | true=>rw [e'] at hx;exact .inl hx
   | false=>rw [e'] at hx;exact wQ (H:=r) h b x hx
theorem Ae5 {β:Env} {ty:TypeId} {cs:List Ch} {o:Bool} {k:Nat} {w:World} (hty:ty≠Bf) (hr:DN β ⟨ty,cs,o⟩ k w):DN β ⟨ty,cs,true⟩ k w:=by
 rcases hr with ⟨B,n,l,t,pre,ty',fz,q1,q2,q3,q4,q5⟩ | ⟨X,q1,q2,q3⟩ | ⟨B,l,es,q,q1,q2,q3,q4⟩
 ·exact .inl ⟨B,n,l,t,pre,ty',fz,q1,q2,q3,q4,fun h=>by
   obtain ⟨a1,a2,a3,a4,a5⟩:=q5 h;exact ⟨a1,a2,a3,(fun h=>by cases h),a5⟩⟩
 ·exact .inr (.inl ⟨X,q1,by cases X with | at_=>exact q2 | nil=>exact Or.inl rfl | emp=>exact absurd q2.2 hty,q3⟩)
 ·exact .inr (.inr ⟨B,l,es,q,q1,q2,q3,q4⟩)
theorem Ae6 {P:Program} {f:FuncId} {β0:Env} {w0:World} {R:Ending→World→Prop} {n:Fz} {W:List Nat} {x:ASt} {k:Nat} {ty:TypeId} {cs:List Ch} {o:Bool} (hty:ty≠Bf) (hk:AF x.s.H k=some ⟨ty,cs,o⟩)
  (hs:ASafe P f β0 w0 R n W ⟨x.todo,⟨x.s.T,Uj k x.s.H,x.s.fr,x.s.path⟩⟩):ASafe P f β0 w0 R n W x:=by
 intro β a w hi hf;refine hs β a w { hi with good:=?_ } hf
 have g:=hi.good;have hh:∀ b y,AF (Uj k x.s.H) b=some y→∃ z,AF x.s.H b=some z∧z.ty=y.ty:=fun b y hb=>by
  rcases wQ hk b y hb with e | ⟨rfl,rfl⟩
  ·exact ⟨y,e,rfl⟩
  ·exact ⟨_,hk,rfl⟩
 refine ⟨fun b blk hb=>?_,fun b b' B n n' h1 h2 h3 h4=>?_,g.lt⟩
 ·rcases wQ hk b blk hb with e | ⟨rfl,rfl⟩
  ·exact g.heap b blk e
  ·exact Ae5 hty (g.heap b _ hk)
 ·obtain ⟨y,hy,hr⟩:=F1 h1;obtain ⟨z,hz,e⟩:=hh b y hy;obtain ⟨y',hy'⟩:=jd.1 h2;obtain ⟨z',hz',_⟩:=hh b' y' hy';exact g.inj b b' B n n' (FS hz (by rw [e];exact hr)) (by rw [hz'];rfl) h3 h4
def Uk (n:Nat):Int:=wI (wI (Int.tdiv (wI (wI ((n:Int)+9)+63)) 64)*64)
def N4 (n:Nat):Nat:=(Uk n).toNat
def X' (n:Nat):dp:=List.replicate (N4 n) 0
def YA (off n:Nat) (xs:dp):dp:=(X' n).take 0++((xs.drop off).take (Nat.min n (N4 n))++(X' n).drop (0+Nat.min n (N4 n)*1))
def wS (off n:Nat) (xs:dp):dp:=(YA off n xs).set (0+(n:Int).toNat*1) 128
noncomputable def pdT:List Item:=Bv (AW dn oSi (some 0) 100 1 none (Ah Tryz.f85 [AP 0 0 0 0] (Ax []) 1 []))
noncomputable def YB (N:Int) (L:Nat) (ys:dp) (i k:AV) (p:List Bool):ASt:=⟨pdT,⟨DT Tryz.f85.ntmps [(3,iA N),(4,AP 1 0 L L),(5,i),(6,k)],[(1,some ⟨5,[.seq .u8 ys],false⟩)],2,p⟩⟩
def Ul (k:Int):AV:=.val false [.v (.int .u64 k)]
abbrev pdK:Option (List Nat×List Nat×Nat):=some ([3,4,5,6],[1],2)
theorem Ae8 (off n m:Nat) (xs:dp):AW dn oSi (some 0) 400 1 pdK (Ah Tryz.f85 [AP 0 off n m] (Ax xs) 1 []) =
 some ((AJ .i64 n,true)::(true,true)::(O7 (Uk n) 1,true)::(Nat.ble (off+Nat.min n (N4 n)) xs.length,true)::(Nat.ble (0+Nat.min n (N4 n)*1) (X' n).length,true)::(AJ .i64 n,true)::(decide ((0:Int)≤n∧(n:Int)<N4 n),true)::(decide (0+(n:Int).toNat*1<(YA off n xs).length),true)::(AJ .i64 n,true)::[],[],
  YB (Uk n) (N4 n) (wS off n xs) (.val false [.n .i64 0]) (Ul (AU false .u64 (8*AU false .u64 n))) []):=dk
def Um (N i:Int):Int:=wI (wI (N-1)-i)
theorem Ae9 (N:Int) (L:Nat) (ys:dp) (i k:Int):AW dn oSi (some 0) 400 1 pdK (YB N L ys (iA i) (Ul k) dw) =
 some ((decide (i<8),true)::(decide (0≤Um N i∧Um N i<L),true)::(decide (0+(Um N i).toNat*1<ys.length),true)::(decide ((0:Int)≤8∧0≤k),true)::[],[],YB N L (ys.set (0+(Um N i).toNat*1) (AU false .u8 k)) (iA (wI (i+1))) (Ul (Int.fdiv k (2^min (8:Int).toNat IntKind.u64.bits))) []):=dk
theorem Ae_ (N:Int) (L:Nat) (ys:dp) (i k:Int):AR dn oSi Tryz.f85 400 1 [1] (YB N L ys (iA i) (Ul k) du)=some ([(decide (i<8),false)],[],AP 1 0 L L,[(1,some ⟨5,[.seq .u8 ys],false⟩)]):=dk
theorem AIl {n:Nat} (h:n≤35184372088832):Uk n=(Ap n:Nat)∧N4 n=Ap n:=by
 have e1:wI (wI ((n:Int)+9)+63)=((n+72:Nat):Int):=by rw [Ao (z:=(n:Int)+9) dl,Ao dl];omega
 have e2:Int.tdiv ((n+72:Nat):Int) 64=(((n+72) / 64:Nat):Int):=by rw [mj dl];rfl
 have e3:Uk n=(Ap n:Nat):=by
  unfold Uk Ap;rw [e1,e2,Ao (z:=(((n+72) / 64:Nat):Int)) dl,Ao dl];rfl
 exact ⟨e3,by unfold N4;rw [e3];rfl⟩
def K9 (xs:dp) (i:Nat):dp:=xs++128::(List.replicate (Ap xs.length-xs.length-9) 0++(List.replicate (8-i) 0++(CI (8*xs.length) 8).drop (8-i)))
theorem Ae' (xs:dp):K9 xs 0=xs++128::List.replicate (Ap xs.length-xs.length-1) 0:=by
 unfold K9;have:=N2 xs.length
 rw [nl (by rw [JJ];exact gd _),iq,List.replicate_append_replicate]
 congr 3
 omega
theorem AfA (xs:dp):K9 xs 8=C5 xs:=by
 unfold K9 C5;rw [kw,List.replicate_zero,mc,lh]
theorem AfB (xs:dp) {i:Nat} (h:i≤8):(K9 xs i).length=Ap xs.length:=by
 have:=N2 xs.length
 unfold K9;simp only [ib,ii,kt,ir,JJ];omega
theorem AfC (xs:dp) {i:Nat} (h:i<8):(K9 xs i).set (Ap xs.length-1-i) (FE (8*xs.length) i)=K9 xs (i+1):=by
 have hp:=N2 xs.length;unfold K9;rw [pm _ _ dl,show Ap xs.length-1-i-xs.length=(Ap xs.length-xs.length-9+(7-i))+1 by omega,List.set_cons_succ,pm _ _ (by simp),kt,qb,show 8-i=(7-i)+1 by omega,List.replicate_succ',lf,pm _ _ (by simp),kt,kw,show 8-(i+1)=7-i by omega]
 have e:(CI (8*xs.length) 8).drop (7-i)=FE (8*xs.length) i::(CI (8*xs.length) 8).drop (7-i+1):=by
  rw [List.drop_eq_getElem_cons (by rw [JJ];omega)]
  congr 1
  simp only [CI,List.getElem_map,List.getElem_range];congr 1;omega
 rw [e];rfl
theorem AfD {off n:Nat} {xs:dp} (hl:off+n≤xs.length) (hn:n≤35184372088832):YA off n xs=AA xs off n++List.replicate (Ap n-n) 0∧wS off n xs=K9 (AA xs off n) 0:=by
 have hp:=N2 n;have hw:(AA xs off n).length=n:=by unfold AA;rw [h_,ir];omega
 have e:YA off n xs=AA xs off n++List.replicate (Ap n-n) 0:=by
  unfold YA X';rw [(AIl hn).2,show Nat.min n (Ap n)=n from jn dl,List.take_zero,lh,gz,g_,List.drop_replicate]
  rfl
 refine ⟨e,?_⟩
 unfold wS;rw [e,Ae',hw,show 0+(n:Int).toNat*1=n by omega,pm _ _ dl,hw,kw,show Ap n-n=(Ap n-n-1)+1 by omega,om,List.set_cons_zero]
 rfl
theorem AfE {off n m:Nat} {xs:dp} (hl:off+n≤xs.length) (hn:n≤35184372088832):Ac dn 85 [AP 0 off n m] (Ax xs) 1 [] (AP 1 0 (Ap n) (Ap n)) [(1,some ⟨5,[.seq .u8 (C5 (AA xs off n))],false⟩)]:=by
 have hp:=N2 n;have hw:(AA xs off n).length=n:=by unfold AA;rw [h_,ir];omega
 have hN:Ap n≤n+72:=by unfold Ap;omega
 obtain ⟨e1,e2⟩:=AIl hn;obtain ⟨e3,e4⟩:=AfD (off:=off) (n:=n) hl hn
 refine Ay (path:=[]) Tryz.func85 dk dk fun β0 w0 h0=>?_
 refine Ag MP AB (Ae8 off n m xs) ?_ (AQ dk) h0 ft fun _=>?_
 ·have hh:AJ .i64 n=true:=by simp only [AJ,gi,gc];omega
  refine ⟨hh,rfl,?_,gb ?_,gb ?_,hh,fu ⟨dl,dl⟩,fu ?_,hh,trivial⟩
  ·rw [e1];unfold O7;exact fu ⟨dl,dl,dl,dl⟩
  ·rw [e2,show Nat.min n (Ap n)=n from jn dl];exact hl
  ·unfold X';rw [e2,show Nat.min n (Ap n)=n from jn dl,kt];omega
  ·rw [e3,ib,hw,kt];omega
 ·rw [e4,e1,e2,show AU false .u64 (8*AU false .u64 (n:Int))=((8*n:Nat):Int) by rw [C7,C7,IntKind.wrap_u64,IntKind.wrap_u64];omega]
  have loop:∀ r i,i+r=8→ASafe dn 85 β0 w0 (A4 β0 w0 [] (AP 1 0 (Ap n) (Ap n)) [(1,some ⟨5,[.seq .u8 (C5 (AA xs off n))],false⟩)]) Tryz.f85.ntmps [] (YB (Ap n:Nat) (Ap n) (K9 (AA xs off n) i) (iA (i:Int)) (Ul ((8*n / 256^i:Nat):Int)) []):=by
   intro r;induction r with
   | zero =>
    intro i hi;obtain rfl:i=8:=dl
    rw [AfA];exact Ae du (Av MP AB Tryz.func85 (Ae_ ..) ⟨dm,trivial⟩ (AQ dk) h0 ft)
   | succ r ih =>
    intro i hi;have ej:Um (Ap n:Nat) i=((Ap n-1-i:Nat):Int):=by unfold Um;rw [Ao (z:=((Ap n:Nat):Int)-1) dl,Ao dl];omega
    refine Ae dw (Ag MP AB (Ae9 ..) ?_ (AQ dk) h0 ft fun _=>?_)
    ·rw [ej,AfB _ dl,hw];exact ⟨fu dl,fu ⟨dl,dl⟩,fu dl,fu ⟨dm,Int.natCast_nonneg _⟩,trivial⟩
    ·have ek:Int.fdiv ((8*n / 256^i:Nat):Int) (2^min (8:Int).toNat IntKind.u64.bits)=((8*n / 256^(i+1):Nat):Int):=by
      rw [show min (8:Int).toNat IntKind.u64.bits=8 from rfl,nb _ dm,ip,← iu]
      rfl
     have ev:AU false .u8 ((8*n / 256^i:Nat):Int)=FE (8*n) i:=by rw [C7,IntKind.wrap_u8];unfold FE;omega
     have es:=AfC (AA xs off n) (show i<8 by omega)
     rw [hw] at es;rw [ej,ek,ev,show 0+((Ap n-1-i:Nat):Int).toNat*1=Ap n-1-i by omega,es,Ao (z:=(i:Int)+1) dl]
     exact ih (i+1) dl
  have:=loop 8 0 rfl
  rw [ia,ig] at this;exact Hv this
def pdSp:ASpec:=fun args H fr path=>match args with
 | [S]=>match DB S with
  | some (k,off,n)=>match AF H k with
   | some ⟨_,cs,_⟩=>match Az .u8 cs with
    | some xs=>some (BI [k] 1 fr 1 [] (AP 1 0 (Ap n) (Ap n)) [(1,some ⟨5,[.seq .u8 (C5 (AA xs off n))],false⟩)] [(Nat.ble (off+n) xs.length,true),(Nat.ble n 35184372088832,true)] path)
    | none=>none
   | none=>none
  | none=>none
 | _=>none
theorem AfF:A' dn 85 pdSp:=by
 refine DC Tryz.func85 dk dk fun args H fr path r hs=>?_
 unfold pdSp at hs;split at hs;case h_2=>cases hs
 rename_i S;split at hs;case h_2=>cases hs
 rename_i k off n hS;split at hs;case h_2=>cases hs
 rename_i ty cs o hk;split at hs;case h_2=>cases hs
 rename_i xs hxs;injection hs with hs;refine ⟨[k],1,1,[],_,_,_,path,hs.symm,fun β us w ha hg hc=>?_⟩
 obtain ⟨u1,us1,r1,ha,rfl⟩:=ha;obtain ⟨m,r1⟩:=EU hS r1;obtain ⟨g1,g2,g3⟩:=ED hg hk hxs;exact ⟨[AP 0 off n m],Ax xs,AfE (f_ hc.1) (f_ hc.2.1),dk,⟨u1,_,CJ dl rfl r1,ha,rfl⟩,g2,g3⟩
noncomputable def SSk:dt:=(85,pdSp)::SSj
theorem AfG:AT dn SSk:=⟨AfF,Ae4⟩
def fS:AV:=.val true [.n .u32 1779033703,.n .u32 3144134277,.n .u32 1013904242,.n .u32 2773480762,.n .u32 1359893119,.n .u32 2600822924,.n .u32 528734635,.n .u32 1541459225]
theorem AfH:AK dn oSi Tryz.f86 [] [] 100=some ([],fS):=dk
theorem AfI:AK dn oSi Tryz.f278 [] [] 100=some ([],fS):=dk
noncomputable def bgV:AV:=.val true [.seq .u32 (l8 (BN X9))]
theorem AfJ {β β':Env} {u:Value} (h:AL β fS u):AL β' bgV u:=(Uf (k:=.u32) (xs:=l8 (BN X9)) dk h).2 _
noncomputable def fT:List AV→Option AV
 | []=>some bgV
 | _=>none
theorem AIn {F:FuncId} (h:AS dn F [] fS):∀ args v,fT args=some v→AS dn F args v:=by
 intro args v hs;unfold fT at hs;split at hs;case h_2=>cases hs
 injection hs with hs;subst hs;exact CW h fun u hu=>AfJ hu
noncomputable def SSl:dt:=(86,AZ fT)::(278,AZ fT)::SSk
theorem AIo:AT dn SSl:=⟨Aa Tryz.func86 dk dk (AIn (AN MP AB Tryz.func86 AfH trivial rfl)),Aa Tryz.func278 dk dk (AIn (AN MP AB Tryz.func278 AfI trivial rfl)),AfG⟩
noncomputable abbrev oSl:Orc:=AG SSl KV
theorem N5:OrcOk dn oSl:=AH AIo BJ
def MQ (p:dp):Nat→Nat→Nat
 | 0=>X9
 | k+1=>RV (wN (l8 (BN (MQ p k)))) (bN ((p.drop (64*k)).take 64))
def fU (xs:dp) (i:Nat):Nat:=MQ (C5 xs) (Ap xs.length / 64) (i / 4) / 2^(24-8*(i % 4)) % 256
theorem AfK (xs:dp) (i:Nat):fU xs i<256:=gu _ dm
def HX (xs:dp):dp:=(List.range 32).map fun i=>(fU xs i:Int)
theorem YC (xs:dp):(HX xs).length=32:=rfl
theorem AfL (xs:dp):∀ d∈HX xs,0≤d∧d<256:=by
 intro d hd;obtain ⟨i,_,rfl⟩:=jj.1 hd;have:=AfK xs i
 omega
def MR (x:Option (dr×List Nat×AV×Heap)):AV:=match x with | some (_,_,v,_)=>v | none=>.any
def Un (x:Option (dr×List Nat×AV×Heap)):Heap:=match x with | some (_,_,_,h)=>h | none=>[]
def o4B (x:Option (dr×List Nat×AV×Heap)):Bool:=match x with | some (c,[],_,_)=>RW c | _=>false
structure Outr (x:Option (dr×List Nat×AV×Heap)):Prop where
 ok:o4B x=true
theorem AfN {P:Program} {O:Orc} {f:FuncId} {fn:Func} {β0:Env} {w0:World} {n:Fz} {W:List Nat} (hO:OrcOk P O) (hm:P.follows .mixedOrders=true) (hfn:P.funcs[f]? = some fn) {fuel k0:Nat} {ks:List Nat} {x:ASt}
  (h:Outr (AR P O fn fuel k0 ks x)) (hwf:BO n x.s) (h0:∀ b,k0≤b→β0 b=none) (hD:n.D=[]:=by rfl):ASafe P f β0 w0 (A4 β0 w0 W (MR (AR P O fn fuel k0 ks x)) (Un (AR P O fn fuel k0 ks x))) n W x:=by
 obtain ⟨h1⟩:=h;generalize e:AR P O fn fuel k0 ks x=y at *
 cases y with
 | none=>cases h1
 | some v =>
  obtain ⟨c,k,v,H⟩:=v;cases k with
  | nil=>exact Av hO hm hfn e (UY h1) hwf h0 ft hD
  | cons=>cases h1
theorem AIp {β0:Env} {w0:World} {W:List Nat} {v v':AV} {H:Heap} (h:∀ β u,AL β v u→AL β v' u) {e:Ending} {w:World} (ho:A4 β0 w0 W v H e w):A4 β0 w0 W v' H e w:=by
 obtain ⟨u,β,q,o⟩:=ho;exact ⟨u,β,q,{ o with val:=h _ _ o.val }⟩
noncomputable def smE (off n m:Nat) (xs:dp):ASt:=Ah Tryz.f35 [AP 0 off n m] (Ax xs) 1 []
abbrev fV:Option (List Nat×List Nat×Nat):=some ([2,3,4],[1,2,3],4)
noncomputable def Pf (off n m:Nat) (xs:dp):ASt:=ID (AW dn oSl (some 0) 100 1 fV (smE off n m xs))
noncomputable def smT:List Item:=(Pf 0 0 0 []).todo
noncomputable def Pg (off L:Nat) (P:dp) (s:Nat→Int) (p:List Bool):ASt:=⟨smT,⟨DT Tryz.f35.ntmps [(2,.val false [.p 1 0]),(3,AP 2 off L L),(4,.val false [.p 3 0])],[(1,some ⟨54,List.replicate 32 (.n .u8 0),false⟩),(2,some ⟨5,[.seq .u8 P],true⟩),(3,some ⟨109,[.seq .u32 (l8 s)],false⟩)],4,p⟩⟩
theorem AfP (off n m:Nat) (xs:dp):AW dn oSl (some 0) 100 1 fV (smE off n m xs)=some ((Nat.ble (off+n) xs.length,true)::(Nat.ble n 35184372088832,true)::[],[],Pf off n m xs):=dk
theorem AfQ (off n m:Nat) (xs:dp):AF (Pf off n m xs).s.H 2=some ⟨5,[.seq .u8 (C5 (AA xs off n))],false⟩:=dk
theorem AfR (off n m:Nat) (xs:dp):(⟨(Pf off n m xs).todo,⟨(Pf off n m xs).s.T,Uj 2 (Pf off n m xs).s.H,(Pf off n m xs).s.fr,(Pf off n m xs).s.path⟩⟩:ASt)=Pg 0 (Ap n) (C5 (AA xs off n)) (BN X9) []:=dk
def wT (off L:Nat) (P:dp) (b:Bool):dr:=(AJ .i64 L,true)::(decide ((0:Int)<L),true)::(decide ((0:Int)≤64∧(64:Int)≤L),true)::(true,true)::(true,true)::(Nat.ble (off+64) P.length,true)::(true,true)::(Nat.beq ((P.drop off).take 64).length 64,true)::(decide ((0:Int)≤64∧(64:Int)≤L),true)::(Nat.beq L (64:Int).toNat,b)::[]
def wU (s:Nat→Int) (P:dp) (off:Nat):Nat→Int:=BN (RV (wN (l8 s)) (bN ((P.drop off).take 64)))
theorem AfS (off L:Nat) (P:dp) (s:Nat→Int):AW dn oSl (some 0) 100 1 fV (Pg off L P s ee)=some (wT off L P false,[],Pg (off+(64:Int).toNat*1) (L-(64:Int).toNat) P (wU s P off) []):=dk
theorem AfT (off L:Nat) (P:dp) (s:Nat→Int):AW dn oSl (some 0) 100 1 fV (Pg off L P s dx)=some (wT off L P true,[],Pg off (L-(64:Int).toNat) P (wU s P off) []):=dk
noncomputable def RZ (off:Nat) (P:dp) (s:Nat→Nat):=AR dn oSl Tryz.f35 1000 1 [] (Pg off 0 P (BN s) du)
theorem AfU (off:Nat) (P:dp) (s:Nat→Nat):Outr (RZ off P s):=⟨dk⟩
def wV (s:Nat→Int):dp:=(List.range 32).map fun i=>AU false .u8 (MK (s (i / 4)) ((24-8*(i % 4):Nat):Int))
def fW:AV→List Ch
 | .val true cs=>cs
 | _=>[]
theorem AfV (off:Nat) (P:dp) (s:Nat→Nat):MR (RZ off P s)=.val true (fW (MR (RZ off P s))):=dk
theorem AfW (off:Nat) (P:dp) (s:Nat→Nat):Az .u8 (fW (MR (RZ off P s)))=some (wV (BN s)):=dk
theorem AfX (off:Nat) (P:dp) (s:Nat→Nat):Un (RZ off P s)=[]:=dk
theorem AIr (s:Nat→Nat):wV (BN s)=(List.range 32).map fun i=>((s (i / 4) / 2^(24-8*(i % 4)) % 256:Nat):Int):=by
 refine kb fun i _=>?_
 unfold BN;rw [X2 _ _ dl,C7,IntKind.wrap_u8];omega
theorem AIs {A:AV} {cs:List Ch} {k:IntKind} {xs:dp} (h1:A=.val true cs) (h2:Az k cs=some xs) (β:Env) (u:Value) (hr:AL β A u):AL β (.val true [.seq k xs]) u:=by
 subst h1;exact (Uf h2 hr).2 _
theorem AIt {P:Program} {f:FuncId} {β0:Env} {w0:World} {R R':Ending→World→Prop} {W:List Nat} {n:Fz} {x:ASt} (h:ASafe P f β0 w0 R n W x) (hv:∀ e w,R e w→R' e w):ASafe P f β0 w0 R' n W x:=by
 intro β a w hi hf b cs q1 q2;obtain ⟨e',w',fr,q5,q4⟩:=h β a w hi hf b cs q1 q2;exact ⟨e',w',fr,hv _ _ q5,q4⟩
theorem AfY {β0:Env} {w0:World} (h0:∀ b,1≤b→β0 b=none) (off:Nat) (P:dp) (s:Nat→Nat) :
  ASafe dn 35 β0 w0 (A4 β0 w0 [] (.val true [.seq .u8 ((List.range 32).map fun i=>((s (i / 4) / 2^(24-8*(i % 4)) % 256:Nat):Int))]) []) Tryz.f35.ntmps [] (Pg off 0 P (BN s) du):=by
 have:=AfN (P:=dn) (n:=Tryz.f35.ntmps) (β0:=β0) (w0:=w0) (W:=[]) N5 AB Tryz.func35 (AfU off P s) (AQ dk) h0
 refine AIt this fun e w ho=>?_
 have ho:A4 β0 w0 [] (MR (RZ off P s)) (Un (RZ off P s)) e w:=ho
 rw [AfX] at ho;rw [← AIr s];exact AIp (AIs (AfV off P s) (AfW off P s)) ho
theorem AIu {off L:Nat} {P:dp} {b:Bool} (h1:64≤L) (h2:off+L≤P.length) (h3:L≤281474976710656) (hb:Nat.beq L 64=b):AM (wT off L P b):=by
 refine ⟨?_,fu dl,fu ⟨dm,dl⟩,rfl,rfl,gb dl,rfl,An.2 ?_,fu ⟨dm,dl⟩,hb,trivial⟩
 ·simp only [AJ,gi,gc];omega
 ·rw [h_,ir];omega
theorem AfZ {off n m:Nat} {xs:dp} (hl:off+n≤xs.length) (hn:n≤35184372088832):Ac dn 35 [AP 0 off n m] (Ax xs) 1 [] (.val true [.seq .u8 (HX (AA xs off n))]) []:=by
 have hw:(AA xs off n).length=n:=by unfold AA;rw [h_,ir];omega
 have hK:Ap n=64*(Ap n / 64):=by unfold Ap;omega
 have hp:=N2 n;have hN:Ap n≤n+72:=by unfold Ap;omega
 have hlen:=AIK (AA xs off n)
 rw [hw] at hlen;refine Ay (path:=[]) Tryz.func35 dk dk fun β0 w0 h0=>?_
 refine Ag N5 AB (AfP off n m xs) ⟨gb hl,gb hn,trivial⟩ (AQ dk) h0 ft fun _=>?_
 refine Ae6 dm (AfQ off n m xs) ?_
 rw [AfR];have loop:∀ r k,1≤r→k+r=Ap n / 64→ASafe dn 35 β0 w0 (A4 β0 w0 [] (.val true [.seq .u8 (HX (AA xs off n))]) []) Tryz.f35.ntmps [] (Pg (64*k) (Ap n-64*k) (C5 (AA xs off n)) (BN (MQ (C5 (AA xs off n)) k)) []):=by
  intro r;induction r with
  | zero=>intro k h;omega
  | succ r ih =>
   intro k _ hk;cases r with
   | zero =>
    refine Ae dx (Ag N5 AB (AfT ..) (AIu dl dl dl (An.2 dl)) (AQ dk) h0 ft fun _=>?_)
    rw [show Ap n-64*k-(64:Int).toNat=0 by rw [show (64:Int).toNat=64 from rfl];omega]
    have e:wU (BN (MQ (C5 (AA xs off n)) k)) (C5 (AA xs off n)) (64*k)=BN (MQ (C5 (AA xs off n)) (Ap n / 64)):=by rw [← hk];rfl
    rw [e];have:=AfY h0 (64*k) (C5 (AA xs off n)) (MQ (C5 (AA xs off n)) (Ap n / 64)) (w0:=w0)
    unfold HX fU;rw [hw];exact Ae du this
   | succ r =>
    refine Ae ee (Ag N5 AB (AfS ..) (AIu dl dl dl ?_) (AQ dk) h0 ft fun _=>?_)
    ·cases q:Nat.beq (Ap n-64*k) 64 with
     | false=>rfl
     | true=>have:=An.1 q;omega
    ·have:=ih (k+1) dl dl
     rw [show 64*(k+1)=64*k+(64:Int).toNat*1 by rw [show (64:Int).toNat=64 from rfl];omega,show Ap n-(64*k+(64:Int).toNat*1)=Ap n-64*k-(64:Int).toNat by rw [show (64:Int).toNat=64 from rfl];omega] at this
     exact this
 have:=loop (Ap n / 64) 0 dl dl
 exact this
def sumSp:ASpec:=fun args H fr path=>match args with
 | [S]=>match DB S with
  | some (k,off,n)=>match AF H k with
   | some ⟨_,cs,_⟩=>match Az .u8 cs with
    | some xs=>some (BI [k] 1 fr 0 [] (.val true [.seq .u8 (HX (AA xs off n))]) [] [(Nat.ble (off+n) xs.length,true),(Nat.ble n 35184372088832,true)] path)
    | none=>none
   | none=>none
  | none=>none
 | _=>none
theorem AIv {F:FuncId} {fn:Func} (hfn:dn.funcs[F]? = some fn) (hb:fn.body.isSome=true) (hname:(fn.name=="runtime.NumGoroutine")=false) (hcan:∀ {off n m:Nat} {xs:dp},(∀ d∈xs,0≤d∧d<256)→off+n≤xs.length→n≤35184372088832→Ac dn F [AP 0 off n m] (Ax xs) 1 [] (.val true [.seq .u8 (HX (AA xs off n))]) []):A' dn F sumSp:=by
 refine DC hfn hb hname fun args H fr path r hs=>?_
 unfold sumSp at hs;split at hs;case h_2=>cases hs
 rename_i S;split at hs;case h_2=>cases hs
 rename_i k off n hS;split at hs;case h_2=>cases hs
 rename_i ty cs o hk;split at hs;case h_2=>cases hs
 rename_i xs hxs;injection hs with hs;refine ⟨[k],1,0,[],_,_,_,path,hs.symm,fun β us w ha hg hc=>?_⟩
 obtain ⟨u1,us1,r1,ha,rfl⟩:=ha;obtain ⟨m,r1⟩:=EU hS r1;obtain ⟨g1,g2,g3⟩:=ED hg hk hxs;exact ⟨[AP 0 off n m],Ax xs,hcan g1 (f_ hc.1) (f_ hc.2.1),rfl,⟨u1,_,CJ dl rfl r1,ha,rfl⟩,g2,g3⟩
noncomputable def SSm:dt:=(35,sumSp)::SSl
theorem Afa:AT dn SSm:=⟨AIv Tryz.func35 dk dk fun _=>AfZ,AIo⟩
noncomputable def AIw (off n m:Nat) (xs:dp):ASt:=Ah Tryz.f277 [AP 0 off n m] (Ax xs) 1 []
noncomputable def wW:List Item:=Bv (AW dn oSl (some 0) 100 1 none (AIw 0 0 0 []))
noncomputable def wX (off n m:Nat) (s:AV):List AV:=DT Tryz.f277.ntmps [(0,AP 0 off n m),(3,s)]
def wY (xs ys:dp):Heap:=[(0,some (Am [.seq .u8 xs])),(1,some ⟨5,[.seq .u8 ys],true⟩)]
noncomputable def fX (off n m:Nat) (xs ys:dp) (L:Nat) (p:List Bool):ASt:=⟨wW,⟨wX off n m (.val false [.sx 1 L 1]),wY xs ys,2,p⟩⟩
noncomputable def AIx:List Item:=Bv (AW dn oSl (some 0) 100 1 none (fX 0 0 0 [] [] 0 du))
noncomputable def AIy (s i:AV) (k:Int):List AV:=DT Tryz.f277.ntmps [(3,s),(4,Ul k),(5,i)]
def Ph (ys:dp):Heap:=[(1,some ⟨5,[.seq .u8 ys],true⟩)]
noncomputable def YD (ys:dp) (L:Nat) (k:Int) (i:AV) (p:List Bool):ASt:=⟨AIx,⟨AIy (.val false [.sx 1 L 1]) i k,Ph ys,2,p⟩⟩
def D1 (L:Nat):Bool:=decide (1≤1∧2*L*1≤281474976710656)
theorem Afb (off n m:Nat) (xs:dp):AW dn oSl (some 0) 100 1 (some ([0,3],[0,4],5)) (AIw off n m xs) =
 some ((true,true)::(Nat.ble (off+n) xs.length,true)::(D1 (0+n),true)::(Nat.ble (0+n) ([]++(xs.drop off).take n).length,true)::(D1 (0+n+1),true)::[],[],⟨wW,⟨KJ (Dx 1 [4]) (wX off n m (.val false [.sx 1 (0+n+1) 1])),If (Dx 1 [4]) (wY xs (([]++(xs.drop off).take n).take (0+n)++[128])),5,[]⟩⟩):=dk
theorem Afc (off n m:Nat) (xs ys:dp) (L:Nat):AW dn oSl (some 0) 100 1 (some ([0,3],[0,3],4)) (fX off n m xs ys L dw) =
 some ((AJ .i64 L,true)::(true,true)::(!decide (Int.tmod (L:Int) 64=56),true)::(Nat.ble L ys.length,true)::(D1 (L+1),true)::[],[],⟨wW,⟨KJ (Dx 1 [3]) (wX off n m (.val false [.sx 1 (L+1) 1])),If (Dx 1 [3]) (wY xs (ys.take L++[0])),4,[]⟩⟩):=dk
theorem Afd (off n m:Nat) (xs ys:dp) (L:Nat):AW dn oSl (some 0) 100 1 (some ([3,4,5],[1],2)) (fX off n m xs ys L du) =
 some ((AJ .i64 L,true)::(true,true)::(!decide (Int.tmod (L:Int) 64=56),false)::(AJ .i64 n,true)::[],[],YD ys L (AU false .u64 (8*AU false .u64 n)) (.val false [.n .i64 7]) []):=dk
def wZ (k i:Int):Int:=AU false .u8 (Int.fdiv k (2^min (AU false .u64 (wI (8*i))).toNat IntKind.u64.bits))
theorem Afe (ys:dp) (L:Nat) (k i:Int):AW dn oSl (some 0) 100 1 (some ([3,4,5],[3],4)) (YD ys L k (iA i) dw) =
 some ((decide (0≤i),true)::(decide (0≤AU false .u64 (wI (8*i))∧0≤k),true)::(Nat.ble L ys.length,true)::(D1 (L+1),true)::[],[],⟨AIx,⟨KJ (Dx 1 [3]) (AIy (.val false [.sx 1 (L+1) 1]) (iA (wI (i-1))) k),If (Dx 1 [3]) (Ph (ys.take L++[wZ k i])),4,[]⟩⟩):=dk
theorem Aff (ys:dp) (L:Nat) (k i:Int):AR dn oSl Tryz.f277 100 1 [1] (YD ys L k (iA i) du)=some ([(decide (0≤i),false)],[],.val false [.sx 1 L 1],Ph ys):=dk
def K_ (xs:dp) (j:Nat):dp:=xs++128::List.replicate j 0
theorem w7 (xs:dp) (j:Nat):(K_ xs j).length=xs.length+1+j:=by unfold K_;simp;omega
theorem Afg (xs:dp) (j:Nat):K_ xs j++[0]=K_ xs (j+1):=by
 unfold K_;rw [List.replicate_succ',lf];rfl
theorem Afh (xs:dp) {c:Nat} (h:c<8) (A:Nat):xs++(CI A 8).take c++[FE A (7-c)]=xs++(CI A 8).take (c+1):=by
 rw [lf,List.take_succ_eq_append_getElem (by rw [JJ];exact h)]
 congr 2
 simp only [CI,List.getElem_map,List.getElem_range]
theorem D_ {L:Nat} (h:L≤140737488355328):D1 L=true:=fu ⟨gd _,dl⟩
theorem Afi {off n m:Nat} {xs:dp} (hl:off+n≤xs.length) (hn:n≤35184372088832):Ac dn 277 [AP 0 off n m] (Ax xs) 1 [] (.val false [.sx 1 (Ap n) 1]) (Ph (C5 (AA xs off n))):=by
 have hw:(AA xs off n).length=n:=by unfold AA;rw [h_,ir];omega
 have hp:=N2 n;have hN:Ap n≤n+72:=by unfold Ap;omega
 have hh:∀ L:Nat,L≤70368744177664→AJ .i64 L=true:=fun L h=>by simp only [AJ,gi,gc];omega
 refine Ay (path:=[]) Tryz.func277 dk dk fun β0 w0 h0=>?_
 have h0':∀ b,1≤b→β0 b=none:=h0
 have loop2:∀ r c,c+r=8→ASafe dn 277 β0 w0 (A4 β0 w0 [] (.val false [.sx 1 (Ap n) 1]) (Ph (C5 (AA xs off n)))) Tryz.f277.ntmps [] (YD (K_ (AA xs off n) (Ap n-n-9)++(CI (8*n) 8).take c) (Ap n-8+c) ((8*n:Nat):Int) (iA (7-(c:Int))) []):=by
  intro r;induction r with
  | zero =>
   intro c hc;obtain rfl:c=8:=dl
   have e:K_ (AA xs off n) (Ap n-n-9)++(CI (8*n) 8).take 8=C5 (AA xs off n):=by
    unfold K_ C5;rw [hw,ko (by rw [JJ];exact gd _),lf];rfl
   rw [e,show Ap n-8+8=Ap n by omega]
   exact Ae du (Av N5 AB Tryz.func277 (Aff ..) ⟨dm,trivial⟩ (AQ dk) h0 ft)
  | succ r ih =>
   intro c hc;have ei:(7:Int)-(c:Int)=((7-c:Nat):Int):=dl
   have e8:AU false .u64 (wI (8*((7-c:Nat):Int)))=((8*(7-c):Nat):Int):=by rw [Ao dl,C7,IntKind.wrap_u64];omega
   have hlen:(K_ (AA xs off n) (Ap n-n-9)++(CI (8*n) 8).take c).length=Ap n-8+c:=by
    rw [ib,w7,hw,h_,JJ];omega
   refine Ae dw (Ag N5 AB (Afe ..) ?_ (AQ dk) h0 ft fun _=>?_)
   ·rw [ei,e8,hlen];exact ⟨fu dl,fu ⟨dl,dl⟩,gb (gd _),D_ dl,trivial⟩
   ·refine OX (m:=2) dk h0 ?_
    have ev:wZ ((8*n:Nat):Int) (7-(c:Int))=FE (8*n) (7-c):=by
     unfold wZ FE;rw [ei,e8,gj,show min (8*(7-c)) IntKind.u64.bits=8*(7-c) from jn (by show 8*(7-c)≤64;omega),nb _ (by exact_mod_cast nq (2^(8*(7-c)))),C7,IntKind.wrap_u8,NB]
     have:((8*n:Nat):Int) / (2^(8*(7-c)))=((8*n / 2^(8*(7-c)):Nat):Int):=by rw [oe,ml];rfl
     rw [this];omega
    rw [ev,ko (by rw [hlen];exact gd _),Afh _ dl,Ao (z:=(7:Int)-(c:Int)-1) dl]
    have:=ih (c+1) dl
    rw [show (7:Int)-((c+1:Nat):Int)=7-(c:Int)-1 by omega] at this
    exact this
 have mid:ASafe dn 277 β0 w0 (A4 β0 w0 [] (.val false [.sx 1 (Ap n) 1]) (Ph (C5 (AA xs off n)))) Tryz.f277.ntmps [] (YD (K_ (AA xs off n) (Ap n-n-9)) (Ap n-8) ((8*n:Nat):Int) (.val false [.n .i64 7]) []):=by
  have:=loop2 8 0 rfl
  rw [List.take_zero,iq] at this;exact Hv this
 have loop1:∀ r j,n+1+j+r=Ap n-8→ASafe dn 277 β0 w0 (A4 β0 w0 [] (.val false [.sx 1 (Ap n) 1]) (Ph (C5 (AA xs off n)))) Tryz.f277.ntmps [] (fX off n m xs (K_ (AA xs off n) j) (n+1+j) []):=by
  intro r;induction r with
  | zero =>
   intro j hj;have ht:Int.tmod ((n+1+j:Nat):Int) 64=56:=by
    rw [ku dl];unfold Ap at hj;omega
   refine Ae du (Ag N5 AB (Afd ..) ⟨hh _ dl,rfl,by rw [fu ht];rfl,hh _ dl,trivial⟩ (AQ dk) h0 ft fun _=>?_)
   rw [show AU false .u64 (8*AU false .u64 (n:Int))=((8*n:Nat):Int) by rw [C7,C7,IntKind.wrap_u64,IntKind.wrap_u64];omega,show j=Ap n-n-9 by omega,show n+1+(Ap n-n-9)=Ap n-8 by omega]
   exact mid
  | succ r ih =>
   intro j hj;have ht:Int.tmod ((n+1+j:Nat):Int) 64≠56:=by
    rw [ku dl];unfold Ap at hj;omega
   refine Ae dw (Ag N5 AB (Afc ..) ⟨hh _ dl,rfl,by rw [ga ht];rfl,gb (by rw [w7,hw];exact gd _),D_ dl,trivial⟩ (AQ dk) h0 ft fun _=>?_)
   refine OX (m:=2) dk h0 ?_
   rw [ko (by rw [w7,hw];exact gd _),Afg]
   exact ih (j+1) dl
 refine Ag N5 AB (Afb off n m xs) ⟨rfl,gb hl,D_ dl,gb ?_,D_ dl,trivial⟩ (AQ dk) h0 ft fun _=>?_
 ·rw [lh,h_,ir];omega
 ·refine OX (m:=2) dk h0 ?_
  rw [lh,ko (l:=(xs.drop off).take n) (by rw [h_];omega),gz]
  exact loop1 (Ap n-8-(n+1)) 0 dl
def rpadSp:ASpec:=fun args H fr path=>match args with
 | [S]=>match DB S with
  | some (k,off,n)=>match AF H k with
   | some ⟨_,cs,_⟩=>match Az .u8 cs with
    | some xs=>some (BI [k] 1 fr 1 [] (.val false [.sx 1 (Ap n) 1]) (Ph (C5 (AA xs off n))) [(Nat.ble (off+n) xs.length,true),(Nat.ble n 35184372088832,true)] path)
    | none=>none
   | none=>none
  | none=>none
 | _=>none
theorem Afj:A' dn 277 rpadSp:=by
 refine DC Tryz.func277 dk dk fun args H fr path r hs=>?_
 unfold rpadSp at hs;split at hs;case h_2=>cases hs
 rename_i S;split at hs;case h_2=>cases hs
 rename_i k off n hS;split at hs;case h_2=>cases hs
 rename_i ty cs o hk;split at hs;case h_2=>cases hs
 rename_i xs hxs;injection hs with hs;refine ⟨[k],1,1,[],_,_,_,path,hs.symm,fun β us w ha hg hc=>?_⟩
 obtain ⟨u1,us1,r1,ha,rfl⟩:=ha;obtain ⟨m,r1⟩:=EU hS r1;obtain ⟨g1,g2,g3⟩:=ED hg hk hxs;exact ⟨[AP 0 off n m],Ax xs,Afi (f_ hc.1) (f_ hc.2.1),dk,⟨u1,_,CJ dl rfl r1,ha,rfl⟩,g2,g3⟩
noncomputable def SSn:dt:=(277,rpadSp)::SSm
theorem AIz:AT dn SSn:=⟨Afj,Afa⟩
noncomputable abbrev oSn:Orc:=AG SSn KV
theorem xA:OrcOk dn oSn:=AH AIz BJ
noncomputable def AI0 (off n m:Nat) (xs:dp):ASt:=Ah Tryz.f245 [AP 0 off n m] (Ax xs) 1 []
abbrev xB:Option (List Nat×List Nat×Nat):=some ([2,3,4,5],[1,2,3],4)
noncomputable def Pi (off n m:Nat) (xs:dp):ASt:=ID (AW dn oSn (some 0) 100 1 xB (AI0 off n m xs))
noncomputable def Afk:List Item:=(Pi 0 0 0 []).todo
noncomputable def Uo (N:Nat) (P:dp) (s:Nat→Int) (i:Int) (p:List Bool):ASt:=⟨Afk,⟨DT Tryz.f245.ntmps [(2,.val false [.p 1 0]),(3,.val false [.sx 2 N 1]),(4,.val false [.p 3 0]),(5,iA i)],[(1,some ⟨54,List.replicate 32 (.n .u8 0),false⟩),(2,some ⟨5,[.seq .u8 P],true⟩),(3,some ⟨109,[.seq .u32 (l8 s)],false⟩)],4,p⟩⟩
theorem Afl (off n m:Nat) (xs:dp):AW dn oSn (some 0) 100 1 xB (AI0 off n m xs)=some ((Nat.ble (off+n) xs.length,true)::(Nat.ble n 35184372088832,true)::[],[],Pi off n m xs):=dk
theorem Afm (off n m:Nat) (xs:dp):(⟨(Pi off n m xs).todo,⟨(Pi off n m xs).s.T.map F6,(Pi off n m xs).s.H,(Pi off n m xs).s.fr,(Pi off n m xs).s.path⟩⟩:ASt)=Uo (Ap n) (C5 (AA xs off n)) (BN X9) 0 []:=dk
def Pj (i:Int) (j:Nat):Int:=wI (i+(j:Int))
def fY (N len:Nat) (i:Int):Nat→Nat→dr
 | 0,_=>[(true,true),(true,true)]
 | f+1,j=>(decide (0≤Pj i j∧Pj i j<N),true)::(decide (0+(Pj i j).toNat*1<len),true)::fY N len i f (j+1)
def xC (P:dp) (i:Int):dp:=(List.range 64).map fun j=>P.getD (0+(Pj i j).toNat*1) 0
def xD (s:Nat→Int) (P:dp) (i:Int):Nat→Int:=BN (RV (wN (l8 s)) (bN (xC P i)))
theorem Afn (N:Nat) (P:dp) (s:Nat→Int) (i:Int):AW dn oSn (some 4) 3000 1 xB (Uo N P s i dw)=some ((AJ .i64 N,true)::(decide (wI (i+64)≤N),true)::fY N P.length i 64 0,[],Uo N P (xD s P i) (wI (i+64)) []):=dk
noncomputable def Ri (N:Nat) (P:dp) (s:Nat→Nat) (i:Int):=AR dn oSn Tryz.f245 1000 1 [] (Uo N P (BN s) i du)
def fZ:dr→dr
 | _::_::r=>r
 | _=>[]
def xE (x:Option (dr×List Nat×AV×Heap)):dr:=match x with | some (c,_,_,_)=>c | none=>[]
def o4K (x:Option (dr×List Nat×AV×Heap)):List Nat:=match x with | some (_,k,_,_)=>k | none=>[0]
def o4I (x:Option (dr×List Nat×AV×Heap)):Bool:=match x with | some _=>true | none=>false
structure Outc (x:Option (dr×List Nat×AV×Heap)) (a b:Bool×Bool):Prop where
 io:o4I x=true
 ky:o4K x=[]
 co:xE x=a::b::fZ (xE x)
 cd:RW (fZ (xE x))=true
theorem Afq {P:Program} {O:Orc} {f:FuncId} {fn:Func} {β0:Env} {w0:World} {n:Fz} {W:List Nat} (hO:OrcOk P O) (hm:P.follows .mixedOrders=true) (hfn:P.funcs[f]? = some fn) {fuel k0:Nat} {ks:List Nat} {x:ASt} {a b:Bool×Bool}
  (h:Outc (AR P O fn fuel k0 ks x) a b) (ha:a.1=a.2) (hb:b.1=b.2) (hwf:BO n x.s) (h0:∀ b,k0≤b→β0 b=none) (hD:n.D=[]:=by rfl):ASafe P f β0 w0 (A4 β0 w0 W (MR (AR P O fn fuel k0 ks x)) (Un (AR P O fn fuel k0 ks x))) n W x:=by
 obtain ⟨h1,h2,h3,h4⟩:=h;generalize e:AR P O fn fuel k0 ks x=y at *
 cases y with
 | none=>cases h1
 | some v =>
  obtain ⟨c',k,v,H⟩:=v;have h2:k=[]:=h2
  have h3':c'=a::b::fZ c':=h3
  subst h2;refine Av hO hm hfn e ?_ hwf h0 ft hD
  have h5:AM (a::b::fZ c'):=⟨ha,hb,UY h4⟩
  rwa [← h3'] at h5
theorem Afr {P:Program} {f:FuncId} {β0:Env} {w0:World} {R:Ending→World→Prop} {n:Nat} {W:List Nat} {x:ASt} (h:ASafe P f β0 w0 R n W ⟨x.todo,⟨x.s.T.map F6,x.s.H,x.s.fr,x.s.path⟩⟩):ASafe P f β0 w0 R n W x:=Hv (T:=x.s.T) h
theorem Afs (N:Nat) (P:dp) (s:Nat→Nat) (i:Int):Outc (Ri N P s i) (AJ .i64 N,true) (decide (wI (i+64)≤N),false):=⟨dk,dk,dk,dk⟩
theorem Aft (N:Nat) (P:dp) (s:Nat→Nat) (i:Int):MR (Ri N P s i)=.val true (fW (MR (Ri N P s i))):=dk
theorem Afu (N:Nat) (P:dp) (s:Nat→Nat) (i:Int):Az .u8 (fW (MR (Ri N P s i)))=some (wV (BN s)):=dk
theorem Afv (N:Nat) (P:dp) (s:Nat→Nat) (i:Int):Un (Ri N P s i)=[]:=dk
theorem Afw {β0:Env} {w0:World} (h0:∀ b,1≤b→β0 b=none) {N:Nat} (P:dp) (s:Nat→Nat) {i:Int} (hN:AJ .i64 N=true) (hi:decide (wI (i+64)≤N)=false) :
  ASafe dn 245 β0 w0 (A4 β0 w0 [] (.val true [.seq .u8 ((List.range 32).map fun i=>((s (i / 4) / 2^(24-8*(i % 4)) % 256:Nat):Int))]) []) Tryz.f245.ntmps [] (Uo N P (BN s) i du):=by
 have:=Afq (P:=dn) (n:=Tryz.f245.ntmps) (β0:=β0) (w0:=w0) (W:=[]) xA AB Tryz.func245 (Afs N P s i) hN hi (AQ dk) h0
 refine AIt this fun e w ho=>?_
 have ho:A4 β0 w0 [] (MR (Ri N P s i)) (Un (Ri N P s i)) e w:=ho
 rw [Afv] at ho;rw [← AIr s];exact AIp (AIs (Aft N P s i) (Afu N P s i)) ho
theorem AI1 {N len:Nat} {i:Nat} (hN:N≤281474976710656) (hl:N≤len):∀ f j,i+j+f≤N→AM (fY N len (i:Int) f j)
 | 0,_,_=>⟨rfl,rfl,trivial⟩
 | f+1,j,h=>by
  have e:Pj (i:Int) j=((i+j:Nat):Int):=by unfold Pj;rw [Ao dl];omega
  rw [fY,e];exact ⟨fu ⟨dl,dl⟩,fu dl,AI1 hN hl f (j+1) dl⟩
theorem Afx {P:dp} {i:Nat} (h:i+64≤P.length) (hP:P.length≤281474976710656):xC P (i:Int)=(P.drop i).take 64:=by
 unfold xC;refine og (by simp;omega) fun k h1 h2=>?_
 have hk:k<64:=by simpa using h1
 have e:Pj (i:Int) k=((i+k:Nat):Int):=by unfold Pj;rw [Ao dl];omega
 rw [List.getElem_map,List.getElem_range,e,List.getElem_take,List.getElem_drop,show 0+((i+k:Nat):Int).toNat*1=i+k by omega]
 simp [List.getD_eq_getElem?_getD,show i+k<P.length by omega]
theorem Afy {off n m:Nat} {xs:dp} (hl:off+n≤xs.length) (hn:n≤35184372088832):Ac dn 245 [AP 0 off n m] (Ax xs) 1 [] (.val true [.seq .u8 (HX (AA xs off n))]) []:=by
 have hw:(AA xs off n).length=n:=by unfold AA;rw [h_,ir];omega
 have hK:Ap n=64*(Ap n / 64):=by unfold Ap;omega
 have hp:=N2 n;have hN:Ap n≤n+72:=by unfold Ap;omega
 have hlen:=AIK (AA xs off n)
 rw [hw] at hlen;have hh:AJ .i64 (Ap n)=true:=by simp only [AJ,gi,gc];omega
 refine Ay (path:=[]) Tryz.func245 dk dk fun β0 w0 h0=>?_
 refine Ag xA AB (Afl off n m xs) ⟨gb hl,gb hn,trivial⟩ (AQ dk) h0 ft fun _=>?_
 refine Afr (x:=Pi off n m xs) ?_
 rw [Afm];have loop:∀ r k,k+r=Ap n / 64→ASafe dn 245 β0 w0 (A4 β0 w0 [] (.val true [.seq .u8 (HX (AA xs off n))]) []) Tryz.f245.ntmps [] (Uo (Ap n) (C5 (AA xs off n)) (BN (MQ (C5 (AA xs off n)) k)) ((64*k:Nat):Int) []):=by
  intro r;induction r with
  | zero =>
   intro k hk;have:=Afw (N:=Ap n) (i:=((64*k:Nat):Int)) h0 (C5 (AA xs off n)) (MQ (C5 (AA xs off n)) (Ap n / 64)) (w0:=w0) hh (by rw [Ao dl];exact ga dl)
   unfold HX fU;rw [hw,show k=Ap n / 64 by omega] at *
   exact Ae du this
  | succ r ih =>
   intro k hk;refine Ae dw (Ag xA AB (Afn ..) ⟨hh,by rw [Ao dl];exact fu dl,AI1 dl dl 64 0 dl⟩ (AQ dk) h0 ft fun _=>?_)
   have e:xD (BN (MQ (C5 (AA xs off n)) k)) (C5 (AA xs off n)) ((64*k:Nat):Int)=BN (MQ (C5 (AA xs off n)) (k+1)):=by
    unfold xD;rw [Afx dl dl];rfl
   rw [e,Ao (z:=((64*k:Nat):Int)+64) dl];have:=ih (k+1) dl
   rw [show ((64*(k+1):Nat):Int)=((64*k:Nat):Int)+64 by omega] at this
   exact this
 exact loop (Ap n / 64) 0 dl
noncomputable def SSo:dt:=(245,sumSp)::SSn
theorem AI2:AT dn SSo:=⟨AIv Tryz.func245 dk dk fun _=>Afy,AIz⟩
noncomputable abbrev oSo:Orc:=AG SSo KV
theorem Up:OrcOk dn oSo:=AH AI2 BJ
noncomputable abbrev grF:Func:=Tryz.f89
def Uq:AV:=.val false [.v (.slice none 0 0)]
noncomputable def xF (i:Int) (p:List Bool):ASt:=Ah grF [Uq,iA i] [] 0 p
def Pk (i:Int):Int:=wI (i-wI ((0:Int)-0))
def xG (i:Int):Heap:=[(0,some ⟨5,[.seq .u8 (List.replicate i.toNat 0)],true⟩)]
theorem Afz (i:Int):AR dn oSo grF 200 0 [0] (xF i dz)=some ((decide (i<0),false)::(true,true)::(decide (0<Pk i),true)::(true,true)::(decide (0≤Pk i∧Pk i≤9223372036854775807),true)::(D1 (0+(Pk i).toNat),true)::(true,true)::(true,true)::[],[],.val false [.sx 0 0 1],xG (Pk i)):=dk
noncomputable def Ur (i:Int):ASt:=ID (FV dn oSo 14 0 (xF i d_))
theorem Af0 (i:Int):FV dn oSo 14 0 (xF i d_)=some ((decide (i<0),false)::(true,true)::(decide (0<Pk i),false)::[],[],Ur i):=dk
theorem Af1 (i:Int):AR dn oSo grF 200 0 [0] ⟨(Ur i).todo,⟨TN 0 1 [0] 0 (Ur i).s.T,[]++[(0,some ⟨5,[.seq .u8 []],true⟩)],0+1,[]⟩⟩=some ([],[],.val false [.sx 0 0 1],[(0,some ⟨5,[.seq .u8 []],true⟩)]):=dk
theorem Af2 (i:Int):Ur i=⟨(Ur i).todo,⟨(Ur i).s.T,[],0,[]⟩⟩:=dk
theorem Af3 {i:Nat} (h:i≤35184372088832):Pk (i:Int)=i:=by
 unfold Pk;rw [show wI ((0:Int)-0)=0 from rfl,Ao dl];omega
theorem Af4 {i:Nat} (h:i≤35184372088832):Ac dn 89 [Uq,iA i] [] 0 [] (.val false [.sx 0 0 1]) (xG i):=by
 have e:=Af3 h;rcases jh i with h0 | h0
 ·subst h0;refine Ay (path:=d_) Tryz.func89 dk dk fun β0 w0 hb=>?_
  refine QQ Up AB (Af0 ((0:Nat):Int)) ⟨dm,rfl,by rw [e];decide,trivial⟩ (AQ dk) hb ft fun _=>?_
  rw [Af2];refine nA (ts:=[0]) (sz:=1) (ty:=5) (kd:=.u8) rfl (hb 0 (gd _)) ?_
  exact Av Up AB Tryz.func89 (Af1 _) trivial (AQ dk) hb ft
 ·refine Ay (path:=dz) Tryz.func89 dk dk fun β0 w0 hb=>?_
  have:=Av (P:=dn) (n:=grF.ntmps) (β0:=β0) (w0:=w0) (W:=[]) Up AB Tryz.func89 (Afz (i:Int)) ⟨ga dl,rfl,fu (by rw [e];omega),rfl,fu (by rw [e];omega),by rw [e];exact D_ dl,rfl,rfl,trivial⟩ (AQ dk) hb ft
  rw [e] at this;exact this
def grSp:ASpec:=fun args _ fr path=>match args with
 | [.val false [.v (.slice none 0 0)],I]=>match Bg (some I) with
  | some (_,.i64,i)=>some (BI [] 0 fr 1 [] (.val false [.sx 0 0 1]) (xG i) [(decide (0≤i∧i≤35184372088832),true)] path)
  | _=>none
 | _=>none
theorem AI3 {β:Env} {w:World}:Ex.Good (A3 β [] 0) [] w:=⟨(fun _ _ h=>by cases h),(fun _ _ _ _ _ h=>by cases h),(fun b B n h=>by
 have e:Nat.blt b 0=false:=by cases q:Nat.blt b 0 with | false=>rfl | true=>exact absurd (BP.1 q) (ld b)
 simp [A3,e] at h)⟩
theorem Af5:A' dn 89 grSp:=by
 refine DC Tryz.func89 dk dk fun args H fr path r hs=>?_
 unfold grSp at hs;split at hs;case h_2=>cases hs
 rename_i I;split at hs;case h_2=>cases hs
 rename_i c i hI;injection hs with hs;refine ⟨[],0,1,[],_,_,_,path,hs.symm,fun β us w ha hg hc=>?_⟩
 obtain ⟨u1,us1,r1,⟨u2,us2,r2,ha,rfl⟩,rfl⟩:=ha;have hi:=gv hc.1;obtain ⟨n,rfl⟩:=ic hi.1;exact ⟨[Uq,iA n],[],Af4 dl,dk,⟨u1,_,LZ rfl r1,⟨u2,_,(ML hI r2).2 _,ha,rfl⟩,rfl⟩,AI3,fun k h=>by cases h⟩
noncomputable def SSp:dt:=(89,grSp)::SSo
theorem AI4:AT dn SSp:=⟨Af5,AI2⟩
noncomputable abbrev oSp:Orc:=AG SSp KV
theorem gA:OrcOk dn oSp:=AH AI4 BJ
abbrev fl:List Bool:=[true,false,true,false,true,false,false,true,true,true,false]
abbrev fm:List Bool:=[true,false,true,false,true,false,true,false,false,true,true,true,true,false]
open Ex Num
set_option maxRecDepth 100000
set_option maxHeartbeats 4000000
noncomputable abbrev ccF:Func:=Tryz.f37
def Jt (k:Nat) (ys:dp):Heap:=[(k,some ⟨5,[.seq .u8 ys],true⟩)]
theorem GK {xs:dp} {off n:Nat} (h:off+n≤xs.length):(AA xs off n).length=n:=by unfold AA;rw [h_,ir];omega
theorem FK {l:dp} {n:Nat} (h:l.length=n):l.take n=l:=ko dl
theorem LA {a b:dp} {n m:Nat} (h:a.length=n) (k:b.length=m):(a++b).length=n+m:=by rw [ib,h,k]
theorem GL {L:Nat} (h:L≤35184372088832):AJ .i64 L=true:=by simp only [AJ,gi,gc];omega
theorem gB (n:Nat):decide ((n:Int)<0)=false:=ga dl
theorem Rj {a b:Nat} (h:a+b≤35184372088832):wI ((a:Int)+(b:Int))=((a+b:Nat):Int):=by rw [Ao dl];omega
noncomputable def xH (o1 n1 m1 o2 n2 m2:Nat) (x1 x2:dp):Heap:=[(0,some (Am [.sl 1 o1 n1 m1,.sl 2 o2 n2 m2])),(1,some (Am [.seq .u8 x1])),(2,some (Am [.seq .u8 x2]))]
noncomputable def Af6 (o1 n1 m1 o2 n2 m2:Nat) (x1 x2:dp):ASt:=Ah ccF [AP 0 0 2 2] (xH o1 n1 m1 o2 n2 m2 x1 x2) 3 [true,false,true,false,false,true,true,false]
def gD (n1 n2:Nat):Int:=wI (wI (0+(n1:Int))+(n2:Int))
def AI5 (o1 n1 o2 n2:Nat) (x1 x2:dp):dp:=(AA x1 o1 n1).take (0+n1)++AA x2 o2 n2
theorem Af7 (o1 n1 m1 o2 n2 m2:Nat) (x1 x2:dp):AR dn oSp ccF 400 3 [5] (Af6 o1 n1 m1 o2 n2 m2 x1 x2)=some (tt 3 ((AJ .i64 n1,true)::(decide (wI (0+(n1:Int))<0),false)::tt 2 ((AJ .i64 n2,true)::(decide (wI (wI (0+(n1:Int))+(n2:Int))<0),false)::(false,false)::(decide (0≤gD n1 n2∧gD n1 n2≤35184372088832),true)::tt 4 ((Nat.ble (o1+n1) x1.length,true)::(D1 (0+n1),true)::tt 2 ((Nat.ble (0+n1) (AA x1 o1 n1).length,true)::(Nat.ble (o2+n2) x2.length,true)::(D1 (0+n1+n2),true)::(false,false)::[])))),[],.val false [.sx 5 (0+n1+n2) 1],Jt 5 (AI5 o1 n1 o2 n2 x1 x2)):=dk
theorem Af8 {o1 n1 m1 o2 n2 m2:Nat} {x1 x2:dp} (h1:o1+n1≤x1.length) (h2:o2+n2≤x2.length) (hn:n1+n2≤35184372088832):Ac dn 37 [AP 0 0 2 2] (xH o1 n1 m1 o2 n2 m2 x1 x2) 3 [] (.val false [.sx 5 (n1+n2) 1]) (Jt 5 (AA x1 o1 n1++AA x2 o2 n2)):=by
 have w1:=GK h1;have w2:=GK h2;have e1:wI (0+(n1:Int))=(n1:Nat):=by rw [Ao dl];omega
 have e2:=Rj (a:=n1) (b:=n2) dl
 have eA:gD n1 n2=((n1+n2:Nat):Int):=by unfold gD;rw [e1,e2]
 have l1:=w1;have l2:=LA l1 w2;have q2:(AA x1 o1 n1).take (0+n1)++AA x2 o2 n2=AA x1 o1 n1++AA x2 o2 n2:=by rw [show 0+n1=n1 by omega,FK l1]
 have eY:AI5 o1 n1 o2 n2 x1 x2=AA x1 o1 n1++AA x2 o2 n2:=q2
 have eL:0+n1+n2=n1+n2:=dl
 refine Ay (path:=[true,false,true,false,false,true,true,false]) Tryz.func37 dk dk fun β0 w0 hb=>?_
 have:=Av (P:=dn) (n:=ccF.ntmps) (β0:=β0) (w0:=w0) (W:=[]) gA AB Tryz.func37 (Af7 o1 n1 m1 o2 n2 m2 x1 x2) ?_ (AQ dk) hb ft
 ·rw [eY,eL] at this;exact this
 ·rw [eA];simp only [e1,e2,gB];exact Ad 3 ⟨GL dl,rfl,Ad 2 ⟨GL dl,rfl,rfl,fu ⟨dl,dl⟩,Ad 4 ⟨gb h1,D_ dl,Ad 2 ⟨gb (by rw [w1];omega),gb h2,D_ dl,rfl,trivial⟩⟩⟩⟩
noncomputable def xI (o1 n1 m1 o2 n2 m2 o3 n3 m3:Nat) (x1 x2 x3:dp):Heap:=[(0,some (Am [.sl 1 o1 n1 m1,.sl 2 o2 n2 m2,.sl 3 o3 n3 m3])),(1,some (Am [.seq .u8 x1])),(2,some (Am [.seq .u8 x2])),(3,some (Am [.seq .u8 x3]))]
noncomputable def Af9 (o1 n1 m1 o2 n2 m2 o3 n3 m3:Nat) (x1 x2 x3:dp):ASt:=Ah ccF [AP 0 0 3 3] (xI o1 n1 m1 o2 n2 m2 o3 n3 m3 x1 x2 x3) 4 fl
def gE (n1 n2 n3:Nat):Int:=wI (wI (wI (0+(n1:Int))+(n2:Int))+(n3:Int))
def AI6 (o1 n1 o2 n2 o3 n3:Nat) (x1 x2 x3:dp):dp:=((AA x1 o1 n1).take (0+n1)++AA x2 o2 n2).take (0+n1+n2)++AA x3 o3 n3
theorem Af_ (o1 n1 m1 o2 n2 m2 o3 n3 m3:Nat) (x1 x2 x3:dp):AR dn oSp ccF 400 4 [7] (Af9 o1 n1 m1 o2 n2 m2 o3 n3 m3 x1 x2 x3)=some (tt 3 ((AJ .i64 n1,true)::(decide (wI (0+(n1:Int))<0),false)::tt 2 ((AJ .i64 n2,true)::(decide (wI (wI (0+(n1:Int))+(n2:Int))<0),false)::tt 2 ((AJ .i64 n3,true)::(decide (wI (wI (wI (0+(n1:Int))+(n2:Int))+(n3:Int))<0),false)::(false,false)::(decide (0≤gE n1 n2 n3∧gE n1 n2 n3≤35184372088832),true)::tt 4 ((Nat.ble (o1+n1) x1.length,true)::(D1 (0+n1),true)::tt 2 ((Nat.ble (0+n1) (AA x1 o1 n1).length,true)::(Nat.ble (o2+n2) x2.length,true)::(D1 (0+n1+n2),true)::tt 2 ((Nat.ble (0+n1+n2) ((AA x1 o1 n1).take (0+n1)++AA x2 o2 n2).length,true)::(Nat.ble (o3+n3) x3.length,true)::(D1 (0+n1+n2+n3),true)::(false,false)::[])))))),[],.val false [.sx 7 (0+n1+n2+n3) 1],Jt 7 (AI6 o1 n1 o2 n2 o3 n3 x1 x2 x3)):=dk
theorem Af' {o1 n1 m1 o2 n2 m2 o3 n3 m3:Nat} {x1 x2 x3:dp} (h1:o1+n1≤x1.length) (h2:o2+n2≤x2.length) (h3:o3+n3≤x3.length) (hn:n1+n2+n3≤35184372088832):Ac dn 37 [AP 0 0 3 3] (xI o1 n1 m1 o2 n2 m2 o3 n3 m3 x1 x2 x3) 4 [] (.val false [.sx 7 (n1+n2+n3) 1]) (Jt 7 (AA x1 o1 n1++AA x2 o2 n2++AA x3 o3 n3)):=by
 have w1:=GK h1;have w2:=GK h2;have w3:=GK h3;have e1:wI (0+(n1:Int))=(n1:Nat):=by rw [Ao dl];omega
 have e2:=Rj (a:=n1) (b:=n2) dl
 have e3:=Rj (a:=n1+n2) (b:=n3) dl
 have eA:gE n1 n2 n3=((n1+n2+n3:Nat):Int):=by unfold gE;rw [e1,e2,e3]
 have l1:=w1;have l2:=LA l1 w2;have l3:=LA l2 w3;have q2:(AA x1 o1 n1).take (0+n1)++AA x2 o2 n2=AA x1 o1 n1++AA x2 o2 n2:=by rw [show 0+n1=n1 by omega,FK l1]
 have q3:((AA x1 o1 n1).take (0+n1)++AA x2 o2 n2).take (0+n1+n2)++AA x3 o3 n3=AA x1 o1 n1++AA x2 o2 n2++AA x3 o3 n3:=by rw [q2,show 0+n1+n2=n1+n2 by omega,FK l2]
 have eY:AI6 o1 n1 o2 n2 o3 n3 x1 x2 x3=AA x1 o1 n1++AA x2 o2 n2++AA x3 o3 n3:=q3
 have eL:0+n1+n2+n3=n1+n2+n3:=dl
 refine Ay (path:=fl) Tryz.func37 dk dk fun β0 w0 hb=>?_
 have:=Av (P:=dn) (n:=ccF.ntmps) (β0:=β0) (w0:=w0) (W:=[]) gA AB Tryz.func37 (Af_ o1 n1 m1 o2 n2 m2 o3 n3 m3 x1 x2 x3) ?_ (AQ dk) hb ft
 ·rw [eY,eL] at this;exact this
 ·rw [eA];simp only [e1,e2,e3,gB];exact Ad 3 ⟨GL dl,rfl,Ad 2 ⟨GL dl,rfl,Ad 2 ⟨GL dl,rfl,rfl,fu ⟨dl,dl⟩,Ad 4 ⟨gb h1,D_ dl,Ad 2 ⟨gb (by rw [w1];omega),gb h2,D_ dl,Ad 2 ⟨gb (by rw [q2,l2];omega),gb h3,D_ dl,rfl,trivial⟩⟩⟩⟩⟩⟩
noncomputable def xJ (o1 n1 m1 o2 n2 m2 o3 n3 m3 o4 n4 m4:Nat) (x1 x2 x3 x4:dp):Heap:=[(0,some (Am [.sl 1 o1 n1 m1,.sl 2 o2 n2 m2,.sl 3 o3 n3 m3,.sl 4 o4 n4 m4])),(1,some (Am [.seq .u8 x1])),(2,some (Am [.seq .u8 x2])),(3,some (Am [.seq .u8 x3])),(4,some (Am [.seq .u8 x4]))]
noncomputable def AgA (o1 n1 m1 o2 n2 m2 o3 n3 m3 o4 n4 m4:Nat) (x1 x2 x3 x4:dp):ASt:=Ah ccF [AP 0 0 4 4] (xJ o1 n1 m1 o2 n2 m2 o3 n3 m3 o4 n4 m4 x1 x2 x3 x4) 5 fm
def gG (n1 n2 n3 n4:Nat):Int:=wI (wI (wI (wI (0+(n1:Int))+(n2:Int))+(n3:Int))+(n4:Int))
def AI7 (o1 n1 o2 n2 o3 n3 o4 n4:Nat) (x1 x2 x3 x4:dp):dp:=(((AA x1 o1 n1).take (0+n1)++AA x2 o2 n2).take (0+n1+n2)++AA x3 o3 n3).take (0+n1+n2+n3)++AA x4 o4 n4
theorem AgB (o1 n1 m1 o2 n2 m2 o3 n3 m3 o4 n4 m4:Nat) (x1 x2 x3 x4:dp):AR dn oSp ccF 400 5 [9] (AgA o1 n1 m1 o2 n2 m2 o3 n3 m3 o4 n4 m4 x1 x2 x3 x4)=some (tt 3 ((AJ .i64 n1,true)::(decide (wI (0+(n1:Int))<0),false)::tt 2 ((AJ .i64 n2,true)::(decide (wI (wI (0+(n1:Int))+(n2:Int))<0),false)::tt 2 ((AJ .i64 n3,true)::(decide (wI (wI (wI (0+(n1:Int))+(n2:Int))+(n3:Int))<0),false)::tt 2 ((AJ .i64 n4,true)::(decide (wI (wI (wI (wI (0+(n1:Int))+(n2:Int))+(n3:Int))+(n4:Int))<0),false)::(false,false)::(decide (0≤gG n1 n2 n3 n4∧gG n1 n2 n3 n4≤35184372088832),true)::tt 4 ((Nat.ble (o1+n1) x1.length,true)::(D1 (0+n1),true)::tt 2 ((Nat.ble (0+n1) (AA x1 o1 n1).length,true)::(Nat.ble (o2+n2) x2.length,true)::(D1 (0+n1+n2),true)::tt 2 ((Nat.ble (0+n1+n2) ((AA x1 o1 n1).take (0+n1)++AA x2 o2 n2).length,true)::(Nat.ble (o3+n3) x3.length,true)::(D1 (0+n1+n2+n3),true)::tt 2 ((Nat.ble (0+n1+n2+n3) (((AA x1 o1 n1).take (0+n1)++AA x2 o2 n2).take (0+n1+n2)++AA x3 o3 n3).length,true)::(Nat.ble (o4+n4) x4.length,true)::(D1 (0+n1+n2+n3+n4),true)::(false,false)::[])))))))),[],.val false [.sx 9 (0+n1+n2+n3+n4) 1],Jt 9 (AI7 o1 n1 o2 n2 o3 n3 o4 n4 x1 x2 x3 x4)):=dk
theorem AgC {o1 n1 m1 o2 n2 m2 o3 n3 m3 o4 n4 m4:Nat} {x1 x2 x3 x4:dp} (h1:o1+n1≤x1.length) (h2:o2+n2≤x2.length) (h3:o3+n3≤x3.length) (h4:o4+n4≤x4.length) (hn:n1+n2+n3+n4≤35184372088832):Ac dn 37 [AP 0 0 4 4] (xJ o1 n1 m1 o2 n2 m2 o3 n3 m3 o4 n4 m4 x1 x2 x3 x4) 5 [] (.val false [.sx 9 (n1+n2+n3+n4) 1]) (Jt 9 (AA x1 o1 n1++AA x2 o2 n2++AA x3 o3 n3++AA x4 o4 n4)):=by
 have w1:=GK h1;have w2:=GK h2;have w3:=GK h3;have w4:=GK h4;have e1:wI (0+(n1:Int))=(n1:Nat):=by rw [Ao dl];omega
 have e2:=Rj (a:=n1) (b:=n2) dl
 have e3:=Rj (a:=n1+n2) (b:=n3) dl
 have e4:=Rj (a:=n1+n2+n3) (b:=n4) dl
 have eA:gG n1 n2 n3 n4=((n1+n2+n3+n4:Nat):Int):=by unfold gG;rw [e1,e2,e3,e4]
 have l1:=w1;have l2:=LA l1 w2;have l3:=LA l2 w3;have l4:=LA l3 w4;have q2:(AA x1 o1 n1).take (0+n1)++AA x2 o2 n2=AA x1 o1 n1++AA x2 o2 n2:=by rw [show 0+n1=n1 by omega,FK l1]
 have q3:((AA x1 o1 n1).take (0+n1)++AA x2 o2 n2).take (0+n1+n2)++AA x3 o3 n3=AA x1 o1 n1++AA x2 o2 n2++AA x3 o3 n3:=by rw [q2,show 0+n1+n2=n1+n2 by omega,FK l2]
 have q4:(((AA x1 o1 n1).take (0+n1)++AA x2 o2 n2).take (0+n1+n2)++AA x3 o3 n3).take (0+n1+n2+n3)++AA x4 o4 n4=AA x1 o1 n1++AA x2 o2 n2++AA x3 o3 n3++AA x4 o4 n4:=by rw [q3,show 0+n1+n2+n3=n1+n2+n3 by omega,FK l3]
 have eY:AI7 o1 n1 o2 n2 o3 n3 o4 n4 x1 x2 x3 x4=AA x1 o1 n1++AA x2 o2 n2++AA x3 o3 n3++AA x4 o4 n4:=q4
 have eL:0+n1+n2+n3+n4=n1+n2+n3+n4:=dl
 refine Ay (path:=fm) Tryz.func37 dk dk fun β0 w0 hb=>?_
 have:=Av (P:=dn) (n:=ccF.ntmps) (β0:=β0) (w0:=w0) (W:=[]) gA AB Tryz.func37 (AgB o1 n1 m1 o2 n2 m2 o3 n3 m3 o4 n4 m4 x1 x2 x3 x4) ?_ (AQ dk) hb ft
 ·rw [eY,eL] at this;exact this
 ·rw [eA];simp only [e1,e2,e3,e4,gB];exact Ad 3 ⟨GL dl,rfl,Ad 2 ⟨GL dl,rfl,Ad 2 ⟨GL dl,rfl,Ad 2 ⟨GL dl,rfl,rfl,fu ⟨dl,dl⟩,Ad 4 ⟨gb h1,D_ dl,Ad 2 ⟨gb (by rw [w1];omega),gb h2,D_ dl,Ad 2 ⟨gb (by rw [q2,l2];omega),gb h3,D_ dl,Ad 2 ⟨gb (by rw [q3,l3];omega),gb h4,D_ dl,rfl,trivial⟩⟩⟩⟩⟩⟩⟩⟩
noncomputable def xK (o1 n1 m1 o2 n2 m2:Nat) (x1 x2:dp):Heap:=[(0,some (Am [.v (.slice none 0 0),.sl 1 o1 n1 m1,.sl 2 o2 n2 m2])),(1,some (Am [.seq .u8 x1])),(2,some (Am [.seq .u8 x2]))]
noncomputable def AgD (o1 n1 m1 o2 n2 m2:Nat) (x1 x2:dp):ASt:=Ah ccF [AP 0 0 3 3] (xK o1 n1 m1 o2 n2 m2 x1 x2) 3 fl
def gH (n1 n2:Nat):Int:=wI (wI (wI (0+0)+(n1:Int))+(n2:Int))
def AI8 (o1 n1 o2 n2:Nat) (x1 x2:dp):dp:=(AA x1 o1 n1).take (0+n1)++AA x2 o2 n2
theorem AgE (o1 n1 m1 o2 n2 m2:Nat) (x1 x2:dp):AR dn oSp ccF 400 3 [6] (AgD o1 n1 m1 o2 n2 m2 x1 x2)=some (tt 4 ((false,false)::tt 2 ((AJ .i64 n1,true)::(decide (wI (wI (0+0)+(n1:Int))<0),false)::tt 2 ((AJ .i64 n2,true)::(decide (wI (wI (wI (0+0)+(n1:Int))+(n2:Int))<0),false)::(false,false)::(decide (0≤gH n1 n2∧gH n1 n2≤35184372088832),true)::tt 9 ((Nat.ble (o1+n1) x1.length,true)::(D1 (0+n1),true)::tt 2 ((Nat.ble (0+n1) (AA x1 o1 n1).length,true)::(Nat.ble (o2+n2) x2.length,true)::(D1 (0+n1+n2),true)::(false,false)::[]))))),[],.val false [.sx 6 (0+n1+n2) 1],Jt 6 (AI8 o1 n1 o2 n2 x1 x2)):=dk
theorem AgF {o1 n1 m1 o2 n2 m2:Nat} {x1 x2:dp} (h1:o1+n1≤x1.length) (h2:o2+n2≤x2.length) (hn:n1+n2≤35184372088832):Ac dn 37 [AP 0 0 3 3] (xK o1 n1 m1 o2 n2 m2 x1 x2) 3 [] (.val false [.sx 6 (n1+n2) 1]) (Jt 6 (AA x1 o1 n1++AA x2 o2 n2)):=by
 have w1:=GK h1;have w2:=GK h2;have e0:wI ((0:Int)+0)=0:=rfl
 have e1:wI (0+(n1:Int))=(n1:Nat):=by rw [Ao dl];omega
 have e2:=Rj (a:=n1) (b:=n2) dl
 have eA:gH n1 n2=((n1+n2:Nat):Int):=by unfold gH;rw [e0,e1,e2]
 have l1:=w1;have l2:=LA l1 w2;have q2:(AA x1 o1 n1).take (0+n1)++AA x2 o2 n2=AA x1 o1 n1++AA x2 o2 n2:=by rw [show 0+n1=n1 by omega,FK l1]
 have eY:AI8 o1 n1 o2 n2 x1 x2=AA x1 o1 n1++AA x2 o2 n2:=q2
 have eL:0+n1+n2=n1+n2:=dl
 refine Ay (path:=fl) Tryz.func37 dk dk fun β0 w0 hb=>?_
 have:=Av (P:=dn) (n:=ccF.ntmps) (β0:=β0) (w0:=w0) (W:=[]) gA AB Tryz.func37 (AgE o1 n1 m1 o2 n2 m2 x1 x2) ?_ (AQ dk) hb ft
 ·rw [eY,eL] at this;exact this
 ·rw [eA];simp only [e0,e1,e2,gB];exact Ad 4 ⟨rfl,Ad 2 ⟨GL dl,rfl,Ad 2 ⟨GL dl,rfl,rfl,fu ⟨dl,dl⟩,Ad 9 ⟨gb h1,D_ dl,Ad 2 ⟨gb (by rw [w1];omega),gb h2,D_ dl,rfl,trivial⟩⟩⟩⟩⟩
open Ex Num
theorem MS {β:Env} {H:Heap} {w:World} {ρ:List Nat} {bs:List Blk} (g:Ex.Good β H w) (h:∀ j d,bs[j]? = some d→d.ty=Bf∧DN (A3 β ρ bs.length) d j w):Ex.Good (A3 β ρ bs.length) (M2 0 bs) w:=by
 refine ⟨fun j blk hj=>?_,fun i j B n n' h1 _ _ _=>?_,fun j B n hj=>?_⟩
 ·obtain ⟨_,hj⟩:=Oq hj;rw [lz] at hj;exact (h j blk hj).2
 ·obtain ⟨d,hd,hr⟩:=F1 h1;obtain ⟨_,hd⟩:=Oq hd;rw [lz] at hd;exact absurd (h i d hd).1 hr
 ·unfold A3 at hj;split at hj
  ·exact g.lt _ _ _ hj
  ·cases hj
theorem LB {β:Env} {C:Ch} {k off n:Nat} {l:List Value} (h:DB (.val false [C])=some (k,off,n)) (hr:BF β C l):∃ m,BF β (.sl k off n m) l:=by
 have h1:∃ u,l=[u]:=by
  unfold DB at h;split at h
  ·rename_i he;injection he with _ he;injection he with he _;subst he;rcases hr with ⟨B,q,_,e⟩ | ⟨_,_,_,_,e⟩ | ⟨_,_,_,_,_,_,e⟩<;>exact ⟨_,e⟩
  ·rename_i he;injection he with _ he;injection he with he _;subst he;rcases hr with ⟨B,q,cap,_,e,_⟩ | ⟨_,_,e⟩<;>exact ⟨_,e⟩
  ·cases h
 obtain ⟨u,rfl⟩:=h1;obtain ⟨m,hm⟩:=EU (u:=u) h (Aq hr)
 exact ⟨m,Aw hm⟩
theorem LC {β:Env} {k j off n m:Nat} {ρ:List Nat} {k0:Nat} {l:List Value} (hj:j<k0) (hn:Ex.nth ρ j=k) (h:BF β (.sl k off n m) l):BF (A3 β ρ k0) (.sl j off n m) l:=by
 have e:A3 β ρ k0 j=β k:=by rw [Ed hj,hn]
 rcases h with ⟨B,q,q1,q2⟩ | ⟨q1,q2⟩ | ⟨q1,q2⟩
 ·exact .inl ⟨B,q,by rw [e];exact q1,q2⟩
 ·exact .inr (.inl ⟨by rw [e];exact q1,q2⟩)
 ·exact .inr (.inr ⟨by rw [e];exact q1,q2⟩)
theorem HY {β:Env} {H:Heap} {w:World} {k j ty:Nat} {cs:List Ch} {o:Bool} {xs:dp} {ρ:List Nat} {k0:Nat} (hg:Ex.Good β H w) (hk:AF H k=some ⟨ty,cs,o⟩) (hx:Az .u8 cs=some xs) (hj:j<k0) (hn:Ex.nth ρ j=k):DN (A3 β ρ k0) (Am [.seq .u8 xs]) j w:=by
 refine TV (hg.heap _ _ hk) (by rw [Ed hj,hn]) (.inl ⟨rfl,rfl,nofun⟩) fun l h=>?_
 obtain ⟨q1,q2⟩:=C8 hx h;exact ⟨_,[],⟨q1,q2⟩,rfl,by simp⟩
theorem gJ {β:Env} {H:Heap} {w:World} {k ty:Nat} {c:Ch} {cs:List Ch} {o:Bool} (hg:Ex.Good β H w) (hk:AF H k=some ⟨ty,c::cs,o⟩) (hz:EV c=1) (hw:Hp [c]=true):∃ l,AO β (c::cs) l∧∀ (β':Env) (cs':List Ch) (j:Nat),β' j=β k→AO β' cs' l→DN β' (Am cs') j w:=by
 rcases hg.heap _ _ hk with ⟨B,n,l,t,pre,ty',fz,q1,q2,q3,q4,_⟩ | ⟨_,_,_,q3⟩ | ⟨B,l,es,q,q1,q2,⟨l1,l2,q3,q5,q6⟩,q4⟩
 ·exact ⟨l,q2,fun β' cs' j he hr=>.inl ⟨B,n,l,t,pre,ty',fz,he.trans q1,hr,q3,q4,fun h=>absurd rfl h⟩⟩
 ·have:=SA q3
  simp only [LL,hz,List.length_nil] at this;omega
 ·exfalso
  have h1:=P7 q3;rw [hz] at h1;match l1,h1,q6 with
  | [x],_,q6 =>
   injection q6 with q6 _;subst q6;exact Ys hw ⟨_,[],q3,rfl,rfl⟩ (ni ..)
def I0 (H:Heap) (c:Ch):Option (Nat×Nat×Nat×dp):=match DB (.val false [c]) with
 | some (k,off,n)=>match AF H k with
  | some ⟨_,cs,_⟩=>match Az .u8 cs with
   | some xs=>some (k,off,n,xs)
   | none=>none
  | none=>none
 | none=>none
theorem LD {H:Heap} {c:Ch} {k off n:Nat} {xs:dp} (h:I0 H c=some (k,off,n,xs)):DB (.val false [c])=some (k,off,n)∧∃ ty cs o,AF H k=some ⟨ty,cs,o⟩∧Az .u8 cs=some xs:=by
 unfold I0 at h;split at h;case h_2=>cases h
 rename_i k' off' n' h1;split at h;case h_2=>cases h
 rename_i ty cs o h2;split at h;case h_2=>cases h
 rename_i xs' h3;injection h with h;injection h with e1 h;injection h with e2 h;injection h with e3 e4;subst e1;subst e2;subst e3;subst e4;exact ⟨h1,ty,cs,o,h2,h3⟩
theorem xL {c:Ch} {x:Nat×Nat×Nat} (h:DB (.val false [c])=some x):EV c=1:=by
 unfold DB at h;split at h
 ·rename_i he;injection he with _ he;injection he with he _;subst he;rfl
 ·rename_i he;injection he with _ he;injection he with he _;subst he;rfl
 ·cases h
theorem xM {c:Ch} {x:Nat×Nat×Nat} (h:DB (.val false [c])=some x):Hp [c]=true:=by
 unfold DB at h;split at h
 ·rename_i he;injection he with _ he;injection he with he _;subst he;rfl
 ·rename_i he;injection he with _ he;injection he with he _;subst he;rfl
 ·cases h
def xO (H:Heap) (k fr:Nat) (path:List Bool) (c1 c2:Ch):Option R:=match I0 H c1,I0 H c2 with
 | some (k1,o1,n1,x1),some (k2,o2,n2,x2)=>some (BI [k,k1,k2] 3 fr 3 [] (.val false [.sx 5 (n1+n2) 1]) (Jt 5 (AA x1 o1 n1++AA x2 o2 n2)) [(Nat.ble (o1+n1) x1.length,true),(Nat.ble (o2+n2) x2.length,true),(Nat.ble (n1+n2) 35184372088832,true)] path)
 | _,_=>none
def xP (H:Heap) (k fr:Nat) (path:List Bool) (c1 c2 c3:Ch):Option R:=match I0 H c1,I0 H c2,I0 H c3 with
 | some (k1,o1,n1,x1),some (k2,o2,n2,x2),some (k3,o3,n3,x3)=>some (BI [k,k1,k2,k3] 4 fr 4 [] (.val false [.sx 7 (n1+n2+n3) 1]) (Jt 7 (AA x1 o1 n1++AA x2 o2 n2++AA x3 o3 n3)) [(Nat.ble (o1+n1) x1.length,true),(Nat.ble (o2+n2) x2.length,true),(Nat.ble (o3+n3) x3.length,true),(Nat.ble (n1+n2+n3) 35184372088832,true)] path)
 | _,_,_=>none
def xQ (H:Heap) (k fr:Nat) (path:List Bool) (c1 c2 c3 c4:Ch):Option R:=match I0 H c1,I0 H c2,I0 H c3,I0 H c4 with
 | some (k1,o1,n1,x1),some (k2,o2,n2,x2),some (k3,o3,n3,x3),some (k4,o4,n4,x4)=>some (BI [k,k1,k2,k3,k4] 5 fr 5 [] (.val false [.sx 9 (n1+n2+n3+n4) 1]) (Jt 9 (AA x1 o1 n1++AA x2 o2 n2++AA x3 o3 n3++AA x4 o4 n4)) [(Nat.ble (o1+n1) x1.length,true),(Nat.ble (o2+n2) x2.length,true),(Nat.ble (o3+n3) x3.length,true),(Nat.ble (o4+n4) x4.length,true),(Nat.ble (n1+n2+n3+n4) 35184372088832,true)] path)
 | _,_,_,_=>none
def xR (H:Heap) (k fr:Nat) (path:List Bool) (c2 c3:Ch):Option R:=match I0 H c2,I0 H c3 with
 | some (k1,o1,n1,x1),some (k2,o2,n2,x2)=>some (BI [k,k1,k2] 3 fr 4 [] (.val false [.sx 6 (n1+n2) 1]) (Jt 6 (AA x1 o1 n1++AA x2 o2 n2)) [(Nat.ble (o1+n1) x1.length,true),(Nat.ble (o2+n2) x2.length,true),(Nat.ble (n1+n2) 35184372088832,true)] path)
 | _,_=>none
def ccSp:ASpec:=fun args H fr path=>match args with
 | [.val false [.sl k 0 n m]]=>match AF H k,Nat.beq m n with
  | some ⟨_,cs,_⟩,true=>match cs with
   | [c1,c2]=>match Nat.beq n 2 with
    | true=>xO H k fr path c1 c2
    | false=>none
   | [c1,c2,c3]=>match Nat.beq n 3,c1 with
    | true,.v (.slice none 0 0)=>xR H k fr path c2 c3
    | true,c1=>xP H k fr path c1 c2 c3
    | _,_=>none
   | [c1,c2,c3,c4]=>match Nat.beq n 4 with
    | true=>xQ H k fr path c1 c2 c3 c4
    | false=>none
   | _=>none
  | _,_=>none
 | _=>none
theorem AgG {H:Heap} {k fr ty:Nat} {path:List Bool} {c1 c2:Ch} {o:Bool} {r:R} (hk:AF H k=some ⟨ty,[c1,c2],o⟩) (hs:xO H k fr path c1 c2=some r) :
  ∃ (ρ:List Nat) (k0 nw:Nat) (W:List Nat) (val:AV) (H1:Heap) (conds:dr) (path':List Bool),
   r=BI ρ k0 fr nw W val H1 conds path'∧(∀ β us w,A_ β [AP k 0 2 2] us→Ex.Good β H w→AM conds→∃ args0 H0,Ac dn 37 args0 H0 k0 W val H1∧D5 k0 nw W val H1=true∧A_ (A3 β ρ k0) args0 us∧Ex.Good (A3 β ρ k0) H0 w∧(∀ k,k<k0→∃ X,β (Ex.nth ρ k)=some X)):=by
 unfold xO at hs;split at hs;case h_2=>cases hs
 rename_i k1 o1 n1 x1 k2 o2 n2 x2 a1 a2;injection hs with hs;obtain ⟨s1,ty1,cs1,p1,g1,t1⟩:=LD a1;obtain ⟨s2,ty2,cs2,p2,g2,t2⟩:=LD a2;refine ⟨[k,k1,k2],3,3,[],_,_,_,path,hs.symm,fun β us w ha hg hc=>?_⟩
 obtain ⟨b1,b2,hS,_⟩:=hc;obtain ⟨u1,us1,r1,ha,rfl⟩:=ha;obtain ⟨l,hl,hv⟩:=gJ hg hk (xL s1) (xM s1)
 obtain ⟨v1,l1,d1,f1,rfl⟩:=hl;obtain ⟨v2,l2,d2,f2,rfl⟩:=f1;obtain ⟨m1,d1⟩:=LB s1 d1;obtain ⟨m2,d2⟩:=LB s2 d2;refine ⟨[AP 0 0 2 2],xH o1 n1 m1 o2 n2 m2 x1 x2,Af8 (f_ b1) (f_ b2) (f_ hS),rfl,⟨u1,_,CJ dl rfl r1,ha,rfl⟩,MS (bs:=[Am [.sl 1 o1 n1 m1,.sl 2 o2 n2 m2],Am [.seq .u8 x1],Am [.seq .u8 x2]]) hg fun j d hj=>?_,fun j hj=>?_⟩
 ·match j,hj with
  | 0,hj=>injection hj with hj;subst hj;exact ⟨rfl,hv _ _ _ (Ed (by show 0<3;decide)) ⟨_,_,LC (by show 1<3;decide) rfl d1,⟨_,_,LC (by show 2<3;decide) rfl d2,f2,rfl⟩,rfl⟩⟩
  | 1,hj=>injection hj with hj;subst hj;exact ⟨rfl,HY hg g1 t1 (by show 1<3;decide) rfl⟩
  | 2,hj=>injection hj with hj;subst hj;exact ⟨rfl,HY hg g2 t2 (by show 2<3;decide) rfl⟩
 ·match j,hj with
  | 0,_=>exact CC (hg.heap _ _ hk)
  | 1,_=>exact CC (hg.heap _ _ g1)
  | 2,_=>exact CC (hg.heap _ _ g2)
theorem AgH {H:Heap} {k fr ty:Nat} {path:List Bool} {c1 c2 c3:Ch} {o:Bool} {r:R} (hk:AF H k=some ⟨ty,[c1,c2,c3],o⟩) (hs:xP H k fr path c1 c2 c3=some r) :
  ∃ (ρ:List Nat) (k0 nw:Nat) (W:List Nat) (val:AV) (H1:Heap) (conds:dr) (path':List Bool),
   r=BI ρ k0 fr nw W val H1 conds path'∧(∀ β us w,A_ β [AP k 0 3 3] us→Ex.Good β H w→AM conds→∃ args0 H0,Ac dn 37 args0 H0 k0 W val H1∧D5 k0 nw W val H1=true∧A_ (A3 β ρ k0) args0 us∧Ex.Good (A3 β ρ k0) H0 w∧(∀ k,k<k0→∃ X,β (Ex.nth ρ k)=some X)):=by
 unfold xP at hs;split at hs;case h_2=>cases hs
 rename_i k1 o1 n1 x1 k2 o2 n2 x2 k3 o3 n3 x3 a1 a2 a3;injection hs with hs;obtain ⟨s1,ty1,cs1,p1,g1,t1⟩:=LD a1;obtain ⟨s2,ty2,cs2,p2,g2,t2⟩:=LD a2;obtain ⟨s3,ty3,cs3,p3,g3,t3⟩:=LD a3;refine ⟨[k,k1,k2,k3],4,4,[],_,_,_,path,hs.symm,fun β us w ha hg hc=>?_⟩
 obtain ⟨b1,b2,b3,hS,_⟩:=hc;obtain ⟨u1,us1,r1,ha,rfl⟩:=ha;obtain ⟨l,hl,hv⟩:=gJ hg hk (xL s1) (xM s1)
 obtain ⟨v1,l1,d1,f1,rfl⟩:=hl;obtain ⟨v2,l2,d2,f2,rfl⟩:=f1;obtain ⟨v3,l3,d3,f3,rfl⟩:=f2;obtain ⟨m1,d1⟩:=LB s1 d1;obtain ⟨m2,d2⟩:=LB s2 d2;obtain ⟨m3,d3⟩:=LB s3 d3;refine ⟨[AP 0 0 3 3],xI o1 n1 m1 o2 n2 m2 o3 n3 m3 x1 x2 x3,Af' (f_ b1) (f_ b2) (f_ b3) (f_ hS),rfl,⟨u1,_,CJ dl rfl r1,ha,rfl⟩,MS (bs:=[Am [.sl 1 o1 n1 m1,.sl 2 o2 n2 m2,.sl 3 o3 n3 m3],Am [.seq .u8 x1],Am [.seq .u8 x2],Am [.seq .u8 x3]]) hg fun j d hj=>?_,fun j hj=>?_⟩
 ·match j,hj with
  | 0,hj=>injection hj with hj;subst hj;exact ⟨rfl,hv _ _ _ (Ed (by show 0<4;decide)) ⟨_,_,LC (by show 1<4;decide) rfl d1,⟨_,_,LC (by show 2<4;decide) rfl d2,⟨_,_,LC (by show 3<4;decide) rfl d3,f3,rfl⟩,rfl⟩,rfl⟩⟩
  | 1,hj=>injection hj with hj;subst hj;exact ⟨rfl,HY hg g1 t1 (by show 1<4;decide) rfl⟩
  | 2,hj=>injection hj with hj;subst hj;exact ⟨rfl,HY hg g2 t2 (by show 2<4;decide) rfl⟩
  | 3,hj=>injection hj with hj;subst hj;exact ⟨rfl,HY hg g3 t3 (by show 3<4;decide) rfl⟩
 ·match j,hj with
  | 0,_=>exact CC (hg.heap _ _ hk)
  | 1,_=>exact CC (hg.heap _ _ g1)
  | 2,_=>exact CC (hg.heap _ _ g2)
  | 3,_=>exact CC (hg.heap _ _ g3)
theorem AgI {H:Heap} {k fr ty:Nat} {path:List Bool} {c1 c2 c3 c4:Ch} {o:Bool} {r:R} (hk:AF H k=some ⟨ty,[c1,c2,c3,c4],o⟩) (hs:xQ H k fr path c1 c2 c3 c4=some r) :
  ∃ (ρ:List Nat) (k0 nw:Nat) (W:List Nat) (val:AV) (H1:Heap) (conds:dr) (path':List Bool),
   r=BI ρ k0 fr nw W val H1 conds path'∧(∀ β us w,A_ β [AP k 0 4 4] us→Ex.Good β H w→AM conds→∃ args0 H0,Ac dn 37 args0 H0 k0 W val H1∧D5 k0 nw W val H1=true∧A_ (A3 β ρ k0) args0 us∧Ex.Good (A3 β ρ k0) H0 w∧(∀ k,k<k0→∃ X,β (Ex.nth ρ k)=some X)):=by
 unfold xQ at hs;split at hs;case h_2=>cases hs
 rename_i k1 o1 n1 x1 k2 o2 n2 x2 k3 o3 n3 x3 k4 o4 n4 x4 a1 a2 a3 a4;injection hs with hs;obtain ⟨s1,ty1,cs1,p1,g1,t1⟩:=LD a1;obtain ⟨s2,ty2,cs2,p2,g2,t2⟩:=LD a2;obtain ⟨s3,ty3,cs3,p3,g3,t3⟩:=LD a3;obtain ⟨s4,ty4,cs4,p4,g4,t4⟩:=LD a4;refine ⟨[k,k1,k2,k3,k4],5,5,[],_,_,_,path,hs.symm,fun β us w ha hg hc=>?_⟩
 obtain ⟨b1,b2,b3,b4,hS,_⟩:=hc;obtain ⟨u1,us1,r1,ha,rfl⟩:=ha;obtain ⟨l,hl,hv⟩:=gJ hg hk (xL s1) (xM s1)
 obtain ⟨v1,l1,d1,f1,rfl⟩:=hl;obtain ⟨v2,l2,d2,f2,rfl⟩:=f1;obtain ⟨v3,l3,d3,f3,rfl⟩:=f2;obtain ⟨v4,l4,d4,f4,rfl⟩:=f3;obtain ⟨m1,d1⟩:=LB s1 d1;obtain ⟨m2,d2⟩:=LB s2 d2;obtain ⟨m3,d3⟩:=LB s3 d3;obtain ⟨m4,d4⟩:=LB s4 d4;refine ⟨[AP 0 0 4 4],xJ o1 n1 m1 o2 n2 m2 o3 n3 m3 o4 n4 m4 x1 x2 x3 x4,AgC (f_ b1) (f_ b2) (f_ b3) (f_ b4) (f_ hS),rfl,⟨u1,_,CJ dl rfl r1,ha,rfl⟩,MS (bs:=[Am [.sl 1 o1 n1 m1,.sl 2 o2 n2 m2,.sl 3 o3 n3 m3,.sl 4 o4 n4 m4],Am [.seq .u8 x1],Am [.seq .u8 x2],Am [.seq .u8 x3],Am [.seq .u8 x4]]) hg fun j d hj=>?_,fun j hj=>?_⟩
 ·match j,hj with
  | 0,hj=>injection hj with hj;subst hj;exact ⟨rfl,hv _ _ _ (Ed (by show 0<5;decide)) ⟨_,_,LC (by show 1<5;decide) rfl d1,⟨_,_,LC (by show 2<5;decide) rfl d2,⟨_,_,LC (by show 3<5;decide) rfl d3,⟨_,_,LC (by show 4<5;decide) rfl d4,f4,rfl⟩,rfl⟩,rfl⟩,rfl⟩⟩
  | 1,hj=>injection hj with hj;subst hj;exact ⟨rfl,HY hg g1 t1 (by show 1<5;decide) rfl⟩
  | 2,hj=>injection hj with hj;subst hj;exact ⟨rfl,HY hg g2 t2 (by show 2<5;decide) rfl⟩
  | 3,hj=>injection hj with hj;subst hj;exact ⟨rfl,HY hg g3 t3 (by show 3<5;decide) rfl⟩
  | 4,hj=>injection hj with hj;subst hj;exact ⟨rfl,HY hg g4 t4 (by show 4<5;decide) rfl⟩
 ·match j,hj with
  | 0,_=>exact CC (hg.heap _ _ hk)
  | 1,_=>exact CC (hg.heap _ _ g1)
  | 2,_=>exact CC (hg.heap _ _ g2)
  | 3,_=>exact CC (hg.heap _ _ g3)
  | 4,_=>exact CC (hg.heap _ _ g4)
theorem AgJ {H:Heap} {k fr ty:Nat} {path:List Bool} {c2 c3:Ch} {o:Bool} {r:R} (hk:AF H k=some ⟨ty,[.v (.slice none 0 0),c2,c3],o⟩) (hs:xR H k fr path c2 c3=some r) :
  ∃ (ρ:List Nat) (k0 nw:Nat) (W:List Nat) (val:AV) (H1:Heap) (conds:dr) (path':List Bool),
   r=BI ρ k0 fr nw W val H1 conds path'∧(∀ β us w,A_ β [AP k 0 3 3] us→Ex.Good β H w→AM conds→∃ args0 H0,Ac dn 37 args0 H0 k0 W val H1∧D5 k0 nw W val H1=true∧A_ (A3 β ρ k0) args0 us∧Ex.Good (A3 β ρ k0) H0 w∧(∀ k,k<k0→∃ X,β (Ex.nth ρ k)=some X)):=by
 unfold xR at hs;split at hs;case h_2=>cases hs
 rename_i k1 o1 n1 x1 k2 o2 n2 x2 a1 a2;injection hs with hs;obtain ⟨s1,ty1,cs1,p1,g1,t1⟩:=LD a1;obtain ⟨s2,ty2,cs2,p2,g2,t2⟩:=LD a2;refine ⟨[k,k1,k2],3,4,[],_,_,_,path,hs.symm,fun β us w ha hg hc=>?_⟩
 obtain ⟨b1,b2,hS,_⟩:=hc;obtain ⟨u1,us1,r1,ha,rfl⟩:=ha;obtain ⟨l,hl,hv⟩:=gJ hg hk rfl rfl;obtain ⟨v1,l1,d1,f1,rfl⟩:=hl;obtain ⟨v2,l2,d2,f2,rfl⟩:=f1;obtain ⟨v3,l3,d3,f3,rfl⟩:=f2;obtain ⟨m1,d2⟩:=LB s1 d2;obtain ⟨m2,d3⟩:=LB s2 d3;refine ⟨[AP 0 0 3 3],xK o1 n1 m1 o2 n2 m2 x1 x2,AgF (f_ b1) (f_ b2) (f_ hS),rfl,⟨u1,_,CJ dl rfl r1,ha,rfl⟩,MS (bs:=[Am [.v (.slice none 0 0),.sl 1 o1 n1 m1,.sl 2 o2 n2 m2],Am [.seq .u8 x1],Am [.seq .u8 x2]]) hg fun j d hj=>?_,fun j hj=>?_⟩
 ·match j,hj with
  | 0,hj=>injection hj with hj;subst hj;exact ⟨rfl,hv _ _ _ (Ed (by show 0<3;decide)) ⟨_,_,d1,⟨_,_,LC (by show 1<3;decide) rfl d2,⟨_,_,LC (by show 2<3;decide) rfl d3,f3,rfl⟩,rfl⟩,rfl⟩⟩
  | 1,hj=>injection hj with hj;subst hj;exact ⟨rfl,HY hg g1 t1 (by show 1<3;decide) rfl⟩
  | 2,hj=>injection hj with hj;subst hj;exact ⟨rfl,HY hg g2 t2 (by show 2<3;decide) rfl⟩
 ·match j,hj with
  | 0,_=>exact CC (hg.heap _ _ hk)
  | 1,_=>exact CC (hg.heap _ _ g1)
  | 2,_=>exact CC (hg.heap _ _ g2)
theorem AgK:A' dn 37 ccSp:=by
 refine DC Tryz.func37 dk dk fun args H fr path r hs=>?_
 unfold ccSp at hs;split at hs;case h_2=>cases hs
 rename_i k n m;split at hs;case h_2=>cases hs
 rename_i ty cs o hk hm;obtain rfl:=An.1 hm
 split at hs
 ·split at hs;case h_2=>cases hs
  rename_i hn;obtain rfl:=An.1 hn
  exact AgG hk hs
 ·split at hs
  ·rename_i hn;obtain rfl:=An.1 hn
   exact AgJ hk hs
  ·rename_i hn _;obtain rfl:=An.1 hn
   exact AgH hk hs
  ·cases hs
 ·split at hs;case h_2=>cases hs
  rename_i hn;obtain rfl:=An.1 hn
  exact AgI hk hs
 ·cases hs
noncomputable def SSr:dt:=(37,ccSp)::SSp
theorem AgL:AT dn SSr:=⟨AgK,AI4⟩
noncomputable def SSs0:dt:=SSr
theorem AgM:AT dn SSs0:=AgL
noncomputable def SSs:dt:=SSs0
theorem AgN:AT dn SSs:=AgM
theorem Pl {l:dp} {n:Nat} (h:l.length=n):AA l 0 n=l:=by unfold AA;rw [mc];exact FK h
noncomputable def SSt0:dt:=SSs
theorem AgO:AT dn SSt0:=AgN
noncomputable def SSt:dt:=SSt0
theorem AgP:AT dn SSt:=AgO
noncomputable def SSu:dt:=SSt
theorem AgQ:AT dn SSu:=AgP
noncomputable def SSv:dt:=SSu
theorem AgR:AT dn SSv:=AgQ
noncomputable def SSw0:dt:=SSv
theorem AgS:AT dn SSw0:=AgR
noncomputable def SSw:dt:=SSw0
theorem AgT:AT dn SSw:=AgS
noncomputable def SSx0:dt:=SSw++SVb3
theorem AgU:AT dn SSx0:=Jr AgT eK
def gK (off n:Nat) (xs:dp):dp:=List.map (AE (Ak (AA xs off n))) (List.range ((n+7) / 8))++[]
theorem AgV {off n:Nat} {xs:dp} (hx:∀ d∈xs,0≤d∧d<256) (hl:off+n≤xs.length):AI (AA (gK off n xs) 0 ((n+7) / 8))=Ak (AA xs off n):=by
 have e:gK off n xs=DU (Ak (AA xs off n)) ((n+7) / 8):=by unfold gK DU;rw [iq]
 rw [e,Pl (by simp [DU]),ADn]
 have h:=Tf (AA xs off n) (C3 hx)
 rw [GK hl,NB] at h;exact ik h (lu dm dl)
noncomputable def SSx:dt:=SSx0
theorem AgW:AT dn SSx:=AgU
noncomputable def SSy:dt:=SSx
theorem gL:AT dn SSy:=AgW
noncomputable abbrev oSy:Orc:=AG SSy KV
theorem AgX:OrcOk dn oSy:=AH gL BJ
def xS (val:Nat→dp→Nat→dp→AV) (hp:Nat→dp→Nat→dp→Heap) (nw:Nat) (cs:dp→dp→dr):ASpec:=fun args H fr path=>match args with
 | [S,T]=>match DB S,DB T with
  | some (k,o,n),some (t,p,m)=>match AF H k,AF H t with
   | some ⟨_,ds,_⟩,some ⟨_,es,_⟩=>match Az .u64 ds,Az .u64 es with
    | some xs,some ys=>some (BI [k,t] 2 fr nw [] (val n (AA xs o n) m (AA ys p m)) (hp n (AA xs o n) m (AA ys p m)) ((Nat.ble (o+n) xs.length,true)::(Nat.ble (p+m) ys.length,true)::(Nat.ble n 17592186044415,true)::(Nat.ble m 17592186044415,true)::cs (AA xs o n) (AA ys p m)) path)
    | _,_=>none
   | _,_=>none
  | _,_=>none
 | _=>none
theorem AgY {f:FuncId} {fn:Func} {val:Nat→dp→Nat→dp→AV} {hp:Nat→dp→Nat→dp→Heap} {nw:Nat} {cs:dp→dp→dr} (hfn:dn.funcs[f]? = some fn) (hb:fn.body.isSome=true) (hname:(fn.name=="runtime.NumGoroutine")=false)
  (hk:∀ n a m b,D5 2 nw [] (val n a m b) (hp n a m b)=true)
  (h:∀ (off n m off' n' m':Nat) (xs ys:dp),(∀ d∈xs,0≤d∧d<18446744073709551616)→(∀ d∈ys,0≤d∧d<18446744073709551616)→off+n≤xs.length→off'+n'≤ys.length→n≤17592186044415→n'≤17592186044415→AM (cs (AA xs off n) (AA ys off' n')) →
   Ac dn f (JF off n m off' n' m') (F5 xs ys) 2 [] (val n (AA xs off n) n' (AA ys off' n')) (hp n (AA xs off n) n' (AA ys off' n'))):A' dn f (xS val hp nw cs):=by
 refine DC hfn hb hname fun args H fr path r hs=>?_
 unfold xS at hs;split at hs;case h_2=>cases hs
 rename_i S T;split at hs;case h_2=>cases hs
 rename_i k o n t p m hS hT;split at hs;case h_2=>cases hs
 rename_i ty ds op ty' es op' hk' ht';split at hs;case h_2=>cases hs
 rename_i xs ys hx hy;injection hs with hs;refine ⟨[k,t],2,nw,[],_,_,_,path,hs.symm,fun β us w ha hg hc=>?_⟩
 obtain ⟨u1,us1,r1,⟨u2,us2,r2,ha,rfl⟩,rfl⟩:=ha;obtain ⟨m1,r1⟩:=EU hS r1;obtain ⟨m2,r2⟩:=EU hT r2;obtain ⟨g1,g1',g2,g3⟩:=Zp hg hk' ht' hx hy;obtain ⟨c1,c2,c3,c4,c5⟩:=hc;exact ⟨_,_,h o n m1 p m m2 xs ys g1 g1' (f_ c1) (f_ c2) (f_ c3) (f_ c4) c5,hk _ _ _ _,⟨u1,_,CJ dl rfl r1,⟨u2,_,CJ dl rfl r2,ha,rfl⟩,rfl⟩,g2,g3⟩
def AgZ:ASpec:=xS (fun _ a _ b=>.val false [.v (.int .i64 (EC (AI a) (AI b)))]) (fun _ _ _ _=>[]) 0 (fun _ _=>[])
noncomputable def SYb0:dt:=(146,DP AgZ)::SSy
theorem Aga:AT dn SYb0:=⟨D6 (AgY Tryz.func146 dk dk (fun _ _ _ _=>by kernel_rfl) fun _ _ _ _ _ _ _ _ hx hy hl hl' hn hn' _=>AEL hx hy hl hl' (GL dl) (GL dl)),gL⟩
noncomputable def SYb:dt:=SYb0
theorem Agb:AT dn SYb:=Aga
open Ex Num Rg
open Sh (R av rd mo en mo_en)
noncomputable def SYd0:dt:=(SYb++(SVg++(SQt++SQg)))
theorem Agc:AT dn SYd0:=Jr Agb (Jr eV (Jr AHZ AHU))
noncomputable def SYd1:dt:=SYd0
theorem Agd:AT dn SYd1:=Agc
noncomputable def SYd2:dt:=SYd1
theorem AI9:AT dn SYd2:=Agd
noncomputable def SYe:dt:=SYd2
theorem Age:AT dn SYe:=AI9
noncomputable def SYf0:dt:=SYe
theorem Agf:AT dn SYf0:=Age
noncomputable def SYf1:dt:=SYf0
theorem Agg:AT dn SYf1:=Agf
noncomputable def SYf:dt:=SYf1
theorem Agh:AT dn SYf:=Agg
end Go.Proofs.YtgnajdcdcblaoaaGreat
namespace Go.Proofs.YtgnajdcdcblaoaaGreat.Rg
open FD (inv)
theorem kap {F:Type} [CR F] (x1 x2 x3 x4 x6 y4 l n s k:F) (hn:y4=(l*x4+n)) (hk:-y4=(s*x4+k)) (a1:x1+x2+x4=(l*l)) (a3:x4+x3+x6=(s*s)) (b1:x1*x2+x1*x4+x2*x4+(l*n+l*n)=0) (b3:x4*x3+x4*x6+x3*x6+(s*k+s*k)=0):((int 2)*(x4*x4-l*s*x4+y4*(s-l)))=x1*x2+x3*x6-(l+s)*(l+s)*x4 :=
 AX.1 (BU [x1,x2,x3,x4,x6,y4,l,n,s,k] (ai*(ac*ac-aa*ab*ac+aj*(ab-aa))-(ae*af+ag*ah-(aa+ab)*(aa+ab)*ac)) [((ak*aa),aj-(aa*ac+ap)),
  ((ak*ab),-aj-(ab*ac+aq)),
  (ac,ae+af+ac-aa*aa),
  (ac,ac+ag+ah-ab*ab),
  (au,ae*af+ae*ac+af*ac+(aa*ap+aa*ap)-aw),
  (au,ac*ag+ac*ah+ag*ah+(ab*aq+ab*aq)-aw)] ⟨AX.2 hn,AX.2 hk,AX.2 a1,AX.2 a3,AX.2 b1,AX.2 b3,trivial⟩ dk)
section
variable {F:Type} [FD F]
variable {c f:F→F} (hc:MH c) (hf:MH f)
theorem MH.pwc {φ:F→F} (h:MH φ) (x:F):∀ n,φ (Rg.pw x n)=Rg.pw (φ x) n
 | 0=>h.one
 | n+1=>by show φ (Rg.pw x n*x)=Rg.pw (φ x) n*φ x;rw [h.mul,MH.pwc h x n]
include hc hf in
end
end Go.Proofs.YtgnajdcdcblaoaaGreat.Rg
namespace Go.Proofs.YtgnajdcdcblaoaaGreat
open Ex Num Rg
open Sh (R av rd mo en mo_en)
set_option synthInstance.maxSize 100000
set_option synthInstance.maxHeartbeats 400000
noncomputable section
def Bu:FP2:=⟨tf 0x1904d3bf02bb0667c231beb4202c0d1f0fd603fd3cbd5f4f7b2443d784bab9c4f67ea53d63e7813d8d0775ed92235fb8,tf 0xfc3e2b36c4e03288e9e902231f9fb854a14787b6c7b36fec0c8ec971f63c5f282d5ac14d6c7ec22cf78a126ddc4af3⟩
def Us (r:R FP2) (k:R FP2→Bool):Bool:=JU r.1 fun x=>JU r.2 fun y=>k (x,y)
theorem AI_ (r:R FP2) (k:R FP2→Bool):Us r k=k r:=by unfold Us;rw [Ko,Ko];rfl
def gM (a:R FP2) (k:R FP2→Bool) (N i:Nat):R FP2→Bool:=Nat.rec k (fun i ih r=>Us (mu FP2 r r) fun s=>cond (Nat.beq (N / 2^i % 2) 1) (Us (mu FP2 s a) ih) (ih s)) i
theorem Agi {a:R FP2} {k:R FP2→Bool} {N:Nat}:∀ (i:Nat) (r:R FP2),(mo r:FP2)=pw (mo a) (N / 2^i)→gM a k N i r=true→∃ s:R FP2,(mo s:FP2)=pw (mo a) N∧k s=true:=by
 intro i;induction i with
 | zero =>
  intro r hr h;rw [ia,ig] at hr;exact ⟨r,hr,h⟩
 | succ i ih =>
  intro r hr h;have h':Us (mu FP2 r r) (fun s=>cond (Nat.beq (N / 2^i % 2) 1) (Us (mu FP2 s a) (gM a k N i)) (gM a k N i s))=true:=h
  rw [AI_,AI_] at h';have hdiv:N / 2^i=N / 2^(i+1)+N / 2^(i+1)+N / 2^i % 2:=by
   rw [ip,← iu];omega
  have hs:(mo (mu FP2 r r):FP2)=pw (mo a) (N / 2^(i+1)+N / 2^(i+1)):=by unfold mu;rw [mo_en,hr,← Qu]
  cases hb:Nat.beq (N / 2^i % 2) 1 with
  | true =>
   rw [hb] at h';refine ih _ ?_ h'
   rw [hdiv,jv hb,KY,← hs];unfold mu;rw [mo_en]
  | false =>
   rw [hb] at h';have h1:N / 2^i % 2=0:=by
    have:=Nat.ne_of_beq_eq_false hb
    omega
   refine ih _ ?_ h'
   rw [hs,hdiv,h1];rfl
theorem Agj:pw xi ((pN-1) / 6)=Bu:=by
 have h:gM ((1:Nat),(1:Nat)) (fun s=>Nat.beq s.1 0x1904d3bf02bb0667c231beb4202c0d1f0fd603fd3cbd5f4f7b2443d784bab9c4f67ea53d63e7813d8d0775ed92235fb8&&Nat.beq s.2 0xfc3e2b36c4e03288e9e902231f9fb854a14787b6c7b36fec0c8ec971f63c5f282d5ac14d6c7ec22cf78a126ddc4af3) ((pN-1) / 6) 379 ((1:Nat),(0:Nat))=true:=dk
 have ea:(mo (((1:Nat),(1:Nat)):R FP2):FP2)=xi:=Qx.ext DS DS
 obtain ⟨s,h1,h2⟩:=Agi 379 ((1:Nat),(0:Nat)) (by
  have e:(pN-1) / 6 / 2^379=0:=dk
  rw [e];exact Qx.ext DS tf_zero) h
 rw [ea] at h1;obtain ⟨q1,q2⟩:=gk.1 h2;rw [← h1];exact Qx.ext (gh tf (jv q1)) (gh tf (jv q2))
def gg:FP2:=Bu*Bu
def f6:FP6→FP6:=Rg.kM Qx.conj gg
def g6:FP6:=⟨Bu,0,0⟩
def f12:FP12→FP12:=Rg.qM f6 g6
theorem Ut {x y:FP2} (h:decide (x=y)=true):x=y:=gv h
theorem Agk:Qx.conj xi=xi*(gg*(gg*gg)):=Ut dk
theorem Agl:RH f6:=Abt Qx.conj_rh Agk
theorem f12_rh:RH f12:=by
 refine Abu Agl ?_
 refine Kx.ext ?_ ?_ ?_
 ·show Qx.conj 0=0*(Bu*Bu+xi*(0*0+0*0))+xi*(1*(Bu*0+0*0+0*Bu)+0*(Bu*0+0*Bu+xi*(0*0)));rw [Qx.conj_rh.zero];exact ring [Bu,xi] (a:=0) dk
 ·show Qx.conj 1*gg=0*(Bu*0+0*Bu+xi*(0*0))+1*(Bu*Bu+xi*(0*0+0*0))+xi*(0*(Bu*0+0*0+0*Bu));rw [Qx.conj_rh.one];unfold gg;exact ring [Bu,xi] (a:=1*(Bu*Bu)) dk
 ·show Qx.conj 0*(gg*gg)=0*(Bu*0+0*0+0*Bu)+1*(Bu*0+0*Bu+xi*(0*0))+0*(Bu*Bu+xi*(0*0+0*0));rw [Qx.conj_rh.zero];exact ring [Bu,gg,xi] (a:=0*(gg*gg)) dk
theorem AI':∃ n:Nat,n=0xd201000000010000:=⟨_,rfl⟩
def XX:Nat:=Classical.choose AI'
theorem Agm:XX=0xd201000000010000:=ij AI'
theorem AJA:∃ n:Nat,n=0x396c8c005555e1568c00aaab0000aaab:=⟨_,rfl⟩
def EE:Nat:=Classical.choose AJA
theorem Agn:EE=0x396c8c005555e1568c00aaab0000aaab:=ij AJA
def finF (x:FP12):FP12:=RN Qx.conj f12 EE XX x
theorem finF_mh:MH finF:=AHa Qx.conj_rh.mh f12_rh.mh EE XX
theorem Ago {x:FP12} (hx:x≠0):finF x*finF (Qx.conj x)=1:=Aby Qx.conj_rh.mh f12_rh.mh Qx.conj_conj EE XX hx
end
open Ex Num
theorem xU {β:Env} {k n m:Nat} {u:Value} (h:AL β (AP k 0 n m) u) (hn:1≤n):β k≠some .emp:=fun e=>by
 obtain ⟨l1,l2,h1,h2,h3⟩:=h;rcases h1 with ⟨B,q,q1,_⟩ | ⟨q1,_⟩ | ⟨_,_,q,_⟩
 ·rw [e] at q1;cases q1
 ·rw [e] at q1;cases q1
 ·omega
def Uu (c:List Ch):Blk:=⟨Bf,c,true⟩
theorem xV {β:Env} {H:Heap} {w:World} {k j ty:Nat} {cs:List Ch} {o:Bool} {xs:dp} {ρ:List Nat} {k0:Nat} (hg:Ex.Good β H w) (hk:AF H k=some ⟨ty,cs,o⟩) (hx:Az .u8 cs=some xs) (hne:β k≠some .emp) (hj:j<k0) (hn:Ex.nth ρ j=k):DN (A3 β ρ k0) (Uu [.seq .u8 xs]) j w:=by
 have e:A3 β ρ k0 j=β k:=by rw [Ed hj,hn]
 rcases HY hg hk hx hj hn with ⟨B,n,l,t,pre,ty',fz,q1,q2,q3,q4,q5⟩ | ⟨X,q1,q2,q3⟩ | ⟨_,_,_,_,_,h,_⟩
 ·exact .inl ⟨B,n,l,t,pre,ty',fz,q1,q2,q3,q4,fun h=>absurd rfl h⟩
 ·refine .inr (.inl ⟨X,q1,?_,q3⟩)
  cases X with
  | at_=>exact q2
  | nil=>exact Or.inl rfl
  | emp=>exact absurd (e.symm.trans q1) hne
 ·exact absurd h (show ¬ I8≤Bf by decide)
noncomputable abbrev xeF:Func:=Tryz.f214
noncomputable def SXa0:dt:=(259,A5 dn oSy Tryz.f259 300)::SSy
theorem Agp:AT dn SXa0:=⟨A7 AgX AB Tryz.func259 dk dk 300,gL⟩
noncomputable abbrev oXa0:Orc:=AG SXa0 KV
theorem xW:OrcOk dn oXa0:=AH Agp BJ
noncomputable def xeH (xs ds:dp):Heap:=[(0,some (Am [.seq .u8 xs])),(1,some (Am [.seq .u8 ds]))]
noncomputable def I1 (xs ds:dp):Heap:=[(0,some (Am [.seq .u8 xs])),(1,some (Uu [.seq .u8 ds]))]
noncomputable def xeE (o n m n' m':Nat) (xs ds:dp) (p:List Bool):ASt:=Ah xeF [AP 0 o n m,AP 1 0 n' m',.val false [.n .i64 256]] (I1 xs ds) 2 p
noncomputable def xX:List Item:=Bv (AW dn oXa0 (some 4) 300 2 none (xeE 0 0 0 0 0 [] [] d_))
noncomputable def xY (L:Nat) (s i:AV):List AV:=DT xeF.ntmps [(2,.val false [.n .i64 256]),(8,.val false [.sx 2 L 1]),(9,.val false [.p 3 0]),(10,s),(11,.val false [.p 4 0]),(12,i)]
def N6 (f:Nat→Int):dp:=(List.range 32).map f
noncomputable def Uv (xs ds tg F:dp) (b:Blk):Heap:=[(0,some (Am [.seq .u8 xs])),(1,some (Uu [.seq .u8 ds])),(2,some ⟨5,[.seq .u8 tg],true⟩),(3,some ⟨54,[.seq .u8 F],false⟩),(4,some b)]
noncomputable def gN (g:dp):Blk:=⟨54,[.seq .u8 g],false⟩
noncomputable def YE (xs ds tg:dp) (L:Nat) (f g:Nat→Int) (ys:dp) (M:Nat) (i:Int) (p:List Bool):ASt:=⟨xX,⟨xY L (.val false [.sx 5 M 1]) (iA i),Uv xs ds tg (N6 f) (gN (N6 g))++[(5,some ⟨5,[.seq .u8 ys],true⟩)],6,p⟩⟩
section
variable (xs ds tg:dp) (L:Nat) (f g:Nat→Int) (ys:dp) (M:Nat) (i:Int)
def Uw:dp:=N6 fun k=>bits .xor .u8 (g k) (f k)
def Pm:dp:=AA (Uw f g) (0+0*1) (32-0)++AA [AU false .u8 i] 0 1++AA tg 0 L
def Ux:dp:=HX (AA (Pm tg L f g i) 0 (32-0+1+L))
noncomputable def xeN (z:dp):ASt:=⟨xX,⟨KJ (Dx 2 [2,3,4,13]) (xY L (.val false [.sx 5 (M+(32-0)) 1]) (iA (wI (i+1)))),If (Dx 2 [2,3,4,13]) (Uv xs ds tg (N6 f) (gN z)++[(5,some ⟨5,[.seq .u8 (ys.take M++List.take (32-0) (List.drop (0+0*1) z))],true⟩)]),14,[]⟩⟩
theorem Agr:AW dn oXa0 (some 4) 600 2 (some ([2,8,9,10,11,12],[0,1,2,3,4,13],14)) (YE xs ds tg L f g ys M i dw) =
 some ((AJ .i64 M,true)::(decide ((M:Int)<256),true)::tt 98 ((Nat.ble (0+L) tg.length,true)::(Nat.ble (32-0+1+L) 35184372088832,true)::(Nat.ble (0+(32-0+1+L)) (Pm tg L f g i).length,true)::(Nat.ble (32-0+1+L) 35184372088832,true)::(Nat.ble M ys.length,true)::(true,true)::(D1 (M+(32-0)),true)::[]),[],xeN xs ds tg L f ys M i (Ux tg L f g i)):=dk
def Rk:Heap:=[(5,some ⟨5,[.seq .u8 ys],true⟩)]
theorem Ags:AR dn oXa0 xeF 300 2 [5] (YE xs ds tg L f g ys M i du)=some ([(AJ .i64 M,true),(decide ((M:Int)<256),false),(decide ((0:Int)≤256∧(256:Int)≤M),true),(true,true)],[],.tup [(false,[.sl 5 0 256 256]),(false,[.n .i64 0])],Rk ys):=dk
end
section
variable (o n m n' m':Nat) (xs ds:dp)
def HZ:Nat:=Int.toNat (n':Int)-0
def YF:dp:=List.take (HZ n') (List.drop 0 ds)++[AU false .u8 n']
def YG:dp:=AA (List.replicate 64 0) 0 64++AA xs o n++AA [1,0,0] 0 3++AA (YF n' ds) 0 (HZ n'+1)
def AJD:Blk:=⟨54,List.replicate 32 (.n .u8 0),false⟩
theorem Agt:AW dn oXa0 (some 4) 300 2 (some ([2,8,9,10,11,12],[0,1,3,13,14],15)) (xeE o n m n' m' xs ds d_) =
 some ((AJ .i64 n',true)::(decide ((n':Int)<1),false)::(AJ .i64 n',true)::(decide ((255:Int)<n'),false)::(AJ .i64 n',true)::(AJ .i64 n',true)::(decide ((0:Int)≤n'∧(n':Int)≤m'),true)::(decide ((0:Int)≤n'∧(n':Int)≤Int.toNat (n':Int)),true)::(true,true)::(AJ .i64 n',true)::(Nat.ble (0+HZ n') ds.length,true) ::
  (Nat.beq (HZ n') (HZ n')&&Nat.blt 0 1,true)::(D1 (HZ n'+1),true)::(true,true)::(true,true)::(Nat.ble (o+n) xs.length,true)::(true,true)::(Nat.ble (0+(HZ n'+1)) (YF n' ds).length,true)::(Nat.ble (64+n+3+(HZ n'+1)) 35184372088832,true)::(Nat.ble (0+(64+n+3+(HZ n'+1))) (YG o n n' xs ds).length,true)::(Nat.ble (64+n+3+(HZ n'+1)) 35184372088832,true)::[],[],
  ⟨xX,⟨KJ (Dx 2 [3,13,14]) (xY (HZ n'+1) Uq (.val false [.n .i64 1])),If (Dx 2 [3,13,14]) (Uv xs ds (YF n' ds) (HX (AA (YG o n n' xs ds) 0 (64+n+3+(HZ n'+1)))) AJD),15,[]⟩⟩):=dk
end
def GM (d:dp):dp:=d++[(d.length:Int)]
def Uy (x t:dp):dp:=HX (List.replicate 64 0++x++[1,0,0]++t)
def Rl (F l:dp):dp:=Uw (fun k=>F.getD k 0) fun k=>l.getD k 0
def xd (F t:dp):Nat→dp
 | 0=>List.replicate 32 0
 | i+1=>HX (Rl F (xd F t i)++[((i+1:Nat):Int)]++t)
def Hj (F t:dp):Nat→dp
 | 0=>[]
 | i+1=>Hj F t i++xd F t (i+1)
theorem AJE:∃ f:dp→dp→dp,∀ x d,f x d=Hj (Uy x (GM d)) (GM d) 8:=⟨_,fun _ _=>rfl⟩
noncomputable def Ju:dp→dp→dp:=Classical.choose AJE
theorem gO (x d:dp):Ju x d=Hj (Uy x (GM d)) (GM d) 8:=ij AJE x d
theorem Rm (F t:dp):∀ i,(xd F t i).length=32
 | 0=>kt
 | _+1=>YC _
theorem Uz (F t:dp):∀ i,(Hj F t i).length=32*i
 | 0=>rfl
 | i+1=>by
  show (Hj F t i++xd F t (i+1)).length=_;rw [ib,Uz F t i,Rm];omega
theorem U0 {l:dp} (h:l.length=32):N6 (fun k=>l.getD k 0)=l:=(fK h).symm
theorem xZ (f g:Nat→Int):(Uw f g).length=32:=by unfold Uw N6;rw [jk,lm]
theorem x8 {i:Nat} (h:i<256):AU false .u8 (i:Int)=(i:Int):=by rw [C7,IntKind.wrap_u8];omega
theorem x9 {F l t:dp} {L i:Nat} (ht:t.length=L) (hi:i<256):Pm t L (fun k=>F.getD k 0) (fun k=>l.getD k 0) (i:Int)=Rl F l++[(i:Int)]++t:=by
 unfold Pm Rl;rw [show 0+0*1=0 from rfl,show 32-0=32 from rfl,Pl (xZ _ _),Pl ht,x8 hi]
 rfl
theorem AJF {F l t:dp} {L i:Nat} (ht:t.length=L) (hi:i<256):(Pm t L (fun k=>F.getD k 0) (fun k=>l.getD k 0) (i:Int)).length=32-0+1+L:=by
 rw [x9 ht hi,ib,ib,ht];unfold Rl;rw [xZ];rfl
theorem Agu {xs ds t F:dp} {L:Nat} (_hF:F.length=32) (ht:t.length=L) (hL:L≤1000) {β0:Env} {w0:World} (hb:∀ b,2≤b→β0 b=none):∀ r i:Nat,i+r=8 →
  ASafe dn 214 β0 w0 (A4 β0 w0 [] (.tup [(false,[.sl 5 0 256 256]),(false,[.n .i64 0])]) (Rk (Hj F t 8))) xeF.ntmps []
   (YE xs ds t L (fun k=>F.getD k 0) (fun k=>(xd F t i).getD k 0) (Hj F t i) (32*i) ((i+1:Nat):Int) []):=by
 intro r;induction r with
 | zero =>
  intro i hi;obtain rfl:i=8:=dl
  exact Ae du (Av xW AB Tryz.func214 (Ags ..) ⟨dm,dm,dm,rfl,trivial⟩ (AQ dk) hb ft)
 | succ r ih =>
  intro i hi;refine Ae dw (Ag xW AB (Agr ..) ⟨GL dl,fu dl,Ad 98 ⟨gb dl,gb dl,?_,gb dl,?_,rfl,D_ dl,trivial⟩⟩ (AQ dk) hb ft fun _=>?_)
  ·rw [AJF ht dl];exact gb dl
  ·rw [Uz];exact gb dl
  ·have ez:Ux t L (fun k=>F.getD k 0) (fun k=>(xd F t i).getD k 0) ((i+1:Nat):Int)=xd F t (i+1):=by
    unfold Ux;rw [Pl (AJF ht dl),x9 ht dl];rfl
   rw [ez];refine OX (m:=6) dk hb ?_
   have e1:(Hj F t i).take (32*i)++List.take (32-0) (List.drop (0+0*1) (xd F t (i+1)))=Hj F t (i+1):=by
    rw [FK (Uz F t i),show 0+0*1=0 from rfl,show 32-0=32 from rfl,mc,FK (Rm F t (i+1))]
    rfl
   have next:=ih (i+1) dl
   unfold YE at next;rw [U0 (Rm F t (i+1))] at next;rw [e1,Ao (z:=((i+1:Nat):Int)+1) dl];exact next
def Rn (ts:List Nat):Nat→List AV→List AV
 | _,[]=>[]
 | i,x::r=>(match EH i ts with | true=>F6 x | false=>x)::Rn ts (i+1) r
theorem AJG (ts:List Nat):∀ (T:List AV) (i t:Nat),Al (Rn ts i T) t=F6 (Al T t)∨Al (Rn ts i T) t=Al T t
 | [],_,_=>.inr rfl
 | x::r,i,0=>by
  simp only [Rn,Al];split
  ·exact .inl rfl
  ·exact .inr rfl
 | _::r,i,t+1=>AJG ts r (i+1) t
theorem AJH {P:Program} {f:FuncId} {β0:Env} {w0:World} {R:Ending→World→Prop} {n:Fz} {W:List Nat} {todo:List Item} {T:List AV} {H:Heap} {fr:Nat} {p:List Bool} (ts:List Nat) (h:ASafe P f β0 w0 R n W ⟨todo,⟨Rn ts 0 T,H,fr,p⟩⟩):ASafe P f β0 w0 R n W ⟨todo,⟨T,H,fr,p⟩⟩:=by
 intro β a w hi hf;refine h β a w { hi with tmp:=fun t=>?_ } hf
 rcases AJG ts T 0 t with e | e
 ·show AL β (Al (Rn ts 0 T) t) _;rw [e];exact ACm (hi.tmp t)
 ·show AL β (Al (Rn ts 0 T) t) _;rw [e];exact hi.tmp t
theorem AJI (β:Env) (l:List Value) (h:AO β (List.replicate 32 (.n .u8 0)) l):AO β [.seq .u8 (List.replicate 32 0)] l:=by
 have e:Az .u8 (List.replicate 32 (.n .u8 0))=some (List.replicate 32 0):=dk
 obtain ⟨h1,h2⟩:=C8 e h;exact ⟨_,[],⟨h1,h2⟩,rfl,by simp⟩
theorem Agv {o n m n' m':Nat} {xs ds:dp} (h1:o+n≤xs.length) (h2:n'≤ds.length) (hn:n≤4398046511104) (hn1:1≤n') (hn':n'≤255) (hm:n'≤m') :
  Ac dn 214 [AP 0 o n m,AP 1 0 n' m',.val false [.n .i64 256]] (I1 xs ds) 2 [] (.tup [(false,[.sl 5 0 256 256]),(false,[.n .i64 0])]) (Rk (Ju (AA xs o n) (AA ds 0 n'))):=by
 have hd:(AA ds 0 n').length=n':=GK dl
 have eL:HZ n'=n':=by unfold HZ;omega
 have eG:YF n' ds=GM (AA ds 0 n'):=by
  unfold YF GM;rw [eL,hd,x8 dl];rfl
 have lT:(GM (AA ds 0 n')).length=n'+1:=LA hd rfl
 have eQ:YG o n n' xs ds=List.replicate 64 0++AA xs o n++[1,0,0]++GM (AA ds 0 n'):=by
  unfold YG;rw [eL,eG,Pl lT];rfl
 have lQ:(YG o n n' xs ds).length=64+n+3+(HZ n'+1):=by
  rw [eQ,ib,ib,ib,lT,GK h1,kt,eL];rfl
 refine Ay (path:=d_) Tryz.func214 dk dk fun β0 w0 hb=>?_
 refine Ag xW AB (Agt o n m n' m' xs ds) ?_ (AQ dk) hb ft fun _=>?_
 ·have hh:AJ .i64 (n':Int)=true:=GL dl
  rw [lQ,eG,lT,eL];exact ⟨hh,ga dl,hh,ga dl,hh,hh,fu dl,fu dl,rfl,hh,gb dl,by rw [Nat.beq_refl];rfl,D_ dl,rfl,rfl,gb h1,rfl,gb dl,gb dl,gb dl,gb dl,trivial⟩
 ·refine OX (m:=5) dk hb ?_
  refine nA (ts:=[10]) (sz:=1) (ty:=5) (kd:=.u8) rfl (hb 5 dm) (AJH [12] ?_)
  refine RX (k:=4) (ty:=54) (o:=false) (cs':=[.seq .u8 (List.replicate 32 0)]) rfl AJI ?_
  rw [Pl lQ,eQ,eG,eL,gO];have next:=Agu (xs:=xs) (ds:=ds) (F:=Uy (AA xs o n) (GM (AA ds 0 n'))) (w0:=w0) (YC _) lT dl hb 8 0 rfl
  unfold YE at next;rw [U0 (l:=Uy (AA xs o n) (GM (AA ds 0 n'))) (YC _),U0 (Rm _ _ 0)] at next;exact next
def xeV:AV:=.tup [(false,[.sl 5 0 256 256]),(false,[.n .i64 0])]
noncomputable def yA (v:AV) (K nw:Nat):ASpec:=fun args H fr path=>match args with
 | [S,T,.val false [.n .i64 256]]=>match DB S,H8 T with
  | some (k,o,n),some (t,n',m')=>match AF H k,AF H t with
   | some ⟨_,cs,_⟩,some ⟨_,es,_⟩=>match Az .u8 cs,Az .u8 es with
    | some xs,some ds=>some (BI [k,t] 2 fr nw [] v [(K,some ⟨5,[.seq .u8 (Ju (AA xs o n) (AA ds 0 n'))],true⟩)] [(Nat.ble (o+n) xs.length,true),(Nat.ble n' ds.length,true),(Nat.ble n 4398046511104,true),(Nat.ble 1 n',true),(Nat.ble n' 255,true),(Nat.ble n' m',true)] path)
    | _,_=>none
   | _,_=>none
  | _,_=>none
 | _=>none
theorem Agx {F:FuncId} {fn:Func} {v:AV} {K nw:Nat} (hfn:dn.funcs[F]? = some fn) (hb:fn.body.isSome=true) (hname:(fn.name=="runtime.NumGoroutine")=false) (hk:∀ l,D5 2 nw [] v [(K,some ⟨5,[.seq .u8 l],true⟩)]=true)
  (h:∀ {o n m n' m':Nat} {xs ds:dp},(∀ d∈xs,0≤d∧d<256)→(∀ d∈ds,0≤d∧d<256)→o+n≤xs.length→n'≤ds.length→n≤4398046511104→1≤n'→n'≤255→n'≤m'→Ac dn F [AP 0 o n m,AP 1 0 n' m',.val false [.n .i64 256]] (I1 xs ds) 2 [] v [(K,some ⟨5,[.seq .u8 (Ju (AA xs o n) (AA ds 0 n'))],true⟩)]):A' dn F (yA v K nw):=by
 refine DC hfn hb hname fun args H fr path r hs=>?_
 unfold yA at hs;split at hs;case h_2=>cases hs
 rename_i S T;split at hs;case h_2=>cases hs
 rename_i k o n t n' m' hS hT;split at hs;case h_2=>cases hs
 rename_i ty cs op ty' es op' hk' ht';split at hs;case h_2=>cases hs
 rename_i xs ds hx hd;injection hs with hs;refine ⟨[k,t],2,nw,[],_,_,_,path,hs.symm,fun β us w ha hg hc=>?_⟩
 obtain ⟨u1,us1,r1,⟨u2,us2,r2,⟨u3,us3,r3,ha,rfl⟩,rfl⟩,rfl⟩:=ha;obtain ⟨c1,c2,c3,c4,c5,c6,_⟩:=hc;obtain ⟨m,r1⟩:=EU hS r1;obtain ⟨m2,hm2,r2⟩:=JY hT (f_ c6) r2
 obtain ⟨g1,_,_⟩:=ED hg hk' hx;obtain ⟨g2,_,_⟩:=ED hg ht' hd;refine ⟨_,_,h (o:=o) (n:=n) (m:=m) (n':=n') (m':=m2) g1 g2 (f_ c1) (f_ c2) (f_ c3) (f_ c4) (f_ c5) hm2,hk _,⟨u1,_,CJ dl rfl r1,⟨u2,_,CJ dl rfl r2,⟨u3,_,LZ rfl r3,ha,rfl⟩,rfl⟩,rfl⟩,MS (bs:=[Am [.seq .u8 xs],Uu [.seq .u8 ds]]) hg fun j d hj=>?_,fun j hj=>?_⟩
 ·match j,hj with
  | 0,hj=>injection hj with hj;subst hj;exact ⟨rfl,HY hg hk' hx (by show 0<2;decide) rfl⟩
  | 1,hj=>injection hj with hj;subst hj;exact ⟨rfl,xV hg ht' hd (xU r2 (f_ c4)) (by show 1<2;decide) rfl⟩
 ·match j,hj with
  | 0,_=>exact CC (hg.heap _ _ hk')
  | 1,_=>exact CC (hg.heap _ _ ht')
noncomputable def SCb0:dt:=(214,yA xeV 5 4)::(SIe++SSy)
theorem Agy:AT dn SCb0:=⟨Agx Tryz.func214 dk dk (fun _=>rfl) fun _ _ h1 h2 h3 h4 h5 h6=>Agv h1 h2 h3 h4 h5 h6,Jr AFM gL⟩
noncomputable abbrev oCb0:Orc:=AG SCb0 KV
theorem Agz:OrcOk dn oCb0:=AH Agy BJ
noncomputable abbrev fdsF:Func:=Tryz.f154
section
variable (o n m n' m':Nat) (xs ds:dp)
noncomputable def Ag0 (p:List Bool):ASt:=Ah fdsF [AP 0 o n m,AP 1 0 n' m',.val false [.n .i64 2]] (I1 xs ds) 2 p
noncomputable def Eu:dp:=Ju (AA xs o n) (AA ds 0 n')
noncomputable def Fy (Z:dp) (j:Nat):Nat:=AI (AA (gK (64*j) 64 Z) 0 ((64+7) / 8)) % pN
noncomputable def gP (K:Nat) (a b c d:Nat):Heap:=[(K,some ⟨68,[.num 6 a,.num 6 b,.num 6 c,.num 6 d],true⟩)]
noncomputable def Ag1 (Z:dp):dr:=(Nat.ble (o+n) xs.length,true)::(Nat.ble n' ds.length,true)::(Nat.ble n 4398046511104,true)::(Nat.ble 1 n',true)::(Nat.ble n' 255,true)::(Nat.ble n' m',true)::tt 4 ((Nat.ble 64 Z.length,true)::tt 5 ((false,false)::(Nat.ble 128 Z.length,true)::tt 5 ((false,false)::tt 4 ((Nat.ble 192 Z.length,true)::tt 5 ((false,false)::(Nat.ble 256 Z.length,true)::tt 7 ((false,false)::[]))))))
theorem Ag2:AR dn oCb0 fdsF 300 2 [13] (Ag0 o n m n' m' xs ds fk) =
 some (Ag1 o n n' m' xs ds (Eu o n n' xs ds),[],.tup [(false,[.sx 13 2 12]),(false,[.n .i64 0])],gP 13 (Fy (Eu o n n' xs ds) 0) (Fy (Eu o n n' xs ds) 1) (Fy (Eu o n n' xs ds) 2) (Fy (Eu o n n' xs ds) 3)):=dk
end
theorem yC (x d:dp):(Ju x d).length=256:=by rw [gO,Uz]
theorem AJJ (F t:dp):∀ i,∀ d∈Hj F t i,0≤d∧d<256
 | 0,_,h=>by cases h
 | i+1,d,h=>by
  rcases gl.1 (show d∈Hj F t i++xd F t (i+1) from h) with h | h
  ·exact AJJ F t i d h
  ·exact AfL _ d h
theorem Ag3 (x d:dp):∀ z∈Ju x d,0≤z∧z<256:=by rw [gO];exact AJJ _ _ 8
theorem AJK:∃ f:dp→dp→Nat→Nat,∀ x d j,f x d j=Ak (AA (Ju x d) (64*j) 64) % pN:=⟨_,fun _ _ _=>rfl⟩
noncomputable def Pn:dp→dp→Nat→Nat:=Classical.choose AJK
theorem Ag4 (x d:dp) (j:Nat):Pn x d j=Ak (AA (Ju x d) (64*j) 64) % pN:=ij AJK x d j
noncomputable def U1 (x d:dp):Blk:=⟨68,[.num 6 (Pn x d 0),.num 6 (Pn x d 1),.num 6 (Pn x d 2),.num 6 (Pn x d 3)],true⟩
theorem Po (x d:dp) {j:Nat} (hj:j<4):Fy (Ju x d) j=Pn x d j:=by
 unfold Fy;rw [AgV (Ag3 x d) (by rw [yC];omega),Ag4]
theorem Ag5 {o n m n' m':Nat} {xs ds:dp} (h1:o+n≤xs.length) (h2:n'≤ds.length) (hn:n≤4398046511104) (hn1:1≤n') (hn':n'≤255) (hm:n'≤m') :
  Ac dn 154 [AP 0 o n m,AP 1 0 n' m',.val false [.n .i64 2]] (I1 xs ds) 2 [] (.tup [(false,[.sx 13 2 12]),(false,[.n .i64 0])]) [(13,some (U1 (AA xs o n) (AA ds 0 n')))]:=by
 refine Ay (path:=fk) Tryz.func154 dk dk fun β0 w0 hb=>?_
 have lZ:(Eu o n n' xs ds).length=256:=yC _ _
 have b64:∀ k,k≤256→Nat.ble k (Eu o n n' xs ds).length=true:=fun k hk=>gb (by rw [lZ];exact hk)
 have:=Av (P:=dn) (n:=fdsF.ntmps) (β0:=β0) (w0:=w0) (W:=[]) Agz AB Tryz.func154 (Ag2 o n m n' m' xs ds) ⟨gb h1,gb h2,gb hn,gb hn1,gb hn',gb hm,Ad 4 ⟨b64 64 dm,Ad 5 ⟨rfl,b64 128 dm,Ad 5 ⟨rfl,Ad 4 ⟨b64 192 dm,Ad 5 ⟨rfl,b64 256 dm,Ad 7 ⟨rfl,trivial⟩⟩⟩⟩⟩⟩⟩ (AQ dk) hb ft
 have e:gP 13 (Fy (Eu o n n' xs ds) 0) (Fy (Eu o n n' xs ds) 1) (Fy (Eu o n n' xs ds) 2) (Fy (Eu o n n' xs ds) 3)=[(13,some (U1 (AA xs o n) (AA ds 0 n')))]:=by
  unfold Eu;rw [Po _ _ dm,Po _ _ dm,Po _ _ dm,Po _ _ dm];rfl
 rw [e] at this;exact this
noncomputable def YH (c:Int) (v:AV) (K nw:Nat) (g:dp→dp→Blk):ASpec:=fun args H fr path=>match args with
 | [S,T,.val false [.n .i64 z]]=>match decide (z=c) with
  | true=>match DB S,H8 T with
   | some (k,o,n),some (t,n',m')=>match AF H k,AF H t with
    | some ⟨_,cs,_⟩,some ⟨_,es,_⟩=>match Az .u8 cs,Az .u8 es with
     | some xs,some ds=>some (BI [k,t] 2 fr nw [] v [(K,some (g (AA xs o n) (AA ds 0 n')))] [(Nat.ble (o+n) xs.length,true),(Nat.ble n' ds.length,true),(Nat.ble n 4398046511104,true),(Nat.ble 1 n',true),(Nat.ble n' 255,true),(Nat.ble n' m',true)] path)
     | _,_=>none
    | _,_=>none
   | _,_=>none
  | false=>none
 | _=>none
theorem yD {c:Int} {F:FuncId} {fn:Func} {v:AV} {K nw:Nat} {g:dp→dp→Blk} (hfn:dn.funcs[F]? = some fn) (hb:fn.body.isSome=true) (hname:(fn.name=="runtime.NumGoroutine")=false) (hk:∀ l d,D5 2 nw [] v [(K,some (g l d))]=true)
  (h:∀ {o n m n' m':Nat} {xs ds:dp},(∀ d∈xs,0≤d∧d<256)→(∀ d∈ds,0≤d∧d<256)→o+n≤xs.length→n'≤ds.length→n≤4398046511104→1≤n'→n'≤255→n'≤m'→Ac dn F [AP 0 o n m,AP 1 0 n' m',.val false [.n .i64 c]] (I1 xs ds) 2 [] v [(K,some (g (AA xs o n) (AA ds 0 n')))]):A' dn F (YH c v K nw g):=by
 refine DC hfn hb hname fun args H fr path r hs=>?_
 unfold YH at hs;split at hs;case h_2=>cases hs
 rename_i S T z;split at hs;case h_2=>cases hs
 rename_i hz;obtain rfl:z=c:=gv hz
 split at hs;case h_2=>cases hs
 rename_i k o n t n' m' hS hT;split at hs;case h_2=>cases hs
 rename_i ty cs op ty' es op' hk' ht';split at hs;case h_2=>cases hs
 rename_i xs ds hx hd;injection hs with hs;refine ⟨[k,t],2,nw,[],_,_,_,path,hs.symm,fun β us w ha hg hc=>?_⟩
 obtain ⟨u1,us1,r1,⟨u2,us2,r2,⟨u3,us3,r3,ha,rfl⟩,rfl⟩,rfl⟩:=ha;obtain ⟨c1,c2,c3,c4,c5,c6,_⟩:=hc;obtain ⟨m,r1⟩:=EU hS r1;obtain ⟨m2,hm2,r2⟩:=JY hT (f_ c6) r2
 obtain ⟨g1,_,_⟩:=ED hg hk' hx;obtain ⟨g2,_,_⟩:=ED hg ht' hd;refine ⟨_,_,h (o:=o) (n:=n) (m:=m) (n':=n') (m':=m2) g1 g2 (f_ c1) (f_ c2) (f_ c3) (f_ c4) (f_ c5) hm2,hk _ _,⟨u1,_,CJ dl rfl r1,⟨u2,_,CJ dl rfl r2,⟨u3,_,LZ rfl r3,ha,rfl⟩,rfl⟩,rfl⟩,MS (bs:=[Am [.seq .u8 xs],Uu [.seq .u8 ds]]) hg fun j d hj=>?_,fun j hj=>?_⟩
 ·match j,hj with
  | 0,hj=>injection hj with hj;subst hj;exact ⟨rfl,HY hg hk' hx (by show 0<2;decide) rfl⟩
  | 1,hj=>injection hj with hj;subst hj;exact ⟨rfl,xV hg ht' hd (xU r2 (f_ c4)) (by show 1<2;decide) rfl⟩
 ·match j,hj with
  | 0,_=>exact CC (hg.heap _ _ hk')
  | 1,_=>exact CC (hg.heap _ _ ht')
def yE (K:Nat):AV:=.tup [(false,[.sx K 2 12]),(false,[.n .i64 0])]
noncomputable def SCc:dt:=[(154,YH 2 (yE 13) 13 12 U1)]
theorem Ag6:AT dn SCc:=⟨yD Tryz.func154 dk dk (fun _ _=>rfl) fun _ _ h1 h2 h3 h4 h5 h6=>Ag5 h1 h2 h3 h4 h5 h6,trivial⟩
noncomputable abbrev rxF:Func:=Tryz.f187
noncomputable def rxE (o n m n' m':Nat) (xs ds:dp) (p:List Bool):ASt:=Ah rxF [AP 0 o n m,AP 1 0 n' m',.val false [.n .i64 256]] (I1 xs ds) 2 p
noncomputable def yF:List Item:=Bv (AW dn oSo (some 4) 300 2 none (rxE 0 0 0 0 0 [] [] d_))
noncomputable def yG (L:Nat) (s i:AV):List AV:=DT rxF.ntmps [(2,.val false [.n .i64 256]),(8,.val false [.sx 2 L 1]),(10,.val false [.p 3 0]),(11,s),(12,.val false [.p 4 0]),(13,i)]
noncomputable def YI (xs ds tg:dp) (L:Nat) (f g:Nat→Int) (ys:dp) (M:Nat) (i:Int) (p:List Bool):ASt:=⟨yF,⟨yG L (.val false [.sx 5 M 1]) (iA i),Uv xs ds tg (N6 f) (gN (N6 g))++Rk ys,6,p⟩⟩
theorem Ag7 (a b:Int):bits .xor .u8 a b=bits .xor .u8 b a:=by simp only [bits];rw [BitVec.xor_comm]
theorem Ag8 (f g:Nat→Int):Uw f g=Uw g f:=kb fun _ _=>Ag7 _ _
section
variable (xs ds tg:dp) (L:Nat) (f g:Nat→Int) (ys:dp) (M:Nat) (i:Int)
noncomputable def rxN (z:dp):ASt:=⟨yF,⟨KJ (Dx 2 [2,3,4,73]) (yG L (.val false [.sx 5 (M+(32-0)) 1]) (iA (wI (i+1)))),If (Dx 2 [2,3,4,73]) (Uv xs ds tg (N6 f) (gN z)++[(5,some ⟨5,[.seq .u8 (ys.take M++List.take (32-0) (List.drop (0+0*1) z))],true⟩)]),74,[]⟩⟩
theorem Ag_:AW dn oSo (some 4) 600 2 (some ([2,8,10,11,12,13],[0,1,2,3,4,73],74)) (YI xs ds tg L f g ys M i dw) =
 some ((AJ .i64 M,true)::(decide ((M:Int)<256),true)::tt 130 ((Nat.ble L tg.length,true)::(D1 (33+L),true)::(Nat.ble (0+(33+L)) (Pm tg L g f i).length,true)::(Nat.ble (33+L) 35184372088832,true)::(Nat.ble M ys.length,true)::(true,true)::(D1 (M+(32-0)),true)::[]),[],rxN xs ds tg L f ys M i (Ux tg L g f i)):=dk
theorem Ag':AR dn oSo rxF 300 2 [5] (YI xs ds tg L f g ys M i du)=some ([(AJ .i64 M,true),(decide ((M:Int)<256),false),(decide ((0:Int)≤256∧(256:Int)≤M),true)],[],.tup [(false,[.sx 5 256 1]),(false,[.n .i64 0])],Rk ys):=dk
end
section
variable (o n m n' m':Nat) (xs ds:dp)
def U2:dp:=List.take (0+n') (List.take n' (List.drop 0 ds))++[AU false .u8 n']
def gQ:dp:=List.take 64 (List.drop 0 (List.replicate 64 0))++List.take n (List.drop o xs)
def U3:dp:=List.take (64+n) (gQ o n xs)++[1,0,0]
def U4:dp:=List.take (64+n+3) (U3 o n xs)++List.take (0+n'+1) (U2 n' ds)
theorem AhA:AW dn oSo (some 4) 300 2 (some ([2,8,10,11,12,13],[0,1,5,11,12],13)) (rxE o n m n' m' xs ds d_) =
 some ((AJ .i64 n',true)::(decide ((n':Int)<1),false)::(AJ .i64 n',true)::(decide ((255:Int)<n'),false)::(true,true)::(Nat.ble (0+n') ds.length,true)::(D1 (0+n'),true)::(AJ .i64 n',true)::(Nat.ble (0+n') (List.take n' (List.drop 0 ds)).length,true)::(D1 (0+n'+1),true)::(true,true)::(true,true)::(true,true)::(Nat.ble (o+n) xs.length,true)::(D1 (64+n),true)::(Nat.ble (64+n) (gQ o n xs).length,true)::(D1 (64+n+3),true)::(Nat.ble (64+n+3) (U3 o n xs).length,true)::(Nat.ble (0+n'+1) (U2 n' ds).length,true)::(D1 (64+n+3+(0+n'+1)),true)::(Nat.ble (0+(64+n+3+(0+n'+1))) (U4 o n n' xs ds).length,true)::(Nat.ble (64+n+3+(0+n'+1)) 35184372088832,true)::[],[],
  ⟨yF,⟨KJ (Dx 2 [5,11,12]) (yG (0+n'+1) Uq (.val false [.n .i64 1])),If (Dx 2 [5,11,12]) (Uv xs ds (U2 n' ds) (HX (AA (U4 o n n' xs ds) 0 (64+n+3+(0+n'+1)))) AJD),13,[]⟩⟩):=dk
end
theorem AhB {xs ds t F:dp} {L:Nat} (_hF:F.length=32) (ht:t.length=L) (hL:L≤1000) {β0:Env} {w0:World} (hb:∀ b,2≤b→β0 b=none):∀ r i:Nat,i+r=8 →
  ASafe dn 187 β0 w0 (A4 β0 w0 [] (.tup [(false,[.sx 5 256 1]),(false,[.n .i64 0])]) (Rk (Hj F t 8))) rxF.ntmps []
   (YI xs ds t L (fun k=>F.getD k 0) (fun k=>(xd F t i).getD k 0) (Hj F t i) (32*i) ((i+1:Nat):Int) []):=by
 intro r;induction r with
 | zero =>
  intro i hi;obtain rfl:i=8:=dl
  exact Ae du (Av Up AB Tryz.func187 (Ag' ..) ⟨dm,dm,dm,trivial⟩ (AQ dk) hb ft)
 | succ r ih =>
  intro i hi;have eA:Pm t L (fun k=>(xd F t i).getD k 0) (fun k=>F.getD k 0) ((i+1:Nat):Int)=Rl F (xd F t i)++[((i+1:Nat):Int)]++t:=by
   rw [← x9 ht dl];unfold Pm;rw [Ag8]
  have lA:(Rl F (xd F t i)++[((i+1:Nat):Int)]++t).length=33+L:=by
   rw [ib,ib,ht];unfold Rl;rw [xZ];rfl
  refine Ae dw (Ag Up AB (Ag_ ..) ⟨GL dl,fu dl,Ad 130 ⟨gb dl,D_ dl,?_,gb dl,?_,rfl,D_ dl,trivial⟩⟩ (AQ dk) hb ft fun _=>?_)
  ·rw [eA,lA];exact gb dl
  ·rw [Uz];exact gb dl
  ·have ez:Ux t L (fun k=>(xd F t i).getD k 0) (fun k=>F.getD k 0) ((i+1:Nat):Int)=xd F t (i+1):=by
    unfold Ux;rw [eA,Pl (by rw [lA])]
    rfl
   rw [ez];refine OX (m:=6) dk hb ?_
   have e1:(Hj F t i).take (32*i)++List.take (32-0) (List.drop (0+0*1) (xd F t (i+1)))=Hj F t (i+1):=by
    rw [FK (Uz F t i),show 0+0*1=0 from rfl,show 32-0=32 from rfl,mc,FK (Rm F t (i+1))]
    rfl
   have next:=ih (i+1) dl
   unfold YI at next;rw [U0 (Rm F t (i+1))] at next;rw [e1,Ao (z:=((i+1:Nat):Int)+1) dl];exact next
theorem AhC {o n m n' m':Nat} {xs ds:dp} (h1:o+n≤xs.length) (h2:n'≤ds.length) (hn:n≤4398046511104) (hn1:1≤n') (hn':n'≤255) :
  Ac dn 187 [AP 0 o n m,AP 1 0 n' m',.val false [.n .i64 256]] (I1 xs ds) 2 [] (.tup [(false,[.sx 5 256 1]),(false,[.n .i64 0])]) (Rk (Ju (AA xs o n) (AA ds 0 n'))):=by
 have hd:(AA ds 0 n').length=n':=GK dl
 have l0:(List.take n' (List.drop 0 ds)).length=n':=GK (off:=0) dl
 have eG:U2 n' ds=GM (AA ds 0 n'):=by
  unfold U2 GM;rw [hd,x8 dl,gz,FK l0];rfl
 have lT:(GM (AA ds 0 n')).length=n'+1:=LA hd rfl
 have e1:gQ o n xs=List.replicate 64 0++AA xs o n:=rfl
 have l1:(gQ o n xs).length=64+n:=by rw [e1,ib,kt,GK h1]
 have e2:U3 o n xs=List.replicate 64 0++AA xs o n++[1,0,0]:=by unfold U3;rw [FK l1,e1]
 have l2:(U3 o n xs).length=64+n+3:=by unfold U3;rw [FK l1];exact LA l1 rfl
 have lx:(U2 n' ds).length=0+n'+1:=by rw [eG,lT];omega
 have e3:U4 o n n' xs ds=List.replicate 64 0++AA xs o n++[1,0,0]++GM (AA ds 0 n'):=by unfold U4;rw [FK l2,FK lx,e2,eG]
 have l3:(U4 o n n' xs ds).length=64+n+3+(0+n'+1):=by unfold U4;rw [FK l2,FK lx];exact LA l2 lx
 refine Ay (path:=d_) Tryz.func187 dk dk fun β0 w0 hb=>?_
 refine Ag Up AB (AhA o n m n' m' xs ds) ?_ (AQ dk) hb ft fun _=>?_
 ·have hh:AJ .i64 (n':Int)=true:=GL dl
  rw [l3,lx,l2,l1,l0];exact ⟨hh,ga dl,hh,ga dl,rfl,gb dl,D_ dl,hh,gb dl,D_ dl,rfl,rfl,rfl,gb h1,D_ dl,gb dl,D_ dl,gb dl,gb dl,D_ dl,gb dl,gb dl,trivial⟩
 ·refine OX (m:=5) dk hb ?_
  refine nA (ts:=[11]) (sz:=1) (ty:=5) (kd:=.u8) rfl (hb 5 dm) (AJH [13] ?_)
  refine RX (k:=4) (ty:=54) (o:=false) (cs':=[.seq .u8 (List.replicate 32 0)]) rfl AJI ?_
  rw [Pl l3,e3,eG,gO];have next:=AhB (xs:=xs) (ds:=ds) (F:=Uy (AA xs o n) (GM (AA ds 0 n'))) (w0:=w0) (YC _) (show (GM (AA ds 0 n')).length=0+n'+1 by rw [lT];omega) dl hb 8 0 rfl
  unfold YI at next;rw [U0 (l:=Uy (AA xs o n) (GM (AA ds 0 n'))) (YC _),U0 (Rm _ _ 0)] at next;exact next
def U5 (m:Nat):Nat→Nat→List AV→List AV
 | _,_,[]=>[]
 | t,i,x::r=>(match Nat.beq i t,x with
  | true,.val false [.sx k len _]=>.val false [.sl k 0 len m]
  | _,y=>y)::U5 m t (i+1) r
theorem AJM (m t:Nat):∀ (T:List AV) (i j:Nat),Al (U5 m t i T) j=Al T j∨∃ k len sz,i+j=t∧Al T j=.val false [.sx k len sz]∧Al (U5 m t i T) j=.val false [.sl k 0 len m]
 | [],_,_=>.inl rfl
 | x::r,i,0=>by
  simp only [U5,Al];split
  ·rename_i k len sz h;exact .inr ⟨_,_,_,An.1 h,rfl,rfl⟩
  ·exact .inl rfl
 | x::r,i,j+1=>by
  rcases AJM m t r (i+1) j with h | ⟨k,len,sz,h1,h2,h3⟩
  ·exact .inl h
  ·exact .inr ⟨k,len,sz,dl,h2,h3⟩
theorem AhD {P:Program} {f:FuncId} {β0:Env} {w0:World} {R:Ending→World→Prop} {n:Fz} {W:List Nat} {todo:List Item} {T:List AV} {H:Heap} {fr:Nat} {p:List Bool} {t k len sz:Nat} (ht:Al T t=.val false [.sx k len sz])
  (h:∀ m,len≤m→ASafe P f β0 w0 R n W ⟨todo,⟨U5 m t 0 T,H,fr,p⟩⟩):ASafe P f β0 w0 R n W ⟨todo,⟨T,H,fr,p⟩⟩:=by
 intro β a w hi hf;have r:=hi.tmp t;change AL β (Al T t) _ at r
 rw [ht] at r;have key:∃ m,len≤m∧AL β (.val false [.sl k 0 len m]) (a.tmps.getD t undef):=by
  obtain ⟨l1,l2,h1,h2,h3⟩:=r;rcases h1 with ⟨B,q,cap,q1,q2,q3,q4⟩ | ⟨q1,q2,q3⟩
  ·exact ⟨cap,q3,l1,l2,.inl ⟨B,(q,0),q1,by rw [q2]⟩,h2,h3⟩
  ·exact ⟨0,dl,l1,l2,.inr (.inl ⟨q1,rfl,q2,rfl,q3⟩),h2,h3⟩
 obtain ⟨m,hm,r⟩:=key;refine h m hm β a w { hi with tmp:=fun j=>?_ } hf
 show AL β (Al (U5 m t 0 T) j) _;rcases AJM m t T 0 j with e | ⟨k',len',sz',e1,e2,e3⟩
 ·rw [e];exact hi.tmp j
 ·have e1:j=t:=dl
  subst e1;rw [ht] at e2;injection e2 with _ e2;injection e2 with e2;injection e2 with x1 x2 x3;subst x1;subst x2;rw [e3];exact r
def rxV:AV:=.tup [(false,[.sx 5 256 1]),(false,[.n .i64 0])]
noncomputable def SCe0:dt:=(187,YH 256 rxV 5 4 fun x d=>⟨5,[.seq .u8 (Ju x d)],true⟩)::SYd2
theorem AhF:AT dn SCe0:=⟨yD Tryz.func187 dk dk (fun _ _=>rfl) fun _ _ h1 h2 h3 h4 h5 _=>AhC h1 h2 h3 h4 h5,AI9⟩
noncomputable abbrev oCe0:Orc:=AG SCe0 KV
theorem AJN:OrcOk dn oCe0:=AH AhF BJ
noncomputable abbrev fdrF:Func:=Tryz.f121
noncomputable def AJO (o n m n' m':Nat) (xs ds:dp) (p:List Bool):ASt:=Ah fdrF [AP 0 o n m,AP 1 0 n' m',.val false [.n .i64 2]] (I1 xs ds) 2 p
noncomputable def AJP:List Item:=Bv (AW dn oCe0 (some 0) 300 2 none (AJO 0 0 0 0 0 [] [] []))
noncomputable def AJQ (s:AV):List AV:=DT fdrF.ntmps [(2,.val false [.n .i64 2]),(9,s),(11,Uq),(12,.val false [.n .i64 0])]
noncomputable def AhG (Z:dp) (s:AV) (p:List Bool):ASt:=⟨AJP,⟨AJQ s,[(2,some ⟨5,[.seq .u8 Z],true⟩)],3,p⟩⟩
section
variable (o n m n' m':Nat) (xs ds:dp)
theorem AhH:AW dn oCe0 (some 0) 300 2 (some ([2,9,11,12],[5],6)) (AJO o n m n' m' xs ds []) =
 some ([(Nat.ble (o+n) xs.length,true),(Nat.ble n' ds.length,true),(Nat.ble n 4398046511104,true),(Nat.ble 1 n',true),(Nat.ble n' 255,true),(Nat.ble n' m',true)],[],⟨AJP,⟨KJ (Dx 2 [5]) (AJQ (.val false [.sx 2 256 1])),If (Dx 2 [5]) [(2,some ⟨5,[.seq .u8 (Eu o n n' xs ds)],true⟩)],6,[]⟩⟩):=dk
theorem AhI (Z:dp):AR dn oCe0 fdrF 300 2 [14] (AhG Z (AP 2 0 256 m) ef) =
 some ((decide ((0:Int)≤64∧(64:Int)≤m),true)::(true,true)::(Nat.beq m 0,false)::(Nat.ble 64 Z.length,true)::tt 3 ((decide ((0:Int)≤128∧(128:Int)≤m),true)::(true,true)::(Nat.beq m 64,false)::(Nat.ble 128 Z.length,true)::tt 4 ((decide ((0:Int)≤192∧(192:Int)≤m),true)::(true,true)::(Nat.beq m 128,false)::(Nat.ble 192 Z.length,true)::tt 3 ((decide ((0:Int)≤256∧(256:Int)≤m),true)::(true,true)::(Nat.beq m 192,false)::(Nat.ble 256 Z.length,true)::tt 4 []))),[],
  .tup [(false,[.sx 14 2 12]),(false,[.n .i64 0])],gP 14 (Fy Z 0) (Fy Z 1) (Fy Z 2) (Fy Z 3)):=dk
end
theorem AhJ {o n m n' m':Nat} {xs ds:dp} (h1:o+n≤xs.length) (h2:n'≤ds.length) (hn:n≤4398046511104) (hn1:1≤n') (hn':n'≤255) (hm:n'≤m') :
  Ac dn 121 [AP 0 o n m,AP 1 0 n' m',.val false [.n .i64 2]] (I1 xs ds) 2 [] (yE 14) [(14,some (U1 (AA xs o n) (AA ds 0 n')))]:=by
 refine Ay (path:=[]) Tryz.func121 dk dk fun β0 w0 hb=>?_
 refine Ag AJN AB (AhH o n m n' m' xs ds) ⟨gb h1,gb h2,gb hn,gb hn1,gb hn',gb hm,trivial⟩ (AQ dk) hb ft fun _=>?_
 refine OX (m:=3) dk hb ?_
 refine AhD (t:=9) (k:=2) (len:=256) (sz:=1) dk fun c hc=>?_
 have lZ:(Eu o n n' xs ds).length=256:=yC _ _
 have b64:∀ k,k≤256→Nat.ble k (Eu o n n' xs ds).length=true:=fun k hk=>gb (by rw [lZ];exact hk)
 have bc:∀ k,k<256→Nat.beq c k=false:=fun k hk=>FQ dl
 have:=Av (P:=dn) (n:=fdrF.ntmps) (β0:=β0) (w0:=w0) (W:=[]) AJN AB Tryz.func121 (AhI c (Eu o n n' xs ds)) ⟨fu dl,rfl,bc 0 dm,b64 64 dm,Ad 3 ⟨fu dl,rfl,bc 64 dm,b64 128 dm,Ad 4 ⟨fu dl,rfl,bc 128 dm,b64 192 dm,Ad 3 ⟨fu dl,rfl,bc 192 dm,b64 256 dm,Ad 4 trivial⟩⟩⟩⟩ (AQ dk) hb ft
 have e:gP 14 (Fy (Eu o n n' xs ds) 0) (Fy (Eu o n n' xs ds) 1) (Fy (Eu o n n' xs ds) 2) (Fy (Eu o n n' xs ds) 3)=[(14,some (U1 (AA xs o n) (AA ds 0 n')))]:=by
  unfold Eu;rw [Po _ _ dm,Po _ _ dm,Po _ _ dm,Po _ _ dm];rfl
 rw [e] at this;exact Ae ef this
noncomputable def SCe:dt:=(121,YH 2 (yE 14) 14 13 U1)::SCc
theorem AhK:AT dn SCe:=⟨yD Tryz.func121 dk dk (fun _ _=>rfl) fun _ _ h1 h2 h3 h4 h5 h6=>AhJ h1 h2 h3 h4 h5 h6,Ag6⟩
open Ex Num Rg
open Sh (R av rd mo en mo_en)
noncomputable def SCf0:dt:=(174,AZ (BR FP2 fun r=>DA (Bt (mo r))))::(SVg++(SQt++SQg))
theorem gR:AT dn SCf0:=⟨Aa Tryz.func174 dk dk (BW AGo),Jr eV (Jr AHZ AHU)⟩
noncomputable abbrev oCf0:Orc:=AG SCf0 KV
theorem LE:OrcOk dn oCf0:=AH gR BJ
noncomputable def SCf1:dt:=(260,A5 dn oCf0 Tryz.f260 3000)::(263,A5 dn oCf0 Tryz.f263 100)::(262,A5 dn oCf0 Tryz.f262 100)::(261,A5 dn oCf0 Tryz.f261 100)::(281,A5 dn oCf0 Tryz.f281 100)::(280,A5 dn oCf0 Tryz.f280 100)::(248,A5 dn oCf0 Tryz.f248 100)::SCf0
theorem yH:AT dn SCf1:=⟨A7 LE AB Tryz.func260 dk dk 3000,A7 LE AB Tryz.func263 dk dk 100,A7 LE AB Tryz.func262 dk dk 100,A7 LE AB Tryz.func261 dk dk 100,A7 LE AB Tryz.func281 dk dk 100,A7 LE AB Tryz.func280 dk dk 100,A7 LE AB Tryz.func248 dk dk 100,gR⟩
noncomputable abbrev oCf1:Orc:=AG SCf1 KV
theorem AJR:OrcOk dn oCf1:=AH yH BJ
noncomputable section
def aR:R FP2:=((0:Nat),(240:Nat))
def bR:R FP2:=((1012:Nat),(1012:Nat))
def zR:R FP2:=ng FP2 ((2:Nat),(1:Nat))
def oR:R FP2:=((1:Nat),(0:Nat))
def BZ:R FP2:=((0:Nat),(0:Nat))
def aF:FP2:=mo aR
def bF:FP2:=mo bR
def zF:FP2:=mo zR
theorem YJ:(mo oR:FP2)=1:=Qx.ext DS rfl
theorem Pp:(mo BZ:FP2)=0:=rfl
def CS (x:FP2):FP2:=x*x*x+aF*x+bF
def yI (r:R FP2):R FP2:=ad FP2 (mu FP2 (ad FP2 (mu FP2 (ad FP2 (mu FP2 (ad FP2 (mu FP2 BZ r) oR) r) BZ) r) aR) r) bR
def yJ (r:R FP2):R FP2:=ad FP2 (ad FP2 (mu FP2 (mu FP2 r r) r) (mu FP2 aR r)) bR
theorem AhL (r:R FP2):AK dn oCf1 Tryz.f247 [va FP2 r] [] 300=some ([],va FP2 (yJ r)):=dk
theorem AhM (r:R FP2):AK dn oCf1 Tryz.f265 [va FP2 r] [true,true,true,true,false] 300=some (tt 9 ((false,false)::[]),va FP2 (yI r)):=dk
theorem AhN (r:R FP2):yJ r=en (CS (mo r)):=by simp only [yJ,ad,mu,mo_en];rfl
theorem AhO (x a b:FP2):(((0*x+1)*x+0)*x+a)*x+b=x*x*x+a*x+b:=ring [x,a,b] (a:=(((0*x+1)*x+0)*x+a)*x+b) (b:=x*x*x+a*x+b) dk
theorem AhP (r:R FP2):yI r=en (CS (mo r)):=by
 simp only [yI,ad,mu,mo_en,YJ,Pp];exact gh en (AhO _ _ _)
def SCf2:dt:=(265,AZ (BR FP2 fun r=>va FP2 (en (CS (mo r)))))::(247,AZ (BR FP2 fun r=>va FP2 (en (CS (mo r)))))::SCf1
theorem AJS:AT dn SCf2:=⟨Aa Tryz.func265 dk dk (BW fun r=>by rw [← AhP];exact AN AJR AB Tryz.func265 (AhM r) (Ad 9 ⟨rfl,trivial⟩) rfl),Aa Tryz.func247 dk dk (BW fun r=>by rw [← AhN];exact AN AJR AB Tryz.func247 (AhL r) trivial rfl),yH⟩
abbrev oCf2:Orc:=AG SCf2 KV
theorem AJT:OrcOk dn oCf2:=AH AJS BJ
def SCf3:dt:=(264,A5 dn oCf2 Tryz.f264 300)::(246,A5 dn oCf2 Tryz.f246 300)::SCf2
theorem AhQ:AT dn SCf3:=⟨A7 AJT AB Tryz.func264 dk dk 300,A7 AJT AB Tryz.func246 dk dk 300,AJS⟩
abbrev oCf3:Orc:=AG SCf3 KV
theorem gS:OrcOk dn oCf3:=AH AhQ BJ
def wR (r:R FP2):R FP2:=mu FP2 zR (mu FP2 r r)
def tR (r:R FP2):R FP2:=ad FP2 (mu FP2 (wR r) (wR r)) (wR r)
def Hk (r:R FP2):Bool→R FP2
 | true=>mu FP2 bR (iv FP2 (mu FP2 zR aR))
 | false=>mu FP2 (ng FP2 (mu FP2 bR (iv FP2 aR))) (ad FP2 oR (iv FP2 (tR r)))
def Pq (r:R FP2) (b:Bool):R FP2:=mu FP2 (wR r) (Hk r b)
def LF (x:R FP2):R FP2:=en (EL (mo (en (CS (mo x)):R FP2)))
def U6 (x:R FP2):Bool:=CN (mo (en (CS (mo x)):R FP2))
def YK (r y:R FP2):Bool:=!decide (Bt (mo y)=Bt (mo r))
def U7 (y:R FP2):Bool→R FP2
 | true=>ng FP2 y
 | false=>y
def U8 (x y:R FP2):AV:=.tup [(true,av x),(true,av y)]
end
theorem AhR (r:R FP2):∀ b c:Bool,AK dn oCf3 Tryz.f218 [va FP2 r] [b,c,true] 300=some ([(B9 (tR r) BZ,b),(YK r (LF (Hk r b)),c),(U6 (Hk r b),true)],U8 (Hk r b) (U7 (LF (Hk r b)) c))
 | true,true=>dk
 | true,false=>dk
 | false,true=>dk
 | false,false=>dk
theorem AhS (r:R FP2):∀ b c d:Bool,AK dn oCf3 Tryz.f218 [va FP2 r] [b,c,false,d] 300=some ([(B9 (tR r) BZ,b),(YK r (LF (Hk r b)),c),(U6 (Hk r b),false),(YK r (LF (Pq r b)),d)],U8 (Pq r b) (U7 (LF (Pq r b)) d))
 | true,true,true=>dk
 | true,false,true=>dk
 | false,true,true=>dk
 | false,false,true=>dk
 | true,true,false=>dk
 | true,false,false=>dk
 | false,true,false=>dk
 | false,false,false=>dk
noncomputable def gT (r y:R FP2):Bool:=!decide (Bt (mo r)=Bt (mo y))
theorem AhT (r:R FP2):∀ b d:Bool,AK dn oCf3 Tryz.f190 [va FP2 r] [b,false,d] 300=some ([(B9 (tR r) BZ,b),(!U6 (Hk r b),false),(gT r (LF (Hk r b)),d)],U8 (Hk r b) (U7 (LF (Hk r b)) d))
 | true,true=>dk
 | true,false=>dk
 | false,true=>dk
 | false,false=>dk
theorem AhU (r:R FP2):∀ b d:Bool,AK dn oCf3 Tryz.f190 [va FP2 r] [b,true,d] 300=some ([(B9 (tR r) BZ,b),(!U6 (Hk r b),true),(gT r (LF (Pq r b)),d)],U8 (Pq r b) (U7 (LF (Pq r b)) d))
 | true,true=>dk
 | true,false=>dk
 | false,true=>dk
 | false,false=>dk
noncomputable section
def wF (u:FP2):FP2:=zF*(u*u)
def tF (u:FP2):FP2:=wF u*wF u+wF u
def MT (u:FP2):Bool→FP2
 | true=>bF*FD.inv (zF*aF)
 | false=>-(bF*FD.inv aF)*(1+FD.inv (tF u))
def FL (u:FP2):Bool:=decide (tF u=0)
def Hl (u:FP2):FP2:=MT u (FL u)
def IG (u:FP2):FP2:=match CN (CS (Hl u)) with
 | true=>Hl u
 | false=>wF u*Hl u
def gU (u y:FP2):FP2:=match (!decide (Bt y=Bt u)) with
 | true=>-y
 | false=>y
def Pr (u:FP2):FP2:=gU u (EL (CS (IG u)))
theorem AhV (r:R FP2):tR r=en (tF (mo r)):=by simp only [tR,wR,ad,mu,mo_en];rfl
theorem gV (r:R FP2):B9 (tR r) BZ=FL (mo r):=by rw [AhV,show BZ=en (0:FP2) from rfl,Q5];rfl
theorem yK (r:R FP2):∀ b,Hk r b=en (MT (mo r) b)
 | true=>by simp only [Hk,iv,mu,mo_en];rfl
 | false=>by simp only [Hk,tR,wR,iv,ad,ng,mu,mo_en,YJ];rfl
theorem AJU (r:R FP2) (b:Bool):Pq r b=en (wF (mo r)*MT (mo r) b):=by unfold Pq;rw [yK];simp only [wR,mu,mo_en];rfl
theorem N7 (x:FP2):LF (en x)=en (EL (CS x)):=by unfold LF;rw [mo_en,mo_en]
theorem gW (x:FP2):U6 (en x)=CN (CS x):=by unfold U6;rw [mo_en,mo_en]
theorem yL (r:R FP2) (y:FP2):YK r (en y)=!decide (Bt y=Bt (mo r)):=by unfold YK;rw [mo_en]
theorem AJV (r:R FP2) (y:FP2):gT r (en y)=!decide (Bt y=Bt (mo r)):=by unfold gT;rw [mo_en];exact gh _ (decide_eq_decide.2 ⟨Eq.symm,Eq.symm⟩)
theorem gZ (r:R FP2) (y:FP2):U7 (en y) (!decide (Bt y=Bt (mo r)))=en (gU (mo r) y):=by
 unfold gU U7;cases (!decide (Bt y=Bt (mo r))) with
 | true=>exact (show ng FP2 (en y)=en (-y) by unfold ng;rw [mo_en])
 | false=>rfl
def U9 (u:FP2):AV:=U8 (en (IG u)) (en (Pr u))
theorem AhW (r:R FP2):AS dn 218 [va FP2 r] (U9 (mo r)):=by
 have e1:=yK r (FL (mo r))
 have e2:=AJU r (FL (mo r))
 unfold U9 Pr IG Hl;cases hi:CN (CS (MT (mo r) (FL (mo r)))) with
 | true =>
  have h:=AN gS AB Tryz.func218 (AhR r (FL (mo r)) (!decide (Bt (EL (CS (MT (mo r) (FL (mo r)))))=Bt (mo r)))) ⟨gV r,by rw [e1,N7,yL],by rw [e1,gW];exact hi,trivial⟩ rfl
  rw [e1,N7,gZ] at h;exact h
 | false =>
  have h:=AN gS AB Tryz.func218 (AhS r (FL (mo r)) (!decide (Bt (EL (CS (MT (mo r) (FL (mo r)))))=Bt (mo r))) (!decide (Bt (EL (CS (wF (mo r)*MT (mo r) (FL (mo r)))))=Bt (mo r)))) ⟨gV r,by rw [e1,N7,yL],by rw [e1,gW];exact hi,by rw [e2,N7,yL],trivial⟩ rfl
  rw [e2,N7,gZ] at h;exact h
theorem AhX (r:R FP2):AS dn 190 [va FP2 r] (U9 (mo r)):=by
 have e1:=yK r (FL (mo r))
 have e2:=AJU r (FL (mo r))
 unfold U9 Pr IG Hl;cases hi:CN (CS (MT (mo r) (FL (mo r)))) with
 | true =>
  have h:=AN gS AB Tryz.func190 (AhT r (FL (mo r)) (!decide (Bt (EL (CS (MT (mo r) (FL (mo r)))))=Bt (mo r)))) ⟨gV r,by rw [e1,gW,hi];rfl,by rw [e1,N7,AJV],trivial⟩ rfl
  rw [e1,N7,gZ] at h;exact h
 | false =>
  have h:=AN gS AB Tryz.func190 (AhU r (FL (mo r)) (!decide (Bt (EL (CS (wF (mo r)*MT (mo r) (FL (mo r)))))=Bt (mo r)))) ⟨gV r,by rw [e1,gW,hi];rfl,by rw [e2,N7,AJV],trivial⟩ rfl
  rw [e2,N7,gZ] at h;exact h
theorem AJW:∃ f:FP2→FP2×FP2,∀ u,f u=(IG u,Pr u):=⟨_,fun _=>rfl⟩
def LG:FP2→FP2×FP2:=Classical.choose AJW
theorem AJX (u:FP2):LG u=(IG u,Pr u):=ij AJW u
def g5 (u:FP2):AV:=U8 (en (LG u).1) (en (LG u).2)
theorem AJY (u:FP2):g5 u=U9 u:=by unfold g5 U9;rw [AJX]
def SCf:dt:=(218,AZ (BR FP2 fun r=>g5 (mo r)))::(190,AZ (BR FP2 fun r=>g5 (mo r)))::SCf1
theorem yM:AT dn SCf:=⟨Aa Tryz.func218 dk dk (BW fun r=>by rw [AJY];exact AhW r),Aa Tryz.func190 dk dk (BW fun r=>by rw [AJY];exact AhX r),yH⟩
abbrev oCf:Orc:=AG SCf KV
theorem AJZ:OrcOk dn oCf:=AH yM BJ
end
noncomputable section
def SCg0:dt:=(282,A5 dn oCf Tryz.f282 300)::(283,A5 dn oCf Tryz.f283 300)::SCf
theorem AJa:AT dn SCg0:=⟨A7 AJZ AB Tryz.func282 dk dk 300,A7 AJZ AB Tryz.func283 dk dk 300,yM⟩
abbrev oCg0:Orc:=AG SCg0 KV
theorem AhY:OrcOk dn oCg0:=AH AJa BJ
def SCg1:dt:=(251,A5 dn oCg0 Tryz.f251 600)::SCg0
theorem AhZ:AT dn SCg1:=⟨A7 AhY AB Tryz.func251 dk dk 600,AJa⟩
abbrev oCg1:Orc:=AG SCg1 KV
theorem U_:OrcOk dn oCg1:=AH AhZ BJ
def g7:R FP2:=((0:Nat),(4002409555221667393417789825735904156556882819939007885332058136124031650490837864442687629129015664037894272559715:Nat))
def g8:R FP2:=((12:Nat),(4002409555221667393417789825735904156556882819939007885332058136124031650490837864442687629129015664037894272559775:Nat))
def g9:R FP2:=((1:Nat),(0:Nat))
def yN:R FP2:=((4002409555221667393417789825735904156556882819939007885332058136124031650490837864442687629129015664037894272559355:Nat),(4002409555221667393417789825735904156556882819939007885332058136124031650490837864442687629129015664037894272559355:Nat))
def yO:R FP2:=((0:Nat),(4002409555221667393417789825735904156556882819939007885332058136124031650490837864442687629129015664037894272559571:Nat))
def yP:R FP2:=((18:Nat),(4002409555221667393417789825735904156556882819939007885332058136124031650490837864442687629129015664037894272559769:Nat))
def yQ:R FP2:=((1:Nat),(0:Nat))
def yS:R FP2:=((889424345604814976315064405719089812568196182208668418962679585805340366775741747653930584250892369786198727235542:Nat),(889424345604814976315064405719089812568196182208668418962679585805340366775741747653930584250892369786198727235542:Nat))
def yT:R FP2:=((0:Nat),(2668273036814444928945193217157269437704588546626005256888038757416021100327225242961791752752677109358596181706522:Nat))
def yU:R FP2:=((2668273036814444928945193217157269437704588546626005256888038757416021100327225242961791752752677109358596181706526:Nat),(1334136518407222464472596608578634718852294273313002628444019378708010550163612621480895876376338554679298090853261:Nat))
def yV:R FP2:=((3557697382419259905260257622876359250272784728834673675850718343221361467102966990615722337003569479144794908942033:Nat),(0:Nat))
def yW:R FP2:=((3261222600550988246488569487636662646083386001431784202863158481286248011511053074731078808919938689216061999863558:Nat),(3261222600550988246488569487636662646083386001431784202863158481286248011511053074731078808919938689216061999863558:Nat))
def yX:R FP2:=((0:Nat),(889424345604814976315064405719089812568196182208668418962679585805340366775741747653930584250892369786198727235518:Nat))
def yY:R FP2:=((2668273036814444928945193217157269437704588546626005256888038757416021100327225242961791752752677109358596181706524:Nat),(1334136518407222464472596608578634718852294273313002628444019378708010550163612621480895876376338554679298090853263:Nat))
def yZ:R FP2:=((2816510427748580758331037284777117739799287910327449993381818688383577828123182200904113516794492504322962636245776:Nat),(0:Nat))
def U' (r a b c d:R FP2):R FP2:=ad FP2 (mu FP2 (ad FP2 (mu FP2 (ad FP2 (mu FP2 (ad FP2 (mu FP2 BZ r) d) r) c) r) b) r) a
def pl3 (r a b c:R FP2):R FP2:=ad FP2 (mu FP2 (ad FP2 (mu FP2 (ad FP2 (mu FP2 BZ r) c) r) b) r) a
def Ro (r:R FP2) (p2:R FP2):R FP2:=mu FP2 (U' r yS yT yU yV) (iv FP2 p2)
def Rp (r s:R FP2) (p4:R FP2):R FP2:=mu FP2 s (mu FP2 (U' r yW yX yY yZ) (iv FP2 p4))
def Rq (x y:R FP2):AV:=.val true (Bh (av x) (Bh (av y) [.b false]))
def VA (r:R FP2):R FP2:=pl3 r g7 g8 g9
def Ps (r:R FP2):R FP2:=U' r yN yO yP yQ
def VB (r:R FP2):R FP2:=U' r g7 g8 g9 BZ
end
section
variable (r s:R FP2)
theorem Aha:AK dn oCg1 Tryz.f217 [va FP2 r,va FP2 s] [true,true,true,false,true,true,true,true,false,true] 600=some (tt 7 ((false,false)::tt 9 ((false,false)::(B9 (VA r) BZ,true)::[])),.val true (CE true)):=dk
theorem Ahb:AK dn oCg1 Tryz.f217 [va FP2 r,va FP2 s] [true,true,true,false,true,true,true,true,false,false,true] 600=some (tt 7 ((false,false)::tt 9 ((false,false)::(B9 (VA r) BZ,false)::(B9 (Ps r) BZ,true)::[])),.val true (CE true)):=dk
theorem Ahc:AK dn oCg1 Tryz.f217 [va FP2 r,va FP2 s] [true,true,true,false,true,true,true,true,false,false,false,true,true,true,true,false,true,true,true,true,false] 600=some (tt 7 ((false,false)::tt 9 ((false,false)::(B9 (VA r) BZ,false)::(B9 (Ps r) BZ,false)::tt 9 ((false,false)::tt 9 ((false,false)::[])))),Rq (Ro r (VA r)) (Rp r s (Ps r))):=dk
theorem Ahd:AK dn oCg1 Tryz.f192 [va FP2 r,va FP2 s] dw 600=some ([(B9 (VB r) BZ,true)],.val true (CE true)):=dk
theorem Ahe:AK dn oCg1 Tryz.f192 [va FP2 r,va FP2 s] dz 600=some ([(B9 (VB r) BZ,false),(B9 (Ps r) BZ,true)],.val true (CE true)):=dk
theorem Ahf:AK dn oCg1 Tryz.f192 [va FP2 r,va FP2 s] d_ 600=some ([(B9 (VB r) BZ,false),(B9 (Ps r) BZ,false)],Rq (Ro r (VB r)) (Rp r s (Ps r))):=dk
end
noncomputable section
def Rr (x a b c d:FP2):FP2:=(((0*x+d)*x+c)*x+b)*x+a
def ER (k:Nat) (x:FP2):FP2:=match k with
 | 1=>Rr x (mo yS) (mo yT) (mo yU) (mo yV)
 | 2=>Rr x (mo g7) (mo g8) (mo g9) 0
 | 3=>Rr x (mo yW) (mo yX) (mo yY) (mo yZ)
 | _=>Rr x (mo yN) (mo yO) (mo yP) (mo yQ)
def YL (p1 p2 p3 p4 y:FP2):P2:=match decide (p2=0) with
 | true=>.inf
 | false=>match decide (p4=0) with
  | true=>.inf
  | false=>.pt (p1*FD.inv p2) (y*(p3*FD.inv p4))
def Pu (x y:FP2):P2:=YL (ER 1 x) (ER 2 x) (ER 3 x) (ER 4 x) y
theorem hJ (r a b c d:R FP2):U' r a b c d=en (Rr (mo r) (mo a) (mo b) (mo c) (mo d)):=by simp only [U',ad,mu,mo_en,Pp];rfl
theorem Ahg (x a b c:FP2):((0*x+c)*x+b)*x+a=Rr x a b c 0:=ring [x,a,b,c] (a:=((0*x+c)*x+b)*x+a) (b:=(((0*x+0)*x+c)*x+b)*x+a) dk
theorem Ahh (r:R FP2):VA r=en (ER 2 (mo r)):=by
 simp only [VA,pl3,ad,mu,mo_en,Pp];exact gh en (Ahg _ _ _ _)
theorem Ahi (r:R FP2):VB r=en (ER 2 (mo r)):=by unfold VB;rw [hJ];rfl
theorem AJc (r:R FP2):Ps r=en (ER 4 (mo r)):=by unfold Ps;rw [hJ];rfl
theorem Ahj (r:R FP2) (p:FP2):Ro r (en p)=en (ER 1 (mo r)*FD.inv p):=by unfold Ro iv mu;rw [hJ,mo_en,mo_en,mo_en];rfl
theorem Ahk (r s:R FP2) (p:FP2):Rp r s (en p)=en (mo s*(ER 3 (mo r)*FD.inv p)):=by unfold Rp iv mu;rw [hJ,mo_en,mo_en,mo_en,mo_en];rfl
theorem Ahl:BZ=en (0:FP2):=rfl
theorem Ahm {F:FuncId} {args:List AV} (X Y:FP2) (h:AS dn F args (Rq (en X) (en Y))):AS dn F args (ve (.pt X Y:P2)):=EK (α:=P2) (r:=(en (.pt X Y:P2):R P2)) h dk
theorem Ahn {F:FuncId} {r s:R FP2} {p1 p2 p3 p4:FP2}
  (h1:decide (p2=0)=true→AS dn F [va FP2 r,va FP2 s] (.val true (CE true))) (h2:decide (p2=0)=false→decide (p4=0)=true→AS dn F [va FP2 r,va FP2 s] (.val true (CE true)))
  (h3:decide (p2=0)=false→decide (p4=0)=false→AS dn F [va FP2 r,va FP2 s] (Rq (en (p1*FD.inv p2)) (en (mo s*(p3*FD.inv p4))))):AS dn F [va FP2 r,va FP2 s] (ve (YL p1 p2 p3 p4 (mo s))):=by
 have z:AS dn F [va FP2 r,va FP2 s] (.val true (CE true))→AS dn F [va FP2 r,va FP2 s] (ve (.inf:P2)):=fun h=>EK (α:=P2) (r:=(en (.inf:P2):R P2)) h dk
 unfold YL;cases q2:decide (p2=0) with
 | true=>exact z (h1 q2)
 | false =>
  cases q4:decide (p4=0) with
  | true=>exact z (h2 q2 q4)
  | false=>exact Ahm _ _ (h3 q2 q4)
theorem AJd {p:R FP2} {x:FP2} (e:p=en x):B9 p BZ=decide (x=0):=by rw [e,Ahl,Q5]
theorem Aho {x y x' y':R FP2} (e1:x=x') (e2:y=y'):Rq x y=Rq x' y':=by rw [e1,e2]
theorem AJe {F:FuncId} {r s:R FP2} {p2 p4:R FP2} (e2:p2=en (ER 2 (mo r))) (e4:p4=en (ER 4 (mo r)))
  (h1:B9 p2 BZ=true→AS dn F [va FP2 r,va FP2 s] (.val true (CE true))) (h2:B9 p2 BZ=false→B9 p4 BZ=true→AS dn F [va FP2 r,va FP2 s] (.val true (CE true)))
  (h3:B9 p2 BZ=false→B9 p4 BZ=false→AS dn F [va FP2 r,va FP2 s] (Rq (Ro r p2) (Rp r s p4))):AS dn F [va FP2 r,va FP2 s] (ve (Pu (mo r) (mo s))):=by
 have f2:=AJd e2;have f4:=AJd e4;have ex:Ro r p2=en (ER 1 (mo r)*FD.inv (ER 2 (mo r))):=(gh (Ro r) e2).trans (Ahj r _)
 have ey:Rp r s p4=en (mo s*(ER 3 (mo r)*FD.inv (ER 4 (mo r)))):=(gh (Rp r s) e4).trans (Ahk r s _)
 unfold Pu;generalize ER 1 (mo r)=q1 at *
 generalize ER 2 (mo r)=q2 at *
 generalize ER 3 (mo r)=q3 at *
 generalize ER 4 (mo r)=q4 at *
 exact Ahn (fun h=>h1 (f2.trans h)) (fun h h'=>h2 (f2.trans h) (f4.trans h')) fun h h'=>(Aho ex ey)▸h3 (f2.trans h) (f4.trans h')
theorem Ahp (r s:R FP2):AS dn 217 [va FP2 r,va FP2 s] (ve (Pu (mo r) (mo s))) :=
 AJe (Ahh r) (AJc r) (fun h=>AN U_ AB Tryz.func217 (Aha r s) (Ad 7 ⟨rfl,Ad 9 ⟨rfl,h,trivial⟩⟩) rfl) (fun h h'=>AN U_ AB Tryz.func217 (Ahb r s) (Ad 7 ⟨rfl,Ad 9 ⟨rfl,h,h',trivial⟩⟩) rfl)
  fun h h'=>AN U_ AB Tryz.func217 (Ahc r s) (Ad 7 ⟨rfl,Ad 9 ⟨rfl,h,h',Ad 9 ⟨rfl,Ad 9 ⟨rfl,trivial⟩⟩⟩⟩) rfl
theorem Ahq (r s:R FP2):AS dn 192 [va FP2 r,va FP2 s] (ve (Pu (mo r) (mo s))) :=
 AJe (Ahi r) (AJc r) (fun h=>AN U_ AB Tryz.func192 (Ahd r s) ⟨h,trivial⟩ rfl) (fun h h'=>AN U_ AB Tryz.func192 (Ahe r s) ⟨h,h',trivial⟩ rfl)
  fun h h'=>AN U_ AB Tryz.func192 (Ahf r s) ⟨h,h',trivial⟩ rfl
theorem AJf:∃ f:FP2→FP2→P2,∀ x y,f x y=Pu x y:=⟨_,fun _ _=>rfl⟩
def Rs:FP2→FP2→P2:=Classical.choose AJf
theorem y8 (x y:FP2):Rs x y=Pu x y:=ij AJf x y
def SCg:dt:=(217,AZ (C_ FP2 FP2 fun r s=>ve (Rs (mo r) (mo s))))::(192,AZ (C_ FP2 FP2 fun r s=>ve (Rs (mo r) (mo s))))::SCf
theorem AJg:AT dn SCg:=⟨Aa Tryz.func217 dk dk (DI fun r s=>by rw [y8];exact Ahp r s),Aa Tryz.func192 dk dk (DI fun r s=>by rw [y8];exact Ahq r s),yM⟩
abbrev oCg:Orc:=AG SCg KV
theorem AJh:OrcOk dn oCg:=AH AJg BJ
end
noncomputable section
def hcL:dp:=[16717924791090763089,6451771550755190452,16813287336095381155,3368952460600638490,7891079509683868336,3646841576362204053,11062809923385098209,9863631852917151592,6362576984766887208,848540440590185907]
theorem AJi:∃ n,n=AI hcL:=⟨_,rfl⟩
def N8:Nat:=Classical.choose AJi
theorem y9:N8=AI hcL:=ij AJi
theorem Ahr (r:R P2):AK dn oCg Tryz.f219 [va P2 r] [] 300=some ([(true,true),(true,true)],JT (EN (AI hcL) (mo r)) (E0 (mo r))):=dk
theorem Ahs (r:R P2):AK dn oCg Tryz.f193 [va P2 r] [] 300=some ([(true,true),(true,true)],JT (EN (AI hcL) (mo r)) (E0 (mo r))):=dk
def SCi0:dt:=(219,AZ (BR P2 fun r=>JT (EN N8 (mo r)) (E0 (mo r))))::(193,AZ (BR P2 fun r=>JT (EN N8 (mo r)) (E0 (mo r))))::SCg
theorem AJj:AT dn SCi0:=⟨Aa Tryz.func219 dk dk (BW fun r=>by rw [y9];exact AN AJh AB Tryz.func219 (Ahr r) ⟨rfl,rfl,trivial⟩ rfl),Aa Tryz.func193 dk dk (BW fun r=>by rw [y9];exact AN AJh AB Tryz.func193 (Ahs r) ⟨rfl,rfl,trivial⟩ rfl),AJg⟩
abbrev oCi0:Orc:=AG SCi0 KV
theorem Aht:OrcOk dn oCi0:=AH AJj BJ
def SCi1:dt:=(216,A5 dn oCi0 Tryz.f216 300)::SCi0
theorem Ahu:AT dn SCi1:=⟨A7 Aht AB Tryz.func216 dk dk 300,AJj⟩
abbrev oCi1:Orc:=AG SCi1 KV
theorem AJk:OrcOk dn oCi1:=AH Ahu BJ
def zA (r:R FP2):P2:=Rs (mo (en (LG (mo r)).1:R FP2)) (mo (en (LG (mo r)).2:R FP2))
def YM (r s:R FP2):P2:=EN N8 (mo (en (Rg.add (mo (en (zA r):R P2):P2) (mo (en (zA s):R P2))):R P2))
theorem Ahv (r s:R FP2):AK dn oCi1 Tryz.f155 [va FP2 r,va FP2 s] [] 300=some ([],ve (YM r s)):=dk
theorem Ahw (r s:R FP2):AK dn oCi1 Tryz.f122 [va FP2 r,va FP2 s] [] 300=some ([],ve (YM r s)):=dk
def hU (u v:FP2):P2:=EN N8 (Rg.add (Rs (LG u).1 (LG u).2) (Rs (LG v).1 (LG v).2))
theorem Ahx (r s:R FP2):YM r s=hU (mo r) (mo s):=by unfold YM zA hU;simp only [mo_en]
theorem AJl:∃ f:FP2→FP2→P2,∀ x y,f x y=hU x y:=⟨_,fun _ _=>rfl⟩
def Rt:FP2→FP2→P2:=Classical.choose AJl
theorem AJm (x y:FP2):Rt x y=hU x y:=ij AJl x y
theorem AJn (r s:R FP2):ve (Rt (mo r) (mo s))=ve (YM r s):=by rw [AJm,Ahx]
def SCi2:dt:=(155,AZ (C_ FP2 FP2 fun r s=>ve (Rt (mo r) (mo s))))::(122,AZ (C_ FP2 FP2 fun r s=>ve (Rt (mo r) (mo s))))::SCe
theorem Ahy:AT dn SCi2:=⟨Aa Tryz.func155 dk dk (DI fun r s=>by rw [AJn];exact AN AJk AB Tryz.func155 (Ahv r s) trivial rfl),Aa Tryz.func122 dk dk (DI fun r s=>by rw [AJn];exact AN AJk AB Tryz.func122 (Ahw r s) trivial rfl),AhK⟩
abbrev zB:Orc:=AG SCi2 KV
end
noncomputable def h9 (g:dp→dp→AV):ASpec:=fun args H fr path=>match args with
 | [S,T]=>match DB S,H8 T with
  | some (k,o,n),some (t,n',m')=>match AF H k,AF H t with
   | some ⟨_,cs,_⟩,some ⟨_,es,_⟩=>match Az .u8 cs,Az .u8 es with
    | some xs,some ds=>some (BI [k,t] 2 fr 0 [] (g (AA xs o n) (AA ds 0 n')) [] [(Nat.ble (o+n) xs.length,true),(Nat.ble n' ds.length,true),(Nat.ble n 4398046511104,true),(Nat.ble 1 n',true),(Nat.ble n' 255,true),(Nat.ble n' m',true)] path)
    | _,_=>none
   | _,_=>none
  | _,_=>none
 | _=>none
theorem AJo {F:FuncId} {fn:Func} {g:dp→dp→AV} (hfn:dn.funcs[F]? = some fn) (hb:fn.body.isSome=true) (hname:(fn.name=="runtime.NumGoroutine")=false) (hk:∀ l d,D5 2 0 [] (g l d) []=true)
  (h:∀ {o n m n' m':Nat} {xs ds:dp},(∀ d∈xs,0≤d∧d<256)→(∀ d∈ds,0≤d∧d<256)→o+n≤xs.length→n'≤ds.length→n≤4398046511104→1≤n'→n'≤255→n'≤m'→Ac dn F [AP 0 o n m,AP 1 0 n' m'] (I1 xs ds) 2 [] (g (AA xs o n) (AA ds 0 n')) []):A' dn F (h9 g):=by
 refine DC hfn hb hname fun args H fr path r hs=>?_
 unfold h9 at hs;split at hs;case h_2=>cases hs
 rename_i S T;split at hs;case h_2=>cases hs
 rename_i k o n t n' m' hS hT;split at hs;case h_2=>cases hs
 rename_i ty cs op ty' es op' hk' ht';split at hs;case h_2=>cases hs
 rename_i xs ds hx hd;injection hs with hs;refine ⟨[k,t],2,0,[],_,_,_,path,hs.symm,fun β us w ha hg hc=>?_⟩
 obtain ⟨u1,us1,r1,⟨u2,us2,r2,ha,rfl⟩,rfl⟩:=ha;obtain ⟨c1,c2,c3,c4,c5,c6,_⟩:=hc;obtain ⟨m,r1⟩:=EU hS r1;obtain ⟨m2,hm2,r2⟩:=JY hT (f_ c6) r2
 obtain ⟨g1,_,_⟩:=ED hg hk' hx;obtain ⟨g2,_,_⟩:=ED hg ht' hd;refine ⟨_,_,h (o:=o) (n:=n) (m:=m) (n':=n') (m':=m2) g1 g2 (f_ c1) (f_ c2) (f_ c3) (f_ c4) (f_ c5) hm2,hk _ _,⟨u1,_,CJ dl rfl r1,⟨u2,_,CJ dl rfl r2,ha,rfl⟩,rfl⟩,MS (bs:=[Am [.seq .u8 xs],Uu [.seq .u8 ds]]) hg fun j d hj=>?_,fun j hj=>?_⟩
 ·match j,hj with
  | 0,hj=>injection hj with hj;subst hj;exact ⟨rfl,HY hg hk' hx (by show 0<2;decide) rfl⟩
  | 1,hj=>injection hj with hj;subst hj;exact ⟨rfl,xV hg ht' hd (xU r2 (f_ c4)) (by show 1<2;decide) rfl⟩
 ·match j,hj with
  | 0,_=>exact CC (hg.heap _ _ hk')
  | 1,_=>exact CC (hg.heap _ _ ht')
noncomputable section
def iB (f:Func) (o n m n' m':Nat) (xs ds:dp):ASt:=Ah f [AP 0 o n m,AP 1 0 n' m'] (I1 xs ds) 2 []
def fdR (x d:dp) (j:Nat):R FP2:=(Pn x d j,Pn x d (j+1))
def YN (x d:dp):P2:=Rt (mo (fdR x d 0)) (mo (fdR x d 2))
def zC (o n n' m':Nat) (xs ds:dp):dr:=(Nat.ble (o+n) xs.length,true)::(Nat.ble n' ds.length,true)::(Nat.ble n 4398046511104,true)::(Nat.ble 1 n',true)::(Nat.ble n' 255,true)::(Nat.ble n' m',true)::tt 2 []
def VC (p:P2):AV:=.tup [(true,av (en p:R P2)),(false,[.n .i64 0])]
section
variable (o n m n' m':Nat) (xs ds:dp)
theorem Ahz:AR dn zB Tryz.f76 300 2 [] (iB Tryz.f76 o n m n' m' xs ds)=some (zC o n n' m' xs ds,[],VC (YN (AA xs o n) (AA ds 0 n')),[]):=dk
theorem Ah0:AR dn zB Tryz.f55 300 2 [] (iB Tryz.f55 o n m n' m' xs ds)=some (zC o n n' m' xs ds,[],VC (YN (AA xs o n) (AA ds 0 n')),[]):=dk
end
theorem AJq:∃ f:dp→dp→P2,∀ x d,f x d=YN x d:=⟨_,fun _ _=>rfl⟩
def Ru:dp→dp→P2:=Classical.choose AJq
theorem AJr (x d:dp):Ru x d=YN x d:=ij AJq x d
theorem AJs {F:FuncId} {f:Func} (hf:dn.funcs[F]? = some f) (hb1:f.body.isSome=true) (ha:Nat.ble 2 f.ntmps=true) {o n m n' m':Nat} {xs ds:dp} (hw:V' f.ntmps (iB f o n m n' m' xs ds).s=true)
  (hr:AR dn zB f 300 2 [] (iB f o n m n' m' xs ds)=some (zC o n n' m' xs ds,[],VC (YN (AA xs o n) (AA ds 0 n')),[]))
  (h1:o+n≤xs.length) (h2:n'≤ds.length) (hn:n≤4398046511104) (hn1:1≤n') (hn':n'≤255) (hm:n'≤m'):Ac dn F [AP 0 o n m,AP 1 0 n' m'] (I1 xs ds) 2 [] (VC (Ru (AA xs o n) (AA ds 0 n'))) []:=by
 rw [AJr];refine BV Ahy BJ hf hb1 ha hr hw ?_
 exact ⟨gb h1,gb h2,gb hn,gb hn1,gb hn',gb hm,Ad 2 trivial⟩
def SCj:dt:=(76,h9 fun x d=>VC (Ru x d))::(55,h9 fun x d=>VC (Ru x d))::[]
theorem Ah1:AT dn SCj:=⟨AJo Tryz.func76 dk dk (fun _ _=>by kernel_rfl) fun _ _ h1 h2 h3 h4 h5 h6=>AJs Tryz.func76 dk dk dk (Ahz ..) h1 h2 h3 h4 h5 h6,AJo Tryz.func55 dk dk (fun _ _=>by kernel_rfl) fun _ _ h1 h2 h3 h4 h5 h6=>AJs Tryz.func55 dk dk dk (Ah0 ..) h1 h2 h3 h4 h5 h6,trivial⟩
end
open Ex Num Rg
open Go.RowKit (Below)
open Sh (R av rd mo en mo_en)
open Ex Num Rg
open Sh (R av rd mo en mo_en)
theorem AJt:∃ f:ByteArray→Bool,∀ s,f s=(Nat.ble 1 s.size&&(Nat.ble s.size 255&&Nat.beq (LW s).length s.size)):=⟨_,fun _=>rfl⟩
noncomputable def G4:ByteArray→Bool:=Classical.choose AJt
theorem zD (s:ByteArray):G4 s=(Nat.ble 1 s.size&&(Nat.ble s.size 255&&Nat.beq (LW s).length s.size)):=ij AJt s
theorem Ah2 {s:ByteArray} (h:G4 s=true):1≤s.size∧s.size≤255∧(LW s).length=s.size:=by
 rw [zD] at h;obtain ⟨h1,h⟩:=gk.1 h;obtain ⟨h2,h3⟩:=gk.1 h;exact ⟨f_ h1,f_ h2,An.1 h3⟩
noncomputable def SCl:dt:=SYf
theorem Ah3:AT dn SCl:=Agh
noncomputable def SCl1:dt:=SCl
theorem Ah4:AT dn SCl1:=Ah3
def VD:ByteArray:=⟨List.toArray [66,76,83,95,83,73,71,95,66,76,83,49,50,51,56,49,71,50,95,88,77,68,58,83,72,65,45,50,53,54,95,83,83,87,85,95,82,79,95,80,79,80,95]⟩
def VE:ByteArray:=⟨List.toArray [66,76,83,95,80,79,80,95,66,76,83,49,50,51,56,49,71,50,95,88,77,68,58,83,72,65,45,50,53,54,95,83,83,87,85,95,82,79,95,80,79,80,95]⟩
theorem Ah5:G4 VD=true:=by rw [zD];kernel_rfl
theorem Ah6:G4 VE=true:=by rw [zD];kernel_rfl
noncomputable section
theorem iC {x y:FP} (h:x*y≠0):CX (x*y)=(CX x==CX y):=by
 have e:(x*y).val=Af x.val y.val:=rfl
 unfold CX;rw [e];exact APs fun q=>h (XI.1 (e.trans q))
theorem AJu:CX (-1:FP)=false:=by
 cases h:CX (-1:FP) with
 | false=>rfl
 | true=>obtain ⟨y,hy⟩:=AFb.1 h;exact absurd hy (AFY y)
theorem AJv:(1:FP)≠0:=FD.one_ne
theorem Ah7 {x:FP} (h:x≠0):CX (-(x*x))=false:=by
 have e:-(x*x)=-1*(x*x):=ring [x] dk
 have h1:-(1:FP)*(x*x)≠0:=Cz (fun q=>AJv (UA.1 q)) (Cz h h)
 rw [e,iC h1,AJu,L8 rfl];rfl
theorem Ah8:(1+1:FP)≠0:=fun e=>by
 rw [← DS,← F7] at e;have:=gh Fin.val e
 rw [GW dm] at this;cases this
def BH:FP:=FD.inv (1+1)
theorem zE:BH+BH=1:=by
 have:=FD.mul_inv (1+1:FP) Ah8
 rw [← this];exact ring [BH] (a:=BH+BH) (b:=(1+1)*BH) dk
theorem AJw {a:FP2} {m:FP} (hm:m*m=a.nrm) (h:CX ((a.a+m)*BH)=true) (h0:(a.a+m)*BH≠0):CN a=true:=by
 have hx:=NU h;generalize CM ((a.a+m)*BH)=x at hx
 have hx0:x≠0:=fun e=>h0 (by rw [← hx,e,Rg.mul_zero])
 have hxi:=FD.mul_inv x hx0;have hn:=tA a;rw [← hm] at hn;have hyx:x*(a.b*BH*FD.inv x)=a.b*BH:=by
  have:x*(a.b*BH*FD.inv x)=a.b*BH*(x*FD.inv x):=ring [x,a.b,BH,FD.inv x] dk
  rw [this,hxi,Rg.mul_one]
 generalize a.b*BH*FD.inv x=y at hyx
 refine H3.2 ⟨⟨x,y⟩,Qx.ext ?_ ?_⟩
 ·show x*x+-1*(y*y)=a.a;refine AX.1 (PA h0 ?_)
  rw [← hx];have e1:x*x*(x*x+-1*(y*y)-a.a)=(x*x)*(x*x)-(x*x)*a.a-(x*y)*(x*y):=ring [x,y,a.a] dk
  rw [e1,hyx,hx];have e2:(a.a+m)*BH*((a.a+m)*BH)-(a.a+m)*BH*a.a-a.b*BH*(a.b*BH)=(m*m-(a.a*a.a+a.b*a.b))*(BH*BH)+(a.a+m)*BH*a.a*(BH+BH)-(a.a+m)*BH*a.a:=ring [a.a,a.b,m,BH] dk
  rw [e2,← hn,zE,Rg.mul_one];exact ring [a.a,m,BH] (a:=(m*m-m*m)*(BH*BH)+(a.a+m)*BH*a.a-(a.a+m)*BH*a.a) (b:=0) dk
 ·show x*y+y*x=a.b;have e1:x*y+y*x=x*y+x*y:=ring [x,y] dk
  rw [e1,hyx];have e2:a.b*BH+a.b*BH=a.b*(BH+BH):=ring [a.b,BH] dk
  rw [e2,zE,Rg.mul_one]
theorem zG {a:FP2} (h:CX a.nrm=true):CN a=true:=by
 have hm:=NU h;generalize CM a.nrm=n at hm
 have hn:=tA a;by_cases hb:a.b=0
 ·by_cases ha:a.a=0
  ·exact H3.2 ⟨0,Qx.ext (by rw [ha];exact ring [] (a:=(0:FP)*0+-1*(0*0)) (b:=0) dk) (by rw [hb];exact ring [] (a:=(0:FP)*0+0*0) (b:=0) dk)⟩
  ·cases hi:CX a.a with
   | true =>
    have hx:=NU hi;refine H3.2 ⟨⟨CM a.a,0⟩,Qx.ext ?_ ?_⟩
    ·show CM a.a*CM a.a+-1*(0*0)=a.a;rw [hx];exact ring [a.a] (a:=a.a+-1*(0*0)) (b:=a.a) dk
    ·show CM a.a*0+0*CM a.a=a.b;rw [hb];exact ring [CM a.a] (a:=CM a.a*0+0*CM a.a) (b:=0) dk
   | false =>
    have e:-a.a=-1*a.a:=ring [a.a] dk
    have hi':CX (-a.a)=true:=by rw [e,iC (by rw [← e];exact fun q=>ha (UA.1 q)),AJu,hi];rfl
    have hx:=NU hi';refine H3.2 ⟨⟨0,CM (-a.a)⟩,Qx.ext ?_ ?_⟩
    ·show 0*0+-1*(CM (-a.a)*CM (-a.a))=a.a;rw [hx];exact ring [a.a] (a:=0*0+-1*-a.a) (b:=a.a) dk
    ·show 0*CM (-a.a)+CM (-a.a)*0=a.b;rw [hb];exact ring [CM (-a.a)] (a:=0*CM (-a.a)+CM (-a.a)*0) (b:=0) dk
 ·have hb0:a.b*BH≠0:=Cz hb fun e=>AJv (by rw [← zE,e];exact ring [] (a:=(0:FP)+0) (b:=0) dk)
  have hp:(a.a+n)*BH*((a.a+-n)*BH)=-(a.b*BH*(a.b*BH)):=by
   have e:(a.a+n)*BH*((a.a+-n)*BH)=(a.a*a.a+a.b*a.b-n*n)*(BH*BH)-a.b*BH*(a.b*BH):=ring [a.a,a.b,n,BH] dk
   rw [e,hm,hn];exact ring [a.a,a.b,BH] (a:=(a.a*a.a+a.b*a.b-(a.a*a.a+a.b*a.b))*(BH*BH)-a.b*BH*(a.b*BH)) (b:=-(a.b*BH*(a.b*BH))) dk
  have hne:(a.a+n)*BH*((a.a+-n)*BH)≠0:=by rw [hp];exact fun q=>Cz hb0 hb0 (UA.1 q)
  have hs:=iC hne;rw [hp,Ah7 hb0] at hs;cases hA:CX ((a.a+n)*BH) with
  | true=>exact AJw hm hA fun e=>hne (by rw [e,Rg.zero_mul])
  | false =>
   rw [hA] at hs;have hB:CX ((a.a+-n)*BH)=true:=by
    cases hB:CX ((a.a+-n)*BH) with
    | true=>rfl
    | false=>rw [hB] at hs;cases hs
   exact AJw (m:=-n) (by rw [← hm];exact ring [n] dk) hB fun e=>hne (by rw [e,Rg.mul_zero])
theorem Ah9 {a:FP2} (h:CN a=false):a.nrm≠0:=fun e=>by
 have:CN a=true:=zG (by rw [e];exact L8 (y:=0) (ring [] (a:=(0:FP)*0) (b:=0) dk))
 rw [this] at h;cases h
theorem Ah_ {a b:FP2} (ha:CN a=false) (hb:CX b.nrm=false):CN (b*a)=true:=by
 have h1:CX a.nrm=false:=by
  cases h:CX a.nrm with
  | false=>rfl
  | true=>rw [zG h] at ha;cases ha
 have h2:b.nrm≠0:=fun e=>by
  rw [e,L8 (y:=0) (ring [] (a:=(0:FP)*0) (b:=0) dk)] at hb;cases hb
 refine zG ?_
 have e:=Qx.nrm_mul b a;rw [e,iC (Cz h2 (Ah9 ha)),h1,hb];rfl
theorem AJx {a c:FP2} (h:CN a=true):CN (c*c*a)=true:=by
 obtain ⟨s,hs⟩:=H3.1 h;exact H3.2 ⟨c*s,by rw [← hs];exact ring [c,s] dk⟩
theorem Ah' (x:FP):x*x≠tf 5:=s6 (XQ k2 s7 dm dk dm) dm x
theorem AiA:CX zF.nrm=false:=by
 have e:zF.nrm=tf 5:=dk
 cases h:CX zF.nrm with
 | false=>rfl
 | true=>obtain ⟨y,hy⟩:=AFb.1 h;exact absurd (hy.trans e) (Ah' y)
def iD:FP2:=⟨tf 0x1a59d4b6bbf912a32d63b43028e2deeebe8d5d97ca64b6d66f64ac7a265a9305e1a40da5edb81b4e3ac4f5c28f5bd27,tf 0x15103a07f641331bb298f5ed3ba1230aa0bcc9f87d923077324df24a0f7ffa93045d3d6f94c17ae10efa11eb851e7336⟩
def kzS:FP2:=⟨tf 0x1776b5d3dd70bb2ac6e46be0849209c9c47853350da878bdc14a5042102f1f01cbc75043b8d13d709dd5ca27f92cb390,tf 0x2c094c100c4f8a157767045bc04279dd04f207fbddc4de6675911b512cddacc0061215698453b5b11125516029e4d21⟩
theorem AiC:bF*FD.inv (zF*aF)=iD:=by
 have h:zF*aF*iD=bF:=dk
 have h0:zF*aF≠0:=l_ (by kernel_rfl:decide (zF*aF=0)=false)
 exact XF h0 h
theorem AiD:CN (CS iD)=true:=H3.2 ⟨kzS,dk⟩
theorem AiE:aF≠0:=l_ (by kernel_rfl:decide (aF=0)=false)
theorem AiF {w:FP2} (ht:w*w+w≠0) {x:FP2} (hx:x=-(bF*FD.inv aF)*(1+FD.inv (w*w+w))):CS (w*x)=w*w*(w*CS x):=by
 have ha:=FD.mul_inv aF AiE;have hti:=FD.mul_inv (w*w+w) ht
 have h1:aF*x*(w*w+w)=-(bF*(w*w+w+1)):=by
  have e:aF*(-(bF*FD.inv aF)*(1+FD.inv (w*w+w)))*(w*w+w)=-(bF*(aF*FD.inv aF)*(w*w+w+(w*w+w)*FD.inv (w*w+w))):=ring [aF,bF,FD.inv aF,FD.inv (w*w+w),w] dk
  rw [hx,e,ha,hti,Rg.mul_one]
 have e:CS (w*x)-w*w*(w*CS x)=(1-w)*(aF*x*(w*w+w)+bF*(w*w+w+1)):=ring [w,x,aF,bF] (a:=w*x*(w*x)*(w*x)+aF*(w*x)+bF-w*w*(w*(x*x*x+aF*x+bF))) dk
 refine AX.1 (e.trans ?_)
 rw [h1];exact ring [w,bF] (a:=(1-w)*(-(bF*(w*w+w+1))+bF*(w*w+w+1))) (b:=0) dk
theorem AiG (u:FP2):CN (CS (IG u))=true:=by
 unfold IG;cases h:CN (CS (Hl u)) with
 | true=>exact h
 | false =>
  show CN (CS (wF u*Hl u))=true;by_cases ht:tF u=0
  ·have:Hl u=iD:=by
    unfold Hl FL;rw [fu ht];exact AiC
   rw [this,AiD] at h;cases h
  ·have hx:Hl u=-(bF*FD.inv aF)*(1+FD.inv (tF u)):=by
    unfold Hl FL;rw [ga ht];rfl
   rw [AiF (w:=wF u) ht hx];refine AJx ?_
   have e:wF u*CS (Hl u)=u*u*(zF*CS (Hl u)):=ring [u,zF,CS (Hl u)] (a:=zF*(u*u)*CS (Hl u)) dk
   rw [e];exact AJx (Ah_ h AiA)
theorem AiH (u:FP2):Pr u*Pr u=CS (IG u):=by
 have h:=AFe (AiG u)
 unfold Pr gU;split
 ·have e:-(EL (CS (IG u)))*-(EL (CS (IG u)))=EL (CS (IG u))*EL (CS (IG u)):=ring [EL (CS (IG u))] dk
  rw [e,h]
 ·exact h
end
noncomputable section
def Be:List FP2→FP2→FP2
 | [],_=>0
 | c::r,x=>c+x*Be r x
def VF:List FP2→List FP2→List FP2
 | [],q=>q
 | p,[]=>p
 | c::p,d::q=>(c+d)::VF p q
def VG (c:FP2):List FP2→List FP2
 | []=>[]
 | d::q=>c*d::VG c q
def I2:List FP2→List FP2→List FP2
 | [],_=>[]
 | c::p,q=>VF (VG c q) (0::I2 p q)
theorem zH (x:FP2):∀ p q:List FP2,Be (VF p q) x=Be p x+Be q x
 | [],q=>ring [Be q x] (a:=Be q x) (b:=0+Be q x) dk
 | c::p,[]=>ring [Be (c::p) x] (a:=Be (c::p) x) (b:=Be (c::p) x+0) dk
 | c::p,d::q=>by
  show c+d+x*Be (VF p q) x=c+x*Be p x+(d+x*Be q x);rw [zH x p q];exact ring [c,d,x,Be p x,Be q x] (a:=c+d+x*(Be p x+Be q x)) dk
theorem zI (c x:FP2):∀ q:List FP2,Be (VG c q) x=c*Be q x
 | []=>ring [c] (a:=0) (b:=c*0) dk
 | d::q=>by
  show c*d+x*Be (VG c q) x=c*(d+x*Be q x);rw [zI c x q];exact ring [c,d,x,Be q x] (a:=c*d+x*(c*Be q x)) dk
theorem MU (x:FP2):∀ p q:List FP2,Be (I2 p q) x=Be p x*Be q x
 | [],q=>ring [Be q x] (a:=0) (b:=0*Be q x) dk
 | c::p,q=>by
  show Be (VF (VG c q) (0::I2 p q)) x=(c+x*Be p x)*Be q x;rw [zH,zI];show c*Be q x+(0+x*Be (I2 p q) x)=_;rw [MU x p q];exact ring [c,x,Be p x,Be q x] (a:=c*Be q x+(0+x*(Be p x*Be q x))) dk
theorem iE (x a b c d:FP2):Rr x a b c d=Be [a,b,c,d] x:=ring [x,a,b,c,d] (a:=(((0*x+d)*x+c)*x+b)*x+a) (b:=a+x*(b+x*(c+x*(d+x*0)))) dk
def iF:List FP2:=[mo yS,mo yT,mo yU,mo yV]
def Rv:List FP2:=[mo g7,mo g8,mo g9,0]
def zJ:List FP2:=[mo yW,mo yX,mo yY,mo yZ]
def zK:List FP2:=[mo yN,mo yO,mo yP,mo yQ]
def pSd:List FP2:=[bF,aF,0,1]
theorem AiI (x:FP2):CS x=Be pSd x:=ring [x,aF,bF] (a:=x*x*x+aF*x+bF) (b:=bF+x*(aF+x*(0+x*(1+x*0)))) dk
def iG:List FP2→Bool
 | []=>true
 | d::q=>decide (d=0)&&iG q
def pz:List FP2→List FP2→Bool
 | [],q=>iG q
 | c::p,q=>match q with
  | []=>decide (c=0)&&pz p []
  | d::q=>decide (c=d)&&pz p q
theorem AJz (x:FP2):∀ q:List FP2,iG q=true→Be q x=0
 | [],_=>rfl
 | d::q,h=>by
  have h:=gk.1 (show (decide (d=0)&&iG q)=true from h)
  show d+x*Be q x=0;rw [gv h.1,AJz x q h.2];exact ring [x] (a:=0+x*0) (b:=0) dk
theorem iH (x:FP2):∀ p q:List FP2,pz p q=true→Be p x=Be q x
 | [],q,h=>(AJz x q h).symm
 | c::p,[],h=>by
  have h:=gk.1 (show (decide (c=0)&&pz p [])=true from h)
  show c+x*Be p x=0;rw [gv h.1,iH x p [] h.2]
  exact ring [x] (a:=0+x*0) (b:=0) dk
 | c::p,d::q,h=>by
  have h:=gk.1 (show (decide (c=d)&&pz p q)=true from h)
  show c+x*Be p x=d+x*Be q x;rw [gv h.1,iH x p q h.2]
theorem AiJ:pz (I2 (I2 Rv Rv) Rv) (I2 zK zK)=true:=dk
theorem AiK:pz (I2 pSd (I2 zJ zJ)) (VF (I2 (I2 iF iF) iF) (VG C2.b (I2 (I2 Rv Rv) Rv)))=true:=dk
theorem AiL (x:FP2):ER 1 x=Be iF x:=iE ..
theorem AiM (x:FP2):ER 2 x=Be Rv x:=iE ..
theorem AiN (x:FP2):ER 3 x=Be zJ x:=iE ..
theorem AiO (x:FP2):ER 4 x=Be zK x:=iE ..
theorem AiP {s b n1 d2 n3 d4 y:FP2} (hd:d2*d2*d2=d4*d4) (hn:s*(n3*n3)=n1*n1*n1+b*(d2*d2*d2)) (h2:d2≠0) (h4:d4≠0) (hy:y*y=s) :
  y*(n3*FD.inv d4)*(y*(n3*FD.inv d4))=n1*FD.inv d2*(n1*FD.inv d2)*(n1*FD.inv d2)+b:=by
 have i2:=FD.mul_inv d2 h2;have i4:=FD.mul_inv d4 h4;refine Iq (Cz h4 h4) ?_
 have e1:d4*d4*(y*(n3*FD.inv d4)*(y*(n3*FD.inv d4)))=y*y*(n3*n3)*(d4*FD.inv d4*(d4*FD.inv d4)):=ring [y,n3,d4,FD.inv d4] dk
 have e2:d2*d2*d2*(n1*FD.inv d2*(n1*FD.inv d2)*(n1*FD.inv d2)+b)=n1*n1*n1*(d2*FD.inv d2*(d2*FD.inv d2)*(d2*FD.inv d2))+b*(d2*d2*d2):=ring [n1,d2,FD.inv d2,b] dk
 rw [e1,← hd,e2,i2,i4,hy,Rg.mul_one,Rg.mul_one,Rg.mul_one,Rg.mul_one,hn]
theorem AiQ {p1 p2 p3 p4 y s:FP2} (hd:p2*p2*p2=p4*p4) (hn:s*(p3*p3)=p1*p1*p1+C2.b*(p2*p2*p2)) (hy:y*y=s):On C2.b (YL p1 p2 p3 p4 y):=by
 unfold YL;cases h2:decide (p2=0) with
 | true=>trivial
 | false=>cases h4:decide (p4=0) with
  | true=>trivial
  | false=>exact AiP hd hn (l_ h2) (l_ h4) hy
theorem AiR {x y:FP2} (h:y*y=CS x):On C2.b (Pu x y):=by
 unfold Pu;rw [AiL,AiM,AiN,AiO];have hd:=iH x _ _ AiJ;have hn:=iH x _ _ AiK;rw [MU,MU,MU] at hd;rw [MU,MU,zH,MU,MU,zI,MU,MU,← AiI] at hn;exact AiQ hd hn h
theorem AJ0 (u:FP2):On C2.b (Rs (LG u).1 (LG u).2):=by
 rw [y8,AJX];exact AiR (AiH u)
theorem rhN:rQ*AI hcL % 0x242f7fd3174c30564058aa1817124bdf9e35fcd8882607f0f52b92e68fc2fc9794736c947ce2977d47fd11494865d54177840aa2a7660d227a1f89c6d79d62873b5197d4f43e0922476e59b4c8906fa3b229b121cb6487be3754c31c1062f=0:=dk
theorem AiT {p:P2} (hp:On C2.b p) (n:Nat) (h:oN∣n):smul n p=.inf:=by
 obtain ⟨k,rfl⟩:=h;rw [Iu C2 hp,AcU hp];exact GV k
theorem AiU {p:P2} (hp:On C2.b p):On C2.b (EN N8 p)∧smul rN (EN N8 p)=.inf:=by
 have e:EN N8 p=smul N8 p:=fw ((KZ p).2 hp)
 rw [e];refine ⟨B4 C2 hp _,?_⟩
 rw [← Iu C2 hp];refine AiT hp _ ?_
 rw [Xu,y9,rN_eq];exact od (by rw [gw];exact rhN)
theorem AiV (u v:FP2):On C2.b (Rt u v)∧smul rN (Rt u v)=.inf:=by
 rw [AJm];exact AiU (Ir C2 (AJ0 u) (AJ0 v))
theorem AiW (x d:dp):On C2.b (Ru x d)∧smul rN (Ru x d)=.inf:=by
 rw [AJr];exact AiV _ _
end
noncomputable def SDb00:dt:=(274,A5 dn oCf0 Tryz.f274 300)::(273,A5 dn oCf0 Tryz.f273 300)::(293,A5 dn oCf0 Tryz.f293 300)::SCf0
theorem AJ1:AT dn SDb00:=⟨A7 LE AB Tryz.func274 dk dk 300,A7 LE AB Tryz.func273 dk dk 300,A7 LE AB Tryz.func293 dk dk 300,gR⟩
noncomputable abbrev oDb00:Orc:=AG SDb00 KV
theorem AiX:OrcOk dn oDb00:=AH AJ1 BJ
noncomputable def SDb0:dt:=(286,A5 dn oDb00 Tryz.f286 300)::SDb00
theorem AiY:AT dn SDb0:=⟨A7 AiX AB Tryz.func286 dk dk 300,AJ1⟩
noncomputable abbrev oDb0:Orc:=AG SDb0 KV
theorem Jv:OrcOk dn oDb0:=AH AiY BJ
noncomputable section
def iI (a1 a2 b1 b2 p q:R FP2):R FP2:=su FP2 (mu FP2 (ad FP2 a1 a2) (ad FP2 b1 b2)) (ad FP2 p q)
def Rx (x y:R FP2):R FP2:=ad FP2 (ad FP2 BZ x) y
section
variable (r s:R FP6) (k:R FP2)
theorem AiZ:AK dn oDb0 Tryz.f229 [va FP6 r,va FP6 s] [] 300=some ([],va FP6 (ad FP6 r s)):=dk
theorem Aia:AK dn oDb0 Tryz.f231 [va FP6 r,va FP6 s] [] 300=some ([],va FP6 (su FP6 r s)):=dk
theorem Aib:AK dn oDb0 Tryz.f125 [va FP6 r,va FP6 s] [] 300=some ([],va FP6 (ad FP6 r s)):=dk
theorem Aic:AK dn oDb0 Tryz.f253 [va FP6 r] [] 300=some ([],va FP6 (re FP6 r)):=dk
theorem Aid:AK dn oDb0 Tryz.f254 [va FP6 r] [] 300=some ([],va FP6 (ng FP6 r)):=dk
theorem Aie:AK dn oDb0 Tryz.f267 [va FP6 r] [] 300=some ([],va FP6 (re FP6 r)):=dk
theorem Aif:AK dn oDb0 Tryz.f268 [va FP6 r] [] 300=some ([],va FP6 (ng FP6 r)):=dk
def zL (r:R FP6):R FP6:=(mx r.2.2,re FP2 r.1,re FP2 r.2.1)
def MV (r:R FP6) (k:R FP2):R FP6:=(mu FP2 r.1 k,mu FP2 r.2.1 k,mu FP2 r.2.2 k)
theorem Aig:AK dn oDb0 Tryz.f230 [va FP6 r] [] 300=some ([],va FP6 (zL r)):=dk
theorem Aih:AK dn oDb0 Tryz.f287 [va FP6 r,va FP2 k] [] 300=some ([],va FP6 (MV r k)):=dk
theorem Aii:AK dn oDb0 Tryz.f284 [va FP6 r,va FP2 k] [] 300=some ([],va FP6 (MV r k)):=dk
def zM (r s:R FP6):R FP6 :=
 (Rx (mu FP2 r.1 s.1) (mx (iI r.2.1 r.2.2 s.2.1 s.2.2 (mu FP2 r.2.1 s.2.1) (mu FP2 r.2.2 s.2.2))),
 Rx (iI r.1 r.2.1 s.1 s.2.1 (mu FP2 r.1 s.1) (mu FP2 r.2.1 s.2.1)) (mx (mu FP2 r.2.2 s.2.2)),
 Rx (iI r.1 r.2.2 s.1 s.2.2 (mu FP2 r.1 s.1) (mu FP2 r.2.2 s.2.2)) (mu FP2 r.2.1 s.2.1))
def zO (r s:R FP6):R FP6 :=
 (ad FP2 (ad FP2 BZ (mu FP2 r.1 s.1)) (mx (ad FP2 (ad FP2 BZ (mu FP2 r.2.1 s.2.2)) (mu FP2 r.2.2 s.2.1))),
 ad FP2 (ad FP2 (ad FP2 BZ (mu FP2 r.1 s.2.1)) (mu FP2 r.2.1 s.1)) (mx (ad FP2 BZ (mu FP2 r.2.2 s.2.2))),
 ad FP2 (ad FP2 (ad FP2 BZ (mu FP2 r.1 s.2.2)) (mu FP2 r.2.1 s.2.1)) (mu FP2 r.2.2 s.1))
theorem Aij:AK dn oDb0 Tryz.f227 [va FP6 r,va FP6 s] [true,true,false,true,true,false,true,true,false] 600=some (tt 5 ((false,false)::tt 5 ((false,false)::tt 5 ((false,false)::[]))),va FP6 (zM r s)):=dk
theorem Aik:AK dn oDb0 Tryz.f126 [va FP6 r,va FP6 s] [] 900=some ([],va FP6 (zO r s)):=dk
end
theorem Ail (r s:R FP6):zM r s=mu FP6 r s:=by
 obtain ⟨a,b,c⟩:=r;obtain ⟨d,e,f⟩:=s;refine ju ?_ (ju ?_ ?_)<;>simp only [zM,Rx,iI,mx,ad,su,mu,mo_en,Pp]
 ·exact gh (en (α:=FP2)) (ring [mo a,mo b,mo c,mo d,mo e,mo f,xi] (a:=0+mo a*mo d+((mo b+mo c)*(mo e+mo f)-(mo b*mo e+mo c*mo f))*xi) (b:=mo a*mo d+xi*(mo b*mo f+mo c*mo e)) dk)
 ·exact gh (en (α:=FP2)) (ring [mo a,mo b,mo c,mo d,mo e,mo f,xi] (a:=0+((mo a+mo b)*(mo d+mo e)-(mo a*mo d+mo b*mo e))+mo c*mo f*xi) (b:=mo a*mo e+mo b*mo d+xi*(mo c*mo f)) dk)
 ·exact gh (en (α:=FP2)) (ring [mo a,mo b,mo c,mo d,mo e,mo f,xi] (a:=0+((mo a+mo c)*(mo d+mo f)-(mo a*mo d+mo c*mo f))+mo b*mo e) (b:=mo a*mo f+mo b*mo e+mo c*mo d) dk)
theorem Aim (r s:R FP6):zO r s=mu FP6 r s:=by
 obtain ⟨a,b,c⟩:=r;obtain ⟨d,e,f⟩:=s;refine ju ?_ (ju ?_ ?_)<;>simp only [zO,mx,ad,mu,mo_en,Pp]
 ·exact gh (en (α:=FP2)) (ring [mo a,mo b,mo c,mo d,mo e,mo f,xi] (a:=0+mo a*mo d+(0+mo b*mo f+mo c*mo e)*xi) (b:=mo a*mo d+xi*(mo b*mo f+mo c*mo e)) dk)
 ·exact gh (en (α:=FP2)) (ring [mo a,mo b,mo c,mo d,mo e,mo f,xi] (a:=0+mo a*mo e+mo b*mo d+(0+mo c*mo f)*xi) (b:=mo a*mo e+mo b*mo d+xi*(mo c*mo f)) dk)
 ·exact gh (en (α:=FP2)) (ring [mo a,mo b,mo c,mo d,mo e,mo f,xi] (a:=0+mo a*mo f+mo b*mo e+mo c*mo d) (b:=mo a*mo f+mo b*mo e+mo c*mo d) dk)
end
end Go.Proofs.YtgnajdcdcblaoaaGreat
