/- Part 5 of the proof. -/
import Derived.Test.YtgnajdcdcblaoaaGreatPD
import Derived.Test.YtgnajdcdcblaoaaGreatPC
import Derived.Test.YtgnajdcdcblaoaaGreatPB
import Derived.Tactics
import Derived.Tactics2
set_option maxRecDepth 100000
set_option maxHeartbeats 4000000
open Go.Proofs.Tryz renaming prog→dn
namespace Go.Proofs.YtgnajdcdcblaoaaGreat
open Ex Num Rg
open Sh (R av rd mo en mo_en)
noncomputable section
def rQ:Nat:=0x73eda753299d7d483339d80809a1d80553bda402fffe5bfeffffffff00000001
theorem AF4:∃ n,n=rQ:=⟨_,rfl⟩
def rN:Nat:=Classical.choose AF4
theorem rN_eq:rN=rQ:=ij AF4
def RL:dp:=[0xffffffff00000001,0x53bda402fffe5bfe,0x3339d80809a1d805,0x73eda753299d7d48]
theorem tJ:AI (AA RL 0 4)=rN:=(by kernel_rfl:AI (AA RL 0 4)=rQ).trans rN_eq.symm
def tK:List Ch:=RL.map fun i=>.n .u64 i
theorem AXQ:AK dn (AG S0 K0) Tryz.f168 [] [] 100=some ([],.val true tK):=dk
theorem AXR:AS dn 168 [] (.val true tK):=AN (AH Ht Ab) AB Tryz.func168 AXQ trivial rfl
def SJa:dt:=(168,AZ (ev FP (.val true tK)))::SJ4
theorem AF5:AT dn SJa:=⟨Aa Tryz.func168 dk dk (cE (α:=FP) AXR),AXP⟩
abbrev oJa:Orc:=AG SJa KH
theorem AF6:OrcOk dn oJa:=AH AF5 CO
def SJb:dt:=(109,A5 dn oJa Tryz.f109 100)::(179,A5 dn oJa Tryz.f179 100)::SJa
theorem AF7:AT dn SJb:=⟨A7 AF6 AB Tryz.func109 dk dk 100,A7 AF6 AB Tryz.func179 dk dk 100,AF5⟩
abbrev oJb:Orc:=AG SJb KH
theorem AF8:OrcOk dn oJb:=AH AF7 CO
def SJc:dt:=(108,A5 dn oJb Tryz.f108 300)::(177,A5 dn oJb Tryz.f177 300)::SJb
theorem AF9:AT dn SJc:=⟨A7 AF8 AB Tryz.func108 dk dk 300,A7 AF8 AB Tryz.func177 dk dk 300,AF7⟩
abbrev oJc:Orc:=AG SJc KH
theorem cM:OrcOk dn oJc:=AH AF9 CO
def BM (p:Pt FP):Bool:=A6 p&&BE (smul rN p)
def CK (p:P2):Bool:=A9 p&&EJ (smul rN p)
def rW:dp:=AA RL (0+0*1) (4-0)
theorem AF_:AI rW=rN:=tJ
section
variable (r:R P2) (x y:Nat) (i:Bool)
theorem AXS:AK dn oJc Tryz.f104 [va P2 r] dw 500=some (tt 2 [(decide (E0 (mo r)=0),true)],Au (en (EN (AI rW) (mo r)):R P2).2.2):=dk
theorem AXT:AK dn oJc Tryz.f104 [va P2 r] du 500=some (tt 2 [(decide (E0 (mo r)=0),false)],.val false [.b false]):=dk
theorem AXU:AK dn oJc Tryz.f48 [Bj x y i] dw 500=some (tt 2 [(decide (Gu (Aj x y i)=0),true)],Au (BE (GZ (AI rW) (Aj x y i)))):=dk
theorem AXV:AK dn oJc Tryz.f48 [Bj x y i] du 500=some (tt 2 [(decide (Gu (Aj x y i)=0),false)],.val false [.b false]):=dk
end
theorem AXW (r:R P2):AS dn 104 [va P2 r] (Au (CK (mo r))):=by
 have h1:=AXS r;have h2:=AXT r;generalize (mo r:P2)=p at *
 unfold CK;cases ho:A9 p with
 | true =>
  have e:en (EN (AI rW) p)=(en (smul rN p):R P2):=by unfold EN;rw [fw ho,AF_]
  rw [e] at h1;exact AN cM AB Tryz.func104 h1 (Ad 2 ⟨by unfold E0;rw [fw ho];rfl,trivial⟩) rfl
 | false=>exact CW (AN cM AB Tryz.func104 h2 (Ad 2 ⟨by unfold E0;rw [fv (by rw [ho];exact gn)];rfl,trivial⟩) rfl) fun u hu=>In rfl hu
theorem AXX (x y:Nat) (i:Bool):AS dn 48 [Bj x y i] (Au (BM (Aj x y i))):=by
 have h1:=AXU x y i;have h2:=AXV x y i;generalize Aj x y i=p at *
 unfold BM;cases ho:A6 p with
 | true =>
  have e:GZ (AI rW) p=smul rN p:=by unfold GZ;rw [fw ho,AF_]
  rw [e] at h1;exact AN cM AB Tryz.func48 h1 (Ad 2 ⟨by unfold Gu;rw [fw ho];rfl,trivial⟩) rfl
 | false=>exact CW (AN cM AB Tryz.func48 h2 (Ad 2 ⟨by unfold Gu;rw [fv (by rw [ho];exact gn)];rfl,trivial⟩) rfl) fun u hu=>In rfl hu
def SJd:dt:=(48,AZ (NK fun p=>Au (BM p)))::(104,AZ (BR P2 fun r=>Au (CK (mo r))))::SJc
theorem AF':AT dn SJd:=⟨Aa Tryz.func48 dk dk (Q0 AXX),Aa Tryz.func104 dk dk (BW AXW),AF9⟩
end
noncomputable section
abbrev oJd:Orc:=AG SJd KH
theorem AGA:OrcOk dn oJd:=AH AF' CO
def SJe:dt:=(112,A5 dn oJd Tryz.f112 100)::(50,A5 dn oJd Tryz.f50 500)::SJd
theorem AGB:AT dn SJe:=⟨A7 AGA AB Tryz.func112 dk dk 100,A7 AGA AB Tryz.func50 dk dk 500,AF'⟩
abbrev oJe:Orc:=AG SJe KH
theorem tM:OrcOk dn oJe:=AH AGB CO
def DW (a:FP2):Bool:=if a.b=0 then BG a.a.val else BG a.b.val
theorem AXY (r:R FP2):AK dn oJe Tryz.f101 [va FP2 r] dw 300=some ([(dq (re FP r.2) 0,true)],Au (BG r.1)):=dk
theorem AXZ (r:R FP2):AK dn oJe Tryz.f101 [va FP2 r] du 300=some ([(dq (re FP r.2) 0,false)],Au (BG r.2)):=dk
theorem cN (x:Nat):BG x=BG (tf x).val:=by
 unfold BG Ct;show _=decide ((pN-x % pN % pN) % pN<x % pN % pN);rw [ka]
theorem AXa (r:R FP2):AS dn 101 [va FP2 r] (Au (DW (mo r))):=by
 have e:dq (re FP r.2) 0=decide ((mo r:FP2).b=0):=MA (mo r:FP2).b 0
 have h1:=AXY r;have h2:=AXZ r;unfold DW;by_cases h:(mo r:FP2).b=0
 ·rw [fw h];rw [show BG r.1=BG (mo r:FP2).a.val from cN _] at h1
  exact AN tM AB Tryz.func101 h1 ⟨by rw [e];exact fu h,trivial⟩ rfl
 ·rw [fv h];rw [show BG r.2=BG (mo r:FP2).b.val from cN _] at h2
  exact AN tM AB Tryz.func101 h2 ⟨by rw [e];exact ga h,trivial⟩ rfl
def SJf:dt:=(51,A5 dn oJe Tryz.f51 300)::(101,AZ (BR FP2 fun r=>Au (DW (mo r))))::SJe
theorem MB:AT dn SJf:=⟨A7 tM AB Tryz.func51 dk dk 300,Aa Tryz.func101 dk dk (BW AXa),AGB⟩
abbrev oJf:Orc:=AG SJf KH
theorem EO:OrcOk dn oJf:=AH MB CO
def EP (l:dp) (f:Int):dp:=l.set 0 (bits .or .u8 (l.getD 0 0) f)
def b1 (p:Pt FP):dp:=CI (DV p % pN) 48++CI (B8 p % pN) 48
def eE (s:Bool) (k:Nat):AV:=match s with
 | true=>.tup [(false,[.sl 7 0 k k]),(false,[.n .i64 0])]
 | false=>.tup [(false,[.sx 7 (2*k) 1]),(false,[.n .i64 0])]
def eH (l:dp):Heap:=[(7,some ⟨5,[.seq .u8 l],true⟩)]
section
variable (x y:Nat) (i:Bool)
noncomputable def XW (s:Bool) (p:List Bool):ASt:=Ah Tryz.f23 [Bj x y i,.val false [.b s]] [] 0 p
theorem AXb (s:Bool):AR dn oJf Tryz.f23 800 0 [] (XW x y i s dw)=some ([(!BM (Aj x y i),true)],[],.tup [(false,[.v (.slice none 0 0)]),(false,[.n .i64 140])],[]):=dk
def eC (p:Pt FP) (r:dr):dr:=(!BM p,false)::tt 10 ((false,false)::r)
theorem AXc:AR dn oJf Tryz.f23 800 0 [7] (XW x y i true [false,true,true,false,true,false])=some (eC (Aj x y i) (tt 10 ((BE (Aj x y i),true)::tt 4 [(BG (B8 (Aj x y i)),false)])),[],eE true 48,eH (EP (EP (b1 (Aj x y i)) 128) 64)):=dk
theorem AXd:AR dn oJf Tryz.f23 800 0 [7] (XW x y i true [false,true,true,false,false,true,true])=some (eC (Aj x y i) (tt 10 ((BE (Aj x y i),false)::(BG (B8 (Aj x y i)),true)::(!BE (Aj x y i),true)::tt 4 [])),[],eE true 48,eH (EP (EP (b1 (Aj x y i)) 128) 32)):=dk
theorem AXe:AR dn oJf Tryz.f23 800 0 [7] (XW x y i true [false,true,true,false,false,false])=some (eC (Aj x y i) (tt 10 [(BE (Aj x y i),false),(BG (B8 (Aj x y i)),false)]),[],eE true 48,eH (EP (b1 (Aj x y i)) 128)):=dk
end
def En (s:Bool) (p:Pt FP):dp:=match s,BE p with
 | false,true=>EP (b1 p) 64
 | false,false=>b1 p
 | true,true=>EP (EP (b1 p) 128) 64
 | true,false=>if BG (B8 p)=true then EP (EP (b1 p) 128) 32 else EP (b1 p) 128
theorem AXf {x y:Nat} {i:Bool} (hin:BM (Aj x y i)=true):Ac dn 23 [Bj x y i,.val false [.b true]] [] 0 [] (eE true 48) (eH (En true (Aj x y i))):=by
 have h3:=AXc x y i;have h4:=AXd x y i;have h5:=AXe x y i;unfold XW at *
 generalize Aj x y i=p at *
 have hC:∀ r,AM r→AM (eC p r):=fun r hr=>⟨by rw [hin];rfl,Ad 10 ⟨rfl,hr⟩⟩
 unfold En;cases hp:BE p with
 | true =>
  have hb:BG (B8 p)=false:=by
   have:p=.inf:=by cases p with | inf=>rfl | pt a b=>cases hp
   rw [this];rfl
  exact BV MB CO Tryz.func23 dk dk h3 dk (hC _ (Ad 10 ⟨hp,Ad 4 ⟨hb,trivial⟩⟩))
 | false =>
  by_cases hb:BG (B8 p)=true
  ·simp only [fw hb];exact BV MB CO Tryz.func23 dk dk h4 dk (hC _ (Ad 10 ⟨hp,hb,by rw [hp];rfl,Ad 4 trivial⟩))
  ·simp only [fv hb];exact BV MB CO Tryz.func23 dk dk h5 dk (hC _ (Ad 10 ⟨hp,by simpa using hb,trivial⟩))
end
noncomputable section
def UF (x:Nat):dp:=CI (x % pN) 48
def b2 (p:P2):dp:=((UF (rX p).2++UF (rX p).1)++UF (rY p).2)++UF (rY p).1
def tN (s:Bool) (p:P2):dp:=match s,EJ p with
 | false,true=>EP (b2 p) 64
 | false,false=>b2 p
 | true,true=>EP (EP (b2 p) 128) 64
 | true,false=>if DW (JP p)=true then EP (EP (b2 p) 128) 32 else EP (b2 p) 128
def UG (e:Int):AV:=.tup [(false,[.v (.slice none 0 0)]),(false,[.n .i64 e])]
def tO (α:Type) [Sh α] (inn:α→Bool) (V:Bool→AV) (H:Bool→α→Heap) (nw:Nat):ASpec:=fun args _ fr path=>match args with
 | [.val true a,B]=>match (rd a:Option (R α)),E8 (some B),path with
  | some r,some (_,_),true::rest=>some (BI [] 0 fr 0 [] (UG 140) [] [(inn (mo r),false)] rest)
  | some r,some (_,true),false::rest=>some (BI [] 0 fr nw [] (V true) (H true (mo r)) [(inn (mo r),true)] rest)
  | _,_,_=>none
 | _=>none
theorem Q8 {β β':Env} {B:AV} {c s:Bool} {u:Value} (h:E8 (some B)=some (c,s)) (hr:AL β B u):AL β' (.val false [.b s]) u:=by
 have:=J7 (β:=β) (u:=u) (fun A hA=>by injection hA with hA;subst hA;exact hr) h
 subst this;exact Aq rfl
theorem AXg {α:Type} [Sh α] {inn:α→Bool} {V:Bool→AV} {H:Bool→α→Heap} {nw:Nat} {f:FuncId} {fn:Func} (hfn:dn.funcs[f]? = some fn) (hb:fn.body.isSome=true) (hname:(fn.name=="runtime.NumGoroutine")=false) (hk:∀ s x,D5 0 nw [] (V s) (H s x)=true)
  (h0:∀ (r:R α) (s:Bool),inn (mo r)=false→Ac dn f [va α r,.val false [.b s]] [] 0 [] (UG 140) [])
  (h1:∀ (r:R α),inn (mo r)=true→Ac dn f [va α r,.val false [.b true]] [] 0 [] (V true) (H true (mo r))):A' dn f (tO α inn V H nw):=by
 have hg':∀ (β:Env) (H0:Heap) (w:World),Ex.Good β H0 w→Ex.Good (A3 β [] 0) [] w:=fun β _ w _=>by
  have hn:∀ b,A3 β [] 0 b=none:=fun b=>by
   unfold A3;have:Nat.blt b 0=false:=by cases b<;>rfl
   rw [this]
  exact ⟨(fun b blk h=>by cases h),(fun b b' B n n' h=>by cases h),(fun b B n h=>by rw [hn] at h;cases h)⟩
 refine DC hfn hb hname fun args H0 fr path r hs=>?_
 unfold tO at hs;split at hs;case h_2=>cases hs
 rename_i a B;split at hs;case h_3=>cases hs
 all_goals injection hs with hs
 ·rename_i q c s rest hx hB;refine ⟨[],0,0,[],_,_,_,_,hs.symm,fun β us w ha hgd hc=>?_⟩
  obtain ⟨u1,us1,r1,⟨u2,us2,r2,ha,rfl⟩,rfl⟩:=ha;exact ⟨[va α q,.val false [.b s]],[],h0 q s hc.1,dk,⟨u1,_,FG hx r1,⟨u2,us2,Q8 hB r2,ha,rfl⟩,rfl⟩,hg' β H0 w hgd,fun k hk=>by omega⟩
 ·rename_i q c rest hx hB;refine ⟨[],0,nw,[],_,_,_,_,hs.symm,fun β us w ha hgd hc=>?_⟩
  obtain ⟨u1,us1,r1,⟨u2,us2,r2,ha,rfl⟩,rfl⟩:=ha;exact ⟨[va α q,.val false [.b true]],[],h1 q hc.1,hk _ _,⟨u1,_,FG hx r1,⟨u2,us2,Q8 hB r2,ha,rfl⟩,rfl⟩,hg' β H0 w hgd,fun k hk=>by omega⟩
theorem AXh (r:R (Pt FP)) (s:Bool) (h:BM (mo r)=false):Ac dn 23 [va (Pt FP) r,.val false [.b s]] [] 0 [] (UG 140) [] :=
 BV MB CO Tryz.func23 dk dk (AXb r.1 r.2.1 r.2.2 s) dk ⟨by rw [show BM (Aj r.1 r.2.1 r.2.2)=false from h];rfl,trivial⟩
def SJg:dt:=(23,tO (Pt FP) BM (fun s=>eE s 48) (fun s p=>eH (En s p)) 8)::SJf
theorem AXi:AT dn SJg:=⟨AXg Tryz.func23 dk dk (fun s _=>by cases s<;>kernel_rfl) AXh (fun r h=>AXf (x:=r.1) (y:=r.2.1) (i:=r.2.2) h),MB⟩
end
open Ex Num Rg
open Ex Num Rg
open Sh (R av rd mo en mo_en)
noncomputable section
def JU {α:Type} (x:Nat) (k:Nat→α):α:=Nat.rec (k 0) (fun n _=>k (Nat.succ n)) x
theorem Ko {α:Type} (x:Nat) (k:Nat→α):JU x k=k x:=by cases x<;>rfl
section
variable {F:Type} [Sh F] [FD F]
def cO (fc:R (J F)→(R (J F)→Bool)→Bool) (z:R F→Bool) (a b:F) (N:Nat) (i:Nat):R (J F)→Bool :=
 Nat.rec (fun r=>z r.2.2) (fun i ih r=>fc (en (Bl (mo r:J F))) fun s=>cond (Nat.beq (N / 2^i % 2) 1) (fc (en (FF (mo s:J F) a b)) ih) (ih s)) i
theorem AXj (C:Cv F) {fc:R (J F)→(R (J F)→Bool)→Bool} {z:R F→Bool} {a b:F} {N:Nat} (hfc:∀ r k,fc r k=k r) (hz:∀ r:R F,z r=true→(mo r:F)=0) (hP:On C.b (.pt a b)) :
  ∀ (i:Nat) (r:R (J F)),B5 (mo r:J F)=smul (N / 2^i) (.pt a b)→cO fc z a b N i r=true→smul N (.pt a b)=.inf:=by
 intro i;induction i with
 | zero =>
  intro r hr h;rw [ia,ig] at hr;rw [← hr];exact F_ (hz r.2.2 h)
 | succ i ih =>
  intro r hr h;have h':fc (en (Bl (mo r:J F))) (fun s=>cond (Nat.beq (N / 2^i % 2) 1) (fc (en (FF (mo s:J F) a b)) (cO fc z a b N i)) (cO fc z a b N i s))=true:=h
  rw [hfc,hfc] at h';have hdiv:N / 2^i=2*(N / 2^(i+1))+N / 2^i % 2:=by
   rw [ip,← iu];omega
  have hoj:On C.b (B5 (mo r:J F)):=by rw [hr];exact B4 C hP _
  have htw:B5 (Bl (mo r:J F))=smul (2*(N / 2^(i+1))) (.pt a b):=by
   rw [Qz C hoj,hr,← It C hP,my]
  have htw':B5 (mo (en (Bl (mo r:J F)):R (J F)):J F)=smul (2*(N / 2^(i+1))) (.pt a b):=by rw [mo_en];exact htw
  cases hb:Nat.beq (N / 2^i % 2) 1 with
  | true =>
   rw [hb] at h';have h1:=jv hb;refine ih _ ?_ h'
   rw [mo_en,Tw C (by rw [htw'];exact B4 C hP _),htw']
   rw [hdiv,h1];rfl
  | false =>
   rw [hb] at h';have h1:N / 2^i % 2=0:=by
    have:=Nat.ne_of_beq_eq_false hb
    omega
   refine ih _ ?_ h'
   rw [htw',hdiv,h1];rfl
end
def tP (r:R (J FP)) (k:R (J FP)→Bool):Bool:=JU r.1 fun x=>JU r.2.1 fun y=>JU r.2.2 fun z=>k (x,y,z)
theorem AXk (r:R (J FP)) (k:R (J FP)→Bool):tP r k=k r:=by unfold tP;rw [Ko,Ko,Ko];rfl
def E3 (r:R (J FP2)) (k:R (J FP2)→Bool):Bool:=JU r.1.1 fun x=>JU r.1.2 fun x'=>JU r.2.1.1 fun y=>JU r.2.1.2 fun y'=>JU r.2.2.1 fun z=>JU r.2.2.2 fun z'=>k ((x,x'),(y,y'),(z,z'))
theorem AXl (r:R (J FP2)) (k:R (J FP2)→Bool):E3 r k=k r:=by unfold E3;rw [Ko,Ko,Ko,Ko,Ko,Ko];rfl
def zr1 (r:R FP):Bool:=Nat.beq r 0
theorem tQ (r:R FP) (h:zr1 r=true):(mo r:FP)=0:=by
 have:r=(0:Nat):=jv h
 rw [this];exact tf_zero
def XY (r:R FP2):Bool:=Nat.beq r.1 0&&Nat.beq r.2 0
theorem cS (r:R FP2) (h:XY r=true):(mo r:FP2)=0:=by
 obtain ⟨h1,h2⟩:=gk.1 h;exact Qx.ext (tQ r.1 h1) (tQ r.2 h2)
theorem AXm:rQ / 2^255=0:=dk
theorem cT:A6 G1B=true:=(rV gX gY).symm.trans dk
theorem AXn:cO tP zr1 (tf gX) (tf gY) rQ 255 (en (⟨0,0,0⟩:J FP))=true:=dk
theorem rG1:smul rN G1B=.inf:=by
 rw [rN_eq];exact AXj C1 AXk tQ ((KX G1B).1 cT) 255 _ (by rw [mo_en,AXm,F_ rfl];rfl) AXn
theorem XZ:BM G1B=true:=by unfold BM;rw [cT,rG1];rfl
end
open Ex Num
noncomputable section
def Xa (xs ys:dp):Heap:=[(0,some (Am [.seq .u8 xs])),(1,some (Am [.seq .u8 ys]))]
noncomputable def tS (off n m off' n' m':Nat) (xs ys:dp) (p:List Bool):ASt:=Ah Tryz.f25 (JF off n m off' n' m') (Xa xs ys) 2 p
noncomputable def AXo:List Item:=Bv (AW dn (AG S10 K0) (some 0) 100 2 none (tS 0 0 0 0 0 0 [] [] du))
noncomputable def saT (off n m off' n' m':Nat) (i:Int):List AV:=.val false [.sl 0 off n m]::.val false [.sl 1 off' n' m']::.any::.any::.any::.val false [.n .i64 i]::List.replicate (Tryz.f25.ntmps-6) .any
noncomputable def Q9 (off n m off' n' m':Nat) (xs ys:dp) (i:Int) (p:List Bool):ASt:=⟨AXo,⟨saT off n m off' n' m' i,Xa xs ys,2,p⟩⟩
abbrev saK:Option (List Nat×List Nat×Nat):=some ([0,1,5],[0,1],2)
section
variable (off n m off' n' m':Nat) (xs ys:dp) (i:Int)
theorem AXq:AW dn (AG S10 K0) (some 0) 100 2 saK (tS off n m off' n' m' xs ys du)=some ([(AJ .i64 n,true),(AJ .i64 n',true),(!decide ((n:Int)=n'),false)],[],Q9 off n m off' n' m' xs ys 0 []):=dk
theorem AXr:AR dn (AG S10 K0) Tryz.f25 100 2 [] (tS off n m off' n' m' xs ys dw)=some ([(AJ .i64 n,true),(AJ .i64 n',true),(!decide ((n:Int)=n'),true)],[],.val false [.b false],[]):=dk
def tU (d:Bool) (r:dr):dr:=(AJ .i64 n,true)::(decide (i<n),true)::(decide (0≤i∧i<n),true)::(decide (off+i.toNat*1<xs.length),true)::(decide (0≤i∧i<n'),true)::(decide (off'+i.toNat*1<ys.length),true)::(!decide (xs.getD (off+i.toNat*1) 0=ys.getD (off'+i.toNat*1) 0),d)::r
theorem AXs:AW dn (AG S10 K0) (some 0) 100 2 saK (Q9 off n m off' n' m' xs ys i ee)=some (tU off n off' n' xs ys i false [],[],Q9 off n m off' n' m' xs ys (AU true .i64 (i+1)) []):=dk
theorem AXt:AR dn (AG S10 K0) Tryz.f25 100 2 [] (Q9 off n m off' n' m' xs ys i dx)=some (tU off n off' n' xs ys i true [],[],.val false [.b false],[]):=dk
theorem AXu:AR dn (AG S10 K0) Tryz.f25 100 2 [] (Q9 off n m off' n' m' xs ys i du)=some ([(AJ .i64 n,true),(decide (i<n),false)],[],.val false [.b true],[]):=dk
theorem tW (p:List Bool):BO Tryz.f25.ntmps (Q9 off n m off' n' m' xs ys i p).s:=AQ dk
end
def PK (a b:dp):Bool:=decide (a=b)
theorem cU {xs:dp} {off n j:Nat} (h:j<n):(AA xs off n).getD j 0=xs.getD (off+j) 0:=by
 unfold AA;rw [gy,gy,o_ h,nu]
theorem UH {xs:dp} {off n:Nat} (h:off+n≤xs.length):(AA xs off n).length=n:=by
 unfold AA;rw [h_,ir];omega
theorem tY {β:Env} {x y:Bool} {u:Value} (e:x=y) (h:AL β (.val false [.b x]) u):AL β (Au y) u:=by
 subst e;obtain ⟨l1,l2,h1,h2,h3⟩:=h;exact ⟨l1,l2,⟨h1,rfl,trivial⟩,h2,h3⟩
section
variable {off n m off' m':Nat} {xs ys:dp} (hl:off+n≤xs.length) (hl':off'+n≤ys.length) (hn:AJ .i64 n=true) {β0:Env} {w0:World} (hb:∀ b,2≤b→β0 b=none)
include hl hl' hn hb
theorem AXv:∀ c i:Nat,i+c=n→(∀ j,j<i→xs.getD (off+j) 0=ys.getD (off'+j) 0) →
  ASafe dn 25 β0 w0 (A4 β0 w0 [] (Au (PK (AA xs off n) (AA ys off' n))) []) Tryz.f25.ntmps [] (Q9 off n m off' n m' xs ys (i:Nat) []):=by
 have bn:n≤9223372036854775807:=by simp only [AJ,gi,gc] at hn;omega
 intro c;induction c with
 | zero =>
  intro i hi heq;have e:PK (AA xs off n) (AA ys off' n)=true:=fu (og (by rw [UH hl,UH hl']) fun j h1 h2=>by
   rw [UH hl] at h1;have h3:=heq j dl;rw [← cU h1,← cU h1,gy,gy,kn (by rw [UH hl];exact h1),kn h2] at h3
   exact h3)
  refine Ae du (Hu (Av (AH KP Ab) AB Tryz.func25 (AXu ..) ⟨hn,ga dl,trivial⟩ (tW ..) hb ft) fun _ _=>tY e.symm)
 | succ c ih =>
  intro i hi heq;have et:((i:Nat):Int).toNat=i:=gj i
  have hC:∀ d r,(!decide (xs.getD (off+i) 0=ys.getD (off'+i) 0))=d→AM r→AM (tU off n off' n xs ys (i:Nat) d r):=fun d r hd hr =>
   ⟨hn,fu dl,fu dl,fu (by rw [et];omega),fu dl,fu (by rw [et];omega),by rw [et,g_];exact hd,hr⟩
  by_cases he:xs.getD (off+i) 0=ys.getD (off'+i) 0
  ·refine Ae ee (Ag (AH KP Ab) AB (AXs ..) (hC false [] (by rw [fu he];rfl) trivial) (tW ..) hb ft fun _=>?_)
   rw [Wg true dl,show ((i:Nat):Int)+1=((i+1:Nat):Int) from rfl]
   refine ih (i+1) dl fun j hj=>?_
   rcases gt j i with q | q
   ·exact heq j q
   ·rw [show j=i by omega];exact he
  ·have e:PK (AA xs off n) (AA ys off' n)=false:=ga fun h=>he (by
    have h3:(AA xs off n).getD i 0=(AA ys off' n).getD i 0:=by rw [h]
    rw [cU dl,cU dl] at h3;exact h3)
   exact Ae dx (Hu (Av (AH KP Ab) AB Tryz.func25 (AXt ..) (hC true [] (by rw [ga he];rfl) trivial) (tW ..) hb ft) fun _ _=>tY e.symm)
end
theorem AXw {off n m off' n' m':Nat} {xs ys:dp} (hl:off+n≤xs.length) (hl':off'+n'≤ys.length) (hn:AJ .i64 n=true) (hn':AJ .i64 n'=true) :
  Ac dn 25 (JF off n m off' n' m') (Xa xs ys) 2 [] (Au (PK (AA xs off n) (AA ys off' n'))) []:=by
 by_cases he:n=n'
 ·subst he;refine Ay (path:=du) Tryz.func25 dk dk fun β0 w0 hb=>?_
  exact Ag (AH KP Ab) AB (AXq off n m off' n m' xs ys) ⟨hn,hn',by rw [fu rfl];rfl,trivial⟩ (AQ dk) hb ft fun _=>AXv hl hl' hn hb n 0 dl fun j hj=>absurd hj (ld j)
 ·have e:PK (AA xs off n) (AA ys off' n')=false:=ga fun h=>he (by
   have h3:=gh List.length h
   rwa [UH hl,UH hl'] at h3)
  exact BA (BV KP Ab Tryz.func25 dk dk (AXr off n m off' n' m' xs ys) dk ⟨hn,hn',by rw [ga dl];rfl,trivial⟩) fun _ _=>tY e.symm
theorem AXx {β:Env} {H:Heap} {w:World} {k t:Nat} {ty ty':Nat} {cs ds:List Ch} {o o':Bool} {xs ys:dp} (hg:Ex.Good β H w) (hk:AF H k=some ⟨ty,cs,o⟩) (ht:AF H t=some ⟨ty',ds,o'⟩) (hxs:Az .u8 cs=some xs) (hys:Az .u8 ds=some ys) :
  Ex.Good (A3 β [k,t] 2) (Xa xs ys) w∧(∀ j,j<2→∃ X,β (Ex.nth [k,t] j)=some X):=by
 refine ⟨ACU (c:=[.seq .u8 xs]) (e:=[.seq .u8 ys]) hg hk ht (fun l h=>?_) (fun l h=>?_),fun j hj=>?_⟩
 ·obtain ⟨q1,q2⟩:=C8 hxs h;exact ⟨_,[],⟨q1,q2⟩,rfl,by simp⟩
 ·obtain ⟨q1,q2⟩:=C8 hys h;exact ⟨_,[],⟨q1,q2⟩,rfl,by simp⟩
 ·match j,hj with
  | 0,_=>exact CC (hg.heap _ _ hk)
  | 1,_=>exact CC (hg.heap _ _ ht)
noncomputable def smSp:ASpec:=fun args H fr path =>
 match args with
 | [A,B]=>match DB A,DB B with
  | some (k,off,n),some (t,off',n')=>match AF H k,AF H t with
   | some ⟨_,cs,_⟩,some ⟨_,ds,_⟩=>match Az .u8 cs,Az .u8 ds with
    | some xs,some ys=>some (BI [k,t] 2 fr 0 [] (Au (PK (AA xs off n) (AA ys off' n'))) [] [(Nat.ble (off+n) xs.length,true),(Nat.ble (off'+n') ys.length,true),(AJ .i64 n,true),(AJ .i64 n',true)] path)
    | _,_=>none
   | _,_=>none
  | _,_=>none
 | _=>none
theorem AXy:A' dn 25 smSp:=by
 refine DC Tryz.func25 dk dk fun args H fr path r h=>?_
 unfold smSp at h;split at h;case h_2=>cases h
 rename_i A B;split at h;case h_2=>cases h
 rename_i k off n t off' n' hA hB;split at h;case h_2=>cases h
 rename_i ty cs o ty' ds o' hk ht;split at h;case h_2=>cases h
 rename_i xs ys hxs hys;injection h with h;refine ⟨[k,t],2,0,[],_,_,_,path,h.symm,fun β us w ha hg hc=>?_⟩
 obtain ⟨u1,us1,r1,⟨u2,us2,r2,ha,rfl⟩,rfl⟩:=ha;obtain ⟨m,r1⟩:=EU hA r1;obtain ⟨m',r2⟩:=EU hB r2;obtain ⟨g2,g3⟩:=AXx hg hk ht hxs hys;exact ⟨JF off n m off' n' m',Xa xs ys,AXw (f_ hc.1) (f_ hc.2.1) hc.2.2.1 hc.2.2.2.1,dk,⟨u1,_,CJ dl rfl r1,⟨u2,us2,CJ dl rfl r2,ha,rfl⟩,rfl⟩,g2,g3⟩
end
open Ex Num Rg
open Sh (R av rd mo en mo_en)
noncomputable section
def Ai (l:dp) (k:Int):Bool:=decide (0<bits .and .u8 (l.getD 0 0) k)
def Bw (xs:dp) (k:Nat):dp:=bits .and .u8 (xs.getD 0 0) 31::List.take k (List.drop 1 xs)
def B_ (ls:dp) (o:Nat):Nat:=Ak (AA ls o 48)
def fB (s i b:Bool) (f:Int):Int:=match s,i with
 | false,true=>bits .or .u8 f 64
 | false,false=>f
 | true,true=>bits .or .u8 (bits .or .u8 f 128) 64
 | true,false=>if b=true then bits .or .u8 (bits .or .u8 f 128) 32 else bits .or .u8 f 128
def fB1 (s i b:Bool) (n:Nat):Bool:=(decide (0<bits .and .u8 (fB s i b n) 128)==s)&&((decide (0<bits .and .u8 (fB s i b n) 64)==i)&&((decide (0<bits .and .u8 (fB s i b n) 32)==(s&&(!i&&b)))&&decide (bits .and .u8 (fB s i b n) 31=n)))
theorem AXz (s i b:Bool):(List.range 32).all (fB1 s i b)=true:=by cases s<;>cases i<;>cases b<;>kernel_rfl
theorem AX0 (s i b:Bool) {f:Int} (h0:0≤f) (h1:f<32):decide (0<bits .and .u8 (fB s i b f) 128)=s∧decide (0<bits .and .u8 (fB s i b f) 64)=i∧decide (0<bits .and .u8 (fB s i b f) 32)=(s&&(!i&&b))∧bits .and .u8 (fB s i b f) 31=f:=by
 obtain ⟨n,rfl⟩:=ic h0;have h:=jz.1 (AXz s i b) n (jl.2 dl)
 unfold fB1 at h;simp only [gi,beq_iff_eq] at h;exact ⟨h.1,h.2.1,h.2.2.1,gv h.2.2.2⟩
def fB3 (s i b:Bool) (n:Nat):Bool:=!(decide (0<bits .and .u8 n 128)==s)||(!(decide (0<bits .and .u8 n 64)==i)||(!(decide (0<bits .and .u8 n 32)==(s&&(!i&&b)))||decide (fB s i b (bits .and .u8 n 31)=n)))
theorem AX1 (s i b:Bool):(List.range 256).all (fB3 s i b)=true:=by cases s<;>cases i<;>cases b<;>kernel_rfl
theorem AX2 {s i b:Bool} {f:Int} (h0:0≤f) (h1:f<256) (hs:decide (0<bits .and .u8 f 128)=s) (hi:decide (0<bits .and .u8 f 64)=i) (hb:decide (0<bits .and .u8 f 32)=(s&&(!i&&b))):fB s i b (bits .and .u8 f 31)=f:=by
 obtain ⟨n,rfl⟩:=ic h0;have h:=jz.1 (AX1 s i b) n (jl.2 dl)
 unfold fB3 at h;rw [hs,hi,hb] at h;simpa using h
def fB4 (n:Nat):Bool:=decide (0≤bits .and .u8 n 31)&&decide (bits .and .u8 n 31<32)
theorem AX3:(List.range 256).all fB4=true:=dk
theorem AX4 {f:Int} (h0:0≤f) (h1:f<256):0≤bits .and .u8 f 31∧bits .and .u8 f 31<32:=by
 obtain ⟨n,rfl⟩:=ic h0;have h:=jz.1 AX3 n (jl.2 dl)
 unfold fB4 at h;simpa using h
def D9 (s i b:Bool) (B:dp):dp:=match s,i with
 | false,true=>EP B 64
 | false,false=>B
 | true,true=>EP (EP B 128) 64
 | true,false=>if b=true then EP (EP B 128) 32 else EP B 128
theorem tZ (s i b:Bool) (f:Int) (t:dp):D9 s i b (f::t)=fB s i b f::t:=by cases s<;>cases i<;>cases b<;>rfl
theorem cV (s:Bool) (p:Pt FP):En s p=D9 s (BE p) (BG (B8 p)) (b1 p):=by
 unfold En D9;cases s<;>cases BE p<;>rfl
theorem AGI (s:Bool) (p:P2):tN s p=D9 s (EJ p) (DW (JP p)) (b2 p):=by
 unfold tN D9;cases s<;>cases EJ p<;>rfl
theorem AX5 (s i b:Bool) {B:dp} {k:Nat} (hk:0<k) (hB:k≤B.length) {f:Int} {t:dp} (e:B=f::t) (h0:0≤f) (h1:f<32):(AA (D9 s i b B) 0 k).length=k∧Ai (AA (D9 s i b B) 0 k) 128=s∧Ai (AA (D9 s i b B) 0 k) 64=i∧Ai (AA (D9 s i b B) 0 k) 32=(s&&(!i&&b))∧Bw (AA (D9 s i b B) 0 k) (k-1)=B.take k:=by
 obtain ⟨j,rfl⟩:∃ j,k=j+1:=⟨k-1,dl⟩
 subst e;rw [tZ];obtain ⟨q1,q2,q3,q4⟩:=AX0 s i b h0 h1;have hl:j≤t.length:=by simpa using hB
 refine ⟨by simp [AA];omega,q1,q2,q3,?_⟩
 show bits .and .u8 (fB s i b f) 31::List.take j (List.take j t)=f::List.take j t;rw [q4,List.take_take,Nat.min_self]
theorem AGJ {s i b:Bool} {L B:dp} {k:Nat} (hk:0<k) (hl:L.length=k) (hL:∀ d∈L,0≤d∧d<256) (hs:Ai L 128=s) (hi:Ai L 64=i) (hb:Ai L 32=(s&&(!i&&b))) (hB:B.take k=Bw L (k-1)):AA (D9 s i b B) 0 k=L:=by
 obtain ⟨j,rfl⟩:∃ j,k=j+1:=⟨k-1,dl⟩
 cases L with
 | nil=>cases hl
 | cons v u =>
  have hv:=hL v (ni ..)
  have hu:u.length=j:=by simpa using hl
  have hB':B.take (j+1)=bits .and .u8 v 31::List.take j u:=hB
  cases B with
  | nil=>cases hB'
  | cons f t =>
   rw [List.take_succ_cons] at hB';injection hB' with e1 e2;rw [tZ];show fB s i b f::List.take j t=v::u;rw [e1,e2,AX2 hv.1 hv.2 hs hi hb,← hu,List.take_length]
def cat:List Nat→dp
 | []=>[]
 | x::r=>CI x 48++cat r
theorem cW:∀ l:List Nat,(cat l).length=48*l.length
 | []=>rfl
 | x::r=>by rw [cat,ib,JJ,cW r,ii];omega
theorem cX:∀ (l:List Nat) (k:Nat),(cat l).take (48*k)=cat (l.take k)
 | [],k=>by rw [cat,List.take_nil,List.take_nil];rfl
 | x::r,0=>rfl
 | x::r,k+1=>by
  rw [cat,List.take_succ_cons,cat,← cX r k,List.take_append,JJ,ko (by rw [JJ];omega)]
  congr 2
theorem AGK:∀ (l:List Nat) (j:Nat),j<l.length→B_ (cat l) (48*j)=l.getD j 0 % 256^48
 | [],j,h=>absurd h (ld j)
 | x::r,0,_=>by
  show Ak ((CI x 48++cat r).take 48)=_;rw [List.take_left' (JJ x 48),AET];rfl
 | x::r,j+1,h=>by
  have ih:=AGK r j (by simpa using h)
  show Ak (((CI x 48++cat r).drop (48*(j+1))).take 48)=r.getD j 0 % 256^48;rw [show 48*(j+1)=48+48*j by omega,← ki,List.drop_left' (JJ x 48)]
  exact ih
theorem AGL:∀ (k:Nat) (ls:dp),ls.length=48*k→(∀ d∈ls,0≤d∧d<256)→cat ((List.range k).map fun j=>B_ ls (48*j))=ls
 | 0,ls,h,_=>by
  cases ls with
  | nil=>rfl
  | cons a b=>simp at h
 | k+1,ls,h,hb=>by
  have ih:=AGL k (ls.drop 48) (by rw [ir];omega) fun d hd=>hb d (lj hd)
  rw [pc,i_,kp,cat];have e1:CI (B_ ls (48*0)) 48=ls.take 48:=by
   have hl:(ls.take 48).length=48:=by rw [h_];omega
   have:=AEU (ls.take 48) fun d hd=>hb d (me hd)
   rw [hl] at this;exact this
  have e2:((fun j=>B_ ls (48*j)) ∘ Nat.succ)=fun j=>B_ (ls.drop 48) (48*j):=by
   funext j
   show Ak ((ls.drop (48*(j+1))).take 48)=Ak (((ls.drop 48).drop (48*j)).take 48);rw [ki,show 48*(j+1)=48+48*j by omega]
  rw [e1,e2,ih,kj]
theorem AGM:pN<32*256^47:=BP.1 dk
theorem AX6 {x:Nat} (h:x<pN):x % 256^48=x:=ge (by have:=AGM;omega)
theorem AX7 {x:Nat} (hx:x<pN) (r:List Nat):∃ f t,cat (x::r)=f::t∧0≤f∧f<32:=by
 refine ⟨FE x 47,CI x 47++cat r,?_,?_⟩
 ·show CI x (47+1)++cat r=_;rw [rB];rfl
 ·have h1:x / 256^47<32:=jb (by have:=AGM;omega)
  have h2:FE x 47=((x / 256^47 % 256:Nat):Int):=rfl
  rw [h2];omega
noncomputable def l1 (p:Pt FP):List Nat:=[DV p,B8 p]
noncomputable def l2 (p:P2):List Nat:=[(rX p).2,(rX p).1,(rY p).2,(rY p).1]
theorem cY (p:Pt FP):b1 p=cat (l1 p):=by
 unfold b1 l1 cat cat cat;rw [ge (XH p),ge (bD p),iq]
theorem AGN (p:P2):Nat.lt (rX p).1 pN∧Nat.lt (rX p).2 pN:=⟨(L7 p).a.isLt,(L7 p).b.isLt⟩
theorem AGO (p:P2):Nat.lt (rY p).1 pN∧Nat.lt (rY p).2 pN:=⟨(JP p).a.isLt,(JP p).b.isLt⟩
theorem cZ {x:Nat} (h:Nat.lt x pN):UF x=CI x 48:=by unfold UF;rw [ge h]
theorem AGP (p:P2):b2 p=cat (l2 p):=by
 unfold b2 l2 cat cat cat cat cat;rw [cZ (AGN p).1,cZ (AGN p).2,cZ (AGO p).1,cZ (AGO p).2,iq,lf,lf]
end
abbrev ff:List Bool:=[false,false,true,false,false]
abbrev fh:List Bool:=[false,false,true,false,true]
abbrev fk:List Bool:=[true,false,false,true,false,true,false]
open Ex Num Rg
set_option maxRecDepth 100000
set_option maxHeartbeats 4000000
noncomputable section
theorem AGQ:∀ (T0 T1:List AV) (x y:AV) (t:Nat),t≠T0.length→Al (T0++x::T1) t=Al (T0++y::T1) t
 | [],_,_,_,0,h=>absurd rfl h
 | [],_,_,_,_+1,_=>rfl
 | _::_,_,_,_,0,_=>rfl
 | _::T0,T1,x,y,t+1,h=>AGQ T0 T1 x y t fun e=>h (by rw [e];rfl)
theorem uA:∀ (T0 T1:List AV) (x:AV),Al (T0++x::T1) T0.length=x
 | [],_,_=>rfl
 | _::T0,T1,x=>uA T0 T1 x
theorem JV {P:Program} {f:FuncId} {β0:Env} {w0:World} {R:Ending→World→Prop} {nt:Nat} {W:List Nat} {todo:List Item} {T0 T1:List AV} {H:Heap} {fr:Nat} {p:List Bool} {k n sz:Nat}
  (h:∀ cap,n≤cap→ASafe P f β0 w0 R nt W ⟨todo,⟨T0++.val false [.sl k 0 n cap]::T1,H,fr,p⟩⟩):ASafe P f β0 w0 R nt W ⟨todo,⟨T0++.val false [.sx k n sz]::T1,H,fr,p⟩⟩:=fun β a w hi hf=>by
 have h1:=hi.tmp T0.length;dsimp only at h1;rw [uA] at h1;obtain ⟨cap,hc,hr⟩:∃ cap,n≤cap∧AL β (.val false [.sl k 0 n cap]) (a.tmps.getD T0.length undef):=by
  obtain ⟨l1,l2,q,q2,q3⟩:=h1;rcases q with ⟨B,N,cap,e1,e2,e3,e4⟩ | ⟨e1,e2,e3⟩
  ·exact ⟨cap,e3,l1,l2,.inl ⟨B,(N,0),e1,e2⟩,q2,q3⟩
  ·subst e2;exact ⟨0,gd _,l1,l2,.inr (.inl ⟨e1,rfl,rfl,rfl,e3⟩),q2,q3⟩
 refine h cap hc β a w { hi with tmp:=fun t=>?_ } hf
 by_cases e:t=T0.length
 ·subst e;dsimp only;rw [uA];exact hr
 ·dsimp only;rw [AGQ _ _ _ (.val false [.sx k n sz]) _ e];exact hi.tmp t
def NY (n m:Nat) (h:Int) (s:Bool):List AV:=[AP 0 0 n m,.val false [.n .i64 h],.val false [.b s]]
noncomputable def H5 (xs:dp) (n m:Nat) (h:Int) (s:Bool) (p:List Bool):ASt:=Ah Tryz.f59 (NY n m h s) [(0,some (Am [.seq .u8 xs]))] 1 p
def GC (e:Int):AV:=.tup [(false,[.v (.slice none 0 0)]),(false,[.b false]),(false,[.n .i64 e])]
def Kp (k:Nat) (big:Bool):AV:=.tup [(false,[.sx (2+3*k) k 6]),(false,[.v (.bool big)]),(false,[.n .i64 0])]
def E4 (k:Nat) (l:List Ch):Heap:=[(2+3*k,some ⟨40,l,true⟩)]
def c8 (xs ls:dp):Heap:=[(0,some (Am [.seq .u8 xs])),(2,some ⟨5,[.seq .u8 ls],true⟩)]
noncomputable def AX8:List Item:=Bv (AW dn oJf (some 0) 800 1 none (H5 [] 48 48 1 true fe))
noncomputable def r1T (n:Nat) (big:Bool) (i:Int):List AV:=List.append (List.replicate 12 AV.any) (.val false [.v (.bool big)]::List.append (List.replicate 50 AV.any) (.val false [.sx 2 n 1]::.val false [.v (.int .i64 n)]::.val false [.n .i64 i]::List.replicate (Tryz.f59.ntmps-66) AV.any))
noncomputable def Kq (xs ls:dp) (n:Nat) (big:Bool) (i:Int) (p:List Bool):ASt:=⟨AX8,⟨r1T n big i,c8 xs ls,3,p⟩⟩
noncomputable def AX_:List Item:=Bv (AW dn oJf (some 0) 800 1 none (H5 [] 48 48 1 true fa))
noncomputable def AX' (big:Bool):List AV:=List.append (List.replicate 12 AV.any) [.val false [.v (.bool big)]]
noncomputable def AYA:List AV:=.any::.any::.val false [.v (.slice none 0 0)]::List.replicate (Tryz.f59.ntmps-17) AV.any
noncomputable def Gx (xs ls:dp) (big:Bool) (i:AV) (p:List Bool):ASt:=⟨AX_,⟨AX' big++i::AYA,c8 xs ls,3,p⟩⟩
def Xb:Option (List Nat×List Nat×Nat):=some ([12,63,64,65],[0,2],3)
def c9:Option (List Nat×List Nat×Nat):=some ([12,13,16],[0,2],3)
def Kr (xs:dp) (s b:Bool) (r:dr):dr:=(true,true)::(false,false)::(true,true)::(decide (0<xs.length),true)::(true,true)::(decide (0<xs.length),true)::(true,true)::(decide (0<xs.length),true)::(!(Ai xs 128==s),b)::r
def NZ (xs:dp) (n m:Nat) (b c:Bool) (r:dr):dr:=(Ai xs 32,b)::(true,true)::(decide (0<xs.length),true)::(true,true)::(Nat.beq m 1,false)::(true,true)::(Nat.ble n xs.length,true)::(true,true)::(Ai xs 64,c)::r
def Ks (C o:Nat) (ls:dp) (e:Bool) (r:dr):dr:=(true,true)::(decide ((0:Int)≤48∧(48:Int)≤(C:Int)),true)::(true,true)::(Nat.ble (o+48) ls.length,true)::(true,true)::(!decide (HP 48 (B_ ls o)=0),e)::r
def PM (C:Nat) (b:Bool) (r:dr):dr:=(true,true)::(true,true)::(Nat.beq C 48,b)::(true,true)::r
section
variable (xs ls:dp) (n m C:Nat) (i:Int) (big:Bool)
theorem AYB:AW dn oJf (some 0) 800 1 Xb (Kq xs ls n big i [true,true,true])=some ([(decide (i<n),true),(decide (0≤i∧i<n),true),(decide (0+i.toNat*1<ls.length),true),(decide (ls.getD (0+i.toNat*1) 0=0),true),(!big,true)],[],Kq xs ls n big (AU true .i64 (i+1)) []):=dk
theorem AYC:AR dn oJf Tryz.f59 800 1 [] (Kq xs ls n big i du)=some ([(decide (i<n),false)],[],GC 0,[]):=dk
theorem AYD:AR dn oJf Tryz.f59 800 1 [] (Kq xs ls n big i ee)=some ([(decide (i<n),true),(decide (0≤i∧i<n),true),(decide (0+i.toNat*1<ls.length),true),(decide (ls.getD (0+i.toNat*1) 0=0),false)],[],GC 202,[]):=dk
theorem AYE:AR dn oJf Tryz.f59 800 1 [] (Kq xs ls n big i [true,true,false])=some ([(decide (i<n),true),(decide (0≤i∧i<n),true),(decide (0+i.toNat*1<ls.length),true),(decide (ls.getD (0+i.toNat*1) 0=0),true),(!big,false)],[],GC 202,[]):=dk
theorem AYF:AR dn oJf Tryz.f59 800 1 [] (H5 xs n m 1 true dw)=some ([(AJ .i64 n,true),(!decide ((n:Int)=48),true)],[],GC 200,[]):=dk
theorem AYG:AR dn oJf Tryz.f59 800 1 [] (H5 xs 48 m 1 true dz)=some (Kr xs true true [],[],GC 201,[]):=dk
theorem AYH:AW dn oJf (some 0) 800 1 Xb (H5 xs 48 m 1 true fe)=some (Kr xs true false (NZ xs 48 m false true [(true,true)]),[],Kq xs (Bw xs 47) 48 (Ai xs 32) 0 []):=dk
theorem AGR:AW dn oJf (some 0) 800 1 c9 (H5 xs 48 m 1 true fa)=some (Kr xs true false (NZ xs 48 m false false []),[],Gx xs (Bw xs 47) (Ai xs 32) (.val false [.sx 2 48 1]) []):=dk
theorem AYI:AW dn oJf (some 0) 800 1 Xb (H5 xs 48 m 1 true fh)=some (Kr xs true false (NZ xs 48 m true true [(true,true)]),[],Kq xs (Bw xs 47) 48 (Ai xs 32) 0 []):=dk
theorem AGS:AW dn oJf (some 0) 800 1 c9 (H5 xs 48 m 1 true ff)=some (Kr xs true false (NZ xs 48 m true false []),[],Gx xs (Bw xs 47) (Ai xs 32) (.val false [.sx 2 48 1]) []):=dk
theorem AYJ:AR dn oJf Tryz.f59 800 1 [] (H5 xs n m 2 true dw)=some ([(AJ .i64 n,true),(!decide ((n:Int)=96),true)],[],GC 200,[]):=dk
theorem AYK:AR dn oJf Tryz.f59 800 1 [] (H5 xs 96 m 2 true dz)=some (Kr xs true true [],[],GC 201,[]):=dk
theorem AYL:AW dn oJf (some 0) 800 1 Xb (H5 xs 96 m 2 true fe)=some (Kr xs true false (NZ xs 96 m false true [(true,true)]),[],Kq xs (Bw xs 95) 96 (Ai xs 32) 0 []):=dk
theorem AGT:AW dn oJf (some 0) 800 1 c9 (H5 xs 96 m 2 true fa)=some (Kr xs true false (NZ xs 96 m false false []),[],Gx xs (Bw xs 95) (Ai xs 32) (.val false [.sx 2 96 1]) []):=dk
theorem AYM:AW dn oJf (some 0) 800 1 Xb (H5 xs 96 m 2 true fh)=some (Kr xs true false (NZ xs 96 m true true [(true,true)]),[],Kq xs (Bw xs 95) 96 (Ai xs 32) 0 []):=dk
theorem AGU:AW dn oJf (some 0) 800 1 c9 (H5 xs 96 m 2 true ff)=some (Kr xs true false (NZ xs 96 m true false []),[],Gx xs (Bw xs 95) (Ai xs 32) (.val false [.sx 2 96 1]) []):=dk
theorem AYN:AR dn oJf Tryz.f59 800 1 [5] (Gx xs ls big (.val false [.sl 2 0 48 C]) [true,false,true,false])=some ((true,true)::Ks C 0 ls false (PM C true ([(false,false)])),[],Kp 1 big,E4 1 [.num 6 (F8 48 (B_ ls 0))]):=dk
theorem AYO:AR dn oJf Tryz.f59 800 1 [5] (Gx xs ls big (.val false [.sl 2 0 48 C]) [true,false,false,false])=some ((true,true)::Ks C 0 ls false (PM C false ([(false,false)])),[],Kp 1 big,E4 1 [.num 6 (F8 48 (B_ ls 0))]):=dk
theorem AYP:AR dn oJf Tryz.f59 800 1 [] (Gx xs ls big (.val false [.sl 2 0 48 C]) dx)=some ((true,true)::Ks C 0 ls true [],[],GC 203,[]):=dk
theorem AYQ:AR dn oJf Tryz.f59 800 1 [8] (Gx xs ls big (.val false [.sl 2 0 96 C]) fk)=some ((true,true)::Ks C 0 ls false (PM C false (Ks (C-48) 48 ls false (PM (C-48) true ([(false,false)])))),[],Kp 2 big,E4 2 [.num 6 (F8 48 (B_ ls 0)),.num 6 (F8 48 (B_ ls 48))]):=dk
theorem AYR:AR dn oJf Tryz.f59 800 1 [8] (Gx xs ls big (.val false [.sl 2 0 96 C]) [true,false,false,true,false,false,false])=some ((true,true)::Ks C 0 ls false (PM C false (Ks (C-48) 48 ls false (PM (C-48) false ([(false,false)])))),[],Kp 2 big,E4 2 [.num 6 (F8 48 (B_ ls 0)),.num 6 (F8 48 (B_ ls 48))]):=dk
theorem AYS:AR dn oJf Tryz.f59 800 1 [] (Gx xs ls big (.val false [.sl 2 0 96 C]) dx)=some ((true,true)::Ks C 0 ls true [],[],GC 203,[]):=dk
theorem AYT:AR dn oJf Tryz.f59 800 1 [] (Gx xs ls big (.val false [.sl 2 0 96 C]) [true,false,false,true,true])=some ((true,true)::Ks C 0 ls false (PM C false (Ks (C-48) 48 ls true [])),[],GC 203,[]):=dk
end
end
open Ex Num Rg
noncomputable section
noncomputable abbrev rdF:Func:=Tryz.f59
def Kt (ls:dp) (big:Bool):Bool:=ls.all (fun d=>decide (d=0))&&!big
def GD (ls:dp) (big:Bool):Int:=if Kt ls big=true then 0 else 202
def Eo (ls:dp) (k:Nat):Bool:=(List.range k).all fun j=>decide (B_ ls (48*j)<pN)
def H6 (ls:dp) (k:Nat):List Ch:=(List.range k).map fun j=>.num 6 (B_ ls (48*j))
def BL (k:Nat) (s:Bool) (l:dp):Int:=if l.length≠48*k then 200 else if Ai l 128≠s then 201 else if (Ai l 32&&!s)=true then 201 else if Ai l 64=true then GD (Bw l (48*k-1)) (Ai l 32) else if Eo (Bw l (48*k-1)) k=true then 0 else 203
def BS (k:Nat) (s:Bool) (l:dp):Bool:=decide (l.length=48*k)&&(decide (Ai l 128=s)&&(!(Ai l 32&&!s)&&(!Ai l 64&&Eo (Bw l (48*k-1)) k)))
theorem dB (xs ls:dp) (n:Nat) (big:Bool) (i:Int) (p:List Bool):BO rdF.ntmps (Kq xs ls n big i p).s:=AQ dk
theorem Q_ (xs ls:dp) (big:Bool) (k n C:Nat) (p:List Bool):BO rdF.ntmps (Gx xs ls big (.val false [.sl k 0 n C]) p).s:=AQ dk
theorem AGV {ls:dp} {n:Nat} (hl:ls.length=n) (h:∀ j,j<n→ls.getD j 0=0):ls.all (fun d=>decide (d=0))=true:=by
 rw [jz];intro d hd;obtain ⟨j,hj⟩:=List.getElem?_of_mem hd
 have hlt:=(List.getElem?_eq_some_iff.1 hj).1
 have:=h j dl
 rw [gy,hj] at this;exact fu this
theorem AGW {ls:dp} {j:Nat} (hj:j<ls.length) (h:ls.all (fun d=>decide (d=0))=true):ls.getD j 0=0:=by
 rw [jz] at h;rw [gy,kn hj];exact gv (h _ (List.getElem_mem hj))
section
variable {xs ls:dp} {n:Nat} {big:Bool} (hl:ls.length=n) (hn:0<n) (hm:n≤1000) {β0:Env} {w0:World} (hb:∀ b,1≤b→β0 b=none)
include hl hn hm hb
theorem dC:∀ c i:Nat,i+c=n→(∀ j,j<i→ls.getD j 0=0)→(0<i→big=false)→ASafe dn 59 β0 w0 (A4 β0 w0 [] (GC (GD ls big)) []) rdF.ntmps [] (Kq xs ls n big (i:Nat) []):=by
 intro c;induction c with
 | zero =>
  intro i hi hz hbig;have hin:i=n:=dl
  subst hin;have e:GD ls big=0:=by
   unfold GD Kt;rw [AGV hl hz,hbig hn];rfl
  rw [e];exact Ae du (Av EO AB Tryz.func59 (AYC xs ls i (i:Nat) big) ⟨ga dl,trivial⟩ (dB ..) hb ft)
 | succ c ih =>
  intro i hi hz hbig;have c1:decide (((i:Nat):Int)<(n:Int))=true:=fu dl
  have c2:decide (0≤((i:Nat):Int)∧((i:Nat):Int)<(n:Int))=true:=fu dl
  have c3:decide (0+((i:Nat):Int).toNat*1<ls.length)=true:=fu dl
  have ei:0+((i:Nat):Int).toNat*1=i:=dl
  by_cases h0:ls.getD i 0=0
  ·cases hq:big with
   | true =>
    have e:GD ls big=202:=by
     unfold GD Kt;rw [hq,lw,kc,fv gn]
    rw [← hq,e];exact Ae [true,true,false] (Av EO AB Tryz.func59 (AYE xs ls n (i:Nat) big) ⟨c1,c2,c3,fu (by rw [ei];exact h0),by rw [hq];rfl,trivial⟩ (dB ..) hb ft)
   | false =>
    rw [← hq];refine Ae [true,true,true] (Ag EO AB (AYB xs ls n (i:Nat) big) ⟨c1,c2,c3,fu (by rw [ei];exact h0),by rw [hq];rfl,trivial⟩ (dB ..) hb ft fun _=>?_)
    rw [Wg true dl,show ((i:Nat):Int)+1=((i+1:Nat):Int) from rfl]
    refine ih (i+1) dl (fun j hj=>?_) (fun _=>hq)
    rcases gt j i with q | q
    ·exact hz j q
    ·rw [show j=i by omega];exact h0
  ·have e:GD ls big=202:=by
    unfold GD Kt;cases ha:ls.all (fun d=>decide (d=0)) with
    | true=>exact absurd (AGW dl ha) h0
    | false=>rw [kr,fv gn]
   rw [e];exact Ae ee (Av EO AB Tryz.func59 (AYD xs ls n (i:Nat) big) ⟨c1,c2,c3,ga (by rw [ei];exact h0),trivial⟩ (dB ..) hb ft)
end
theorem Ku {N:Nat} (h:N<pN):(!decide (HP 48 N=0))=false:=by unfold HP;rw [fw rfl,fw h];rfl
theorem UI {N:Nat} (h:¬ N<pN):(!decide (HP 48 N=0))=true:=by unfold HP;rw [fw rfl,fv h];rfl
theorem Ng {N:Nat} (h:N<pN):F8 48 N=N:=fw ⟨rfl,h⟩
theorem MC {C o:Nat} {ls:dp} {e:Bool} {r:dr} (h1:48≤C) (h2:o+48≤ls.length) (h3:(!decide (HP 48 (B_ ls o)=0))=e) (hr:AM r):AM (Ks C o ls e r) :=
 ⟨rfl,fu ⟨dm,dl⟩,rfl,gb h2,rfl,h3,hr⟩
theorem Q' {C:Nat} {b:Bool} {r:dr} (h:Nat.beq C 48=b) (hr:AM r):AM (PM C b r):=⟨rfl,rfl,h,rfl,hr⟩
theorem uB {a:Nat} (h:a≠48):Nat.beq a 48=false:=by
 cases hq:Nat.beq a 48 with
 | false=>rfl
 | true=>exact absurd (jv hq) h
section
variable {xs ls:dp} {big:Bool} {C:Nat} {β0:Env} {w0:World} (hb:∀ b,1≤b→β0 b=none)
include hb
theorem AGX (hC:48≤C) (hl:ls.length=48) (h0:B_ ls 0<pN):ASafe dn 59 β0 w0 (A4 β0 w0 [] (Kp 1 big) (E4 1 (H6 ls 1))) rdF.ntmps [] (Gx xs ls big (.val false [.sl 2 0 48 C]) []):=by
 cases hq:Nat.beq C 48 with
 | true =>
  have t:=AYN xs ls C big;rw [Ng h0] at t;exact Ae [true,false,true,false] (Av EO AB Tryz.func59 t ⟨rfl,MC dl dl (Ku h0) (Q' hq (⟨rfl,trivial⟩))⟩ (Q_ ..) hb ft)
 | false =>
  have t:=AYO xs ls C big;rw [Ng h0] at t;exact Ae [true,false,false,false] (Av EO AB Tryz.func59 t ⟨rfl,MC dl dl (Ku h0) (Q' hq (⟨rfl,trivial⟩))⟩ (Q_ ..) hb ft)
theorem AGY (hC:48≤C) (hl:ls.length=48) (h:Eo ls 1=false):ASafe dn 59 β0 w0 (A4 β0 w0 [] (GC 203) []) rdF.ntmps [] (Gx xs ls big (.val false [.sl 2 0 48 C]) []):=by
 by_cases h0:B_ ls 0<pN;case neg=>exact Ae dx (Av EO AB Tryz.func59 (AYP xs ls C big) ⟨rfl,MC dl dl (UI h0) trivial⟩ (Q_ ..) hb ft)
 have:Eo ls 1=true:=by
  show (decide (B_ ls 0<pN)&&true)=true;rw [fu h0];rfl
 rw [this] at h;cases h
theorem AGZ (hC:96≤C) (hl:ls.length=96) (h0:B_ ls 0<pN) (h1:B_ ls 48<pN):ASafe dn 59 β0 w0 (A4 β0 w0 [] (Kp 2 big) (E4 2 (H6 ls 2))) rdF.ntmps [] (Gx xs ls big (.val false [.sl 2 0 96 C]) []):=by
 cases hq:Nat.beq (C-48) 48 with
 | true =>
  have t:=AYQ xs ls C big;rw [Ng h0,Ng h1] at t;exact Ae fk (Av EO AB Tryz.func59 t ⟨rfl,MC dl dl (Ku h0) (Q' (uB dl) (MC dl dl (Ku h1) (Q' hq (⟨rfl,trivial⟩))))⟩ (Q_ ..) hb ft)
 | false =>
  have t:=AYR xs ls C big;rw [Ng h0,Ng h1] at t;exact Ae [true,false,false,true,false,false,false] (Av EO AB Tryz.func59 t ⟨rfl,MC dl dl (Ku h0) (Q' (uB dl) (MC dl dl (Ku h1) (Q' hq (⟨rfl,trivial⟩))))⟩ (Q_ ..) hb ft)
theorem AGa (hC:96≤C) (hl:ls.length=96) (h:Eo ls 2=false):ASafe dn 59 β0 w0 (A4 β0 w0 [] (GC 203) []) rdF.ntmps [] (Gx xs ls big (.val false [.sl 2 0 96 C]) []):=by
 by_cases h0:B_ ls 0<pN;case neg=>exact Ae dx (Av EO AB Tryz.func59 (AYS xs ls C big) ⟨rfl,MC dl dl (UI h0) trivial⟩ (Q_ ..) hb ft)
 by_cases h1:B_ ls 48<pN;case neg=>exact Ae [true,false,false,true,true] (Av EO AB Tryz.func59 (AYT xs ls C big) ⟨rfl,MC dl dl (Ku h0) (Q' (uB dl) (MC dl dl (UI h1) trivial))⟩ (Q_ ..) hb ft)
 have:Eo ls 2=true:=by
  show (decide (B_ ls 0<pN)&&(decide (B_ ls 48<pN)&&true))=true;rw [fu h0,fu h1];rfl
 rw [this] at h;cases h
end
theorem MD {ls:dp} {k:Nat} (h:Eo ls k=true) (j:Nat) (hj:j<k):B_ ls (48*j)<pN:=by
 unfold Eo at h;rw [jz] at h;exact gv (h j (jl.2 hj))
theorem C4 {xs:dp} {n:Nat} (hn:0<n) (k:Int):Ai (AA xs 0 n) k=Ai xs k:=by
 unfold Ai AA;rw [mc,gy,gy,o_ hn]
theorem PN {xs:dp} {n:Nat} (hn:0<n):Bw (AA xs 0 n) (n-1)=Bw xs (n-1):=by
 unfold Bw AA;rw [mc,gy,gy,o_ hn,List.drop_take,List.take_take,Nat.min_self]
theorem Nh {xs:dp} {k:Nat} (h:k<xs.length):(Bw xs k).length=k+1:=by
 unfold Bw;simp;omega
theorem JW {xs:dp} {n:Nat} (h:n≤xs.length):(AA xs 0 n).length=n:=by
 unfold AA;simp;omega
theorem H7 {xs:dp} {s b:Bool} {r:dr} (h:0<xs.length) (hs:(!(Ai xs 128==s))=b) (hr:AM r):AM (Kr xs s b r):=by
 have e:=fu h;exact ⟨rfl,rfl,rfl,e,rfl,e,rfl,e,hs,hr⟩
theorem JX {xs:dp} {n m:Nat} {b c:Bool} {r:dr} (h:0<xs.length) (hn:n≤xs.length) (hm:1<m) (h1:Ai xs 32=b) (h2:Ai xs 64=c) (hr:AM r):AM (NZ xs n m b c r):=by
 have e:=fu h;refine ⟨h1,rfl,e,rfl,?_,rfl,gb hn,rfl,h2,hr⟩
 cases hq:Nat.beq m 1 with
 | false=>rfl
 | true=>have:=jv hq;omega
theorem AYU {xs:dp} {n m:Nat} (hl:n≤xs.length) (hm:n≤m) (hn:AJ .i64 n=true) (hr:BS 1 true (AA xs 0 n)=false):Ac dn 59 (NY n m 1 true) (Ax xs) 1 [] (GC (BL 1 true (AA xs 0 n))) []:=by
 by_cases hk:n=48;case neg =>
  have e:BL 1 true (AA xs 0 n)=200:=by unfold BL;rw [JW hl,fw hk]
  rw [e];exact BV MB CO Tryz.func59 dk dk (AYF xs n m) dk ⟨hn,by rw [ga dl];rfl,trivial⟩
 subst hk;have hx:0<xs.length:=dl
 have hw:=JW hl;have er:=PN (xs:=xs) (n:=48) dm
 have elen:=Nh (xs:=xs) (k:=47) dl
 unfold BL BS at *
 rw [C4 dm,C4 dm,C4 dm,er,hw,fu rfl,jc] at hr;rw [C4 dm,C4 dm,C4 dm,er,hw,fv (fun h=>h rfl)]
 by_cases f1:Ai xs 128=true;case neg =>
  rw [fw f1];exact BV MB CO Tryz.func59 dk dk (AYG xs m) dk (H7 hx (by cases hq:Ai xs 128<;>first | rfl | exact absurd hq f1) trivial)
 rw [fv (fun h=>h f1)]
 rw [fu f1,jc] at hr;have p0:(!(Ai xs 128==true))=false:=by rw [f1];rfl
 rw [fv (fun h=>by rw [lw,kc] at h;cases h)]
 rw [lw,kc,nz,jc] at hr;cases f2:Ai xs 32
 case false =>
  cases f3:Ai xs 64 with
  | true =>
   rw [fw rfl];refine Ay (path:=fe) Tryz.func59 dk dk fun β0 w0 hb=>?_
   have t:=AYH xs m;rw [f2] at t;exact Ag EO AB t (H7 hx p0 (JX hx hl dl f2 f3 ⟨rfl,trivial⟩)) (AQ dk) hb ft fun _=>dC elen dm dm hb 48 0 dm (fun j hj=>absurd hj (ld j)) (fun h=>absurd h (nj 0))
  | false =>
   rw [f3] at hr;have hr':Eo (Bw xs 47) 1=false:=hr
   rw [fv gn,fv (by rw [hr'];exact gn)]
   refine Ay (path:=fa) Tryz.func59 dk dk fun β0 w0 hb=>?_
   exact Ag EO AB (AGR xs m) (H7 hx p0 (JX hx hl dl f2 f3 trivial)) (AQ dk) hb ft fun _=>JV fun C hC=>AGY hb hC elen hr'
 case true =>
  cases f3:Ai xs 64 with
  | true =>
   rw [fw rfl];refine Ay (path:=fh) Tryz.func59 dk dk fun β0 w0 hb=>?_
   have t:=AYI xs m;rw [f2] at t;exact Ag EO AB t (H7 hx p0 (JX hx hl dl f2 f3 ⟨rfl,trivial⟩)) (AQ dk) hb ft fun _=>dC elen dm dm hb 48 0 dm (fun j hj=>absurd hj (ld j)) (fun h=>absurd h (nj 0))
  | false =>
   rw [f3] at hr;have hr':Eo (Bw xs 47) 1=false:=hr
   rw [fv gn,fv (by rw [hr'];exact gn)]
   refine Ay (path:=ff) Tryz.func59 dk dk fun β0 w0 hb=>?_
   exact Ag EO AB (AGS xs m) (H7 hx p0 (JX hx hl dl f2 f3 trivial)) (AQ dk) hb ft fun _=>JV fun C hC=>AGY hb hC elen hr'
theorem AYV {xs:dp} {n m:Nat} (hl:n≤xs.length) (hm:n≤m) (hr:BS 1 true (AA xs 0 n)=true):Ac dn 59 (NY n m 1 true) (Ax xs) 1 [] (Kp 1 (Ai (AA xs 0 n) 32)) (E4 1 (H6 (Bw (AA xs 0 n) 47) 1)):=by
 unfold BS at hr;simp only [gi,gc] at hr;obtain ⟨hk,f1,f2,f3,h4⟩:=hr;rw [JW hl] at hk;have hk':n=48:=hk
 subst hk';have hx:0<xs.length:=dl
 have er:=PN (xs:=xs) (n:=48) dm
 have elen:=Nh (xs:=xs) (k:=47) dl
 rw [C4 dm] at f1 f2 f3;rw [er] at h4;rw [C4 dm,er];have p0:(!(Ai xs 128==true))=false:=by rw [f1];rfl
 have f3':Ai xs 64=false:=by cases hq:Ai xs 64 with | false=>rfl | true=>rw [hq] at f3;cases f3
 cases f4:Ai xs 32
 case false =>
  refine Ay (path:=fa) Tryz.func59 dk dk fun β0 w0 hb=>?_
  have t:=AGR xs m;rw [f4] at t;exact Ag EO AB t (H7 hx p0 (JX hx hl dl f4 f3' trivial)) (AQ dk) hb ft fun _=>JV fun C hC=>AGX hb hC elen (MD h4 0 dm)
 case true =>
  refine Ay (path:=ff) Tryz.func59 dk dk fun β0 w0 hb=>?_
  have t:=AGS xs m;rw [f4] at t;exact Ag EO AB t (H7 hx p0 (JX hx hl dl f4 f3' trivial)) (AQ dk) hb ft fun _=>JV fun C hC=>AGX hb hC elen (MD h4 0 dm)
theorem AYW {xs:dp} {n m:Nat} (hl:n≤xs.length) (hm:n≤m) (hn:AJ .i64 n=true) (hr:BS 2 true (AA xs 0 n)=false):Ac dn 59 (NY n m 2 true) (Ax xs) 1 [] (GC (BL 2 true (AA xs 0 n))) []:=by
 by_cases hk:n=96;case neg =>
  have e:BL 2 true (AA xs 0 n)=200:=by unfold BL;rw [JW hl,fw hk]
  rw [e];exact BV MB CO Tryz.func59 dk dk (AYJ xs n m) dk ⟨hn,by rw [ga dl];rfl,trivial⟩
 subst hk;have hx:0<xs.length:=dl
 have hw:=JW hl;have er:=PN (xs:=xs) (n:=96) dm
 have elen:=Nh (xs:=xs) (k:=95) dl
 unfold BL BS at *
 rw [C4 dm,C4 dm,C4 dm,er,hw,fu rfl,jc] at hr;rw [C4 dm,C4 dm,C4 dm,er,hw,fv (fun h=>h rfl)]
 by_cases f1:Ai xs 128=true;case neg =>
  rw [fw f1];exact BV MB CO Tryz.func59 dk dk (AYK xs m) dk (H7 hx (by cases hq:Ai xs 128<;>first | rfl | exact absurd hq f1) trivial)
 rw [fv (fun h=>h f1)]
 rw [fu f1,jc] at hr;have p0:(!(Ai xs 128==true))=false:=by rw [f1];rfl
 rw [fv (fun h=>by rw [lw,kc] at h;cases h)]
 rw [lw,kc,nz,jc] at hr;cases f2:Ai xs 32
 case false =>
  cases f3:Ai xs 64 with
  | true =>
   rw [fw rfl];refine Ay (path:=fe) Tryz.func59 dk dk fun β0 w0 hb=>?_
   have t:=AYL xs m;rw [f2] at t;exact Ag EO AB t (H7 hx p0 (JX hx hl dl f2 f3 ⟨rfl,trivial⟩)) (AQ dk) hb ft fun _=>dC elen dm dm hb 96 0 dm (fun j hj=>absurd hj (ld j)) (fun h=>absurd h (nj 0))
  | false =>
   rw [f3] at hr;have hr':Eo (Bw xs 95) 2=false:=hr
   rw [fv gn,fv (by rw [hr'];exact gn)]
   refine Ay (path:=fa) Tryz.func59 dk dk fun β0 w0 hb=>?_
   exact Ag EO AB (AGT xs m) (H7 hx p0 (JX hx hl dl f2 f3 trivial)) (AQ dk) hb ft fun _=>JV fun C hC=>AGa hb hC elen hr'
 case true =>
  cases f3:Ai xs 64 with
  | true =>
   rw [fw rfl];refine Ay (path:=fh) Tryz.func59 dk dk fun β0 w0 hb=>?_
   have t:=AYM xs m;rw [f2] at t;exact Ag EO AB t (H7 hx p0 (JX hx hl dl f2 f3 ⟨rfl,trivial⟩)) (AQ dk) hb ft fun _=>dC elen dm dm hb 96 0 dm (fun j hj=>absurd hj (ld j)) (fun h=>absurd h (nj 0))
  | false =>
   rw [f3] at hr;have hr':Eo (Bw xs 95) 2=false:=hr
   rw [fv gn,fv (by rw [hr'];exact gn)]
   refine Ay (path:=ff) Tryz.func59 dk dk fun β0 w0 hb=>?_
   exact Ag EO AB (AGU xs m) (H7 hx p0 (JX hx hl dl f2 f3 trivial)) (AQ dk) hb ft fun _=>JV fun C hC=>AGa hb hC elen hr'
theorem AYX {xs:dp} {n m:Nat} (hl:n≤xs.length) (hm:n≤m) (hr:BS 2 true (AA xs 0 n)=true):Ac dn 59 (NY n m 2 true) (Ax xs) 1 [] (Kp 2 (Ai (AA xs 0 n) 32)) (E4 2 (H6 (Bw (AA xs 0 n) 95) 2)):=by
 unfold BS at hr;simp only [gi,gc] at hr;obtain ⟨hk,f1,f2,f3,h4⟩:=hr;rw [JW hl] at hk;have hk':n=96:=hk
 subst hk';have hx:0<xs.length:=dl
 have er:=PN (xs:=xs) (n:=96) dm
 have elen:=Nh (xs:=xs) (k:=95) dl
 rw [C4 dm] at f1 f2 f3;rw [er] at h4;rw [C4 dm,er];have p0:(!(Ai xs 128==true))=false:=by rw [f1];rfl
 have f3':Ai xs 64=false:=by cases hq:Ai xs 64 with | false=>rfl | true=>rw [hq] at f3;cases f3
 cases f4:Ai xs 32
 case false =>
  refine Ay (path:=fa) Tryz.func59 dk dk fun β0 w0 hb=>?_
  have t:=AGT xs m;rw [f4] at t;exact Ag EO AB t (H7 hx p0 (JX hx hl dl f4 f3' trivial)) (AQ dk) hb ft fun _=>JV fun C hC=>AGZ hb hC elen (MD h4 0 dm) (MD h4 1 dm)
 case true =>
  refine Ay (path:=ff) Tryz.func59 dk dk fun β0 w0 hb=>?_
  have t:=AGU xs m;rw [f4] at t;exact Ag EO AB t (H7 hx p0 (JX hx hl dl f4 f3' trivial)) (AQ dk) hb ft fun _=>JV fun C hC=>AGZ hb hC elen (MD h4 0 dm) (MD h4 1 dm)
end
def H8:AV→Option (Nat×Nat×Nat)
 | .val false [.sl k 0 n m]=>some (k,n,m)
 | .val false [.sx k n _]=>some (k,n,n)
 | _=>none
theorem JY {β:Env} {A:AV} {k n m:Nat} {u:Value} (h:H8 A=some (k,n,m)) (hm:n≤m) (hr:AL β A u):∃ m',n≤m'∧AL β (AP k 0 n m') u:=by
 unfold H8 at h;split at h
 ·injection h with h;injection h with h1 h;injection h with h2 h3;subst h1;subst h2;subst h3;exact ⟨_,hm,hr⟩
 ·injection h with h;injection h with h1 h;injection h with h2 h3;subst h1;subst h2;subst h3;obtain ⟨l1,l2,h1,h2,h3⟩:=hr;rcases h1 with ⟨B,q,cap,q1,q2,q3,q4⟩ | ⟨q1,q2,q3⟩
  ·exact ⟨cap,q3,l1,l2,.inl ⟨B,(q,0),q1,by rw [q2]⟩,h2,h3⟩
  ·subst q2;exact ⟨0,gd _,l1,l2,.inr (.inl ⟨q1,rfl,rfl,rfl,q3⟩),h2,h3⟩
 ·cases h
def RA (h:Int) (s:Bool):Option Nat:=if h=1 then (match s with | true=>some 1 | false=>none) else if h=2 then (match s with | true=>some 2 | false=>none) else none
theorem AYY {h:Int} {s:Bool} {K:Nat} (hK:RA h s=some K) {xs:dp} {n m:Nat} (hl:n≤xs.length) (hm:n≤m) (hn:AJ .i64 n=true) (hr:BS K s (AA xs 0 n)=false):Ac dn 59 (NY n m h s) (Ax xs) 1 [] (GC (BL K s (AA xs 0 n))) []:=by
 unfold RA at hK;split at hK
 ·rename_i e;subst e;cases s
  ·cases hK
  ·injection hK with hK;subst hK;exact AYU hl hm hn hr
 ·split at hK
  ·rename_i e;subst e;cases s
   ·cases hK
   ·injection hK with hK;subst hK;exact AYW hl hm hn hr
  ·cases hK
theorem AYZ {h:Int} {s:Bool} {K:Nat} (hK:RA h s=some K) {xs:dp} {n m:Nat} (hl:n≤xs.length) (hm:n≤m) (hr:BS K s (AA xs 0 n)=true):Ac dn 59 (NY n m h s) (Ax xs) 1 [] (Kp K (Ai (AA xs 0 n) 32)) (E4 K (H6 (Bw (AA xs 0 n) (48*K-1)) K)):=by
 unfold RA at hK;split at hK
 ·rename_i e;subst e;cases s
  ·cases hK
  ·injection hK with hK;subst hK;exact AYV hl hm hr
 ·split at hK
  ·rename_i e;subst e;cases s
   ·cases hK
   ·injection hK with hK;subst hK;exact AYX hl hm hr
  ·cases hK
def AGb (e:Int):AV:=.tup [(false,[.v (.slice none 0 0)]),(false,[.b false]),(false,[.v (.int .i64 e)])]
theorem AYa {β β':Env} {g g' g'':Bool} {a a' b b' c c':List Ch} {u:Value} (h1:∀ v,Bi β g a v→Bi β' g a' v) (h2:∀ v,Bi β g' b v→Bi β' g' b' v) (h3:∀ v,Bi β g'' c v→Bi β' g'' c' v) (h:AL β (.tup [(g,a),(g',b),(g'',c)]) u):AL β' (.tup [(g,a'),(g',b'),(g'',c')]) u:=by
 obtain ⟨us,⟨u1,l1,q1,⟨u2,l2,q2,⟨u3,l3,q3,q4,q5⟩,q6⟩,q7⟩,q8⟩:=h;exact ⟨us,⟨u1,l1,h1 _ q1,⟨u2,l2,h2 _ q2,⟨u3,l3,h3 _ q3,q4,q5⟩,q6⟩,q7⟩,q8⟩
theorem AYb {β:Env} {e:Int} {u:Value} (h:AL β (GC e) u):AL β (AGb e) u:=AYa (fun _ q=>q) (fun _ q=>q) (fun _ q=>D8 rfl q) h
def dD (n m:Nat) (xs:dp) (b d:Bool):dr:=[(Nat.ble n xs.length,true),(Nat.ble n m,true),(AJ .i64 n,true),(b,d)]
noncomputable def rdSp:ASpec:=fun args H fr path=>match args with
 | [S,.val false [.n .i64 h],B]=>match H8 S,E8 (some B) with
  | some (k,n,m),some (_,s)=>match AF H k,RA h s with
   | some ⟨_,cs,_⟩,some K=>match Az .u8 cs,path with
    | some xs,true::rest=>some (BI [k] 1 fr 0 [] (AGb (BL K s (AA xs 0 n))) [] (dD n m xs (BS K s (AA xs 0 n)) false) rest)
    | some xs,false::rest=>some (BI [k] 1 fr (3*K+2) [] (Kp K (Ai (AA xs 0 n) 32)) (E4 K (H6 (Bw (AA xs 0 n) (48*K-1)) K)) (dD n m xs (BS K s (AA xs 0 n)) true) rest)
    | _,_=>none
   | _,_=>none
  | _,_=>none
 | _=>none
theorem AYc {h:Int} {s:Bool} {K:Nat} (hK:RA h s=some K):K=1∨K=2:=by
 unfold RA at hK;split at hK
 ·cases s
  ·cases hK
  ·injection hK with hK;omega
 ·split at hK
  ·cases s
   ·cases hK
   ·injection hK with hK;omega
  ·cases hK
theorem AYd {K:Nat} (h:K=1∨K=2) (b:Bool) (l:dp):D5 1 (3*K+2) [] (Kp K b) (E4 K (H6 l K))=true:=by
 rcases h with rfl | rfl<;>kernel_rfl
theorem AYe:A' dn 59 rdSp:=by
 refine DC Tryz.func59 dk dk fun args H fr path r hs=>?_
 unfold rdSp at hs;split at hs;case h_2=>cases hs
 rename_i S h B;split at hs;case h_2=>cases hs
 rename_i k n m c s hS hB;split at hs;case h_2=>cases hs
 rename_i ty cs o K hk' hK;split at hs;case h_3=>cases hs
 all_goals
  rename_i xs rest hxs;injection hs with hs
 ·refine ⟨[k],1,0,[],_,_,_,rest,hs.symm,fun β us w ha hg hc=>?_⟩
  obtain ⟨u1,us1,r1,⟨u2,us2,r2,⟨u3,us3,r3,ha,rfl⟩,rfl⟩,rfl⟩:=ha;obtain ⟨hl,hm,hn,hr,_⟩:=hc;obtain ⟨m',hm',r1⟩:=JY hS (f_ hm) r1
  obtain ⟨g1,g2,g3⟩:=ED hg hk' hxs;exact ⟨NY n m' h s,Ax xs,BA (AYY hK (f_ hl) hm' hn hr) fun _ _ q=>AYb q,dk,⟨u1,_,CJ dl rfl r1,⟨u2,_,r2,⟨u3,us3,Q8 hB r3,ha,rfl⟩,rfl⟩,rfl⟩,g2,g3⟩
 ·refine ⟨[k],1,3*K+2,[],_,_,_,rest,hs.symm,fun β us w ha hg hc=>?_⟩
  obtain ⟨u1,us1,r1,⟨u2,us2,r2,⟨u3,us3,r3,ha,rfl⟩,rfl⟩,rfl⟩:=ha;obtain ⟨hl,hm,hn,hr,_⟩:=hc;obtain ⟨m',hm',r1⟩:=JY hS (f_ hm) r1
  obtain ⟨g1,g2,g3⟩:=ED hg hk' hxs;exact ⟨NY n m' h s,Ax xs,AYZ hK (f_ hl) hm' hr,AYd (AYc hK) _ _,⟨u1,_,CJ dl rfl r1,⟨u2,_,r2,⟨u3,us3,Q8 hB r3,ha,rfl⟩,rfl⟩,rfl⟩,g2,g3⟩
abbrev fj:List Bool:=[false,false,true,true]
open Ex Num Rg
open Sh (R av rd mo en mo_en)
set_option maxRecDepth 100000
set_option maxHeartbeats 4000000
noncomputable def SJi:dt:=(59,rdSp)::SJg
theorem UJ:AT dn SJi:=⟨AYe,AXi⟩
noncomputable abbrev Kv:Orc:=AG SJi KH
def Gy (n m:Nat) (xs:dp) (b d:Bool) (r:dr):dr:=(Nat.ble n xs.length,true)::(Nat.ble n m,true)::(AJ .i64 n,true)::(b,d)::r
def H9 (n m:Nat) (s:Bool):List AV:=[AP 0 0 n m,.val false [.b s]]
noncomputable def xN (K j:Nat) (L:dp):Nat:=B_ (Bw L (48*K-1)) (48*j)
noncomputable def yR (x:Nat):Nat:=DQ (ad FP (mu FP (mu FP x x) x) (4:Nat))
noncomputable def yB (x:Nat) (b:Bool):Nat:=if (!(BG (yR x)==b))=true then ng FP (yR x) else yR x
def dE (e:Int):AV:=.tup [(true,F' false),(false,[.n .i64 e])]
def dP (x y:Nat):AV:=.tup [(true,[.num 6 x,.num 6 y,.b false]),(false,[.n .i64 0])]
section
variable (n m:Nat) (xs:dp)
noncomputable def Kw (s:Bool) (p:List Bool):ASt:=Ah Tryz.f28 (H9 n m s) (Ax xs) 1 p
theorem AYf:AR dn Kv Tryz.f28 800 1 [] (Kw n m xs true dx)=some (Gy n m xs (BS 1 true (AA xs 0 n)) false [(!decide (BL 1 true (AA xs 0 n)=0),true)],[],.tup [(true,F' false),(false,[.v (.int .i64 (BL 1 true (AA xs 0 n)))])],[]):=dk
theorem AYg:AR dn Kv Tryz.f28 800 1 [] (Kw n m xs true ep)=some (Gy n m xs (BS 1 true (AA xs 0 n)) false ((!decide (BL 1 true (AA xs 0 n)=0),false)::tt 2 []),[],.tup [(true,F' true),(false,[.n .i64 0])],[]):=dk
noncomputable def PO (b:Bool) (r:dr):dr:=Gy n m xs (BS 1 true (AA xs 0 n)) true ((true,true)::(false,false)::(true,true)::(!(BG (yR (xN 1 0 (AA xs 0 n)))==Ai (AA xs 0 n) 32),b)::r)
theorem AYh:AR dn Kv Tryz.f28 800 1 [] (Kw n m xs true fj)=some (PO n m xs true [(!A6 (Aj (xN 1 0 (AA xs 0 n)) (ng FP (yR (xN 1 0 (AA xs 0 n)))) false),true)],[],dE 204,[]):=dk
theorem AYi:AR dn Kv Tryz.f28 800 1 [] (Kw n m xs true fh)=some (PO n m xs true [(!A6 (Aj (xN 1 0 (AA xs 0 n)) (ng FP (yR (xN 1 0 (AA xs 0 n)))) false),false),(!BM (Aj (xN 1 0 (AA xs 0 n)) (ng FP (yR (xN 1 0 (AA xs 0 n)))) false),true)],[],dE 205,[]):=dk
theorem AYj:AR dn Kv Tryz.f28 800 1 [] (Kw n m xs true ff)=some (PO n m xs true [(!A6 (Aj (xN 1 0 (AA xs 0 n)) (ng FP (yR (xN 1 0 (AA xs 0 n)))) false),false),(!BM (Aj (xN 1 0 (AA xs 0 n)) (ng FP (yR (xN 1 0 (AA xs 0 n)))) false),false)],[],dP (xN 1 0 (AA xs 0 n)) (ng FP (yR (xN 1 0 (AA xs 0 n)))),[]):=dk
theorem AYk:AR dn Kv Tryz.f28 800 1 [] (Kw n m xs true eg)=some (PO n m xs false [(!A6 (Aj (xN 1 0 (AA xs 0 n)) (yR (xN 1 0 (AA xs 0 n))) false),true)],[],dE 204,[]):=dk
theorem AYl:AR dn Kv Tryz.f28 800 1 [] (Kw n m xs true fe)=some (PO n m xs false [(!A6 (Aj (xN 1 0 (AA xs 0 n)) (yR (xN 1 0 (AA xs 0 n))) false),false),(!BM (Aj (xN 1 0 (AA xs 0 n)) (yR (xN 1 0 (AA xs 0 n))) false),true)],[],dE 205,[]):=dk
theorem AYm:AR dn Kv Tryz.f28 800 1 [] (Kw n m xs true fa)=some (PO n m xs false [(!A6 (Aj (xN 1 0 (AA xs 0 n)) (yR (xN 1 0 (AA xs 0 n))) false),false),(!BM (Aj (xN 1 0 (AA xs 0 n)) (yR (xN 1 0 (AA xs 0 n))) false),false)],[],dP (xN 1 0 (AA xs 0 n)) (yR (xN 1 0 (AA xs 0 n))),[]):=dk
end
noncomputable def PP (p:Pt FP):Pt FP×Int:=if A6 p=true then (if BM p=true then (p,0) else (.pt 0 0,205)) else (.pt 0 0,204)
noncomputable def Iw (s:Bool) (L:dp):Pt FP:=match s with
 | true=>Aj (xN 1 0 L) (yB (xN 1 0 L) (Ai L 32)) false
 | false=>Aj (xN 2 0 L) (xN 2 1 L) false
def kS (s:Bool):Nat:=match s with | true=>1 | false=>2
noncomputable def EQ (s:Bool) (L:dp):Pt FP×Int:=if BS (kS s) s L=true then PP (Iw s L) else if BL (kS s) s L=0 then (.inf,0) else (.pt 0 0,BL (kS s) s L)
noncomputable def Er (q:Pt FP×Int):AV:=L6 q.1 q.2
theorem Xc {β:Env} {e:Int} {u:Value} (h:AL β (dE e) u):AL β (Er (.pt 0 0,e)) u:=CZ (fun _ q=>(HT (x:=0) (y:=0) (i:=false) dk q).1) (fun _ q=>D8 rfl q) h
theorem AGc {β:Env} {x y:Nat} (hx:x<pN) (hy:y<pN) {u:Value} (h:AL β (dP x y) u):AL β (Er (Aj x y false,0)) u:=by
 have e:Er (Aj x y false,0)=.tup [(true,[.num 6 x,.num 6 y,.v (.bool false)]),(false,[.v (.int .i64 0)])]:=by
  show L6 (.pt (tf x) (tf y)) 0=_;show AV.tup [(true,[Ch.num 6 (tf x).val,Ch.num 6 (tf y).val,Ch.v (.bool false)]),(false,[Ch.v (.int .i64 0)])]=_;rw [GW hx,GW hy]
 rw [e];exact CZ (fun _ q=>(HT (x:=x) (y:=y) (i:=false) rfl q).1) (fun _ q=>D8 rfl q) h
theorem AGd {n m:Nat} {xs:dp} {s:Bool} {x y:Nat} (hx:x<pN) (hy:y<pN) {C:dr→dr} (hC:∀ r,AM r→AM (C r)) {p1 p2 p3:List Bool}
  (h1:AR dn Kv Tryz.f28 800 1 [] (Kw n m xs s p1)=some (C [(!A6 (Aj x y false),true)],[],dE 204,[]))
  (h2:AR dn Kv Tryz.f28 800 1 [] (Kw n m xs s p2)=some (C [(!A6 (Aj x y false),false),(!BM (Aj x y false),true)],[],dE 205,[]))
  (h3:AR dn Kv Tryz.f28 800 1 [] (Kw n m xs s p3)=some (C [(!A6 (Aj x y false),false),(!BM (Aj x y false),false)],[],dP x y,[])) :
  Ac dn 28 (H9 n m s) (Ax xs) 1 [] (Er (PP (Aj x y false))) []:=by
 unfold PP;cases ho:A6 (Aj x y false) with
 | false =>
  rw [fv gn];exact BA (BV UJ CO Tryz.func28 dk dk h1 dk (hC _ ⟨by rw [ho];rfl,trivial⟩)) fun _ _ q=>Xc q
 | true =>
  rw [fw rfl];cases hi:BM (Aj x y false) with
  | false =>
   rw [fv gn];exact BA (BV UJ CO Tryz.func28 dk dk h2 dk (hC _ ⟨by rw [ho];rfl,by rw [hi];rfl,trivial⟩)) fun _ _ q=>Xc q
  | true =>
   rw [fw rfl];exact BA (BV UJ CO Tryz.func28 dk dk h3 dk (hC _ ⟨by rw [ho];rfl,by rw [hi];rfl,trivial⟩)) fun _ _ q=>AGc hx hy q
theorem HU {K:Nat} {s:Bool} {L:dp} (h:BS K s L=true) (j:Nat) (hj:j<K):xN K j L<pN:=by
 unfold BS at h;simp only [gi] at h;exact MD h.2.2.2.2 j hj
theorem Xd (x:Nat):yR x<pN:=by
 unfold yR;generalize (ad FP (mu FP (mu FP x x) x) (4:Nat))=a
 by_cases h:CL a=true
 ·exact (o9 h).2.2
 ·unfold DQ;rw [fv h];exact Cs
theorem uC (x:Nat):Nat.lt (ng FP x) pN:=(-(tf x)).isLt
theorem dF {e:Int} (h:¬ e=0):(!decide (e=0))=true:=by rw [ga h];rfl
theorem AGe {e:Int} (h:e=0):(!decide (e=0))=false:=by rw [fu h];rfl
theorem AYn {β:Env} {u:Value} (h:AL β (.tup [(true,F' true),(false,[.n .i64 0])]) u):AL β (Er (.inf,0)) u:=CZ (fun _ q=>(HT (x:=0) (y:=0) (i:=true) dk q).1) (fun _ q=>D8 rfl q) h
theorem AYo {β:Env} {e:Int} {u:Value} (h:AL β (.tup [(true,F' false),(false,[.v (.int .i64 e)])]) u):AL β (Er (.pt 0 0,e)) u:=CZ (fun _ q=>(HT (x:=0) (y:=0) (i:=false) dk q).1) (fun _ q=>q) h
theorem uD {n m:Nat} {xs:dp} (hl:n≤xs.length) (hm:n≤m) (hn:AJ .i64 n=true) (s:Bool) (hs1:s=true):Ac dn 28 (H9 n m s) (Ax xs) 1 [] (Er (EQ s (AA xs 0 n))) []:=by
 have hW:∀ (b d:Bool) r,b=d→AM r→AM (Gy n m xs b d r):=fun b d r h hr=>⟨gb hl,gb hm,hn,h,hr⟩
 unfold EQ;cases hr:BS (kS s) s (AA xs 0 n) with
 | false =>
  rw [fv gn];by_cases he:BL (kS s) s (AA xs 0 n)=0
  ·rw [fw he];cases s with
   | true=>exact BA (BV UJ CO Tryz.func28 dk dk (AYg n m xs) dk (hW _ _ _ hr ⟨AGe he,Ad 2 trivial⟩)) fun _ _ q=>AYn q
   | false=>cases hs1
  ·rw [fv he];cases s with
   | true=>exact BA (BV UJ CO Tryz.func28 dk dk (AYf n m xs) dk (hW _ _ _ hr ⟨dF he,trivial⟩)) fun _ _ q=>AYo q
   | false=>cases hs1
 | true =>
  rw [fw rfl];cases s with
  | true =>
   have hx:=HU hr 0 dm;unfold Iw yB;by_cases hb:(!(BG (yR (xN 1 0 (AA xs 0 n)))==Ai (AA xs 0 n) 32))=true
   ·simp only [fw hb];exact AGd hx (uC _) (C:=PO n m xs true) (fun r hq=>hW _ _ _ hr ⟨rfl,rfl,rfl,hb,hq⟩) (AYh n m xs) (AYi n m xs) (AYj n m xs)
   ·simp only [fv hb];exact AGd hx (Xd _) (C:=PO n m xs false) (fun r hq=>hW _ _ _ hr ⟨rfl,rfl,rfl,by simpa using hb,hq⟩) (AYk n m xs) (AYl n m xs) (AYm n m xs)
  | false=>cases hs1
noncomputable def Ky (V:Bool→dp→AV):ASpec:=fun args H fr path=>match args with
 | [S,B]=>match H8 S,E8 (some B) with
  | some (k,n,m),some (_,true)=>match AF H k with
   | some ⟨_,cs,_⟩=>match Az .u8 cs with
    | some xs=>some (BI [k] 1 fr 0 [] (V true (AA xs 0 n)) [] [(Nat.ble n xs.length,true),(Nat.ble n m,true),(AJ .i64 n,true)] path)
    | none=>none
   | _=>none
  | _,_=>none
 | _=>none
theorem Ni {f:FuncId} {fn:Func} {V:Bool→dp→AV} (hfn:dn.funcs[f]? = some fn) (hb:fn.body.isSome=true) (hname:(fn.name=="runtime.NumGoroutine")=false) (hk:∀ s L,D5 1 0 [] (V s L) []=true)
  (h:∀ (n m:Nat) (xs:dp),n≤xs.length→n≤m→AJ .i64 n=true→Ac dn f (H9 n m true) (Ax xs) 1 [] (V true (AA xs 0 n)) []):A' dn f (Ky V):=by
 refine DC hfn hb hname fun args H fr path r hs=>?_
 unfold Ky at hs;split at hs;case h_2=>cases hs
 rename_i S B;split at hs;case h_2=>cases hs
 rename_i k n m c hS hB;split at hs;case h_2=>cases hs
 rename_i ty cs o hk';split at hs;case h_2=>cases hs
 rename_i xs hxs;injection hs with hs;refine ⟨[k],1,0,[],_,_,_,path,hs.symm,fun β us w ha hg hc=>?_⟩
 obtain ⟨u1,us1,r1,⟨u3,us3,r3,ha,rfl⟩,rfl⟩:=ha;obtain ⟨hl,hm,hn,_⟩:=hc;obtain ⟨m',hm',r1⟩:=JY hS (f_ hm) r1
 obtain ⟨g1,g2,g3⟩:=ED hg hk' hxs;exact ⟨H9 n m' true,Ax xs,h n m' xs (f_ hl) hm' hn,hk _ _,⟨u1,_,CJ dl rfl r1,⟨u3,us3,Q8 hB r3,ha,rfl⟩,rfl⟩,g2,g3⟩
noncomputable def SJk:dt:=(28,Ky fun s L=>Er (EQ s L))::SJi
theorem uE:AT dn SJk:=⟨Ni Tryz.func28 dk dk (fun _ _=>by kernel_rfl) fun _ _ _ hl hm hn=>uD hl hm hn true rfl,UJ⟩
noncomputable abbrev oJk:Orc:=AG SJk KH
theorem uF:OrcOk dn oJk:=AH uE CO
open Ex Num Rg
open Sh (R av rd mo en mo_en)
theorem uG (K:Nat):∀ d∈cat (List.replicate K 0),d=0:=by
 induction K with
 | zero=>intro d h;cases h
 | succ K ih =>
  intro d h;rw [om,cat] at h;rcases gl.1 h with q | q
  ·have:(CI 0 48).all (fun d=>decide (d=0))=true:=dk
   exact gv (jz.1 this d q)
  ·exact ih d q
section
variable {s i b:Bool} {x:Nat} {r:List Nat} {K:Nat} (hx:x<pN) (hK:0<K) (hl:K≤r.length+1)
include hx hK hl
theorem AGf:(AA (D9 s i b (cat (x::r))) 0 (48*K)).length=48*K∧Ai (AA (D9 s i b (cat (x::r))) 0 (48*K)) 128=s∧Ai (AA (D9 s i b (cat (x::r))) 0 (48*K)) 64=i∧Ai (AA (D9 s i b (cat (x::r))) 0 (48*K)) 32=(s&&(!i&&b))∧Bw (AA (D9 s i b (cat (x::r))) 0 (48*K)) (48*K-1)=cat ((x::r).take K):=by
 obtain ⟨f,t,e,h0,h1⟩:=AX7 hx r;have h:=AX5 s i b (show 0<48*K by omega) (show 48*K≤(cat (x::r)).length by rw [cW,ii];omega) e h0 h1
 rw [cX] at h;exact h
theorem AYp (hr:∀ y∈r,y<pN) (hi:i=false):BS K s (AA (D9 s i b (cat (x::r))) 0 (48*K))=true∧(∀ j,j<K→xN K j (AA (D9 s i b (cat (x::r))) 0 (48*K))=(x::r).getD j 0)∧Ai (AA (D9 s i b (cat (x::r))) 0 (48*K)) 32=(s&&b):=by
 obtain ⟨q1,q2,q3,q4,q5⟩:=AGf (s:=s) (i:=i) (b:=b) hx hK hl
 have hn:∀ j,j<K→B_ (cat ((x::r).take K)) (48*j)=(x::r).getD j 0∧(x::r).getD j 0<pN:=by
  intro j hj;have hlt:(x::r).getD j 0<pN:=by
   rw [gy];cases hq:(x::r)[j]? with
   | none=>exact Cs
   | some y =>
    rcases gr.1 (lg hq) with e | e
    ·rw [e];exact hx
    ·exact hr y e
  refine ⟨?_,hlt⟩
  rw [AGK _ j (by rw [h_,ii];omega)]
  have e:((x::r).take K).getD j 0=(x::r).getD j 0:=by rw [gy,gy,o_ hj]
  rw [e];exact AX6 hlt
 refine ⟨?_,fun j hj=>?_,?_⟩
 ·unfold BS;rw [q1,q2,q3,q4,q5,hi,fu rfl,fu rfl];have ho:Eo (cat ((x::r).take K)) K=true:=by
   unfold Eo;rw [jz];intro j hj;obtain ⟨e1,e2⟩:=hn j (jl.1 hj)
   rw [e1];exact fu e2
  rw [ho];cases s<;>cases b<;>rfl
 ·unfold xN;rw [q5];exact (hn j hj).1
 ·rw [q4,hi];rfl
theorem AYq (hi:i=true) (h0:∀ d∈cat ((x::r).take K),d=0):BS K s (AA (D9 s i b (cat (x::r))) 0 (48*K))=false∧BL K s (AA (D9 s i b (cat (x::r))) 0 (48*K))=0:=by
 obtain ⟨q1,q2,q3,q4,q5⟩:=AGf (s:=s) (i:=i) (b:=b) hx hK hl
 have e32:(s&&(!i&&b))=false:=by rw [hi];cases s<;>rfl
 constructor
 ·unfold BS;rw [q1,q2,q3,q4,q5,hi];cases s<;>cases b<;>simp
 ·unfold BL;rw [q1,q2,q3,q4,q5,e32,hi,fv (fun h=>h rfl),fv (fun h=>h rfl),fv (by rw [kr];exact gn),fw rfl]
  have ho:Kt (cat ((x::r).take K)) false=true:=by
   unfold Kt;rw [nz,Bool.and_true,jz];exact fun d hd=>fu (h0 d hd)
  unfold GD;rw [fw ho]
end
section
variable {s:Bool} {K:Nat} {L:dp} (hK:0<K) (hL:∀ d∈L,0≤d∧d<256)
include hK hL
theorem AGg (hlen:L.length=48*K):(Bw L (48*K-1)).length=48*K∧∀ d∈Bw L (48*K-1),0≤d∧d<256:=by
 cases L with
 | nil=>simp at hlen;omega
 | cons v u =>
  refine ⟨by rw [Nh dl];omega,fun d hd=>?_⟩
  rcases gr.1 hd with e | e
  ·have hv:=hL v (ni ..)
   have:=AX4 hv.1 hv.2
   have e':d=bits .and .u8 v 31:=e
   rw [e'];omega
  ·exact hL d (k_ _ (lj (i:=0) (me e)))
theorem dG {b:Bool} {l:List Nat} (hr:BS K s L=true) (hl:l.take K=(List.range K).map fun j=>xN K j L) (hb:Ai L 32=(s&&b)):AA (D9 s false b (cat l)) 0 (48*K)=L:=by
 unfold BS at hr;simp only [gi,gc] at hr;obtain ⟨h1,h2,h3,h4,_⟩:=hr;obtain ⟨g1,g2⟩:=AGg hK hL h1;refine AGJ dl h1 hL h2 (by simpa using h4) (by rw [hb,nz,jc]) ?_
 rw [cX,hl];exact AGL K _ g1 g2
theorem AGh {b:Bool} {l:List Nat} (hr:BS K s L=false) (he:BL K s L=0) (hl:l.take K=List.replicate K 0):AA (D9 s true b (cat l)) 0 (48*K)=L:=by
 unfold BL at he;by_cases h1:L.length≠48*K
 ·rw [fw h1] at he;cases he
 have h1:L.length=48*K:=dl
 rw [fv (fun h=>h h1)] at he
 by_cases h2:Ai L 128≠s
 ·rw [fw h2] at he;cases he
 have h2:Ai L 128=s:=by
  cases hq:Ai L 128<;>cases s<;>first | rfl | exact absurd (by rw [hq];decide) h2
 rw [fv (fun h=>h h2)] at he
 by_cases h3:(Ai L 32&&!s)=true
 ·rw [fw h3] at he;cases he
 rw [fv h3] at he;obtain ⟨g1,g2⟩:=AGg hK hL h1;cases h4:Ai L 64 with
 | true =>
  rw [h4,fw rfl] at he;unfold GD at he;by_cases h5:Kt (Bw L (48*K-1)) (Ai L 32)=true
  ·unfold Kt at h5;obtain ⟨h6,h7⟩:=gk.1 h5;have h7:Ai L 32=false:=by simpa using h7
   have h6:∀ d∈Bw L (48*K-1),d=0:=fun d hd=>gv (jz.1 h6 d hd)
   refine AGJ dl h1 hL h2 h4 (by rw [h7];cases s<;>rfl) ?_
   rw [cX,hl];have e1:=List.eq_replicate_iff.2 ⟨g1,h6⟩
   have e2:=List.eq_replicate_iff.2 ⟨(cW (List.replicate K 0)).trans (by rw [kt]),uG K⟩
   rw [e1,e2]
  ·rw [fv h5] at he;cases he
 | false =>
  rw [h4,fv gn] at he;by_cases h5:Eo (Bw L (48*K-1)) K=true
  ·exfalso
   unfold BS at hr;have h3':(Ai L 32&&!s)=false:=by simpa using h3
   rw [h3',h4,h5,fu h1,fu h2] at hr;cases hr
  ·rw [fv h5] at he;cases he
end
theorem AYr {y:FP} (h:y≠0):0<y.val:=oy fun e=>h (by rw [← B7 y,e];exact tf_zero)
theorem AGi (y:FP):BG y.val=decide ((pN-y.val) % pN<y.val):=by
 have h:=y.isLt;unfold BG Ct;rw [ge h]
theorem dH {y:FP} (h:y≠0):BG (-y).val=!BG y.val:=by
 have h1:=y.isLt;have h0:=AYr h;have hv:(-y).val=pN-y.val:=by
  show (pN-y.val) % pN=pN-y.val;exact ge dl
 have ho:=Wb;rw [AGi,AGi,hv,ge (show pN-(pN-y.val)<pN by omega),ge (show pN-y.val<pN by omega)]
 by_cases hq:pN-y.val<y.val
 ·rw [fu hq,ga dl];rfl
 ·rw [ga hq,fu dl];rfl
theorem AGj (x:Nat):tf (yR x)=CM (tf x*tf x*tf x+DL)∧CL (ad FP (mu FP (mu FP x x) x) (4:Nat))=CX (tf x*tf x*tf x+DL):=by
 have e:(ad FP (mu FP (mu FP x x) x) (4:Nat):Nat)=(tf x*tf x*tf x+DL).val:=by
  unfold ad mu;show (mo (en (mo (en (mo x*mo x:FP))*mo x:FP))+mo (4:Nat):FP).val=_;rw [mo_en,mo_en];rfl
 constructor
 ·unfold yR CM;rw [e]
 ·unfold CX;rw [e]
theorem AYs {a b:FP} (h:b*b=a*a*a+DL):yB a.val (BG b.val)=b.val:=by
 have hb:b≠0:=C1.no2 a b h
 have hs:CX (a*a*a+DL)=true:=L8 h
 obtain ⟨e1,_⟩:=AGj a.val;rw [B7] at e1;have hq:=NU hs;rw [← e1,← h] at hq;have hv:(tf (yR a.val)).val=yR a.val:=GW (Xd _)
 unfold yB;rcases cA hq with e | e
 ·have e':yR a.val=b.val:=by rw [← hv,e]
  rw [e',fv (by cases BG b.val<;>decide)]
 ·have e':yR a.val=(-b).val:=by rw [← hv,e]
  have hg:ng FP (yR a.val)=b.val:=by
   show (-(tf (yR a.val)):FP).val=b.val;rw [e,neg_neg]
  rw [hg];rw [e',dH hb,fw (by cases BG b.val<;>decide)]
theorem AYt {x:Nat} {c:Bool} (h:Rg.On C1.b (Aj x (yB x c) false)):BG (yB x c)=c:=by
 have hb:tf (yB x c)≠0:=C1.no2 _ _ h
 have hv:(tf (yR x)).val=yR x:=GW (Xd _)
 unfold yB at hb ⊢
 by_cases hq:(!(BG (yR x)==c))=true
 ·rw [fw hq] at hb ⊢;have hv2:ng FP (yR x)=(-(tf (yR x)):FP).val:=rfl
  have hne:tf (yR x)≠0:=fun e=>hb (by
   rw [hv2,e,GU];exact tf_zero)
  have:BG (ng FP (yR x))=!BG (yR x):=by
   rw [hv2,dH hne,hv]
  rw [this]
  revert hq
  cases BG (yR x)<;>cases c<;>decide
 ·rw [fv hq]
  revert hq
  cases BG (yR x)<;>cases c<;>decide
theorem AYu (p:Pt FP):∀ y∈[B8 p],y<pN:=fun y hy=>by
 rcases gr.1 hy with e | e
 ·rw [e];exact bD p
 ·cases e
theorem Xe (s:Bool):0<kS s:=by cases s<;>decide
theorem AGk (s:Bool):kS s≤2:=by cases s<;>decide
theorem AYv {p:Pt FP} (h:BM p=true):A6 p=true:=(gk.1 h).1
theorem AYw {p:Pt FP} (h:BM p=true) (s:Bool):EQ s (AA (En s p) 0 (48*kS s))=(p,0):=by
 have ho:=AYv h;rw [cV,cY];unfold EQ l1;cases p with
 | inf =>
  have h0:∀ d∈cat ([DV (Pt.inf:Pt FP),B8 (Pt.inf:Pt FP)].take (kS s)),d=0:=by
   cases s
   ·exact uG 2
   ·exact uG 1
  obtain ⟨q1,q2⟩:=AYq (r:=[B8 (Pt.inf:Pt FP)]) (s:=s) (i:=BE (Pt.inf:Pt FP)) (b:=BG (B8 (Pt.inf:Pt FP))) (XH Pt.inf) (Xe s) (AGk s) rfl h0
  rw [q1,q2,fv gn,fw rfl]
 | pt a b =>
  obtain ⟨q1,q2,q3⟩:=AYp (r:=[B8 (.pt a b:Pt FP)]) (s:=s) (i:=BE (.pt a b:Pt FP)) (b:=BG (B8 (.pt a b:Pt FP))) (XH (.pt a b)) (Xe s) (AGk s) (AYu _) rfl
  rw [q1,fw rfl];have hP:Iw s (AA (D9 s (BE (.pt a b:Pt FP)) (BG (B8 (.pt a b:Pt FP))) (cat [DV (.pt a b:Pt FP),B8 (.pt a b:Pt FP)])) 0 (48*kS s))=.pt a b:=by
   unfold Iw;cases s with
   | true =>
    have x0:=q2 0 dm;have hon:b*b=a*a*a+DL:=(KX _).1 ho
    have ey:=AYs hon;simp only
    rw [show kS true=1 from rfl] at x0 q3 ⊢
    rw [x0,q3];show Aj a.val (yB a.val (BG b.val)) false=_;rw [ey];exact T3 (.pt a b)
   | false =>
    have x0:=q2 0 dm;have x1:=q2 1 dm;simp only
    rw [show kS false=2 from rfl] at x0 x1 ⊢
    rw [x0,x1];exact T3 (.pt a b)
  rw [hP];unfold PP;rw [ho,h];rfl
theorem AYx {L:dp} (hL:∀ d∈L,0≤d∧d<256) {s:Bool} (h:(EQ s L).2=0):BM (EQ s L).1=true∧AA (En s (EQ s L).1) 0 (48*kS s)=L:=by
 unfold EQ at h ⊢
 cases hr:BS (kS s) s L with
 | false =>
  rw [hr,fv gn] at h;rw [fv gn];by_cases he:BL (kS s) s L=0
  ·rw [fw he];refine ⟨by unfold BM;rw [GV];rfl,?_⟩
   rw [cV,cY];exact AGh (Xe s) hL hr he (by cases s<;>rfl)
  ·rw [fv he] at h;exact absurd h he
 | true =>
  rw [hr,fw rfl] at h;rw [fw rfl];unfold PP at h ⊢
  cases ho:A6 (Iw s L) with
  | false=>rw [ho,fv gn] at h;cases h
  | true =>
   rw [ho,fw rfl] at h;cases hi:BM (Iw s L) with
   | false=>rw [hi,fv gn] at h;cases h
   | true =>
    rw [fw rfl,fw rfl];refine ⟨hi,?_⟩
    have hon:=(KX _).1 ho
    rw [cV,cY];cases s with
    | true =>
     have x0:xN 1 0 L<pN:=HU hr 0 dm
     have hY:yB (xN 1 0 L) (Ai L 32)<pN:=by
      unfold yB;split
      ·exact uC _
      ·exact Xd _
     have e1:l1 (Iw true L)=[xN 1 0 L,yB (xN 1 0 L) (Ai L 32)]:=by
      show [(tf _).val,(tf _).val]=_;rw [GW x0,GW hY]
     have e2:B8 (Iw true L)=yB (xN 1 0 L) (Ai L 32):=GW hY
     have e3:BE (Iw true L)=false:=rfl
     rw [e1,e2,e3,AYt hon];exact dG (Xe true) hL hr rfl (by rw [jc])
    | false =>
     have x0:xN 2 0 L<pN:=HU hr 0 dm
     have x1:xN 2 1 L<pN:=HU hr 1 dm
     have e1:l1 (Iw false L)=[xN 2 0 L,xN 2 1 L]:=by
      show [(tf _).val,(tf _).val]=_;rw [GW x0,GW x1]
     have e3:BE (Iw false L)=false:=rfl
     rw [e1,e3];refine dG (Xe false) hL hr rfl ?_
     unfold BS at hr;simp only [gi] at hr;have:=hr.2.2.1
     rw [kr];simpa using this
theorem Xf {H:Type} {enc:TypeId×Value→H} {W:World} {base:Nat} {v:Value} {d:DataW H} {p:List MemPlace} (hv:Value.okWide dn W .any base 22 v) (ht:DataW.Trod enc dn W 0 (fun _=>true) true 22 v d p) {ls:List Ex.Loc} {bs:List Blk} (ho:ArgsOk W ls bs) :
  ∃ (L:Ex.Loc) (zs:dp) (n m:Nat),(∀ x∈zs,0≤x∧x<256)∧n≤zs.length∧n≤m∧AJ .i64 (n:Int)=true∧AL (F9 (ls++[L])) (AP ls.length 0 n m) v∧ArgsOk W (ls++[L]) (bs++[Am [.seq .u8 zs]]):=by
 obtain ⟨L,zs,n,m,h1,h2,h3,h4,h5⟩:=ASg hv ht ho;refine ⟨L,zs,n,m,h1,h2,?_,h3,h4,h5⟩
 obtain ⟨l1,l2,r1,r2,r3⟩:=h4;rcases r1 with ⟨B,q,e1,e2⟩ | ⟨e1,e2,e3,e4,e5⟩ | ⟨e1,e2,e3,e4,e5⟩
 ·subst e2;injection r3 with r3 _;subst r3;have hk:Cell.ok dn W .any base 22 (.slice (some ⟨B,q.2+0,none⟩) n m):=by
   have:=hv
   simp only [Value.okWide,rE,Cell.okWide] at this;exact this
  simp only [Cell.ok,rE] at hk;omega
 ·omega
 ·omega
def hfC:List Ch:=[.n .u64 0xdcff7fffffffd556,.n .u64 0xf55ffff58a9ffff,.n .u64 0xb39869507b587b12,.n .u64 0xb23ba5c279c2895f,.n .u64 0x258dd3db21a5d66b,.n .u64 0xd0088f51cbff34d]
def uH:Nat:=0x0d0088f51cbff34d258dd3db21a5d66bb23ba5c279c2895fb39869507b587b120f55ffff58a9ffffdcff7fffffffd556
theorem AGl:∃ n,n=uH:=⟨_,rfl⟩
noncomputable def Fv:Nat:=Classical.choose AGl
theorem AGm:Fv=uH:=ij AGl
theorem AYz:AK dn oJk Tryz.f173 [] [] 100=some ([],.val true hfC):=dk
theorem AY0:AS dn 173 [] (AY Fv):=by
 rw [AGm];exact CW (AN uF AB Tryz.func173 AYz trivial rfl) fun u ⟨l,q,e⟩=>⟨l,FZ (k:=6) (x:=uH) dk q,e⟩
theorem AY1:tf Fv+tf Fv=1:=by rw [AGm,← F7,← DS];exact AVq dk
noncomputable def Bt (a:FP2):Int:=if Co a=true then 1 else 0
theorem AY2 (a:FP2):decide (Bt a=1)=Co a:=by
 unfold Bt;cases Co a<;>rfl
theorem AGn (x:Nat):EI x=if NT (tf x)=true then 1 else 0:=by
 unfold EI NT;have h:(tf x).val=x % pN:=rfl
 rw [h];rcases ke (x % pN) with e | e<;>rw [e]<;>rfl
theorem AY3 (r:R FP2):AK dn oJk Tryz.f174 [va FP2 r] dw 300=some ([(dq (re FP r.1) 0,true)],DA (EI r.2)):=dk
theorem AY4 (r:R FP2):AK dn oJk Tryz.f174 [va FP2 r] du 300=some ([(dq (re FP r.1) 0,false)],DA (EI r.1)):=dk
theorem AGo (r:R FP2):AS dn 174 [va FP2 r] (DA (Bt (mo r))):=by
 have e:dq (re FP r.1) 0=decide ((mo r:FP2).a=0):=MA (mo r:FP2).a 0
 have h1:=AY3 r;have h2:=AY4 r;rw [AGn] at h1 h2;unfold Bt Co;by_cases h:(mo r:FP2).a=0
 ·rw [fw h];exact AN uF AB Tryz.func174 h1 ⟨by rw [e];exact fu h,trivial⟩ rfl
 ·rw [fv h];exact AN uF AB Tryz.func174 h2 ⟨by rw [e];exact ga h,trivial⟩ rfl
noncomputable def SJl:dt:=(173,AZ (ev FP (AY Fv)))::(174,AZ (BR FP2 fun r=>DA (Bt (mo r))))::SJk
theorem AGp:AT dn SJl:=⟨Aa Tryz.func173 dk dk (cE (α:=FP) AY0),Aa Tryz.func174 dk dk (BW AGo),uE⟩
noncomputable abbrev oJl:Orc:=AG SJl KH
noncomputable def tX (r:R FP2) (n:Nat):Nat:=DQ (mu FP (ad FP r.1 n) Fv)
noncomputable def Nj (r:R FP2) (n:Nat):Bool:=CL (mu FP (ad FP r.1 n) Fv)
noncomputable def Nk (r:R FP2):Bool:=CL (ng FP r.1)
noncomputable def H_ (r:R FP2) (n:Nat):R FP2:=(tX r n,DQ (ng FP r.1))
noncomputable def IA (r:R FP2) (n:Nat):R FP2:=(tX r n,mu FP (mu FP r.2 Fv) (iv FP (tX r n)))
noncomputable def dI (n:Nat):List AV:=[va FP n,.val false [.p 0 0]]
noncomputable def dJ (r:R FP2):Heap:=[(0,some (Am (av r)))]
noncomputable def Nl (r:R FP2) (n:Nat) (p:List Bool):=AR dn oJl Tryz.f172 500 1 [] (Ah Tryz.f172 (dI n) (dJ r) 1 p)
section
variable (r:R FP2) (n:Nat)
theorem AY6:Nl r n [true,true,true]=some ([(dq (tX r n) 0,true),(decide (Bt (mo (H_ r n):FP2)=1),true),(Nk r,true)],[],.tup [(true,av (ng FP2 (H_ r n))),(false,[.v (.bool (B9 (mu FP2 (ng FP2 (H_ r n)) (ng FP2 (H_ r n))) r))])],[]):=dk
theorem AY7:Nl r n [true,true,false]=some ([(dq (tX r n) 0,true),(decide (Bt (mo (H_ r n):FP2)=1),true),(Nk r,false)],[],.tup [(true,av (ng FP2 (H_ r n))),(false,[.b false])],[]):=dk
theorem AY8:Nl r n ep=some ([(dq (tX r n) 0,true),(decide (Bt (mo (H_ r n):FP2)=1),false),(Nk r,true)],[],.tup [(true,av (H_ r n)),(false,[.v (.bool (B9 (mu FP2 (H_ r n) (H_ r n)) r))])],[]):=dk
theorem AY9:Nl r n eq=some ([(dq (tX r n) 0,true),(decide (Bt (mo (H_ r n):FP2)=1),false),(Nk r,false)],[],.tup [(true,av (H_ r n)),(false,[.b false])],[]):=dk
theorem AY_:Nl r n ew=some ([(dq (tX r n) 0,false),(decide (Bt (mo (IA r n):FP2)=1),true),(Nj r n,true)],[],.tup [(true,av (ng FP2 (IA r n))),(false,[.v (.bool (B9 (mu FP2 (ng FP2 (IA r n)) (ng FP2 (IA r n))) r))])],[]):=dk
theorem AY':Nl r n fi=some ([(dq (tX r n) 0,false),(decide (Bt (mo (IA r n):FP2)=1),true),(Nj r n,false)],[],.tup [(true,av (ng FP2 (IA r n))),(false,[.b false])],[]):=dk
theorem AZA:Nl r n e_=some ([(dq (tX r n) 0,false),(decide (Bt (mo (IA r n):FP2)=1),false),(Nj r n,true)],[],.tup [(true,av (IA r n)),(false,[.v (.bool (B9 (mu FP2 (IA r n) (IA r n)) r))])],[]):=dk
theorem AZB:Nl r n fb=some ([(dq (tX r n) 0,false),(decide (Bt (mo (IA r n):FP2)=1),false),(Nj r n,false)],[],.tup [(true,av (IA r n)),(false,[.b false])],[]):=dk
end
theorem PQ {r:R FP2} {n:Nat} {p:List Bool} {conds:dr} {out:R FP2} {ok:Ch} (h:Nl r n p=some (conds,[],.tup [(true,av out),(false,[ok])],[])) (hc:AM conds) {e:FP2} {t:Bool} (ho:out=en e) (hok:ok=.b t∨ok=.v (.bool t)) :
  Ac dn 172 (dI n) (dJ r) 1 [] (.tup [(true,av (en e:R FP2)),(false,[.v (.bool t)])]) []:=by
 subst ho;refine BA (BV AGp CO Tryz.func172 dk dk h dk hc) fun β u q=>?_
 refine CZ (fun _ q=>q) (fun _ q=>?_) q
 rcases hok with e | e
 ·subst e;obtain ⟨l1,l2,p1,p2,p3⟩:=q;exact ⟨l1,l2,⟨p1,rfl,trivial⟩,p2,p3⟩
 ·subst e;exact q
noncomputable def hF:FP:=tf Fv
theorem uI (q:FP):DQ q.val=(CM q).val:=by
 unfold CM;refine (GW ?_).symm
 by_cases h:CL q.val=true
 ·exact (o9 h).2.2
 ·unfold DQ;rw [fv h];exact Cs
theorem Xg (x y:FP2):B9 (mu FP2 (en x) (en x)) (en y)=decide (x*x=y):=by
 have e:mu FP2 (en x) (en x)=(en (x*x):R FP2):=by unfold mu;rw [mo_en]
 rw [e];have e1:B9 (en (x*x)) (en y)=(decide ((x*x).a=y.a)&&decide ((x*x).b=y.b)):=by
  show (dq (x*x).a.val y.a.val&&dq (x*x).b.val y.b.val)=_;rw [MA,MA]
 rw [e1];by_cases h:x*x=y
 ·rw [h,fu rfl,fu rfl,fu rfl];rfl
 ·rw [ga h];by_cases ha:(x*x).a=y.a
  ·by_cases hb:(x*x).b=y.b
   ·exact absurd (Qx.ext ha hb) h
   ·rw [ga hb,kc]
  ·rw [ga ha,kr]
section
variable (a:FP2) (n:Nat)
theorem dK:tX (en a) n=(Cw hF a (tf n)).val:=by
 have e:mu FP (ad FP (en a:R FP2).1 n) Fv=((a.a+tf n)*hF:FP).val:=by
  unfold ad mu;show (mo (en (mo a.a.val+mo n:FP))*mo Fv:FP).val=_;rw [mo_en];show ((tf a.a.val+tf n)*tf Fv:FP).val=_;rw [B7];rfl
 unfold tX Cw;rw [e];exact uI _
theorem AZC:Nj (en a) n=CX ((a.a+tf n)*hF):=by
 have e:mu FP (ad FP (en a:R FP2).1 n) Fv=((a.a+tf n)*hF:FP).val:=by
  unfold ad mu;show (mo (en (mo a.a.val+mo n:FP))*mo Fv:FP).val=_;rw [mo_en];show ((tf a.a.val+tf n)*tf Fv:FP).val=_;rw [B7];rfl
 unfold Nj CX;rw [e]
theorem AGq:(ng FP (en a:R FP2).1:Nat)=(-a.a:FP).val:=by
 show (-(tf a.a.val):FP).val=_;rw [B7]
theorem AZD:Nk (en a)=CX (-a.a):=by
 unfold Nk CX;rw [AGq]
theorem AZE (h:Cw hF a (tf n)=0):H_ (en a) n=(en (⟨Cw hF a (tf n),L_ hF a (tf n)⟩:FP2):R FP2):=by
 unfold H_ L_;rw [fw h,dK,AGq,uI];rfl
theorem AZF (h:¬ Cw hF a (tf n)=0):IA (en a) n=(en (⟨Cw hF a (tf n),L_ hF a (tf n)⟩:FP2):R FP2):=by
 have e:(mu FP (mu FP (en a:R FP2).2 Fv) (iv FP (tX (en a) n)):Nat)=(a.b*hF*FD.inv (Cw hF a (tf n)):FP).val:=by
  rw [dK];unfold mu iv;show (mo (en (mo a.b.val*mo Fv:FP))*mo (en (FD.inv (mo (Cw hF a (tf n)).val:FP))):FP).val=_;rw [mo_en,mo_en];show (tf a.b.val*tf Fv*FD.inv (tf (Cw hF a (tf n)).val):FP).val=_;rw [B7,B7];rfl
 unfold IA L_;rw [fv h,e,dK];rfl
theorem AZG:dq (tX (en a) n) 0=decide (Cw hF a (tf n)=0):=by
 rw [dK];exact MA _ 0
noncomputable def uJ:AV:=.tup [(true,av (en (Iv hF a (tf n)):R FP2)),(false,[.v (.bool (FH hF a (tf n)))])]
theorem uK (o:FP2):ng FP2 (en o)=(en (-o):R FP2):=by unfold ng;rw [mo_en]
theorem uL (o:FP2):decide (Bt (mo (en o:R FP2):FP2)=1)=Co o:=by rw [mo_en];exact AY2 o
theorem AZH:Ac dn 172 (dI n) (dJ (en a)) 1 [] (uJ a n) []:=by
 unfold uJ;have hz:=AZG a n;by_cases h:Cw hF a (tf n)=0
 ·rw [fu h] at hz;have eo:=AZE a n h;have ei:FH hF a (tf n)=(Nk (en a)&&decide (Iv hF a (tf n)*Iv hF a (tf n)=a)):=by unfold FH;rw [fw h,AZD]
  have r1:=AY6 (en a) n
  have r2:=AY7 (en a) n
  have r3:=AY8 (en a) n
  have r4:=AY9 (en a) n
  rw [eo,uL] at r1 r2 r3 r4;rw [uK] at r1 r2;unfold Iv at *
  generalize hO:(⟨Cw hF a (tf n),L_ hF a (tf n)⟩:FP2)=o at *
  rw [ei];unfold JR;cases hs:Co o with
  | true =>
   rw [fw rfl];cases hi:Nk (en a) with
   | true=>exact PQ r1 ⟨hz,hs,hi,trivial⟩ rfl (.inr (by rw [Xg,jc]))
   | false=>exact PQ r2 ⟨hz,hs,hi,trivial⟩ rfl (.inl (by rw [kr]))
  | false =>
   rw [fv gn];cases hi:Nk (en a) with
   | true=>exact PQ r3 ⟨hz,hs,hi,trivial⟩ rfl (.inr (by rw [Xg,jc]))
   | false=>exact PQ r4 ⟨hz,hs,hi,trivial⟩ rfl (.inl (by rw [kr]))
 ·rw [ga h] at hz;have eo:=AZF a n h;have ei:FH hF a (tf n)=(Nj (en a) n&&decide (Iv hF a (tf n)*Iv hF a (tf n)=a)):=by unfold FH;rw [fv h,AZC]
  have r1:=AY_ (en a) n
  have r2:=AY' (en a) n
  have r3:=AZA (en a) n
  have r4:=AZB (en a) n
  rw [eo,uL] at r1 r2 r3 r4;rw [uK] at r1 r2;unfold Iv at *
  generalize hO:(⟨Cw hF a (tf n),L_ hF a (tf n)⟩:FP2)=o at *
  rw [ei];unfold JR;cases hs:Co o with
  | true =>
   rw [fw rfl];cases hi:Nj (en a) n with
   | true=>exact PQ r1 ⟨hz,hs,hi,trivial⟩ rfl (.inr (by rw [Xg,jc]))
   | false=>exact PQ r2 ⟨hz,hs,hi,trivial⟩ rfl (.inl (by rw [kr]))
  | false =>
   rw [fv gn];cases hi:Nj (en a) n with
   | true=>exact PQ r3 ⟨hz,hs,hi,trivial⟩ rfl (.inr (by rw [Xg,jc]))
   | false=>exact PQ r4 ⟨hz,hs,hi,trivial⟩ rfl (.inl (by rw [kr]))
end
noncomputable def trSp:ASpec:=fun args H fr path=>match args with
 | [.val true c,.val false [.p k 0]]=>match C0 6 c,AF H k with
  | some n,some ⟨_,cs,_⟩=>match (rd cs:Option (R FP2)) with
   | some r=>some (BI [k] 1 fr 0 [] (uJ (mo r) n) [] [(CQ r,true)] path)
   | none=>none
  | _,_=>none
 | _=>none
theorem AZI:A' dn 172 trSp:=by
 refine GQ Tryz.func172 dk dk fun args H fr path r hs=>?_
 unfold trSp at hs;split at hs;case h_2=>cases hs
 rename_i c k;split at hs;case h_2=>cases hs
 rename_i n ty cs o hn hk';split at hs;case h_2=>cases hs
 rename_i q hq;injection hs with hs;refine ⟨[k],dI n,dJ q,1,0,[],_,_,_,path,hs.symm,fun β us w ha hg hc=>?_⟩
 obtain ⟨u1,us1,r1,⟨u2,us2,r2,ha,rfl⟩,rfl⟩:=ha;have hr:=Ke hc.1;have h:=AZH (mo q) n
 rw [hr] at h;refine ⟨h,dk,⟨u1,_,?_,⟨u2,us2,r2,ha,rfl⟩,rfl⟩,Zm (c:=av q) hg hk' (fun l h=>Sh.rd_ok hq h),fun j hj=>?_⟩
 ·obtain ⟨l,q,rfl⟩:=r1;exact ⟨l,FZ hn q,rfl⟩
 ·match j,hj with
  | 0,_=>exact CC (hg.heap _ _ hk')
noncomputable def SJl2:dt:=(172,trSp)::SJl
theorem AZJ:AT dn SJl2:=⟨AZI,AGp⟩
noncomputable abbrev oJl2:Orc:=AG SJl2 KH
theorem dL:OrcOk dn oJl2:=AH AZJ CO
noncomputable def Ix (q:R FP2):Nat:=ad FP (mu FP q.1 q.1) (mu FP q.2 q.2)
def RB:List Ch:=[.n .u64 0,.n .u64 0,.n .u64 0,.n .u64 0,.n .u64 0,.n .u64 0,.n .u64 0,.n .u64 0,.n .u64 0,.n .u64 0,.n .u64 0,.n .u64 0]
def dM:AV:=.tup [(true,RB),(false,[.b false])]
noncomputable def dN (q:R FP2) (n:Nat):AV:=.tup [(true,av (en (Iv hF (mo q) (tf n)):R FP2)),(false,[.b true])]
section
variable (r:R FP2)
theorem AZK:AK dn oJl2 Tryz.f98 [va FP2 r] dw 500=some ([(!CL (Ix (re FP2 r)),true)],dM):=dk
theorem AZL:AK dn oJl2 Tryz.f98 [va FP2 r] dz 500=some ([(!CL (Ix (re FP2 r)),false),(CQ (re FP2 r),true),(FH hF (mo (re FP2 r)) (tf (DQ (Ix (re FP2 r)))),true)],dN (re FP2 r) (DQ (Ix (re FP2 r)))):=dk
theorem AZM:AK dn oJl2 Tryz.f98 [va FP2 r] e_ 500=some ([(!CL (Ix (re FP2 r)),false),(CQ (re FP2 r),true),(FH hF (mo (re FP2 r)) (tf (DQ (Ix (re FP2 r)))),false),(CQ (re FP2 r),true),(FH hF (mo (re FP2 r)) (tf (ng FP (DQ (Ix (re FP2 r))))),true)],dN (re FP2 r) (ng FP (DQ (Ix (re FP2 r))))):=dk
theorem AZN:AK dn oJl2 Tryz.f98 [va FP2 r] fb 500=some ([(!CL (Ix (re FP2 r)),false),(CQ (re FP2 r),true),(FH hF (mo (re FP2 r)) (tf (DQ (Ix (re FP2 r)))),false),(CQ (re FP2 r),true),(FH hF (mo (re FP2 r)) (tf (ng FP (DQ (Ix (re FP2 r))))),false)],dM):=dk
end
theorem AGr (a:FP2):Ix (en a)=(FI a).val:=by
 unfold Ix ad mu FI;show (mo (en (mo a.a.val*mo a.a.val:FP))+mo (en (mo a.b.val*mo a.b.val:FP)):FP).val=_;rw [mo_en,mo_en];show (tf a.a.val*tf a.a.val+tf a.b.val*tf a.b.val:FP).val=_;rw [B7,B7]
noncomputable def Nm (a:FP2):AV:=.tup [(true,av (en (EL a):R FP2)),(false,[.v (.bool (CN a))])]
theorem AZO:(rd RB:Option (R FP2))=some (en (0:FP2)):=dk
theorem Xh {β β':Env} {b b':Bool} {u:Value} (e:b=b') (h:Bi β false [.b b] u):Bi β' false [.v (.bool b')] u:=by
 subst e;obtain ⟨l1,l2,p1,p2,p3⟩:=h;exact ⟨l1,l2,⟨p1,rfl,trivial⟩,p2,p3⟩
theorem uN {a:FP2} (hi:CN a=false) {u:Value} (h:AL By dM u):AL By (Nm a) u:=by
 unfold Nm;rw [AV5 hi,hi];exact CZ (fun _ ⟨l,q,e⟩=>⟨l,Sh.rd_ok (α:=FP2) AZO q,e⟩) (fun _ q=>Xh rfl q) h
theorem AGs {a:FP2} {n:Nat} (ht:FH hF a (tf n)=true) {u:Value} (h:AL By (dN (en a) n) u):AL By (Nm a) u:=by
 obtain ⟨h1,h2⟩:=AV' ht;unfold Nm;rw [← h1,h2];unfold dN at h;rw [mo_en] at h;exact CZ (fun _ q=>q) (fun _ q=>Xh rfl q) h
theorem AZP (r:R FP2):AS dn 98 [va FP2 r] (Nm (mo r)):=by
 have h1:=AZK r;have h2:=AZL r;have h3:=AZM r;have h4:=AZN r;have e:re FP2 r=en (mo r:FP2):=rfl
 rw [e] at h1 h2 h3 h4;generalize (mo r:FP2)=a at *
 rw [mo_en,AGr] at h2 h3 h4;rw [AGr] at h1;rw [uI,B7] at h2 h3 h4;have en2:tf (ng FP (CM (FI a)).val)=-CM (FI a):=by
  show tf (-(tf (CM (FI a)).val):FP).val=_;rw [B7,B7]
 rw [en2] at h3 h4;have hr:=JS a;cases hi:CX (FI a) with
 | false =>
  have hi':CL (FI a).val=false:=hi
  exact CW (AN dL AB Tryz.func98 h1 ⟨by rw [hi'];rfl,trivial⟩ rfl) fun u q=>uN (AWB hi) q
 | true =>
  have hi':(!CL (FI a).val)=false:=by
   have:CL (FI a).val=true:=hi
   rw [this];rfl
  cases ht:FH hF a (CM (FI a)) with
  | true =>
   refine CW (AN dL AB Tryz.func98 h2 ⟨hi',hr,ht,trivial⟩ rfl) fun u q=>?_
   exact AGs (n:=(CM (FI a)).val) (by rw [B7];exact ht) q
  | false =>
   cases ht2:FH hF a (-CM (FI a)) with
   | true =>
    refine CW (AN dL AB Tryz.func98 h3 ⟨hi',hr,ht,hr,ht2,trivial⟩ rfl) fun u q=>?_
    exact AGs (n:=ng FP (CM (FI a)).val) (by rw [en2];exact ht2) q
   | false=>exact CW (AN dL AB Tryz.func98 h4 ⟨hi',hr,ht,hr,ht2,trivial⟩ rfl) fun u q=>uN (AWC AY1 hi ht ht2) q
noncomputable def SJm:dt:=(98,AZ (BR FP2 fun r=>Nm (mo r)))::SJk
theorem UK:AT dn SJm:=⟨Aa Tryz.func98 dk dk (BW AZP),uE⟩
noncomputable abbrev Kz:Orc:=AG SJm KH
noncomputable def x2 (K:Nat) (L:dp):R FP2:=(xN K 1 L,xN K 0 L)
noncomputable def z2 (L:dp):R FP2:=(xN 4 3 L,xN 4 2 L)
noncomputable def Bx (x:R FP2):R FP2:=en (EL (mo (ad FP2 (mu FP2 (mu FP2 x x) x) ((4:Nat),(4:Nat)))))
noncomputable def JZ (x:R FP2) (b:Bool):R FP2:=if (!(DW (mo (Bx x))==b))=true then ng FP2 (Bx x) else Bx x
noncomputable def Gz (e:Int):AV:=.tup [(true,CE false),(false,[.n .i64 e])]
noncomputable def Nn (x y:R FP2):AV:=.tup [(true,Bh (av x) (Bh (av y) [.b false])),(false,[.n .i64 0])]
section
variable (n m:Nat) (xs:dp)
noncomputable def K3 (s:Bool) (p:List Bool):ASt:=Ah Tryz.f45 (H9 n m s) (Ax xs) 1 p
theorem AZQ:AR dn Kz Tryz.f45 800 1 [] (K3 n m xs true dx)=some (Gy n m xs (BS 2 true (AA xs 0 n)) false [(!decide (BL 2 true (AA xs 0 n)=0),true)],[],.tup [(true,CE false),(false,[.v (.int .i64 (BL 2 true (AA xs 0 n)))])],[]):=dk
theorem AZR:AR dn Kz Tryz.f45 800 1 [] (K3 n m xs true ep)=some (Gy n m xs (BS 2 true (AA xs 0 n)) false ((!decide (BL 2 true (AA xs 0 n)=0),false)::tt 2 []),[],.tup [(true,CE true),(false,[.n .i64 0])],[]):=dk
noncomputable def PR (b:Bool) (r:dr):dr:=Gy n m xs (BS 2 true (AA xs 0 n)) true ((true,true)::(false,false)::tt 2 ((!(DW (mo (Bx (x2 2 (AA xs 0 n))))==Ai (AA xs 0 n) 32),b)::r))
theorem AZS:AR dn Kz Tryz.f45 800 1 [] (K3 n m xs true fj)=some (PR n m xs true [(!A9 (mo ((x2 2 (AA xs 0 n)),ng FP2 (Bx (x2 2 (AA xs 0 n))),false):P2),true)],[],Gz 204,[]):=dk
theorem AZT:AR dn Kz Tryz.f45 800 1 [] (K3 n m xs true fh)=some (PR n m xs true [(!A9 (mo ((x2 2 (AA xs 0 n)),ng FP2 (Bx (x2 2 (AA xs 0 n))),false):P2),false),(!CK (mo ((x2 2 (AA xs 0 n)),ng FP2 (Bx (x2 2 (AA xs 0 n))),false):P2),true)],[],Gz 205,[]):=dk
theorem AZU:AR dn Kz Tryz.f45 800 1 [] (K3 n m xs true ff)=some (PR n m xs true [(!A9 (mo ((x2 2 (AA xs 0 n)),ng FP2 (Bx (x2 2 (AA xs 0 n))),false):P2),false),(!CK (mo ((x2 2 (AA xs 0 n)),ng FP2 (Bx (x2 2 (AA xs 0 n))),false):P2),false)],[],Nn (x2 2 (AA xs 0 n)) (ng FP2 (Bx (x2 2 (AA xs 0 n)))),[]):=dk
theorem AZV:AR dn Kz Tryz.f45 800 1 [] (K3 n m xs true eg)=some (PR n m xs false [(!A9 (mo ((x2 2 (AA xs 0 n)),Bx (x2 2 (AA xs 0 n)),false):P2),true)],[],Gz 204,[]):=dk
theorem AZW:AR dn Kz Tryz.f45 800 1 [] (K3 n m xs true fe)=some (PR n m xs false [(!A9 (mo ((x2 2 (AA xs 0 n)),Bx (x2 2 (AA xs 0 n)),false):P2),false),(!CK (mo ((x2 2 (AA xs 0 n)),Bx (x2 2 (AA xs 0 n)),false):P2),true)],[],Gz 205,[]):=dk
theorem AZX:AR dn Kz Tryz.f45 800 1 [] (K3 n m xs true fa)=some (PR n m xs false [(!A9 (mo ((x2 2 (AA xs 0 n)),Bx (x2 2 (AA xs 0 n)),false):P2),false),(!CK (mo ((x2 2 (AA xs 0 n)),Bx (x2 2 (AA xs 0 n)),false):P2),false)],[],Nn (x2 2 (AA xs 0 n)) (Bx (x2 2 (AA xs 0 n))),[]):=dk
end
noncomputable def RC (p:P2):P2×Int:=if A9 p=true then (if CK p=true then (p,0) else (.pt 0 0,205)) else (.pt 0 0,204)
noncomputable def Jj (s:Bool) (L:dp):P2:=match s with
 | true=>mo (x2 2 L,JZ (x2 2 L) (Ai L 32),false)
 | false=>mo (x2 4 L,z2 L,false)
def kT (s:Bool):Nat:=match s with | true=>2 | false=>4
noncomputable def GE (s:Bool) (L:dp):P2×Int:=if BS (kT s) s L=true then RC (Jj s L) else if BL (kT s) s L=0 then (.inf,0) else (.pt 0 0,BL (kT s) s L)
noncomputable def Fw (q:P2×Int):AV:=JT q.1 q.2
theorem AGt:(rd (CE false):Option (R P2))=some (en (.pt 0 0:P2)):=dk
theorem AZY:(rd (CE true):Option (R P2))=some (en (.inf:P2)):=dk
theorem uO {β β':Env} {i:Bool} {p:P2} (h:(rd (CE i):Option (R P2))=some (en p)) {u:Value} (hr:Bi β true (CE i) u):Bi β' true (av (en p:R P2)) u:=by
 obtain ⟨l,q,e⟩:=hr;exact ⟨l,Sh.rd_ok (α:=P2) h q,e⟩
theorem PS {β:Env} {e:Int} {u:Value} (h:AL β (Gz e) u):AL β (Fw (.pt 0 0,e)) u:=CZ (fun _ q=>uO AGt q) (fun _ q=>D8 rfl q) h
theorem AGu {β:Env} {u:Value} (h:AL β (.tup [(true,CE true),(false,[.n .i64 0])]) u):AL β (Fw (.inf,0)) u:=CZ (fun _ q=>uO AZY q) (fun _ q=>D8 rfl q) h
theorem AZZ {β:Env} {e:Int} {u:Value} (h:AL β (.tup [(true,CE false),(false,[.v (.int .i64 e)])]) u):AL β (Fw (.pt 0 0,e)) u:=CZ (fun _ q=>uO AGt q) (fun _ q=>q) h
theorem AZa (x y:R FP2):(rd (Bh (av x) (Bh (av y) [.b false])):Option (R P2))=some (x,y,false):=dk
theorem uP {β:Env} {x y:R FP2} (hx:CQ x=true) (hy:CQ y=true) {u:Value} (h:AL β (Nn x y) u):AL β (Fw (mo (x,y,false),0)) u:=by
 have e:(en (mo (x,y,false):P2):R P2)=(x,y,false):=by
  show ((en (mo x:FP2):R FP2),(en (mo y:FP2):R FP2),false)=_;rw [Ke hx,Ke hy]
 unfold Fw JT;simp only
 rw [e];exact CZ (fun _ ⟨l,q,e⟩=>⟨l,Sh.rd_ok (α:=P2) (AZa x y) q,e⟩) (fun _ q=>D8 rfl q) h
theorem AGv {n m:Nat} {xs:dp} {s:Bool} {x y:R FP2} (hx:CQ x=true) (hy:CQ y=true) {C:dr→dr} (hC:∀ r,AM r→AM (C r)) {p1 p2 p3:List Bool}
  (h1:AR dn Kz Tryz.f45 800 1 [] (K3 n m xs s p1)=some (C [(!A9 (mo (x,y,false)),true)],[],Gz 204,[]))
  (h2:AR dn Kz Tryz.f45 800 1 [] (K3 n m xs s p2)=some (C [(!A9 (mo (x,y,false)),false),(!CK (mo (x,y,false)),true)],[],Gz 205,[]))
  (h3:AR dn Kz Tryz.f45 800 1 [] (K3 n m xs s p3)=some (C [(!A9 (mo (x,y,false)),false),(!CK (mo (x,y,false)),false)],[],Nn x y,[])) :
  Ac dn 45 (H9 n m s) (Ax xs) 1 [] (Fw (RC (mo (x,y,false)))) []:=by
 unfold RC;cases ho:A9 (mo (x,y,false)) with
 | false =>
  rw [fv gn];exact BA (BV UK CO Tryz.func45 dk dk h1 dk (hC _ ⟨by rw [ho];rfl,trivial⟩)) fun _ _ q=>PS q
 | true =>
  rw [fw rfl];cases hi:CK (mo (x,y,false)) with
  | false =>
   rw [fv gn];exact BA (BV UK CO Tryz.func45 dk dk h2 dk (hC _ ⟨by rw [ho];rfl,by rw [hi];rfl,trivial⟩)) fun _ _ q=>PS q
  | true =>
   rw [fw rfl];exact BA (BV UK CO Tryz.func45 dk dk h3 dk (hC _ ⟨by rw [ho];rfl,by rw [hi];rfl,trivial⟩)) fun _ _ q=>uP hx hy q
theorem Xi {a b:Nat} (ha:a<pN) (hb:b<pN):CQ ((a,b):R FP2)=true:=gk.2 ⟨fu ha,fu hb⟩
theorem AGw (x:R FP2):CQ (Bx x)=true:=JS _
theorem AGx (x:R FP2):CQ (ng FP2 x)=true:=JS _
theorem AGy {n m:Nat} {xs:dp} (hl:n≤xs.length) (hm:n≤m) (hn:AJ .i64 n=true) (s:Bool) (hs1:s=true):Ac dn 45 (H9 n m s) (Ax xs) 1 [] (Fw (GE s (AA xs 0 n))) []:=by
 have hW:∀ (b d:Bool) r,b=d→AM r→AM (Gy n m xs b d r):=fun b d r h hr=>⟨gb hl,gb hm,hn,h,hr⟩
 unfold GE;cases hr:BS (kT s) s (AA xs 0 n) with
 | false =>
  rw [fv gn];by_cases he:BL (kT s) s (AA xs 0 n)=0
  ·rw [fw he];cases s with
   | true=>exact BA (BV UK CO Tryz.func45 dk dk (AZR n m xs) dk (hW _ _ _ hr ⟨AGe he,Ad 2 trivial⟩)) fun _ _ q=>AGu q
   | false=>cases hs1
  ·rw [fv he];cases s with
   | true=>exact BA (BV UK CO Tryz.func45 dk dk (AZQ n m xs) dk (hW _ _ _ hr ⟨dF he,trivial⟩)) fun _ _ q=>AZZ q
   | false=>cases hs1
 | true =>
  rw [fw rfl];cases s with
  | true =>
   have hx:CQ (x2 2 (AA xs 0 n))=true:=Xi (HU hr 1 dm) (HU hr 0 dm)
   unfold Jj JZ;by_cases hb:(!(DW (mo (Bx (x2 2 (AA xs 0 n))))==Ai (AA xs 0 n) 32))=true
   ·simp only [fw hb];exact AGv hx (AGx _) (C:=PR n m xs true) (fun r hq=>hW _ _ _ hr ⟨rfl,rfl,Ad 2 ⟨hb,hq⟩⟩) (AZS n m xs) (AZT n m xs) (AZU n m xs)
   ·simp only [fv hb];exact AGv hx (AGw _) (C:=PR n m xs false) (fun r hq=>hW _ _ _ hr ⟨rfl,rfl,Ad 2 ⟨by simpa using hb,hq⟩⟩) (AZV n m xs) (AZW n m xs) (AZX n m xs)
  | false=>cases hs1
noncomputable def SJn:dt:=(45,Ky fun s L=>Fw (GE s L))::SJm
theorem dO:AT dn SJn:=⟨Ni Tryz.func45 dk dk (fun _ _=>by kernel_rfl) fun _ _ _ hl hm hn=>AGy hl hm hn true rfl,UK⟩
noncomputable abbrev oJn:Orc:=AG SJn KH
theorem AZc {y:FP} (h:y≠0):-y≠0:=fun e=>h (by rw [← neg_neg y,e];exact GU)
theorem AZd {y:FP2} (h:y≠0):DW (-y)=!DW y:=by
 unfold DW;by_cases hb:y.b=0
 ·have hb':(-y).b=0:=by show -y.b=0;rw [hb];exact GU
  have ha:y.a≠0:=fun e=>h (Qx.ext e hb)
  rw [fw hb,fw hb'];exact dH ha
 ·rw [fv hb,fv (show ¬ (-y).b=0 from AZc hb)]
  exact dH hb
theorem AZe (x:R FP2):(mo (ng FP2 x):FP2)=-mo x:=by unfold ng;rw [mo_en]
theorem AZf {x:R FP2} {c:Bool} (h:Rg.On C2.b (mo (x,JZ x c,false):P2)):DW (mo (JZ x c))=c:=by
 have hb:(mo (JZ x c):FP2)≠0:=C2.no2 _ _ h
 unfold JZ at hb ⊢
 by_cases hq:(!(DW (mo (Bx x))==c))=true
 ·rw [fw hq] at hb ⊢;rw [AZe] at hb ⊢;have hne:(mo (Bx x):FP2)≠0:=fun e=>hb (by rw [e];exact GU)
  rw [AZd hne]
  revert hq
  cases DW (mo (Bx x))<;>cases c<;>decide
 ·rw [fv hq]
  revert hq
  cases DW (mo (Bx x))<;>cases c<;>decide
theorem uQ (s:Bool):0<kT s:=by cases s<;>decide
theorem AZg (p:P2):l2 p=(L7 p).b.val::[(L7 p).a.val,(JP p).b.val,(JP p).a.val]:=rfl
theorem uR {x:R FP2} (h:CQ x=true):(mo x:FP2).a.val=x.1∧(mo x:FP2).b.val=x.2:=by
 have e:=Ke h;exact ⟨gh Prod.fst e,gh Prod.snd e⟩
theorem AZh {L:dp} (hL:∀ d∈L,0≤d∧d<256) {s:Bool} (h:(GE s L).2=0):CK (GE s L).1=true∧AA (tN s (GE s L).1) 0 (48*kT s)=L:=by
 unfold GE at h ⊢
 cases hr:BS (kT s) s L with
 | false =>
  rw [hr,fv gn] at h;rw [fv gn];by_cases he:BL (kT s) s L=0
  ·rw [fw he];refine ⟨by unfold CK;rw [GV];rfl,?_⟩
   rw [AGI,AGP];exact AGh (uQ s) hL hr he (by cases s<;>rfl)
  ·rw [fv he] at h;exact absurd h he
 | true =>
  rw [hr,fw rfl] at h;rw [fw rfl];unfold RC at h ⊢
  cases ho:A9 (Jj s L) with
  | false=>rw [ho,fv gn] at h;cases h
  | true =>
   rw [ho,fw rfl] at h;cases hi:CK (Jj s L) with
   | false=>rw [hi,fv gn] at h;cases h
   | true =>
    rw [fw rfl,fw rfl];refine ⟨hi,?_⟩
    have hon:=(KZ _).1 ho
    rw [AGI,AGP,AZg];cases s with
    | true =>
     have x0:xN 2 0 L<pN:=HU hr 0 dm
     have x1:xN 2 1 L<pN:=HU hr 1 dm
     have hX:L7 (Jj true L)=mo (x2 2 L):=rfl
     have hY:JP (Jj true L)=mo (JZ (x2 2 L) (Ai L 32)):=rfl
     have hI:EJ (Jj true L)=false:=rfl
     obtain ⟨e1,e2⟩:=uR (x:=x2 2 L) (Xi x1 x0)
     rw [hI,hY,hX,AZf hon,e1,e2];exact dG (uQ true) hL hr rfl (by rw [jc])
    | false =>
     have x0:xN 4 0 L<pN:=HU hr 0 dm
     have x1:xN 4 1 L<pN:=HU hr 1 dm
     have x3:xN 4 2 L<pN:=HU hr 2 dm
     have x4:xN 4 3 L<pN:=HU hr 3 dm
     have hX:L7 (Jj false L)=mo (x2 4 L):=rfl
     have hY:JP (Jj false L)=mo (z2 L):=rfl
     have hI:EJ (Jj false L)=false:=rfl
     obtain ⟨e1,e2⟩:=uR (x:=x2 4 L) (Xi x1 x0)
     obtain ⟨e3,e4⟩:=uR (x:=z2 L) (Xi x4 x3)
     rw [hI,hY,hX,e1,e2,e3,e4];refine dG (uQ false) hL hr rfl ?_
     unfold BS at hr;simp only [gi] at hr;have:=hr.2.2.1
     rw [kr];simpa using this
section
variable {F:Type} [FD F] (C:Cv F)
theorem AZi {a p:Pt F} (ha:Rg.On C.b a) (hp:Rg.On C.b p):add (Rg.neg a) (Rg.neg p)=Rg.neg (add a p):=by
 have na:=HR C ha;have np:=HR C hp;have hS:=Ir C hp ha;have h:add (add (Rg.neg a) (Rg.neg p)) (add p a)=.inf:=by
  rw [JM C na np hS,PC C hp ha,HS C na ha,XG C ha]
 have h2:=ATX C (Ir C na np) hS
 rw [h] at h2;rw [← h2,HS C ha hp];rfl
theorem AGz {p:Pt F} (hp:Rg.On C.b p):∀ n,smul n (Rg.neg p)=Rg.neg (smul n p)
 | 0=>rfl
 | n+1=>by
  show add (smul n (Rg.neg p)) (Rg.neg p)=Rg.neg (add (smul n p) p);rw [AGz hp n,AZi C (B4 C hp n) hp]
end
theorem AZj (p:Pt FP):BE (Rg.neg p)=BE p:=by cases p<;>rfl
theorem AZk {p:Pt FP} (h:A6 p=true):A6 (Rg.neg p)=true:=(KX _).2 (HR C1 ((KX p).1 h))
theorem AZl {p:Pt FP} (h:BM p=true):A6 p=true∧Rg.On C1.b p:=by
 have:=(gk.1 h).1
 exact ⟨this,(KX p).1 this⟩
theorem AG0 {p:Pt FP} (h:BM p=true):BM (Rg.neg p)=true:=by
 obtain ⟨h1,h2⟩:=AZl h;unfold BM at h ⊢
 rw [h1] at h;rw [AZk h1,AGz C1 h2,AZj];exact h
theorem AZm (p:Pt FP):BM (Rg.neg p)=BM p:=by
 cases h:BM p with
 | true=>exact AG0 h
 | false=>cases h2:BM (Rg.neg p) with
  | false=>rfl
  | true =>
   have:=AG0 h2
   rw [ATW,h] at this;cases this
def KQ:List (TypeId×List (Option IntKind)):=(209,List.replicate 36 (some .u64))::KH
theorem DJ:Lb dn KQ:=⟨⟨dk,dk,dk⟩,CO⟩
noncomputable abbrev oQ0:Orc:=AG SJn KQ
theorem dQ:OrcOk dn oQ0:=AH dO DJ
def UL (i:Int):List Ch:=[.n .u64 i,.n .u64 0,.n .u64 0,.n .u64 0,.n .u64 0,.n .u64 0,.n .u64 0,.n .u64 0,.n .u64 0,.n .u64 0,.n .u64 0,.n .u64 0]
def uU:List AV→Option AV
 | [.val false [.n .u64 i]]=>some (.val true (UL i))
 | _=>none
theorem AZn (i:Int):AK dn oQ0 Tryz.f243 [.val false [.n .u64 i]] [] 100=some ([],.val true (UL i)):=dk
theorem AZo:∀ args v,uU args=some v→AS dn 243 args v:=by
 intro args v hs;unfold uU at hs;split at hs;case h_2=>cases hs
 rename_i i;injection hs with hs;subst hs;exact AN dQ AB Tryz.func243 (AZn i) trivial rfl
theorem AZp:AK dn oQ0 Tryz.f185 [] [] 100=some ([],.val true AFr):=dk
theorem AZq:AS dn 185 [] (ve JQ):=EK (α:=FP2) (r:=(en JQ:R FP2)) (AN dQ AB Tryz.func185 AZp trivial rfl) dk
section
variable (r s:R P2)
theorem AZr:AK dn oQ0 Tryz.f194 [va P2 r] dw 300=some ([(r.2.2,true)],.val true (CE true)):=dk
theorem AZs:AK dn oQ0 Tryz.f194 [va P2 r] du 300=some ([(r.2.2,false)],.val true (Bh (av (re FP2 r.1)) (Bh (av (re FP2 r.2.1)) [.b false]))):=dk
end
theorem AZt (r:R P2):AS dn 194 [va P2 r] (ve (mo r:P2)):=by
 have h1:=AZr r;have h2:=AZs r;obtain ⟨x,y,i⟩:=r;cases i with
 | true=>exact EK (α:=P2) (r:=(en (.inf:P2):R P2)) (AN dQ AB Tryz.func194 h1 ⟨rfl,trivial⟩ rfl) dk
 | false=>exact EK (α:=P2) (r:=((re FP2 x,re FP2 y,false):R P2)) (AN dQ AB Tryz.func194 h2 ⟨rfl,trivial⟩ rfl) dk
noncomputable def SQ0:dt:=(243,AZ uU)::(185,AZ (ev FP2 (ve JQ)))::(194,AZ (BR P2 fun r=>ve (mo r:P2)))::SJn
theorem AG1:AT dn SQ0:=⟨Aa Tryz.func243 dk dk AZo,Aa Tryz.func185 dk dk (cE AZq),Aa Tryz.func194 dk dk (BW AZt),dO⟩
noncomputable abbrev oQ1:Orc:=AG SQ0 KQ
theorem uW:OrcOk dn oQ1:=AH AG1 DJ
def kk (n:Nat):R FP2:=((n:Nat),(0:Nat))
noncomputable def uS (x y:R FP2):R FP2:=mu FP2 (kk 4) (mu FP2 x (mu FP2 y y))
noncomputable def uM (x:R FP2):R FP2:=mu FP2 (kk 3) (mu FP2 x x)
noncomputable def uX (x y:R FP2):R FP2:=su FP2 (mu FP2 (uM x) (uM x)) (ad FP2 (uS x y) (uS x y))
noncomputable def uY (x y:R FP2):R FP2:=su FP2 (mu FP2 (uM x) (su FP2 (uS x y) (uX x y))) (mu FP2 (kk 8) (mu FP2 (mu FP2 y y) (mu FP2 y y)))
noncomputable def uT (r:R J2):R J2:=(uX r.1 r.2.1,uY r.1 r.2.1,mu FP2 (kk 2) (mu FP2 r.2.1 r.2.2))
theorem AZu (r:R J2):AK dn oQ1 Tryz.f241 [va J2 r] [] 500=some ([],va J2 (uT r)):=dk
theorem AG2:(mo (kk 2):FP2)=1+1:=Qx.ext sH (by show tf 0=0+0;rw [tf_zero];exact (zero_add 0).symm)
theorem AG3:(mo (kk 3):FP2)=1+1+1:=Qx.ext AE_ (by show tf 0=0+0+0;rw [tf_zero,zero_add,zero_add])
theorem AZv:(mo (kk 4):FP2)=1+1+(1+1):=Qx.ext sI (by show tf 0=0+0+(0+0);rw [tf_zero,zero_add,zero_add])
theorem AZw:(mo (kk 8):FP2)=1+1+(1+1)+(1+1+(1+1)):=Qx.ext AE' (by show tf 0=0+0+(0+0)+(0+0+(0+0));rw [tf_zero,zero_add,zero_add,zero_add])
theorem AZx (x y:FP2):(1+1+(1+1))*(x*(y*y))=jD x y:=ring [x,y] (a:=(1+1+(1+1))*(x*(y*y))) (b:=x*(y*y)+x*(y*y)+(x*(y*y)+x*(y*y))) dk
theorem AG4 (x:FP2):(1+1+1)*(x*x)=jE x:=ring [x] (a:=(1+1+1)*(x*x)) (b:=x*x+x*x+x*x) dk
theorem AZy (y:FP2):(1+1+(1+1)+(1+1+(1+1)))*((y*y)*(y*y))=Tu y:=ring [y] (a:=(1+1+(1+1)+(1+1+(1+1)))*((y*y)*(y*y))) (b:=((y*y)*(y*y)+(y*y)*(y*y)+((y*y)*(y*y)+(y*y)*(y*y)))+((y*y)*(y*y)+(y*y)*(y*y)+((y*y)*(y*y)+(y*y)*(y*y)))) dk
theorem AZz (y z:FP2):(1+1)*(y*z)=y*z+y*z:=ring [y,z] (a:=(1+1)*(y*z)) (b:=y*z+y*z) dk
theorem AZ0 (r:R J2):uT r=en (Bl (mo r:J2)):=by
 unfold uT uY uX uM uS su mu ad;simp only [mo_en,AG2,AG3,AZv,AZw,AZz,AG4,AZx,AZy];rfl
theorem AZ1 (r:R J2):AS dn 241 [va J2 r] (ve (Bl (mo r:J2))):=by
 unfold ve;rw [← AZ0];exact AN uW AB Tryz.func241 (AZu r) trivial rfl
theorem AZ2 (r:R P2):AK dn oQ1 Tryz.f119 [va P2 r] dw 300=some ([(r.2.2,true)],.val false [.b true]):=dk
theorem AZ3 (r:R P2):AK dn oQ1 Tryz.f119 [va P2 r] du 300=some ([(r.2.2,false)],Au (XR r.1 r.2.1)):=dk
theorem AZ4 (r:R P2):AS dn 119 [va P2 r] (Au (A9 (mo r))):=by
 have h1:=AZ2 r;have h2:=AZ3 r;obtain ⟨x,y,i⟩:=r;cases i with
 | true=>exact CW (AN uW AB Tryz.func119 h1 ⟨rfl,trivial⟩ rfl) fun u hu=>In rfl hu
 | false =>
  have e:A9 (mo ((x,y,false):R P2))=XR x y:=(AFt x y).symm
  rw [e];exact AN uW AB Tryz.func119 h2 ⟨rfl,trivial⟩ rfl
noncomputable def SQ1:dt:=(241,AZ (BR J2 fun r=>ve (Bl (mo r:J2))))::(119,AZ (BR P2 fun r=>Au (A9 (mo r))))::SQ0
theorem AG5:AT dn SQ1:=⟨Aa Tryz.func241 dk dk (BW AZ1),Aa Tryz.func119 dk dk (BW AZ4),AG1⟩
noncomputable abbrev oQ2:Orc:=AG SQ1 KQ
theorem dR:OrcOk dn oQ2:=AH AG5 DJ
section
variable (p:R J2) (q:R P2)
theorem AZ5:AK dn oQ2 Tryz.f242 [va J2 p,va P2 q] dw 500=some ([(CP p.2.2,true)],.val true (Bh (av q.1) (Bh (av q.2.1) (UL 1)))):=dk
theorem AZ6:AK dn oQ2 Tryz.f242 [va J2 p,va P2 q] ew 500=some ([(CP p.2.2,false),(CP (qH p.1 p.2.2 q.1),true),(CP (qR p.2.1 p.2.2 q.2.1),true)],ve (Bl (mo p:J2))):=dk
theorem AZ7:AK dn oQ2 Tryz.f242 [va J2 p,va P2 q] fi 500=some ([(CP p.2.2,false),(CP (qH p.1 p.2.2 q.1),true),(CP (qR p.2.1 p.2.2 q.2.1),false)],.val true UC):=dk
theorem AZ8:AK dn oQ2 Tryz.f242 [va J2 p,va P2 q] d_ 500=some ([(CP p.2.2,false),(CP (qH p.1 p.2.2 q.1),false)],
 va J2 (Q7 p.1 (qH p.1 p.2.2 q.1) (qR p.2.1 p.2.2 q.2.1),UB p.1 p.2.1 (qH p.1 p.2.2 q.1) (qR p.2.1 p.2.2 q.2.1),mu FP2 p.2.2 (qH p.1 p.2.2 q.1))):=dk
end
theorem AZ9 {p:R J2} {q:R P2} (hz:CQ p.2.2=true) (hx:CQ q.1=true) (hy:CQ q.2.1=true):AS dn 242 [va J2 p,va P2 q] (ve (FF (mo p:J2) (mo q.1) (mo q.2.1))):=by
 have ez:CP p.2.2=decide ((mo p:J2).z=0):=by
  conv=>lhs;rw [← Ke hz]
  exact NW _
 have eh:qH p.1 p.2.2 q.1=en (pH (mo p:J2) (mo q.1)):=by unfold qH su mu;simp only [mo_en];rfl
 have er:qR p.2.1 p.2.2 q.2.1=en (pR (mo p:J2) (mo q.2.1)):=by unfold qR su mu;simp only [mo_en];rfl
 have zh:CP (qH p.1 p.2.2 q.1)=decide (pH (mo p:J2) (mo q.1)=0):=by rw [eh];exact NW _
 have zr:CP (qR p.2.1 p.2.2 q.2.1)=decide (pR (mo p:J2) (mo q.2.1)=0):=by rw [er];exact NW _
 have r1:=AZ5 p q;have r2:=AZ6 p q;have r3:=AZ7 p q;have r4:=AZ8 p q;rw [zh,ez] at r2;rw [zh,ez,zr] at r3;rw [zr] at r2;rw [zh,ez,eh,er] at r4;rw [ez] at r1;unfold FF;by_cases h0:(mo p:J2).z=0
 ·rw [fw h0];refine EK (α:=J2) (r:=(en (⟨mo q.1,mo q.2.1,1⟩:J2):R J2)) (AN dR AB Tryz.func242 r1 ⟨fu h0,trivial⟩ rfl) ?_
  have e:(en (⟨mo q.1,mo q.2.1,1⟩:J2):R J2)=(q.1,q.2.1,en (1:FP2)):=by
   show ((en (mo q.1:FP2),en (mo q.2.1:FP2),en (1:FP2)):R J2)=_;rw [Ke hx,Ke hy]
  rw [e];exact AFz _ _
 ·rw [fv h0];by_cases hh:pH (mo p:J2) (mo q.1)=0
  ·rw [fw hh];by_cases hr:pR (mo p:J2) (mo q.2.1)=0
   ·rw [fw hr];exact AN dR AB Tryz.func242 r2 ⟨ga h0,fu hh,fu hr,trivial⟩ rfl
   ·rw [fv hr];exact EK (α:=J2) (r:=(en (⟨0,0,0⟩:J2):R J2)) (AN dR AB Tryz.func242 r3 ⟨ga h0,fu hh,ga hr,trivial⟩ rfl) dk
  ·rw [fv hh];have e:((Q7 p.1 (en (pH (mo p:J2) (mo q.1))) (en (pR (mo p:J2) (mo q.2.1))),UB p.1 p.2.1 (en (pH (mo p:J2) (mo q.1))) (en (pR (mo p:J2) (mo q.2.1))),mu FP2 p.2.2 (en (pH (mo p:J2) (mo q.1)))):R J2) =
     en (⟨pX (mo p:J2).x (pH (mo p:J2) (mo q.1)) (pR (mo p:J2) (mo q.2.1)),pY (mo p:J2).x (mo p:J2).y (pH (mo p:J2) (mo q.1)) (pR (mo p:J2) (mo q.2.1)),(mo p:J2).z*pH (mo p:J2) (mo q.1)⟩:J2):=by
    unfold UB Q7 su mu ad;simp only [mo_en];rfl
   rw [e] at r4;exact AN dR AB Tryz.func242 r4 ⟨ga h0,ga hh,trivial⟩ rfl
theorem AZ_:∀ args c v,UD args=some (c,v)→AM c→AS dn 242 args v:=by
 intro args c v hs hc us w ha;unfold UD at hs;split at hs;case h_2=>cases hs
 split at hs;case h_2=>cases hs
 rename_i p q hx hy;injection hs with hs;injection hs with h1 h2;subst h1;subst h2;obtain ⟨u1,us1,r1,⟨u2,us2,r2,ha,rfl⟩,rfl⟩:=ha;exact AZ9 hc.1 hc.2.1 hc.2.2.1 _ w ⟨u1,_,FG hx r1,⟨u2,_,FG hy r2,ha,rfl⟩,rfl⟩
noncomputable def SQ2:dt:=(242,Ez UD)::SQ1
theorem dS:AT dn SQ2:=⟨Ft Tryz.func242 dk dk AZ_,AG5⟩
noncomputable abbrev oQ3:Orc:=AG SQ2 KQ
theorem RD:OrcOk dn oQ3:=AH dS DJ
noncomputable def AZ':List Item:=Bv (AW dn oQ3 (some 0) 500 1 none (Ah Tryz.f186 [AP 0 0 0 0,ve (.pt 0 0:P2)] (A8 []) 1 d_))
noncomputable def vmT (off n m:Nat) (i:Int):List AV:=.val false [.sl 0 off n m]::.any::.any::.val false [.p 1 0]::.val false [.p 2 0]::.val false [.n .i64 0]::.any::.val false [.p 3 0]::.val false [.p 4 0]::.val false [.v (.int .i64 i)]::List.replicate (Tryz.f186.ntmps-10) .any
noncomputable def vmH (xs:dp) (r:R P2) (p:P2):Heap:=[(0,some (Am [.seq .u64 xs])),(1,some ⟨70,av r,false⟩),(2,some ⟨70,CE false,false⟩),(3,some ⟨70,av (en p:R P2),false⟩)]
noncomputable def Np (r:R P2) (off n m:Nat) (xs:dp) (p:P2) (out:List Ch) (i:Int) (path:List Bool):ASt:=⟨AZ',⟨vmT off n m i,List.append (vmH xs r p) [(4,some ⟨209,out,false⟩)],5,path⟩⟩
abbrev kV:Option (List Nat×List Nat×Nat):=some ([0,3,4,5,7,8,9],[0,1,2,3,4],5)
theorem AaC (r:R P2) (off n m:Nat) (xs:dp):AW dn oQ3 (some 0) 500 1 kV (Ah Tryz.f186 (PJ r off n m) (A8 xs) 1 d_) =
 some ([(!A9 (mo r),false),(r.2.2,false),(AJ .i64 n,true)],[],Np r off n m xs (mo r) UC (wI (wI (64*(n:Int))-1)) []):=dk
theorem AaD (r:R P2) (off n m:Nat) (xs:dp):AR dn oQ3 Tryz.f186 500 1 [] (Ah Tryz.f186 (PJ r off n m) (A8 xs) 1 dw) =
 some ([(!A9 (mo r),true)],[],.tup [(true,CE false),(false,[.n .i64 120])],[]):=dk
theorem AaE (r:R P2) (off n m:Nat) (xs:dp):AR dn oQ3 Tryz.f186 500 1 [] (Ah Tryz.f186 (PJ r off n m) (A8 xs) 1 dz) =
 some ([(!A9 (mo r),false),(r.2.2,true)],[],.tup [(true,CE true),(false,[.n .i64 0])],[]):=dk
noncomputable def vI (j:J2):R FP2:=iv FP2 (en j:R J2).2.2
section
variable (r:R P2) (off n m:Nat) (xs:dp) (p:P2) (j:J2) (i:Int)
theorem AaF:AW dn oQ3 (some 0) 500 1 kV (Np r off n m xs p (jC2 j) i ee)=some (T9 off n xs i false [],[],Np r off n m xs p (jC2 (Bl (jR j))) (wI (i-1)) []):=dk
theorem AaG:AW dn oQ3 (some 0) 500 1 kV (Np r off n m xs p (jC2 j) i dx) =
 some (T9 off n xs i true [(CQ (en (Bl (jR j))).2.2,true),(CQ (rX p),true),(CQ (rY p),true)],[],Np r off n m xs p (jC2 (cJ j p)) (wI (i-1)) []):=dk
theorem AaH:AR dn oQ3 Tryz.f186 500 1 [] (Np r off n m xs p (jC2 j) i dz) =
 some ([(decide (0≤i),false),(CP (en j:R J2).2.2,true)],[],.tup [(true,CE true),(false,[.n .i64 0])],[]):=dk
theorem AaI:AR dn oQ3 Tryz.f186 500 1 [] (Np r off n m xs p (jC2 j) i d_) =
 some ([(decide (0≤i),false),(CP (en j:R J2).2.2,false)],[],Nn (mu FP2 (en j:R J2).1 (mu FP2 (vI j) (vI j))) (mu FP2 (en j:R J2).2.1 (mu FP2 (mu FP2 (vI j) (vI j)) (vI j))),[]):=dk
end
theorem dU (r:R P2) (off n m:Nat) (xs:dp) (p:P2) (j:J2) (i:Int) (q:List Bool):BO Tryz.f186.ntmps (Np r off n m xs p (jC2 j) i q).s:=AQ dk
noncomputable def vmV (q:P2):AV:=match q with
 | .inf=>.tup [(true,CE true),(false,[.n .i64 0])]
 | .pt a b=>Nn (en a) (en b)
section
variable {off n m:Nat} {xs:dp} (hall:∀ d∈xs,0≤d∧d<18446744073709551616) (hlen:off+n≤xs.length) (hn:n≤1125899906842624) {r:R P2} {p:P2} (hP:Rg.On C2.b p) (hI:EJ p=false) {β0:Env} {w0:World} (hb:∀ b,1≤b→β0 b=none)
include hall hlen hn hb hP hI
theorem AaJ:∀ (c:Nat) (j:J2),B5 j=smul (AI (AA xs off n) / 2^c) p→c≤64*n→ASafe dn 186 β0 w0 (A4 β0 w0 [] (vmV (smul (AI (AA xs off n)) p)) []) Tryz.f186.ntmps [] (Np r off n m xs p (jC2 j) ((c:Int)-1) []):=by
 intro c;induction c with
 | zero =>
  intro j hj _;rw [ia,ig] at hj;rw [← hj];have ez:CP (en j:R J2).2.2=decide (j.z=0):=NW j.z
  by_cases hz:j.z=0
  ·rw [F_ hz];exact Ae dz (Av RD AB Tryz.func186 (AaH ..) ⟨rfl,by rw [ez];exact fu hz,trivial⟩ (dU ..) hb ft)
  ·rw [Hz hz];have e1:mu FP2 (en j:R J2).1 (mu FP2 (vI j) (vI j))=(en (j.x*(FD.inv j.z*FD.inv j.z)):R FP2):=by
    unfold vI mu iv;show en ((mo (en j.x:R FP2):FP2)*mo (en (mo (en (FD.inv (mo (en j.z:R FP2):FP2)))*mo (en (FD.inv (mo (en j.z:R FP2):FP2))))))=_;simp only [mo_en]
   have e2:mu FP2 (en j:R J2).2.1 (mu FP2 (mu FP2 (vI j) (vI j)) (vI j))=(en (j.y*((FD.inv j.z*FD.inv j.z)*FD.inv j.z)):R FP2):=by
    unfold vI mu iv;show en ((mo (en j.y:R FP2):FP2)*mo (en (mo (en (mo (en (FD.inv (mo (en j.z:R FP2):FP2)))*mo (en (FD.inv (mo (en j.z:R FP2):FP2)))))*mo (en (FD.inv (mo (en j.z:R FP2):FP2))))))=_;simp only [mo_en]
   have t:=AaI r off n m xs p j (((0:Nat):Int)-1)
   rw [e1,e2] at t;exact Ae d_ (Av RD AB Tryz.func186 t ⟨rfl,by rw [ez];exact ga hz,trivial⟩ (dU ..) hb ft)
 | succ c ih =>
  intro j hj hc;have hi:((c+1:Nat):Int)-1=(c:Int):=dl
  rw [hi];obtain ⟨hw,hjn,hv0,hr0,hbit⟩:=XT (off:=off) hall hn (c:=c) dl
  obtain ⟨hq1,hq2⟩:=W2 xs off c;have hnext:wI ((c:Int)-1)=(c:Int)-1:=Ao dl
  have hconds:∀ bit r,decide (KT xs off c=1)=bit→AM r→AM (T9 off n xs c bit r):=by
   intro bit r hbt hr';refine ⟨by simp,rfl,?_,?_,by simp,by simp only [gc];rw [hq2];exact ⟨hr0,hv0⟩,hbt,hr'⟩
   ·rw [hw];simp;omega
   ·rw [hw];simp;omega
  rw [← hq1] at hbit;have hoj:Rg.On C2.b (B5 j):=by rw [hj];exact B4 C2 hP _
  have ejR:jR j=j:=mo_en j
  have htw:B5 (Bl (jR j))=smul (2*(AI (AA xs off n) / 2^(c+1))) p:=by
   rw [ejR,Qz C2 hoj,hj,← It C2 hP,my]
  have hd:=cI (AI (AA xs off n)) c
  rcases ke (AI (AA xs off n) / 2^c) with h0 | h1
  ·refine Ae ee (Ag RD AB (AaF ..) (hconds false [] (by rw [hbit,h0];rfl) trivial) (dU ..) hb ft fun _=>?_)
   rw [hnext];refine ih _ ?_ dl
   rw [htw,hd,h0];rfl
  ·refine Ae dx (Ag RD AB (AaG ..) (hconds true _ (by rw [hbit,h1];rfl) ⟨JS (Bl (jR j)).z,JS (L7 p),JS (JP p),trivial⟩) (dU ..) hb ft fun _=>?_)
   rw [hnext];refine ih _ ?_ dl
   unfold cJ;rw [mo_en,Tw C2 (by rw [htw];exact B4 C2 hP _),htw,hd,h1]
   cases p with
   | inf=>cases hI
   | pt a b =>
    show add _ (.pt (mo (en a)) (mo (en b)))=_;rw [mo_en,mo_en];rfl
end
theorem AG7 {β:Env} {q:P2} {u:Value} (h:AL β (vmV q) u):AL β (JT q 0) u:=by
 cases q with
 | inf=>exact AGu h
 | pt a b =>
  have:=uP (JS a) (JS b) h
  have e:(mo ((en a,en b,false):R P2):P2)=.pt a b:=mo_en (.pt a b:P2)
  rw [e] at this;exact this
theorem AaK (r:R P2):EJ (mo r:P2)=r.2.2:=by
 obtain ⟨a,b,i⟩:=r;cases i<;>rfl
theorem AaL {off n m:Nat} {xs:dp} (hall:∀ d∈xs,0≤d∧d<18446744073709551616) (hlen:off+n≤xs.length) (hn:n≤1125899906842624) (r:R P2) :
  Ac dn 186 (PJ r off n m) (A8 xs) 1 [] (JT (EN (AI (AA xs off n)) (mo r)) (E0 (mo r))) []:=by
 have e1:=AaC r off n m xs;have e2:=AaD r off n m xs;have e3:=AaE r off n m xs;have hpi:=AaK r;cases ho:A9 (mo r) with
 | false =>
  unfold EN E0;rw [fv (by rw [ho];exact gn),fv (by rw [ho];exact gn)]
  exact BA (Ay (path:=dw) Tryz.func186 dk dk fun β0 w0 hb =>
   Av RD AB Tryz.func186 e2 ⟨by rw [ho];rfl,trivial⟩ (AQ dk) hb ft) fun β u hu=>PS hu
 | true =>
  have hP:=(KZ _).1 ho
  unfold EN E0;rw [fw ho,fw ho];cases hI:r.2.2 with
  | true =>
   rw [hI] at hpi;have hp:(mo r:P2)=.inf:=by
    generalize (mo r:P2)=p at *
    cases p with | inf=>rfl | pt a b=>cases hpi
   rw [hp,GV];exact BA (Ay (path:=dz) Tryz.func186 dk dk fun β0 w0 hb =>
    Av RD AB Tryz.func186 e3 ⟨by rw [ho];rfl,hI,trivial⟩ (AQ dk) hb ft) fun β u hu=>AG7 (q:=.inf) hu
  | false =>
   rw [hI] at hpi;refine BA (Ay (path:=d_) Tryz.func186 dk dk fun β0 w0 hb=>?_) fun β u hu=>AG7 hu
   refine Ag RD AB e1 ⟨by rw [ho];rfl,hI,Lx hn,trivial⟩ (AQ dk) hb ft fun _=>?_
   have e4:wI (wI (64*(n:Int))-1)=((64*n:Nat):Int)-1:=by
    rw [Ao (z:=64*(n:Int)) dl,Ao dl];omega
   rw [e4];refine bJ AF1 (AaJ hall hlen hn hP hpi hb (64*n) ⟨0,0,0⟩ ?_ (gd _))
   rw [F_ rfl,jf (XU hall hlen)];rfl
noncomputable def SQ3:dt:=(186,DP (cL P2 fun l r=>JT (EN (AI l) (mo r)) (E0 (mo r))))::SQ2
theorem AG8:AT dn SQ3:=⟨D6 (AF3 Tryz.func186 dk dk (fun _ _=>by kernel_rfl) fun _ _ _ _ r hx hl hn=>AaL hx hl hn r),dS⟩
noncomputable abbrev oQ4:Orc:=AG SQ3 KQ
theorem dV:OrcOk dn oQ4:=AH AG8 DJ
noncomputable def uZ (r:R FP2) (off n m:Nat):List AV:=[va FP2 r,AP 0 off n m]
noncomputable def AaM:List Item:=Bv (AW dn oQ4 (some 0) 100 1 none (Ah Tryz.f238 (uZ (en (0:FP2)) 0 0 0) (A8 []) 1 []))
noncomputable def RE (off n m:Nat) (xs:dp) (x:R FP2) (v:List Ch) (i:Int) (p:List Bool):ASt:=⟨AaM,⟨DT Tryz.f238.ntmps [(1,AP 0 off n m),(2,.val false [.p 1 0]),(4,.val false [.p 2 0]),(5,.val false [.p 3 0]),(6,iA i)],
 [(0,some (Am [.seq .u64 xs])),(1,some ⟨68,av x,false⟩),(2,some ⟨68,RB,false⟩),(3,some ⟨68,v,false⟩)],4,p⟩⟩
abbrev u5:Option (List Nat×List Nat×Nat):=some ([1,2,4,5,6],[0,1,2,3],4)
theorem AaN (x:R FP2) (off n m:Nat) (xs:dp):AW dn oQ4 (some 0) 100 1 u5 (Ah Tryz.f238 (uZ x off n m) (A8 xs) 1 [])=some ([(AJ .i64 n,true)],[],RE off n m xs x (UL 1) (wI (wI (64*(n:Int))-1)) []):=dk
section
variable (off n m:Nat) (xs:dp) (x v:R FP2) (i:Int)
theorem AaO:AW dn oQ4 (some 0) 100 1 u5 (RE off n m xs x (av v) i dx)=some (KU off n xs i true,[],RE off n m xs x (av (mu FP2 (mu FP2 v v) x)) (wI (i-1)) []):=dk
theorem AaP:AW dn oQ4 (some 0) 100 1 u5 (RE off n m xs x (av v) i ee)=some (KU off n xs i false,[],RE off n m xs x (av (mu FP2 v v)) (wI (i-1)) []):=dk
theorem AaQ:AR dn oQ4 Tryz.f238 100 1 [] (RE off n m xs x (av v) i du)=some ([(decide (0≤i),false)],[],va FP2 v,[]):=dk
end
theorem AaR (β:Env) (l:List Value) (h:AO β (UL 1) l):AO β (av (en (1:FP2):R FP2)) l:=Sh.rd_ok (r:=(en (1:FP2):R FP2)) (by kernel_rfl:rd (UL 1)=some (en (1:FP2):R FP2)) h
theorem pw2 (a:FP2) (k:Nat):pw a k*pw a k=pw a (k+k):=(Qu a k k).symm
theorem AaT {off n m:Nat} {xs:dp} (hall:∀ d∈xs,0≤d∧d<18446744073709551616) (hlen:off+n≤xs.length) (hn:n≤1125899906842624) (x:R FP2) :
  Ac dn 238 (uZ x off n m) (A8 xs) 1 [] (ve (pw (mo x:FP2) (AI (AA xs off n)))) []:=by
 refine Ay (path:=[]) Tryz.func238 dk dk fun β0 w0 hb=>?_
 refine Ag dV AB (AaN x off n m xs) ⟨Lx hn,trivial⟩ (AQ dk) hb ft fun _=>?_
 generalize hE:AI (AA xs off n)=E at *
 have loop:∀ c,c≤64*n→ASafe dn 238 β0 w0 (A4 β0 w0 [] (ve (pw (mo x:FP2) E)) []) Tryz.f238.ntmps [] (RE off n m xs x (av (en (pw (mo x:FP2) (E / 2^c)):R FP2)) ((c:Int)-1) []):=by
  intro c;induction c with
  | zero =>
   intro _;have h:=Av (w0:=w0) (W:=[]) (n:=Tryz.f238.ntmps) dV AB Tryz.func238 (AaQ off n m xs x (en (pw (mo x:FP2) E)) (((0:Nat):Int)-1)) ⟨rfl,trivial⟩ (AQ dk) hb ft
   rw [ia,ig];exact Ae du h
  | succ c ih =>
   intro hc;have hi:((c+1:Nat):Int)-1=(c:Int):=dl
   rw [hi];obtain ⟨hw,hjn,hv0,hr0,hbit⟩:=XT (off:=off) hall hn (c:=c) dl
   obtain ⟨hq1,hq2⟩:=W2 xs off c;rw [← hq1,hE] at hbit;have hnext:wI ((c:Int)-1)=(c:Int)-1:=Ao dl
   have hconds:∀ bit,decide (KT xs off c=1)=bit→AM (KU off n xs c bit):=by
    intro bit hbt;refine ⟨by simp,rfl,?_,?_,by simp,by simp only [gc];rw [hq2];exact ⟨hr0,hv0⟩,hbt,trivial⟩
    ·rw [hw];simp;omega
    ·rw [hw];simp;omega
   have hd:=cI E c;have ihc:=ih dl;have e1:mu FP2 (en (pw (mo x:FP2) (E / 2^(c+1)))) (en (pw (mo x:FP2) (E / 2^(c+1))))=(en (pw (mo x:FP2) (2*(E / 2^(c+1)))):R FP2):=by
    unfold mu;rw [mo_en,pw2,my]
   rcases ke (E / 2^c) with h0 | h1
   ·refine Ae ee (Ag dV AB (AaP ..) (hconds false (by rw [hbit,h0];rfl)) (AQ dk) hb ft fun _=>?_)
    rw [hnext,e1,show 2*(E / 2^(c+1))=E / 2^c by omega]
    exact ihc
   ·have e2:mu FP2 (en (pw (mo x:FP2) (2*(E / 2^(c+1))))) x=(en (pw (mo x:FP2) (2*(E / 2^(c+1))+1)):R FP2):=by
     unfold mu;rw [mo_en];rfl
    refine Ae dx (Ag dV AB (AaO ..) (hconds true (by rw [hbit,h1];rfl)) (AQ dk) hb ft fun _=>?_)
    rw [hnext,e1,e2,show 2*(E / 2^(c+1))+1=E / 2^c by omega]
    exact ihc
 have h0:=loop (64*n) (gd _)
 have hl:=XU hall hlen;rw [hE] at hl;rw [jf hl] at h0;have e3:wI (wI (64*(n:Int))-1)=((64*n:Nat):Int)-1:=by
  rw [Ao (z:=64*(n:Int)) dl,Ao dl];omega
 rw [e3];refine NE ?_ h0
 exact ⟨rfl,rfl,rfl,fun β l h=>h,rfl,rfl,rfl,fun β l h=>h,rfl,rfl,rfl,fun β l h=>h,rfl,rfl,rfl,fun β l h=>AaR β l h,trivial⟩
noncomputable def Xj (α:Type) [Sh α] (g:R α→dp→AV):ASpec:=fun args H fr path =>
 match args with
 | [.val true a,S]=>match DB S with
  | some (k,off,n)=>match (rd a:Option (R α)),AF H k with
   | some r,some ⟨_,cs,_⟩=>match Az .u64 cs with
    | some xs=>some (BI [k] 1 fr 0 [] (g r (AA xs off n)) [] [(Nat.ble (off+n) xs.length,true),(Nat.ble n 1125899906842624,true)] path)
    | none=>none
   | _,_=>none
  | none=>none
 | _=>none
theorem u6 {α:Type} [Sh α] {f:FuncId} {fn:Func} {g:R α→dp→AV} (hfn:dn.funcs[f]? = some fn) (hb:fn.body.isSome=true) (hname:(fn.name=="runtime.NumGoroutine")=false) (hk:∀ r l,D5 1 0 [] (g r l) []=true)
  (h:∀ (off n m:Nat) (xs:dp) (r:R α),(∀ d∈xs,0≤d∧d<18446744073709551616)→off+n≤xs.length→n≤1125899906842624→Ac dn f [va α r,AP 0 off n m] (A8 xs) 1 [] (g r (AA xs off n)) []):A' dn f (Xj α g):=by
 refine DC hfn hb hname fun args H fr path r hs=>?_
 unfold Xj at hs;split at hs;case h_2=>cases hs
 rename_i a S;split at hs;case h_2=>cases hs
 rename_i k off n hS;split at hs;case h_2=>cases hs
 rename_i q ty cs o hx hk';split at hs;case h_2=>cases hs
 rename_i xs hxs;injection hs with hs;refine ⟨[k],1,0,[],_,_,_,path,hs.symm,fun β us w ha hg hc=>?_⟩
 obtain ⟨u1,us1,r1,⟨u2,us2,r2,ha,rfl⟩,rfl⟩:=ha;obtain ⟨m,r2⟩:=EU hS r2;obtain ⟨g1,g2,g3⟩:=Lk hg hk' hxs;exact ⟨[va α q,AP 0 off n m],A8 xs,h off n m xs q g1 (f_ hc.1) (f_ hc.2.1),hk _ _,⟨u1,_,FG hx r1,⟨u2,us2,CJ dl rfl r2,ha,rfl⟩,rfl⟩,g2,g3⟩
theorem AG9 (a:FP2) (k:Nat):∃ y,y=pw a k:=⟨_,rfl⟩
noncomputable def UM (a:FP2) (k:Nat):FP2:=Classical.choose (AG9 a k)
theorem dW (a:FP2) (k:Nat):UM a k=pw a k:=ij (AG9 a k)
noncomputable def SQ4:dt:=(238,Xj FP2 fun r l=>ve (UM (mo r:FP2) (AI l)))::SQ3
theorem AG_:AT dn SQ4:=⟨u6 Tryz.func238 dk dk (fun _ _=>by kernel_rfl) fun _ _ _ _ r hx hl hn=>by rw [dW];exact AaT hx hl hn r,AG8⟩
noncomputable abbrev oQ5:Orc:=AG SQ4 KQ
theorem u7:OrcOk dn oQ5:=AH AG_ DJ
noncomputable def SQ5:dt:=(239,A5 dn oQ5 Tryz.f239 100)::(240,A5 dn oQ5 Tryz.f240 100)::(212,A5 dn oQ5 Tryz.f212 100)::SQ4
theorem AG':AT dn SQ5:=⟨A7 u7 AB Tryz.func239 dk dk 100,A7 u7 AB Tryz.func240 dk dk 100,A7 u7 AB Tryz.func212 dk dk 100,AG_⟩
noncomputable abbrev oQ6:Orc:=AG SQ5 KQ
theorem AaU:OrcOk dn oQ6:=AH AG' DJ
noncomputable def SQ6:dt:=(151,A5 dn oQ6 Tryz.f151 300)::SQ5
theorem AHA:AT dn SQ6:=⟨A7 AaU AB Tryz.func151 dk dk 300,AG'⟩
noncomputable abbrev oQ7:Orc:=AG SQ6 KQ
theorem ME:OrcOk dn oQ7:=AH AHA DJ
def Xk:dp:=AA RL 0 4
theorem AHB:AI Xk=rN:=tJ
section
variable (r:R P2) (x y:Nat) (i:Bool)
theorem AaV:AK dn oQ7 Tryz.f120 [va P2 r] dw 500=some (tt 4 [(decide (E0 (mo r)=0),true)],Au (en (EN (AI Xk) (mo r)):R P2).2.2):=dk
theorem AaW:AK dn oQ7 Tryz.f120 [va P2 r] du 500=some (tt 4 [(decide (E0 (mo r)=0),false)],.val false [.b false]):=dk
theorem AaX:AK dn oQ7 Tryz.f72 [Bj x y i] dw 500=some (tt 4 [(decide (Gu (Aj x y i)=0),true)],Au (BE (GZ (AI Xk) (Aj x y i)))):=dk
theorem AaY:AK dn oQ7 Tryz.f72 [Bj x y i] du 500=some (tt 4 [(decide (Gu (Aj x y i)=0),false)],.val false [.b false]):=dk
end
theorem AaZ (r:R P2):AS dn 120 [va P2 r] (Au (CK (mo r))):=by
 have h1:=AaV r;have h2:=AaW r;generalize (mo r:P2)=p at *
 unfold CK;cases ho:A9 p with
 | true =>
  have e:en (EN (AI Xk) p)=(en (smul rN p):R P2):=by unfold EN;rw [fw ho,AHB]
  rw [e] at h1;exact AN ME AB Tryz.func120 h1 (Ad 4 ⟨by unfold E0;rw [fw ho];rfl,trivial⟩) rfl
 | false=>exact CW (AN ME AB Tryz.func120 h2 (Ad 4 ⟨by unfold E0;rw [fv (by rw [ho];exact gn)];rfl,trivial⟩) rfl) fun u hu=>In rfl hu
theorem Aaa (x y:Nat) (i:Bool):AS dn 72 [Bj x y i] (Au (BM (Aj x y i))):=by
 have h1:=AaX x y i;have h2:=AaY x y i;generalize Aj x y i=p at *
 unfold BM;cases ho:A6 p with
 | true =>
  have e:GZ (AI Xk) p=smul rN p:=by unfold GZ;rw [fw ho,AHB]
  rw [e] at h1;exact AN ME AB Tryz.func72 h1 (Ad 4 ⟨by unfold Gu;rw [fw ho];rfl,trivial⟩) rfl
 | false=>exact CW (AN ME AB Tryz.func72 h2 (Ad 4 ⟨by unfold Gu;rw [fv (by rw [ho];exact gn)];rfl,trivial⟩) rfl) fun u hu=>In rfl hu
def lwL:dp:=[0xee7fbfffffffeaaa,0x7aaffffac54ffff,0xd9cc34a83dac3d89,0xd91dd2e13ce144af,0x92c6e9ed90d2eb35,0x680447a8e5ff9a6]
def u9:dp:=[0xdcff7fffffffd555,0xf55ffff58a9ffff,0xb39869507b587b12,0xb23ba5c279c2895f,0x258dd3db21a5d66b,0xd0088f51cbff34d]
theorem Aab:AI (AA lwL 0 6)=(pN-3) / 4:=dk
theorem Aac:AI (AA u9 0 6)=(pN-1) / 2:=dk
noncomputable def gF (r:R FP2):R FP2:=en (UM (mo r:FP2) (AI (AA lwL 0 6)))
noncomputable def RF (r:R FP2):R FP2:=mu FP2 (gF r) r
noncomputable def RG (r:R FP2):R FP2:=mu FP2 (gF r) (RF r)
def vA:R FP2:=((0:Nat),(1:Nat))
section
variable (r:R FP2)
theorem Aad:AK dn oQ7 Tryz.f182 [va FP2 r] dw 500=some (tt 2 [(B9 (RG r) (ng FP2 (kk 1)),true)],va FP2 (mu FP2 (RF r) vA)):=dk
theorem Aae:AK dn oQ7 Tryz.f182 [va FP2 r] du 500=some (tt 2 ((B9 (RG r) (ng FP2 (kk 1)),false)::tt 2 []),va FP2 (mu FP2 (en (UM (mo (ad FP2 (kk 1) (RG r)):FP2) (AI (AA u9 0 6)))) (RF r))):=dk
theorem Aaf:AK dn oQ7 Tryz.f184 [va FP2 r] dw 300=some ([(dq (re FP r.1) 0,true)],DA (EI r.2)):=dk
theorem Aag:AK dn oQ7 Tryz.f184 [va FP2 r] du 300=some ([(dq (re FP r.1) 0,false)],DA (EI r.1)):=dk
theorem Aah:AK dn oQ7 Tryz.f117 [va FP2 r] dw 300=some ([(dq (re FP r.2) 0,true)],Au (BG r.1)):=dk
theorem Aai:AK dn oQ7 Tryz.f117 [va FP2 r] du 300=some ([(dq (re FP r.2) 0,false)],Au (BG r.2)):=dk
end
theorem AHD:(mo (kk 1):FP2)=1:=Qx.ext DS tf_zero
theorem Aaj:(mo vA:FP2)=uu:=Qx.ext tf_zero DS
theorem AHE (r:R FP2):gF r=en (NV (mo r:FP2)):=by unfold gF NV;rw [Aab,dW]
theorem vB (r:R FP2):RF r=en (EM (mo r:FP2)):=by unfold RF EM;rw [AHE];unfold mu;rw [mo_en]
theorem AHF (r:R FP2):RG r=en (Cp (mo r:FP2)):=by unfold RG Cp;rw [AHE,vB];unfold mu;rw [mo_en,mo_en]
theorem Aak:ng FP2 (kk 1)=(en (-1:FP2):R FP2):=by unfold ng;rw [AHD]
theorem AHG (a:FP2):∃ y,y=GB a:=⟨_,rfl⟩
noncomputable def dZ (a:FP2):FP2:=Classical.choose (AHG a)
theorem AHH (a:FP2):dZ a=GB a:=ij (AHG a)
theorem Aal (r:R FP2):AS dn 182 [va FP2 r] (ve (dZ (mo r:FP2))):=by
 rw [AHH];have h1:=Aad r;have h2:=Aae r;have ec:B9 (RG r) (ng FP2 (kk 1))=decide (Cp (mo r:FP2)=-1):=by rw [AHF,Aak];exact Q5 _ _
 rw [ec] at h1 h2;unfold GB;by_cases h:Cp (mo r:FP2)=-1
 ·rw [fw h];have e:mu FP2 (RF r) vA=(en (EM (mo r:FP2)*uu):R FP2):=by rw [vB];unfold mu;rw [mo_en,Aaj]
  rw [e] at h1;exact AN ME AB Tryz.func182 h1 (Ad 2 ⟨fu h,trivial⟩) rfl
 ·rw [fv h];have e:mu FP2 (en (UM (mo (ad FP2 (kk 1) (RG r)):FP2) (AI (AA u9 0 6)))) (RF r)=(en (pw (1+Cp (mo r:FP2)) ((pN-1) / 2)*EM (mo r:FP2)):R FP2):=by
   rw [vB,AHF,Aac,dW];unfold mu ad;rw [mo_en,mo_en,mo_en,AHD,mo_en]
  rw [e] at h2;exact AN ME AB Tryz.func182 h2 (Ad 2 ⟨ga h,Ad 2 trivial⟩) rfl
theorem Aam (r:R FP2):AS dn 184 [va FP2 r] (DA (Bt (mo r))):=by
 have e:dq (re FP r.1) 0=decide ((mo r:FP2).a=0):=MA (mo r:FP2).a 0
 have h1:=Aaf r;have h2:=Aag r;rw [AGn] at h1 h2;unfold Bt Co;by_cases h:(mo r:FP2).a=0
 ·rw [fw h];exact AN ME AB Tryz.func184 h1 ⟨by rw [e];exact fu h,trivial⟩ rfl
 ·rw [fv h];exact AN ME AB Tryz.func184 h2 ⟨by rw [e];exact ga h,trivial⟩ rfl
theorem Aan (r:R FP2):AS dn 117 [va FP2 r] (Au (DW (mo r))):=by
 have e:dq (re FP r.2) 0=decide ((mo r:FP2).b=0):=MA (mo r:FP2).b 0
 have h1:=Aah r;have h2:=Aai r;unfold DW;by_cases h:(mo r:FP2).b=0
 ·rw [fw h];rw [show BG r.1=BG (mo r:FP2).a.val from cN _] at h1
  exact AN ME AB Tryz.func117 h1 ⟨by rw [e];exact fu h,trivial⟩ rfl
 ·rw [fv h];rw [show BG r.2=BG (mo r:FP2).b.val from cN _] at h2
  exact AN ME AB Tryz.func117 h2 ⟨by rw [e];exact ga h,trivial⟩ rfl
noncomputable def SQ7:dt:=(72,AZ (NK fun p=>Au (BM p)))::(120,AZ (BR P2 fun r=>Au (CK (mo r))))::(182,AZ (BR FP2 fun r=>ve (dZ (mo r:FP2))))::(184,AZ (BR FP2 fun r=>DA (Bt (mo r))))::(117,AZ (BR FP2 fun r=>Au (DW (mo r))))::SQ6
theorem AHI:AT dn SQ7:=⟨Aa Tryz.func72 dk dk (Q0 Aaa),Aa Tryz.func120 dk dk (BW AaZ),Aa Tryz.func182 dk dk (BW Aal),Aa Tryz.func184 dk dk (BW Aam),Aa Tryz.func117 dk dk (BW Aan),AHA⟩
noncomputable abbrev oQ8:Orc:=AG SQ7 KQ
theorem vC:OrcOk dn oQ8:=AH AHI DJ
noncomputable def rR (r:R FP2):R FP2:=en (dZ (mo r:FP2))
section
variable (r:R FP2)
theorem Aao:AK dn oQ8 Tryz.f115 [va FP2 r] dw 500=some ([(!B9 (mu FP2 (rR r) (rR r)) (re FP2 r),true)],dM):=dk
theorem Aap:AK dn oQ8 Tryz.f115 [va FP2 r] dz 500=some ([(!B9 (mu FP2 (rR r) (rR r)) (re FP2 r),false),(decide (Bt (mo (rR r))=1),true)],.tup [(true,av (ng FP2 (rR r))),(false,[.b true])]):=dk
theorem Aaq:AK dn oQ8 Tryz.f115 [va FP2 r] d_ 500=some ([(!B9 (mu FP2 (rR r) (rR r)) (re FP2 r),false),(decide (Bt (mo (rR r))=1),false)],.tup [(true,av (rR r)),(false,[.b true])]):=dk
end
theorem Aar (r:R FP2):AS dn 115 [va FP2 r] (Nm (mo r)):=by
 have h1:=Aao r;have h2:=Aap r;have h3:=Aaq r;unfold rR at h1 h2 h3;rw [AHH] at h1 h2 h3;have e:re FP2 r=en (mo r:FP2):=rfl
 rw [e] at h1 h2 h3;generalize (mo r:FP2)=a at *
 rw [Xg] at h1 h2 h3;rw [uL] at h2 h3;rw [uK] at h2;by_cases h:GB a*GB a=a
 ·obtain ⟨q1,q2⟩:=AWI h;have ht:(!decide (GB a*GB a=a))=false:=by rw [fu h];rfl
  unfold Nm;rw [← q1,q2];unfold JR;cases hs:Co (GB a) with
  | true =>
   rw [fw rfl];exact CW (AN vC AB Tryz.func115 h2 ⟨ht,hs,trivial⟩ rfl) fun u q=>CZ (fun _ q=>q) (fun _ q=>Xh rfl q) q
  | false =>
   rw [fv gn];exact CW (AN vC AB Tryz.func115 h3 ⟨ht,hs,trivial⟩ rfl) fun u q=>CZ (fun _ q=>q) (fun _ q=>Xh rfl q) q
 ·exact CW (AN vC AB Tryz.func115 h1 ⟨by rw [ga h];rfl,trivial⟩ rfl) fun u q=>uN (AWJ h) q
noncomputable def SQ8:dt:=(115,AZ (BR FP2 fun r=>Nm (mo r)))::SQ7
theorem Aas:AT dn SQ8:=⟨Aa Tryz.func115 dk dk (BW Aar),AHI⟩
noncomputable def SQ9:dt:=SQ8
theorem Aat:AT dn SQ9:=Aas
noncomputable def SQe:dt:=SQ9
theorem UN:AT dn SQe:=Aat
noncomputable abbrev oQe:Orc:=AG SQe KQ
theorem HV:OrcOk dn oQe:=AH UN DJ
abbrev ef:List Bool:=[false,false,false,false]
open Ex Num Rg
set_option maxRecDepth 100000
set_option maxHeartbeats 4000000
noncomputable abbrev qrF:Func:=Tryz.f65
def qA (n m:Nat) (k:Int) (s:Bool):List AV:=[AP 0 0 n m,.val false [.n .i64 k],.val false [.b s]]
noncomputable def MF (xs:dp) (n m:Nat) (k:Int) (s:Bool) (p:List Bool):ASt:=Ah qrF (qA n m k s) [(0,some (Am [.seq .u8 xs]))] 1 p
def K4 (e:Int) (i:Bool):AV:=.tup [(false,[.v (.slice none 0 0)]),(false,[.b false]),(false,[.b i]),(false,[.n .i64 e])]
def PT (e:Int):AV:=.tup [(false,[.v (.slice none 0 0)]),(false,[.b false]),(false,[.v (.bool (decide (e=0)))]),(false,[.v (.int .i64 e)])]
def Nq (k:Nat) (big:Bool):AV:=.tup [(false,[.sx (2+3*k) k 6]),(false,[.v (.bool big)]),(false,[.b false]),(false,[.n .i64 0])]
theorem Aau {β β':Env} {g1 g2 g3 g4:Bool} {a a' b b' c c' d d':List Ch} {u:Value} (h1:∀ v,Bi β g1 a v→Bi β' g1 a' v) (h2:∀ v,Bi β g2 b v→Bi β' g2 b' v) (h3:∀ v,Bi β g3 c v→Bi β' g3 c' v) (h4:∀ v,Bi β g4 d v→Bi β' g4 d' v) (h:AL β (.tup [(g1,a),(g2,b),(g3,c),(g4,d)]) u):AL β' (.tup [(g1,a'),(g2,b'),(g3,c'),(g4,d')]) u:=by
 obtain ⟨us,⟨u1,l1,q1,⟨u2,l2,q2,⟨u3,l3,q3,⟨u4,l4,q4,q5,q6⟩,q7⟩,q8⟩,q9⟩,q10⟩:=h;exact ⟨us,⟨u1,l1,h1 _ q1,⟨u2,l2,h2 _ q2,⟨u3,l3,h3 _ q3,⟨u4,l4,h4 _ q4,q5,q6⟩,q7⟩,q8⟩,q9⟩,q10⟩
theorem MG {e e':Int} {i:Bool} (he:e=e') (hi:i=decide (e'=0)):∀ (β:Env) (u:Value),AL β (K4 e i) u→AL β (PT e') u:=fun β u h=>by
 subst he;exact Aau (fun _ q=>q) (fun _ q=>q) (fun _ q=>Xh hi q) (fun _ q=>D8 rfl q) h
noncomputable def Aav:List Item:=Bv (AW dn oQe (some 0) 800 1 none (MF [] 48 48 1 true eg))
noncomputable def Nr (xs ls:dp) (n:Nat) (big:Bool) (i:Int) (p:List Bool):ASt:=⟨Aav,⟨DT qrF.ntmps [(10,.val false [.v (.bool big)]),(11,.val false [.sx 2 n 1]),(12,.val false [.n .i64 i])],c8 xs ls,3,p⟩⟩
noncomputable def Aaw:List Item:=Bv (AW dn oQe (some 0) 800 1 none (MF [] 48 48 1 true ef))
noncomputable def Aax (k:Int) (big:Bool):List AV:=[.any,.val false [.n .i64 k],.any,.any,.any,.any,.any,.any,.any,.any,.val false [.v (.bool big)]]
noncomputable def Aay:List AV:=.any::.val false [.v (.slice none 0 0)]::.val false [.n .i64 0]::List.replicate (qrF.ntmps-15) AV.any
noncomputable def Jn (xs ls:dp) (k:Int) (big:Bool) (i:AV) (p:List Bool):ASt:=⟨Aaw,⟨Aax k big++i::Aay,c8 xs ls,3,p⟩⟩
abbrev vD:Option (List Nat×List Nat×Nat):=some ([10,11,12],[0,2],3)
abbrev qK2:Option (List Nat×List Nat×Nat):=some ([1,10,11,13,14],[0,2],3)
def RJ (xs:dp) (s b:Bool) (r:dr):dr:=(true,true)::(false,false)::(true,true)::(decide (0<xs.length),true)::(true,true)::(decide (0<xs.length),true)::(!(Ai xs 128==s),b)::r
def Xl (xs:dp) (n m:Nat) (c:Bool) (r:dr):dr:=(true,true)::(decide (0<xs.length),true)::(true,true)::(Nat.beq m 1,false)::(true,true)::(Nat.ble n xs.length,true)::(true,true)::(true,true)::(decide (0<xs.length),true)::(Ai xs 64,c)::r
def PU (C lo hi:Nat) (ls:dp) (e:Bool) (r:dr):dr:=(decide ((0:Int)≤(hi:Int)∧(hi:Int)≤(C:Int)),true)::(true,true)::(Nat.beq C lo,false)::(Nat.ble hi ls.length,true)::(true,true)::(!decide (HP 48 (B_ ls lo)=0),e)::r
section
variable (xs ls:dp) (n m C:Nat) (i:Int) (big:Bool)
def vE (r:dr):dr:=(AJ .i64 n,true)::(decide (i<n),true)::(decide (0≤i∧i<n),true)::(decide (0+i.toNat*1<ls.length),true)::r
theorem Aaz:AW dn oQe (some 0) 800 1 vD (Nr xs ls n big i eq)=some (vE ls n i [(!decide (ls.getD (0+i.toNat*1) 0=0),false),(big,false)],[],Nr xs ls n big (AU true .i64 (i+1)) []):=dk
theorem Aa0:AR dn oQe qrF 800 1 [] (Nr xs ls n big i du)=some ([(AJ .i64 n,true),(decide (i<n),false)],[],K4 0 true,[]):=dk
theorem Aa1:AR dn oQe qrF 800 1 [] (Nr xs ls n big i dx)=some (vE ls n i [(!decide (ls.getD (0+i.toNat*1) 0=0),true)],[],K4 202 false,[]):=dk
theorem Aa2:AR dn oQe qrF 800 1 [] (Nr xs ls n big i ep)=some (vE ls n i [(!decide (ls.getD (0+i.toNat*1) 0=0),false),(big,true)],[],K4 202 false,[]):=dk
theorem Aa3:AR dn oQe qrF 800 1 [] (MF xs n m 1 true dw)=some ([(AJ .i64 n,true),(!decide ((n:Int)=48),true)],[],K4 200 false,[]):=dk
theorem Aa4:AR dn oQe qrF 800 1 [] (MF xs 48 m 1 true dz)=some (RJ xs true true [],[],K4 201 false,[]):=dk
theorem Aa5:AW dn oQe (some 0) 800 1 vD (MF xs 48 m 1 true eg)=some (RJ xs true false ((Xl xs 48 m true [])),[],Nr xs (Bw xs 47) 48 (Ai xs 32) 0 []):=dk
theorem AHK:AW dn oQe (some 0) 800 1 qK2 (MF xs 48 m 1 true ef)=some (RJ xs true false ((Xl xs 48 m false [])),[],Jn xs (Bw xs 47) 1 (Ai xs 32) (.val false [.sx 2 48 1]) []):=dk
theorem Aa6:AR dn oQe qrF 800 1 [] (MF xs n m 2 true dw)=some ([(AJ .i64 n,true),(!decide ((n:Int)=96),true)],[],K4 200 false,[]):=dk
theorem Aa7:AR dn oQe qrF 800 1 [] (MF xs 96 m 2 true dz)=some (RJ xs true true [],[],K4 201 false,[]):=dk
theorem Aa8:AW dn oQe (some 0) 800 1 vD (MF xs 96 m 2 true eg)=some (RJ xs true false ((Xl xs 96 m true [])),[],Nr xs (Bw xs 95) 96 (Ai xs 32) 0 []):=dk
theorem AHL:AW dn oQe (some 0) 800 1 qK2 (MF xs 96 m 2 true ef)=some (RJ xs true false ((Xl xs 96 m false [])),[],Jn xs (Bw xs 95) 2 (Ai xs 32) (.val false [.sx 2 96 1]) []):=dk
theorem Aa9:AR dn oQe qrF 800 1 [5] (Jn xs ls 1 big (.val false [.sl 2 0 48 C]) d_)=some (PU C 0 48 ls false ((true,true)::[]),[],Nq 1 big,E4 1 [.num 6 (F8 48 (B_ ls 0))]):=dk
theorem Aa_:AR dn oQe qrF 800 1 [] (Jn xs ls 1 big (.val false [.sl 2 0 48 C]) dz)=some (PU C 0 48 ls true [],[],K4 203 false,[]):=dk
theorem Aa':AR dn oQe qrF 800 1 [8] (Jn xs ls 2 big (.val false [.sl 2 0 96 C]) ef)=some (PU C 0 48 ls false ((true,true)::PU C 48 96 ls false ((true,true)::[])),[],Nq 2 big,E4 2 [.num 6 (F8 48 (B_ ls 0)),.num 6 (F8 48 (B_ ls 48))]):=dk
theorem AbA:AR dn oQe qrF 800 1 [] (Jn xs ls 2 big (.val false [.sl 2 0 96 C]) dz)=some (PU C 0 48 ls true [],[],K4 203 false,[]):=dk
theorem AbB:AR dn oQe qrF 800 1 [] (Jn xs ls 2 big (.val false [.sl 2 0 96 C]) eg)=some (PU C 0 48 ls false ((true,true)::PU C 48 96 ls true []),[],K4 203 false,[]):=dk
end
theorem d6 (xs ls:dp) (n:Nat) (big:Bool) (i:Int) (p:List Bool):BO qrF.ntmps (Nr xs ls n big i p).s:=AQ dk
theorem Xm (xs ls:dp) (K:Int) (big:Bool) (k n C:Nat) (p:List Bool):BO qrF.ntmps (Jn xs ls K big (.val false [.sl k 0 n C]) p).s:=AQ dk
section
variable {xs ls:dp} {n:Nat} {big:Bool} (hl:ls.length=n) (hn:0<n) (hm:n≤1000) {β0:Env} {w0:World} (hb:∀ b,1≤b→β0 b=none)
include hl hn hm hb
theorem AHM:∀ c i:Nat,i+c=n→(∀ j,j<i→ls.getD j 0=0)→(0<i→big=false)→ASafe dn 65 β0 w0 (A4 β0 w0 [] (PT (GD ls big)) []) qrF.ntmps [] (Nr xs ls n big (i:Nat) []):=by
 have hB:AJ .i64 (n:Int)=true:=by simp only [AJ,gi,gc];omega
 intro c;induction c with
 | zero =>
  intro i hi hz hbig;have hin:i=n:=dl
  subst hin;have e:GD ls big=0:=by
   unfold GD Kt;rw [AGV hl hz,hbig hn];rfl
  rw [e];exact Ae du (Hu (Av HV AB Tryz.func65 (Aa0 xs ls i (i:Nat) big) ⟨hB,ga dl,trivial⟩ (d6 ..) hb ft) (MG rfl rfl))
 | succ c ih =>
  intro i hi hz hbig;have c1:decide (((i:Nat):Int)<(n:Int))=true:=fu dl
  have c2:decide (0≤((i:Nat):Int)∧((i:Nat):Int)<(n:Int))=true:=fu dl
  have c3:decide (0+((i:Nat):Int).toNat*1<ls.length)=true:=fu dl
  have ei:0+((i:Nat):Int).toNat*1=i:=dl
  by_cases h0:ls.getD i 0=0
  ·have z:(!decide (ls.getD (0+((i:Nat):Int).toNat*1) 0=0))=false:=by rw [ei,fu h0];rfl
   cases hq:big with
   | true =>
    have e:GD ls big=202:=by
     unfold GD Kt;rw [hq,lw,kc,fv gn]
    rw [← hq,e];exact Ae ep (Hu (Av HV AB Tryz.func65 (Aa2 xs ls n (i:Nat) big) ⟨hB,c1,c2,c3,z,hq,trivial⟩ (d6 ..) hb ft) (MG rfl rfl))
   | false =>
    rw [← hq];refine Ae eq (Ag HV AB (Aaz xs ls n (i:Nat) big) ⟨hB,c1,c2,c3,z,hq,trivial⟩ (d6 ..) hb ft fun _=>?_)
    rw [Wg true dl,show ((i:Nat):Int)+1=((i+1:Nat):Int) from rfl]
    refine ih (i+1) dl (fun j hj=>?_) (fun _=>hq)
    rcases gt j i with q | q
    ·exact hz j q
    ·rw [show j=i by omega];exact h0
  ·have e:GD ls big=202:=by
    unfold GD Kt;cases ha:ls.all (fun d=>decide (d=0)) with
    | true=>exact absurd (AGW dl ha) h0
    | false=>rw [kr,fv gn]
   rw [e];exact Ae dx (Hu (Av HV AB Tryz.func65 (Aa1 xs ls n (i:Nat) big) ⟨hB,c1,c2,c3,by rw [ei,ga h0];rfl,trivial⟩ (d6 ..) hb ft) (MG rfl rfl))
end
theorem AHN {C lo:Nat} (h:lo<C):Nat.beq C lo=false:=by
 cases hq:Nat.beq C lo with
 | false=>rfl
 | true=>have:=jv hq;omega
theorem RK {C lo hi:Nat} {ls:dp} {e:Bool} {r:dr} (h1:lo<hi) (h2:hi≤C) (h3:hi≤ls.length) (h4:(!decide (HP 48 (B_ ls lo)=0))=e) (hr:AM r):AM (PU C lo hi ls e r) :=
 ⟨fu ⟨dl,dl⟩,rfl,AHN dl,gb h3,rfl,h4,hr⟩
section
variable {xs ls:dp} {big:Bool} {C:Nat} {β0:Env} {w0:World} (hb:∀ b,1≤b→β0 b=none)
include hb
theorem AbC (hC:48≤C) (hl:ls.length=48) (h0:B_ ls 0<pN):ASafe dn 65 β0 w0 (A4 β0 w0 [] (Nq 1 big) (E4 1 (H6 ls 1))) qrF.ntmps [] (Jn xs ls 1 big (.val false [.sl 2 0 48 C]) []):=by
 have t:=Aa9 xs ls C big;rw [Ng h0] at t;exact Ae d_ (Av HV AB Tryz.func65 t (RK dm dl dl (Ku h0) ⟨rfl,trivial⟩) (Xm ..) hb ft)
theorem AbD (hC:48≤C) (hl:ls.length=48) (h:Eo ls 1=false):ASafe dn 65 β0 w0 (A4 β0 w0 [] (PT 203) []) qrF.ntmps [] (Jn xs ls 1 big (.val false [.sl 2 0 48 C]) []):=by
 by_cases h0:B_ ls 0<pN;case neg=>exact Ae dz (Hu (Av HV AB Tryz.func65 (Aa_ xs ls C big) (RK dm dl dl (UI h0) trivial) (Xm ..) hb ft) (MG rfl rfl))
 have:Eo ls 1=true:=by
  show (decide (B_ ls 0<pN)&&true)=true;rw [fu h0];rfl
 rw [this] at h;cases h
theorem AbE (hC:96≤C) (hl:ls.length=96) (h0:B_ ls 0<pN) (h1:B_ ls 48<pN):ASafe dn 65 β0 w0 (A4 β0 w0 [] (Nq 2 big) (E4 2 (H6 ls 2))) qrF.ntmps [] (Jn xs ls 2 big (.val false [.sl 2 0 96 C]) []):=by
 have t:=Aa' xs ls C big;rw [Ng h0,Ng h1] at t;exact Ae ef (Av HV AB Tryz.func65 t (RK dm dl dl (Ku h0) ⟨rfl,RK dm dl dl (Ku h1) ⟨rfl,trivial⟩⟩) (Xm ..) hb ft)
theorem AbF (hC:96≤C) (hl:ls.length=96) (h:Eo ls 2=false):ASafe dn 65 β0 w0 (A4 β0 w0 [] (PT 203) []) qrF.ntmps [] (Jn xs ls 2 big (.val false [.sl 2 0 96 C]) []):=by
 by_cases h0:B_ ls 0<pN;case neg=>exact Ae dz (Hu (Av HV AB Tryz.func65 (AbA xs ls C big) (RK dm dl dl (UI h0) trivial) (Xm ..) hb ft) (MG rfl rfl))
 by_cases h1:B_ ls 48<pN;case neg=>exact Ae eg (Hu (Av HV AB Tryz.func65 (AbB xs ls C big) (RK dm dl dl (Ku h0) ⟨rfl,RK dm dl dl (UI h1) trivial⟩) (Xm ..) hb ft) (MG rfl rfl))
 have:Eo ls 2=true:=by
  show (decide (B_ ls 0<pN)&&(decide (B_ ls 48<pN)&&true))=true;rw [fu h0,fu h1];rfl
 rw [this] at h;cases h
end
theorem PV {xs:dp} {s b:Bool} {r:dr} (h:0<xs.length) (hs:(!(Ai xs 128==s))=b) (hr:AM r):AM (RJ xs s b r):=by
 have e:=fu h;exact ⟨rfl,rfl,rfl,e,rfl,e,hs,hr⟩
theorem UO {xs:dp} {n m:Nat} {c:Bool} {r:dr} (h:0<xs.length) (hn:n≤xs.length) (hm:1<m) (h2:Ai xs 64=c) (hr:AM r):AM (Xl xs n m c r) :=
 ⟨rfl,fu h,rfl,AHN hm,rfl,gb hn,rfl,rfl,fu h,h2,hr⟩
theorem AbG {xs:dp} {n m:Nat} (hl:n≤xs.length) (hm:n≤m) (hn:AJ .i64 n=true) (hr:BS 1 true (AA xs 0 n)=false):Ac dn 65 (qA n m 1 true) (Ax xs) 1 [] (PT (BL 1 true (AA xs 0 n))) []:=by
 by_cases hk:n=48;case neg =>
  have e:BL 1 true (AA xs 0 n)=200:=by unfold BL;rw [JW hl,fw hk]
  rw [e];exact BA (BV UN DJ Tryz.func65 dk dk (Aa3 xs n m) dk ⟨hn,by rw [ga dl];rfl,trivial⟩) (MG rfl rfl)
 subst hk;have hx:0<xs.length:=dl
 have hw:=JW hl;have er:=PN (xs:=xs) (n:=48) dm
 have elen:=Nh (xs:=xs) (k:=47) dl
 unfold BL BS at *
 rw [C4 dm,C4 dm,C4 dm,er,hw,fu rfl,jc] at hr;rw [C4 dm,C4 dm,C4 dm,er,hw,fv (fun h=>h rfl)]
 by_cases f1:Ai xs 128=true;case neg =>
  rw [fw f1];exact BA (BV UN DJ Tryz.func65 dk dk (Aa4 xs m) dk (PV hx (by cases hq:Ai xs 128<;>first | rfl | exact absurd hq f1) trivial)) (MG rfl rfl)
 rw [fv (fun h=>h f1)]
 rw [fu f1,jc] at hr;have p0:(!(Ai xs 128==true))=false:=by rw [f1];rfl
 rw [fv (fun h=>by rw [lw,kc] at h;cases h)]
 rw [lw,kc,nz,jc] at hr;cases f3:Ai xs 64 with
 | true =>
  rw [fw rfl];refine Ay (path:=eg) Tryz.func65 dk dk fun β0 w0 hb=>?_
  exact Ag HV AB (Aa5 xs m) (PV hx p0 (UO hx hl dl f3 trivial)) (AQ dk) hb ft fun _=>AHM elen dm dm hb 48 0 dm (fun j hj=>absurd hj (ld j)) (fun h=>absurd h (nj 0))
 | false =>
  rw [f3] at hr;have hr':Eo (Bw xs 47) 1=false:=hr
  rw [fv gn,fv (by rw [hr'];exact gn)]
  refine Ay (path:=ef) Tryz.func65 dk dk fun β0 w0 hb=>?_
  exact Ag HV AB (AHK xs m) (PV hx p0 (UO hx hl dl f3 trivial)) (AQ dk) hb ft fun _=>JV fun C hC=>AbD hb hC elen hr'
theorem AbH {xs:dp} {n m:Nat} (hl:n≤xs.length) (hm:n≤m) (hr:BS 1 true (AA xs 0 n)=true):Ac dn 65 (qA n m 1 true) (Ax xs) 1 [] (Nq 1 (Ai (AA xs 0 n) 32)) (E4 1 (H6 (Bw (AA xs 0 n) 47) 1)):=by
 unfold BS at hr;simp only [gi,gc] at hr;obtain ⟨hk,f1,f2,f3,h4⟩:=hr;rw [JW hl] at hk;have hk':n=48:=hk
 subst hk';have hx:0<xs.length:=dl
 have er:=PN (xs:=xs) (n:=48) dm
 have elen:=Nh (xs:=xs) (k:=47) dl
 rw [C4 dm] at f1 f2 f3;rw [er] at h4;rw [C4 dm,er];have p0:(!(Ai xs 128==true))=false:=by rw [f1];rfl
 have f3':Ai xs 64=false:=by cases hq:Ai xs 64 with | false=>rfl | true=>rw [hq] at f3;cases f3
 refine Ay (path:=ef) Tryz.func65 dk dk fun β0 w0 hb=>?_
 exact Ag HV AB (AHK xs m) (PV hx p0 (UO hx hl dl f3' trivial)) (AQ dk) hb ft fun _=>JV fun C hC=>AbC hb hC elen (MD h4 0 dm)
theorem AbI {xs:dp} {n m:Nat} (hl:n≤xs.length) (hm:n≤m) (hn:AJ .i64 n=true) (hr:BS 2 true (AA xs 0 n)=false):Ac dn 65 (qA n m 2 true) (Ax xs) 1 [] (PT (BL 2 true (AA xs 0 n))) []:=by
 by_cases hk:n=96;case neg =>
  have e:BL 2 true (AA xs 0 n)=200:=by unfold BL;rw [JW hl,fw hk]
  rw [e];exact BA (BV UN DJ Tryz.func65 dk dk (Aa6 xs n m) dk ⟨hn,by rw [ga dl];rfl,trivial⟩) (MG rfl rfl)
 subst hk;have hx:0<xs.length:=dl
 have hw:=JW hl;have er:=PN (xs:=xs) (n:=96) dm
 have elen:=Nh (xs:=xs) (k:=95) dl
 unfold BL BS at *
 rw [C4 dm,C4 dm,C4 dm,er,hw,fu rfl,jc] at hr;rw [C4 dm,C4 dm,C4 dm,er,hw,fv (fun h=>h rfl)]
 by_cases f1:Ai xs 128=true;case neg =>
  rw [fw f1];exact BA (BV UN DJ Tryz.func65 dk dk (Aa7 xs m) dk (PV hx (by cases hq:Ai xs 128<;>first | rfl | exact absurd hq f1) trivial)) (MG rfl rfl)
 rw [fv (fun h=>h f1)]
 rw [fu f1,jc] at hr;have p0:(!(Ai xs 128==true))=false:=by rw [f1];rfl
 rw [fv (fun h=>by rw [lw,kc] at h;cases h)]
 rw [lw,kc,nz,jc] at hr;cases f3:Ai xs 64 with
 | true =>
  rw [fw rfl];refine Ay (path:=eg) Tryz.func65 dk dk fun β0 w0 hb=>?_
  exact Ag HV AB (Aa8 xs m) (PV hx p0 (UO hx hl dl f3 trivial)) (AQ dk) hb ft fun _=>AHM elen dm dm hb 96 0 dm (fun j hj=>absurd hj (ld j)) (fun h=>absurd h (nj 0))
 | false =>
  rw [f3] at hr;have hr':Eo (Bw xs 95) 2=false:=hr
  rw [fv gn,fv (by rw [hr'];exact gn)]
  refine Ay (path:=ef) Tryz.func65 dk dk fun β0 w0 hb=>?_
  exact Ag HV AB (AHL xs m) (PV hx p0 (UO hx hl dl f3 trivial)) (AQ dk) hb ft fun _=>JV fun C hC=>AbF hb hC elen hr'
theorem AbJ {xs:dp} {n m:Nat} (hl:n≤xs.length) (hm:n≤m) (hr:BS 2 true (AA xs 0 n)=true):Ac dn 65 (qA n m 2 true) (Ax xs) 1 [] (Nq 2 (Ai (AA xs 0 n) 32)) (E4 2 (H6 (Bw (AA xs 0 n) 95) 2)):=by
 unfold BS at hr;simp only [gi,gc] at hr;obtain ⟨hk,f1,f2,f3,h4⟩:=hr;rw [JW hl] at hk;have hk':n=96:=hk
 subst hk';have hx:0<xs.length:=dl
 have er:=PN (xs:=xs) (n:=96) dm
 have elen:=Nh (xs:=xs) (k:=95) dl
 rw [C4 dm] at f1 f2 f3;rw [er] at h4;rw [C4 dm,er];have p0:(!(Ai xs 128==true))=false:=by rw [f1];rfl
 have f3':Ai xs 64=false:=by cases hq:Ai xs 64 with | false=>rfl | true=>rw [hq] at f3;cases f3
 refine Ay (path:=ef) Tryz.func65 dk dk fun β0 w0 hb=>?_
 exact Ag HV AB (AHL xs m) (PV hx p0 (UO hx hl dl f3' trivial)) (AQ dk) hb ft fun _=>JV fun C hC=>AbE hb hC elen (MD h4 0 dm) (MD h4 1 dm)
def RM (k:Int) (s:Bool):Option Nat:=if k=1 then (match s with | true=>some 1 | false=>none) else if k=2 then (match s with | true=>some 2 | false=>none) else none
theorem AbK {k:Int} {s:Bool} {K:Nat} (hK:RM k s=some K) {xs:dp} {n m:Nat} (hl:n≤xs.length) (hm:n≤m) (hn:AJ .i64 n=true) (hr:BS K s (AA xs 0 n)=false):Ac dn 65 (qA n m k s) (Ax xs) 1 [] (PT (BL K s (AA xs 0 n))) []:=by
 unfold RM at hK;split at hK
 ·rename_i e;subst e;cases s
  ·cases hK
  ·injection hK with hK;subst hK;exact AbG hl hm hn hr
 ·split at hK
  ·rename_i e;subst e;cases s
   ·cases hK
   ·injection hK with hK;subst hK;exact AbI hl hm hn hr
  ·cases hK
theorem AbL {k:Int} {s:Bool} {K:Nat} (hK:RM k s=some K) {xs:dp} {n m:Nat} (hl:n≤xs.length) (hm:n≤m) (hr:BS K s (AA xs 0 n)=true):Ac dn 65 (qA n m k s) (Ax xs) 1 [] (Nq K (Ai (AA xs 0 n) 32)) (E4 K (H6 (Bw (AA xs 0 n) (48*K-1)) K)):=by
 unfold RM at hK;split at hK
 ·rename_i e;subst e;cases s
  ·cases hK
  ·injection hK with hK;subst hK;exact AbH hl hm hr
 ·split at hK
  ·rename_i e;subst e;cases s
   ·cases hK
   ·injection hK with hK;subst hK;exact AbJ hl hm hr
  ·cases hK
theorem AbM {k:Int} {s:Bool} {K:Nat} (hK:RM k s=some K):K=1∨K=2:=by
 unfold RM at hK;split at hK
 ·cases s
  ·cases hK
  ·injection hK with hK;omega
 ·split at hK
  ·cases s
   ·cases hK
   ·injection hK with hK;omega
  ·cases hK
theorem AbN {K:Nat} (h:K=1∨K=2) (b:Bool) (l:dp):D5 1 (3*K+2) [] (Nq K b) (E4 K (H6 l K))=true:=by
 rcases h with rfl | rfl<;>kernel_rfl
noncomputable def rqSp:ASpec:=fun args H fr path=>match args with
 | [S,.val false [.n .i64 h],B]=>match H8 S,E8 (some B) with
  | some (k,n,m),some (_,s)=>match AF H k,RM h s with
   | some ⟨_,cs,_⟩,some K=>match Az .u8 cs,path with
    | some xs,true::rest=>some (BI [k] 1 fr 0 [] (PT (BL K s (AA xs 0 n))) [] (dD n m xs (BS K s (AA xs 0 n)) false) rest)
    | some xs,false::rest=>some (BI [k] 1 fr (3*K+2) [] (Nq K (Ai (AA xs 0 n) 32)) (E4 K (H6 (Bw (AA xs 0 n) (48*K-1)) K)) (dD n m xs (BS K s (AA xs 0 n)) true) rest)
    | _,_=>none
   | _,_=>none
  | _,_=>none
 | _=>none
theorem AbO:A' dn 65 rqSp:=by
 refine DC Tryz.func65 dk dk fun args H fr path r hs=>?_
 unfold rqSp at hs;split at hs;case h_2=>cases hs
 rename_i S h B;split at hs;case h_2=>cases hs
 rename_i k n m c s hS hB;split at hs;case h_2=>cases hs
 rename_i ty cs o K hk' hK;split at hs;case h_3=>cases hs
 all_goals
  rename_i xs rest hxs;injection hs with hs
 ·refine ⟨[k],1,0,[],_,_,_,rest,hs.symm,fun β us w ha hg hc=>?_⟩
  obtain ⟨u1,us1,r1,⟨u2,us2,r2,⟨u3,us3,r3,ha,rfl⟩,rfl⟩,rfl⟩:=ha;obtain ⟨hl,hm,hn,hr,_⟩:=hc;obtain ⟨m',hm',r1⟩:=JY hS (f_ hm) r1
  obtain ⟨g1,g2,g3⟩:=ED hg hk' hxs;exact ⟨qA n m' h s,Ax xs,AbK hK (f_ hl) hm' hn hr,dk,⟨u1,_,CJ dl rfl r1,⟨u2,_,r2,⟨u3,us3,Q8 hB r3,ha,rfl⟩,rfl⟩,rfl⟩,g2,g3⟩
 ·refine ⟨[k],1,3*K+2,[],_,_,_,rest,hs.symm,fun β us w ha hg hc=>?_⟩
  obtain ⟨u1,us1,r1,⟨u2,us2,r2,⟨u3,us3,r3,ha,rfl⟩,rfl⟩,rfl⟩:=ha;obtain ⟨hl,hm,hn,hr,_⟩:=hc;obtain ⟨m',hm',r1⟩:=JY hS (f_ hm) r1
  obtain ⟨g1,g2,g3⟩:=ED hg hk' hxs;exact ⟨qA n m' h s,Ax xs,AbL hK (f_ hl) hm' hr,AbN (AbM hK) _ _,⟨u1,_,CJ dl rfl r1,⟨u2,_,r2,⟨u3,us3,Q8 hB r3,ha,rfl⟩,rfl⟩,rfl⟩,g2,g3⟩
noncomputable def SQf:dt:=(65,rqSp)::SQe
theorem Iy:AT dn SQf:=⟨AbO,UN⟩
noncomputable abbrev EF:Orc:=AG SQf KQ
open Ex Num Rg
open Sh (R av rd mo en mo_en)
noncomputable def Xn (x:Nat):Bool:=CL (ad FP (mu FP (mu FP x x) x) (4:Nat))
noncomputable def Xo (x:R FP2):Bool:=CN (mo (ad FP2 (mu FP2 (mu FP2 x x) x) ((4:Nat),(4:Nat))))
def vF (b:Bool):List Ch:=[.n .u64 0,.n .u64 0,.n .u64 0,.n .u64 0,.n .u64 0,.n .u64 0,.n .u64 0,.n .u64 0,.n .u64 0,.n .u64 0,.n .u64 0,.n .u64 0,.v (.bool b)]
def UP (b:Bool):List Ch:=List.replicate 24 (.n .u64 0)++[.v (.bool b)]
section
variable (n m:Nat) (xs:dp)
noncomputable def Jo (s:Bool) (p:List Bool):ASt:=Ah Tryz.f29 (H9 n m s) (Ax xs) 1 p
noncomputable def Jp (s:Bool) (p:List Bool):ASt:=Ah Tryz.f53 (H9 n m s) (Ax xs) 1 p
theorem AbP:AR dn EF Tryz.f29 800 1 [] (Jo n m xs true dx)=some (Gy n m xs (BS 1 true (AA xs 0 n)) false [(!decide (BL 1 true (AA xs 0 n)=0),true)],[],.tup [(true,vF (decide (BL 1 true (AA xs 0 n)=0))),(false,[.v (.int .i64 (BL 1 true (AA xs 0 n)))])],[]):=dk
theorem AbQ:AR dn EF Tryz.f29 800 1 [] (Jo n m xs true ep)=some (Gy n m xs (BS 1 true (AA xs 0 n)) false [(!decide (BL 1 true (AA xs 0 n)=0),false),(decide (BL 1 true (AA xs 0 n)=0),true)],[],.tup [(true,vF (decide (BL 1 true (AA xs 0 n)=0))),(false,[.v (.int .i64 (BL 1 true (AA xs 0 n)))])],[]):=dk
noncomputable def Ns (b:Bool) (r:dr):dr:=Gy n m xs (BS 1 true (AA xs 0 n)) true (tt 1 ((!Xn (xN 1 0 (AA xs 0 n)),b)::r))
theorem AbR:AR dn EF Tryz.f29 800 1 [] (Jo n m xs true dz)=some (Ns n m xs true [],[],dE 204,[]):=dk
theorem AbS:AR dn EF Tryz.f29 800 1 [] (Jo n m xs true fj)=some (Ns n m xs false ([(!(BG (yR (xN 1 0 (AA xs 0 n)))==Ai (AA xs 0 n) 32),true),(!A6 (Aj (xN 1 0 (AA xs 0 n)) (ng FP (yR (xN 1 0 (AA xs 0 n)))) false),true)]),[],dE 204,[]):=dk
theorem AbT:AR dn EF Tryz.f29 800 1 [] (Jo n m xs true fh)=some (Ns n m xs false ([(!(BG (yR (xN 1 0 (AA xs 0 n)))==Ai (AA xs 0 n) 32),true),(!A6 (Aj (xN 1 0 (AA xs 0 n)) (ng FP (yR (xN 1 0 (AA xs 0 n)))) false),false),(!BM (Aj (xN 1 0 (AA xs 0 n)) (ng FP (yR (xN 1 0 (AA xs 0 n)))) false),true)]),[],dE 205,[]):=dk
theorem AbU:AR dn EF Tryz.f29 800 1 [] (Jo n m xs true ff)=some (Ns n m xs false ([(!(BG (yR (xN 1 0 (AA xs 0 n)))==Ai (AA xs 0 n) 32),true),(!A6 (Aj (xN 1 0 (AA xs 0 n)) (ng FP (yR (xN 1 0 (AA xs 0 n)))) false),false),(!BM (Aj (xN 1 0 (AA xs 0 n)) (ng FP (yR (xN 1 0 (AA xs 0 n)))) false),false)]),[],dP (xN 1 0 (AA xs 0 n)) (ng FP (yR (xN 1 0 (AA xs 0 n)))),[]):=dk
theorem AbV:AR dn EF Tryz.f29 800 1 [] (Jo n m xs true eg)=some (Ns n m xs false ([(!(BG (yR (xN 1 0 (AA xs 0 n)))==Ai (AA xs 0 n) 32),false),(!A6 (Aj (xN 1 0 (AA xs 0 n)) (yR (xN 1 0 (AA xs 0 n))) false),true)]),[],dE 204,[]):=dk
theorem AbW:AR dn EF Tryz.f29 800 1 [] (Jo n m xs true fe)=some (Ns n m xs false ([(!(BG (yR (xN 1 0 (AA xs 0 n)))==Ai (AA xs 0 n) 32),false),(!A6 (Aj (xN 1 0 (AA xs 0 n)) (yR (xN 1 0 (AA xs 0 n))) false),false),(!BM (Aj (xN 1 0 (AA xs 0 n)) (yR (xN 1 0 (AA xs 0 n))) false),true)]),[],dE 205,[]):=dk
theorem AbX:AR dn EF Tryz.f29 800 1 [] (Jo n m xs true fa)=some (Ns n m xs false ([(!(BG (yR (xN 1 0 (AA xs 0 n)))==Ai (AA xs 0 n) 32),false),(!A6 (Aj (xN 1 0 (AA xs 0 n)) (yR (xN 1 0 (AA xs 0 n))) false),false),(!BM (Aj (xN 1 0 (AA xs 0 n)) (yR (xN 1 0 (AA xs 0 n))) false),false)]),[],dP (xN 1 0 (AA xs 0 n)) (yR (xN 1 0 (AA xs 0 n))),[]):=dk
theorem AbY:AR dn EF Tryz.f53 800 1 [] (Jp n m xs true dx)=some (Gy n m xs (BS 2 true (AA xs 0 n)) false [(!decide (BL 2 true (AA xs 0 n)=0),true)],[],.tup [(true,UP (decide (BL 2 true (AA xs 0 n)=0))),(false,[.v (.int .i64 (BL 2 true (AA xs 0 n)))])],[]):=dk
theorem AbZ:AR dn EF Tryz.f53 800 1 [] (Jp n m xs true ep)=some (Gy n m xs (BS 2 true (AA xs 0 n)) false [(!decide (BL 2 true (AA xs 0 n)=0),false),(decide (BL 2 true (AA xs 0 n)=0),true)],[],.tup [(true,UP (decide (BL 2 true (AA xs 0 n)=0))),(false,[.v (.int .i64 (BL 2 true (AA xs 0 n)))])],[]):=dk
noncomputable def Nt (b:Bool) (r:dr):dr:=Gy n m xs (BS 2 true (AA xs 0 n)) true (tt 2 ((!Xo (x2 2 (AA xs 0 n)),b)::r))
theorem Aba:AR dn EF Tryz.f53 800 1 [] (Jp n m xs true dz)=some (Nt n m xs true [],[],Gz 204,[]):=dk
theorem Abb:AR dn EF Tryz.f53 800 1 [] (Jp n m xs true fj)=some (Nt n m xs false ([(!(DW (mo (Bx (x2 2 (AA xs 0 n))))==Ai (AA xs 0 n) 32),true),(!A9 (mo ((x2 2 (AA xs 0 n)),(ng FP2 (Bx (x2 2 (AA xs 0 n)))),false):P2),true)]),[],Gz 204,[]):=dk
theorem Abc:AR dn EF Tryz.f53 800 1 [] (Jp n m xs true fh)=some (Nt n m xs false ([(!(DW (mo (Bx (x2 2 (AA xs 0 n))))==Ai (AA xs 0 n) 32),true),(!A9 (mo ((x2 2 (AA xs 0 n)),(ng FP2 (Bx (x2 2 (AA xs 0 n)))),false):P2),false),(!CK (mo ((x2 2 (AA xs 0 n)),(ng FP2 (Bx (x2 2 (AA xs 0 n)))),false):P2),true)]),[],Gz 205,[]):=dk
theorem Abd:AR dn EF Tryz.f53 800 1 [] (Jp n m xs true ff)=some (Nt n m xs false ([(!(DW (mo (Bx (x2 2 (AA xs 0 n))))==Ai (AA xs 0 n) 32),true),(!A9 (mo ((x2 2 (AA xs 0 n)),(ng FP2 (Bx (x2 2 (AA xs 0 n)))),false):P2),false),(!CK (mo ((x2 2 (AA xs 0 n)),(ng FP2 (Bx (x2 2 (AA xs 0 n)))),false):P2),false)]),[],Nn (x2 2 (AA xs 0 n)) (ng FP2 (Bx (x2 2 (AA xs 0 n)))),[]):=dk
theorem Abe:AR dn EF Tryz.f53 800 1 [] (Jp n m xs true eg)=some (Nt n m xs false ([(!(DW (mo (Bx (x2 2 (AA xs 0 n))))==Ai (AA xs 0 n) 32),false),(!A9 (mo ((x2 2 (AA xs 0 n)),(Bx (x2 2 (AA xs 0 n))),false):P2),true)]),[],Gz 204,[]):=dk
theorem Abf:AR dn EF Tryz.f53 800 1 [] (Jp n m xs true fe)=some (Nt n m xs false ([(!(DW (mo (Bx (x2 2 (AA xs 0 n))))==Ai (AA xs 0 n) 32),false),(!A9 (mo ((x2 2 (AA xs 0 n)),(Bx (x2 2 (AA xs 0 n))),false):P2),false),(!CK (mo ((x2 2 (AA xs 0 n)),(Bx (x2 2 (AA xs 0 n))),false):P2),true)]),[],Gz 205,[]):=dk
theorem Abg:AR dn EF Tryz.f53 800 1 [] (Jp n m xs true fa)=some (Nt n m xs false ([(!(DW (mo (Bx (x2 2 (AA xs 0 n))))==Ai (AA xs 0 n) 32),false),(!A9 (mo ((x2 2 (AA xs 0 n)),(Bx (x2 2 (AA xs 0 n))),false):P2),false),(!CK (mo ((x2 2 (AA xs 0 n)),(Bx (x2 2 (AA xs 0 n))),false):P2),false)]),[],Nn (x2 2 (AA xs 0 n)) (Bx (x2 2 (AA xs 0 n))),[]):=dk
end
theorem Abh {x:Nat} (h:Xn x=false) (c:Bool):A6 (Aj x (yB x c) false)=false:=by
 cases ho:A6 (Aj x (yB x c) false) with
 | false=>rfl
 | true =>
  have hq:tf (yB x c)*tf (yB x c)=tf x*tf x*tf x+DL:=(KX _).1 ho
  have h2:=L8 hq;unfold Xn at h;rw [(AGj x).2,h2] at h;cases h
theorem Abi {x:R FP2} (h:Xo x=false) (c:Bool):A9 (mo (x,JZ x c,false))=false:=by
 cases ho:A9 (mo (x,JZ x c,false)) with
 | false=>rfl
 | true =>
  have hq:(mo (JZ x c):FP2)*mo (JZ x c)=mo x*mo x*mo x+JQ:=(KZ _).1 ho
  have e:(mo (ad FP2 (mu FP2 (mu FP2 x x) x) ((4:Nat),(4:Nat))):FP2)=mo x*mo x*mo x+JQ:=by
   unfold ad mu;rw [mo_en,mo_en,mo_en];rfl
  have h2:=H3.2 ⟨_,hq⟩
  unfold Xo at h;rw [e,h2] at h;cases h
theorem AHO {β:Env} {e:Int} {q:Pt FP} {b:Bool} (hb:b=BE q) (h0:DV q=0) (h1:B8 q=0) {u:Value} (h:AL β (.tup [(true,vF b),(false,[.v (.int .i64 e)])]) u):AL β (Er (q,e)) u:=by
 subst hb;have e1:Er (q,e)=.tup [(true,[.num 6 0,.num 6 0,.v (.bool (BE q))]),(false,[.v (.int .i64 e)])]:=by
  show L6 q e=_;unfold L6;rw [h0,h1]
 rw [e1];exact CZ (fun _ q=>(HT (x:=0) (y:=0) dk q).1) (fun _ q=>q) h
theorem AHP {β:Env} {e:Int} {q:P2} {b:Bool} (hq:(rd (UP b):Option (R P2))=some (en q)) {u:Value} (h:AL β (.tup [(true,UP b),(false,[.v (.int .i64 e)])]) u):AL β (Fw (q,e)) u :=
 CZ (fun _ ⟨l,q,e⟩=>⟨l,Sh.rd_ok (α:=P2) hq q,e⟩) (fun _ q=>q) h
theorem Abj:(rd (UP true):Option (R P2))=some (en (.inf:P2)):=dk
theorem Abk:(rd (UP false):Option (R P2))=some (en (.pt 0 0:P2)):=dk
theorem AHQ {n m:Nat} {xs:dp} {s:Bool} {x y:Nat} (hx:x<pN) (hy:y<pN) {C:dr→dr} (hC:∀ r,AM r→AM (C r)) {p1 p2 p3:List Bool}
  (h1:AR dn EF Tryz.f29 800 1 [] (Jo n m xs s p1)=some (C [(!A6 (Aj x y false),true)],[],dE 204,[]))
  (h2:AR dn EF Tryz.f29 800 1 [] (Jo n m xs s p2)=some (C [(!A6 (Aj x y false),false),(!BM (Aj x y false),true)],[],dE 205,[]))
  (h3:AR dn EF Tryz.f29 800 1 [] (Jo n m xs s p3)=some (C [(!A6 (Aj x y false),false),(!BM (Aj x y false),false)],[],dP x y,[])) :
  Ac dn 29 (H9 n m s) (Ax xs) 1 [] (Er (PP (Aj x y false))) []:=by
 unfold PP;cases ho:A6 (Aj x y false) with
 | false =>
  rw [fv gn];exact BA (BV Iy DJ Tryz.func29 dk dk h1 dk (hC _ ⟨by rw [ho];rfl,trivial⟩)) fun _ _ q=>Xc q
 | true =>
  rw [fw rfl];cases hi:BM (Aj x y false) with
  | false =>
   rw [fv gn];exact BA (BV Iy DJ Tryz.func29 dk dk h2 dk (hC _ ⟨by rw [ho];rfl,by rw [hi];rfl,trivial⟩)) fun _ _ q=>Xc q
  | true =>
   rw [fw rfl];exact BA (BV Iy DJ Tryz.func29 dk dk h3 dk (hC _ ⟨by rw [ho];rfl,by rw [hi];rfl,trivial⟩)) fun _ _ q=>AGc hx hy q
theorem AHR {n m:Nat} {xs:dp} (hl:n≤xs.length) (hm:n≤m) (hn:AJ .i64 n=true) (s:Bool) (hs1:s=true):Ac dn 29 (H9 n m s) (Ax xs) 1 [] (Er (EQ s (AA xs 0 n))) []:=by
 have hW:∀ (b d:Bool) r,b=d→AM r→AM (Gy n m xs b d r):=fun b d r h hr=>⟨gb hl,gb hm,hn,h,hr⟩
 cases hr:BS (kS s) s (AA xs 0 n) with
 | false =>
  unfold EQ;rw [hr,fv gn];by_cases he:BL (kS s) s (AA xs 0 n)=0
  ·rw [fw he];cases s with
   | true =>
    have t:=AbQ n m xs;have he:BL 1 true (AA xs 0 n)=0:=he
    rw [he] at t;exact BA (BV Iy DJ Tryz.func29 dk dk t dk (hW _ _ _ hr ⟨rfl,rfl,trivial⟩)) fun _ _ q=>AHO (q:=.inf) rfl rfl rfl q
   | false=>cases hs1
  ·rw [fv he];cases s with
   | true =>
    exact BA (BV Iy DJ Tryz.func29 dk dk (AbP n m xs) dk (hW _ _ _ hr ⟨dF he,trivial⟩)) fun _ _ q=>by
     have he:¬ BL 1 true (AA xs 0 n)=0:=he
     rw [ga he] at q;exact AHO (q:=.pt 0 0) rfl rfl rfl q
   | false=>cases hs1
 | true =>
  cases s with
  | true =>
   have hx:=HU hr 0 dm;cases hs:Xn (xN 1 0 (AA xs 0 n)) with
   | false =>
    have ev:EQ true (AA xs 0 n)=(.pt 0 0,204):=by
     unfold EQ;rw [hr,fw rfl];unfold PP;rw [show A6 (Iw true (AA xs 0 n))=false from Abh hs _,fv gn]
    rw [ev];exact BA (BV Iy DJ Tryz.func29 dk dk (AbR n m xs) dk (hW _ _ _ hr (Ad 1 ⟨by rw [hs];rfl,trivial⟩))) fun _ _ q=>Xc q
   | true =>
    unfold EQ;rw [hr,fw rfl];unfold Iw yB;have hs':(!Xn (xN 1 0 (AA xs 0 n)))=false:=by rw [hs];rfl
    by_cases hb:(!(BG (yR (xN 1 0 (AA xs 0 n)))==Ai (AA xs 0 n) 32))=true
    ·simp only [fw hb];exact AHQ hx (uC _) (C:=fun r=>Ns n m xs false ((!(BG (yR (xN 1 0 (AA xs 0 n)))==Ai (AA xs 0 n) 32),true)::r)) (fun r hq=>hW _ _ _ hr (Ad 1 ⟨hs',hb,hq⟩)) (AbS n m xs) (AbT n m xs) (AbU n m xs)
    ·simp only [fv hb];exact AHQ hx (Xd _) (C:=fun r=>Ns n m xs false ((!(BG (yR (xN 1 0 (AA xs 0 n)))==Ai (AA xs 0 n) 32),false)::r)) (fun r hq=>hW _ _ _ hr (Ad 1 ⟨hs',by simpa using hb,hq⟩)) (AbV n m xs) (AbW n m xs) (AbX n m xs)
  | false=>cases hs1
theorem AHS {n m:Nat} {xs:dp} {s:Bool} {x y:R FP2} (hx:CQ x=true) (hy:CQ y=true) {C:dr→dr} (hC:∀ r,AM r→AM (C r)) {p1 p2 p3:List Bool}
  (h1:AR dn EF Tryz.f53 800 1 [] (Jp n m xs s p1)=some (C [(!A9 (mo (x,y,false):P2),true)],[],Gz 204,[]))
  (h2:AR dn EF Tryz.f53 800 1 [] (Jp n m xs s p2)=some (C [(!A9 (mo (x,y,false):P2),false),(!CK (mo (x,y,false):P2),true)],[],Gz 205,[]))
  (h3:AR dn EF Tryz.f53 800 1 [] (Jp n m xs s p3)=some (C [(!A9 (mo (x,y,false):P2),false),(!CK (mo (x,y,false):P2),false)],[],Nn x y,[])) :
  Ac dn 53 (H9 n m s) (Ax xs) 1 [] (Fw (RC (mo (x,y,false):P2))) []:=by
 unfold RC;cases ho:A9 (mo (x,y,false):P2) with
 | false =>
  rw [fv gn];exact BA (BV Iy DJ Tryz.func53 dk dk h1 dk (hC _ ⟨by rw [ho];rfl,trivial⟩)) fun _ _ q=>PS q
 | true =>
  rw [fw rfl];cases hi:CK (mo (x,y,false):P2) with
  | false =>
   rw [fv gn];exact BA (BV Iy DJ Tryz.func53 dk dk h2 dk (hC _ ⟨by rw [ho];rfl,by rw [hi];rfl,trivial⟩)) fun _ _ q=>PS q
  | true =>
   rw [fw rfl];exact BA (BV Iy DJ Tryz.func53 dk dk h3 dk (hC _ ⟨by rw [ho];rfl,by rw [hi];rfl,trivial⟩)) fun _ _ q=>uP hx hy q
theorem AHT {n m:Nat} {xs:dp} (hl:n≤xs.length) (hm:n≤m) (hn:AJ .i64 n=true) (s:Bool) (hs1:s=true):Ac dn 53 (H9 n m s) (Ax xs) 1 [] (Fw (GE s (AA xs 0 n))) []:=by
 have hW:∀ (b d:Bool) r,b=d→AM r→AM (Gy n m xs b d r):=fun b d r h hr=>⟨gb hl,gb hm,hn,h,hr⟩
 cases hr:BS (kT s) s (AA xs 0 n) with
 | false =>
  unfold GE;rw [hr,fv gn];by_cases he:BL (kT s) s (AA xs 0 n)=0
  ·rw [fw he];cases s with
   | true =>
    have t:=AbZ n m xs;have he:BL 2 true (AA xs 0 n)=0:=he
    rw [he] at t;exact BA (BV Iy DJ Tryz.func53 dk dk t dk (hW _ _ _ hr ⟨rfl,rfl,trivial⟩)) fun _ _ q=>AHP (q:=.inf) Abj q
   | false=>cases hs1
  ·rw [fv he];cases s with
   | true =>
    exact BA (BV Iy DJ Tryz.func53 dk dk (AbY n m xs) dk (hW _ _ _ hr ⟨dF he,trivial⟩)) fun _ _ q=>by
     have he:¬ BL 2 true (AA xs 0 n)=0:=he
     rw [ga he] at q;exact AHP (q:=.pt 0 0) Abk q
   | false=>cases hs1
 | true =>
  cases s with
  | true =>
   have hx:=Xi (HU hr 1 dm) (HU hr 0 dm)
   cases hs:Xo (x2 2 (AA xs 0 n)) with
   | false =>
    have ev:GE true (AA xs 0 n)=(.pt 0 0,204):=by
     unfold GE;rw [hr,fw rfl];unfold RC;rw [show A9 (Jj true (AA xs 0 n))=false from Abi hs _,fv gn]
    rw [ev];exact BA (BV Iy DJ Tryz.func53 dk dk (Aba n m xs) dk (hW _ _ _ hr (Ad 2 ⟨by rw [hs];rfl,trivial⟩))) fun _ _ q=>PS q
   | true =>
    unfold GE;rw [hr,fw rfl];unfold Jj JZ;have hs':(!Xo (x2 2 (AA xs 0 n)))=false:=by rw [hs];rfl
    by_cases hb:(!(DW (mo (Bx (x2 2 (AA xs 0 n))))==Ai (AA xs 0 n) 32))=true
    ·simp only [fw hb];exact AHS hx (AGx _) (C:=fun r=>Nt n m xs false ((!(DW (mo (Bx (x2 2 (AA xs 0 n))))==Ai (AA xs 0 n) 32),true)::r)) (fun r hq=>hW _ _ _ hr (Ad 2 ⟨hs',hb,hq⟩)) (Abb n m xs) (Abc n m xs) (Abd n m xs)
    ·simp only [fv hb];exact AHS hx (AGw _) (C:=fun r=>Nt n m xs false ((!(DW (mo (Bx (x2 2 (AA xs 0 n))))==Ai (AA xs 0 n) 32),false)::r)) (fun r hq=>hW _ _ _ hr (Ad 2 ⟨hs',by simpa using hb,hq⟩)) (Abe n m xs) (Abf n m xs) (Abg n m xs)
  | false=>cases hs1
noncomputable def SQg:dt:=(29,Ky fun s L=>Er (EQ s L))::(53,Ky fun s L=>Fw (GE s L))::SQf
theorem AHU:AT dn SQg:=⟨Ni Tryz.func29 dk dk (fun _ _=>by kernel_rfl) fun _ _ _ hl hm hn=>AHR hl hm hn true rfl,Ni Tryz.func53 dk dk (fun _ _=>by kernel_rfl) fun _ _ _ hl hm hn=>AHT hl hm hn true rfl,Iy⟩
noncomputable def SQs:dt:=(249,A5 dn (AG SQ2 KQ) Tryz.f249 300)::SQ2
theorem AHV:AT dn SQs:=⟨A7 (AH dS DJ) AB Tryz.func249 dk dk 300,dS⟩
noncomputable abbrev oQs:Orc:=AG SQs KQ
theorem d7:OrcOk dn oQs:=AH AHV DJ
def e2 (a b:R FP2):Bool:=dq a.1 b.1&&dq a.2 b.2
noncomputable def sC (x y x' y':R FP2):R FP2:=mu FP2 (su FP2 (re FP2 y') (re FP2 y)) (iv FP2 (su FP2 (re FP2 x') (re FP2 x)))
noncomputable def sT (x y:R FP2):R FP2:=mu FP2 (mu FP2 (kk 3) (mu FP2 (re FP2 x) (re FP2 x))) (iv FP2 (mu FP2 (kk 2) (re FP2 y)))
noncomputable def aX (l x x':R FP2):R FP2:=su FP2 (su FP2 (mu FP2 l l) x) x'
noncomputable def aY (l x y X:R FP2):R FP2:=su FP2 (mu FP2 l (su FP2 x X)) y
noncomputable def aP (l x y x':R FP2):R P2:=(aX l x x',aY l x y (aX l x x'),false)
noncomputable def aL (l x y x':R FP2):AV:=.val true (Bh (av (aX l x x')) (Bh (av (aY l x y (aX l x x'))) [.b false]))
section
variable (r s:R P2) (x y x' y':R FP2)
theorem Abl:AK dn oQs Tryz.f191 [va P2 r,va P2 s] dw 300=some ([(r.2.2,true)],ve (mo s:P2)):=dk
theorem Abm:AK dn oQs Tryz.f191 [va P2 r,va P2 s] dz 300=some ([(r.2.2,false),(s.2.2,true)],ve (mo r:P2)):=dk
theorem Abn:AK dn oQs Tryz.f191 [va P2 (x,y,false),va P2 (x',y',false)] fb 300=some ([(false,false),(false,false),(e2 (re FP2 x) (re FP2 x'),false)],aL (sC x y x' y') x y x'):=dk
theorem Abo:AK dn oQs Tryz.f191 [va P2 (x,y,false),va P2 (x',y',false)] fj 300=some ([(false,false),(false,false),(e2 (re FP2 x) (re FP2 x'),true),(!e2 (re FP2 y) (re FP2 y'),true)],.val true (CE true)):=dk
theorem Abp:AK dn oQs Tryz.f191 [va P2 (x,y,false),va P2 (x',y',false)] fh 300=some ([(false,false),(false,false),(e2 (re FP2 x) (re FP2 x'),true),(!e2 (re FP2 y) (re FP2 y'),false),(e2 (re FP2 y) (kk 0),true)],.val true (CE true)):=dk
theorem Abq:AK dn oQs Tryz.f191 [va P2 (x,y,false),va P2 (x',y',false)] ff 300=some ([(false,false),(false,false),(e2 (re FP2 x) (re FP2 x'),true),(!e2 (re FP2 y) (re FP2 y'),false),(e2 (re FP2 y) (kk 0),false)],aL (sT x y) x y x'):=dk
end
theorem d8 (a b:FP2):e2 (en a) (en b)=decide (a=b):=by
 unfold e2;by_cases h:a=b
 ·subst h;rw [fu rfl];exact gk.2 ⟨fu rfl,fu rfl⟩
 ·rw [ga h];cases hq:(dq (en a:R FP2).1 (en b:R FP2).1&&dq (en a:R FP2).2 (en b:R FP2).2) with
  | false=>rfl
  | true =>
   obtain ⟨h1,h2⟩:=gk.1 hq;exact absurd (Qx.ext (Fin.ext (gv h1)) (Fin.ext (gv h2))) h
theorem AHW (l x y x':R FP2):aP l x y x'=en (HQ (mo x:FP2) (mo y) (mo x') (mo l)):=by
 unfold aP aY aX su mu;simp only [mo_en];rfl
theorem vG (x y x' y':R FP2):(mo (sC x y x' y'):FP2)=(mo y'-mo y)*FD.inv (mo x'-mo x):=by
 unfold sC mu su iv re;simp only [mo_en]
theorem Abr (y:FP2):(1+1)*y=y+y:=ring [y] (a:=(1+1)*y) (b:=y+y) dk
theorem AHX (x y:R FP2):(mo (sT x y):FP2)=(mo x*mo x+mo x*mo x+mo x*mo x)*FD.inv (mo y+mo y):=by
 unfold sT mu iv re;simp only [mo_en,AG2,AG3,AG4,Abr];rfl
theorem kk0:kk 0=en (0:FP2):=dk
theorem Abs (r s:R P2):AS dn 191 [va P2 r,va P2 s] (ve (Rg.add (mo r:P2) (mo s))):=by
 have h1:=Abl r s;have h2:=Abm r s;obtain ⟨x,y,i⟩:=r;obtain ⟨x',y',i'⟩:=s;cases i with
 | true=>exact AN d7 AB Tryz.func191 h1 ⟨rfl,trivial⟩ rfl
 | false =>
  cases i' with
  | true=>exact AN d7 AB Tryz.func191 h2 ⟨rfl,rfl,trivial⟩ rfl
  | false =>
   have rc:=Abn x y x' y';have rn:=Abo x y x' y';have rz:=Abp x y x' y';have rt:=Abq x y x' y';have hE:∀ a b:R FP2,e2 (re FP2 a) (re FP2 b)=decide ((mo a:FP2)=mo b):=fun a b=>d8 _ _
   have hK:∀ a:R FP2,e2 (re FP2 a) (kk 0)=decide ((mo a:FP2)=0):=fun a=>by rw [kk0];exact d8 _ _
   simp only [hE,hK] at rc rn rz rt;have hs:∀ {p c} {l:R FP2},AK dn oQs Tryz.f191 [va P2 (x,y,false),va P2 (x',y',false)] p 300=some (c,aL l x y x')→AM c→AS dn 191 [va P2 (x,y,false),va P2 (x',y',false)] (ve (HQ (mo x:FP2) (mo y) (mo x') (mo l))):=fun {_ _ l} h hc=>by
    unfold ve;rw [← AHW];exact EK (α:=P2) (r:=aP l x y x') (AN d7 AB Tryz.func191 h hc rfl) dk
   have hz:∀ {p c},AK dn oQs Tryz.f191 [va P2 (x,y,false),va P2 (x',y',false)] p 300=some (c,.val true (CE true))→AM c→AS dn 191 [va P2 (x,y,false),va P2 (x',y',false)] (ve (.inf:P2)):=fun h hc=>EK (α:=P2) (r:=(en (.inf:P2):R P2)) (AN d7 AB Tryz.func191 h hc rfl) dk
   show AS _ _ _ (ve (Rg.add (.pt (mo x:FP2) (mo y)) (.pt (mo x') (mo y'))));rw [KW];by_cases hx:(mo x:FP2)=mo x'
   ·rw [fw hx];by_cases hy:(mo y:FP2)=mo y'
    ·by_cases h0:(mo y:FP2)=0
     ·rw [fv (fun h=>h.2 h0)]
      exact hz rz ⟨rfl,rfl,fu hx,by rw [fu hy];rfl,fu h0,trivial⟩
     ·rw [fw ⟨hy,h0⟩];rw [← AHX];exact hs rt ⟨rfl,rfl,fu hx,by rw [fu hy];rfl,ga h0,trivial⟩
    ·rw [fv (fun h=>hy h.1)]
     exact hz rn ⟨rfl,rfl,fu hx,by rw [ga hy];rfl,trivial⟩
   ·rw [fv hx];rw [← vG];exact hs rc ⟨rfl,rfl,ga hx,trivial⟩
noncomputable def SQt:dt:=(191,AZ (C_ P2 P2 fun r s=>ve (Rg.add (mo r:P2) (mo s))))::SQs
theorem AHZ:AT dn SQt:=⟨Aa Tryz.func191 dk dk (DI Abs),AHV⟩
end Go.Proofs.YtgnajdcdcblaoaaGreat
namespace Go.Proofs.YtgnajdcdcblaoaaGreat.Rg
set_option synthInstance.maxSize 100000
set_option synthInstance.maxHeartbeats 400000
structure RH {F G:Type} [CR F] [CR G] (σ:F→G):Prop where
 add:∀ x y,σ (x+y)=σ x+σ y
 mul:∀ x y,σ (x*y)=σ x*σ y
 one:σ 1=1
section
variable {F:Type} [CR F] {β ξ:F}
theorem RH.zero {G:Type} [CR G] {σ:F→G} (h:RH σ):σ 0=0:=by
 have e:σ 0+σ 0=σ 0+0:=by rw [← h.add,zero_add,add_zero]
 exact rG e
theorem Qx.conj_rh:RH (Qx.conj:Qx β→Qx β) where
 add _ _:=Qx.ext rfl (W9 _ _)
 mul:=Qx.conj_mul
 one:=Qx.ext rfl GU
theorem Qx.conj_conj (x:Qx β):x.conj.conj=x:=Qx.ext rfl (neg_neg _)
def kM (σ:F→F) (g:F) (x:Kx ξ):Kx ξ:=⟨σ x.a,σ x.b*g,σ x.c*(g*g)⟩
theorem Abt {σ:F→F} {g:F} (h:RH σ) (hg:σ ξ=ξ*(g*(g*g))):RH (kM σ g:Kx ξ→Kx ξ) where
 add x y:=Kx.ext (h.add _ _) (by show σ (x.b+y.b)*g=_;rw [h.add,add_mul];rfl) (by show σ (x.c+y.c)*(g*g)=_;rw [h.add,add_mul];rfl)
 mul x y:=by
  refine Kx.ext ?_ ?_ ?_
  ·show σ (x.a*y.a+ξ*(x.b*y.c+x.c*y.b))=σ x.a*σ y.a+ξ*(σ x.b*g*(σ y.c*(g*g))+σ x.c*(g*g)*(σ y.b*g));simp only [h.add,h.mul,hg];exact ring [σ x.a,σ x.b,σ x.c,σ y.a,σ y.b,σ y.c,g,ξ] dk
  ·show σ (x.a*y.b+x.b*y.a+ξ*(x.c*y.c))*g=σ x.a*(σ y.b*g)+σ x.b*g*σ y.a+ξ*(σ x.c*(g*g)*(σ y.c*(g*g)));simp only [h.add,h.mul,hg];exact ring [σ x.a,σ x.b,σ x.c,σ y.a,σ y.b,σ y.c,g,ξ] dk
  ·show σ (x.a*y.c+x.b*y.b+x.c*y.a)*(g*g)=σ x.a*(σ y.c*(g*g))+σ x.b*g*(σ y.b*g)+σ x.c*(g*g)*σ y.a;simp only [h.add,h.mul];exact ring [σ x.a,σ x.b,σ x.c,σ y.a,σ y.b,σ y.c,g] dk
 one:=Kx.ext h.one (by show σ 0*g=0;rw [h.zero,zero_mul]) (by show σ 0*(g*g)=0;rw [h.zero,zero_mul])
def qM (σ:F→F) (g:F) (x:Qx β):Qx β:=⟨σ x.a,σ x.b*g⟩
theorem Abu {σ:F→F} {g:F} (h:RH σ) (hg:σ β=β*(g*g)):RH (qM σ g:Qx β→Qx β) where
 add x y:=Qx.ext (h.add _ _) (by show σ (x.b+y.b)*g=_;rw [h.add,add_mul];rfl)
 mul x y:=by
  refine Qx.ext ?_ ?_
  ·show σ (x.a*y.a+β*(x.b*y.b))=σ x.a*σ y.a+β*(σ x.b*g*(σ y.b*g));simp only [h.add,h.mul,hg];exact ring [σ x.a,σ x.b,σ y.a,σ y.b,g,β] dk
  ·show σ (x.a*y.b+x.b*y.a)*g=σ x.a*(σ y.b*g)+σ x.b*g*σ y.a;simp only [h.add,h.mul];exact ring [σ x.a,σ x.b,σ y.a,σ y.b,g] dk
 one:=Qx.ext h.one (by show σ 0*g=0;rw [h.zero,zero_mul])
end
structure MH {F:Type} [CR F] (φ:F→F):Prop where
 mul:∀ x y,φ (x*y)=φ x*φ y
 one:φ 1=1
section
variable {F:Type} [CR F] {φ ψ:F→F}
theorem RH.mh (h:RH φ):MH φ:=⟨h.mul,h.one⟩
theorem MH.comp (h:MH φ) (k:MH ψ):MH fun x=>φ (ψ x):=⟨fun x y=>by rw [k.mul,h.mul],by rw [k.one,h.one]⟩
theorem MH.prod (h:MH φ) (k:MH ψ):MH fun x=>φ x*ψ x:=⟨fun x y=>by
 show φ (x*y)*ψ (x*y)=φ x*ψ x*(φ y*ψ y);rw [k.mul,h.mul];exact ring [φ x,φ y,ψ x,ψ y] dk,by show φ 1*ψ 1=1;rw [k.one,h.one,mul_one]⟩
theorem vH:∀ n:Nat,pw (1:F) n=1
 | 0=>rfl
 | n+1=>by show pw (1:F) n*1=1;rw [vH n,mul_one]
theorem MH.pw (n:Nat):MH fun x:F=>Rg.pw x n:=⟨fun x y=>pw_mul x y n,vH n⟩
end
section
variable {F:Type} [FD F]
open FD (inv)
theorem Abv (x y:F):inv (x*y)=inv x*inv y:=by
 by_cases hx:x=0
 ·rw [hx,zero_mul,FD.inv_zero,zero_mul]
 by_cases hy:y=0
 ·rw [hy,mul_zero,FD.inv_zero,mul_zero]
 ·refine Iq (Cz hx hy) ?_
  rw [FD.mul_inv _ (Cz hx hy)];have h1:=FD.mul_inv x hx;have h2:=FD.mul_inv y hy;have e:x*y*(inv x*inv y)=(x*inv x)*(y*inv y):=ring [x,y,inv x,inv y] dk
  rw [e,h1,h2,mul_one]
theorem Abw:inv (1:F)=1:=by
 have:=FD.mul_inv (1:F) FD.one_ne
 rwa [one_mul] at this
theorem Abx:MH (inv:F→F):=⟨Abv,Abw⟩
end
def RN {F:Type} [FD F] (c f:F→F) (E X:Nat) (x:F):F :=
 let g:=c x*FD.inv x
 let h:=f (f g)*g
 let a:=pw h E
 let b:=c (pw a X)*f a
 pw (pw b X) X*f (f b)*c b*h
section
variable {F:Type} [FD F] {c f:F→F} (hc:MH c) (hf:MH f)
include hc hf
theorem AHa (E X:Nat):MH (RN c f E X):=by
 have g:MH fun x=>c x*FD.inv x:=hc.prod Abx
 have h:MH fun x=>f (f (c x*FD.inv x))*(c x*FD.inv x):=(hf.comp (hf.comp g)).prod g
 have a:MH fun x=>pw (f (f (c x*FD.inv x))*(c x*FD.inv x)) E:=(MH.pw E).comp h
 have b:=(hc.comp ((MH.pw X).comp a)).prod (hf.comp a)
 exact (((((MH.pw X).comp ((MH.pw X).comp b)).prod (hf.comp (hf.comp b))).prod (hc.comp b))).prod h
theorem Aby (h2:∀ x,c (c x)=x) (E X:Nat) {x:F} (hx:x≠0):RN c f E X x*RN c f E X (c x)=1:=by
 have m:=AHa hc hf E X;rw [← m.mul];have hx':c x≠0:=fun e=>by
  have h0:c x*c (FD.inv x)=1:=by rw [← hc.mul,FD.mul_inv x hx,hc.one]
  rw [e,zero_mul] at h0;exact FD.one_ne h0.symm
 have hn:x*c x≠0:=Cz hx hx'
 have hcn:c (x*c x)=x*c x:=by rw [hc.mul,h2,mul_comm]
 have hg:c (x*c x)*FD.inv (x*c x)=1:=by rw [hcn,FD.mul_inv _ hn]
 unfold RN;simp only [hg,hf.one,hc.one,vH,mul_one]
end
end Go.Proofs.YtgnajdcdcblaoaaGreat.Rg
namespace Go.Proofs.YtgnajdcdcblaoaaGreat.Rg
open Num (Prime BK)
section
variable {F:Type} [FD F] (C:Cv F)
theorem Abz {p:Pt F} (hp:On C.b p):add (neg p) p=.inf:=by rw [HS C (HR C hp) hp,XG C hp]
theorem vJ {a b c d:Pt F} (ha:On C.b a) (hb:On C.b b) (hc:On C.b c) (hd:On C.b d):add (add a b) (add c d)=add (add a c) (add b d):=by
 rw [JM C ha hb (Ir C hc hd),← JM C hb hc hd,HS C hb hc,JM C hc hb hd,← JM C ha hc (Ir C hb hd)]
theorem Ab0 {p q:Pt F} (hp:On C.b p) (hq:On C.b q) (h:add p q=.inf):q=neg p:=by
 have:=PC C hp hq
 rw [h,PB] at this;exact this.symm
theorem AHb {p q:Pt F} (hp:On C.b p) (hq:On C.b q):neg (add p q)=add (neg p) (neg q):=by
 refine (Ab0 C (Ir C hp hq) (Ir C (HR C hp) (HR C hq)) ?_).symm
 rw [vJ C hp hq (HR C hp) (HR C hq),XG C hp,XG C hq];rfl
theorem d9 {p q:Pt F} (hp:On C.b p) (hq:On C.b q):∀ n,smul n (add p q)=add (smul n p) (smul n q)
 | 0=>rfl
 | n+1=>by
  simp only [smul];rw [d9 hp hq n,vJ C (B4 C hp n) (B4 C hq n) hp hq]
theorem eB {p:Pt F} (hp:On C.b p) (m n:Nat):smul m (smul n p)=smul n (smul m p):=by rw [← Iu C hp,← Iu C hp,gw]
structure Sub (m:Nat) (S:List (Pt F)):Prop where
 on:∀ p∈S,On C.b p
 nd:S.Nodup
 len:S.length=m
 inf:Pt.inf∈S
 add:∀ p∈S,∀ q∈S,Rg.add p q∈S
 neg:∀ p∈S,Rg.neg p∈S
variable {C}
theorem Sub.triv:Sub C 1 [.inf] where
 on p hp:=by rcases ja.1 hp with rfl;trivial
 nd:=by simp
 len:=rfl
 inf:=by simp
 add p hp q hq:=by
  rcases ja.1 hp with rfl
  exact hq
 neg p hp:=by
  rcases ja.1 hp with rfl
  exact ja.2 rfl
theorem Sub.smul {m:Nat} {S:List (Pt F)} (h:Sub C m S) {p:Pt F} (hp:p∈S):∀ n,Rg.smul n p∈S
 | 0=>h.inf
 | n+1=>h.add _ (h.smul hp n) _ hp
theorem Sub.of_add {m:Nat} {S:List (Pt F)} (h:Sub C m S) {p q:Pt F} (hp:p∈S) (hq:On C.b q) (hs:Rg.add p q∈S):q∈S:=by
 have:=PC C (h.on p hp) hq
 rw [← this];exact h.add _ (h.neg p hp) _ hs
theorem Sub.gcd {m:Nat} {S:List (Pt F)} (h:Sub C m S) {p:Pt F} (hp:On C.b p):∀ (a b:Nat),Rg.smul a p∈S→Rg.smul b p∈S→Rg.smul (Nat.gcd a b) p∈S:=by
 intro a b;induction a,b using Nat.gcd.induction with
 | H0 n=>intro _ h2;rwa [Nat.gcd_zero_left]
 | H1 a b ha ih =>
  intro h1 h2;rw [Nat.gcd_rec];refine ih ?_ h1
  have e:=jo b a;rw [← e,It C hp,Iu C hp] at h2;exact h.of_add (h.smul h1 _) (B4 C hp _) h2
def Iz (S:List (Pt F)) (H:Pt F):Nat→List (Pt F)
 | 0=>[]
 | j+1=>Iz S H j++S.map fun s=>Rg.add s (Rg.smul j H)
theorem G0 {S:List (Pt F)} {H x:Pt F}:∀ {t:Nat},x∈Iz S H t↔∃ j,j<t∧∃ s∈S,Rg.add s (Rg.smul j H)=x
 | 0=>by simp [Iz]
 | t+1=>by
  rw [Iz,gl,G0,jj];constructor
  ·rintro (⟨j,hj,s,hs,e⟩ | ⟨s,hs,e⟩)
   ·exact ⟨j,dl,s,hs,e⟩
   ·exact ⟨t,dl,s,hs,e⟩
  ·rintro ⟨j,hj,s,hs,e⟩
   rcases gt j t with h | h
   ·exact .inl ⟨j,h,s,hs,e⟩
   ·have:j=t:=dl
    subst this;exact .inr ⟨s,hs,e⟩
theorem AHc (S:List (Pt F)) (H:Pt F):∀ t,(Iz S H t).length=t*S.length
 | 0=>by simp [Iz]
 | t+1=>by rw [Iz,ib,jk,AHc S H t,oq]
theorem AHd {S:List (Pt F)} (hS:∀ p∈S,On C.b p) (hn:S.Nodup) {H:Pt F} (hH:On C.b H):(S.map fun s=>Rg.add s H).Nodup:=by
 induction S with
 | nil=>exact List.nodup_nil
 | cons a l ih =>
  obtain ⟨h1,h2⟩:=nh.1 hn;rw [i_,nh];refine ⟨fun hm=>?_,ih (fun p hp=>hS p (by simp [hp])) h2⟩
  obtain ⟨b,hb,e⟩:=jj.1 hm;have ha:=hS a (by simp)
  have hb':=hS b (by simp [hb])
  rw [HS C hb' hH,HS C ha hH] at e;exact h1 (rO C hH hb' ha e▸hb)
theorem Sub.cos_nd {m:Nat} {S:List (Pt F)} (h:Sub C m S) {H:Pt F} (hH:On C.b H):∀ {t:Nat},(∀ j,0<j→j<t→Rg.smul j H ∉ S)→(Iz S H t).Nodup
 | 0,_=>List.nodup_nil
 | t+1,hm=>by
  rw [Iz,List.nodup_append];refine ⟨h.cos_nd hH fun j h0 h1=>hm j h0 dl,AHd h.on h.nd (B4 C hH _),fun x hx y hy e=>?_⟩
  subst e;obtain ⟨j,hj,s,hs,e1⟩:=G0.1 hx;obtain ⟨s',hs',e2⟩:=jj.1 hy;have hjH:=B4 C hH j;have hdH:=B4 C hH (t-j)
  have e3:Rg.smul t H=Rg.add (Rg.smul j H) (Rg.smul (t-j) H):=by rw [← It C hH];congr 1;omega
  rw [← e1,e3,← JM C (h.on s' hs') hjH hdH,HS C (h.on s' hs') hjH,JM C hjH (h.on s' hs') hdH,HS C (h.on s hs) hjH] at e2;have e4:=rO C hjH (Ir C (h.on s' hs') hdH) (h.on s hs) e2
  exact hm (t-j) dl dl (h.of_add hs' hdH (e4▸hs))
theorem Sub.step {m:Nat} {S:List (Pt F)} (h:Sub C m S) {H:Pt F} (hH:On C.b H) {t:Nat} (ht:Rg.smul t H∈S) (h0:0<t) (hm:∀ j,0<j→j<t→Rg.smul j H ∉ S):Sub C (t*m) (Iz S H t) where
 on p hp:=by
  obtain ⟨j,_,s,hs,rfl⟩:=G0.1 hp;exact Ir C (h.on s hs) (B4 C hH j)
 nd:=h.cos_nd hH hm
 len:=by rw [AHc,h.len]
 inf:=G0.2 ⟨0,h0,.inf,h.inf,rfl⟩
 add p hp q hq:=by
  obtain ⟨i,hi,s,hs,rfl⟩:=G0.1 hp;obtain ⟨j,hj,s',hs',rfl⟩:=G0.1 hq;have hss:=h.add s hs s' hs';rw [vJ C (h.on s hs) (B4 C hH i) (h.on s' hs') (B4 C hH j),← It C hH];rcases gt (i+j) t with hlt | hge
  ·exact G0.2 ⟨i+j,hlt,_,hss,rfl⟩
  ·refine G0.2 ⟨i+j-t,dl,Rg.add (Rg.add s s') (Rg.smul t H),h.add _ hss _ ht,?_⟩
   rw [JM C (h.on _ hss) (B4 C hH t) (B4 C hH _),← It C hH];congr 2;omega
 neg p hp:=by
  obtain ⟨i,hi,s,hs,rfl⟩:=G0.1 hp;rw [AHb C (h.on s hs) (B4 C hH i)];rcases jh i with rfl | hpos
  ·exact G0.2 ⟨0,h0,_,h.neg s hs,rfl⟩
  ·refine G0.2 ⟨t-i,dl,Rg.add (Rg.neg s) (Rg.neg (Rg.smul t H)),h.add _ (h.neg s hs) _ (h.neg _ ht),?_⟩
   rw [JM C (HR C (h.on s hs)) (HR C (B4 C hH t)) (B4 C hH _)];congr 1
   have e:Rg.smul t H=Rg.add (Rg.smul (t-i) H) (Rg.smul i H):=by rw [← It C hH];congr 1;omega
   have hd:=B4 C hH (t-i)
   rw [e,AHb C hd (B4 C hH i),HS C (HR C hd) (HR C (B4 C hH i)),JM C (HR C (B4 C hH i)) (HR C hd) hd,Abz C hd,PB]
theorem AHe {q:Nat} (hq:Prime q):∀ {l:List Nat},q∣BK l→∃ x∈l,q∣x
 | [],h=>by
  have:=jm dm h
  have:=hq.1
  simp only [BK] at *;omega
 | x::l,h=>by
  rcases hq.dvd_mul h with h | h
  ·exact ⟨x,by simp,h⟩
  ·obtain ⟨y,hy,hd⟩:=AHe hq h;exact ⟨y,by simp [hy],hd⟩
theorem Ab1 {G:Pt F} (hG:On C.b G) {l:List Nat} (hl:∀ q∈l,Prime q) (h0:Rg.smul (BK l) G=.inf) (hq:∀ q∈l,Rg.smul (BK l / q) G≠.inf) (j:Nat) (hj:Rg.smul j G=.inf):BK l∣j:=by
 have T:Sub C 1 [(.inf:Pt F)]:=Sub.triv
 have hg:=T.gcd hG j (BK l) (by rw [hj];exact T.inf) (by rw [h0];exact T.inf)
 have hg:Rg.smul (Nat.gcd j (BK l)) G=.inf:=ja.1 hg
 obtain ⟨k,hk⟩:=Nat.gcd_dvd_right j (BK l)
 by_cases h1:k=1
 ·rw [h1,g_] at hk;rw [hk];exact Nat.gcd_dvd_left j _
 ·exfalso
  by_cases hk0:k=0
  ·rw [hk0,je] at hk;have:∀ {l:List Nat},(∀ q∈l,Prime q)→0<BK l:=by
    intro l;induction l with
    | nil=>intro _;exact Nat.one_pos
    | cons x l ih=>intro h;exact Nat.mul_pos (by have:=(h x (by simp)).1;omega) (ih fun q hq=>h q (by simp [hq]))
   have:=this hl
   omega
  obtain ⟨q,hqp,hqk⟩:=Num.exists_prime_dvd k dl;have hqM:q∣BK l:=by rw [hk];exact Nat.dvd_mul_left_of_dvd hqk _
  obtain ⟨x,hx,hqx⟩:=AHe hqp hqM;have hqx':q=x:=by
   rcases (hl x hx).2 q hqx with e | e
   ·have:=hqp.1;omega
   ·exact e
  subst hqx';refine hq q hx ?_
  obtain ⟨c,hc⟩:=hqk;have e:BK l / q=Nat.gcd j (BK l)*c:=by
   have h2:=hqp.1;refine Nat.div_eq_of_eq_mul_right dl (hk.trans ?_)
   rw [hc,jt]
  rw [e,Iu C hG,hg,GV]
theorem Sub.out {m:Nat} {S:List (Pt F)} (h:Sub C m S) {H:Pt F} (hH:On C.b H) {q:Nat} (hq:Prime q) (h0:Rg.smul q H=.inf) (hn:H ∉ S):Sub C (q*m) (Iz S H q):=by
 refine h.step hH (by rw [h0];exact h.inf) (by have:=hq.1;omega) fun j h1 h2 hm=>hn ?_
 have hg:=h.gcd hH q j (by rw [h0];exact h.inf) hm
 have hc:Nat.gcd q j=1:=hq.coprime fun hd=>by have:=jm h1 hd;omega
 rwa [hc] at hg
theorem Sub.all {m B:Nat} {S:List (Pt F)} (h:Sub C m S) (hB:∀ L:List (Pt F),L.Nodup→(∀ p∈L,On C.b p)→L.length≤B) (hm:B<m+m) {p:Pt F} (hp:On C.b p):p∈S:=by
 refine ra fun hn=>?_
 have hL:=hB (S++S.map fun s=>Rg.add s p) ?_ ?_
 ·rw [ib,jk,h.len] at hL;omega
 ·rw [List.nodup_append];refine ⟨h.nd,AHd h.on h.nd hp,fun x hx y hy e=>?_⟩
  subst e;obtain ⟨s,hs,e⟩:=jj.1 hy;exact hn (h.of_add hs hp (e▸hx))
 ·intro x hx;rcases gl.1 hx with hx | hx
  ·exact h.on x hx
  ·obtain ⟨s,hs,rfl⟩:=jj.1 hx;exact Ir C (h.on s hs) hp
theorem Ab2 {l:List Nat} (hl:∀ q∈l,Prime q) {G H H':Pt F} {q q' B:Nat} (hG:On C.b G) (hH:On C.b H) (hH':On C.b H') (hq:Prime q) (hq':Prime q') (hne:q≠q') (hm:q∈l) (hm':q'∈l)
  (g0:Rg.smul (BK l) G=.inf) (g1:∀ x∈l,Rg.smul (BK l / x) G≠.inf) (h0:Rg.smul q H=.inf) (h0':Rg.smul q' H'=.inf)
  (h1:∀ i,i<q→Rg.smul i (Rg.smul (BK l / q) G)≠H) (h1':∀ i,i<q'→Rg.smul i (Rg.smul (BK l / q') G)≠H')
  (hB:∀ L:List (Pt F),L.Nodup→(∀ p∈L,On C.b p)→L.length≤B) (hb:B<q'*(q*BK l)+q'*(q*BK l)) {p:Pt F} (hp:On C.b p):∃ i j k,p=Rg.add (Rg.add (Rg.smul i G) (Rg.smul j H)) (Rg.smul k H'):=by
 have dv:∀ x∈l,∃ k,BK l=x*k:=by
  have:∀ {l:List Nat},∀ x∈l,x∣BK l:=by
   intro l;induction l with
   | nil=>intro x hx;cases hx
   | cons y l ih =>
    intro x hx;rcases gr.1 hx with rfl | hx
    ·exact Nat.dvd_mul_right _ _
    ·exact Nat.dvd_mul_left_of_dvd (ih x hx) _
  exact fun x hx=>this x hx
 have ord:=Ab1 hG hl g0 g1;have T:Sub C 1 [(.inf:Pt F)]:=Sub.triv
 have hpos:0<BK l:=by
  refine oy fun e=>?_
  have h3:=g1 q hm;rw [e,Nat.zero_div] at h3;exact h3 rfl
 have S1:=T.step hG (t:=BK l) (by rw [g0];exact T.inf) hpos fun j j0 j1 hj=>by
  have:=jm j0 (ord j (ja.1 hj));omega
 rw [g_] at S1;have inS1:∀ {x:Pt F},x∈Iz [.inf] G (BK l)→∃ i,x=Rg.smul i G:=by
  intro x hx;obtain ⟨i,_,s,hs,rfl⟩:=G0.1 hx;rcases ja.1 hs with rfl
  exact ⟨i,rfl⟩
 have out:∀ {x:Nat} {K:Pt F},x∈l→Rg.smul x K=.inf→(∀ i,i<x→Rg.smul i (Rg.smul (BK l / x) G)≠K)→K ∉ Iz [.inf] G (BK l):=by
  intro x K hx hK h hin;obtain ⟨i,_,s,hs,e⟩:=G0.1 hin;rename_i hi;rcases ja.1 hs with rfl
  have e:K=Rg.smul i G:=e.symm
  have hx2:=(hl x hx).1
  obtain ⟨k,hk⟩:=dv x hx;have hd:BK l∣i*x:=ord _ (by rw [Iu C hG,← e,hK])
  have hkx:BK l / x=k:=Nat.div_eq_of_eq_mul_right dl hk
  obtain ⟨c,hc⟩:=hd;have hic:i=k*c:=by
   refine Nat.eq_of_mul_eq_mul_left (show 0<x by omega) ?_
   rw [gw x i,hc,hk,iw]
  have hk0:0<k:=oy fun e=>by rw [e,je] at hk;omega
  have hcx:c<x:=by
   refine Nat.lt_of_mul_lt_mul_left (a:=k) ?_
   rw [← hic,gw k x,← hk];exact hi
  refine h c hcx ?_
  rw [hkx,← Iu C hG,← hic,e]
 have S2:=S1.out hH hq h0 (out hm h0 h1)
 have S3:=S2.out hH' hq' h0' fun hin=>by
  obtain ⟨j,_,s,hs,e⟩:=G0.1 hin;refine out hm' h0' h1' ?_
  have e2:Rg.smul q H'=Rg.smul q s:=by
   rw [← e,d9 C (S1.on s hs) (B4 C hH j),eB C hH,h0,GV,PB]
  have hg:=S1.gcd hH' q q' (by rw [e2];exact S1.smul hs q) (by rw [h0'];exact S1.inf)
  have hc:Nat.gcd q q'=1:=hq.coprime fun hd=>by
   rcases hq'.2 q hd with e | e
   ·have:=hq.1;omega
   ·exact hne e
  rwa [hc] at hg
 have hin:=S3.all hB hb hp;obtain ⟨j',_,s',hs',rfl⟩:=G0.1 hin;obtain ⟨j,_,s,hs,rfl⟩:=G0.1 hs';obtain ⟨i,rfl⟩:=inS1 hs;exact ⟨i,j,j',rfl⟩
end
end Go.Proofs.YtgnajdcdcblaoaaGreat.Rg
namespace Go.Proofs.YtgnajdcdcblaoaaGreat
open Ex Num Rg
open Sh (R av rd mo en mo_en)
section
variable {F:Type} [Sh F] [FD F]
noncomputable def Es (fc:R (J F)→(R (J F)→Bool)→Bool) (k:R (J F)→Bool) (a b:F) (N:Nat) (i:Nat):R (J F)→Bool :=
 Nat.rec k (fun i ih r=>fc (en (Bl (mo r:J F))) fun s=>cond (Nat.beq (N / 2^i % 2) 1) (fc (en (FF (mo s:J F) a b)) ih) (ih s)) i
theorem Ab3 (C:Cv F) {fc:R (J F)→(R (J F)→Bool)→Bool} {k:R (J F)→Bool} {a b:F} {N:Nat} (hfc:∀ r k,fc r k=k r) (hP:On C.b (.pt a b)) :
  ∀ (i:Nat) (r:R (J F)),B5 (mo r:J F)=smul (N / 2^i) (.pt a b)→Es fc k a b N i r=true→∃ s:R (J F),B5 (mo s:J F)=smul N (.pt a b)∧k s=true:=by
 intro i;induction i with
 | zero =>
  intro r hr h;rw [ia,ig] at hr;exact ⟨r,hr,h⟩
 | succ i ih =>
  intro r hr h;have h':fc (en (Bl (mo r:J F))) (fun s=>cond (Nat.beq (N / 2^i % 2) 1) (fc (en (FF (mo s:J F) a b)) (Es fc k a b N i)) (Es fc k a b N i s))=true:=h
  rw [hfc,hfc] at h';have hdiv:N / 2^i=2*(N / 2^(i+1))+N / 2^i % 2:=by
   rw [ip,← iu];omega
  have hoj:On C.b (B5 (mo r:J F)):=by rw [hr];exact B4 C hP _
  have htw:B5 (Bl (mo r:J F))=smul (2*(N / 2^(i+1))) (.pt a b):=by
   rw [Qz C hoj,hr,← It C hP,my]
  have htw':B5 (mo (en (Bl (mo r:J F)):R (J F)):J F)=smul (2*(N / 2^(i+1))) (.pt a b):=by rw [mo_en];exact htw
  cases hb:Nat.beq (N / 2^i % 2) 1 with
  | true =>
   rw [hb] at h';have h1:=jv hb;refine ih _ ?_ h'
   rw [mo_en,Tw C (by rw [htw'];exact B4 C hP _),htw']
   rw [hdiv,h1];rfl
  | false =>
   rw [hb] at h';have h1:N / 2^i % 2=0:=by
    have:=Nat.ne_of_beq_eq_false hb
    omega
   refine ih _ ?_ h'
   rw [htw',hdiv,h1];rfl
end
noncomputable section
def vK (a b:Nat):Bool:=!(Nat.beq (a % pN) 0&&Nat.beq (b % pN) 0)
def Xp (r:R FP2):Bool:=vK r.1 r.2
theorem AHf {a:Nat} (h:tf a=0):Nat.beq (a % pN) 0=true:=by
 rw [← tf_zero,Qr] at h;rw [h,lv];rfl
theorem eD {r:R FP2} (h:Xp r=true):(mo r:FP2)≠0:=fun e=>by
 have h1:=AHf (a:=r.1) (gh Qx.a e)
 have h2:=AHf (a:=r.2) (gh Qx.b e)
 have h':vK r.1 r.2=true:=h
 unfold vK at h';rw [h1,h2] at h';cases h'
def dX (a:FP2) (r:R (J FP2)):R FP2:=en ((mo r:J FP2).x-a*((mo r:J FP2).z*(mo r:J FP2).z))
def dY (b:FP2) (r:R (J FP2)):R FP2:=en ((mo r:J FP2).y-b*((mo r:J FP2).z*(mo r:J FP2).z*(mo r:J FP2).z))
def Xq (r:R (J FP2)):Bool:=XY r.2.2
def Nu (r:R (J FP2)):Bool:=Xp r.2.2
def Xr (a b:FP2) (r:R (J FP2)):Bool:=Xp r.2.2&&(XY (dX a r)&&XY (dY b r))
def eF (a b:FP2) (r:R (J FP2)):Bool:=Xp (dX a r)||(Xp (dY b r)||XY r.2.2)
theorem Ab4 {r:R (J FP2)} (h:Xq r=true):B5 (mo r:J FP2)=.inf:=F_ (cS r.2.2 h)
theorem Ab5 {r:R (J FP2)} (h:Nu r=true):B5 (mo r:J FP2)≠.inf:=by
 rw [Hz (eD h)];exact fun e=>by cases e
theorem Ab6 {a b:FP2} {r:R (J FP2)} (h:Xr a b r=true):B5 (mo r:J FP2)=.pt a b:=by
 unfold Xr at h;simp only [gi] at h;obtain ⟨h1,h2,h3⟩:=h;have hz:(mo r:J FP2).z≠0:=eD h1
 have hi:=FD.mul_inv _ hz;have hx:=cS _ h2;have hy:=cS _ h3;unfold dX at hx;unfold dY at hy;rw [mo_en,AX] at hx hy;rw [Hz hz,hx,hy];generalize (mo r:J FP2).z=z at *
 generalize FD.inv z=i at *
 congr 1
 ·calc a*(z*z)*(i*i)=a*((z*i)*(z*i)):=ring [a,z,i] dk
   _=a:=by rw [hi,Rg.mul_one,Rg.mul_one]
 ·calc b*(z*z*z)*(i*i*i)=b*((z*i)*(z*i)*(z*i)):=ring [b,z,i] dk
   _=b:=by rw [hi,Rg.mul_one,Rg.mul_one,Rg.mul_one]
theorem Ab7 {a b:FP2} {r:R (J FP2)} (h:eF a b r=true):B5 (mo r:J FP2)≠.pt a b:=fun e=>by
 by_cases hz:(mo r:J FP2).z=0
 ·rw [F_ hz] at e;cases e
 ·rw [Hz hz] at e;injection e with e1 e2;have hi:=FD.mul_inv _ hz;have hx:(mo r:J FP2).x-a*((mo r:J FP2).z*(mo r:J FP2).z)=0:=by
   rw [AX,← e1];generalize (mo r:J FP2).z=z at *
   generalize FD.inv z=i at *
   calc (mo r:J FP2).x=(mo r:J FP2).x*((z*i)*(z*i)):=by rw [hi,Rg.mul_one,Rg.mul_one]
    _=_:=ring [(mo r:J FP2).x,z,i] dk
  have hy:(mo r:J FP2).y-b*((mo r:J FP2).z*(mo r:J FP2).z*(mo r:J FP2).z)=0:=by
   rw [AX,← e2];generalize (mo r:J FP2).z=z at *
   generalize FD.inv z=i at *
   calc (mo r:J FP2).y=(mo r:J FP2).y*((z*i)*(z*i)*(z*i)):=by rw [hi,Rg.mul_one,Rg.mul_one,Rg.mul_one]
    _=_:=ring [(mo r:J FP2).y,z,i] dk
  unfold eF at h;simp only [oz] at h;rcases h with h | h | h
  ·exact eD h (by unfold dX;rw [mo_en];exact hx)
  ·exact eD h (by unfold dY;rw [mo_en];exact hy)
  ·exact hz (cS r.2.2 h)
def z0:R (J FP2):=en (⟨0,0,0⟩:J FP2)
theorem at_ {a b:FP2} (hP:On C2.b (.pt a b)) {k:R (J FP2)→Bool} {N i:Nat} (h0:N / 2^i=0) (h:Es E3 k a b N i z0=true):∃ s:R (J FP2),B5 (mo s:J FP2)=smul N (.pt a b)∧k s=true :=
 Ab3 C2 AXl hP i z0 (by unfold z0;rw [mo_en,h0,F_ rfl];rfl) h
theorem vL {a b:FP2} (hP:On C2.b (.pt a b)) {N i:Nat} (h0:N / 2^i=0) (h:Es E3 Xq a b N i z0=true):smul N (.pt a b)=.inf:=by
 obtain ⟨s,h1,h2⟩:=at_ hP h0 h;rw [← h1];exact Ab4 h2
theorem RO {a b:FP2} (hP:On C2.b (.pt a b)) {N i:Nat} (h0:N / 2^i=0) (h:Es E3 Nu a b N i z0=true):smul N (.pt a b)≠.inf:=by
 obtain ⟨s,h1,h2⟩:=at_ hP h0 h;rw [← h1];exact Ab5 h2
theorem AHg {a b c d:FP2} (hP:On C2.b (.pt a b)) {N i:Nat} (h0:N / 2^i=0) (h:Es E3 (Xr c d) a b N i z0=true):smul N (.pt a b)=.pt c d:=by
 obtain ⟨s,h1,h2⟩:=at_ hP h0 h;rw [← h1];exact Ab6 h2
def eI (a b c d:FP2) (n:Nat):Bool:=Nat.rec true (fun i ih=>Es E3 (eF c d) a b i 5 z0&&ih) n
theorem vN {a b c d:FP2} (hP:On C2.b (.pt a b)):∀ n,n≤32→eI a b c d n=true→∀ i,i<n→smul i (.pt a b)≠.pt c d
 | 0,_,_,i,hi=>dl
 | n+1,hn,h,i,hi=>by
  have h':(Es E3 (eF c d) a b n 5 z0&&eI a b c d n)=true:=h
  obtain ⟨h1,h2⟩:=gk.1 h';rcases gt i n with hlt | hge
  ·exact vN hP n dl h2 i hlt
  ·have:i=n:=dl
   subst this;obtain ⟨s,q1,q2⟩:=at_ hP (jf dl) h1
   rw [← q1];exact Ab7 q2
theorem Ab8 {L:List Nat} {n:Nat} (hn:L.Nodup) (hb:∀ x∈L,x<n):L.length≤n:=by
 refine ra fun h=>?_
 have hp:=oV (m:=List.range n) hn (fun x hx=>jl.2 (hb x hx)) (by rw [lm];omega)
 have:=hp.length_eq
 rw [lm] at this;omega
def Nv:Pt FP2→Nat
 | .inf=>0
 | .pt x y=>1+2*(x.a.val*pN+x.b.val)+(match Co y with | true=>1 | false=>0)
theorem Ab9 (p:Pt FP2):Nv p<1+2*(pN*pN):=by
 cases p with
 | inf=>simp only [Nv];omega
 | pt x y =>
  have h1:=x.a.isLt;have h2:=x.b.isLt;have h3:(x.a.val+1)*pN≤pN*pN:=jp _ h1
  rw [oq] at h3;have h4:(match Co y with | true=>1 | false=>0)≤1:=by cases Co y<;>simp
  simp only [Nv];generalize pN*pN=q at *
  generalize x.a.val*pN=u at *
  omega
theorem Ab_ {p q:Pt FP2} (hp:On C2.b p) (hq:On C2.b q) (h:Nv p=Nv q):p=q:=by
 have bt:∀ b:Bool,(match b with | true=>1 | false=>0:Nat)≤1:=fun b=>by cases b<;>simp
 cases p with
 | inf=>cases q with
  | inf=>rfl
  | pt x y=>simp only [Nv] at h;omega
 | pt x y=>cases q with
  | inf=>simp only [Nv] at h;omega
  | pt x' y' =>
   simp only [Nv] at h;have b1:=bt (Co y)
   have b2:=bt (Co y')
   have e1:x.a.val*pN+x.b.val=x'.a.val*pN+x'.b.val:=by
    generalize x.a.val*pN+x.b.val=u at *
    generalize x'.a.val*pN+x'.b.val=v at *
    omega
   have e2:(match Co y with | true=>1 | false=>0:Nat)=(match Co y' with | true=>1 | false=>0):=by
    rw [e1] at h;generalize x'.a.val*pN+x'.b.val=v at *
    omega
   have e3:Co y=Co y':=by
    cases h1:Co y<;>cases h2:Co y'<;>rw [h1,h2] at e2<;>first | rfl | cases e2
   have l1:=x.b.isLt;have l2:=x'.b.isLt;have m1:x.b.val=x'.b.val:=by
    have:=gh (· % pN) e1
    simp only [gw _ pN,Nat.mul_add_mod] at this
    rwa [ge l1,ge l2] at this
   have m2:x.a.val=x'.a.val:=by
    rw [m1] at e1;exact Nat.eq_of_mul_eq_mul_right Cs (Nat.add_right_cancel e1)
   have ex:x=x':=Qx.ext (Fin.ext m2) (Fin.ext m1)
   subst ex;have hy:y*y=y'*y':=Eq.trans hp hq.symm
   rcases AFd hy with e | e
   ·rw [e]
   ·exfalso
    have hy0:=C2.no2 _ _ hq;rw [e,cB hy0] at e3;cases h1:Co y'<;>rw [h1] at e3<;>cases e3
theorem Ab' (L:List (Pt FP2)) (hn:L.Nodup) (hL:∀ p∈L,On C2.b p):L.length≤1+2*(pN*pN):=by
 have hmap:(L.map Nv).Nodup:=by
  induction L with
  | nil=>exact List.nodup_nil
  | cons a l ih =>
   obtain ⟨h1,h2⟩:=nh.1 hn;rw [i_,nh];refine ⟨fun hm=>?_,ih h2 fun p hp=>hL p (by simp [hp])⟩
   obtain ⟨b,hb,e⟩:=jj.1 hm;exact h1 (Ab_ (hL b (by simp [hb])) (hL a (by simp)) e▸hb)
 have:=Ab8 hmap (n:=1+2*(pN*pN)) fun x hx=>by
  obtain ⟨p,_,rfl⟩:=jj.1 hx;exact Ab9 p
 rwa [jk] at this
noncomputable def GF:FP2:=⟨tf 0x0,tf 0x1⟩
noncomputable def GG:FP2:=⟨tf 0x6af0e0437ff400b6831e36d6bd17ffe48395dabc2d3435e77f76e17009241c5ee67992f72ec05f4c81084fbede3cc09,tf 0x5f3e7dd918226781285fd6dffd72cdc8bcb3281ab0b48a3ff4a885bf4fa30d253753470588fee2161cd710c36544690⟩
noncomputable def Xs:FP2:=⟨tf 0x16dc1d49fd9ec2103e990636ba57f6d0c38a01304e503c8b821d3efdb7adc74a6ba456c7600e1affdd68171b52c0c8b5,tf 0x14917c708fd82299f81041e8de947a2219854970c5548e585afd3b0d378f98b781e8be39905e6f1c7a27f4c37a735e45⟩
noncomputable def kAy:FP2:=⟨tf 0x8497007e8deb16aab414b87573ee6da6f68f597136318517797bfb6c0d868c851000f6a64d37ecb23963b5fe1859f40,tf 0x11e26d6c2667fd72cf134f14a574e4b2c0a25a871faaa198ef07cd31d988b49bc5d27abb97d188ad016db3e83018fadb⟩
noncomputable def RP:FP2:=⟨tf 0x9d9acc6dfec295b33b81207e234d0806642df2fc6b3dce14c0c3ecc7380a280338c1b757d0411eaec597b1f6547a4fe,tf 0x150a3bc83828ad1e76601cd7f02dd2b6cf3d796cb9d253fb4890132f540cd4e032b00cb52033eb04480ae31d5cb2b534⟩
noncomputable def RQ:FP2:=⟨tf 0x1153708c1b38b0ed0c19f99e54e66a08ce2464341c2813082874352ff354bb3e9e63595ed626ca3d6bc42f327f7b92d3,tf 0xc4ccc8d72ace767a08577447b4f264007c174321f1b147e75218e324b91f77b2fe61b875c22542c3a64244688c4f396⟩
noncomputable def Xt:FP2:=⟨tf 0x342aae9a96630c3a3a2dbb689674838fc60d6a0958db27be0c97c2f080de0f11e5308aa65fbdf3dec8c208ad0046bfb,tf 0xc7e26dc22341cc760be50271ac2ca0e37845bdc706e7c77d5a249dbc44696154785543c8e2fdf3b123a802b782c563⟩
noncomputable def kBy:FP2:=⟨tf 0x84232304c63a9419c60d333bae0b8311518e31293a0ea28a642e32ac6c8aed4aa814c862b5e675aa776ea3559dc7b1e,tf 0x7771b4d84f6884e18f31cbf206e793f6280865fc164ec15c16df78b37d890dad91c8ec4680034636de506c3960d2404⟩
noncomputable def RS:FP2:=⟨tf 0x2339297a6745ca7960cf16ef9e23e6cd1de431ecf24b700ffe561f7c463976c71f13b942cbe7a0bc2666e7eb95f7765,tf 0xc3eb269a284a558d283910d71842fec9634f722ce231b733049a79902ab70475f2666c0ed0f0401b26f7226032d3b6c⟩
noncomputable def RT:FP2:=⟨tf 0x1518c6ad5cb4a2974b0800c52671b94dbac07227ddc1201f5f214f4c091079b71c093efa238cae49e7148ce7a769b765,tf 0xc9a15dc3c730442114fda98be390d0052a3b68bba7830c1852718e2675f957619e5f0e1b66e353aa12364baee2044fd⟩
def IB:List Nat:=[13,23,2713,11953,262069,402096035359507321594726366720466575392706800671181159425656785868777272553337714697862511267018014931937703598282857976535744623203249,52435875175126190479447740508185965837690552500527637822603658699938581184513]
theorem vO:∀ q∈IB,Prime q:=by
 intro q hq;simp only [IB,gr,List.not_mem_nil,or_false] at hq;rcases hq with rfl | rfl | rfl | rfl | rfl | rfl | rfl
 ·exact HJ (f:=5) dk
 ·exact HJ (f:=5) dk
 ·exact HJ (f:=60) dk
 ·exact HJ (f:=120) dk
 ·exact HJ (f:=520) dk
 ·exact prT
 ·exact prR
theorem AHh:∃ n,n=0x242f7fd3174c30564058aa1817124bdf9e35fcd8882607f0f52b92e68fc2fc9794736c947ce2977d47fd11494865d54177840aa2a7660d227a1f89c6d79d62873b5197d4f43e0922476e59b4c8906fa3b229b121cb6487be3754c31c1062f:=⟨_,rfl⟩
def oN:Nat:=Classical.choose AHh
theorem Xu:oN=0x242f7fd3174c30564058aa1817124bdf9e35fcd8882607f0f52b92e68fc2fc9794736c947ce2977d47fd11494865d54177840aa2a7660d227a1f89c6d79d62873b5197d4f43e0922476e59b4c8906fa3b229b121cb6487be3754c31c1062f:=ij AHh
theorem K5:BK IB=0x242f7fd3174c30564058aa1817124bdf9e35fcd8882607f0f52b92e68fc2fc9794736c947ce2977d47fd11494865d54177840aa2a7660d227a1f89c6d79d62873b5197d4f43e0922476e59b4c8906fa3b229b121cb6487be3754c31c1062f:=dk
theorem IC:On C2.b (.pt GF GG):=(KZ _).1 (by kernel_rfl:A9 (.pt GF GG)=true)
theorem AcA:On C2.b (.pt Xs kAy):=(KZ _).1 (by kernel_rfl:A9 (.pt Xs kAy)=true)
theorem UQ:On C2.b (.pt RP RQ):=(KZ _).1 (by kernel_rfl:A9 (.pt RP RQ)=true)
theorem AcB:On C2.b (.pt Xt kBy):=(KZ _).1 (by kernel_rfl:A9 (.pt Xt kBy)=true)
theorem Xv:On C2.b (.pt RS RT):=(KZ _).1 (by kernel_rfl:A9 (.pt RS RT)=true)
theorem AcC:Es E3 Xq GF GG 0x242f7fd3174c30564058aa1817124bdf9e35fcd8882607f0f52b92e68fc2fc9794736c947ce2977d47fd11494865d54177840aa2a7660d227a1f89c6d79d62873b5197d4f43e0922476e59b4c8906fa3b229b121cb6487be3754c31c1062f 754 z0=true:=dk
theorem AcD:Es E3 Nu GF GG 0x2c893adc6b7176918a45bda77edb711338dffc1e3169e263a3e6dc2f75dc4a932cdcd467fc2a93105899ede40a55f2c6ba7b20c8307d9a030c7595e1095f3e304901f5f267aed02a3087d0de80b1c47ab3e48b3d4919449b57cac8c0142b 750 z0=true:=dk
theorem AcE:Es E3 Nu GF GG 0x192c2c6652fd594721a1da80100cba58c71a6d1c3230b79c7e080d25f4b42a26aa0d832fa4ca2699ef4bdf80e4735cb31b7d3f0cfa0435a8adffadc1fa2ab3d8824f0572c02b27becd846aed11169071e01d00c9989efa418aaa44f221a9 749 z0=true:=dk
theorem AcF:Es E3 Nu GF GG 0x36a1bb9b5c4317a0825ce90614adb17d650043b4efe6617ae349ce98036a22accce076a339ab671eb6da73bd9ea785570b7103212a06aec52dc319ccfef25527e30a6d03fcf8088181a43e96d6ac34acc96c24cfa906bec9506c581c07 742 z0=true:=dk
theorem AcG:Es E3 Nu GF GG 0xc665fc2b138ed6b10ac97ec53b9150280e01b04be7e28755a132c1b5976b608fad2557b6c5a697f60fea18a8431e34293244609b0c3af6e86c1aae5aac1878433c47df616e9ee5af28c3b449166ee4004da6f8b13c62f129996d87adf 740 z0=true:=dk
theorem AcH:Es E3 Nu GF GG 0x90c899fda4848e0e68f0d8042e979918ef6b7c817f142e7e3c6d389a24561bacd8b691b11f43682500aa1199eb9d56cbf980b0b78f09ee8420ab8babd94bb46863ebb0d704b7bcfe3557cf018b9eb86ecac41e64676cb22eea42b4d3 736 z0=true:=dk
theorem AcI:Es E3 Nu GF GG 0x4168ee1e1b7bf8c809fc4eb22e66f9b224e8b8370be312e39f7a982e7cd0e3a03b733c6054fdf 307 z0=true:=dk
theorem AcJ:Es E3 Nu GF GG 0x4fe83901ee48583e221a912f8b0ea9acd1dda8f38894b1ccfa8c6f0be60505f97ae9d5cba52a1c3527924f4356d391730e11c9fa753f2ada47b7b31c1062f 499 z0=true:=dk
theorem AcK:Es E3 (Xr Xs kAy) GF GG 0x2c893adc6b7176918a45bda77edb711338dffc1e3169e263a3e6dc2f75dc4a932cdcd467fc2a93105899ede40a55f2c6ba7b20c8307d9a030c7595e1095f3e304901f5f267aed02a3087d0de80b1c47ab3e48b3d4919449b57cac8c0142b 750 z0=true:=dk
theorem AcL:Es E3 (Xr Xt kBy) GF GG 0x192c2c6652fd594721a1da80100cba58c71a6d1c3230b79c7e080d25f4b42a26aa0d832fa4ca2699ef4bdf80e4735cb31b7d3f0cfa0435a8adffadc1fa2ab3d8824f0572c02b27becd846aed11169071e01d00c9989efa418aaa44f221a9 749 z0=true:=dk
theorem AcM:Es E3 Xq RP RQ 13 4 z0=true:=dk
theorem AcN:Es E3 Xq RS RT 23 5 z0=true:=dk
theorem AcO:eI Xs kAy RP RQ 13=true:=dk
theorem AcP:eI Xt kBy RS RT 23=true:=dk
theorem Jq {N i:Nat} (h:Nat.beq (N / 2^i) 0=true):N / 2^i=0:=jv h
theorem Nw {m q k:Nat} (h:BK IB=m) (e:Nat.beq (m / q) k=true):BK IB / q=k:=by rw [h];exact jv e
theorem AHi:smul oN (.pt GF GG)=.inf:=by rw [Xu];exact vL IC (Jq dk) AcC
theorem AHj:smul 13 (.pt RP RQ)=.inf:=vL UQ (Jq dk) AcM
theorem AHk:smul 23 (.pt RS RT)=.inf:=vL Xv (Jq dk) AcN
theorem AcQ:∀ x∈IB,smul (BK IB / x) (.pt GF GG)≠.inf:=by
 intro x hx;have hx':=hx;simp only [IB,gr,List.not_mem_nil,or_false] at hx';rcases hx' with rfl | rfl | rfl | rfl | rfl | rfl | rfl
 ·rw [Nw K5 (k:=0x2c893adc6b7176918a45bda77edb711338dffc1e3169e263a3e6dc2f75dc4a932cdcd467fc2a93105899ede40a55f2c6ba7b20c8307d9a030c7595e1095f3e304901f5f267aed02a3087d0de80b1c47ab3e48b3d4919449b57cac8c0142b) dk];exact RO IC (Jq dk) AcD
 ·rw [Nw K5 (k:=0x192c2c6652fd594721a1da80100cba58c71a6d1c3230b79c7e080d25f4b42a26aa0d832fa4ca2699ef4bdf80e4735cb31b7d3f0cfa0435a8adffadc1fa2ab3d8824f0572c02b27becd846aed11169071e01d00c9989efa418aaa44f221a9) dk];exact RO IC (Jq dk) AcE
 ·rw [Nw K5 (k:=0x36a1bb9b5c4317a0825ce90614adb17d650043b4efe6617ae349ce98036a22accce076a339ab671eb6da73bd9ea785570b7103212a06aec52dc319ccfef25527e30a6d03fcf8088181a43e96d6ac34acc96c24cfa906bec9506c581c07) dk];exact RO IC (Jq dk) AcF
 ·rw [Nw K5 (k:=0xc665fc2b138ed6b10ac97ec53b9150280e01b04be7e28755a132c1b5976b608fad2557b6c5a697f60fea18a8431e34293244609b0c3af6e86c1aae5aac1878433c47df616e9ee5af28c3b449166ee4004da6f8b13c62f129996d87adf) dk];exact RO IC (Jq dk) AcG
 ·rw [Nw K5 (k:=0x90c899fda4848e0e68f0d8042e979918ef6b7c817f142e7e3c6d389a24561bacd8b691b11f43682500aa1199eb9d56cbf980b0b78f09ee8420ab8babd94bb46863ebb0d704b7bcfe3557cf018b9eb86ecac41e64676cb22eea42b4d3) dk];exact RO IC (Jq dk) AcH
 ·rw [Nw K5 (k:=0x4168ee1e1b7bf8c809fc4eb22e66f9b224e8b8370be312e39f7a982e7cd0e3a03b733c6054fdf) dk];exact RO IC (Jq dk) AcI
 ·rw [Nw K5 (k:=0x4fe83901ee48583e221a912f8b0ea9acd1dda8f38894b1ccfa8c6f0be60505f97ae9d5cba52a1c3527924f4356d391730e11c9fa753f2ada47b7b31c1062f) dk];exact RO IC (Jq dk) AcJ
theorem AcR {p:P2} (hp:On C2.b p):∃ i j k,p=Rg.add (Rg.add (smul i (.pt GF GG)) (smul j (.pt RP RQ))) (smul k (.pt RS RT)):=by
 have hk:smul (BK IB / 13) (.pt GF GG)=.pt Xs kAy:=by rw [Nw K5 (k:=0x2c893adc6b7176918a45bda77edb711338dffc1e3169e263a3e6dc2f75dc4a932cdcd467fc2a93105899ede40a55f2c6ba7b20c8307d9a030c7595e1095f3e304901f5f267aed02a3087d0de80b1c47ab3e48b3d4919449b57cac8c0142b) dk];exact AHg IC (Jq dk) AcK
 have hk':smul (BK IB / 23) (.pt GF GG)=.pt Xt kBy:=by rw [Nw K5 (k:=0x192c2c6652fd594721a1da80100cba58c71a6d1c3230b79c7e080d25f4b42a26aa0d832fa4ca2699ef4bdf80e4735cb31b7d3f0cfa0435a8adffadc1fa2ab3d8824f0572c02b27becd846aed11169071e01d00c9989efa418aaa44f221a9) dk];exact AHg IC (Jq dk) AcL
 exact Ab2 (C:=C2) vO (q:=13) (q':=23) (B:=1+2*(pN*pN)) IC UQ Xv (vO 13 (by simp [IB])) (vO 23 (by simp [IB])) dm (by simp [IB]) (by simp [IB])
  (by rw [K5,← Xu];exact AHi) AcQ AHj AHk
  (fun i hi=>by rw [hk];exact vN AcA 13 dm AcO i hi) (fun i hi=>by rw [hk'];exact vN AcB 23 dm AcP i hi) Ab' (by rw [K5];exact BP.1 dk) hp
theorem AcS:oN=13*(oN / 13):=by rw [Xu]<;>kernel_rfl
theorem AcT:oN=23*(oN / 23):=by rw [Xu]<;>kernel_rfl
theorem AcU {p:P2} (hp:On C2.b p):smul oN p=.inf:=by
 obtain ⟨i,j,k,rfl⟩:=AcR hp;have hj:smul oN (.pt RP RQ)=.inf:=by rw [AcS,Iu C2 UQ,AHj,GV]
 have hk:smul oN (.pt RS RT)=.inf:=by rw [AcT,Iu C2 Xv,AHk,GV]
 rw [d9 C2 (Ir C2 (B4 C2 IC i) (B4 C2 UQ j)) (B4 C2 Xv k),d9 C2 (B4 C2 IC i) (B4 C2 UQ j),eB C2 IC,AHi,GV,eB C2 UQ,hj,GV,eB C2 Xv,hk,GV];rfl
end
open Ex
theorem AcV (w:World):Calls dn 42 #[.nilIface] w fun e w'=>e=.returned (.int .i64 0)∧w'=w:=by
 go_enter Tryz.func42,Tryz.ntmps42
 go_wp2
 exact ⟨rfl,_,results_tmp rfl _ _ _,rfl,rfl⟩
theorem AcW (w:World):Calls dn 42 #[.iface 31 (.int .i64 210)] w fun e w'=>e=.returned (.int .i64 210)∧w'=w:=by
 have hta:∀ (T:TypeId) (w:World),(Instr.typeAssert (.iface 31 (.int .i64 210)) T 31 true).run dn w=.ok (.tuple #[.int .i64 210,.bool true]) w:=fun T w=>by
  simp [Instr.typeAssert,go_sem]
 have hnot:∀ (x:Bool) (w:World),(Op.unary .not (.bool x)).run dn w=.ok (.bool (!x)) w:=fun _ _=>rfl
 go_enter Tryz.func42,Tryz.ntmps42
 go_wp2
 exact ⟨rfl,_,results_tmp rfl _ _ _,rfl,rfl⟩
theorem AcX (p q:Value) (w:World):CallsD dn 41 #[p,q] .returning w fun e u' w'=>e=.returned (.tuple #[])∧u'=.returning∧w'=w:=by
 refine callsD_of_wpS Tryz.func41 rfl fun c₀ cs hu=>?_
 apply wpS_seq
 apply wpS_region
 simp [wpOpsS,go_sem,recoverD,hu,Tryz.ntmps41,Exit.thenS]
 refine (AcV w).mono ?_
 rintro e w' ⟨rfl,rfl⟩
 show Code.wpS dn _ _ _ _ _;apply wpS_seq
 apply wpS_region
 simp [wpOpsS,go_sem,Exit.thenS]
 refine wpS_cond (t:=false) (by simp [Act.eval,Array.replicate]) ?_
 simp only [Bool.false_eq_true,if_false];refine wpS_of_wp (wp_skip ?_)
 cases c₀
 simp_all [bodyPostS,results,Tryz.results41]
theorem AcY (p q:Addr) (x y:Value) (w:World) (hp:w.cell? p=some x) (hfp:w.frozen? p=false) (hq:w.cell? q=some y) (hfq:w.frozen? q=false) (hne:p.block≠q.block) :
  CallsD dn 41 #[.pointer (some p),.pointer (some q)] (.panicking [{ v:=.iface 31 (.int .i64 210),recovered:=false }]) w fun e u' w' =>
   e=.returned (.tuple #[])∧u'=.panicking [{ v:=.iface 31 (.int .i64 210),recovered:=true }]∧w'=(w.setCell p (.slice none 0 0)).setCell q (.int .i64 210):=by
 refine callsD_of_wpS Tryz.func41 rfl fun c₀ cs hu=>?_
 apply wpS_seq
 apply wpS_region
 simp [wpOpsS,go_sem,recoverD,hu,Tryz.ntmps41,Exit.thenS]
 refine (AcW w).mono ?_
 rintro e w' ⟨rfl,rfl⟩
 show Code.wpS dn _ _ _ _ _;apply wpS_seq
 apply wpS_region
 simp [wpOpsS,go_sem,Exit.thenS]
 refine wpS_cond (t:=true) (by simp [Act.eval,Array.replicate]) ?_
 simp only [if_true];apply wpS_region
 have e1:(w'.setCell p (.slice none 0 0)).cell? q=some y:=by rw [World.cell?_setCell_other (h:=fun h=>hne (gh Addr.block h))];exact hq
 have e2:(w'.setCell p (.slice none 0 0)).frozen? q=false:=by rw [World.frozen?_setCell];exact hfq
 simp [wpOpsS,go_sem,hp,hfp,e1,e2,bodyPostS,results,Tryz.results41]
open Ex Num Rg
open Sh (R av rd mo en mo_en)
def KV:List (TypeId×List (Option IntKind)):=(60,List.replicate 4 (some .u64))::KQ
theorem BJ:Lb dn KV:=⟨⟨dk,dk,dk⟩,DJ⟩
def PW (x:Nat):AV:=.val true [.num 4 x]
def Xw (x:Nat):dp:=(List.range 4).map (AE x)++[]
def R4:Nat:=115792089237316195423570985008687907853269984665640564039457584007913129639936
theorem vP:R4=2^(64*4):=dm
theorem AcZ:Nat.blt rQ R4=true:=dk
theorem AHl:rN<R4:=by rw [rN_eq];exact BP.1 AcZ
theorem AHm:0<rN:=by rw [rN_eq];exact BP.1 dk
theorem Aca (x:Nat):x % rN<R4:=jy (gu _ AHm) AHl
def wd4 (l:dp):dp:=(wl 5 (AI l % AI (AA RL 0 4))).take 4
theorem Acb (off n m:Nat) (xs:dp):AR dn oJn Tryz.f90 300 1 [] (Ah Tryz.f90 [AP 0 off n m] (A8 xs) 1 []) =
 some ([(Nat.ble (off+n) xs.length,true),(AJ .i64 n,true),(true,true),(true,true),(true,true),(true,true),(false,false),(true,true)],[],.val true [.seq .u64 (wd4 (AA xs off n))],[]):=dk
theorem Acc {off n m:Nat} {xs:dp} (hl:off+n≤xs.length) (hn:n≤1125899906842624):Ac dn 90 [AP 0 off n m] (A8 xs) 1 [] (PW (AI (AA xs off n) % rN)) []:=by
 refine BA (BV dO CO Tryz.func90 dk dk (Acb off n m xs) dk ⟨gb hl,Lx hn,rfl,rfl,rfl,rfl,rfl,rfl,trivial⟩) fun β u hu=>?_
 obtain ⟨l,q,rfl⟩:=hu;refine ⟨l,AFK (β:=β) (k:=4) ?_ ?_,rfl⟩
 ·rw [← vP];exact Aca _
 ·unfold wd4 at q;rw [sU,tJ] at q;exact q
noncomputable def SVb1:dt:=(90,DP (W7 fun _ l=>PW (AI l % rN)))::SJn
theorem AHo:AT dn SVb1:=⟨D6 (rD Tryz.func90 dk dk (fun _ _=>rfl) fun _ _ _ _ _ hl hn=>Acc hl hn),dO⟩
noncomputable abbrev oVb1:Orc:=AG SVb1 KV
theorem Acd:OrcOk dn oVb1:=AH AHo BJ
theorem AHp {x:Nat} (h:x<R4):AI (AA (Xw x) 0 4)=x:=by
 have e:AA (Xw x) 0 4=wl 4 x:=by
  unfold AA Xw wl;rw [iq,mc,ko (by simp)]
 rw [e,sO (by rw [← vP];exact h)]
theorem Ace (a:Nat):AK dn oVb1 Tryz.f92 [PW a] [] 300=some (tt 2 [],PW (AI (AA (Xw a) 0 4) % rN)):=dk
theorem Acf {a:Nat} (h:a<R4):AS dn 92 [PW a] (PW (a % rN)):=by
 have h1:=AN Acd AB Tryz.func92 (Ace a) (Ad 2 trivial) rfl
 rw [AHp h] at h1;exact h1
def vQ (g:Nat→AV):List AV→Option AV
 | [.val true a]=>match C0 4 a with
  | some x=>some (g x)
  | none=>none
 | _=>none
theorem Acg {f:FuncId} {g:Nat→AV} (h:∀ x,x<R4→AS dn f [PW x] (g x)):∀ args v,vQ g args=some v→AS dn f args v:=by
 intro args v hs us w ha;unfold vQ at hs;split at hs;case h_2=>cases hs
 rename_i a;split at hs;case h_2=>cases hs
 rename_i x hx;injection hs with hs;subst hs;obtain ⟨u1,us1,⟨l,q,rfl⟩,ha,rfl⟩:=ha;obtain ⟨_,hlt⟩:=G' hx q;exact h x (by rw [vP];exact hlt) _ w ⟨_,_,⟨l,FZ hx q,rfl⟩,ha,rfl⟩
noncomputable def SVb2:dt:=(92,AZ (vQ fun x=>PW (x % rN)))::SVb1
theorem eJ:AT dn SVb2:=⟨Aa Tryz.func92 dk dk (Acg fun _ h=>Acf h),AHo⟩
noncomputable abbrev vR:Orc:=AG SVb2 KV
noncomputable def FJ (n N:Nat):Nat:=if n=32∧N<rN then N else 0
noncomputable def MI (n N:Nat):Int:=if n=32 then (if N<rN then 0 else 61) else 60
noncomputable def Xx (n N:Nat):AV:=.tup [(true,[.num 4 (FJ n N)]),(false,[.v (.int .i64 (MI n N))])]
def AHq:List Ch:=[.n .u64 0,.n .u64 0,.n .u64 0,.n .u64 0]
def fr0 (e:Int):AV:=.tup [(true,AHq),(false,[.n .i64 e])]
theorem AHs {β:Env} {v:Value} (h:Bi β true AHq v):Bi β true [.num 4 0] v:=by
 obtain ⟨l,q,rfl⟩:=h;exact ⟨l,FZ (k:=4) (x:=0) dk q,rfl⟩
theorem Ach (off n m:Nat) (xs:dp):AR dn vR Tryz.f97 300 1 [] (Ah Tryz.f97 [AP 0 off n m] (Ax xs) 1 dw) =
 some ([(AJ .i64 n,true),(!decide ((n:Int)=32),true)],[],fr0 60,[]):=dk
noncomputable def frC (off:Nat) (xs:dp) (b:Bool):dr:=[(true,true),(false,false),(Nat.ble (off+32) xs.length,true),(true,true),(true,true),(!decide (Ak (AA xs off 32) % rN=Ak (AA xs off 32)),b)]
theorem Aci (off m:Nat) (xs:dp):AR dn vR Tryz.f97 300 1 [] (Ah Tryz.f97 [AP 0 off 32 m] (Ax xs) 1 dz)=some (frC off xs true,[],fr0 61,[]):=dk
theorem Acj (off m:Nat) (xs:dp):AR dn vR Tryz.f97 300 1 [] (Ah Tryz.f97 [AP 0 off 32 m] (Ax xs) 1 d_) =
 some (frC off xs false,[],.tup [(true,[.num 4 (Ak (AA xs off 32))]),(false,[.n .i64 0])],[]):=dk
theorem Ack {off n m:Nat} {xs:dp} (hl:off+n≤xs.length) (hn:AJ .i64 n=true) :
  Ac dn 97 [AP 0 off n m] (Ax xs) 1 [] (Xx n (Ak (AA xs off n))) []:=by
 have hmod:∀ N:Nat,decide (N % rN=N)=decide (N<rN):=fun N=>by
  by_cases h:N<rN
  ·rw [fu h,fu (ge h)]
  ·rw [ga h,ga fun e=>h (by rw [← e];exact gu _ AHm)]
 by_cases h:n=32
 ·subst h;by_cases hN:Ak (AA xs off 32)<rN
  ·refine BA (BV eJ BJ Tryz.func97 dk dk (Acj off m xs) dk ⟨rfl,rfl,gb hl,rfl,rfl,by rw [hmod,fu hN];rfl,trivial⟩) fun β u hu=>?_
   unfold Xx FJ MI;rw [fw ⟨rfl,hN⟩,fw rfl,fw hN];exact CZ (fun _ q=>q) (fun _ q=>D8 rfl q) hu
  ·refine BA (BV eJ BJ Tryz.func97 dk dk (Aci off m xs) dk ⟨rfl,rfl,gb hl,rfl,rfl,by rw [hmod,ga hN];rfl,trivial⟩) fun β u hu=>?_
   unfold Xx FJ MI;rw [fv (fun q=>hN q.2),fw rfl,fv hN]
   exact CZ (fun _ q=>AHs q) (fun _ q=>D8 rfl q) hu
 ·refine BA (BV eJ BJ Tryz.func97 dk dk (Ach off n m xs) dk ⟨hn,by simp;omega,trivial⟩) fun β u hu=>?_
  unfold Xx FJ MI;rw [fv (fun q=>h q.1),fv h]
  exact CZ (fun _ q=>AHs q) (fun _ q=>D8 rfl q) hu
noncomputable def SVb3:dt:=(97,DP (W6 fun n l=>Xx n (Ak l)))::SVb2
theorem eK:AT dn SVb3:=⟨D6 (rC Tryz.func97 dk dk (fun _ _=>rfl) fun _ _ _ _ _ hl hn=>Ack hl hn),eJ⟩
noncomputable abbrev oVb3:Orc:=AG SVb3 KV
theorem AHu:OrcOk dn oVb3:=AH eK BJ
open Ex Num Rg
open Go.RowKit (Below)
open Sh (R av rd mo en mo_en)
def zN:Nat:=Int.toNat 0+18446744073709551616*(Int.toNat 0+18446744073709551616*(Int.toNat 0+18446744073709551616*(Int.toNat 0+18446744073709551616*0)))
theorem Acl:zN=0:=dk
section
variable (n m:Nat) (xs:dp)
noncomputable def eM (p:List Bool):ASt:=Ah Tryz.f44 [AP 0 0 n m] (Ax xs) 1 p
noncomputable def vS (r:dr):dr:=(Nat.ble (0+n) xs.length,true)::(AJ .i64 n,true)::r
theorem Acm:AR dn oVb3 Tryz.f44 300 1 [1] (eM n m xs d_)=some (vS n xs [(!decide (MI n (Ak (AA xs 0 n))=0),false),(decide (FJ n (Ak (AA xs 0 n))=zN),false)],[],AP 1 0 4 4,[(1,some ⟨60,[.num 4 (FJ n (Ak (AA xs 0 n)))],false⟩)]):=dk
noncomputable def ID (x:Option (dr×List Nat×ASt)):ASt:=match x with | some (_,_,y)=>y | none=>⟨[],⟨[],[],0,[]⟩⟩
noncomputable def Xy (p:List Bool):ASt:=ID (FV dn oVb3 8 1 (eM n m xs p))
theorem Acn:FV dn oVb3 8 1 (eM n m xs dw)=some (vS n xs [(!decide (MI n (Ak (AA xs 0 n))=0),true)],[],Xy n m xs dw):=dk
theorem Aco:FV dn oVb3 8 1 (eM n m xs dz)=some (vS n xs [(!decide (MI n (Ak (AA xs 0 n))=0),false),(decide (FJ n (Ak (AA xs 0 n))=zN),true)],[],Xy n m xs dz):=dk
noncomputable def scI:List Item:=(Xy 0 0 [] dw).todo
theorem Acp:(Xy n m xs dw).todo=.code (.region (WH scI) (HD scI) false)::TO scI:=dk
theorem Acq:(Xy n m xs dz).todo=.code (.region (WH scI) (HD scI) false)::TO scI:=dk
end
noncomputable abbrev scO:Array Oper:=HD scI
theorem Acr {Q:Exit→Act→World→Prop} {a:Act} {w:World} (ht:17<a.tmps.size) (h:∀ a',a'.defers=a.defers→Q (.panic [{ v:=.iface 31 (.int .i64 210),recovered:=false }]) a' w):wpOps dn scO Q [0,1] a w :=
 ANP (k:=.i64) (t:=17) (T:=31) (v:=.int .i64 210) (o0:=scO.getD 0 default) (o1:=scO.getD 1 default) dk dk dk dk dk dk dk dk ht h
noncomputable def GH (n N:Nat):Bool:=decide (MI n N=0)&&!decide (FJ n N=zN)
theorem vT {n N:Nat}:GH n N=true↔n=32∧N<rN∧N≠0:=by
 unfold GH MI FJ;rw [Acl];by_cases h1:n=32
 ·by_cases h2:N<rN
  ·by_cases h3:N=0<;>simp [h1,h2,h3]
  ·simp [h1,h2]
 ·simp [h1]
theorem Acs {n m:Nat} {xs:dp} (hl:n≤xs.length) (hn:AJ .i64 n=true) (hk:GH n (Ak (AA xs 0 n))=true) :
  Ac dn 44 [AP 0 0 n m] (Ax xs) 1 [] (AP 1 0 4 4) [(1,some ⟨60,[.num 4 (FJ n (Ak (AA xs 0 n)))],false⟩)]:=by
 unfold GH at hk;simp only [gi,Bool.not_eq_true',gc,decide_eq_false_iff_not] at hk;exact BV eK BJ Tryz.func44 dk dk (Acm n m xs) dk ⟨gb dl,hn,by rw [fu hk.1];rfl,ga hk.2,trivial⟩
noncomputable def errC:List PanicEntry:=[{ v:=.iface 31 (.int .i64 210),recovered:=false }]
theorem Acu {n m:Nat} {xs:dp} (hl:n≤xs.length) (hn:AJ .i64 n=true) (hk:GH n (Ak (AA xs 0 n))=false):ANM dn 44 [AP 0 0 n m] (Ax xs) 1 errC:=by
 intro β us w ha hg hf;have fin:∀ (y:ASt),y.todo=.code (.region (WH scI) (HD scI) false)::TO scI→ASafe dn 44 β w (fun e w'=>e=.panicked errC∧Below w.heap.size w w') Tryz.f44.ntmps [] y:=by
  intro y hy β' a w' hi _;rw [hy];refine Safe.of_wpP Tryz.func44 (wp_region ?_)
  have hs:List.range (HD scI).size=[0,1]:=dk
  rw [hs];refine Acr (by rw [hi.sz];decide) fun a' ha'=>.inr ⟨errC,rfl,?_⟩
  rw [ha',hi.dfr];exact ⟨rfl,hi.os,hi.tape,hi.output,hi.size,fun k hk=>hi.frame k hk fun _ _ h=>by cases h⟩
 have hl':Nat.ble (0+n) xs.length=true:=gb dl
 by_cases he:MI n (Ak (AA xs 0 n))=0
 ·have hz:FJ n (Ak (AA xs 0 n))=zN:=by
   unfold GH at hk;rw [fu he] at hk;simpa using hk
  refine WA (args:=[AP 0 0 n m]) (H:=Ax xs) (k0:=1) (path:=dz) Tryz.func44 dk dk ?_ ha hg hf
  exact QQ AHu AB (Aco n m xs) ⟨hl',hn,by rw [fu he];rfl,fu hz,trivial⟩ (AQ dk) hf ft fun _=>fin _ (Acq n m xs)
 ·refine WA (args:=[AP 0 0 n m]) (H:=Ax xs) (k0:=1) (path:=dw) Tryz.func44 dk dk ?_ ha hg hf
  exact QQ AHu AB (Acn n m xs) ⟨hl',hn,by rw [ga he];rfl,trivial⟩ (AQ dk) hf ft fun _=>fin _ (Acp n m xs)
noncomputable def secSp:ASpec:=fun args H fr path=>match args with
 | [S]=>match H8 S with
  | some (k,n,m)=>match AF H k with
   | some ⟨_,cs,_⟩=>match Az .u8 cs with
    | some xs=>some (BI [k] 1 fr 1 [] (AP 1 0 4 4) [(1,some ⟨60,[.num 4 (FJ n (Ak (AA xs 0 n)))],false⟩)] [(Nat.ble n xs.length,true),(Nat.ble n m,true),(AJ .i64 n,true),(GH n (Ak (AA xs 0 n)),true)] path)
    | none=>none
   | _=>none
  | none=>none
 | _=>none
theorem Acv:A' dn 44 secSp:=by
 refine DC Tryz.func44 dk dk fun args H fr path r hs=>?_
 unfold secSp at hs;split at hs;case h_2=>cases hs
 rename_i S;split at hs;case h_2=>cases hs
 rename_i k n m hS;split at hs;case h_2=>cases hs
 rename_i ty cs o hk';split at hs;case h_2=>cases hs
 rename_i xs hxs;injection hs with hs;refine ⟨[k],1,1,[],_,_,_,path,hs.symm,fun β us w ha hg hc=>?_⟩
 obtain ⟨u1,us1,r1,ha,rfl⟩:=ha;obtain ⟨hl,hm,hn,hb,_⟩:=hc;obtain ⟨m',_,r1⟩:=JY hS (f_ hm) r1
 obtain ⟨g1,g2,g3⟩:=ED hg hk' hxs;exact ⟨[AP 0 0 n m'],Ax xs,Acs (f_ hl) hn hb,dk,⟨u1,_,CJ dl rfl r1,ha,rfl⟩,g2,g3⟩
noncomputable def SVc:dt:=(44,secSp)::SVb3
theorem AHv:AT dn SVc:=⟨Acv,eK⟩
noncomputable abbrev oVc:Orc:=AG SVc KV
theorem Xz:OrcOk dn oVc:=AH AHv BJ
end Go.Proofs.YtgnajdcdcblaoaaGreat
