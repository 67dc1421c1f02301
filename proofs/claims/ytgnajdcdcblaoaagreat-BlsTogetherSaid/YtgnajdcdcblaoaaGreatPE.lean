/- Part 5 of the proof. -/
import Derived.Test.YtgnajdcdcblaoaaGreatPD
import Derived.Test.YtgnajdcdcblaoaaGreatPC
import Derived.Test.YtgnajdcdcblaoaaGreatPB
import Derived.Tactics
import Derived.Tactics2
set_option maxRecDepth 100000
set_option maxHeartbeats 4000000
open Go.Proofs.Tryz renaming prog→dm
open Go.Proofs.Tryz
namespace Go.Proofs.YtgnajdcdcblaoaaGreat
open Ex Num Rg
open Sh (R av rd mo en mo_en)
noncomputable section
abbrev oJd:gr:=AH SJd KH
theorem AG_:gp dm oJd:=AJ AG9 Ct
def SJe:dr:=(112,BF dm oJd f112 100)::(50,BF dm oJd f50 500)::SJd
theorem AG':AW dm SJe:=⟨BK AG_ AB func112 dj dj 100,BK AG_ AB func50 dj dj 500,AG9⟩
abbrev oJe:gr:=AH SJe KH
theorem v5:gp dm oJe:=AJ AG' Ct
def EG (a:gj):Bool:=if a.b=0 then BP a.a.val else BP a.b.val
theorem AYJ (r:R gj):AM dm oJe f101 [va gj r] du 300=some ([(dq (re FP r.2) 0,true)],Av (BP r.1)):=dj
theorem AYK (r:R gj):AM dm oJe f101 [va gj r] dt 300=some ([(dq (re FP r.2) 0,false)],Av (BP r.2)):=dj
theorem fG (x:Nat):BP x=BP (tf x).val:=by
 unfold BP DC;show _=decide ((pN-x % pN % pN) % pN<x % pN % pN);rw [m_]
theorem AYL (r:R gj):AU dm 101 [va gj r] (Av (EG (mo r))):=by
 have e:dq (re FP r.2) 0=decide ((mo r:gj).b=0):=M0 (mo r:gj).b 0
 have h1:=AYJ r;have h2:=AYK r;unfold EG;by_cases h:(mo r:gj).b=0
 ·rw [je h];rw [show BP r.1=BP (mo r:gj).a.val from fG _] at h1
  exact AP v5 AB func101 h1 ⟨by rw [e];exact jc h,trivial⟩ rfl
 ·rw [jd h];rw [show BP r.2=BP (mo r:gj).b.val from fG _] at h2
  exact AP v5 AB func101 h2 ⟨by rw [e];exact jg h,trivial⟩ rfl
def SJf:dr:=(51,BF dm oJe f51 300)::(101,Ac (Bi gj fun r=>Av (EG (mo r))))::SJe
theorem M2:AW dm SJf:=⟨BK v5 AB func51 dj dj 300,Ad func101 dj dj (Bm AYL),AG'⟩
abbrev oJf:gr:=AH SJf KH
theorem E9:gp dm oJf:=AJ M2 Ct
def E_ (l:dn) (f:Int):dn:=l.set 0 (bits .or .u8 (l.getD 0 0) f)
def b1 (p:Pt FP):dn:=Co (EF p % pN) 48++Co (CM p % pN) 48
def eE (s:Bool) (k:Nat):AV:=match s with
 | true=>.tup [(false,[.sl 7 0 k k]),(false,[.n .i64 0])]
 | false=>.tup [(false,[.sx 7 (2*k) 1]),(false,[.n .i64 0])]
def eH (l:dn):Heap:=[(7,some ⟨5,[.seq .u8 l],true⟩)]
section
variable (x y:Nat) (i:Bool)
noncomputable def YI (s:Bool) (p:List Bool):gq:=Aj f23 [By x y i,.val false [.b s]] [] 0 p
theorem AYM (s:Bool):AT dm oJf f23 800 0 [] (YI x y i s du)=some ([(!BT (An x y i),true)],[],.tup [(false,[.v (.slice none 0 0)]),(false,[.n .i64 140])],[]):=dj
def eC (p:Pt FP) (r:dp):dp:=(!BT p,false)::tt 10 ((false,false)::r)
theorem AYN:AT dm oJf f23 800 0 [7] (YI x y i true [false,true,true,false,true,false])=some (eC (An x y i) (tt 10 ((Aq (An x y i),true)::tt 4 [(BP (CM (An x y i)),false)])),[],eE true 48,eH (E_ (E_ (b1 (An x y i)) 128) 64)):=dj
theorem AYO:AT dm oJf f23 800 0 [7] (YI x y i true [false,true,true,false,false,true,true])=some (eC (An x y i) (tt 10 ((Aq (An x y i),false)::(BP (CM (An x y i)),true)::(!Aq (An x y i),true)::tt 4 [])),[],eE true 48,eH (E_ (E_ (b1 (An x y i)) 128) 32)):=dj
theorem AYP:AT dm oJf f23 800 0 [7] (YI x y i true [false,true,true,false,false,false])=some (eC (An x y i) (tt 10 [(Aq (An x y i),false),(BP (CM (An x y i)),false)]),[],eE true 48,eH (E_ (b1 (An x y i)) 128)):=dj
end
def FN (s:Bool) (p:Pt FP):dn:=match s,Aq p with
 | false,true=>E_ (b1 p) 64
 | false,false=>b1 p
 | true,true=>E_ (E_ (b1 p) 128) 64
 | true,false=>if BP (CM p)=true then E_ (E_ (b1 p) 128) 32 else E_ (b1 p) 128
theorem AYQ {x y:Nat} {i:Bool} (hin:BT (An x y i)=true):Ab dm 23 [By x y i,.val false [.b true]] [] 0 [] (eE true 48) (eH (FN true (An x y i))):=by
 have h3:=AYN x y i;have h4:=AYO x y i;have h5:=AYP x y i;unfold YI at *
 generalize An x y i=p at *
 have hC:∀ r,AO r→AO (eC p r):=fun r hr=>⟨by rw [hin];rfl,AI 10 ⟨rfl,hr⟩⟩
 unfold FN;cases hp:Aq p with
 | true =>
  have hb:BP (CM p)=false:=by
   have:p=.inf:=by cases p with | inf=>rfl | pt a b=>cases hp
   rw [this];rfl
  exact Bs M2 Ct func23 dj dj h3 dj (hC _ (AI 10 ⟨hp,AI 4 ⟨hb,trivial⟩⟩))
 | false =>
  by_cases hb:BP (CM p)=true
  ·simp only [je hb];exact Bs M2 Ct func23 dj dj h4 dj (hC _ (AI 10 ⟨hp,hb,by rw [hp];rfl,AI 4 trivial⟩))
  ·simp only [jd hb];exact Bs M2 Ct func23 dj dj h5 dj (hC _ (AI 10 ⟨hp,by simpa using hb,trivial⟩))
end
noncomputable section
def U8 (x:Nat):dn:=Co (x % pN) 48
def b2 (p:P2):dn:=((U8 (rX p).2++U8 (rX p).1)++U8 (rY p).2)++U8 (rY p).1
def v6 (s:Bool) (p:P2):dn:=match s,E4 p with
 | false,true=>E_ (b2 p) 64
 | false,false=>b2 p
 | true,true=>E_ (E_ (b2 p) 128) 64
 | true,false=>if EG (J' p)=true then E_ (E_ (b2 p) 128) 32 else E_ (b2 p) 128
def U9 (e:Int):AV:=.tup [(false,[.v (.slice none 0 0)]),(false,[.n .i64 e])]
def v7 (α:Type) [Sh α] (inn:α→Bool) (V:Bool→AV) (H:Bool→α→Heap) (nw:Nat):ASpec:=fun args _ fr gv=>match args with
 | [.val true a,B]=>match (rd a:Option (R α)),F0 (some B),gv with
  | some r,some (_,_),true::gy=>some (BR [] 0 fr 0 [] (U9 140) [] [(inn (mo r),false)] gy)
  | some r,some (_,true),false::gy=>some (BR [] 0 fr nw [] (V true) (H true (mo r)) [(inn (mo r),true)] gy)
  | _,_,_=>none
 | _=>none
theorem R2 {β β':Env} {B:AV} {c s:Bool} {u:Value} (h:F0 (some B)=some (c,s)) (hr:AN β B u):AN β' (.val false [.b s]) u:=by
 have:=Kz (β:=β) (u:=u) (fm hr) h
 subst this;exact Aw rfl
theorem AYR {α:Type} [Sh α] {inn:α→Bool} {V:Bool→AV} {H:Bool→α→Heap} {nw:Nat} {f:FuncId} {fn:Func} (ip:dm.funcs[f]? = some fn) (hb:fn.body.isSome=true) (h_:fo fn) (hk:∀ s x,EU 0 nw [] (V s) (H s x)=true)
  (h0:∀ (r:R α) (s:Bool),inn (mo r)=false→Ab dm f [va α r,.val false [.b s]] [] 0 [] (U9 140) [])
  (h1:∀ (r:R α),inn (mo r)=true→Ab dm f [va α r,.val false [.b true]] [] 0 [] (V true) (H true (mo r))):BJ dm f (v7 α inn V H nw):=by
 have hg':∀ (β:Env) (H0:Heap) (w:World),Ex.Good β H0 w→Ex.Good (A9 β [] 0) [] w:=fun β _ w _=>by
  have hn:∀ b,A9 β [] 0 b=none:=fun b=>by
   unfold A9;have:Nat.blt b 0=false:=by cases b<;>rfl
   rw [this]
  exact ⟨(fun b blk h=>by cases h),(fun b b' B n n' h=>by cases h),(fun b B n h=>by rw [hn] at h;cases h)⟩
 refine Da ip hb h_ fun args H0 fr gv r hs=>?_
 unfold v7 at hs;split at hs;case h_2=>cases hs
 rename_i a B;split at hs;case h_3=>cases hs
 all_goals injection hs with hs
 ·rename_i q c s gy hx hB;refine ⟨[],0,0,[],_,_,_,_,hs.symm,fun β us w ha hgd hc=>?_⟩
  obtain ⟨u1,iu,r1,⟨u2,iw,r2,ha,rfl⟩,rfl⟩:=ha;exact ⟨[va α q,.val false [.b s]],[],h0 q s hc.1,dj,⟨u1,_,F_ hx r1,⟨u2,iw,R2 hB r2,ha,rfl⟩,rfl⟩,hg' β H0 w hgd,fun k hk=>by omega⟩
 ·rename_i q c gy hx hB;refine ⟨[],0,nw,[],_,_,_,_,hs.symm,fun β us w ha hgd hc=>?_⟩
  obtain ⟨u1,iu,r1,⟨u2,iw,r2,ha,rfl⟩,rfl⟩:=ha;exact ⟨[va α q,.val false [.b true]],[],h1 q hc.1,hk _ _,⟨u1,_,F_ hx r1,⟨u2,iw,R2 hB r2,ha,rfl⟩,rfl⟩,hg' β H0 w hgd,fun k hk=>by omega⟩
theorem AYS (r:R (Pt FP)) (s:Bool) (h:BT (mo r)=false):Ab dm 23 [va (Pt FP) r,.val false [.b s]] [] 0 [] (U9 140) [] :=
 Bs M2 Ct func23 dj dj (AYM r.1 r.2.1 r.2.2 s) dj ⟨by rw [show BT (An r.1 r.2.1 r.2.2)=false from h];rfl,trivial⟩
def SJg:dr:=(23,v7 (Pt FP) BT (fun s=>eE s 48) (fun s p=>eH (FN s p)) 8)::SJf
theorem AYT:AW dm SJg:=⟨AYR func23 dj dj (fun s _=>by cases s<;>kernel_rfl) AYS (fun r h=>AYQ (x:=r.1) (y:=r.2.1) (i:=r.2.2) h),M2⟩
end
open Ex Num Rg
open Ex Num Rg
open Sh (R av rd mo en mo_en)
noncomputable section
def KF {α:Type} (x:Nat) (k:Nat→α):α:=Nat.rec (k 0) (fun n _=>k (Nat.succ n)) x
theorem LW {α:Type} (x:Nat) (k:Nat→α):KF x k=k x:=by cases x<;>rfl
section
variable {F:Type} [Sh F] [FD F]
def fH (fc:R (J F)→(R (J F)→Bool)→Bool) (z:R F→Bool) (a b:F) (N:Nat) (i:Nat):R (J F)→Bool :=
 Nat.rec (fun r=>z r.2.2) (fun i ih r=>fc (en (B0 (mo r:J F))) fun s=>cond (Nat.beq (N / 2^i % 2) 1) (fc (en (F9 (mo s:J F) a b)) ih) (ih s)) i
theorem AYU (C:Cv F) {fc:R (J F)→(R (J F)→Bool)→Bool} {z:R F→Bool} {a b:F} {N:Nat} (hfc:∀ r k,fc r k=k r) (hz:∀ r:R F,z r=true→(mo r:F)=0) (hP:On C.b (.pt a b)) :
  ∀ (i:Nat) (r:R (J F)),CI (mo r:J F)=smul (N / 2^i) (.pt a b)→fH fc z a b N i r=true→smul N (.pt a b)=.inf:=by
 intro i;induction i with
 | zero =>
  intro r hr h;rw [kf,ko] at hr;rw [← hr];exact G1 (hz r.2.2 h)
 | succ i ih =>
  intro r hr h;have h':fc (en (B0 (mo r:J F))) (fun s=>cond (Nat.beq (N / 2^i % 2) 1) (fc (en (F9 (mo s:J F) a b)) (fH fc z a b N i)) (fH fc z a b N i s))=true:=h
  rw [hfc,hfc] at h';have hdiv:N / 2^i=2*(N / 2^(i+1))+N / 2^i % 2:=by
   rw [kt,← kw];omega
  have hoj:On C.b (CI (mo r:J F)):=by rw [hr];exact CH C hP _
  have htw:CI (B0 (mo r:J F))=smul (2*(N / 2^(i+1))) (.pt a b):=by
   rw [Rs C hoj,hr,← JQ C hP,qf]
  have htw':CI (mo (en (B0 (mo r:J F)):R (J F)):J F)=smul (2*(N / 2^(i+1))) (.pt a b):=by rw [mo_en];exact htw
  cases hb:Nat.beq (N / 2^i % 2) 1 with
  | true =>
   rw [hb] at h';have h1:=mn hb;refine ih _ ?_ h'
   rw [mo_en,Uq C (by rw [htw'];exact CH C hP _),htw']
   rw [hdiv,h1];rfl
  | false =>
   rw [hb] at h';have h1:N / 2^i % 2=0:=by
    have:=Nat.ne_of_beq_eq_false hb
    omega
   refine ih _ ?_ h'
   rw [htw',hdiv,h1];rfl
end
def v8 (r:R (J FP)) (k:R (J FP)→Bool):Bool:=KF r.1 fun x=>KF r.2.1 fun y=>KF r.2.2 fun z=>k (x,y,z)
theorem AYV (r:R (J FP)) (k:R (J FP)→Bool):v8 r k=k r:=by unfold v8;rw [LW,LW,LW];rfl
def Fs (r:R (J gj)) (k:R (J gj)→Bool):Bool:=KF r.1.1 fun x=>KF r.1.2 fun x'=>KF r.2.1.1 fun y=>KF r.2.1.2 fun y'=>KF r.2.2.1 fun z=>KF r.2.2.2 fun z'=>k ((x,x'),(y,y'),(z,z'))
theorem AYW (r:R (J gj)) (k:R (J gj)→Bool):Fs r k=k r:=by unfold Fs;rw [LW,LW,LW,LW,LW,LW];rfl
def zr1 (r:R FP):Bool:=Nat.beq r 0
theorem v9 (r:R FP) (h:zr1 r=true):(mo r:FP)=0:=by
 have:r=(0:Nat):=mn h
 rw [this];exact tf_zero
def YJ (r:R gj):Bool:=Nat.beq r.1 0&&Nat.beq r.2 0
theorem fI (r:R gj) (h:YJ r=true):(mo r:gj)=0:=by
 obtain ⟨h1,h2⟩:=jo.1 h;exact Qx.ext (v9 r.1 h1) (v9 r.2 h2)
theorem AYX:rQ / 2^255=0:=dj
theorem fJ:BE G1B=true:=(uN gX gY).symm.trans dj
theorem AYY:fH v8 zr1 (tf gX) (tf gY) rQ 255 (en (⟨0,0,0⟩:J FP))=true:=dj
theorem rG1:smul rN G1B=.inf:=by
 rw [rN_eq];exact AYU C1 AYV v9 ((LR G1B).1 fJ) 255 _ (by rw [mo_en,AYX,G1 rfl];rfl) AYY
theorem YK:BT G1B=true:=by unfold BT;rw [fJ,rG1];rfl
end
open Ex Num
noncomputable section
def YL (xs ys:dn):Heap:=[(0,some (Ak [.seq .u8 xs])),(1,some (Ak [.seq .u8 ys]))]
noncomputable def wA (gu n m gw n' m':Nat) (xs ys:dn) (p:List Bool):gq:=Aj f25 (J0 gu n m gw n' m') (YL xs ys) 2 p
noncomputable def AYZ:List Item:=CB (AY dm (AH S10 K0) (some 0) 100 2 none (wA 0 0 0 0 0 0 [] [] dt))
noncomputable def saT (gu n m gw n' m':Nat) (i:Int):List AV:=.val false [.sl 0 gu n m]::.val false [.sl 1 gw n' m']::.any::.any::.any::.val false [.n .i64 i]::List.replicate (f25.ntmps-6) .any
noncomputable def R3 (gu n m gw n' m':Nat) (xs ys:dn) (i:Int) (p:List Bool):gq:=⟨AYZ,⟨saT gu n m gw n' m' i,YL xs ys,2,p⟩⟩
abbrev saK:Option (List Nat×List Nat×Nat):=some ([0,1,5],[0,1],2)
section
variable (gu n m gw n' m':Nat) (xs ys:dn) (i:Int)
theorem AYb:AY dm (AH S10 K0) (some 0) 100 2 saK (wA gu n m gw n' m' xs ys dt)=some ([(AL .i64 n,true),(AL .i64 n',true),(!decide ((n:Int)=n'),false)],[],R3 gu n m gw n' m' xs ys 0 []):=dj
theorem AYc:AT dm (AH S10 K0) f25 100 2 [] (wA gu n m gw n' m' xs ys du)=some ([(AL .i64 n,true),(AL .i64 n',true),(!decide ((n:Int)=n'),true)],[],.val false [.b false],[]):=dj
def wB (d:Bool) (r:dp):dp:=(AL .i64 n,true)::(decide (i<n),true)::(decide (0≤i∧i<n),true)::(decide (gu+i.toNat*1<xs.length),true)::(decide (0≤i∧i<n'),true)::(decide (gw+i.toNat*1<ys.length),true)::(!decide (xs.getD (gu+i.toNat*1) 0=ys.getD (gw+i.toNat*1) 0),d)::r
theorem AYd:AY dm (AH S10 K0) (some 0) 100 2 saK (R3 gu n m gw n' m' xs ys i d_)=some (wB gu n gw n' xs ys i false [],[],R3 gu n m gw n' m' xs ys (AX true .i64 (i+1)) []):=dj
theorem AYe:AT dm (AH S10 K0) f25 100 2 [] (R3 gu n m gw n' m' xs ys i dw)=some (wB gu n gw n' xs ys i true [],[],.val false [.b false],[]):=dj
theorem AYf:AT dm (AH S10 K0) f25 100 2 [] (R3 gu n m gw n' m' xs ys i dt)=some ([(AL .i64 n,true),(decide (i<n),false)],[],.val false [.b true],[]):=dj
theorem wC (p:List Bool):Be f25.ntmps (R3 gu n m gw n' m' xs ys i p).s:=AS dj
end
def P1 (a b:dn):Bool:=decide (a=b)
theorem fK {xs:dn} {gu n j:Nat} (h:j<n):(AA xs gu n).getD j 0=xs.getD (gu+j) 0:=by
 unfold AA;rw [j_,j_,qz h,qk]
theorem U_ {xs:dn} {gu n:Nat} (h:gu+n≤xs.length):(AA xs gu n).length=n:=by
 unfold AA;rw [ke,kv];omega
theorem wD {β:Env} {x y:Bool} {u:Value} (e:x=y) (h:AN β (.val false [.b x]) u):AN β (Av y) u:=by
 subst e;obtain ⟨l1,l2,h1,h2,h3⟩:=h;exact ⟨l1,l2,⟨h1,rfl,trivial⟩,h2,h3⟩
section
variable {gu n m gw m':Nat} {xs ys:dn} (hl:gu+n≤xs.length) (hl':gw+n≤ys.length) (hn:AL .i64 n=true) {β0:Env} {w0:World} (hb:∀ b,2≤b→β0 b=none)
include hl hl' hn hb
theorem AYg:∀ c i:Nat,i+c=n→(∀ j,j<i→xs.getD (gu+j) 0=ys.getD (gw+j) 0) →
  gn dm 25 β0 w0 (A_ β0 w0 [] (Av (P1 (AA xs gu n) (AA ys gw n))) []) f25.ntmps [] (R3 gu n m gw n m' xs ys (i:Nat) []):=by
 have bn:n≤9223372036854775807:=by simp only [AL,jm,ji] at hn;omega
 intro c;induction c with
 | zero =>
  intro i hi heq;have e:P1 (AA xs gu n) (AA ys gw n)=true:=jc (rj (by rw [U_ hl,U_ hl']) fun j h1 h2=>by
   rw [U_ hl] at h1;have h3:=heq j dk;rw [← fK h1,← fK h1,j_,j_,mq (by rw [U_ hl];exact h1),mq h2] at h3
   exact h3)
  refine Af dt (IX (Ay (AJ LJ Ae) AB func25 (AYf ..) ⟨hn,jg dk,trivial⟩ (wC ..) hb jb) fun _ _=>wD e.symm)
 | succ c ih =>
  intro i hi heq;have et:((i:Nat):Int).toNat=i:=jn i
  have hC:∀ d r,(!decide (xs.getD (gu+i) 0=ys.getD (gw+i) 0))=d→AO r→AO (wB gu n gw n xs ys (i:Nat) d r):=fun d r hd hr =>
   ⟨hn,jc dk,jc dk,jc (by rw [et];omega),jc dk,jc (by rw [et];omega),by rw [et,kb];exact hd,hr⟩
  by_cases he:xs.getD (gu+i) 0=ys.getD (gw+i) 0
  ·refine Af d_ (Ai (AJ LJ Ae) AB (AYd ..) (hC false [] (by rw [jc he];rfl) trivial) (wC ..) hb jb fun _=>?_)
   rw [XT true dk,show ((i:Nat):Int)+1=((i+1:Nat):Int) from rfl]
   refine ih (i+1) dk fun j hj=>?_
   rcases jv j i with q | q
   ·exact heq j q
   ·rw [show j=i by omega];exact he
  ·have e:P1 (AA xs gu n) (AA ys gw n)=false:=jg fun h=>he (by
    have h3:(AA xs gu n).getD i 0=(AA ys gw n).getD i 0:=by rw [h]
    rw [fK dk,fK dk] at h3;exact h3)
   exact Af dw (IX (Ay (AJ LJ Ae) AB func25 (AYe ..) (hC true [] (by rw [jg he];rfl) trivial) (wC ..) hb jb) fun _ _=>wD e.symm)
end
theorem AYh {gu n m gw n' m':Nat} {xs ys:dn} (hl:gu+n≤xs.length) (hl':gw+n'≤ys.length) (hn:AL .i64 n=true) (hn':AL .i64 n'=true) :
  Ab dm 25 (J0 gu n m gw n' m') (YL xs ys) 2 [] (Av (P1 (AA xs gu n) (AA ys gw n'))) []:=by
 by_cases he:n=n'
 ·subst he;refine A7 (gv:=dt) func25 dj dj fun β0 w0 hb=>?_
  exact Ai (AJ LJ Ae) AB (AYb gu n m gw n m' xs ys) ⟨hn,hn',by rw [jc rfl];rfl,trivial⟩ (AS dj) hb jb fun _=>AYg hl hl' hn hb n 0 dk fun j hj=>absurd hj (oi j)
 ·have e:P1 (AA xs gu n) (AA ys gw n')=false:=jg fun h=>he (by
   have h3:=jl List.length h
   rwa [U_ hl,U_ hl'] at h3)
  exact BL (Bs LJ Ae func25 dj dj (AYc gu n m gw n' m' xs ys) dj ⟨hn,hn',by rw [jg dk];rfl,trivial⟩) fun _ _=>wD e.symm
theorem AYi {β:Env} {H:Heap} {w:World} {k t:Nat} {ty ty':Nat} {cs ds:List Ch} {o o':Bool} {xs ys:dn} (hg:Ex.Good β H w) (hk:AG H k=some ⟨ty,cs,o⟩) (ht:AG H t=some ⟨ty',ds,o'⟩) (iy:A8 .u8 cs=some xs) (hys:A8 .u8 ds=some ys) :
  Ex.Good (A9 β [k,t] 2) (YL xs ys) w∧(∀ j,j<2→∃ X,β (nth [k,t] j)=some X):=by
 refine ⟨ADV (c:=[.seq .u8 xs]) (e:=[.seq .u8 ys]) hg hk ht (fun l h=>?_) (fun l h=>?_),fun j hj=>?_⟩
 ·obtain ⟨q1,q2⟩:=DU iy h;exact ⟨_,[],⟨q1,q2⟩,rfl,by simp⟩
 ·obtain ⟨q1,q2⟩:=DU hys h;exact ⟨_,[],⟨q1,q2⟩,rfl,by simp⟩
 ·match j,hj with
  | 0,_=>exact CS (hg.heap _ _ hk)
  | 1,_=>exact CS (hg.heap _ _ ht)
noncomputable def smSp:ASpec:=fun args H fr gv =>
 match args with
 | [A,B]=>match DZ A,DZ B with
  | some (k,gu,n),some (t,gw,n')=>match AG H k,AG H t with
   | some ⟨_,cs,_⟩,some ⟨_,ds,_⟩=>match A8 .u8 cs,A8 .u8 ds with
    | some xs,some ys=>some (BR [k,t] 2 fr 0 [] (Av (P1 (AA xs gu n) (AA ys gw n'))) [] [(Nat.ble (gu+n) xs.length,true),(Nat.ble (gw+n') ys.length,true),(AL .i64 n,true),(AL .i64 n',true)] gv)
    | _,_=>none
   | _,_=>none
  | _,_=>none
 | _=>none
theorem AYj:BJ dm 25 smSp:=by
 refine Da func25 dj dj fun args H fr gv r h=>?_
 unfold smSp at h;split at h;case h_2=>cases h
 rename_i A B;split at h;case h_2=>cases h
 rename_i k gu n t gw n' hA hB;split at h;case h_2=>cases h
 rename_i ty cs o ty' ds o' hk ht;split at h;case h_2=>cases h
 rename_i xs ys iy hys;injection h with h;refine ⟨[k,t],2,0,[],_,_,_,gv,h.symm,fun β us w ha hg hc=>?_⟩
 obtain ⟨u1,iu,r1,⟨u2,iw,r2,ha,rfl⟩,rfl⟩:=ha;obtain ⟨m,r1⟩:=FE hA r1;obtain ⟨m',r2⟩:=FE hB r2;obtain ⟨g2,g3⟩:=AYi hg hk ht iy hys;exact ⟨J0 gu n m gw n' m',YL xs ys,AYh (jf hc.1) (jf hc.2.1) hc.2.2.1 hc.2.2.2.1,dj,⟨u1,_,Cp dk rfl r1,⟨u2,iw,Cp dk rfl r2,ha,rfl⟩,rfl⟩,g2,g3⟩
end
open Ex Num Rg
open Sh (R av rd mo en mo_en)
noncomputable section
def Al (l:dn) (k:Int):Bool:=decide (0<bits .and .u8 (l.getD 0 0) k)
def CC (xs:dn) (k:Nat):dn:=bits .and .u8 (xs.getD 0 0) 31::List.take k (List.drop 1 xs)
def CO (ls:dn) (o:Nat):Nat:=Ao (AA ls o 48)
def fB (s i b:Bool) (f:Int):Int:=match s,i with
 | false,true=>bits .or .u8 f 64
 | false,false=>f
 | true,true=>bits .or .u8 (bits .or .u8 f 128) 64
 | true,false=>if b=true then bits .or .u8 (bits .or .u8 f 128) 32 else bits .or .u8 f 128
def fB1 (s i b:Bool) (n:Nat):Bool:=(decide (0<bits .and .u8 (fB s i b n) 128)==s)&&((decide (0<bits .and .u8 (fB s i b n) 64)==i)&&((decide (0<bits .and .u8 (fB s i b n) 32)==(s&&(!i&&b)))&&decide (bits .and .u8 (fB s i b n) 31=n)))
theorem AYk (s i b:Bool):(List.range 32).all (fB1 s i b)=true:=by cases s<;>cases i<;>cases b<;>kernel_rfl
theorem AYl (s i b:Bool) {f:Int} (h0:0≤f) (h1:f<32):decide (0<bits .and .u8 (fB s i b f) 128)=s∧decide (0<bits .and .u8 (fB s i b f) 64)=i∧decide (0<bits .and .u8 (fB s i b f) 32)=(s&&(!i&&b))∧bits .and .u8 (fB s i b f) 31=f:=by
 obtain ⟨n,rfl⟩:=ki h0;have h:=mw.1 (AYk s i b) n (lz.2 dk)
 unfold fB1 at h;simp only [jm,beq_iff_eq] at h;exact ⟨h.1,h.2.1,h.2.2.1,jx h.2.2.2⟩
def fB3 (s i b:Bool) (n:Nat):Bool:=!(decide (0<bits .and .u8 n 128)==s)||(!(decide (0<bits .and .u8 n 64)==i)||(!(decide (0<bits .and .u8 n 32)==(s&&(!i&&b)))||decide (fB s i b (bits .and .u8 n 31)=n)))
theorem AYm (s i b:Bool):(List.range 256).all (fB3 s i b)=true:=by cases s<;>cases i<;>cases b<;>kernel_rfl
theorem AYn {s i b:Bool} {f:Int} (h0:0≤f) (h1:f<256) (hs:decide (0<bits .and .u8 f 128)=s) (hi:decide (0<bits .and .u8 f 64)=i) (hb:decide (0<bits .and .u8 f 32)=(s&&(!i&&b))):fB s i b (bits .and .u8 f 31)=f:=by
 obtain ⟨n,rfl⟩:=ki h0;have h:=mw.1 (AYm s i b) n (lz.2 dk)
 unfold fB3 at h;rw [hs,hi,hb] at h;simpa using h
def fB4 (n:Nat):Bool:=decide (0≤bits .and .u8 n 31)&&decide (bits .and .u8 n 31<32)
theorem AYo:(List.range 256).all fB4=true:=dj
theorem AYp {f:Int} (h0:0≤f) (h1:f<256):0≤bits .and .u8 f 31∧bits .and .u8 f 31<32:=by
 obtain ⟨n,rfl⟩:=ki h0;have h:=mw.1 AYo n (lz.2 dk)
 unfold fB4 at h;simpa using h
def EY (s i b:Bool) (B:dn):dn:=match s,i with
 | false,true=>E_ B 64
 | false,false=>B
 | true,true=>E_ (E_ B 128) 64
 | true,false=>if b=true then E_ (E_ B 128) 32 else E_ B 128
theorem wG (s i b:Bool) (f:Int) (t:dn):EY s i b (f::t)=fB s i b f::t:=by cases s<;>cases i<;>cases b<;>rfl
theorem fL (s:Bool) (p:Pt FP):FN s p=EY s (Aq p) (BP (CM p)) (b1 p):=by
 unfold FN EY;cases s<;>cases Aq p<;>rfl
theorem AHG (s:Bool) (p:P2):v6 s p=EY s (E4 p) (EG (J' p)) (b2 p):=by
 unfold v6 EY;cases s<;>cases E4 p<;>rfl
theorem AYq (s i b:Bool) {B:dn} {k:Nat} (hk:0<k) (hB:k≤B.length) {f:Int} {t:dn} (e:B=f::t) (h0:0≤f) (h1:f<32):(AA (EY s i b B) 0 k).length=k∧Al (AA (EY s i b B) 0 k) 128=s∧Al (AA (EY s i b B) 0 k) 64=i∧Al (AA (EY s i b B) 0 k) 32=(s&&(!i&&b))∧CC (AA (EY s i b B) 0 k) (k-1)=B.take k:=by
 obtain ⟨j,rfl⟩:∃ j,k=j+1:=⟨k-1,dk⟩
 subst e;rw [wG];obtain ⟨q1,q2,q3,q4⟩:=AYl s i b h0 h1;have hl:j≤t.length:=by simpa using hB
 refine ⟨by simp [AA];omega,q1,q2,q3,?_⟩
 show bits .and .u8 (fB s i b f) 31::List.take j (List.take j t)=f::List.take j t;rw [q4,List.take_take,Nat.min_self]
theorem AHH {s i b:Bool} {L B:dn} {k:Nat} (hk:0<k) (hl:L.length=k) (hL:∀ d∈L,0≤d∧d<256) (hs:Al L 128=s) (hi:Al L 64=i) (hb:Al L 32=(s&&(!i&&b))) (hB:B.take k=CC L (k-1)):AA (EY s i b B) 0 k=L:=by
 obtain ⟨j,rfl⟩:∃ j,k=j+1:=⟨k-1,dk⟩
 cases L with
 | nil=>cases hl
 | cons v u =>
  have hv:=hL v (qg ..)
  have hu:u.length=j:=by simpa using hl
  have hB':B.take (j+1)=bits .and .u8 v 31::List.take j u:=hB
  cases B with
  | nil=>cases hB'
  | cons f t =>
   rw [List.take_succ_cons] at hB';injection hB' with e1 e2;rw [wG];show fB s i b f::List.take j t=v::u;rw [e1,e2,AYn hv.1 hv.2 hs hi hb,← hu,List.take_length]
def cat:List Nat→dn
 | []=>[]
 | x::r=>Co x 48++cat r
theorem fM:∀ l:List Nat,(cat l).length=48*l.length
 | []=>rfl
 | x::r=>by rw [cat,kc,J5,fM r,kp];omega
theorem fN:∀ (l:List Nat) (k:Nat),(cat l).take (48*k)=cat (l.take k)
 | [],k=>by rw [cat,List.take_nil,List.take_nil];rfl
 | x::r,0=>rfl
 | x::r,k+1=>by
  rw [cat,List.take_succ_cons,cat,← fN r k,List.take_append,J5,nu (by rw [J5];omega)]
  congr 2
theorem AHI:∀ (l:List Nat) (j:Nat),j<l.length→CO (cat l) (48*j)=l.getD j 0 % 256^48
 | [],j,h=>absurd h (oi j)
 | x::r,0,_=>by
  show Ao ((Co x 48++cat r).take 48)=_;rw [List.take_left' (J5 x 48),AFT];rfl
 | x::r,j+1,h=>by
  have ih:=AHI r j (by simpa using h)
  show Ao (((Co x 48++cat r).drop (48*(j+1))).take 48)=r.getD j 0 % 256^48;rw [show 48*(j+1)=48+48*j by omega,← ni,List.drop_left' (J5 x 48)]
  exact ih
theorem AHJ:∀ (k:Nat) (ls:dn),ls.length=48*k→(∀ d∈ls,0≤d∧d<256)→cat ((List.range k).map fun j=>CO ls (48*j))=ls
 | 0,ls,h,_=>by
  cases ls with
  | nil=>rfl
  | cons a b=>simp at h
 | k+1,ls,h,hb=>by
  have ih:=AHJ k (ls.drop 48) (by rw [kv];omega) fun d hd=>hb d (om hd)
  rw [ry,lf,ny,cat];have e1:Co (CO ls (48*0)) 48=ls.take 48:=by
   have hl:(ls.take 48).length=48:=by rw [ke];omega
   have:=AFU (ls.take 48) fun d hd=>hb d (pp hd)
   rw [hl] at this;exact this
  have e2:((fun j=>CO ls (48*j)) ∘ Nat.succ)=fun j=>CO (ls.drop 48) (48*j):=by
   funext j
   show Ao ((ls.drop (48*(j+1))).take 48)=Ao (((ls.drop 48).drop (48*j)).take 48);rw [ni,show 48*(j+1)=48+48*j by omega]
  rw [e1,e2,ih,my]
theorem AHK:pN<32*256^47:=Bf.1 dj
theorem AYr {x:Nat} (h:x<pN):x % 256^48=x:=jk (by have:=AHK;omega)
theorem AYs {x:Nat} (hx:x<pN) (r:List Nat):∃ f t,cat (x::r)=f::t∧0≤f∧f<32:=by
 refine ⟨F8 x 47,Co x 47++cat r,?_,?_⟩
 ·show Co x (47+1)++cat r=_;rw [tP];rfl
 ·have h1:x / 256^47<32:=li (by have:=AHK;omega)
  have h2:F8 x 47=((x / 256^47 % 256:Nat):Int):=rfl
  rw [h2];omega
noncomputable def l1 (p:Pt FP):List Nat:=[EF p,CM p]
noncomputable def l2 (p:P2):List Nat:=[(rX p).2,(rX p).1,(rY p).2,(rY p).1]
theorem fO (p:Pt FP):b1 p=cat (l1 p):=by
 unfold b1 l1 cat cat cat;rw [jk (X5 p),jk (dI p),ku]
theorem AHL (p:P2):Nat.lt (rX p).1 pN∧Nat.lt (rX p).2 pN:=⟨(Mw p).a.isLt,(Mw p).b.isLt⟩
theorem AHM (p:P2):Nat.lt (rY p).1 pN∧Nat.lt (rY p).2 pN:=⟨(J' p).a.isLt,(J' p).b.isLt⟩
theorem fP {x:Nat} (h:Nat.lt x pN):U8 x=Co x 48:=by unfold U8;rw [jk h]
theorem AHN (p:P2):b2 p=cat (l2 p):=by
 unfold b2 l2 cat cat cat cat cat;rw [fP (AHL p).1,fP (AHL p).2,fP (AHM p).1,fP (AHM p).2,ku,nq,nq]
end
abbrev fe:List Bool:=[false,false,true,false,false]
abbrev ff:List Bool:=[false,false,true,false,true]
abbrev fj:List Bool:=[true,false,false,true,false,true,false]
open Ex Num Rg
set_option maxRecDepth 100000
set_option maxHeartbeats 4000000
noncomputable section
theorem AHO:∀ (T0 T1:List AV) (x y:AV) (t:Nat),t≠T0.length→Ap (T0++x::T1) t=Ap (T0++y::T1) t
 | [],_,_,_,0,h=>absurd rfl h
 | [],_,_,_,_+1,_=>rfl
 | _::_,_,_,_,0,_=>rfl
 | _::T0,T1,x,y,t+1,h=>AHO T0 T1 x y t fun e=>h (by rw [e];rfl)
theorem wH:∀ (T0 T1:List AV) (x:AV),Ap (T0++x::T1) T0.length=x
 | [],_,_=>rfl
 | _::T0,T1,x=>wH T0 T1 x
theorem KJ {P:Program} {f:FuncId} {β0:Env} {w0:World} {R:Ending→World→Prop} {nt:Nat} {W:List Nat} {todo:List Item} {T0 T1:List AV} {H:Heap} {fr:Nat} {p:List Bool} {k n sz:Nat}
  (h:∀ cap,n≤cap→gn P f β0 w0 R nt W ⟨todo,⟨T0++.val false [.sl k 0 n cap]::T1,H,fr,p⟩⟩):gn P f β0 w0 R nt W ⟨todo,⟨T0++.val false [.sx k n sz]::T1,H,fr,p⟩⟩:=fun β a w hi hf=>by
 have h1:=hi.tmp T0.length;dsimp only at h1;rw [wH] at h1;obtain ⟨cap,hc,hr⟩:∃ cap,n≤cap∧AN β (.val false [.sl k 0 n cap]) (a.tmps.getD T0.length undef):=by
  obtain ⟨l1,l2,q,q2,q3⟩:=h1;rcases q with ⟨B,N,cap,e1,e2,e3,e4⟩ | ⟨e1,e2,e3⟩
  ·exact ⟨cap,e3,l1,l2,.inl ⟨B,(N,0),e1,e2⟩,q2,q3⟩
  ·subst e2;exact ⟨0,jj _,l1,l2,.inr (.inl ⟨e1,rfl,rfl,rfl,e3⟩),q2,q3⟩
 refine h cap hc β a w { hi with tmp:=fun t=>?_ } hf
 by_cases e:t=T0.length
 ·subst e;dsimp only;rw [wH];exact hr
 ·dsimp only;rw [AHO _ _ _ (.val false [.sx k n sz]) _ e];exact hi.tmp t
def OL (n m:Nat) (h:Int) (s:Bool):List AV:=[AR 0 0 n m,.val false [.n .i64 h],.val false [.b s]]
noncomputable def Ij (xs:dn) (n m:Nat) (h:Int) (s:Bool) (p:List Bool):gq:=Aj f59 (OL n m h s) [(0,some (Ak [.seq .u8 xs]))] 1 p
def G5 (e:Int):AV:=.tup [(false,[.v (.slice none 0 0)]),(false,[.b false]),(false,[.n .i64 e])]
def LX (k:Nat) (ja:Bool):AV:=.tup [(false,[.sx (2+3*k) k 6]),(false,[.v (.bool ja)]),(false,[.n .i64 0])]
def Ft (k:Nat) (l:List Ch):Heap:=[(2+3*k,some ⟨40,l,true⟩)]
def fQ (xs ls:dn):Heap:=[(0,some (Ak [.seq .u8 xs])),(2,some ⟨5,[.seq .u8 ls],true⟩)]
noncomputable def AYt:List Item:=CB (AY dm oJf (some 0) 800 1 none (Ij [] 48 48 1 true fa))
noncomputable def r1T (n:Nat) (ja:Bool) (i:Int):List AV:=List.append (List.replicate 12 AV.any) (.val false [.v (.bool ja)]::List.append (List.replicate 50 AV.any) (.val false [.sx 2 n 1]::.val false [.v (.int .i64 n)]::.val false [.n .i64 i]::List.replicate (f59.ntmps-66) AV.any))
noncomputable def LY (xs ls:dn) (n:Nat) (ja:Bool) (i:Int) (p:List Bool):gq:=⟨AYt,⟨r1T n ja i,fQ xs ls,3,p⟩⟩
noncomputable def AYv:List Item:=CB (AY dm oJf (some 0) 800 1 none (Ij [] 48 48 1 true eq))
noncomputable def AYw (ja:Bool):List AV:=List.append (List.replicate 12 AV.any) [.val false [.v (.bool ja)]]
noncomputable def AYx:List AV:=.any::.any::.val false [.v (.slice none 0 0)]::List.replicate (f59.ntmps-17) AV.any
noncomputable def HT (xs ls:dn) (ja:Bool) (i:AV) (p:List Bool):gq:=⟨AYv,⟨AYw ja++i::AYx,fQ xs ls,3,p⟩⟩
def YM:Option (List Nat×List Nat×Nat):=some ([12,63,64,65],[0,2],3)
def fR:Option (List Nat×List Nat×Nat):=some ([12,13,16],[0,2],3)
def LZ (xs:dn) (s b:Bool) (r:dp):dp:=(true,true)::(false,false)::(true,true)::(decide (0<xs.length),true)::(true,true)::(decide (0<xs.length),true)::(true,true)::(decide (0<xs.length),true)::(!(Al xs 128==s),b)::r
def OM (xs:dn) (n m:Nat) (b c:Bool) (r:dp):dp:=(Al xs 32,b)::(true,true)::(decide (0<xs.length),true)::(true,true)::(Nat.beq m 1,false)::(true,true)::(Nat.ble n xs.length,true)::(true,true)::(Al xs 64,c)::r
def Lb (C o:Nat) (ls:dn) (e:Bool) (r:dp):dp:=(true,true)::(decide ((0:Int)≤48∧(48:Int)≤(C:Int)),true)::(true,true)::(Nat.ble (o+48) ls.length,true)::(true,true)::(!decide (H5 48 (CO ls o)=0),e)::r
def P3 (C:Nat) (b:Bool) (r:dp):dp:=(true,true)::(true,true)::(Nat.beq C 48,b)::(true,true)::r
section
variable (xs ls:dn) (n m C:Nat) (i:Int) (ja:Bool)
theorem AYy:AY dm oJf (some 0) 800 1 YM (LY xs ls n ja i [true,true,true])=some ([(decide (i<n),true),(decide (0≤i∧i<n),true),(decide (0+i.toNat*1<ls.length),true),(decide (ls.getD (0+i.toNat*1) 0=0),true),(!ja,true)],[],LY xs ls n ja (AX true .i64 (i+1)) []):=dj
theorem AYz:AT dm oJf f59 800 1 [] (LY xs ls n ja i dt)=some ([(decide (i<n),false)],[],G5 0,[]):=dj
theorem AY0:AT dm oJf f59 800 1 [] (LY xs ls n ja i d_)=some ([(decide (i<n),true),(decide (0≤i∧i<n),true),(decide (0+i.toNat*1<ls.length),true),(decide (ls.getD (0+i.toNat*1) 0=0),false)],[],G5 202,[]):=dj
theorem AY1:AT dm oJf f59 800 1 [] (LY xs ls n ja i [true,true,false])=some ([(decide (i<n),true),(decide (0≤i∧i<n),true),(decide (0+i.toNat*1<ls.length),true),(decide (ls.getD (0+i.toNat*1) 0=0),true),(!ja,false)],[],G5 202,[]):=dj
theorem AY2:AT dm oJf f59 800 1 [] (Ij xs n m 1 true du)=some ([(AL .i64 n,true),(!decide ((n:Int)=48),true)],[],G5 200,[]):=dj
theorem AY3:AT dm oJf f59 800 1 [] (Ij xs 48 m 1 true dx)=some (LZ xs true true [],[],G5 201,[]):=dj
theorem AY4:AY dm oJf (some 0) 800 1 YM (Ij xs 48 m 1 true fa)=some (LZ xs true false (OM xs 48 m false true [(true,true)]),[],LY xs (CC xs 47) 48 (Al xs 32) 0 []):=dj
theorem AHP:AY dm oJf (some 0) 800 1 fR (Ij xs 48 m 1 true eq)=some (LZ xs true false (OM xs 48 m false false []),[],HT xs (CC xs 47) (Al xs 32) (.val false [.sx 2 48 1]) []):=dj
theorem AY5:AY dm oJf (some 0) 800 1 YM (Ij xs 48 m 1 true ff)=some (LZ xs true false (OM xs 48 m true true [(true,true)]),[],LY xs (CC xs 47) 48 (Al xs 32) 0 []):=dj
theorem AHQ:AY dm oJf (some 0) 800 1 fR (Ij xs 48 m 1 true fe)=some (LZ xs true false (OM xs 48 m true false []),[],HT xs (CC xs 47) (Al xs 32) (.val false [.sx 2 48 1]) []):=dj
theorem AY6:AT dm oJf f59 800 1 [] (Ij xs n m 2 true du)=some ([(AL .i64 n,true),(!decide ((n:Int)=96),true)],[],G5 200,[]):=dj
theorem AY7:AT dm oJf f59 800 1 [] (Ij xs 96 m 2 true dx)=some (LZ xs true true [],[],G5 201,[]):=dj
theorem AY8:AY dm oJf (some 0) 800 1 YM (Ij xs 96 m 2 true fa)=some (LZ xs true false (OM xs 96 m false true [(true,true)]),[],LY xs (CC xs 95) 96 (Al xs 32) 0 []):=dj
theorem AHR:AY dm oJf (some 0) 800 1 fR (Ij xs 96 m 2 true eq)=some (LZ xs true false (OM xs 96 m false false []),[],HT xs (CC xs 95) (Al xs 32) (.val false [.sx 2 96 1]) []):=dj
theorem AY9:AY dm oJf (some 0) 800 1 YM (Ij xs 96 m 2 true ff)=some (LZ xs true false (OM xs 96 m true true [(true,true)]),[],LY xs (CC xs 95) 96 (Al xs 32) 0 []):=dj
theorem AHS:AY dm oJf (some 0) 800 1 fR (Ij xs 96 m 2 true fe)=some (LZ xs true false (OM xs 96 m true false []),[],HT xs (CC xs 95) (Al xs 32) (.val false [.sx 2 96 1]) []):=dj
theorem AY_:AT dm oJf f59 800 1 [5] (HT xs ls ja (.val false [.sl 2 0 48 C]) [true,false,true,false])=some ((true,true)::Lb C 0 ls false (P3 C true ([(false,false)])),[],LX 1 ja,Ft 1 [.num 6 (G0 48 (CO ls 0))]):=dj
theorem AY':AT dm oJf f59 800 1 [5] (HT xs ls ja (.val false [.sl 2 0 48 C]) [true,false,false,false])=some ((true,true)::Lb C 0 ls false (P3 C false ([(false,false)])),[],LX 1 ja,Ft 1 [.num 6 (G0 48 (CO ls 0))]):=dj
theorem AZA:AT dm oJf f59 800 1 [] (HT xs ls ja (.val false [.sl 2 0 48 C]) dw)=some ((true,true)::Lb C 0 ls true [],[],G5 203,[]):=dj
theorem AZB:AT dm oJf f59 800 1 [8] (HT xs ls ja (.val false [.sl 2 0 96 C]) fj)=some ((true,true)::Lb C 0 ls false (P3 C false (Lb (C-48) 48 ls false (P3 (C-48) true ([(false,false)])))),[],LX 2 ja,Ft 2 [.num 6 (G0 48 (CO ls 0)),.num 6 (G0 48 (CO ls 48))]):=dj
theorem AZC:AT dm oJf f59 800 1 [8] (HT xs ls ja (.val false [.sl 2 0 96 C]) [true,false,false,true,false,false,false])=some ((true,true)::Lb C 0 ls false (P3 C false (Lb (C-48) 48 ls false (P3 (C-48) false ([(false,false)])))),[],LX 2 ja,Ft 2 [.num 6 (G0 48 (CO ls 0)),.num 6 (G0 48 (CO ls 48))]):=dj
theorem AZD:AT dm oJf f59 800 1 [] (HT xs ls ja (.val false [.sl 2 0 96 C]) dw)=some ((true,true)::Lb C 0 ls true [],[],G5 203,[]):=dj
theorem AZE:AT dm oJf f59 800 1 [] (HT xs ls ja (.val false [.sl 2 0 96 C]) [true,false,false,true,true])=some ((true,true)::Lb C 0 ls false (P3 C false (Lb (C-48) 48 ls true [])),[],G5 203,[]):=dj
end
end
open Ex Num Rg
noncomputable section
noncomputable abbrev rdF:Func:=f59
def Ld (ls:dn) (ja:Bool):Bool:=ls.all (fun d=>decide (d=0))&&!ja
def G6 (ls:dn) (ja:Bool):Int:=if Ld ls ja=true then 0 else 202
def FO (ls:dn) (k:Nat):Bool:=(List.range k).all fun j=>decide (CO ls (48*j)<pN)
def Ik (ls:dn) (k:Nat):List Ch:=(List.range k).map fun j=>.num 6 (CO ls (48*j))
def BW (k:Nat) (s:Bool) (l:dn):Int:=if l.length≠48*k then 200 else if Al l 128≠s then 201 else if (Al l 32&&!s)=true then 201 else if Al l 64=true then G6 (CC l (48*k-1)) (Al l 32) else if FO (CC l (48*k-1)) k=true then 0 else 203
def Bj (k:Nat) (s:Bool) (l:dn):Bool:=decide (l.length=48*k)&&(decide (Al l 128=s)&&(!(Al l 32&&!s)&&(!Al l 64&&FO (CC l (48*k-1)) k)))
theorem fS (xs ls:dn) (n:Nat) (ja:Bool) (i:Int) (p:List Bool):Be rdF.ntmps (LY xs ls n ja i p).s:=AS dj
theorem R5 (xs ls:dn) (ja:Bool) (k n C:Nat) (p:List Bool):Be rdF.ntmps (HT xs ls ja (.val false [.sl k 0 n C]) p).s:=AS dj
theorem AHT {ls:dn} {n:Nat} (hl:ls.length=n) (h:∀ j,j<n→ls.getD j 0=0):ls.all (fun d=>decide (d=0))=true:=by
 rw [mw];intro d hd;obtain ⟨j,hj⟩:=List.getElem?_of_mem hd
 have ik:=(tw.1 hj).1
 have:=h j dk
 rw [j_,hj] at this;exact jc this
theorem AHU {ls:dn} {j:Nat} (hj:j<ls.length) (h:ls.all (fun d=>decide (d=0))=true):ls.getD j 0=0:=by
 rw [mw] at h;rw [j_,mq hj];exact jx (h _ (List.getElem_mem hj))
section
variable {xs ls:dn} {n:Nat} {ja:Bool} (hl:ls.length=n) (hn:0<n) (hm:n≤1000) {β0:Env} {w0:World} (hb:∀ b,1≤b→β0 b=none)
include hl hn hm hb
theorem fT:∀ c i:Nat,i+c=n→(∀ j,j<i→ls.getD j 0=0)→(0<i→ja=false)→gn dm 59 β0 w0 (A_ β0 w0 [] (G5 (G6 ls ja)) []) rdF.ntmps [] (LY xs ls n ja (i:Nat) []):=by
 intro c;induction c with
 | zero =>
  intro i hi hz hbig;have hin:i=n:=dk
  subst hin;have e:G6 ls ja=0:=by
   unfold G6 Ld;rw [AHT hl hz,hbig hn];rfl
  rw [e];exact Af dt (Ay E9 AB func59 (AYz xs ls i (i:Nat) ja) ⟨jg dk,trivial⟩ (fS ..) hb jb)
 | succ c ih =>
  intro i hi hz hbig;have c1:decide (((i:Nat):Int)<(n:Int))=true:=jc dk
  have c2:decide (0≤((i:Nat):Int)∧((i:Nat):Int)<(n:Int))=true:=jc dk
  have c3:decide (0+((i:Nat):Int).toNat*1<ls.length)=true:=jc dk
  have ei:0+((i:Nat):Int).toNat*1=i:=dk
  by_cases h0:ls.getD i 0=0
  ·cases hq:ja with
   | true =>
    have e:G6 ls ja=202:=by
     unfold G6 Ld;rw [hq,o_,nc,jd jq]
    rw [← hq,e];exact Af [true,true,false] (Ay E9 AB func59 (AY1 xs ls n (i:Nat) ja) ⟨c1,c2,c3,jc (by rw [ei];exact h0),by rw [hq];rfl,trivial⟩ (fS ..) hb jb)
   | false =>
    rw [← hq];refine Af [true,true,true] (Ai E9 AB (AYy xs ls n (i:Nat) ja) ⟨c1,c2,c3,jc (by rw [ei];exact h0),by rw [hq];rfl,trivial⟩ (fS ..) hb jb fun _=>?_)
    rw [XT true dk,show ((i:Nat):Int)+1=((i+1:Nat):Int) from rfl]
    refine ih (i+1) dk (fun j hj=>?_) (fun _=>hq)
    rcases jv j i with q | q
    ·exact hz j q
    ·rw [show j=i by omega];exact h0
  ·have e:G6 ls ja=202:=by
    unfold G6 Ld;cases ha:ls.all (fun d=>decide (d=0)) with
    | true=>exact absurd (AHU dk ha) h0
    | false=>rw [n_,jd jq]
   rw [e];exact Af d_ (Ay E9 AB func59 (AY0 xs ls n (i:Nat) ja) ⟨c1,c2,c3,jg (by rw [ei];exact h0),trivial⟩ (fS ..) hb jb)
end
theorem Le {N:Nat} (h:N<pN):(!decide (H5 48 N=0))=false:=by unfold H5;rw [je rfl,je h];rfl
theorem U' {N:Nat} (h:¬ N<pN):(!decide (H5 48 N=0))=true:=by unfold H5;rw [je rfl,jd h];rfl
theorem ON {N:Nat} (h:N<pN):G0 48 N=N:=je ⟨rfl,h⟩
theorem M3 {C o:Nat} {ls:dn} {e:Bool} {r:dp} (h1:48≤C) (h2:o+48≤ls.length) (h3:(!decide (H5 48 (CO ls o)=0))=e) (hr:AO r):AO (Lb C o ls e r) :=
 ⟨rfl,jc ⟨dl,dk⟩,rfl,jh h2,rfl,h3,hr⟩
theorem R6 {C:Nat} {b:Bool} {r:dp} (h:Nat.beq C 48=b) (hr:AO r):AO (P3 C b r):=⟨rfl,rfl,h,rfl,hr⟩
theorem wJ {a:Nat} (h:a≠48):Nat.beq a 48=false:=by
 cases hq:Nat.beq a 48 with
 | false=>rfl
 | true=>exact absurd (mn hq) h
section
variable {xs ls:dn} {ja:Bool} {C:Nat} {β0:Env} {w0:World} (hb:∀ b,1≤b→β0 b=none)
include hb
theorem AHV (hC:48≤C) (hl:ls.length=48) (h0:CO ls 0<pN):gn dm 59 β0 w0 (A_ β0 w0 [] (LX 1 ja) (Ft 1 (Ik ls 1))) rdF.ntmps [] (HT xs ls ja (.val false [.sl 2 0 48 C]) []):=by
 cases hq:Nat.beq C 48 with
 | true =>
  have t:=AY_ xs ls C ja;rw [ON h0] at t;exact Af [true,false,true,false] (Ay E9 AB func59 t ⟨rfl,M3 dk dk (Le h0) (R6 hq (⟨rfl,trivial⟩))⟩ (R5 ..) hb jb)
 | false =>
  have t:=AY' xs ls C ja;rw [ON h0] at t;exact Af [true,false,false,false] (Ay E9 AB func59 t ⟨rfl,M3 dk dk (Le h0) (R6 hq (⟨rfl,trivial⟩))⟩ (R5 ..) hb jb)
theorem AHW (hC:48≤C) (hl:ls.length=48) (h:FO ls 1=false):gn dm 59 β0 w0 (A_ β0 w0 [] (G5 203) []) rdF.ntmps [] (HT xs ls ja (.val false [.sl 2 0 48 C]) []):=by
 by_cases h0:CO ls 0<pN;case neg=>exact Af dw (Ay E9 AB func59 (AZA xs ls C ja) ⟨rfl,M3 dk dk (U' h0) trivial⟩ (R5 ..) hb jb)
 have:FO ls 1=true:=by
  show (decide (CO ls 0<pN)&&true)=true;rw [jc h0];rfl
 rw [this] at h;cases h
theorem AHX (hC:96≤C) (hl:ls.length=96) (h0:CO ls 0<pN) (h1:CO ls 48<pN):gn dm 59 β0 w0 (A_ β0 w0 [] (LX 2 ja) (Ft 2 (Ik ls 2))) rdF.ntmps [] (HT xs ls ja (.val false [.sl 2 0 96 C]) []):=by
 cases hq:Nat.beq (C-48) 48 with
 | true =>
  have t:=AZB xs ls C ja;rw [ON h0,ON h1] at t;exact Af fj (Ay E9 AB func59 t ⟨rfl,M3 dk dk (Le h0) (R6 (wJ dk) (M3 dk dk (Le h1) (R6 hq (⟨rfl,trivial⟩))))⟩ (R5 ..) hb jb)
 | false =>
  have t:=AZC xs ls C ja;rw [ON h0,ON h1] at t;exact Af [true,false,false,true,false,false,false] (Ay E9 AB func59 t ⟨rfl,M3 dk dk (Le h0) (R6 (wJ dk) (M3 dk dk (Le h1) (R6 hq (⟨rfl,trivial⟩))))⟩ (R5 ..) hb jb)
theorem AHY (hC:96≤C) (hl:ls.length=96) (h:FO ls 2=false):gn dm 59 β0 w0 (A_ β0 w0 [] (G5 203) []) rdF.ntmps [] (HT xs ls ja (.val false [.sl 2 0 96 C]) []):=by
 by_cases h0:CO ls 0<pN;case neg=>exact Af dw (Ay E9 AB func59 (AZD xs ls C ja) ⟨rfl,M3 dk dk (U' h0) trivial⟩ (R5 ..) hb jb)
 by_cases h1:CO ls 48<pN;case neg=>exact Af [true,false,false,true,true] (Ay E9 AB func59 (AZE xs ls C ja) ⟨rfl,M3 dk dk (Le h0) (R6 (wJ dk) (M3 dk dk (U' h1) trivial))⟩ (R5 ..) hb jb)
 have:FO ls 2=true:=by
  show (decide (CO ls 0<pN)&&(decide (CO ls 48<pN)&&true))=true;rw [jc h0,jc h1];rfl
 rw [this] at h;cases h
end
theorem M4 {ls:dn} {k:Nat} (h:FO ls k=true) (j:Nat) (hj:j<k):CO ls (48*j)<pN:=by
 unfold FO at h;rw [mw] at h;exact jx (h j (lz.2 hj))
theorem DO {xs:dn} {n:Nat} (hn:0<n) (k:Int):Al (AA xs 0 n) k=Al xs k:=by
 unfold Al AA;rw [pn,j_,j_,qz hn]
theorem P4 {xs:dn} {n:Nat} (hn:0<n):CC (AA xs 0 n) (n-1)=CC xs (n-1):=by
 unfold CC AA;rw [pn,j_,j_,qz hn,List.drop_take,List.take_take,Nat.min_self]
theorem OO {xs:dn} {k:Nat} (h:k<xs.length):(CC xs k).length=k+1:=by
 unfold CC;simp;omega
theorem KK {xs:dn} {n:Nat} (h:n≤xs.length):(AA xs 0 n).length=n:=by
 unfold AA;simp;omega
theorem Il {xs:dn} {s b:Bool} {r:dp} (h:0<xs.length) (hs:(!(Al xs 128==s))=b) (hr:AO r):AO (LZ xs s b r):=by
 have e:=jc h;exact ⟨rfl,rfl,rfl,e,rfl,e,rfl,e,hs,hr⟩
theorem KL {xs:dn} {n m:Nat} {b c:Bool} {r:dp} (h:0<xs.length) (hn:n≤xs.length) (hm:1<m) (h1:Al xs 32=b) (h2:Al xs 64=c) (hr:AO r):AO (OM xs n m b c r):=by
 have e:=jc h;refine ⟨h1,rfl,e,rfl,?_,rfl,jh hn,rfl,h2,hr⟩
 cases hq:Nat.beq m 1 with
 | false=>rfl
 | true=>have:=mn hq;omega
theorem AZF {xs:dn} {n m:Nat} (hl:n≤xs.length) (hm:n≤m) (hn:AL .i64 n=true) (hr:Bj 1 true (AA xs 0 n)=false):Ab dm 59 (OL n m 1 true) (A5 xs) 1 [] (G5 (BW 1 true (AA xs 0 n))) []:=by
 by_cases hk:n=48;case neg =>
  have e:BW 1 true (AA xs 0 n)=200:=by unfold BW;rw [KK hl,je hk]
  rw [e];exact Bs M2 Ct func59 dj dj (AY2 xs n m) dj ⟨hn,by rw [jg dk];rfl,trivial⟩
 subst hk;have hx:0<xs.length:=dk
 have hw:=KK hl;have er:=P4 (xs:=xs) (n:=48) dl
 have elen:=OO (xs:=xs) (k:=47) dk
 unfold BW Bj at *
 rw [DO dl,DO dl,DO dl,er,hw,jc rfl,ld] at hr;rw [DO dl,DO dl,DO dl,er,hw,jd (fun h=>h rfl)]
 by_cases f1:Al xs 128=true;case neg =>
  rw [je f1];exact Bs M2 Ct func59 dj dj (AY3 xs m) dj (Il hx (by cases hq:Al xs 128<;>first | rfl | exact absurd hq f1) trivial)
 rw [jd (fun h=>h f1)]
 rw [jc f1,ld] at hr;have p0:(!(Al xs 128==true))=false:=by rw [f1];rfl
 rw [jd (fun h=>by rw [o_,nc] at h;cases h)]
 rw [o_,nc,ra,ld] at hr;cases f2:Al xs 32
 case false =>
  cases f3:Al xs 64 with
  | true =>
   rw [je rfl];refine A7 (gv:=fa) func59 dj dj fun β0 w0 hb=>?_
   have t:=AY4 xs m;rw [f2] at t;exact Ai E9 AB t (Il hx p0 (KL hx hl dk f2 f3 ⟨rfl,trivial⟩)) (AS dj) hb jb fun _=>fT elen dl dl hb 48 0 dl (fun j hj=>absurd hj (oi j)) (fun h=>absurd h (qq 0))
  | false =>
   rw [f3] at hr;have hr':FO (CC xs 47) 1=false:=hr
   rw [jd jq,jd (by rw [hr'];exact jq)]
   refine A7 (gv:=eq) func59 dj dj fun β0 w0 hb=>?_
   exact Ai E9 AB (AHP xs m) (Il hx p0 (KL hx hl dk f2 f3 trivial)) (AS dj) hb jb fun _=>KJ fun C hC=>AHW hb hC elen hr'
 case true =>
  cases f3:Al xs 64 with
  | true =>
   rw [je rfl];refine A7 (gv:=ff) func59 dj dj fun β0 w0 hb=>?_
   have t:=AY5 xs m;rw [f2] at t;exact Ai E9 AB t (Il hx p0 (KL hx hl dk f2 f3 ⟨rfl,trivial⟩)) (AS dj) hb jb fun _=>fT elen dl dl hb 48 0 dl (fun j hj=>absurd hj (oi j)) (fun h=>absurd h (qq 0))
  | false =>
   rw [f3] at hr;have hr':FO (CC xs 47) 1=false:=hr
   rw [jd jq,jd (by rw [hr'];exact jq)]
   refine A7 (gv:=fe) func59 dj dj fun β0 w0 hb=>?_
   exact Ai E9 AB (AHQ xs m) (Il hx p0 (KL hx hl dk f2 f3 trivial)) (AS dj) hb jb fun _=>KJ fun C hC=>AHW hb hC elen hr'
theorem AZG {xs:dn} {n m:Nat} (hl:n≤xs.length) (hm:n≤m) (hr:Bj 1 true (AA xs 0 n)=true):Ab dm 59 (OL n m 1 true) (A5 xs) 1 [] (LX 1 (Al (AA xs 0 n) 32)) (Ft 1 (Ik (CC (AA xs 0 n) 47) 1)):=by
 unfold Bj at hr;simp only [jm,ji] at hr;obtain ⟨hk,f1,f2,f3,h4⟩:=hr;rw [KK hl] at hk;have hk':n=48:=hk
 subst hk';have hx:0<xs.length:=dk
 have er:=P4 (xs:=xs) (n:=48) dl
 have elen:=OO (xs:=xs) (k:=47) dk
 rw [DO dl] at f1 f2 f3;rw [er] at h4;rw [DO dl,er];have p0:(!(Al xs 128==true))=false:=by rw [f1];rfl
 have f3':Al xs 64=false:=by cases hq:Al xs 64 with | false=>rfl | true=>rw [hq] at f3;cases f3
 cases f4:Al xs 32
 case false =>
  refine A7 (gv:=eq) func59 dj dj fun β0 w0 hb=>?_
  have t:=AHP xs m;rw [f4] at t;exact Ai E9 AB t (Il hx p0 (KL hx hl dk f4 f3' trivial)) (AS dj) hb jb fun _=>KJ fun C hC=>AHV hb hC elen (M4 h4 0 dl)
 case true =>
  refine A7 (gv:=fe) func59 dj dj fun β0 w0 hb=>?_
  have t:=AHQ xs m;rw [f4] at t;exact Ai E9 AB t (Il hx p0 (KL hx hl dk f4 f3' trivial)) (AS dj) hb jb fun _=>KJ fun C hC=>AHV hb hC elen (M4 h4 0 dl)
theorem AZH {xs:dn} {n m:Nat} (hl:n≤xs.length) (hm:n≤m) (hn:AL .i64 n=true) (hr:Bj 2 true (AA xs 0 n)=false):Ab dm 59 (OL n m 2 true) (A5 xs) 1 [] (G5 (BW 2 true (AA xs 0 n))) []:=by
 by_cases hk:n=96;case neg =>
  have e:BW 2 true (AA xs 0 n)=200:=by unfold BW;rw [KK hl,je hk]
  rw [e];exact Bs M2 Ct func59 dj dj (AY6 xs n m) dj ⟨hn,by rw [jg dk];rfl,trivial⟩
 subst hk;have hx:0<xs.length:=dk
 have hw:=KK hl;have er:=P4 (xs:=xs) (n:=96) dl
 have elen:=OO (xs:=xs) (k:=95) dk
 unfold BW Bj at *
 rw [DO dl,DO dl,DO dl,er,hw,jc rfl,ld] at hr;rw [DO dl,DO dl,DO dl,er,hw,jd (fun h=>h rfl)]
 by_cases f1:Al xs 128=true;case neg =>
  rw [je f1];exact Bs M2 Ct func59 dj dj (AY7 xs m) dj (Il hx (by cases hq:Al xs 128<;>first | rfl | exact absurd hq f1) trivial)
 rw [jd (fun h=>h f1)]
 rw [jc f1,ld] at hr;have p0:(!(Al xs 128==true))=false:=by rw [f1];rfl
 rw [jd (fun h=>by rw [o_,nc] at h;cases h)]
 rw [o_,nc,ra,ld] at hr;cases f2:Al xs 32
 case false =>
  cases f3:Al xs 64 with
  | true =>
   rw [je rfl];refine A7 (gv:=fa) func59 dj dj fun β0 w0 hb=>?_
   have t:=AY8 xs m;rw [f2] at t;exact Ai E9 AB t (Il hx p0 (KL hx hl dk f2 f3 ⟨rfl,trivial⟩)) (AS dj) hb jb fun _=>fT elen dl dl hb 96 0 dl (fun j hj=>absurd hj (oi j)) (fun h=>absurd h (qq 0))
  | false =>
   rw [f3] at hr;have hr':FO (CC xs 95) 2=false:=hr
   rw [jd jq,jd (by rw [hr'];exact jq)]
   refine A7 (gv:=eq) func59 dj dj fun β0 w0 hb=>?_
   exact Ai E9 AB (AHR xs m) (Il hx p0 (KL hx hl dk f2 f3 trivial)) (AS dj) hb jb fun _=>KJ fun C hC=>AHY hb hC elen hr'
 case true =>
  cases f3:Al xs 64 with
  | true =>
   rw [je rfl];refine A7 (gv:=ff) func59 dj dj fun β0 w0 hb=>?_
   have t:=AY9 xs m;rw [f2] at t;exact Ai E9 AB t (Il hx p0 (KL hx hl dk f2 f3 ⟨rfl,trivial⟩)) (AS dj) hb jb fun _=>fT elen dl dl hb 96 0 dl (fun j hj=>absurd hj (oi j)) (fun h=>absurd h (qq 0))
  | false =>
   rw [f3] at hr;have hr':FO (CC xs 95) 2=false:=hr
   rw [jd jq,jd (by rw [hr'];exact jq)]
   refine A7 (gv:=fe) func59 dj dj fun β0 w0 hb=>?_
   exact Ai E9 AB (AHS xs m) (Il hx p0 (KL hx hl dk f2 f3 trivial)) (AS dj) hb jb fun _=>KJ fun C hC=>AHY hb hC elen hr'
theorem AZI {xs:dn} {n m:Nat} (hl:n≤xs.length) (hm:n≤m) (hr:Bj 2 true (AA xs 0 n)=true):Ab dm 59 (OL n m 2 true) (A5 xs) 1 [] (LX 2 (Al (AA xs 0 n) 32)) (Ft 2 (Ik (CC (AA xs 0 n) 95) 2)):=by
 unfold Bj at hr;simp only [jm,ji] at hr;obtain ⟨hk,f1,f2,f3,h4⟩:=hr;rw [KK hl] at hk;have hk':n=96:=hk
 subst hk';have hx:0<xs.length:=dk
 have er:=P4 (xs:=xs) (n:=96) dl
 have elen:=OO (xs:=xs) (k:=95) dk
 rw [DO dl] at f1 f2 f3;rw [er] at h4;rw [DO dl,er];have p0:(!(Al xs 128==true))=false:=by rw [f1];rfl
 have f3':Al xs 64=false:=by cases hq:Al xs 64 with | false=>rfl | true=>rw [hq] at f3;cases f3
 cases f4:Al xs 32
 case false =>
  refine A7 (gv:=eq) func59 dj dj fun β0 w0 hb=>?_
  have t:=AHR xs m;rw [f4] at t;exact Ai E9 AB t (Il hx p0 (KL hx hl dk f4 f3' trivial)) (AS dj) hb jb fun _=>KJ fun C hC=>AHX hb hC elen (M4 h4 0 dl) (M4 h4 1 dl)
 case true =>
  refine A7 (gv:=fe) func59 dj dj fun β0 w0 hb=>?_
  have t:=AHS xs m;rw [f4] at t;exact Ai E9 AB t (Il hx p0 (KL hx hl dk f4 f3' trivial)) (AS dj) hb jb fun _=>KJ fun C hC=>AHX hb hC elen (M4 h4 0 dl) (M4 h4 1 dl)
end
def Im:AV→Option (Nat×Nat×Nat)
 | .val false [.sl k 0 n m]=>some (k,n,m)
 | .val false [.sx k n _]=>some (k,n,n)
 | _=>none
theorem KM {β:Env} {A:AV} {k n m:Nat} {u:Value} (h:Im A=some (k,n,m)) (hm:n≤m) (hr:AN β A u):∃ m',n≤m'∧AN β (AR k 0 n m') u:=by
 unfold Im at h;split at h
 ·injection h with h;injection h with h1 h;injection h with h2 h3;subst h1;subst h2;subst h3;exact ⟨_,hm,hr⟩
 ·injection h with h;injection h with h1 h;injection h with h2 h3;subst h1;subst h2;subst h3;obtain ⟨l1,l2,h1,h2,h3⟩:=hr;rcases h1 with ⟨B,q,cap,q1,q2,q3,q4⟩ | ⟨q1,q2,q3⟩
  ·exact ⟨cap,q3,l1,l2,.inl ⟨B,(q,0),q1,by rw [q2]⟩,h2,h3⟩
  ·subst q2;exact ⟨0,jj _,l1,l2,.inr (.inl ⟨q1,rfl,rfl,rfl,q3⟩),h2,h3⟩
 ·cases h
def R9 (h:Int) (s:Bool):Option Nat:=if h=1 then (match s with | true=>some 1 | false=>none) else if h=2 then (match s with | true=>some 2 | false=>none) else none
theorem AZJ {h:Int} {s:Bool} {K:Nat} (hK:R9 h s=some K) {xs:dn} {n m:Nat} (hl:n≤xs.length) (hm:n≤m) (hn:AL .i64 n=true) (hr:Bj K s (AA xs 0 n)=false):Ab dm 59 (OL n m h s) (A5 xs) 1 [] (G5 (BW K s (AA xs 0 n))) []:=by
 unfold R9 at hK;split at hK
 ·rename_i e;subst e;cases s
  ·cases hK
  ·injection hK with hK;subst hK;exact AZF hl hm hn hr
 ·split at hK
  ·rename_i e;subst e;cases s
   ·cases hK
   ·injection hK with hK;subst hK;exact AZH hl hm hn hr
  ·cases hK
theorem AZK {h:Int} {s:Bool} {K:Nat} (hK:R9 h s=some K) {xs:dn} {n m:Nat} (hl:n≤xs.length) (hm:n≤m) (hr:Bj K s (AA xs 0 n)=true):Ab dm 59 (OL n m h s) (A5 xs) 1 [] (LX K (Al (AA xs 0 n) 32)) (Ft K (Ik (CC (AA xs 0 n) (48*K-1)) K)):=by
 unfold R9 at hK;split at hK
 ·rename_i e;subst e;cases s
  ·cases hK
  ·injection hK with hK;subst hK;exact AZG hl hm hr
 ·split at hK
  ·rename_i e;subst e;cases s
   ·cases hK
   ·injection hK with hK;subst hK;exact AZI hl hm hr
  ·cases hK
def AHZ (e:Int):AV:=.tup [(false,[.v (.slice none 0 0)]),(false,[.b false]),(false,[.v (.int .i64 e)])]
theorem AZL {β β':Env} {g g' g'':Bool} {a a' b b' c c':List Ch} {u:Value} (h1:∀ v,Bx β g a v→Bx β' g a' v) (h2:∀ v,Bx β g' b v→Bx β' g' b' v) (h3:∀ v,Bx β g'' c v→Bx β' g'' c' v) (h:AN β (.tup [(g,a),(g',b),(g'',c)]) u):AN β' (.tup [(g,a'),(g',b'),(g'',c')]) u:=by
 obtain ⟨us,⟨u1,l1,q1,⟨u2,l2,q2,⟨u3,l3,q3,q4,q5⟩,q6⟩,q7⟩,q8⟩:=h;exact ⟨us,⟨u1,l1,h1 _ q1,⟨u2,l2,h2 _ q2,⟨u3,l3,h3 _ q3,q4,q5⟩,q6⟩,q7⟩,q8⟩
theorem AZM {β:Env} {e:Int} {u:Value} (h:AN β (G5 e) u):AN β (AHZ e) u:=AZL (fun _ q=>q) (fun _ q=>q) (fun _ q=>EX rfl q) h
def fU (n m:Nat) (xs:dn) (b d:Bool):dp:=[(Nat.ble n xs.length,true),(Nat.ble n m,true),(AL .i64 n,true),(b,d)]
noncomputable def rdSp:ASpec:=fun args H fr gv=>match args with
 | [S,.val false [.n .i64 h],B]=>match Im S,F0 (some B) with
  | some (k,n,m),some (_,s)=>match AG H k,R9 h s with
   | some ⟨_,cs,_⟩,some K=>match A8 .u8 cs,gv with
    | some xs,true::gy=>some (BR [k] 1 fr 0 [] (AHZ (BW K s (AA xs 0 n))) [] (fU n m xs (Bj K s (AA xs 0 n)) false) gy)
    | some xs,false::gy=>some (BR [k] 1 fr (3*K+2) [] (LX K (Al (AA xs 0 n) 32)) (Ft K (Ik (CC (AA xs 0 n) (48*K-1)) K)) (fU n m xs (Bj K s (AA xs 0 n)) true) gy)
    | _,_=>none
   | _,_=>none
  | _,_=>none
 | _=>none
theorem AZN {h:Int} {s:Bool} {K:Nat} (hK:R9 h s=some K):K=1∨K=2:=by
 unfold R9 at hK;split at hK
 ·cases s
  ·cases hK
  ·injection hK with hK;omega
 ·split at hK
  ·cases s
   ·cases hK
   ·injection hK with hK;omega
  ·cases hK
theorem AZO {K:Nat} (h:K=1∨K=2) (b:Bool) (l:dn):EU 1 (3*K+2) [] (LX K b) (Ft K (Ik l K))=true:=by
 rcases h with rfl | rfl<;>kernel_rfl
theorem AZP:BJ dm 59 rdSp:=by
 refine Da func59 dj dj fun args H fr gv r hs=>?_
 unfold rdSp at hs;split at hs;case h_2=>cases hs
 rename_i S h B;split at hs;case h_2=>cases hs
 rename_i k n m c s hS hB;split at hs;case h_2=>cases hs
 rename_i ty cs o K hk' hK;split at hs;case h_3=>cases hs
 all_goals
  rename_i xs gy iy;injection hs with hs
 ·refine ⟨[k],1,0,[],_,_,_,gy,hs.symm,fun β us w ha hg hc=>?_⟩
  obtain ⟨u1,iu,r1,⟨u2,iw,r2,⟨u3,us3,r3,ha,rfl⟩,rfl⟩,rfl⟩:=ha;obtain ⟨hl,hm,hn,hr,_⟩:=hc;obtain ⟨m',hm',r1⟩:=KM hS (jf hm) r1
  obtain ⟨g1,g2,g3⟩:=Eu hg hk' iy;exact ⟨OL n m' h s,A5 xs,BL (AZJ hK (jf hl) hm' hn hr) fun _ _ q=>AZM q,dj,⟨u1,_,Cp dk rfl r1,⟨u2,_,r2,⟨u3,us3,R2 hB r3,ha,rfl⟩,rfl⟩,rfl⟩,g2,g3⟩
 ·refine ⟨[k],1,3*K+2,[],_,_,_,gy,hs.symm,fun β us w ha hg hc=>?_⟩
  obtain ⟨u1,iu,r1,⟨u2,iw,r2,⟨u3,us3,r3,ha,rfl⟩,rfl⟩,rfl⟩:=ha;obtain ⟨hl,hm,hn,hr,_⟩:=hc;obtain ⟨m',hm',r1⟩:=KM hS (jf hm) r1
  obtain ⟨g1,g2,g3⟩:=Eu hg hk' iy;exact ⟨OL n m' h s,A5 xs,AZK hK (jf hl) hm' hr,AZO (AZN hK) _ _,⟨u1,_,Cp dk rfl r1,⟨u2,_,r2,⟨u3,us3,R2 hB r3,ha,rfl⟩,rfl⟩,rfl⟩,g2,g3⟩
abbrev fi:List Bool:=[false,false,true,true]
open Ex Num Rg
open Sh (R av rd mo en mo_en)
set_option maxRecDepth 100000
set_option maxHeartbeats 4000000
noncomputable def SJi:dr:=(59,rdSp)::SJg
theorem VA:AW dm SJi:=⟨AZP,AYT⟩
noncomputable abbrev Lf:gr:=AH SJi KH
def HU (n m:Nat) (xs:dn) (b d:Bool) (r:dp):dp:=(Nat.ble n xs.length,true)::(Nat.ble n m,true)::(AL .i64 n,true)::(b,d)::r
def In (n m:Nat) (s:Bool):List AV:=[AR 0 0 n m,.val false [.b s]]
noncomputable def xN (K j:Nat) (L:dn):Nat:=CO (CC L (48*K-1)) (48*j)
noncomputable def yR (x:Nat):Nat:=D_ (ad FP (mu FP (mu FP x x) x) (4:Nat))
noncomputable def yB (x:Nat) (b:Bool):Nat:=if (!(BP (yR x)==b))=true then ng FP (yR x) else yR x
def dE (e:Int):AV:=.tup [(true,G2 false),(false,[.n .i64 e])]
def dP (x y:Nat):AV:=.tup [(true,[.num 6 x,.num 6 y,.b false]),(false,[.n .i64 0])]
section
variable (n m:Nat) (xs:dn)
noncomputable def Lh (s:Bool) (p:List Bool):gq:=Aj f28 (In n m s) (A5 xs) 1 p
theorem AZQ:AT dm Lf f28 800 1 [] (Lh n m xs true dw)=some (HU n m xs (Bj 1 true (AA xs 0 n)) false [(!decide (BW 1 true (AA xs 0 n)=0),true)],[],.tup [(true,G2 false),(false,[.v (.int .i64 (BW 1 true (AA xs 0 n)))])],[]):=dj
theorem AZR:AT dm Lf f28 800 1 [] (Lh n m xs true eg)=some (HU n m xs (Bj 1 true (AA xs 0 n)) false ((!decide (BW 1 true (AA xs 0 n)=0),false)::tt 2 []),[],.tup [(true,G2 true),(false,[.n .i64 0])],[]):=dj
noncomputable def P6 (b:Bool) (r:dp):dp:=HU n m xs (Bj 1 true (AA xs 0 n)) true ((true,true)::(false,false)::(true,true)::(!(BP (yR (xN 1 0 (AA xs 0 n)))==Al (AA xs 0 n) 32),b)::r)
theorem AZS:AT dm Lf f28 800 1 [] (Lh n m xs true fi)=some (P6 n m xs true [(!BE (An (xN 1 0 (AA xs 0 n)) (ng FP (yR (xN 1 0 (AA xs 0 n)))) false),true)],[],dE 204,[]):=dj
theorem AZT:AT dm Lf f28 800 1 [] (Lh n m xs true ff)=some (P6 n m xs true [(!BE (An (xN 1 0 (AA xs 0 n)) (ng FP (yR (xN 1 0 (AA xs 0 n)))) false),false),(!BT (An (xN 1 0 (AA xs 0 n)) (ng FP (yR (xN 1 0 (AA xs 0 n)))) false),true)],[],dE 205,[]):=dj
theorem AZU:AT dm Lf f28 800 1 [] (Lh n m xs true fe)=some (P6 n m xs true [(!BE (An (xN 1 0 (AA xs 0 n)) (ng FP (yR (xN 1 0 (AA xs 0 n)))) false),false),(!BT (An (xN 1 0 (AA xs 0 n)) (ng FP (yR (xN 1 0 (AA xs 0 n)))) false),false)],[],dP (xN 1 0 (AA xs 0 n)) (ng FP (yR (xN 1 0 (AA xs 0 n)))),[]):=dj
theorem AZV:AT dm Lf f28 800 1 [] (Lh n m xs true ef)=some (P6 n m xs false [(!BE (An (xN 1 0 (AA xs 0 n)) (yR (xN 1 0 (AA xs 0 n))) false),true)],[],dE 204,[]):=dj
theorem AZW:AT dm Lf f28 800 1 [] (Lh n m xs true fa)=some (P6 n m xs false [(!BE (An (xN 1 0 (AA xs 0 n)) (yR (xN 1 0 (AA xs 0 n))) false),false),(!BT (An (xN 1 0 (AA xs 0 n)) (yR (xN 1 0 (AA xs 0 n))) false),true)],[],dE 205,[]):=dj
theorem AZX:AT dm Lf f28 800 1 [] (Lh n m xs true eq)=some (P6 n m xs false [(!BE (An (xN 1 0 (AA xs 0 n)) (yR (xN 1 0 (AA xs 0 n))) false),false),(!BT (An (xN 1 0 (AA xs 0 n)) (yR (xN 1 0 (AA xs 0 n))) false),false)],[],dP (xN 1 0 (AA xs 0 n)) (yR (xN 1 0 (AA xs 0 n))),[]):=dj
end
noncomputable def P7 (p:Pt FP):Pt FP×Int:=if BE p=true then (if BT p=true then (p,0) else (.pt 0 0,205)) else (.pt 0 0,204)
noncomputable def JT (s:Bool) (L:dn):Pt FP:=match s with
 | true=>An (xN 1 0 L) (yB (xN 1 0 L) (Al L 32)) false
 | false=>An (xN 2 0 L) (xN 2 1 L) false
def kS (s:Bool):Nat:=match s with | true=>1 | false=>2
noncomputable def E' (s:Bool) (L:dn):Pt FP×Int:=if Bj (kS s) s L=true then P7 (JT s L) else if BW (kS s) s L=0 then (.inf,0) else (.pt 0 0,BW (kS s) s L)
noncomputable def FQ (q:Pt FP×Int):AV:=Mv q.1 q.2
theorem YN {β:Env} {e:Int} {u:Value} (h:AN β (dE e) u):AN β (FQ (.pt 0 0,e)) u:=C7 (fun _ q=>(H9 (x:=0) (y:=0) (i:=false) dj q).1) (fun _ q=>EX rfl q) h
theorem AHa {β:Env} {x y:Nat} (hx:x<pN) (hy:y<pN) {u:Value} (h:AN β (dP x y) u):AN β (FQ (An x y false,0)) u:=by
 have e:FQ (An x y false,0)=.tup [(true,[.num 6 x,.num 6 y,.v (.bool false)]),(false,[.v (.int .i64 0)])]:=by
  show Mv (.pt (tf x) (tf y)) 0=_;show AV.tup [(true,[Ch.num 6 (tf x).val,Ch.num 6 (tf y).val,Ch.v (.bool false)]),(false,[Ch.v (.int .i64 0)])]=_;rw [HN hx,HN hy]
 rw [e];exact C7 (fun _ q=>(H9 (x:=x) (y:=y) (i:=false) rfl q).1) (fun _ q=>EX rfl q) h
theorem AHb {n m:Nat} {xs:dn} {s:Bool} {x y:Nat} (hx:x<pN) (hy:y<pN) {C:dp→dp} (hC:∀ r,AO r→AO (C r)) {p1 p2 p3:List Bool}
  (h1:AT dm Lf f28 800 1 [] (Lh n m xs s p1)=some (C [(!BE (An x y false),true)],[],dE 204,[]))
  (h2:AT dm Lf f28 800 1 [] (Lh n m xs s p2)=some (C [(!BE (An x y false),false),(!BT (An x y false),true)],[],dE 205,[]))
  (h3:AT dm Lf f28 800 1 [] (Lh n m xs s p3)=some (C [(!BE (An x y false),false),(!BT (An x y false),false)],[],dP x y,[])) :
  Ab dm 28 (In n m s) (A5 xs) 1 [] (FQ (P7 (An x y false))) []:=by
 unfold P7;cases ho:BE (An x y false) with
 | false =>
  rw [jd jq];exact BL (Bs VA Ct func28 dj dj h1 dj (hC _ ⟨by rw [ho];rfl,trivial⟩)) fun _ _ q=>YN q
 | true =>
  rw [je rfl];cases hi:BT (An x y false) with
  | false =>
   rw [jd jq];exact BL (Bs VA Ct func28 dj dj h2 dj (hC _ ⟨by rw [ho];rfl,by rw [hi];rfl,trivial⟩)) fun _ _ q=>YN q
  | true =>
   rw [je rfl];exact BL (Bs VA Ct func28 dj dj h3 dj (hC _ ⟨by rw [ho];rfl,by rw [hi];rfl,trivial⟩)) fun _ _ q=>AHa hx hy q
theorem H_ {K:Nat} {s:Bool} {L:dn} (h:Bj K s L=true) (j:Nat) (hj:j<K):xN K j L<pN:=by
 unfold Bj at h;simp only [jm] at h;exact M4 h.2.2.2.2 j hj
theorem YO (x:Nat):yR x<pN:=by
 unfold yR;generalize (ad FP (mu FP (mu FP x x) x) (4:Nat))=a
 by_cases h:Cq a=true
 ·exact (rU h).2.2
 ·unfold D_;rw [jd h];exact DB
theorem wK (x:Nat):Nat.lt (ng FP x) pN:=(-(tf x)).isLt
theorem fV {e:Int} (h:¬ e=0):(!decide (e=0))=true:=by rw [jg h];rfl
theorem AHc {e:Int} (h:e=0):(!decide (e=0))=false:=by rw [jc h];rfl
theorem AZY {β:Env} {u:Value} (h:AN β (.tup [(true,G2 true),(false,[.n .i64 0])]) u):AN β (FQ (.inf,0)) u:=C7 (fun _ q=>(H9 (x:=0) (y:=0) (i:=true) dj q).1) (fun _ q=>EX rfl q) h
theorem AZZ {β:Env} {e:Int} {u:Value} (h:AN β (.tup [(true,G2 false),(false,[.v (.int .i64 e)])]) u):AN β (FQ (.pt 0 0,e)) u:=C7 (fun _ q=>(H9 (x:=0) (y:=0) (i:=false) dj q).1) (fun _ q=>q) h
theorem wL {n m:Nat} {xs:dn} (hl:n≤xs.length) (hm:n≤m) (hn:AL .i64 n=true) (s:Bool) (hs1:s=true):Ab dm 28 (In n m s) (A5 xs) 1 [] (FQ (E' s (AA xs 0 n))) []:=by
 have hW:∀ (b d:Bool) r,b=d→AO r→AO (HU n m xs b d r):=fun b d r h hr=>⟨jh hl,jh hm,hn,h,hr⟩
 unfold E';cases hr:Bj (kS s) s (AA xs 0 n) with
 | false =>
  rw [jd jq];by_cases he:BW (kS s) s (AA xs 0 n)=0
  ·rw [je he];cases s with
   | true=>exact BL (Bs VA Ct func28 dj dj (AZR n m xs) dj (hW _ _ _ hr ⟨AHc he,AI 2 trivial⟩)) fun _ _ q=>AZY q
   | false=>cases hs1
  ·rw [jd he];cases s with
   | true=>exact BL (Bs VA Ct func28 dj dj (AZQ n m xs) dj (hW _ _ _ hr ⟨fV he,trivial⟩)) fun _ _ q=>AZZ q
   | false=>cases hs1
 | true =>
  rw [je rfl];cases s with
  | true =>
   have hx:=H_ hr 0 dl;unfold JT yB;by_cases hb:(!(BP (yR (xN 1 0 (AA xs 0 n)))==Al (AA xs 0 n) 32))=true
   ·simp only [je hb];exact AHb hx (wK _) (C:=P6 n m xs true) (fun r hq=>hW _ _ _ hr ⟨rfl,rfl,rfl,hb,hq⟩) (AZS n m xs) (AZT n m xs) (AZU n m xs)
   ·simp only [jd hb];exact AHb hx (YO _) (C:=P6 n m xs false) (fun r hq=>hW _ _ _ hr ⟨rfl,rfl,rfl,by simpa using hb,hq⟩) (AZV n m xs) (AZW n m xs) (AZX n m xs)
  | false=>cases hs1
noncomputable def Li (V:Bool→dn→AV):ASpec:=fun args H fr gv=>match args with
 | [S,B]=>match Im S,F0 (some B) with
  | some (k,n,m),some (_,true)=>match AG H k with
   | some ⟨_,cs,_⟩=>match A8 .u8 cs with
    | some xs=>some (BR [k] 1 fr 0 [] (V true (AA xs 0 n)) [] [(Nat.ble n xs.length,true),(Nat.ble n m,true),(AL .i64 n,true)] gv)
    | none=>none
   | _=>none
  | _,_=>none
 | _=>none
theorem OP {f:FuncId} {fn:Func} {V:Bool→dn→AV} (ip:dm.funcs[f]? = some fn) (hb:fn.body.isSome=true) (h_:fo fn) (hk:∀ s L,EU 1 0 [] (V s L) []=true)
  (h:∀ (n m:Nat) (xs:dn),n≤xs.length→n≤m→AL .i64 n=true→Ab dm f (In n m true) (A5 xs) 1 [] (V true (AA xs 0 n)) []):BJ dm f (Li V):=by
 refine Da ip hb h_ fun args H fr gv r hs=>?_
 unfold Li at hs;split at hs;case h_2=>cases hs
 rename_i S B;split at hs;case h_2=>cases hs
 rename_i k n m c hS hB;split at hs;case h_2=>cases hs
 rename_i ty cs o hk';split at hs;case h_2=>cases hs
 rename_i xs iy;injection hs with hs;refine ⟨[k],1,0,[],_,_,_,gv,hs.symm,fun β us w ha hg hc=>?_⟩
 obtain ⟨u1,iu,r1,⟨u3,us3,r3,ha,rfl⟩,rfl⟩:=ha;obtain ⟨hl,hm,hn,_⟩:=hc;obtain ⟨m',hm',r1⟩:=KM hS (jf hm) r1
 obtain ⟨g1,g2,g3⟩:=Eu hg hk' iy;exact ⟨In n m' true,A5 xs,h n m' xs (jf hl) hm' hn,hk _ _,⟨u1,_,Cp dk rfl r1,⟨u3,us3,R2 hB r3,ha,rfl⟩,rfl⟩,g2,g3⟩
noncomputable def SJk:dr:=(28,Li fun s L=>FQ (E' s L))::SJi
theorem wM:AW dm SJk:=⟨OP func28 dj dj (fun _ _=>by kernel_rfl) fun _ _ _ hl hm hn=>wL hl hm hn true rfl,VA⟩
noncomputable abbrev oJk:gr:=AH SJk KH
theorem wO:gp dm oJk:=AJ wM Ct
open Ex Num Rg
open Sh (R av rd mo en mo_en)
theorem wP (K:Nat):∀ d∈cat (List.replicate K 0),d=0:=by
 induction K with
 | zero=>intro d h;cases h
 | succ K ih =>
  intro d h;rw [ru,cat] at h;rcases jp.1 h with q | q
  ·have:(Co 0 48).all (fun d=>decide (d=0))=true:=dj
   exact jx (mw.1 this d q)
  ·exact ih d q
section
variable {s i b:Bool} {x:Nat} {r:List Nat} {K:Nat} (hx:x<pN) (hK:0<K) (hl:K≤r.length+1)
include hx hK hl
theorem AHd:(AA (EY s i b (cat (x::r))) 0 (48*K)).length=48*K∧Al (AA (EY s i b (cat (x::r))) 0 (48*K)) 128=s∧Al (AA (EY s i b (cat (x::r))) 0 (48*K)) 64=i∧Al (AA (EY s i b (cat (x::r))) 0 (48*K)) 32=(s&&(!i&&b))∧CC (AA (EY s i b (cat (x::r))) 0 (48*K)) (48*K-1)=cat ((x::r).take K):=by
 obtain ⟨f,t,e,h0,h1⟩:=AYs hx r;have h:=AYq s i b (show 0<48*K by omega) (show 48*K≤(cat (x::r)).length by rw [fM,kp];omega) e h0 h1
 rw [fN] at h;exact h
theorem AZa (hr:∀ y∈r,y<pN) (hi:i=false):Bj K s (AA (EY s i b (cat (x::r))) 0 (48*K))=true∧(∀ j,j<K→xN K j (AA (EY s i b (cat (x::r))) 0 (48*K))=(x::r).getD j 0)∧Al (AA (EY s i b (cat (x::r))) 0 (48*K)) 32=(s&&b):=by
 obtain ⟨q1,q2,q3,q4,q5⟩:=AHd (s:=s) (i:=i) (b:=b) hx hK hl
 have hn:∀ j,j<K→CO (cat ((x::r).take K)) (48*j)=(x::r).getD j 0∧(x::r).getD j 0<pN:=by
  intro j hj;have ik:(x::r).getD j 0<pN:=by
   rw [j_];cases hq:(x::r)[j]? with
   | none=>exact DB
   | some y =>
    rcases ju.1 (ol hq) with e | e
    ·rw [e];exact hx
    ·exact hr y e
  refine ⟨?_,ik⟩
  rw [AHI _ j (by rw [ke,kp];omega)]
  have e:((x::r).take K).getD j 0=(x::r).getD j 0:=by rw [j_,j_,qz hj]
  rw [e];exact AYr ik
 refine ⟨?_,fun j hj=>?_,?_⟩
 ·unfold Bj;rw [q1,q2,q3,q4,q5,hi,jc rfl,jc rfl];have ho:FO (cat ((x::r).take K)) K=true:=by
   unfold FO;rw [mw];intro j hj;obtain ⟨e1,e2⟩:=hn j (lz.1 hj)
   rw [e1];exact jc e2
  rw [ho];cases s<;>cases b<;>rfl
 ·unfold xN;rw [q5];exact (hn j hj).1
 ·rw [q4,hi];rfl
theorem AZb (hi:i=true) (h0:∀ d∈cat ((x::r).take K),d=0):Bj K s (AA (EY s i b (cat (x::r))) 0 (48*K))=false∧BW K s (AA (EY s i b (cat (x::r))) 0 (48*K))=0:=by
 obtain ⟨q1,q2,q3,q4,q5⟩:=AHd (s:=s) (i:=i) (b:=b) hx hK hl
 have e32:(s&&(!i&&b))=false:=by rw [hi];cases s<;>rfl
 constructor
 ·unfold Bj;rw [q1,q2,q3,q4,q5,hi];cases s<;>cases b<;>simp
 ·unfold BW;rw [q1,q2,q3,q4,q5,e32,hi,jd (fun h=>h rfl),jd (fun h=>h rfl),jd (by rw [n_];exact jq),je rfl]
  have ho:Ld (cat ((x::r).take K)) false=true:=by
   unfold Ld;rw [ra,Bool.and_true,mw];exact fun d hd=>jc (h0 d hd)
  unfold G6;rw [je ho]
end
section
variable {s:Bool} {K:Nat} {L:dn} (hK:0<K) (hL:∀ d∈L,0≤d∧d<256)
include hK hL
theorem AHe (gx:L.length=48*K):(CC L (48*K-1)).length=48*K∧∀ d∈CC L (48*K-1),0≤d∧d<256:=by
 cases L with
 | nil=>simp at gx;omega
 | cons v u =>
  refine ⟨by rw [OO dk];omega,fun d hd=>?_⟩
  rcases ju.1 hd with e | e
  ·have hv:=hL v (qg ..)
   have:=AYp hv.1 hv.2
   have e':d=bits .and .u8 v 31:=e
   rw [e'];omega
  ·exact hL d (nx _ (om (i:=0) (pp e)))
theorem fW {b:Bool} {l:List Nat} (hr:Bj K s L=true) (hl:l.take K=(List.range K).map fun j=>xN K j L) (hb:Al L 32=(s&&b)):AA (EY s false b (cat l)) 0 (48*K)=L:=by
 unfold Bj at hr;simp only [jm,ji] at hr;obtain ⟨h1,h2,h3,h4,_⟩:=hr;obtain ⟨g1,g2⟩:=AHe hK hL h1;refine AHH dk h1 hL h2 (by simpa using h4) (by rw [hb,ra,ld]) ?_
 rw [fN,hl];exact AHJ K _ g1 g2
theorem AHf {b:Bool} {l:List Nat} (hr:Bj K s L=false) (he:BW K s L=0) (hl:l.take K=List.replicate K 0):AA (EY s true b (cat l)) 0 (48*K)=L:=by
 unfold BW at he;by_cases h1:L.length≠48*K
 ·rw [je h1] at he;cases he
 have h1:L.length=48*K:=dk
 rw [jd (fun h=>h h1)] at he
 by_cases h2:Al L 128≠s
 ·rw [je h2] at he;cases he
 have h2:Al L 128=s:=by
  cases hq:Al L 128<;>cases s<;>first | rfl | exact absurd (by rw [hq];decide) h2
 rw [jd (fun h=>h h2)] at he
 by_cases h3:(Al L 32&&!s)=true
 ·rw [je h3] at he;cases he
 rw [jd h3] at he;obtain ⟨g1,g2⟩:=AHe hK hL h1;cases h4:Al L 64 with
 | true =>
  rw [h4,je rfl] at he;unfold G6 at he;by_cases h5:Ld (CC L (48*K-1)) (Al L 32)=true
  ·unfold Ld at h5;obtain ⟨h6,h7⟩:=jo.1 h5;have h7:Al L 32=false:=by simpa using h7
   have h6:∀ d∈CC L (48*K-1),d=0:=fun d hd=>jx (mw.1 h6 d hd)
   refine AHH dk h1 hL h2 h4 (by rw [h7];cases s<;>rfl) ?_
   rw [fN,hl];have e1:=List.eq_replicate_iff.2 ⟨g1,h6⟩
   have e2:=List.eq_replicate_iff.2 ⟨(fM (List.replicate K 0)).trans (by rw [od]),wP K⟩
   rw [e1,e2]
  ·rw [jd h5] at he;cases he
 | false =>
  rw [h4,jd jq] at he;by_cases h5:FO (CC L (48*K-1)) K=true
  ·exfalso
   unfold Bj at hr;have h3':(Al L 32&&!s)=false:=by simpa using h3
   rw [h3',h4,h5,jc h1,jc h2] at hr;cases hr
  ·rw [jd h5] at he;cases he
end
theorem AZc {y:FP} (h:y≠0):0<y.val:=rv fun e=>h (by rw [← CL y,e];exact tf_zero)
theorem AHg (y:FP):BP y.val=decide ((pN-y.val) % pN<y.val):=by
 have h:=y.isLt;unfold BP DC;rw [jk h]
theorem fX {y:FP} (h:y≠0):BP (-y).val=!BP y.val:=by
 have h1:=y.isLt;have h0:=AZc h;have hv:(-y).val=pN-y.val:=by
  show (pN-y.val) % pN=pN-y.val;exact jk dk
 have ho:=XQ;rw [AHg,AHg,hv,jk (show pN-(pN-y.val)<pN by omega),jk (show pN-y.val<pN by omega)]
 by_cases hq:pN-y.val<y.val
 ·rw [jc hq,jg dk];rfl
 ·rw [jg hq,jc dk];rfl
theorem AHh (x:Nat):tf (yR x)=Cr (tf x*tf x*tf x+D4)∧Cq (ad FP (mu FP (mu FP x x) x) (4:Nat))=C4 (tf x*tf x*tf x+D4):=by
 have e:(ad FP (mu FP (mu FP x x) x) (4:Nat):Nat)=(tf x*tf x*tf x+D4).val:=by
  unfold ad mu;show (mo (en (mo (en (mo x*mo x:FP))*mo x:FP))+mo (4:Nat):FP).val=_;rw [mo_en,mo_en];rfl
 constructor
 ·unfold yR Cr;rw [e]
 ·unfold C4;rw [e]
theorem AZd {a b:FP} (h:b*b=a*a*a+D4):yB a.val (BP b.val)=b.val:=by
 have hb:b≠0:=C1.no2 a b h
 have hs:C4 (a*a*a+D4)=true:=Mx h
 obtain ⟨e1,_⟩:=AHh a.val;rw [CL] at e1;have hq:=OH hs;rw [← e1,← h] at hq;have hv:(tf (yR a.val)).val=yR a.val:=HN (YO _)
 unfold yB;rcases eN hq with e | e
 ·have e':yR a.val=b.val:=by rw [← hv,e]
  rw [e',jd (by cases BP b.val<;>decide)]
 ·have e':yR a.val=(-b).val:=by rw [← hv,e]
  have hg:ng FP (yR a.val)=b.val:=by
   show (-(tf (yR a.val)):FP).val=b.val;rw [e,neg_neg]
  rw [hg];rw [e',fX hb,je (by cases BP b.val<;>decide)]
theorem AZe {x:Nat} {c:Bool} (h:Rg.On C1.b (An x (yB x c) false)):BP (yB x c)=c:=by
 have hb:tf (yB x c)≠0:=C1.no2 _ _ h
 have hv:(tf (yR x)).val=yR x:=HN (YO _)
 unfold yB at hb ⊢
 by_cases hq:(!(BP (yR x)==c))=true
 ·rw [je hq] at hb ⊢;have hv2:ng FP (yR x)=(-(tf (yR x)):FP).val:=rfl
  have iq:tf (yR x)≠0:=fun e=>hb (by
   rw [hv2,e,HL];exact tf_zero)
  have:BP (ng FP (yR x))=!BP (yR x):=by
   rw [hv2,fX iq,hv]
  rw [this]
  revert hq
  cases BP (yR x)<;>cases c<;>decide
 ·rw [jd hq]
  revert hq
  cases BP (yR x)<;>cases c<;>decide
theorem AZf (p:Pt FP):∀ y∈[CM p],y<pN:=fun y hy=>by
 rcases ju.1 hy with e | e
 ·rw [e];exact dI p
 ·cases e
theorem YP (s:Bool):0<kS s:=by cases s<;>decide
theorem AHi (s:Bool):kS s≤2:=by cases s<;>decide
theorem AZg {p:Pt FP} (h:BT p=true):BE p=true:=(jo.1 h).1
theorem AZh {p:Pt FP} (h:BT p=true) (s:Bool):E' s (AA (FN s p) 0 (48*kS s))=(p,0):=by
 have ho:=AZg h;rw [fL,fO];unfold E' l1;cases p with
 | inf =>
  have h0:∀ d∈cat ([EF (Pt.inf:Pt FP),CM (Pt.inf:Pt FP)].take (kS s)),d=0:=by
   cases s
   ·exact wP 2
   ·exact wP 1
  obtain ⟨q1,q2⟩:=AZb (r:=[CM (Pt.inf:Pt FP)]) (s:=s) (i:=Aq (Pt.inf:Pt FP)) (b:=BP (CM (Pt.inf:Pt FP))) (X5 Pt.inf) (YP s) (AHi s) rfl h0
  rw [q1,q2,jd jq,je rfl]
 | pt a b =>
  obtain ⟨q1,q2,q3⟩:=AZa (r:=[CM (.pt a b:Pt FP)]) (s:=s) (i:=Aq (.pt a b:Pt FP)) (b:=BP (CM (.pt a b:Pt FP))) (X5 (.pt a b)) (YP s) (AHi s) (AZf _) rfl
  rw [q1,je rfl];have hP:JT s (AA (EY s (Aq (.pt a b:Pt FP)) (BP (CM (.pt a b:Pt FP))) (cat [EF (.pt a b:Pt FP),CM (.pt a b:Pt FP)])) 0 (48*kS s))=.pt a b:=by
   unfold JT;cases s with
   | true =>
    have x0:=q2 0 dl;have hon:b*b=a*a*a+D4:=(LR _).1 ho
    have ey:=AZd hon;simp only
    rw [show kS true=1 from rfl] at x0 q3 ⊢
    rw [x0,q3];show An a.val (yB a.val (BP b.val)) false=_;rw [ey];exact Uu (.pt a b)
   | false =>
    have x0:=q2 0 dl;have x1:=q2 1 dl;simp only
    rw [show kS false=2 from rfl] at x0 x1 ⊢
    rw [x0,x1];exact Uu (.pt a b)
  rw [hP];unfold P7;rw [ho,h];rfl
theorem AZi {L:dn} (hL:∀ d∈L,0≤d∧d<256) {s:Bool} (h:(E' s L).2=0):BT (E' s L).1=true∧AA (FN s (E' s L).1) 0 (48*kS s)=L:=by
 unfold E' at h ⊢
 cases hr:Bj (kS s) s L with
 | false =>
  rw [hr,jd jq] at h;rw [jd jq];by_cases he:BW (kS s) s L=0
  ·rw [je he];refine ⟨by unfold BT;rw [HM];rfl,?_⟩
   rw [fL,fO];exact AHf (YP s) hL hr he (by cases s<;>rfl)
  ·rw [jd he] at h;exact absurd h he
 | true =>
  rw [hr,je rfl] at h;rw [je rfl];unfold P7 at h ⊢
  cases ho:BE (JT s L) with
  | false=>rw [ho,jd jq] at h;cases h
  | true =>
   rw [ho,je rfl] at h;cases hi:BT (JT s L) with
   | false=>rw [hi,jd jq] at h;cases h
   | true =>
    rw [je rfl,je rfl];refine ⟨hi,?_⟩
    have hon:=(LR _).1 ho
    rw [fL,fO];cases s with
    | true =>
     have x0:xN 1 0 L<pN:=H_ hr 0 dl
     have hY:yB (xN 1 0 L) (Al L 32)<pN:=by
      unfold yB;split
      ·exact wK _
      ·exact YO _
     have e1:l1 (JT true L)=[xN 1 0 L,yB (xN 1 0 L) (Al L 32)]:=by
      show [(tf _).val,(tf _).val]=_;rw [HN x0,HN hY]
     have e2:CM (JT true L)=yB (xN 1 0 L) (Al L 32):=HN hY
     have e3:Aq (JT true L)=false:=rfl
     rw [e1,e2,e3,AZe hon];exact fW (YP true) hL hr rfl (by rw [ld])
    | false =>
     have x0:xN 2 0 L<pN:=H_ hr 0 dl
     have x1:xN 2 1 L<pN:=H_ hr 1 dl
     have e1:l1 (JT false L)=[xN 2 0 L,xN 2 1 L]:=by
      show [(tf _).val,(tf _).val]=_;rw [HN x0,HN x1]
     have e3:Aq (JT false L)=false:=rfl
     rw [e1,e3];refine fW (YP false) hL hr rfl ?_
     unfold Bj at hr;simp only [jm] at hr;have:=hr.2.2.1
     rw [n_];simpa using this
theorem wQ {H:Type} {enc:TypeId×Value→H} {W:World} {base:Nat} {v:Value} {d:DataW H} {p:List MemPlace} (hv:Value.okWide dm W .any base 22 v) (ht:DataW.Trod enc dm W 0 (fun _=>true) true 22 v d p) {ls:List Ex.Loc} {bs:List gt} (ho:ArgsOk W ls bs) :
  ∃ (L:Ex.Loc) (zs:dn) (n m:Nat),(∀ x∈zs,0≤x∧x<256)∧n≤zs.length∧n≤m∧AL .i64 (n:Int)=true∧AN (DN (ls++[L])) (AR ls.length 0 n m) v∧ArgsOk W (ls++[L]) (bs++[Ak [.seq .u8 zs]]):=by
 obtain ⟨L,zs,n,m,h1,h2,h3,h4,h5⟩:=ATS hv ht ho;refine ⟨L,zs,n,m,h1,h2,?_,h3,h4,h5⟩
 obtain ⟨l1,l2,r1,r2,r3⟩:=h4;rcases r1 with ⟨B,q,e1,e2⟩ | ⟨e1,e2,e3,e4,e5⟩ | ⟨e1,e2,e3,e4,e5⟩
 ·subst e2;injection r3 with r3 _;subst r3;have hk:Cell.ok dm W .any base 22 (.slice (some ⟨B,q.2+0,none⟩) n m):=by
   have:=hv
   simp only [Value.okWide,Xu,Cell.okWide] at this;exact this
  simp only [Cell.ok,Xu] at hk;omega
 ·omega
 ·omega
def hfC:List Ch:=[.n .u64 0xdcff7fffffffd556,.n .u64 0xf55ffff58a9ffff,.n .u64 0xb39869507b587b12,.n .u64 0xb23ba5c279c2895f,.n .u64 0x258dd3db21a5d66b,.n .u64 0xd0088f51cbff34d]
def wS:Nat:=0x0d0088f51cbff34d258dd3db21a5d66bb23ba5c279c2895fb39869507b587b120f55ffff58a9ffffdcff7fffffffd556
theorem AHj:∃ n,n=wS:=⟨_,rfl⟩
noncomputable def GU:Nat:=Classical.choose AHj
theorem AHk:GU=wS:=kq AHj
theorem AZk:AM dm oJk f173 [] [] 100=some ([],.val true hfC):=dj
theorem AZl:AU dm 173 [] (Aa GU):=by
 rw [AHk];exact C3 (AP wO AB func173 AZk trivial rfl) fun u ⟨l,q,e⟩=>⟨l,GQ (k:=6) (x:=wS) dj q,e⟩
theorem AZm:tf GU+tf GU=1:=by rw [AHk,← Gz,← EB];exact AWb dj
noncomputable def B_ (a:gj):Int:=if C8 a=true then 1 else 0
theorem AZn (a:gj):decide (B_ a=1)=C8 a:=by
 unfold B_;cases C8 a<;>rfl
theorem AHl (x:Nat):E3 x=if OG (tf x)=true then 1 else 0:=by
 unfold E3 OG;have h:(tf x).val=x % pN:=rfl
 rw [h];rcases nf (x % pN) with e | e<;>rw [e]<;>rfl
theorem AZo (r:R gj):AM dm oJk f174 [va gj r] du 300=some ([(dq (re FP r.1) 0,true)],DY (E3 r.2)):=dj
theorem AZp (r:R gj):AM dm oJk f174 [va gj r] dt 300=some ([(dq (re FP r.1) 0,false)],DY (E3 r.1)):=dj
theorem AHm (r:R gj):AU dm 174 [va gj r] (DY (B_ (mo r))):=by
 have e:dq (re FP r.1) 0=decide ((mo r:gj).a=0):=M0 (mo r:gj).a 0
 have h1:=AZo r;have h2:=AZp r;rw [AHl] at h1 h2;unfold B_ C8;by_cases h:(mo r:gj).a=0
 ·rw [je h];exact AP wO AB func174 h1 ⟨by rw [e];exact jc h,trivial⟩ rfl
 ·rw [jd h];exact AP wO AB func174 h2 ⟨by rw [e];exact jg h,trivial⟩ rfl
noncomputable def SJl:dr:=(173,Ac (ev FP (Aa GU)))::(174,Ac (Bi gj fun r=>DY (B_ (mo r))))::SJk
theorem AHn:AW dm SJl:=⟨Ad func173 dj dj (eS (α:=FP) AZl),Ad func174 dj dj (Bm AHm),wM⟩
noncomputable abbrev oJl:gr:=AH SJl KH
noncomputable def tX (r:R gj) (n:Nat):Nat:=D_ (mu FP (ad FP r.1 n) GU)
noncomputable def OQ (r:R gj) (n:Nat):Bool:=Cq (mu FP (ad FP r.1 n) GU)
noncomputable def OR (r:R gj):Bool:=Cq (ng FP r.1)
noncomputable def Io (r:R gj) (n:Nat):R gj:=(tX r n,D_ (ng FP r.1))
noncomputable def Ip (r:R gj) (n:Nat):R gj:=(tX r n,mu FP (mu FP r.2 GU) (iv FP (tX r n)))
noncomputable def fY (n:Nat):List AV:=[va FP n,.val false [.p 0 0]]
noncomputable def fZ (r:R gj):Heap:=[(0,some (Ak (av r)))]
noncomputable def OS (r:R gj) (n:Nat) (p:List Bool):=AT dm oJl f172 500 1 [] (Aj f172 (fY n) (fZ r) 1 p)
section
variable (r:R gj) (n:Nat)
theorem AZr:OS r n [true,true,true]=some ([(dq (tX r n) 0,true),(decide (B_ (mo (Io r n):gj)=1),true),(OR r,true)],[],.tup [(true,av (ng gj (Io r n))),(false,[.v (.bool (CN (mu gj (ng gj (Io r n)) (ng gj (Io r n))) r))])],[]):=dj
theorem AZs:OS r n [true,true,false]=some ([(dq (tX r n) 0,true),(decide (B_ (mo (Io r n):gj)=1),true),(OR r,false)],[],.tup [(true,av (ng gj (Io r n))),(false,[.b false])],[]):=dj
theorem AZt:OS r n eg=some ([(dq (tX r n) 0,true),(decide (B_ (mo (Io r n):gj)=1),false),(OR r,true)],[],.tup [(true,av (Io r n)),(false,[.v (.bool (CN (mu gj (Io r n) (Io r n)) r))])],[]):=dj
theorem AZu:OS r n ew=some ([(dq (tX r n) 0,true),(decide (B_ (mo (Io r n):gj)=1),false),(OR r,false)],[],.tup [(true,av (Io r n)),(false,[.b false])],[]):=dj
theorem AZv:OS r n e_=some ([(dq (tX r n) 0,false),(decide (B_ (mo (Ip r n):gj)=1),true),(OQ r n,true)],[],.tup [(true,av (ng gj (Ip r n))),(false,[.v (.bool (CN (mu gj (ng gj (Ip r n)) (ng gj (Ip r n))) r))])],[]):=dj
theorem AZw:OS r n fh=some ([(dq (tX r n) 0,false),(decide (B_ (mo (Ip r n):gj)=1),true),(OQ r n,false)],[],.tup [(true,av (ng gj (Ip r n))),(false,[.b false])],[]):=dj
theorem AZx:OS r n ep=some ([(dq (tX r n) 0,false),(decide (B_ (mo (Ip r n):gj)=1),false),(OQ r n,true)],[],.tup [(true,av (Ip r n)),(false,[.v (.bool (CN (mu gj (Ip r n) (Ip r n)) r))])],[]):=dj
theorem AZy:OS r n fb=some ([(dq (tX r n) 0,false),(decide (B_ (mo (Ip r n):gj)=1),false),(OQ r n,false)],[],.tup [(true,av (Ip r n)),(false,[.b false])],[]):=dj
end
theorem P8 {r:R gj} {n:Nat} {p:List Bool} {conds:dp} {out:R gj} {ok:Ch} (h:OS r n p=some (conds,[],.tup [(true,av out),(false,[ok])],[])) (hc:AO conds) {e:gj} {t:Bool} (ho:out=en e) (hok:ok=.b t∨ok=.v (.bool t)) :
  Ab dm 172 (fY n) (fZ r) 1 [] (.tup [(true,av (en e:R gj)),(false,[.v (.bool t)])]) []:=by
 subst ho;refine BL (Bs AHn Ct func172 dj dj h dj hc) fun β u q=>?_
 refine C7 (fun _ q=>q) (fun _ q=>?_) q
 rcases hok with e | e
 ·subst e;obtain ⟨l1,l2,p1,p2,p3⟩:=q;exact ⟨l1,l2,⟨p1,rfl,trivial⟩,p2,p3⟩
 ·subst e;exact q
noncomputable def hF:FP:=tf GU
theorem wT (q:FP):D_ q.val=(Cr q).val:=by
 unfold Cr;refine (HN ?_).symm
 by_cases h:Cq q.val=true
 ·exact (rU h).2.2
 ·unfold D_;rw [jd h];exact DB
theorem YQ (x y:gj):CN (mu gj (en x) (en x)) (en y)=decide (x*x=y):=by
 have e:mu gj (en x) (en x)=(en (x*x):R gj):=by unfold mu;rw [mo_en]
 rw [e];have e1:CN (en (x*x)) (en y)=(decide ((x*x).a=y.a)&&decide ((x*x).b=y.b)):=by
  show (dq (x*x).a.val y.a.val&&dq (x*x).b.val y.b.val)=_;rw [M0,M0]
 rw [e1];by_cases h:x*x=y
 ·rw [h,jc rfl,jc rfl,jc rfl];rfl
 ·rw [jg h];by_cases ha:(x*x).a=y.a
  ·by_cases hb:(x*x).b=y.b
   ·exact absurd (Qx.ext ha hb) h
   ·rw [jg hb,nc]
  ·rw [jg ha,n_]
section
variable (a:gj) (n:Nat)
theorem gA:tX (en a) n=(DE hF a (tf n)).val:=by
 have e:mu FP (ad FP (en a:R gj).1 n) GU=((a.a+tf n)*hF:FP).val:=by
  unfold ad mu;show (mo (en (mo a.a.val+mo n:FP))*mo GU:FP).val=_;rw [mo_en];show ((tf a.a.val+tf n)*tf GU:FP).val=_;rw [CL];rfl
 unfold tX DE;rw [e];exact wT _
theorem AZz:OQ (en a) n=C4 ((a.a+tf n)*hF):=by
 have e:mu FP (ad FP (en a:R gj).1 n) GU=((a.a+tf n)*hF:FP).val:=by
  unfold ad mu;show (mo (en (mo a.a.val+mo n:FP))*mo GU:FP).val=_;rw [mo_en];show ((tf a.a.val+tf n)*tf GU:FP).val=_;rw [CL];rfl
 unfold OQ C4;rw [e]
theorem AHo:(ng FP (en a:R gj).1:Nat)=(-a.a:FP).val:=by
 show (-(tf a.a.val):FP).val=_;rw [CL]
theorem AZ0:OR (en a)=C4 (-a.a):=by
 unfold OR C4;rw [AHo]
theorem AZ1 (h:DE hF a (tf n)=0):Io (en a) n=(en (⟨DE hF a (tf n),Mz hF a (tf n)⟩:gj):R gj):=by
 unfold Io Mz;rw [je h,gA,AHo,wT];rfl
theorem AZ2 (h:¬ DE hF a (tf n)=0):Ip (en a) n=(en (⟨DE hF a (tf n),Mz hF a (tf n)⟩:gj):R gj):=by
 have e:(mu FP (mu FP (en a:R gj).2 GU) (iv FP (tX (en a) n)):Nat)=(a.b*hF*FD.inv (DE hF a (tf n)):FP).val:=by
  rw [gA];unfold mu iv;show (mo (en (mo a.b.val*mo GU:FP))*mo (en (FD.inv (mo (DE hF a (tf n)).val:FP))):FP).val=_;rw [mo_en,mo_en];show (tf a.b.val*tf GU*FD.inv (tf (DE hF a (tf n)).val):FP).val=_;rw [CL,CL];rfl
 unfold Ip Mz;rw [jd h,e,gA];rfl
theorem AZ3:dq (tX (en a) n) 0=decide (DE hF a (tf n)=0):=by
 rw [gA];exact M0 _ 0
noncomputable def wU:AV:=.tup [(true,av (en (JS hF a (tf n)):R gj)),(false,[.v (.bool (F' hF a (tf n)))])]
theorem wV (o:gj):ng gj (en o)=(en (-o):R gj):=by unfold ng;rw [mo_en]
theorem wW (o:gj):decide (B_ (mo (en o:R gj):gj)=1)=C8 o:=by rw [mo_en];exact AZn o
theorem AZ4:Ab dm 172 (fY n) (fZ (en a)) 1 [] (wU a n) []:=by
 unfold wU;have hz:=AZ3 a n;by_cases h:DE hF a (tf n)=0
 ·rw [jc h] at hz;have eo:=AZ1 a n h;have ei:F' hF a (tf n)=(OR (en a)&&decide (JS hF a (tf n)*JS hF a (tf n)=a)):=by unfold F';rw [je h,AZ0]
  have r1:=AZr (en a) n
  have r2:=AZs (en a) n
  have r3:=AZt (en a) n
  have r4:=AZu (en a) n
  rw [eo,wW] at r1 r2 r3 r4;rw [wV] at r1 r2;unfold JS at *
  generalize hO:(⟨DE hF a (tf n),Mz hF a (tf n)⟩:gj)=o at *
  rw [ei];unfold KB;cases hs:C8 o with
  | true =>
   rw [je rfl];cases hi:OR (en a) with
   | true=>exact P8 r1 ⟨hz,hs,hi,trivial⟩ rfl (.inr (by rw [YQ,ld]))
   | false=>exact P8 r2 ⟨hz,hs,hi,trivial⟩ rfl (.inl (by rw [n_]))
  | false =>
   rw [jd jq];cases hi:OR (en a) with
   | true=>exact P8 r3 ⟨hz,hs,hi,trivial⟩ rfl (.inr (by rw [YQ,ld]))
   | false=>exact P8 r4 ⟨hz,hs,hi,trivial⟩ rfl (.inl (by rw [n_]))
 ·rw [jg h] at hz;have eo:=AZ2 a n h;have ei:F' hF a (tf n)=(OQ (en a) n&&decide (JS hF a (tf n)*JS hF a (tf n)=a)):=by unfold F';rw [jd h,AZz]
  have r1:=AZv (en a) n
  have r2:=AZw (en a) n
  have r3:=AZx (en a) n
  have r4:=AZy (en a) n
  rw [eo,wW] at r1 r2 r3 r4;rw [wV] at r1 r2;unfold JS at *
  generalize hO:(⟨DE hF a (tf n),Mz hF a (tf n)⟩:gj)=o at *
  rw [ei];unfold KB;cases hs:C8 o with
  | true =>
   rw [je rfl];cases hi:OQ (en a) n with
   | true=>exact P8 r1 ⟨hz,hs,hi,trivial⟩ rfl (.inr (by rw [YQ,ld]))
   | false=>exact P8 r2 ⟨hz,hs,hi,trivial⟩ rfl (.inl (by rw [n_]))
  | false =>
   rw [jd jq];cases hi:OQ (en a) n with
   | true=>exact P8 r3 ⟨hz,hs,hi,trivial⟩ rfl (.inr (by rw [YQ,ld]))
   | false=>exact P8 r4 ⟨hz,hs,hi,trivial⟩ rfl (.inl (by rw [n_]))
end
noncomputable def trSp:ASpec:=fun args H fr gv=>match args with
 | [.val true c,.val false [.p k 0]]=>match DL 6 c,AG H k with
  | some n,some ⟨_,cs,_⟩=>match (rd cs:Option (R gj)) with
   | some r=>some (BR [k] 1 fr 0 [] (wU (mo r) n) [] [(Cw r,true)] gv)
   | none=>none
  | _,_=>none
 | _=>none
theorem AZ5:BJ dm 172 trSp:=by
 refine HH func172 dj dj fun args H fr gv r hs=>?_
 unfold trSp at hs;split at hs;case h_2=>cases hs
 rename_i c k;split at hs;case h_2=>cases hs
 rename_i n ty cs o hn hk';split at hs;case h_2=>cases hs
 rename_i q hq;injection hs with hs;refine ⟨[k],fY n,fZ q,1,0,[],_,_,_,gv,hs.symm,fun β us w ha hg hc=>?_⟩
 obtain ⟨u1,iu,r1,⟨u2,iw,r2,ha,rfl⟩,rfl⟩:=ha;have hr:=LV hc.1;have h:=AZ4 (mo q) n
 rw [hr] at h;refine ⟨h,dj,⟨u1,_,?_,⟨u2,iw,r2,ha,rfl⟩,rfl⟩,bH (c:=av q) hg hk' (fun l h=>Sh.rd_ok hq h),fun j hj=>?_⟩
 ·obtain ⟨l,q,rfl⟩:=r1;exact ⟨l,GQ hn q,rfl⟩
 ·match j,hj with
  | 0,_=>exact CS (hg.heap _ _ hk')
noncomputable def SJl2:dr:=(172,trSp)::SJl
theorem AZ6:AW dm SJl2:=⟨AZ5,AHn⟩
noncomputable abbrev oJl2:gr:=AH SJl2 KH
theorem gB:gp dm oJl2:=AJ AZ6 Ct
noncomputable def JU (q:R gj):Nat:=ad FP (mu FP q.1 q.1) (mu FP q.2 q.2)
def R_:List Ch:=[.n .u64 0,.n .u64 0,.n .u64 0,.n .u64 0,.n .u64 0,.n .u64 0,.n .u64 0,.n .u64 0,.n .u64 0,.n .u64 0,.n .u64 0,.n .u64 0]
def gD:AV:=.tup [(true,R_),(false,[.b false])]
noncomputable def gE (q:R gj) (n:Nat):AV:=.tup [(true,av (en (JS hF (mo q) (tf n)):R gj)),(false,[.b true])]
section
variable (r:R gj)
theorem AZ7:AM dm oJl2 f98 [va gj r] du 500=some ([(!Cq (JU (re gj r)),true)],gD):=dj
theorem AZ8:AM dm oJl2 f98 [va gj r] dx 500=some ([(!Cq (JU (re gj r)),false),(Cw (re gj r),true),(F' hF (mo (re gj r)) (tf (D_ (JU (re gj r)))),true)],gE (re gj r) (D_ (JU (re gj r)))):=dj
theorem AZ9:AM dm oJl2 f98 [va gj r] ep 500=some ([(!Cq (JU (re gj r)),false),(Cw (re gj r),true),(F' hF (mo (re gj r)) (tf (D_ (JU (re gj r)))),false),(Cw (re gj r),true),(F' hF (mo (re gj r)) (tf (ng FP (D_ (JU (re gj r))))),true)],gE (re gj r) (ng FP (D_ (JU (re gj r))))):=dj
theorem AZ_:AM dm oJl2 f98 [va gj r] fb 500=some ([(!Cq (JU (re gj r)),false),(Cw (re gj r),true),(F' hF (mo (re gj r)) (tf (D_ (JU (re gj r)))),false),(Cw (re gj r),true),(F' hF (mo (re gj r)) (tf (ng FP (D_ (JU (re gj r))))),false)],gD):=dj
end
theorem AHp (a:gj):JU (en a)=(GA a).val:=by
 unfold JU ad mu GA;show (mo (en (mo a.a.val*mo a.a.val:FP))+mo (en (mo a.b.val*mo a.b.val:FP)):FP).val=_;rw [mo_en,mo_en];show (tf a.a.val*tf a.a.val+tf a.b.val*tf a.b.val:FP).val=_;rw [CL,CL]
noncomputable def OT (a:gj):AV:=.tup [(true,av (en (E6 a):R gj)),(false,[.v (.bool (Cs a))])]
theorem AZ':(rd R_:Option (R gj))=some (en (0:gj)):=dj
theorem YR {β β':Env} {b b':Bool} {u:Value} (e:b=b') (h:Bx β false [.b b] u):Bx β' false [.v (.bool b')] u:=by
 subst e;obtain ⟨l1,l2,p1,p2,p3⟩:=h;exact ⟨l1,l2,⟨p1,rfl,trivial⟩,p2,p3⟩
theorem wX {a:gj} (hi:Cs a=false) {u:Value} (h:AN CE gD u):AN CE (OT a) u:=by
 unfold OT;rw [AWq hi,hi];exact C7 (fun _ ⟨l,q,e⟩=>⟨l,Sh.rd_ok (α:=gj) AZ' q,e⟩) (fun _ q=>YR rfl q) h
theorem AHq {a:gj} {n:Nat} (ht:F' hF a (tf n)=true) {u:Value} (h:AN CE (gE (en a) n) u):AN CE (OT a) u:=by
 obtain ⟨h1,h2⟩:=AWw ht;unfold OT;rw [← h1,h2];unfold gE at h;rw [mo_en] at h;exact C7 (fun _ q=>q) (fun _ q=>YR rfl q) h
theorem AaA (r:R gj):AU dm 98 [va gj r] (OT (mo r)):=by
 have h1:=AZ7 r;have h2:=AZ8 r;have h3:=AZ9 r;have h4:=AZ_ r;have e:re gj r=en (mo r:gj):=rfl
 rw [e] at h1 h2 h3 h4;generalize (mo r:gj)=a at *
 rw [mo_en,AHp] at h2 h3 h4;rw [AHp] at h1;rw [wT,CL] at h2 h3 h4;have en2:tf (ng FP (Cr (GA a)).val)=-Cr (GA a):=by
  show tf (-(tf (Cr (GA a)).val):FP).val=_;rw [CL,CL]
 rw [en2] at h3 h4;have hr:=KC a;cases hi:C4 (GA a) with
 | false =>
  have hi':Cq (GA a).val=false:=hi
  exact C3 (AP gB AB func98 h1 ⟨by rw [hi'];rfl,trivial⟩ rfl) fun u q=>wX (AWy hi) q
 | true =>
  have hi':(!Cq (GA a).val)=false:=by
   have:Cq (GA a).val=true:=hi
   rw [this];rfl
  cases ht:F' hF a (Cr (GA a)) with
  | true =>
   refine C3 (AP gB AB func98 h2 ⟨hi',hr,ht,trivial⟩ rfl) fun u q=>?_
   exact AHq (n:=(Cr (GA a)).val) (by rw [CL];exact ht) q
  | false =>
   cases ht2:F' hF a (-Cr (GA a)) with
   | true =>
    refine C3 (AP gB AB func98 h3 ⟨hi',hr,ht,hr,ht2,trivial⟩ rfl) fun u q=>?_
    exact AHq (n:=ng FP (Cr (GA a)).val) (by rw [en2];exact ht2) q
   | false=>exact C3 (AP gB AB func98 h4 ⟨hi',hr,ht,hr,ht2,trivial⟩ rfl) fun u q=>wX (AWz AZm hi ht ht2) q
noncomputable def SJm:dr:=(98,Ac (Bi gj fun r=>OT (mo r)))::SJk
theorem VB:AW dm SJm:=⟨Ad func98 dj dj (Bm AaA),wM⟩
noncomputable abbrev Lj:gr:=AH SJm KH
noncomputable def x2 (K:Nat) (L:dn):R gj:=(xN K 1 L,xN K 0 L)
noncomputable def z2 (L:dn):R gj:=(xN 4 3 L,xN 4 2 L)
noncomputable def CD (x:R gj):R gj:=en (E6 (mo (ad gj (mu gj (mu gj x x) x) ((4:Nat),(4:Nat)))))
noncomputable def KN (x:R gj) (b:Bool):R gj:=if (!(EG (mo (CD x))==b))=true then ng gj (CD x) else CD x
noncomputable def HV (e:Int):AV:=.tup [(true,CW false),(false,[.n .i64 e])]
noncomputable def OU (x y:R gj):AV:=.tup [(true,Bw (av x) (Bw (av y) [.b false])),(false,[.n .i64 0])]
section
variable (n m:Nat) (xs:dn)
noncomputable def Lk (s:Bool) (p:List Bool):gq:=Aj f45 (In n m s) (A5 xs) 1 p
theorem AaB:AT dm Lj f45 800 1 [] (Lk n m xs true dw)=some (HU n m xs (Bj 2 true (AA xs 0 n)) false [(!decide (BW 2 true (AA xs 0 n)=0),true)],[],.tup [(true,CW false),(false,[.v (.int .i64 (BW 2 true (AA xs 0 n)))])],[]):=dj
theorem AaC:AT dm Lj f45 800 1 [] (Lk n m xs true eg)=some (HU n m xs (Bj 2 true (AA xs 0 n)) false ((!decide (BW 2 true (AA xs 0 n)=0),false)::tt 2 []),[],.tup [(true,CW true),(false,[.n .i64 0])],[]):=dj
noncomputable def P9 (b:Bool) (r:dp):dp:=HU n m xs (Bj 2 true (AA xs 0 n)) true ((true,true)::(false,false)::tt 2 ((!(EG (mo (CD (x2 2 (AA xs 0 n))))==Al (AA xs 0 n) 32),b)::r))
theorem AaD:AT dm Lj f45 800 1 [] (Lk n m xs true fi)=some (P9 n m xs true [(!BH (mo ((x2 2 (AA xs 0 n)),ng gj (CD (x2 2 (AA xs 0 n))),false):P2),true)],[],HV 204,[]):=dj
theorem AaE:AT dm Lj f45 800 1 [] (Lk n m xs true ff)=some (P9 n m xs true [(!BH (mo ((x2 2 (AA xs 0 n)),ng gj (CD (x2 2 (AA xs 0 n))),false):P2),false),(!CT (mo ((x2 2 (AA xs 0 n)),ng gj (CD (x2 2 (AA xs 0 n))),false):P2),true)],[],HV 205,[]):=dj
theorem AaF:AT dm Lj f45 800 1 [] (Lk n m xs true fe)=some (P9 n m xs true [(!BH (mo ((x2 2 (AA xs 0 n)),ng gj (CD (x2 2 (AA xs 0 n))),false):P2),false),(!CT (mo ((x2 2 (AA xs 0 n)),ng gj (CD (x2 2 (AA xs 0 n))),false):P2),false)],[],OU (x2 2 (AA xs 0 n)) (ng gj (CD (x2 2 (AA xs 0 n)))),[]):=dj
theorem AaG:AT dm Lj f45 800 1 [] (Lk n m xs true ef)=some (P9 n m xs false [(!BH (mo ((x2 2 (AA xs 0 n)),CD (x2 2 (AA xs 0 n)),false):P2),true)],[],HV 204,[]):=dj
theorem AaH:AT dm Lj f45 800 1 [] (Lk n m xs true fa)=some (P9 n m xs false [(!BH (mo ((x2 2 (AA xs 0 n)),CD (x2 2 (AA xs 0 n)),false):P2),false),(!CT (mo ((x2 2 (AA xs 0 n)),CD (x2 2 (AA xs 0 n)),false):P2),true)],[],HV 205,[]):=dj
theorem AaI:AT dm Lj f45 800 1 [] (Lk n m xs true eq)=some (P9 n m xs false [(!BH (mo ((x2 2 (AA xs 0 n)),CD (x2 2 (AA xs 0 n)),false):P2),false),(!CT (mo ((x2 2 (AA xs 0 n)),CD (x2 2 (AA xs 0 n)),false):P2),false)],[],OU (x2 2 (AA xs 0 n)) (CD (x2 2 (AA xs 0 n))),[]):=dj
end
noncomputable def SA (p:P2):P2×Int:=if BH p=true then (if CT p=true then (p,0) else (.pt 0 0,205)) else (.pt 0 0,204)
noncomputable def KO (s:Bool) (L:dn):P2:=match s with
 | true=>mo (x2 2 L,KN (x2 2 L) (Al L 32),false)
 | false=>mo (x2 4 L,z2 L,false)
def kT (s:Bool):Nat:=match s with | true=>2 | false=>4
noncomputable def G7 (s:Bool) (L:dn):P2×Int:=if Bj (kT s) s L=true then SA (KO s L) else if BW (kT s) s L=0 then (.inf,0) else (.pt 0 0,BW (kT s) s L)
noncomputable def GV (q:P2×Int):AV:=KD q.1 q.2
theorem AHr:(rd (CW false):Option (R P2))=some (en (.pt 0 0:P2)):=dj
theorem AaJ:(rd (CW true):Option (R P2))=some (en (.inf:P2)):=dj
theorem wY {β β':Env} {i:Bool} {p:P2} (h:(rd (CW i):Option (R P2))=some (en p)) {u:Value} (hr:Bx β true (CW i) u):Bx β' true (av (en p:R P2)) u:=by
 obtain ⟨l,q,e⟩:=hr;exact ⟨l,Sh.rd_ok (α:=P2) h q,e⟩
theorem P_ {β:Env} {e:Int} {u:Value} (h:AN β (HV e) u):AN β (GV (.pt 0 0,e)) u:=C7 (fun _ q=>wY AHr q) (fun _ q=>EX rfl q) h
theorem AHs {β:Env} {u:Value} (h:AN β (.tup [(true,CW true),(false,[.n .i64 0])]) u):AN β (GV (.inf,0)) u:=C7 (fun _ q=>wY AaJ q) (fun _ q=>EX rfl q) h
theorem AaK {β:Env} {e:Int} {u:Value} (h:AN β (.tup [(true,CW false),(false,[.v (.int .i64 e)])]) u):AN β (GV (.pt 0 0,e)) u:=C7 (fun _ q=>wY AHr q) (fun _ q=>q) h
theorem AaL (x y:R gj):(rd (Bw (av x) (Bw (av y) [.b false])):Option (R P2))=some (x,y,false):=dj
theorem wZ {β:Env} {x y:R gj} (hx:Cw x=true) (hy:Cw y=true) {u:Value} (h:AN β (OU x y) u):AN β (GV (mo (x,y,false),0)) u:=by
 have e:(en (mo (x,y,false):P2):R P2)=(x,y,false):=by
  show ((en (mo x:gj):R gj),(en (mo y:gj):R gj),false)=_;rw [LV hx,LV hy]
 unfold GV KD;simp only
 rw [e];exact C7 (fun _ ⟨l,q,e⟩=>⟨l,Sh.rd_ok (α:=P2) (AaL x y) q,e⟩) (fun _ q=>EX rfl q) h
theorem AHt {n m:Nat} {xs:dn} {s:Bool} {x y:R gj} (hx:Cw x=true) (hy:Cw y=true) {C:dp→dp} (hC:∀ r,AO r→AO (C r)) {p1 p2 p3:List Bool}
  (h1:AT dm Lj f45 800 1 [] (Lk n m xs s p1)=some (C [(!BH (mo (x,y,false)),true)],[],HV 204,[]))
  (h2:AT dm Lj f45 800 1 [] (Lk n m xs s p2)=some (C [(!BH (mo (x,y,false)),false),(!CT (mo (x,y,false)),true)],[],HV 205,[]))
  (h3:AT dm Lj f45 800 1 [] (Lk n m xs s p3)=some (C [(!BH (mo (x,y,false)),false),(!CT (mo (x,y,false)),false)],[],OU x y,[])) :
  Ab dm 45 (In n m s) (A5 xs) 1 [] (GV (SA (mo (x,y,false)))) []:=by
 unfold SA;cases ho:BH (mo (x,y,false)) with
 | false =>
  rw [jd jq];exact BL (Bs VB Ct func45 dj dj h1 dj (hC _ ⟨by rw [ho];rfl,trivial⟩)) fun _ _ q=>P_ q
 | true =>
  rw [je rfl];cases hi:CT (mo (x,y,false)) with
  | false =>
   rw [jd jq];exact BL (Bs VB Ct func45 dj dj h2 dj (hC _ ⟨by rw [ho];rfl,by rw [hi];rfl,trivial⟩)) fun _ _ q=>P_ q
  | true =>
   rw [je rfl];exact BL (Bs VB Ct func45 dj dj h3 dj (hC _ ⟨by rw [ho];rfl,by rw [hi];rfl,trivial⟩)) fun _ _ q=>wZ hx hy q
theorem YS {a b:Nat} (ha:a<pN) (hb:b<pN):Cw ((a,b):R gj)=true:=jo.2 ⟨jc ha,jc hb⟩
theorem AHu (x:R gj):Cw (CD x)=true:=KC _
theorem AHv (x:R gj):Cw (ng gj x)=true:=KC _
theorem AHw {n m:Nat} {xs:dn} (hl:n≤xs.length) (hm:n≤m) (hn:AL .i64 n=true) (s:Bool) (hs1:s=true):Ab dm 45 (In n m s) (A5 xs) 1 [] (GV (G7 s (AA xs 0 n))) []:=by
 have hW:∀ (b d:Bool) r,b=d→AO r→AO (HU n m xs b d r):=fun b d r h hr=>⟨jh hl,jh hm,hn,h,hr⟩
 unfold G7;cases hr:Bj (kT s) s (AA xs 0 n) with
 | false =>
  rw [jd jq];by_cases he:BW (kT s) s (AA xs 0 n)=0
  ·rw [je he];cases s with
   | true=>exact BL (Bs VB Ct func45 dj dj (AaC n m xs) dj (hW _ _ _ hr ⟨AHc he,AI 2 trivial⟩)) fun _ _ q=>AHs q
   | false=>cases hs1
  ·rw [jd he];cases s with
   | true=>exact BL (Bs VB Ct func45 dj dj (AaB n m xs) dj (hW _ _ _ hr ⟨fV he,trivial⟩)) fun _ _ q=>AaK q
   | false=>cases hs1
 | true =>
  rw [je rfl];cases s with
  | true =>
   have hx:Cw (x2 2 (AA xs 0 n))=true:=YS (H_ hr 1 dl) (H_ hr 0 dl)
   unfold KO KN;by_cases hb:(!(EG (mo (CD (x2 2 (AA xs 0 n))))==Al (AA xs 0 n) 32))=true
   ·simp only [je hb];exact AHt hx (AHv _) (C:=P9 n m xs true) (fun r hq=>hW _ _ _ hr ⟨rfl,rfl,AI 2 ⟨hb,hq⟩⟩) (AaD n m xs) (AaE n m xs) (AaF n m xs)
   ·simp only [jd hb];exact AHt hx (AHu _) (C:=P9 n m xs false) (fun r hq=>hW _ _ _ hr ⟨rfl,rfl,AI 2 ⟨by simpa using hb,hq⟩⟩) (AaG n m xs) (AaH n m xs) (AaI n m xs)
  | false=>cases hs1
noncomputable def SJn:dr:=(45,Li fun s L=>GV (G7 s L))::SJm
theorem gG:AW dm SJn:=⟨OP func45 dj dj (fun _ _=>by kernel_rfl) fun _ _ _ hl hm hn=>AHw hl hm hn true rfl,VB⟩
noncomputable abbrev oJn:gr:=AH SJn KH
theorem AaN {y:FP} (h:y≠0):-y≠0:=fun e=>h (by rw [← neg_neg y,e];exact HL)
theorem AaO {y:gj} (h:y≠0):EG (-y)=!EG y:=by
 unfold EG;by_cases hb:y.b=0
 ·have hb':(-y).b=0:=by show -y.b=0;rw [hb];exact HL
  have ha:y.a≠0:=fun e=>h (Qx.ext e hb)
  rw [je hb,je hb'];exact fX ha
 ·rw [jd hb,jd (show ¬ (-y).b=0 from AaN hb)]
  exact fX hb
theorem AaP (x:R gj):(mo (ng gj x):gj)=-mo x:=by unfold ng;rw [mo_en]
theorem AaQ {x:R gj} {c:Bool} (h:Rg.On C2.b (mo (x,KN x c,false):P2)):EG (mo (KN x c))=c:=by
 have hb:(mo (KN x c):gj)≠0:=C2.no2 _ _ h
 unfold KN at hb ⊢
 by_cases hq:(!(EG (mo (CD x))==c))=true
 ·rw [je hq] at hb ⊢;rw [AaP] at hb ⊢;have iq:(mo (CD x):gj)≠0:=fun e=>hb (by rw [e];exact HL)
  rw [AaO iq]
  revert hq
  cases EG (mo (CD x))<;>cases c<;>decide
 ·rw [jd hq]
  revert hq
  cases EG (mo (CD x))<;>cases c<;>decide
theorem w7 (s:Bool):0<kT s:=by cases s<;>decide
theorem AaR (p:P2):l2 p=(Mw p).b.val::[(Mw p).a.val,(J' p).b.val,(J' p).a.val]:=rfl
theorem xA {x:R gj} (h:Cw x=true):(mo x:gj).a.val=x.1∧(mo x:gj).b.val=x.2:=by
 have e:=LV h;exact ⟨jl Prod.fst e,jl Prod.snd e⟩
theorem AaS {L:dn} (hL:∀ d∈L,0≤d∧d<256) {s:Bool} (h:(G7 s L).2=0):CT (G7 s L).1=true∧AA (v6 s (G7 s L).1) 0 (48*kT s)=L:=by
 unfold G7 at h ⊢
 cases hr:Bj (kT s) s L with
 | false =>
  rw [hr,jd jq] at h;rw [jd jq];by_cases he:BW (kT s) s L=0
  ·rw [je he];refine ⟨by unfold CT;rw [HM];rfl,?_⟩
   rw [AHG,AHN];exact AHf (w7 s) hL hr he (by cases s<;>rfl)
  ·rw [jd he] at h;exact absurd h he
 | true =>
  rw [hr,je rfl] at h;rw [je rfl];unfold SA at h ⊢
  cases ho:BH (KO s L) with
  | false=>rw [ho,jd jq] at h;cases h
  | true =>
   rw [ho,je rfl] at h;cases hi:CT (KO s L) with
   | false=>rw [hi,jd jq] at h;cases h
   | true =>
    rw [je rfl,je rfl];refine ⟨hi,?_⟩
    have hon:=(LU _).1 ho
    rw [AHG,AHN,AaR];cases s with
    | true =>
     have x0:xN 2 0 L<pN:=H_ hr 0 dl
     have x1:xN 2 1 L<pN:=H_ hr 1 dl
     have hX:Mw (KO true L)=mo (x2 2 L):=rfl
     have hY:J' (KO true L)=mo (KN (x2 2 L) (Al L 32)):=rfl
     have hI:E4 (KO true L)=false:=rfl
     obtain ⟨e1,e2⟩:=xA (x:=x2 2 L) (YS x1 x0)
     rw [hI,hY,hX,AaQ hon,e1,e2];exact fW (w7 true) hL hr rfl (by rw [ld])
    | false =>
     have x0:xN 4 0 L<pN:=H_ hr 0 dl
     have x1:xN 4 1 L<pN:=H_ hr 1 dl
     have x3:xN 4 2 L<pN:=H_ hr 2 dl
     have x4:xN 4 3 L<pN:=H_ hr 3 dl
     have hX:Mw (KO false L)=mo (x2 4 L):=rfl
     have hY:J' (KO false L)=mo (z2 L):=rfl
     have hI:E4 (KO false L)=false:=rfl
     obtain ⟨e1,e2⟩:=xA (x:=x2 4 L) (YS x1 x0)
     obtain ⟨e3,e4⟩:=xA (x:=z2 L) (YS x4 x3)
     rw [hI,hY,hX,e1,e2,e3,e4];refine fW (w7 false) hL hr rfl ?_
     unfold Bj at hr;simp only [jm] at hr;have:=hr.2.2.1
     rw [n_];simpa using this
section
variable {F:Type} [FD F] (C:Cv F)
theorem AaT {a p:Pt F} (ha:Rg.On C.b a) (hp:Rg.On C.b p):add (Rg.neg a) (Rg.neg p)=Rg.neg (add a p):=by
 have na:=H7 C ha;have np:=H7 C hp;have hS:=JP C hp ha;have h:add (add (Rg.neg a) (Rg.neg p)) (add p a)=.inf:=by
  rw [J8 C na np hS,Pr C hp ha,H8 C na ha,X4 C ha]
 have h2:=AUI C (JP C na np) hS
 rw [h] at h2;rw [← h2,H8 C ha hp];rfl
theorem AHx {p:Pt F} (hp:Rg.On C.b p):∀ n,smul n (Rg.neg p)=Rg.neg (smul n p)
 | 0=>rfl
 | n+1=>by
  show add (smul n (Rg.neg p)) (Rg.neg p)=Rg.neg (add (smul n p) p);rw [AHx hp n,AaT C (CH C hp n) hp]
end
theorem AaU (p:Pt FP):Aq (Rg.neg p)=Aq p:=by cases p<;>rfl
theorem AaV {p:Pt FP} (h:BE p=true):BE (Rg.neg p)=true:=(LR _).2 (H7 C1 ((LR p).1 h))
theorem AaW {p:Pt FP} (h:BT p=true):BE p=true∧Rg.On C1.b p:=by
 have:=(jo.1 h).1
 exact ⟨this,(LR p).1 this⟩
theorem AHy {p:Pt FP} (h:BT p=true):BT (Rg.neg p)=true:=by
 obtain ⟨h1,h2⟩:=AaW h;unfold BT at h ⊢
 rw [h1] at h;rw [AaV h1,AHx C1 h2,AaU];exact h
theorem AaX (p:Pt FP):BT (Rg.neg p)=BT p:=by
 cases h:BT p with
 | true=>exact AHy h
 | false=>cases h2:BT (Rg.neg p) with
  | false=>rfl
  | true =>
   have:=AHy h2
   rw [AUH,h] at this;cases this
def KQ:List (TypeId×List (Option IntKind)):=(209,List.replicate 36 (some .u64))::KH
theorem D0:MT dm KQ:=⟨⟨dj,dj,dj⟩,Ct⟩
noncomputable abbrev oQ0:gr:=AH SJn KQ
theorem gH:gp dm oQ0:=AJ gG D0
def VC (i:Int):List Ch:=[.n .u64 i,.n .u64 0,.n .u64 0,.n .u64 0,.n .u64 0,.n .u64 0,.n .u64 0,.n .u64 0,.n .u64 0,.n .u64 0,.n .u64 0,.n .u64 0]
def xB:List AV→Option AV
 | [.val false [.n .u64 i]]=>some (.val true (VC i))
 | _=>none
theorem AaY (i:Int):AM dm oQ0 f243 [.val false [.n .u64 i]] [] 100=some ([],.val true (VC i)):=dj
theorem AaZ:∀ args v,xB args=some v→AU dm 243 args v:=by
 intro args v hs;unfold xB at hs;split at hs;case h_2=>cases hs
 rename_i i;injection hs with hs;subst hs;exact AP gH AB func243 (AaY i) trivial rfl
theorem Aaa:AM dm oQ0 f185 [] [] 100=some ([],.val true AGp):=dj
theorem Aab:AU dm 185 [] (ve KA):=E5 (α:=gj) (r:=(en KA:R gj)) (AP gH AB func185 Aaa trivial rfl) dj
section
variable (r s:R P2)
theorem Aac:AM dm oQ0 f194 [va P2 r] du 300=some ([(r.2.2,true)],.val true (CW true)):=dj
theorem Aad:AM dm oQ0 f194 [va P2 r] dt 300=some ([(r.2.2,false)],.val true (Bw (av (re gj r.1)) (Bw (av (re gj r.2.1)) [.b false]))):=dj
end
theorem Aae (r:R P2):AU dm 194 [va P2 r] (ve (mo r:P2)):=by
 have h1:=Aac r;have h2:=Aad r;obtain ⟨x,y,i⟩:=r;cases i with
 | true=>exact E5 (α:=P2) (r:=(en (.inf:P2):R P2)) (AP gH AB func194 h1 ⟨rfl,trivial⟩ rfl) dj
 | false=>exact E5 (α:=P2) (r:=((re gj x,re gj y,false):R P2)) (AP gH AB func194 h2 ⟨rfl,trivial⟩ rfl) dj
noncomputable def SQ0:dr:=(243,Ac xB)::(185,Ac (ev gj (ve KA)))::(194,Ac (Bi P2 fun r=>ve (mo r:P2)))::SJn
theorem AHz:AW dm SQ0:=⟨Ad func243 dj dj AaZ,Ad func185 dj dj (eS Aab),Ad func194 dj dj (Bm Aae),gG⟩
noncomputable abbrev oQ1:gr:=AH SQ0 KQ
theorem xC:gp dm oQ1:=AJ AHz D0
def kk (n:Nat):R gj:=((n:Nat),(0:Nat))
noncomputable def uS (x y:R gj):R gj:=mu gj (kk 4) (mu gj x (mu gj y y))
noncomputable def uM (x:R gj):R gj:=mu gj (kk 3) (mu gj x x)
noncomputable def uX (x y:R gj):R gj:=su gj (mu gj (uM x) (uM x)) (ad gj (uS x y) (uS x y))
noncomputable def uY (x y:R gj):R gj:=su gj (mu gj (uM x) (su gj (uS x y) (uX x y))) (mu gj (kk 8) (mu gj (mu gj y y) (mu gj y y)))
noncomputable def uT (r:R J2):R J2:=(uX r.1 r.2.1,uY r.1 r.2.1,mu gj (kk 2) (mu gj r.2.1 r.2.2))
theorem Aaf (r:R J2):AM dm oQ1 f241 [va J2 r] [] 500=some ([],va J2 (uT r)):=dj
theorem AH0:(mo (kk 2):gj)=1+1:=Qx.ext uZ (by show tf 0=0+0;rw [tf_zero];exact (zero_add 0).symm)
theorem AH1:(mo (kk 3):gj)=1+1+1:=Qx.ext AF8 (by show tf 0=0+0+0;rw [tf_zero,zero_add,zero_add])
theorem Aag:(mo (kk 4):gj)=1+1+(1+1):=Qx.ext u5 (by show tf 0=0+0+(0+0);rw [tf_zero,zero_add,zero_add])
theorem Aah:(mo (kk 8):gj)=1+1+(1+1)+(1+1+(1+1)):=Qx.ext AF9 (by show tf 0=0+0+(0+0)+(0+0+(0+0));rw [tf_zero,zero_add,zero_add,zero_add])
theorem Aai (x y:gj):(1+1+(1+1))*(x*(y*y))=jD x y:=ring [x,y] (a:=(1+1+(1+1))*(x*(y*y))) (b:=x*(y*y)+x*(y*y)+(x*(y*y)+x*(y*y))) dj
theorem AH2 (x:gj):(1+1+1)*(x*x)=jE x:=ring [x] (a:=(1+1+1)*(x*x)) (b:=x*x+x*x+x*x) dj
theorem Aaj (y:gj):(1+1+(1+1)+(1+1+(1+1)))*((y*y)*(y*y))=Uo y:=ring [y] (a:=(1+1+(1+1)+(1+1+(1+1)))*((y*y)*(y*y))) (b:=((y*y)*(y*y)+(y*y)*(y*y)+((y*y)*(y*y)+(y*y)*(y*y)))+((y*y)*(y*y)+(y*y)*(y*y)+((y*y)*(y*y)+(y*y)*(y*y)))) dj
theorem Aak (y z:gj):(1+1)*(y*z)=y*z+y*z:=ring [y,z] (a:=(1+1)*(y*z)) (b:=y*z+y*z) dj
theorem Aal (r:R J2):uT r=en (B0 (mo r:J2)):=by
 unfold uT uY uX uM uS su mu ad;simp only [mo_en,AH0,AH1,Aag,Aah,Aak,AH2,Aai,Aaj];rfl
theorem Aam (r:R J2):AU dm 241 [va J2 r] (ve (B0 (mo r:J2))):=by
 unfold ve;rw [← Aal];exact AP xC AB func241 (Aaf r) trivial rfl
theorem Aan (r:R P2):AM dm oQ1 f119 [va P2 r] du 300=some ([(r.2.2,true)],.val false [.b true]):=dj
theorem Aao (r:R P2):AM dm oQ1 f119 [va P2 r] dt 300=some ([(r.2.2,false)],Av (YD r.1 r.2.1)):=dj
theorem Aap (r:R P2):AU dm 119 [va P2 r] (Av (BH (mo r))):=by
 have h1:=Aan r;have h2:=Aao r;obtain ⟨x,y,i⟩:=r;cases i with
 | true=>exact C3 (AP xC AB func119 h1 ⟨rfl,trivial⟩ rfl) fun u hu=>JK rfl hu
 | false =>
  have e:BH (mo ((x,y,false):R P2))=YD x y:=(AGr x y).symm
  rw [e];exact AP xC AB func119 h2 ⟨rfl,trivial⟩ rfl
noncomputable def SQ1:dr:=(241,Ac (Bi J2 fun r=>ve (B0 (mo r:J2))))::(119,Ac (Bi P2 fun r=>Av (BH (mo r))))::SQ0
theorem AH3:AW dm SQ1:=⟨Ad func241 dj dj (Bm Aam),Ad func119 dj dj (Bm Aap),AHz⟩
noncomputable abbrev oQ2:gr:=AH SQ1 KQ
theorem gJ:gp dm oQ2:=AJ AH3 D0
section
variable (p:R J2) (q:R P2)
theorem Aaq:AM dm oQ2 f242 [va J2 p,va P2 q] du 500=some ([(Cu p.2.2,true)],.val true (Bw (av q.1) (Bw (av q.2.1) (VC 1)))):=dj
theorem Aar:AM dm oQ2 f242 [va J2 p,va P2 q] e_ 500=some ([(Cu p.2.2,false),(Cu (qH p.1 p.2.2 q.1),true),(Cu (qR p.2.1 p.2.2 q.2.1),true)],ve (B0 (mo p:J2))):=dj
theorem Aas:AM dm oQ2 f242 [va J2 p,va P2 q] fh 500=some ([(Cu p.2.2,false),(Cu (qH p.1 p.2.2 q.1),true),(Cu (qR p.2.1 p.2.2 q.2.1),false)],.val true U5):=dj
theorem Aat:AM dm oQ2 f242 [va J2 p,va P2 q] dz 500=some ([(Cu p.2.2,false),(Cu (qH p.1 p.2.2 q.1),false)],
 va J2 (R1 p.1 (qH p.1 p.2.2 q.1) (qR p.2.1 p.2.2 q.2.1),U4 p.1 p.2.1 (qH p.1 p.2.2 q.1) (qR p.2.1 p.2.2 q.2.1),mu gj p.2.2 (qH p.1 p.2.2 q.1))):=dj
end
theorem Aau {p:R J2} {q:R P2} (hz:Cw p.2.2=true) (hx:Cw q.1=true) (hy:Cw q.2.1=true):AU dm 242 [va J2 p,va P2 q] (ve (F9 (mo p:J2) (mo q.1) (mo q.2.1))):=by
 have ez:Cu p.2.2=decide ((mo p:J2).z=0):=by
  conv=>lhs;rw [← LV hz]
  exact OJ _
 have eh:qH p.1 p.2.2 q.1=en (pH (mo p:J2) (mo q.1)):=by unfold qH su mu;simp only [mo_en];rfl
 have er:qR p.2.1 p.2.2 q.2.1=en (pR (mo p:J2) (mo q.2.1)):=by unfold qR su mu;simp only [mo_en];rfl
 have zh:Cu (qH p.1 p.2.2 q.1)=decide (pH (mo p:J2) (mo q.1)=0):=by rw [eh];exact OJ _
 have zr:Cu (qR p.2.1 p.2.2 q.2.1)=decide (pR (mo p:J2) (mo q.2.1)=0):=by rw [er];exact OJ _
 have r1:=Aaq p q;have r2:=Aar p q;have r3:=Aas p q;have r4:=Aat p q;rw [zh,ez] at r2;rw [zh,ez,zr] at r3;rw [zr] at r2;rw [zh,ez,eh,er] at r4;rw [ez] at r1;unfold F9;by_cases h0:(mo p:J2).z=0
 ·rw [je h0];refine E5 (α:=J2) (r:=(en (⟨mo q.1,mo q.2.1,1⟩:J2):R J2)) (AP gJ AB func242 r1 ⟨jc h0,trivial⟩ rfl) ?_
  have e:(en (⟨mo q.1,mo q.2.1,1⟩:J2):R J2)=(q.1,q.2.1,en (1:gj)):=by
   show ((en (mo q.1:gj),en (mo q.2.1:gj),en (1:gj)):R J2)=_;rw [LV hx,LV hy]
  rw [e];exact AGx _ _
 ·rw [jd h0];by_cases hh:pH (mo p:J2) (mo q.1)=0
  ·rw [je hh];by_cases hr:pR (mo p:J2) (mo q.2.1)=0
   ·rw [je hr];exact AP gJ AB func242 r2 ⟨jg h0,jc hh,jc hr,trivial⟩ rfl
   ·rw [jd hr];exact E5 (α:=J2) (r:=(en (⟨0,0,0⟩:J2):R J2)) (AP gJ AB func242 r3 ⟨jg h0,jc hh,jg hr,trivial⟩ rfl) dj
  ·rw [jd hh];have e:((R1 p.1 (en (pH (mo p:J2) (mo q.1))) (en (pR (mo p:J2) (mo q.2.1))),U4 p.1 p.2.1 (en (pH (mo p:J2) (mo q.1))) (en (pR (mo p:J2) (mo q.2.1))),mu gj p.2.2 (en (pH (mo p:J2) (mo q.1)))):R J2) =
     en (⟨pX (mo p:J2).x (pH (mo p:J2) (mo q.1)) (pR (mo p:J2) (mo q.2.1)),pY (mo p:J2).x (mo p:J2).y (pH (mo p:J2) (mo q.1)) (pR (mo p:J2) (mo q.2.1)),(mo p:J2).z*pH (mo p:J2) (mo q.1)⟩:J2):=by
    unfold U4 R1 su mu ad;simp only [mo_en];rfl
   rw [e] at r4;exact AP gJ AB func242 r4 ⟨jg h0,jg hh,trivial⟩ rfl
theorem Aav:∀ args c v,U6 args=some (c,v)→AO c→AU dm 242 args v:=by
 intro args c v hs hc us w ha;unfold U6 at hs;split at hs;case h_2=>cases hs
 split at hs;case h_2=>cases hs
 rename_i p q hx hy;injection hs with hs;injection hs with h1 h2;subst h1;subst h2;obtain ⟨u1,iu,r1,⟨u2,iw,r2,ha,rfl⟩,rfl⟩:=ha;exact Aau hc.1 hc.2.1 hc.2.2.1 _ w ⟨u1,_,F_ hx r1,⟨u2,_,F_ hy r2,ha,rfl⟩,rfl⟩
noncomputable def SQ2:dr:=(242,FY U6)::SQ1
theorem gK:AW dm SQ2:=⟨GS func242 dj dj Aav,AH3⟩
noncomputable abbrev oQ3:gr:=AH SQ2 KQ
theorem SF:gp dm oQ3:=AJ gK D0
noncomputable def Aaw:List Item:=CB (AY dm oQ3 (some 0) 500 1 none (Aj f186 [AR 0 0 0 0,ve (.pt 0 0:P2)] (BG []) 1 dz))
noncomputable def vmT (gu n m:Nat) (i:Int):List AV:=.val false [.sl 0 gu n m]::.any::.any::.val false [.p 1 0]::.val false [.p 2 0]::.val false [.n .i64 0]::.any::.val false [.p 3 0]::.val false [.p 4 0]::.val false [.v (.int .i64 i)]::List.replicate (f186.ntmps-10) .any
noncomputable def vmH (xs:dn) (r:R P2) (p:P2):Heap:=[(0,some (Ak [.seq .u64 xs])),(1,some ⟨70,av r,false⟩),(2,some ⟨70,CW false,false⟩),(3,some ⟨70,av (en p:R P2),false⟩)]
noncomputable def OV (r:R P2) (gu n m:Nat) (xs:dn) (p:P2) (out:List Ch) (i:Int) (gv:List Bool):gq:=⟨Aaw,⟨vmT gu n m i,List.append (vmH xs r p) [(4,some ⟨209,out,false⟩)],5,gv⟩⟩
abbrev kV:Option (List Nat×List Nat×Nat):=some ([0,3,4,5,7,8,9],[0,1,2,3,4],5)
theorem Aaz (r:R P2) (gu n m:Nat) (xs:dn):AY dm oQ3 (some 0) 500 1 kV (Aj f186 (P0 r gu n m) (BG xs) 1 dz) =
 some ([(!BH (mo r),false),(r.2.2,false),(AL .i64 n,true)],[],OV r gu n m xs (mo r) U5 (wI (wI (64*(n:Int))-1)) []):=dj
theorem Aa0 (r:R P2) (gu n m:Nat) (xs:dn):AT dm oQ3 f186 500 1 [] (Aj f186 (P0 r gu n m) (BG xs) 1 du) =
 some ([(!BH (mo r),true)],[],.tup [(true,CW false),(false,[.n .i64 120])],[]):=dj
theorem Aa1 (r:R P2) (gu n m:Nat) (xs:dn):AT dm oQ3 f186 500 1 [] (Aj f186 (P0 r gu n m) (BG xs) 1 dx) =
 some ([(!BH (mo r),false),(r.2.2,true)],[],.tup [(true,CW true),(false,[.n .i64 0])],[]):=dj
noncomputable def vI (j:J2):R gj:=iv gj (en j:R J2).2.2
section
variable (r:R P2) (gu n m:Nat) (xs:dn) (p:P2) (j:J2) (i:Int)
theorem Aa2:AY dm oQ3 (some 0) 500 1 kV (OV r gu n m xs p (jC2 j) i d_)=some (U0 gu n xs i false [],[],OV r gu n m xs p (jC2 (B0 (jR j))) (wI (i-1)) []):=dj
theorem Aa3:AY dm oQ3 (some 0) 500 1 kV (OV r gu n m xs p (jC2 j) i dw) =
 some (U0 gu n xs i true [(Cw (en (B0 (jR j))).2.2,true),(Cw (rX p),true),(Cw (rY p),true)],[],OV r gu n m xs p (jC2 (fC j p)) (wI (i-1)) []):=dj
theorem Aa4:AT dm oQ3 f186 500 1 [] (OV r gu n m xs p (jC2 j) i dx) =
 some ([(decide (0≤i),false),(Cu (en j:R J2).2.2,true)],[],.tup [(true,CW true),(false,[.n .i64 0])],[]):=dj
theorem Aa5:AT dm oQ3 f186 500 1 [] (OV r gu n m xs p (jC2 j) i dz) =
 some ([(decide (0≤i),false),(Cu (en j:R J2).2.2,false)],[],OU (mu gj (en j:R J2).1 (mu gj (vI j) (vI j))) (mu gj (en j:R J2).2.1 (mu gj (mu gj (vI j) (vI j)) (vI j))),[]):=dj
end
theorem gL (r:R P2) (gu n m:Nat) (xs:dn) (p:P2) (j:J2) (i:Int) (q:List Bool):Be f186.ntmps (OV r gu n m xs p (jC2 j) i q).s:=AS dj
noncomputable def vmV (q:P2):AV:=match q with
 | .inf=>.tup [(true,CW true),(false,[.n .i64 0])]
 | .pt a b=>OU (en a) (en b)
section
variable {gu n m:Nat} {xs:dn} (g_:∀ d∈xs,0≤d∧d<18446744073709551616) (gx:gu+n≤xs.length) (hn:n≤1125899906842624) {r:R P2} {p:P2} (hP:Rg.On C2.b p) (hI:E4 p=false) {β0:Env} {w0:World} (hb:∀ b,1≤b→β0 b=none)
include g_ gx hn hb hP hI
theorem Aa6:∀ (c:Nat) (j:J2),CI j=smul (AK (AA xs gu n) / 2^c) p→c≤64*n→gn dm 186 β0 w0 (A_ β0 w0 [] (vmV (smul (AK (AA xs gu n)) p)) []) f186.ntmps [] (OV r gu n m xs p (jC2 j) ((c:Int)-1) []):=by
 intro c;induction c with
 | zero =>
  intro j hj _;rw [kf,ko] at hj;rw [← hj];have ez:Cu (en j:R J2).2.2=decide (j.z=0):=OJ j.z
  by_cases hz:j.z=0
  ·rw [G1 hz];exact Af dx (Ay SF AB func186 (Aa4 ..) ⟨rfl,by rw [ez];exact jc hz,trivial⟩ (gL ..) hb jb)
  ·rw [Ig hz];have e1:mu gj (en j:R J2).1 (mu gj (vI j) (vI j))=(en (j.x*(FD.inv j.z*FD.inv j.z)):R gj):=by
    unfold vI mu iv;show en ((mo (en j.x:R gj):gj)*mo (en (mo (en (FD.inv (mo (en j.z:R gj):gj)))*mo (en (FD.inv (mo (en j.z:R gj):gj))))))=_;simp only [mo_en]
   have e2:mu gj (en j:R J2).2.1 (mu gj (mu gj (vI j) (vI j)) (vI j))=(en (j.y*((FD.inv j.z*FD.inv j.z)*FD.inv j.z)):R gj):=by
    unfold vI mu iv;show en ((mo (en j.y:R gj):gj)*mo (en (mo (en (mo (en (FD.inv (mo (en j.z:R gj):gj)))*mo (en (FD.inv (mo (en j.z:R gj):gj)))))*mo (en (FD.inv (mo (en j.z:R gj):gj))))))=_;simp only [mo_en]
   have t:=Aa5 r gu n m xs p j (((0:Nat):Int)-1)
   rw [e1,e2] at t;exact Af dz (Ay SF AB func186 t ⟨rfl,by rw [ez];exact jg hz,trivial⟩ (gL ..) hb jb)
 | succ c ih =>
  intro j hj hc;have hi:((c+1:Nat):Int)-1=(c:Int):=dk
  rw [hi];obtain ⟨hw,hjn,hv0,hr0,hbit⟩:=YF (gu:=gu) g_ hn (c:=c) dk
  obtain ⟨hq1,hq2⟩:=Xp xs gu c;have ij:wI ((c:Int)-1)=(c:Int)-1:=Au dk
  have ib:∀ bit r,decide (LN xs gu c=1)=bit→AO r→AO (U0 gu n xs c bit r):=by
   intro bit r hbt hr';refine ⟨by simp,rfl,?_,?_,by simp,by simp only [ji];rw [hq2];exact ⟨hr0,hv0⟩,hbt,hr'⟩
   ·rw [hw];simp;omega
   ·rw [hw];simp;omega
  rw [← hq1] at hbit;have hoj:Rg.On C2.b (CI j):=by rw [hj];exact CH C2 hP _
  have ejR:jR j=j:=mo_en j
  have htw:CI (B0 (jR j))=smul (2*(AK (AA xs gu n) / 2^(c+1))) p:=by
   rw [ejR,Rs C2 hoj,hj,← JQ C2 hP,qf]
  have hd:=fA (AK (AA xs gu n)) c
  rcases nf (AK (AA xs gu n) / 2^c) with h0 | h1
  ·refine Af d_ (Ai SF AB (Aa2 ..) (ib false [] (by rw [hbit,h0];rfl) trivial) (gL ..) hb jb fun _=>?_)
   rw [ij];refine ih _ ?_ dk
   rw [htw,hd,h0];rfl
  ·refine Af dw (Ai SF AB (Aa3 ..) (ib true _ (by rw [hbit,h1];rfl) ⟨KC (B0 (jR j)).z,KC (Mw p),KC (J' p),trivial⟩) (gL ..) hb jb fun _=>?_)
   rw [ij];refine ih _ ?_ dk
   unfold fC;rw [mo_en,Uq C2 (by rw [htw];exact CH C2 hP _),htw,hd,h1]
   cases p with
   | inf=>cases hI
   | pt a b =>
    show add _ (.pt (mo (en a)) (mo (en b)))=_;rw [mo_en,mo_en];rfl
end
theorem AH5 {β:Env} {q:P2} {u:Value} (h:AN β (vmV q) u):AN β (KD q 0) u:=by
 cases q with
 | inf=>exact AHs h
 | pt a b =>
  have:=wZ (KC a) (KC b) h
  have e:(mo ((en a,en b,false):R P2):P2)=.pt a b:=mo_en (.pt a b:P2)
  rw [e] at this;exact this
theorem Aa7 (r:R P2):E4 (mo r:P2)=r.2.2:=by
 obtain ⟨a,b,i⟩:=r;cases i<;>rfl
theorem Aa8 {gu n m:Nat} {xs:dn} (g_:∀ d∈xs,0≤d∧d<18446744073709551616) (gx:gu+n≤xs.length) (hn:n≤1125899906842624) (r:R P2) :
  Ab dm 186 (P0 r gu n m) (BG xs) 1 [] (KD (E8 (AK (AA xs gu n)) (mo r)) (FZ (mo r))) []:=by
 have e1:=Aaz r gu n m xs;have e2:=Aa0 r gu n m xs;have e3:=Aa1 r gu n m xs;have hpi:=Aa7 r;cases ho:BH (mo r) with
 | false =>
  unfold E8 FZ;rw [jd (by rw [ho];exact jq),jd (by rw [ho];exact jq)]
  exact BL (A7 (gv:=du) func186 dj dj fun β0 w0 hb =>
   Ay SF AB func186 e2 ⟨by rw [ho];rfl,trivial⟩ (AS dj) hb jb) fun β u hu=>P_ hu
 | true =>
  have hP:=(LU _).1 ho
  unfold E8 FZ;rw [je ho,je ho];cases hI:r.2.2 with
  | true =>
   rw [hI] at hpi;have hp:(mo r:P2)=.inf:=by
    generalize (mo r:P2)=p at *
    cases p with | inf=>rfl | pt a b=>cases hpi
   rw [hp,HM];exact BL (A7 (gv:=dx) func186 dj dj fun β0 w0 hb =>
    Ay SF AB func186 e3 ⟨by rw [ho];rfl,hI,trivial⟩ (AS dj) hb jb) fun β u hu=>AH5 (q:=.inf) hu
  | false =>
   rw [hI] at hpi;refine BL (A7 (gv:=dz) func186 dj dj fun β0 w0 hb=>?_) fun β u hu=>AH5 hu
   refine Ai SF AB e1 ⟨by rw [ho];rfl,hI,Mr hn,trivial⟩ (AS dj) hb jb fun _=>?_
   have e4:wI (wI (64*(n:Int))-1)=((64*n:Nat):Int)-1:=by
    rw [Au (z:=64*(n:Int)) dk,Au dk];omega
   rw [e4];refine dM AGz (Aa6 g_ gx hn hP hpi hb (64*n) ⟨0,0,0⟩ ?_ (jj _))
   rw [G1 rfl,lm (YG g_ gx)];rfl
noncomputable def SQ3:dr:=(186,D9 (fE P2 fun l r=>KD (E8 (AK l) (mo r)) (FZ (mo r))))::SQ2
theorem AH6:AW dm SQ3:=⟨EV (AG1 func186 dj dj (fun _ _=>by kernel_rfl) fun _ _ _ _ r hx hl hn=>Aa8 hx hl hn r),gK⟩
noncomputable abbrev oQ4:gr:=AH SQ3 KQ
theorem gM:gp dm oQ4:=AJ AH6 D0
noncomputable def xD (r:R gj) (gu n m:Nat):List AV:=[va gj r,AR 0 gu n m]
noncomputable def Aa9:List Item:=CB (AY dm oQ4 (some 0) 100 1 none (Aj f238 (xD (en (0:gj)) 0 0 0) (BG []) 1 []))
noncomputable def SG (gu n m:Nat) (xs:dn) (x:R gj) (v:List Ch) (i:Int) (p:List Bool):gq:=⟨Aa9,⟨EC f238.ntmps [(1,AR 0 gu n m),(2,.val false [.p 1 0]),(4,.val false [.p 2 0]),(5,.val false [.p 3 0]),(6,iA i)],
 [(0,some (Ak [.seq .u64 xs])),(1,some ⟨68,av x,false⟩),(2,some ⟨68,R_,false⟩),(3,some ⟨68,v,false⟩)],4,p⟩⟩
abbrev xE:Option (List Nat×List Nat×Nat):=some ([1,2,4,5,6],[0,1,2,3],4)
theorem Aa_ (x:R gj) (gu n m:Nat) (xs:dn):AY dm oQ4 (some 0) 100 1 xE (Aj f238 (xD x gu n m) (BG xs) 1 [])=some ([(AL .i64 n,true)],[],SG gu n m xs x (VC 1) (wI (wI (64*(n:Int))-1)) []):=dj
section
variable (gu n m:Nat) (xs:dn) (x v:R gj) (i:Int)
theorem Aa':AY dm oQ4 (some 0) 100 1 xE (SG gu n m xs x (av v) i dw)=some (LO gu n xs i true,[],SG gu n m xs x (av (mu gj (mu gj v v) x)) (wI (i-1)) []):=dj
theorem AbA:AY dm oQ4 (some 0) 100 1 xE (SG gu n m xs x (av v) i d_)=some (LO gu n xs i false,[],SG gu n m xs x (av (mu gj v v)) (wI (i-1)) []):=dj
theorem AbB:AT dm oQ4 f238 100 1 [] (SG gu n m xs x (av v) i dt)=some ([(decide (0≤i),false)],[],va gj v,[]):=dj
end
theorem AbC (β:Env) (l:List Value) (h:AQ β (VC 1) l):AQ β (av (en (1:gj):R gj)) l:=Sh.rd_ok (r:=(en (1:gj):R gj)) (by kernel_rfl:rd (VC 1)=some (en (1:gj):R gj)) h
theorem pw2 (a:gj) (k:Nat):pw a k*pw a k=pw a (k+k):=(Rn a k k).symm
theorem AbE {gu n m:Nat} {xs:dn} (g_:∀ d∈xs,0≤d∧d<18446744073709551616) (gx:gu+n≤xs.length) (hn:n≤1125899906842624) (x:R gj) :
  Ab dm 238 (xD x gu n m) (BG xs) 1 [] (ve (pw (mo x:gj) (AK (AA xs gu n)))) []:=by
 refine A7 (gv:=[]) func238 dj dj fun β0 w0 hb=>?_
 refine Ai gM AB (Aa_ x gu n m xs) ⟨Mr hn,trivial⟩ (AS dj) hb jb fun _=>?_
 generalize hE:AK (AA xs gu n)=E at *
 have loop:∀ c,c≤64*n→gn dm 238 β0 w0 (A_ β0 w0 [] (ve (pw (mo x:gj) E)) []) f238.ntmps [] (SG gu n m xs x (av (en (pw (mo x:gj) (E / 2^c)):R gj)) ((c:Int)-1) []):=by
  intro c;induction c with
  | zero =>
   intro _;have h:=Ay (w0:=w0) (W:=[]) (n:=f238.ntmps) gM AB func238 (AbB gu n m xs x (en (pw (mo x:gj) E)) (((0:Nat):Int)-1)) ⟨rfl,trivial⟩ (AS dj) hb jb
   rw [kf,ko];exact Af dt h
  | succ c ih =>
   intro hc;have hi:((c+1:Nat):Int)-1=(c:Int):=dk
   rw [hi];obtain ⟨hw,hjn,hv0,hr0,hbit⟩:=YF (gu:=gu) g_ hn (c:=c) dk
   obtain ⟨hq1,hq2⟩:=Xp xs gu c;rw [← hq1,hE] at hbit;have ij:wI ((c:Int)-1)=(c:Int)-1:=Au dk
   have ib:∀ bit,decide (LN xs gu c=1)=bit→AO (LO gu n xs c bit):=by
    intro bit hbt;refine ⟨by simp,rfl,?_,?_,by simp,by simp only [ji];rw [hq2];exact ⟨hr0,hv0⟩,hbt,trivial⟩
    ·rw [hw];simp;omega
    ·rw [hw];simp;omega
   have hd:=fA E c;have ihc:=ih dk;have e1:mu gj (en (pw (mo x:gj) (E / 2^(c+1)))) (en (pw (mo x:gj) (E / 2^(c+1))))=(en (pw (mo x:gj) (2*(E / 2^(c+1)))):R gj):=by
    unfold mu;rw [mo_en,pw2,qf]
   rcases nf (E / 2^c) with h0 | h1
   ·refine Af d_ (Ai gM AB (AbA ..) (ib false (by rw [hbit,h0];rfl)) (AS dj) hb jb fun _=>?_)
    rw [ij,e1,show 2*(E / 2^(c+1))=E / 2^c by omega]
    exact ihc
   ·have e2:mu gj (en (pw (mo x:gj) (2*(E / 2^(c+1))))) x=(en (pw (mo x:gj) (2*(E / 2^(c+1))+1)):R gj):=by
     unfold mu;rw [mo_en];rfl
    refine Af dw (Ai gM AB (Aa' ..) (ib true (by rw [hbit,h1];rfl)) (AS dj) hb jb fun _=>?_)
    rw [ij,e1,e2,show 2*(E / 2^(c+1))+1=E / 2^c by omega]
    exact ihc
 have h0:=loop (64*n) (jj _)
 have hl:=YG g_ gx;rw [hE] at hl;rw [lm hl] at h0;have e3:wI (wI (64*(n:Int))-1)=((64*n:Nat):Int)-1:=by
  rw [Au (z:=64*(n:Int)) dk,Au dk];omega
 rw [e3];refine N2 ?_ h0
 exact ⟨rfl,rfl,rfl,fun β l h=>h,rfl,rfl,rfl,fun β l h=>h,rfl,rfl,rfl,fun β l h=>h,rfl,rfl,rfl,fun β l h=>AbC β l h,trivial⟩
noncomputable def YT (α:Type) [Sh α] (g:R α→dn→AV):ASpec:=fun args H fr gv =>
 match args with
 | [.val true a,S]=>match DZ S with
  | some (k,gu,n)=>match (rd a:Option (R α)),AG H k with
   | some r,some ⟨_,cs,_⟩=>match A8 .u64 cs with
    | some xs=>some (BR [k] 1 fr 0 [] (g r (AA xs gu n)) [] [(Nat.ble (gu+n) xs.length,true),(Nat.ble n 1125899906842624,true)] gv)
    | none=>none
   | _,_=>none
  | none=>none
 | _=>none
theorem xF {α:Type} [Sh α] {f:FuncId} {fn:Func} {g:R α→dn→AV} (ip:dm.funcs[f]? = some fn) (hb:fn.body.isSome=true) (h_:fo fn) (hk:∀ r l,EU 1 0 [] (g r l) []=true)
  (h:∀ (gu n m:Nat) (xs:dn) (r:R α),(∀ d∈xs,0≤d∧d<18446744073709551616)→gu+n≤xs.length→n≤1125899906842624→Ab dm f [va α r,AR 0 gu n m] (BG xs) 1 [] (g r (AA xs gu n)) []):BJ dm f (YT α g):=by
 refine Da ip hb h_ fun args H fr gv r hs=>?_
 unfold YT at hs;split at hs;case h_2=>cases hs
 rename_i a S;split at hs;case h_2=>cases hs
 rename_i k gu n hS;split at hs;case h_2=>cases hs
 rename_i q ty cs o hx hk';split at hs;case h_2=>cases hs
 rename_i xs iy;injection hs with hs;refine ⟨[k],1,0,[],_,_,_,gv,hs.symm,fun β us w ha hg hc=>?_⟩
 obtain ⟨u1,iu,r1,⟨u2,iw,r2,ha,rfl⟩,rfl⟩:=ha;obtain ⟨m,r2⟩:=FE hS r2;obtain ⟨g1,g2,g3⟩:=Ml hg hk' iy;exact ⟨[va α q,AR 0 gu n m],BG xs,h gu n m xs q g1 (jf hc.1) (jf hc.2.1),hk _ _,⟨u1,_,F_ hx r1,⟨u2,iw,Cp dk rfl r2,ha,rfl⟩,rfl⟩,g2,g3⟩
theorem AH7 (a:gj) (k:Nat):∃ y,y=pw a k:=⟨_,rfl⟩
noncomputable def VD (a:gj) (k:Nat):gj:=Classical.choose (AH7 a k)
theorem gN (a:gj) (k:Nat):VD a k=pw a k:=kq (AH7 a k)
noncomputable def SQ4:dr:=(238,YT gj fun r l=>ve (VD (mo r:gj) (AK l)))::SQ3
theorem AH8:AW dm SQ4:=⟨xF func238 dj dj (fun _ _=>by kernel_rfl) fun _ _ _ _ r hx hl hn=>by rw [gN];exact AbE hx hl hn r,AH6⟩
noncomputable abbrev oQ5:gr:=AH SQ4 KQ
theorem xG:gp dm oQ5:=AJ AH8 D0
noncomputable def SQ5:dr:=(239,BF dm oQ5 f239 100)::(240,BF dm oQ5 f240 100)::(212,BF dm oQ5 f212 100)::SQ4
theorem AH9:AW dm SQ5:=⟨BK xG AB func239 dj dj 100,BK xG AB func240 dj dj 100,BK xG AB func212 dj dj 100,AH8⟩
noncomputable abbrev oQ6:gr:=AH SQ5 KQ
theorem AbF:gp dm oQ6:=AJ AH9 D0
noncomputable def SQ6:dr:=(151,BF dm oQ6 f151 300)::SQ5
theorem AH_:AW dm SQ6:=⟨BK AbF AB func151 dj dj 300,AH9⟩
noncomputable abbrev oQ7:gr:=AH SQ6 KQ
theorem M5:gp dm oQ7:=AJ AH_ D0
def YU:dn:=AA RL 0 4
theorem AH':AK YU=rN:=vZ
section
variable (r:R P2) (x y:Nat) (i:Bool)
theorem AbG:AM dm oQ7 f120 [va P2 r] du 500=some (tt 4 [(decide (FZ (mo r)=0),true)],Av (en (E8 (AK YU) (mo r)):R P2).2.2):=dj
theorem AbH:AM dm oQ7 f120 [va P2 r] dt 500=some (tt 4 [(decide (FZ (mo r)=0),false)],.val false [.b false]):=dj
theorem AbI:AM dm oQ7 f72 [By x y i] du 500=some (tt 4 [(decide (HR (An x y i)=0),true)],Av (Aq (HQ (AK YU) (An x y i)))):=dj
theorem AbJ:AM dm oQ7 f72 [By x y i] dt 500=some (tt 4 [(decide (HR (An x y i)=0),false)],.val false [.b false]):=dj
end
theorem AbK (r:R P2):AU dm 120 [va P2 r] (Av (CT (mo r))):=by
 have h1:=AbG r;have h2:=AbH r;generalize (mo r:P2)=p at *
 unfold CT;cases ho:BH p with
 | true =>
  have e:en (E8 (AK YU) p)=(en (smul rN p):R P2):=by unfold E8;rw [je ho,AH']
  rw [e] at h1;exact AP M5 AB func120 h1 (AI 4 ⟨by unfold FZ;rw [je ho];rfl,trivial⟩) rfl
 | false=>exact C3 (AP M5 AB func120 h2 (AI 4 ⟨by unfold FZ;rw [jd (by rw [ho];exact jq)];rfl,trivial⟩) rfl) fun u hu=>JK rfl hu
theorem AbL (x y:Nat) (i:Bool):AU dm 72 [By x y i] (Av (BT (An x y i))):=by
 have h1:=AbI x y i;have h2:=AbJ x y i;generalize An x y i=p at *
 unfold BT;cases ho:BE p with
 | true =>
  have e:HQ (AK YU) p=smul rN p:=by unfold HQ;rw [je ho,AH']
  rw [e] at h1;exact AP M5 AB func72 h1 (AI 4 ⟨by unfold HR;rw [je ho];rfl,trivial⟩) rfl
 | false=>exact C3 (AP M5 AB func72 h2 (AI 4 ⟨by unfold HR;rw [jd (by rw [ho];exact jq)];rfl,trivial⟩) rfl) fun u hu=>JK rfl hu
def lwL:dn:=[0xee7fbfffffffeaaa,0x7aaffffac54ffff,0xd9cc34a83dac3d89,0xd91dd2e13ce144af,0x92c6e9ed90d2eb35,0x680447a8e5ff9a6]
def xH:dn:=[0xdcff7fffffffd555,0xf55ffff58a9ffff,0xb39869507b587b12,0xb23ba5c279c2895f,0x258dd3db21a5d66b,0xd0088f51cbff34d]
theorem AbM:AK (AA lwL 0 6)=(pN-3) / 4:=dj
theorem AbN:AK (AA xH 0 6)=(pN-1) / 2:=dj
noncomputable def gF (r:R gj):R gj:=en (VD (mo r:gj) (AK (AA lwL 0 6)))
noncomputable def SH (r:R gj):R gj:=mu gj (gF r) r
noncomputable def SI (r:R gj):R gj:=mu gj (gF r) (SH r)
def xI:R gj:=((0:Nat),(1:Nat))
section
variable (r:R gj)
theorem AbO:AM dm oQ7 f182 [va gj r] du 500=some (tt 2 [(CN (SI r) (ng gj (kk 1)),true)],va gj (mu gj (SH r) xI)):=dj
theorem AbP:AM dm oQ7 f182 [va gj r] dt 500=some (tt 2 ((CN (SI r) (ng gj (kk 1)),false)::tt 2 []),va gj (mu gj (en (VD (mo (ad gj (kk 1) (SI r)):gj) (AK (AA xH 0 6)))) (SH r))):=dj
theorem AbQ:AM dm oQ7 f184 [va gj r] du 300=some ([(dq (re FP r.1) 0,true)],DY (E3 r.2)):=dj
theorem AbR:AM dm oQ7 f184 [va gj r] dt 300=some ([(dq (re FP r.1) 0,false)],DY (E3 r.1)):=dj
theorem AbS:AM dm oQ7 f117 [va gj r] du 300=some ([(dq (re FP r.2) 0,true)],Av (BP r.1)):=dj
theorem AbT:AM dm oQ7 f117 [va gj r] dt 300=some ([(dq (re FP r.2) 0,false)],Av (BP r.2)):=dj
end
theorem AIB:(mo (kk 1):gj)=1:=Qx.ext EB tf_zero
theorem AbU:(mo xI:gj)=uu:=Qx.ext tf_zero EB
theorem AIC (r:R gj):gF r=en (OI (mo r:gj)):=by unfold gF OI;rw [AbM,gN]
theorem xJ (r:R gj):SH r=en (E7 (mo r:gj)):=by unfold SH E7;rw [AIC];unfold mu;rw [mo_en]
theorem AID (r:R gj):SI r=en (C9 (mo r:gj)):=by unfold SI C9;rw [AIC,xJ];unfold mu;rw [mo_en,mo_en]
theorem AbV:ng gj (kk 1)=(en (-1:gj):R gj):=by unfold ng;rw [AIB]
theorem AIE (a:gj):∃ y,y=G4 a:=⟨_,rfl⟩
noncomputable def gO (a:gj):gj:=Classical.choose (AIE a)
theorem AIF (a:gj):gO a=G4 a:=kq (AIE a)
theorem AbW (r:R gj):AU dm 182 [va gj r] (ve (gO (mo r:gj))):=by
 rw [AIF];have h1:=AbO r;have h2:=AbP r;have ec:CN (SI r) (ng gj (kk 1))=decide (C9 (mo r:gj)=-1):=by rw [AID,AbV];exact Rz _ _
 rw [ec] at h1 h2;unfold G4;by_cases h:C9 (mo r:gj)=-1
 ·rw [je h];have e:mu gj (SH r) xI=(en (E7 (mo r:gj)*uu):R gj):=by rw [xJ];unfold mu;rw [mo_en,AbU]
  rw [e] at h1;exact AP M5 AB func182 h1 (AI 2 ⟨jc h,trivial⟩) rfl
 ·rw [jd h];have e:mu gj (en (VD (mo (ad gj (kk 1) (SI r)):gj) (AK (AA xH 0 6)))) (SH r)=(en (pw (1+C9 (mo r:gj)) ((pN-1) / 2)*E7 (mo r:gj)):R gj):=by
   rw [xJ,AID,AbN,gN];unfold mu ad;rw [mo_en,mo_en,mo_en,AIB,mo_en]
  rw [e] at h2;exact AP M5 AB func182 h2 (AI 2 ⟨jg h,AI 2 trivial⟩) rfl
theorem AbX (r:R gj):AU dm 184 [va gj r] (DY (B_ (mo r))):=by
 have e:dq (re FP r.1) 0=decide ((mo r:gj).a=0):=M0 (mo r:gj).a 0
 have h1:=AbQ r;have h2:=AbR r;rw [AHl] at h1 h2;unfold B_ C8;by_cases h:(mo r:gj).a=0
 ·rw [je h];exact AP M5 AB func184 h1 ⟨by rw [e];exact jc h,trivial⟩ rfl
 ·rw [jd h];exact AP M5 AB func184 h2 ⟨by rw [e];exact jg h,trivial⟩ rfl
theorem AbY (r:R gj):AU dm 117 [va gj r] (Av (EG (mo r))):=by
 have e:dq (re FP r.2) 0=decide ((mo r:gj).b=0):=M0 (mo r:gj).b 0
 have h1:=AbS r;have h2:=AbT r;unfold EG;by_cases h:(mo r:gj).b=0
 ·rw [je h];rw [show BP r.1=BP (mo r:gj).a.val from fG _] at h1
  exact AP M5 AB func117 h1 ⟨by rw [e];exact jc h,trivial⟩ rfl
 ·rw [jd h];rw [show BP r.2=BP (mo r:gj).b.val from fG _] at h2
  exact AP M5 AB func117 h2 ⟨by rw [e];exact jg h,trivial⟩ rfl
noncomputable def SQ7:dr:=(72,Ac (N8 fun p=>Av (BT p)))::(120,Ac (Bi P2 fun r=>Av (CT (mo r))))::(182,Ac (Bi gj fun r=>ve (gO (mo r:gj))))::(184,Ac (Bi gj fun r=>DY (B_ (mo r))))::(117,Ac (Bi gj fun r=>Av (EG (mo r))))::SQ6
theorem AIG:AW dm SQ7:=⟨Ad func72 dj dj (Rt AbL),Ad func120 dj dj (Bm AbK),Ad func182 dj dj (Bm AbW),Ad func184 dj dj (Bm AbX),Ad func117 dj dj (Bm AbY),AH_⟩
noncomputable abbrev oQ8:gr:=AH SQ7 KQ
theorem xK:gp dm oQ8:=AJ AIG D0
noncomputable def rR (r:R gj):R gj:=en (gO (mo r:gj))
section
variable (r:R gj)
theorem AbZ:AM dm oQ8 f115 [va gj r] du 500=some ([(!CN (mu gj (rR r) (rR r)) (re gj r),true)],gD):=dj
theorem Aba:AM dm oQ8 f115 [va gj r] dx 500=some ([(!CN (mu gj (rR r) (rR r)) (re gj r),false),(decide (B_ (mo (rR r))=1),true)],.tup [(true,av (ng gj (rR r))),(false,[.b true])]):=dj
theorem Abb:AM dm oQ8 f115 [va gj r] dz 500=some ([(!CN (mu gj (rR r) (rR r)) (re gj r),false),(decide (B_ (mo (rR r))=1),false)],.tup [(true,av (rR r)),(false,[.b true])]):=dj
end
theorem Abc (r:R gj):AU dm 115 [va gj r] (OT (mo r)):=by
 have h1:=AbZ r;have h2:=Aba r;have h3:=Abb r;unfold rR at h1 h2 h3;rw [AIF] at h1 h2 h3;have e:re gj r=en (mo r:gj):=rfl
 rw [e] at h1 h2 h3;generalize (mo r:gj)=a at *
 rw [YQ] at h1 h2 h3;rw [wW] at h2 h3;rw [wV] at h2;by_cases h:G4 a*G4 a=a
 ·obtain ⟨q1,q2⟩:=AW5 h;have ht:(!decide (G4 a*G4 a=a))=false:=by rw [jc h];rfl
  unfold OT;rw [← q1,q2];unfold KB;cases hs:C8 (G4 a) with
  | true =>
   rw [je rfl];exact C3 (AP xK AB func115 h2 ⟨ht,hs,trivial⟩ rfl) fun u q=>C7 (fun _ q=>q) (fun _ q=>YR rfl q) q
  | false =>
   rw [jd jq];exact C3 (AP xK AB func115 h3 ⟨ht,hs,trivial⟩ rfl) fun u q=>C7 (fun _ q=>q) (fun _ q=>YR rfl q) q
 ·exact C3 (AP xK AB func115 h1 ⟨by rw [jg h];rfl,trivial⟩ rfl) fun u q=>wX (AW6 h) q
noncomputable def SQ8:dr:=(115,Ac (Bi gj fun r=>OT (mo r)))::SQ7
theorem Abd:AW dm SQ8:=⟨Ad func115 dj dj (Bm Abc),AIG⟩
noncomputable def SQ9:dr:=SQ8
theorem Abe:AW dm SQ9:=Abd
noncomputable def SQe:dr:=SQ9
theorem VE:AW dm SQe:=Abe
noncomputable abbrev oQe:gr:=AH SQe KQ
theorem IA:gp dm oQe:=AJ VE D0
abbrev ee:List Bool:=[false,false,false,false]
open Ex Num Rg
set_option maxRecDepth 100000
set_option maxHeartbeats 4000000
noncomputable abbrev qrF:Func:=f65
def qA (n m:Nat) (k:Int) (s:Bool):List AV:=[AR 0 0 n m,.val false [.n .i64 k],.val false [.b s]]
noncomputable def M6 (xs:dn) (n m:Nat) (k:Int) (s:Bool) (p:List Bool):gq:=Aj qrF (qA n m k s) [(0,some (Ak [.seq .u8 xs]))] 1 p
def Ll (e:Int) (i:Bool):AV:=.tup [(false,[.v (.slice none 0 0)]),(false,[.b false]),(false,[.b i]),(false,[.n .i64 e])]
def P' (e:Int):AV:=.tup [(false,[.v (.slice none 0 0)]),(false,[.b false]),(false,[.v (.bool (decide (e=0)))]),(false,[.v (.int .i64 e)])]
def OW (k:Nat) (ja:Bool):AV:=.tup [(false,[.sx (2+3*k) k 6]),(false,[.v (.bool ja)]),(false,[.b false]),(false,[.n .i64 0])]
theorem Abf {β β':Env} {g1 g2 g3 g4:Bool} {a a' b b' c c' d d':List Ch} {u:Value} (h1:∀ v,Bx β g1 a v→Bx β' g1 a' v) (h2:∀ v,Bx β g2 b v→Bx β' g2 b' v) (h3:∀ v,Bx β g3 c v→Bx β' g3 c' v) (h4:∀ v,Bx β g4 d v→Bx β' g4 d' v) (h:AN β (.tup [(g1,a),(g2,b),(g3,c),(g4,d)]) u):AN β' (.tup [(g1,a'),(g2,b'),(g3,c'),(g4,d')]) u:=by
 obtain ⟨us,⟨u1,l1,q1,⟨u2,l2,q2,⟨u3,l3,q3,⟨u4,l4,q4,q5,q6⟩,q7⟩,q8⟩,q9⟩,q10⟩:=h;exact ⟨us,⟨u1,l1,h1 _ q1,⟨u2,l2,h2 _ q2,⟨u3,l3,h3 _ q3,⟨u4,l4,h4 _ q4,q5,q6⟩,q7⟩,q8⟩,q9⟩,q10⟩
theorem M7 {e e':Int} {i:Bool} (he:e=e') (hi:i=decide (e'=0)):∀ (β:Env) (u:Value),AN β (Ll e i) u→AN β (P' e') u:=fun β u h=>by
 subst he;exact Abf (fun _ q=>q) (fun _ q=>q) (fun _ q=>YR hi q) (fun _ q=>EX rfl q) h
noncomputable def Abg:List Item:=CB (AY dm oQe (some 0) 800 1 none (M6 [] 48 48 1 true ef))
noncomputable def OX (xs ls:dn) (n:Nat) (ja:Bool) (i:Int) (p:List Bool):gq:=⟨Abg,⟨EC qrF.ntmps [(10,.val false [.v (.bool ja)]),(11,.val false [.sx 2 n 1]),(12,.val false [.n .i64 i])],fQ xs ls,3,p⟩⟩
noncomputable def Abh:List Item:=CB (AY dm oQe (some 0) 800 1 none (M6 [] 48 48 1 true ee))
noncomputable def Abi (k:Int) (ja:Bool):List AV:=[.any,.val false [.n .i64 k],.any,.any,.any,.any,.any,.any,.any,.any,.val false [.v (.bool ja)]]
noncomputable def Abj:List AV:=.any::.val false [.v (.slice none 0 0)]::.val false [.n .i64 0]::List.replicate (qrF.ntmps-15) AV.any
noncomputable def KP (xs ls:dn) (k:Int) (ja:Bool) (i:AV) (p:List Bool):gq:=⟨Abh,⟨Abi k ja++i::Abj,fQ xs ls,3,p⟩⟩
abbrev xL:Option (List Nat×List Nat×Nat):=some ([10,11,12],[0,2],3)
abbrev qK2:Option (List Nat×List Nat×Nat):=some ([1,10,11,13,14],[0,2],3)
def SJ (xs:dn) (s b:Bool) (r:dp):dp:=(true,true)::(false,false)::(true,true)::(decide (0<xs.length),true)::(true,true)::(decide (0<xs.length),true)::(!(Al xs 128==s),b)::r
def YV (xs:dn) (n m:Nat) (c:Bool) (r:dp):dp:=(true,true)::(decide (0<xs.length),true)::(true,true)::(Nat.beq m 1,false)::(true,true)::(Nat.ble n xs.length,true)::(true,true)::(true,true)::(decide (0<xs.length),true)::(Al xs 64,c)::r
def QA (C lo hi:Nat) (ls:dn) (e:Bool) (r:dp):dp:=(decide ((0:Int)≤(hi:Int)∧(hi:Int)≤(C:Int)),true)::(true,true)::(Nat.beq C lo,false)::(Nat.ble hi ls.length,true)::(true,true)::(!decide (H5 48 (CO ls lo)=0),e)::r
section
variable (xs ls:dn) (n m C:Nat) (i:Int) (ja:Bool)
def xM (r:dp):dp:=(AL .i64 n,true)::(decide (i<n),true)::(decide (0≤i∧i<n),true)::(decide (0+i.toNat*1<ls.length),true)::r
theorem Abk:AY dm oQe (some 0) 800 1 xL (OX xs ls n ja i ew)=some (xM ls n i [(!decide (ls.getD (0+i.toNat*1) 0=0),false),(ja,false)],[],OX xs ls n ja (AX true .i64 (i+1)) []):=dj
theorem Abl:AT dm oQe qrF 800 1 [] (OX xs ls n ja i dt)=some ([(AL .i64 n,true),(decide (i<n),false)],[],Ll 0 true,[]):=dj
theorem Abm:AT dm oQe qrF 800 1 [] (OX xs ls n ja i dw)=some (xM ls n i [(!decide (ls.getD (0+i.toNat*1) 0=0),true)],[],Ll 202 false,[]):=dj
theorem Abn:AT dm oQe qrF 800 1 [] (OX xs ls n ja i eg)=some (xM ls n i [(!decide (ls.getD (0+i.toNat*1) 0=0),false),(ja,true)],[],Ll 202 false,[]):=dj
theorem Abo:AT dm oQe qrF 800 1 [] (M6 xs n m 1 true du)=some ([(AL .i64 n,true),(!decide ((n:Int)=48),true)],[],Ll 200 false,[]):=dj
theorem Abp:AT dm oQe qrF 800 1 [] (M6 xs 48 m 1 true dx)=some (SJ xs true true [],[],Ll 201 false,[]):=dj
theorem Abq:AY dm oQe (some 0) 800 1 xL (M6 xs 48 m 1 true ef)=some (SJ xs true false ((YV xs 48 m true [])),[],OX xs (CC xs 47) 48 (Al xs 32) 0 []):=dj
theorem AII:AY dm oQe (some 0) 800 1 qK2 (M6 xs 48 m 1 true ee)=some (SJ xs true false ((YV xs 48 m false [])),[],KP xs (CC xs 47) 1 (Al xs 32) (.val false [.sx 2 48 1]) []):=dj
theorem Abr:AT dm oQe qrF 800 1 [] (M6 xs n m 2 true du)=some ([(AL .i64 n,true),(!decide ((n:Int)=96),true)],[],Ll 200 false,[]):=dj
theorem Abs:AT dm oQe qrF 800 1 [] (M6 xs 96 m 2 true dx)=some (SJ xs true true [],[],Ll 201 false,[]):=dj
theorem Abt:AY dm oQe (some 0) 800 1 xL (M6 xs 96 m 2 true ef)=some (SJ xs true false ((YV xs 96 m true [])),[],OX xs (CC xs 95) 96 (Al xs 32) 0 []):=dj
theorem AIJ:AY dm oQe (some 0) 800 1 qK2 (M6 xs 96 m 2 true ee)=some (SJ xs true false ((YV xs 96 m false [])),[],KP xs (CC xs 95) 2 (Al xs 32) (.val false [.sx 2 96 1]) []):=dj
theorem Abu:AT dm oQe qrF 800 1 [5] (KP xs ls 1 ja (.val false [.sl 2 0 48 C]) dz)=some (QA C 0 48 ls false ((true,true)::[]),[],OW 1 ja,Ft 1 [.num 6 (G0 48 (CO ls 0))]):=dj
theorem Abv:AT dm oQe qrF 800 1 [] (KP xs ls 1 ja (.val false [.sl 2 0 48 C]) dx)=some (QA C 0 48 ls true [],[],Ll 203 false,[]):=dj
theorem Abw:AT dm oQe qrF 800 1 [8] (KP xs ls 2 ja (.val false [.sl 2 0 96 C]) ee)=some (QA C 0 48 ls false ((true,true)::QA C 48 96 ls false ((true,true)::[])),[],OW 2 ja,Ft 2 [.num 6 (G0 48 (CO ls 0)),.num 6 (G0 48 (CO ls 48))]):=dj
theorem Abx:AT dm oQe qrF 800 1 [] (KP xs ls 2 ja (.val false [.sl 2 0 96 C]) dx)=some (QA C 0 48 ls true [],[],Ll 203 false,[]):=dj
theorem Aby:AT dm oQe qrF 800 1 [] (KP xs ls 2 ja (.val false [.sl 2 0 96 C]) ef)=some (QA C 0 48 ls false ((true,true)::QA C 48 96 ls true []),[],Ll 203 false,[]):=dj
end
theorem gP (xs ls:dn) (n:Nat) (ja:Bool) (i:Int) (p:List Bool):Be qrF.ntmps (OX xs ls n ja i p).s:=AS dj
theorem YW (xs ls:dn) (K:Int) (ja:Bool) (k n C:Nat) (p:List Bool):Be qrF.ntmps (KP xs ls K ja (.val false [.sl k 0 n C]) p).s:=AS dj
section
variable {xs ls:dn} {n:Nat} {ja:Bool} (hl:ls.length=n) (hn:0<n) (hm:n≤1000) {β0:Env} {w0:World} (hb:∀ b,1≤b→β0 b=none)
include hl hn hm hb
theorem AIK:∀ c i:Nat,i+c=n→(∀ j,j<i→ls.getD j 0=0)→(0<i→ja=false)→gn dm 65 β0 w0 (A_ β0 w0 [] (P' (G6 ls ja)) []) qrF.ntmps [] (OX xs ls n ja (i:Nat) []):=by
 have hB:AL .i64 (n:Int)=true:=by simp only [AL,jm,ji];omega
 intro c;induction c with
 | zero =>
  intro i hi hz hbig;have hin:i=n:=dk
  subst hin;have e:G6 ls ja=0:=by
   unfold G6 Ld;rw [AHT hl hz,hbig hn];rfl
  rw [e];exact Af dt (IX (Ay IA AB func65 (Abl xs ls i (i:Nat) ja) ⟨hB,jg dk,trivial⟩ (gP ..) hb jb) (M7 rfl rfl))
 | succ c ih =>
  intro i hi hz hbig;have c1:decide (((i:Nat):Int)<(n:Int))=true:=jc dk
  have c2:decide (0≤((i:Nat):Int)∧((i:Nat):Int)<(n:Int))=true:=jc dk
  have c3:decide (0+((i:Nat):Int).toNat*1<ls.length)=true:=jc dk
  have ei:0+((i:Nat):Int).toNat*1=i:=dk
  by_cases h0:ls.getD i 0=0
  ·have z:(!decide (ls.getD (0+((i:Nat):Int).toNat*1) 0=0))=false:=by rw [ei,jc h0];rfl
   cases hq:ja with
   | true =>
    have e:G6 ls ja=202:=by
     unfold G6 Ld;rw [hq,o_,nc,jd jq]
    rw [← hq,e];exact Af eg (IX (Ay IA AB func65 (Abn xs ls n (i:Nat) ja) ⟨hB,c1,c2,c3,z,hq,trivial⟩ (gP ..) hb jb) (M7 rfl rfl))
   | false =>
    rw [← hq];refine Af ew (Ai IA AB (Abk xs ls n (i:Nat) ja) ⟨hB,c1,c2,c3,z,hq,trivial⟩ (gP ..) hb jb fun _=>?_)
    rw [XT true dk,show ((i:Nat):Int)+1=((i+1:Nat):Int) from rfl]
    refine ih (i+1) dk (fun j hj=>?_) (fun _=>hq)
    rcases jv j i with q | q
    ·exact hz j q
    ·rw [show j=i by omega];exact h0
  ·have e:G6 ls ja=202:=by
    unfold G6 Ld;cases ha:ls.all (fun d=>decide (d=0)) with
    | true=>exact absurd (AHU dk ha) h0
    | false=>rw [n_,jd jq]
   rw [e];exact Af dw (IX (Ay IA AB func65 (Abm xs ls n (i:Nat) ja) ⟨hB,c1,c2,c3,by rw [ei,jg h0];rfl,trivial⟩ (gP ..) hb jb) (M7 rfl rfl))
end
theorem AIL {C lo:Nat} (h:lo<C):Nat.beq C lo=false:=by
 cases hq:Nat.beq C lo with
 | false=>rfl
 | true=>have:=mn hq;omega
theorem SK {C lo hi:Nat} {ls:dn} {e:Bool} {r:dp} (h1:lo<hi) (h2:hi≤C) (h3:hi≤ls.length) (h4:(!decide (H5 48 (CO ls lo)=0))=e) (hr:AO r):AO (QA C lo hi ls e r) :=
 ⟨jc ⟨dk,dk⟩,rfl,AIL dk,jh h3,rfl,h4,hr⟩
section
variable {xs ls:dn} {ja:Bool} {C:Nat} {β0:Env} {w0:World} (hb:∀ b,1≤b→β0 b=none)
include hb
theorem Abz (hC:48≤C) (hl:ls.length=48) (h0:CO ls 0<pN):gn dm 65 β0 w0 (A_ β0 w0 [] (OW 1 ja) (Ft 1 (Ik ls 1))) qrF.ntmps [] (KP xs ls 1 ja (.val false [.sl 2 0 48 C]) []):=by
 have t:=Abu xs ls C ja;rw [ON h0] at t;exact Af dz (Ay IA AB func65 t (SK dl dk dk (Le h0) ⟨rfl,trivial⟩) (YW ..) hb jb)
theorem Ab0 (hC:48≤C) (hl:ls.length=48) (h:FO ls 1=false):gn dm 65 β0 w0 (A_ β0 w0 [] (P' 203) []) qrF.ntmps [] (KP xs ls 1 ja (.val false [.sl 2 0 48 C]) []):=by
 by_cases h0:CO ls 0<pN;case neg=>exact Af dx (IX (Ay IA AB func65 (Abv xs ls C ja) (SK dl dk dk (U' h0) trivial) (YW ..) hb jb) (M7 rfl rfl))
 have:FO ls 1=true:=by
  show (decide (CO ls 0<pN)&&true)=true;rw [jc h0];rfl
 rw [this] at h;cases h
theorem Ab1 (hC:96≤C) (hl:ls.length=96) (h0:CO ls 0<pN) (h1:CO ls 48<pN):gn dm 65 β0 w0 (A_ β0 w0 [] (OW 2 ja) (Ft 2 (Ik ls 2))) qrF.ntmps [] (KP xs ls 2 ja (.val false [.sl 2 0 96 C]) []):=by
 have t:=Abw xs ls C ja;rw [ON h0,ON h1] at t;exact Af ee (Ay IA AB func65 t (SK dl dk dk (Le h0) ⟨rfl,SK dl dk dk (Le h1) ⟨rfl,trivial⟩⟩) (YW ..) hb jb)
theorem Ab2 (hC:96≤C) (hl:ls.length=96) (h:FO ls 2=false):gn dm 65 β0 w0 (A_ β0 w0 [] (P' 203) []) qrF.ntmps [] (KP xs ls 2 ja (.val false [.sl 2 0 96 C]) []):=by
 by_cases h0:CO ls 0<pN;case neg=>exact Af dx (IX (Ay IA AB func65 (Abx xs ls C ja) (SK dl dk dk (U' h0) trivial) (YW ..) hb jb) (M7 rfl rfl))
 by_cases h1:CO ls 48<pN;case neg=>exact Af ef (IX (Ay IA AB func65 (Aby xs ls C ja) (SK dl dk dk (Le h0) ⟨rfl,SK dl dk dk (U' h1) trivial⟩) (YW ..) hb jb) (M7 rfl rfl))
 have:FO ls 2=true:=by
  show (decide (CO ls 0<pN)&&(decide (CO ls 48<pN)&&true))=true;rw [jc h0,jc h1];rfl
 rw [this] at h;cases h
end
theorem QB {xs:dn} {s b:Bool} {r:dp} (h:0<xs.length) (hs:(!(Al xs 128==s))=b) (hr:AO r):AO (SJ xs s b r):=by
 have e:=jc h;exact ⟨rfl,rfl,rfl,e,rfl,e,hs,hr⟩
theorem VF {xs:dn} {n m:Nat} {c:Bool} {r:dp} (h:0<xs.length) (hn:n≤xs.length) (hm:1<m) (h2:Al xs 64=c) (hr:AO r):AO (YV xs n m c r) :=
 ⟨rfl,jc h,rfl,AIL hm,rfl,jh hn,rfl,rfl,jc h,h2,hr⟩
theorem Ab3 {xs:dn} {n m:Nat} (hl:n≤xs.length) (hm:n≤m) (hn:AL .i64 n=true) (hr:Bj 1 true (AA xs 0 n)=false):Ab dm 65 (qA n m 1 true) (A5 xs) 1 [] (P' (BW 1 true (AA xs 0 n))) []:=by
 by_cases hk:n=48;case neg =>
  have e:BW 1 true (AA xs 0 n)=200:=by unfold BW;rw [KK hl,je hk]
  rw [e];exact BL (Bs VE D0 func65 dj dj (Abo xs n m) dj ⟨hn,by rw [jg dk];rfl,trivial⟩) (M7 rfl rfl)
 subst hk;have hx:0<xs.length:=dk
 have hw:=KK hl;have er:=P4 (xs:=xs) (n:=48) dl
 have elen:=OO (xs:=xs) (k:=47) dk
 unfold BW Bj at *
 rw [DO dl,DO dl,DO dl,er,hw,jc rfl,ld] at hr;rw [DO dl,DO dl,DO dl,er,hw,jd (fun h=>h rfl)]
 by_cases f1:Al xs 128=true;case neg =>
  rw [je f1];exact BL (Bs VE D0 func65 dj dj (Abp xs m) dj (QB hx (by cases hq:Al xs 128<;>first | rfl | exact absurd hq f1) trivial)) (M7 rfl rfl)
 rw [jd (fun h=>h f1)]
 rw [jc f1,ld] at hr;have p0:(!(Al xs 128==true))=false:=by rw [f1];rfl
 rw [jd (fun h=>by rw [o_,nc] at h;cases h)]
 rw [o_,nc,ra,ld] at hr;cases f3:Al xs 64 with
 | true =>
  rw [je rfl];refine A7 (gv:=ef) func65 dj dj fun β0 w0 hb=>?_
  exact Ai IA AB (Abq xs m) (QB hx p0 (VF hx hl dk f3 trivial)) (AS dj) hb jb fun _=>AIK elen dl dl hb 48 0 dl (fun j hj=>absurd hj (oi j)) (fun h=>absurd h (qq 0))
 | false =>
  rw [f3] at hr;have hr':FO (CC xs 47) 1=false:=hr
  rw [jd jq,jd (by rw [hr'];exact jq)]
  refine A7 (gv:=ee) func65 dj dj fun β0 w0 hb=>?_
  exact Ai IA AB (AII xs m) (QB hx p0 (VF hx hl dk f3 trivial)) (AS dj) hb jb fun _=>KJ fun C hC=>Ab0 hb hC elen hr'
theorem Ab4 {xs:dn} {n m:Nat} (hl:n≤xs.length) (hm:n≤m) (hr:Bj 1 true (AA xs 0 n)=true):Ab dm 65 (qA n m 1 true) (A5 xs) 1 [] (OW 1 (Al (AA xs 0 n) 32)) (Ft 1 (Ik (CC (AA xs 0 n) 47) 1)):=by
 unfold Bj at hr;simp only [jm,ji] at hr;obtain ⟨hk,f1,f2,f3,h4⟩:=hr;rw [KK hl] at hk;have hk':n=48:=hk
 subst hk';have hx:0<xs.length:=dk
 have er:=P4 (xs:=xs) (n:=48) dl
 have elen:=OO (xs:=xs) (k:=47) dk
 rw [DO dl] at f1 f2 f3;rw [er] at h4;rw [DO dl,er];have p0:(!(Al xs 128==true))=false:=by rw [f1];rfl
 have f3':Al xs 64=false:=by cases hq:Al xs 64 with | false=>rfl | true=>rw [hq] at f3;cases f3
 refine A7 (gv:=ee) func65 dj dj fun β0 w0 hb=>?_
 exact Ai IA AB (AII xs m) (QB hx p0 (VF hx hl dk f3' trivial)) (AS dj) hb jb fun _=>KJ fun C hC=>Abz hb hC elen (M4 h4 0 dl)
theorem Ab5 {xs:dn} {n m:Nat} (hl:n≤xs.length) (hm:n≤m) (hn:AL .i64 n=true) (hr:Bj 2 true (AA xs 0 n)=false):Ab dm 65 (qA n m 2 true) (A5 xs) 1 [] (P' (BW 2 true (AA xs 0 n))) []:=by
 by_cases hk:n=96;case neg =>
  have e:BW 2 true (AA xs 0 n)=200:=by unfold BW;rw [KK hl,je hk]
  rw [e];exact BL (Bs VE D0 func65 dj dj (Abr xs n m) dj ⟨hn,by rw [jg dk];rfl,trivial⟩) (M7 rfl rfl)
 subst hk;have hx:0<xs.length:=dk
 have hw:=KK hl;have er:=P4 (xs:=xs) (n:=96) dl
 have elen:=OO (xs:=xs) (k:=95) dk
 unfold BW Bj at *
 rw [DO dl,DO dl,DO dl,er,hw,jc rfl,ld] at hr;rw [DO dl,DO dl,DO dl,er,hw,jd (fun h=>h rfl)]
 by_cases f1:Al xs 128=true;case neg =>
  rw [je f1];exact BL (Bs VE D0 func65 dj dj (Abs xs m) dj (QB hx (by cases hq:Al xs 128<;>first | rfl | exact absurd hq f1) trivial)) (M7 rfl rfl)
 rw [jd (fun h=>h f1)]
 rw [jc f1,ld] at hr;have p0:(!(Al xs 128==true))=false:=by rw [f1];rfl
 rw [jd (fun h=>by rw [o_,nc] at h;cases h)]
 rw [o_,nc,ra,ld] at hr;cases f3:Al xs 64 with
 | true =>
  rw [je rfl];refine A7 (gv:=ef) func65 dj dj fun β0 w0 hb=>?_
  exact Ai IA AB (Abt xs m) (QB hx p0 (VF hx hl dk f3 trivial)) (AS dj) hb jb fun _=>AIK elen dl dl hb 96 0 dl (fun j hj=>absurd hj (oi j)) (fun h=>absurd h (qq 0))
 | false =>
  rw [f3] at hr;have hr':FO (CC xs 95) 2=false:=hr
  rw [jd jq,jd (by rw [hr'];exact jq)]
  refine A7 (gv:=ee) func65 dj dj fun β0 w0 hb=>?_
  exact Ai IA AB (AIJ xs m) (QB hx p0 (VF hx hl dk f3 trivial)) (AS dj) hb jb fun _=>KJ fun C hC=>Ab2 hb hC elen hr'
theorem Ab6 {xs:dn} {n m:Nat} (hl:n≤xs.length) (hm:n≤m) (hr:Bj 2 true (AA xs 0 n)=true):Ab dm 65 (qA n m 2 true) (A5 xs) 1 [] (OW 2 (Al (AA xs 0 n) 32)) (Ft 2 (Ik (CC (AA xs 0 n) 95) 2)):=by
 unfold Bj at hr;simp only [jm,ji] at hr;obtain ⟨hk,f1,f2,f3,h4⟩:=hr;rw [KK hl] at hk;have hk':n=96:=hk
 subst hk';have hx:0<xs.length:=dk
 have er:=P4 (xs:=xs) (n:=96) dl
 have elen:=OO (xs:=xs) (k:=95) dk
 rw [DO dl] at f1 f2 f3;rw [er] at h4;rw [DO dl,er];have p0:(!(Al xs 128==true))=false:=by rw [f1];rfl
 have f3':Al xs 64=false:=by cases hq:Al xs 64 with | false=>rfl | true=>rw [hq] at f3;cases f3
 refine A7 (gv:=ee) func65 dj dj fun β0 w0 hb=>?_
 exact Ai IA AB (AIJ xs m) (QB hx p0 (VF hx hl dk f3' trivial)) (AS dj) hb jb fun _=>KJ fun C hC=>Ab1 hb hC elen (M4 h4 0 dl) (M4 h4 1 dl)
def SL (k:Int) (s:Bool):Option Nat:=if k=1 then (match s with | true=>some 1 | false=>none) else if k=2 then (match s with | true=>some 2 | false=>none) else none
theorem Ab7 {k:Int} {s:Bool} {K:Nat} (hK:SL k s=some K) {xs:dn} {n m:Nat} (hl:n≤xs.length) (hm:n≤m) (hn:AL .i64 n=true) (hr:Bj K s (AA xs 0 n)=false):Ab dm 65 (qA n m k s) (A5 xs) 1 [] (P' (BW K s (AA xs 0 n))) []:=by
 unfold SL at hK;split at hK
 ·rename_i e;subst e;cases s
  ·cases hK
  ·injection hK with hK;subst hK;exact Ab3 hl hm hn hr
 ·split at hK
  ·rename_i e;subst e;cases s
   ·cases hK
   ·injection hK with hK;subst hK;exact Ab5 hl hm hn hr
  ·cases hK
theorem Ab8 {k:Int} {s:Bool} {K:Nat} (hK:SL k s=some K) {xs:dn} {n m:Nat} (hl:n≤xs.length) (hm:n≤m) (hr:Bj K s (AA xs 0 n)=true):Ab dm 65 (qA n m k s) (A5 xs) 1 [] (OW K (Al (AA xs 0 n) 32)) (Ft K (Ik (CC (AA xs 0 n) (48*K-1)) K)):=by
 unfold SL at hK;split at hK
 ·rename_i e;subst e;cases s
  ·cases hK
  ·injection hK with hK;subst hK;exact Ab4 hl hm hr
 ·split at hK
  ·rename_i e;subst e;cases s
   ·cases hK
   ·injection hK with hK;subst hK;exact Ab6 hl hm hr
  ·cases hK
theorem Ab9 {k:Int} {s:Bool} {K:Nat} (hK:SL k s=some K):K=1∨K=2:=by
 unfold SL at hK;split at hK
 ·cases s
  ·cases hK
  ·injection hK with hK;omega
 ·split at hK
  ·cases s
   ·cases hK
   ·injection hK with hK;omega
  ·cases hK
theorem Ab_ {K:Nat} (h:K=1∨K=2) (b:Bool) (l:dn):EU 1 (3*K+2) [] (OW K b) (Ft K (Ik l K))=true:=by
 rcases h with rfl | rfl<;>kernel_rfl
noncomputable def rqSp:ASpec:=fun args H fr gv=>match args with
 | [S,.val false [.n .i64 h],B]=>match Im S,F0 (some B) with
  | some (k,n,m),some (_,s)=>match AG H k,SL h s with
   | some ⟨_,cs,_⟩,some K=>match A8 .u8 cs,gv with
    | some xs,true::gy=>some (BR [k] 1 fr 0 [] (P' (BW K s (AA xs 0 n))) [] (fU n m xs (Bj K s (AA xs 0 n)) false) gy)
    | some xs,false::gy=>some (BR [k] 1 fr (3*K+2) [] (OW K (Al (AA xs 0 n) 32)) (Ft K (Ik (CC (AA xs 0 n) (48*K-1)) K)) (fU n m xs (Bj K s (AA xs 0 n)) true) gy)
    | _,_=>none
   | _,_=>none
  | _,_=>none
 | _=>none
theorem Ab':BJ dm 65 rqSp:=by
 refine Da func65 dj dj fun args H fr gv r hs=>?_
 unfold rqSp at hs;split at hs;case h_2=>cases hs
 rename_i S h B;split at hs;case h_2=>cases hs
 rename_i k n m c s hS hB;split at hs;case h_2=>cases hs
 rename_i ty cs o K hk' hK;split at hs;case h_3=>cases hs
 all_goals
  rename_i xs gy iy;injection hs with hs
 ·refine ⟨[k],1,0,[],_,_,_,gy,hs.symm,fun β us w ha hg hc=>?_⟩
  obtain ⟨u1,iu,r1,⟨u2,iw,r2,⟨u3,us3,r3,ha,rfl⟩,rfl⟩,rfl⟩:=ha;obtain ⟨hl,hm,hn,hr,_⟩:=hc;obtain ⟨m',hm',r1⟩:=KM hS (jf hm) r1
  obtain ⟨g1,g2,g3⟩:=Eu hg hk' iy;exact ⟨qA n m' h s,A5 xs,Ab7 hK (jf hl) hm' hn hr,dj,⟨u1,_,Cp dk rfl r1,⟨u2,_,r2,⟨u3,us3,R2 hB r3,ha,rfl⟩,rfl⟩,rfl⟩,g2,g3⟩
 ·refine ⟨[k],1,3*K+2,[],_,_,_,gy,hs.symm,fun β us w ha hg hc=>?_⟩
  obtain ⟨u1,iu,r1,⟨u2,iw,r2,⟨u3,us3,r3,ha,rfl⟩,rfl⟩,rfl⟩:=ha;obtain ⟨hl,hm,hn,hr,_⟩:=hc;obtain ⟨m',hm',r1⟩:=KM hS (jf hm) r1
  obtain ⟨g1,g2,g3⟩:=Eu hg hk' iy;exact ⟨qA n m' h s,A5 xs,Ab8 hK (jf hl) hm' hr,Ab_ (Ab9 hK) _ _,⟨u1,_,Cp dk rfl r1,⟨u2,_,r2,⟨u3,us3,R2 hB r3,ha,rfl⟩,rfl⟩,rfl⟩,g2,g3⟩
noncomputable def SQf:dr:=(65,rqSp)::SQe
theorem JV:AW dm SQf:=⟨Ab',VE⟩
noncomputable abbrev Ew:gr:=AH SQf KQ
open Ex Num Rg
open Sh (R av rd mo en mo_en)
noncomputable def YX (x:Nat):Bool:=Cq (ad FP (mu FP (mu FP x x) x) (4:Nat))
noncomputable def YY (x:R gj):Bool:=Cs (mo (ad gj (mu gj (mu gj x x) x) ((4:Nat),(4:Nat))))
def xO (b:Bool):List Ch:=[.n .u64 0,.n .u64 0,.n .u64 0,.n .u64 0,.n .u64 0,.n .u64 0,.n .u64 0,.n .u64 0,.n .u64 0,.n .u64 0,.n .u64 0,.n .u64 0,.v (.bool b)]
def VG (b:Bool):List Ch:=List.replicate 24 (.n .u64 0)++[.v (.bool b)]
section
variable (n m:Nat) (xs:dn)
noncomputable def KR (s:Bool) (p:List Bool):gq:=Aj f29 (In n m s) (A5 xs) 1 p
noncomputable def KS (s:Bool) (p:List Bool):gq:=Aj f53 (In n m s) (A5 xs) 1 p
theorem AcA:AT dm Ew f29 800 1 [] (KR n m xs true dw)=some (HU n m xs (Bj 1 true (AA xs 0 n)) false [(!decide (BW 1 true (AA xs 0 n)=0),true)],[],.tup [(true,xO (decide (BW 1 true (AA xs 0 n)=0))),(false,[.v (.int .i64 (BW 1 true (AA xs 0 n)))])],[]):=dj
theorem AcB:AT dm Ew f29 800 1 [] (KR n m xs true eg)=some (HU n m xs (Bj 1 true (AA xs 0 n)) false [(!decide (BW 1 true (AA xs 0 n)=0),false),(decide (BW 1 true (AA xs 0 n)=0),true)],[],.tup [(true,xO (decide (BW 1 true (AA xs 0 n)=0))),(false,[.v (.int .i64 (BW 1 true (AA xs 0 n)))])],[]):=dj
noncomputable def OY (b:Bool) (r:dp):dp:=HU n m xs (Bj 1 true (AA xs 0 n)) true (tt 1 ((!YX (xN 1 0 (AA xs 0 n)),b)::r))
theorem AcC:AT dm Ew f29 800 1 [] (KR n m xs true dx)=some (OY n m xs true [],[],dE 204,[]):=dj
theorem AcD:AT dm Ew f29 800 1 [] (KR n m xs true fi)=some (OY n m xs false ([(!(BP (yR (xN 1 0 (AA xs 0 n)))==Al (AA xs 0 n) 32),true),(!BE (An (xN 1 0 (AA xs 0 n)) (ng FP (yR (xN 1 0 (AA xs 0 n)))) false),true)]),[],dE 204,[]):=dj
theorem AcE:AT dm Ew f29 800 1 [] (KR n m xs true ff)=some (OY n m xs false ([(!(BP (yR (xN 1 0 (AA xs 0 n)))==Al (AA xs 0 n) 32),true),(!BE (An (xN 1 0 (AA xs 0 n)) (ng FP (yR (xN 1 0 (AA xs 0 n)))) false),false),(!BT (An (xN 1 0 (AA xs 0 n)) (ng FP (yR (xN 1 0 (AA xs 0 n)))) false),true)]),[],dE 205,[]):=dj
theorem AcF:AT dm Ew f29 800 1 [] (KR n m xs true fe)=some (OY n m xs false ([(!(BP (yR (xN 1 0 (AA xs 0 n)))==Al (AA xs 0 n) 32),true),(!BE (An (xN 1 0 (AA xs 0 n)) (ng FP (yR (xN 1 0 (AA xs 0 n)))) false),false),(!BT (An (xN 1 0 (AA xs 0 n)) (ng FP (yR (xN 1 0 (AA xs 0 n)))) false),false)]),[],dP (xN 1 0 (AA xs 0 n)) (ng FP (yR (xN 1 0 (AA xs 0 n)))),[]):=dj
theorem AcG:AT dm Ew f29 800 1 [] (KR n m xs true ef)=some (OY n m xs false ([(!(BP (yR (xN 1 0 (AA xs 0 n)))==Al (AA xs 0 n) 32),false),(!BE (An (xN 1 0 (AA xs 0 n)) (yR (xN 1 0 (AA xs 0 n))) false),true)]),[],dE 204,[]):=dj
theorem AcH:AT dm Ew f29 800 1 [] (KR n m xs true fa)=some (OY n m xs false ([(!(BP (yR (xN 1 0 (AA xs 0 n)))==Al (AA xs 0 n) 32),false),(!BE (An (xN 1 0 (AA xs 0 n)) (yR (xN 1 0 (AA xs 0 n))) false),false),(!BT (An (xN 1 0 (AA xs 0 n)) (yR (xN 1 0 (AA xs 0 n))) false),true)]),[],dE 205,[]):=dj
theorem AcI:AT dm Ew f29 800 1 [] (KR n m xs true eq)=some (OY n m xs false ([(!(BP (yR (xN 1 0 (AA xs 0 n)))==Al (AA xs 0 n) 32),false),(!BE (An (xN 1 0 (AA xs 0 n)) (yR (xN 1 0 (AA xs 0 n))) false),false),(!BT (An (xN 1 0 (AA xs 0 n)) (yR (xN 1 0 (AA xs 0 n))) false),false)]),[],dP (xN 1 0 (AA xs 0 n)) (yR (xN 1 0 (AA xs 0 n))),[]):=dj
theorem AcJ:AT dm Ew f53 800 1 [] (KS n m xs true dw)=some (HU n m xs (Bj 2 true (AA xs 0 n)) false [(!decide (BW 2 true (AA xs 0 n)=0),true)],[],.tup [(true,VG (decide (BW 2 true (AA xs 0 n)=0))),(false,[.v (.int .i64 (BW 2 true (AA xs 0 n)))])],[]):=dj
theorem AcK:AT dm Ew f53 800 1 [] (KS n m xs true eg)=some (HU n m xs (Bj 2 true (AA xs 0 n)) false [(!decide (BW 2 true (AA xs 0 n)=0),false),(decide (BW 2 true (AA xs 0 n)=0),true)],[],.tup [(true,VG (decide (BW 2 true (AA xs 0 n)=0))),(false,[.v (.int .i64 (BW 2 true (AA xs 0 n)))])],[]):=dj
noncomputable def OZ (b:Bool) (r:dp):dp:=HU n m xs (Bj 2 true (AA xs 0 n)) true (tt 2 ((!YY (x2 2 (AA xs 0 n)),b)::r))
theorem AcL:AT dm Ew f53 800 1 [] (KS n m xs true dx)=some (OZ n m xs true [],[],HV 204,[]):=dj
theorem AcM:AT dm Ew f53 800 1 [] (KS n m xs true fi)=some (OZ n m xs false ([(!(EG (mo (CD (x2 2 (AA xs 0 n))))==Al (AA xs 0 n) 32),true),(!BH (mo ((x2 2 (AA xs 0 n)),(ng gj (CD (x2 2 (AA xs 0 n)))),false):P2),true)]),[],HV 204,[]):=dj
theorem AcN:AT dm Ew f53 800 1 [] (KS n m xs true ff)=some (OZ n m xs false ([(!(EG (mo (CD (x2 2 (AA xs 0 n))))==Al (AA xs 0 n) 32),true),(!BH (mo ((x2 2 (AA xs 0 n)),(ng gj (CD (x2 2 (AA xs 0 n)))),false):P2),false),(!CT (mo ((x2 2 (AA xs 0 n)),(ng gj (CD (x2 2 (AA xs 0 n)))),false):P2),true)]),[],HV 205,[]):=dj
theorem AcO:AT dm Ew f53 800 1 [] (KS n m xs true fe)=some (OZ n m xs false ([(!(EG (mo (CD (x2 2 (AA xs 0 n))))==Al (AA xs 0 n) 32),true),(!BH (mo ((x2 2 (AA xs 0 n)),(ng gj (CD (x2 2 (AA xs 0 n)))),false):P2),false),(!CT (mo ((x2 2 (AA xs 0 n)),(ng gj (CD (x2 2 (AA xs 0 n)))),false):P2),false)]),[],OU (x2 2 (AA xs 0 n)) (ng gj (CD (x2 2 (AA xs 0 n)))),[]):=dj
theorem AcP:AT dm Ew f53 800 1 [] (KS n m xs true ef)=some (OZ n m xs false ([(!(EG (mo (CD (x2 2 (AA xs 0 n))))==Al (AA xs 0 n) 32),false),(!BH (mo ((x2 2 (AA xs 0 n)),(CD (x2 2 (AA xs 0 n))),false):P2),true)]),[],HV 204,[]):=dj
theorem AcQ:AT dm Ew f53 800 1 [] (KS n m xs true fa)=some (OZ n m xs false ([(!(EG (mo (CD (x2 2 (AA xs 0 n))))==Al (AA xs 0 n) 32),false),(!BH (mo ((x2 2 (AA xs 0 n)),(CD (x2 2 (AA xs 0 n))),false):P2),false),(!CT (mo ((x2 2 (AA xs 0 n)),(CD (x2 2 (AA xs 0 n))),false):P2),true)]),[],HV 205,[]):=dj
theorem AcR:AT dm Ew f53 800 1 [] (KS n m xs true eq)=some (OZ n m xs false ([(!(EG (mo (CD (x2 2 (AA xs 0 n))))==Al (AA xs 0 n) 32),false),(!BH (mo ((x2 2 (AA xs 0 n)),(CD (x2 2 (AA xs 0 n))),false):P2),false),(!CT (mo ((x2 2 (AA xs 0 n)),(CD (x2 2 (AA xs 0 n))),false):P2),false)]),[],OU (x2 2 (AA xs 0 n)) (CD (x2 2 (AA xs 0 n))),[]):=dj
end
theorem AcS {x:Nat} (h:YX x=false) (c:Bool):BE (An x (yB x c) false)=false:=by
 cases ho:BE (An x (yB x c) false) with
 | false=>rfl
 | true =>
  have hq:tf (yB x c)*tf (yB x c)=tf x*tf x*tf x+D4:=(LR _).1 ho
  have h2:=Mx hq;unfold YX at h;rw [(AHh x).2,h2] at h;cases h
theorem AcT {x:R gj} (h:YY x=false) (c:Bool):BH (mo (x,KN x c,false))=false:=by
 cases ho:BH (mo (x,KN x c,false)) with
 | false=>rfl
 | true =>
  have hq:(mo (KN x c):gj)*mo (KN x c)=mo x*mo x*mo x+KA:=(LU _).1 ho
  have e:(mo (ad gj (mu gj (mu gj x x) x) ((4:Nat),(4:Nat))):gj)=mo x*mo x*mo x+KA:=by
   unfold ad mu;rw [mo_en,mo_en,mo_en];rfl
  have h2:=Ih.2 ⟨_,hq⟩
  unfold YY at h;rw [e,h2] at h;cases h
theorem AIM {β:Env} {e:Int} {q:Pt FP} {b:Bool} (hb:b=Aq q) (h0:EF q=0) (h1:CM q=0) {u:Value} (h:AN β (.tup [(true,xO b),(false,[.v (.int .i64 e)])]) u):AN β (FQ (q,e)) u:=by
 subst hb;have e1:FQ (q,e)=.tup [(true,[.num 6 0,.num 6 0,.v (.bool (Aq q))]),(false,[.v (.int .i64 e)])]:=by
  show Mv q e=_;unfold Mv;rw [h0,h1]
 rw [e1];exact C7 (fun _ q=>(H9 (x:=0) (y:=0) dj q).1) (fun _ q=>q) h
theorem AIN {β:Env} {e:Int} {q:P2} {b:Bool} (hq:(rd (VG b):Option (R P2))=some (en q)) {u:Value} (h:AN β (.tup [(true,VG b),(false,[.v (.int .i64 e)])]) u):AN β (GV (q,e)) u :=
 C7 (fun _ ⟨l,q,e⟩=>⟨l,Sh.rd_ok (α:=P2) hq q,e⟩) (fun _ q=>q) h
theorem AcU:(rd (VG true):Option (R P2))=some (en (.inf:P2)):=dj
theorem AcV:(rd (VG false):Option (R P2))=some (en (.pt 0 0:P2)):=dj
theorem AIO {n m:Nat} {xs:dn} {s:Bool} {x y:Nat} (hx:x<pN) (hy:y<pN) {C:dp→dp} (hC:∀ r,AO r→AO (C r)) {p1 p2 p3:List Bool}
  (h1:AT dm Ew f29 800 1 [] (KR n m xs s p1)=some (C [(!BE (An x y false),true)],[],dE 204,[]))
  (h2:AT dm Ew f29 800 1 [] (KR n m xs s p2)=some (C [(!BE (An x y false),false),(!BT (An x y false),true)],[],dE 205,[]))
  (h3:AT dm Ew f29 800 1 [] (KR n m xs s p3)=some (C [(!BE (An x y false),false),(!BT (An x y false),false)],[],dP x y,[])) :
  Ab dm 29 (In n m s) (A5 xs) 1 [] (FQ (P7 (An x y false))) []:=by
 unfold P7;cases ho:BE (An x y false) with
 | false =>
  rw [jd jq];exact BL (Bs JV D0 func29 dj dj h1 dj (hC _ ⟨by rw [ho];rfl,trivial⟩)) fun _ _ q=>YN q
 | true =>
  rw [je rfl];cases hi:BT (An x y false) with
  | false =>
   rw [jd jq];exact BL (Bs JV D0 func29 dj dj h2 dj (hC _ ⟨by rw [ho];rfl,by rw [hi];rfl,trivial⟩)) fun _ _ q=>YN q
  | true =>
   rw [je rfl];exact BL (Bs JV D0 func29 dj dj h3 dj (hC _ ⟨by rw [ho];rfl,by rw [hi];rfl,trivial⟩)) fun _ _ q=>AHa hx hy q
theorem AIP {n m:Nat} {xs:dn} (hl:n≤xs.length) (hm:n≤m) (hn:AL .i64 n=true) (s:Bool) (hs1:s=true):Ab dm 29 (In n m s) (A5 xs) 1 [] (FQ (E' s (AA xs 0 n))) []:=by
 have hW:∀ (b d:Bool) r,b=d→AO r→AO (HU n m xs b d r):=fun b d r h hr=>⟨jh hl,jh hm,hn,h,hr⟩
 cases hr:Bj (kS s) s (AA xs 0 n) with
 | false =>
  unfold E';rw [hr,jd jq];by_cases he:BW (kS s) s (AA xs 0 n)=0
  ·rw [je he];cases s with
   | true =>
    have t:=AcB n m xs;have he:BW 1 true (AA xs 0 n)=0:=he
    rw [he] at t;exact BL (Bs JV D0 func29 dj dj t dj (hW _ _ _ hr ⟨rfl,rfl,trivial⟩)) fun _ _ q=>AIM (q:=.inf) rfl rfl rfl q
   | false=>cases hs1
  ·rw [jd he];cases s with
   | true =>
    exact BL (Bs JV D0 func29 dj dj (AcA n m xs) dj (hW _ _ _ hr ⟨fV he,trivial⟩)) fun _ _ q=>by
     have he:¬ BW 1 true (AA xs 0 n)=0:=he
     rw [jg he] at q;exact AIM (q:=.pt 0 0) rfl rfl rfl q
   | false=>cases hs1
 | true =>
  cases s with
  | true =>
   have hx:=H_ hr 0 dl;cases hs:YX (xN 1 0 (AA xs 0 n)) with
   | false =>
    have ev:E' true (AA xs 0 n)=(.pt 0 0,204):=by
     unfold E';rw [hr,je rfl];unfold P7;rw [show BE (JT true (AA xs 0 n))=false from AcS hs _,jd jq]
    rw [ev];exact BL (Bs JV D0 func29 dj dj (AcC n m xs) dj (hW _ _ _ hr (AI 1 ⟨by rw [hs];rfl,trivial⟩))) fun _ _ q=>YN q
   | true =>
    unfold E';rw [hr,je rfl];unfold JT yB;have hs':(!YX (xN 1 0 (AA xs 0 n)))=false:=by rw [hs];rfl
    by_cases hb:(!(BP (yR (xN 1 0 (AA xs 0 n)))==Al (AA xs 0 n) 32))=true
    ·simp only [je hb];exact AIO hx (wK _) (C:=fun r=>OY n m xs false ((!(BP (yR (xN 1 0 (AA xs 0 n)))==Al (AA xs 0 n) 32),true)::r)) (fun r hq=>hW _ _ _ hr (AI 1 ⟨hs',hb,hq⟩)) (AcD n m xs) (AcE n m xs) (AcF n m xs)
    ·simp only [jd hb];exact AIO hx (YO _) (C:=fun r=>OY n m xs false ((!(BP (yR (xN 1 0 (AA xs 0 n)))==Al (AA xs 0 n) 32),false)::r)) (fun r hq=>hW _ _ _ hr (AI 1 ⟨hs',by simpa using hb,hq⟩)) (AcG n m xs) (AcH n m xs) (AcI n m xs)
  | false=>cases hs1
theorem AIQ {n m:Nat} {xs:dn} {s:Bool} {x y:R gj} (hx:Cw x=true) (hy:Cw y=true) {C:dp→dp} (hC:∀ r,AO r→AO (C r)) {p1 p2 p3:List Bool}
  (h1:AT dm Ew f53 800 1 [] (KS n m xs s p1)=some (C [(!BH (mo (x,y,false):P2),true)],[],HV 204,[]))
  (h2:AT dm Ew f53 800 1 [] (KS n m xs s p2)=some (C [(!BH (mo (x,y,false):P2),false),(!CT (mo (x,y,false):P2),true)],[],HV 205,[]))
  (h3:AT dm Ew f53 800 1 [] (KS n m xs s p3)=some (C [(!BH (mo (x,y,false):P2),false),(!CT (mo (x,y,false):P2),false)],[],OU x y,[])) :
  Ab dm 53 (In n m s) (A5 xs) 1 [] (GV (SA (mo (x,y,false):P2))) []:=by
 unfold SA;cases ho:BH (mo (x,y,false):P2) with
 | false =>
  rw [jd jq];exact BL (Bs JV D0 func53 dj dj h1 dj (hC _ ⟨by rw [ho];rfl,trivial⟩)) fun _ _ q=>P_ q
 | true =>
  rw [je rfl];cases hi:CT (mo (x,y,false):P2) with
  | false =>
   rw [jd jq];exact BL (Bs JV D0 func53 dj dj h2 dj (hC _ ⟨by rw [ho];rfl,by rw [hi];rfl,trivial⟩)) fun _ _ q=>P_ q
  | true =>
   rw [je rfl];exact BL (Bs JV D0 func53 dj dj h3 dj (hC _ ⟨by rw [ho];rfl,by rw [hi];rfl,trivial⟩)) fun _ _ q=>wZ hx hy q
theorem AIR {n m:Nat} {xs:dn} (hl:n≤xs.length) (hm:n≤m) (hn:AL .i64 n=true) (s:Bool) (hs1:s=true):Ab dm 53 (In n m s) (A5 xs) 1 [] (GV (G7 s (AA xs 0 n))) []:=by
 have hW:∀ (b d:Bool) r,b=d→AO r→AO (HU n m xs b d r):=fun b d r h hr=>⟨jh hl,jh hm,hn,h,hr⟩
 cases hr:Bj (kT s) s (AA xs 0 n) with
 | false =>
  unfold G7;rw [hr,jd jq];by_cases he:BW (kT s) s (AA xs 0 n)=0
  ·rw [je he];cases s with
   | true =>
    have t:=AcK n m xs;have he:BW 2 true (AA xs 0 n)=0:=he
    rw [he] at t;exact BL (Bs JV D0 func53 dj dj t dj (hW _ _ _ hr ⟨rfl,rfl,trivial⟩)) fun _ _ q=>AIN (q:=.inf) AcU q
   | false=>cases hs1
  ·rw [jd he];cases s with
   | true =>
    exact BL (Bs JV D0 func53 dj dj (AcJ n m xs) dj (hW _ _ _ hr ⟨fV he,trivial⟩)) fun _ _ q=>by
     have he:¬ BW 2 true (AA xs 0 n)=0:=he
     rw [jg he] at q;exact AIN (q:=.pt 0 0) AcV q
   | false=>cases hs1
 | true =>
  cases s with
  | true =>
   have hx:=YS (H_ hr 1 dl) (H_ hr 0 dl)
   cases hs:YY (x2 2 (AA xs 0 n)) with
   | false =>
    have ev:G7 true (AA xs 0 n)=(.pt 0 0,204):=by
     unfold G7;rw [hr,je rfl];unfold SA;rw [show BH (KO true (AA xs 0 n))=false from AcT hs _,jd jq]
    rw [ev];exact BL (Bs JV D0 func53 dj dj (AcL n m xs) dj (hW _ _ _ hr (AI 2 ⟨by rw [hs];rfl,trivial⟩))) fun _ _ q=>P_ q
   | true =>
    unfold G7;rw [hr,je rfl];unfold KO KN;have hs':(!YY (x2 2 (AA xs 0 n)))=false:=by rw [hs];rfl
    by_cases hb:(!(EG (mo (CD (x2 2 (AA xs 0 n))))==Al (AA xs 0 n) 32))=true
    ·simp only [je hb];exact AIQ hx (AHv _) (C:=fun r=>OZ n m xs false ((!(EG (mo (CD (x2 2 (AA xs 0 n))))==Al (AA xs 0 n) 32),true)::r)) (fun r hq=>hW _ _ _ hr (AI 2 ⟨hs',hb,hq⟩)) (AcM n m xs) (AcN n m xs) (AcO n m xs)
    ·simp only [jd hb];exact AIQ hx (AHu _) (C:=fun r=>OZ n m xs false ((!(EG (mo (CD (x2 2 (AA xs 0 n))))==Al (AA xs 0 n) 32),false)::r)) (fun r hq=>hW _ _ _ hr (AI 2 ⟨hs',by simpa using hb,hq⟩)) (AcP n m xs) (AcQ n m xs) (AcR n m xs)
  | false=>cases hs1
noncomputable def SQg:dr:=(29,Li fun s L=>FQ (E' s L))::(53,Li fun s L=>GV (G7 s L))::SQf
theorem AIS:AW dm SQg:=⟨OP func29 dj dj (fun _ _=>by kernel_rfl) fun _ _ _ hl hm hn=>AIP hl hm hn true rfl,OP func53 dj dj (fun _ _=>by kernel_rfl) fun _ _ _ hl hm hn=>AIR hl hm hn true rfl,JV⟩
noncomputable def SQs:dr:=(249,BF dm (AH SQ2 KQ) f249 300)::SQ2
theorem AIT:AW dm SQs:=⟨BK (AJ gK D0) AB func249 dj dj 300,gK⟩
noncomputable abbrev oQs:gr:=AH SQs KQ
theorem gQ:gp dm oQs:=AJ AIT D0
def e2 (a b:R gj):Bool:=dq a.1 b.1&&dq a.2 b.2
noncomputable def sC (x y x' y':R gj):R gj:=mu gj (su gj (re gj y') (re gj y)) (iv gj (su gj (re gj x') (re gj x)))
noncomputable def sT (x y:R gj):R gj:=mu gj (mu gj (kk 3) (mu gj (re gj x) (re gj x))) (iv gj (mu gj (kk 2) (re gj y)))
noncomputable def aX (l x x':R gj):R gj:=su gj (su gj (mu gj l l) x) x'
noncomputable def aY (l x y X:R gj):R gj:=su gj (mu gj l (su gj x X)) y
noncomputable def aP (l x y x':R gj):R P2:=(aX l x x',aY l x y (aX l x x'),false)
noncomputable def aL (l x y x':R gj):AV:=.val true (Bw (av (aX l x x')) (Bw (av (aY l x y (aX l x x'))) [.b false]))
section
variable (r s:R P2) (x y x' y':R gj)
theorem AcW:AM dm oQs f191 [va P2 r,va P2 s] du 300=some ([(r.2.2,true)],ve (mo s:P2)):=dj
theorem AcX:AM dm oQs f191 [va P2 r,va P2 s] dx 300=some ([(r.2.2,false),(s.2.2,true)],ve (mo r:P2)):=dj
theorem AcY:AM dm oQs f191 [va P2 (x,y,false),va P2 (x',y',false)] fb 300=some ([(false,false),(false,false),(e2 (re gj x) (re gj x'),false)],aL (sC x y x' y') x y x'):=dj
theorem AcZ:AM dm oQs f191 [va P2 (x,y,false),va P2 (x',y',false)] fi 300=some ([(false,false),(false,false),(e2 (re gj x) (re gj x'),true),(!e2 (re gj y) (re gj y'),true)],.val true (CW true)):=dj
theorem Aca:AM dm oQs f191 [va P2 (x,y,false),va P2 (x',y',false)] ff 300=some ([(false,false),(false,false),(e2 (re gj x) (re gj x'),true),(!e2 (re gj y) (re gj y'),false),(e2 (re gj y) (kk 0),true)],.val true (CW true)):=dj
theorem Acb:AM dm oQs f191 [va P2 (x,y,false),va P2 (x',y',false)] fe 300=some ([(false,false),(false,false),(e2 (re gj x) (re gj x'),true),(!e2 (re gj y) (re gj y'),false),(e2 (re gj y) (kk 0),false)],aL (sT x y) x y x'):=dj
end
theorem gR (a b:gj):e2 (en a) (en b)=decide (a=b):=by
 unfold e2;by_cases h:a=b
 ·subst h;rw [jc rfl];exact jo.2 ⟨jc rfl,jc rfl⟩
 ·rw [jg h];cases hq:(dq (en a:R gj).1 (en b:R gj).1&&dq (en a:R gj).2 (en b:R gj).2) with
  | false=>rfl
  | true =>
   obtain ⟨h1,h2⟩:=jo.1 hq;exact absurd (Qx.ext (Fin.ext (jx h1)) (Fin.ext (jx h2))) h
theorem AIU (l x y x':R gj):aP l x y x'=en (H6 (mo x:gj) (mo y) (mo x') (mo l)):=by
 unfold aP aY aX su mu;simp only [mo_en];rfl
theorem xP (x y x' y':R gj):(mo (sC x y x' y'):gj)=(mo y'-mo y)*FD.inv (mo x'-mo x):=by
 unfold sC mu su iv re;simp only [mo_en]
theorem Acc (y:gj):(1+1)*y=y+y:=ring [y] (a:=(1+1)*y) (b:=y+y) dj
theorem AIV (x y:R gj):(mo (sT x y):gj)=(mo x*mo x+mo x*mo x+mo x*mo x)*FD.inv (mo y+mo y):=by
 unfold sT mu iv re;simp only [mo_en,AH0,AH1,AH2,Acc];rfl
theorem kk0:kk 0=en (0:gj):=dj
theorem Acd (r s:R P2):AU dm 191 [va P2 r,va P2 s] (ve (Rg.add (mo r:P2) (mo s))):=by
 have h1:=AcW r s;have h2:=AcX r s;obtain ⟨x,y,i⟩:=r;obtain ⟨x',y',i'⟩:=s;cases i with
 | true=>exact AP gQ AB func191 h1 ⟨rfl,trivial⟩ rfl
 | false =>
  cases i' with
  | true=>exact AP gQ AB func191 h2 ⟨rfl,rfl,trivial⟩ rfl
  | false =>
   have rc:=AcY x y x' y';have rn:=AcZ x y x' y';have rz:=Aca x y x' y';have rt:=Acb x y x' y';have hE:∀ a b:R gj,e2 (re gj a) (re gj b)=decide ((mo a:gj)=mo b):=fun a b=>gR _ _
   have hK:∀ a:R gj,e2 (re gj a) (kk 0)=decide ((mo a:gj)=0):=fun a=>by rw [kk0];exact gR _ _
   simp only [hE,hK] at rc rn rz rt;have hs:∀ {p c} {l:R gj},AM dm oQs f191 [va P2 (x,y,false),va P2 (x',y',false)] p 300=some (c,aL l x y x')→AO c→AU dm 191 [va P2 (x,y,false),va P2 (x',y',false)] (ve (H6 (mo x:gj) (mo y) (mo x') (mo l))):=fun {_ _ l} h hc=>by
    unfold ve;rw [← AIU];exact E5 (α:=P2) (r:=aP l x y x') (AP gQ AB func191 h hc rfl) dj
   have hz:∀ {p c},AM dm oQs f191 [va P2 (x,y,false),va P2 (x',y',false)] p 300=some (c,.val true (CW true))→AO c→AU dm 191 [va P2 (x,y,false),va P2 (x',y',false)] (ve (.inf:P2)):=fun h hc=>E5 (α:=P2) (r:=(en (.inf:P2):R P2)) (AP gQ AB func191 h hc rfl) dj
   show AU _ _ _ (ve (Rg.add (.pt (mo x:gj) (mo y)) (.pt (mo x') (mo y'))));rw [LQ];by_cases hx:(mo x:gj)=mo x'
   ·rw [je hx];by_cases hy:(mo y:gj)=mo y'
    ·by_cases h0:(mo y:gj)=0
     ·rw [jd (fun h=>h.2 h0)]
      exact hz rz ⟨rfl,rfl,jc hx,by rw [jc hy];rfl,jc h0,trivial⟩
     ·rw [je ⟨hy,h0⟩];rw [← AIV];exact hs rt ⟨rfl,rfl,jc hx,by rw [jc hy];rfl,jg h0,trivial⟩
    ·rw [jd (fun h=>hy h.1)]
     exact hz rn ⟨rfl,rfl,jc hx,by rw [jg hy];rfl,trivial⟩
   ·rw [jd hx];rw [← xP];exact hs rc ⟨rfl,rfl,jg hx,trivial⟩
noncomputable def SQt:dr:=(191,Ac (DW P2 P2 fun r s=>ve (Rg.add (mo r:P2) (mo s))))::SQs
theorem AIX:AW dm SQt:=⟨Ad func191 dj dj (Dy Acd),AIT⟩
end Go.Proofs.YtgnajdcdcblaoaaGreat
namespace Go.Proofs.YtgnajdcdcblaoaaGreat.Rg
set_option synthInstance.maxSize 100000
set_option synthInstance.maxHeartbeats 400000
structure RH {F G:Type} [CR F] [CR G] (σ:F→G):Prop where
 add:∀ x y,σ (x+y)=σ x+σ y
 mul:∀ x y,σ (x*y)=σ x*σ y
 one:σ 1=1
section
variable {F:Type} [CR F] {β ξ:F}
theorem RH.zero {G:Type} [CR G] {σ:F→G} (h:RH σ):σ 0=0:=by
 have e:σ 0+σ 0=σ 0+0:=by rw [← h.add,zero_add,add_zero]
 exact uA e
theorem Qx.conj_rh:RH (Qx.conj:Qx β→Qx β) where
 add _ _:=Qx.ext rfl (Xw _ _)
 mul:=Qx.conj_mul
 one:=Qx.ext rfl HL
theorem Qx.conj_conj (x:Qx β):x.conj.conj=x:=Qx.ext rfl (neg_neg _)
def kM (σ:F→F) (g:F) (x:Kx ξ):Kx ξ:=⟨σ x.a,σ x.b*g,σ x.c*(g*g)⟩
theorem Ace {σ:F→F} {g:F} (h:RH σ) (hg:σ ξ=ξ*(g*(g*g))):RH (kM σ g:Kx ξ→Kx ξ) where
 add x y:=Kx.ext (h.add _ _) (by show σ (x.b+y.b)*g=_;rw [h.add,add_mul];rfl) (by show σ (x.c+y.c)*(g*g)=_;rw [h.add,add_mul];rfl)
 mul x y:=by
  refine Kx.ext ?_ ?_ ?_
  ·show σ (x.a*y.a+ξ*(x.b*y.c+x.c*y.b))=σ x.a*σ y.a+ξ*(σ x.b*g*(σ y.c*(g*g))+σ x.c*(g*g)*(σ y.b*g));simp only [h.add,h.mul,hg];exact ring [σ x.a,σ x.b,σ x.c,σ y.a,σ y.b,σ y.c,g,ξ] dj
  ·show σ (x.a*y.b+x.b*y.a+ξ*(x.c*y.c))*g=σ x.a*(σ y.b*g)+σ x.b*g*σ y.a+ξ*(σ x.c*(g*g)*(σ y.c*(g*g)));simp only [h.add,h.mul,hg];exact ring [σ x.a,σ x.b,σ x.c,σ y.a,σ y.b,σ y.c,g,ξ] dj
  ·show σ (x.a*y.c+x.b*y.b+x.c*y.a)*(g*g)=σ x.a*(σ y.c*(g*g))+σ x.b*g*(σ y.b*g)+σ x.c*(g*g)*σ y.a;simp only [h.add,h.mul];exact ring [σ x.a,σ x.b,σ x.c,σ y.a,σ y.b,σ y.c,g] dj
 one:=Kx.ext h.one (by show σ 0*g=0;rw [h.zero,zero_mul]) (by show σ 0*(g*g)=0;rw [h.zero,zero_mul])
def qM (σ:F→F) (g:F) (x:Qx β):Qx β:=⟨σ x.a,σ x.b*g⟩
theorem Acf {σ:F→F} {g:F} (h:RH σ) (hg:σ β=β*(g*g)):RH (qM σ g:Qx β→Qx β) where
 add x y:=Qx.ext (h.add _ _) (by show σ (x.b+y.b)*g=_;rw [h.add,add_mul];rfl)
 mul x y:=by
  refine Qx.ext ?_ ?_
  ·show σ (x.a*y.a+β*(x.b*y.b))=σ x.a*σ y.a+β*(σ x.b*g*(σ y.b*g));simp only [h.add,h.mul,hg];exact ring [σ x.a,σ x.b,σ y.a,σ y.b,g,β] dj
  ·show σ (x.a*y.b+x.b*y.a)*g=σ x.a*(σ y.b*g)+σ x.b*g*σ y.a;simp only [h.add,h.mul];exact ring [σ x.a,σ x.b,σ y.a,σ y.b,g] dj
 one:=Qx.ext h.one (by show σ 0*g=0;rw [h.zero,zero_mul])
end
structure MH {F:Type} [CR F] (φ:F→F):Prop where
 mul:∀ x y,φ (x*y)=φ x*φ y
 one:φ 1=1
section
variable {F:Type} [CR F] {φ ψ:F→F}
theorem RH.mh (h:RH φ):MH φ:=⟨h.mul,h.one⟩
theorem MH.comp (h:MH φ) (k:MH ψ):MH fun x=>φ (ψ x):=⟨fun x y=>by rw [k.mul,h.mul],by rw [k.one,h.one]⟩
theorem MH.prod (h:MH φ) (k:MH ψ):MH fun x=>φ x*ψ x:=⟨fun x y=>by
 show φ (x*y)*ψ (x*y)=φ x*ψ x*(φ y*ψ y);rw [k.mul,h.mul];exact ring [φ x,φ y,ψ x,ψ y] dj,by show φ 1*ψ 1=1;rw [k.one,h.one,mul_one]⟩
theorem xQ:∀ n:Nat,pw (1:F) n=1
 | 0=>rfl
 | n+1=>by show pw (1:F) n*1=1;rw [xQ n,mul_one]
theorem MH.pw (n:Nat):MH fun x:F=>Rg.pw x n:=⟨fun x y=>pw_mul x y n,xQ n⟩
end
section
variable {F:Type} [FD F]
open FD (inv)
theorem Acg (x y:F):inv (x*y)=inv x*inv y:=by
 by_cases hx:x=0
 ·rw [hx,zero_mul,FD.inv_zero,zero_mul]
 by_cases hy:y=0
 ·rw [hy,mul_zero,FD.inv_zero,mul_zero]
 ·refine JO (DK hx hy) ?_
  rw [FD.mul_inv _ (DK hx hy)];have h1:=FD.mul_inv x hx;have h2:=FD.mul_inv y hy;have e:x*y*(inv x*inv y)=(x*inv x)*(y*inv y):=ring [x,y,inv x,inv y] dj
  rw [e,h1,h2,mul_one]
theorem Ach:inv (1:F)=1:=by
 have:=FD.mul_inv (1:F) FD.one_ne
 rwa [one_mul] at this
theorem Aci:MH (inv:F→F):=⟨Acg,Ach⟩
end
def SM {F:Type} [FD F] (c f:F→F) (E X:Nat) (x:F):F :=
 let g:=c x*FD.inv x
 let h:=f (f g)*g
 let a:=pw h E
 let b:=c (pw a X)*f a
 pw (pw b X) X*f (f b)*c b*h
section
variable {F:Type} [FD F] {c f:F→F} (hc:MH c) (hf:MH f)
include hc hf
theorem AIY (E X:Nat):MH (SM c f E X):=by
 have g:MH fun x=>c x*FD.inv x:=hc.prod Aci
 have h:MH fun x=>f (f (c x*FD.inv x))*(c x*FD.inv x):=(hf.comp (hf.comp g)).prod g
 have a:MH fun x=>pw (f (f (c x*FD.inv x))*(c x*FD.inv x)) E:=(MH.pw E).comp h
 have b:=(hc.comp ((MH.pw X).comp a)).prod (hf.comp a)
 exact (((((MH.pw X).comp ((MH.pw X).comp b)).prod (hf.comp (hf.comp b))).prod (hc.comp b))).prod h
theorem Acj (h2:∀ x,c (c x)=x) (E X:Nat) {x:F} (hx:x≠0):SM c f E X x*SM c f E X (c x)=1:=by
 have m:=AIY hc hf E X;rw [← m.mul];have hx':c x≠0:=fun e=>by
  have h0:c x*c (FD.inv x)=1:=by rw [← hc.mul,FD.mul_inv x hx,hc.one]
  rw [e,zero_mul] at h0;exact FD.one_ne h0.symm
 have hn:x*c x≠0:=DK hx hx'
 have hcn:c (x*c x)=x*c x:=by rw [hc.mul,h2,mul_comm]
 have hg:c (x*c x)*FD.inv (x*c x)=1:=by rw [hcn,FD.mul_inv _ hn]
 unfold SM;simp only [hg,hf.one,hc.one,xQ,mul_one]
end
end Go.Proofs.YtgnajdcdcblaoaaGreat.Rg
namespace Go.Proofs.YtgnajdcdcblaoaaGreat.Rg
open Num (Prime BV)
section
variable {F:Type} [FD F] (C:Cv F)
theorem Ack {p:Pt F} (hp:On C.b p):add (neg p) p=.inf:=by rw [H8 C (H7 C hp) hp,X4 C hp]
theorem xR {a b c d:Pt F} (ha:On C.b a) (hb:On C.b b) (hc:On C.b c) (hd:On C.b d):add (add a b) (add c d)=add (add a c) (add b d):=by
 rw [J8 C ha hb (JP C hc hd),← J8 C hb hc hd,H8 C hb hc,J8 C hc hb hd,← J8 C ha hc (JP C hb hd)]
theorem Acl {p q:Pt F} (hp:On C.b p) (hq:On C.b q) (h:add p q=.inf):q=neg p:=by
 have:=Pr C hp hq
 rw [h,Pq] at this;exact this.symm
theorem AIZ {p q:Pt F} (hp:On C.b p) (hq:On C.b q):neg (add p q)=add (neg p) (neg q):=by
 refine (Acl C (JP C hp hq) (JP C (H7 C hp) (H7 C hq)) ?_).symm
 rw [xR C hp hq (H7 C hp) (H7 C hq),X4 C hp,X4 C hq];rfl
theorem gS {p q:Pt F} (hp:On C.b p) (hq:On C.b q):∀ n,smul n (add p q)=add (smul n p) (smul n q)
 | 0=>rfl
 | n+1=>by
  simp only [smul];rw [gS hp hq n,xR C (CH C hp n) (CH C hq n) hp hq]
theorem gT {p:Pt F} (hp:On C.b p) (m n:Nat):smul m (smul n p)=smul n (smul m p):=by rw [← JR C hp,← JR C hp,jy]
structure Sub (m:Nat) (S:List (Pt F)):Prop where
 on:∀ p∈S,On C.b p
 nd:S.Nodup
 len:S.length=m
 inf:Pt.inf∈S
 add:∀ p∈S,∀ q∈S,Rg.add p q∈S
 neg:∀ p∈S,Rg.neg p∈S
variable {C}
theorem Sub.triv:Sub C 1 [.inf] where
 on p hp:=by rcases lg.1 hp with rfl;trivial
 nd:=by simp
 len:=rfl
 inf:=by simp
 add p hp q hq:=by
  rcases lg.1 hp with rfl
  exact hq
 neg p hp:=by
  rcases lg.1 hp with rfl
  exact lg.2 rfl
theorem Sub.smul {m:Nat} {S:List (Pt F)} (h:Sub C m S) {p:Pt F} (hp:p∈S):∀ n,Rg.smul n p∈S
 | 0=>h.inf
 | n+1=>h.add _ (h.smul hp n) _ hp
theorem Sub.of_add {m:Nat} {S:List (Pt F)} (h:Sub C m S) {p q:Pt F} (hp:p∈S) (hq:On C.b q) (hs:Rg.add p q∈S):q∈S:=by
 have:=Pr C (h.on p hp) hq
 rw [← this];exact h.add _ (h.neg p hp) _ hs
theorem Sub.gcd {m:Nat} {S:List (Pt F)} (h:Sub C m S) {p:Pt F} (hp:On C.b p):∀ (a b:Nat),Rg.smul a p∈S→Rg.smul b p∈S→Rg.smul (Nat.gcd a b) p∈S:=by
 intro a b;induction a,b using Nat.gcd.induction with
 | H0 n=>intro _ h2;rwa [Nat.gcd_zero_left]
 | H1 a b ha ih =>
  intro h1 h2;rw [Nat.gcd_rec];refine ih ?_ h1
  have e:=md b a;rw [← e,JQ C hp,JR C hp] at h2;exact h.of_add (h.smul h1 _) (CH C hp _) h2
def JW (S:List (Pt F)) (H:Pt F):Nat→List (Pt F)
 | 0=>[]
 | j+1=>JW S H j++S.map fun s=>Rg.add s (Rg.smul j H)
theorem HW {S:List (Pt F)} {H x:Pt F}:∀ {t:Nat},x∈JW S H t↔∃ j,j<t∧∃ s∈S,Rg.add s (Rg.smul j H)=x
 | 0=>by simp [JW]
 | t+1=>by
  rw [JW,jp,HW,lv];constructor
  ·rintro (⟨j,hj,s,hs,e⟩ | ⟨s,hs,e⟩)
   ·exact ⟨j,dk,s,hs,e⟩
   ·exact ⟨t,dk,s,hs,e⟩
  ·rintro ⟨j,hj,s,hs,e⟩
   rcases jv j t with h | h
   ·exact .inl ⟨j,h,s,hs,e⟩
   ·have:j=t:=dk
    subst this;exact .inr ⟨s,hs,e⟩
theorem AIa (S:List (Pt F)) (H:Pt F):∀ t,(JW S H t).length=t*S.length
 | 0=>by simp [JW]
 | t+1=>by rw [JW,kc,lh,AIa S H t,qs]
theorem AIb {S:List (Pt F)} (hS:∀ p∈S,On C.b p) (hn:S.Nodup) {H:Pt F} (hH:On C.b H):(S.map fun s=>Rg.add s H).Nodup:=by
 induction S with
 | nil=>exact List.nodup_nil
 | cons a l ih =>
  obtain ⟨h1,h2⟩:=qp.1 hn;rw [lf,qp];refine ⟨fun hm=>?_,ih (fun p hp=>hS p (by simp [hp])) h2⟩
  obtain ⟨b,hb,e⟩:=lv.1 hm;have ha:=hS a (by simp)
  have hb':=hS b (by simp [hb])
  rw [H8 C hb' hH,H8 C ha hH] at e;exact h1 (uH C hH hb' ha e▸hb)
theorem Sub.cos_nd {m:Nat} {S:List (Pt F)} (h:Sub C m S) {H:Pt F} (hH:On C.b H):∀ {t:Nat},(∀ j,0<j→j<t→Rg.smul j H ∉ S)→(JW S H t).Nodup
 | 0,_=>List.nodup_nil
 | t+1,hm=>by
  rw [JW,List.nodup_append];refine ⟨h.cos_nd hH fun j h0 h1=>hm j h0 dk,AIb h.on h.nd (CH C hH _),fun x hx y hy e=>?_⟩
  subst e;obtain ⟨j,hj,s,hs,e1⟩:=HW.1 hx;obtain ⟨s',hs',e2⟩:=lv.1 hy;have hjH:=CH C hH j;have hdH:=CH C hH (t-j)
  have e3:Rg.smul t H=Rg.add (Rg.smul j H) (Rg.smul (t-j) H):=by rw [← JQ C hH];congr 1;omega
  rw [← e1,e3,← J8 C (h.on s' hs') hjH hdH,H8 C (h.on s' hs') hjH,J8 C hjH (h.on s' hs') hdH,H8 C (h.on s hs) hjH] at e2;have e4:=uH C hjH (JP C (h.on s' hs') hdH) (h.on s hs) e2
  exact hm (t-j) dk dk (h.of_add hs' hdH (e4▸hs))
theorem Sub.step {m:Nat} {S:List (Pt F)} (h:Sub C m S) {H:Pt F} (hH:On C.b H) {t:Nat} (ht:Rg.smul t H∈S) (h0:0<t) (hm:∀ j,0<j→j<t→Rg.smul j H ∉ S):Sub C (t*m) (JW S H t) where
 on p hp:=by
  obtain ⟨j,_,s,hs,rfl⟩:=HW.1 hp;exact JP C (h.on s hs) (CH C hH j)
 nd:=h.cos_nd hH hm
 len:=by rw [AIa,h.len]
 inf:=HW.2 ⟨0,h0,.inf,h.inf,rfl⟩
 add p hp q hq:=by
  obtain ⟨i,hi,s,hs,rfl⟩:=HW.1 hp;obtain ⟨j,hj,s',hs',rfl⟩:=HW.1 hq;have hss:=h.add s hs s' hs';rw [xR C (h.on s hs) (CH C hH i) (h.on s' hs') (CH C hH j),← JQ C hH];rcases jv (i+j) t with ik | hge
  ·exact HW.2 ⟨i+j,ik,_,hss,rfl⟩
  ·refine HW.2 ⟨i+j-t,dk,Rg.add (Rg.add s s') (Rg.smul t H),h.add _ hss _ ht,?_⟩
   rw [J8 C (h.on _ hss) (CH C hH t) (CH C hH _),← JQ C hH];congr 2;omega
 neg p hp:=by
  obtain ⟨i,hi,s,hs,rfl⟩:=HW.1 hp;rw [AIZ C (h.on s hs) (CH C hH i)];rcases lk i with rfl | ie
  ·exact HW.2 ⟨0,h0,_,h.neg s hs,rfl⟩
  ·refine HW.2 ⟨t-i,dk,Rg.add (Rg.neg s) (Rg.neg (Rg.smul t H)),h.add _ (h.neg s hs) _ (h.neg _ ht),?_⟩
   rw [J8 C (H7 C (h.on s hs)) (H7 C (CH C hH t)) (CH C hH _)];congr 1
   have e:Rg.smul t H=Rg.add (Rg.smul (t-i) H) (Rg.smul i H):=by rw [← JQ C hH];congr 1;omega
   have hd:=CH C hH (t-i)
   rw [e,AIZ C hd (CH C hH i),H8 C (H7 C hd) (H7 C (CH C hH i)),J8 C (H7 C (CH C hH i)) (H7 C hd) hd,Ack C hd,Pq]
theorem AIc {q:Nat} (hq:Prime q):∀ {l:List Nat},q∣BV l→∃ x∈l,q∣x
 | [],h=>by
  have:=l_ dl h
  have:=hq.1
  simp only [BV] at *;omega
 | x::l,h=>by
  rcases hq.dvd_mul h with h | h
  ·exact ⟨x,by simp,h⟩
  ·obtain ⟨y,hy,hd⟩:=AIc hq h;exact ⟨y,by simp [hy],hd⟩
theorem Acm {G:Pt F} (hG:On C.b G) {l:List Nat} (hl:∀ q∈l,Prime q) (h0:Rg.smul (BV l) G=.inf) (hq:∀ q∈l,Rg.smul (BV l / q) G≠.inf) (j:Nat) (hj:Rg.smul j G=.inf):BV l∣j:=by
 have T:Sub C 1 [(.inf:Pt F)]:=Sub.triv
 have hg:=T.gcd hG j (BV l) (by rw [hj];exact T.inf) (by rw [h0];exact T.inf)
 have hg:Rg.smul (Nat.gcd j (BV l)) G=.inf:=lg.1 hg
 obtain ⟨k,hk⟩:=Nat.gcd_dvd_right j (BV l)
 by_cases h1:k=1
 ·rw [h1,kb] at hk;rw [hk];exact Nat.gcd_dvd_left j _
 ·exfalso
  by_cases hk0:k=0
  ·rw [hk0,ll] at hk;have:∀ {l:List Nat},(∀ q∈l,Prime q)→0<BV l:=by
    intro l;induction l with
    | nil=>intro _;exact Nat.one_pos
    | cons x l ih=>intro h;exact Nat.mul_pos (by have:=(h x (by simp)).1;omega) (ih fun q hq=>h q (by simp [hq]))
   have:=this hl
   omega
  obtain ⟨q,hqp,hqk⟩:=Num.exists_prime_dvd k dk;have hqM:q∣BV l:=by rw [hk];exact Nat.dvd_mul_left_of_dvd hqk _
  obtain ⟨x,hx,hqx⟩:=AIc hqp hqM;have hqx':q=x:=by
   rcases (hl x hx).2 q hqx with e | e
   ·have:=hqp.1;omega
   ·exact e
  subst hqx';refine hq q hx ?_
  obtain ⟨c,hc⟩:=hqk;have e:BV l / q=Nat.gcd j (BV l)*c:=by
   have h2:=hqp.1;refine Nat.div_eq_of_eq_mul_right dk (hk.trans ?_)
   rw [hc,mj]
  rw [e,JR C hG,hg,HM]
theorem Sub.out {m:Nat} {S:List (Pt F)} (h:Sub C m S) {H:Pt F} (hH:On C.b H) {q:Nat} (hq:Prime q) (h0:Rg.smul q H=.inf) (hn:H ∉ S):Sub C (q*m) (JW S H q):=by
 refine h.step hH (by rw [h0];exact h.inf) (by have:=hq.1;omega) fun j h1 h2 hm=>hn ?_
 have hg:=h.gcd hH q j (by rw [h0];exact h.inf) hm
 have hc:Nat.gcd q j=1:=hq.coprime fun hd=>by have:=l_ h1 hd;omega
 rwa [hc] at hg
theorem Sub.all {m B:Nat} {S:List (Pt F)} (h:Sub C m S) (hB:∀ L:List (Pt F),L.Nodup→(∀ p∈L,On C.b p)→L.length≤B) (hm:B<m+m) {p:Pt F} (hp:On C.b p):p∈S:=by
 refine ui fun hn=>?_
 have hL:=hB (S++S.map fun s=>Rg.add s p) ?_ ?_
 ·rw [kc,lh,h.len] at hL;omega
 ·rw [List.nodup_append];refine ⟨h.nd,AIb h.on h.nd hp,fun x hx y hy e=>?_⟩
  subst e;obtain ⟨s,hs,e⟩:=lv.1 hy;exact hn (h.of_add hs hp (e▸hx))
 ·intro x hx;rcases jp.1 hx with hx | hx
  ·exact h.on x hx
  ·obtain ⟨s,hs,rfl⟩:=lv.1 hx;exact JP C (h.on s hs) hp
theorem Acn {l:List Nat} (hl:∀ q∈l,Prime q) {G H H':Pt F} {q q' B:Nat} (hG:On C.b G) (hH:On C.b H) (hH':On C.b H') (hq:Prime q) (hq':Prime q') (iq:q≠q') (hm:q∈l) (hm':q'∈l)
  (g0:Rg.smul (BV l) G=.inf) (g1:∀ x∈l,Rg.smul (BV l / x) G≠.inf) (h0:Rg.smul q H=.inf) (h0':Rg.smul q' H'=.inf)
  (h1:∀ i,i<q→Rg.smul i (Rg.smul (BV l / q) G)≠H) (h1':∀ i,i<q'→Rg.smul i (Rg.smul (BV l / q') G)≠H')
  (hB:∀ L:List (Pt F),L.Nodup→(∀ p∈L,On C.b p)→L.length≤B) (hb:B<q'*(q*BV l)+q'*(q*BV l)) {p:Pt F} (hp:On C.b p):∃ i j k,p=Rg.add (Rg.add (Rg.smul i G) (Rg.smul j H)) (Rg.smul k H'):=by
 have dv:∀ x∈l,∃ k,BV l=x*k:=by
  have:∀ {l:List Nat},∀ x∈l,x∣BV l:=by
   intro l;induction l with
   | nil=>intro x hx;cases hx
   | cons y l ih =>
    intro x hx;rcases ju.1 hx with rfl | hx
    ·exact Nat.dvd_mul_right _ _
    ·exact Nat.dvd_mul_left_of_dvd (ih x hx) _
  exact fun x hx=>this x hx
 have ord:=Acm hG hl g0 g1;have T:Sub C 1 [(.inf:Pt F)]:=Sub.triv
 have ie:0<BV l:=by
  refine rv fun e=>?_
  have h3:=g1 q hm;rw [e,Nat.zero_div] at h3;exact h3 rfl
 have S1:=T.step hG (t:=BV l) (by rw [g0];exact T.inf) ie fun j j0 j1 hj=>by
  have:=l_ j0 (ord j (lg.1 hj));omega
 rw [kb] at S1;have inS1:∀ {x:Pt F},x∈JW [.inf] G (BV l)→∃ i,x=Rg.smul i G:=by
  intro x hx;obtain ⟨i,_,s,hs,rfl⟩:=HW.1 hx;rcases lg.1 hs with rfl
  exact ⟨i,rfl⟩
 have out:∀ {x:Nat} {K:Pt F},x∈l→Rg.smul x K=.inf→(∀ i,i<x→Rg.smul i (Rg.smul (BV l / x) G)≠K)→K ∉ JW [.inf] G (BV l):=by
  intro x K hx hK h hin;obtain ⟨i,_,s,hs,e⟩:=HW.1 hin;rename_i hi;rcases lg.1 hs with rfl
  have e:K=Rg.smul i G:=e.symm
  have hx2:=(hl x hx).1
  obtain ⟨k,hk⟩:=dv x hx;have hd:BV l∣i*x:=ord _ (by rw [JR C hG,← e,hK])
  have hkx:BV l / x=k:=Nat.div_eq_of_eq_mul_right dk hk
  obtain ⟨c,hc⟩:=hd;have hic:i=k*c:=by
   refine Nat.eq_of_mul_eq_mul_left (show 0<x by omega) ?_
   rw [jy x i,hc,hk,kx]
  have hk0:0<k:=rv fun e=>by rw [e,ll] at hk;omega
  have hcx:c<x:=by
   refine Nat.lt_of_mul_lt_mul_left (a:=k) ?_
   rw [← hic,jy k x,← hk];exact hi
  refine h c hcx ?_
  rw [hkx,← JR C hG,← hic,e]
 have S2:=S1.out hH hq h0 (out hm h0 h1)
 have S3:=S2.out hH' hq' h0' fun hin=>by
  obtain ⟨j,_,s,hs,e⟩:=HW.1 hin;refine out hm' h0' h1' ?_
  have e2:Rg.smul q H'=Rg.smul q s:=by
   rw [← e,gS C (S1.on s hs) (CH C hH j),gT C hH,h0,HM,Pq]
  have hg:=S1.gcd hH' q q' (by rw [e2];exact S1.smul hs q) (by rw [h0'];exact S1.inf)
  have hc:Nat.gcd q q'=1:=hq.coprime fun hd=>by
   rcases hq'.2 q hd with e | e
   ·have:=hq.1;omega
   ·exact iq e
  rwa [hc] at hg
 have hin:=S3.all hB hb hp;obtain ⟨j',_,s',hs',rfl⟩:=HW.1 hin;obtain ⟨j,_,s,hs,rfl⟩:=HW.1 hs';obtain ⟨i,rfl⟩:=inS1 hs;exact ⟨i,j,j',rfl⟩
end
end Go.Proofs.YtgnajdcdcblaoaaGreat.Rg
namespace Go.Proofs.YtgnajdcdcblaoaaGreat
abbrev fq:Nat:=0x242f7fd3174c30564058aa1817124bdf9e35fcd8882607f0f52b92e68fc2fc9794736c947ce2977d47fd11494865d54177840aa2a7660d227a1f89c6d79d62873b5197d4f43e0922476e59b4c8906fa3b229b121cb6487be3754c31c1062f
abbrev ft:Nat:=0x2c893adc6b7176918a45bda77edb711338dffc1e3169e263a3e6dc2f75dc4a932cdcd467fc2a93105899ede40a55f2c6ba7b20c8307d9a030c7595e1095f3e304901f5f267aed02a3087d0de80b1c47ab3e48b3d4919449b57cac8c0142b
abbrev fu:Nat:=0x192c2c6652fd594721a1da80100cba58c71a6d1c3230b79c7e080d25f4b42a26aa0d832fa4ca2699ef4bdf80e4735cb31b7d3f0cfa0435a8adffadc1fa2ab3d8824f0572c02b27becd846aed11169071e01d00c9989efa418aaa44f221a9
abbrev fw:Nat:=0x36a1bb9b5c4317a0825ce90614adb17d650043b4efe6617ae349ce98036a22accce076a339ab671eb6da73bd9ea785570b7103212a06aec52dc319ccfef25527e30a6d03fcf8088181a43e96d6ac34acc96c24cfa906bec9506c581c07
abbrev f_:Nat:=0xc665fc2b138ed6b10ac97ec53b9150280e01b04be7e28755a132c1b5976b608fad2557b6c5a697f60fea18a8431e34293244609b0c3af6e86c1aae5aac1878433c47df616e9ee5af28c3b449166ee4004da6f8b13c62f129996d87adf
abbrev ga:Nat:=0x90c899fda4848e0e68f0d8042e979918ef6b7c817f142e7e3c6d389a24561bacd8b691b11f43682500aa1199eb9d56cbf980b0b78f09ee8420ab8babd94bb46863ebb0d704b7bcfe3557cf018b9eb86ecac41e64676cb22eea42b4d3
abbrev gb:Nat:=0x4168ee1e1b7bf8c809fc4eb22e66f9b224e8b8370be312e39f7a982e7cd0e3a03b733c6054fdf
abbrev gc:Nat:=0x4fe83901ee48583e221a912f8b0ea9acd1dda8f38894b1ccfa8c6f0be60505f97ae9d5cba52a1c3527924f4356d391730e11c9fa753f2ada47b7b31c1062f
open Ex Num Rg
open Sh (R av rd mo en mo_en)
set_option maxRecDepth 100000
set_option maxHeartbeats 4000000
section
variable {F:Type} [Sh F] [FD F]
noncomputable def FR (fc:R (J F)→(R (J F)→Bool)→Bool) (k:R (J F)→Bool) (a b:F) (N:Nat) (i:Nat):R (J F)→Bool :=
 Nat.rec k (fun i ih r=>fc (en (B0 (mo r:J F))) fun s=>cond (Nat.beq (N / 2^i % 2) 1) (fc (en (F9 (mo s:J F) a b)) ih) (ih s)) i
theorem Aco (C:Cv F) {fc:R (J F)→(R (J F)→Bool)→Bool} {k:R (J F)→Bool} {a b:F} {N:Nat} (hfc:∀ r k,fc r k=k r) (hP:On C.b (.pt a b)) :
  ∀ (i:Nat) (r:R (J F)),CI (mo r:J F)=smul (N / 2^i) (.pt a b)→FR fc k a b N i r=true→∃ s:R (J F),CI (mo s:J F)=smul N (.pt a b)∧k s=true:=by
 intro i;induction i with
 | zero =>
  intro r hr h;rw [kf,ko] at hr;exact ⟨r,hr,h⟩
 | succ i ih =>
  intro r hr h;have h':fc (en (B0 (mo r:J F))) (fun s=>cond (Nat.beq (N / 2^i % 2) 1) (fc (en (F9 (mo s:J F) a b)) (FR fc k a b N i)) (FR fc k a b N i s))=true:=h
  rw [hfc,hfc] at h';have hdiv:N / 2^i=2*(N / 2^(i+1))+N / 2^i % 2:=by
   rw [kt,← kw];omega
  have hoj:On C.b (CI (mo r:J F)):=by rw [hr];exact CH C hP _
  have htw:CI (B0 (mo r:J F))=smul (2*(N / 2^(i+1))) (.pt a b):=by
   rw [Rs C hoj,hr,← JQ C hP,qf]
  have htw':CI (mo (en (B0 (mo r:J F)):R (J F)):J F)=smul (2*(N / 2^(i+1))) (.pt a b):=by rw [mo_en];exact htw
  cases hb:Nat.beq (N / 2^i % 2) 1 with
  | true =>
   rw [hb] at h';have h1:=mn hb;refine ih _ ?_ h'
   rw [mo_en,Uq C (by rw [htw'];exact CH C hP _),htw']
   rw [hdiv,h1];rfl
  | false =>
   rw [hb] at h';have h1:N / 2^i % 2=0:=by
    have:=Nat.ne_of_beq_eq_false hb
    omega
   refine ih _ ?_ h'
   rw [htw',hdiv,h1];rfl
end
noncomputable section
def xS (a b:Nat):Bool:=!(Nat.beq (a % pN) 0&&Nat.beq (b % pN) 0)
def YZ (r:R gj):Bool:=xS r.1 r.2
theorem AId {a:Nat} (h:tf a=0):Nat.beq (a % pN) 0=true:=by
 rw [← tf_zero,Rk] at h;rw [h,oz];rfl
theorem gU {r:R gj} (h:YZ r=true):(mo r:gj)≠0:=fun e=>by
 have h1:=AId (a:=r.1) (jl Qx.a e)
 have h2:=AId (a:=r.2) (jl Qx.b e)
 have h':xS r.1 r.2=true:=h
 unfold xS at h';rw [h1,h2] at h';cases h'
def dX (a:gj) (r:R (J gj)):R gj:=en ((mo r:J gj).x-a*((mo r:J gj).z*(mo r:J gj).z))
def dY (b:gj) (r:R (J gj)):R gj:=en ((mo r:J gj).y-b*((mo r:J gj).z*(mo r:J gj).z*(mo r:J gj).z))
def Yg (r:R (J gj)):Bool:=YJ r.2.2
def Oi (r:R (J gj)):Bool:=YZ r.2.2
def Yi (a b:gj) (r:R (J gj)):Bool:=YZ r.2.2&&(YJ (dX a r)&&YJ (dY b r))
def gV (a b:gj) (r:R (J gj)):Bool:=YZ (dX a r)||(YZ (dY b r)||YJ r.2.2)
theorem Acp {r:R (J gj)} (h:Yg r=true):CI (mo r:J gj)=.inf:=G1 (fI r.2.2 h)
theorem Acq {r:R (J gj)} (h:Oi r=true):CI (mo r:J gj)≠.inf:=by
 rw [Ig (gU h)];exact fun e=>by cases e
theorem Acr {a b:gj} {r:R (J gj)} (h:Yi a b r=true):CI (mo r:J gj)=.pt a b:=by
 unfold Yi at h;simp only [jm] at h;obtain ⟨h1,h2,h3⟩:=h;have hz:(mo r:J gj).z≠0:=gU h1
 have hi:=FD.mul_inv _ hz;have hx:=fI _ h2;have hy:=fI _ h3;unfold dX at hx;unfold dY at hy;rw [mo_en,AZ] at hx hy;rw [Ig hz,hx,hy];generalize (mo r:J gj).z=z at *
 generalize FD.inv z=i at *
 congr 1
 ·calc a*(z*z)*(i*i)=a*((z*i)*(z*i)):=ring [a,z,i] dj
   _=a:=by rw [hi,Rg.mul_one,Rg.mul_one]
 ·calc b*(z*z*z)*(i*i*i)=b*((z*i)*(z*i)*(z*i)):=ring [b,z,i] dj
   _=b:=by rw [hi,Rg.mul_one,Rg.mul_one,Rg.mul_one]
theorem Acs {a b:gj} {r:R (J gj)} (h:gV a b r=true):CI (mo r:J gj)≠.pt a b:=fun e=>by
 by_cases hz:(mo r:J gj).z=0
 ·rw [G1 hz] at e;cases e
 ·rw [Ig hz] at e;injection e with e1 e2;have hi:=FD.mul_inv _ hz;have hx:(mo r:J gj).x-a*((mo r:J gj).z*(mo r:J gj).z)=0:=by
   rw [AZ,← e1];generalize (mo r:J gj).z=z at *
   generalize FD.inv z=i at *
   calc (mo r:J gj).x=(mo r:J gj).x*((z*i)*(z*i)):=by rw [hi,Rg.mul_one,Rg.mul_one]
    _=_:=ring [(mo r:J gj).x,z,i] dj
  have hy:(mo r:J gj).y-b*((mo r:J gj).z*(mo r:J gj).z*(mo r:J gj).z)=0:=by
   rw [AZ,← e2];generalize (mo r:J gj).z=z at *
   generalize FD.inv z=i at *
   calc (mo r:J gj).y=(mo r:J gj).y*((z*i)*(z*i)*(z*i)):=by rw [hi,Rg.mul_one,Rg.mul_one,Rg.mul_one]
    _=_:=ring [(mo r:J gj).y,z,i] dj
  unfold gV at h;simp only [rx] at h;rcases h with h | h | h
  ·exact gU h (by unfold dX;rw [mo_en];exact hx)
  ·exact gU h (by unfold dY;rw [mo_en];exact hy)
  ·exact hz (fI r.2.2 h)
def z0:R (J gj):=en (⟨0,0,0⟩:J gj)
theorem at_ {a b:gj} (hP:On C2.b (.pt a b)) {k:R (J gj)→Bool} {N i:Nat} (h0:N / 2^i=0) (h:FR Fs k a b N i z0=true):∃ s:R (J gj),CI (mo s:J gj)=smul N (.pt a b)∧k s=true :=
 Aco C2 AYW hP i z0 (by unfold z0;rw [mo_en,h0,G1 rfl];rfl) h
theorem xU {a b:gj} (hP:On C2.b (.pt a b)) {N i:Nat} (h0:N / 2^i=0) (h:FR Fs Yg a b N i z0=true):smul N (.pt a b)=.inf:=by
 obtain ⟨s,h1,h2⟩:=at_ hP h0 h;rw [← h1];exact Acp h2
theorem SO {a b:gj} (hP:On C2.b (.pt a b)) {N i:Nat} (h0:N / 2^i=0) (h:FR Fs Oi a b N i z0=true):smul N (.pt a b)≠.inf:=by
 obtain ⟨s,h1,h2⟩:=at_ hP h0 h;rw [← h1];exact Acq h2
theorem AIe {a b c d:gj} (hP:On C2.b (.pt a b)) {N i:Nat} (h0:N / 2^i=0) (h:FR Fs (Yi c d) a b N i z0=true):smul N (.pt a b)=.pt c d:=by
 obtain ⟨s,h1,h2⟩:=at_ hP h0 h;rw [← h1];exact Acr h2
def gW (a b c d:gj) (n:Nat):Bool:=Nat.rec true (fun i ih=>FR Fs (gV c d) a b i 5 z0&&ih) n
theorem xV {a b c d:gj} (hP:On C2.b (.pt a b)):∀ n,n≤32→gW a b c d n=true→∀ i,i<n→smul i (.pt a b)≠.pt c d
 | 0,_,_,i,hi=>dk
 | n+1,hn,h,i,hi=>by
  have h':(FR Fs (gV c d) a b n 5 z0&&gW a b c d n)=true:=h
  obtain ⟨h1,h2⟩:=jo.1 h';rcases jv i n with ik | hge
  ·exact xV hP n dk h2 i ik
  ·have:i=n:=dk
   subst this;obtain ⟨s,q1,q2⟩:=at_ hP (lm dk) h1
   rw [← q1];exact Acs q2
theorem Acu {L:List Nat} {n:Nat} (hn:L.Nodup) (hb:∀ x∈L,x<n):L.length≤n:=by
 refine ui fun h=>?_
 have hp:=rI (m:=List.range n) hn (fun x hx=>lz.2 (hb x hx)) (by rw [ow];omega)
 have:=hp.length_eq
 rw [ow] at this;omega
def Oj:Pt gj→Nat
 | .inf=>0
 | .pt x y=>1+2*(x.a.val*pN+x.b.val)+(match C8 y with | true=>1 | false=>0)
theorem Acv (p:Pt gj):Oj p<1+2*(pN*pN):=by
 cases p with
 | inf=>simp only [Oj];omega
 | pt x y =>
  have h1:=x.a.isLt;have h2:=x.b.isLt;have h3:(x.a.val+1)*pN≤pN*pN:=me _ h1
  rw [qs] at h3;have h4:(match C8 y with | true=>1 | false=>0)≤1:=by cases C8 y<;>simp
  simp only [Oj];generalize pN*pN=q at *
  generalize x.a.val*pN=u at *
  omega
theorem Acw {p q:Pt gj} (hp:On C2.b p) (hq:On C2.b q) (h:Oj p=Oj q):p=q:=by
 have bt:∀ b:Bool,(match b with | true=>1 | false=>0:Nat)≤1:=fun b=>by cases b<;>simp
 cases p with
 | inf=>cases q with
  | inf=>rfl
  | pt x y=>simp only [Oj] at h;omega
 | pt x y=>cases q with
  | inf=>simp only [Oj] at h;omega
  | pt x' y' =>
   simp only [Oj] at h;have b1:=bt (C8 y)
   have b2:=bt (C8 y')
   have e1:x.a.val*pN+x.b.val=x'.a.val*pN+x'.b.val:=by
    generalize x.a.val*pN+x.b.val=u at *
    generalize x'.a.val*pN+x'.b.val=v at *
    omega
   have e2:(match C8 y with | true=>1 | false=>0:Nat)=(match C8 y' with | true=>1 | false=>0):=by
    rw [e1] at h;generalize x'.a.val*pN+x'.b.val=v at *
    omega
   have e3:C8 y=C8 y':=by
    cases h1:C8 y<;>cases h2:C8 y'<;>rw [h1,h2] at e2<;>first | rfl | cases e2
   have l1:=x.b.isLt;have l2:=x'.b.isLt;have m1:x.b.val=x'.b.val:=by
    have:=jl (· % pN) e1
    simp only [jy _ pN,Nat.mul_add_mod] at this
    rwa [jk l1,jk l2] at this
   have m2:x.a.val=x'.a.val:=by
    rw [m1] at e1;exact Nat.eq_of_mul_eq_mul_right DB (Nat.add_right_cancel e1)
   have ex:x=x':=Qx.ext (Fin.ext m2) (Fin.ext m1)
   subst ex;have hy:y*y=y'*y':=Eq.trans hp hq.symm
   rcases AGb hy with e | e
   ·rw [e]
   ·exfalso
    have hy0:=C2.no2 _ _ hq;rw [e,eO hy0] at e3;cases h1:C8 y'<;>rw [h1] at e3<;>cases e3
theorem Acx (L:List (Pt gj)) (hn:L.Nodup) (hL:∀ p∈L,On C2.b p):L.length≤1+2*(pN*pN):=by
 have hmap:(L.map Oj).Nodup:=by
  induction L with
  | nil=>exact List.nodup_nil
  | cons a l ih =>
   obtain ⟨h1,h2⟩:=qp.1 hn;rw [lf,qp];refine ⟨fun hm=>?_,ih h2 fun p hp=>hL p (by simp [hp])⟩
   obtain ⟨b,hb,e⟩:=lv.1 hm;exact h1 (Acw (hL b (by simp [hb])) (hL a (by simp)) e▸hb)
 have:=Acu hmap (n:=1+2*(pN*pN)) fun x hx=>by
  obtain ⟨p,_,rfl⟩:=lv.1 hx;exact Acv p
 rwa [lh] at this
noncomputable def G8:gj:=⟨tf 0x0,tf 0x1⟩
noncomputable def G9:gj:=⟨tf 0x6af0e0437ff400b6831e36d6bd17ffe48395dabc2d3435e77f76e17009241c5ee67992f72ec05f4c81084fbede3cc09,tf 0x5f3e7dd918226781285fd6dffd72cdc8bcb3281ab0b48a3ff4a885bf4fa30d253753470588fee2161cd710c36544690⟩
noncomputable def Yj:gj:=⟨tf 0x16dc1d49fd9ec2103e990636ba57f6d0c38a01304e503c8b821d3efdb7adc74a6ba456c7600e1affdd68171b52c0c8b5,tf 0x14917c708fd82299f81041e8de947a2219854970c5548e585afd3b0d378f98b781e8be39905e6f1c7a27f4c37a735e45⟩
noncomputable def kAy:gj:=⟨tf 0x8497007e8deb16aab414b87573ee6da6f68f597136318517797bfb6c0d868c851000f6a64d37ecb23963b5fe1859f40,tf 0x11e26d6c2667fd72cf134f14a574e4b2c0a25a871faaa198ef07cd31d988b49bc5d27abb97d188ad016db3e83018fadb⟩
noncomputable def SS:gj:=⟨tf 0x9d9acc6dfec295b33b81207e234d0806642df2fc6b3dce14c0c3ecc7380a280338c1b757d0411eaec597b1f6547a4fe,tf 0x150a3bc83828ad1e76601cd7f02dd2b6cf3d796cb9d253fb4890132f540cd4e032b00cb52033eb04480ae31d5cb2b534⟩
noncomputable def Sz:gj:=⟨tf 0x1153708c1b38b0ed0c19f99e54e66a08ce2464341c2813082874352ff354bb3e9e63595ed626ca3d6bc42f327f7b92d3,tf 0xc4ccc8d72ace767a08577447b4f264007c174321f1b147e75218e324b91f77b2fe61b875c22542c3a64244688c4f396⟩
noncomputable def Yk:gj:=⟨tf 0x342aae9a96630c3a3a2dbb689674838fc60d6a0958db27be0c97c2f080de0f11e5308aa65fbdf3dec8c208ad0046bfb,tf 0xc7e26dc22341cc760be50271ac2ca0e37845bdc706e7c77d5a249dbc44696154785543c8e2fdf3b123a802b782c563⟩
noncomputable def kBy:gj:=⟨tf 0x84232304c63a9419c60d333bae0b8311518e31293a0ea28a642e32ac6c8aed4aa814c862b5e675aa776ea3559dc7b1e,tf 0x7771b4d84f6884e18f31cbf206e793f6280865fc164ec15c16df78b37d890dad91c8ec4680034636de506c3960d2404⟩
noncomputable def S_:gj:=⟨tf 0x2339297a6745ca7960cf16ef9e23e6cd1de431ecf24b700ffe561f7c463976c71f13b942cbe7a0bc2666e7eb95f7765,tf 0xc3eb269a284a558d283910d71842fec9634f722ce231b733049a79902ab70475f2666c0ed0f0401b26f7226032d3b6c⟩
noncomputable def S':gj:=⟨tf 0x1518c6ad5cb4a2974b0800c52671b94dbac07227ddc1201f5f214f4c091079b71c093efa238cae49e7148ce7a769b765,tf 0xc9a15dc3c730442114fda98be390d0052a3b68bba7830c1852718e2675f957619e5f0e1b66e353aa12364baee2044fd⟩
def Iq:List Nat:=[13,23,2713,11953,262069,402096035359507321594726366720466575392706800671181159425656785868777272553337714697862511267018014931937703598282857976535744623203249,52435875175126190479447740508185965837690552500527637822603658699938581184513]
theorem xW:∀ q∈Iq,Prime q:=by
 intro q hq;simp only [Iq,ju,List.not_mem_nil,or_false] at hq;rcases hq with rfl | rfl | rfl | rfl | rfl | rfl | rfl
 ·exact Hw (f:=5) dj
 ·exact Hw (f:=5) dj
 ·exact Hw (f:=60) dj
 ·exact Hw (f:=120) dj
 ·exact Hw (f:=520) dj
 ·exact prT
 ·exact prR
theorem AIf:∃ n,n=fq:=⟨_,rfl⟩
def oN:Nat:=Classical.choose AIf
theorem Yl:oN=fq:=kq AIf
theorem Lm:BV Iq=fq:=dj
theorem Ir:On C2.b (.pt G8 G9):=(LU _).1 (by kernel_rfl:BH (.pt G8 G9)=true)
theorem Acy:On C2.b (.pt Yj kAy):=(LU _).1 (by kernel_rfl:BH (.pt Yj kAy)=true)
theorem VH:On C2.b (.pt SS Sz):=(LU _).1 (by kernel_rfl:BH (.pt SS Sz)=true)
theorem Acz:On C2.b (.pt Yk kBy):=(LU _).1 (by kernel_rfl:BH (.pt Yk kBy)=true)
theorem Ym:On C2.b (.pt S_ S'):=(LU _).1 (by kernel_rfl:BH (.pt S_ S')=true)
theorem Ac0:FR Fs Yg G8 G9 fq 754 z0=true:=dj
theorem Ac1:FR Fs Oi G8 G9 ft 750 z0=true:=dj
theorem Ac2:FR Fs Oi G8 G9 fu 749 z0=true:=dj
theorem Ac3:FR Fs Oi G8 G9 fw 742 z0=true:=dj
theorem Ac4:FR Fs Oi G8 G9 f_ 740 z0=true:=dj
theorem Ac5:FR Fs Oi G8 G9 ga 736 z0=true:=dj
theorem Ac6:FR Fs Oi G8 G9 gb 307 z0=true:=dj
theorem Ac7:FR Fs Oi G8 G9 gc 499 z0=true:=dj
theorem Ac8:FR Fs (Yi Yj kAy) G8 G9 ft 750 z0=true:=dj
theorem Ac9:FR Fs (Yi Yk kBy) G8 G9 fu 749 z0=true:=dj
theorem Ac_:FR Fs Yg SS Sz 13 4 z0=true:=dj
theorem Ac':FR Fs Yg S_ S' 23 5 z0=true:=dj
theorem AdA:gW Yj kAy SS Sz 13=true:=dj
theorem AdB:gW Yk kBy S_ S' 23=true:=dj
theorem KT {N i:Nat} (h:Nat.beq (N / 2^i) 0=true):N / 2^i=0:=mn h
theorem Ok {m q k:Nat} (h:BV Iq=m) (e:Nat.beq (m / q) k=true):BV Iq / q=k:=by rw [h];exact mn e
theorem AIg:smul oN (.pt G8 G9)=.inf:=by rw [Yl];exact xU Ir (KT dj) Ac0
theorem AIh:smul 13 (.pt SS Sz)=.inf:=xU VH (KT dj) Ac_
theorem AIi:smul 23 (.pt S_ S')=.inf:=xU Ym (KT dj) Ac'
theorem AdC:∀ x∈Iq,smul (BV Iq / x) (.pt G8 G9)≠.inf:=by
 intro x hx;have hx':=hx;simp only [Iq,ju,List.not_mem_nil,or_false] at hx';rcases hx' with rfl | rfl | rfl | rfl | rfl | rfl | rfl
 ·rw [Ok Lm (k:=ft) dj];exact SO Ir (KT dj) Ac1
 ·rw [Ok Lm (k:=fu) dj];exact SO Ir (KT dj) Ac2
 ·rw [Ok Lm (k:=fw) dj];exact SO Ir (KT dj) Ac3
 ·rw [Ok Lm (k:=f_) dj];exact SO Ir (KT dj) Ac4
 ·rw [Ok Lm (k:=ga) dj];exact SO Ir (KT dj) Ac5
 ·rw [Ok Lm (k:=gb) dj];exact SO Ir (KT dj) Ac6
 ·rw [Ok Lm (k:=gc) dj];exact SO Ir (KT dj) Ac7
theorem AdD {p:P2} (hp:On C2.b p):∃ i j k,p=Rg.add (Rg.add (smul i (.pt G8 G9)) (smul j (.pt SS Sz))) (smul k (.pt S_ S')):=by
 have hk:smul (BV Iq / 13) (.pt G8 G9)=.pt Yj kAy:=by rw [Ok Lm (k:=ft) dj];exact AIe Ir (KT dj) Ac8
 have hk':smul (BV Iq / 23) (.pt G8 G9)=.pt Yk kBy:=by rw [Ok Lm (k:=fu) dj];exact AIe Ir (KT dj) Ac9
 exact Acn (C:=C2) xW (q:=13) (q':=23) (B:=1+2*(pN*pN)) Ir VH Ym (xW 13 (by simp [Iq])) (xW 23 (by simp [Iq])) dl (by simp [Iq]) (by simp [Iq])
  (by rw [Lm,← Yl];exact AIg) AdC AIh AIi
  (fun i hi=>by rw [hk];exact xV Acy 13 dl AdA i hi) (fun i hi=>by rw [hk'];exact xV Acz 23 dl AdB i hi) Acx (by rw [Lm];exact Bf.1 dj) hp
theorem AdE:oN=13*(oN / 13):=by rw [Yl]<;>kernel_rfl
theorem AdF:oN=23*(oN / 23):=by rw [Yl]<;>kernel_rfl
theorem AdG {p:P2} (hp:On C2.b p):smul oN p=.inf:=by
 obtain ⟨i,j,k,rfl⟩:=AdD hp;have hj:smul oN (.pt SS Sz)=.inf:=by rw [AdE,JR C2 VH,AIh,HM]
 have hk:smul oN (.pt S_ S')=.inf:=by rw [AdF,JR C2 Ym,AIi,HM]
 rw [gS C2 (JP C2 (CH C2 Ir i) (CH C2 VH j)) (CH C2 Ym k),gS C2 (CH C2 Ir i) (CH C2 VH j),gT C2 Ir,AIg,HM,gT C2 VH,hj,HM,gT C2 Ym,hk,HM];rfl
end
open Ex
theorem AdH (w:World):Calls dm 42 #[.nilIface] w fun e w'=>e=.returned (.int .i64 0)∧w'=w:=by
 go_enter func42,Tryz.ntmps42
 go_wp2
 exact ⟨rfl,_,results_tmp rfl _ _ _,rfl,rfl⟩
theorem AdI (w:World):Calls dm 42 #[.iface 31 (.int .i64 210)] w fun e w'=>e=.returned (.int .i64 210)∧w'=w:=by
 have hta:∀ (T:TypeId) (w:World),(Instr.typeAssert (.iface 31 (.int .i64 210)) T 31 true).run dm w=.ok (.tuple #[.int .i64 210,.bool true]) w:=fun T w=>by
  simp [Instr.typeAssert,go_sem]
 have hnot:∀ (x:Bool) (w:World),(Op.unary .not (.bool x)).run dm w=.ok (.bool (!x)) w:=fun _ _=>rfl
 go_enter func42,Tryz.ntmps42
 go_wp2
 exact ⟨rfl,_,results_tmp rfl _ _ _,rfl,rfl⟩
theorem AdJ (p q:Value) (w:World):CallsD dm 41 #[p,q] .returning w fun e u' w'=>e=.returned (.tuple #[])∧u'=.returning∧w'=w:=by
 refine callsD_of_wpS func41 rfl fun c₀ cs hu=>?_
 apply wpS_seq
 apply wpS_region
 simp [wpOpsS,go_sem,recoverD,hu,Tryz.ntmps41,Exit.thenS]
 refine (AdH w).mono ?_
 rintro e w' ⟨rfl,rfl⟩
 show Code.wpS dm _ _ _ _ _;apply wpS_seq
 apply wpS_region
 simp [wpOpsS,go_sem,Exit.thenS]
 refine wpS_cond (t:=false) (by simp [Act.eval,Array.replicate]) ?_
 simp only [Bool.false_eq_true,if_false];refine wpS_of_wp (wp_skip ?_)
 cases c₀
 simp_all [bodyPostS,results,Tryz.results41]
theorem AdK (p q:Addr) (x y:Value) (w:World) (hp:w.cell? p=some x) (hfp:w.frozen? p=false) (hq:w.cell? q=some y) (hfq:w.frozen? q=false) (iq:p.block≠q.block) :
  CallsD dm 41 #[.pointer (some p),.pointer (some q)] (.panicking [{ v:=.iface 31 (.int .i64 210),recovered:=false }]) w fun e u' w' =>
   e=.returned (.tuple #[])∧u'=.panicking [{ v:=.iface 31 (.int .i64 210),recovered:=true }]∧w'=(w.setCell p (.slice none 0 0)).setCell q (.int .i64 210):=by
 refine callsD_of_wpS func41 rfl fun c₀ cs hu=>?_
 apply wpS_seq
 apply wpS_region
 simp [wpOpsS,go_sem,recoverD,hu,Tryz.ntmps41,Exit.thenS]
 refine (AdI w).mono ?_
 rintro e w' ⟨rfl,rfl⟩
 show Code.wpS dm _ _ _ _ _;apply wpS_seq
 apply wpS_region
 simp [wpOpsS,go_sem,Exit.thenS]
 refine wpS_cond (t:=true) (by simp [Act.eval,Array.replicate]) ?_
 simp only [if_true];apply wpS_region
 have e1:(w'.setCell p (.slice none 0 0)).cell? q=some y:=by rw [World.cell?_setCell_other (h:=fun h=>iq (jl Addr.block h))];exact hq
 have e2:(w'.setCell p (.slice none 0 0)).frozen? q=false:=by rw [World.frozen?_setCell];exact hfq
 simp [wpOpsS,go_sem,hp,hfp,e1,e2,bodyPostS,results,Tryz.results41]
open Ex Num Rg
open Sh (R av rd mo en mo_en)
def KV:List (TypeId×List (Option IntKind)):=(60,List.replicate 4 (some .u64))::KQ
theorem BS:MT dm KV:=⟨⟨dj,dj,dj⟩,D0⟩
def QD (x:Nat):AV:=.val true [.num 4 x]
def Yn (x:Nat):dn:=(List.range 4).map (AF x)++[]
def R4:Nat:=115792089237316195423570985008687907853269984665640564039457584007913129639936
theorem xX:R4=2^(64*4):=dl
theorem AdL:Nat.blt rQ R4=true:=dj
theorem AIj:rN<R4:=by rw [rN_eq];exact Bf.1 AdL
theorem AIk:0<rN:=by rw [rN_eq];exact Bf.1 dj
theorem AdM (x:Nat):x % rN<R4:=mv (jw _ AIk) AIj
def wd4 (l:dn):dn:=(wl 5 (AK l % AK (AA RL 0 4))).take 4
theorem AdN (gu n m:Nat) (xs:dn):AT dm oJn f90 300 1 [] (Aj f90 [AR 0 gu n m] (BG xs) 1 []) =
 some ([(Nat.ble (gu+n) xs.length,true),(AL .i64 n,true),(true,true),(true,true),(true,true),(true,true),(false,false),(true,true)],[],.val true [.seq .u64 (wd4 (AA xs gu n))],[]):=dj
theorem AdO {gu n m:Nat} {xs:dn} (hl:gu+n≤xs.length) (hn:n≤1125899906842624):Ab dm 90 [AR 0 gu n m] (BG xs) 1 [] (QD (AK (AA xs gu n) % rN)) []:=by
 refine BL (Bs gG Ct func90 dj dj (AdN gu n m xs) dj ⟨jh hl,Mr hn,rfl,rfl,rfl,rfl,rfl,rfl,trivial⟩) fun β u hu=>?_
 obtain ⟨l,q,rfl⟩:=hu;refine ⟨l,AGI (β:=β) (k:=4) ?_ ?_,rfl⟩
 ·rw [← xX];exact AdM _
 ·unfold wd4 at q;rw [vH,vZ] at q;exact q
noncomputable def SVb1:dr:=(90,D9 (Xt fun _ l=>QD (AK l % rN)))::SJn
theorem AIm:AW dm SVb1:=⟨EV (tU func90 dj dj (fun _ _=>rfl) fun _ _ _ _ _ hl hn=>AdO hl hn),gG⟩
noncomputable abbrev oVb1:gr:=AH SVb1 KV
theorem AdP:gp dm oVb1:=AJ AIm BS
theorem AIn {x:Nat} (h:x<R4):AK (AA (Yn x) 0 4)=x:=by
 have e:AA (Yn x) 0 4=wl 4 x:=by
  unfold AA Yn wl;rw [ku,pn,nu (by simp)]
 rw [e,vC (by rw [← xX];exact h)]
theorem AdQ (a:Nat):AM dm oVb1 f92 [QD a] [] 300=some (tt 2 [],QD (AK (AA (Yn a) 0 4) % rN)):=dj
theorem AdR {a:Nat} (h:a<R4):AU dm 92 [QD a] (QD (a % rN)):=by
 have h1:=AP AdP AB func92 (AdQ a) (AI 2 trivial) rfl
 rw [AIn h] at h1;exact h1
def xY (g:Nat→AV):List AV→Option AV
 | [.val true a]=>match DL 4 a with
  | some x=>some (g x)
  | none=>none
 | _=>none
theorem AdS {f:FuncId} {g:Nat→AV} (h:∀ x,x<R4→AU dm f [QD x] (g x)):∀ args v,xY g args=some v→AU dm f args v:=by
 intro args v hs us w ha;unfold xY at hs;split at hs;case h_2=>cases hs
 rename_i a;split at hs;case h_2=>cases hs
 rename_i x hx;injection hs with hs;subst hs;obtain ⟨u1,iu,⟨l,q,rfl⟩,ha,rfl⟩:=ha;obtain ⟨_,ik⟩:=Hm hx q;exact h x (by rw [xX];exact ik) _ w ⟨_,_,⟨l,GQ hx q,rfl⟩,ha,rfl⟩
noncomputable def SVb2:dr:=(92,Ac (xY fun x=>QD (x % rN)))::SVb1
theorem gZ:AW dm SVb2:=⟨Ad func92 dj dj (AdS fun _ h=>AdR h),AIm⟩
noncomputable abbrev xZ:gr:=AH SVb2 KV
noncomputable def GB (n N:Nat):Nat:=if n=32∧N<rN then N else 0
noncomputable def M8 (n N:Nat):Int:=if n=32 then (if N<rN then 0 else 61) else 60
noncomputable def Yo (n N:Nat):AV:=.tup [(true,[.num 4 (GB n N)]),(false,[.v (.int .i64 (M8 n N))])]
def AIo:List Ch:=[.n .u64 0,.n .u64 0,.n .u64 0,.n .u64 0]
def fr0 (e:Int):AV:=.tup [(true,AIo),(false,[.n .i64 e])]
theorem AIq {β:Env} {v:Value} (h:Bx β true AIo v):Bx β true [.num 4 0] v:=by
 obtain ⟨l,q,rfl⟩:=h;exact ⟨l,GQ (k:=4) (x:=0) dj q,rfl⟩
theorem AdT (gu n m:Nat) (xs:dn):AT dm xZ f97 300 1 [] (Aj f97 [AR 0 gu n m] (A5 xs) 1 du) =
 some ([(AL .i64 n,true),(!decide ((n:Int)=32),true)],[],fr0 60,[]):=dj
noncomputable def frC (gu:Nat) (xs:dn) (b:Bool):dp:=[(true,true),(false,false),(Nat.ble (gu+32) xs.length,true),(true,true),(true,true),(!decide (Ao (AA xs gu 32) % rN=Ao (AA xs gu 32)),b)]
theorem AdU (gu m:Nat) (xs:dn):AT dm xZ f97 300 1 [] (Aj f97 [AR 0 gu 32 m] (A5 xs) 1 dx)=some (frC gu xs true,[],fr0 61,[]):=dj
theorem AdV (gu m:Nat) (xs:dn):AT dm xZ f97 300 1 [] (Aj f97 [AR 0 gu 32 m] (A5 xs) 1 dz) =
 some (frC gu xs false,[],.tup [(true,[.num 4 (Ao (AA xs gu 32))]),(false,[.n .i64 0])],[]):=dj
theorem AdW {gu n m:Nat} {xs:dn} (hl:gu+n≤xs.length) (hn:AL .i64 n=true) :
  Ab dm 97 [AR 0 gu n m] (A5 xs) 1 [] (Yo n (Ao (AA xs gu n))) []:=by
 have hmod:∀ N:Nat,decide (N % rN=N)=decide (N<rN):=fun N=>by
  by_cases h:N<rN
  ·rw [jc h,jc (jk h)]
  ·rw [jg h,jg fun e=>h (by rw [← e];exact jw _ AIk)]
 by_cases h:n=32
 ·subst h;by_cases hN:Ao (AA xs gu 32)<rN
  ·refine BL (Bs gZ BS func97 dj dj (AdV gu m xs) dj ⟨rfl,rfl,jh hl,rfl,rfl,by rw [hmod,jc hN];rfl,trivial⟩) fun β u hu=>?_
   unfold Yo GB M8;rw [je ⟨rfl,hN⟩,je rfl,je hN];exact C7 (fun _ q=>q) (fun _ q=>EX rfl q) hu
  ·refine BL (Bs gZ BS func97 dj dj (AdU gu m xs) dj ⟨rfl,rfl,jh hl,rfl,rfl,by rw [hmod,jg hN];rfl,trivial⟩) fun β u hu=>?_
   unfold Yo GB M8;rw [jd (fun q=>hN q.2),je rfl,jd hN]
   exact C7 (fun _ q=>AIq q) (fun _ q=>EX rfl q) hu
 ·refine BL (Bs gZ BS func97 dj dj (AdT gu n m xs) dj ⟨hn,by simp;omega,trivial⟩) fun β u hu=>?_
  unfold Yo GB M8;rw [jd (fun q=>h q.1),jd h]
  exact C7 (fun _ q=>AIq q) (fun _ q=>EX rfl q) hu
noncomputable def SVb3:dr:=(97,D9 (Xs fun n l=>Yo n (Ao l)))::SVb2
theorem g5:AW dm SVb3:=⟨EV (tS func97 dj dj (fun _ _=>rfl) fun _ _ _ _ _ hl hn=>AdW hl hn),gZ⟩
noncomputable abbrev oVb3:gr:=AH SVb3 KV
theorem AIs:gp dm oVb3:=AJ g5 BS
open Ex Num Rg
open Go.RowKit (Below)
open Sh (R av rd mo en mo_en)
def zN:Nat:=Int.toNat 0+18446744073709551616*(Int.toNat 0+18446744073709551616*(Int.toNat 0+18446744073709551616*(Int.toNat 0+18446744073709551616*0)))
theorem AdX:zN=0:=dj
section
variable (n m:Nat) (xs:dn)
noncomputable def g7 (p:List Bool):gq:=Aj f44 [AR 0 0 n m] (A5 xs) 1 p
noncomputable def x8 (r:dp):dp:=(Nat.ble (0+n) xs.length,true)::(AL .i64 n,true)::r
theorem AdY:AT dm oVb3 f44 300 1 [1] (g7 n m xs dz)=some (x8 n xs [(!decide (M8 n (Ao (AA xs 0 n))=0),false),(decide (GB n (Ao (AA xs 0 n))=zN),false)],[],AR 1 0 4 4,[(1,some ⟨60,[.num 4 (GB n (Ao (AA xs 0 n)))],false⟩)]):=dj
noncomputable def It (x:Option (dp×List Nat×gq)):gq:=match x with | some (_,_,y)=>y | none=>⟨[],⟨[],[],0,[]⟩⟩
noncomputable def Yp (p:List Bool):gq:=It (GM dm oVb3 8 1 (g7 n m xs p))
theorem AdZ:GM dm oVb3 8 1 (g7 n m xs du)=some (x8 n xs [(!decide (M8 n (Ao (AA xs 0 n))=0),true)],[],Yp n m xs du):=dj
theorem Ada:GM dm oVb3 8 1 (g7 n m xs dx)=some (x8 n xs [(!decide (M8 n (Ao (AA xs 0 n))=0),false),(decide (GB n (Ao (AA xs 0 n))=zN),true)],[],Yp n m xs dx):=dj
noncomputable def scI:List Item:=(Yp 0 0 [] du).todo
theorem Adb:(Yp n m xs du).todo=.code (.region (W9 scI) (Hq scI) false)::UC scI:=dj
theorem Adc:(Yp n m xs dx).todo=.code (.region (W9 scI) (Hq scI) false)::UC scI:=dj
end
noncomputable abbrev scO:Array Oper:=Hq scI
theorem Ade {Q:Exit→Act→World→Prop} {a:Act} {w:World} (ht:17<a.tmps.size) (h:∀ a',a'.defers=a.defers→Q (.panic [{ v:=.iface 31 (.int .i64 210),recovered:=false }]) a' w):wpOps dm scO Q [0,1] a w :=
 AOB (k:=.i64) (t:=17) (T:=31) (v:=.int .i64 210) (o0:=scO.getD 0 default) (o1:=scO.getD 1 default) dj dj dj dj dj dj dj dj ht h
noncomputable def G_ (n N:Nat):Bool:=decide (M8 n N=0)&&!decide (GB n N=zN)
theorem x9 {n N:Nat}:G_ n N=true↔n=32∧N<rN∧N≠0:=by
 unfold G_ M8 GB;rw [AdX];by_cases h1:n=32
 ·by_cases h2:N<rN
  ·by_cases h3:N=0<;>simp [h1,h2,h3]
  ·simp [h1,h2]
 ·simp [h1]
theorem Adf {n m:Nat} {xs:dn} (hl:n≤xs.length) (hn:AL .i64 n=true) (hk:G_ n (Ao (AA xs 0 n))=true) :
  Ab dm 44 [AR 0 0 n m] (A5 xs) 1 [] (AR 1 0 4 4) [(1,some ⟨60,[.num 4 (GB n (Ao (AA xs 0 n)))],false⟩)]:=by
 unfold G_ at hk;simp only [jm,Bool.not_eq_true',ji,decide_eq_false_iff_not] at hk;exact Bs g5 BS func44 dj dj (AdY n m xs) dj ⟨jh dk,hn,by rw [jc hk.1];rfl,jg hk.2,trivial⟩
noncomputable def errC:List PanicEntry:=[{ v:=.iface 31 (.int .i64 210),recovered:=false }]
theorem Adg {n m:Nat} {xs:dn} (hl:n≤xs.length) (hn:AL .i64 n=true) (hk:G_ n (Ao (AA xs 0 n))=false):AN_ dm 44 [AR 0 0 n m] (A5 xs) 1 errC:=by
 intro β us w ha hg hf;have fin:∀ (y:gq),y.todo=.code (.region (W9 scI) (Hq scI) false)::UC scI→gn dm 44 β w (fun e w'=>e=.panicked errC∧Below w.heap.size w w') f44.ntmps [] y:=by
  intro y hy β' a w' hi _;rw [hy];refine Safe.of_wpP func44 (wp_region ?_)
  have hs:List.range (Hq scI).size=[0,1]:=dj
  rw [hs];refine Ade (by rw [hi.sz];decide) fun a' ha'=>.inr ⟨errC,rfl,?_⟩
  rw [ha',hi.dfr];exact ⟨rfl,hi.os,hi.tape,hi.output,hi.size,fun k hk=>hi.frame k hk fun _ _ h=>by cases h⟩
 have hl':Nat.ble (0+n) xs.length=true:=jh dk
 by_cases he:M8 n (Ao (AA xs 0 n))=0
 ·have hz:GB n (Ao (AA xs 0 n))=zN:=by
   unfold G_ at hk;rw [jc he] at hk;simpa using hk
  refine W2 (args:=[AR 0 0 n m]) (H:=A5 xs) (k0:=1) (gv:=dx) func44 dj dj ?_ ha hg hf
  exact RF AIs AB (Ada n m xs) ⟨hl',hn,by rw [jc he];rfl,jc hz,trivial⟩ (AS dj) hf jb fun _=>fin _ (Adc n m xs)
 ·refine W2 (args:=[AR 0 0 n m]) (H:=A5 xs) (k0:=1) (gv:=du) func44 dj dj ?_ ha hg hf
  exact RF AIs AB (AdZ n m xs) ⟨hl',hn,by rw [jg he];rfl,trivial⟩ (AS dj) hf jb fun _=>fin _ (Adb n m xs)
noncomputable def secSp:ASpec:=fun args H fr gv=>match args with
 | [S]=>match Im S with
  | some (k,n,m)=>match AG H k with
   | some ⟨_,cs,_⟩=>match A8 .u8 cs with
    | some xs=>some (BR [k] 1 fr 1 [] (AR 1 0 4 4) [(1,some ⟨60,[.num 4 (GB n (Ao (AA xs 0 n)))],false⟩)] [(Nat.ble n xs.length,true),(Nat.ble n m,true),(AL .i64 n,true),(G_ n (Ao (AA xs 0 n)),true)] gv)
    | none=>none
   | _=>none
  | none=>none
 | _=>none
theorem Adh:BJ dm 44 secSp:=by
 refine Da func44 dj dj fun args H fr gv r hs=>?_
 unfold secSp at hs;split at hs;case h_2=>cases hs
 rename_i S;split at hs;case h_2=>cases hs
 rename_i k n m hS;split at hs;case h_2=>cases hs
 rename_i ty cs o hk';split at hs;case h_2=>cases hs
 rename_i xs iy;injection hs with hs;refine ⟨[k],1,1,[],_,_,_,gv,hs.symm,fun β us w ha hg hc=>?_⟩
 obtain ⟨u1,iu,r1,ha,rfl⟩:=ha;obtain ⟨hl,hm,hn,hb,_⟩:=hc;obtain ⟨m',_,r1⟩:=KM hS (jf hm) r1
 obtain ⟨g1,g2,g3⟩:=Eu hg hk' iy;exact ⟨[AR 0 0 n m'],A5 xs,Adf (jf hl) hn hb,dj,⟨u1,_,Cp dk rfl r1,ha,rfl⟩,g2,g3⟩
noncomputable def SVc:dr:=(44,secSp)::SVb3
theorem AIt:AW dm SVc:=⟨Adh,g5⟩
noncomputable abbrev oVc:gr:=AH SVc KV
theorem Yq:gp dm oVc:=AJ AIt BS
theorem g8 {w:World} {B:Nat} {v:Value} {ty:TypeId} (h:w.heap[B]? = some (.cells #[v] ty (0,0))):w.cell? ⟨B,0,none⟩=some v∧w.frozen? ⟨B,0,none⟩=false:=by
 constructor
 ·simp [World.cell?,h]
 ·simp [World.frozen?,h]
theorem g9 {w:World} {a:Addr} {v:Value} {B:Nat} (h:B≠a.block):(w.setCell a v).heap[B]? = w.heap[B]?:=by
 simp only [World.setCell,sv];rw [jd (fun e=>h e.symm)]
theorem AIu (w:World) (a:Addr) (v:Value):(w.setCell a v).heap.size=w.heap.size∧(w.setCell a v).os=w.os∧(w.setCell a v).tape=w.tape∧(w.setCell a v).output=w.output:=by
 refine ⟨?_,rfl,rfl,rfl⟩
 simp [World.setCell]
theorem AIv {w:World} {B:Nat} {u v:Value} {ty:TypeId} (h:w.heap[B]? = some (.cells #[u] ty (0,0))):(w.setCell ⟨B,0,none⟩ v).heap[B]? = some (.cells #[v] ty (0,0)):=by
 simp [World.setCell,Array.getElem?_modify,h]
noncomputable def Yr:Value:=.tuple #[.slice none 0 0,.int .i64 210]
theorem Adi {F:FuncId} {fnF:Func} (hF:dm.funcs[F]? = some fnF) (hb:fnF.body.isSome=true) (h_:fo fnF)
  (hcatch:∀ (p q:Addr) (x y:Value) (w:World),w.cell? p=some x→w.frozen? p=false→w.cell? q=some y→w.frozen? q=false→p.block≠q.block →
   CallsD dm F #[.pointer (some p),.pointer (some q)] (.panicking [{ v:=.iface 31 (.int .i64 210),recovered:=false }]) w fun e u' w' =>
    e=.returned (.tuple #[])∧u'=.panicking [{ v:=.iface 31 (.int .i64 210),recovered:=true }]∧w'=(w.setCell p (.slice none 0 0)).setCell q (.int .i64 210))
  {fn:Func} {t1 t2:Tmp} {tmps:Array Value} {B1 B2:Nat} {ty1 ty2:TypeId} {R:Ending→World→Prop} {w:World} (hres:fn.results=#[.cell t1 22,.cell t2 31])
  (ht1:tmps.getD t1 undef=.pointer (some ⟨B1,0,none⟩)) (ht2:tmps.getD t2 undef=.pointer (some ⟨B2,0,none⟩)) (c1:w.heap[B1]? = some (.cells #[.slice none 0 0] ty1 (0,0))) (c2:w.heap[B2]? = some (.cells #[.int .i64 0] ty2 (0,0))) (iq:B1≠B2)
  (hR:∀ w',(∀ B,B≠B1→B≠B2→w'.heap[B]? = w.heap[B]?)→w'.heap.size=w.heap.size→w'.os=w.os→w'.tape=w.tape→w'.output=w.output→R (.returned Yr) w') :
  Leaves dm fn tmps R [{ target:=.fn (.func F) #[.pointer (some ⟨B1,0,none⟩),.pointer (some ⟨B2,0,none⟩)],args:=#[] }] (.panicking errC) w:=by
 obtain ⟨a1,f1⟩:=g8 c1;obtain ⟨a2,f2⟩:=g8 c2;have h1:fnF.name≠"runtime.NumGoroutine":=by simpa using h_
 have h2:¬ fnF.body=none:=by cases hq:fnF.body<;>simp [hq] at hb ⊢
 refine leaves_cons (f:=F) (args:=#[.pointer (some ⟨B1,0,none⟩),.pointer (some ⟨B2,0,none⟩)]) (by simp) (by simp [invoke,callFunc,hF,h1,h2]) ?_
 refine (hcatch ⟨B1,0,none⟩ ⟨B2,0,none⟩ _ _ w a1 f1 a2 f2 iq).mono ?_
 rintro e u' w' ⟨rfl,rfl,rfl⟩
 have c2':(w.setCell ⟨B1,0,none⟩ (.slice none 0 0)).heap[B2]? = some (.cells #[.int .i64 0] ty2 (0,0)):=(g9 fun e=>iq e.symm).trans c2
 have e2:=(g8 (AIv (v:=.int .i64 210) c2')).1
 have e1:=(g8 ((g9 (a:=⟨B2,0,none⟩) (v:=.int .i64 210) iq).trans (AIv (v:=.slice none 0 0) c1))).1
 obtain ⟨q1,q2,q3,q4⟩:=AIu (w.setCell ⟨B1,0,none⟩ (.slice none 0 0)) ⟨B2,0,none⟩ (.int .i64 210)
 obtain ⟨r1,r2,r3,r4⟩:=AIu w ⟨B1,0,none⟩ (.slice none 0 0)
 refine ⟨Yr,?_,hR _ (fun B n1 n2=>by rw [g9 n2,g9 n1]) (q1.trans r1) (q2.trans r2) (q3.trans r3) (q4.trans r4)⟩
 rw [lu] at ht1 ht2;simp [results,hres,ht1,ht2,go_sem,e1,e2,Yr]
section
variable (n m:Nat) (xs:dn) (p:List Bool)
noncomputable abbrev skF:Func:=f20
noncomputable def skA:gq:=Aj skF [AR 0 0 n m] (A5 xs) 1 p
noncomputable def hJ:gq:=It (GM dm oVc 3 1 (skA n m xs p))
noncomputable def skI:List Item:=(hJ 0 0 [] []).todo
noncomputable abbrev skO:Array Oper:=Hq skI
noncomputable def Lo (x:Option (List Rec×St)):St:=match x with | some (_,s)=>s | none=>⟨[],[],0,[]⟩
noncomputable def VI (x:Option (List Rec×St)):List Rec:=match x with | some (r,_)=>r | none=>[]
noncomputable def QE:Option (List Rec×St):=D8 dm oVc skO [skO.getD 0 default] 0 (hJ n m xs p).s
theorem Adj:GM dm oVc 3 1 (skA n m xs p)=some ([],[],hJ n m xs p):=dj
theorem Adk:(hJ n m xs p).todo=.code (.region (W9 skI) skO false)::UC skI:=dj
theorem Adl:QE n m xs p=some (VI (QE n m xs p),Lo (QE n m xs p)):=dj
theorem Adm:I9 (VI (QE n m xs p))=[]:=dj
theorem Adn:EK (VI (QE n m xs p))=[]:=dj
theorem Ado:Ap (Lo (QE n m xs p)).T 6=.val false [.clo 41 [(1,0),(2,0)]]:=dj
theorem yA:(Lo (QE n m xs p)).fr=3:=dj
noncomputable def QF:gq:=⟨UC skI,Lo (QE n m xs p)⟩
end
theorem AIx {n m:Nat} {xs:dn} (p:List Bool) {β:Env} {us:List Value} {w:World} {R:Ending→World→Prop} (ha:BI β [AR 0 0 n m] us) (hg:Ex.Good β (A5 xs) w) (hf:∀ b,1≤b→β b=none)
  (h:∀ (β':Env) (a:Act) (w':World) (A B:Nat) (m1 m2:Nat×Nat),β' 1=some (.at_ A m1)→β' 2=some (.at_ B m2)→(∀ b,3≤b→β' b=none) →
   Inv β w [] ⟨skF.ntmps,[{ target:=.fn (.func 41) #[.pointer (some ⟨A,m1.2+0,none⟩),.pointer (some ⟨B,m2.2+0,none⟩)],args:=#[] }]⟩ β' (Ap (QF n m xs p).s.T) (QF n m xs p).s.H a w' →
   Ex.Safe dm 20 R (QF n m xs p).todo a w'):Calls dm 20 ⟨us⟩ w R:=by
 refine W2 (args:=[AR 0 0 n m]) (H:=A5 xs) (k0:=1) (gv:=p) func20 dj dj ?_ ha hg hf
 refine RF Yq AB (Adj n m xs p) trivial (AS dj) hf jb fun hw=>?_
 intro β' a w' hi hf';rw [Adk];refine Ex.Safe.of_wp (wp_region ?_)
 have hs:List.range skO.size=List.range' 0 [skO.getD 0 default].length++[1]:=dj
 rw [hs];refine pO Yq (W:=[]) _ 0 _ _ _ β' a w' (fun j o hj=>?_) (Adl n m xs p) (by rw [Adm];trivial) hi hf' hw.1 hw.2 (by rw [Adn];intro k hk;cases hk) ?_
 ·cases j with
  | zero=>injection hj with hj;subst hj;kernel_rfl
  | succ j=>simp at hj
 ·intro β2 a2 w2 hi2 hf2;have hc:=hi2.tmp 6;rw [Ado] at hc;obtain ⟨ps,hp,hu⟩:=Az hc;obtain ⟨A,m1,B,m2,e1,e2,rfl⟩:=AOC hp;injection hu with hu _;refine AOA (o:=skO.getD 1 default) (c:=match (skO.getD 1 default).op with | .defer c=>c | _=>⟨.builtin .len,#[],#[]⟩) (t:=6) dj dj dj dj dj dj hu ⟨rfl,?_⟩
  exact h β2 _ w2 A B m1 m2 e1 e2 (fun b hb=>hf2 b (by rw [yA];exact hb)) hi2.push
theorem AIy {β:Env} {H:Heap} {w:World} {k ty A:Nat} {m:Nat×Nat} {c:Ch} {v:Value} (hg:Ex.Good β H w) (hk:AG H k=some ⟨ty,[c],false⟩) (hr:Nat.ble Bu ty=false) (hA:β k=some (.at_ A m)) (hc:∀ l,BM β c l→l=[v]):w.heap[A]? = some (.cells #[v] ty (0,0))∧m.2=0:=by
 rcases Qw (hg.heap k _ hk) (O8 hr) with ⟨B,n,l,t,e1,e2,e3,e4,_⟩ | ⟨e1,_⟩
 ·rw [hA] at e1;injection e1 with e1;injection e1 with e1 e5;subst e1;subst e5;obtain ⟨l1,l2,q1,q2,q3⟩:=e2;simp only [AQ] at q2;rw [e4 rfl,q3,q2,hc _ q1] at e3;exact ⟨e3,rfl⟩
 ·rw [hA] at e1;cases e1
section
variable (n m:Nat) (xs:dn) (p:List Bool)
noncomputable def hU:gq:=It (GM dm oVc 1 1 (QF n m xs p))
noncomputable def skJ:List Item:=(hU 0 0 [] []).todo
noncomputable def Ls:Option (List Rec×St):=D8 dm oVc (Hq skJ) [(Hq skJ).getD 0 default] 0 (hU n m xs p).s
theorem Adp:GM dm oVc 1 3 (QF n m xs p)=some ([],[],hU n m xs p):=dj
theorem Adq:(hU n m xs p).todo=.code (.region (W9 skJ) (Hq skJ) false)::UC skJ:=dj
theorem Adr:Ls n m xs p=some (VI (Ls n m xs p),Lo (Ls n m xs p)):=dj
theorem Ads:I9 (VI (Ls n m xs p))=[]:=dj
theorem Adt:EK (VI (Ls n m xs p))=[]:=dj
theorem Adu:Ap (Lo (Ls n m xs p)).T 8=AR 0 0 n m:=dj
theorem Adv:Ap (Lo (Ls n m xs p)).T 2=.val false [.p 1 0]:=dj
theorem Adw:Ap (Lo (Ls n m xs p)).T 3=.val false [.p 2 0]:=dj
theorem Adx:AG (Lo (Ls n m xs p)).H 0=some (Ak [.seq .u8 xs]):=dj
theorem AIz:AG (Lo (Ls n m xs p)).H 1=some ⟨22,[.v (.slice none 0 0)],false⟩:=dj
theorem AI0:AG (Lo (Ls n m xs p)).H 2=some ⟨31,[.n .i64 0],false⟩:=dj
end
theorem Ady (xs:dn):A8 .u8 [.seq .u8 xs]=some xs:=dj
theorem AI1 {β:Env} {T:AV} {u:Value} {k A:Nat} {m:Nat×Nat} (hT:T=.val false [.p k 0]) (h:AN β T u) (hA:β k=some (.at_ A m)):u=.pointer (some ⟨A,m.2+0,none⟩):=by
 subst hT;obtain ⟨B,n,h1,h2⟩:=Az h;rw [hA] at h1;injection h1 with h1;injection h1 with h1 h3;subst h1;subst h3;injection h2
theorem AI2 {w w':World} (h:Below w.heap.size w w') {B:Nat} {o:Obj} (hB:w.heap[B]? = some o):w'.heap[B]? = some o:=by
 rw [h.block B (qw.1 hB).1];exact hB
theorem Adz {β:Env} {H:Heap} {w w':World} (hg:Ex.Good β H w) (hs:w.heap.size≤w'.heap.size) (hf:∀ B,B<w.heap.size→w'.heap[B]? = w.heap[B]?) (ho:w'.os=w.os) (ht:w'.tape=w.tape) (hp:w'.output=w.output):A_ β w [] (U9 210) [] (.returned Yr) w' :=
 ⟨Yr,β,rfl,{
  val:=⟨_,⟨_,_,Aw ⟨rfl,rfl,trivial⟩,⟨_,_,Aw ⟨rfl,(Fy _ _).2 dl⟩,rfl,rfl⟩,rfl⟩,rfl⟩
  good:=⟨(fun _ _ h=>by cases h),(fun _ _ _ _ _ h=>by cases h),(fun b B n h=>kr (hg.lt b B n h) hs)⟩
  new:=fun _ _ h=>.inl h
  ext:=Env.le_refl β
  frame:=fun B hB _=>hf B hB
  size:=hs
  os:=ho
  tape:=ht
  output:=hp }⟩
theorem Ad0 {n m:Nat} {xs:dn} (hl:n≤xs.length) (hn:AL .i64 n=true) (hk:G_ n (Ao (AA xs 0 n))=false) :
  Ab dm 20 [AR 0 0 n m] (A5 xs) 1 [] (U9 210) []:=by
 intro β us w ha hg hf;refine AIx [] ha hg hf fun β' a w' A B m1 m2 hA hB hf' hi=>?_
 refine RF (β0:=β') (w0:=w') (W:=[]) Yq AB (Adp n m xs []) trivial (AS dj) hf' jb (fun hw=>?_) β' a w' hi.root (fun b hb=>hf' b (by rw [show (QF n m xs []).s.fr=3 from yA n m xs []] at hb;exact hb))
 intro β1 a1 w1 hi1 hf1;rw [Adq];refine Ex.Safe.of_wpP func20 (wp_region ?_)
 have hs:List.range (Hq skJ).size=List.range' 0 [(Hq skJ).getD 0 default].length++(1::List.range' 2 ((Hq skJ).size-2)):=dj
 rw [hs];refine pO Yq (W:=[]) _ 0 _ _ _ β1 a1 w1 (fun j o hj=>?_) (Adr n m xs []) (by rw [Ads];trivial) hi1 hf1 hw.1 hw.2 (by rw [Adt];intro k hk;cases hk) ?_
 ·cases j with
  | zero=>injection hj with hj;subst hj;kernel_rfl
  | succ j=>simp at hj
 intro β2 a2 w2 hi2 _;have r8:=hi2.tmp 8;rw [Adu] at r8;obtain ⟨_,g2,_⟩:=Eu hi2.good (Adx n m xs []) (Ady xs)
 have hpan:=Adg hl hn hk (A9 β2 [0] 1) [a2.tmps.getD 8 undef] w2 ⟨_,[],Cp dk rfl r8,rfl,rfl⟩ g2 (fun b hb=>by
  have:Nat.blt b 1=false:=by cases h:Nat.blt b 1 with | false=>rfl | true=>have:=Bf.1 h;omega
  simp [A9,this])
 refine AN' (o:=(Hq skJ).getD 1 default) (c:=match ((Hq skJ).getD 1 default).op with | .call c=>c | _=>⟨.builtin .len,#[],#[]⟩) (g:=44) (chain:=errC) dj dj dj dj func44 dj dj ?_
 have hargs:(match ((Hq skJ).getD 1 default).op with | .call c=>c | _=>⟨.builtin .len,#[],#[]⟩).args=#[.tmp 8]:=dj
 rw [hargs,show Array.map a2.eval #[Operand.tmp 8]=#[a2.eval (.tmp 8)] from by simp]
 refine Calls.mono (R:=fun e w'=>e=.panicked errC∧Below w2.heap.size w2 w') hpan ?_
 rintro e w3 ⟨rfl,hbl⟩
 refine ⟨rfl,.inr ⟨errC,rfl,?_⟩⟩
 have hA2:=hi2.ext 1 _ hA;have hB2:=hi2.ext 2 _ hB;obtain ⟨c1,z1⟩:=AIy (v:=.slice none 0 0) hi2.good (AIz n m xs []) dj hA2 fun l h=>h.1
 obtain ⟨c2,z2⟩:=AIy (v:=.int .i64 0) hi2.good (AI0 n m xs []) dj hB2 fun l h=>h.1
 have iq:A≠B:=fun e=>by
  subst e;have:=hi2.good.inj 1 2 A m1 m2 (by rw [GJ (AIz n m xs []) (Zl dj)]) (by rw [AI0];rfl) hA2 hB2
  cases this
 have ja:∀ {k C:Nat} {q:Nat×Nat},1≤k→β' k=some (.at_ C q)→w.heap.size≤C:=by
  intro k C q hk0 hC;rcases hi.new k _ hC with h | h
  ·rw [hf k hk0] at h;cases h
  ·rcases h C q rfl with h | ⟨j,_,hj,_⟩
   ·exact h
   ·cases hj
 have bA:=ja dk hA;have bB:=ja dk hB;have t1:=AI1 (Adv n m xs []) (hi2.tmp 2) hA2
 have t2:=AI1 (Adw n m xs []) (hi2.tmp 3) hB2
 rw [z1] at t1;rw [z2] at t2;rw [hi2.dfr,z1,z2];refine Adi func41 dj dj (fun p q x y w a b c d e=>AdK p q x y w a b c d e) (t1:=2) (t2:=3) dj t1 t2 (AI2 hbl c1) (AI2 hbl c2) iq fun w4 k1 k2 k3 k4 k5=>?_
 refine Adz hg ?_ (fun C hC=>?_) ?_ ?_ ?_
 ·rw [k2];exact mb hi.size (mb hi2.size hbl.size)
 ·rw [k1 C dk dk,hbl.block C (kr hC (mb hi.size hi2.size)),hi2.frame C (kr hC hi.size) (fun _ _ h=>by cases h),hi.frame C hC (fun _ _ h=>by cases h)]
 ·rw [k3,hbl.os,hi2.os,hi.os]
 ·rw [k4,hbl.tape,hi2.tape,hi.tape]
 ·rw [k5,hbl.output,hi2.output,hi.output]
noncomputable def QG (N:Nat):Pt FP:=HQ (AK (AA (Yn N) 0 4)) (An (EF G1B) (CM G1B) (Aq G1B))
theorem Ad1 {N:Nat} (h:N<R4):QG N=smul N G1B:=by
 unfold QG HQ;rw [Uu,je fJ,AIn h]
def yC:AV:=.tup [(false,[.sl 12 0 48 48]),(false,[.n .i64 0])]
def yD (l:dn):Heap:=[(12,some ⟨5,[.seq .u8 l],true⟩)]
theorem Ad2 (n m:Nat) (xs:dn):AT dm oVc skF 400 1 [12] (QF n m xs [false,true,true,true,true,true,true,true,true,true]) =
 some ((Nat.ble n xs.length,true)::(Nat.ble n m,true)::(AL .i64 n,true)::(G_ n (Ao (AA xs 0 n)),true)::tt 2 [(BT (An (EF (QG (GB n (Ao (AA xs 0 n))))) (CM (QG (GB n (Ao (AA xs 0 n))))) (Aq (QG (GB n (Ao (AA xs 0 n)))))),true)],[],yC,
  yD (FN true (An (EF (QG (GB n (Ao (AA xs 0 n))))) (CM (QG (GB n (Ao (AA xs 0 n))))) (Aq (QG (GB n (Ao (AA xs 0 n)))))))):=dj
theorem Ad3 (N:Nat):BT (smul N G1B)=true:=by
 have h1:=(LR G1B).1 fJ
 unfold BT;rw [(LR _).2 (CH C1 h1 N),← JR C1 h1,jy,JR C1 h1,rG1,HM];rfl
theorem Ad4 {n m:Nat} {xs:dn} (hl:n≤xs.length) (hm:n≤m) (hn:AL .i64 n=true) (hk:G_ n (Ao (AA xs 0 n))=true) :
  Ab dm 20 [AR 0 0 n m] (A5 xs) 1 [] yC (yD (FN true (smul (Ao (AA xs 0 n)) G1B))):=by
 obtain ⟨k1,k2,_⟩:=x9.1 hk;have hV:GB n (Ao (AA xs 0 n))=Ao (AA xs 0 n):=je ⟨k1,k2⟩
 have ii:=Ad2 n m xs;rw [hV,Uu,Ad1 (mv k2 AIj)] at ii;intro β us w ha hg hf;refine AIx [false,true,true,true,true,true,true,true,true,true] ha hg hf fun β' a w' A B m1 m2 _ _ hf' hi=>?_
 exact AOD Yq AB func20 ii ⟨jh hl,jh hm,hn,hk,AI 2 ⟨Ad3 _,trivial⟩⟩ (AS dj) hf jb rfl func41 dj dj
  (fun w=>AdJ _ _ w) (fun _ _ h=>h) β' a w' hi (fun b hb=>hf' b (by rw [show (QF n m xs _).s.fr=3 from yA n m xs _] at hb;exact hb))
noncomputable def skSp:ASpec:=fun args H fr gv=>match args,gv with
 | [S],b::gy=>match Im S with
  | some (k,n,m)=>match AG H k with
   | some ⟨_,cs,_⟩=>match A8 .u8 cs with
    | some xs=>match b with
     | true=>some (BR [k] 1 fr 0 [] (U9 210) [] [(Nat.ble n xs.length,true),(Nat.ble n m,true),(AL .i64 n,true),(G_ n (Ao (AA xs 0 n)),false)] gy)
     | false=>some (BR [k] 1 fr 12 [] yC (yD (FN true (smul (Ao (AA xs 0 n)) G1B))) [(Nat.ble n xs.length,true),(Nat.ble n m,true),(AL .i64 n,true),(G_ n (Ao (AA xs 0 n)),true)] gy)
    | none=>none
   | _=>none
  | none=>none
 | _,_=>none
theorem Ad5:BJ dm 20 skSp:=by
 refine Da func20 dj dj fun args H fr gv r hs=>?_
 unfold skSp at hs;split at hs;case h_2=>cases hs
 rename_i S b gy;split at hs;case h_2=>cases hs
 rename_i k n m hS;split at hs;case h_2=>cases hs
 rename_i ty cs o hk';split at hs;case h_2=>cases hs
 rename_i xs iy;split at hs
 ·injection hs with hs;refine ⟨[k],1,0,[],_,_,_,gy,hs.symm,fun β us w ha hg hc=>?_⟩
  obtain ⟨u1,iu,r1,ha,rfl⟩:=ha;obtain ⟨hl,hm,hn,hb,_⟩:=hc;obtain ⟨m',_,r1⟩:=KM hS (jf hm) r1
  obtain ⟨g1,g2,g3⟩:=Eu hg hk' iy;exact ⟨[AR 0 0 n m'],A5 xs,Ad0 (jf hl) hn hb,dj,⟨u1,_,Cp dk rfl r1,ha,rfl⟩,g2,g3⟩
 ·injection hs with hs;refine ⟨[k],1,12,[],_,_,_,gy,hs.symm,fun β us w ha hg hc=>?_⟩
  obtain ⟨u1,iu,r1,ha,rfl⟩:=ha;obtain ⟨hl,hm,hn,hb,_⟩:=hc;obtain ⟨m',hm',r1⟩:=KM hS (jf hm) r1
  obtain ⟨g1,g2,g3⟩:=Eu hg hk' iy;exact ⟨[AR 0 0 n m'],A5 xs,Ad4 (jf hl) hm' hn hb,dj,⟨u1,_,Cp dk rfl r1,ha,rfl⟩,g2,g3⟩
noncomputable def SVe:dr:=(20,skSp)::(25,D9 smSp)::(28,D9 (Li fun s L=>FQ (E' s L)))::SVc
theorem AI3:AW dm SVe:=⟨Ad5,EV AYj,EV (OP func28 dj dj (fun _ _=>by kernel_rfl) fun _ _ _ hl hm hn=>wL hl hm hn true rfl),AIt⟩
noncomputable abbrev oVe:gr:=AH SVe KV
theorem h9:gp dm oVe:=AJ AI3 BS
noncomputable def SVf:dr:=(11,BF dm oVe f11 300)::(19,BF dm oVe f19 300)::(21,BF dm oVe f21 600)::(22,BF dm oVe f22 300)::SVe
theorem AI4:AW dm SVf:=⟨BK h9 AB func11 dj dj 300,BK h9 AB func19 dj dj 300,BK h9 AB func21 dj dj 600,BK h9 AB func22 dj dj 300,AI3⟩
noncomputable abbrev oVf:gr:=AH SVf KV
theorem Ad6:gp dm oVf:=AJ AI4 BS
end Go.Proofs.YtgnajdcdcblaoaaGreat
