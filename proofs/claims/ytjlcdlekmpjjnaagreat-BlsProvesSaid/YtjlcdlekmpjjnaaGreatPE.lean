/- Part 5 of the proof: Ja, Jb, Jc, Jd, Je, Jf, Ly, Oa, Ob, Oc, Od, Jg, Jh, Ji, Jk, Oe, Of, Og, Jl, Jm, Oh, Me, Mf, Mg, Qa, Qb, Qc, Qd, Qe, Qf, Qg, Qh, Mh, Ub, Va, Vb, Vc. -/
import Derived.Test.YtjlcdlekmpjjnaaGreatPD
import Derived.Test.YtjlcdlekmpjjnaaGreatPB
import Derived.Test.YtjlcdlekmpjjnaaGreatPC
import Derived.Tactics
import Derived.Tactics2
import Derived.Recover
namespace Go.Proofs.YtjlcdlekmpjjnaaGreat
open Ex Num Rg
open Sh (R av rd mo en mo_en)
set_option maxRecDepth 100000
set_option maxHeartbeats 4000000
abbrev P2:Type:=Pt FP2
def dq (x y:Nat):Bool:=decide (x=y)
def Bl (r s:R FP2):Bool:=dq r.1 s.1&&dq r.2 s.2
theorem KY (x y:FP):dq x.val y.val=decide (x=y):=by
 unfold dq
 by_cases h:x=y
 ·rw [decide_eq_true h,decide_eq_true (congrArg Fin.val h)]
 ·rw [decide_eq_false h,decide_eq_false fun e=>h (Fin.ext e)]
theorem N6 (x y:FP2):Bl (en x) (en y)=decide (x=y):=by
 show (dq x.a.val y.a.val&&dq x.b.val y.b.val)=_
 rw [KY,KY]
 by_cases h:x=y
 ·subst h;rw [decide_eq_true rfl,decide_eq_true rfl,decide_eq_true rfl];rfl
 ·rw [decide_eq_false h]
  by_cases h1:x.a=y.a
  ·rw [decide_eq_false fun h2=>h (Qx.ext h1 h2),Bool.and_false]
  ·rw [decide_eq_false h1,Bool.false_and]
def B0 (r:R FP2):Bool:=dq r.1 0&&dq r.2 0
theorem KZ (x:FP2):B0 (en x)=decide (x=0):=N6 x 0
def AAl:List Ch:=[.n .u64 4,.n .u64 0,.n .u64 0,.n .u64 0,.n .u64 0,.n .u64 0,.n .u64 4,.n .u64 0,.n .u64 0,.n .u64 0,.n .u64 0,.n .u64 0]
theorem APG:AR Tryz.prog oH3 Tryz.f136 [] [] 100=some ([],.val true AAl):=by kernel_rfl
def Bv (i:Bool):List Ch:=List.replicate 24 (.n .u64 0)++[.b i]
def ev (α:Type) [Sh α] (x:AV):List AV→Option AV | []=>some x | _=>none
section
variable (r s:R P2)
theorem APH:AR Tryz.prog oH3 Tryz.f74 [va P2 r] [true] 300=some ([(r.2.2,true)],.val true (Bv true)):=by kernel_rfl
theorem API:AR Tryz.prog oH3 Tryz.f74 [va P2 r] [false] 300=some ([(r.2.2,false)],.val true (CB (av (re FP2 r.1)) (CB (av (re FP2 r.2.1)) [.b false]))):=by kernel_rfl
end
theorem APJ (r:R P2):AU Tryz.prog 74 [va P2 r] (ve (mo r:P2)):=by
 have h1:=APH r
 have h2:=API r
 obtain ⟨x,y,i⟩:=r
 cases i with
 | true=>exact D2 (α:=P2) (r:=(en (.inf:P2):R P2)) (AW iB AB Tryz.func74 h1 ⟨rfl,trivial⟩ rfl) (by kernel_rfl)
 | false=>exact D2 (α:=P2) (r:=((re FP2 x,re FP2 y,false):R P2)) (AW iB AB Tryz.func74 h2 ⟨rfl,trivial⟩ rfl) (by kernel_rfl)
noncomputable def SJ0:List (FuncId×ASpec):=(136,Aj (ev FP2 (ve I3)))::(74,Aj (Bz P2 fun r=>ve (mo r:P2)))::SH3
theorem XD {α:Type} [Sh α] {P:Program} {f:FuncId} {x:AV} (h:AU P f [] x):∀ args v,ev α x args=some v→AU P f args v:=by
 intro args v hs
 unfold ev at hs
 split at hs
 ·injection hs with hs;subst hs;exact h
 ·cases hs
theorem APK:AU Tryz.prog 136 [] (ve I3):=D2 (α:=FP2) (r:=(en I3:R FP2)) (AW iB AB Tryz.func136 APG trivial rfl) (by kernel_rfl)
theorem AAm:AX Tryz.prog SJ0:=⟨Ak Tryz.func136 (by kernel_rfl) (by kernel_rfl) (XD APK),Ak Tryz.func74 (by kernel_rfl) (by kernel_rfl) (CC APJ),AAk⟩
noncomputable abbrev oJ0:Orc:=AH SJ0 KH
theorem MN:OrcOk Tryz.prog oJ0:=AK AAm BA
noncomputable def rX (p:P2):R FP2:=(en p).1
noncomputable def rY (p:P2):R FP2:=(en p).2.1
noncomputable def T9 (x y:R FP2):Bool:=Bl (mu FP2 y y) (ad FP2 (mu FP2 (mu FP2 x x) x) (en I3))
noncomputable def B3 (p:P2):Bool:=match p with
 | .inf=>true
 | .pt x y=>decide (y*y=x*x*x+I3)
theorem AAn (p:P2):B3 p=true↔Rg.On C2.b p:=by
 cases p with
 | inf=>exact ⟨fun _=>trivial,fun _=>rfl⟩
 | pt a b=>exact decide_eq_true_iff
theorem AAo (x y:R FP2):T9 x y=B3 (.pt (mo x) (mo y)):=by
 unfold T9 mu ad B3
 rw [N6]
 simp only [mo_en]
section
variable (r:R P2)
theorem APL:AR Tryz.prog oJ0 Tryz.f75 [va P2 r] [true] 300=some ([(r.2.2,true)],.val false [.b true]):=by kernel_rfl
theorem APM:AR Tryz.prog oJ0 Tryz.f75 [va P2 r] [false] 300=some ([(r.2.2,false)],BB (T9 r.1 r.2.1)):=by kernel_rfl
end
theorem APN (r:R P2):AU Tryz.prog 75 [va P2 r] (BB (B3 (mo r))):=by
 have h1:=APL r
 have h2:=APM r
 obtain ⟨x,y,i⟩:=r
 cases i with
 | true=>exact C7 (AW MN AB Tryz.func75 h1 ⟨rfl,trivial⟩ rfl) fun u hu=>It rfl hu
 | false =>
  rw [show B3 (mo ((x,y,false):R P2))=B3 (.pt (mo x) (mo y)) from rfl,← AAo]
  exact AW MN AB Tryz.func75 h2 ⟨rfl,trivial⟩ rfl
noncomputable def XE (px py qx qy:R FP2):R FP2:=mu FP2 (su FP2 qy py) (iv FP2 (su FP2 qx px))
noncomputable def XF (px py:R FP2):R FP2:=mu FP2 (ad FP2 (ad FP2 (mu FP2 px px) (mu FP2 px px)) (mu FP2 px px)) (iv FP2 (ad FP2 py py))
noncomputable def T_ (l px qx:R FP2):R FP2:=su FP2 (su FP2 (mu FP2 l l) px) qx
noncomputable def iC (l px py x:R FP2):R FP2:=su FP2 (mu FP2 l (su FP2 px x)) py
noncomputable def iD (l:R FP2) (p q:P2):List Ch:=CB (av (T_ l (rX p) (rX q))) (CB (av (iC l (rX p) (rY p) (T_ l (rX p) (rX q)))) [.b false])
section
variable (r s:R P2)
noncomputable def XG (p q:P2) (d:Bool) (l:List (Bool×Bool)):List (Bool×Bool):=(B7 p,false)::(B7 q,false)::(!Bl (rX p) (rX q),d)::l
theorem APO:AR Tryz.prog oJ0 Tryz.f107 [va P2 r,va P2 s] [true] 300=some ([(B7 (mo r:P2),true)],ve (mo s:P2)):=by kernel_rfl
theorem APP:AR Tryz.prog oJ0 Tryz.f107 [va P2 r,va P2 s] [false,true] 300=some ([(B7 (mo r:P2),false),(B7 (mo s:P2),true)],ve (mo r:P2)):=by kernel_rfl
theorem APQ:AR Tryz.prog oJ0 Tryz.f107 [va P2 r,va P2 s] [false,false,true] 300=some (XG (mo r) (mo s) true [],.val true (iD (XE (rX (mo r)) (rY (mo r)) (rX (mo s)) (rY (mo s))) (mo r) (mo s))):=by kernel_rfl
theorem APR:AR Tryz.prog oJ0 Tryz.f107 [va P2 r,va P2 s] [false,false,false,true] 300=some (XG (mo r) (mo s) false [(!Bl (rY (mo r)) (rY (mo s)),true)],.val true (Bv true)):=by kernel_rfl
theorem APS:AR Tryz.prog oJ0 Tryz.f107 [va P2 r,va P2 s] [false,false,false,false,true] 300=some (XG (mo r) (mo s) false [(!Bl (rY (mo r)) (rY (mo s)),false),(B0 (rY (mo r)),true)],.val true (Bv true)):=by kernel_rfl
theorem APT:AR Tryz.prog oJ0 Tryz.f107 [va P2 r,va P2 s] [false,false,false,false,false] 300=some (XG (mo r) (mo s) false [(!Bl (rY (mo r)) (rY (mo s)),false),(B0 (rY (mo r)),false)],.val true (iD (XF (rX (mo r)) (rY (mo r))) (mo r) (mo s))):=by kernel_rfl
end
theorem AAp (x y:R FP2):(rd (CB (av x) (CB (av y) [.b false])):Option (R P2))=some ((x,y,false):R P2):=by kernel_rfl
theorem AAq (a b c d L:FP2):rd (iD (en L) (.pt a b) (.pt c d))=some (en (Hh a b c L):R P2):=by
 have e:(en (Hh a b c L):R P2)=(T_ (en L) (en a) (en c),iC (en L) (en a) (en b) (T_ (en L) (en a) (en c)),false):=by
  unfold T_ iC su mu
  simp only [mo_en]
  rfl
 rw [e]
 exact AAp _ _
theorem APU (a b c d:FP2):XE (en a) (en b) (en c) (en d)=en ((d-b)*FD.inv (c-a)):=by unfold XE mu su iv;simp only [mo_en]
theorem APV (a b:FP2):XF (en a) (en b)=en ((a*a+a*a+a*a)*FD.inv (b+b)):=by unfold XF mu ad iv;simp only [mo_en]
theorem APW (r s:R P2):AU Tryz.prog 107 [va P2 r,va P2 s] (ve (Rg.add (mo r:P2) (mo s))):=by
 have r1:=APO r s
 have r2:=APP r s
 have r3:=APQ r s
 have r4:=APR r s
 have r5:=APS r s
 have r6:=APT r s
 generalize (mo r:P2)=p at *
 generalize (mo s:P2)=q at *
 have zz:rd (Bv true)=some (en (.inf:P2):R P2):=by kernel_rfl
 cases p with
 | inf=>exact AW MN AB Tryz.func107 r1 ⟨rfl,trivial⟩ rfl
 | pt a b=>cases q with
  | inf=>exact AW MN AB Tryz.func107 r2 ⟨rfl,rfl,trivial⟩ rfl
  | pt c d =>
   have eX:Bl (rX (.pt a b)) (rX (.pt c d))=decide (a=c):=N6 a c
   have eY:Bl (rY (.pt a b)) (rY (.pt c d))=decide (b=d):=N6 b d
   have eZ:B0 (rY (.pt a b))=decide (b=0):=KZ b
   rw [N0]
   by_cases hx:a=c
   ·rw [if_pos hx]
    by_cases hy:b=d
    ·by_cases h0:b=0
     ·rw [if_neg (fun h=>h.2 h0)]
      exact D2 (AW MN AB Tryz.func107 r5 ⟨rfl,rfl,by rw [eX,decide_eq_true hx];rfl,by rw [eY,decide_eq_true hy];rfl,by rw [eZ,decide_eq_true h0],trivial⟩ rfl) zz
     ·rw [if_pos ⟨hy,h0⟩]
      rw [show XF (rX (.pt a b)) (rY (.pt a b))=_ from APV a b] at r6
      exact D2 (AW MN AB Tryz.func107 r6 ⟨rfl,rfl,by rw [eX,decide_eq_true hx];rfl,by rw [eY,decide_eq_true hy];rfl,by rw [eZ,decide_eq_false h0],trivial⟩ rfl) (AAq a b c d _)
    ·rw [if_neg (fun h=>hy h.1)]
     exact D2 (AW MN AB Tryz.func107 r4 ⟨rfl,rfl,by rw [eX,decide_eq_true hx];rfl,by rw [eY,decide_eq_false hy];rfl,trivial⟩ rfl) zz
   ·rw [if_neg hx]
    rw [show XE (rX (.pt a b)) (rY (.pt a b)) (rX (.pt c d)) (rY (.pt c d))=_ from APU a b c d] at r3
    exact D2 (AW MN AB Tryz.func107 r3 ⟨rfl,rfl,by rw [eX,decide_eq_false hx];rfl,trivial⟩ rfl) (AAq a b c d _)
noncomputable def SJ1:List (FuncId×ASpec):=(75,Aj (Bz P2 fun r=>BB (B3 (mo r))))::(107,Aj (Dm P2 P2 fun r s=>ve (Rg.add (mo r:P2) (mo s))))::SJ0
theorem AAr:AX Tryz.prog SJ1:=⟨Ak Tryz.func75 (by kernel_rfl) (by kernel_rfl) (CC APN),Ak Tryz.func107 (by kernel_rfl) (by kernel_rfl) (EG APW),AAm⟩
abbrev J2:Type:=J FP2
noncomputable abbrev oJ1:Orc:=AH SJ1 KH
theorem APX:OrcOk Tryz.prog oJ1:=AK AAr BA
def lq (x y:Nat):Bool:=decide (x<y)
def CL (r:R FP2):Bool:=lq r.1 pN&&lq r.2 pN
theorem I7 {r:R FP2} (h:CL r=true):en (mo r:FP2)=r:=by
 obtain ⟨h1,h2⟩:=Bool.and_eq_true_iff.1 h
 exact Prod.ext (KK (of_decide_eq_true h1)) (KK (of_decide_eq_true h2))
theorem Hl (x:FP2):CL (en x)=true:=Bool.and_eq_true_iff.2 ⟨decide_eq_true x.a.isLt,decide_eq_true x.b.isLt⟩
noncomputable def qE (x:R FP2):R FP2:=ad FP2 (ad FP2 (mu FP2 x x) (mu FP2 x x)) (mu FP2 x x)
noncomputable def qD (x y:R FP2):R FP2:=ad FP2 (ad FP2 (mu FP2 x (mu FP2 y y)) (mu FP2 x (mu FP2 y y))) (ad FP2 (mu FP2 x (mu FP2 y y)) (mu FP2 x (mu FP2 y y)))
noncomputable def iE (y:R FP2):R FP2:=ad FP2 (mu FP2 (mu FP2 y y) (mu FP2 y y)) (mu FP2 (mu FP2 y y) (mu FP2 y y))
noncomputable def iF (y:R FP2):R FP2:=ad FP2 (iE y) (iE y)
noncomputable def qC8 (y:R FP2):R FP2:=ad FP2 (iF y) (iF y)
noncomputable def qX (x y:R FP2):R FP2:=su FP2 (mu FP2 (qE x) (qE x)) (ad FP2 (qD x y) (qD x y))
noncomputable def qY (x y:R FP2):R FP2:=su FP2 (mu FP2 (qE x) (su FP2 (qD x y) (qX x y))) (qC8 y)
noncomputable def qT (r:R J2):R J2:=(qX r.1 r.2.1,qY r.1 r.2.1,ad FP2 (mu FP2 r.2.1 r.2.2) (mu FP2 r.2.1 r.2.2))
theorem APY (r:R J2):AR Tryz.prog oJ1 Tryz.f76 [va J2 r] [] 500=some ([],va J2 (qT r)):=by kernel_rfl
theorem APZ (r:R J2):qT r=en (BV (mo r:J2)):=by
 unfold qT qY qX qC8 iF iE qD qE su mu ad
 simp only [mo_en]
 rfl
theorem APa (r:R J2):AU Tryz.prog 76 [va J2 r] (ve (BV (mo r:J2))):=by
 unfold ve
 rw [← APZ]
 exact AW APX AB Tryz.func76 (APY r) trivial rfl
noncomputable def SJ2:List (FuncId×ASpec):=(76,Aj (Bz J2 fun r=>ve (BV (mo r:J2))))::SJ1
theorem AAt:AX Tryz.prog SJ2:=⟨Ak Tryz.func76 (by kernel_rfl) (by kernel_rfl) (CC APa),AAr⟩
noncomputable abbrev oJ2:Orc:=AH SJ2 KH
theorem N7:OrcOk Tryz.prog oJ2:=AK AAt BA
noncomputable def qH (x z a:R FP2):R FP2:=su FP2 (mu FP2 a (mu FP2 z z)) x
noncomputable def qR (y z b:R FP2):R FP2:=su FP2 (mu FP2 b (mu FP2 (mu FP2 z z) z)) y
noncomputable def N8 (x h r:R FP2):R FP2:=su FP2 (su FP2 (mu FP2 r r) (mu FP2 (mu FP2 h h) h)) (ad FP2 (mu FP2 x (mu FP2 h h)) (mu FP2 x (mu FP2 h h)))
noncomputable def QE (x y h r:R FP2):R FP2:=su FP2 (mu FP2 r (su FP2 (mu FP2 x (mu FP2 h h)) (N8 x h r))) (mu FP2 y (mu FP2 (mu FP2 h h) h))
section
variable (p:R J2) (q:R P2)
def QF:List Ch:=List.replicate 36 (.n .u64 0)
theorem APb:AR Tryz.prog oJ2 Tryz.f77 [va J2 p,va P2 q] [true] 500=some ([(B0 p.2.2,true)],.val true (CB (av q.1) (CB (av q.2.1) (.n .u64 1::List.replicate 11 (.n .u64 0))))):=by kernel_rfl
theorem APc:AR Tryz.prog oJ2 Tryz.f77 [va J2 p,va P2 q] [false,true,true] 500=some ([(B0 p.2.2,false),(B0 (qH p.1 p.2.2 q.1),true),(B0 (qR p.2.1 p.2.2 q.2.1),true)],ve (BV (mo p:J2))):=by kernel_rfl
theorem APd:AR Tryz.prog oJ2 Tryz.f77 [va J2 p,va P2 q] [false,true,false,true] 500=some ([(B0 p.2.2,false),(B0 (qH p.1 p.2.2 q.1),true),(B0 (qR p.2.1 p.2.2 q.2.1),false),(B0 (qH p.1 p.2.2 q.1),true)],.val true QF):=by kernel_rfl
theorem APe:AR Tryz.prog oJ2 Tryz.f77 [va J2 p,va P2 q] [false,false,false] 500=some ([(B0 p.2.2,false),(B0 (qH p.1 p.2.2 q.1),false),(B0 (qH p.1 p.2.2 q.1),false)],
 va J2 (N8 p.1 (qH p.1 p.2.2 q.1) (qR p.2.1 p.2.2 q.2.1),QE p.1 p.2.1 (qH p.1 p.2.2 q.1) (qR p.2.1 p.2.2 q.2.1),mu FP2 p.2.2 (qH p.1 p.2.2 q.1))):=by kernel_rfl
end
theorem AAu (x y:R FP2):(rd (CB (av x) (CB (av y) (.n .u64 1::List.replicate 11 (.n .u64 0)))):Option (R J2))=some ((x,y,en (1:FP2)):R J2):=by kernel_rfl
theorem APf {p:R J2} {q:R P2} (hz:CL p.2.2=true) (hx:CL q.1=true) (hy:CL q.2.1=true):AU Tryz.prog 77 [va J2 p,va P2 q] (ve (FA (mo p:J2) (mo q.1) (mo q.2.1))):=by
 have ez:B0 p.2.2=decide ((mo p:J2).z=0):=by
  conv=>lhs;rw [← I7 hz]
  exact KZ _
 have eh:qH p.1 p.2.2 q.1=en (pH (mo p:J2) (mo q.1)):=by unfold qH su mu;simp only [mo_en];rfl
 have er:qR p.2.1 p.2.2 q.2.1=en (pR (mo p:J2) (mo q.2.1)):=by unfold qR su mu;simp only [mo_en];rfl
 have zh:B0 (qH p.1 p.2.2 q.1)=decide (pH (mo p:J2) (mo q.1)=0):=by rw [eh];exact KZ _
 have zr:B0 (qR p.2.1 p.2.2 q.2.1)=decide (pR (mo p:J2) (mo q.2.1)=0):=by rw [er];exact KZ _
 have r1:=APb p q
 have r2:=APc p q
 have r3:=APd p q
 have r4:=APe p q
 rw [zh,ez] at r2
 rw [zh,ez,zr] at r3
 rw [zr] at r2
 rw [zh,ez,eh,er] at r4
 rw [ez] at r1
 unfold FA
 by_cases h0:(mo p:J2).z=0
 ·rw [if_pos h0]
  refine D2 (α:=J2) (r:=(en (⟨mo q.1,mo q.2.1,1⟩:J2):R J2)) (AW N7 AB Tryz.func77 r1 ⟨decide_eq_true h0,trivial⟩ rfl) ?_
  have e:(en (⟨mo q.1,mo q.2.1,1⟩:J2):R J2)=(q.1,q.2.1,en (1:FP2)):=by
   show ((en (mo q.1:FP2),en (mo q.2.1:FP2),en (1:FP2)):R J2)=_
   rw [I7 hx,I7 hy]
  rw [e]
  exact AAu _ _
 ·rw [if_neg h0]
  by_cases hh:pH (mo p:J2) (mo q.1)=0
  ·rw [if_pos hh]
   by_cases hr:pR (mo p:J2) (mo q.2.1)=0
   ·rw [if_pos hr]
    exact AW N7 AB Tryz.func77 r2 ⟨decide_eq_false h0,decide_eq_true hh,decide_eq_true hr,trivial⟩ rfl
   ·rw [if_neg hr]
    exact D2 (α:=J2) (r:=(en (⟨0,0,0⟩:J2):R J2)) (AW N7 AB Tryz.func77 r3 ⟨decide_eq_false h0,decide_eq_true hh,decide_eq_false hr,decide_eq_true hh,trivial⟩ rfl) (by kernel_rfl)
  ·rw [if_neg hh]
   have e:((N8 p.1 (en (pH (mo p:J2) (mo q.1))) (en (pR (mo p:J2) (mo q.2.1))),QE p.1 p.2.1 (en (pH (mo p:J2) (mo q.1))) (en (pR (mo p:J2) (mo q.2.1))),mu FP2 p.2.2 (en (pH (mo p:J2) (mo q.1)))):R J2) =
     en (⟨pX (mo p:J2).x (pH (mo p:J2) (mo q.1)) (pR (mo p:J2) (mo q.2.1)),pY (mo p:J2).x (mo p:J2).y (pH (mo p:J2) (mo q.1)) (pR (mo p:J2) (mo q.2.1)),(mo p:J2).z*pH (mo p:J2) (mo q.1)⟩:J2):=by
    unfold QE N8 su mu ad
    simp only [mo_en]
    rfl
   rw [e] at r4
   exact AW N7 AB Tryz.func77 r4 ⟨decide_eq_false h0,decide_eq_false hh,decide_eq_false hh,trivial⟩ rfl
noncomputable def QG:List AV→Option (List (Bool×Bool)×AV)
 | [.val true a,.val true b]=>match (rd a:Option (R J2)),(rd b:Option (R P2)) with
  | some p,some q=>some ([(CL p.2.2,true),(CL q.1,true),(CL q.2.1,true)],ve (FA (mo p:J2) (mo q.1) (mo q.2.1)))
  | _,_=>none
 | _=>none
theorem APg:∀ args c v,QG args=some (c,v)→AQ c→AU Tryz.prog 77 args v:=by
 intro args c v hs hc us w ha
 unfold QG at hs
 split at hs
 case h_2=>cases hs
 split at hs
 case h_2=>cases hs
 rename_i p q hx hy
 injection hs with hs;injection hs with h1 h2;subst h1;subst h2
 obtain ⟨u1,us1,r1,⟨u2,us2,r2,ha,rfl⟩,rfl⟩:=ha
 exact APf hc.1 hc.2.1 hc.2.2.1 _ w ⟨u1,_,GC hx r1,⟨u2,_,GC hy r2,ha,rfl⟩,rfl⟩
def z6 (r:R J2):Bool:=dq r.1.1 0&&(dq r.1.2 0&&(dq r.2.1.1 0&&(dq r.2.1.2 0&&B0 r.2.2)))
section
variable (r:R J2)
theorem APh:AR Tryz.prog oJ2 Tryz.f78 [va J2 r] [true] 500=some ([(z6 r,true)],.val true (Bv true)):=by kernel_rfl
theorem APi:AR Tryz.prog oJ2 Tryz.f78 [va J2 r] [false,true] 500=some ([(z6 r,false),(B0 r.2.2,true)],.val true (Bv true)):=by kernel_rfl
noncomputable def qI (r:R J2):R FP2:=mu FP2 (iv FP2 r.2.2) (iv FP2 r.2.2)
theorem APj:AR Tryz.prog oJ2 Tryz.f78 [va J2 r] [false,false] 500=some ([(z6 r,false),(B0 r.2.2,false)],.val true (CB (av (mu FP2 r.1 (qI r))) (CB (av (mu FP2 r.2.1 (mu FP2 (qI r) (iv FP2 r.2.2)))) [.b false]))):=by kernel_rfl
end
theorem APk {r:R J2} (hz:CL r.2.2=true):AU Tryz.prog 78 [va J2 r] (ve (CU (mo r:J2))):=by
 have ez:B0 r.2.2=decide ((mo r:J2).z=0):=by
  conv=>lhs;rw [← I7 hz]
  exact KZ _
 have zz:rd (Bv true)=some (en (.inf:P2):R P2):=by kernel_rfl
 by_cases h0:(mo r:J2).z=0
 ·rw [GU h0]
  cases h3:z6 r with
  | true=>exact D2 (AW N7 AB Tryz.func78 (APh r) ⟨h3,trivial⟩ rfl) zz
  | false=>exact D2 (AW N7 AB Tryz.func78 (APi r) ⟨h3,by rw [ez];exact decide_eq_true h0,trivial⟩ rfl) zz
 ·have h3:z6 r=false:=by unfold z6;rw [ez,decide_eq_false h0];simp
  rw [IL h0]
  refine D2 (AW N7 AB Tryz.func78 (APj r) ⟨h3,by rw [ez];exact decide_eq_false h0,trivial⟩ rfl) ?_
  have e:(en (.pt ((mo r:J2).x*(FD.inv (mo r:J2).z*FD.inv (mo r:J2).z)) ((mo r:J2).y*((FD.inv (mo r:J2).z*FD.inv (mo r:J2).z)*FD.inv (mo r:J2).z)):P2):R P2)=(mu FP2 r.1 (qI r),mu FP2 r.2.1 (mu FP2 (qI r) (iv FP2 r.2.2)),false):=by
   unfold qI mu iv
   simp only [mo_en]
   rfl
  rw [e]
  exact AAp _ _
noncomputable def iG:List AV→Option (List (Bool×Bool)×AV)
 | [.val true a]=>match (rd a:Option (R J2)) with
  | some p=>some ([(CL p.2.2,true)],ve (CU (mo p:J2)))
  | _=>none
 | _=>none
theorem APl:∀ args c v,iG args=some (c,v)→AQ c→AU Tryz.prog 78 args v:=by
 intro args c v hs hc us w ha
 unfold iG at hs
 split at hs
 case h_2=>cases hs
 split at hs
 case h_2=>cases hs
 rename_i p hx
 injection hs with hs;injection hs with h1 h2;subst h1;subst h2
 obtain ⟨u1,us1,r1,ha,rfl⟩:=ha
 exact APk hc.1 _ w ⟨u1,_,GC hx r1,ha,rfl⟩
noncomputable def SJ3:List (FuncId×ASpec):=(77,EE QG)::(78,EE iG)::SJ2
theorem AAv:AX Tryz.prog SJ3:=⟨El Tryz.func77 (by kernel_rfl) (by kernel_rfl) APg,El Tryz.func78 (by kernel_rfl) (by kernel_rfl) APl,AAt⟩
noncomputable abbrev oJ3:Orc:=AH SJ3 KH
theorem QH:OrcOk Tryz.prog oJ3:=AK AAv BA
noncomputable section
theorem T' {off n:Nat} {xs:List Int} (hall:∀ d∈xs,0≤d∧d<18446744073709551616) (hn:n≤1125899906842624) {c:Nat} (hc:c<64*n) :
  wI (Int.tdiv (c:Int) 64)=((c / 64:Nat):Int)∧c / 64<n∧0≤B6 xs off c∧0≤Int.tmod (c:Int) 64∧IB (B6 xs off c) (Int.tmod c 64)=((AF (AA xs off n) / 2^c % 2:Nat):Int):=by
 have hq:Int.tdiv (c:Int) 64=((c / 64:Nat):Int):=by rw [Int.tdiv_eq_ediv_of_nonneg (by omega)];rfl
 have hr:Int.tmod (c:Int) 64=((c % 64:Nat):Int):=by rw [Int.tmod_eq_emod_of_nonneg (by omega)];rfl
 have hw:wI (Int.tdiv (c:Int) 64)=((c / 64:Nat):Int):=by rw [hq];exact Am (by omega)
 have hjn:c / 64<n:=by omega
 have hlt:∀ d∈AA xs off n,0≤d∧d<18446744073709551616:=Cp hall
 have hv:B6 xs off c=(AA xs off n).getD (c / 64) 0:=by
  unfold B6
  rw [hw,Int.toNat_natCast,Nat.mul_one]
  exact (G8 hjn).symm
 have hvb:0≤B6 xs off c∧B6 xs off c<18446744073709551616:=by rw [hv];exact J5 hlt _
 refine ⟨hw,hjn,hvb.1,by rw [hr];omega,?_⟩
 obtain ⟨V,hV⟩:=Int.eq_ofNat_of_zero_le hvb.1
 rw [hr,← TL _ c hlt,← hv,hV,Int.toNat_natCast]
 exact TJ V _ (by omega) (by omega)
theorem XH {off n:Nat} {xs:List Int} (hall:∀ d∈xs,0≤d∧d<18446744073709551616) (hlen:off+n≤xs.length):AF (AA xs off n)<2^(64*n):=by
 have hl:=G7 (AA xs off n) (Cp hall)
 unfold AA at hl ⊢
 rwa [List.length_take,List.length_drop,Nat.min_eq_left (by omega)] at hl
theorem UA (E c:Nat):E / 2^c=2*(E / 2^(c+1))+E / 2^c % 2:=by rw [Nat.pow_succ,← Nat.div_div_eq_div_mul];omega
noncomputable def APm:List Item:=Be (AS Tryz.prog oJ3 (some 0) 500 1 none (Af Tryz.f24 [AI 0 0 0 0,ve (.pt 0 0:P2)] (Az []) 1 [false,false]))
noncomputable def hmT (off n m:Nat) (i:Int):List AV:=.val false [.sl 0 off n m]::.any::.any::.val false [.p 1 0]::.val false [.p 2 0]::.val false [.n .i64 0]::.val false [.p 3 0]::.val false [.v (.int .i64 i)]::List.replicate (Tryz.f24.ntmps-8) .any
def hmH (xs:List Int) (p:P2):Heap:=[(0,some (Ai [.seq .u64 xs])),(1,some ⟨41,av (en p:R P2),false⟩),(2,some ⟨41,Bv false,false⟩)]
noncomputable def Ke (off n m:Nat) (xs:List Int) (p:P2) (out:List Ch) (i:Int) (path:List Bool):ASt:=⟨APm,⟨hmT off n m i,List.append (hmH xs p) [(3,some ⟨98,out,false⟩)],4,path⟩⟩
def jC2 (j:J2):List Ch:=av (en j:R J2)
def jR (j:J2):J2:=mo (en j:R J2)
def XI (j:J2) (p:P2):J2:=FA (mo (en (BV (jR j)):R J2)) (mo (rX p)) (mo (rY p))
def MO (r:R P2) (off n m:Nat):List AV:=[AI 0 off n m,va P2 r]
def XJ (p:P2):P2:=mo (en p:R P2)
abbrev kM:Option (List Nat×List Nat×Nat):=some ([0,3,4,5,6,7],[0,1,2,3],4)
theorem APp (r:R P2) (off n m:Nat) (xs:List Int):AS Tryz.prog oJ3 (some 0) 500 1 kM (Af Tryz.f24 (MO r off n m) (Az xs) 1 [false,false]) =
 some ([(!B3 (XJ (mo r)),false),(B7 (mo r:P2),false),(AJ .i64 n,true)],[],Ke off n m xs (mo r) QF (wI (wI (64*(n:Int))-1)) []):=by kernel_rfl
def Hm (q:P2) (e:Int):AV:=.tup [(true,av (en q:R P2)),(false,[.v (.int .i64 e)])]
def UB (q:P2) (e:Int):AV:=.tup [(true,av (en q:R P2)),(false,[.n .i64 e])]
theorem APq (r:R P2) (off n m:Nat) (xs:List Int):AM Tryz.prog oJ3 Tryz.f24 500 1 [] (Af Tryz.f24 (MO r off n m) (Az xs) 1 [true]) =
 some ([(!B3 (XJ (mo r)),true)],[],.tup [(true,Bv false),(false,[.n .i64 120])],[]):=by kernel_rfl
theorem APr (r:R P2) (off n m:Nat) (xs:List Int):AM Tryz.prog oJ3 Tryz.f24 500 1 [] (Af Tryz.f24 (MO r off n m) (Az xs) 1 [false,true]) =
 some ([(!B3 (XJ (mo r)),false),(B7 (mo r:P2),true)],[],UB (mo r) 0,[]):=by kernel_rfl
section
variable (off n m:Nat) (xs:List Int) (p:P2) (j:J2) (i:Int)
theorem APs:AS Tryz.prog oJ3 (some 0) 500 1 kM (Ke off n m xs p (jC2 j) i [true,true])=some (P_ off n xs i true [],[],Ke off n m xs p (jC2 (BV (jR j))) (wI (i-1)) []):=by kernel_rfl
theorem APt:AS Tryz.prog oJ3 (some 0) 500 1 kM (Ke off n m xs p (jC2 j) i [true,false]) =
 some (P_ off n xs i false [(CL (en (BV (jR j))).2.2,true),(CL (rX p),true),(CL (rY p),true)],[],Ke off n m xs p (jC2 (XI j p)) (wI (i-1)) []):=by kernel_rfl
theorem APu:AM Tryz.prog oJ3 Tryz.f24 500 1 [] (Ke off n m xs p (jC2 j) i [false])=some ([(decide (0≤i),false),(CL (en j).2.2,true)],[],UB (CU (jR j)) 0,[]):=by kernel_rfl
end
theorem iH (off n m:Nat) (xs:List Int) (p:P2) (j:J2) (i:Int) (q:List Bool):B4 Tryz.f24.ntmps (Ke off n m xs p (jC2 j) i q).s:=AL (by kernel_rfl)
theorem AAw (β:Env) (l:List Value) (h:AN β QF l):AN β (jC2 ⟨0,0,0⟩) l:=Sh.rd_ok (r:=(en (⟨0,0,0⟩:J2):R J2)) (by kernel_rfl:rd QF=some (en (⟨0,0,0⟩:J2):R J2)) h
section
variable {off n m:Nat} {xs:List Int} (hall:∀ d∈xs,0≤d∧d<18446744073709551616) (hlen:off+n≤xs.length) (hn:n≤1125899906842624) {p:P2} (hP:Rg.On C2.b p) (hI:B7 p=false) {β0:Env} {w0:World} (hb:∀ b,1≤b→β0 b=none)
include hall hlen hn hb hP hI
theorem APv:∀ (c:Nat) (j:J2),CU j=BH (AF (AA xs off n) / 2^c) p→c≤64*n→ASafe Tryz.prog 24 β0 w0 (Ay β0 w0 [] (UB (BH (AF (AA xs off n)) p) 0) []) Tryz.f24.ntmps [] (Ke off n m xs p (jC2 j) ((c:Int)-1) []):=by
 intro c
 induction c with
 | zero =>
  intro j hj _
  have h:ASafe Tryz.prog 24 β0 w0 (Ay β0 w0 [] (UB (CU (jR j)) 0) []) Tryz.f24.ntmps [] (Ke off n m xs p (jC2 j) (((0:Nat):Int)-1) [false]) :=
   As QH AB Tryz.func24 (APu ..) ⟨rfl,Hl j.z,trivial⟩ (iH ..) hb (fun _ h=>by cases h)
  unfold jR at h
  rw [mo_en,hj,Nat.pow_zero,Nat.div_one] at h
  exact Ab [false] h
 | succ c ih =>
  intro j hj hc
  have hi:((c+1:Nat):Int)-1=(c:Int):=by omega
  rw [hi]
  obtain ⟨hw,hjn,hv0,hr0,hbit⟩:=T' (off:=off) hall hn (c:=c) (by omega)
  have hnext:wI ((c:Int)-1)=(c:Int)-1:=Am (by omega)
  have hconds:∀ Bs r,decide (IB (B6 xs off c) (Int.tmod c 64)=0)=Bs→AQ r→AQ (P_ off n xs c Bs r):=by
   intro Bs r hbt hr'
   refine ⟨by simp,rfl,?_,?_,by simp,by simp only [decide_eq_true_eq];exact ⟨hr0,hv0⟩,hbt,hr'⟩
   ·rw [hw];simp;omega
   ·rw [hw];simp;omega
  have hoj:Rg.On C2.b (CU j):=by rw [hj];exact GT C2 hP _
  have ejR:jR j=j:=mo_en j
  have htw:CU (BV (jR j))=BH (2*(AF (AA xs off n) / 2^(c+1))) p:=by
   rw [ejR,P1 C2 hoj,hj,← N1 C2 hP,Nat.two_mul]
  have hd:=UA (AF (AA xs off n)) c
  rcases Nat.mod_two_eq_zero_or_one (AF (AA xs off n) / 2^c) with h0 | h1
  ·refine Ab [true,true] (Ae QH AB (APs ..) (hconds true [] (by rw [hbit,h0];rfl) trivial) (iH ..) hb (fun _ h=>by cases h) fun _=>?_)
   rw [hnext]
   refine ih _ ?_ (by omega)
   rw [htw,hd,h0];rfl
  ·refine Ab [true,false] (Ae QH AB (APt ..) (hconds false _ (by rw [hbit,h1];rfl) ⟨Hl (BV (jR j)).z,Hl (I2 p),Hl (D1 p),trivial⟩) (iH ..) hb (fun _ h=>by cases h) fun _=>?_)
   rw [hnext]
   refine ih _ ?_ (by omega)
   unfold XI
   rw [mo_en,Tv C2 (by rw [htw];exact GT C2 hP _),htw,hd,h1]
   cases p with
   | inf=>cases hI
   | pt a b =>
    show add _ (.pt (mo (en a)) (mo (en b)))=_
    rw [mo_en,mo_en];rfl
end
def CM (N:Nat) (p:P2):P2:=if B3 p=true then BH N p else .pt 0 0
def EH (p:P2):Int:=if B3 p=true then 0 else 120
theorem AAx {β:Env} {q:P2} {e:Int} {u:Value} (h:AP β (UB q e) u):AP β (Hm q e) u:=Cy (fun _ q=>q) (fun _ q=>Df rfl q) h
theorem APw {off n m:Nat} {xs:List Int} (hall:∀ d∈xs,0≤d∧d<18446744073709551616) (hlen:off+n≤xs.length) (hn:n≤1125899906842624) (r:R P2) :
  Ad Tryz.prog 24 (MO r off n m) (Az xs) 1 [] (Hm (CM (AF (AA xs off n)) (mo r)) (EH (mo r))) []:=by
 have e1:=APp r off n m xs
 have e2:=APq r off n m xs
 have e3:=APr r off n m xs
 unfold XJ at e1 e2 e3
 rw [mo_en] at e1 e2 e3
 generalize (mo r:P2)=p at *
 cases ho:B3 p with
 | false =>
  unfold CM EH
  rw [if_neg (by rw [ho];exact Bool.false_ne_true),if_neg (by rw [ho];exact Bool.false_ne_true)]
  refine BU (Av (path:=[true]) Tryz.func24 (by kernel_rfl) (by kernel_rfl) fun β0 w0 hb =>
   As QH AB Tryz.func24 e2 ⟨by rw [ho];rfl,trivial⟩ (AL (by kernel_rfl)) hb (fun _ h=>by cases h)) fun β u hu=>?_
  exact Cy (fun _ q=>GC (r:=(en (.pt 0 0:P2):R P2)) (by kernel_rfl) q) (fun _ q=>Df rfl q) hu
 | true =>
  have hP:=(AAn p).1 ho
  unfold CM EH
  rw [if_pos ho,if_pos ho]
  cases hI:B7 p with
  | true =>
   have hp:p=.inf:=by cases p with | inf=>rfl | pt a b=>cases hI
   have hs:BH (AF (AA xs off n)) p=p:=by rw [hp,Py]
   rw [hs]
   exact BU (Av (path:=[false,true]) Tryz.func24 (by kernel_rfl) (by kernel_rfl) fun β0 w0 hb =>
    As QH AB Tryz.func24 e3 ⟨by rw [ho];rfl,hI,trivial⟩ (AL (by kernel_rfl)) hb (fun _ h=>by cases h)) fun β u hu=>AAx hu
  | false =>
   refine BU (Av (path:=[false,false]) Tryz.func24 (by kernel_rfl) (by kernel_rfl) fun β0 w0 hb=>?_) fun β u hu=>AAx hu
   refine Ae QH AB e1 ⟨by rw [ho];rfl,hI,Nu hn,trivial⟩ (AL (by kernel_rfl)) hb (fun _ h=>by cases h) fun _=>?_
   have e4:wI (wI (64*(n:Int))-1)=((64*n:Nat):Int)-1:=by
    rw [Am (z:=64*(n:Int)) (by omega),Am (by omega)];omega
   rw [e4]
   refine Wv AAw (APv hall hlen hn hP hI hb (64*n) ⟨0,0,0⟩ ?_ (Nat.le_refl _))
   rw [GU rfl,Nat.div_eq_of_lt (XH hall hlen)];rfl
def XK (α:Type) [Sh α] (g:List Int→R α→AV):ASpec:=fun args H fr path =>
 match args with
 | [S,.val true a]=>match By S with
  | some (k,off,n)=>match (rd a:Option (R α)),AG H k with
   | some r,some ⟨_,cs,_⟩=>match Ao .u64 cs with
    | some xs=>some (A5 [k] 1 fr 0 [] (g (AA xs off n) r) [] [(Nat.ble (off+n) xs.length,true),(Nat.ble n 1125899906842624,true)] path)
    | none=>none
   | _,_=>none
  | none=>none
 | _=>none
theorem AAy {α:Type} [Sh α] {f:FuncId} {fn:Func} {g:List Int→R α→AV} (hfn:Tryz.prog.funcs[f]? = some fn) (hb:fn.body.isSome=true) (hname:(fn.name=="runtime.NumGoroutine")=false) (hk:∀ l r,Cu 1 0 [] (g l r) []=true)
  (h:∀ (off n m:Nat) (xs:List Int) (r:R α),(∀ d∈xs,0≤d∧d<18446744073709551616)→off+n≤xs.length→n≤1125899906842624→Ad Tryz.prog f [AI 0 off n m,va α r] (Az xs) 1 [] (g (AA xs off n) r) []):A6 Tryz.prog f (XK α g):=by
 refine CS hfn hb hname fun args H fr path r hs=>?_
 unfold XK at hs
 split at hs
 case h_2=>cases hs
 rename_i S a
 split at hs
 case h_2=>cases hs
 rename_i k off n hS
 split at hs
 case h_2=>cases hs
 rename_i q ty cs o hx hk'
 split at hs
 case h_2=>cases hs
 rename_i xs hxs
 injection hs with hs
 refine ⟨[k],1,0,[],_,_,_,path,hs.symm,fun β us w ha hg hc=>?_⟩
 obtain ⟨u1,us1,r1,⟨u2,us2,r2,ha,rfl⟩,rfl⟩:=ha
 obtain ⟨m,r1⟩:=DF hS r1
 obtain ⟨g1,g2,g3⟩:=HU hg hk' hxs
 exact ⟨[AI 0 off n m,va α q],Az xs,h off n m xs q g1 (Nat.le_of_ble_eq_true hc.1) (Nat.le_of_ble_eq_true hc.2.1),hk _ _,⟨u1,_,BS (by omega) rfl r1,⟨u2,us2,GC hx r2,ha,rfl⟩,rfl⟩,g2,g3⟩
def SJ4:List (FuncId×ASpec):=(24,Du (XK P2 fun l r=>Hm (CM (AF l) (mo r)) (EH (mo r))))::SJ3
theorem APx:AX Tryz.prog SJ4:=⟨EM (AAy Tryz.func24 (by kernel_rfl) (by kernel_rfl) (fun _ _=>by kernel_rfl) fun _ _ _ _ r hx hl hn=>APw hx hl hn r),AAv⟩
end
noncomputable section
def rQ:Nat:=0x73eda753299d7d483339d80809a1d80553bda402fffe5bfeffffffff00000001
theorem AAz:∃ n,n=rQ:=⟨_,rfl⟩
def rN:Nat:=Classical.choose AAz
theorem rN_eq:rN=rQ:=Classical.choose_spec AAz
def RL:List Int:=[0xffffffff00000001,0x53bda402fffe5bfe,0x3339d80809a1d805,0x73eda753299d7d48]
theorem XL:AF (AA RL 0 4)=rN:=(by kernel_rfl:AF (AA RL 0 4)=rQ).trans rN_eq.symm
def iI:List Ch:=RL.map fun i=>.n .u64 i
theorem APy:AR Tryz.prog (AH S0 K0) Tryz.f129 [] [] 100=some ([],.val true iI):=by kernel_rfl
theorem APz:AU Tryz.prog 129 [] (.val true iI):=AW (AK G2 Aa) AB Tryz.func129 APy trivial rfl
def SJa:List (FuncId×ASpec):=(129,Aj (ev FP (.val true iI)))::SJ4
theorem AA0:AX Tryz.prog SJa:=⟨Ak Tryz.func129 (by kernel_rfl) (by kernel_rfl) (XD (α:=FP) APz),APx⟩
abbrev oJa:Orc:=AH SJa KH
theorem AA1:OrcOk Tryz.prog oJa:=AK AA0 BA
def SJb:List (FuncId×ASpec):=(93,BY Tryz.prog oJa Tryz.f93 100)::(95,BY Tryz.prog oJa Tryz.f95 100)::SJa
theorem AA2:AX Tryz.prog SJb:=⟨Bj AA1 AB Tryz.func93 (by kernel_rfl) (by kernel_rfl) 100,Bj AA1 AB Tryz.func95 (by kernel_rfl) (by kernel_rfl) 100,AA0⟩
abbrev oJb:Orc:=AH SJb KH
theorem AA3:OrcOk Tryz.prog oJb:=AK AA2 BA
def SJc:List (FuncId×ASpec):=(92,BY Tryz.prog oJb Tryz.f92 300)::(94,BY Tryz.prog oJb Tryz.f94 300)::SJb
theorem AA4:AX Tryz.prog SJc:=⟨Bj AA3 AB Tryz.func92 (by kernel_rfl) (by kernel_rfl) 300,Bj AA3 AB Tryz.func94 (by kernel_rfl) (by kernel_rfl) 300,AA2⟩
abbrev oJc:Orc:=AH SJc KH
theorem XM:OrcOk Tryz.prog oJc:=AK AA4 BA
def Bh (p:Pt FP):Bool:=CA p&&BL (BH rN p)
def BQ (p:P2):Bool:=B3 p&&B7 (BH rN p)
def rW:List Int:=AA RL (0+0*1) (4-0)
theorem AA5:AF rW=rN:=XL
section
variable (r:R P2) (x y:Nat) (i:Bool)
theorem AP0:AR Tryz.prog oJc Tryz.f31 [va P2 r] [true] 500=some (tt 2 [(decide (EH (mo r)=0),true)],BB (en (CM (AF rW) (mo r)):R P2).2.2):=by kernel_rfl
theorem AP1:AR Tryz.prog oJc Tryz.f31 [va P2 r] [false] 500=some (tt 2 [(decide (EH (mo r)=0),false)],.val false [.b false]):=by kernel_rfl
theorem AP2:AR Tryz.prog oJc Tryz.f30 [Ba x y i] [true] 500=some (tt 2 [(decide (FT (Ah x y i)=0),true)],BB (BL (Es (AF rW) (Ah x y i)))):=by kernel_rfl
theorem AP3:AR Tryz.prog oJc Tryz.f30 [Ba x y i] [false] 500=some (tt 2 [(decide (FT (Ah x y i)=0),false)],.val false [.b false]):=by kernel_rfl
end
theorem AP4 (r:R P2):AU Tryz.prog 31 [va P2 r] (BB (BQ (mo r))):=by
 have h1:=AP0 r
 have h2:=AP1 r
 generalize (mo r:P2)=p at *
 unfold BQ
 cases ho:B3 p with
 | true =>
  have e:en (CM (AF rW) p)=(en (BH rN p):R P2):=by unfold CM;rw [if_pos ho,AA5]
  rw [e] at h1
  exact AW XM AB Tryz.func31 h1 (Ac 2 ⟨by unfold EH;rw [if_pos ho];rfl,trivial⟩) rfl
 | false=>exact C7 (AW XM AB Tryz.func31 h2 (Ac 2 ⟨by unfold EH;rw [if_neg (by rw [ho];exact Bool.false_ne_true)];rfl,trivial⟩) rfl) fun u hu=>It rfl hu
theorem AP5 (x y:Nat) (i:Bool):AU Tryz.prog 30 [Ba x y i] (BB (Bh (Ah x y i))):=by
 have h1:=AP2 x y i
 have h2:=AP3 x y i
 generalize Ah x y i=p at *
 unfold Bh
 cases ho:CA p with
 | true =>
  have e:Es (AF rW) p=BH rN p:=by unfold Es;rw [if_pos ho,AA5]
  rw [e] at h1
  exact AW XM AB Tryz.func30 h1 (Ac 2 ⟨by unfold FT;rw [if_pos ho];rfl,trivial⟩) rfl
 | false=>exact C7 (AW XM AB Tryz.func30 h2 (Ac 2 ⟨by unfold FT;rw [if_neg (by rw [ho];exact Bool.false_ne_true)];rfl,trivial⟩) rfl) fun u hu=>It rfl hu
def SJd:List (FuncId×ASpec):=(30,Aj (MH fun p=>BB (Bh p)))::(31,Aj (Bz P2 fun r=>BB (BQ (mo r))))::SJc
theorem AA6:AX Tryz.prog SJd:=⟨Ak Tryz.func30 (by kernel_rfl) (by kernel_rfl) (P4 AP5),Ak Tryz.func31 (by kernel_rfl) (by kernel_rfl) (CC AP4),AA4⟩
end
noncomputable section
abbrev oJd:Orc:=AH SJd KH
theorem AA7:OrcOk Tryz.prog oJd:=AK AA6 BA
def SJe:List (FuncId×ASpec):=(140,BY Tryz.prog oJd Tryz.f140 100)::(79,BY Tryz.prog oJd Tryz.f79 500)::SJd
theorem AA8:AX Tryz.prog SJe:=⟨Bj AA7 AB Tryz.func140 (by kernel_rfl) (by kernel_rfl) 100,Bj AA7 AB Tryz.func79 (by kernel_rfl) (by kernel_rfl) 500,AA6⟩
abbrev oJe:Orc:=AH SJe KH
theorem iJ:OrcOk Tryz.prog oJe:=AK AA8 BA
def DH (a:FP2):Bool:=if a.b=0 then BE a.a.val else BE a.b.val
theorem AP6 (r:R FP2):AR Tryz.prog oJe Tryz.f82 [va FP2 r] [true] 300=some ([(dq (re FP r.2) 0,true)],BB (BE r.1)):=by kernel_rfl
theorem AP7 (r:R FP2):AR Tryz.prog oJe Tryz.f82 [va FP2 r] [false] 300=some ([(dq (re FP r.2) 0,false)],BB (BE r.2)):=by kernel_rfl
theorem XN (x:Nat):BE x=BE (tf x).val:=by
 unfold BE DM
 show _=decide ((pN-x % pN % pN) % pN<x % pN % pN)
 rw [Nat.mod_mod]
theorem AP8 (r:R FP2):AU Tryz.prog 82 [va FP2 r] (BB (DH (mo r))):=by
 have e:dq (re FP r.2) 0=decide ((mo r:FP2).b=0):=KY (mo r:FP2).b 0
 have h1:=AP6 r
 have h2:=AP7 r
 unfold DH
 by_cases h:(mo r:FP2).b=0
 ·rw [if_pos h]
  rw [show BE r.1=BE (mo r:FP2).a.val from XN _] at h1
  exact AW iJ AB Tryz.func82 h1 ⟨by rw [e];exact decide_eq_true h,trivial⟩ rfl
 ·rw [if_neg h]
  rw [show BE r.2=BE (mo r:FP2).b.val from XN _] at h2
  exact AW iJ AB Tryz.func82 h2 ⟨by rw [e];exact decide_eq_false h,trivial⟩ rfl
def SJf:List (FuncId×ASpec):=(80,BY Tryz.prog oJe Tryz.f80 300)::(82,Aj (Bz FP2 fun r=>BB (DH (mo r))))::SJe
theorem DY:AX Tryz.prog SJf:=⟨Bj iJ AB Tryz.func80 (by kernel_rfl) (by kernel_rfl) 300,Ak Tryz.func82 (by kernel_rfl) (by kernel_rfl) (CC AP8),AA8⟩
abbrev oJf:Orc:=AH SJf KH
theorem CE:OrcOk Tryz.prog oJf:=AK DY BA
def Cr (l:List Int) (f:Int):List Int:=l.set 0 (bits .or .u8 (l.getD 0 0) f)
def b1 (p:Pt FP):List Int:=BK (Cz p % pN) 48++BK (BT p % pN) 48
def eE (s:Bool) (k:Nat):AV:=match s with
 | true=>.tup [(false,[.sl 7 0 k k]),(false,[.n .i64 0])]
 | false=>.tup [(false,[.sx 7 (2*k) 1]),(false,[.n .i64 0])]
def eH (l:List Int):Heap:=[(7,some ⟨5,[.seq .u8 l],true⟩)]
section
variable (x y:Nat) (i:Bool)
noncomputable def N9 (s:Bool) (p:List Bool):ASt:=Af Tryz.f26 [Ba x y i,.val false [.b s]] [] 0 p
theorem AP9 (s:Bool):AM Tryz.prog oJf Tryz.f26 800 0 [] (N9 x y i s [true])=some ([(!Bh (Ah x y i),true)],[],.tup [(false,[.v (.slice none 0 0)]),(false,[.n .i64 140])],[]):=by kernel_rfl
def eC (p:Pt FP) (r:List (Bool×Bool)):List (Bool×Bool):=(!Bh p,false)::tt 10 ((false,false)::r)
theorem AP_:AM Tryz.prog oJf Tryz.f26 800 0 [7] (N9 x y i false [false,true,true,false,true])=some (eC (Ah x y i) ((BL (Ah x y i),true)::tt 4 []),[],eE false 48,eH (Cr (b1 (Ah x y i)) 64)):=by kernel_rfl
theorem AP':AM Tryz.prog oJf Tryz.f26 800 0 [7] (N9 x y i false [false,true,true,false,false])=some (eC (Ah x y i) [(BL (Ah x y i),false)],[],eE false 48,eH (b1 (Ah x y i))):=by kernel_rfl
theorem AQA:AM Tryz.prog oJf Tryz.f26 800 0 [7] (N9 x y i true [false,true,true,false,true,false])=some (eC (Ah x y i) (tt 10 ((BL (Ah x y i),true)::tt 4 [(BE (BT (Ah x y i)),false)])),[],eE true 48,eH (Cr (Cr (b1 (Ah x y i)) 128) 64)):=by kernel_rfl
theorem AQB:AM Tryz.prog oJf Tryz.f26 800 0 [7] (N9 x y i true [false,true,true,false,false,true,true])=some (eC (Ah x y i) (tt 10 ((BL (Ah x y i),false)::(BE (BT (Ah x y i)),true)::(!BL (Ah x y i),true)::tt 4 [])),[],eE true 48,eH (Cr (Cr (b1 (Ah x y i)) 128) 32)):=by kernel_rfl
theorem AQC:AM Tryz.prog oJf Tryz.f26 800 0 [7] (N9 x y i true [false,true,true,false,false,false])=some (eC (Ah x y i) (tt 10 [(BL (Ah x y i),false),(BE (BT (Ah x y i)),false)]),[],eE true 48,eH (Cr (b1 (Ah x y i)) 128)):=by kernel_rfl
end
def DZ (s:Bool) (p:Pt FP):List Int:=match s,BL p with
 | false,true=>Cr (b1 p) 64
 | false,false=>b1 p
 | true,true=>Cr (Cr (b1 p) 128) 64
 | true,false=>if BE (BT p)=true then Cr (Cr (b1 p) 128) 32 else Cr (b1 p) 128
theorem AQD {x y:Nat} {i s:Bool} (hin:Bh (Ah x y i)=true):Ad Tryz.prog 26 [Ba x y i,.val false [.b s]] [] 0 [] (eE s 48) (eH (DZ s (Ah x y i))):=by
 have h1:=AP_ x y i
 have h2:=AP' x y i
 have h3:=AQA x y i
 have h4:=AQB x y i
 have h5:=AQC x y i
 unfold N9 at *
 generalize Ah x y i=p at *
 have hC:∀ r,AQ r→AQ (eC p r):=fun r hr=>⟨by rw [hin];rfl,Ac 10 ⟨rfl,hr⟩⟩
 unfold DZ
 cases s with
 | false=>cases hp:BL p with
  | true=>exact A2 DY BA Tryz.func26 (by kernel_rfl) (by kernel_rfl) h1 (by kernel_rfl) (hC _ ⟨hp,Ac 4 trivial⟩)
  | false=>exact A2 DY BA Tryz.func26 (by kernel_rfl) (by kernel_rfl) h2 (by kernel_rfl) (hC _ ⟨hp,trivial⟩)
 | true=>cases hp:BL p with
  | true =>
   have hb:BE (BT p)=false:=by
    have:p=.inf:=by cases p with | inf=>rfl | pt a b=>cases hp
    rw [this];rfl
   exact A2 DY BA Tryz.func26 (by kernel_rfl) (by kernel_rfl) h3 (by kernel_rfl) (hC _ (Ac 10 ⟨hp,Ac 4 ⟨hb,trivial⟩⟩))
  | false =>
   by_cases hb:BE (BT p)=true
   ·simp only [if_pos hb]
    exact A2 DY BA Tryz.func26 (by kernel_rfl) (by kernel_rfl) h4 (by kernel_rfl) (hC _ (Ac 10 ⟨hp,hb,by rw [hp];rfl,Ac 4 trivial⟩))
   ·simp only [if_neg hb]
    exact A2 DY BA Tryz.func26 (by kernel_rfl) (by kernel_rfl) h5 (by kernel_rfl) (hC _ (Ac 10 ⟨hp,by simpa using hb,trivial⟩))
end
noncomputable section
def I8 (x:Nat):List Int:=BK (x % pN) 48
def b2 (p:P2):List Int:=((I8 (rX p).2++I8 (rX p).1)++I8 (rY p).2)++I8 (rY p).1
def N_ (s:Bool) (k:Nat):AV:=match s with
 | true=>.tup [(false,[.sl 13 0 k k]),(false,[.n .i64 0])]
 | false=>.tup [(false,[.sx 13 (2*k) 1]),(false,[.n .i64 0])]
def OA (l:List Int):Heap:=[(13,some ⟨5,[.seq .u8 l],true⟩)]
section
variable (r:R P2)
noncomputable def OB (s:Bool) (p:List Bool):ASt:=Af Tryz.f27 [va P2 r,.val false [.b s]] [] 0 p
theorem AQE (s:Bool):AM Tryz.prog oJf Tryz.f27 800 0 [] (OB r s [true])=some ([(!BQ (mo r),true)],[],.tup [(false,[.v (.slice none 0 0)]),(false,[.n .i64 140])],[]):=by kernel_rfl
def QI (p:P2) (l:List (Bool×Bool)):List (Bool×Bool):=(!BQ p,false)::tt 20 ((false,false)::l)
theorem AQF:AM Tryz.prog oJf Tryz.f27 1200 0 [13] (OB r false [false,true,true,true,true,false,true])=some (QI (mo r) ((B7 (mo r:P2),true)::tt 4 []),[],N_ false 96,OA (Cr (b2 (mo r)) 64)):=by kernel_rfl
theorem AQG:AM Tryz.prog oJf Tryz.f27 1200 0 [13] (OB r false [false,true,true,true,true,false,false])=some (QI (mo r) [(B7 (mo r:P2),false)],[],N_ false 96,OA (b2 (mo r))):=by kernel_rfl
def MP (p:P2):Bool:=DH (mo (rY p))
theorem AQH:AM Tryz.prog oJf Tryz.f27 1200 0 [13] (OB r true [false,true,true,true,true,false,true,false])=some (QI (mo r) (tt 10 ((B7 (mo r:P2),true)::tt 4 [(MP (mo r),false)])),[],N_ true 96,OA (Cr (Cr (b2 (mo r)) 128) 64)):=by kernel_rfl
theorem AQI:AM Tryz.prog oJf Tryz.f27 1200 0 [13] (OB r true [false,true,true,true,true,false,false,true,true])=some (QI (mo r) (tt 10 ((B7 (mo r:P2),false)::(MP (mo r),true)::(!B7 (mo r:P2),true)::tt 4 [])),[],N_ true 96,OA (Cr (Cr (b2 (mo r)) 128) 32)):=by kernel_rfl
theorem AQJ:AM Tryz.prog oJf Tryz.f27 1200 0 [13] (OB r true [false,true,true,true,true,false,false,false])=some (QI (mo r) (tt 10 [(B7 (mo r:P2),false),(MP (mo r),false)]),[],N_ true 96,OA (Cr (b2 (mo r)) 128)):=by kernel_rfl
end
def GD (s:Bool) (p:P2):List Int:=match s,B7 p with
 | false,true=>Cr (b2 p) 64
 | false,false=>b2 p
 | true,true=>Cr (Cr (b2 p) 128) 64
 | true,false=>if DH (D1 p)=true then Cr (Cr (b2 p) 128) 32 else Cr (b2 p) 128
theorem AQK {r:R P2} {s:Bool} (hin:BQ (mo r)=true):Ad Tryz.prog 27 [va P2 r,.val false [.b s]] [] 0 [] (N_ s 96) (OA (GD s (mo r))):=by
 have h1:=AQF r
 have h2:=AQG r
 have h3:=AQH r
 have h4:=AQI r
 have h5:=AQJ r
 have eb:∀ p,MP p=DH (D1 p):=fun p=>congrArg DH (mo_en (D1 p))
 rw [eb] at h3 h4 h5
 unfold OB at *
 generalize (mo r:P2)=p at *
 have hC:∀ l,AQ l→AQ (QI p l):=fun l hr=>⟨by rw [hin];rfl,Ac 20 ⟨rfl,hr⟩⟩
 unfold GD
 cases s with
 | false=>cases hp:B7 p with
  | true=>exact A2 DY BA Tryz.func27 (by kernel_rfl) (by kernel_rfl) h1 (by kernel_rfl) (hC _ ⟨hp,Ac 4 trivial⟩)
  | false=>exact A2 DY BA Tryz.func27 (by kernel_rfl) (by kernel_rfl) h2 (by kernel_rfl) (hC _ ⟨hp,trivial⟩)
 | true=>cases hp:B7 p with
  | true =>
   have hb:DH (D1 p)=false:=by
    have:p=.inf:=by cases p with | inf=>rfl | pt a b=>cases hp
    rw [this]
    show DH 0=false
    unfold DH
    rw [if_pos (show (0:FP2).b=0 from rfl)];rfl
   exact A2 DY BA Tryz.func27 (by kernel_rfl) (by kernel_rfl) h3 (by kernel_rfl) (hC _ (Ac 10 ⟨hp,Ac 4 ⟨hb,trivial⟩⟩))
  | false =>
   by_cases hb:DH (D1 p)=true
   ·simp only [if_pos hb]
    exact A2 DY BA Tryz.func27 (by kernel_rfl) (by kernel_rfl) h4 (by kernel_rfl) (hC _ (Ac 10 ⟨hp,hb,by rw [hp];rfl,Ac 4 trivial⟩))
   ·simp only [if_neg hb]
    exact A2 DY BA Tryz.func27 (by kernel_rfl) (by kernel_rfl) h5 (by kernel_rfl) (hC _ (Ac 10 ⟨hp,by simpa using hb,trivial⟩))
def Di (e:Int):AV:=.tup [(false,[.v (.slice none 0 0)]),(false,[.n .i64 e])]
def QJ (α:Type) [Sh α] (inn:α→Bool) (V:Bool→AV) (H:Bool→α→Heap) (nw:Nat):ASpec:=fun args _ fr path=>match args with
 | [.val true a,B]=>match (rd a:Option (R α)),Eg (some B),path with
  | some r,some (_,_),true::rest=>some (A5 [] 0 fr 0 [] (Di 140) [] [(inn (mo r),false)] rest)
  | some r,some (_,true),false::rest=>some (A5 [] 0 fr nw [] (V true) (H true (mo r)) [(inn (mo r),true)] rest)
  | some r,some (_,false),false::rest=>some (A5 [] 0 fr nw [] (V false) (H false (mo r)) [(inn (mo r),true)] rest)
  | _,_,_=>none
 | _=>none
theorem QK {β β':Env} {B:AV} {c s:Bool} {u:Value} (h:Eg (some B)=some (c,s)) (hr:AP β B u):AP β' (.val false [.b s]) u:=by
 have:=Hz (β:=β) (u:=u) (fun A hA=>by injection hA with hA;subst hA;exact hr) h
 subst this
 exact Aw rfl
theorem XO {α:Type} [Sh α] {inn:α→Bool} {V:Bool→AV} {H:Bool→α→Heap} {nw:Nat} {f:FuncId} {fn:Func} (hfn:Tryz.prog.funcs[f]? = some fn) (hb:fn.body.isSome=true) (hname:(fn.name=="runtime.NumGoroutine")=false) (hk:∀ s x,Cu 0 nw [] (V s) (H s x)=true)
  (h0:∀ (r:R α) (s:Bool),inn (mo r)=false→Ad Tryz.prog f [va α r,.val false [.b s]] [] 0 [] (Di 140) [])
  (h1:∀ (r:R α) (s:Bool),inn (mo r)=true→Ad Tryz.prog f [va α r,.val false [.b s]] [] 0 [] (V s) (H s (mo r))):A6 Tryz.prog f (QJ α inn V H nw):=by
 have hg':∀ (β:Env) (H0:Heap) (w:World),Ex.Good β H0 w→Ex.Good (A4 β [] 0) [] w:=fun β _ w _=>by
  have hn:∀ b,A4 β [] 0 b=none:=fun b=>by
   unfold A4
   have:Nat.blt b 0=false:=by cases b<;>rfl
   rw [this]
  exact ⟨(fun b blk h=>by cases h),(fun b b' B n n' h=>by cases h),(fun b B n h=>by rw [hn] at h;cases h)⟩
 refine CS hfn hb hname fun args H0 fr path r hs=>?_
 unfold QJ at hs
 split at hs
 case h_2=>cases hs
 rename_i a B
 split at hs
 case h_4=>cases hs
 all_goals injection hs with hs
 ·rename_i q c s rest hx hB
  refine ⟨[],0,0,[],_,_,_,_,hs.symm,fun β us w ha hgd hc=>?_⟩
  obtain ⟨u1,us1,r1,⟨u2,us2,r2,ha,rfl⟩,rfl⟩:=ha
  exact ⟨[va α q,.val false [.b s]],[],h0 q s hc.1,by kernel_rfl,⟨u1,_,GC hx r1,⟨u2,us2,QK hB r2,ha,rfl⟩,rfl⟩,hg' β H0 w hgd,fun k hk=>by omega⟩
 ·rename_i q c rest hx hB
  refine ⟨[],0,nw,[],_,_,_,_,hs.symm,fun β us w ha hgd hc=>?_⟩
  obtain ⟨u1,us1,r1,⟨u2,us2,r2,ha,rfl⟩,rfl⟩:=ha
  exact ⟨[va α q,.val false [.b true]],[],h1 q true hc.1,hk _ _,⟨u1,_,GC hx r1,⟨u2,us2,QK hB r2,ha,rfl⟩,rfl⟩,hg' β H0 w hgd,fun k hk=>by omega⟩
 ·rename_i q c rest hx hB
  refine ⟨[],0,nw,[],_,_,_,_,hs.symm,fun β us w ha hgd hc=>?_⟩
  obtain ⟨u1,us1,r1,⟨u2,us2,r2,ha,rfl⟩,rfl⟩:=ha
  exact ⟨[va α q,.val false [.b false]],[],h1 q false hc.1,hk _ _,⟨u1,_,GC hx r1,⟨u2,us2,QK hB r2,ha,rfl⟩,rfl⟩,hg' β H0 w hgd,fun k hk=>by omega⟩
theorem AQL (r:R (Pt FP)) (s:Bool) (h:Bh (mo r)=false):Ad Tryz.prog 26 [va (Pt FP) r,.val false [.b s]] [] 0 [] (Di 140) [] :=
 A2 DY BA Tryz.func26 (by kernel_rfl) (by kernel_rfl) (AP9 r.1 r.2.1 r.2.2 s) (by kernel_rfl) ⟨by rw [show Bh (Ah r.1 r.2.1 r.2.2)=false from h];rfl,trivial⟩
theorem AQM (r:R P2) (s:Bool) (h:BQ (mo r)=false):Ad Tryz.prog 27 [va P2 r,.val false [.b s]] [] 0 [] (Di 140) [] :=
 A2 DY BA Tryz.func27 (by kernel_rfl) (by kernel_rfl) (AQE r s) (by kernel_rfl) ⟨by rw [h];rfl,trivial⟩
def SJg:List (FuncId×ASpec):=(26,QJ (Pt FP) Bh (fun s=>eE s 48) (fun s p=>eH (DZ s p)) 8)::(27,QJ P2 BQ (fun s=>N_ s 96) (fun s p=>OA (GD s p)) 14)::SJf
theorem AQN:AX Tryz.prog SJg:=⟨XO Tryz.func26 (by kernel_rfl) (by kernel_rfl) (fun s _=>by cases s<;>kernel_rfl) AQL (fun r _ h=>AQD (x:=r.1) (y:=r.2.1) (i:=r.2.2) h),XO Tryz.func27 (by kernel_rfl) (by kernel_rfl) (fun s _=>by cases s<;>kernel_rfl) AQM (fun _ _ h=>AQK h),DY⟩
end
end Go.Proofs.YtjlcdlekmpjjnaaGreat
namespace Go.Proofs.YtjlcdlekmpjjnaaGreat
open Ex Num Rg
set_option maxRecDepth 100000
set_option maxHeartbeats 4000000
section
variable {H:Type} {enc:TypeId×Value→H} {W:World} {base:Nat} {v:Value} {d:DataW H} {p:List MemPlace}
end
section
variable (x y:Nat) (i:Bool) (x' y':Nat) (i':Bool)
end
section
variable (x y:Nat) (i:Bool) (x' y':Nat) (i':Bool) (e:Nat)
end
end Go.Proofs.YtjlcdlekmpjjnaaGreat
namespace Go.Proofs.YtjlcdlekmpjjnaaGreat
open Ex Num Rg
open Sh (R av rd mo en mo_en)
set_option maxRecDepth 100000
set_option maxHeartbeats 4000000
noncomputable section
def XP {α:Type} (x:Nat) (k:Nat→α):α:=Nat.rec (k 0) (fun n _=>k (Nat.succ n)) x
theorem iK {α:Type} (x:Nat) (k:Nat→α):XP x k=k x:=by cases x<;>rfl
section
variable {F:Type} [Sh F] [FD F]
def XQ (fc:R (J F)→(R (J F)→Bool)→Bool) (z:R F→Bool) (a b:F) (N:Nat) (i:Nat):R (J F)→Bool :=
 Nat.rec (fun r=>z r.2.2) (fun i ih r=>fc (en (BV (mo r:J F))) fun s=>cond (Nat.beq (N / 2^i % 2) 1) (fc (en (FA (mo s:J F) a b)) ih) (ih s)) i
theorem AQO (C:Cv F) {fc:R (J F)→(R (J F)→Bool)→Bool} {z:R F→Bool} {a b:F} {N:Nat} (hfc:∀ r k,fc r k=k r) (hz:∀ r:R F,z r=true→(mo r:F)=0) (hP:On C.b (.pt a b)) :
  ∀ (i:Nat) (r:R (J F)),CU (mo r:J F)=BH (N / 2^i) (.pt a b)→XQ fc z a b N i r=true→BH N (.pt a b)=.inf:=by
 intro i
 induction i with
 | zero =>
  intro r hr h
  rw [Nat.pow_zero,Nat.div_one] at hr
  rw [← hr]
  exact GU (hz r.2.2 h)
 | succ i ih =>
  intro r hr h
  have h':fc (en (BV (mo r:J F))) (fun s=>cond (Nat.beq (N / 2^i % 2) 1) (fc (en (FA (mo s:J F) a b)) (XQ fc z a b N i)) (XQ fc z a b N i s))=true:=h
  rw [hfc,hfc] at h'
  have hdiv:N / 2^i=2*(N / 2^(i+1))+N / 2^i % 2:=by
   rw [Nat.pow_succ,← Nat.div_div_eq_div_mul];omega
  have hoj:On C.b (CU (mo r:J F)):=by rw [hr];exact GT C hP _
  have htw:CU (BV (mo r:J F))=BH (2*(N / 2^(i+1))) (.pt a b):=by
   rw [P1 C hoj,hr,← N1 C hP,Nat.two_mul]
  have htw':CU (mo (en (BV (mo r:J F)):R (J F)):J F)=BH (2*(N / 2^(i+1))) (.pt a b):=by rw [mo_en];exact htw
  cases hb:Nat.beq (N / 2^i % 2) 1 with
  | true =>
   rw [hb] at h'
   have h1:=Nat.eq_of_beq_eq_true hb
   refine ih _ ?_ h'
   rw [mo_en,Tv C (by rw [htw'];exact GT C hP _),htw']
   rw [hdiv,h1];rfl
  | false =>
   rw [hb] at h'
   have h1:N / 2^i % 2=0:=by
    have:=Nat.ne_of_beq_eq_false hb
    omega
   refine ih _ ?_ h'
   rw [htw',hdiv,h1];rfl
end
def iL (r:R (J FP)) (k:R (J FP)→Bool):Bool:=XP r.1 fun x=>XP r.2.1 fun y=>XP r.2.2 fun z=>k (x,y,z)
theorem AQP (r:R (J FP)) (k:R (J FP)→Bool):iL r k=k r:=by unfold iL;rw [iK,iK,iK];rfl
def zr1 (r:R FP):Bool:=Nat.beq r 0
theorem AQQ (r:R FP) (h:zr1 r=true):(mo r:FP)=0:=by
 have:r=(0:Nat):=Nat.eq_of_beq_eq_true h
 rw [this];exact tf_zero
theorem AQR:rQ / 2^255=0:=by kernel_rfl
theorem UC:CA G1B=true:=(gE gX gY).symm.trans (by kernel_rfl)
theorem AQS:XQ iL zr1 (tf gX) (tf gY) rQ 255 (en (⟨0,0,0⟩:J FP))=true:=by kernel_rfl
theorem rG1:BH rN G1B=.inf:=by
 rw [rN_eq]
 exact AQO C1 AQP AQQ ((P6 G1B).1 UC) 255 _ (by rw [mo_en,AQR,GU rfl];rfl) AQS
theorem AA':Bh G1B=true:=by unfold Bh;rw [UC,rG1];rfl
end
end Go.Proofs.YtjlcdlekmpjjnaaGreat
namespace Go.Proofs.YtjlcdlekmpjjnaaGreat
open Ex Num
set_option maxRecDepth 100000
set_option maxHeartbeats 4000000
noncomputable section
def UD (xs ys:List Int):Heap:=[(0,some (Ai [.seq .u8 xs])),(1,some (Ai [.seq .u8 ys]))]
noncomputable def iM (off n m off' n' m':Nat) (xs ys:List Int) (p:List Bool):ASt:=Af Tryz.f46 (EC off n m off' n' m') (UD xs ys) 2 p
noncomputable def AQT:List Item:=Be (AS Tryz.prog (AH S10 K0) (some 0) 100 2 none (iM 0 0 0 0 0 0 [] [] [false]))
noncomputable def saT (off n m off' n' m':Nat) (i:Int):List AV:=.val false [.sl 0 off n m]::.val false [.sl 1 off' n' m']::.any::.any::.any::.val false [.n .i64 i]::List.replicate (Tryz.f46.ntmps-6) .any
noncomputable def OC (off n m off' n' m':Nat) (xs ys:List Int) (i:Int) (p:List Bool):ASt:=⟨AQT,⟨saT off n m off' n' m' i,UD xs ys,2,p⟩⟩
abbrev saK:Option (List Nat×List Nat×Nat):=some ([0,1,5],[0,1],2)
section
variable (off n m off' n' m':Nat) (xs ys:List Int) (i:Int)
theorem AQV:AS Tryz.prog (AH S10 K0) (some 0) 100 2 saK (iM off n m off' n' m' xs ys [false])=some ([(AJ .i64 n,true),(AJ .i64 n',true),(!decide ((n:Int)=n'),false)],[],OC off n m off' n' m' xs ys 0 []):=by kernel_rfl
theorem AQW:AM Tryz.prog (AH S10 K0) Tryz.f46 100 2 [] (iM off n m off' n' m' xs ys [true])=some ([(AJ .i64 n,true),(AJ .i64 n',true),(!decide ((n:Int)=n'),true)],[],.val false [.b false],[]):=by kernel_rfl
def iN (d:Bool) (r:List (Bool×Bool)):List (Bool×Bool):=(AJ .i64 n,true)::(decide (i<n),true)::(decide (0≤i∧i<n),true)::(decide (off+i.toNat*1<xs.length),true)::(decide (0≤i∧i<n'),true)::(decide (off'+i.toNat*1<ys.length),true)::(!decide (xs.getD (off+i.toNat*1) 0=ys.getD (off'+i.toNat*1) 0),d)::r
theorem AQX:AS Tryz.prog (AH S10 K0) (some 0) 100 2 saK (OC off n m off' n' m' xs ys i [true,false])=some (iN off n off' n' xs ys i false [],[],OC off n m off' n' m' xs ys (AO true .i64 (i+1)) []):=by kernel_rfl
theorem AQY:AM Tryz.prog (AH S10 K0) Tryz.f46 100 2 [] (OC off n m off' n' m' xs ys i [true,true])=some (iN off n off' n' xs ys i true [],[],.val false [.b false],[]):=by kernel_rfl
theorem AQZ:AM Tryz.prog (AH S10 K0) Tryz.f46 100 2 [] (OC off n m off' n' m' xs ys i [false])=some ([(AJ .i64 n,true),(decide (i<n),false)],[],.val false [.b true],[]):=by kernel_rfl
theorem iO (p:List Bool):B4 Tryz.f46.ntmps (OC off n m off' n' m' xs ys i p).s:=AL (by kernel_rfl)
end
def Hn (a b:List Int):Bool:=decide (a=b)
theorem XR {xs:List Int} {off n j:Nat} (h:j<n):(AA xs off n).getD j 0=xs.getD (off+j) 0:=by
 unfold AA
 rw [List.getD_eq_getElem?_getD,List.getD_eq_getElem?_getD,List.getElem?_take_of_lt h,List.getElem?_drop]
theorem QL {xs:List Int} {off n:Nat} (h:off+n≤xs.length):(AA xs off n).length=n:=by
 unfold AA;rw [List.length_take,List.length_drop];omega
theorem iQ {β:Env} {x y:Bool} {u:Value} (e:x=y) (h:AP β (.val false [.b x]) u):AP β (BB y) u:=by
 subst e
 obtain ⟨l1,l2,h1,h2,h3⟩:=h
 exact ⟨l1,l2,⟨h1,rfl,trivial⟩,h2,h3⟩
section
variable {off n m off' m':Nat} {xs ys:List Int} (hl:off+n≤xs.length) (hl':off'+n≤ys.length) (hn:AJ .i64 n=true) {β0:Env} {w0:World} (hb:∀ b,2≤b→β0 b=none)
include hl hl' hn hb
theorem AQa:∀ c i:Nat,i+c=n→(∀ j,j<i→xs.getD (off+j) 0=ys.getD (off'+j) 0) →
  ASafe Tryz.prog 46 β0 w0 (Ay β0 w0 [] (BB (Hn (AA xs off n) (AA ys off' n))) []) Tryz.f46.ntmps [] (OC off n m off' n m' xs ys (i:Nat) []):=by
 have bn:n≤9223372036854775807:=by simp only [AJ,Bool.and_eq_true,decide_eq_true_eq] at hn;omega
 intro c
 induction c with
 | zero =>
  intro i hi heq
  have e:Hn (AA xs off n) (AA ys off' n)=true:=decide_eq_true (List.ext_getElem (by rw [QL hl,QL hl']) fun j h1 h2=>by
   rw [QL hl] at h1
   have h3:=heq j (by omega)
   rw [← XR h1,← XR h1,List.getD_eq_getElem?_getD,List.getD_eq_getElem?_getD,List.getElem?_eq_getElem (by rw [QL hl];exact h1),List.getElem?_eq_getElem h2] at h3
   exact h3)
  refine Ab [false] (Lx (As (AK ID Aa) AB Tryz.func46 (AQZ ..) ⟨hn,decide_eq_false (by omega),trivial⟩ (iO ..) hb (fun _ h=>by cases h)) fun _ _=>iQ e.symm)
 | succ c ih =>
  intro i hi heq
  have et:((i:Nat):Int).toNat=i:=Int.toNat_natCast i
  have hC:∀ d r,(!decide (xs.getD (off+i) 0=ys.getD (off'+i) 0))=d→AQ r→AQ (iN off n off' n xs ys (i:Nat) d r):=fun d r hd hr =>
   ⟨hn,decide_eq_true (by omega),decide_eq_true (by omega),decide_eq_true (by rw [et];omega),decide_eq_true (by omega),decide_eq_true (by rw [et];omega),by rw [et,Nat.mul_one];exact hd,hr⟩
  by_cases he:xs.getD (off+i) 0=ys.getD (off'+i) 0
  ·refine Ab [true,false] (Ae (AK ID Aa) AB (AQX ..) (hC false [] (by rw [decide_eq_true he];rfl) trivial) (iO ..) hb (fun _ h=>by cases h) fun _=>?_)
   rw [V7 true (by omega),show ((i:Nat):Int)+1=((i+1:Nat):Int) from rfl]
   refine ih (i+1) (by omega) fun j hj=>?_
   rcases Nat.lt_or_ge j i with q | q
   ·exact heq j q
   ·rw [show j=i by omega];exact he
  ·have e:Hn (AA xs off n) (AA ys off' n)=false:=decide_eq_false fun h=>he (by
    have h3:(AA xs off n).getD i 0=(AA ys off' n).getD i 0:=by rw [h]
    rw [XR (by omega),XR (by omega)] at h3
    exact h3)
   exact Ab [true,true] (Lx (As (AK ID Aa) AB Tryz.func46 (AQY ..) (hC true [] (by rw [decide_eq_false he];rfl) trivial) (iO ..) hb (fun _ h=>by cases h)) fun _ _=>iQ e.symm)
end
theorem AQb {off n m off' n' m':Nat} {xs ys:List Int} (hl:off+n≤xs.length) (hl':off'+n'≤ys.length) (hn:AJ .i64 n=true) (hn':AJ .i64 n'=true) :
  Ad Tryz.prog 46 (EC off n m off' n' m') (UD xs ys) 2 [] (BB (Hn (AA xs off n) (AA ys off' n'))) []:=by
 by_cases he:n=n'
 ·subst he
  refine Av (path:=[false]) Tryz.func46 (by kernel_rfl) (by kernel_rfl) fun β0 w0 hb=>?_
  exact Ae (AK ID Aa) AB (AQV off n m off' n m' xs ys) ⟨hn,hn',by rw [decide_eq_true rfl];rfl,trivial⟩ (AL (by kernel_rfl)) hb (fun _ h=>by cases h) fun _=>AQa hl hl' hn hb n 0 (by omega) fun j hj=>absurd hj (Nat.not_lt_zero j)
 ·have e:Hn (AA xs off n) (AA ys off' n')=false:=decide_eq_false fun h=>he (by
   have h3:=congrArg List.length h
   rwa [QL hl,QL hl'] at h3)
  exact BU (A2 ID Aa Tryz.func46 (by kernel_rfl) (by kernel_rfl) (AQW off n m off' n' m' xs ys) (by kernel_rfl) ⟨hn,hn',by rw [decide_eq_false (by omega)];rfl,trivial⟩) fun _ _=>iQ e.symm
theorem AQc {β:Env} {H:Heap} {w:World} {k t:Nat} {ty ty':Nat} {cs ds:List Ch} {o o':Bool} {xs ys:List Int} (hg:Ex.Good β H w) (hk:AG H k=some ⟨ty,cs,o⟩) (ht:AG H t=some ⟨ty',ds,o'⟩) (hxs:Ao .u8 cs=some xs) (hys:Ao .u8 ds=some ys) :
  Ex.Good (A4 β [k,t] 2) (UD xs ys) w∧(∀ j,j<2→∃ X,β (nth [k,t] j)=some X):=by
 refine ⟨tE (c:=[.seq .u8 xs]) (e:=[.seq .u8 ys]) hg hk ht (fun l h=>?_) (fun l h=>?_),fun j hj=>?_⟩
 ·obtain ⟨q1,q2⟩:=CY hxs h
  exact ⟨_,[],⟨q1,q2⟩,rfl,by simp⟩
 ·obtain ⟨q1,q2⟩:=CY hys h
  exact ⟨_,[],⟨q1,q2⟩,rfl,by simp⟩
 ·match j,hj with
  | 0,_=>exact BZ (hg.heap _ _ hk)
  | 1,_=>exact BZ (hg.heap _ _ ht)
noncomputable def smSp:ASpec:=fun args H fr path =>
 match args with
 | [A,B]=>match By A,By B with
  | some (k,off,n),some (t,off',n')=>match AG H k,AG H t with
   | some ⟨_,cs,_⟩,some ⟨_,ds,_⟩=>match Ao .u8 cs,Ao .u8 ds with
    | some xs,some ys=>some (A5 [k,t] 2 fr 0 [] (BB (Hn (AA xs off n) (AA ys off' n'))) [] [(Nat.ble (off+n) xs.length,true),(Nat.ble (off'+n') ys.length,true),(AJ .i64 n,true),(AJ .i64 n',true)] path)
    | _,_=>none
   | _,_=>none
  | _,_=>none
 | _=>none
theorem AQd:A6 Tryz.prog 46 smSp:=by
 refine CS Tryz.func46 (by kernel_rfl) (by kernel_rfl) fun args H fr path r h=>?_
 unfold smSp at h
 split at h
 case h_2=>cases h
 rename_i A B
 split at h
 case h_2=>cases h
 rename_i k off n t off' n' hA hB
 split at h
 case h_2=>cases h
 rename_i ty cs o ty' ds o' hk ht
 split at h
 case h_2=>cases h
 rename_i xs ys hxs hys
 injection h with h
 refine ⟨[k,t],2,0,[],_,_,_,path,h.symm,fun β us w ha hg hc=>?_⟩
 obtain ⟨u1,us1,r1,⟨u2,us2,r2,ha,rfl⟩,rfl⟩:=ha
 obtain ⟨m,r1⟩:=DF hA r1
 obtain ⟨m',r2⟩:=DF hB r2
 obtain ⟨g2,g3⟩:=AQc hg hk ht hxs hys
 exact ⟨EC off n m off' n' m',UD xs ys,AQb (Nat.le_of_ble_eq_true hc.1) (Nat.le_of_ble_eq_true hc.2.1) hc.2.2.1 hc.2.2.2.1,by kernel_rfl,⟨u1,_,BS (by omega) rfl r1,⟨u2,us2,BS (by omega) rfl r2,ha,rfl⟩,rfl⟩,g2,g3⟩
end
end Go.Proofs.YtjlcdlekmpjjnaaGreat
namespace Go.Proofs.YtjlcdlekmpjjnaaGreat
open Ex Num Rg
open Sh (R av rd mo en mo_en)
set_option maxRecDepth 100000
set_option maxHeartbeats 4000000
noncomputable section
def Ar (l:List Int) (k:Int):Bool:=decide (0<bits .and .u8 (l.getD 0 0) k)
def CF (xs:List Int) (k:Nat):List Int:=bits .and .u8 (xs.getD 0 0) 31::List.take k (List.drop 1 xs)
def Bb (ls:List Int) (o:Nat):Nat:=AT (AA ls o 48)
def fB (s i b:Bool) (f:Int):Int:=match s,i with
 | false,true=>bits .or .u8 f 64
 | false,false=>f
 | true,true=>bits .or .u8 (bits .or .u8 f 128) 64
 | true,false=>if b=true then bits .or .u8 (bits .or .u8 f 128) 32 else bits .or .u8 f 128
def fB1 (s i b:Bool) (n:Nat):Bool:=(decide (0<bits .and .u8 (fB s i b n) 128)==s)&&((decide (0<bits .and .u8 (fB s i b n) 64)==i)&&((decide (0<bits .and .u8 (fB s i b n) 32)==(s&&(!i&&b)))&&decide (bits .and .u8 (fB s i b n) 31=n)))
theorem AQe (s i b:Bool):(List.range 32).all (fB1 s i b)=true:=by cases s<;>cases i<;>cases b<;>kernel_rfl
theorem AQf (s i b:Bool) {f:Int} (h0:0≤f) (h1:f<32):decide (0<bits .and .u8 (fB s i b f) 128)=s∧decide (0<bits .and .u8 (fB s i b f) 64)=i∧decide (0<bits .and .u8 (fB s i b f) 32)=(s&&(!i&&b))∧bits .and .u8 (fB s i b f) 31=f:=by
 obtain ⟨n,rfl⟩:=Int.eq_ofNat_of_zero_le h0
 have h:=List.all_eq_true.1 (AQe s i b) n (List.mem_range.2 (by omega))
 unfold fB1 at h
 simp only [Bool.and_eq_true,beq_iff_eq] at h
 exact ⟨h.1,h.2.1,h.2.2.1,of_decide_eq_true h.2.2.2⟩
def C_ (s i b:Bool) (B:List Int):List Int:=match s,i with
 | false,true=>Cr B 64
 | false,false=>B
 | true,true=>Cr (Cr B 128) 64
 | true,false=>if b=true then Cr (Cr B 128) 32 else Cr B 128
theorem QM (s i b:Bool) (f:Int) (t:List Int):C_ s i b (f::t)=fB s i b f::t:=by cases s<;>cases i<;>cases b<;>rfl
theorem XS (s:Bool) (p:Pt FP):DZ s p=C_ s (BL p) (BE (BT p)) (b1 p):=by
 unfold DZ C_
 cases s<;>cases BL p<;>rfl
theorem ABC (s:Bool) (p:P2):GD s p=C_ s (B7 p) (DH (D1 p)) (b2 p):=by
 unfold GD C_
 cases s<;>cases B7 p<;>rfl
theorem AQg (s i b:Bool) {B:List Int} {k:Nat} (hk:0<k) (hB:k≤B.length) {f:Int} {t:List Int} (e:B=f::t) (h0:0≤f) (h1:f<32):(AA (C_ s i b B) 0 k).length=k∧Ar (AA (C_ s i b B) 0 k) 128=s∧Ar (AA (C_ s i b B) 0 k) 64=i∧Ar (AA (C_ s i b B) 0 k) 32=(s&&(!i&&b))∧CF (AA (C_ s i b B) 0 k) (k-1)=B.take k:=by
 obtain ⟨j,rfl⟩:∃ j,k=j+1:=⟨k-1,by omega⟩
 subst e
 rw [QM]
 obtain ⟨q1,q2,q3,q4⟩:=AQf s i b h0 h1
 have hl:j≤t.length:=by simpa using hB
 refine ⟨by simp [AA];omega,q1,q2,q3,?_⟩
 show bits .and .u8 (fB s i b f) 31::List.take j (List.take j t)=f::List.take j t
 rw [q4,List.take_take,Nat.min_self]
def cat:List Nat→List Int
 | []=>[]
 | x::r=>BK x 48++cat r
theorem OD:∀ l:List Nat,(cat l).length=48*l.length
 | []=>rfl
 | x::r=>by rw [cat,List.length_append,Hg,OD r,List.length_cons];omega
theorem QO:∀ (l:List Nat) (k:Nat),(cat l).take (48*k)=cat (l.take k)
 | [],k=>by rw [cat,List.take_nil,List.take_nil];rfl
 | x::r,0=>rfl
 | x::r,k+1=>by
  rw [cat,List.take_succ_cons,cat,← QO r k,List.take_append,Hg,List.take_of_length_le (by rw [Hg];omega)]
  congr 2
theorem ABD:∀ (l:List Nat) (j:Nat),j<l.length→Bb (cat l) (48*j)=l.getD j 0 % 256^48
 | [],j,h=>absurd h (Nat.not_lt_zero j)
 | x::r,0,_=>by
  show AT ((BK x 48++cat r).take 48)=_
  rw [List.take_left' (Hg x 48),yK];rfl
 | x::r,j+1,h=>by
  have ih:=ABD r j (by simpa using h)
  show AT (((BK x 48++cat r).drop (48*(j+1))).take 48)=r.getD j 0 % 256^48
  rw [show 48*(j+1)=48+48*j by omega,← List.drop_drop,List.drop_left' (Hg x 48)]
  exact ih
theorem ABE:pN<32*256^47:=A8.1 (by kernel_rfl)
theorem AQh {x:Nat} (h:x<pN):x % 256^48=x:=Nat.mod_eq_of_lt (by have:=ABE;omega)
theorem ABF {x:Nat} (hx:x<pN) (r:List Nat):∃ f t,cat (x::r)=f::t∧0≤f∧f<32:=by
 refine ⟨Eo x 47,BK x 47++cat r,?_,?_⟩
 ·show BK x (47+1)++cat r=_
  rw [yJ];rfl
 ·have h1:x / 256^47<32:=Nat.div_lt_of_lt_mul (by have:=ABE;omega)
  have h2:Eo x 47=((x / 256^47 % 256:Nat):Int):=rfl
  rw [h2]
  omega
noncomputable def l1 (p:Pt FP):List Nat:=[Cz p,BT p]
noncomputable def l2 (p:P2):List Nat:=[(rX p).2,(rX p).1,(rY p).2,(rY p).1]
theorem UE (p:Pt FP):b1 p=cat (l1 p):=by
 unfold b1 l1 cat cat cat
 rw [Nat.mod_eq_of_lt (MF p),Nat.mod_eq_of_lt (Wr p),List.append_nil]
theorem XT (p:P2):Nat.lt (rX p).1 pN∧Nat.lt (rX p).2 pN:=⟨(I2 p).a.isLt,(I2 p).b.isLt⟩
theorem ABG (p:P2):Nat.lt (rY p).1 pN∧Nat.lt (rY p).2 pN:=⟨(D1 p).a.isLt,(D1 p).b.isLt⟩
theorem QP {x:Nat} (h:Nat.lt x pN):I8 x=BK x 48:=by unfold I8;rw [Nat.mod_eq_of_lt h]
theorem iR (p:P2):b2 p=cat (l2 p):=by
 unfold b2 l2 cat cat cat cat cat
 rw [QP (XT p).1,QP (XT p).2,QP (ABG p).1,QP (ABG p).2,List.append_nil,List.append_assoc,List.append_assoc]
end
end Go.Proofs.YtjlcdlekmpjjnaaGreat
namespace Go.Proofs.YtjlcdlekmpjjnaaGreat
open Ex Num Rg
set_option maxRecDepth 100000
set_option maxHeartbeats 4000000
noncomputable section
theorem ABH:∀ (T0 T1:List AV) (x y:AV) (t:Nat),t≠T0.length→Aq (T0++x::T1) t=Aq (T0++y::T1) t
 | [],_,_,_,0,h=>absurd rfl h
 | [],_,_,_,_+1,_=>rfl
 | _::_,_,_,_,0,_=>rfl
 | _::T0,T1,x,y,t+1,h=>ABH T0 T1 x y t fun e=>h (by rw [e];rfl)
theorem iS:∀ (T0 T1:List AV) (x:AV),Aq (T0++x::T1) T0.length=x
 | [],_,_=>rfl
 | _::T0,T1,x=>iS T0 T1 x
theorem Ho {P:Program} {f:FuncId} {β0:Env} {w0:World} {R:Ending→World→Prop} {nt:Nat} {W:List Nat} {todo:List Item} {T0 T1:List AV} {H:Heap} {fr:Nat} {p:List Bool} {k n sz:Nat}
  (h:∀ cap,n≤cap→ASafe P f β0 w0 R nt W ⟨todo,⟨T0++.val false [.sl k 0 n cap]::T1,H,fr,p⟩⟩):ASafe P f β0 w0 R nt W ⟨todo,⟨T0++.val false [.sx k n sz]::T1,H,fr,p⟩⟩:=fun β a w hi hf=>by
 have h1:=hi.tmp T0.length
 dsimp only at h1
 rw [iS] at h1
 obtain ⟨cap,hc,hr⟩:∃ cap,n≤cap∧AP β (.val false [.sl k 0 n cap]) (a.tmps.getD T0.length undef):=by
  obtain ⟨l1,l2,q,q2,q3⟩:=h1
  rcases q with ⟨B,N,cap,e1,e2,e3,e4⟩ | ⟨e1,e2,e3⟩
  ·exact ⟨cap,e3,l1,l2,.inl ⟨B,(N,0),e1,e2⟩,q2,q3⟩
  ·subst e2;exact ⟨0,Nat.le_refl _,l1,l2,.inr ⟨e1,rfl,rfl,rfl,e3⟩,q2,q3⟩
 refine h cap hc β a w { hi with tmp:=fun t=>?_ } hf
 by_cases e:t=T0.length
 ·subst e;dsimp only;rw [iS];exact hr
 ·dsimp only;rw [ABH _ _ _ (.val false [.sx k n sz]) _ e];exact hi.tmp t
def HD (n m:Nat) (h:Int) (s:Bool):List AV:=[AI 0 0 n m,.val false [.n .i64 h],.val false [.b s]]
noncomputable def Da (xs:List Int) (n m:Nat) (h:Int) (s:Bool) (p:List Bool):ASt:=Af Tryz.f83 (HD n m h s) [(0,some (Ai [.seq .u8 xs]))] 1 p
def Cs (e:Int):AV:=.tup [(false,[.v (.slice none 0 0)]),(false,[.b false]),(false,[.n .i64 e])]
def FW (k:Nat) (big:Bool):AV:=.tup [(false,[.sx (2+3*k) k 6]),(false,[.v (.bool big)]),(false,[.n .i64 0])]
def FX (k:Nat) (l:List Ch):Heap:=[(2+3*k,some ⟨30,l,true⟩)]
def rbH (xs ls:List Int):Heap:=[(0,some (Ai [.seq .u8 xs])),(2,some ⟨5,[.seq .u8 ls],true⟩)]
noncomputable def AQi:List Item:=Be (AS Tryz.prog oJf (some 0) 800 1 none (Da [] 48 48 1 true [false,false,false,false,true]))
noncomputable def r1T (n:Nat) (big:Bool) (i:Int):List AV:=List.append (List.replicate 12 AV.any) (.val false [.v (.bool big)]::List.append (List.replicate 50 AV.any) (.val false [.sx 2 n 1]::.val false [.v (.int .i64 n)]::.val false [.n .i64 i]::List.replicate (Tryz.f83.ntmps-66) AV.any))
noncomputable def HE (xs ls:List Int) (n:Nat) (big:Bool) (i:Int) (p:List Bool):ASt:=⟨AQi,⟨r1T n big i,rbH xs ls,3,p⟩⟩
noncomputable def AQk:List Item:=Be (AS Tryz.prog oJf (some 0) 800 1 none (Da [] 48 48 1 true [false,false,false,false,false]))
noncomputable def AQl (big:Bool):List AV:=List.append (List.replicate 12 AV.any) [.val false [.v (.bool big)]]
noncomputable def AQm:List AV:=.any::.any::.val false [.v (.slice none 0 0)]::List.replicate (Tryz.f83.ntmps-17) AV.any
noncomputable def DN (xs ls:List Int) (big:Bool) (i:AV) (p:List Bool):ASt:=⟨AQk,⟨AQl big++i::AQm,rbH xs ls,3,p⟩⟩
def OE:Option (List Nat×List Nat×Nat):=some ([12,63,64,65],[0,2],3)
def QQ:Option (List Nat×List Nat×Nat):=some ([12,13,16],[0,2],3)
def EY (xs:List Int) (s b:Bool) (r:List (Bool×Bool)):List (Bool×Bool):=(true,true)::(false,false)::(true,true)::(decide (0<xs.length),true)::(true,true)::(decide (0<xs.length),true)::(true,true)::(decide (0<xs.length),true)::(!(Ar xs 128==s),b)::r
def HF (xs:List Int) (n m:Nat) (b c:Bool) (r:List (Bool×Bool)):List (Bool×Bool):=(Ar xs 32,b)::(true,true)::(decide (0<xs.length),true)::(true,true)::(Nat.beq m 1,false)::(true,true)::(Nat.ble n xs.length,true)::(true,true)::(Ar xs 64,c)::r
def C3 (C o:Nat) (ls:List Int) (e:Bool) (r:List (Bool×Bool)):List (Bool×Bool):=(true,true)::(decide ((0:Int)≤48∧(48:Int)≤(C:Int)),true)::(true,true)::(Nat.ble (o+48) ls.length,true)::(true,true)::(!decide (Iy 48 (Bb ls o)=0),e)::r
def Dn (C:Nat) (b:Bool) (r:List (Bool×Bool)):List (Bool×Bool):=(true,true)::(true,true)::(Nat.beq C 48,b)::(true,true)::r
section
variable (xs ls:List Int) (n m C:Nat) (i:Int) (big:Bool)
theorem AQn:AS Tryz.prog oJf (some 0) 800 1 OE (HE xs ls n big i [true,true,true])=some ([(decide (i<n),true),(decide (0≤i∧i<n),true),(decide (0+i.toNat*1<ls.length),true),(decide (ls.getD (0+i.toNat*1) 0=0),true),(!big,true)],[],HE xs ls n big (AO true .i64 (i+1)) []):=by kernel_rfl
theorem AQo:AM Tryz.prog oJf Tryz.f83 800 1 [] (HE xs ls n big i [false])=some ([(decide (i<n),false)],[],Cs 0,[]):=by kernel_rfl
theorem AQp:AM Tryz.prog oJf Tryz.f83 800 1 [] (HE xs ls n big i [true,false])=some ([(decide (i<n),true),(decide (0≤i∧i<n),true),(decide (0+i.toNat*1<ls.length),true),(decide (ls.getD (0+i.toNat*1) 0=0),false)],[],Cs 202,[]):=by kernel_rfl
theorem AQq:AM Tryz.prog oJf Tryz.f83 800 1 [] (HE xs ls n big i [true,true,false])=some ([(decide (i<n),true),(decide (0≤i∧i<n),true),(decide (0+i.toNat*1<ls.length),true),(decide (ls.getD (0+i.toNat*1) 0=0),true),(!big,false)],[],Cs 202,[]):=by kernel_rfl
theorem AQr:AM Tryz.prog oJf Tryz.f83 800 1 [] (Da xs n m 1 true [true])=some ([(AJ .i64 n,true),(!decide ((n:Int)=48),true)],[],Cs 200,[]):=by kernel_rfl
theorem AQs:AM Tryz.prog oJf Tryz.f83 800 1 [] (Da xs 48 m 1 true [false,true])=some (EY xs true true [],[],Cs 201,[]):=by kernel_rfl
theorem AQt:AS Tryz.prog oJf (some 0) 800 1 OE (Da xs 48 m 1 true [false,false,false,false,true])=some (EY xs true false (HF xs 48 m false true [(true,true)]),[],HE xs (CF xs 47) 48 (Ar xs 32) 0 []):=by kernel_rfl
theorem ABJ:AS Tryz.prog oJf (some 0) 800 1 QQ (Da xs 48 m 1 true [false,false,false,false,false])=some (EY xs true false (HF xs 48 m false false []),[],DN xs (CF xs 47) (Ar xs 32) (.val false [.sx 2 48 1]) []):=by kernel_rfl
theorem AQu:AS Tryz.prog oJf (some 0) 800 1 OE (Da xs 48 m 1 true [false,false,true,false,true])=some (EY xs true false (HF xs 48 m true true [(true,true)]),[],HE xs (CF xs 47) 48 (Ar xs 32) 0 []):=by kernel_rfl
theorem ABK:AS Tryz.prog oJf (some 0) 800 1 QQ (Da xs 48 m 1 true [false,false,true,false,false])=some (EY xs true false (HF xs 48 m true false []),[],DN xs (CF xs 47) (Ar xs 32) (.val false [.sx 2 48 1]) []):=by kernel_rfl
theorem AQv:AM Tryz.prog oJf Tryz.f83 800 1 [] (Da xs n m 1 false [true])=some ([(AJ .i64 n,true),(!decide ((n:Int)=96),true)],[],Cs 200,[]):=by kernel_rfl
theorem AQw:AM Tryz.prog oJf Tryz.f83 800 1 [] (Da xs 96 m 1 false [false,true])=some (EY xs false true [],[],Cs 201,[]):=by kernel_rfl
theorem AQx:AM Tryz.prog oJf Tryz.f83 800 1 [] (Da xs 96 m 1 false [false,false,true])=some (EY xs false false [(Ar xs 32,true)],[],Cs 201,[]):=by kernel_rfl
theorem AQy:AS Tryz.prog oJf (some 0) 800 1 OE (Da xs 96 m 1 false [false,false,false,false,true])=some (EY xs false false (HF xs 96 m false true [(true,true)]),[],HE xs (CF xs 95) 96 (Ar xs 32) 0 []):=by kernel_rfl
theorem ABL:AS Tryz.prog oJf (some 0) 800 1 QQ (Da xs 96 m 1 false [false,false,false,false,false])=some (EY xs false false (HF xs 96 m false false []),[],DN xs (CF xs 95) (Ar xs 32) (.val false [.sx 2 96 1]) []):=by kernel_rfl
theorem AQz:AM Tryz.prog oJf Tryz.f83 800 1 [] (Da xs n m 2 true [true])=some ([(AJ .i64 n,true),(!decide ((n:Int)=96),true)],[],Cs 200,[]):=by kernel_rfl
theorem AQ0:AM Tryz.prog oJf Tryz.f83 800 1 [] (Da xs 96 m 2 true [false,true])=some (EY xs true true [],[],Cs 201,[]):=by kernel_rfl
theorem AQ1:AS Tryz.prog oJf (some 0) 800 1 OE (Da xs 96 m 2 true [false,false,false,false,true])=some (EY xs true false (HF xs 96 m false true [(true,true)]),[],HE xs (CF xs 95) 96 (Ar xs 32) 0 []):=by kernel_rfl
theorem ABM:AS Tryz.prog oJf (some 0) 800 1 QQ (Da xs 96 m 2 true [false,false,false,false,false])=some (EY xs true false (HF xs 96 m false false []),[],DN xs (CF xs 95) (Ar xs 32) (.val false [.sx 2 96 1]) []):=by kernel_rfl
theorem AQ2:AS Tryz.prog oJf (some 0) 800 1 OE (Da xs 96 m 2 true [false,false,true,false,true])=some (EY xs true false (HF xs 96 m true true [(true,true)]),[],HE xs (CF xs 95) 96 (Ar xs 32) 0 []):=by kernel_rfl
theorem ABN:AS Tryz.prog oJf (some 0) 800 1 QQ (Da xs 96 m 2 true [false,false,true,false,false])=some (EY xs true false (HF xs 96 m true false []),[],DN xs (CF xs 95) (Ar xs 32) (.val false [.sx 2 96 1]) []):=by kernel_rfl
theorem AQ3:AM Tryz.prog oJf Tryz.f83 800 1 [] (Da xs n m 2 false [true])=some ([(AJ .i64 n,true),(!decide ((n:Int)=192),true)],[],Cs 200,[]):=by kernel_rfl
theorem AQ4:AM Tryz.prog oJf Tryz.f83 800 1 [] (Da xs 192 m 2 false [false,true])=some (EY xs false true [],[],Cs 201,[]):=by kernel_rfl
theorem AQ5:AM Tryz.prog oJf Tryz.f83 800 1 [] (Da xs 192 m 2 false [false,false,true])=some (EY xs false false [(Ar xs 32,true)],[],Cs 201,[]):=by kernel_rfl
theorem AQ6:AS Tryz.prog oJf (some 0) 800 1 OE (Da xs 192 m 2 false [false,false,false,false,true])=some (EY xs false false (HF xs 192 m false true [(true,true)]),[],HE xs (CF xs 191) 192 (Ar xs 32) 0 []):=by kernel_rfl
theorem ABO:AS Tryz.prog oJf (some 0) 800 1 QQ (Da xs 192 m 2 false [false,false,false,false,false])=some (EY xs false false (HF xs 192 m false false []),[],DN xs (CF xs 191) (Ar xs 32) (.val false [.sx 2 192 1]) []):=by kernel_rfl
theorem AQ7:AM Tryz.prog oJf Tryz.f83 800 1 [5] (DN xs ls big (.val false [.sl 2 0 48 C]) [true,false,true,false])=some ((true,true)::C3 C 0 ls false (Dn C true ([(false,false)])),[],FW 1 big,FX 1 [.num 6 (ET 48 (Bb ls 0))]):=by kernel_rfl
theorem AQ8:AM Tryz.prog oJf Tryz.f83 800 1 [5] (DN xs ls big (.val false [.sl 2 0 48 C]) [true,false,false,false])=some ((true,true)::C3 C 0 ls false (Dn C false ([(false,false)])),[],FW 1 big,FX 1 [.num 6 (ET 48 (Bb ls 0))]):=by kernel_rfl
theorem AQ9:AM Tryz.prog oJf Tryz.f83 800 1 [] (DN xs ls big (.val false [.sl 2 0 48 C]) [true,true])=some ((true,true)::C3 C 0 ls true [],[],Cs 203,[]):=by kernel_rfl
theorem AQ_:AM Tryz.prog oJf Tryz.f83 800 1 [8] (DN xs ls big (.val false [.sl 2 0 96 C]) [true,false,false,true,false,true,false])=some ((true,true)::C3 C 0 ls false (Dn C false (C3 (C-48) 48 ls false (Dn (C-48) true ([(false,false)])))),[],FW 2 big,FX 2 [.num 6 (ET 48 (Bb ls 0)),.num 6 (ET 48 (Bb ls 48))]):=by kernel_rfl
theorem AQ':AM Tryz.prog oJf Tryz.f83 800 1 [8] (DN xs ls big (.val false [.sl 2 0 96 C]) [true,false,false,true,false,false,false])=some ((true,true)::C3 C 0 ls false (Dn C false (C3 (C-48) 48 ls false (Dn (C-48) false ([(false,false)])))),[],FW 2 big,FX 2 [.num 6 (ET 48 (Bb ls 0)),.num 6 (ET 48 (Bb ls 48))]):=by kernel_rfl
theorem ARA:AM Tryz.prog oJf Tryz.f83 800 1 [] (DN xs ls big (.val false [.sl 2 0 96 C]) [true,true])=some ((true,true)::C3 C 0 ls true [],[],Cs 203,[]):=by kernel_rfl
theorem ARB:AM Tryz.prog oJf Tryz.f83 800 1 [] (DN xs ls big (.val false [.sl 2 0 96 C]) [true,false,false,true,true])=some ((true,true)::C3 C 0 ls false (Dn C false (C3 (C-48) 48 ls true [])),[],Cs 203,[]):=by kernel_rfl
theorem ARC:AM Tryz.prog oJf Tryz.f83 800 1 [14] (DN xs ls big (.val false [.sl 2 0 192 C]) [true,false,false,true,false,false,true,false,false,true,false,true,false])=some ((true,true)::C3 C 0 ls false (Dn C false (C3 (C-48) 48 ls false (Dn (C-48) false (C3 (C-48-48) 96 ls false (Dn (C-48-48) false (C3 (C-48-48-48) 144 ls false (Dn (C-48-48-48) true ([(false,false)])))))))),[],FW 4 big,FX 4 [.num 6 (ET 48 (Bb ls 0)),.num 6 (ET 48 (Bb ls 48)),.num 6 (ET 48 (Bb ls 96)),.num 6 (ET 48 (Bb ls 144))]):=by kernel_rfl
theorem ARD:AM Tryz.prog oJf Tryz.f83 800 1 [14] (DN xs ls big (.val false [.sl 2 0 192 C]) [true,false,false,true,false,false,true,false,false,true,false,false,false])=some ((true,true)::C3 C 0 ls false (Dn C false (C3 (C-48) 48 ls false (Dn (C-48) false (C3 (C-48-48) 96 ls false (Dn (C-48-48) false (C3 (C-48-48-48) 144 ls false (Dn (C-48-48-48) false ([(false,false)])))))))),[],FW 4 big,FX 4 [.num 6 (ET 48 (Bb ls 0)),.num 6 (ET 48 (Bb ls 48)),.num 6 (ET 48 (Bb ls 96)),.num 6 (ET 48 (Bb ls 144))]):=by kernel_rfl
theorem ARE:AM Tryz.prog oJf Tryz.f83 800 1 [] (DN xs ls big (.val false [.sl 2 0 192 C]) [true,true])=some ((true,true)::C3 C 0 ls true [],[],Cs 203,[]):=by kernel_rfl
theorem ARF:AM Tryz.prog oJf Tryz.f83 800 1 [] (DN xs ls big (.val false [.sl 2 0 192 C]) [true,false,false,true,true])=some ((true,true)::C3 C 0 ls false (Dn C false (C3 (C-48) 48 ls true [])),[],Cs 203,[]):=by kernel_rfl
theorem ARG:AM Tryz.prog oJf Tryz.f83 800 1 [] (DN xs ls big (.val false [.sl 2 0 192 C]) [true,false,false,true,false,false,true,true])=some ((true,true)::C3 C 0 ls false (Dn C false (C3 (C-48) 48 ls false (Dn (C-48) false (C3 (C-48-48) 96 ls true [])))),[],Cs 203,[]):=by kernel_rfl
theorem ARH:AM Tryz.prog oJf Tryz.f83 800 1 [] (DN xs ls big (.val false [.sl 2 0 192 C]) [true,false,false,true,false,false,true,false,false,true,true])=some ((true,true)::C3 C 0 ls false (Dn C false (C3 (C-48) 48 ls false (Dn (C-48) false (C3 (C-48-48) 96 ls false (Dn (C-48-48) false (C3 (C-48-48-48) 144 ls true [])))))),[],Cs 203,[]):=by kernel_rfl
end
end
noncomputable section
noncomputable abbrev rdF:Func:=Tryz.f83
def QR (ls:List Int) (big:Bool):Bool:=ls.all (fun d=>decide (d=0))&&!big
def Ko (ls:List Int) (big:Bool):Int:=if QR ls big=true then 0 else 202
def Eu (ls:List Int) (k:Nat):Bool:=(List.range k).all fun j=>decide (Bb ls (48*j)<pN)
def I9 (ls:List Int) (k:Nat):List Ch:=(List.range k).map fun j=>.num 6 (Bb ls (48*j))
def Bw (k:Nat) (s:Bool) (l:List Int):Int:=if l.length≠48*k then 200 else if Ar l 128≠s then 201 else if (Ar l 32&&!s)=true then 201 else if Ar l 64=true then Ko (CF l (48*k-1)) (Ar l 32) else if Eu (CF l (48*k-1)) k=true then 0 else 203
def Bi (k:Nat) (s:Bool) (l:List Int):Bool:=decide (l.length=48*k)&&(decide (Ar l 128=s)&&(!(Ar l 32&&!s)&&(!Ar l 64&&Eu (CF l (48*k-1)) k)))
theorem XU (xs ls:List Int) (n:Nat) (big:Bool) (i:Int) (p:List Bool):B4 rdF.ntmps (HE xs ls n big i p).s:=AL (by kernel_rfl)
theorem HG (xs ls:List Int) (big:Bool) (k n C:Nat) (p:List Bool):B4 rdF.ntmps (DN xs ls big (.val false [.sl k 0 n C]) p).s:=AL (by kernel_rfl)
theorem ARI {ls:List Int} {n:Nat} (hl:ls.length=n) (h:∀ j,j<n→ls.getD j 0=0):ls.all (fun d=>decide (d=0))=true:=by
 rw [List.all_eq_true]
 intro d hd
 obtain ⟨j,hj⟩:=List.getElem?_of_mem hd
 have hlt:=(List.getElem?_eq_some_iff.1 hj).1
 have:=h j (by omega)
 rw [List.getD_eq_getElem?_getD,hj] at this
 exact decide_eq_true this
theorem ARJ {ls:List Int} {j:Nat} (hj:j<ls.length) (h:ls.all (fun d=>decide (d=0))=true):ls.getD j 0=0:=by
 rw [List.all_eq_true] at h
 rw [List.getD_eq_getElem?_getD,List.getElem?_eq_getElem hj]
 exact of_decide_eq_true (h _ (List.getElem_mem hj))
section
variable {xs ls:List Int} {n:Nat} {big:Bool} (hl:ls.length=n) (hn:0<n) (hm:n≤1000) {β0:Env} {w0:World} (hb:∀ b,1≤b→β0 b=none)
include hl hn hm hb
theorem QS:∀ c i:Nat,i+c=n→(∀ j,j<i→ls.getD j 0=0)→(0<i→big=false)→ASafe Tryz.prog 83 β0 w0 (Ay β0 w0 [] (Cs (Ko ls big)) []) rdF.ntmps [] (HE xs ls n big (i:Nat) []):=by
 intro c
 induction c with
 | zero =>
  intro i hi hz hbig
  have hin:i=n:=by omega
  subst hin
  have e:Ko ls big=0:=by
   unfold Ko QR
   rw [ARI hl hz,hbig hn];rfl
  rw [e]
  exact Ab [false] (As CE AB Tryz.func83 (AQo xs ls i (i:Nat) big) ⟨decide_eq_false (by omega),trivial⟩ (XU ..) hb (fun _ h=>by cases h))
 | succ c ih =>
  intro i hi hz hbig
  have c1:decide (((i:Nat):Int)<(n:Int))=true:=decide_eq_true (by omega)
  have c2:decide (0≤((i:Nat):Int)∧((i:Nat):Int)<(n:Int))=true:=decide_eq_true (by omega)
  have c3:decide (0+((i:Nat):Int).toNat*1<ls.length)=true:=decide_eq_true (by omega)
  have ei:0+((i:Nat):Int).toNat*1=i:=by omega
  by_cases h0:ls.getD i 0=0
  ·cases hq:big with
   | true =>
    have e:Ko ls big=202:=by
     unfold Ko QR
     rw [hq,Bool.not_true,Bool.and_false,if_neg Bool.false_ne_true]
    rw [← hq,e]
    exact Ab [true,true,false] (As CE AB Tryz.func83 (AQq xs ls n (i:Nat) big) ⟨c1,c2,c3,decide_eq_true (by rw [ei];exact h0),by rw [hq];rfl,trivial⟩ (XU ..) hb (fun _ h=>by cases h))
   | false =>
    rw [← hq]
    refine Ab [true,true,true] (Ae CE AB (AQn xs ls n (i:Nat) big) ⟨c1,c2,c3,decide_eq_true (by rw [ei];exact h0),by rw [hq];rfl,trivial⟩ (XU ..) hb (fun _ h=>by cases h) fun _=>?_)
    rw [V7 true (by omega),show ((i:Nat):Int)+1=((i+1:Nat):Int) from rfl]
    refine ih (i+1) (by omega) (fun j hj=>?_) (fun _=>hq)
    rcases Nat.lt_or_ge j i with q | q
    ·exact hz j q
    ·rw [show j=i by omega];exact h0
  ·have e:Ko ls big=202:=by
    unfold Ko QR
    cases ha:ls.all (fun d=>decide (d=0)) with
    | true=>exact absurd (ARJ (by omega) ha) h0
    | false=>rw [Bool.false_and,if_neg Bool.false_ne_true]
   rw [e]
   exact Ab [true,false] (As CE AB Tryz.func83 (AQp xs ls n (i:Nat) big) ⟨c1,c2,c3,decide_eq_false (by rw [ei];exact h0),trivial⟩ (XU ..) hb (fun _ h=>by cases h))
end
theorem D3 {N:Nat} (h:N<pN):(!decide (Iy 48 N=0))=false:=by unfold Iy;rw [if_pos rfl,if_pos h];rfl
theorem OF {N:Nat} (h:¬ N<pN):(!decide (Iy 48 N=0))=true:=by unfold Iy;rw [if_pos rfl,if_neg h];rfl
theorem GV {N:Nat} (h:N<pN):ET 48 N=N:=if_pos ⟨rfl,h⟩
theorem C' {C o:Nat} {ls:List Int} {e:Bool} {r:List (Bool×Bool)} (h1:48≤C) (h2:o+48≤ls.length) (h3:(!decide (Iy 48 (Bb ls o)=0))=e) (hr:AQ r):AQ (C3 C o ls e r) :=
 ⟨rfl,decide_eq_true ⟨by decide,by omega⟩,rfl,Nat.ble_eq_true_of_le h2,rfl,h3,hr⟩
theorem D4 {C:Nat} {b:Bool} {r:List (Bool×Bool)} (h:Nat.beq C 48=b) (hr:AQ r):AQ (Dn C b r):=⟨rfl,rfl,h,rfl,hr⟩
theorem GE {a:Nat} (h:a≠48):Nat.beq a 48=false:=by
 cases hq:Nat.beq a 48 with
 | false=>rfl
 | true=>exact absurd (Nat.eq_of_beq_eq_true hq) h
section
variable {xs ls:List Int} {big:Bool} {C:Nat} {β0:Env} {w0:World} (hb:∀ b,1≤b→β0 b=none)
include hb
theorem ABP (hC:48≤C) (hl:ls.length=48) (h0:Bb ls 0<pN):ASafe Tryz.prog 83 β0 w0 (Ay β0 w0 [] (FW 1 big) (FX 1 (I9 ls 1))) rdF.ntmps [] (DN xs ls big (.val false [.sl 2 0 48 C]) []):=by
 cases hq:Nat.beq C 48 with
 | true =>
  have t:=AQ7 xs ls C big
  rw [GV h0] at t
  exact Ab [true,false,true,false] (As CE AB Tryz.func83 t ⟨rfl,C' (by omega) (by omega) (D3 h0) (D4 hq (⟨rfl,trivial⟩))⟩ (HG ..) hb (fun _ h=>by cases h))
 | false =>
  have t:=AQ8 xs ls C big
  rw [GV h0] at t
  exact Ab [true,false,false,false] (As CE AB Tryz.func83 t ⟨rfl,C' (by omega) (by omega) (D3 h0) (D4 hq (⟨rfl,trivial⟩))⟩ (HG ..) hb (fun _ h=>by cases h))
theorem ABQ (hC:48≤C) (hl:ls.length=48) (h:Eu ls 1=false):ASafe Tryz.prog 83 β0 w0 (Ay β0 w0 [] (Cs 203) []) rdF.ntmps [] (DN xs ls big (.val false [.sl 2 0 48 C]) []):=by
 by_cases h0:Bb ls 0<pN
 case neg=>exact Ab [true,true] (As CE AB Tryz.func83 (AQ9 xs ls C big) ⟨rfl,C' (by omega) (by omega) (OF h0) trivial⟩ (HG ..) hb (fun _ h=>by cases h))
 have:Eu ls 1=true:=by
  show (decide (Bb ls 0<pN)&&true)=true
  rw [decide_eq_true h0];rfl
 rw [this] at h;cases h
theorem iT (hC:96≤C) (hl:ls.length=96) (h0:Bb ls 0<pN) (h1:Bb ls 48<pN):ASafe Tryz.prog 83 β0 w0 (Ay β0 w0 [] (FW 2 big) (FX 2 (I9 ls 2))) rdF.ntmps [] (DN xs ls big (.val false [.sl 2 0 96 C]) []):=by
 cases hq:Nat.beq (C-48) 48 with
 | true =>
  have t:=AQ_ xs ls C big
  rw [GV h0,GV h1] at t
  exact Ab [true,false,false,true,false,true,false] (As CE AB Tryz.func83 t ⟨rfl,C' (by omega) (by omega) (D3 h0) (D4 (GE (by omega)) (C' (by omega) (by omega) (D3 h1) (D4 hq (⟨rfl,trivial⟩))))⟩ (HG ..) hb (fun _ h=>by cases h))
 | false =>
  have t:=AQ' xs ls C big
  rw [GV h0,GV h1] at t
  exact Ab [true,false,false,true,false,false,false] (As CE AB Tryz.func83 t ⟨rfl,C' (by omega) (by omega) (D3 h0) (D4 (GE (by omega)) (C' (by omega) (by omega) (D3 h1) (D4 hq (⟨rfl,trivial⟩))))⟩ (HG ..) hb (fun _ h=>by cases h))
theorem iU (hC:96≤C) (hl:ls.length=96) (h:Eu ls 2=false):ASafe Tryz.prog 83 β0 w0 (Ay β0 w0 [] (Cs 203) []) rdF.ntmps [] (DN xs ls big (.val false [.sl 2 0 96 C]) []):=by
 by_cases h0:Bb ls 0<pN
 case neg=>exact Ab [true,true] (As CE AB Tryz.func83 (ARA xs ls C big) ⟨rfl,C' (by omega) (by omega) (OF h0) trivial⟩ (HG ..) hb (fun _ h=>by cases h))
 by_cases h1:Bb ls 48<pN
 case neg=>exact Ab [true,false,false,true,true] (As CE AB Tryz.func83 (ARB xs ls C big) ⟨rfl,C' (by omega) (by omega) (D3 h0) (D4 (GE (by omega)) (C' (by omega) (by omega) (OF h1) trivial))⟩ (HG ..) hb (fun _ h=>by cases h))
 have:Eu ls 2=true:=by
  show (decide (Bb ls 0<pN)&&(decide (Bb ls 48<pN)&&true))=true
  rw [decide_eq_true h0,decide_eq_true h1];rfl
 rw [this] at h;cases h
theorem ARK (hC:192≤C) (hl:ls.length=192) (h0:Bb ls 0<pN) (h1:Bb ls 48<pN) (h2:Bb ls 96<pN) (h3:Bb ls 144<pN):ASafe Tryz.prog 83 β0 w0 (Ay β0 w0 [] (FW 4 big) (FX 4 (I9 ls 4))) rdF.ntmps [] (DN xs ls big (.val false [.sl 2 0 192 C]) []):=by
 cases hq:Nat.beq (C-48-48-48) 48 with
 | true =>
  have t:=ARC xs ls C big
  rw [GV h0,GV h1,GV h2,GV h3] at t
  exact Ab [true,false,false,true,false,false,true,false,false,true,false,true,false] (As CE AB Tryz.func83 t ⟨rfl,C' (by omega) (by omega) (D3 h0) (D4 (GE (by omega)) (C' (by omega) (by omega) (D3 h1) (D4 (GE (by omega)) (C' (by omega) (by omega) (D3 h2) (D4 (GE (by omega)) (C' (by omega) (by omega) (D3 h3) (D4 hq (⟨rfl,trivial⟩))))))))⟩ (HG ..) hb (fun _ h=>by cases h))
 | false =>
  have t:=ARD xs ls C big
  rw [GV h0,GV h1,GV h2,GV h3] at t
  exact Ab [true,false,false,true,false,false,true,false,false,true,false,false,false] (As CE AB Tryz.func83 t ⟨rfl,C' (by omega) (by omega) (D3 h0) (D4 (GE (by omega)) (C' (by omega) (by omega) (D3 h1) (D4 (GE (by omega)) (C' (by omega) (by omega) (D3 h2) (D4 (GE (by omega)) (C' (by omega) (by omega) (D3 h3) (D4 hq (⟨rfl,trivial⟩))))))))⟩ (HG ..) hb (fun _ h=>by cases h))
theorem ARL (hC:192≤C) (hl:ls.length=192) (h:Eu ls 4=false):ASafe Tryz.prog 83 β0 w0 (Ay β0 w0 [] (Cs 203) []) rdF.ntmps [] (DN xs ls big (.val false [.sl 2 0 192 C]) []):=by
 by_cases h0:Bb ls 0<pN
 case neg=>exact Ab [true,true] (As CE AB Tryz.func83 (ARE xs ls C big) ⟨rfl,C' (by omega) (by omega) (OF h0) trivial⟩ (HG ..) hb (fun _ h=>by cases h))
 by_cases h1:Bb ls 48<pN
 case neg=>exact Ab [true,false,false,true,true] (As CE AB Tryz.func83 (ARF xs ls C big) ⟨rfl,C' (by omega) (by omega) (D3 h0) (D4 (GE (by omega)) (C' (by omega) (by omega) (OF h1) trivial))⟩ (HG ..) hb (fun _ h=>by cases h))
 by_cases h2:Bb ls 96<pN
 case neg=>exact Ab [true,false,false,true,false,false,true,true] (As CE AB Tryz.func83 (ARG xs ls C big) ⟨rfl,C' (by omega) (by omega) (D3 h0) (D4 (GE (by omega)) (C' (by omega) (by omega) (D3 h1) (D4 (GE (by omega)) (C' (by omega) (by omega) (OF h2) trivial))))⟩ (HG ..) hb (fun _ h=>by cases h))
 by_cases h3:Bb ls 144<pN
 case neg=>exact Ab [true,false,false,true,false,false,true,false,false,true,true] (As CE AB Tryz.func83 (ARH xs ls C big) ⟨rfl,C' (by omega) (by omega) (D3 h0) (D4 (GE (by omega)) (C' (by omega) (by omega) (D3 h1) (D4 (GE (by omega)) (C' (by omega) (by omega) (D3 h2) (D4 (GE (by omega)) (C' (by omega) (by omega) (OF h3) trivial))))))⟩ (HG ..) hb (fun _ h=>by cases h))
 have:Eu ls 4=true:=by
  show (decide (Bb ls 0<pN)&&(decide (Bb ls 48<pN)&&(decide (Bb ls 96<pN)&&(decide (Bb ls 144<pN)&&true))))=true
  rw [decide_eq_true h0,decide_eq_true h1,decide_eq_true h2,decide_eq_true h3];rfl
 rw [this] at h;cases h
end
theorem HH {ls:List Int} {k:Nat} (h:Eu ls k=true) (j:Nat) (hj:j<k):Bb ls (48*j)<pN:=by
 unfold Eu at h;rw [List.all_eq_true] at h;exact of_decide_eq_true (h j (List.mem_range.2 hj))
theorem CV {xs:List Int} {n:Nat} (hn:0<n) (k:Int):Ar (AA xs 0 n) k=Ar xs k:=by
 unfold Ar AA
 rw [List.drop_zero,List.getD_eq_getElem?_getD,List.getD_eq_getElem?_getD,List.getElem?_take_of_lt hn]
theorem MQ {xs:List Int} {n:Nat} (hn:0<n):CF (AA xs 0 n) (n-1)=CF xs (n-1):=by
 unfold CF AA
 rw [List.drop_zero,List.getD_eq_getElem?_getD,List.getD_eq_getElem?_getD,List.getElem?_take_of_lt hn,List.drop_take,List.take_take,Nat.min_self]
theorem MR {xs:List Int} {k:Nat} (h:k<xs.length):(CF xs k).length=k+1:=by
 unfold CF;simp;omega
theorem Hp {xs:List Int} {n:Nat} (h:n≤xs.length):(AA xs 0 n).length=n:=by
 unfold AA;simp;omega
theorem Db {xs:List Int} {s b:Bool} {r:List (Bool×Bool)} (h:0<xs.length) (hs:(!(Ar xs 128==s))=b) (hr:AQ r):AQ (EY xs s b r):=by
 have e:=decide_eq_true h
 exact ⟨rfl,rfl,rfl,e,rfl,e,rfl,e,hs,hr⟩
theorem Ev {xs:List Int} {n m:Nat} {b c:Bool} {r:List (Bool×Bool)} (h:0<xs.length) (hn:n≤xs.length) (hm:1<m) (h1:Ar xs 32=b) (h2:Ar xs 64=c) (hr:AQ r):AQ (HF xs n m b c r):=by
 have e:=decide_eq_true h
 refine ⟨h1,rfl,e,rfl,?_,rfl,Nat.ble_eq_true_of_le hn,rfl,h2,hr⟩
 cases hq:Nat.beq m 1 with
 | false=>rfl
 | true=>have:=Nat.eq_of_beq_eq_true hq;omega
theorem ARM {xs:List Int} {n m:Nat} (hl:n≤xs.length) (hm:n≤m) (hn:AJ .i64 n=true) (hr:Bi 1 true (AA xs 0 n)=false):Ad Tryz.prog 83 (HD n m 1 true) (Au xs) 1 [] (Cs (Bw 1 true (AA xs 0 n))) []:=by
 by_cases hk:n=48
 case neg =>
  have e:Bw 1 true (AA xs 0 n)=200:=by unfold Bw;rw [Hp hl,if_pos hk]
  rw [e]
  exact A2 DY BA Tryz.func83 (by kernel_rfl) (by kernel_rfl) (AQr xs n m) (by kernel_rfl) ⟨hn,by rw [decide_eq_false (by omega)];rfl,trivial⟩
 subst hk
 have hx:0<xs.length:=by omega
 have hw:=Hp hl
 have er:=MQ (xs:=xs) (n:=48) (by decide)
 have elen:=MR (xs:=xs) (k:=47) (by omega)
 unfold Bw Bi at *
 rw [CV (by decide),CV (by decide),CV (by decide),er,hw,decide_eq_true rfl,Bool.true_and] at hr
 rw [CV (by decide),CV (by decide),CV (by decide),er,hw,if_neg (fun h=>h rfl)]
 by_cases f1:Ar xs 128=true
 case neg =>
  rw [if_pos f1]
  exact A2 DY BA Tryz.func83 (by kernel_rfl) (by kernel_rfl) (AQs xs m) (by kernel_rfl) (Db hx (by cases hq:Ar xs 128<;>first | rfl | exact absurd hq f1) trivial)
 rw [if_neg (fun h=>h f1)]
 rw [decide_eq_true f1,Bool.true_and] at hr
 have p0:(!(Ar xs 128==true))=false:=by rw [f1];rfl
 rw [if_neg (fun h=>by rw [Bool.not_true,Bool.and_false] at h;cases h)]
 rw [Bool.not_true,Bool.and_false,Bool.not_false,Bool.true_and] at hr
 cases f2:Ar xs 32
 case false =>
  cases f3:Ar xs 64 with
  | true =>
   rw [if_pos rfl]
   refine Av (path:=[false,false,false,false,true]) Tryz.func83 (by kernel_rfl) (by kernel_rfl) fun β0 w0 hb=>?_
   have t:=AQt xs m
   rw [f2] at t
   exact Ae CE AB t (Db hx p0 (Ev hx hl (by omega) f2 f3 ⟨rfl,trivial⟩)) (AL (by kernel_rfl)) hb (fun _ h=>by cases h) fun _=>QS elen (by decide) (by decide) hb 48 0 (by decide) (fun j hj=>absurd hj (Nat.not_lt_zero j)) (fun h=>absurd h (Nat.lt_irrefl 0))
  | false =>
   rw [f3] at hr
   have hr':Eu (CF xs 47) 1=false:=hr
   rw [if_neg Bool.false_ne_true,if_neg (by rw [hr'];exact Bool.false_ne_true)]
   refine Av (path:=[false,false,false,false,false]) Tryz.func83 (by kernel_rfl) (by kernel_rfl) fun β0 w0 hb=>?_
   exact Ae CE AB (ABJ xs m) (Db hx p0 (Ev hx hl (by omega) f2 f3 trivial)) (AL (by kernel_rfl)) hb (fun _ h=>by cases h) fun _=>Ho fun C hC=>ABQ hb hC elen hr'
 case true =>
  cases f3:Ar xs 64 with
  | true =>
   rw [if_pos rfl]
   refine Av (path:=[false,false,true,false,true]) Tryz.func83 (by kernel_rfl) (by kernel_rfl) fun β0 w0 hb=>?_
   have t:=AQu xs m
   rw [f2] at t
   exact Ae CE AB t (Db hx p0 (Ev hx hl (by omega) f2 f3 ⟨rfl,trivial⟩)) (AL (by kernel_rfl)) hb (fun _ h=>by cases h) fun _=>QS elen (by decide) (by decide) hb 48 0 (by decide) (fun j hj=>absurd hj (Nat.not_lt_zero j)) (fun h=>absurd h (Nat.lt_irrefl 0))
  | false =>
   rw [f3] at hr
   have hr':Eu (CF xs 47) 1=false:=hr
   rw [if_neg Bool.false_ne_true,if_neg (by rw [hr'];exact Bool.false_ne_true)]
   refine Av (path:=[false,false,true,false,false]) Tryz.func83 (by kernel_rfl) (by kernel_rfl) fun β0 w0 hb=>?_
   exact Ae CE AB (ABK xs m) (Db hx p0 (Ev hx hl (by omega) f2 f3 trivial)) (AL (by kernel_rfl)) hb (fun _ h=>by cases h) fun _=>Ho fun C hC=>ABQ hb hC elen hr'
theorem ARN {xs:List Int} {n m:Nat} (hl:n≤xs.length) (hm:n≤m) (hr:Bi 1 true (AA xs 0 n)=true):Ad Tryz.prog 83 (HD n m 1 true) (Au xs) 1 [] (FW 1 (Ar (AA xs 0 n) 32)) (FX 1 (I9 (CF (AA xs 0 n) 47) 1)):=by
 unfold Bi at hr
 simp only [Bool.and_eq_true,decide_eq_true_eq] at hr
 obtain ⟨hk,f1,f2,f3,h4⟩:=hr
 rw [Hp hl] at hk
 have hk':n=48:=hk
 subst hk'
 have hx:0<xs.length:=by omega
 have er:=MQ (xs:=xs) (n:=48) (by decide)
 have elen:=MR (xs:=xs) (k:=47) (by omega)
 rw [CV (by decide)] at f1 f2 f3
 rw [er] at h4
 rw [CV (by decide),er]
 have p0:(!(Ar xs 128==true))=false:=by rw [f1];rfl
 have f3':Ar xs 64=false:=by cases hq:Ar xs 64 with | false=>rfl | true=>rw [hq] at f3;cases f3
 cases f4:Ar xs 32
 case false =>
  refine Av (path:=[false,false,false,false,false]) Tryz.func83 (by kernel_rfl) (by kernel_rfl) fun β0 w0 hb=>?_
  have t:=ABJ xs m
  rw [f4] at t
  exact Ae CE AB t (Db hx p0 (Ev hx hl (by omega) f4 f3' trivial)) (AL (by kernel_rfl)) hb (fun _ h=>by cases h) fun _=>Ho fun C hC=>ABP hb hC elen (HH h4 0 (by decide))
 case true =>
  refine Av (path:=[false,false,true,false,false]) Tryz.func83 (by kernel_rfl) (by kernel_rfl) fun β0 w0 hb=>?_
  have t:=ABK xs m
  rw [f4] at t
  exact Ae CE AB t (Db hx p0 (Ev hx hl (by omega) f4 f3' trivial)) (AL (by kernel_rfl)) hb (fun _ h=>by cases h) fun _=>Ho fun C hC=>ABP hb hC elen (HH h4 0 (by decide))
theorem ARO {xs:List Int} {n m:Nat} (hl:n≤xs.length) (hm:n≤m) (hn:AJ .i64 n=true) (hr:Bi 2 false (AA xs 0 n)=false):Ad Tryz.prog 83 (HD n m 1 false) (Au xs) 1 [] (Cs (Bw 2 false (AA xs 0 n))) []:=by
 by_cases hk:n=96
 case neg =>
  have e:Bw 2 false (AA xs 0 n)=200:=by unfold Bw;rw [Hp hl,if_pos hk]
  rw [e]
  exact A2 DY BA Tryz.func83 (by kernel_rfl) (by kernel_rfl) (AQv xs n m) (by kernel_rfl) ⟨hn,by rw [decide_eq_false (by omega)];rfl,trivial⟩
 subst hk
 have hx:0<xs.length:=by omega
 have hw:=Hp hl
 have er:=MQ (xs:=xs) (n:=96) (by decide)
 have elen:=MR (xs:=xs) (k:=95) (by omega)
 unfold Bw Bi at *
 rw [CV (by decide),CV (by decide),CV (by decide),er,hw,decide_eq_true rfl,Bool.true_and] at hr
 rw [CV (by decide),CV (by decide),CV (by decide),er,hw,if_neg (fun h=>h rfl)]
 by_cases f1:Ar xs 128=false
 case neg =>
  rw [if_pos f1]
  exact A2 DY BA Tryz.func83 (by kernel_rfl) (by kernel_rfl) (AQw xs m) (by kernel_rfl) (Db hx (by cases hq:Ar xs 128<;>first | rfl | exact absurd hq f1) trivial)
 rw [if_neg (fun h=>h f1)]
 rw [decide_eq_true f1,Bool.true_and] at hr
 have p0:(!(Ar xs 128==false))=false:=by rw [f1];rfl
 cases f2:Ar xs 32 with
 | true =>
  rw [if_pos (show (true&&!false)=true from rfl)]
  exact A2 DY BA Tryz.func83 (by kernel_rfl) (by kernel_rfl) (AQx xs m) (by kernel_rfl) (Db hx p0 ⟨f2,trivial⟩)
 | false =>
  rw [f2] at hr
  rw [if_neg (fun h=>by cases h)]
  cases f3:Ar xs 64 with
  | true =>
   rw [if_pos rfl]
   refine Av (path:=[false,false,false,false,true]) Tryz.func83 (by kernel_rfl) (by kernel_rfl) fun β0 w0 hb=>?_
   have t:=AQy xs m
   rw [f2] at t
   exact Ae CE AB t (Db hx p0 (Ev hx hl (by omega) f2 f3 ⟨rfl,trivial⟩)) (AL (by kernel_rfl)) hb (fun _ h=>by cases h) fun _=>QS elen (by decide) (by decide) hb 96 0 (by decide) (fun j hj=>absurd hj (Nat.not_lt_zero j)) (fun h=>absurd h (Nat.lt_irrefl 0))
  | false =>
   rw [f3] at hr
   have hr':Eu (CF xs 95) 2=false:=hr
   rw [if_neg Bool.false_ne_true,if_neg (by rw [hr'];exact Bool.false_ne_true)]
   refine Av (path:=[false,false,false,false,false]) Tryz.func83 (by kernel_rfl) (by kernel_rfl) fun β0 w0 hb=>?_
   exact Ae CE AB (ABL xs m) (Db hx p0 (Ev hx hl (by omega) f2 f3 trivial)) (AL (by kernel_rfl)) hb (fun _ h=>by cases h) fun _=>Ho fun C hC=>iU hb hC elen hr'
theorem ARP {xs:List Int} {n m:Nat} (hl:n≤xs.length) (hm:n≤m) (hr:Bi 2 false (AA xs 0 n)=true):Ad Tryz.prog 83 (HD n m 1 false) (Au xs) 1 [] (FW 2 (Ar (AA xs 0 n) 32)) (FX 2 (I9 (CF (AA xs 0 n) 95) 2)):=by
 unfold Bi at hr
 simp only [Bool.and_eq_true,decide_eq_true_eq] at hr
 obtain ⟨hk,f1,f2,f3,h4⟩:=hr
 rw [Hp hl] at hk
 have hk':n=96:=hk
 subst hk'
 have hx:0<xs.length:=by omega
 have er:=MQ (xs:=xs) (n:=96) (by decide)
 have elen:=MR (xs:=xs) (k:=95) (by omega)
 rw [CV (by decide)] at f1 f2 f3
 rw [er] at h4
 rw [CV (by decide),er]
 have p0:(!(Ar xs 128==false))=false:=by rw [f1];rfl
 have f3':Ar xs 64=false:=by cases hq:Ar xs 64 with | false=>rfl | true=>rw [hq] at f3;cases f3
 cases f4:Ar xs 32
 case false =>
  refine Av (path:=[false,false,false,false,false]) Tryz.func83 (by kernel_rfl) (by kernel_rfl) fun β0 w0 hb=>?_
  have t:=ABL xs m
  rw [f4] at t
  exact Ae CE AB t (Db hx p0 (Ev hx hl (by omega) f4 f3' trivial)) (AL (by kernel_rfl)) hb (fun _ h=>by cases h) fun _=>Ho fun C hC=>iT hb hC elen (HH h4 0 (by decide)) (HH h4 1 (by decide))
 case true=>rw [f4] at f2;cases f2
theorem ARQ {xs:List Int} {n m:Nat} (hl:n≤xs.length) (hm:n≤m) (hn:AJ .i64 n=true) (hr:Bi 2 true (AA xs 0 n)=false):Ad Tryz.prog 83 (HD n m 2 true) (Au xs) 1 [] (Cs (Bw 2 true (AA xs 0 n))) []:=by
 by_cases hk:n=96
 case neg =>
  have e:Bw 2 true (AA xs 0 n)=200:=by unfold Bw;rw [Hp hl,if_pos hk]
  rw [e]
  exact A2 DY BA Tryz.func83 (by kernel_rfl) (by kernel_rfl) (AQz xs n m) (by kernel_rfl) ⟨hn,by rw [decide_eq_false (by omega)];rfl,trivial⟩
 subst hk
 have hx:0<xs.length:=by omega
 have hw:=Hp hl
 have er:=MQ (xs:=xs) (n:=96) (by decide)
 have elen:=MR (xs:=xs) (k:=95) (by omega)
 unfold Bw Bi at *
 rw [CV (by decide),CV (by decide),CV (by decide),er,hw,decide_eq_true rfl,Bool.true_and] at hr
 rw [CV (by decide),CV (by decide),CV (by decide),er,hw,if_neg (fun h=>h rfl)]
 by_cases f1:Ar xs 128=true
 case neg =>
  rw [if_pos f1]
  exact A2 DY BA Tryz.func83 (by kernel_rfl) (by kernel_rfl) (AQ0 xs m) (by kernel_rfl) (Db hx (by cases hq:Ar xs 128<;>first | rfl | exact absurd hq f1) trivial)
 rw [if_neg (fun h=>h f1)]
 rw [decide_eq_true f1,Bool.true_and] at hr
 have p0:(!(Ar xs 128==true))=false:=by rw [f1];rfl
 rw [if_neg (fun h=>by rw [Bool.not_true,Bool.and_false] at h;cases h)]
 rw [Bool.not_true,Bool.and_false,Bool.not_false,Bool.true_and] at hr
 cases f2:Ar xs 32
 case false =>
  cases f3:Ar xs 64 with
  | true =>
   rw [if_pos rfl]
   refine Av (path:=[false,false,false,false,true]) Tryz.func83 (by kernel_rfl) (by kernel_rfl) fun β0 w0 hb=>?_
   have t:=AQ1 xs m
   rw [f2] at t
   exact Ae CE AB t (Db hx p0 (Ev hx hl (by omega) f2 f3 ⟨rfl,trivial⟩)) (AL (by kernel_rfl)) hb (fun _ h=>by cases h) fun _=>QS elen (by decide) (by decide) hb 96 0 (by decide) (fun j hj=>absurd hj (Nat.not_lt_zero j)) (fun h=>absurd h (Nat.lt_irrefl 0))
  | false =>
   rw [f3] at hr
   have hr':Eu (CF xs 95) 2=false:=hr
   rw [if_neg Bool.false_ne_true,if_neg (by rw [hr'];exact Bool.false_ne_true)]
   refine Av (path:=[false,false,false,false,false]) Tryz.func83 (by kernel_rfl) (by kernel_rfl) fun β0 w0 hb=>?_
   exact Ae CE AB (ABM xs m) (Db hx p0 (Ev hx hl (by omega) f2 f3 trivial)) (AL (by kernel_rfl)) hb (fun _ h=>by cases h) fun _=>Ho fun C hC=>iU hb hC elen hr'
 case true =>
  cases f3:Ar xs 64 with
  | true =>
   rw [if_pos rfl]
   refine Av (path:=[false,false,true,false,true]) Tryz.func83 (by kernel_rfl) (by kernel_rfl) fun β0 w0 hb=>?_
   have t:=AQ2 xs m
   rw [f2] at t
   exact Ae CE AB t (Db hx p0 (Ev hx hl (by omega) f2 f3 ⟨rfl,trivial⟩)) (AL (by kernel_rfl)) hb (fun _ h=>by cases h) fun _=>QS elen (by decide) (by decide) hb 96 0 (by decide) (fun j hj=>absurd hj (Nat.not_lt_zero j)) (fun h=>absurd h (Nat.lt_irrefl 0))
  | false =>
   rw [f3] at hr
   have hr':Eu (CF xs 95) 2=false:=hr
   rw [if_neg Bool.false_ne_true,if_neg (by rw [hr'];exact Bool.false_ne_true)]
   refine Av (path:=[false,false,true,false,false]) Tryz.func83 (by kernel_rfl) (by kernel_rfl) fun β0 w0 hb=>?_
   exact Ae CE AB (ABN xs m) (Db hx p0 (Ev hx hl (by omega) f2 f3 trivial)) (AL (by kernel_rfl)) hb (fun _ h=>by cases h) fun _=>Ho fun C hC=>iU hb hC elen hr'
theorem ARR {xs:List Int} {n m:Nat} (hl:n≤xs.length) (hm:n≤m) (hr:Bi 2 true (AA xs 0 n)=true):Ad Tryz.prog 83 (HD n m 2 true) (Au xs) 1 [] (FW 2 (Ar (AA xs 0 n) 32)) (FX 2 (I9 (CF (AA xs 0 n) 95) 2)):=by
 unfold Bi at hr
 simp only [Bool.and_eq_true,decide_eq_true_eq] at hr
 obtain ⟨hk,f1,f2,f3,h4⟩:=hr
 rw [Hp hl] at hk
 have hk':n=96:=hk
 subst hk'
 have hx:0<xs.length:=by omega
 have er:=MQ (xs:=xs) (n:=96) (by decide)
 have elen:=MR (xs:=xs) (k:=95) (by omega)
 rw [CV (by decide)] at f1 f2 f3
 rw [er] at h4
 rw [CV (by decide),er]
 have p0:(!(Ar xs 128==true))=false:=by rw [f1];rfl
 have f3':Ar xs 64=false:=by cases hq:Ar xs 64 with | false=>rfl | true=>rw [hq] at f3;cases f3
 cases f4:Ar xs 32
 case false =>
  refine Av (path:=[false,false,false,false,false]) Tryz.func83 (by kernel_rfl) (by kernel_rfl) fun β0 w0 hb=>?_
  have t:=ABM xs m
  rw [f4] at t
  exact Ae CE AB t (Db hx p0 (Ev hx hl (by omega) f4 f3' trivial)) (AL (by kernel_rfl)) hb (fun _ h=>by cases h) fun _=>Ho fun C hC=>iT hb hC elen (HH h4 0 (by decide)) (HH h4 1 (by decide))
 case true =>
  refine Av (path:=[false,false,true,false,false]) Tryz.func83 (by kernel_rfl) (by kernel_rfl) fun β0 w0 hb=>?_
  have t:=ABN xs m
  rw [f4] at t
  exact Ae CE AB t (Db hx p0 (Ev hx hl (by omega) f4 f3' trivial)) (AL (by kernel_rfl)) hb (fun _ h=>by cases h) fun _=>Ho fun C hC=>iT hb hC elen (HH h4 0 (by decide)) (HH h4 1 (by decide))
theorem ARS {xs:List Int} {n m:Nat} (hl:n≤xs.length) (hm:n≤m) (hn:AJ .i64 n=true) (hr:Bi 4 false (AA xs 0 n)=false):Ad Tryz.prog 83 (HD n m 2 false) (Au xs) 1 [] (Cs (Bw 4 false (AA xs 0 n))) []:=by
 by_cases hk:n=192
 case neg =>
  have e:Bw 4 false (AA xs 0 n)=200:=by unfold Bw;rw [Hp hl,if_pos hk]
  rw [e]
  exact A2 DY BA Tryz.func83 (by kernel_rfl) (by kernel_rfl) (AQ3 xs n m) (by kernel_rfl) ⟨hn,by rw [decide_eq_false (by omega)];rfl,trivial⟩
 subst hk
 have hx:0<xs.length:=by omega
 have hw:=Hp hl
 have er:=MQ (xs:=xs) (n:=192) (by decide)
 have elen:=MR (xs:=xs) (k:=191) (by omega)
 unfold Bw Bi at *
 rw [CV (by decide),CV (by decide),CV (by decide),er,hw,decide_eq_true rfl,Bool.true_and] at hr
 rw [CV (by decide),CV (by decide),CV (by decide),er,hw,if_neg (fun h=>h rfl)]
 by_cases f1:Ar xs 128=false
 case neg =>
  rw [if_pos f1]
  exact A2 DY BA Tryz.func83 (by kernel_rfl) (by kernel_rfl) (AQ4 xs m) (by kernel_rfl) (Db hx (by cases hq:Ar xs 128<;>first | rfl | exact absurd hq f1) trivial)
 rw [if_neg (fun h=>h f1)]
 rw [decide_eq_true f1,Bool.true_and] at hr
 have p0:(!(Ar xs 128==false))=false:=by rw [f1];rfl
 cases f2:Ar xs 32 with
 | true =>
  rw [if_pos (show (true&&!false)=true from rfl)]
  exact A2 DY BA Tryz.func83 (by kernel_rfl) (by kernel_rfl) (AQ5 xs m) (by kernel_rfl) (Db hx p0 ⟨f2,trivial⟩)
 | false =>
  rw [f2] at hr
  rw [if_neg (fun h=>by cases h)]
  cases f3:Ar xs 64 with
  | true =>
   rw [if_pos rfl]
   refine Av (path:=[false,false,false,false,true]) Tryz.func83 (by kernel_rfl) (by kernel_rfl) fun β0 w0 hb=>?_
   have t:=AQ6 xs m
   rw [f2] at t
   exact Ae CE AB t (Db hx p0 (Ev hx hl (by omega) f2 f3 ⟨rfl,trivial⟩)) (AL (by kernel_rfl)) hb (fun _ h=>by cases h) fun _=>QS elen (by decide) (by decide) hb 192 0 (by decide) (fun j hj=>absurd hj (Nat.not_lt_zero j)) (fun h=>absurd h (Nat.lt_irrefl 0))
  | false =>
   rw [f3] at hr
   have hr':Eu (CF xs 191) 4=false:=hr
   rw [if_neg Bool.false_ne_true,if_neg (by rw [hr'];exact Bool.false_ne_true)]
   refine Av (path:=[false,false,false,false,false]) Tryz.func83 (by kernel_rfl) (by kernel_rfl) fun β0 w0 hb=>?_
   exact Ae CE AB (ABO xs m) (Db hx p0 (Ev hx hl (by omega) f2 f3 trivial)) (AL (by kernel_rfl)) hb (fun _ h=>by cases h) fun _=>Ho fun C hC=>ARL hb hC elen hr'
theorem ART {xs:List Int} {n m:Nat} (hl:n≤xs.length) (hm:n≤m) (hr:Bi 4 false (AA xs 0 n)=true):Ad Tryz.prog 83 (HD n m 2 false) (Au xs) 1 [] (FW 4 (Ar (AA xs 0 n) 32)) (FX 4 (I9 (CF (AA xs 0 n) 191) 4)):=by
 unfold Bi at hr
 simp only [Bool.and_eq_true,decide_eq_true_eq] at hr
 obtain ⟨hk,f1,f2,f3,h4⟩:=hr
 rw [Hp hl] at hk
 have hk':n=192:=hk
 subst hk'
 have hx:0<xs.length:=by omega
 have er:=MQ (xs:=xs) (n:=192) (by decide)
 have elen:=MR (xs:=xs) (k:=191) (by omega)
 rw [CV (by decide)] at f1 f2 f3
 rw [er] at h4
 rw [CV (by decide),er]
 have p0:(!(Ar xs 128==false))=false:=by rw [f1];rfl
 have f3':Ar xs 64=false:=by cases hq:Ar xs 64 with | false=>rfl | true=>rw [hq] at f3;cases f3
 cases f4:Ar xs 32
 case false =>
  refine Av (path:=[false,false,false,false,false]) Tryz.func83 (by kernel_rfl) (by kernel_rfl) fun β0 w0 hb=>?_
  have t:=ABO xs m
  rw [f4] at t
  exact Ae CE AB t (Db hx p0 (Ev hx hl (by omega) f4 f3' trivial)) (AL (by kernel_rfl)) hb (fun _ h=>by cases h) fun _=>Ho fun C hC=>ARK hb hC elen (HH h4 0 (by decide)) (HH h4 1 (by decide)) (HH h4 2 (by decide)) (HH h4 3 (by decide))
 case true=>rw [f4] at f2;cases f2
end
def I_:AV→Option (Nat×Nat×Nat)
 | .val false [.sl k 0 n m]=>some (k,n,m)
 | .val false [.sx k n _]=>some (k,n,n)
 | _=>none
theorem I' {β:Env} {A:AV} {k n m:Nat} {u:Value} (h:I_ A=some (k,n,m)) (hm:n≤m) (hr:AP β A u):∃ m',n≤m'∧AP β (AI k 0 n m') u:=by
 unfold I_ at h
 split at h
 ·injection h with h;injection h with h1 h;injection h with h2 h3
  subst h1;subst h2;subst h3
  exact ⟨_,hm,hr⟩
 ·injection h with h;injection h with h1 h;injection h with h2 h3
  subst h1;subst h2;subst h3
  obtain ⟨l1,l2,h1,h2,h3⟩:=hr
  rcases h1 with ⟨B,q,cap,q1,q2,q3,q4⟩ | ⟨q1,q2,q3⟩
  ·exact ⟨cap,q3,l1,l2,.inl ⟨B,(q,0),q1,by rw [q2]⟩,h2,h3⟩
  ·subst q2
   exact ⟨0,Nat.le_refl _,l1,l2,.inr ⟨q1,rfl,rfl,rfl,q3⟩,h2,h3⟩
 ·cases h
def OG (h:Int) (s:Bool):Option Nat:=if h=1 then (match s with | true=>some 1 | false=>some 2) else if h=2 then (match s with | true=>some 2 | false=>some 4) else none
theorem ARU {h:Int} {s:Bool} {K:Nat} (hK:OG h s=some K) {xs:List Int} {n m:Nat} (hl:n≤xs.length) (hm:n≤m) (hn:AJ .i64 n=true) (hr:Bi K s (AA xs 0 n)=false):Ad Tryz.prog 83 (HD n m h s) (Au xs) 1 [] (Cs (Bw K s (AA xs 0 n))) []:=by
 unfold OG at hK
 split at hK
 ·rename_i e
  subst e
  cases s
  ·injection hK with hK;subst hK;exact ARO hl hm hn hr
  ·injection hK with hK;subst hK;exact ARM hl hm hn hr
 ·split at hK
  ·rename_i e
   subst e
   cases s
   ·injection hK with hK;subst hK;exact ARS hl hm hn hr
   ·injection hK with hK;subst hK;exact ARQ hl hm hn hr
  ·cases hK
theorem ARV {h:Int} {s:Bool} {K:Nat} (hK:OG h s=some K) {xs:List Int} {n m:Nat} (hl:n≤xs.length) (hm:n≤m) (hr:Bi K s (AA xs 0 n)=true):Ad Tryz.prog 83 (HD n m h s) (Au xs) 1 [] (FW K (Ar (AA xs 0 n) 32)) (FX K (I9 (CF (AA xs 0 n) (48*K-1)) K)):=by
 unfold OG at hK
 split at hK
 ·rename_i e
  subst e
  cases s
  ·injection hK with hK;subst hK;exact ARP hl hm hr
  ·injection hK with hK;subst hK;exact ARN hl hm hr
 ·split at hK
  ·rename_i e
   subst e
   cases s
   ·injection hK with hK;subst hK;exact ART hl hm hr
   ·injection hK with hK;subst hK;exact ARR hl hm hr
  ·cases hK
def ABR (e:Int):AV:=.tup [(false,[.v (.slice none 0 0)]),(false,[.b false]),(false,[.v (.int .i64 e)])]
theorem ARW {β β':Env} {g g' g'':Bool} {a a' b b' c c':List Ch} {u:Value} (h1:∀ v,Bn β g a v→Bn β' g a' v) (h2:∀ v,Bn β g' b v→Bn β' g' b' v) (h3:∀ v,Bn β g'' c v→Bn β' g'' c' v) (h:AP β (.tup [(g,a),(g',b),(g'',c)]) u):AP β' (.tup [(g,a'),(g',b'),(g'',c')]) u:=by
 obtain ⟨us,⟨u1,l1,q1,⟨u2,l2,q2,⟨u3,l3,q3,q4,q5⟩,q6⟩,q7⟩,q8⟩:=h
 exact ⟨us,⟨u1,l1,h1 _ q1,⟨u2,l2,h2 _ q2,⟨u3,l3,h3 _ q3,q4,q5⟩,q6⟩,q7⟩,q8⟩
theorem ARX {β:Env} {e:Int} {u:Value} (h:AP β (Cs e) u):AP β (ABR e) u:=ARW (fun _ q=>q) (fun _ q=>q) (fun _ q=>Df rfl q) h
def rdC (n m:Nat) (xs:List Int) (b d:Bool):List (Bool×Bool):=[(Nat.ble n xs.length,true),(Nat.ble n m,true),(AJ .i64 n,true),(b,d)]
noncomputable def rdSp:ASpec:=fun args H fr path=>match args with
 | [S,.val false [.n .i64 h],B]=>match I_ S,Eg (some B) with
  | some (k,n,m),some (_,s)=>match AG H k,OG h s with
   | some ⟨_,cs,_⟩,some K=>match Ao .u8 cs,path with
    | some xs,true::rest=>some (A5 [k] 1 fr 0 [] (ABR (Bw K s (AA xs 0 n))) [] (rdC n m xs (Bi K s (AA xs 0 n)) false) rest)
    | some xs,false::rest=>some (A5 [k] 1 fr (3*K+2) [] (FW K (Ar (AA xs 0 n) 32)) (FX K (I9 (CF (AA xs 0 n) (48*K-1)) K)) (rdC n m xs (Bi K s (AA xs 0 n)) true) rest)
    | _,_=>none
   | _,_=>none
  | _,_=>none
 | _=>none
theorem ARY {h:Int} {s:Bool} {K:Nat} (hK:OG h s=some K):K=1∨K=2∨K=4:=by
 unfold OG at hK
 split at hK
 ·cases s<;>injection hK with hK<;>omega
 ·split at hK
  ·cases s<;>injection hK with hK<;>omega
  ·cases hK
theorem ARZ {K:Nat} (h:K=1∨K=2∨K=4) (b:Bool) (l:List Int):Cu 1 (3*K+2) [] (FW K b) (FX K (I9 l K))=true:=by
 rcases h with rfl | rfl | rfl<;>kernel_rfl
theorem ARa:A6 Tryz.prog 83 rdSp:=by
 refine CS Tryz.func83 (by kernel_rfl) (by kernel_rfl) fun args H fr path r hs=>?_
 unfold rdSp at hs
 split at hs
 case h_2=>cases hs
 rename_i S h B
 split at hs
 case h_2=>cases hs
 rename_i k n m c s hS hB
 split at hs
 case h_2=>cases hs
 rename_i ty cs o K hk' hK
 split at hs
 case h_3=>cases hs
 all_goals
  rename_i xs rest hxs
  injection hs with hs
 ·refine ⟨[k],1,0,[],_,_,_,rest,hs.symm,fun β us w ha hg hc=>?_⟩
  obtain ⟨u1,us1,r1,⟨u2,us2,r2,⟨u3,us3,r3,ha,rfl⟩,rfl⟩,rfl⟩:=ha
  obtain ⟨hl,hm,hn,hr,_⟩:=hc
  obtain ⟨m',hm',r1⟩:=I' hS (Nat.le_of_ble_eq_true hm) r1
  obtain ⟨g1,g2,g3⟩:=Cx hg hk' hxs
  exact ⟨HD n m' h s,Au xs,BU (ARU hK (Nat.le_of_ble_eq_true hl) hm' hn hr) fun _ _ q=>ARX q,by kernel_rfl,⟨u1,_,BS (by omega) rfl r1,⟨u2,_,r2,⟨u3,us3,QK hB r3,ha,rfl⟩,rfl⟩,rfl⟩,g2,g3⟩
 ·refine ⟨[k],1,3*K+2,[],_,_,_,rest,hs.symm,fun β us w ha hg hc=>?_⟩
  obtain ⟨u1,us1,r1,⟨u2,us2,r2,⟨u3,us3,r3,ha,rfl⟩,rfl⟩,rfl⟩:=ha
  obtain ⟨hl,hm,hn,hr,_⟩:=hc
  obtain ⟨m',hm',r1⟩:=I' hS (Nat.le_of_ble_eq_true hm) r1
  obtain ⟨g1,g2,g3⟩:=Cx hg hk' hxs
  exact ⟨HD n m' h s,Au xs,ARV hK (Nat.le_of_ble_eq_true hl) hm' hr,ARZ (ARY hK) _ _,⟨u1,_,BS (by omega) rfl r1,⟨u2,_,r2,⟨u3,us3,QK hB r3,ha,rfl⟩,rfl⟩,rfl⟩,g2,g3⟩
end Go.Proofs.YtjlcdlekmpjjnaaGreat
namespace Go.Proofs.YtjlcdlekmpjjnaaGreat
open Ex Num Rg
open Sh (R av rd mo en mo_en)
set_option maxRecDepth 100000
set_option maxHeartbeats 4000000
noncomputable def SJi:List (FuncId×ASpec):=(83,rdSp)::SJg
theorem MS:AX Tryz.prog SJi:=⟨ARa,AQN⟩
noncomputable abbrev FY:Orc:=AH SJi KH
def GW (n m:Nat) (xs:List Int) (b d:Bool) (r:List (Bool×Bool)):List (Bool×Bool):=(Nat.ble n xs.length,true)::(Nat.ble n m,true)::(AJ .i64 n,true)::(b,d)::r
def MT (n m:Nat) (s:Bool):List AV:=[AI 0 0 n m,.val false [.b s]]
noncomputable def xN (K j:Nat) (L:List Int):Nat:=Bb (CF L (48*K-1)) (48*j)
noncomputable def yR (x:Nat):Nat:=De (ad FP (mu FP (mu FP x x) x) (4:Nat))
noncomputable def yB (x:Nat) (b:Bool):Nat:=if (!(BE (yR x)==b))=true then ng FP (yR x) else yR x
def dE (e:Int):AV:=.tup [(true,Er false),(false,[.n .i64 e])]
def dP (x y:Nat):AV:=.tup [(true,[.num 6 x,.num 6 y,.b false]),(false,[.n .i64 0])]
section
variable (n m:Nat) (xs:List Int)
noncomputable def FZ (s:Bool) (p:List Bool):ASt:=Af Tryz.f28 (MT n m s) (Au xs) 1 p
theorem ARb:AM Tryz.prog FY Tryz.f28 800 1 [] (FZ n m xs true [true,true])=some (GW n m xs (Bi 1 true (AA xs 0 n)) false [(!decide (Bw 1 true (AA xs 0 n)=0),true)],[],.tup [(true,Er false),(false,[.v (.int .i64 (Bw 1 true (AA xs 0 n)))])],[]):=by kernel_rfl
theorem ARc:AM Tryz.prog FY Tryz.f28 800 1 [] (FZ n m xs true [true,false,true])=some (GW n m xs (Bi 1 true (AA xs 0 n)) false ((!decide (Bw 1 true (AA xs 0 n)=0),false)::tt 2 []),[],.tup [(true,Er true),(false,[.n .i64 0])],[]):=by kernel_rfl
theorem ARd:AM Tryz.prog FY Tryz.f28 800 1 [] (FZ n m xs false [true,true])=some (GW n m xs (Bi 2 false (AA xs 0 n)) false [(!decide (Bw 2 false (AA xs 0 n)=0),true)],[],.tup [(true,Er false),(false,[.v (.int .i64 (Bw 2 false (AA xs 0 n)))])],[]):=by kernel_rfl
theorem ARe:AM Tryz.prog FY Tryz.f28 800 1 [] (FZ n m xs false [true,false,true])=some (GW n m xs (Bi 2 false (AA xs 0 n)) false ((!decide (Bw 2 false (AA xs 0 n)=0),false)::tt 2 []),[],.tup [(true,Er true),(false,[.n .i64 0])],[]):=by kernel_rfl
noncomputable def MU (b:Bool) (r:List (Bool×Bool)):List (Bool×Bool):=GW n m xs (Bi 1 true (AA xs 0 n)) true ((true,true)::(false,false)::(true,true)::(!(BE (yR (xN 1 0 (AA xs 0 n)))==Ar (AA xs 0 n) 32),b)::r)
theorem ARf:AM Tryz.prog FY Tryz.f28 800 1 [] (FZ n m xs true [false,false,true,true])=some (MU n m xs true [(!CA (Ah (xN 1 0 (AA xs 0 n)) (ng FP (yR (xN 1 0 (AA xs 0 n)))) false),true)],[],dE 204,[]):=by kernel_rfl
theorem ARg:AM Tryz.prog FY Tryz.f28 800 1 [] (FZ n m xs true [false,false,true,false,true])=some (MU n m xs true [(!CA (Ah (xN 1 0 (AA xs 0 n)) (ng FP (yR (xN 1 0 (AA xs 0 n)))) false),false),(!Bh (Ah (xN 1 0 (AA xs 0 n)) (ng FP (yR (xN 1 0 (AA xs 0 n)))) false),true)],[],dE 205,[]):=by kernel_rfl
theorem ARh:AM Tryz.prog FY Tryz.f28 800 1 [] (FZ n m xs true [false,false,true,false,false])=some (MU n m xs true [(!CA (Ah (xN 1 0 (AA xs 0 n)) (ng FP (yR (xN 1 0 (AA xs 0 n)))) false),false),(!Bh (Ah (xN 1 0 (AA xs 0 n)) (ng FP (yR (xN 1 0 (AA xs 0 n)))) false),false)],[],dP (xN 1 0 (AA xs 0 n)) (ng FP (yR (xN 1 0 (AA xs 0 n)))),[]):=by kernel_rfl
theorem ARi:AM Tryz.prog FY Tryz.f28 800 1 [] (FZ n m xs true [false,false,false,true])=some (MU n m xs false [(!CA (Ah (xN 1 0 (AA xs 0 n)) (yR (xN 1 0 (AA xs 0 n))) false),true)],[],dE 204,[]):=by kernel_rfl
theorem ARj:AM Tryz.prog FY Tryz.f28 800 1 [] (FZ n m xs true [false,false,false,false,true])=some (MU n m xs false [(!CA (Ah (xN 1 0 (AA xs 0 n)) (yR (xN 1 0 (AA xs 0 n))) false),false),(!Bh (Ah (xN 1 0 (AA xs 0 n)) (yR (xN 1 0 (AA xs 0 n))) false),true)],[],dE 205,[]):=by kernel_rfl
theorem ARk:AM Tryz.prog FY Tryz.f28 800 1 [] (FZ n m xs true [false,false,false,false,false])=some (MU n m xs false [(!CA (Ah (xN 1 0 (AA xs 0 n)) (yR (xN 1 0 (AA xs 0 n))) false),false),(!Bh (Ah (xN 1 0 (AA xs 0 n)) (yR (xN 1 0 (AA xs 0 n))) false),false)],[],dP (xN 1 0 (AA xs 0 n)) (yR (xN 1 0 (AA xs 0 n))),[]):=by kernel_rfl
noncomputable def XV (r:List (Bool×Bool)):List (Bool×Bool):=GW n m xs (Bi 2 false (AA xs 0 n)) true ((true,true)::(false,false)::tt 2 r)
theorem ARl:AM Tryz.prog FY Tryz.f28 800 1 [] (FZ n m xs false [false,false,true])=some (XV n m xs [(!CA (Ah (xN 2 0 (AA xs 0 n)) (xN 2 1 (AA xs 0 n)) false),true)],[],dE 204,[]):=by kernel_rfl
theorem ARm:AM Tryz.prog FY Tryz.f28 800 1 [] (FZ n m xs false [false,false,false,true])=some (XV n m xs [(!CA (Ah (xN 2 0 (AA xs 0 n)) (xN 2 1 (AA xs 0 n)) false),false),(!Bh (Ah (xN 2 0 (AA xs 0 n)) (xN 2 1 (AA xs 0 n)) false),true)],[],dE 205,[]):=by kernel_rfl
theorem ARn:AM Tryz.prog FY Tryz.f28 800 1 [] (FZ n m xs false [false,false,false,false])=some (XV n m xs [(!CA (Ah (xN 2 0 (AA xs 0 n)) (xN 2 1 (AA xs 0 n)) false),false),(!Bh (Ah (xN 2 0 (AA xs 0 n)) (xN 2 1 (AA xs 0 n)) false),false)],[],dP (xN 2 0 (AA xs 0 n)) (xN 2 1 (AA xs 0 n)),[]):=by kernel_rfl
end
noncomputable def XW (p:Pt FP):Pt FP×Int:=if CA p=true then (if Bh p=true then (p,0) else (.pt 0 0,205)) else (.pt 0 0,204)
noncomputable def XX (s:Bool) (L:List Int):Pt FP:=match s with
 | true=>Ah (xN 1 0 L) (yB (xN 1 0 L) (Ar L 32)) false
 | false=>Ah (xN 2 0 L) (xN 2 1 L) false
def kS (s:Bool):Nat:=match s with | true=>1 | false=>2
noncomputable def Kp (s:Bool) (L:List Int):Pt FP×Int:=if Bi (kS s) s L=true then XW (XX s L) else if Bw (kS s) s L=0 then (.inf,0) else (.pt 0 0,Bw (kS s) s L)
noncomputable def Kq (q:Pt FP×Int):AV:=MK q.1 q.2
theorem ABT {β:Env} {e:Int} {u:Value} (h:AP β (dE e) u):AP β (Kq (.pt 0 0,e)) u:=Cy (fun _ q=>(G' (x:=0) (y:=0) (i:=false) (by kernel_rfl) q).1) (fun _ q=>Df rfl q) h
theorem ARo {β:Env} {x y:Nat} (hx:x<pN) (hy:y<pN) {u:Value} (h:AP β (dP x y) u):AP β (Kq (Ah x y false,0)) u:=by
 have e:Kq (Ah x y false,0)=.tup [(true,[.num 6 x,.num 6 y,.v (.bool false)]),(false,[.v (.int .i64 0)])]:=by
  show MK (.pt (tf x) (tf y)) 0=_
  show AV.tup [(true,[Ch.num 6 (tf x).val,Ch.num 6 (tf y).val,Ch.v (.bool false)]),(false,[Ch.v (.int .i64 0)])]=_
  rw [KK hx,KK hy]
 rw [e]
 exact Cy (fun _ q=>(G' (x:=x) (y:=y) (i:=false) rfl q).1) (fun _ q=>Df rfl q) h
theorem iV {n m:Nat} {xs:List Int} {s:Bool} {x y:Nat} (hx:x<pN) (hy:y<pN) {C:List (Bool×Bool)→List (Bool×Bool)} (hC:∀ r,AQ r→AQ (C r)) {p1 p2 p3:List Bool}
  (h1:AM Tryz.prog FY Tryz.f28 800 1 [] (FZ n m xs s p1)=some (C [(!CA (Ah x y false),true)],[],dE 204,[]))
  (h2:AM Tryz.prog FY Tryz.f28 800 1 [] (FZ n m xs s p2)=some (C [(!CA (Ah x y false),false),(!Bh (Ah x y false),true)],[],dE 205,[]))
  (h3:AM Tryz.prog FY Tryz.f28 800 1 [] (FZ n m xs s p3)=some (C [(!CA (Ah x y false),false),(!Bh (Ah x y false),false)],[],dP x y,[])) :
  Ad Tryz.prog 28 (MT n m s) (Au xs) 1 [] (Kq (XW (Ah x y false))) []:=by
 unfold XW
 cases ho:CA (Ah x y false) with
 | false =>
  rw [if_neg Bool.false_ne_true]
  exact BU (A2 MS BA Tryz.func28 (by kernel_rfl) (by kernel_rfl) h1 (by kernel_rfl) (hC _ ⟨by rw [ho];rfl,trivial⟩)) fun _ _ q=>ABT q
 | true =>
  rw [if_pos rfl]
  cases hi:Bh (Ah x y false) with
  | false =>
   rw [if_neg Bool.false_ne_true]
   exact BU (A2 MS BA Tryz.func28 (by kernel_rfl) (by kernel_rfl) h2 (by kernel_rfl) (hC _ ⟨by rw [ho];rfl,by rw [hi];rfl,trivial⟩)) fun _ _ q=>ABT q
  | true =>
   rw [if_pos rfl]
   exact BU (A2 MS BA Tryz.func28 (by kernel_rfl) (by kernel_rfl) h3 (by kernel_rfl) (hC _ ⟨by rw [ho];rfl,by rw [hi];rfl,trivial⟩)) fun _ _ q=>ARo hx hy q
theorem Kr {K:Nat} {s:Bool} {L:List Int} (h:Bi K s L=true) (j:Nat) (hj:j<K):xN K j L<pN:=by
 unfold Bi at h
 simp only [Bool.and_eq_true] at h
 exact HH h.2.2.2.2 j hj
theorem ABU (x:Nat):yR x<pN:=by
 unfold yR
 generalize (ad FP (mu FP (mu FP x x) x) (4:Nat))=a
 by_cases h:DT a=true
 ·exact (dV h).2.2
 ·unfold De;rw [if_neg h];exact CQ
theorem ARp (x:Nat):Nat.lt (ng FP x) pN:=(-(tf x)).isLt
theorem XY {e:Int} (h:¬ e=0):(!decide (e=0))=true:=by rw [decide_eq_false h];rfl
theorem XZ {e:Int} (h:e=0):(!decide (e=0))=false:=by rw [decide_eq_true h];rfl
theorem ABV {β:Env} {u:Value} (h:AP β (.tup [(true,Er true),(false,[.n .i64 0])]) u):AP β (Kq (.inf,0)) u:=Cy (fun _ q=>(G' (x:=0) (y:=0) (i:=true) (by kernel_rfl) q).1) (fun _ q=>Df rfl q) h
theorem ABW {β:Env} {e:Int} {u:Value} (h:AP β (.tup [(true,Er false),(false,[.v (.int .i64 e)])]) u):AP β (Kq (.pt 0 0,e)) u:=Cy (fun _ q=>(G' (x:=0) (y:=0) (i:=false) (by kernel_rfl) q).1) (fun _ q=>q) h
theorem ABX {n m:Nat} {xs:List Int} (hl:n≤xs.length) (hm:n≤m) (hn:AJ .i64 n=true) (s:Bool):Ad Tryz.prog 28 (MT n m s) (Au xs) 1 [] (Kq (Kp s (AA xs 0 n))) []:=by
 have hW:∀ (b d:Bool) r,b=d→AQ r→AQ (GW n m xs b d r):=fun b d r h hr=>⟨Nat.ble_eq_true_of_le hl,Nat.ble_eq_true_of_le hm,hn,h,hr⟩
 unfold Kp
 cases hr:Bi (kS s) s (AA xs 0 n) with
 | false =>
  rw [if_neg Bool.false_ne_true]
  by_cases he:Bw (kS s) s (AA xs 0 n)=0
  ·rw [if_pos he]
   cases s with
   | true=>exact BU (A2 MS BA Tryz.func28 (by kernel_rfl) (by kernel_rfl) (ARc n m xs) (by kernel_rfl) (hW _ _ _ hr ⟨XZ he,Ac 2 trivial⟩)) fun _ _ q=>ABV q
   | false=>exact BU (A2 MS BA Tryz.func28 (by kernel_rfl) (by kernel_rfl) (ARe n m xs) (by kernel_rfl) (hW _ _ _ hr ⟨XZ he,Ac 2 trivial⟩)) fun _ _ q=>ABV q
  ·rw [if_neg he]
   cases s with
   | true=>exact BU (A2 MS BA Tryz.func28 (by kernel_rfl) (by kernel_rfl) (ARb n m xs) (by kernel_rfl) (hW _ _ _ hr ⟨XY he,trivial⟩)) fun _ _ q=>ABW q
   | false=>exact BU (A2 MS BA Tryz.func28 (by kernel_rfl) (by kernel_rfl) (ARd n m xs) (by kernel_rfl) (hW _ _ _ hr ⟨XY he,trivial⟩)) fun _ _ q=>ABW q
 | true =>
  rw [if_pos rfl]
  cases s with
  | true =>
   have hx:=Kr hr 0 (by decide)
   unfold XX yB
   by_cases hb:(!(BE (yR (xN 1 0 (AA xs 0 n)))==Ar (AA xs 0 n) 32))=true
   ·simp only [if_pos hb]
    exact iV hx (ARp _) (C:=MU n m xs true) (fun r hq=>hW _ _ _ hr ⟨rfl,rfl,rfl,hb,hq⟩) (ARf n m xs) (ARg n m xs) (ARh n m xs)
   ·simp only [if_neg hb]
    exact iV hx (ABU _) (C:=MU n m xs false) (fun r hq=>hW _ _ _ hr ⟨rfl,rfl,rfl,by simpa using hb,hq⟩) (ARi n m xs) (ARj n m xs) (ARk n m xs)
  | false=>exact iV (Kr hr 0 (by decide)) (Kr hr 1 (by decide)) (C:=XV n m xs) (fun r hq=>hW _ _ _ hr ⟨rfl,rfl,Ac 2 hq⟩) (ARl n m xs) (ARm n m xs) (ARn n m xs)
noncomputable def UF (V:Bool→List Int→AV):ASpec:=fun args H fr path=>match args with
 | [S,B]=>match I_ S,Eg (some B) with
  | some (k,n,m),some (_,s)=>match AG H k with
   | some ⟨_,cs,_⟩=>match Ao .u8 cs with
    | some xs=>some (A5 [k] 1 fr 0 [] (V s (AA xs 0 n)) [] [(Nat.ble n xs.length,true),(Nat.ble n m,true),(AJ .i64 n,true)] path)
    | none=>none
   | _=>none
  | _,_=>none
 | _=>none
theorem iW {f:FuncId} {fn:Func} {V:Bool→List Int→AV} (hfn:Tryz.prog.funcs[f]? = some fn) (hb:fn.body.isSome=true) (hname:(fn.name=="runtime.NumGoroutine")=false) (hk:∀ s L,Cu 1 0 [] (V s L) []=true)
  (h:∀ (n m:Nat) (xs:List Int) (s:Bool),n≤xs.length→n≤m→AJ .i64 n=true→Ad Tryz.prog f (MT n m s) (Au xs) 1 [] (V s (AA xs 0 n)) []):A6 Tryz.prog f (UF V):=by
 refine CS hfn hb hname fun args H fr path r hs=>?_
 unfold UF at hs
 split at hs
 case h_2=>cases hs
 rename_i S B
 split at hs
 case h_2=>cases hs
 rename_i k n m c s hS hB
 split at hs
 case h_2=>cases hs
 rename_i ty cs o hk'
 split at hs
 case h_2=>cases hs
 rename_i xs hxs
 injection hs with hs
 refine ⟨[k],1,0,[],_,_,_,path,hs.symm,fun β us w ha hg hc=>?_⟩
 obtain ⟨u1,us1,r1,⟨u3,us3,r3,ha,rfl⟩,rfl⟩:=ha
 obtain ⟨hl,hm,hn,_⟩:=hc
 obtain ⟨m',hm',r1⟩:=I' hS (Nat.le_of_ble_eq_true hm) r1
 obtain ⟨g1,g2,g3⟩:=Cx hg hk' hxs
 exact ⟨MT n m' s,Au xs,h n m' xs s (Nat.le_of_ble_eq_true hl) hm' hn,hk _ _,⟨u1,_,BS (by omega) rfl r1,⟨u3,us3,QK hB r3,ha,rfl⟩,rfl⟩,g2,g3⟩
noncomputable def SJk:List (FuncId×ASpec):=(28,UF fun s L=>Kq (Kp s L))::SJi
theorem iX:AX Tryz.prog SJk:=⟨iW Tryz.func28 (by kernel_rfl) (by kernel_rfl) (fun _ _=>by kernel_rfl) fun _ _ _ s hl hm hn=>ABX hl hm hn s,MS⟩
noncomputable abbrev oJk:Orc:=AH SJk KH
theorem iY:OrcOk Tryz.prog oJk:=AK iX BA
theorem ABY (K:Nat):∀ d∈cat (List.replicate K 0),d=0:=by
 induction K with
 | zero=>intro d h;cases h
 | succ K ih =>
  intro d h
  rw [List.replicate_succ,cat] at h
  rcases List.mem_append.1 h with q | q
  ·have:(BK 0 48).all (fun d=>decide (d=0))=true:=by kernel_rfl
   exact of_decide_eq_true (List.all_eq_true.1 this d q)
  ·exact ih d q
section
variable {s i b:Bool} {x:Nat} {r:List Nat} {K:Nat} (hx:x<pN) (hK:0<K) (hl:K≤r.length+1)
include hx hK hl
theorem ABZ:(AA (C_ s i b (cat (x::r))) 0 (48*K)).length=48*K∧Ar (AA (C_ s i b (cat (x::r))) 0 (48*K)) 128=s∧Ar (AA (C_ s i b (cat (x::r))) 0 (48*K)) 64=i∧Ar (AA (C_ s i b (cat (x::r))) 0 (48*K)) 32=(s&&(!i&&b))∧CF (AA (C_ s i b (cat (x::r))) 0 (48*K)) (48*K-1)=cat ((x::r).take K):=by
 obtain ⟨f,t,e,h0,h1⟩:=ABF hx r
 have h:=AQg s i b (show 0<48*K by omega) (show 48*K≤(cat (x::r)).length by rw [OD,List.length_cons];omega) e h0 h1
 rw [QO] at h
 exact h
theorem ARq (hr:∀ y∈r,y<pN) (hi:i=false):Bi K s (AA (C_ s i b (cat (x::r))) 0 (48*K))=true∧(∀ j,j<K→xN K j (AA (C_ s i b (cat (x::r))) 0 (48*K))=(x::r).getD j 0)∧Ar (AA (C_ s i b (cat (x::r))) 0 (48*K)) 32=(s&&b):=by
 obtain ⟨q1,q2,q3,q4,q5⟩:=ABZ (s:=s) (i:=i) (b:=b) hx hK hl
 have hn:∀ j,j<K→Bb (cat ((x::r).take K)) (48*j)=(x::r).getD j 0∧(x::r).getD j 0<pN:=by
  intro j hj
  have hlt:(x::r).getD j 0<pN:=by
   rw [List.getD_eq_getElem?_getD]
   cases hq:(x::r)[j]? with
   | none=>exact CQ
   | some y =>
    rcases List.mem_cons.1 (List.mem_of_getElem? hq) with e | e
    ·rw [e];exact hx
    ·exact hr y e
  refine ⟨?_,hlt⟩
  rw [ABD _ j (by rw [List.length_take,List.length_cons];omega)]
  have e:((x::r).take K).getD j 0=(x::r).getD j 0:=by rw [List.getD_eq_getElem?_getD,List.getD_eq_getElem?_getD,List.getElem?_take_of_lt hj]
  rw [e]
  exact AQh hlt
 refine ⟨?_,fun j hj=>?_,?_⟩
 ·unfold Bi
  rw [q1,q2,q3,q4,q5,hi,decide_eq_true rfl,decide_eq_true rfl]
  have ho:Eu (cat ((x::r).take K)) K=true:=by
   unfold Eu
   rw [List.all_eq_true]
   intro j hj
   obtain ⟨e1,e2⟩:=hn j (List.mem_range.1 hj)
   rw [e1]
   exact decide_eq_true e2
  rw [ho]
  cases s<;>cases b<;>rfl
 ·unfold xN
  rw [q5]
  exact (hn j hj).1
 ·rw [q4,hi];rfl
theorem ARr (hi:i=true) (h0:∀ d∈cat ((x::r).take K),d=0):Bi K s (AA (C_ s i b (cat (x::r))) 0 (48*K))=false∧Bw K s (AA (C_ s i b (cat (x::r))) 0 (48*K))=0:=by
 obtain ⟨q1,q2,q3,q4,q5⟩:=ABZ (s:=s) (i:=i) (b:=b) hx hK hl
 have e32:(s&&(!i&&b))=false:=by rw [hi];cases s<;>rfl
 constructor
 ·unfold Bi
  rw [q1,q2,q3,q4,q5,hi]
  cases s<;>cases b<;>simp
 ·unfold Bw
  rw [q1,q2,q3,q4,q5,e32,hi,if_neg (fun h=>h rfl),if_neg (fun h=>h rfl),if_neg (by rw [Bool.false_and];exact Bool.false_ne_true),if_pos rfl]
  have ho:QR (cat ((x::r).take K)) false=true:=by
   unfold QR
   rw [Bool.not_false,Bool.and_true,List.all_eq_true]
   exact fun d hd=>decide_eq_true (h0 d hd)
  unfold Ko
  rw [if_pos ho]
end
section
variable {s:Bool} {K:Nat} {L:List Int} (hK:0<K) (hL:∀ d∈L,0≤d∧d<256)
include hK hL
end
theorem ARs {y:FP} (h:y≠0):0<y.val:=Nat.pos_of_ne_zero fun e=>h (by rw [← B_ y,e];exact tf_zero)
theorem ABa (y:FP):BE y.val=decide ((pN-y.val) % pN<y.val):=by
 have h:=y.isLt
 unfold BE DM
 rw [Nat.mod_eq_of_lt h]
theorem ARt {y:FP} (h:y≠0):BE (-y).val=!BE y.val:=by
 have h1:=y.isLt
 have h0:=ARs h
 have hv:(-y).val=pN-y.val:=by
  show (pN-y.val) % pN=pN-y.val
  exact Nat.mod_eq_of_lt (by omega)
 have ho:=V4
 rw [ABa,ABa,hv,Nat.mod_eq_of_lt (show pN-(pN-y.val)<pN by omega),Nat.mod_eq_of_lt (show pN-y.val<pN by omega)]
 by_cases hq:pN-y.val<y.val
 ·rw [decide_eq_true hq,decide_eq_false (by omega)];rfl
 ·rw [decide_eq_false hq,decide_eq_true (by omega)];rfl
theorem ARu (x:Nat):tf (yR x)=EV (tf x*tf x*tf x+DG)∧DT (ad FP (mu FP (mu FP x x) x) (4:Nat))=FV (tf x*tf x*tf x+DG):=by
 have e:(ad FP (mu FP (mu FP x x) x) (4:Nat):Nat)=(tf x*tf x*tf x+DG).val:=by
  unfold ad mu
  show (mo (en (mo (en (mo x*mo x:FP))*mo x:FP))+mo (4:Nat):FP).val=_
  rw [mo_en,mo_en];rfl
 constructor
 ·unfold yR EV
  rw [e]
 ·unfold FV
  rw [e]
theorem ARv {a b:FP} (h:b*b=a*a*a+DG):yB a.val (BE b.val)=b.val:=by
 have hb:b≠0:=C1.no2 a b h
 have hs:FV (a*a*a+DG)=true:=T8 h
 obtain ⟨e1,_⟩:=ARu a.val
 rw [B_] at e1
 have hq:=XA hs
 rw [← e1,← h] at hq
 have hv:(tf (yR a.val)).val=yR a.val:=KK (ABU _)
 unfold yB
 rcases XB hq with e | e
 ·have e':yR a.val=b.val:=by rw [← hv,e]
  rw [e',if_neg (by cases BE b.val<;>decide)]
 ·have e':yR a.val=(-b).val:=by rw [← hv,e]
  have hg:ng FP (yR a.val)=b.val:=by
   show (-(tf (yR a.val)):FP).val=b.val
   rw [e,neg_neg]
  rw [hg]
  rw [e',ARt hb,if_pos (by cases BE b.val<;>decide)]
theorem ARw (p:Pt FP):∀ y∈[BT p],y<pN:=fun y hy=>by
 rcases List.mem_cons.1 hy with e | e
 ·rw [e];exact Wr p
 ·cases e
theorem Xa (s:Bool):0<kS s:=by cases s<;>decide
theorem ABb (s:Bool):kS s≤2:=by cases s<;>decide
theorem ARx {p:Pt FP} (h:Bh p=true):CA p=true:=(Bool.and_eq_true_iff.1 h).1
theorem ARy {p:Pt FP} (h:Bh p=true) (s:Bool):Kp s (AA (DZ s p) 0 (48*kS s))=(p,0):=by
 have ho:=ARx h
 rw [XS,UE]
 unfold Kp l1
 cases p with
 | inf =>
  have h0:∀ d∈cat ([Cz (Pt.inf:Pt FP),BT (Pt.inf:Pt FP)].take (kS s)),d=0:=by
   cases s
   ·exact ABY 2
   ·exact ABY 1
  obtain ⟨q1,q2⟩:=ARr (r:=[BT (Pt.inf:Pt FP)]) (s:=s) (i:=BL (Pt.inf:Pt FP)) (b:=BE (BT (Pt.inf:Pt FP))) (MF Pt.inf) (Xa s) (ABb s) rfl h0
  rw [q1,q2,if_neg Bool.false_ne_true,if_pos rfl]
 | pt a b =>
  obtain ⟨q1,q2,q3⟩:=ARq (r:=[BT (.pt a b:Pt FP)]) (s:=s) (i:=BL (.pt a b:Pt FP)) (b:=BE (BT (.pt a b:Pt FP))) (MF (.pt a b)) (Xa s) (ABb s) (ARw _) rfl
  rw [q1,if_pos rfl]
  have hP:XX s (AA (C_ s (BL (.pt a b:Pt FP)) (BE (BT (.pt a b:Pt FP))) (cat [Cz (.pt a b:Pt FP),BT (.pt a b:Pt FP)])) 0 (48*kS s))=.pt a b:=by
   unfold XX
   cases s with
   | true =>
    have x0:=q2 0 (by decide)
    have hon:b*b=a*a*a+DG:=(P6 _).1 ho
    have ey:=ARv hon
    simp only
    rw [show kS true=1 from rfl] at x0 q3 ⊢
    rw [x0,q3]
    show Ah a.val (yB a.val (BE b.val)) false=_
    rw [ey]
    exact MG (.pt a b)
   | false =>
    have x0:=q2 0 (by decide)
    have x1:=q2 1 (by decide)
    simp only
    rw [show kS false=2 from rfl] at x0 x1 ⊢
    rw [x0,x1]
    exact MG (.pt a b)
  rw [hP]
  unfold XW
  rw [ho,h];rfl
theorem iZ {H:Type} {enc:TypeId×Value→H} {W:World} {base:Nat} {v:Value} {d:DataW H} {p:List MemPlace} (hv:Value.okWide Tryz.prog W .any base 28 v) (ht:DataW.Trod enc Tryz.prog W 0 (fun _=>true) true 28 v d p) {ls:List Ex.Loc} {bs:List Blk} (ho:ArgsOk W ls bs) :
  ∃ (L:Ex.Loc) (zs:List Int) (n m:Nat),(∀ x∈zs,0≤x∧x<256)∧n≤zs.length∧n≤m∧AJ .i64 (n:Int)=true∧AP (E' (ls++[L])) (AI ls.length 0 n m) v∧ArgsOk W (ls++[L]) (bs++[Ai [.seq .u8 zs]]):=by
 obtain ⟨L,zs,n,m,h1,h2,h3,h4,h5⟩:=ALR hv ht ho
 refine ⟨L,zs,n,m,h1,h2,?_,h3,h4,h5⟩
 obtain ⟨l1,l2,r1,r2,r3⟩:=h4
 rcases r1 with ⟨B,q,e1,e2⟩ | ⟨e1,e2,e3,e4,e5⟩
 ·subst e2
  injection r3 with r3 _
  subst r3
  have hk:Cell.ok Tryz.prog W .any base 28 (.slice (some ⟨B,q.2+0,none⟩) n m):=by
   have:=hv
   simp only [Value.okWide,fU,Cell.okWide] at this
   exact this
  simp only [Cell.ok,fU] at hk
  omega
 ·omega
def hfC:List Ch:=[.n .u64 0xdcff7fffffffd556,.n .u64 0xf55ffff58a9ffff,.n .u64 0xb39869507b587b12,.n .u64 0xb23ba5c279c2895f,.n .u64 0x258dd3db21a5d66b,.n .u64 0xd0088f51cbff34d]
def i0:Nat:=0x0d0088f51cbff34d258dd3db21a5d66bb23ba5c279c2895fb39869507b587b120f55ffff58a9ffffdcff7fffffffd556
theorem ABc:∃ n,n=i0:=⟨_,rfl⟩
noncomputable def Ew:Nat:=Classical.choose ABc
theorem ABd:Ew=i0:=Classical.choose_spec ABc
theorem AR0:AR Tryz.prog oJk Tryz.f154 [] [] 100=some ([],.val true hfC):=by kernel_rfl
theorem AR1:AU Tryz.prog 154 [] (AY Ew):=by
 rw [ABd]
 exact C7 (AW iY AB Tryz.func154 AR0 trivial rfl) fun u ⟨l,q,e⟩=>⟨l,EO (k:=6) (x:=i0) (by kernel_rfl) q,e⟩
theorem AR2:tf Ew+tf Ew=1:=by rw [ABd,← F',← En];exact AOP (by kernel_rfl)
noncomputable def BX (a:FP2):Int:=if Dg a=true then 1 else 0
theorem AR3 (a:FP2):decide (BX a=1)=Dg a:=by
 unfold BX
 cases Dg a<;>rfl
theorem ABe (x:Nat):ED x=if KW (tf x)=true then 1 else 0:=by
 unfold ED KW
 have h:(tf x).val=x % pN:=rfl
 rw [h]
 rcases Nat.mod_two_eq_zero_or_one (x % pN) with e | e<;>rw [e]<;>rfl
theorem AR4 (r:R FP2):AR Tryz.prog oJk Tryz.f155 [va FP2 r] [true] 300=some ([(dq (re FP r.1) 0,true)],Cq (ED r.2)):=by kernel_rfl
theorem AR5 (r:R FP2):AR Tryz.prog oJk Tryz.f155 [va FP2 r] [false] 300=some ([(dq (re FP r.1) 0,false)],Cq (ED r.1)):=by kernel_rfl
theorem ABf (r:R FP2):AU Tryz.prog 155 [va FP2 r] (Cq (BX (mo r))):=by
 have e:dq (re FP r.1) 0=decide ((mo r:FP2).a=0):=KY (mo r:FP2).a 0
 have h1:=AR4 r
 have h2:=AR5 r
 rw [ABe] at h1 h2
 unfold BX Dg
 by_cases h:(mo r:FP2).a=0
 ·rw [if_pos h]
  exact AW iY AB Tryz.func155 h1 ⟨by rw [e];exact decide_eq_true h,trivial⟩ rfl
 ·rw [if_neg h]
  exact AW iY AB Tryz.func155 h2 ⟨by rw [e];exact decide_eq_false h,trivial⟩ rfl
noncomputable def SJl:List (FuncId×ASpec):=(154,Aj (ev FP (AY Ew)))::(155,Aj (Bz FP2 fun r=>Cq (BX (mo r))))::SJk
theorem ABg:AX Tryz.prog SJl:=⟨Ak Tryz.func154 (by kernel_rfl) (by kernel_rfl) (XD (α:=FP) AR1),Ak Tryz.func155 (by kernel_rfl) (by kernel_rfl) (CC ABf),iX⟩
noncomputable abbrev oJl:Orc:=AH SJl KH
noncomputable def tX (r:R FP2) (n:Nat):Nat:=De (mu FP (ad FP r.1 n) Ew)
noncomputable def Ks (r:R FP2) (n:Nat):Bool:=DT (mu FP (ad FP r.1 n) Ew)
noncomputable def Kt (r:R FP2):Bool:=DT (ng FP r.1)
noncomputable def GX (r:R FP2) (n:Nat):R FP2:=(tX r n,De (ng FP r.1))
noncomputable def GY (r:R FP2) (n:Nat):R FP2:=(tX r n,mu FP (mu FP r.2 Ew) (iv FP (tX r n)))
noncomputable def Xb (n:Nat):List AV:=[va FP n,.val false [.p 0 0]]
noncomputable def Xc (r:R FP2):Heap:=[(0,some (Ai (av r)))]
noncomputable def Ku (r:R FP2) (n:Nat) (p:List Bool):=AM Tryz.prog oJl Tryz.f153 500 1 [] (Af Tryz.f153 (Xb n) (Xc r) 1 p)
section
variable (r:R FP2) (n:Nat)
theorem AR7:Ku r n [true,true,true]=some ([(dq (tX r n) 0,true),(decide (BX (mo (GX r n):FP2)=1),true),(Kt r,true)],[],.tup [(true,av (ng FP2 (GX r n))),(false,[.v (.bool (Bl (mu FP2 (ng FP2 (GX r n)) (ng FP2 (GX r n))) r))])],[]):=by kernel_rfl
theorem AR8:Ku r n [true,true,false]=some ([(dq (tX r n) 0,true),(decide (BX (mo (GX r n):FP2)=1),true),(Kt r,false)],[],.tup [(true,av (ng FP2 (GX r n))),(false,[.b false])],[]):=by kernel_rfl
theorem AR9:Ku r n [true,false,true]=some ([(dq (tX r n) 0,true),(decide (BX (mo (GX r n):FP2)=1),false),(Kt r,true)],[],.tup [(true,av (GX r n)),(false,[.v (.bool (Bl (mu FP2 (GX r n) (GX r n)) r))])],[]):=by kernel_rfl
theorem AR_:Ku r n [true,false,false]=some ([(dq (tX r n) 0,true),(decide (BX (mo (GX r n):FP2)=1),false),(Kt r,false)],[],.tup [(true,av (GX r n)),(false,[.b false])],[]):=by kernel_rfl
theorem AR':Ku r n [false,true,true]=some ([(dq (tX r n) 0,false),(decide (BX (mo (GY r n):FP2)=1),true),(Ks r n,true)],[],.tup [(true,av (ng FP2 (GY r n))),(false,[.v (.bool (Bl (mu FP2 (ng FP2 (GY r n)) (ng FP2 (GY r n))) r))])],[]):=by kernel_rfl
theorem ASA:Ku r n [false,true,false]=some ([(dq (tX r n) 0,false),(decide (BX (mo (GY r n):FP2)=1),true),(Ks r n,false)],[],.tup [(true,av (ng FP2 (GY r n))),(false,[.b false])],[]):=by kernel_rfl
theorem ASB:Ku r n [false,false,true]=some ([(dq (tX r n) 0,false),(decide (BX (mo (GY r n):FP2)=1),false),(Ks r n,true)],[],.tup [(true,av (GY r n)),(false,[.v (.bool (Bl (mu FP2 (GY r n) (GY r n)) r))])],[]):=by kernel_rfl
theorem ASC:Ku r n [false,false,false]=some ([(dq (tX r n) 0,false),(decide (BX (mo (GY r n):FP2)=1),false),(Ks r n,false)],[],.tup [(true,av (GY r n)),(false,[.b false])],[]):=by kernel_rfl
end
theorem MV {r:R FP2} {n:Nat} {p:List Bool} {conds:List (Bool×Bool)} {out:R FP2} {ok:Ch} (h:Ku r n p=some (conds,[],.tup [(true,av out),(false,[ok])],[])) (hc:AQ conds) {e:FP2} {t:Bool} (ho:out=en e) (hok:ok=.b t∨ok=.v (.bool t)) :
  Ad Tryz.prog 153 (Xb n) (Xc r) 1 [] (.tup [(true,av (en e:R FP2)),(false,[.v (.bool t)])]) []:=by
 subst ho
 refine BU (A2 ABg BA Tryz.func153 (by kernel_rfl) (by kernel_rfl) h (by kernel_rfl) hc) fun β u q=>?_
 refine Cy (fun _ q=>q) (fun _ q=>?_) q
 rcases hok with e | e
 ·subst e
  obtain ⟨l1,l2,p1,p2,p3⟩:=q
  exact ⟨l1,l2,⟨p1,rfl,trivial⟩,p2,p3⟩
 ·subst e;exact q
noncomputable def hF:FP:=tf Ew
theorem i7 (q:FP):De q.val=(EV q).val:=by
 unfold EV
 refine (KK ?_).symm
 by_cases h:DT q.val=true
 ·exact (dV h).2.2
 ·unfold De;rw [if_neg h];exact CQ
theorem UG (x y:FP2):Bl (mu FP2 (en x) (en x)) (en y)=decide (x*x=y):=by
 have e:mu FP2 (en x) (en x)=(en (x*x):R FP2):=by unfold mu;rw [mo_en]
 rw [e]
 have e1:Bl (en (x*x)) (en y)=(decide ((x*x).a=y.a)&&decide ((x*x).b=y.b)):=by
  show (dq (x*x).a.val y.a.val&&dq (x*x).b.val y.b.val)=_
  rw [KY,KY]
 rw [e1]
 by_cases h:x*x=y
 ·rw [h,decide_eq_true rfl,decide_eq_true rfl,decide_eq_true rfl];rfl
 ·rw [decide_eq_false h]
  by_cases ha:(x*x).a=y.a
  ·by_cases hb:(x*x).b=y.b
   ·exact absurd (Qx.ext ha hb) h
   ·rw [decide_eq_false hb,Bool.and_false]
  ·rw [decide_eq_false ha,Bool.false_and]
section
variable (a:FP2) (n:Nat)
theorem Xd:tX (en a) n=(CK hF a (tf n)).val:=by
 have e:mu FP (ad FP (en a:R FP2).1 n) Ew=((a.a+tf n)*hF:FP).val:=by
  unfold ad mu
  show (mo (en (mo a.a.val+mo n:FP))*mo Ew:FP).val=_
  rw [mo_en]
  show ((tf a.a.val+tf n)*tf Ew:FP).val=_
  rw [B_];rfl
 unfold tX CK
 rw [e];exact i7 _
theorem ASD:Ks (en a) n=FV ((a.a+tf n)*hF):=by
 have e:mu FP (ad FP (en a:R FP2).1 n) Ew=((a.a+tf n)*hF:FP).val:=by
  unfold ad mu
  show (mo (en (mo a.a.val+mo n:FP))*mo Ew:FP).val=_
  rw [mo_en]
  show ((tf a.a.val+tf n)*tf Ew:FP).val=_
  rw [B_];rfl
 unfold Ks FV
 rw [e]
theorem ABh:(ng FP (en a:R FP2).1:Nat)=(-a.a:FP).val:=by
 show (-(tf a.a.val):FP).val=_
 rw [B_]
theorem ASE:Kt (en a)=FV (-a.a):=by
 unfold Kt FV
 rw [ABh]
theorem ASF (h:CK hF a (tf n)=0):GX (en a) n=(en (⟨CK hF a (tf n),I6 hF a (tf n)⟩:FP2):R FP2):=by
 unfold GX I6
 rw [if_pos h,Xd,ABh,i7];rfl
theorem ASG (h:¬ CK hF a (tf n)=0):GY (en a) n=(en (⟨CK hF a (tf n),I6 hF a (tf n)⟩:FP2):R FP2):=by
 have e:(mu FP (mu FP (en a:R FP2).2 Ew) (iv FP (tX (en a) n)):Nat)=(a.b*hF*FD.inv (CK hF a (tf n)):FP).val:=by
  rw [Xd]
  unfold mu iv
  show (mo (en (mo a.b.val*mo Ew:FP))*mo (en (FD.inv (mo (CK hF a (tf n)).val:FP))):FP).val=_
  rw [mo_en,mo_en]
  show (tf a.b.val*tf Ew*FD.inv (tf (CK hF a (tf n)).val):FP).val=_
  rw [B_,B_];rfl
 unfold GY I6
 rw [if_neg h,e,Xd];rfl
theorem ASH:dq (tX (en a) n) 0=decide (CK hF a (tf n)=0):=by
 rw [Xd]
 exact KY _ 0
noncomputable def i9:AV:=.tup [(true,av (en (HB hF a (tf n)):R FP2)),(false,[.v (.bool (EW hF a (tf n)))])]
theorem jA (o:FP2):ng FP2 (en o)=(en (-o):R FP2):=by unfold ng;rw [mo_en]
theorem jB (o:FP2):decide (BX (mo (en o:R FP2):FP2)=1)=Dg o:=by rw [mo_en];exact AR3 o
theorem ASI:Ad Tryz.prog 153 (Xb n) (Xc (en a)) 1 [] (i9 a n) []:=by
 unfold i9
 have hz:=ASH a n
 by_cases h:CK hF a (tf n)=0
 ·rw [decide_eq_true h] at hz
  have eo:=ASF a n h
  have ei:EW hF a (tf n)=(Kt (en a)&&decide (HB hF a (tf n)*HB hF a (tf n)=a)):=by unfold EW;rw [if_pos h,ASE]
  have r1:=AR7 (en a) n
  have r2:=AR8 (en a) n
  have r3:=AR9 (en a) n
  have r4:=AR_ (en a) n
  rw [eo,jB] at r1 r2 r3 r4
  rw [jA] at r1 r2
  unfold HB at *
  generalize hO:(⟨CK hF a (tf n),I6 hF a (tf n)⟩:FP2)=o at *
  rw [ei]
  unfold I5
  cases hs:Dg o with
  | true =>
   rw [if_pos rfl]
   cases hi:Kt (en a) with
   | true=>exact MV r1 ⟨hz,hs,hi,trivial⟩ rfl (.inr (by rw [UG,Bool.true_and]))
   | false=>exact MV r2 ⟨hz,hs,hi,trivial⟩ rfl (.inl (by rw [Bool.false_and]))
  | false =>
   rw [if_neg Bool.false_ne_true]
   cases hi:Kt (en a) with
   | true=>exact MV r3 ⟨hz,hs,hi,trivial⟩ rfl (.inr (by rw [UG,Bool.true_and]))
   | false=>exact MV r4 ⟨hz,hs,hi,trivial⟩ rfl (.inl (by rw [Bool.false_and]))
 ·rw [decide_eq_false h] at hz
  have eo:=ASG a n h
  have ei:EW hF a (tf n)=(Ks (en a) n&&decide (HB hF a (tf n)*HB hF a (tf n)=a)):=by unfold EW;rw [if_neg h,ASD]
  have r1:=AR' (en a) n
  have r2:=ASA (en a) n
  have r3:=ASB (en a) n
  have r4:=ASC (en a) n
  rw [eo,jB] at r1 r2 r3 r4
  rw [jA] at r1 r2
  unfold HB at *
  generalize hO:(⟨CK hF a (tf n),I6 hF a (tf n)⟩:FP2)=o at *
  rw [ei]
  unfold I5
  cases hs:Dg o with
  | true =>
   rw [if_pos rfl]
   cases hi:Ks (en a) n with
   | true=>exact MV r1 ⟨hz,hs,hi,trivial⟩ rfl (.inr (by rw [UG,Bool.true_and]))
   | false=>exact MV r2 ⟨hz,hs,hi,trivial⟩ rfl (.inl (by rw [Bool.false_and]))
  | false =>
   rw [if_neg Bool.false_ne_true]
   cases hi:Ks (en a) n with
   | true=>exact MV r3 ⟨hz,hs,hi,trivial⟩ rfl (.inr (by rw [UG,Bool.true_and]))
   | false=>exact MV r4 ⟨hz,hs,hi,trivial⟩ rfl (.inl (by rw [Bool.false_and]))
end
noncomputable def trSp:ASpec:=fun args H fr path=>match args with
 | [.val true c,.val false [.p k 0]]=>match CP 6 c,AG H k with
  | some n,some ⟨_,cs,_⟩=>match (rd cs:Option (R FP2)) with
   | some r=>some (A5 [k] 1 fr 0 [] (i9 (mo r) n) [] [(CL r,true)] path)
   | none=>none
  | _,_=>none
 | _=>none
theorem ASJ:A6 Tryz.prog 153 trSp:=by
 refine FN Tryz.func153 (by kernel_rfl) (by kernel_rfl) fun args H fr path r hs=>?_
 unfold trSp at hs
 split at hs
 case h_2=>cases hs
 rename_i c k
 split at hs
 case h_2=>cases hs
 rename_i n ty cs o hn hk'
 split at hs
 case h_2=>cases hs
 rename_i q hq
 injection hs with hs
 refine ⟨[k],Xb n,Xc q,1,0,[],_,_,_,path,hs.symm,fun β us w ha hg hc=>?_⟩
 obtain ⟨u1,us1,r1,⟨u2,us2,r2,ha,rfl⟩,rfl⟩:=ha
 have hr:=I7 hc.1
 have h:=ASI (mo q) n
 rw [hr] at h
 refine ⟨h,by kernel_rfl,⟨u1,_,?_,⟨u2,us2,r2,ha,rfl⟩,rfl⟩,TB (c:=av q) hg hk' (fun l h=>Sh.rd_ok hq h),fun j hj=>?_⟩
 ·obtain ⟨l,q,rfl⟩:=r1;exact ⟨l,EO hn q,rfl⟩
 ·match j,hj with
  | 0,_=>exact BZ (hg.heap _ _ hk')
noncomputable def SJl2:List (FuncId×ASpec):=(153,trSp)::SJl
theorem ASK:AX Tryz.prog SJl2:=⟨ASJ,ABg⟩
noncomputable abbrev oJl2:Orc:=AH SJl2 KH
theorem Xe:OrcOk Tryz.prog oJl2:=AK ASK BA
noncomputable def HI (q:R FP2):Nat:=ad FP (mu FP q.1 q.1) (mu FP q.2 q.2)
def jF:List Ch:=[.n .u64 0,.n .u64 0,.n .u64 0,.n .u64 0,.n .u64 0,.n .u64 0,.n .u64 0,.n .u64 0,.n .u64 0,.n .u64 0,.n .u64 0,.n .u64 0]
def Xf:AV:=.tup [(true,jF),(false,[.b false])]
noncomputable def Xg (q:R FP2) (n:Nat):AV:=.tup [(true,av (en (HB hF (mo q) (tf n)):R FP2)),(false,[.b true])]
section
variable (r:R FP2)
theorem ASL:AR Tryz.prog oJl2 Tryz.f88 [va FP2 r] [true] 500=some ([(!DT (HI (re FP2 r)),true)],Xf):=by kernel_rfl
theorem ASM:AR Tryz.prog oJl2 Tryz.f88 [va FP2 r] [false,true] 500=some ([(!DT (HI (re FP2 r)),false),(CL (re FP2 r),true),(EW hF (mo (re FP2 r)) (tf (De (HI (re FP2 r)))),true)],Xg (re FP2 r) (De (HI (re FP2 r)))):=by kernel_rfl
theorem ASN:AR Tryz.prog oJl2 Tryz.f88 [va FP2 r] [false,false,true] 500=some ([(!DT (HI (re FP2 r)),false),(CL (re FP2 r),true),(EW hF (mo (re FP2 r)) (tf (De (HI (re FP2 r)))),false),(CL (re FP2 r),true),(EW hF (mo (re FP2 r)) (tf (ng FP (De (HI (re FP2 r))))),true)],Xg (re FP2 r) (ng FP (De (HI (re FP2 r))))):=by kernel_rfl
theorem ASO:AR Tryz.prog oJl2 Tryz.f88 [va FP2 r] [false,false,false] 500=some ([(!DT (HI (re FP2 r)),false),(CL (re FP2 r),true),(EW hF (mo (re FP2 r)) (tf (De (HI (re FP2 r)))),false),(CL (re FP2 r),true),(EW hF (mo (re FP2 r)) (tf (ng FP (De (HI (re FP2 r))))),false)],Xf):=by kernel_rfl
end
theorem ABi (a:FP2):HI (en a)=(EX a).val:=by
 unfold HI ad mu EX
 show (mo (en (mo a.a.val*mo a.a.val:FP))+mo (en (mo a.b.val*mo a.b.val:FP)):FP).val=_
 rw [mo_en,mo_en]
 show (tf a.a.val*tf a.a.val+tf a.b.val*tf a.b.val:FP).val=_
 rw [B_,B_]
noncomputable def Kv (a:FP2):AV:=.tup [(true,av (en (Et a):R FP2)),(false,[.v (.bool (DX a))])]
theorem ASP:(rd jF:Option (R FP2))=some (en (0:FP2)):=by kernel_rfl
theorem Xh {β β':Env} {b b':Bool} {u:Value} (e:b=b') (h:Bn β false [.b b] u):Bn β' false [.v (.bool b')] u:=by
 subst e
 obtain ⟨l1,l2,p1,p2,p3⟩:=h
 exact ⟨l1,l2,⟨p1,rfl,trivial⟩,p2,p3⟩
theorem jG {a:FP2} (hi:DX a=false) {u:Value} (h:AP Bc Xf u):AP Bc (Kv a) u:=by
 unfold Kv
 rw [AOe hi,hi]
 exact Cy (fun _ ⟨l,q,e⟩=>⟨l,Sh.rd_ok (α:=FP2) ASP q,e⟩) (fun _ q=>Xh rfl q) h
theorem ABj {a:FP2} {n:Nat} (ht:EW hF a (tf n)=true) {u:Value} (h:AP Bc (Xg (en a) n) u):AP Bc (Kv a) u:=by
 obtain ⟨h1,h2⟩:=AOk ht
 unfold Kv
 rw [← h1,h2]
 unfold Xg at h
 rw [mo_en] at h
 exact Cy (fun _ q=>q) (fun _ q=>Xh rfl q) h
theorem ASQ (r:R FP2):AU Tryz.prog 88 [va FP2 r] (Kv (mo r)):=by
 have h1:=ASL r
 have h2:=ASM r
 have h3:=ASN r
 have h4:=ASO r
 have e:re FP2 r=en (mo r:FP2):=rfl
 rw [e] at h1 h2 h3 h4
 generalize (mo r:FP2)=a at *
 rw [mo_en,ABi] at h2 h3 h4
 rw [ABi] at h1
 rw [i7,B_] at h2 h3 h4
 have en2:tf (ng FP (EV (EX a)).val)=-EV (EX a):=by
  show tf (-(tf (EV (EX a)).val):FP).val=_
  rw [B_,B_]
 rw [en2] at h3 h4
 have hr:=Hl a
 cases hi:FV (EX a) with
 | false =>
  have hi':DT (EX a).val=false:=hi
  exact C7 (AW Xe AB Tryz.func88 h1 ⟨by rw [hi'];rfl,trivial⟩ rfl) fun u q=>jG (AOm hi) q
 | true =>
  have hi':(!DT (EX a).val)=false:=by
   have:DT (EX a).val=true:=hi
   rw [this];rfl
  cases ht:EW hF a (EV (EX a)) with
  | true =>
   refine C7 (AW Xe AB Tryz.func88 h2 ⟨hi',hr,ht,trivial⟩ rfl) fun u q=>?_
   exact ABj (n:=(EV (EX a)).val) (by rw [B_];exact ht) q
  | false =>
   cases ht2:EW hF a (-EV (EX a)) with
   | true =>
    refine C7 (AW Xe AB Tryz.func88 h3 ⟨hi',hr,ht,hr,ht2,trivial⟩ rfl) fun u q=>?_
    exact ABj (n:=ng FP (EV (EX a)).val) (by rw [en2];exact ht2) q
   | false=>exact C7 (AW Xe AB Tryz.func88 h4 ⟨hi',hr,ht,hr,ht2,trivial⟩ rfl) fun u q=>jG (AOn AR2 hi ht ht2) q
noncomputable def SJm:List (FuncId×ASpec):=(88,Aj (Bz FP2 fun r=>Kv (mo r)))::SJk
theorem MW:AX Tryz.prog SJm:=⟨Ak Tryz.func88 (by kernel_rfl) (by kernel_rfl) (CC ASQ),iX⟩
noncomputable abbrev Fs:Orc:=AH SJm KH
noncomputable def x2 (K:Nat) (L:List Int):R FP2:=(xN K 1 L,xN K 0 L)
noncomputable def z2 (L:List Int):R FP2:=(xN 4 3 L,xN 4 2 L)
noncomputable def Ey (x:R FP2):R FP2:=en (Et (mo (ad FP2 (mu FP2 (mu FP2 x x) x) ((4:Nat),(4:Nat)))))
noncomputable def yB2 (x:R FP2) (b:Bool):R FP2:=if (!(DH (mo (Ey x))==b))=true then ng FP2 (Ey x) else Ey x
noncomputable def Kw (e:Int):AV:=.tup [(true,Bv false),(false,[.n .i64 e])]
noncomputable def OH (x y:R FP2):AV:=.tup [(true,CB (av x) (CB (av y) [.b false])),(false,[.n .i64 0])]
section
variable (n m:Nat) (xs:List Int)
noncomputable def Ft (s:Bool) (p:List Bool):ASt:=Af Tryz.f29 (MT n m s) (Au xs) 1 p
theorem ASR:AM Tryz.prog Fs Tryz.f29 800 1 [] (Ft n m xs true [true,true])=some (GW n m xs (Bi 2 true (AA xs 0 n)) false [(!decide (Bw 2 true (AA xs 0 n)=0),true)],[],.tup [(true,Bv false),(false,[.v (.int .i64 (Bw 2 true (AA xs 0 n)))])],[]):=by kernel_rfl
theorem ASS:AM Tryz.prog Fs Tryz.f29 800 1 [] (Ft n m xs true [true,false,true])=some (GW n m xs (Bi 2 true (AA xs 0 n)) false ((!decide (Bw 2 true (AA xs 0 n)=0),false)::tt 2 []),[],.tup [(true,Bv true),(false,[.n .i64 0])],[]):=by kernel_rfl
theorem AST:AM Tryz.prog Fs Tryz.f29 800 1 [] (Ft n m xs false [true,true])=some (GW n m xs (Bi 4 false (AA xs 0 n)) false [(!decide (Bw 4 false (AA xs 0 n)=0),true)],[],.tup [(true,Bv false),(false,[.v (.int .i64 (Bw 4 false (AA xs 0 n)))])],[]):=by kernel_rfl
theorem ASU:AM Tryz.prog Fs Tryz.f29 800 1 [] (Ft n m xs false [true,false,true])=some (GW n m xs (Bi 4 false (AA xs 0 n)) false ((!decide (Bw 4 false (AA xs 0 n)=0),false)::tt 2 []),[],.tup [(true,Bv true),(false,[.n .i64 0])],[]):=by kernel_rfl
noncomputable def MX (b:Bool) (r:List (Bool×Bool)):List (Bool×Bool):=GW n m xs (Bi 2 true (AA xs 0 n)) true ((true,true)::(false,false)::tt 2 ((!(DH (mo (Ey (x2 2 (AA xs 0 n))))==Ar (AA xs 0 n) 32),b)::r))
noncomputable def Xi (r:List (Bool×Bool)):List (Bool×Bool):=GW n m xs (Bi 4 false (AA xs 0 n)) true ((true,true)::(false,false)::tt 4 r)
theorem ASV:AM Tryz.prog Fs Tryz.f29 800 1 [] (Ft n m xs true [false,false,true,true])=some (MX n m xs true [(!B3 (mo ((x2 2 (AA xs 0 n)),ng FP2 (Ey (x2 2 (AA xs 0 n))),false):P2),true)],[],Kw 204,[]):=by kernel_rfl
theorem ASW:AM Tryz.prog Fs Tryz.f29 800 1 [] (Ft n m xs true [false,false,true,false,true])=some (MX n m xs true [(!B3 (mo ((x2 2 (AA xs 0 n)),ng FP2 (Ey (x2 2 (AA xs 0 n))),false):P2),false),(!BQ (mo ((x2 2 (AA xs 0 n)),ng FP2 (Ey (x2 2 (AA xs 0 n))),false):P2),true)],[],Kw 205,[]):=by kernel_rfl
theorem ASX:AM Tryz.prog Fs Tryz.f29 800 1 [] (Ft n m xs true [false,false,true,false,false])=some (MX n m xs true [(!B3 (mo ((x2 2 (AA xs 0 n)),ng FP2 (Ey (x2 2 (AA xs 0 n))),false):P2),false),(!BQ (mo ((x2 2 (AA xs 0 n)),ng FP2 (Ey (x2 2 (AA xs 0 n))),false):P2),false)],[],OH (x2 2 (AA xs 0 n)) (ng FP2 (Ey (x2 2 (AA xs 0 n)))),[]):=by kernel_rfl
theorem ASY:AM Tryz.prog Fs Tryz.f29 800 1 [] (Ft n m xs true [false,false,false,true])=some (MX n m xs false [(!B3 (mo ((x2 2 (AA xs 0 n)),Ey (x2 2 (AA xs 0 n)),false):P2),true)],[],Kw 204,[]):=by kernel_rfl
theorem ASZ:AM Tryz.prog Fs Tryz.f29 800 1 [] (Ft n m xs true [false,false,false,false,true])=some (MX n m xs false [(!B3 (mo ((x2 2 (AA xs 0 n)),Ey (x2 2 (AA xs 0 n)),false):P2),false),(!BQ (mo ((x2 2 (AA xs 0 n)),Ey (x2 2 (AA xs 0 n)),false):P2),true)],[],Kw 205,[]):=by kernel_rfl
theorem ASa:AM Tryz.prog Fs Tryz.f29 800 1 [] (Ft n m xs true [false,false,false,false,false])=some (MX n m xs false [(!B3 (mo ((x2 2 (AA xs 0 n)),Ey (x2 2 (AA xs 0 n)),false):P2),false),(!BQ (mo ((x2 2 (AA xs 0 n)),Ey (x2 2 (AA xs 0 n)),false):P2),false)],[],OH (x2 2 (AA xs 0 n)) (Ey (x2 2 (AA xs 0 n))),[]):=by kernel_rfl
theorem ASb:AM Tryz.prog Fs Tryz.f29 800 1 [] (Ft n m xs false [false,false,true])=some (Xi n m xs [(!B3 (mo ((x2 4 (AA xs 0 n)),z2 (AA xs 0 n),false):P2),true)],[],Kw 204,[]):=by kernel_rfl
theorem ASc:AM Tryz.prog Fs Tryz.f29 800 1 [] (Ft n m xs false [false,false,false,true])=some (Xi n m xs [(!B3 (mo ((x2 4 (AA xs 0 n)),z2 (AA xs 0 n),false):P2),false),(!BQ (mo ((x2 4 (AA xs 0 n)),z2 (AA xs 0 n),false):P2),true)],[],Kw 205,[]):=by kernel_rfl
theorem ASd:AM Tryz.prog Fs Tryz.f29 800 1 [] (Ft n m xs false [false,false,false,false])=some (Xi n m xs [(!B3 (mo ((x2 4 (AA xs 0 n)),z2 (AA xs 0 n),false):P2),false),(!BQ (mo ((x2 4 (AA xs 0 n)),z2 (AA xs 0 n),false):P2),false)],[],OH (x2 4 (AA xs 0 n)) (z2 (AA xs 0 n)),[]):=by kernel_rfl
end
noncomputable def jH (p:P2):P2×Int:=if B3 p=true then (if BQ p=true then (p,0) else (.pt 0 0,205)) else (.pt 0 0,204)
noncomputable def pt2 (s:Bool) (L:List Int):P2:=match s with
 | true=>mo (x2 2 L,yB2 (x2 2 L) (Ar L 32),false)
 | false=>mo (x2 4 L,z2 L,false)
def kT (s:Bool):Nat:=match s with | true=>2 | false=>4
noncomputable def jI (s:Bool) (L:List Int):P2×Int:=if Bi (kT s) s L=true then jH (pt2 s L) else if Bw (kT s) s L=0 then (.inf,0) else (.pt 0 0,Bw (kT s) s L)
noncomputable def MY (q:P2×Int):AV:=Hm q.1 q.2
theorem ABm:(rd (Bv false):Option (R P2))=some (en (.pt 0 0:P2)):=by kernel_rfl
theorem ASe:(rd (Bv true):Option (R P2))=some (en (.inf:P2)):=by kernel_rfl
theorem jJ {β β':Env} {i:Bool} {p:P2} (h:(rd (Bv i):Option (R P2))=some (en p)) {u:Value} (hr:Bn β true (Bv i) u):Bn β' true (av (en p:R P2)) u:=by
 obtain ⟨l,q,e⟩:=hr
 exact ⟨l,Sh.rd_ok (α:=P2) h q,e⟩
theorem jK {β:Env} {e:Int} {u:Value} (h:AP β (Kw e) u):AP β (MY (.pt 0 0,e)) u:=Cy (fun _ q=>jJ ABm q) (fun _ q=>Df rfl q) h
theorem jL {β:Env} {u:Value} (h:AP β (.tup [(true,Bv true),(false,[.n .i64 0])]) u):AP β (MY (.inf,0)) u:=Cy (fun _ q=>jJ ASe q) (fun _ q=>Df rfl q) h
theorem ABn {β:Env} {e:Int} {u:Value} (h:AP β (.tup [(true,Bv false),(false,[.v (.int .i64 e)])]) u):AP β (MY (.pt 0 0,e)) u:=Cy (fun _ q=>jJ ABm q) (fun _ q=>q) h
theorem ASf (x y:R FP2):(rd (CB (av x) (CB (av y) [.b false])):Option (R P2))=some (x,y,false):=by kernel_rfl
theorem ABo {β:Env} {x y:R FP2} (hx:CL x=true) (hy:CL y=true) {u:Value} (h:AP β (OH x y) u):AP β (MY (mo (x,y,false),0)) u:=by
 have e:(en (mo (x,y,false):P2):R P2)=(x,y,false):=by
  show ((en (mo x:FP2):R FP2),(en (mo y:FP2):R FP2),false)=_
  rw [I7 hx,I7 hy]
 unfold MY Hm
 simp only
 rw [e]
 exact Cy (fun _ ⟨l,q,e⟩=>⟨l,Sh.rd_ok (α:=P2) (ASf x y) q,e⟩) (fun _ q=>Df rfl q) h
theorem jM {n m:Nat} {xs:List Int} {s:Bool} {x y:R FP2} (hx:CL x=true) (hy:CL y=true) {C:List (Bool×Bool)→List (Bool×Bool)} (hC:∀ r,AQ r→AQ (C r)) {p1 p2 p3:List Bool}
  (h1:AM Tryz.prog Fs Tryz.f29 800 1 [] (Ft n m xs s p1)=some (C [(!B3 (mo (x,y,false)),true)],[],Kw 204,[]))
  (h2:AM Tryz.prog Fs Tryz.f29 800 1 [] (Ft n m xs s p2)=some (C [(!B3 (mo (x,y,false)),false),(!BQ (mo (x,y,false)),true)],[],Kw 205,[]))
  (h3:AM Tryz.prog Fs Tryz.f29 800 1 [] (Ft n m xs s p3)=some (C [(!B3 (mo (x,y,false)),false),(!BQ (mo (x,y,false)),false)],[],OH x y,[])) :
  Ad Tryz.prog 29 (MT n m s) (Au xs) 1 [] (MY (jH (mo (x,y,false)))) []:=by
 unfold jH
 cases ho:B3 (mo (x,y,false)) with
 | false =>
  rw [if_neg Bool.false_ne_true]
  exact BU (A2 MW BA Tryz.func29 (by kernel_rfl) (by kernel_rfl) h1 (by kernel_rfl) (hC _ ⟨by rw [ho];rfl,trivial⟩)) fun _ _ q=>jK q
 | true =>
  rw [if_pos rfl]
  cases hi:BQ (mo (x,y,false)) with
  | false =>
   rw [if_neg Bool.false_ne_true]
   exact BU (A2 MW BA Tryz.func29 (by kernel_rfl) (by kernel_rfl) h2 (by kernel_rfl) (hC _ ⟨by rw [ho];rfl,by rw [hi];rfl,trivial⟩)) fun _ _ q=>jK q
  | true =>
   rw [if_pos rfl]
   exact BU (A2 MW BA Tryz.func29 (by kernel_rfl) (by kernel_rfl) h3 (by kernel_rfl) (hC _ ⟨by rw [ho];rfl,by rw [hi];rfl,trivial⟩)) fun _ _ q=>ABo hx hy q
theorem jN {a b:Nat} (ha:a<pN) (hb:b<pN):CL ((a,b):R FP2)=true:=Bool.and_eq_true_iff.2 ⟨decide_eq_true ha,decide_eq_true hb⟩
theorem ASg (x:R FP2):CL (Ey x)=true:=Hl _
theorem ASh (x:R FP2):CL (ng FP2 x)=true:=Hl _
theorem ASi {n m:Nat} {xs:List Int} (hl:n≤xs.length) (hm:n≤m) (hn:AJ .i64 n=true) (s:Bool):Ad Tryz.prog 29 (MT n m s) (Au xs) 1 [] (MY (jI s (AA xs 0 n))) []:=by
 have hW:∀ (b d:Bool) r,b=d→AQ r→AQ (GW n m xs b d r):=fun b d r h hr=>⟨Nat.ble_eq_true_of_le hl,Nat.ble_eq_true_of_le hm,hn,h,hr⟩
 unfold jI
 cases hr:Bi (kT s) s (AA xs 0 n) with
 | false =>
  rw [if_neg Bool.false_ne_true]
  by_cases he:Bw (kT s) s (AA xs 0 n)=0
  ·rw [if_pos he]
   cases s with
   | true=>exact BU (A2 MW BA Tryz.func29 (by kernel_rfl) (by kernel_rfl) (ASS n m xs) (by kernel_rfl) (hW _ _ _ hr ⟨XZ he,Ac 2 trivial⟩)) fun _ _ q=>jL q
   | false=>exact BU (A2 MW BA Tryz.func29 (by kernel_rfl) (by kernel_rfl) (ASU n m xs) (by kernel_rfl) (hW _ _ _ hr ⟨XZ he,Ac 2 trivial⟩)) fun _ _ q=>jL q
  ·rw [if_neg he]
   cases s with
   | true=>exact BU (A2 MW BA Tryz.func29 (by kernel_rfl) (by kernel_rfl) (ASR n m xs) (by kernel_rfl) (hW _ _ _ hr ⟨XY he,trivial⟩)) fun _ _ q=>ABn q
   | false=>exact BU (A2 MW BA Tryz.func29 (by kernel_rfl) (by kernel_rfl) (AST n m xs) (by kernel_rfl) (hW _ _ _ hr ⟨XY he,trivial⟩)) fun _ _ q=>ABn q
 | true =>
  rw [if_pos rfl]
  cases s with
  | true =>
   have hx:CL (x2 2 (AA xs 0 n))=true:=jN (Kr hr 1 (by decide)) (Kr hr 0 (by decide))
   unfold pt2 yB2
   by_cases hb:(!(DH (mo (Ey (x2 2 (AA xs 0 n))))==Ar (AA xs 0 n) 32))=true
   ·simp only [if_pos hb]
    exact jM hx (ASh _) (C:=MX n m xs true) (fun r hq=>hW _ _ _ hr ⟨rfl,rfl,Ac 2 ⟨hb,hq⟩⟩) (ASV n m xs) (ASW n m xs) (ASX n m xs)
   ·simp only [if_neg hb]
    exact jM hx (ASg _) (C:=MX n m xs false) (fun r hq=>hW _ _ _ hr ⟨rfl,rfl,Ac 2 ⟨by simpa using hb,hq⟩⟩) (ASY n m xs) (ASZ n m xs) (ASa n m xs)
  | false=>exact jM (jN (Kr hr 1 (by decide)) (Kr hr 0 (by decide))) (jN (Kr hr 3 (by decide)) (Kr hr 2 (by decide))) (C:=Xi n m xs) (fun r hq=>hW _ _ _ hr ⟨rfl,rfl,Ac 4 hq⟩) (ASb n m xs) (ASc n m xs) (ASd n m xs)
noncomputable def SJn:List (FuncId×ASpec):=(29,UF fun s L=>MY (jI s L))::SJm
theorem Xj:AX Tryz.prog SJn:=⟨iW Tryz.func29 (by kernel_rfl) (by kernel_rfl) (fun _ _=>by kernel_rfl) fun _ _ _ s hl hm hn=>ASi hl hm hn s,MW⟩
noncomputable abbrev oJn:Orc:=AH SJn KH
theorem ABp (s:Bool):0<kT s:=by cases s<;>decide
section
variable {F:Type} [FD F] (C:Cv F)
end
section
variable (x y:Nat) (i:Bool)
end
section
variable (r:R P2)
end
section
variable (x y:Nat) (i:Bool)
end
section
variable (n m:Nat) (xs:List Int)
end
section
variable (r:R P2)
end
section
variable (n m:Nat) (xs:List Int)
end
def KQ:List (TypeId×List (Option IntKind)):=(232,List.replicate 36 (some .u64))::KH
theorem DU:Jo Tryz.prog KQ:=⟨⟨by kernel_rfl,by kernel_rfl,by kernel_rfl⟩,BA⟩
noncomputable abbrev oQ0:Orc:=AH SJn KQ
theorem Xk:OrcOk Tryz.prog oQ0:=AK Xj DU
def QT (i:Int):List Ch:=[.n .u64 i,.n .u64 0,.n .u64 0,.n .u64 0,.n .u64 0,.n .u64 0,.n .u64 0,.n .u64 0,.n .u64 0,.n .u64 0,.n .u64 0,.n .u64 0]
def jO:List AV→Option AV
 | [.val false [.n .u64 i]]=>some (.val true (QT i))
 | _=>none
theorem ASk (i:Int):AR Tryz.prog oQ0 Tryz.f254 [.val false [.n .u64 i]] [] 100=some ([],.val true (QT i)):=by kernel_rfl
theorem ASl:∀ args v,jO args=some v→AU Tryz.prog 254 args v:=by
 intro args v hs
 unfold jO at hs
 split at hs
 case h_2=>cases hs
 rename_i i
 injection hs with hs;subst hs
 exact AW Xk AB Tryz.func254 (ASk i) trivial rfl
theorem ASm:AR Tryz.prog oQ0 Tryz.f303 [] [] 100=some ([],.val true AAl):=by kernel_rfl
theorem ASn:AU Tryz.prog 303 [] (ve I3):=D2 (α:=FP2) (r:=(en I3:R FP2)) (AW Xk AB Tryz.func303 ASm trivial rfl) (by kernel_rfl)
section
variable (r s:R P2)
theorem ASo:AR Tryz.prog oQ0 Tryz.f251 [va P2 r] [true] 300=some ([(r.2.2,true)],.val true (Bv true)):=by kernel_rfl
theorem ASp:AR Tryz.prog oQ0 Tryz.f251 [va P2 r] [false] 300=some ([(r.2.2,false)],.val true (CB (av (re FP2 r.1)) (CB (av (re FP2 r.2.1)) [.b false]))):=by kernel_rfl
end
theorem ASq (r:R P2):AU Tryz.prog 251 [va P2 r] (ve (mo r:P2)):=by
 have h1:=ASo r
 have h2:=ASp r
 obtain ⟨x,y,i⟩:=r
 cases i with
 | true=>exact D2 (α:=P2) (r:=(en (.inf:P2):R P2)) (AW Xk AB Tryz.func251 h1 ⟨rfl,trivial⟩ rfl) (by kernel_rfl)
 | false=>exact D2 (α:=P2) (r:=((re FP2 x,re FP2 y,false):R P2)) (AW Xk AB Tryz.func251 h2 ⟨rfl,trivial⟩ rfl) (by kernel_rfl)
noncomputable def SQ0:List (FuncId×ASpec):=(254,Aj jO)::(303,Aj (ev FP2 (ve I3)))::(251,Aj (Bz P2 fun r=>ve (mo r:P2)))::SJn
theorem ABq:AX Tryz.prog SQ0:=⟨Ak Tryz.func254 (by kernel_rfl) (by kernel_rfl) ASl,Ak Tryz.func303 (by kernel_rfl) (by kernel_rfl) (XD ASn),Ak Tryz.func251 (by kernel_rfl) (by kernel_rfl) (CC ASq),Xj⟩
noncomputable abbrev oQ1:Orc:=AH SQ0 KQ
theorem jP:OrcOk Tryz.prog oQ1:=AK ABq DU
def kk (n:Nat):R FP2:=((n:Nat),(0:Nat))
noncomputable def uS (x y:R FP2):R FP2:=mu FP2 (kk 4) (mu FP2 x (mu FP2 y y))
noncomputable def uM (x:R FP2):R FP2:=mu FP2 (kk 3) (mu FP2 x x)
noncomputable def uX (x y:R FP2):R FP2:=su FP2 (mu FP2 (uM x) (uM x)) (ad FP2 (uS x y) (uS x y))
noncomputable def uY (x y:R FP2):R FP2:=su FP2 (mu FP2 (uM x) (su FP2 (uS x y) (uX x y))) (mu FP2 (kk 8) (mu FP2 (mu FP2 y y) (mu FP2 y y)))
noncomputable def uT (r:R J2):R J2:=(uX r.1 r.2.1,uY r.1 r.2.1,mu FP2 (kk 2) (mu FP2 r.2.1 r.2.2))
theorem ASr (r:R J2):AR Tryz.prog oQ1 Tryz.f252 [va J2 r] [] 500=some ([],va J2 (uT r)):=by kernel_rfl
theorem ABr:(mo (kk 2):FP2)=1+1:=Qx.ext gN (by show tf 0=0+0;rw [tf_zero];exact (zero_add 0).symm)
theorem ABs:(mo (kk 3):FP2)=1+1+1:=Qx.ext z7 (by show tf 0=0+0+0;rw [tf_zero,zero_add,zero_add])
theorem ASs:(mo (kk 4):FP2)=1+1+(1+1):=Qx.ext gO (by show tf 0=0+0+(0+0);rw [tf_zero,zero_add,zero_add])
theorem ASu:(mo (kk 8):FP2)=1+1+(1+1)+(1+1+(1+1)):=Qx.ext z8 (by show tf 0=0+0+(0+0)+(0+0+(0+0));rw [tf_zero,zero_add,zero_add,zero_add])
theorem ASv (x y:FP2):(1+1+(1+1))*(x*(y*y))=jD x y:=ring [x,y] (a:=(1+1+(1+1))*(x*(y*y))) (b:=x*(y*y)+x*(y*y)+(x*(y*y)+x*(y*y))) (by kernel_rfl)
theorem ABt (x:FP2):(1+1+1)*(x*x)=jE x:=ring [x] (a:=(1+1+1)*(x*x)) (b:=x*x+x*x+x*x) (by kernel_rfl)
theorem ASw (y:FP2):(1+1+(1+1)+(1+1+(1+1)))*((y*y)*(y*y))=Pz y:=ring [y] (a:=(1+1+(1+1)+(1+1+(1+1)))*((y*y)*(y*y))) (b:=((y*y)*(y*y)+(y*y)*(y*y)+((y*y)*(y*y)+(y*y)*(y*y)))+((y*y)*(y*y)+(y*y)*(y*y)+((y*y)*(y*y)+(y*y)*(y*y)))) (by kernel_rfl)
theorem ASx (y z:FP2):(1+1)*(y*z)=y*z+y*z:=ring [y,z] (a:=(1+1)*(y*z)) (b:=y*z+y*z) (by kernel_rfl)
theorem ASy (r:R J2):uT r=en (BV (mo r:J2)):=by
 unfold uT uY uX uM uS su mu ad
 simp only [mo_en,ABr,ABs,ASs,ASu,ASx,ABt,ASv,ASw]
 rfl
theorem ASz (r:R J2):AU Tryz.prog 252 [va J2 r] (ve (BV (mo r:J2))):=by
 unfold ve
 rw [← ASy]
 exact AW jP AB Tryz.func252 (ASr r) trivial rfl
theorem AS0 (r:R P2):AR Tryz.prog oQ1 Tryz.f250 [va P2 r] [true] 300=some ([(r.2.2,true)],.val false [.b true]):=by kernel_rfl
theorem AS1 (r:R P2):AR Tryz.prog oQ1 Tryz.f250 [va P2 r] [false] 300=some ([(r.2.2,false)],BB (T9 r.1 r.2.1)):=by kernel_rfl
theorem AS2 (r:R P2):AU Tryz.prog 250 [va P2 r] (BB (B3 (mo r))):=by
 have h1:=AS0 r
 have h2:=AS1 r
 obtain ⟨x,y,i⟩:=r
 cases i with
 | true=>exact C7 (AW jP AB Tryz.func250 h1 ⟨rfl,trivial⟩ rfl) fun u hu=>It rfl hu
 | false =>
  have e:B3 (mo ((x,y,false):R P2))=T9 x y:=(AAo x y).symm
  rw [e]
  exact AW jP AB Tryz.func250 h2 ⟨rfl,trivial⟩ rfl
noncomputable def SQ1:List (FuncId×ASpec):=(252,Aj (Bz J2 fun r=>ve (BV (mo r:J2))))::(250,Aj (Bz P2 fun r=>BB (B3 (mo r))))::SQ0
theorem ABu:AX Tryz.prog SQ1:=⟨Ak Tryz.func252 (by kernel_rfl) (by kernel_rfl) (CC ASz),Ak Tryz.func250 (by kernel_rfl) (by kernel_rfl) (CC AS2),ABq⟩
noncomputable abbrev oQ2:Orc:=AH SQ1 KQ
theorem Xl:OrcOk Tryz.prog oQ2:=AK ABu DU
section
variable (p:R J2) (q:R P2)
theorem AS3:AR Tryz.prog oQ2 Tryz.f253 [va J2 p,va P2 q] [true] 500=some ([(B0 p.2.2,true)],.val true (CB (av q.1) (CB (av q.2.1) (QT 1)))):=by kernel_rfl
theorem AS4:AR Tryz.prog oQ2 Tryz.f253 [va J2 p,va P2 q] [false,true,true] 500=some ([(B0 p.2.2,false),(B0 (qH p.1 p.2.2 q.1),true),(B0 (qR p.2.1 p.2.2 q.2.1),true)],ve (BV (mo p:J2))):=by kernel_rfl
theorem AS5:AR Tryz.prog oQ2 Tryz.f253 [va J2 p,va P2 q] [false,true,false] 500=some ([(B0 p.2.2,false),(B0 (qH p.1 p.2.2 q.1),true),(B0 (qR p.2.1 p.2.2 q.2.1),false)],.val true QF):=by kernel_rfl
theorem AS6:AR Tryz.prog oQ2 Tryz.f253 [va J2 p,va P2 q] [false,false] 500=some ([(B0 p.2.2,false),(B0 (qH p.1 p.2.2 q.1),false)],
 va J2 (N8 p.1 (qH p.1 p.2.2 q.1) (qR p.2.1 p.2.2 q.2.1),QE p.1 p.2.1 (qH p.1 p.2.2 q.1) (qR p.2.1 p.2.2 q.2.1),mu FP2 p.2.2 (qH p.1 p.2.2 q.1))):=by kernel_rfl
end
theorem AS7 {p:R J2} {q:R P2} (hz:CL p.2.2=true) (hx:CL q.1=true) (hy:CL q.2.1=true):AU Tryz.prog 253 [va J2 p,va P2 q] (ve (FA (mo p:J2) (mo q.1) (mo q.2.1))):=by
 have ez:B0 p.2.2=decide ((mo p:J2).z=0):=by
  conv=>lhs;rw [← I7 hz]
  exact KZ _
 have eh:qH p.1 p.2.2 q.1=en (pH (mo p:J2) (mo q.1)):=by unfold qH su mu;simp only [mo_en];rfl
 have er:qR p.2.1 p.2.2 q.2.1=en (pR (mo p:J2) (mo q.2.1)):=by unfold qR su mu;simp only [mo_en];rfl
 have zh:B0 (qH p.1 p.2.2 q.1)=decide (pH (mo p:J2) (mo q.1)=0):=by rw [eh];exact KZ _
 have zr:B0 (qR p.2.1 p.2.2 q.2.1)=decide (pR (mo p:J2) (mo q.2.1)=0):=by rw [er];exact KZ _
 have r1:=AS3 p q
 have r2:=AS4 p q
 have r3:=AS5 p q
 have r4:=AS6 p q
 rw [zh,ez] at r2
 rw [zh,ez,zr] at r3
 rw [zr] at r2
 rw [zh,ez,eh,er] at r4
 rw [ez] at r1
 unfold FA
 by_cases h0:(mo p:J2).z=0
 ·rw [if_pos h0]
  refine D2 (α:=J2) (r:=(en (⟨mo q.1,mo q.2.1,1⟩:J2):R J2)) (AW Xl AB Tryz.func253 r1 ⟨decide_eq_true h0,trivial⟩ rfl) ?_
  have e:(en (⟨mo q.1,mo q.2.1,1⟩:J2):R J2)=(q.1,q.2.1,en (1:FP2)):=by
   show ((en (mo q.1:FP2),en (mo q.2.1:FP2),en (1:FP2)):R J2)=_
   rw [I7 hx,I7 hy]
  rw [e]
  exact AAu _ _
 ·rw [if_neg h0]
  by_cases hh:pH (mo p:J2) (mo q.1)=0
  ·rw [if_pos hh]
   by_cases hr:pR (mo p:J2) (mo q.2.1)=0
   ·rw [if_pos hr]
    exact AW Xl AB Tryz.func253 r2 ⟨decide_eq_false h0,decide_eq_true hh,decide_eq_true hr,trivial⟩ rfl
   ·rw [if_neg hr]
    exact D2 (α:=J2) (r:=(en (⟨0,0,0⟩:J2):R J2)) (AW Xl AB Tryz.func253 r3 ⟨decide_eq_false h0,decide_eq_true hh,decide_eq_false hr,trivial⟩ rfl) (by kernel_rfl)
  ·rw [if_neg hh]
   have e:((N8 p.1 (en (pH (mo p:J2) (mo q.1))) (en (pR (mo p:J2) (mo q.2.1))),QE p.1 p.2.1 (en (pH (mo p:J2) (mo q.1))) (en (pR (mo p:J2) (mo q.2.1))),mu FP2 p.2.2 (en (pH (mo p:J2) (mo q.1)))):R J2) =
     en (⟨pX (mo p:J2).x (pH (mo p:J2) (mo q.1)) (pR (mo p:J2) (mo q.2.1)),pY (mo p:J2).x (mo p:J2).y (pH (mo p:J2) (mo q.1)) (pR (mo p:J2) (mo q.2.1)),(mo p:J2).z*pH (mo p:J2) (mo q.1)⟩:J2):=by
    unfold QE N8 su mu ad
    simp only [mo_en]
    rfl
   rw [e] at r4
   exact AW Xl AB Tryz.func253 r4 ⟨decide_eq_false h0,decide_eq_false hh,trivial⟩ rfl
theorem AS8:∀ args c v,QG args=some (c,v)→AQ c→AU Tryz.prog 253 args v:=by
 intro args c v hs hc us w ha
 unfold QG at hs
 split at hs
 case h_2=>cases hs
 split at hs
 case h_2=>cases hs
 rename_i p q hx hy
 injection hs with hs;injection hs with h1 h2;subst h1;subst h2
 obtain ⟨u1,us1,r1,⟨u2,us2,r2,ha,rfl⟩,rfl⟩:=ha
 exact AS7 hc.1 hc.2.1 hc.2.2.1 _ w ⟨u1,_,GC hx r1,⟨u2,_,GC hy r2,ha,rfl⟩,rfl⟩
noncomputable def SQ2:List (FuncId×ASpec):=(253,EE QG)::SQ1
theorem Xm:AX Tryz.prog SQ2:=⟨El Tryz.func253 (by kernel_rfl) (by kernel_rfl) AS8,ABu⟩
noncomputable abbrev oQ3:Orc:=AH SQ2 KQ
theorem OI:OrcOk Tryz.prog oQ3:=AK Xm DU
noncomputable def AS9:List Item:=Be (AS Tryz.prog oQ3 (some 0) 500 1 none (Af Tryz.f195 [AI 0 0 0 0,ve (.pt 0 0:P2)] (Az []) 1 [false,false]))
noncomputable def vmT (off n m:Nat) (i:Int):List AV:=.val false [.sl 0 off n m]::.any::.any::.val false [.p 1 0]::.val false [.p 2 0]::.val false [.n .i64 0]::.any::.val false [.p 3 0]::.val false [.p 4 0]::.val false [.v (.int .i64 i)]::List.replicate (Tryz.f195.ntmps-10) .any
noncomputable def vmH (xs:List Int) (r:R P2) (p:P2):Heap:=[(0,some (Ai [.seq .u64 xs])),(1,some ⟨41,av r,false⟩),(2,some ⟨41,Bv false,false⟩),(3,some ⟨41,av (en p:R P2),false⟩)]
noncomputable def Kx (r:R P2) (off n m:Nat) (xs:List Int) (p:P2) (out:List Ch) (i:Int) (path:List Bool):ASt:=⟨AS9,⟨vmT off n m i,List.append (vmH xs r p) [(4,some ⟨232,out,false⟩)],5,path⟩⟩
abbrev kV:Option (List Nat×List Nat×Nat):=some ([0,3,4,5,7,8,9],[0,1,2,3,4],5)
theorem ATA (r:R P2) (off n m:Nat) (xs:List Int):AS Tryz.prog oQ3 (some 0) 500 1 kV (Af Tryz.f195 (MO r off n m) (Az xs) 1 [false,false]) =
 some ([(!B3 (mo r),false),(r.2.2,false),(AJ .i64 n,true)],[],Kx r off n m xs (mo r) QF (wI (wI (64*(n:Int))-1)) []):=by kernel_rfl
theorem ATB (r:R P2) (off n m:Nat) (xs:List Int):AM Tryz.prog oQ3 Tryz.f195 500 1 [] (Af Tryz.f195 (MO r off n m) (Az xs) 1 [true]) =
 some ([(!B3 (mo r),true)],[],.tup [(true,Bv false),(false,[.n .i64 120])],[]):=by kernel_rfl
theorem ATC (r:R P2) (off n m:Nat) (xs:List Int):AM Tryz.prog oQ3 Tryz.f195 500 1 [] (Af Tryz.f195 (MO r off n m) (Az xs) 1 [false,true]) =
 some ([(!B3 (mo r),false),(r.2.2,true)],[],.tup [(true,Bv true),(false,[.n .i64 0])],[]):=by kernel_rfl
noncomputable def vI (j:J2):R FP2:=iv FP2 (en j:R J2).2.2
section
variable (r:R P2) (off n m:Nat) (xs:List Int) (p:P2) (j:J2) (i:Int)
theorem ATD:AS Tryz.prog oQ3 (some 0) 500 1 kV (Kx r off n m xs p (jC2 j) i [true,false])=some (QA off n xs i false [],[],Kx r off n m xs p (jC2 (BV (jR j))) (wI (i-1)) []):=by kernel_rfl
theorem ATE:AS Tryz.prog oQ3 (some 0) 500 1 kV (Kx r off n m xs p (jC2 j) i [true,true]) =
 some (QA off n xs i true [(CL (en (BV (jR j))).2.2,true),(CL (rX p),true),(CL (rY p),true)],[],Kx r off n m xs p (jC2 (XI j p)) (wI (i-1)) []):=by kernel_rfl
theorem ATF:AM Tryz.prog oQ3 Tryz.f195 500 1 [] (Kx r off n m xs p (jC2 j) i [false,true]) =
 some ([(decide (0≤i),false),(B0 (en j:R J2).2.2,true)],[],.tup [(true,Bv true),(false,[.n .i64 0])],[]):=by kernel_rfl
theorem ATG:AM Tryz.prog oQ3 Tryz.f195 500 1 [] (Kx r off n m xs p (jC2 j) i [false,false]) =
 some ([(decide (0≤i),false),(B0 (en j:R J2).2.2,false)],[],OH (mu FP2 (en j:R J2).1 (mu FP2 (vI j) (vI j))) (mu FP2 (en j:R J2).2.1 (mu FP2 (mu FP2 (vI j) (vI j)) (vI j))),[]):=by kernel_rfl
end
theorem Xn (r:R P2) (off n m:Nat) (xs:List Int) (p:P2) (j:J2) (i:Int) (q:List Bool):B4 Tryz.f195.ntmps (Kx r off n m xs p (jC2 j) i q).s:=AL (by kernel_rfl)
noncomputable def vmV (q:P2):AV:=match q with
 | .inf=>.tup [(true,Bv true),(false,[.n .i64 0])]
 | .pt a b=>OH (en a) (en b)
section
variable {off n m:Nat} {xs:List Int} (hall:∀ d∈xs,0≤d∧d<18446744073709551616) (hlen:off+n≤xs.length) (hn:n≤1125899906842624) {r:R P2} {p:P2} (hP:Rg.On C2.b p) (hI:B7 p=false) {β0:Env} {w0:World} (hb:∀ b,1≤b→β0 b=none)
include hall hlen hn hb hP hI
theorem ATH:∀ (c:Nat) (j:J2),CU j=BH (AF (AA xs off n) / 2^c) p→c≤64*n→ASafe Tryz.prog 195 β0 w0 (Ay β0 w0 [] (vmV (BH (AF (AA xs off n)) p)) []) Tryz.f195.ntmps [] (Kx r off n m xs p (jC2 j) ((c:Int)-1) []):=by
 intro c
 induction c with
 | zero =>
  intro j hj _
  rw [Nat.pow_zero,Nat.div_one] at hj
  rw [← hj]
  have ez:B0 (en j:R J2).2.2=decide (j.z=0):=KZ j.z
  by_cases hz:j.z=0
  ·rw [GU hz]
   exact Ab [false,true] (As OI AB Tryz.func195 (ATF ..) ⟨rfl,by rw [ez];exact decide_eq_true hz,trivial⟩ (Xn ..) hb (fun _ h=>by cases h))
  ·rw [IL hz]
   have e1:mu FP2 (en j:R J2).1 (mu FP2 (vI j) (vI j))=(en (j.x*(FD.inv j.z*FD.inv j.z)):R FP2):=by
    unfold vI mu iv
    show en ((mo (en j.x:R FP2):FP2)*mo (en (mo (en (FD.inv (mo (en j.z:R FP2):FP2)))*mo (en (FD.inv (mo (en j.z:R FP2):FP2))))))=_
    simp only [mo_en]
   have e2:mu FP2 (en j:R J2).2.1 (mu FP2 (mu FP2 (vI j) (vI j)) (vI j))=(en (j.y*((FD.inv j.z*FD.inv j.z)*FD.inv j.z)):R FP2):=by
    unfold vI mu iv
    show en ((mo (en j.y:R FP2):FP2)*mo (en (mo (en (mo (en (FD.inv (mo (en j.z:R FP2):FP2)))*mo (en (FD.inv (mo (en j.z:R FP2):FP2)))))*mo (en (FD.inv (mo (en j.z:R FP2):FP2))))))=_
    simp only [mo_en]
   have t:=ATG r off n m xs p j (((0:Nat):Int)-1)
   rw [e1,e2] at t
   exact Ab [false,false] (As OI AB Tryz.func195 t ⟨rfl,by rw [ez];exact decide_eq_false hz,trivial⟩ (Xn ..) hb (fun _ h=>by cases h))
 | succ c ih =>
  intro j hj hc
  have hi:((c+1:Nat):Int)-1=(c:Int):=by omega
  rw [hi]
  obtain ⟨hw,hjn,hv0,hr0,hbit⟩:=T' (off:=off) hall hn (c:=c) (by omega)
  obtain ⟨hq1,hq2⟩:=Pk xs off c
  have hnext:wI ((c:Int)-1)=(c:Int)-1:=Am (by omega)
  have hconds:∀ Bs r,decide (IG xs off c=1)=Bs→AQ r→AQ (QA off n xs c Bs r):=by
   intro Bs r hbt hr'
   refine ⟨by simp,rfl,?_,?_,by simp,by simp only [decide_eq_true_eq];rw [hq2];exact ⟨hr0,hv0⟩,hbt,hr'⟩
   ·rw [hw];simp;omega
   ·rw [hw];simp;omega
  rw [← hq1] at hbit
  have hoj:Rg.On C2.b (CU j):=by rw [hj];exact GT C2 hP _
  have ejR:jR j=j:=mo_en j
  have htw:CU (BV (jR j))=BH (2*(AF (AA xs off n) / 2^(c+1))) p:=by
   rw [ejR,P1 C2 hoj,hj,← N1 C2 hP,Nat.two_mul]
  have hd:=UA (AF (AA xs off n)) c
  rcases Nat.mod_two_eq_zero_or_one (AF (AA xs off n) / 2^c) with h0 | h1
  ·refine Ab [true,false] (Ae OI AB (ATD ..) (hconds false [] (by rw [hbit,h0];rfl) trivial) (Xn ..) hb (fun _ h=>by cases h) fun _=>?_)
   rw [hnext]
   refine ih _ ?_ (by omega)
   rw [htw,hd,h0];rfl
  ·refine Ab [true,true] (Ae OI AB (ATE ..) (hconds true _ (by rw [hbit,h1];rfl) ⟨Hl (BV (jR j)).z,Hl (I2 p),Hl (D1 p),trivial⟩) (Xn ..) hb (fun _ h=>by cases h) fun _=>?_)
   rw [hnext]
   refine ih _ ?_ (by omega)
   unfold XI
   rw [mo_en,Tv C2 (by rw [htw];exact GT C2 hP _),htw,hd,h1]
   cases p with
   | inf=>cases hI
   | pt a b =>
    show add _ (.pt (mo (en a)) (mo (en b)))=_
    rw [mo_en,mo_en];rfl
end
theorem ABw {β:Env} {q:P2} {u:Value} (h:AP β (vmV q) u):AP β (Hm q 0) u:=by
 cases q with
 | inf=>exact jL h
 | pt a b =>
  have:=ABo (Hl a) (Hl b) h
  have e:(mo ((en a,en b,false):R P2):P2)=.pt a b:=mo_en (.pt a b:P2)
  rw [e] at this
  exact this
theorem ATI (r:R P2):B7 (mo r:P2)=r.2.2:=by
 obtain ⟨a,b,i⟩:=r
 cases i<;>rfl
theorem ATJ {off n m:Nat} {xs:List Int} (hall:∀ d∈xs,0≤d∧d<18446744073709551616) (hlen:off+n≤xs.length) (hn:n≤1125899906842624) (r:R P2) :
  Ad Tryz.prog 195 (MO r off n m) (Az xs) 1 [] (Hm (CM (AF (AA xs off n)) (mo r)) (EH (mo r))) []:=by
 have e1:=ATA r off n m xs
 have e2:=ATB r off n m xs
 have e3:=ATC r off n m xs
 have hpi:=ATI r
 cases ho:B3 (mo r) with
 | false =>
  unfold CM EH
  rw [if_neg (by rw [ho];exact Bool.false_ne_true),if_neg (by rw [ho];exact Bool.false_ne_true)]
  exact BU (Av (path:=[true]) Tryz.func195 (by kernel_rfl) (by kernel_rfl) fun β0 w0 hb =>
   As OI AB Tryz.func195 e2 ⟨by rw [ho];rfl,trivial⟩ (AL (by kernel_rfl)) hb (fun _ h=>by cases h)) fun β u hu=>jK hu
 | true =>
  have hP:=(AAn _).1 ho
  unfold CM EH
  rw [if_pos ho,if_pos ho]
  cases hI:r.2.2 with
  | true =>
   rw [hI] at hpi
   have hp:(mo r:P2)=.inf:=by
    generalize (mo r:P2)=p at *
    cases p with | inf=>rfl | pt a b=>cases hpi
   rw [hp,Py]
   exact BU (Av (path:=[false,true]) Tryz.func195 (by kernel_rfl) (by kernel_rfl) fun β0 w0 hb =>
    As OI AB Tryz.func195 e3 ⟨by rw [ho];rfl,hI,trivial⟩ (AL (by kernel_rfl)) hb (fun _ h=>by cases h)) fun β u hu=>ABw (q:=.inf) hu
  | false =>
   rw [hI] at hpi
   refine BU (Av (path:=[false,false]) Tryz.func195 (by kernel_rfl) (by kernel_rfl) fun β0 w0 hb=>?_) fun β u hu=>ABw hu
   refine Ae OI AB e1 ⟨by rw [ho];rfl,hI,Nu hn,trivial⟩ (AL (by kernel_rfl)) hb (fun _ h=>by cases h) fun _=>?_
   have e4:wI (wI (64*(n:Int))-1)=((64*n:Nat):Int)-1:=by
    rw [Am (z:=64*(n:Int)) (by omega),Am (by omega)];omega
   rw [e4]
   refine Wv AAw (ATH hall hlen hn hP hpi hb (64*n) ⟨0,0,0⟩ ?_ (Nat.le_refl _))
   rw [GU rfl,Nat.div_eq_of_lt (XH hall hlen)];rfl
noncomputable def SQ3:List (FuncId×ASpec):=(195,Du (XK P2 fun l r=>Hm (CM (AF l) (mo r)) (EH (mo r))))::SQ2
theorem ABx:AX Tryz.prog SQ3:=⟨EM (AAy Tryz.func195 (by kernel_rfl) (by kernel_rfl) (fun _ _=>by kernel_rfl) fun _ _ _ _ r hx hl hn=>ATJ hx hl hn r),Xm⟩
noncomputable abbrev oQ4:Orc:=AH SQ3 KQ
theorem Xo:OrcOk Tryz.prog oQ4:=AK ABx DU
noncomputable def jQ (r:R FP2) (off n m:Nat):List AV:=[va FP2 r,AI 0 off n m]
noncomputable def ATK:List Item:=Be (AS Tryz.prog oQ4 (some 0) 100 1 none (Af Tryz.f339 (jQ (en (0:FP2)) 0 0 0) (Az []) 1 []))
noncomputable def OJ (off n m:Nat) (xs:List Int) (x:R FP2) (v:List Ch) (i:Int) (p:List Bool):ASt:=⟨ATK,⟨C8 Tryz.f339.ntmps [(1,AI 0 off n m),(2,.val false [.p 1 0]),(4,.val false [.p 2 0]),(5,.val false [.p 3 0]),(6,iA i)],
 [(0,some (Ai [.seq .u64 xs])),(1,some ⟨39,av x,false⟩),(2,some ⟨39,jF,false⟩),(3,some ⟨39,v,false⟩)],4,p⟩⟩
abbrev jS:Option (List Nat×List Nat×Nat):=some ([1,2,4,5,6],[0,1,2,3],4)
theorem ATL (x:R FP2) (off n m:Nat) (xs:List Int):AS Tryz.prog oQ4 (some 0) 100 1 jS (Af Tryz.f339 (jQ x off n m) (Az xs) 1 [])=some ([(AJ .i64 n,true)],[],OJ off n m xs x (QT 1) (wI (wI (64*(n:Int))-1)) []):=by kernel_rfl
section
variable (off n m:Nat) (xs:List Int) (x v:R FP2) (i:Int)
theorem ATM:AS Tryz.prog oQ4 (some 0) 100 1 jS (OJ off n m xs x (av v) i [true,true])=some (Pj off n xs i true,[],OJ off n m xs x (av (mu FP2 (mu FP2 v v) x)) (wI (i-1)) []):=by kernel_rfl
theorem ATN:AS Tryz.prog oQ4 (some 0) 100 1 jS (OJ off n m xs x (av v) i [true,false])=some (Pj off n xs i false,[],OJ off n m xs x (av (mu FP2 v v)) (wI (i-1)) []):=by kernel_rfl
theorem ATO:AM Tryz.prog oQ4 Tryz.f339 100 1 [] (OJ off n m xs x (av v) i [false])=some ([(decide (0≤i),false)],[],va FP2 v,[]):=by kernel_rfl
end
theorem ATP (β:Env) (l:List Value) (h:AN β (QT 1) l):AN β (av (en (1:FP2):R FP2)) l:=Sh.rd_ok (r:=(en (1:FP2):R FP2)) (by kernel_rfl:rd (QT 1)=some (en (1:FP2):R FP2)) h
theorem pw2 (a:FP2) (k:Nat):pw a k*pw a k=pw a (k+k):=(Tp a k k).symm
theorem ATR {off n m:Nat} {xs:List Int} (hall:∀ d∈xs,0≤d∧d<18446744073709551616) (hlen:off+n≤xs.length) (hn:n≤1125899906842624) (x:R FP2) :
  Ad Tryz.prog 339 (jQ x off n m) (Az xs) 1 [] (ve (pw (mo x:FP2) (AF (AA xs off n)))) []:=by
 refine Av (path:=[]) Tryz.func339 (by kernel_rfl) (by kernel_rfl) fun β0 w0 hb=>?_
 refine Ae Xo AB (ATL x off n m xs) ⟨Nu hn,trivial⟩ (AL (by kernel_rfl)) hb (fun _ h=>by cases h) fun _=>?_
 generalize hE:AF (AA xs off n)=E at *
 have loop:∀ c,c≤64*n→ASafe Tryz.prog 339 β0 w0 (Ay β0 w0 [] (ve (pw (mo x:FP2) E)) []) Tryz.f339.ntmps [] (OJ off n m xs x (av (en (pw (mo x:FP2) (E / 2^c)):R FP2)) ((c:Int)-1) []):=by
  intro c
  induction c with
  | zero =>
   intro _
   have h:=As (w0:=w0) (W:=[]) (n:=Tryz.f339.ntmps) Xo AB Tryz.func339 (ATO off n m xs x (en (pw (mo x:FP2) E)) (((0:Nat):Int)-1)) ⟨rfl,trivial⟩ (AL (by kernel_rfl)) hb (fun _ h=>by cases h)
   rw [Nat.pow_zero,Nat.div_one]
   exact Ab [false] h
  | succ c ih =>
   intro hc
   have hi:((c+1:Nat):Int)-1=(c:Int):=by omega
   rw [hi]
   obtain ⟨hw,hjn,hv0,hr0,hbit⟩:=T' (off:=off) hall hn (c:=c) (by omega)
   obtain ⟨hq1,hq2⟩:=Pk xs off c
   rw [← hq1,hE] at hbit
   have hnext:wI ((c:Int)-1)=(c:Int)-1:=Am (by omega)
   have hconds:∀ Bs,decide (IG xs off c=1)=Bs→AQ (Pj off n xs c Bs):=by
    intro Bs hbt
    refine ⟨by simp,rfl,?_,?_,by simp,by simp only [decide_eq_true_eq];rw [hq2];exact ⟨hr0,hv0⟩,hbt,trivial⟩
    ·rw [hw];simp;omega
    ·rw [hw];simp;omega
   have hd:=UA E c
   have ihc:=ih (by omega)
   have e1:mu FP2 (en (pw (mo x:FP2) (E / 2^(c+1)))) (en (pw (mo x:FP2) (E / 2^(c+1))))=(en (pw (mo x:FP2) (2*(E / 2^(c+1)))):R FP2):=by
    unfold mu
    rw [mo_en,pw2,Nat.two_mul]
   rcases Nat.mod_two_eq_zero_or_one (E / 2^c) with h0 | h1
   ·refine Ab [true,false] (Ae Xo AB (ATN ..) (hconds false (by rw [hbit,h0];rfl)) (AL (by kernel_rfl)) hb (fun _ h=>by cases h) fun _=>?_)
    rw [hnext,e1,show 2*(E / 2^(c+1))=E / 2^c by omega]
    exact ihc
   ·have e2:mu FP2 (en (pw (mo x:FP2) (2*(E / 2^(c+1))))) x=(en (pw (mo x:FP2) (2*(E / 2^(c+1))+1)):R FP2):=by
     unfold mu
     rw [mo_en];rfl
    refine Ab [true,true] (Ae Xo AB (ATM ..) (hconds true (by rw [hbit,h1];rfl)) (AL (by kernel_rfl)) hb (fun _ h=>by cases h) fun _=>?_)
    rw [hnext,e1,e2,show 2*(E / 2^(c+1))+1=E / 2^c by omega]
    exact ihc
 have h0:=loop (64*n) (Nat.le_refl _)
 have hl:=XH hall hlen
 rw [hE] at hl
 rw [Nat.div_eq_of_lt hl] at h0
 have e3:wI (wI (64*(n:Int))-1)=((64*n:Nat):Int)-1:=by
  rw [Am (z:=64*(n:Int)) (by omega),Am (by omega)];omega
 rw [e3]
 refine Th ?_ h0
 exact ⟨rfl,rfl,rfl,fun β l h=>h,rfl,rfl,rfl,fun β l h=>h,rfl,rfl,rfl,fun β l h=>h,rfl,rfl,rfl,fun β l h=>ATP β l h,trivial⟩
noncomputable def jT (α:Type) [Sh α] (g:R α→List Int→AV):ASpec:=fun args H fr path =>
 match args with
 | [.val true a,S]=>match By S with
  | some (k,off,n)=>match (rd a:Option (R α)),AG H k with
   | some r,some ⟨_,cs,_⟩=>match Ao .u64 cs with
    | some xs=>some (A5 [k] 1 fr 0 [] (g r (AA xs off n)) [] [(Nat.ble (off+n) xs.length,true),(Nat.ble n 1125899906842624,true)] path)
    | none=>none
   | _,_=>none
  | none=>none
 | _=>none
theorem ATS {α:Type} [Sh α] {f:FuncId} {fn:Func} {g:R α→List Int→AV} (hfn:Tryz.prog.funcs[f]? = some fn) (hb:fn.body.isSome=true) (hname:(fn.name=="runtime.NumGoroutine")=false) (hk:∀ r l,Cu 1 0 [] (g r l) []=true)
  (h:∀ (off n m:Nat) (xs:List Int) (r:R α),(∀ d∈xs,0≤d∧d<18446744073709551616)→off+n≤xs.length→n≤1125899906842624→Ad Tryz.prog f [va α r,AI 0 off n m] (Az xs) 1 [] (g r (AA xs off n)) []):A6 Tryz.prog f (jT α g):=by
 refine CS hfn hb hname fun args H fr path r hs=>?_
 unfold jT at hs
 split at hs
 case h_2=>cases hs
 rename_i a S
 split at hs
 case h_2=>cases hs
 rename_i k off n hS
 split at hs
 case h_2=>cases hs
 rename_i q ty cs o hx hk'
 split at hs
 case h_2=>cases hs
 rename_i xs hxs
 injection hs with hs
 refine ⟨[k],1,0,[],_,_,_,path,hs.symm,fun β us w ha hg hc=>?_⟩
 obtain ⟨u1,us1,r1,⟨u2,us2,r2,ha,rfl⟩,rfl⟩:=ha
 obtain ⟨m,r2⟩:=DF hS r2
 obtain ⟨g1,g2,g3⟩:=HU hg hk' hxs
 exact ⟨[va α q,AI 0 off n m],Az xs,h off n m xs q g1 (Nat.le_of_ble_eq_true hc.1) (Nat.le_of_ble_eq_true hc.2.1),hk _ _,⟨u1,_,GC hx r1,⟨u2,us2,BS (by omega) rfl r2,ha,rfl⟩,rfl⟩,g2,g3⟩
theorem ABy (a:FP2) (k:Nat):∃ y,y=pw a k:=⟨_,rfl⟩
noncomputable def UH (a:FP2) (k:Nat):FP2:=Classical.choose (ABy a k)
theorem jU (a:FP2) (k:Nat):UH a k=pw a k:=Classical.choose_spec (ABy a k)
noncomputable def SQ4:List (FuncId×ASpec):=(339,jT FP2 fun r l=>ve (UH (mo r:FP2) (AF l)))::SQ3
theorem ABz:AX Tryz.prog SQ4:=⟨ATS Tryz.func339 (by kernel_rfl) (by kernel_rfl) (fun _ _=>by kernel_rfl) fun _ _ _ _ r hx hl hn=>by rw [jU];exact ATR hx hl hn r,ABx⟩
noncomputable abbrev oQ5:Orc:=AH SQ4 KQ
theorem jV:OrcOk Tryz.prog oQ5:=AK ABz DU
noncomputable def SQ5:List (FuncId×ASpec):=(340,BY Tryz.prog oQ5 Tryz.f340 100)::(341,BY Tryz.prog oQ5 Tryz.f341 100)::(236,BY Tryz.prog oQ5 Tryz.f236 100)::SQ4
theorem AB0:AX Tryz.prog SQ5:=⟨Bj jV AB Tryz.func340 (by kernel_rfl) (by kernel_rfl) 100,Bj jV AB Tryz.func341 (by kernel_rfl) (by kernel_rfl) 100,Bj jV AB Tryz.func236 (by kernel_rfl) (by kernel_rfl) 100,ABz⟩
noncomputable abbrev oQ6:Orc:=AH SQ5 KQ
theorem ATT:OrcOk Tryz.prog oQ6:=AK AB0 DU
noncomputable def SQ6:List (FuncId×ASpec):=(246,BY Tryz.prog oQ6 Tryz.f246 300)::SQ5
theorem AB1:AX Tryz.prog SQ6:=⟨Bj ATT AB Tryz.func246 (by kernel_rfl) (by kernel_rfl) 300,AB0⟩
noncomputable abbrev oQ7:Orc:=AH SQ6 KQ
theorem JA:OrcOk Tryz.prog oQ7:=AK AB1 DU
def UI:List Int:=AA RL 0 4
theorem AB2:AF UI=rN:=XL
section
variable (r:R P2) (x y:Nat) (i:Bool)
theorem ATU:AR Tryz.prog oQ7 Tryz.f257 [va P2 r] [true] 500=some (tt 4 [(decide (EH (mo r)=0),true)],BB (en (CM (AF UI) (mo r)):R P2).2.2):=by kernel_rfl
theorem ATV:AR Tryz.prog oQ7 Tryz.f257 [va P2 r] [false] 500=some (tt 4 [(decide (EH (mo r)=0),false)],.val false [.b false]):=by kernel_rfl
theorem ATW:AR Tryz.prog oQ7 Tryz.f191 [Ba x y i] [true] 500=some (tt 4 [(decide (FT (Ah x y i)=0),true)],BB (BL (Es (AF UI) (Ah x y i)))):=by kernel_rfl
theorem ATX:AR Tryz.prog oQ7 Tryz.f191 [Ba x y i] [false] 500=some (tt 4 [(decide (FT (Ah x y i)=0),false)],.val false [.b false]):=by kernel_rfl
end
theorem ATY (r:R P2):AU Tryz.prog 257 [va P2 r] (BB (BQ (mo r))):=by
 have h1:=ATU r
 have h2:=ATV r
 generalize (mo r:P2)=p at *
 unfold BQ
 cases ho:B3 p with
 | true =>
  have e:en (CM (AF UI) p)=(en (BH rN p):R P2):=by unfold CM;rw [if_pos ho,AB2]
  rw [e] at h1
  exact AW JA AB Tryz.func257 h1 (Ac 4 ⟨by unfold EH;rw [if_pos ho];rfl,trivial⟩) rfl
 | false=>exact C7 (AW JA AB Tryz.func257 h2 (Ac 4 ⟨by unfold EH;rw [if_neg (by rw [ho];exact Bool.false_ne_true)];rfl,trivial⟩) rfl) fun u hu=>It rfl hu
theorem ATZ (x y:Nat) (i:Bool):AU Tryz.prog 191 [Ba x y i] (BB (Bh (Ah x y i))):=by
 have h1:=ATW x y i
 have h2:=ATX x y i
 generalize Ah x y i=p at *
 unfold Bh
 cases ho:CA p with
 | true =>
  have e:Es (AF UI) p=BH rN p:=by unfold Es;rw [if_pos ho,AB2]
  rw [e] at h1
  exact AW JA AB Tryz.func191 h1 (Ac 4 ⟨by unfold FT;rw [if_pos ho];rfl,trivial⟩) rfl
 | false=>exact C7 (AW JA AB Tryz.func191 h2 (Ac 4 ⟨by unfold FT;rw [if_neg (by rw [ho];exact Bool.false_ne_true)];rfl,trivial⟩) rfl) fun u hu=>It rfl hu
def lwL:List Int:=[0xee7fbfffffffeaaa,0x7aaffffac54ffff,0xd9cc34a83dac3d89,0xd91dd2e13ce144af,0x92c6e9ed90d2eb35,0x680447a8e5ff9a6]
def jW:List Int:=[0xdcff7fffffffd555,0xf55ffff58a9ffff,0xb39869507b587b12,0xb23ba5c279c2895f,0x258dd3db21a5d66b,0xd0088f51cbff34d]
theorem ATa:AF (AA lwL 0 6)=(pN-3) / 4:=by kernel_rfl
theorem ATb:AF (AA jW 0 6)=(pN-1) / 2:=by kernel_rfl
noncomputable def gF (r:R FP2):R FP2:=en (UH (mo r:FP2) (AF (AA lwL 0 6)))
noncomputable def OK (r:R FP2):R FP2:=mu FP2 (gF r) r
noncomputable def OL (r:R FP2):R FP2:=mu FP2 (gF r) (OK r)
def jY:R FP2:=((0:Nat),(1:Nat))
section
variable (r:R FP2)
theorem ATc:AR Tryz.prog oQ7 Tryz.f308 [va FP2 r] [true] 500=some (tt 2 [(Bl (OL r) (ng FP2 (kk 1)),true)],va FP2 (mu FP2 (OK r) jY)):=by kernel_rfl
theorem ATd:AR Tryz.prog oQ7 Tryz.f308 [va FP2 r] [false] 500=some (tt 2 ((Bl (OL r) (ng FP2 (kk 1)),false)::tt 2 []),va FP2 (mu FP2 (en (UH (mo (ad FP2 (kk 1) (OL r)):FP2) (AF (AA jW 0 6)))) (OK r))):=by kernel_rfl
theorem ATe:AR Tryz.prog oQ7 Tryz.f309 [va FP2 r] [true] 300=some ([(dq (re FP r.1) 0,true)],Cq (ED r.2)):=by kernel_rfl
theorem ATf:AR Tryz.prog oQ7 Tryz.f309 [va FP2 r] [false] 300=some ([(dq (re FP r.1) 0,false)],Cq (ED r.1)):=by kernel_rfl
theorem ATg:AR Tryz.prog oQ7 Tryz.f258 [va FP2 r] [true] 300=some ([(dq (re FP r.2) 0,true)],BB (BE r.1)):=by kernel_rfl
theorem ATh:AR Tryz.prog oQ7 Tryz.f258 [va FP2 r] [false] 300=some ([(dq (re FP r.2) 0,false)],BB (BE r.2)):=by kernel_rfl
end
theorem AB4:(mo (kk 1):FP2)=1:=Qx.ext En tf_zero
theorem ATi:(mo jY:FP2)=uu:=Qx.ext tf_zero En
theorem AB5 (r:R FP2):gF r=en (KX (mo r:FP2)):=by unfold gF KX;rw [ATa,jU]
theorem jZ (r:R FP2):OK r=en (Dh (mo r:FP2)):=by unfold OK Dh;rw [AB5];unfold mu;rw [mo_en]
theorem AB6 (r:R FP2):OL r=en (CD (mo r:FP2)):=by unfold OL CD;rw [AB5,jZ];unfold mu;rw [mo_en,mo_en]
theorem ATj:ng FP2 (kk 1)=(en (-1:FP2):R FP2):=by unfold ng;rw [AB4]
theorem AB7 (a:FP2):∃ y,y=FC a:=⟨_,rfl⟩
noncomputable def Xp (a:FP2):FP2:=Classical.choose (AB7 a)
theorem AB8 (a:FP2):Xp a=FC a:=Classical.choose_spec (AB7 a)
theorem ATk (r:R FP2):AU Tryz.prog 308 [va FP2 r] (ve (Xp (mo r:FP2))):=by
 rw [AB8]
 have h1:=ATc r
 have h2:=ATd r
 have ec:Bl (OL r) (ng FP2 (kk 1))=decide (CD (mo r:FP2)=-1):=by rw [AB6,ATj];exact N6 _ _
 rw [ec] at h1 h2
 unfold FC
 by_cases h:CD (mo r:FP2)=-1
 ·rw [if_pos h]
  have e:mu FP2 (OK r) jY=(en (Dh (mo r:FP2)*uu):R FP2):=by rw [jZ];unfold mu;rw [mo_en,ATi]
  rw [e] at h1
  exact AW JA AB Tryz.func308 h1 (Ac 2 ⟨decide_eq_true h,trivial⟩) rfl
 ·rw [if_neg h]
  have e:mu FP2 (en (UH (mo (ad FP2 (kk 1) (OL r)):FP2) (AF (AA jW 0 6)))) (OK r)=(en (pw (1+CD (mo r:FP2)) ((pN-1) / 2)*Dh (mo r:FP2)):R FP2):=by
   rw [jZ,AB6,ATb,jU]
   unfold mu ad
   rw [mo_en,mo_en,mo_en,AB4,mo_en]
  rw [e] at h2
  exact AW JA AB Tryz.func308 h2 (Ac 2 ⟨decide_eq_false h,Ac 2 trivial⟩) rfl
theorem ATl (r:R FP2):AU Tryz.prog 309 [va FP2 r] (Cq (BX (mo r))):=by
 have e:dq (re FP r.1) 0=decide ((mo r:FP2).a=0):=KY (mo r:FP2).a 0
 have h1:=ATe r
 have h2:=ATf r
 rw [ABe] at h1 h2
 unfold BX Dg
 by_cases h:(mo r:FP2).a=0
 ·rw [if_pos h]
  exact AW JA AB Tryz.func309 h1 ⟨by rw [e];exact decide_eq_true h,trivial⟩ rfl
 ·rw [if_neg h]
  exact AW JA AB Tryz.func309 h2 ⟨by rw [e];exact decide_eq_false h,trivial⟩ rfl
theorem ATm (r:R FP2):AU Tryz.prog 258 [va FP2 r] (BB (DH (mo r))):=by
 have e:dq (re FP r.2) 0=decide ((mo r:FP2).b=0):=KY (mo r:FP2).b 0
 have h1:=ATg r
 have h2:=ATh r
 unfold DH
 by_cases h:(mo r:FP2).b=0
 ·rw [if_pos h]
  rw [show BE r.1=BE (mo r:FP2).a.val from XN _] at h1
  exact AW JA AB Tryz.func258 h1 ⟨by rw [e];exact decide_eq_true h,trivial⟩ rfl
 ·rw [if_neg h]
  rw [show BE r.2=BE (mo r:FP2).b.val from XN _] at h2
  exact AW JA AB Tryz.func258 h2 ⟨by rw [e];exact decide_eq_false h,trivial⟩ rfl
noncomputable def SQ7:List (FuncId×ASpec):=(191,Aj (MH fun p=>BB (Bh p)))::(257,Aj (Bz P2 fun r=>BB (BQ (mo r))))::(308,Aj (Bz FP2 fun r=>ve (Xp (mo r:FP2))))::(309,Aj (Bz FP2 fun r=>Cq (BX (mo r))))::(258,Aj (Bz FP2 fun r=>BB (DH (mo r))))::SQ6
theorem AB9:AX Tryz.prog SQ7:=⟨Ak Tryz.func191 (by kernel_rfl) (by kernel_rfl) (P4 ATZ),Ak Tryz.func257 (by kernel_rfl) (by kernel_rfl) (CC ATY),Ak Tryz.func308 (by kernel_rfl) (by kernel_rfl) (CC ATk),Ak Tryz.func309 (by kernel_rfl) (by kernel_rfl) (CC ATl),Ak Tryz.func258 (by kernel_rfl) (by kernel_rfl) (CC ATm),AB1⟩
noncomputable abbrev oQ8:Orc:=AH SQ7 KQ
theorem j4:OrcOk Tryz.prog oQ8:=AK AB9 DU
noncomputable def rR (r:R FP2):R FP2:=en (Xp (mo r:FP2))
section
variable (r:R FP2)
theorem ATn:AR Tryz.prog oQ8 Tryz.f259 [va FP2 r] [true] 500=some ([(!Bl (mu FP2 (rR r) (rR r)) (re FP2 r),true)],Xf):=by kernel_rfl
theorem ATo:AR Tryz.prog oQ8 Tryz.f259 [va FP2 r] [false,true] 500=some ([(!Bl (mu FP2 (rR r) (rR r)) (re FP2 r),false),(decide (BX (mo (rR r))=1),true)],.tup [(true,av (ng FP2 (rR r))),(false,[.b true])]):=by kernel_rfl
theorem ATp:AR Tryz.prog oQ8 Tryz.f259 [va FP2 r] [false,false] 500=some ([(!Bl (mu FP2 (rR r) (rR r)) (re FP2 r),false),(decide (BX (mo (rR r))=1),false)],.tup [(true,av (rR r)),(false,[.b true])]):=by kernel_rfl
end
theorem ATq (r:R FP2):AU Tryz.prog 259 [va FP2 r] (Kv (mo r)):=by
 have h1:=ATn r
 have h2:=ATo r
 have h3:=ATp r
 unfold rR at h1 h2 h3
 rw [AB8] at h1 h2 h3
 have e:re FP2 r=en (mo r:FP2):=rfl
 rw [e] at h1 h2 h3
 generalize (mo r:FP2)=a at *
 rw [UG] at h1 h2 h3
 rw [jB] at h2 h3
 rw [jA] at h2
 by_cases h:FC a*FC a=a
 ·obtain ⟨q1,q2⟩:=AOt h
  have ht:(!decide (FC a*FC a=a))=false:=by rw [decide_eq_true h];rfl
  unfold Kv
  rw [← q1,q2]
  unfold I5
  cases hs:Dg (FC a) with
  | true =>
   rw [if_pos rfl]
   exact C7 (AW j4 AB Tryz.func259 h2 ⟨ht,hs,trivial⟩ rfl) fun u q=>Cy (fun _ q=>q) (fun _ q=>Xh rfl q) q
  | false =>
   rw [if_neg Bool.false_ne_true]
   exact C7 (AW j4 AB Tryz.func259 h3 ⟨ht,hs,trivial⟩ rfl) fun u q=>Cy (fun _ q=>q) (fun _ q=>Xh rfl q) q
 ·exact C7 (AW j4 AB Tryz.func259 h1 ⟨by rw [decide_eq_false h];rfl,trivial⟩ rfl) fun u q=>jG (AOu h) q
noncomputable def SQ8:List (FuncId×ASpec):=(259,Aj (Bz FP2 fun r=>Kv (mo r)))::SQ7
theorem AB_:AX Tryz.prog SQ8:=⟨Ak Tryz.func259 (by kernel_rfl) (by kernel_rfl) (CC ATq),AB9⟩
noncomputable abbrev oQ9:Orc:=AH SQ8 KQ
theorem ATr:OrcOk Tryz.prog oQ9:=AK AB_ DU
noncomputable def SQ9:List (FuncId×ASpec):=(193,BY Tryz.prog oQ9 Tryz.f193 3000)::SQ8
theorem HJ:AX Tryz.prog SQ9:=⟨Bj ATr AB Tryz.func193 (by kernel_rfl) (by kernel_rfl) 3000,AB_⟩
noncomputable abbrev Hq:Orc:=AH SQ9 KQ
def Ez (l:List Int) (f:Int):List Int:=l.set 0 (AO false .u8 (l.getD 0 0+f))
def IM (s i b:Bool) (B:List Int):List Int:=match s,i with
 | false,true=>Ez B 64
 | false,false=>B
 | true,true=>Ez (Ez B 128) 64
 | true,false=>if b=true then Ez (Ez B 128) 32 else Ez B 128
def fA (s i b:Bool) (f:Int):Int:=match s,i with
 | false,true=>AO false .u8 (f+64)
 | false,false=>f
 | true,true=>AO false .u8 (AO false .u8 (f+128)+64)
 | true,false=>if b=true then AO false .u8 (AO false .u8 (f+128)+32) else AO false .u8 (f+128)
def fA1 (s i b:Bool) (n:Nat):Bool:=decide (fA s i b n=fB s i b n)
theorem ATt (s i b:Bool):(List.range 32).all (fA1 s i b)=true:=by cases s<;>cases i<;>cases b<;>kernel_rfl
theorem ATu (s i b:Bool) {f:Int} (h0:0≤f) (h1:f<32):fA s i b f=fB s i b f:=by
 obtain ⟨n,rfl⟩:=Int.eq_ofNat_of_zero_le h0
 exact of_decide_eq_true (List.all_eq_true.1 (ATt s i b) n (List.mem_range.2 (by omega)))
theorem AB' (s i b:Bool) (f:Int) (t:List Int):IM s i b (f::t)=fA s i b f::t:=by cases s<;>cases i<;>cases b<;>rfl
theorem Xq (s i b:Bool) {x:Nat} (hx:x<pN) (r:List Nat):IM s i b (cat (x::r))=C_ s i b (cat (x::r)):=by
 obtain ⟨f,t,e,h0,h1⟩:=ABF hx r
 rw [e,AB',QM,ATu s i b h0 h1]
theorem Xr (s i b:Bool) {B:List Int} {k:Nat} (hk:0<k):(C_ s i b B).take k=C_ s i b (B.take k):=by
 obtain ⟨j,rfl⟩:∃ j,k=j+1:=⟨k-1,by omega⟩
 cases B with
 | nil=>cases s<;>cases i<;>cases b<;>rfl
 | cons f t=>rw [QM,List.take_succ_cons,List.take_succ_cons,QM]
noncomputable def Xs (s:Bool) (p:Pt FP):List Int:=match s with
 | true=>BK (Cz p % pN) 48
 | false=>b1 p
noncomputable def HK (s:Bool) (p:Pt FP):List Int:=IM s (BL p) (BE (BT p)) (Xs s p)
def OM (s:Bool):AV:=match s with
 | true=>.tup [(false,[.sx 3 48 1]),(false,[.n .i64 0])]
 | false=>.tup [(false,[.sx 5 96 1]),(false,[.n .i64 0])]
noncomputable def Xt (s:Bool) (p:Pt FP):Heap:=match s with
 | true=>[(3,some ⟨5,[.seq .u8 (HK true p)],true⟩)]
 | false=>[(5,some ⟨5,[.seq .u8 (HK false p)],true⟩)]
def Hr (k:Nat) (l:List Int):Heap:=[(k,some ⟨5,[.seq .u8 l],true⟩)]
section
variable (x y:Nat) (i:Bool)
noncomputable def ON (s:Bool) (p:List Bool):ASt:=Af Tryz.f120 [Ba x y i,.val false [.b s]] [] 0 p
theorem ATv (s:Bool):AM Tryz.prog Hq Tryz.f120 1200 0 [] (ON x y i s [true])=some ([(!Bh (Ah x y i),true)],[],Di 140,[]):=by cases s<;>kernel_rfl
theorem ATw:AM Tryz.prog Hq Tryz.f120 1200 0 [5] (ON x y i false [false,true,true,false,true])=some ((!Bh (Ah x y i),false)::tt 12 ((false,false)::(BL (Ah x y i),true)::tt 4 []),[],OM false,Hr 5 (Ez (b1 (Ah x y i)) 64)):=by kernel_rfl
theorem ATx:AM Tryz.prog Hq Tryz.f120 1200 0 [5] (ON x y i false [false,true,true,false,false])=some ((!Bh (Ah x y i),false)::tt 12 ((false,false)::[(BL (Ah x y i),false)]),[],OM false,Hr 5 (b1 (Ah x y i))):=by kernel_rfl
theorem ATy:AM Tryz.prog Hq Tryz.f120 1200 0 [3] (ON x y i true [false,true,false,true,false])=some ((!Bh (Ah x y i),false)::tt 8 ((false,false)::tt 4 ((BL (Ah x y i),true)::tt 4 [(BE (BT (Ah x y i)),false)])),[],OM true,Hr 3 (Ez (Ez (BK (Cz (Ah x y i) % pN) 48) 128) 64)):=by kernel_rfl
theorem ATz:AM Tryz.prog Hq Tryz.f120 1200 0 [3] (ON x y i true [false,true,false,false,true,true])=some ((!Bh (Ah x y i),false)::tt 8 ((false,false)::tt 4 ((BL (Ah x y i),false)::(BE (BT (Ah x y i)),true)::(!BL (Ah x y i),true)::tt 4 [])),[],OM true,Hr 3 (Ez (Ez (BK (Cz (Ah x y i) % pN) 48) 128) 32)):=by kernel_rfl
theorem AT0:AM Tryz.prog Hq Tryz.f120 1200 0 [3] (ON x y i true [false,true,false,false,false])=some ((!Bh (Ah x y i),false)::tt 8 ((false,false)::tt 4 ((BL (Ah x y i),false)::[(BE (BT (Ah x y i)),false)])),[],OM true,Hr 3 (Ez (BK (Cz (Ah x y i) % pN) 48) 128)):=by kernel_rfl
end
theorem AT1 (r:R (Pt FP)) (s:Bool) (h:Bh (mo r)=false):Ad Tryz.prog 120 [va (Pt FP) r,.val false [.b s]] [] 0 [] (Di 140) [] :=
 A2 HJ DU Tryz.func120 (by kernel_rfl) (by kernel_rfl) (ATv r.1 r.2.1 r.2.2 s) (by kernel_rfl) ⟨by rw [show Bh (Ah r.1 r.2.1 r.2.2)=false from h];rfl,trivial⟩
theorem AT2 {x y:Nat} {i s:Bool} (hin:Bh (Ah x y i)=true):Ad Tryz.prog 120 [Ba x y i,.val false [.b s]] [] 0 [] (OM s) (Xt s (Ah x y i)):=by
 have h1:=ATw x y i
 have h2:=ATx x y i
 have h3:=ATy x y i
 have h4:=ATz x y i
 have h5:=AT0 x y i
 unfold ON at *
 generalize Ah x y i=p at *
 have h0:(!Bh p)=false:=by rw [hin];rfl
 cases s with
 | false =>
  unfold Xt HK IM Xs
  cases hp:BL p with
  | true=>exact A2 HJ DU Tryz.func120 (by kernel_rfl) (by kernel_rfl) h1 (by kernel_rfl) ⟨h0,Ac 12 ⟨rfl,hp,Ac 4 trivial⟩⟩
  | false=>exact A2 HJ DU Tryz.func120 (by kernel_rfl) (by kernel_rfl) h2 (by kernel_rfl) ⟨h0,Ac 12 ⟨rfl,hp,trivial⟩⟩
 | true =>
  unfold Xt HK IM Xs
  cases hp:BL p with
  | true =>
   have hb:BE (BT p)=false:=by
    have:p=.inf:=by cases p with | inf=>rfl | pt a b=>cases hp
    rw [this];rfl
   exact A2 HJ DU Tryz.func120 (by kernel_rfl) (by kernel_rfl) h3 (by kernel_rfl) ⟨h0,Ac 8 ⟨rfl,Ac 4 ⟨hp,Ac 4 ⟨hb,trivial⟩⟩⟩⟩
  | false =>
   by_cases hb:BE (BT p)=true
   ·simp only [if_pos hb]
    exact A2 HJ DU Tryz.func120 (by kernel_rfl) (by kernel_rfl) h4 (by kernel_rfl) ⟨h0,Ac 8 ⟨rfl,Ac 4 ⟨hp,hb,by rw [hp];rfl,Ac 4 trivial⟩⟩⟩
   ·simp only [if_neg hb]
    exact A2 HJ DU Tryz.func120 (by kernel_rfl) (by kernel_rfl) h5 (by kernel_rfl) ⟨h0,Ac 8 ⟨rfl,Ac 4 ⟨hp,by simpa using hb,trivial⟩⟩⟩
noncomputable def UJ (s:Bool) (p:P2):List Int:=match s with
 | true=>I8 (rX p).2++I8 (rX p).1
 | false=>b2 p
noncomputable def Fu (s:Bool) (p:P2):List Int:=IM s (B7 p) (DH (D1 p)) (UJ s p)
def OO (s:Bool):AV:=match s with
 | true=>.tup [(false,[.sx 5 96 1]),(false,[.n .i64 0])]
 | false=>.tup [(false,[.sx 9 192 1]),(false,[.n .i64 0])]
noncomputable def Xu (s:Bool) (p:P2):Heap:=match s with
 | true=>Hr 5 (Fu true p)
 | false=>Hr 9 (Fu false p)
section
variable (r:R P2)
noncomputable def OP (s:Bool) (p:List Bool):ASt:=Af Tryz.f196 [va P2 r,.val false [.b s]] [] 0 p
theorem AT3 (s:Bool):AM Tryz.prog Hq Tryz.f196 2200 0 [] (OP r s [true])=some ([(!BQ (mo r),true)],[],Di 140,[]):=by cases s<;>kernel_rfl
theorem AT4:AM Tryz.prog Hq Tryz.f196 2200 0 [9] (OP r false [false,true,true,true,true,false,true])=some ((!BQ (mo r),false)::tt 24 ((false,false)::(B7 (mo r:P2),true)::tt 4 []),[],OO false,Hr 9 (Ez (b2 (mo r)) 64)):=by kernel_rfl
theorem AT5:AM Tryz.prog Hq Tryz.f196 2200 0 [9] (OP r false [false,true,true,true,true,false,false])=some ((!BQ (mo r),false)::tt 24 ((false,false)::[(B7 (mo r:P2),false)]),[],OO false,Hr 9 (b2 (mo r))):=by kernel_rfl
theorem AT6:AM Tryz.prog Hq Tryz.f196 2200 0 [5] (OP r true [false,true,true,false,true,false])=some ((!BQ (mo r),false)::tt 14 ((false,false)::tt 4 ((B7 (mo r:P2),true)::tt 4 [(MP (mo r),false)])),[],OO true,Hr 5 (Ez (Ez (UJ true (mo r)) 128) 64)):=by kernel_rfl
theorem AT7:AM Tryz.prog Hq Tryz.f196 2200 0 [5] (OP r true [false,true,true,false,false,true,true])=some ((!BQ (mo r),false)::tt 14 ((false,false)::tt 4 ((B7 (mo r:P2),false)::(MP (mo r),true)::(!B7 (mo r:P2),true)::tt 4 [])),[],OO true,Hr 5 (Ez (Ez (UJ true (mo r)) 128) 32)):=by kernel_rfl
theorem AT8:AM Tryz.prog Hq Tryz.f196 2200 0 [5] (OP r true [false,true,true,false,false,false])=some ((!BQ (mo r),false)::tt 14 ((false,false)::tt 4 ((B7 (mo r:P2),false)::[(MP (mo r),false)])),[],OO true,Hr 5 (Ez (UJ true (mo r)) 128)):=by kernel_rfl
end
theorem AT9 (r:R P2) (s:Bool) (h:BQ (mo r)=false):Ad Tryz.prog 196 [va P2 r,.val false [.b s]] [] 0 [] (Di 140) [] :=
 A2 HJ DU Tryz.func196 (by kernel_rfl) (by kernel_rfl) (AT3 r s) (by kernel_rfl) ⟨by rw [h];rfl,trivial⟩
theorem AT_ {r:R P2} {s:Bool} (hin:BQ (mo r)=true):Ad Tryz.prog 196 [va P2 r,.val false [.b s]] [] 0 [] (OO s) (Xu s (mo r)):=by
 have h1:=AT4 r
 have h2:=AT5 r
 have h3:=AT6 r
 have h4:=AT7 r
 have h5:=AT8 r
 have eb:∀ p,MP p=DH (D1 p):=fun p=>congrArg DH (mo_en (D1 p))
 rw [eb] at h3 h4 h5
 unfold OP at *
 generalize (mo r:P2)=p at *
 have h0:(!BQ p)=false:=by rw [hin];rfl
 cases s with
 | false =>
  unfold Xu Fu IM
  cases hp:B7 p with
  | true=>exact A2 HJ DU Tryz.func196 (by kernel_rfl) (by kernel_rfl) h1 (by kernel_rfl) ⟨h0,Ac 24 ⟨rfl,hp,Ac 4 trivial⟩⟩
  | false=>exact A2 HJ DU Tryz.func196 (by kernel_rfl) (by kernel_rfl) h2 (by kernel_rfl) ⟨h0,Ac 24 ⟨rfl,hp,trivial⟩⟩
 | true =>
  unfold Xu Fu IM
  cases hp:B7 p with
  | true =>
   have hb:DH (D1 p)=false:=by
    have:p=.inf:=by cases p with | inf=>rfl | pt a b=>cases hp
    rw [this]
    show DH 0=false
    unfold DH
    rw [if_pos (show (0:FP2).b=0 from rfl)];rfl
   exact A2 HJ DU Tryz.func196 (by kernel_rfl) (by kernel_rfl) h3 (by kernel_rfl) ⟨h0,Ac 14 ⟨rfl,Ac 4 ⟨hp,Ac 4 ⟨hb,trivial⟩⟩⟩⟩
  | false =>
   by_cases hb:DH (D1 p)=true
   ·simp only [if_pos hb]
    exact A2 HJ DU Tryz.func196 (by kernel_rfl) (by kernel_rfl) h4 (by kernel_rfl) ⟨h0,Ac 14 ⟨rfl,Ac 4 ⟨hp,hb,by rw [hp];rfl,Ac 4 trivial⟩⟩⟩
   ·simp only [if_neg hb]
    exact A2 HJ DU Tryz.func196 (by kernel_rfl) (by kernel_rfl) h5 (by kernel_rfl) ⟨h0,Ac 14 ⟨rfl,Ac 4 ⟨hp,by simpa using hb,trivial⟩⟩⟩
noncomputable def SQe:List (FuncId×ASpec):=(120,QJ (Pt FP) Bh OM Xt 6)::(196,QJ P2 BQ OO Xu 10)::SQ9
theorem AT':AX Tryz.prog SQe:=⟨XO Tryz.func120 (by kernel_rfl) (by kernel_rfl) (fun s _=>by cases s<;>kernel_rfl) AT1 (fun r _ h=>AT2 (x:=r.1) (y:=r.2.1) (i:=r.2.2) h),XO Tryz.func196 (by kernel_rfl) (by kernel_rfl) (fun s _=>by cases s<;>kernel_rfl) AT9 (fun _ _ h=>AT_ h),HJ⟩
end Go.Proofs.YtjlcdlekmpjjnaaGreat
namespace Go.Proofs.YtjlcdlekmpjjnaaGreat
open Ex Num Rg
set_option maxRecDepth 100000
set_option maxHeartbeats 4000000
section
variable (xs ls:List Int) (n m C:Nat) (i:Int) (big:Bool)
end
section
variable {xs ls:List Int} {n:Nat} {big:Bool} (hl:ls.length=n) (hn:0<n) (hm:n≤1000) {β0:Env} {w0:World} (hb:∀ b,1≤b→β0 b=none)
include hl hn hm hb
end
section
variable {xs ls:List Int} {big:Bool} {C:Nat} {β0:Env} {w0:World} (hb:∀ b,1≤b→β0 b=none)
include hb
end
noncomputable def SQf:List (FuncId×ASpec):=SQe
theorem AUA:AX Tryz.prog SQf:=AT'
end Go.Proofs.YtjlcdlekmpjjnaaGreat
namespace Go.Proofs.YtjlcdlekmpjjnaaGreat
open Ex Num Rg
open Sh (R av rd mo en mo_en)
set_option maxRecDepth 100000
set_option maxHeartbeats 4000000
section
variable (n m:Nat) (xs:List Int)
end
noncomputable def SQg:List (FuncId×ASpec):=SQf
theorem ACA:AX Tryz.prog SQg:=AUA
noncomputable def SQs:List (FuncId×ASpec):=(318,BY Tryz.prog (AH SQ2 KQ) Tryz.f318 300)::SQ2
theorem ACB:AX Tryz.prog SQs:=⟨Bj (AK Xm DU) AB Tryz.func318 (by kernel_rfl) (by kernel_rfl) 300,Xm⟩
noncomputable abbrev oQs:Orc:=AH SQs KQ
theorem Xv:OrcOk Tryz.prog oQs:=AK ACB DU
def e2 (a b:R FP2):Bool:=dq a.1 b.1&&dq a.2 b.2
noncomputable def sC (x y x' y':R FP2):R FP2:=mu FP2 (su FP2 (re FP2 y') (re FP2 y)) (iv FP2 (su FP2 (re FP2 x') (re FP2 x)))
noncomputable def sT (x y:R FP2):R FP2:=mu FP2 (mu FP2 (kk 3) (mu FP2 (re FP2 x) (re FP2 x))) (iv FP2 (mu FP2 (kk 2) (re FP2 y)))
noncomputable def aX (l x x':R FP2):R FP2:=su FP2 (su FP2 (mu FP2 l l) x) x'
noncomputable def aY (l x y X:R FP2):R FP2:=su FP2 (mu FP2 l (su FP2 x X)) y
noncomputable def aP (l x y x':R FP2):R P2:=(aX l x x',aY l x y (aX l x x'),false)
noncomputable def aL (l x y x':R FP2):AV:=.val true (CB (av (aX l x x')) (CB (av (aY l x y (aX l x x'))) [.b false]))
section
variable (r s:R P2) (x y x' y':R FP2)
theorem AUB:AR Tryz.prog oQs Tryz.f271 [va P2 r,va P2 s] [true] 300=some ([(r.2.2,true)],ve (mo s:P2)):=by kernel_rfl
theorem AUC:AR Tryz.prog oQs Tryz.f271 [va P2 r,va P2 s] [false,true] 300=some ([(r.2.2,false),(s.2.2,true)],ve (mo r:P2)):=by kernel_rfl
theorem AUD:AR Tryz.prog oQs Tryz.f271 [va P2 (x,y,false),va P2 (x',y',false)] [false,false,false] 300=some ([(false,false),(false,false),(e2 (re FP2 x) (re FP2 x'),false)],aL (sC x y x' y') x y x'):=by kernel_rfl
theorem AUE:AR Tryz.prog oQs Tryz.f271 [va P2 (x,y,false),va P2 (x',y',false)] [false,false,true,true] 300=some ([(false,false),(false,false),(e2 (re FP2 x) (re FP2 x'),true),(!e2 (re FP2 y) (re FP2 y'),true)],.val true (Bv true)):=by kernel_rfl
theorem AUF:AR Tryz.prog oQs Tryz.f271 [va P2 (x,y,false),va P2 (x',y',false)] [false,false,true,false,true] 300=some ([(false,false),(false,false),(e2 (re FP2 x) (re FP2 x'),true),(!e2 (re FP2 y) (re FP2 y'),false),(e2 (re FP2 y) (kk 0),true)],.val true (Bv true)):=by kernel_rfl
theorem AUG:AR Tryz.prog oQs Tryz.f271 [va P2 (x,y,false),va P2 (x',y',false)] [false,false,true,false,false] 300=some ([(false,false),(false,false),(e2 (re FP2 x) (re FP2 x'),true),(!e2 (re FP2 y) (re FP2 y'),false),(e2 (re FP2 y) (kk 0),false)],aL (sT x y) x y x'):=by kernel_rfl
end
theorem ACC (a b:FP2):e2 (en a) (en b)=decide (a=b):=by
 unfold e2
 by_cases h:a=b
 ·subst h
  rw [decide_eq_true rfl]
  exact Bool.and_eq_true_iff.2 ⟨decide_eq_true rfl,decide_eq_true rfl⟩
 ·rw [decide_eq_false h]
  cases hq:(dq (en a:R FP2).1 (en b:R FP2).1&&dq (en a:R FP2).2 (en b:R FP2).2) with
  | false=>rfl
  | true =>
   obtain ⟨h1,h2⟩:=Bool.and_eq_true_iff.1 hq
   exact absurd (Qx.ext (Fin.ext (of_decide_eq_true h1)) (Fin.ext (of_decide_eq_true h2))) h
theorem AUH (l x y x':R FP2):aP l x y x'=en (Hh (mo x:FP2) (mo y) (mo x') (mo l)):=by
 unfold aP aY aX su mu
 simp only [mo_en]
 rfl
theorem AUI (x y x' y':R FP2):(mo (sC x y x' y'):FP2)=(mo y'-mo y)*FD.inv (mo x'-mo x):=by
 unfold sC mu su iv re
 simp only [mo_en]
theorem AUJ (y:FP2):(1+1)*y=y+y:=ring [y] (a:=(1+1)*y) (b:=y+y) (by kernel_rfl)
theorem AUK (x y:R FP2):(mo (sT x y):FP2)=(mo x*mo x+mo x*mo x+mo x*mo x)*FD.inv (mo y+mo y):=by
 unfold sT mu iv re
 simp only [mo_en,ABr,ABs,ABt,AUJ]
 rfl
theorem kk0:kk 0=en (0:FP2):=by kernel_rfl
theorem AUM (r s:R P2):AU Tryz.prog 271 [va P2 r,va P2 s] (ve (Rg.add (mo r:P2) (mo s))):=by
 have h1:=AUB r s
 have h2:=AUC r s
 obtain ⟨x,y,i⟩:=r
 obtain ⟨x',y',i'⟩:=s
 cases i with
 | true=>exact AW Xv AB Tryz.func271 h1 ⟨rfl,trivial⟩ rfl
 | false =>
  cases i' with
  | true=>exact AW Xv AB Tryz.func271 h2 ⟨rfl,rfl,trivial⟩ rfl
  | false =>
   have rc:=AUD x y x' y'
   have rn:=AUE x y x' y'
   have rz:=AUF x y x' y'
   have rt:=AUG x y x' y'
   have hE:∀ a b:R FP2,e2 (re FP2 a) (re FP2 b)=decide ((mo a:FP2)=mo b):=fun a b=>ACC _ _
   have hK:∀ a:R FP2,e2 (re FP2 a) (kk 0)=decide ((mo a:FP2)=0):=fun a=>by rw [kk0];exact ACC _ _
   simp only [hE,hK] at rc rn rz rt
   have hs:∀ {p c} {l:R FP2},AR Tryz.prog oQs Tryz.f271 [va P2 (x,y,false),va P2 (x',y',false)] p 300=some (c,aL l x y x')→AQ c→AU Tryz.prog 271 [va P2 (x,y,false),va P2 (x',y',false)] (ve (Hh (mo x:FP2) (mo y) (mo x') (mo l))):=fun {_ _ l} h hc=>by
    unfold ve
    rw [← AUH]
    exact D2 (α:=P2) (r:=aP l x y x') (AW Xv AB Tryz.func271 h hc rfl) (by kernel_rfl)
   have hz:∀ {p c},AR Tryz.prog oQs Tryz.f271 [va P2 (x,y,false),va P2 (x',y',false)] p 300=some (c,.val true (Bv true))→AQ c→AU Tryz.prog 271 [va P2 (x,y,false),va P2 (x',y',false)] (ve (.inf:P2)):=fun h hc=>D2 (α:=P2) (r:=(en (.inf:P2):R P2)) (AW Xv AB Tryz.func271 h hc rfl) (by kernel_rfl)
   show AU _ _ _ (ve (Rg.add (.pt (mo x:FP2) (mo y)) (.pt (mo x') (mo y'))))
   rw [N0]
   by_cases hx:(mo x:FP2)=mo x'
   ·rw [if_pos hx]
    by_cases hy:(mo y:FP2)=mo y'
    ·by_cases h0:(mo y:FP2)=0
     ·rw [if_neg (fun h=>h.2 h0)]
      exact hz rz ⟨rfl,rfl,decide_eq_true hx,by rw [decide_eq_true hy];rfl,decide_eq_true h0,trivial⟩
     ·rw [if_pos ⟨hy,h0⟩]
      rw [← AUK]
      exact hs rt ⟨rfl,rfl,decide_eq_true hx,by rw [decide_eq_true hy];rfl,decide_eq_false h0,trivial⟩
    ·rw [if_neg (fun h=>hy h.1)]
     exact hz rn ⟨rfl,rfl,decide_eq_true hx,by rw [decide_eq_false hy];rfl,trivial⟩
   ·rw [if_neg hx]
    rw [← AUI]
    exact hs rc ⟨rfl,rfl,decide_eq_false hx,trivial⟩
noncomputable def SQt:List (FuncId×ASpec):=(271,Aj (Dm P2 P2 fun r s=>ve (Rg.add (mo r:P2) (mo s))))::SQs
theorem ACD:AX Tryz.prog SQt:=⟨Ak Tryz.func271 (by kernel_rfl) (by kernel_rfl) (EG AUM),ACB⟩
theorem ACE (s i b:Bool) (B:List Int):(C_ s i b B).length=B.length:=by
 cases B with
 | nil=>cases s<;>cases i<;>cases b<;>rfl
 | cons f t=>rw [QM];rfl
theorem ACF (s i b:Bool) (B:List Int):(IM s i b B).length=B.length:=by
 cases B with
 | nil=>cases s<;>cases i<;>cases b<;>rfl
 | cons f t=>rw [AB'];rfl
theorem ACG (s:Bool) (p:Pt FP):Xs s p=cat ((l1 p).take (kS s)):=by
 cases s with
 | false=>exact UE p
 | true =>
  show BK (Cz p % pN) 48=BK (Cz p) 48++[]
  rw [Nat.mod_eq_of_lt (MF p),List.append_nil]
theorem ACH (s:Bool) (p:P2):UJ s p=cat ((l2 p).take (kT s)):=by
 cases s with
 | false=>exact iR p
 | true =>
  show I8 (rX p).2++I8 (rX p).1=BK (rX p).2 48++(BK (rX p).1 48++[])
  rw [QP (XT p).1,QP (XT p).2,List.append_nil]
theorem AUN (s:Bool) (p:Pt FP):(DZ s p).length=96:=by rw [XS,ACE,UE,OD];rfl
theorem AUO (s:Bool) (p:P2):(GD s p).length=192:=by rw [ABC,ACE,iR,OD];rfl
theorem AUP (s:Bool) (p:Pt FP):(HK s p).length=48*kS s:=by
 unfold HK
 rw [ACF,ACG,OD]
 cases s<;>rfl
theorem AUQ (s:Bool) (p:P2):(Fu s p).length=48*kT s:=by
 unfold Fu
 rw [ACF,ACH,OD]
 cases s<;>rfl
theorem AUR (s:Bool) (p:Pt FP):Hn (AA (DZ s p) 0 (48*kS s)) (AA (HK s p) 0 (48*kS s))=true:=by
 refine decide_eq_true ?_
 have hl:IM s (BL p) (BE (BT p)) (cat ((l1 p).take (kS s)))=C_ s (BL p) (BE (BT p)) (cat ((l1 p).take (kS s))):=by
  cases s
  ·exact Xq _ _ _ (MF p) [BT p]
  ·exact Xq _ _ _ (MF p) []
 show List.take (48*kS s) (DZ s p)=List.take (48*kS s) (HK s p)
 unfold HK
 rw [XS,UE,ACG,hl,Xr _ _ _ (by have:=Xa s;omega),Xr _ _ _ (by have:=Xa s;omega),QO,QO,List.take_take,Nat.min_self]
theorem AUS (s:Bool) (p:P2):Hn (AA (GD s p) 0 (48*kT s)) (AA (Fu s p) 0 (48*kT s))=true:=by
 refine decide_eq_true ?_
 have hl:IM s (B7 p) (DH (D1 p)) (cat ((l2 p).take (kT s)))=C_ s (B7 p) (DH (D1 p)) (cat ((l2 p).take (kT s))):=by
  cases s
  ·exact Xq _ _ _ (I2 p).b.isLt [(I2 p).a.val,(D1 p).b.val,(D1 p).a.val]
  ·exact Xq _ _ _ (I2 p).b.isLt [(I2 p).a.val]
 show List.take (48*kT s) (GD s p)=List.take (48*kT s) (Fu s p)
 unfold Fu
 rw [ABC,iR,ACH,hl,Xr _ _ _ (by have:=ABp s;omega),Xr _ _ _ (by have:=ABp s;omega),QO,QO,List.take_take,Nat.min_self]
section
variable (x y:Nat) (i:Bool)
end
section
variable (r:R P2)
end
end Go.Proofs.YtjlcdlekmpjjnaaGreat
namespace Go.Proofs.YtjlcdlekmpjjnaaGreat.Rg
open Num (Prime EP)
section
variable {F:Type} [FD F] (C:Cv F)
variable {C}
end
end Go.Proofs.YtjlcdlekmpjjnaaGreat.Rg
namespace Go.Proofs.YtjlcdlekmpjjnaaGreat
open Ex
set_option maxRecDepth 100000
set_option maxHeartbeats 4000000
theorem ACI (w:World):Calls Tryz.prog 103 #[.nilIface] w fun e w'=>e=.returned (.int .i64 0)∧w'=w:=by
 go_enter Tryz.func103,Tryz.ntmps103
 go_wp2
 exact ⟨rfl,_,results_tmp rfl _ _ _,rfl,rfl⟩
theorem ACJ (w:World):Calls Tryz.prog 103 #[.iface 33 (.int .i64 210)] w fun e w'=>e=.returned (.int .i64 210)∧w'=w:=by
 have hta:∀ (T:TypeId) (w:World),(Instr.typeAssert (.iface 33 (.int .i64 210)) T 33 true).run Tryz.prog w=.ok (.tuple #[.int .i64 210,.bool true]) w:=fun T w=>by
  simp [Instr.typeAssert,go_sem]
 have hnot:∀ (x:Bool) (w:World),(Op.unary .not (.bool x)).run Tryz.prog w=.ok (.bool (!x)) w:=fun _ _=>rfl
 go_enter Tryz.func103,Tryz.ntmps103
 go_wp2
 exact ⟨rfl,_,results_tmp rfl _ _ _,rfl,rfl⟩
theorem AUT (p q:Value) (w:World):CallsD Tryz.prog 102 #[p,q] .returning w fun e u' w'=>e=.returned (.tuple #[])∧u'=.returning∧w'=w:=by
 refine callsD_of_wpS Tryz.func102 rfl fun c₀ cs hu=>?_
 apply wpS_seq
 apply wpS_region
 simp [wpOpsS,go_sem,recoverD,hu,Tryz.ntmps102,Exit.thenS]
 refine (ACI w).mono ?_
 rintro e w' ⟨rfl,rfl⟩
 show Code.wpS Tryz.prog _ _ _ _ _
 apply wpS_seq
 apply wpS_region
 simp [wpOpsS,go_sem,Exit.thenS]
 refine wpS_cond (t:=false) (by simp [Act.eval,Array.replicate]) ?_
 simp only [Bool.false_eq_true,if_false]
 refine wpS_of_wp (wp_skip ?_)
 cases c₀
 simp_all [bodyPostS,results,Tryz.results102]
theorem AUU (p q:Addr) (x y:Value) (w:World) (hp:w.cell? p=some x) (hfp:w.frozen? p=false) (hq:w.cell? q=some y) (hfq:w.frozen? q=false) (hne:p.block≠q.block) :
  CallsD Tryz.prog 102 #[.pointer (some p),.pointer (some q)] (.panicking [{ v:=.iface 33 (.int .i64 210),recovered:=false }]) w fun e u' w' =>
   e=.returned (.tuple #[])∧u'=.panicking [{ v:=.iface 33 (.int .i64 210),recovered:=true }]∧w'=(w.setCell p (.slice none 0 0)).setCell q (.int .i64 210):=by
 refine callsD_of_wpS Tryz.func102 rfl fun c₀ cs hu=>?_
 apply wpS_seq
 apply wpS_region
 simp [wpOpsS,go_sem,recoverD,hu,Tryz.ntmps102,Exit.thenS]
 refine (ACJ w).mono ?_
 rintro e w' ⟨rfl,rfl⟩
 show Code.wpS Tryz.prog _ _ _ _ _
 apply wpS_seq
 apply wpS_region
 simp [wpOpsS,go_sem,Exit.thenS]
 refine wpS_cond (t:=true) (by simp [Act.eval,Array.replicate]) ?_
 simp only [if_true]
 apply wpS_region
 have e1:(w'.setCell p (.slice none 0 0)).cell? q=some y:=by rw [World.cell?_setCell_other (h:=fun h=>hne (congrArg Addr.block h))];exact hq
 have e2:(w'.setCell p (.slice none 0 0)).frozen? q=false:=by rw [World.frozen?_setCell];exact hfq
 simp [wpOpsS,go_sem,hp,hfp,e1,e2,bodyPostS,results,Tryz.results102]
theorem ACK (p q:Value) (w:World):CallsD Tryz.prog 166 #[p,q] .returning w fun e u' w'=>e=.returned (.tuple #[])∧u'=.returning∧w'=w:=by
 refine callsD_of_wpS Tryz.func166 rfl fun c₀ cs hu=>?_
 apply wpS_seq
 apply wpS_region
 simp [wpOpsS,go_sem,recoverD,hu,Tryz.ntmps166,Exit.thenS]
 refine (ACI w).mono ?_
 rintro e w' ⟨rfl,rfl⟩
 show Code.wpS Tryz.prog _ _ _ _ _
 apply wpS_seq
 apply wpS_region
 simp [wpOpsS,go_sem,Exit.thenS]
 refine wpS_cond (t:=false) (by simp [Act.eval,Array.replicate]) ?_
 simp only [Bool.false_eq_true,if_false]
 refine wpS_of_wp (wp_skip ?_)
 cases c₀
 simp_all [bodyPostS,results,Tryz.results166]
theorem AUV (p q:Addr) (x y:Value) (w:World) (hp:w.cell? p=some x) (hfp:w.frozen? p=false) (hq:w.cell? q=some y) (hfq:w.frozen? q=false) (hne:p.block≠q.block) :
  CallsD Tryz.prog 166 #[.pointer (some p),.pointer (some q)] (.panicking [{ v:=.iface 33 (.int .i64 210),recovered:=false }]) w fun e u' w' =>
   e=.returned (.tuple #[])∧u'=.panicking [{ v:=.iface 33 (.int .i64 210),recovered:=true }]∧w'=(w.setCell p (.slice none 0 0)).setCell q (.int .i64 210):=by
 refine callsD_of_wpS Tryz.func166 rfl fun c₀ cs hu=>?_
 apply wpS_seq
 apply wpS_region
 simp [wpOpsS,go_sem,recoverD,hu,Tryz.ntmps166,Exit.thenS]
 refine (ACJ w).mono ?_
 rintro e w' ⟨rfl,rfl⟩
 show Code.wpS Tryz.prog _ _ _ _ _
 apply wpS_seq
 apply wpS_region
 simp [wpOpsS,go_sem,Exit.thenS]
 refine wpS_cond (t:=true) (by simp [Act.eval,Array.replicate]) ?_
 simp only [if_true]
 apply wpS_region
 have e1:(w'.setCell p (.slice none 0 0)).cell? q=some y:=by rw [World.cell?_setCell_other (h:=fun h=>hne (congrArg Addr.block h))];exact hq
 have e2:(w'.setCell p (.slice none 0 0)).frozen? q=false:=by rw [World.frozen?_setCell];exact hfq
 simp [wpOpsS,go_sem,hp,hfp,e1,e2,bodyPostS,results,Tryz.results166]
end Go.Proofs.YtjlcdlekmpjjnaaGreat
namespace Go.Proofs.YtjlcdlekmpjjnaaGreat
open Ex Num Rg
open Sh (R av rd mo en mo_en)
set_option maxRecDepth 100000
set_option maxHeartbeats 4000000
def KV:List (TypeId×List (Option IntKind)):=(26,List.replicate 4 (some .u64))::KQ
theorem A9:Jo Tryz.prog KV:=⟨⟨by kernel_rfl,by kernel_rfl,by kernel_rfl⟩,DU⟩
def GF (x:Nat):AV:=.val true [.num 4 x]
def MZ (x:Nat):List Int:=(List.range 4).map (AE x)++[]
def R4:Nat:=115792089237316195423570985008687907853269984665640564039457584007913129639936
theorem Xw:R4=2^(64*4):=by decide
theorem AUW:Nat.blt rQ R4=true:=by kernel_rfl
theorem OQ:rN<R4:=by rw [rN_eq];exact A8.1 AUW
theorem j5:0<rN:=by rw [rN_eq];exact A8.1 (by kernel_rfl)
theorem j6 (x:Nat):x % rN<R4:=Nat.lt_trans (Nat.mod_lt _ j5) OQ
def wd4 (l:List Int):List Int:=(wl 5 (AF l % AF (AA RL 0 4))).take 4
theorem AUX (off n m:Nat) (xs:List Int):AM Tryz.prog oJn Tryz.f67 300 1 [] (Af Tryz.f67 [AI 0 off n m] (Az xs) 1 []) =
 some ([(Nat.ble (off+n) xs.length,true),(AJ .i64 n,true),(true,true),(true,true),(true,true),(true,true),(false,false),(true,true)],[],.val true [.seq .u64 (wd4 (AA xs off n))],[]):=by kernel_rfl
theorem AUY {off n m:Nat} {xs:List Int} (hl:off+n≤xs.length) (hn:n≤1125899906842624):Ad Tryz.prog 67 [AI 0 off n m] (Az xs) 1 [] (GF (AF (AA xs off n) % rN)) []:=by
 refine BU (A2 Xj BA Tryz.func67 (by kernel_rfl) (by kernel_rfl) (AUX off n m xs) (by kernel_rfl) ⟨Nat.ble_eq_true_of_le hl,Nu hn,rfl,rfl,rfl,rfl,rfl,rfl,trivial⟩) fun β u hu=>?_
 obtain ⟨l,q,rfl⟩:=hu
 refine ⟨l,AAI (β:=β) (k:=4) ?_ ?_,rfl⟩
 ·rw [← Xw];exact j6 _
 ·unfold wd4 at q
  rw [g0,XL] at q
  exact q
noncomputable def SVb1:List (FuncId×ASpec):=(67,Du (Tm fun _ l=>GF (AF l % rN)))::SJn
theorem ACM:AX Tryz.prog SVb1:=⟨EM (fT Tryz.func67 (by kernel_rfl) (by kernel_rfl) (fun _ _=>rfl) fun _ _ _ _ _ hl hn=>AUY hl hn),Xj⟩
noncomputable abbrev oVb1:Orc:=AH SVb1 KV
theorem AUZ:OrcOk Tryz.prog oVb1:=AK ACM A9
theorem UK {x:Nat} (h:x<R4):AF (AA (MZ x) 0 4)=x:=by
 have e:AA (MZ x) 0 4=wl 4 x:=by
  unfold AA MZ wl
  rw [List.append_nil,List.drop_zero,List.take_of_length_le (by simp)]
 rw [e,T4 (by rw [← Xw];exact h)]
theorem AUa (a:Nat):AR Tryz.prog oVb1 Tryz.f121 [GF a] [] 300=some (tt 2 [],GF (AF (AA (MZ a) 0 4) % rN)):=by kernel_rfl
theorem AUb {a:Nat} (h:a<R4):AU Tryz.prog 121 [GF a] (GF (a % rN)):=by
 have h1:=AW AUZ AB Tryz.func121 (AUa a) (Ac 2 trivial) rfl
 rw [UK h] at h1
 exact h1
def Xx (g:Nat→AV):List AV→Option AV
 | [.val true a]=>match CP 4 a with
  | some x=>some (g x)
  | none=>none
 | _=>none
theorem ACN {f:FuncId} {g:Nat→AV} (h:∀ x,x<R4→AU Tryz.prog f [GF x] (g x)):∀ args v,Xx g args=some v→AU Tryz.prog f args v:=by
 intro args v hs us w ha
 unfold Xx at hs
 split at hs
 case h_2=>cases hs
 rename_i a
 split at hs
 case h_2=>cases hs
 rename_i x hx
 injection hs with hs;subst hs
 obtain ⟨u1,us1,⟨l,q,rfl⟩,ha,rfl⟩:=ha
 obtain ⟨_,hlt⟩:=F1 hx q
 exact h x (by rw [Xw];exact hlt) _ w ⟨_,_,⟨l,EO hx q,rfl⟩,ha,rfl⟩
noncomputable def SVb2:List (FuncId×ASpec):=(121,Aj (Xx fun x=>GF (x % rN)))::SVb1
theorem Xy:AX Tryz.prog SVb2:=⟨Ak Tryz.func121 (by kernel_rfl) (by kernel_rfl) (ACN fun _ h=>AUb h),ACM⟩
noncomputable abbrev j7:Orc:=AH SVb2 KV
noncomputable def Bp (n N:Nat):Nat:=if n=32∧N<rN then N else 0
noncomputable def D5 (n N:Nat):Int:=if n=32 then (if N<rN then 0 else 61) else 60
noncomputable def IN (n N:Nat):AV:=.tup [(true,[.num 4 (Bp n N)]),(false,[.v (.int .i64 (D5 n N))])]
def ACO:List Ch:=[.n .u64 0,.n .u64 0,.n .u64 0,.n .u64 0]
def Xz (e:Int):AV:=.tup [(true,ACO),(false,[.n .i64 e])]
theorem X0 {β:Env} {v:Value} (h:Bn β true ACO v):Bn β true [.num 4 0] v:=by
 obtain ⟨l,q,rfl⟩:=h
 exact ⟨l,EO (k:=4) (x:=0) (by kernel_rfl) q,rfl⟩
theorem AUc (off n m:Nat) (xs:List Int):AM Tryz.prog j7 Tryz.f47 300 1 [] (Af Tryz.f47 [AI 0 off n m] (Au xs) 1 [true]) =
 some ([(AJ .i64 n,true),(!decide ((n:Int)=32),true)],[],Xz 60,[]):=by kernel_rfl
noncomputable def frC (off:Nat) (xs:List Int) (b:Bool):List (Bool×Bool):=[(true,true),(false,false),(Nat.ble (off+32) xs.length,true),(true,true),(true,true),(!decide (AT (AA xs off 32) % rN=AT (AA xs off 32)),b)]
theorem AUd (off m:Nat) (xs:List Int):AM Tryz.prog j7 Tryz.f47 300 1 [] (Af Tryz.f47 [AI 0 off 32 m] (Au xs) 1 [false,true])=some (frC off xs true,[],Xz 61,[]):=by kernel_rfl
theorem AUe (off m:Nat) (xs:List Int):AM Tryz.prog j7 Tryz.f47 300 1 [] (Af Tryz.f47 [AI 0 off 32 m] (Au xs) 1 [false,false]) =
 some (frC off xs false,[],.tup [(true,[.num 4 (AT (AA xs off 32))]),(false,[.n .i64 0])],[]):=by kernel_rfl
theorem AUf {off n m:Nat} {xs:List Int} (hl:off+n≤xs.length) (hn:AJ .i64 n=true) :
  Ad Tryz.prog 47 [AI 0 off n m] (Au xs) 1 [] (IN n (AT (AA xs off n))) []:=by
 have hmod:∀ N:Nat,decide (N % rN=N)=decide (N<rN):=fun N=>by
  by_cases h:N<rN
  ·rw [decide_eq_true h,decide_eq_true (Nat.mod_eq_of_lt h)]
  ·rw [decide_eq_false h,decide_eq_false fun e=>h (by rw [← e];exact Nat.mod_lt _ j5)]
 by_cases h:n=32
 ·subst h
  by_cases hN:AT (AA xs off 32)<rN
  ·refine BU (A2 Xy A9 Tryz.func47 (by kernel_rfl) (by kernel_rfl) (AUe off m xs) (by kernel_rfl) ⟨rfl,rfl,Nat.ble_eq_true_of_le hl,rfl,rfl,by rw [hmod,decide_eq_true hN];rfl,trivial⟩) fun β u hu=>?_
   unfold IN Bp D5
   rw [if_pos ⟨rfl,hN⟩,if_pos rfl,if_pos hN]
   exact Cy (fun _ q=>q) (fun _ q=>Df rfl q) hu
  ·refine BU (A2 Xy A9 Tryz.func47 (by kernel_rfl) (by kernel_rfl) (AUd off m xs) (by kernel_rfl) ⟨rfl,rfl,Nat.ble_eq_true_of_le hl,rfl,rfl,by rw [hmod,decide_eq_false hN];rfl,trivial⟩) fun β u hu=>?_
   unfold IN Bp D5
   rw [if_neg (fun q=>hN q.2),if_pos rfl,if_neg hN]
   exact Cy (fun _ q=>X0 q) (fun _ q=>Df rfl q) hu
 ·refine BU (A2 Xy A9 Tryz.func47 (by kernel_rfl) (by kernel_rfl) (AUc off n m xs) (by kernel_rfl) ⟨hn,by simp;omega,trivial⟩) fun β u hu=>?_
  unfold IN Bp D5
  rw [if_neg (fun q=>h q.1),if_neg h]
  exact Cy (fun _ q=>X0 q) (fun _ q=>Df rfl q) hu
noncomputable def SVb3:List (FuncId×ASpec):=(47,Du (Pm fun n l=>IN n (AT l)))::SVb2
theorem X1:AX Tryz.prog SVb3:=⟨EM (fS Tryz.func47 (by kernel_rfl) (by kernel_rfl) (fun _ _=>rfl) fun _ _ _ _ _ hl hn=>AUf hl hn),Xy⟩
noncomputable abbrev oVb3:Orc:=AH SVb3 KV
theorem ACQ:OrcOk Tryz.prog oVb3:=AK X1 A9
end Go.Proofs.YtjlcdlekmpjjnaaGreat
namespace Go.Proofs.YtjlcdlekmpjjnaaGreat
open Ex Num Rg
open Go.RowKit (Below)
open Sh (R av rd mo en mo_en)
set_option maxRecDepth 100000
set_option maxHeartbeats 4000000
def zN:Nat:=Int.toNat 0+18446744073709551616*(Int.toNat 0+18446744073709551616*(Int.toNat 0+18446744073709551616*(Int.toNat 0+18446744073709551616*0)))
theorem j8:zN=0:=by kernel_rfl
section
variable (n m:Nat) (xs:List Int)
noncomputable def X2 (p:List Bool):ASt:=Af Tryz.f104 [AI 0 0 n m] (Au xs) 1 p
noncomputable def j9 (r:List (Bool×Bool)):List (Bool×Bool):=(Nat.ble (0+n) xs.length,true)::(AJ .i64 n,true)::r
theorem AUg:AM Tryz.prog oVb3 Tryz.f104 300 1 [1] (X2 n m xs [false,false])=some (j9 n xs [(!decide (D5 n (AT (AA xs 0 n))=0),false),(decide (Bp n (AT (AA xs 0 n))=zN),false)],[],AI 1 0 4 4,[(1,some ⟨26,[.num 4 (Bp n (AT (AA xs 0 n)))],false⟩)]):=by kernel_rfl
noncomputable def EZ (x:Option (List (Bool×Bool)×List Nat×ASt)):ASt:=match x with | some (_,_,y)=>y | none=>⟨[],⟨[],[],0,[]⟩⟩
noncomputable def UL (p:List Bool):ASt:=EZ (C5 Tryz.prog oVb3 8 1 (X2 n m xs p))
theorem AUh:C5 Tryz.prog oVb3 8 1 (X2 n m xs [true])=some (j9 n xs [(!decide (D5 n (AT (AA xs 0 n))=0),true)],[],UL n m xs [true]):=by kernel_rfl
theorem AUi:C5 Tryz.prog oVb3 8 1 (X2 n m xs [false,true])=some (j9 n xs [(!decide (D5 n (AT (AA xs 0 n))=0),false),(decide (Bp n (AT (AA xs 0 n))=zN),true)],[],UL n m xs [false,true]):=by kernel_rfl
noncomputable def scI:List Item:=(UL 0 0 [] [true]).todo
theorem AUj:(UL n m xs [true]).todo=.code (.region (NW scI) (DR scI) false)::Jw scI:=by kernel_rfl
theorem AUk:(UL n m xs [false,true]).todo=.code (.region (NW scI) (DR scI) false)::Jw scI:=by kernel_rfl
end
noncomputable abbrev scO:Array Oper:=DR scI
theorem AUl {Q:Exit→Act→World→Prop} {a:Act} {w:World} (ht:17<a.tmps.size) (h:∀ a',a'.defers=a.defers→Q (.panic [{ v:=.iface 33 (.int .i64 210),recovered:=false }]) a' w):wpOps Tryz.prog scO Q [0,1] a w :=
 AGd (k:=.i64) (t:=17) (T:=33) (v:=.int .i64 210) (o0:=scO.getD 0 default) (o1:=scO.getD 1 default) (by kernel_rfl) (by kernel_rfl) (by kernel_rfl) (by kernel_rfl) (by kernel_rfl) (by kernel_rfl) (by kernel_rfl) (by kernel_rfl) ht h
noncomputable def Bm (n N:Nat):Bool:=decide (D5 n N=0)&&!decide (Bp n N=zN)
theorem Ma {n N:Nat}:Bm n N=true↔n=32∧N<rN∧N≠0:=by
 unfold Bm D5 Bp
 rw [j8]
 by_cases h1:n=32
 ·by_cases h2:N<rN
  ·by_cases h3:N=0<;>simp [h1,h2,h3]
  ·simp [h1,h2]
 ·simp [h1]
theorem AUm {n m:Nat} {xs:List Int} (hl:n≤xs.length) (hn:AJ .i64 n=true) (hk:Bm n (AT (AA xs 0 n))=true) :
  Ad Tryz.prog 104 [AI 0 0 n m] (Au xs) 1 [] (AI 1 0 4 4) [(1,some ⟨26,[.num 4 (Bp n (AT (AA xs 0 n)))],false⟩)]:=by
 unfold Bm at hk
 simp only [Bool.and_eq_true,Bool.not_eq_true',decide_eq_true_eq,decide_eq_false_iff_not] at hk
 exact A2 X1 A9 Tryz.func104 (by kernel_rfl) (by kernel_rfl) (AUg n m xs) (by kernel_rfl) ⟨Nat.ble_eq_true_of_le (by omega),hn,by rw [decide_eq_true hk.1];rfl,decide_eq_false hk.2,trivial⟩
noncomputable def errC:List PanicEntry:=[{ v:=.iface 33 (.int .i64 210),recovered:=false }]
theorem ACR {n m:Nat} {xs:List Int} (hl:n≤xs.length) (hn:AJ .i64 n=true) (hk:Bm n (AT (AA xs 0 n))=false):AGc Tryz.prog 104 [AI 0 0 n m] (Au xs) 1 errC:=by
 intro β us w ha hg hf
 have fin:∀ (y:ASt),y.todo=.code (.region (NW scI) (DR scI) false)::Jw scI→ASafe Tryz.prog 104 β w (fun e w'=>e=.panicked errC∧Below w.heap.size w w') Tryz.f104.ntmps [] y:=by
  intro y hy β' a w' hi _
  rw [hy]
  refine Safe.of_wpP Tryz.func104 (wp_region ?_)
  have hs:List.range (DR scI).size=[0,1]:=by kernel_rfl
  rw [hs]
  refine AUl (by rw [hi.sz];decide) fun a' ha'=>.inr ⟨errC,rfl,?_⟩
  rw [ha',hi.dfr]
  exact ⟨rfl,hi.os,hi.tape,hi.output,hi.size,fun k hk=>hi.frame k hk fun _ _ h=>by cases h⟩
 have hl':Nat.ble (0+n) xs.length=true:=Nat.ble_eq_true_of_le (by omega)
 by_cases he:D5 n (AT (AA xs 0 n))=0
 ·have hz:Bp n (AT (AA xs 0 n))=zN:=by
   unfold Bm at hk
   rw [decide_eq_true he] at hk
   simpa using hk
  refine PK (args:=[AI 0 0 n m]) (H:=Au xs) (k0:=1) (path:=[false,true]) Tryz.func104 (by kernel_rfl) (by kernel_rfl) ?_ ha hg hf
  exact HP ACQ AB (AUi n m xs) ⟨hl',hn,by rw [decide_eq_true he];rfl,decide_eq_true hz,trivial⟩ (AL (by kernel_rfl)) hf (fun _ h=>by cases h) fun _=>fin _ (AUk n m xs)
 ·refine PK (args:=[AI 0 0 n m]) (H:=Au xs) (k0:=1) (path:=[true]) Tryz.func104 (by kernel_rfl) (by kernel_rfl) ?_ ha hg hf
  exact HP ACQ AB (AUh n m xs) ⟨hl',hn,by rw [decide_eq_false he];rfl,trivial⟩ (AL (by kernel_rfl)) hf (fun _ h=>by cases h) fun _=>fin _ (AUj n m xs)
noncomputable def secSp:ASpec:=fun args H fr path=>match args with
 | [S]=>match I_ S with
  | some (k,n,m)=>match AG H k with
   | some ⟨_,cs,_⟩=>match Ao .u8 cs with
    | some xs=>some (A5 [k] 1 fr 1 [] (AI 1 0 4 4) [(1,some ⟨26,[.num 4 (Bp n (AT (AA xs 0 n)))],false⟩)] [(Nat.ble n xs.length,true),(Nat.ble n m,true),(AJ .i64 n,true),(Bm n (AT (AA xs 0 n)),true)] path)
    | none=>none
   | _=>none
  | none=>none
 | _=>none
theorem AUn:A6 Tryz.prog 104 secSp:=by
 refine CS Tryz.func104 (by kernel_rfl) (by kernel_rfl) fun args H fr path r hs=>?_
 unfold secSp at hs
 split at hs
 case h_2=>cases hs
 rename_i S
 split at hs
 case h_2=>cases hs
 rename_i k n m hS
 split at hs
 case h_2=>cases hs
 rename_i ty cs o hk'
 split at hs
 case h_2=>cases hs
 rename_i xs hxs
 injection hs with hs
 refine ⟨[k],1,1,[],_,_,_,path,hs.symm,fun β us w ha hg hc=>?_⟩
 obtain ⟨u1,us1,r1,ha,rfl⟩:=ha
 obtain ⟨hl,hm,hn,hb,_⟩:=hc
 obtain ⟨m',_,r1⟩:=I' hS (Nat.le_of_ble_eq_true hm) r1
 obtain ⟨g1,g2,g3⟩:=Cx hg hk' hxs
 exact ⟨[AI 0 0 n m'],Au xs,AUm (Nat.le_of_ble_eq_true hl) hn hb,by kernel_rfl,⟨u1,_,BS (by omega) rfl r1,ha,rfl⟩,g2,g3⟩
noncomputable def SVc:List (FuncId×ASpec):=(104,secSp)::SVb3
theorem ACS:AX Tryz.prog SVc:=⟨AUn,X1⟩
noncomputable abbrev oVc:Orc:=AH SVc KV
theorem UM:OrcOk Tryz.prog oVc:=AK ACS A9
end Go.Proofs.YtjlcdlekmpjjnaaGreat
