/- Part 5 of the proof: Jl, Jm, Oh, Qa, Va, Vb, Vc, Vd, Ve, Vf, Da, Dz. -/
import Derived.Test.YtojnabmgolpodaaGreatPD
import Derived.Test.YtojnabmgolpodaaGreatPB
import Derived.Tactics
import Derived.Tactics2
import Derived.Recover
namespace Go.Proofs.YtojnabmgolpodaaGreat
open Ex Num Rg
open Sh (R av rd mo en mo_en)
set_option maxRecDepth 100000
set_option maxHeartbeats 4000000
def hfC:List Ch:=[.n .u64 0xdcff7fffffffd556,.n .u64 0xf55ffff58a9ffff,.n .u64 0xb39869507b587b12,.n .u64 0xb23ba5c279c2895f,.n .u64 0x258dd3db21a5d66b,.n .u64 0xd0088f51cbff34d]
def T4:Nat:=0x0d0088f51cbff34d258dd3db21a5d66bb23ba5c279c2895fb39869507b587b120f55ffff58a9ffffdcff7fffffffd556
theorem Y0:∃ n,n=T4:=⟨_,rfl⟩
noncomputable def DD:Nat:=Classical.choose Y0
theorem Y1:DD=T4:=Classical.choose_spec Y0
theorem AAI:AR Tryz.prog oJk Tryz.f135 [] [] 100=some ([],.val true hfC):=by kernel_rfl
theorem AAJ:AU Tryz.prog 135 [] (Ad DD):=by
 rw [Y1]
 exact Dp (AW T3 AE Tryz.func135 AAI trivial rfl) fun u ⟨l,q,e⟩=>⟨l,Dy (k:=6) (x:=T4) (by kernel_rfl) q,e⟩
theorem AAK:tf DD+tf DD=1:=by rw [Y1,← G0,← E6];exact tO (by kernel_rfl)
noncomputable def D8 (a:FP2):Int:=if CX a=true then 1 else 0
theorem AAL (a:FP2):decide (D8 a=1)=CX a:=by
 unfold D8
 cases CX a<;>rfl
theorem AAM (x:Nat):D0 x=if HA (tf x)=true then 1 else 0:=by
 unfold D0 HA
 have h:(tf x).val=x % pN:=rfl
 rw [h]
 rcases Nat.mod_two_eq_zero_or_one (x % pN) with e | e<;>rw [e]<;>rfl
theorem AAN (r:R FP2):AR Tryz.prog oJk Tryz.f136 [va FP2 r] [true] 300=some ([(dq (re FP r.1) 0,true)],CL (D0 r.2)):=by kernel_rfl
theorem AAO (r:R FP2):AR Tryz.prog oJk Tryz.f136 [va FP2 r] [false] 300=some ([(dq (re FP r.1) 0,false)],CL (D0 r.1)):=by kernel_rfl
theorem AAP (r:R FP2):AU Tryz.prog 136 [va FP2 r] (CL (D8 (mo r))):=by
 have e:dq (re FP r.1) 0=decide ((mo r:FP2).a=0):=JV (mo r:FP2).a 0
 have h1:=AAN r
 have h2:=AAO r
 rw [AAM] at h1 h2
 unfold D8 CX
 by_cases h:(mo r:FP2).a=0
 ·rw [if_pos h]
  exact AW T3 AE Tryz.func136 h1 ⟨by rw [e];exact decide_eq_true h,trivial⟩ rfl
 ·rw [if_neg h]
  exact AW T3 AE Tryz.func136 h2 ⟨by rw [e];exact decide_eq_false h,trivial⟩ rfl
noncomputable def SJl:List (FuncId×ASpec):=(135,Am (ev FP (Ad DD)))::(136,Am (DM FP2 fun r=>CL (D8 (mo r))))::SJk
theorem Y2:AS Tryz.prog SJl:=⟨Ap Tryz.func135 (by kernel_rfl) (by kernel_rfl) (Tc (α:=FP) AAJ),Ap Tryz.func136 (by kernel_rfl) (by kernel_rfl) (Du AAP),Tz⟩
noncomputable abbrev oJl:Orc:=AI SJl KH
noncomputable def tX (r:R FP2) (n:Nat):Nat:=CJ (mu FP (ad FP r.1 n) DD)
noncomputable def HF (r:R FP2) (n:Nat):Bool:=CC (mu FP (ad FP r.1 n) DD)
noncomputable def HG (r:R FP2):Bool:=CC (ng FP r.1)
noncomputable def D9 (r:R FP2) (n:Nat):R FP2:=(tX r n,CJ (ng FP r.1))
noncomputable def D_ (r:R FP2) (n:Nat):R FP2:=(tX r n,mu FP (mu FP r.2 DD) (iv FP (tX r n)))
noncomputable def Pg (n:Nat):List AV:=[va FP n,.val false [.p 0 0]]
noncomputable def Ph (r:R FP2):Heap:=[(0,some (CH (av r)))]
noncomputable def HH (r:R FP2) (n:Nat) (p:List Bool):=AP Tryz.prog oJl Tryz.f134 500 1 [] (Ak Tryz.f134 (Pg n) (Ph r) 1 p)
section
variable (r:R FP2) (n:Nat)
theorem AAR:HH r n [true,true,true]=some ([(dq (tX r n) 0,true),(decide (D8 (mo (D9 r n):FP2)=1),true),(HG r,true)],[],.tup [(true,av (ng FP2 (D9 r n))),(false,[.v (.bool (D4 (mu FP2 (ng FP2 (D9 r n)) (ng FP2 (D9 r n))) r))])],[]):=by kernel_rfl
theorem AAS:HH r n [true,true,false]=some ([(dq (tX r n) 0,true),(decide (D8 (mo (D9 r n):FP2)=1),true),(HG r,false)],[],.tup [(true,av (ng FP2 (D9 r n))),(false,[.b false])],[]):=by kernel_rfl
theorem AAT:HH r n [true,false,true]=some ([(dq (tX r n) 0,true),(decide (D8 (mo (D9 r n):FP2)=1),false),(HG r,true)],[],.tup [(true,av (D9 r n)),(false,[.v (.bool (D4 (mu FP2 (D9 r n) (D9 r n)) r))])],[]):=by kernel_rfl
theorem AAU:HH r n [true,false,false]=some ([(dq (tX r n) 0,true),(decide (D8 (mo (D9 r n):FP2)=1),false),(HG r,false)],[],.tup [(true,av (D9 r n)),(false,[.b false])],[]):=by kernel_rfl
theorem AAV:HH r n [false,true,true]=some ([(dq (tX r n) 0,false),(decide (D8 (mo (D_ r n):FP2)=1),true),(HF r n,true)],[],.tup [(true,av (ng FP2 (D_ r n))),(false,[.v (.bool (D4 (mu FP2 (ng FP2 (D_ r n)) (ng FP2 (D_ r n))) r))])],[]):=by kernel_rfl
theorem AAW:HH r n [false,true,false]=some ([(dq (tX r n) 0,false),(decide (D8 (mo (D_ r n):FP2)=1),true),(HF r n,false)],[],.tup [(true,av (ng FP2 (D_ r n))),(false,[.b false])],[]):=by kernel_rfl
theorem AAX:HH r n [false,false,true]=some ([(dq (tX r n) 0,false),(decide (D8 (mo (D_ r n):FP2)=1),false),(HF r n,true)],[],.tup [(true,av (D_ r n)),(false,[.v (.bool (D4 (mu FP2 (D_ r n) (D_ r n)) r))])],[]):=by kernel_rfl
theorem AAY:HH r n [false,false,false]=some ([(dq (tX r n) 0,false),(decide (D8 (mo (D_ r n):FP2)=1),false),(HF r n,false)],[],.tup [(true,av (D_ r n)),(false,[.b false])],[]):=by kernel_rfl
end
theorem IT {r:R FP2} {n:Nat} {p:List Bool} {conds:List (Bool×Bool)} {out:R FP2} {ok:Ch} (h:HH r n p=some (conds,[],.tup [(true,av out),(false,[ok])],[])) (hc:AN conds) {e:FP2} {t:Bool} (ho:out=en e) (hok:ok=.b t∨ok=.v (.bool t)) :
  Al Tryz.prog 134 (Pg n) (Ph r) 1 [] (.tup [(true,av (en e:R FP2)),(false,[.v (.bool t)])]) []:=by
 subst ho
 refine Be (Az Y2 Ao Tryz.func134 (by kernel_rfl) (by kernel_rfl) h (by kernel_rfl) hc) fun β u q=>?_
 refine CV (fun _ q=>q) (fun _ q=>?_) q
 rcases hok with e | e
 ·subst e
  obtain ⟨l1,l2,p1,p2,p3⟩:=q
  exact ⟨l1,l2,⟨p1,rfl,trivial⟩,p2,p3⟩
 ·subst e;exact q
noncomputable def hF:FP:=tf DD
theorem T5 (q:FP):CJ q.val=(DN q).val:=by
 unfold DN
 refine (H_ ?_).symm
 by_cases h:CC q.val=true
 ·exact (SH h).2.2
 ·unfold CJ;rw [if_neg h];exact B_
theorem Pi (x y:FP2):D4 (mu FP2 (en x) (en x)) (en y)=decide (x*x=y):=by
 have e:mu FP2 (en x) (en x)=(en (x*x):R FP2):=by unfold mu;rw [mo_en]
 rw [e]
 have e1:D4 (en (x*x)) (en y)=(decide ((x*x).a=y.a)&&decide ((x*x).b=y.b)):=by
  show (dq (x*x).a.val y.a.val&&dq (x*x).b.val y.b.val)=_
  rw [JV,JV]
 rw [e1]
 by_cases h:x*x=y
 ·rw [h,decide_eq_true rfl,decide_eq_true rfl,decide_eq_true rfl];rfl
 ·rw [decide_eq_false h]
  by_cases ha:(x*x).a=y.a
  ·by_cases hb:(x*x).b=y.b
   ·exact absurd (Qx.ext ha hb) h
   ·rw [decide_eq_false hb,Bool.and_false]
  ·rw [decide_eq_false ha,Bool.false_and]
section
variable (a:FP2) (n:Nat)
theorem Pj:tX (en a) n=(BV hF a (tf n)).val:=by
 have e:mu FP (ad FP (en a:R FP2).1 n) DD=((a.a+tf n)*hF:FP).val:=by
  unfold ad mu
  show (mo (en (mo a.a.val+mo n:FP))*mo DD:FP).val=_
  rw [mo_en]
  show ((tf a.a.val+tf n)*tf DD:FP).val=_
  rw [BK];rfl
 unfold tX BV
 rw [e];exact T5 _
theorem AAZ:HF (en a) n=EP ((a.a+tf n)*hF):=by
 have e:mu FP (ad FP (en a:R FP2).1 n) DD=((a.a+tf n)*hF:FP).val:=by
  unfold ad mu
  show (mo (en (mo a.a.val+mo n:FP))*mo DD:FP).val=_
  rw [mo_en]
  show ((tf a.a.val+tf n)*tf DD:FP).val=_
  rw [BK];rfl
 unfold HF EP
 rw [e]
theorem Y3:(ng FP (en a:R FP2).1:Nat)=(-a.a:FP).val:=by
 show (-(tf a.a.val):FP).val=_
 rw [BK]
theorem AAa:HG (en a)=EP (-a.a):=by
 unfold HG EP
 rw [Y3]
theorem AAb (h:BV hF a (tf n)=0):D9 (en a) n=(en (⟨BV hF a (tf n),F9 hF a (tf n)⟩:FP2):R FP2):=by
 unfold D9 F9
 rw [if_pos h,Pj,Y3,T5];rfl
theorem AAc (h:¬ BV hF a (tf n)=0):D_ (en a) n=(en (⟨BV hF a (tf n),F9 hF a (tf n)⟩:FP2):R FP2):=by
 have e:(mu FP (mu FP (en a:R FP2).2 DD) (iv FP (tX (en a) n)):Nat)=(a.b*hF*FD.inv (BV hF a (tf n)):FP).val:=by
  rw [Pj]
  unfold mu iv
  show (mo (en (mo a.b.val*mo DD:FP))*mo (en (FD.inv (mo (BV hF a (tf n)).val:FP))):FP).val=_
  rw [mo_en,mo_en]
  show (tf a.b.val*tf DD*FD.inv (tf (BV hF a (tf n)).val):FP).val=_
  rw [BK,BK];rfl
 unfold D_ F9
 rw [if_neg h,e,Pj];rfl
theorem AAd:dq (tX (en a) n) 0=decide (BV hF a (tf n)=0):=by
 rw [Pj]
 exact JV _ 0
noncomputable def T6:AV:=.tup [(true,av (en (EQ hF a (tf n)):R FP2)),(false,[.v (.bool (Cu hF a (tf n)))])]
theorem Y4 (o:FP2):ng FP2 (en o)=(en (-o):R FP2):=by unfold ng;rw [mo_en]
theorem Y5 (o:FP2):decide (D8 (mo (en o:R FP2):FP2)=1)=CX o:=by rw [mo_en];exact AAL o
theorem AAe:Al Tryz.prog 134 (Pg n) (Ph (en a)) 1 [] (T6 a n) []:=by
 unfold T6
 have hz:=AAd a n
 by_cases h:BV hF a (tf n)=0
 ·rw [decide_eq_true h] at hz
  have eo:=AAb a n h
  have ei:Cu hF a (tf n)=(HG (en a)&&decide (EQ hF a (tf n)*EQ hF a (tf n)=a)):=by unfold Cu;rw [if_pos h,AAa]
  have r1:=AAR (en a) n
  have r2:=AAS (en a) n
  have r3:=AAT (en a) n
  have r4:=AAU (en a) n
  rw [eo,Y5] at r1 r2 r3 r4
  rw [Y4] at r1 r2
  unfold EQ at *
  generalize hO:(⟨BV hF a (tf n),F9 hF a (tf n)⟩:FP2)=o at *
  rw [ei]
  unfold IJ
  cases hs:CX o with
  | true =>
   rw [if_pos rfl]
   cases hi:HG (en a) with
   | true=>exact IT r1 ⟨hz,hs,hi,trivial⟩ rfl (.inr (by rw [Pi,Bool.true_and]))
   | false=>exact IT r2 ⟨hz,hs,hi,trivial⟩ rfl (.inl (by rw [Bool.false_and]))
  | false =>
   rw [if_neg Bool.false_ne_true]
   cases hi:HG (en a) with
   | true=>exact IT r3 ⟨hz,hs,hi,trivial⟩ rfl (.inr (by rw [Pi,Bool.true_and]))
   | false=>exact IT r4 ⟨hz,hs,hi,trivial⟩ rfl (.inl (by rw [Bool.false_and]))
 ·rw [decide_eq_false h] at hz
  have eo:=AAc a n h
  have ei:Cu hF a (tf n)=(HF (en a) n&&decide (EQ hF a (tf n)*EQ hF a (tf n)=a)):=by unfold Cu;rw [if_neg h,AAZ]
  have r1:=AAV (en a) n
  have r2:=AAW (en a) n
  have r3:=AAX (en a) n
  have r4:=AAY (en a) n
  rw [eo,Y5] at r1 r2 r3 r4
  rw [Y4] at r1 r2
  unfold EQ at *
  generalize hO:(⟨BV hF a (tf n),F9 hF a (tf n)⟩:FP2)=o at *
  rw [ei]
  unfold IJ
  cases hs:CX o with
  | true =>
   rw [if_pos rfl]
   cases hi:HF (en a) n with
   | true=>exact IT r1 ⟨hz,hs,hi,trivial⟩ rfl (.inr (by rw [Pi,Bool.true_and]))
   | false=>exact IT r2 ⟨hz,hs,hi,trivial⟩ rfl (.inl (by rw [Bool.false_and]))
  | false =>
   rw [if_neg Bool.false_ne_true]
   cases hi:HF (en a) n with
   | true=>exact IT r3 ⟨hz,hs,hi,trivial⟩ rfl (.inr (by rw [Pi,Bool.true_and]))
   | false=>exact IT r4 ⟨hz,hs,hi,trivial⟩ rfl (.inl (by rw [Bool.false_and]))
end
noncomputable def trSp:ASpec:=fun args H fr path=>match args with
 | [.val true c,.val false [.p k 0]]=>match Bm 6 c,AF H k with
  | some n,some ⟨_,cs,_⟩=>match (rd cs:Option (R FP2)) with
   | some r=>some (Bg [k] 1 fr 0 [] (T6 (mo r) n) [] [(Br r,true)] path)
   | none=>none
  | _,_=>none
 | _=>none
theorem AAf:BN Tryz.prog 134 trSp:=by
 refine FV Tryz.func134 (by kernel_rfl) (by kernel_rfl) fun args H fr path r hs=>?_
 unfold trSp at hs
 split at hs
 case h_2=>cases hs
 rename_i c k
 split at hs
 case h_2=>cases hs
 rename_i n ty cs o hn hk'
 split at hs
 case h_2=>cases hs
 rename_i q hq
 injection hs with hs
 refine ⟨[k],Pg n,Ph q,1,0,[],_,_,_,path,hs.symm,fun β us w ha hg hc=>?_⟩
 obtain ⟨u1,us1,r1,⟨u2,us2,r2,ha,rfl⟩,rfl⟩:=ha
 have hr:=JW hc.1
 have h:=AAe (mo q) n
 rw [hr] at h
 refine ⟨h,by kernel_rfl,⟨u1,_,?_,⟨u2,us2,r2,ha,rfl⟩,rfl⟩,OD (c:=av q) hg hk' (fun l h=>Sh.rd_ok hq h),fun j hj=>?_⟩
 ·obtain ⟨l,q,rfl⟩:=r1;exact ⟨l,Dy hn q,rfl⟩
 ·match j,hj with
  | 0,_=>exact EL (hg.heap _ _ hk')
noncomputable def SJl2:List (FuncId×ASpec):=(134,trSp)::SJl
theorem AAg:AS Tryz.prog SJl2:=⟨AAf,Y2⟩
noncomputable abbrev oJl2:Orc:=AI SJl2 KH
theorem Pk:OrcOk Tryz.prog oJl2:=AM AAg Ao
noncomputable def EW (q:R FP2):Nat:=ad FP (mu FP q.1 q.1) (mu FP q.2 q.2)
def Y6:List Ch:=[.n .u64 0,.n .u64 0,.n .u64 0,.n .u64 0,.n .u64 0,.n .u64 0,.n .u64 0,.n .u64 0,.n .u64 0,.n .u64 0,.n .u64 0,.n .u64 0]
def T7:AV:=.tup [(true,Y6),(false,[.b false])]
noncomputable def Pl (q:R FP2) (n:Nat):AV:=.tup [(true,av (en (EQ hF (mo q) (tf n)):R FP2)),(false,[.b true])]
section
variable (r:R FP2)
theorem AAh:AR Tryz.prog oJl2 Tryz.f78 [va FP2 r] [true] 500=some ([(!CC (EW (re FP2 r)),true)],T7):=by kernel_rfl
theorem AAi:AR Tryz.prog oJl2 Tryz.f78 [va FP2 r] [false,true] 500=some ([(!CC (EW (re FP2 r)),false),(Br (re FP2 r),true),(Cu hF (mo (re FP2 r)) (tf (CJ (EW (re FP2 r)))),true)],Pl (re FP2 r) (CJ (EW (re FP2 r)))):=by kernel_rfl
theorem AAj:AR Tryz.prog oJl2 Tryz.f78 [va FP2 r] [false,false,true] 500=some ([(!CC (EW (re FP2 r)),false),(Br (re FP2 r),true),(Cu hF (mo (re FP2 r)) (tf (CJ (EW (re FP2 r)))),false),(Br (re FP2 r),true),(Cu hF (mo (re FP2 r)) (tf (ng FP (CJ (EW (re FP2 r))))),true)],Pl (re FP2 r) (ng FP (CJ (EW (re FP2 r))))):=by kernel_rfl
theorem AAk:AR Tryz.prog oJl2 Tryz.f78 [va FP2 r] [false,false,false] 500=some ([(!CC (EW (re FP2 r)),false),(Br (re FP2 r),true),(Cu hF (mo (re FP2 r)) (tf (CJ (EW (re FP2 r)))),false),(Br (re FP2 r),true),(Cu hF (mo (re FP2 r)) (tf (ng FP (CJ (EW (re FP2 r))))),false)],T7):=by kernel_rfl
end
theorem Y7 (a:FP2):EW (en a)=(Cw a).val:=by
 unfold EW ad mu Cw
 show (mo (en (mo a.a.val*mo a.a.val:FP))+mo (en (mo a.b.val*mo a.b.val:FP)):FP).val=_
 rw [mo_en,mo_en]
 show (tf a.a.val*tf a.a.val+tf a.b.val*tf a.b.val:FP).val=_
 rw [BK,BK]
noncomputable def LK (a:FP2):AV:=.tup [(true,av (en (HB a):R FP2)),(false,[.v (.bool (Dv a))])]
theorem AAl:(rd Y6:Option (R FP2))=some (en (0:FP2)):=by kernel_rfl
theorem Y8 {β β':Env} {b b':Bool} {u:Value} (e:b=b') (h:A9 β false [.b b] u):A9 β' false [.v (.bool b')] u:=by
 subst e
 obtain ⟨l1,l2,p1,p2,p3⟩:=h
 exact ⟨l1,l2,⟨p1,rfl,trivial⟩,p2,p3⟩
theorem Y9 {a:FP2} (hi:Dv a=false) {u:Value} (h:AH BY T7 u):AH BY (LK a) u:=by
 unfold LK
 rw [t9 hi,hi]
 exact CV (fun _ ⟨l,q,e⟩=>⟨l,Sh.rd_ok (α:=FP2) AAl q,e⟩) (fun _ q=>Y8 rfl q) h
theorem Y_ {a:FP2} {n:Nat} (ht:Cu hF a (tf n)=true) {u:Value} (h:AH BY (Pl (en a) n) u):AH BY (LK a) u:=by
 obtain ⟨h1,h2⟩:=uE ht
 unfold LK
 rw [← h1,h2]
 unfold Pl at h
 rw [mo_en] at h
 exact CV (fun _ q=>q) (fun _ q=>Y8 rfl q) h
theorem AAm (r:R FP2):AU Tryz.prog 78 [va FP2 r] (LK (mo r)):=by
 have h1:=AAh r
 have h2:=AAi r
 have h3:=AAj r
 have h4:=AAk r
 have e:re FP2 r=en (mo r:FP2):=rfl
 rw [e] at h1 h2 h3 h4
 generalize (mo r:FP2)=a at *
 rw [mo_en,Y7] at h2 h3 h4
 rw [Y7] at h1
 rw [T5,BK] at h2 h3 h4
 have en2:tf (ng FP (DN (Cw a)).val)=-DN (Cw a):=by
  show tf (-(tf (DN (Cw a)).val):FP).val=_
  rw [BK,BK]
 rw [en2] at h3 h4
 have hr:=JX a
 cases hi:EP (Cw a) with
 | false =>
  have hi':CC (Cw a).val=false:=hi
  exact Dp (AW Pk AE Tryz.func78 h1 ⟨by rw [hi'];rfl,trivial⟩ rfl) fun u q=>Y9 (uG hi) q
 | true =>
  have hi':(!CC (Cw a).val)=false:=by
   have:CC (Cw a).val=true:=hi
   rw [this];rfl
  cases ht:Cu hF a (DN (Cw a)) with
  | true =>
   refine Dp (AW Pk AE Tryz.func78 h2 ⟨hi',hr,ht,trivial⟩ rfl) fun u q=>?_
   exact Y_ (n:=(DN (Cw a)).val) (by rw [BK];exact ht) q
  | false =>
   cases ht2:Cu hF a (-DN (Cw a)) with
   | true =>
    refine Dp (AW Pk AE Tryz.func78 h3 ⟨hi',hr,ht,hr,ht2,trivial⟩ rfl) fun u q=>?_
    exact Y_ (n:=ng FP (DN (Cw a)).val) (by rw [en2];exact ht2) q
   | false=>exact Dp (AW Pk AE Tryz.func78 h4 ⟨hi',hr,ht,hr,ht2,trivial⟩ rfl) fun u q=>Y9 (uH AAK hi ht ht2) q
noncomputable def SJm:List (FuncId×ASpec):=(78,Am (DM FP2 fun r=>LK (mo r)))::SJk
theorem IU:AS Tryz.prog SJm:=⟨Ap Tryz.func78 (by kernel_rfl) (by kernel_rfl) (Du AAm),Tz⟩
noncomputable abbrev Di:Orc:=AI SJm KH
noncomputable def x2 (K:Nat) (L:List Int):R FP2:=(xN K 1 L,xN K 0 L)
noncomputable def z2 (L:List Int):R FP2:=(xN 4 3 L,xN 4 2 L)
noncomputable def DE (x:R FP2):R FP2:=en (HB (mo (ad FP2 (mu FP2 (mu FP2 x x) x) ((4:Nat),(4:Nat)))))
noncomputable def Y' (x:R FP2) (b:Bool):R FP2:=if (!(D5 (mo (DE x))==b))=true then ng FP2 (DE x) else DE x
noncomputable def HI (e:Int):AV:=.tup [(true,Cg false),(false,[.n .i64 e])]
noncomputable def M9 (x y:R FP2):AV:=.tup [(true,By (av x) (By (av y) [.b false])),(false,[.n .i64 0])]
section
variable (n m:Nat) (xs:List Int)
noncomputable def Dj (s:Bool) (p:List Bool):ASt:=Ak Tryz.f25 (IR n m s) (As xs) 1 p
theorem AAn:AP Tryz.prog Di Tryz.f25 800 1 [] (Dj n m xs true [true,true])=some (D7 n m xs (BG 2 true (AA xs 0 n)) false [(!decide (BM 2 true (AA xs 0 n)=0),true)],[],.tup [(true,Cg false),(false,[.v (.int .i64 (BM 2 true (AA xs 0 n)))])],[]):=by kernel_rfl
theorem AAo:AP Tryz.prog Di Tryz.f25 800 1 [] (Dj n m xs true [true,false,true])=some (D7 n m xs (BG 2 true (AA xs 0 n)) false ((!decide (BM 2 true (AA xs 0 n)=0),false)::tt 2 []),[],.tup [(true,Cg true),(false,[.n .i64 0])],[]):=by kernel_rfl
theorem AAp:AP Tryz.prog Di Tryz.f25 800 1 [] (Dj n m xs false [true,true])=some (D7 n m xs (BG 4 false (AA xs 0 n)) false [(!decide (BM 4 false (AA xs 0 n)=0),true)],[],.tup [(true,Cg false),(false,[.v (.int .i64 (BM 4 false (AA xs 0 n)))])],[]):=by kernel_rfl
theorem AAq:AP Tryz.prog Di Tryz.f25 800 1 [] (Dj n m xs false [true,false,true])=some (D7 n m xs (BG 4 false (AA xs 0 n)) false ((!decide (BM 4 false (AA xs 0 n)=0),false)::tt 2 []),[],.tup [(true,Cg true),(false,[.n .i64 0])],[]):=by kernel_rfl
noncomputable def IV (b:Bool) (r:List (Bool×Bool)):List (Bool×Bool):=D7 n m xs (BG 2 true (AA xs 0 n)) true ((true,true)::(false,false)::tt 2 ((!(D5 (mo (DE (x2 2 (AA xs 0 n))))==AY (AA xs 0 n) 32),b)::r))
noncomputable def Pm (r:List (Bool×Bool)):List (Bool×Bool):=D7 n m xs (BG 4 false (AA xs 0 n)) true ((true,true)::(false,false)::tt 4 r)
theorem AAr:AP Tryz.prog Di Tryz.f25 800 1 [] (Dj n m xs true [false,false,true,true])=some (IV n m xs true [(!Bk (mo ((x2 2 (AA xs 0 n)),ng FP2 (DE (x2 2 (AA xs 0 n))),false):P2),true)],[],HI 204,[]):=by kernel_rfl
theorem AAs:AP Tryz.prog Di Tryz.f25 800 1 [] (Dj n m xs true [false,false,true,false,true])=some (IV n m xs true [(!Bk (mo ((x2 2 (AA xs 0 n)),ng FP2 (DE (x2 2 (AA xs 0 n))),false):P2),false),(!DB (mo ((x2 2 (AA xs 0 n)),ng FP2 (DE (x2 2 (AA xs 0 n))),false):P2),true)],[],HI 205,[]):=by kernel_rfl
theorem AAt:AP Tryz.prog Di Tryz.f25 800 1 [] (Dj n m xs true [false,false,true,false,false])=some (IV n m xs true [(!Bk (mo ((x2 2 (AA xs 0 n)),ng FP2 (DE (x2 2 (AA xs 0 n))),false):P2),false),(!DB (mo ((x2 2 (AA xs 0 n)),ng FP2 (DE (x2 2 (AA xs 0 n))),false):P2),false)],[],M9 (x2 2 (AA xs 0 n)) (ng FP2 (DE (x2 2 (AA xs 0 n)))),[]):=by kernel_rfl
theorem AAu:AP Tryz.prog Di Tryz.f25 800 1 [] (Dj n m xs true [false,false,false,true])=some (IV n m xs false [(!Bk (mo ((x2 2 (AA xs 0 n)),DE (x2 2 (AA xs 0 n)),false):P2),true)],[],HI 204,[]):=by kernel_rfl
theorem AAv:AP Tryz.prog Di Tryz.f25 800 1 [] (Dj n m xs true [false,false,false,false,true])=some (IV n m xs false [(!Bk (mo ((x2 2 (AA xs 0 n)),DE (x2 2 (AA xs 0 n)),false):P2),false),(!DB (mo ((x2 2 (AA xs 0 n)),DE (x2 2 (AA xs 0 n)),false):P2),true)],[],HI 205,[]):=by kernel_rfl
theorem AAw:AP Tryz.prog Di Tryz.f25 800 1 [] (Dj n m xs true [false,false,false,false,false])=some (IV n m xs false [(!Bk (mo ((x2 2 (AA xs 0 n)),DE (x2 2 (AA xs 0 n)),false):P2),false),(!DB (mo ((x2 2 (AA xs 0 n)),DE (x2 2 (AA xs 0 n)),false):P2),false)],[],M9 (x2 2 (AA xs 0 n)) (DE (x2 2 (AA xs 0 n))),[]):=by kernel_rfl
theorem AAx:AP Tryz.prog Di Tryz.f25 800 1 [] (Dj n m xs false [false,false,true])=some (Pm n m xs [(!Bk (mo ((x2 4 (AA xs 0 n)),z2 (AA xs 0 n),false):P2),true)],[],HI 204,[]):=by kernel_rfl
theorem AAy:AP Tryz.prog Di Tryz.f25 800 1 [] (Dj n m xs false [false,false,false,true])=some (Pm n m xs [(!Bk (mo ((x2 4 (AA xs 0 n)),z2 (AA xs 0 n),false):P2),false),(!DB (mo ((x2 4 (AA xs 0 n)),z2 (AA xs 0 n),false):P2),true)],[],HI 205,[]):=by kernel_rfl
theorem AAz:AP Tryz.prog Di Tryz.f25 800 1 [] (Dj n m xs false [false,false,false,false])=some (Pm n m xs [(!Bk (mo ((x2 4 (AA xs 0 n)),z2 (AA xs 0 n),false):P2),false),(!DB (mo ((x2 4 (AA xs 0 n)),z2 (AA xs 0 n),false):P2),false)],[],M9 (x2 4 (AA xs 0 n)) (z2 (AA xs 0 n)),[]):=by kernel_rfl
end
noncomputable def T8 (p:P2):P2×Int:=if Bk p=true then (if DB p=true then (p,0) else (.pt 0 0,205)) else (.pt 0 0,204)
noncomputable def ZA (s:Bool) (L:List Int):P2:=match s with
 | true=>mo (x2 2 L,Y' (x2 2 L) (AY L 32),false)
 | false=>mo (x2 4 L,z2 L,false)
def kT (s:Bool):Nat:=match s with | true=>2 | false=>4
noncomputable def T9 (s:Bool) (L:List Int):P2×Int:=if BG (kT s) s L=true then T8 (ZA s L) else if BM (kT s) s L=0 then (.inf,0) else (.pt 0 0,BM (kT s) s L)
noncomputable def IW (q:P2×Int):AV:=M6 q.1 q.2
theorem ZB:(rd (Cg false):Option (R P2))=some (en (.pt 0 0:P2)):=by kernel_rfl
theorem AA0:(rd (Cg true):Option (R P2))=some (en (.inf:P2)):=by kernel_rfl
theorem T_ {β β':Env} {i:Bool} {p:P2} (h:(rd (Cg i):Option (R P2))=some (en p)) {u:Value} (hr:A9 β true (Cg i) u):A9 β' true (av (en p:R P2)) u:=by
 obtain ⟨l,q,e⟩:=hr
 exact ⟨l,Sh.rd_ok (α:=P2) h q,e⟩
theorem ZC {β:Env} {e:Int} {u:Value} (h:AH β (HI e) u):AH β (IW (.pt 0 0,e)) u:=CV (fun _ q=>T_ ZB q) (fun _ q=>DJ rfl q) h
theorem ZD {β:Env} {u:Value} (h:AH β (.tup [(true,Cg true),(false,[.n .i64 0])]) u):AH β (IW (.inf,0)) u:=CV (fun _ q=>T_ AA0 q) (fun _ q=>DJ rfl q) h
theorem ZE {β:Env} {e:Int} {u:Value} (h:AH β (.tup [(true,Cg false),(false,[.v (.int .i64 e)])]) u):AH β (IW (.pt 0 0,e)) u:=CV (fun _ q=>T_ ZB q) (fun _ q=>q) h
theorem AA1 (x y:R FP2):(rd (By (av x) (By (av y) [.b false])):Option (R P2))=some (x,y,false):=by kernel_rfl
theorem AA2 {β:Env} {x y:R FP2} (hx:Br x=true) (hy:Br y=true) {u:Value} (h:AH β (M9 x y) u):AH β (IW (mo (x,y,false),0)) u:=by
 have e:(en (mo (x,y,false):P2):R P2)=(x,y,false):=by
  show ((en (mo x:FP2):R FP2),(en (mo y:FP2):R FP2),false)=_
  rw [JW hx,JW hy]
 unfold IW M6
 simp only
 rw [e]
 exact CV (fun _ ⟨l,q,e⟩=>⟨l,Sh.rd_ok (α:=P2) (AA1 x y) q,e⟩) (fun _ q=>DJ rfl q) h
theorem T' {n m:Nat} {xs:List Int} {s:Bool} {x y:R FP2} (hx:Br x=true) (hy:Br y=true) {C:List (Bool×Bool)→List (Bool×Bool)} (hC:∀ r,AN r→AN (C r)) {p1 p2 p3:List Bool}
  (h1:AP Tryz.prog Di Tryz.f25 800 1 [] (Dj n m xs s p1)=some (C [(!Bk (mo (x,y,false)),true)],[],HI 204,[]))
  (h2:AP Tryz.prog Di Tryz.f25 800 1 [] (Dj n m xs s p2)=some (C [(!Bk (mo (x,y,false)),false),(!DB (mo (x,y,false)),true)],[],HI 205,[]))
  (h3:AP Tryz.prog Di Tryz.f25 800 1 [] (Dj n m xs s p3)=some (C [(!Bk (mo (x,y,false)),false),(!DB (mo (x,y,false)),false)],[],M9 x y,[])) :
  Al Tryz.prog 25 (IR n m s) (As xs) 1 [] (IW (T8 (mo (x,y,false)))) []:=by
 unfold T8
 cases ho:Bk (mo (x,y,false)) with
 | false =>
  rw [if_neg Bool.false_ne_true]
  exact Be (Az IU Ao Tryz.func25 (by kernel_rfl) (by kernel_rfl) h1 (by kernel_rfl) (hC _ ⟨by rw [ho];rfl,trivial⟩)) fun _ _ q=>ZC q
 | true =>
  rw [if_pos rfl]
  cases hi:DB (mo (x,y,false)) with
  | false =>
   rw [if_neg Bool.false_ne_true]
   exact Be (Az IU Ao Tryz.func25 (by kernel_rfl) (by kernel_rfl) h2 (by kernel_rfl) (hC _ ⟨by rw [ho];rfl,by rw [hi];rfl,trivial⟩)) fun _ _ q=>ZC q
  | true =>
   rw [if_pos rfl]
   exact Be (Az IU Ao Tryz.func25 (by kernel_rfl) (by kernel_rfl) h3 (by kernel_rfl) (hC _ ⟨by rw [ho];rfl,by rw [hi];rfl,trivial⟩)) fun _ _ q=>AA2 hx hy q
theorem UA {a b:Nat} (ha:a<pN) (hb:b<pN):Br ((a,b):R FP2)=true:=Bool.and_eq_true_iff.2 ⟨decide_eq_true ha,decide_eq_true hb⟩
theorem AA3 (x:R FP2):Br (DE x)=true:=JX _
theorem AA4 (x:R FP2):Br (ng FP2 x)=true:=JX _
theorem AA5 {n m:Nat} {xs:List Int} (hl:n≤xs.length) (hm:n≤m) (hn:AO .i64 n=true) (s:Bool):Al Tryz.prog 25 (IR n m s) (As xs) 1 [] (IW (T9 s (AA xs 0 n))) []:=by
 have hW:∀ (b d:Bool) r,b=d→AN r→AN (D7 n m xs b d r):=fun b d r h hr=>⟨Nat.ble_eq_true_of_le hl,Nat.ble_eq_true_of_le hm,hn,h,hr⟩
 unfold T9
 cases hr:BG (kT s) s (AA xs 0 n) with
 | false =>
  rw [if_neg Bool.false_ne_true]
  by_cases he:BM (kT s) s (AA xs 0 n)=0
  ·rw [if_pos he]
   cases s with
   | true=>exact Be (Az IU Ao Tryz.func25 (by kernel_rfl) (by kernel_rfl) (AAo n m xs) (by kernel_rfl) (hW _ _ _ hr ⟨Pf he,Bj 2 trivial⟩)) fun _ _ q=>ZD q
   | false=>exact Be (Az IU Ao Tryz.func25 (by kernel_rfl) (by kernel_rfl) (AAq n m xs) (by kernel_rfl) (hW _ _ _ hr ⟨Pf he,Bj 2 trivial⟩)) fun _ _ q=>ZD q
  ·rw [if_neg he]
   cases s with
   | true=>exact Be (Az IU Ao Tryz.func25 (by kernel_rfl) (by kernel_rfl) (AAn n m xs) (by kernel_rfl) (hW _ _ _ hr ⟨Pe he,trivial⟩)) fun _ _ q=>ZE q
   | false=>exact Be (Az IU Ao Tryz.func25 (by kernel_rfl) (by kernel_rfl) (AAp n m xs) (by kernel_rfl) (hW _ _ _ hr ⟨Pe he,trivial⟩)) fun _ _ q=>ZE q
 | true =>
  rw [if_pos rfl]
  cases s with
  | true =>
   have hx:Br (x2 2 (AA xs 0 n))=true:=UA (HE hr 1 (by decide)) (HE hr 0 (by decide))
   unfold ZA Y'
   by_cases hb:(!(D5 (mo (DE (x2 2 (AA xs 0 n))))==AY (AA xs 0 n) 32))=true
   ·simp only [if_pos hb]
    exact T' hx (AA4 _) (C:=IV n m xs true) (fun r hq=>hW _ _ _ hr ⟨rfl,rfl,Bj 2 ⟨hb,hq⟩⟩) (AAr n m xs) (AAs n m xs) (AAt n m xs)
   ·simp only [if_neg hb]
    exact T' hx (AA3 _) (C:=IV n m xs false) (fun r hq=>hW _ _ _ hr ⟨rfl,rfl,Bj 2 ⟨by simpa using hb,hq⟩⟩) (AAu n m xs) (AAv n m xs) (AAw n m xs)
  | false=>exact T' (UA (HE hr 1 (by decide)) (HE hr 0 (by decide))) (UA (HE hr 3 (by decide)) (HE hr 2 (by decide))) (C:=Pm n m xs) (fun r hq=>hW _ _ _ hr ⟨rfl,rfl,Bj 4 hq⟩) (AAx n m xs) (AAy n m xs) (AAz n m xs)
noncomputable def SJn:List (FuncId×ASpec):=(25,M8 fun s L=>IW (T9 s L))::SJm
theorem ZF:AS Tryz.prog SJn:=⟨Ty Tryz.func25 (by kernel_rfl) (by kernel_rfl) (fun _ _=>by kernel_rfl) fun _ _ _ s hl hm hn=>AA5 hl hm hn s,IU⟩
noncomputable abbrev oJn:Orc:=AI SJn KH
def KQ:List (TypeId×List (Option IntKind)):=(257,List.replicate 36 (some .u64))::KH
theorem AA7:GO Tryz.prog KQ:=⟨⟨by kernel_rfl,by kernel_rfl,by kernel_rfl⟩,Ao⟩
section
variable (r s:R P2)
end
section
variable (p:R J2) (q:R P2)
end
end Go.Proofs.YtojnabmgolpodaaGreat
namespace Go.Proofs.YtojnabmgolpodaaGreat
open Ex
set_option maxRecDepth 100000
set_option maxHeartbeats 4000000
theorem AA8 (w:World):Calls Tryz.prog 93 #[.nilIface] w fun e w'=>e=.returned (.int .i64 0)∧w'=w:=by
 go_enter Tryz.func93,Tryz.ntmps93
 go_wp2
 exact ⟨rfl,_,results_tmp rfl _ _ _,rfl,rfl⟩
theorem AA9 (w:World):Calls Tryz.prog 93 #[.iface 33 (.int .i64 210)] w fun e w'=>e=.returned (.int .i64 210)∧w'=w:=by
 have hta:∀ (T:TypeId) (w:World),(Instr.typeAssert (.iface 33 (.int .i64 210)) T 33 true).run Tryz.prog w=.ok (.tuple #[.int .i64 210,.bool true]) w:=fun T w=>by
  simp [Instr.typeAssert,go_sem]
 have hnot:∀ (x:Bool) (w:World),(Op.unary .not (.bool x)).run Tryz.prog w=.ok (.bool (!x)) w:=fun _ _=>rfl
 go_enter Tryz.func93,Tryz.ntmps93
 go_wp2
 exact ⟨rfl,_,results_tmp rfl _ _ _,rfl,rfl⟩
theorem AA_ (p q:Value) (w:World):CallsD Tryz.prog 92 #[p,q] .returning w fun e u' w'=>e=.returned (.tuple #[])∧u'=.returning∧w'=w:=by
 refine callsD_of_wpS Tryz.func92 rfl fun c₀ cs hu=>?_
 apply wpS_seq
 apply wpS_region
 simp [wpOpsS,go_sem,recoverD,hu,Tryz.ntmps92,Exit.thenS]
 refine (AA8 w).mono ?_
 rintro e w' ⟨rfl,rfl⟩
 show Code.wpS Tryz.prog _ _ _ _ _
 apply wpS_seq
 apply wpS_region
 simp [wpOpsS,go_sem,Exit.thenS]
 refine wpS_cond (t:=false) (by simp [Act.eval,Array.replicate]) ?_
 simp only [Bool.false_eq_true,if_false]
 refine wpS_of_wp (wp_skip ?_)
 cases c₀
 simp_all [bodyPostS,results,Tryz.results92]
theorem AA' (p q:Addr) (x y:Value) (w:World) (hp:w.cell? p=some x) (hfp:w.frozen? p=false) (hq:w.cell? q=some y) (hfq:w.frozen? q=false) (hne:p.block≠q.block) :
  CallsD Tryz.prog 92 #[.pointer (some p),.pointer (some q)] (.panicking [{ v:=.iface 33 (.int .i64 210),recovered:=false }]) w fun e u' w' =>
   e=.returned (.tuple #[])∧u'=.panicking [{ v:=.iface 33 (.int .i64 210),recovered:=true }]∧w'=(w.setCell p (.slice none 0 0)).setCell q (.int .i64 210):=by
 refine callsD_of_wpS Tryz.func92 rfl fun c₀ cs hu=>?_
 apply wpS_seq
 apply wpS_region
 simp [wpOpsS,go_sem,recoverD,hu,Tryz.ntmps92,Exit.thenS]
 refine (AA9 w).mono ?_
 rintro e w' ⟨rfl,rfl⟩
 show Code.wpS Tryz.prog _ _ _ _ _
 apply wpS_seq
 apply wpS_region
 simp [wpOpsS,go_sem,Exit.thenS]
 refine wpS_cond (t:=true) (by simp [Act.eval,Array.replicate]) ?_
 simp only [if_true]
 apply wpS_region
 have e1:(w'.setCell p (.slice none 0 0)).cell? q=some y:=by rw [World.cell?_setCell_other (h:=fun h=>hne (congrArg Addr.block h))];exact hq
 have e2:(w'.setCell p (.slice none 0 0)).frozen? q=false:=by rw [World.frozen?_setCell];exact hfq
 simp [wpOpsS,go_sem,hp,hfp,e1,e2,bodyPostS,results,Tryz.results92]
end Go.Proofs.YtojnabmgolpodaaGreat
namespace Go.Proofs.YtojnabmgolpodaaGreat
open Ex Num Rg
open Sh (R av rd mo en mo_en)
set_option maxRecDepth 100000
set_option maxHeartbeats 4000000
def KV:List (TypeId×List (Option IntKind)):=(26,List.replicate 4 (some .u64))::KQ
theorem EX:GO Tryz.prog KV:=⟨⟨by kernel_rfl,by kernel_rfl,by kernel_rfl⟩,AA7⟩
def IX (x:Nat):AV:=.val true [.num 4 x]
def M_ (x:Nat):List Int:=(List.range 4).map (AB x)++[]
def R4:Nat:=115792089237316195423570985008687907853269984665640564039457584007913129639936
theorem UB:R4=2^(64*4):=by decide
theorem ABA:Nat.blt rQ R4=true:=by kernel_rfl
theorem ZG:rN<R4:=by rw [rN_eq];exact BF.1 ABA
theorem ZH:0<rN:=by rw [rN_eq];exact BF.1 (by kernel_rfl)
theorem ABB (x:Nat):x % rN<R4:=Nat.lt_trans (Nat.mod_lt _ ZH) ZG
def ZI (l:List Int):List Int:=(wl 5 (AL l % AL (AA RL 0 4))).take 4
theorem ABC (off n m:Nat) (xs:List Int):AP Tryz.prog oJn Tryz.f57 300 1 [] (Ak Tryz.f57 [Ae 0 off n m] (BT xs) 1 []) =
 some ([(Nat.ble (off+n) xs.length,true),(AO .i64 n,true),(true,true),(true,true),(true,true),(true,true),(false,false),(true,true)],[],.val true [.seq .u64 (ZI (AA xs off n))],[]):=by kernel_rfl
theorem ABD {off n m:Nat} {xs:List Int} (hl:off+n≤xs.length) (hn:n≤1125899906842624):Al Tryz.prog 57 [Ae 0 off n m] (BT xs) 1 [] (IX (AL (AA xs off n) % rN)) []:=by
 refine Be (Az ZF Ao Tryz.func57 (by kernel_rfl) (by kernel_rfl) (ABC off n m xs) (by kernel_rfl) ⟨Nat.ble_eq_true_of_le hl,Sm hn,rfl,rfl,rfl,rfl,rfl,rfl,trivial⟩) fun β u hu=>?_
 obtain ⟨l,q,rfl⟩:=hu
 refine ⟨l,X9 (β:=β) (k:=4) ?_ ?_,rfl⟩
 ·rw [← UB];exact ABB _
 ·unfold ZI at q
  rw [TU,YU] at q
  exact q
noncomputable def SVb1:List (FuncId×ASpec):=(57,Ed (Om fun _ l=>IX (AL l % rN)))::SJn
theorem ZJ:AS Tryz.prog SVb1:=⟨FW (XU Tryz.func57 (by kernel_rfl) (by kernel_rfl) (fun _ _=>rfl) fun _ _ _ _ _ hl hn=>ABD hl hn),ZF⟩
noncomputable abbrev oVb1:Orc:=AI SVb1 KV
theorem ABE:OrcOk Tryz.prog oVb1:=AM ZJ EX
theorem ZK {x:Nat} (h:x<R4):AL (AA (M_ x) 0 4)=x:=by
 have e:AA (M_ x) 0 4=wl 4 x:=by
  unfold AA M_ wl
  rw [List.append_nil,List.drop_zero,List.take_of_length_le (by simp)]
 rw [e,TP (by rw [← UB];exact h)]
theorem ABF (a:Nat):AR Tryz.prog oVb1 Tryz.f102 [IX a] [] 300=some (tt 2 [],IX (AL (AA (M_ a) 0 4) % rN)):=by kernel_rfl
theorem ABG {a:Nat} (h:a<R4):AU Tryz.prog 102 [IX a] (IX (a % rN)):=by
 have h1:=AW ABE AE Tryz.func102 (ABF a) (Bj 2 trivial) rfl
 rw [ZK h] at h1
 exact h1
def UC (g:Nat→AV):List AV→Option AV
 | [.val true a]=>match Bm 4 a with
  | some x=>some (g x)
  | none=>none
 | _=>none
theorem ABH {f:FuncId} {g:Nat→AV} (h:∀ x,x<R4→AU Tryz.prog f [IX x] (g x)):∀ args v,UC g args=some v→AU Tryz.prog f args v:=by
 intro args v hs us w ha
 unfold UC at hs
 split at hs
 case h_2=>cases hs
 rename_i a
 split at hs
 case h_2=>cases hs
 rename_i x hx
 injection hs with hs;subst hs
 obtain ⟨u1,us1,⟨l,q,rfl⟩,ha,rfl⟩:=ha
 obtain ⟨_,hlt⟩:=Dk hx q
 exact h x (by rw [UB];exact hlt) _ w ⟨_,_,⟨l,Dy hx q,rfl⟩,ha,rfl⟩
noncomputable def SVb2:List (FuncId×ASpec):=(102,Am (UC fun x=>IX (x % rN)))::SVb1
theorem Pn:AS Tryz.prog SVb2:=⟨Ap Tryz.func102 (by kernel_rfl) (by kernel_rfl) (ABH fun _ h=>ABG h),ZJ⟩
noncomputable abbrev UD:Orc:=AI SVb2 KV
noncomputable def Cy (n N:Nat):Nat:=if n=32∧N<rN then N else 0
noncomputable def F' (n N:Nat):Int:=if n=32 then (if N<rN then 0 else 61) else 60
noncomputable def M' (n N:Nat):AV:=.tup [(true,[.num 4 (Cy n N)]),(false,[.v (.int .i64 (F' n N))])]
def ZL:List Ch:=[.n .u64 0,.n .u64 0,.n .u64 0,.n .u64 0]
def ZM (e:Int):AV:=.tup [(true,ZL),(false,[.n .i64 e])]
theorem ZN {β:Env} {v:Value} (h:A9 β true ZL v):A9 β true [.num 4 0] v:=by
 obtain ⟨l,q,rfl⟩:=h
 exact ⟨l,Dy (k:=4) (x:=0) (by kernel_rfl) q,rfl⟩
theorem ABI (off n m:Nat) (xs:List Int):AP Tryz.prog UD Tryz.f147 300 1 [] (Ak Tryz.f147 [Ae 0 off n m] (As xs) 1 [true]) =
 some ([(AO .i64 n,true),(!decide ((n:Int)=32),true)],[],ZM 60,[]):=by kernel_rfl
noncomputable def ZO (off:Nat) (xs:List Int) (b:Bool):List (Bool×Bool):=[(true,true),(false,false),(Nat.ble (off+32) xs.length,true),(true,true),(true,true),(!decide (Af (AA xs off 32) % rN=Af (AA xs off 32)),b)]
theorem ABJ (off m:Nat) (xs:List Int):AP Tryz.prog UD Tryz.f147 300 1 [] (Ak Tryz.f147 [Ae 0 off 32 m] (As xs) 1 [false,true])=some (ZO off xs true,[],ZM 61,[]):=by kernel_rfl
theorem ABK (off m:Nat) (xs:List Int):AP Tryz.prog UD Tryz.f147 300 1 [] (Ak Tryz.f147 [Ae 0 off 32 m] (As xs) 1 [false,false]) =
 some (ZO off xs false,[],.tup [(true,[.num 4 (Af (AA xs off 32))]),(false,[.n .i64 0])],[]):=by kernel_rfl
theorem ABL {off n m:Nat} {xs:List Int} (hl:off+n≤xs.length) (hn:AO .i64 n=true) :
  Al Tryz.prog 147 [Ae 0 off n m] (As xs) 1 [] (M' n (Af (AA xs off n))) []:=by
 have hmod:∀ N:Nat,decide (N % rN=N)=decide (N<rN):=fun N=>by
  by_cases h:N<rN
  ·rw [decide_eq_true h,decide_eq_true (Nat.mod_eq_of_lt h)]
  ·rw [decide_eq_false h,decide_eq_false fun e=>h (by rw [← e];exact Nat.mod_lt _ ZH)]
 by_cases h:n=32
 ·subst h
  by_cases hN:Af (AA xs off 32)<rN
  ·refine Be (Az Pn EX Tryz.func147 (by kernel_rfl) (by kernel_rfl) (ABK off m xs) (by kernel_rfl) ⟨rfl,rfl,Nat.ble_eq_true_of_le hl,rfl,rfl,by rw [hmod,decide_eq_true hN];rfl,trivial⟩) fun β u hu=>?_
   unfold M' Cy F'
   rw [if_pos ⟨rfl,hN⟩,if_pos rfl,if_pos hN]
   exact CV (fun _ q=>q) (fun _ q=>DJ rfl q) hu
  ·refine Be (Az Pn EX Tryz.func147 (by kernel_rfl) (by kernel_rfl) (ABJ off m xs) (by kernel_rfl) ⟨rfl,rfl,Nat.ble_eq_true_of_le hl,rfl,rfl,by rw [hmod,decide_eq_false hN];rfl,trivial⟩) fun β u hu=>?_
   unfold M' Cy F'
   rw [if_neg (fun q=>hN q.2),if_pos rfl,if_neg hN]
   exact CV (fun _ q=>ZN q) (fun _ q=>DJ rfl q) hu
 ·refine Be (Az Pn EX Tryz.func147 (by kernel_rfl) (by kernel_rfl) (ABI off n m xs) (by kernel_rfl) ⟨hn,by simp;omega,trivial⟩) fun β u hu=>?_
  unfold M' Cy F'
  rw [if_neg (fun q=>h q.1),if_neg h]
  exact CV (fun _ q=>ZN q) (fun _ q=>DJ rfl q) hu
noncomputable def SVb3:List (FuncId×ASpec):=(147,Ed (Ol fun n l=>M' n (Af l)))::SVb2
theorem UE:AS Tryz.prog SVb3:=⟨FW (XT Tryz.func147 (by kernel_rfl) (by kernel_rfl) (fun _ _=>rfl) fun _ _ _ _ _ hl hn=>ABL hl hn),Pn⟩
noncomputable abbrev oVb3:Orc:=AI SVb3 KV
theorem ZP:OrcOk Tryz.prog oVb3:=AM UE EX
end Go.Proofs.YtojnabmgolpodaaGreat
namespace Go.Proofs.YtojnabmgolpodaaGreat
open Ex Num Rg
open Go.RowKit (Below)
open Sh (R av rd mo en mo_en)
set_option maxRecDepth 100000
set_option maxHeartbeats 4000000
def zN:Nat:=Int.toNat 0+18446744073709551616*(Int.toNat 0+18446744073709551616*(Int.toNat 0+18446744073709551616*(Int.toNat 0+18446744073709551616*0)))
theorem ABM:zN=0:=by kernel_rfl
section
variable (n m:Nat) (xs:List Int)
noncomputable def Po (p:List Bool):ASt:=Ak Tryz.f94 [Ae 0 0 n m] (As xs) 1 p
noncomputable def UF (r:List (Bool×Bool)):List (Bool×Bool):=(Nat.ble (0+n) xs.length,true)::(AO .i64 n,true)::r
theorem ABN:AP Tryz.prog oVb3 Tryz.f94 300 1 [1] (Po n m xs [false,false])=some (UF n xs [(!decide (F' n (Af (AA xs 0 n))=0),false),(decide (Cy n (Af (AA xs 0 n))=zN),false)],[],Ae 1 0 4 4,[(1,some ⟨26,[.num 4 (Cy n (Af (AA xs 0 n)))],false⟩)]):=by kernel_rfl
noncomputable def UG (x:Option (List (Bool×Bool)×List Nat×ASt)):ASt:=match x with | some (_,_,y)=>y | none=>⟨[],⟨[],[],0,[]⟩⟩
noncomputable def NA (p:List Bool):ASt:=UG (GT Tryz.prog oVb3 8 1 (Po n m xs p))
theorem ABO:GT Tryz.prog oVb3 8 1 (Po n m xs [true])=some (UF n xs [(!decide (F' n (Af (AA xs 0 n))=0),true)],[],NA n m xs [true]):=by kernel_rfl
theorem ABP:GT Tryz.prog oVb3 8 1 (Po n m xs [false,true])=some (UF n xs [(!decide (F' n (Af (AA xs 0 n))=0),false),(decide (Cy n (Af (AA xs 0 n))=zN),true)],[],NA n m xs [false,true]):=by kernel_rfl
noncomputable def scI:List Item:=(NA 0 0 [] [true]).todo
theorem ABQ:(NA n m xs [true]).todo=.code (.region (L6 scI) (Dm scI) false)::KJ scI:=by kernel_rfl
theorem ABR:(NA n m xs [false,true]).todo=.code (.region (L6 scI) (Dm scI) false)::KJ scI:=by kernel_rfl
end
noncomputable abbrev scO:Array Oper:=Dm scI
theorem ABS {Q:Exit→Act→World→Prop} {a:Act} {w:World} (ht:17<a.tmps.size) (h:∀ a',a'.defers=a.defers→Q (.panic [{ v:=.iface 33 (.int .i64 210),recovered:=false }]) a' w):wpOps Tryz.prog scO Q [0,1] a w :=
 cJ (k:=.i64) (t:=17) (T:=33) (v:=.int .i64 210) (o0:=scO.getD 0 default) (o1:=scO.getD 1 default) (by kernel_rfl) (by kernel_rfl) (by kernel_rfl) (by kernel_rfl) (by kernel_rfl) (by kernel_rfl) (by kernel_rfl) (by kernel_rfl) ht h
noncomputable def EA (n N:Nat):Bool:=decide (F' n N=0)&&!decide (Cy n N=zN)
theorem ZQ {n N:Nat}:EA n N=true↔n=32∧N<rN∧N≠0:=by
 unfold EA F' Cy
 rw [ABM]
 by_cases h1:n=32
 ·by_cases h2:N<rN
  ·by_cases h3:N=0<;>simp [h1,h2,h3]
  ·simp [h1,h2]
 ·simp [h1]
theorem ABT {n m:Nat} {xs:List Int} (hl:n≤xs.length) (hn:AO .i64 n=true) (hk:EA n (Af (AA xs 0 n))=true) :
  Al Tryz.prog 94 [Ae 0 0 n m] (As xs) 1 [] (Ae 1 0 4 4) [(1,some ⟨26,[.num 4 (Cy n (Af (AA xs 0 n)))],false⟩)]:=by
 unfold EA at hk
 simp only [Bool.and_eq_true,Bool.not_eq_true',decide_eq_true_eq,decide_eq_false_iff_not] at hk
 exact Az UE EX Tryz.func94 (by kernel_rfl) (by kernel_rfl) (ABN n m xs) (by kernel_rfl) ⟨Nat.ble_eq_true_of_le (by omega),hn,by rw [decide_eq_true hk.1];rfl,decide_eq_false hk.2,trivial⟩
noncomputable def errC:List PanicEntry:=[{ v:=.iface 33 (.int .i64 210),recovered:=false }]
theorem ABU {n m:Nat} {xs:List Int} (hl:n≤xs.length) (hn:AO .i64 n=true) (hk:EA n (Af (AA xs 0 n))=false):cG Tryz.prog 94 [Ae 0 0 n m] (As xs) 1 errC:=by
 intro β us w ha hg hf
 have fin:∀ (y:ASt),y.todo=.code (.region (L6 scI) (Dm scI) false)::KJ scI→ASafe Tryz.prog 94 β w (fun e w'=>e=.panicked errC∧Below w.heap.size w w') Tryz.f94.ntmps [] y:=by
  intro y hy β' a w' hi _
  rw [hy]
  refine Safe.of_wpP Tryz.func94 (wp_region ?_)
  have hs:List.range (Dm scI).size=[0,1]:=by kernel_rfl
  rw [hs]
  refine ABS (by rw [hi.sz];decide) fun a' ha'=>.inr ⟨errC,rfl,?_⟩
  rw [ha',hi.dfr]
  exact ⟨rfl,hi.os,hi.tape,hi.output,hi.size,fun k hk=>hi.frame k hk fun _ _ h=>by cases h⟩
 have hl':Nat.ble (0+n) xs.length=true:=Nat.ble_eq_true_of_le (by omega)
 by_cases he:F' n (Af (AA xs 0 n))=0
 ·have hz:Cy n (Af (AA xs 0 n))=zN:=by
   unfold EA at hk
   rw [decide_eq_true he] at hk
   simpa using hk
  refine L0 (args:=[Ae 0 0 n m]) (H:=As xs) (k0:=1) (path:=[false,true]) Tryz.func94 (by kernel_rfl) (by kernel_rfl) ?_ ha hg hf
  exact Nz ZP AE (ABP n m xs) ⟨hl',hn,by rw [decide_eq_true he];rfl,decide_eq_true hz,trivial⟩ (AT (by kernel_rfl)) hf (fun _ h=>by cases h) fun _=>fin _ (ABR n m xs)
 ·refine L0 (args:=[Ae 0 0 n m]) (H:=As xs) (k0:=1) (path:=[true]) Tryz.func94 (by kernel_rfl) (by kernel_rfl) ?_ ha hg hf
  exact Nz ZP AE (ABO n m xs) ⟨hl',hn,by rw [decide_eq_false he];rfl,trivial⟩ (AT (by kernel_rfl)) hf (fun _ h=>by cases h) fun _=>fin _ (ABQ n m xs)
noncomputable def secSp:ASpec:=fun args H fr path=>match args with
 | [S]=>match LI S with
  | some (k,n,m)=>match AF H k with
   | some ⟨_,cs,_⟩=>match BE .u8 cs with
    | some xs=>some (Bg [k] 1 fr 1 [] (Ae 1 0 4 4) [(1,some ⟨26,[.num 4 (Cy n (Af (AA xs 0 n)))],false⟩)] [(Nat.ble n xs.length,true),(Nat.ble n m,true),(AO .i64 n,true),(EA n (Af (AA xs 0 n)),true)] path)
    | none=>none
   | _=>none
  | none=>none
 | _=>none
theorem ABV:BN Tryz.prog 94 secSp:=by
 refine Ek Tryz.func94 (by kernel_rfl) (by kernel_rfl) fun args H fr path r hs=>?_
 unfold secSp at hs
 split at hs
 case h_2=>cases hs
 rename_i S
 split at hs
 case h_2=>cases hs
 rename_i k n m hS
 split at hs
 case h_2=>cases hs
 rename_i ty cs o hk'
 split at hs
 case h_2=>cases hs
 rename_i xs hxs
 injection hs with hs
 refine ⟨[k],1,1,[],_,_,_,path,hs.symm,fun β us w ha hg hc=>?_⟩
 obtain ⟨u1,us1,r1,ha,rfl⟩:=ha
 obtain ⟨hl,hm,hn,hb,_⟩:=hc
 obtain ⟨m',_,r1⟩:=LJ hS (Nat.le_of_ble_eq_true hm) r1
 obtain ⟨g1,g2,g3⟩:=F0 hg hk' hxs
 exact ⟨[Ae 0 0 n m'],As xs,ABT (Nat.le_of_ble_eq_true hl) hn hb,by kernel_rfl,⟨u1,_,Db (by omega) rfl r1,ha,rfl⟩,g2,g3⟩
noncomputable def SVc:List (FuncId×ASpec):=(94,secSp)::SVb3
theorem ZR:AS Tryz.prog SVc:=⟨ABV,UE⟩
noncomputable abbrev oVc:Orc:=AI SVc KV
theorem NB:OrcOk Tryz.prog oVc:=AM ZR EX
theorem Pp {w:World} {B:Nat} {v:Value} {ty:TypeId} (h:w.heap[B]? = some (.cells #[v] ty (0,0))):w.cell? ⟨B,0,none⟩=some v∧w.frozen? ⟨B,0,none⟩=false:=by
 constructor
 ·simp [World.cell?,h]
 ·simp [World.frozen?,h]
theorem Pq {w:World} {a:Addr} {v:Value} {B:Nat} (h:B≠a.block):(w.setCell a v).heap[B]? = w.heap[B]?:=by
 simp only [World.setCell,Array.getElem?_modify]
 rw [if_neg (fun e=>h e.symm)]
theorem ZS (w:World) (a:Addr) (v:Value):(w.setCell a v).heap.size=w.heap.size∧(w.setCell a v).os=w.os∧(w.setCell a v).tape=w.tape∧(w.setCell a v).output=w.output:=by
 refine ⟨?_,rfl,rfl,rfl⟩
 simp [World.setCell]
theorem ZT {w:World} {B:Nat} {u v:Value} {ty:TypeId} (h:w.heap[B]? = some (.cells #[u] ty (0,0))):(w.setCell ⟨B,0,none⟩ v).heap[B]? = some (.cells #[v] ty (0,0)):=by
 simp [World.setCell,Array.getElem?_modify,h]
noncomputable def NC:Value:=.tuple #[.slice none 0 0,.int .i64 210]
theorem ABW {F:FuncId} {fnF:Func} (hF:Tryz.prog.funcs[F]? = some fnF) (hb:fnF.body.isSome=true) (hname:(fnF.name=="runtime.NumGoroutine")=false)
  (hcatch:∀ (p q:Addr) (x y:Value) (w:World),w.cell? p=some x→w.frozen? p=false→w.cell? q=some y→w.frozen? q=false→p.block≠q.block →
   CallsD Tryz.prog F #[.pointer (some p),.pointer (some q)] (.panicking [{ v:=.iface 33 (.int .i64 210),recovered:=false }]) w fun e u' w' =>
    e=.returned (.tuple #[])∧u'=.panicking [{ v:=.iface 33 (.int .i64 210),recovered:=true }]∧w'=(w.setCell p (.slice none 0 0)).setCell q (.int .i64 210))
  {fn:Func} {t1 t2:Tmp} {tmps:Array Value} {B1 B2:Nat} {ty1 ty2:TypeId} {R:Ending→World→Prop} {w:World} (hres:fn.results=#[.cell t1 28,.cell t2 33])
  (ht1:tmps.getD t1 undef=.pointer (some ⟨B1,0,none⟩)) (ht2:tmps.getD t2 undef=.pointer (some ⟨B2,0,none⟩)) (c1:w.heap[B1]? = some (.cells #[.slice none 0 0] ty1 (0,0))) (c2:w.heap[B2]? = some (.cells #[.int .i64 0] ty2 (0,0))) (hne:B1≠B2)
  (hR:∀ w',(∀ B,B≠B1→B≠B2→w'.heap[B]? = w.heap[B]?)→w'.heap.size=w.heap.size→w'.os=w.os→w'.tape=w.tape→w'.output=w.output→R (.returned NC) w') :
  Leaves Tryz.prog fn tmps R [{ target:=.fn (.func F) #[.pointer (some ⟨B1,0,none⟩),.pointer (some ⟨B2,0,none⟩)],args:=#[] }] (.panicking errC) w:=by
 obtain ⟨a1,f1⟩:=Pp c1
 obtain ⟨a2,f2⟩:=Pp c2
 have h1:fnF.name≠"runtime.NumGoroutine":=by simpa using hname
 have h2:¬ fnF.body=none:=by cases hq:fnF.body<;>simp [hq] at hb ⊢
 refine leaves_cons (f:=F) (args:=#[.pointer (some ⟨B1,0,none⟩),.pointer (some ⟨B2,0,none⟩)]) (by simp) (by simp [invoke,callFunc,hF,h1,h2]) ?_
 refine (hcatch ⟨B1,0,none⟩ ⟨B2,0,none⟩ _ _ w a1 f1 a2 f2 hne).mono ?_
 rintro e u' w' ⟨rfl,rfl,rfl⟩
 have c2':(w.setCell ⟨B1,0,none⟩ (.slice none 0 0)).heap[B2]? = some (.cells #[.int .i64 0] ty2 (0,0)):=(Pq fun e=>hne e.symm).trans c2
 have e2:=(Pp (ZT (v:=.int .i64 210) c2')).1
 have e1:=(Pp ((Pq (a:=⟨B2,0,none⟩) (v:=.int .i64 210) hne).trans (ZT (v:=.slice none 0 0) c1))).1
 obtain ⟨q1,q2,q3,q4⟩:=ZS (w.setCell ⟨B1,0,none⟩ (.slice none 0 0)) ⟨B2,0,none⟩ (.int .i64 210)
 obtain ⟨r1,r2,r3,r4⟩:=ZS w ⟨B1,0,none⟩ (.slice none 0 0)
 refine ⟨NC,?_,hR _ (fun B n1 n2=>by rw [Pq n2,Pq n1]) (q1.trans r1) (q2.trans r2) (q3.trans r3) (q4.trans r4)⟩
 rw [Array.getD_eq_getD_getElem?] at ht1 ht2
 simp [results,hres,ht1,ht2,go_sem,e1,e2,NC]
section
variable (n m:Nat) (xs:List Int) (p:List Bool)
noncomputable abbrev skF:Func:=Tryz.f31
noncomputable def ZU:ASt:=Ak skF [Ae 0 0 n m] (As xs) 1 p
noncomputable def Pr:ASt:=UG (GT Tryz.prog oVc 3 1 (ZU n m xs p))
noncomputable def skI:List Item:=(Pr 0 0 [] []).todo
noncomputable abbrev skO:Array Oper:=Dm skI
noncomputable def FB (x:Option (List Rec×St)):St:=match x with | some (_,s)=>s | none=>⟨[],[],0,[]⟩
noncomputable def LL (x:Option (List Rec×St)):List Rec:=match x with | some (r,_)=>r | none=>[]
noncomputable def IY:Option (List Rec×St):=Cc Tryz.prog oVc skO [skO.getD 0 default] 0 (Pr n m xs p).s
theorem ABX:GT Tryz.prog oVc 3 1 (ZU n m xs p)=some ([],[],Pr n m xs p):=by kernel_rfl
theorem ABY:(Pr n m xs p).todo=.code (.region (L6 skI) skO false)::KJ skI:=by kernel_rfl
theorem ABZ:IY n m xs p=some (LL (IY n m xs p),FB (IY n m xs p)):=by kernel_rfl
theorem ABa:GK (LL (IY n m xs p))=[]:=by kernel_rfl
theorem ABb:Dx (LL (IY n m xs p))=[]:=by kernel_rfl
theorem ABc:Aj (FB (IY n m xs p)).T 6=.val false [.clo 92 [(1,0),(2,0)]]:=by kernel_rfl
theorem UH:(FB (IY n m xs p)).fr=3:=by kernel_rfl
noncomputable def IZ:ASt:=⟨KJ skI,FB (IY n m xs p)⟩
end
theorem ZV {n m:Nat} {xs:List Int} (p:List Bool) {β:Env} {us:List Value} {w:World} {R:Ending→World→Prop} (ha:Ar β [Ae 0 0 n m] us) (hg:Ex.Good β (As xs) w) (hf:∀ b,1≤b→β b=none)
  (h:∀ (β':Env) (a:Act) (w':World) (A B:Nat) (m1 m2:Nat×Nat),β' 1=some (.at_ A m1)→β' 2=some (.at_ B m2)→(∀ b,3≤b→β' b=none) →
   Inv β w [] ⟨skF.ntmps,[{ target:=.fn (.func 92) #[.pointer (some ⟨A,m1.2+0,none⟩),.pointer (some ⟨B,m2.2+0,none⟩)],args:=#[] }]⟩ β' (Aj (IZ n m xs p).s.T) (IZ n m xs p).s.H a w' →
   Ex.Safe Tryz.prog 31 R (IZ n m xs p).todo a w'):Calls Tryz.prog 31 ⟨us⟩ w R:=by
 refine L0 (args:=[Ae 0 0 n m]) (H:=As xs) (k0:=1) (path:=p) Tryz.func31 (by kernel_rfl) (by kernel_rfl) ?_ ha hg hf
 refine Nz NB AE (ABX n m xs p) trivial (AT (by kernel_rfl)) hf (fun _ h=>by cases h) fun hw=>?_
 intro β' a w' hi hf'
 rw [ABY]
 refine Ex.Safe.of_wp (wp_region ?_)
 have hs:List.range skO.size=List.range' 0 [skO.getD 0 default].length++[1]:=by kernel_rfl
 rw [hs]
 refine RT NB (W:=[]) _ 0 _ _ _ β' a w' (fun j o hj=>?_) (ABZ n m xs p) (by rw [ABa];trivial) hi hf' hw.1 hw.2 (by rw [ABb];intro k hk;cases hk) ?_
 ·cases j with
  | zero=>injection hj with hj;subst hj;kernel_rfl
  | succ j=>simp at hj
 ·intro β2 a2 w2 hi2 hf2
  have hc:=hi2.tmp 6
  rw [ABc] at hc
  obtain ⟨ps,hp,hu⟩:=Ac hc
  obtain ⟨A,m1,B,m2,e1,e2,rfl⟩:=cK hp
  injection hu with hu _
  refine cI (o:=skO.getD 1 default) (c:=match (skO.getD 1 default).op with | .defer c=>c | _=>⟨.builtin .len,#[],#[]⟩) (t:=6) (by kernel_rfl) (by kernel_rfl) (by kernel_rfl) (by kernel_rfl) (by kernel_rfl) (by kernel_rfl) hu ⟨rfl,?_⟩
  exact h β2 _ w2 A B m1 m2 e1 e2 (fun b hb=>hf2 b (by rw [UH];exact hb)) hi2.push
theorem ZW {β:Env} {H:Heap} {w:World} {k ty A:Nat} {m:Nat×Nat} {c:Ch} {v:Value} (hg:Ex.Good β H w) (hk:AF H k=some ⟨ty,[c],false⟩) (hr:Nat.ble BB ty=false) (hA:β k=some (.at_ A m)) (hc:∀ l,Au β c l→l=[v]):w.heap[A]? = some (.cells #[v] ty (0,0))∧m.2=0:=by
 rcases If (hg.heap k _ hk) (HL hr) with ⟨B,n,l,t,e1,e2,e3,e4,_⟩ | ⟨e1,_⟩
 ·rw [hA] at e1
  injection e1 with e1;injection e1 with e1 e5
  subst e1;subst e5
  obtain ⟨l1,l2,q1,q2,q3⟩:=e2
  simp only [AG] at q2
  rw [e4 rfl,q3,q2,hc _ q1] at e3
  exact ⟨e3,rfl⟩
 ·rw [hA] at e1;cases e1
section
variable (n m:Nat) (xs:List Int) (p:List Bool)
noncomputable def Ps:ASt:=UG (GT Tryz.prog oVc 1 1 (IZ n m xs p))
noncomputable def skJ:List Item:=(Ps 0 0 [] []).todo
noncomputable def FC:Option (List Rec×St):=Cc Tryz.prog oVc (Dm skJ) [(Dm skJ).getD 0 default] 0 (Ps n m xs p).s
theorem ABd:GT Tryz.prog oVc 1 3 (IZ n m xs p)=some ([],[],Ps n m xs p):=by kernel_rfl
theorem ABe:(Ps n m xs p).todo=.code (.region (L6 skJ) (Dm skJ) false)::KJ skJ:=by kernel_rfl
theorem ABf:FC n m xs p=some (LL (FC n m xs p),FB (FC n m xs p)):=by kernel_rfl
theorem ABg:GK (LL (FC n m xs p))=[]:=by kernel_rfl
theorem ABh:Dx (LL (FC n m xs p))=[]:=by kernel_rfl
theorem ABi:Aj (FB (FC n m xs p)).T 8=Ae 0 0 n m:=by kernel_rfl
theorem ABj:Aj (FB (FC n m xs p)).T 2=.val false [.p 1 0]:=by kernel_rfl
theorem ABk:Aj (FB (FC n m xs p)).T 3=.val false [.p 2 0]:=by kernel_rfl
theorem ABl:AF (FB (FC n m xs p)).H 0=some (CH [.seq .u8 xs]):=by kernel_rfl
theorem ZX:AF (FB (FC n m xs p)).H 1=some ⟨28,[.v (.slice none 0 0)],false⟩:=by kernel_rfl
theorem ZY:AF (FB (FC n m xs p)).H 2=some ⟨33,[.n .i64 0],false⟩:=by kernel_rfl
end
theorem ABm (xs:List Int):BE .u8 [.seq .u8 xs]=some xs:=by kernel_rfl
theorem ZZ {β:Env} {T:AV} {u:Value} {k A:Nat} {m:Nat×Nat} (hT:T=.val false [.p k 0]) (h:AH β T u) (hA:β k=some (.at_ A m)):u=.pointer (some ⟨A,m.2+0,none⟩):=by
 subst hT
 obtain ⟨B,n,h1,h2⟩:=Ac h
 rw [hA] at h1
 injection h1 with h1;injection h1 with h1 h3
 subst h1;subst h3
 injection h2
theorem Za {w w':World} (h:Below w.heap.size w w') {B:Nat} {o:Obj} (hB:w.heap[B]? = some o):w'.heap[B]? = some o:=by
 rw [h.block B (Array.getElem?_eq_some_iff.1 hB).1];exact hB
theorem ABn {β:Env} {H:Heap} {w w':World} (hg:Ex.Good β H w) (hs:w.heap.size≤w'.heap.size) (hf:∀ B,B<w.heap.size→w'.heap[B]? = w.heap[B]?) (ho:w'.os=w.os) (ht:w'.tape=w.tape) (hp:w'.output=w.output):BS β w [] (Jq 210) [] (.returned NC) w' :=
 ⟨NC,β,rfl,{
  val:=⟨_,⟨_,_,Ab ⟨rfl,rfl,trivial⟩,⟨_,_,Ab ⟨rfl,(DG _ _).2 (by decide)⟩,rfl,rfl⟩,rfl⟩,rfl⟩
  good:=⟨(fun _ _ h=>by cases h),(fun _ _ _ _ _ h=>by cases h),(fun b B n h=>Nat.lt_of_lt_of_le (hg.lt b B n h) hs)⟩
  new:=fun _ _ h=>.inl h
  ext:=Env.le_refl β
  frame:=fun B hB _=>hf B hB
  size:=hs
  os:=ho
  tape:=ht
  output:=hp }⟩
theorem ABo {n m:Nat} {xs:List Int} (hl:n≤xs.length) (hn:AO .i64 n=true) (hk:EA n (Af (AA xs 0 n))=false) :
  Al Tryz.prog 31 [Ae 0 0 n m] (As xs) 1 [] (Jq 210) []:=by
 intro β us w ha hg hf
 refine ZV [] ha hg hf fun β' a w' A B m1 m2 hA hB hf' hi=>?_
 refine Nz (β0:=β') (w0:=w') (W:=[]) NB AE (ABd n m xs []) trivial (AT (by kernel_rfl)) hf' (fun _ h=>by cases h) (fun hw=>?_) β' a w' hi.root (fun b hb=>hf' b (by rw [show (IZ n m xs []).s.fr=3 from UH n m xs []] at hb;exact hb))
 intro β1 a1 w1 hi1 hf1
 rw [ABe]
 refine Ex.Safe.of_wpP Tryz.func31 (wp_region ?_)
 have hs:List.range (Dm skJ).size=List.range' 0 [(Dm skJ).getD 0 default].length++(1::List.range' 2 ((Dm skJ).size-2)):=by kernel_rfl
 rw [hs]
 refine RT NB (W:=[]) _ 0 _ _ _ β1 a1 w1 (fun j o hj=>?_) (ABf n m xs []) (by rw [ABg];trivial) hi1 hf1 hw.1 hw.2 (by rw [ABh];intro k hk;cases hk) ?_
 ·cases j with
  | zero=>injection hj with hj;subst hj;kernel_rfl
  | succ j=>simp at hj
 intro β2 a2 w2 hi2 _
 have r8:=hi2.tmp 8
 rw [ABi] at r8
 obtain ⟨_,g2,_⟩:=F0 hi2.good (ABl n m xs []) (ABm xs)
 have hpan:=ABU hl hn hk (A_ β2 [0] 1) [a2.tmps.getD 8 undef] w2 ⟨_,[],Db (by omega) rfl r8,rfl,rfl⟩ g2 (fun b hb=>by
  have:Nat.blt b 1=false:=by cases h:Nat.blt b 1 with | false=>rfl | true=>have:=BF.1 h;omega
  simp [A_,this])
 refine cH (o:=(Dm skJ).getD 1 default) (c:=match ((Dm skJ).getD 1 default).op with | .call c=>c | _=>⟨.builtin .len,#[],#[]⟩) (g:=94) (chain:=errC) (by kernel_rfl) (by kernel_rfl) (by kernel_rfl) (by kernel_rfl) Tryz.func94 (by kernel_rfl) (by kernel_rfl) ?_
 have hargs:(match ((Dm skJ).getD 1 default).op with | .call c=>c | _=>⟨.builtin .len,#[],#[]⟩).args=#[.tmp 8]:=by kernel_rfl
 rw [hargs,show Array.map a2.eval #[Operand.tmp 8]=#[a2.eval (.tmp 8)] from by simp]
 refine Calls.mono (R:=fun e w'=>e=.panicked errC∧Below w2.heap.size w2 w') hpan ?_
 rintro e w3 ⟨rfl,hbl⟩
 refine ⟨rfl,.inr ⟨errC,rfl,?_⟩⟩
 have hA2:=hi2.ext 1 _ hA
 have hB2:=hi2.ext 2 _ hB
 obtain ⟨c1,z1⟩:=ZW (v:=.slice none 0 0) hi2.good (ZX n m xs []) (by kernel_rfl) hA2 fun l h=>h.1
 obtain ⟨c2,z2⟩:=ZW (v:=.int .i64 0) hi2.good (ZY n m xs []) (by kernel_rfl) hB2 fun l h=>h.1
 have hne:A≠B:=fun e=>by
  subst e
  have:=hi2.good.inj 1 2 A m1 m2 (by rw [EZ (ZX n m xs []) (NI (by kernel_rfl))]) (by rw [ZY];rfl) hA2 hB2
  cases this
 have big:∀ {k C:Nat} {q:Nat×Nat},1≤k→β' k=some (.at_ C q)→w.heap.size≤C:=by
  intro k C q hk0 hC
  rcases hi.new k _ hC with h | h
  ·rw [hf k hk0] at h;cases h
  ·rcases h C q rfl with h | ⟨j,_,hj,_⟩
   ·exact h
   ·cases hj
 have bA:=big (by omega) hA
 have bB:=big (by omega) hB
 have t1:=ZZ (ABj n m xs []) (hi2.tmp 2) hA2
 have t2:=ZZ (ABk n m xs []) (hi2.tmp 3) hB2
 rw [z1] at t1
 rw [z2] at t2
 rw [hi2.dfr,z1,z2]
 refine ABW Tryz.func92 (by kernel_rfl) (by kernel_rfl) (fun p q x y w a b c d e=>AA' p q x y w a b c d e) (t1:=2) (t2:=3) (by kernel_rfl) t1 t2 (Za hbl c1) (Za hbl c2) hne fun w4 k1 k2 k3 k4 k5=>?_
 refine ABn hg ?_ (fun C hC=>?_) ?_ ?_ ?_
 ·rw [k2];exact Nat.le_trans hi.size (Nat.le_trans hi2.size hbl.size)
 ·rw [k1 C (by omega) (by omega),hbl.block C (Nat.lt_of_lt_of_le hC (Nat.le_trans hi.size hi2.size)),hi2.frame C (Nat.lt_of_lt_of_le hC hi.size) (fun _ _ h=>by cases h),hi.frame C hC (fun _ _ h=>by cases h)]
 ·rw [k3,hbl.os,hi2.os,hi.os]
 ·rw [k4,hbl.tape,hi2.tape,hi.tape]
 ·rw [k5,hbl.output,hi2.output,hi.output]
noncomputable def Ie (N:Nat):Pt FP:=G7 (AL (AA (M_ N) 0 4)) (AK (A8 G1B) (Ax G1B) (Ba G1B))
theorem ABp {N:Nat} (h:N<R4):Ie N=BU N G1B:=by
 unfold Ie G7
 rw [S_,if_pos Ts,ZK h]
def UI:AV:=.tup [(false,[.sl 12 0 48 48]),(false,[.n .i64 0])]
def UJ (l:List Int):Heap:=[(12,some ⟨5,[.seq .u8 l],true⟩)]
theorem ABq (n m:Nat) (xs:List Int):AP Tryz.prog oVc skF 400 1 [12] (IZ n m xs [false,true,true,true,true,true,true,true,true,true]) =
 some ((Nat.ble n xs.length,true)::(Nat.ble n m,true)::(AO .i64 n,true)::(EA n (Af (AA xs 0 n)),true)::tt 2 [(CN (AK (A8 (Ie (Cy n (Af (AA xs 0 n))))) (Ax (Ie (Cy n (Af (AA xs 0 n))))) (Ba (Ie (Cy n (Af (AA xs 0 n)))))),true)],[],UI,
  UJ (LC true (AK (A8 (Ie (Cy n (Af (AA xs 0 n))))) (Ax (Ie (Cy n (Af (AA xs 0 n))))) (Ba (Ie (Cy n (Af (AA xs 0 n)))))))):=by kernel_rfl
theorem ABr (N:Nat):CN (BU N G1B)=true:=by
 have h1:=(O8 G1B).1 Ts
 unfold CN
 rw [(O8 _).2 (F3 C1 h1 N),← Sv C1 h1,Nat.mul_comm,Sv C1 h1,xS,O2]
 rfl
theorem ABs {n m:Nat} {xs:List Int} (hl:n≤xs.length) (hm:n≤m) (hn:AO .i64 n=true) (hk:EA n (Af (AA xs 0 n))=true) :
  Al Tryz.prog 31 [Ae 0 0 n m] (As xs) 1 [] UI (UJ (LC true (BU (Af (AA xs 0 n)) G1B))):=by
 obtain ⟨k1,k2,_⟩:=ZQ.1 hk
 have hV:Cy n (Af (AA xs 0 n))=Af (AA xs 0 n):=if_pos ⟨k1,k2⟩
 have hrun:=ABq n m xs
 rw [hV,S_,ABp (Nat.lt_trans k2 ZG)] at hrun
 intro β us w ha hg hf
 refine ZV [false,true,true,true,true,true,true,true,true,true] ha hg hf fun β' a w' A B m1 m2 _ _ hf' hi=>?_
 exact cL NB AE Tryz.func31 hrun ⟨Nat.ble_eq_true_of_le hl,Nat.ble_eq_true_of_le hm,hn,hk,Bj 2 ⟨ABr _,trivial⟩⟩ (AT (by kernel_rfl)) hf (fun _ h=>by cases h) rfl Tryz.func92 (by kernel_rfl) (by kernel_rfl)
  (fun w=>AA_ _ _ w) (fun _ _ h=>h) β' a w' hi (fun b hb=>hf' b (by rw [show (IZ n m xs _).s.fr=3 from UH n m xs _] at hb;exact hb))
noncomputable def skSp:ASpec:=fun args H fr path=>match args,path with
 | [S],b::rest=>match LI S with
  | some (k,n,m)=>match AF H k with
   | some ⟨_,cs,_⟩=>match BE .u8 cs with
    | some xs=>match b with
     | true=>some (Bg [k] 1 fr 0 [] (Jq 210) [] [(Nat.ble n xs.length,true),(Nat.ble n m,true),(AO .i64 n,true),(EA n (Af (AA xs 0 n)),false)] rest)
     | false=>some (Bg [k] 1 fr 12 [] UI (UJ (LC true (BU (Af (AA xs 0 n)) G1B))) [(Nat.ble n xs.length,true),(Nat.ble n m,true),(AO .i64 n,true),(EA n (Af (AA xs 0 n)),true)] rest)
    | none=>none
   | _=>none
  | none=>none
 | _,_=>none
theorem ABt:BN Tryz.prog 31 skSp:=by
 refine Ek Tryz.func31 (by kernel_rfl) (by kernel_rfl) fun args H fr path r hs=>?_
 unfold skSp at hs
 split at hs
 case h_2=>cases hs
 rename_i S b rest
 split at hs
 case h_2=>cases hs
 rename_i k n m hS
 split at hs
 case h_2=>cases hs
 rename_i ty cs o hk'
 split at hs
 case h_2=>cases hs
 rename_i xs hxs
 split at hs
 ·injection hs with hs
  refine ⟨[k],1,0,[],_,_,_,rest,hs.symm,fun β us w ha hg hc=>?_⟩
  obtain ⟨u1,us1,r1,ha,rfl⟩:=ha
  obtain ⟨hl,hm,hn,hb,_⟩:=hc
  obtain ⟨m',_,r1⟩:=LJ hS (Nat.le_of_ble_eq_true hm) r1
  obtain ⟨g1,g2,g3⟩:=F0 hg hk' hxs
  exact ⟨[Ae 0 0 n m'],As xs,ABo (Nat.le_of_ble_eq_true hl) hn hb,by kernel_rfl,⟨u1,_,Db (by omega) rfl r1,ha,rfl⟩,g2,g3⟩
 ·injection hs with hs
  refine ⟨[k],1,12,[],_,_,_,rest,hs.symm,fun β us w ha hg hc=>?_⟩
  obtain ⟨u1,us1,r1,ha,rfl⟩:=ha
  obtain ⟨hl,hm,hn,hb,_⟩:=hc
  obtain ⟨m',hm',r1⟩:=LJ hS (Nat.le_of_ble_eq_true hm) r1
  obtain ⟨g1,g2,g3⟩:=F0 hg hk' hxs
  exact ⟨[Ae 0 0 n m'],As xs,ABs (Nat.le_of_ble_eq_true hl) hm' hn hb,by kernel_rfl,⟨u1,_,Db (by omega) rfl r1,ha,rfl⟩,g2,g3⟩
noncomputable def SVe:List (FuncId×ASpec):=(31,skSp)::(24,Ed (M8 fun s L=>HD (Pd s L)))::SVc
theorem Zb:AS Tryz.prog SVe:=⟨ABt,FW (Ty Tryz.func24 (by kernel_rfl) (by kernel_rfl) (fun _ _=>by kernel_rfl) fun _ _ _ s hl hm hn=>Yz hl hm hn s),ZR⟩
noncomputable abbrev oVe:Orc:=AI SVe KV
theorem Pu:OrcOk Tryz.prog oVe:=AM Zb EX
noncomputable def SVf:List (FuncId×ASpec):=(44,C7 Tryz.prog oVe Tryz.f44 300)::(30,C7 Tryz.prog oVe Tryz.f30 300)::(35,C7 Tryz.prog oVe Tryz.f35 600)::(56,C7 Tryz.prog oVe Tryz.f56 300)::SVe
theorem Zc:AS Tryz.prog SVf:=⟨DS Pu AE Tryz.func44 (by kernel_rfl) (by kernel_rfl) 300,DS Pu AE Tryz.func30 (by kernel_rfl) (by kernel_rfl) 300,DS Pu AE Tryz.func35 (by kernel_rfl) (by kernel_rfl) 600,DS Pu AE Tryz.func56 (by kernel_rfl) (by kernel_rfl) 300,Zb⟩
end Go.Proofs.YtojnabmgolpodaaGreat
namespace Go.Proofs.YtojnabmgolpodaaGreat
open Ex Num Rg
open Sh (R av rd mo en mo_en)
set_option maxRecDepth 100000
set_option maxHeartbeats 4000000
def ABu:List Int:=List.take (Int.toNat 31) (List.drop 0 (List.replicate (Int.toNat 31) 0))++[1]
def UK:Nat:=Af (AA ABu 0 (Int.toNat 31+1))
theorem Zd:UK=1:=by kernel_rfl
theorem ABv:1<rN:=by rw [rN_eq];exact BF.1 (by kernel_rfl)
theorem ABw:EA (Int.toNat 31+1) UK=true:=ZQ.2 ⟨rfl,by rw [Zd];exact ABv,by rw [Zd];decide⟩
noncomputable abbrev oDa0:Orc:=AI SVf KV
theorem Ze:OrcOk Tryz.prog oDa0:=AM Zc EX
noncomputable def SDa1:List (FuncId×ASpec):=(176,C7 Tryz.prog oDa0 Tryz.f176 300)::(175,C7 Tryz.prog oDa0 Tryz.f175 300)::SVf
theorem Zf:AS Tryz.prog SDa1:=⟨DS Ze AE Tryz.func176 (by kernel_rfl) (by kernel_rfl) 300,DS Ze AE Tryz.func175 (by kernel_rfl) (by kernel_rfl) 300,Zc⟩
noncomputable abbrev oDa1:Orc:=AI SDa1 KV
theorem ABx:OrcOk Tryz.prog oDa1:=AM Zf EX
noncomputable def SDa2:List (FuncId×ASpec):=(108,C7 Tryz.prog oDa1 Tryz.f108 300)::SDa1
theorem Zg:AS Tryz.prog SDa2:=⟨DS ABx AE Tryz.func108 (by kernel_rfl) (by kernel_rfl) 300,Zf⟩
noncomputable abbrev oDa2:Orc:=AI SDa2 KV
theorem ABy:OrcOk Tryz.prog oDa2:=AM Zg EX
noncomputable def SDa3:List (FuncId×ASpec):=(53,C7 Tryz.prog oDa2 Tryz.f53 900)::SDa2
theorem Zh:AS Tryz.prog SDa3:=⟨DS ABy AE Tryz.func53 (by kernel_rfl) (by kernel_rfl) 900,Zg⟩
noncomputable abbrev oDa3:Orc:=AI SDa3 KV
theorem ABz:OrcOk Tryz.prog oDa3:=AM Zh EX
def UL {α:Type}:Option (List (Bool×Bool)×α)→List (Bool×Bool)
 | some x=>x.1
 | none=>[]
theorem Zi:∀ {l:List (Bool×Bool)} {i:Nat} {x d:Bool},l[i]? = some (x,d)→x=d→(l.eraseIdx i).all (fun c=>c.1==c.2)=true→AN l
 | [],_,_,_,h,_,_=>by simp at h
 | (y,e)::l,0,x,d,h,hx,hr=>by
  simp only [List.getElem?_cons_zero,Option.some.injEq,Prod.mk.injEq] at h
  obtain ⟨rfl,rfl⟩:=h
  refine ⟨hx,?_⟩
  have key:∀ l:List (Bool×Bool),l.all (fun c=>c.1==c.2)=true→AN l:=by
   intro l
   induction l with
   | nil=>intro _;trivial
   | cons c l ih =>
    intro h
    rw [List.all_cons,Bool.and_eq_true] at h
    exact ⟨by simpa using h.1,ih h.2⟩
  exact key _ hr
 | (y,e)::l,i+1,x,d,h,hx,hr=>by
  simp only [List.eraseIdx_cons_succ,List.all_cons,Bool.and_eq_true] at hr
  exact ⟨by simpa using hr.1,Zi (by simpa using h) hx hr.2⟩
noncomputable def UM:Option (List (Bool×Bool)×AV):=AR Tryz.prog oDa3 Tryz.f51 [] [false,true,true,true,true,true,true,false,true,true,true,false,false,true,false,true] 2000
theorem AB0:AR Tryz.prog oDa3 Tryz.f51 [] [false,true,true,true,true,true,true,false,true,true,true,false,false,true,false,true] 2000=some (UL UM,.val false [.v (.bool true)]):=by kernel_rfl
theorem AB1:(UL UM)[38]? = some (EA (Int.toNat 31+1) UK,true):=by kernel_rfl
theorem AB2:((UL UM).eraseIdx 38).all (fun c=>c.1==c.2)=true:=by kernel_rfl
theorem AB3:AU Tryz.prog 51 [] (.val false [.v (.bool true)]) :=
 AW ABz AE Tryz.func51 AB0 (Zi AB1 ABw AB2) rfl
noncomputable def SDz:List (FuncId×ASpec):=(51,Am rM)::SDa3
theorem AB4:AS Tryz.prog SDz:=⟨Ap Tryz.func51 (by kernel_rfl) (by kernel_rfl) (MF AB3 fun u h=>Ab (Ac h).1),Zh⟩
noncomputable abbrev oDz:Orc:=AI SDz KV
theorem AB5:OrcOk Tryz.prog oDz:=AM AB4 EX
theorem AB6:AR Tryz.prog oDz Tryz.f11 [] [] 300=some ([],.val false [.b true]):=by kernel_rfl
theorem scriptNames_walk:Nx Tryz.prog 11 Tryz.f11:=gF (n:=0) (by kernel_rfl) fun xs h _=>by
 obtain rfl:=List.length_eq_zero_iff.1 h
 exact AW AB5 AE Tryz.func11 AB6 trivial rfl
end Go.Proofs.YtojnabmgolpodaaGreat
