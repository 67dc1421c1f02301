/- Part 6 of the proof: Qf, Qg, Qh, Mh, Ub, Va, Vb, Vc, Vd, Ve, Vf, Vg, Vh, Tb, Tc, Mk, Mj, Wa, Wb, Wc. -/
import Derived.Test.YtfmajnlfpnjagaaGreatPE
import Derived.Test.YtfmajnlfpnjagaaGreatPD
import Derived.Test.YtfmajnlfpnjagaaGreatPC
import Derived.Test.YtfmajnlfpnjagaaGreatPB
import Derived.Tactics
import Derived.Tactics2
import Derived.Recover
/- sigilref20.read: the contract, on offer. -/
namespace Go.Proofs.YtfmajnlfpnjagaaGreat
open Ex Num Rg
set_option maxRecDepth 100000
set_option maxHeartbeats 4000000
noncomputable abbrev qrF:Func:=Tryz.f129
def qA (n m:Nat) (k:Int) (s:Bool):List AV:=[slA 0 0 n m,.val false [.n .i64 k],.val false [.b s]]
noncomputable def qrS (xs:List Int) (n m:Nat) (k:Int) (s:Bool) (p:List Bool):ASt:=entry qrF (qA n m k s) [(0,some (roB [.seq .u8 xs]))] 1 p
def errQ (e:Int) (i:Bool):AV:=.tup [(false,[.v (.slice none 0 0)]),(false,[.b false]),(false,[.b i]),(false,[.n .i64 e])]
def qeV (e:Int):AV:=.tup [(false,[.v (.slice none 0 0)]),(false,[.b false]),(false,[.v (.bool (decide (e=0)))]),(false,[.v (.int .i64 e)])]
def numQ (k:Nat) (big:Bool):AV:=.tup [(false,[.sx (2+3*k) k 6]),(false,[.v (.bool big)]),(false,[.b false]),(false,[.n .i64 0])]
theorem relT4 {β β':Env} {g1 g2 g3 g4:Bool} {a a' b b' c c' d d':List Ch} {u:Value} (h1:∀ v,relG β g1 a v→relG β' g1 a' v) (h2:∀ v,relG β g2 b v→relG β' g2 b' v) (h3:∀ v,relG β g3 c v→relG β' g3 c' v) (h4:∀ v,relG β g4 d v→relG β' g4 d' v) (h:relA β (.tup [(g1,a),(g2,b),(g3,c),(g4,d)]) u):relA β' (.tup [(g1,a'),(g2,b'),(g3,c'),(g4,d')]) u:=by
 obtain ⟨us,⟨u1,l1,q1,⟨u2,l2,q2,⟨u3,l3,q3,⟨u4,l4,q4,q5,q6⟩,q7⟩,q8⟩,q9⟩,q10⟩:=h
 exact ⟨us,⟨u1,l1,h1 _ q1,⟨u2,l2,h2 _ q2,⟨u3,l3,h3 _ q3,⟨u4,l4,h4 _ q4,q5,q6⟩,q7⟩,q8⟩,q9⟩,q10⟩
theorem leafQ {e e':Int} {i:Bool} (he:e=e') (hi:i=decide (e'=0)):∀ (β:Env) (u:Value),relA β (errQ e i) u→relA β (qeV e') u:=fun β u h=>by
 subst he
 exact relT4 (fun _ q=>q) (fun _ q=>q) (fun _ q=>bv_rel hi q) (fun _ q=>gval rfl q) h
noncomputable def q1Todo:List Item:=todoOf (aSeg Tryz.prog oQe (some 0) 800 1 none (qrS [] 48 48 1 true [false,false,false,true]))
noncomputable def q1S (xs ls:List Int) (n:Nat) (big:Bool) (i:Int) (p:List Bool):ASt:=⟨q1Todo,⟨mkT qrF.ntmps [(10,.val false [.v (.bool big)]),(11,.val false [.sx 2 n 1]),(12,.val false [.n .i64 i])],rbH xs ls,3,p⟩⟩
noncomputable def q2Todo:List Item:=todoOf (aSeg Tryz.prog oQe (some 0) 800 1 none (qrS [] 48 48 1 true [false,false,false,false]))
noncomputable def q2T0 (k:Int) (big:Bool):List AV:=[.any,.val false [.n .i64 k],.any,.any,.any,.any,.any,.any,.any,.any,.val false [.v (.bool big)]]
noncomputable def q2T1:List AV:=.any::.val false [.v (.slice none 0 0)]::.val false [.n .i64 0]::List.replicate (qrF.ntmps-15) AV.any
noncomputable def q2S (xs ls:List Int) (k:Int) (big:Bool) (i:AV) (p:List Bool):ASt:=⟨q2Todo,⟨q2T0 k big++i::q2T1,rbH xs ls,3,p⟩⟩
abbrev qK1:Option (List Nat×List Nat×Nat):=some ([10,11,12],[0,2],3)
abbrev qK2:Option (List Nat×List Nat×Nat):=some ([1,10,11,13,14],[0,2],3)
def qpC (xs:List Int) (s b:Bool) (r:List (Bool×Bool)):List (Bool×Bool):=(true,true)::(false,false)::(true,true)::(decide (0<xs.length),true)::(true,true)::(decide (0<xs.length),true)::(!(flB xs 128==s),b)::r
def qmC' (xs:List Int) (n m:Nat) (c:Bool) (r:List (Bool×Bool)):List (Bool×Bool):=(true,true)::(decide (0<xs.length),true)::(true,true)::(Nat.beq m 1,false)::(true,true)::(Nat.ble n xs.length,true)::(true,true)::(true,true)::(decide (0<xs.length),true)::(flB xs 64,c)::r
def qnC (C lo hi:Nat) (ls:List Int) (e:Bool) (r:List (Bool×Bool)):List (Bool×Bool):=(decide ((0:Int)≤(hi:Int)∧(hi:Int)≤(C:Int)),true)::(true,true)::(Nat.beq C lo,false)::(Nat.ble hi ls.length,true)::(true,true)::(!decide (fbE 48 (nbW ls lo)=0),e)::r
section
variable (xs ls:List Int) (n m C:Nat) (i:Int) (big:Bool)
def q1C (r:List (Bool×Bool)):List (Bool×Bool):=(hasB .i64 n,true)::(decide (i<n),true)::(decide (0≤i∧i<n),true)::(decide (0+i.toNat*1<ls.length),true)::r
theorem q1_step:aSeg Tryz.prog oQe (some 0) 800 1 qK1 (q1S xs ls n big i [true,false,false])=some (q1C ls n i [(!decide (ls.getD (0+i.toNat*1) 0=0),false),(big,false)],[],q1S xs ls n big (wrapc true .i64 (i+1)) []):=by kernel_rfl
theorem q1_end:segOut Tryz.prog oQe qrF 800 1 [] (q1S xs ls n big i [false])=some ([(hasB .i64 n,true),(decide (i<n),false)],[],errQ 0 true,[]):=by kernel_rfl
theorem q1_nz:segOut Tryz.prog oQe qrF 800 1 [] (q1S xs ls n big i [true,true])=some (q1C ls n i [(!decide (ls.getD (0+i.toNat*1) 0=0),true)],[],errQ 202 false,[]):=by kernel_rfl
theorem q1_big:segOut Tryz.prog oQe qrF 800 1 [] (q1S xs ls n big i [true,false,true])=some (q1C ls n i [(!decide (ls.getD (0+i.toNat*1) 0=0),false),(big,true)],[],errQ 202 false,[]):=by kernel_rfl
theorem q1s_len:segOut Tryz.prog oQe qrF 800 1 [] (qrS xs n m 1 true [true])=some ([(hasB .i64 n,true),(!decide ((n:Int)=48),true)],[],errQ 200 false,[]):=by kernel_rfl
theorem q1s_f1:segOut Tryz.prog oQe qrF 800 1 [] (qrS xs 48 m 1 true [false,true])=some (qpC xs true true [],[],errQ 201 false,[]):=by kernel_rfl
theorem q1s_i:aSeg Tryz.prog oQe (some 0) 800 1 qK1 (qrS xs 48 m 1 true [false,false,false,true])=some (qpC xs true false ((qmC' xs 48 m true [])),[],q1S xs (rsL xs 47) 48 (flB xs 32) 0 []):=by kernel_rfl
theorem q1s_n:aSeg Tryz.prog oQe (some 0) 800 1 qK2 (qrS xs 48 m 1 true [false,false,false,false])=some (qpC xs true false ((qmC' xs 48 m false [])),[],q2S xs (rsL xs 47) 1 (flB xs 32) (.val false [.sx 2 48 1]) []):=by kernel_rfl
theorem q2l_len:segOut Tryz.prog oQe qrF 800 1 [] (qrS xs n m 2 false [true])=some ([(hasB .i64 n,true),(!decide ((n:Int)=96),true)],[],errQ 200 false,[]):=by kernel_rfl
theorem q2l_f1:segOut Tryz.prog oQe qrF 800 1 [] (qrS xs 96 m 2 false [false,true])=some (qpC xs false true [],[],errQ 201 false,[]):=by kernel_rfl
theorem q2l_f2:segOut Tryz.prog oQe qrF 800 1 [] (qrS xs 96 m 2 false [false,false,true])=some (qpC xs false false [(flB xs 32,true)],[],errQ 201 false,[]):=by kernel_rfl
theorem q2l_i:aSeg Tryz.prog oQe (some 0) 800 1 qK1 (qrS xs 96 m 2 false [false,false,false,false,true])=some (qpC xs false false (((flB xs 32,false)::(qmC' xs 96 m true []))),[],q1S xs (rsL xs 95) 96 (flB xs 32) 0 []):=by kernel_rfl
theorem q2l_n:aSeg Tryz.prog oQe (some 0) 800 1 qK2 (qrS xs 96 m 2 false [false,false,false,false,false])=some (qpC xs false false (((flB xs 32,false)::(qmC' xs 96 m false []))),[],q2S xs (rsL xs 95) 2 (flB xs 32) (.val false [.sx 2 96 1]) []):=by kernel_rfl
theorem q2s_len:segOut Tryz.prog oQe qrF 800 1 [] (qrS xs n m 2 true [true])=some ([(hasB .i64 n,true),(!decide ((n:Int)=96),true)],[],errQ 200 false,[]):=by kernel_rfl
theorem q2s_f1:segOut Tryz.prog oQe qrF 800 1 [] (qrS xs 96 m 2 true [false,true])=some (qpC xs true true [],[],errQ 201 false,[]):=by kernel_rfl
theorem q2s_i:aSeg Tryz.prog oQe (some 0) 800 1 qK1 (qrS xs 96 m 2 true [false,false,false,true])=some (qpC xs true false ((qmC' xs 96 m true [])),[],q1S xs (rsL xs 95) 96 (flB xs 32) 0 []):=by kernel_rfl
theorem q2s_n:aSeg Tryz.prog oQe (some 0) 800 1 qK2 (qrS xs 96 m 2 true [false,false,false,false])=some (qpC xs true false ((qmC' xs 96 m false [])),[],q2S xs (rsL xs 95) 2 (flB xs 32) (.val false [.sx 2 96 1]) []):=by kernel_rfl
theorem q4l_len:segOut Tryz.prog oQe qrF 800 1 [] (qrS xs n m 4 false [true])=some ([(hasB .i64 n,true),(!decide ((n:Int)=192),true)],[],errQ 200 false,[]):=by kernel_rfl
theorem q4l_f1:segOut Tryz.prog oQe qrF 800 1 [] (qrS xs 192 m 4 false [false,true])=some (qpC xs false true [],[],errQ 201 false,[]):=by kernel_rfl
theorem q4l_f2:segOut Tryz.prog oQe qrF 800 1 [] (qrS xs 192 m 4 false [false,false,true])=some (qpC xs false false [(flB xs 32,true)],[],errQ 201 false,[]):=by kernel_rfl
theorem q4l_i:aSeg Tryz.prog oQe (some 0) 800 1 qK1 (qrS xs 192 m 4 false [false,false,false,false,true])=some (qpC xs false false (((flB xs 32,false)::(qmC' xs 192 m true []))),[],q1S xs (rsL xs 191) 192 (flB xs 32) 0 []):=by kernel_rfl
theorem q4l_n:aSeg Tryz.prog oQe (some 0) 800 1 qK2 (qrS xs 192 m 4 false [false,false,false,false,false])=some (qpC xs false false (((flB xs 32,false)::(qmC' xs 192 m false []))),[],q2S xs (rsL xs 191) 4 (flB xs 32) (.val false [.sx 2 192 1]) []):=by kernel_rfl
theorem qm1_t:segOut Tryz.prog oQe qrF 800 1 [5] (q2S xs ls 1 big (.val false [.sl 2 0 48 C]) [false,false])=some (qnC C 0 48 ls false ((true,true)::[]),[],numQ 1 big,rnH 1 [.num 6 (fbV 48 (nbW ls 0))]):=by kernel_rfl
theorem qm1_e0:segOut Tryz.prog oQe qrF 800 1 [] (q2S xs ls 1 big (.val false [.sl 2 0 48 C]) [false,true])=some (qnC C 0 48 ls true [],[],errQ 203 false,[]):=by kernel_rfl
theorem qm2_t:segOut Tryz.prog oQe qrF 800 1 [8] (q2S xs ls 2 big (.val false [.sl 2 0 96 C]) [false,false,false,false])=some (qnC C 0 48 ls false ((true,true)::qnC C 48 96 ls false ((true,true)::[])),[],numQ 2 big,rnH 2 [.num 6 (fbV 48 (nbW ls 0)),.num 6 (fbV 48 (nbW ls 48))]):=by kernel_rfl
theorem qm2_e0:segOut Tryz.prog oQe qrF 800 1 [] (q2S xs ls 2 big (.val false [.sl 2 0 96 C]) [false,true])=some (qnC C 0 48 ls true [],[],errQ 203 false,[]):=by kernel_rfl
theorem qm2_e1:segOut Tryz.prog oQe qrF 800 1 [] (q2S xs ls 2 big (.val false [.sl 2 0 96 C]) [false,false,false,true])=some (qnC C 0 48 ls false ((true,true)::qnC C 48 96 ls true []),[],errQ 203 false,[]):=by kernel_rfl
theorem qm4_t:segOut Tryz.prog oQe qrF 800 1 [14] (q2S xs ls 4 big (.val false [.sl 2 0 192 C]) [false,false,false,false,false,false,false,false])=some (qnC C 0 48 ls false ((true,true)::qnC C 48 96 ls false ((true,true)::qnC C 96 144 ls false ((true,true)::qnC C 144 192 ls false ((true,true)::[])))),[],numQ 4 big,rnH 4 [.num 6 (fbV 48 (nbW ls 0)),.num 6 (fbV 48 (nbW ls 48)),.num 6 (fbV 48 (nbW ls 96)),.num 6 (fbV 48 (nbW ls 144))]):=by kernel_rfl
theorem qm4_e0:segOut Tryz.prog oQe qrF 800 1 [] (q2S xs ls 4 big (.val false [.sl 2 0 192 C]) [false,true])=some (qnC C 0 48 ls true [],[],errQ 203 false,[]):=by kernel_rfl
theorem qm4_e1:segOut Tryz.prog oQe qrF 800 1 [] (q2S xs ls 4 big (.val false [.sl 2 0 192 C]) [false,false,false,true])=some (qnC C 0 48 ls false ((true,true)::qnC C 48 96 ls true []),[],errQ 203 false,[]):=by kernel_rfl
theorem qm4_e2:segOut Tryz.prog oQe qrF 800 1 [] (q2S xs ls 4 big (.val false [.sl 2 0 192 C]) [false,false,false,false,false,true])=some (qnC C 0 48 ls false ((true,true)::qnC C 48 96 ls false ((true,true)::qnC C 96 144 ls true [])),[],errQ 203 false,[]):=by kernel_rfl
theorem qm4_e3:segOut Tryz.prog oQe qrF 800 1 [] (q2S xs ls 4 big (.val false [.sl 2 0 192 C]) [false,false,false,false,false,false,false,true])=some (qnC C 0 48 ls false ((true,true)::qnC C 48 96 ls false ((true,true)::qnC C 96 144 ls false ((true,true)::qnC C 144 192 ls true []))),[],errQ 203 false,[]):=by kernel_rfl
end
theorem q1_wf (xs ls:List Int) (n:Nat) (big:Bool) (i:Int) (p:List Bool):wfSt qrF.ntmps (q1S xs ls n big i p).s:=wfB_ok (by kernel_rfl)
theorem q2_wf (xs ls:List Int) (K:Int) (big:Bool) (k n C:Nat) (p:List Bool):wfSt qrF.ntmps (q2S xs ls K big (.val false [.sl k 0 n C]) p).s:=wfB_ok (by kernel_rfl)
section
variable {xs ls:List Int} {n:Nat} {big:Bool} (hl:ls.length=n) (hn:0<n) (hm:n≤1000) {β0:Env} {w0:World} (hb:∀ b,1≤b→β0 b=none)
include hl hn hm hb
theorem q1_safe:∀ c i:Nat,i+c=n→(∀ j,j<i→ls.getD j 0=0)→(0<i→big=false)→ASafe Tryz.prog 129 β0 w0 (Outs β0 w0 [] (qeV (infE ls big)) []) qrF.ntmps [] (q1S xs ls n big (i:Nat) []):=by
 have hB:hasB .i64 (n:Int)=true:=by simp only [hasB,Bool.and_eq_true,decide_eq_true_eq];omega
 intro c
 induction c with
 | zero =>
  intro i hi hz hbig
  have hin:i=n:=by omega
  subst hin
  have e:infE ls big=0:=by
   unfold infE infOk
   rw [getD_all hl hz,hbig hn];rfl
  rw [e]
  exact path_safe [false] (asafe_val (out_safe oQeok mixed Tryz.func129 (q1_end xs ls i (i:Nat) big) ⟨hB,decide_eq_false (by omega),trivial⟩ (q1_wf ..) hb (fun _ h=>by cases h)) (leafQ rfl rfl))
 | succ c ih =>
  intro i hi hz hbig
  have c1:decide (((i:Nat):Int)<(n:Int))=true:=decide_eq_true (by omega)
  have c2:decide (0≤((i:Nat):Int)∧((i:Nat):Int)<(n:Int))=true:=decide_eq_true (by omega)
  have c3:decide (0+((i:Nat):Int).toNat*1<ls.length)=true:=decide_eq_true (by omega)
  have ei:0+((i:Nat):Int).toNat*1=i:=by omega
  by_cases h0:ls.getD i 0=0
  ·have z:(!decide (ls.getD (0+((i:Nat):Int).toNat*1) 0=0))=false:=by rw [ei,decide_eq_true h0];rfl
   cases hq:big with
   | true =>
    have e:infE ls big=202:=by
     unfold infE infOk
     rw [hq,Bool.not_true,Bool.and_false,if_neg Bool.false_ne_true]
    rw [← hq,e]
    exact path_safe [true,false,true] (asafe_val (out_safe oQeok mixed Tryz.func129 (q1_big xs ls n (i:Nat) big) ⟨hB,c1,c2,c3,z,hq,trivial⟩ (q1_wf ..) hb (fun _ h=>by cases h)) (leafQ rfl rfl))
   | false =>
    rw [← hq]
    refine path_safe [true,false,false] (seg_safe oQeok mixed (q1_step xs ls n (i:Nat) big) ⟨hB,c1,c2,c3,z,hq,trivial⟩ (q1_wf ..) hb (fun _ h=>by cases h) fun _=>?_)
    rw [wrapc_i64 true (by omega),show ((i:Nat):Int)+1=((i+1:Nat):Int) from rfl]
    refine ih (i+1) (by omega) (fun j hj=>?_) (fun _=>hq)
    rcases Nat.lt_or_ge j i with q | q
    ·exact hz j q
    ·rw [show j=i by omega];exact h0
  ·have e:infE ls big=202:=by
    unfold infE infOk
    cases ha:ls.all (fun d=>decide (d=0)) with
    | true=>exact absurd (all_getD (by omega) ha) h0
    | false=>rw [Bool.false_and,if_neg Bool.false_ne_true]
   rw [e]
   exact path_safe [true,true] (asafe_val (out_safe oQeok mixed Tryz.func129 (q1_nz xs ls n (i:Nat) big) ⟨hB,c1,c2,c3,by rw [ei,decide_eq_false h0];rfl,trivial⟩ (q1_wf ..) hb (fun _ h=>by cases h)) (leafQ rfl rfl))
end
theorem nb_lt {C lo:Nat} (h:lo<C):Nat.beq C lo=false:=by
 cases hq:Nat.beq C lo with
 | false=>rfl
 | true=>have:=Nat.eq_of_beq_eq_true hq;omega
theorem qnC_ok {C lo hi:Nat} {ls:List Int} {e:Bool} {r:List (Bool×Bool)} (h1:lo<hi) (h2:hi≤C) (h3:hi≤ls.length) (h4:(!decide (fbE 48 (nbW ls lo)=0))=e) (hr:okConds r):okConds (qnC C lo hi ls e r) :=
 ⟨decide_eq_true ⟨by omega,by omega⟩,rfl,nb_lt (by omega),Nat.ble_eq_true_of_le h3,rfl,h4,hr⟩
section
variable {xs ls:List Int} {big:Bool} {C:Nat} {β0:Env} {w0:World} (hb:∀ b,1≤b→β0 b=none)
include hb
theorem qm1_ok (hC:48≤C) (hl:ls.length=48) (h0:nbW ls 0<pN):ASafe Tryz.prog 129 β0 w0 (Outs β0 w0 [] (numQ 1 big) (rnH 1 (nmL ls 1))) qrF.ntmps [] (q2S xs ls 1 big (.val false [.sl 2 0 48 C]) []):=by
 have t:=qm1_t xs ls C big
 rw [fbV_0 h0] at t
 exact path_safe [false,false] (out_safe oQeok mixed Tryz.func129 t (qnC_ok (by decide) (by omega) (by omega) (fbE_0 h0) ⟨rfl,trivial⟩) (q2_wf ..) hb (fun _ h=>by cases h))
theorem qm1_no (hC:48≤C) (hl:ls.length=48) (h:okN ls 1=false):ASafe Tryz.prog 129 β0 w0 (Outs β0 w0 [] (qeV 203) []) qrF.ntmps [] (q2S xs ls 1 big (.val false [.sl 2 0 48 C]) []):=by
 by_cases h0:nbW ls 0<pN
 case neg=>exact path_safe [false,true] (asafe_val (out_safe oQeok mixed Tryz.func129 (qm1_e0 xs ls C big) (qnC_ok (by decide) (by omega) (by omega) (fbE_1 h0) trivial) (q2_wf ..) hb (fun _ h=>by cases h)) (leafQ rfl rfl))
 have:okN ls 1=true:=by
  show (decide (nbW ls 0<pN)&&true)=true
  rw [decide_eq_true h0];rfl
 rw [this] at h;cases h
theorem qm2_ok (hC:96≤C) (hl:ls.length=96) (h0:nbW ls 0<pN) (h1:nbW ls 48<pN):ASafe Tryz.prog 129 β0 w0 (Outs β0 w0 [] (numQ 2 big) (rnH 2 (nmL ls 2))) qrF.ntmps [] (q2S xs ls 2 big (.val false [.sl 2 0 96 C]) []):=by
 have t:=qm2_t xs ls C big
 rw [fbV_0 h0,fbV_0 h1] at t
 exact path_safe [false,false,false,false] (out_safe oQeok mixed Tryz.func129 t (qnC_ok (by decide) (by omega) (by omega) (fbE_0 h0) ⟨rfl,qnC_ok (by decide) (by omega) (by omega) (fbE_0 h1) ⟨rfl,trivial⟩⟩) (q2_wf ..) hb (fun _ h=>by cases h))
theorem qm2_no (hC:96≤C) (hl:ls.length=96) (h:okN ls 2=false):ASafe Tryz.prog 129 β0 w0 (Outs β0 w0 [] (qeV 203) []) qrF.ntmps [] (q2S xs ls 2 big (.val false [.sl 2 0 96 C]) []):=by
 by_cases h0:nbW ls 0<pN
 case neg=>exact path_safe [false,true] (asafe_val (out_safe oQeok mixed Tryz.func129 (qm2_e0 xs ls C big) (qnC_ok (by decide) (by omega) (by omega) (fbE_1 h0) trivial) (q2_wf ..) hb (fun _ h=>by cases h)) (leafQ rfl rfl))
 by_cases h1:nbW ls 48<pN
 case neg=>exact path_safe [false,false,false,true] (asafe_val (out_safe oQeok mixed Tryz.func129 (qm2_e1 xs ls C big) (qnC_ok (by decide) (by omega) (by omega) (fbE_0 h0) ⟨rfl,qnC_ok (by decide) (by omega) (by omega) (fbE_1 h1) trivial⟩) (q2_wf ..) hb (fun _ h=>by cases h)) (leafQ rfl rfl))
 have:okN ls 2=true:=by
  show (decide (nbW ls 0<pN)&&(decide (nbW ls 48<pN)&&true))=true
  rw [decide_eq_true h0,decide_eq_true h1];rfl
 rw [this] at h;cases h
theorem qm4_ok (hC:192≤C) (hl:ls.length=192) (h0:nbW ls 0<pN) (h1:nbW ls 48<pN) (h2:nbW ls 96<pN) (h3:nbW ls 144<pN):ASafe Tryz.prog 129 β0 w0 (Outs β0 w0 [] (numQ 4 big) (rnH 4 (nmL ls 4))) qrF.ntmps [] (q2S xs ls 4 big (.val false [.sl 2 0 192 C]) []):=by
 have t:=qm4_t xs ls C big
 rw [fbV_0 h0,fbV_0 h1,fbV_0 h2,fbV_0 h3] at t
 exact path_safe [false,false,false,false,false,false,false,false] (out_safe oQeok mixed Tryz.func129 t (qnC_ok (by decide) (by omega) (by omega) (fbE_0 h0) ⟨rfl,qnC_ok (by decide) (by omega) (by omega) (fbE_0 h1) ⟨rfl,qnC_ok (by decide) (by omega) (by omega) (fbE_0 h2) ⟨rfl,qnC_ok (by decide) (by omega) (by omega) (fbE_0 h3) ⟨rfl,trivial⟩⟩⟩⟩) (q2_wf ..) hb (fun _ h=>by cases h))
theorem qm4_no (hC:192≤C) (hl:ls.length=192) (h:okN ls 4=false):ASafe Tryz.prog 129 β0 w0 (Outs β0 w0 [] (qeV 203) []) qrF.ntmps [] (q2S xs ls 4 big (.val false [.sl 2 0 192 C]) []):=by
 by_cases h0:nbW ls 0<pN
 case neg=>exact path_safe [false,true] (asafe_val (out_safe oQeok mixed Tryz.func129 (qm4_e0 xs ls C big) (qnC_ok (by decide) (by omega) (by omega) (fbE_1 h0) trivial) (q2_wf ..) hb (fun _ h=>by cases h)) (leafQ rfl rfl))
 by_cases h1:nbW ls 48<pN
 case neg=>exact path_safe [false,false,false,true] (asafe_val (out_safe oQeok mixed Tryz.func129 (qm4_e1 xs ls C big) (qnC_ok (by decide) (by omega) (by omega) (fbE_0 h0) ⟨rfl,qnC_ok (by decide) (by omega) (by omega) (fbE_1 h1) trivial⟩) (q2_wf ..) hb (fun _ h=>by cases h)) (leafQ rfl rfl))
 by_cases h2:nbW ls 96<pN
 case neg=>exact path_safe [false,false,false,false,false,true] (asafe_val (out_safe oQeok mixed Tryz.func129 (qm4_e2 xs ls C big) (qnC_ok (by decide) (by omega) (by omega) (fbE_0 h0) ⟨rfl,qnC_ok (by decide) (by omega) (by omega) (fbE_0 h1) ⟨rfl,qnC_ok (by decide) (by omega) (by omega) (fbE_1 h2) trivial⟩⟩) (q2_wf ..) hb (fun _ h=>by cases h)) (leafQ rfl rfl))
 by_cases h3:nbW ls 144<pN
 case neg=>exact path_safe [false,false,false,false,false,false,false,true] (asafe_val (out_safe oQeok mixed Tryz.func129 (qm4_e3 xs ls C big) (qnC_ok (by decide) (by omega) (by omega) (fbE_0 h0) ⟨rfl,qnC_ok (by decide) (by omega) (by omega) (fbE_0 h1) ⟨rfl,qnC_ok (by decide) (by omega) (by omega) (fbE_0 h2) ⟨rfl,qnC_ok (by decide) (by omega) (by omega) (fbE_1 h3) trivial⟩⟩⟩) (q2_wf ..) hb (fun _ h=>by cases h)) (leafQ rfl rfl))
 have:okN ls 4=true:=by
  show (decide (nbW ls 0<pN)&&(decide (nbW ls 48<pN)&&(decide (nbW ls 96<pN)&&(decide (nbW ls 144<pN)&&true))))=true
  rw [decide_eq_true h0,decide_eq_true h1,decide_eq_true h2,decide_eq_true h3];rfl
 rw [this] at h;cases h
end
theorem qpC_ok {xs:List Int} {s b:Bool} {r:List (Bool×Bool)} (h:0<xs.length) (hs:(!(flB xs 128==s))=b) (hr:okConds r):okConds (qpC xs s b r):=by
 have e:=decide_eq_true h
 exact ⟨rfl,rfl,rfl,e,rfl,e,hs,hr⟩
theorem qmC_ok {xs:List Int} {n m:Nat} {c:Bool} {r:List (Bool×Bool)} (h:0<xs.length) (hn:n≤xs.length) (hm:1<m) (h2:flB xs 64=c) (hr:okConds r):okConds (qmC' xs n m c r) :=
 ⟨rfl,decide_eq_true h,rfl,nb_lt hm,rfl,Nat.ble_eq_true_of_le hn,rfl,rfl,decide_eq_true h,h2,hr⟩
theorem q1s_no {xs:List Int} {n m:Nat} (hl:n≤xs.length) (hm:n≤m) (hn:hasB .i64 n=true) (hr:rdN 1 true (win xs 0 n)=false):CanOk Tryz.prog 129 (qA n m 1 true) (byH xs) 1 [] (qeV (rdE 1 true (win xs 0 n))) []:=by
 by_cases hk:n=48
 case neg =>
  have e:rdE 1 true (win xs 0 n)=200:=by unfold rdE;rw [win_len hl,if_pos hk]
  rw [e]
  exact can_val (can_run SQeok KQok Tryz.func129 (by kernel_rfl) (by kernel_rfl) (q1s_len xs n m) (by kernel_rfl) ⟨hn,by rw [decide_eq_false (by omega)];rfl,trivial⟩) (leafQ rfl rfl)
 subst hk
 have hx:0<xs.length:=by omega
 have hw:=win_len hl
 have er:=rsL_win (xs:=xs) (n:=48) (by decide)
 have elen:=rsL_len (xs:=xs) (k:=47) (by omega)
 unfold rdE rdN at *
 rw [flB_win (by decide),flB_win (by decide),flB_win (by decide),er,hw,decide_eq_true rfl,Bool.true_and] at hr
 rw [flB_win (by decide),flB_win (by decide),flB_win (by decide),er,hw,if_neg (fun h=>h rfl)]
 by_cases f1:flB xs 128=true
 case neg =>
  rw [if_pos f1]
  exact can_val (can_run SQeok KQok Tryz.func129 (by kernel_rfl) (by kernel_rfl) (q1s_f1 xs m) (by kernel_rfl) (qpC_ok hx (by cases hq:flB xs 128<;>first | rfl | exact absurd hq f1) trivial)) (leafQ rfl rfl)
 rw [if_neg (fun h=>h f1)]
 rw [decide_eq_true f1,Bool.true_and] at hr
 have p0:(!(flB xs 128==true))=false:=by rw [f1];rfl
 rw [if_neg (fun h=>by rw [Bool.not_true,Bool.and_false] at h;cases h)]
 rw [Bool.not_true,Bool.and_false,Bool.not_false,Bool.true_and] at hr
 cases f3:flB xs 64 with
 | true =>
  rw [if_pos rfl]
  refine can_entry (path:=[false,false,false,true]) Tryz.func129 (by kernel_rfl) (by kernel_rfl) fun β0 w0 hb=>?_
  exact seg_safe oQeok mixed (q1s_i xs m) (qpC_ok hx p0 (qmC_ok hx hl (by omega) f3 trivial)) (wfB_ok (by kernel_rfl)) hb (fun _ h=>by cases h) fun _=>q1_safe elen (by decide) (by decide) hb 48 0 (by decide) (fun j hj=>absurd hj (Nat.not_lt_zero j)) (fun h=>absurd h (Nat.lt_irrefl 0))
 | false =>
  rw [f3] at hr
  have hr':okN (rsL xs 47) 1=false:=hr
  rw [if_neg Bool.false_ne_true,if_neg (by rw [hr'];exact Bool.false_ne_true)]
  refine can_entry (path:=[false,false,false,false]) Tryz.func129 (by kernel_rfl) (by kernel_rfl) fun β0 w0 hb=>?_
  exact seg_safe oQeok mixed (q1s_n xs m) (qpC_ok hx p0 (qmC_ok hx hl (by omega) f3 trivial)) (wfB_ok (by kernel_rfl)) hb (fun _ h=>by cases h) fun _=>sx_safe fun C hC=>qm1_no hb hC elen hr'
theorem q1s_yes {xs:List Int} {n m:Nat} (hl:n≤xs.length) (hm:n≤m) (hr:rdN 1 true (win xs 0 n)=true):CanOk Tryz.prog 129 (qA n m 1 true) (byH xs) 1 [] (numQ 1 (flB (win xs 0 n) 32)) (rnH 1 (nmL (rsL (win xs 0 n) 47) 1)):=by
 unfold rdN at hr
 simp only [Bool.and_eq_true,decide_eq_true_eq] at hr
 obtain ⟨hk,f1,f2,f3,h4⟩:=hr
 rw [win_len hl] at hk
 have hk':n=48:=hk
 subst hk'
 have hx:0<xs.length:=by omega
 have er:=rsL_win (xs:=xs) (n:=48) (by decide)
 have elen:=rsL_len (xs:=xs) (k:=47) (by omega)
 rw [flB_win (by decide)] at f1 f2 f3
 rw [er] at h4
 rw [flB_win (by decide),er]
 have p0:(!(flB xs 128==true))=false:=by rw [f1];rfl
 have f3':flB xs 64=false:=by cases hq:flB xs 64 with | false=>rfl | true=>rw [hq] at f3;cases f3
 refine can_entry (path:=[false,false,false,false]) Tryz.func129 (by kernel_rfl) (by kernel_rfl) fun β0 w0 hb=>?_
 exact seg_safe oQeok mixed (q1s_n xs m) (qpC_ok hx p0 (qmC_ok hx hl (by omega) f3' trivial)) (wfB_ok (by kernel_rfl)) hb (fun _ h=>by cases h) fun _=>sx_safe fun C hC=>qm1_ok hb hC elen (okN_at h4 0 (by decide))
theorem q2l_no {xs:List Int} {n m:Nat} (hl:n≤xs.length) (hm:n≤m) (hn:hasB .i64 n=true) (hr:rdN 2 false (win xs 0 n)=false):CanOk Tryz.prog 129 (qA n m 2 false) (byH xs) 1 [] (qeV (rdE 2 false (win xs 0 n))) []:=by
 by_cases hk:n=96
 case neg =>
  have e:rdE 2 false (win xs 0 n)=200:=by unfold rdE;rw [win_len hl,if_pos hk]
  rw [e]
  exact can_val (can_run SQeok KQok Tryz.func129 (by kernel_rfl) (by kernel_rfl) (q2l_len xs n m) (by kernel_rfl) ⟨hn,by rw [decide_eq_false (by omega)];rfl,trivial⟩) (leafQ rfl rfl)
 subst hk
 have hx:0<xs.length:=by omega
 have hw:=win_len hl
 have er:=rsL_win (xs:=xs) (n:=96) (by decide)
 have elen:=rsL_len (xs:=xs) (k:=95) (by omega)
 unfold rdE rdN at *
 rw [flB_win (by decide),flB_win (by decide),flB_win (by decide),er,hw,decide_eq_true rfl,Bool.true_and] at hr
 rw [flB_win (by decide),flB_win (by decide),flB_win (by decide),er,hw,if_neg (fun h=>h rfl)]
 by_cases f1:flB xs 128=false
 case neg =>
  rw [if_pos f1]
  exact can_val (can_run SQeok KQok Tryz.func129 (by kernel_rfl) (by kernel_rfl) (q2l_f1 xs m) (by kernel_rfl) (qpC_ok hx (by cases hq:flB xs 128<;>first | rfl | exact absurd hq f1) trivial)) (leafQ rfl rfl)
 rw [if_neg (fun h=>h f1)]
 rw [decide_eq_true f1,Bool.true_and] at hr
 have p0:(!(flB xs 128==false))=false:=by rw [f1];rfl
 by_cases f2:flB xs 32=true
 case pos =>
  rw [if_pos (by rw [f2];rfl)]
  exact can_val (can_run SQeok KQok Tryz.func129 (by kernel_rfl) (by kernel_rfl) (q2l_f2 xs m) (by kernel_rfl) (qpC_ok hx p0 ⟨f2,trivial⟩)) (leafQ rfl rfl)
 have f2:flB xs 32=false:=by simpa using f2
 rw [if_neg (fun h=>by rw [f2] at h;cases h)]
 rw [f2,Bool.false_and,Bool.not_false,Bool.true_and] at hr
 cases f3:flB xs 64 with
 | true =>
  rw [if_pos rfl]
  refine can_entry (path:=[false,false,false,false,true]) Tryz.func129 (by kernel_rfl) (by kernel_rfl) fun β0 w0 hb=>?_
  exact seg_safe oQeok mixed (q2l_i xs m) (qpC_ok hx p0 ⟨f2,qmC_ok hx hl (by omega) f3 trivial⟩) (wfB_ok (by kernel_rfl)) hb (fun _ h=>by cases h) fun _=>q1_safe elen (by decide) (by decide) hb 96 0 (by decide) (fun j hj=>absurd hj (Nat.not_lt_zero j)) (fun h=>absurd h (Nat.lt_irrefl 0))
 | false =>
  rw [f3] at hr
  have hr':okN (rsL xs 95) 2=false:=hr
  rw [if_neg Bool.false_ne_true,if_neg (by rw [hr'];exact Bool.false_ne_true)]
  refine can_entry (path:=[false,false,false,false,false]) Tryz.func129 (by kernel_rfl) (by kernel_rfl) fun β0 w0 hb=>?_
  exact seg_safe oQeok mixed (q2l_n xs m) (qpC_ok hx p0 ⟨f2,qmC_ok hx hl (by omega) f3 trivial⟩) (wfB_ok (by kernel_rfl)) hb (fun _ h=>by cases h) fun _=>sx_safe fun C hC=>qm2_no hb hC elen hr'
theorem q2l_yes {xs:List Int} {n m:Nat} (hl:n≤xs.length) (hm:n≤m) (hr:rdN 2 false (win xs 0 n)=true):CanOk Tryz.prog 129 (qA n m 2 false) (byH xs) 1 [] (numQ 2 (flB (win xs 0 n) 32)) (rnH 2 (nmL (rsL (win xs 0 n) 95) 2)):=by
 unfold rdN at hr
 simp only [Bool.and_eq_true,decide_eq_true_eq] at hr
 obtain ⟨hk,f1,f2,f3,h4⟩:=hr
 rw [win_len hl] at hk
 have hk':n=96:=hk
 subst hk'
 have hx:0<xs.length:=by omega
 have er:=rsL_win (xs:=xs) (n:=96) (by decide)
 have elen:=rsL_len (xs:=xs) (k:=95) (by omega)
 rw [flB_win (by decide)] at f1 f2 f3
 rw [er] at h4
 rw [flB_win (by decide),er]
 have p0:(!(flB xs 128==false))=false:=by rw [f1];rfl
 have f3':flB xs 64=false:=by cases hq:flB xs 64 with | false=>rfl | true=>rw [hq] at f3;cases f3
 have f2:flB xs 32=false:=by cases hq:flB xs 32 with | false=>rfl | true=>rw [hq] at f2;cases f2
 refine can_entry (path:=[false,false,false,false,false]) Tryz.func129 (by kernel_rfl) (by kernel_rfl) fun β0 w0 hb=>?_
 exact seg_safe oQeok mixed (q2l_n xs m) (qpC_ok hx p0 ⟨f2,qmC_ok hx hl (by omega) f3' trivial⟩) (wfB_ok (by kernel_rfl)) hb (fun _ h=>by cases h) fun _=>sx_safe fun C hC=>qm2_ok hb hC elen (okN_at h4 0 (by decide)) (okN_at h4 1 (by decide))
theorem q2s_no {xs:List Int} {n m:Nat} (hl:n≤xs.length) (hm:n≤m) (hn:hasB .i64 n=true) (hr:rdN 2 true (win xs 0 n)=false):CanOk Tryz.prog 129 (qA n m 2 true) (byH xs) 1 [] (qeV (rdE 2 true (win xs 0 n))) []:=by
 by_cases hk:n=96
 case neg =>
  have e:rdE 2 true (win xs 0 n)=200:=by unfold rdE;rw [win_len hl,if_pos hk]
  rw [e]
  exact can_val (can_run SQeok KQok Tryz.func129 (by kernel_rfl) (by kernel_rfl) (q2s_len xs n m) (by kernel_rfl) ⟨hn,by rw [decide_eq_false (by omega)];rfl,trivial⟩) (leafQ rfl rfl)
 subst hk
 have hx:0<xs.length:=by omega
 have hw:=win_len hl
 have er:=rsL_win (xs:=xs) (n:=96) (by decide)
 have elen:=rsL_len (xs:=xs) (k:=95) (by omega)
 unfold rdE rdN at *
 rw [flB_win (by decide),flB_win (by decide),flB_win (by decide),er,hw,decide_eq_true rfl,Bool.true_and] at hr
 rw [flB_win (by decide),flB_win (by decide),flB_win (by decide),er,hw,if_neg (fun h=>h rfl)]
 by_cases f1:flB xs 128=true
 case neg =>
  rw [if_pos f1]
  exact can_val (can_run SQeok KQok Tryz.func129 (by kernel_rfl) (by kernel_rfl) (q2s_f1 xs m) (by kernel_rfl) (qpC_ok hx (by cases hq:flB xs 128<;>first | rfl | exact absurd hq f1) trivial)) (leafQ rfl rfl)
 rw [if_neg (fun h=>h f1)]
 rw [decide_eq_true f1,Bool.true_and] at hr
 have p0:(!(flB xs 128==true))=false:=by rw [f1];rfl
 rw [if_neg (fun h=>by rw [Bool.not_true,Bool.and_false] at h;cases h)]
 rw [Bool.not_true,Bool.and_false,Bool.not_false,Bool.true_and] at hr
 cases f3:flB xs 64 with
 | true =>
  rw [if_pos rfl]
  refine can_entry (path:=[false,false,false,true]) Tryz.func129 (by kernel_rfl) (by kernel_rfl) fun β0 w0 hb=>?_
  exact seg_safe oQeok mixed (q2s_i xs m) (qpC_ok hx p0 (qmC_ok hx hl (by omega) f3 trivial)) (wfB_ok (by kernel_rfl)) hb (fun _ h=>by cases h) fun _=>q1_safe elen (by decide) (by decide) hb 96 0 (by decide) (fun j hj=>absurd hj (Nat.not_lt_zero j)) (fun h=>absurd h (Nat.lt_irrefl 0))
 | false =>
  rw [f3] at hr
  have hr':okN (rsL xs 95) 2=false:=hr
  rw [if_neg Bool.false_ne_true,if_neg (by rw [hr'];exact Bool.false_ne_true)]
  refine can_entry (path:=[false,false,false,false]) Tryz.func129 (by kernel_rfl) (by kernel_rfl) fun β0 w0 hb=>?_
  exact seg_safe oQeok mixed (q2s_n xs m) (qpC_ok hx p0 (qmC_ok hx hl (by omega) f3 trivial)) (wfB_ok (by kernel_rfl)) hb (fun _ h=>by cases h) fun _=>sx_safe fun C hC=>qm2_no hb hC elen hr'
theorem q2s_yes {xs:List Int} {n m:Nat} (hl:n≤xs.length) (hm:n≤m) (hr:rdN 2 true (win xs 0 n)=true):CanOk Tryz.prog 129 (qA n m 2 true) (byH xs) 1 [] (numQ 2 (flB (win xs 0 n) 32)) (rnH 2 (nmL (rsL (win xs 0 n) 95) 2)):=by
 unfold rdN at hr
 simp only [Bool.and_eq_true,decide_eq_true_eq] at hr
 obtain ⟨hk,f1,f2,f3,h4⟩:=hr
 rw [win_len hl] at hk
 have hk':n=96:=hk
 subst hk'
 have hx:0<xs.length:=by omega
 have er:=rsL_win (xs:=xs) (n:=96) (by decide)
 have elen:=rsL_len (xs:=xs) (k:=95) (by omega)
 rw [flB_win (by decide)] at f1 f2 f3
 rw [er] at h4
 rw [flB_win (by decide),er]
 have p0:(!(flB xs 128==true))=false:=by rw [f1];rfl
 have f3':flB xs 64=false:=by cases hq:flB xs 64 with | false=>rfl | true=>rw [hq] at f3;cases f3
 refine can_entry (path:=[false,false,false,false]) Tryz.func129 (by kernel_rfl) (by kernel_rfl) fun β0 w0 hb=>?_
 exact seg_safe oQeok mixed (q2s_n xs m) (qpC_ok hx p0 (qmC_ok hx hl (by omega) f3' trivial)) (wfB_ok (by kernel_rfl)) hb (fun _ h=>by cases h) fun _=>sx_safe fun C hC=>qm2_ok hb hC elen (okN_at h4 0 (by decide)) (okN_at h4 1 (by decide))
theorem q4l_no {xs:List Int} {n m:Nat} (hl:n≤xs.length) (hm:n≤m) (hn:hasB .i64 n=true) (hr:rdN 4 false (win xs 0 n)=false):CanOk Tryz.prog 129 (qA n m 4 false) (byH xs) 1 [] (qeV (rdE 4 false (win xs 0 n))) []:=by
 by_cases hk:n=192
 case neg =>
  have e:rdE 4 false (win xs 0 n)=200:=by unfold rdE;rw [win_len hl,if_pos hk]
  rw [e]
  exact can_val (can_run SQeok KQok Tryz.func129 (by kernel_rfl) (by kernel_rfl) (q4l_len xs n m) (by kernel_rfl) ⟨hn,by rw [decide_eq_false (by omega)];rfl,trivial⟩) (leafQ rfl rfl)
 subst hk
 have hx:0<xs.length:=by omega
 have hw:=win_len hl
 have er:=rsL_win (xs:=xs) (n:=192) (by decide)
 have elen:=rsL_len (xs:=xs) (k:=191) (by omega)
 unfold rdE rdN at *
 rw [flB_win (by decide),flB_win (by decide),flB_win (by decide),er,hw,decide_eq_true rfl,Bool.true_and] at hr
 rw [flB_win (by decide),flB_win (by decide),flB_win (by decide),er,hw,if_neg (fun h=>h rfl)]
 by_cases f1:flB xs 128=false
 case neg =>
  rw [if_pos f1]
  exact can_val (can_run SQeok KQok Tryz.func129 (by kernel_rfl) (by kernel_rfl) (q4l_f1 xs m) (by kernel_rfl) (qpC_ok hx (by cases hq:flB xs 128<;>first | rfl | exact absurd hq f1) trivial)) (leafQ rfl rfl)
 rw [if_neg (fun h=>h f1)]
 rw [decide_eq_true f1,Bool.true_and] at hr
 have p0:(!(flB xs 128==false))=false:=by rw [f1];rfl
 by_cases f2:flB xs 32=true
 case pos =>
  rw [if_pos (by rw [f2];rfl)]
  exact can_val (can_run SQeok KQok Tryz.func129 (by kernel_rfl) (by kernel_rfl) (q4l_f2 xs m) (by kernel_rfl) (qpC_ok hx p0 ⟨f2,trivial⟩)) (leafQ rfl rfl)
 have f2:flB xs 32=false:=by simpa using f2
 rw [if_neg (fun h=>by rw [f2] at h;cases h)]
 rw [f2,Bool.false_and,Bool.not_false,Bool.true_and] at hr
 cases f3:flB xs 64 with
 | true =>
  rw [if_pos rfl]
  refine can_entry (path:=[false,false,false,false,true]) Tryz.func129 (by kernel_rfl) (by kernel_rfl) fun β0 w0 hb=>?_
  exact seg_safe oQeok mixed (q4l_i xs m) (qpC_ok hx p0 ⟨f2,qmC_ok hx hl (by omega) f3 trivial⟩) (wfB_ok (by kernel_rfl)) hb (fun _ h=>by cases h) fun _=>q1_safe elen (by decide) (by decide) hb 192 0 (by decide) (fun j hj=>absurd hj (Nat.not_lt_zero j)) (fun h=>absurd h (Nat.lt_irrefl 0))
 | false =>
  rw [f3] at hr
  have hr':okN (rsL xs 191) 4=false:=hr
  rw [if_neg Bool.false_ne_true,if_neg (by rw [hr'];exact Bool.false_ne_true)]
  refine can_entry (path:=[false,false,false,false,false]) Tryz.func129 (by kernel_rfl) (by kernel_rfl) fun β0 w0 hb=>?_
  exact seg_safe oQeok mixed (q4l_n xs m) (qpC_ok hx p0 ⟨f2,qmC_ok hx hl (by omega) f3 trivial⟩) (wfB_ok (by kernel_rfl)) hb (fun _ h=>by cases h) fun _=>sx_safe fun C hC=>qm4_no hb hC elen hr'
theorem q4l_yes {xs:List Int} {n m:Nat} (hl:n≤xs.length) (hm:n≤m) (hr:rdN 4 false (win xs 0 n)=true):CanOk Tryz.prog 129 (qA n m 4 false) (byH xs) 1 [] (numQ 4 (flB (win xs 0 n) 32)) (rnH 4 (nmL (rsL (win xs 0 n) 191) 4)):=by
 unfold rdN at hr
 simp only [Bool.and_eq_true,decide_eq_true_eq] at hr
 obtain ⟨hk,f1,f2,f3,h4⟩:=hr
 rw [win_len hl] at hk
 have hk':n=192:=hk
 subst hk'
 have hx:0<xs.length:=by omega
 have er:=rsL_win (xs:=xs) (n:=192) (by decide)
 have elen:=rsL_len (xs:=xs) (k:=191) (by omega)
 rw [flB_win (by decide)] at f1 f2 f3
 rw [er] at h4
 rw [flB_win (by decide),er]
 have p0:(!(flB xs 128==false))=false:=by rw [f1];rfl
 have f3':flB xs 64=false:=by cases hq:flB xs 64 with | false=>rfl | true=>rw [hq] at f3;cases f3
 have f2:flB xs 32=false:=by cases hq:flB xs 32 with | false=>rfl | true=>rw [hq] at f2;cases f2
 refine can_entry (path:=[false,false,false,false,false]) Tryz.func129 (by kernel_rfl) (by kernel_rfl) fun β0 w0 hb=>?_
 exact seg_safe oQeok mixed (q4l_n xs m) (qpC_ok hx p0 ⟨f2,qmC_ok hx hl (by omega) f3' trivial⟩) (wfB_ok (by kernel_rfl)) hb (fun _ h=>by cases h) fun _=>sx_safe fun C hC=>qm4_ok hb hC elen (okN_at h4 0 (by decide)) (okN_at h4 1 (by decide)) (okN_at h4 2 (by decide)) (okN_at h4 3 (by decide))
def rqK (k:Int) (s:Bool):Option Nat:=if k=1 then (match s with | true=>some 1 | false=>none) else if k=2 then some 2 else if k=4 then (match s with | true=>none | false=>some 4) else none
theorem rq_no {k:Int} {s:Bool} {K:Nat} (hK:rqK k s=some K) {xs:List Int} {n m:Nat} (hl:n≤xs.length) (hm:n≤m) (hn:hasB .i64 n=true) (hr:rdN K s (win xs 0 n)=false):CanOk Tryz.prog 129 (qA n m k s) (byH xs) 1 [] (qeV (rdE K s (win xs 0 n))) []:=by
 unfold rqK at hK
 split at hK
 ·rename_i e;subst e
  cases s
  ·cases hK
  ·injection hK with hK;subst hK;exact q1s_no hl hm hn hr
 ·split at hK
  ·rename_i e;subst e
   injection hK with hK;subst hK
   cases s
   ·exact q2l_no hl hm hn hr
   ·exact q2s_no hl hm hn hr
  ·split at hK
   ·rename_i e;subst e
    cases s
    ·injection hK with hK;subst hK;exact q4l_no hl hm hn hr
    ·cases hK
   ·cases hK
theorem rq_yes {k:Int} {s:Bool} {K:Nat} (hK:rqK k s=some K) {xs:List Int} {n m:Nat} (hl:n≤xs.length) (hm:n≤m) (hr:rdN K s (win xs 0 n)=true):CanOk Tryz.prog 129 (qA n m k s) (byH xs) 1 [] (numQ K (flB (win xs 0 n) 32)) (rnH K (nmL (rsL (win xs 0 n) (48*K-1)) K)):=by
 unfold rqK at hK
 split at hK
 ·rename_i e;subst e
  cases s
  ·cases hK
  ·injection hK with hK;subst hK;exact q1s_yes hl hm hr
 ·split at hK
  ·rename_i e;subst e
   injection hK with hK;subst hK
   cases s
   ·exact q2l_yes hl hm hr
   ·exact q2s_yes hl hm hr
  ·split at hK
   ·rename_i e;subst e
    cases s
    ·injection hK with hK;subst hK;exact q4l_yes hl hm hr
    ·cases hK
   ·cases hK
theorem rqK_cases {k:Int} {s:Bool} {K:Nat} (hK:rqK k s=some K):K=1∨K=2∨K=4:=by
 unfold rqK at hK
 split at hK
 ·cases s
  ·cases hK
  ·injection hK with hK;omega
 ·split at hK
  ·injection hK with hK;omega
  ·split at hK
   ·cases s
    ·injection hK with hK;omega
    ·cases hK
   ·cases hK
theorem rq_canB {K:Nat} (h:K=1∨K=2∨K=4) (b:Bool) (l:List Int):canB 1 (3*K+2) [] (numQ K b) (rnH K (nmL l K))=true:=by
 rcases h with rfl | rfl | rfl<;>kernel_rfl
noncomputable def rqSp:ASpec:=fun args H fr path=>match args with
 | [S,.val false [.n .i64 h],B]=>match asSm S,asB (some B) with
  | some (k,n,m),some (_,s)=>match hget H k,rqK h s with
   | some ⟨_,cs,_⟩,some K=>match toSeq .u8 cs,path with
    | some xs,true::rest=>some (trR [k] 1 fr 0 [] (qeV (rdE K s (win xs 0 n))) [] (rdC n m xs (rdN K s (win xs 0 n)) false) rest)
    | some xs,false::rest=>some (trR [k] 1 fr (3*K+2) [] (numQ K (flB (win xs 0 n) 32)) (rnH K (nmL (rsL (win xs 0 n) (48*K-1)) K)) (rdC n m xs (rdN K s (win xs 0 n)) true) rest)
    | _,_=>none
   | _,_=>none
  | _,_=>none
 | _=>none
theorem rqSp_ok:SpecOk Tryz.prog 129 rqSp:=by
 refine can_spec2 Tryz.func129 (by kernel_rfl) (by kernel_rfl) fun args H fr path r hs=>?_
 unfold rqSp at hs
 split at hs
 case h_2=>cases hs
 rename_i S h B
 split at hs
 case h_2=>cases hs
 rename_i k n m c s hS hB
 split at hs
 case h_2=>cases hs
 rename_i ty cs o K hk' hK
 split at hs
 case h_3=>cases hs
 all_goals
  rename_i xs rest hxs
  injection hs with hs
 ·refine ⟨[k],1,0,[],_,_,_,rest,hs.symm,fun β us w ha hg hc=>?_⟩
  obtain ⟨u1,us1,r1,⟨u2,us2,r2,⟨u3,us3,r3,ha,rfl⟩,rfl⟩,rfl⟩:=ha
  obtain ⟨hl,hm,hn,hr,_⟩:=hc
  obtain ⟨m',hm',r1⟩:=asSm_rel hS (Nat.le_of_ble_eq_true hm) r1
  obtain ⟨g1,g2,g3⟩:=good_by hg hk' hxs
  exact ⟨qA n m' h s,byH xs,rq_no hK (Nat.le_of_ble_eq_true hl) hm' hn hr,by kernel_rfl,⟨u1,_,sl_in (by omega) rfl r1,⟨u2,_,r2,⟨u3,us3,bB_rel hB r3,ha,rfl⟩,rfl⟩,rfl⟩,g2,g3⟩
 ·refine ⟨[k],1,3*K+2,[],_,_,_,rest,hs.symm,fun β us w ha hg hc=>?_⟩
  obtain ⟨u1,us1,r1,⟨u2,us2,r2,⟨u3,us3,r3,ha,rfl⟩,rfl⟩,rfl⟩:=ha
  obtain ⟨hl,hm,hn,hr,_⟩:=hc
  obtain ⟨m',hm',r1⟩:=asSm_rel hS (Nat.le_of_ble_eq_true hm) r1
  obtain ⟨g1,g2,g3⟩:=good_by hg hk' hxs
  exact ⟨qA n m' h s,byH xs,rq_yes hK (Nat.le_of_ble_eq_true hl) hm' hr,rq_canB (rqK_cases hK) _ _,⟨u1,_,sl_in (by omega) rfl r1,⟨u2,_,r2,⟨u3,us3,bB_rel hB r3,ha,rfl⟩,rfl⟩,rfl⟩,g2,g3⟩
noncomputable def SQf:List (FuncId×ASpec):=(129,rqSp)::SQe
theorem SQfok:SpecsOk Tryz.prog SQf:=⟨rqSp_ok,SQeok⟩
noncomputable abbrev oQf:Orc:=orc SQf KQ
end Go.Proofs.YtfmajnlfpnjagaaGreat
/- sigilref20: Decode1, Decode2: the contracts. -/
namespace Go.Proofs.YtfmajnlfpnjagaaGreat
open Ex Num Rg
open Sh (R av rd mo en mo_en)
set_option maxRecDepth 100000
set_option maxHeartbeats 4000000
noncomputable def sqA2 (x:R FP2):Bool:=is2 (mo (ad FP2 (mu FP2 (mu FP2 x x) x) ((4:Nat),(4:Nat))))
def z24v (b:Bool):List Ch:=List.replicate 24 (.n .u64 0)++[.v (.bool b)]
section
variable (n m:Nat) (xs:List Int)
noncomputable def k2S (s:Bool) (p:List Bool):ASt:=entry Tryz.f66 (dcA n m s) (byH xs) 1 p
theorem k2s_e:segOut Tryz.prog oQf Tryz.f66 800 1 [] (k2S n m xs true [true,true])=some (wcC n m xs (rdN 2 true (win xs 0 n)) false [(!decide (rdE 2 true (win xs 0 n)=0),true)],[],.tup [(true,z24v (decide (rdE 2 true (win xs 0 n)=0))),(false,[.v (.int .i64 (rdE 2 true (win xs 0 n)))])],[]):=by kernel_rfl
theorem k2s_i:segOut Tryz.prog oQf Tryz.f66 800 1 [] (k2S n m xs true [true,false,true])=some (wcC n m xs (rdN 2 true (win xs 0 n)) false [(!decide (rdE 2 true (win xs 0 n)=0),false),(decide (rdE 2 true (win xs 0 n)=0),true)],[],.tup [(true,z24v (decide (rdE 2 true (win xs 0 n)=0))),(false,[.v (.int .i64 (rdE 2 true (win xs 0 n)))])],[]):=by kernel_rfl
theorem k2l_e:segOut Tryz.prog oQf Tryz.f66 800 1 [] (k2S n m xs false [true,true])=some (wcC n m xs (rdN 4 false (win xs 0 n)) false [(!decide (rdE 4 false (win xs 0 n)=0),true)],[],.tup [(true,z24v (decide (rdE 4 false (win xs 0 n)=0))),(false,[.v (.int .i64 (rdE 4 false (win xs 0 n)))])],[]):=by kernel_rfl
theorem k2l_i:segOut Tryz.prog oQf Tryz.f66 800 1 [] (k2S n m xs false [true,false,true])=some (wcC n m xs (rdN 4 false (win xs 0 n)) false [(!decide (rdE 4 false (win xs 0 n)=0),false),(decide (rdE 4 false (win xs 0 n)=0),true)],[],.tup [(true,z24v (decide (rdE 4 false (win xs 0 n)=0))),(false,[.v (.int .i64 (rdE 4 false (win xs 0 n)))])],[]):=by kernel_rfl
noncomputable def k2C (b:Bool) (r:List (Bool×Bool)):List (Bool×Bool):=wcC n m xs (rdN 2 true (win xs 0 n)) true (tt 2 ((!sqA2 (x2 2 (win xs 0 n)),b)::r))
theorem k2s_n:segOut Tryz.prog oQf Tryz.f66 800 1 [] (k2S n m xs true [false,true])=some (k2C n m xs true [],[],dE2 204,[]):=by kernel_rfl
theorem k2s_t1:segOut Tryz.prog oQf Tryz.f66 800 1 [] (k2S n m xs true [false,false,true,true])=some (k2C n m xs false ([(!(bg2 (mo (y2R (x2 2 (win xs 0 n))))==flB (win xs 0 n) 32),true),(!on2 (mo ((x2 2 (win xs 0 n)),(ng FP2 (y2R (x2 2 (win xs 0 n)))),false):P2),true)]),[],dE2 204,[]):=by kernel_rfl
theorem k2s_t2:segOut Tryz.prog oQf Tryz.f66 800 1 [] (k2S n m xs true [false,false,true,false,true])=some (k2C n m xs false ([(!(bg2 (mo (y2R (x2 2 (win xs 0 n))))==flB (win xs 0 n) 32),true),(!on2 (mo ((x2 2 (win xs 0 n)),(ng FP2 (y2R (x2 2 (win xs 0 n)))),false):P2),false),(!in2 (mo ((x2 2 (win xs 0 n)),(ng FP2 (y2R (x2 2 (win xs 0 n)))),false):P2),true)]),[],dE2 205,[]):=by kernel_rfl
theorem k2s_t3:segOut Tryz.prog oQf Tryz.f66 800 1 [] (k2S n m xs true [false,false,true,false,false])=some (k2C n m xs false ([(!(bg2 (mo (y2R (x2 2 (win xs 0 n))))==flB (win xs 0 n) 32),true),(!on2 (mo ((x2 2 (win xs 0 n)),(ng FP2 (y2R (x2 2 (win xs 0 n)))),false):P2),false),(!in2 (mo ((x2 2 (win xs 0 n)),(ng FP2 (y2R (x2 2 (win xs 0 n)))),false):P2),false)]),[],dP2 (x2 2 (win xs 0 n)) (ng FP2 (y2R (x2 2 (win xs 0 n)))),[]):=by kernel_rfl
theorem k2s_f1:segOut Tryz.prog oQf Tryz.f66 800 1 [] (k2S n m xs true [false,false,false,true])=some (k2C n m xs false ([(!(bg2 (mo (y2R (x2 2 (win xs 0 n))))==flB (win xs 0 n) 32),false),(!on2 (mo ((x2 2 (win xs 0 n)),(y2R (x2 2 (win xs 0 n))),false):P2),true)]),[],dE2 204,[]):=by kernel_rfl
theorem k2s_f2:segOut Tryz.prog oQf Tryz.f66 800 1 [] (k2S n m xs true [false,false,false,false,true])=some (k2C n m xs false ([(!(bg2 (mo (y2R (x2 2 (win xs 0 n))))==flB (win xs 0 n) 32),false),(!on2 (mo ((x2 2 (win xs 0 n)),(y2R (x2 2 (win xs 0 n))),false):P2),false),(!in2 (mo ((x2 2 (win xs 0 n)),(y2R (x2 2 (win xs 0 n))),false):P2),true)]),[],dE2 205,[]):=by kernel_rfl
theorem k2s_f3:segOut Tryz.prog oQf Tryz.f66 800 1 [] (k2S n m xs true [false,false,false,false,false])=some (k2C n m xs false ([(!(bg2 (mo (y2R (x2 2 (win xs 0 n))))==flB (win xs 0 n) 32),false),(!on2 (mo ((x2 2 (win xs 0 n)),(y2R (x2 2 (win xs 0 n))),false):P2),false),(!in2 (mo ((x2 2 (win xs 0 n)),(y2R (x2 2 (win xs 0 n))),false):P2),false)]),[],dP2 (x2 2 (win xs 0 n)) (y2R (x2 2 (win xs 0 n))),[]):=by kernel_rfl
noncomputable def k2D (r:List (Bool×Bool)):List (Bool×Bool):=wcC n m xs (rdN 4 false (win xs 0 n)) true (tt 4 r)
theorem k2l_1:segOut Tryz.prog oQf Tryz.f66 800 1 [] (k2S n m xs false [false,true])=some (k2D n m xs [(!on2 (mo ((x2 4 (win xs 0 n)),(z2 (win xs 0 n)),false):P2),true)],[],dE2 204,[]):=by kernel_rfl
theorem k2l_2:segOut Tryz.prog oQf Tryz.f66 800 1 [] (k2S n m xs false [false,false,true])=some (k2D n m xs [(!on2 (mo ((x2 4 (win xs 0 n)),(z2 (win xs 0 n)),false):P2),false),(!in2 (mo ((x2 4 (win xs 0 n)),(z2 (win xs 0 n)),false):P2),true)],[],dE2 205,[]):=by kernel_rfl
theorem k2l_3:segOut Tryz.prog oQf Tryz.f66 800 1 [] (k2S n m xs false [false,false,false])=some (k2D n m xs [(!on2 (mo ((x2 4 (win xs 0 n)),(z2 (win xs 0 n)),false):P2),false),(!in2 (mo ((x2 4 (win xs 0 n)),(z2 (win xs 0 n)),false):P2),false)],[],dP2 (x2 4 (win xs 0 n)) (z2 (win xs 0 n)),[]):=by kernel_rfl
end
theorem nsq2 {x:R FP2} (h:sqA2 x=false) (c:Bool):on2 (mo (x,yB2 x c,false))=false:=by
 cases ho:on2 (mo (x,yB2 x c,false)) with
 | false=>rfl
 | true =>
  have hq:(mo (yB2 x c):FP2)*mo (yB2 x c)=mo x*mo x*mo x+four2:=(on2_iff _).1 ho
  have e:(mo (ad FP2 (mu FP2 (mu FP2 x x) x) ((4:Nat),(4:Nat))):FP2)=mo x*mo x*mo x+four2:=by
   unfold ad mu
   rw [mo_en,mo_en,mo_en];rfl
  have h2:=is2_iff.2 ⟨_,hq⟩
  unfold sqA2 at h
  rw [e,h2] at h;cases h
theorem z24_A {β:Env} {e:Int} {q:P2} {b:Bool} (hq:(rd (z24v b):Option (R P2))=some (en q)) {u:Value} (h:relA β (.tup [(true,z24v b),(false,[.v (.int .i64 e)])]) u):relA β (gmV2 (q,e)) u :=
 relT2 (fun _ ⟨l,q,e⟩=>⟨l,Sh.rd_ok (α:=P2) hq q,e⟩) (fun _ q=>q) h
theorem z24v_t:(rd (z24v true):Option (R P2))=some (en (.inf:P2)):=by kernel_rfl
theorem z24v_f:(rd (z24v false):Option (R P2))=some (en (.pt 0 0:P2)):=by kernel_rfl
theorem k2_fin {n m:Nat} {xs:List Int} {s:Bool} {x y:R FP2} (hx:redB x=true) (hy:redB y=true) {C:List (Bool×Bool)→List (Bool×Bool)} (hC:∀ r,okConds r→okConds (C r)) {p1 p2 p3:List Bool}
  (h1:segOut Tryz.prog oQf Tryz.f66 800 1 [] (k2S n m xs s p1)=some (C [(!on2 (mo (x,y,false):P2),true)],[],dE2 204,[]))
  (h2:segOut Tryz.prog oQf Tryz.f66 800 1 [] (k2S n m xs s p2)=some (C [(!on2 (mo (x,y,false):P2),false),(!in2 (mo (x,y,false):P2),true)],[],dE2 205,[]))
  (h3:segOut Tryz.prog oQf Tryz.f66 800 1 [] (k2S n m xs s p3)=some (C [(!on2 (mo (x,y,false):P2),false),(!in2 (mo (x,y,false):P2),false)],[],dP2 x y,[])) :
  CanOk Tryz.prog 66 (dcA n m s) (byH xs) 1 [] (gmV2 (fin2 (mo (x,y,false):P2))) []:=by
 unfold fin2
 cases ho:on2 (mo (x,y,false):P2) with
 | false =>
  rw [if_neg Bool.false_ne_true]
  exact can_val (can_run SQfok KQok Tryz.func66 (by kernel_rfl) (by kernel_rfl) h1 (by kernel_rfl) (hC _ ⟨by rw [ho];rfl,trivial⟩)) fun _ _ q=>gz_A2 q
 | true =>
  rw [if_pos rfl]
  cases hi:in2 (mo (x,y,false):P2) with
  | false =>
   rw [if_neg Bool.false_ne_true]
   exact can_val (can_run SQfok KQok Tryz.func66 (by kernel_rfl) (by kernel_rfl) h2 (by kernel_rfl) (hC _ ⟨by rw [ho];rfl,by rw [hi];rfl,trivial⟩)) fun _ _ q=>gz_A2 q
  | true =>
   rw [if_pos rfl]
   exact can_val (can_run SQfok KQok Tryz.func66 (by kernel_rfl) (by kernel_rfl) h3 (by kernel_rfl) (hC _ ⟨by rw [ho];rfl,by rw [hi];rfl,trivial⟩)) fun _ _ q=>gp_A2 hx hy q
theorem k2_can {n m:Nat} {xs:List Int} (hl:n≤xs.length) (hm:n≤m) (hn:hasB .i64 n=true) (s:Bool):CanOk Tryz.prog 66 (dcA n m s) (byH xs) 1 [] (gmV2 (dec2 s (win xs 0 n))) []:=by
 have hW:∀ (b d:Bool) r,b=d→okConds r→okConds (wcC n m xs b d r):=fun b d r h hr=>⟨Nat.ble_eq_true_of_le hl,Nat.ble_eq_true_of_le hm,hn,h,hr⟩
 cases hr:rdN (kT s) s (win xs 0 n) with
 | false =>
  unfold dec2
  rw [hr,if_neg Bool.false_ne_true]
  by_cases he:rdE (kT s) s (win xs 0 n)=0
  ·rw [if_pos he]
   cases s with
   | true =>
    have t:=k2s_i n m xs
    have he:rdE 2 true (win xs 0 n)=0:=he
    rw [he] at t
    exact can_val (can_run SQfok KQok Tryz.func66 (by kernel_rfl) (by kernel_rfl) t (by kernel_rfl) (hW _ _ _ hr ⟨rfl,rfl,trivial⟩)) fun _ _ q=>z24_A (q:=.inf) z24v_t q
   | false =>
    have t:=k2l_i n m xs
    have he:rdE 4 false (win xs 0 n)=0:=he
    rw [he] at t
    exact can_val (can_run SQfok KQok Tryz.func66 (by kernel_rfl) (by kernel_rfl) t (by kernel_rfl) (hW _ _ _ hr ⟨rfl,rfl,trivial⟩)) fun _ _ q=>z24_A (q:=.inf) z24v_t q
  ·rw [if_neg he]
   cases s with
   | true =>
    exact can_val (can_run SQfok KQok Tryz.func66 (by kernel_rfl) (by kernel_rfl) (k2s_e n m xs) (by kernel_rfl) (hW _ _ _ hr ⟨e0_true he,trivial⟩)) fun _ _ q=>by
     have he:¬ rdE 2 true (win xs 0 n)=0:=he
     rw [decide_eq_false he] at q
     exact z24_A (q:=.pt 0 0) z24v_f q
   | false =>
    exact can_val (can_run SQfok KQok Tryz.func66 (by kernel_rfl) (by kernel_rfl) (k2l_e n m xs) (by kernel_rfl) (hW _ _ _ hr ⟨e0_true he,trivial⟩)) fun _ _ q=>by
     have he:¬ rdE 4 false (win xs 0 n)=0:=he
     rw [decide_eq_false he] at q
     exact z24_A (q:=.pt 0 0) z24v_f q
 | true =>
  cases s with
  | true =>
   have hx:=red_pair (xN_lt hr 1 (by decide)) (xN_lt hr 0 (by decide))
   cases hs:sqA2 (x2 2 (win xs 0 n)) with
   | false =>
    have ev:dec2 true (win xs 0 n)=(.pt 0 0,204):=by
     unfold dec2
     rw [hr,if_pos rfl]
     unfold fin2
     rw [show on2 (pt2 true (win xs 0 n))=false from nsq2 hs _,if_neg Bool.false_ne_true]
    rw [ev]
    exact can_val (can_run SQfok KQok Tryz.func66 (by kernel_rfl) (by kernel_rfl) (k2s_n n m xs) (by kernel_rfl) (hW _ _ _ hr (tt_ok 2 ⟨by rw [hs];rfl,trivial⟩))) fun _ _ q=>gz_A2 q
   | true =>
    unfold dec2
    rw [hr,if_pos rfl]
    unfold pt2 yB2
    have hs':(!sqA2 (x2 2 (win xs 0 n)))=false:=by rw [hs];rfl
    by_cases hb:(!(bg2 (mo (y2R (x2 2 (win xs 0 n))))==flB (win xs 0 n) 32))=true
    ·simp only [if_pos hb]
     exact k2_fin hx (ng2_red _) (C:=fun r=>k2C n m xs false ((!(bg2 (mo (y2R (x2 2 (win xs 0 n))))==flB (win xs 0 n) 32),true)::r)) (fun r hq=>hW _ _ _ hr (tt_ok 2 ⟨hs',hb,hq⟩)) (k2s_t1 n m xs) (k2s_t2 n m xs) (k2s_t3 n m xs)
    ·simp only [if_neg hb]
     exact k2_fin hx (y2R_red _) (C:=fun r=>k2C n m xs false ((!(bg2 (mo (y2R (x2 2 (win xs 0 n))))==flB (win xs 0 n) 32),false)::r)) (fun r hq=>hW _ _ _ hr (tt_ok 2 ⟨hs',by simpa using hb,hq⟩)) (k2s_f1 n m xs) (k2s_f2 n m xs) (k2s_f3 n m xs)
  | false =>
   unfold dec2
   rw [hr,if_pos rfl]
   exact k2_fin (red_pair (xN_lt hr 1 (by decide)) (xN_lt hr 0 (by decide))) (red_pair (xN_lt hr 3 (by decide)) (xN_lt hr 2 (by decide))) (C:=k2D n m xs) (fun r hq=>hW _ _ _ hr (tt_ok 4 hq)) (k2l_1 n m xs) (k2l_2 n m xs) (k2l_3 n m xs)
noncomputable def SQg:List (FuncId×ASpec):=(66,dcSp fun s L=>gmV2 (dec2 s L))::SQf
theorem SQgok:SpecsOk Tryz.prog SQg:=⟨dcSp_ok Tryz.func66 (by kernel_rfl) (by kernel_rfl) (fun _ _=>by kernel_rfl) fun _ _ _ s hl hm hn=>k2_can hl hm hn s,SQfok⟩
end Go.Proofs.YtfmajnlfpnjagaaGreat
/- sigilref13: Slope, Add: the contracts. -/
namespace Go.Proofs.YtfmajnlfpnjagaaGreat
open Ex Num Rg
open Sh (R av rd mo en mo_en)
set_option maxRecDepth 100000
set_option maxHeartbeats 4000000
noncomputable def SQs:List (FuncId×ASpec):=(138,inlSpec Tryz.prog (orc SQ2 KQ) Tryz.f138 300)::SQ2
theorem SQsok:SpecsOk Tryz.prog SQs:=⟨inl_ok (orc_ok SQ2ok KQok) mixed Tryz.func138 (by kernel_rfl) (by kernel_rfl) 300,SQ2ok⟩
noncomputable abbrev oQs:Orc:=orc SQs KQ
theorem oQsok:OrcOk Tryz.prog oQs:=orc_ok SQsok KQok
def e2 (a b:R FP2):Bool:=dq a.1 b.1&&dq a.2 b.2
noncomputable def sC (x y x' y':R FP2):R FP2:=mu FP2 (su FP2 (re FP2 y') (re FP2 y)) (iv FP2 (su FP2 (re FP2 x') (re FP2 x)))
noncomputable def sT (x y:R FP2):R FP2:=mu FP2 (mu FP2 (kk 3) (mu FP2 (re FP2 x) (re FP2 x))) (iv FP2 (mu FP2 (kk 2) (re FP2 y)))
noncomputable def aX (l x x':R FP2):R FP2:=su FP2 (su FP2 (mu FP2 l l) x) x'
noncomputable def aY (l x y X:R FP2):R FP2:=su FP2 (mu FP2 l (su FP2 x X)) y
noncomputable def aP (l x y x':R FP2):R P2:=(aX l x x',aY l x y (aX l x x'),false)
noncomputable def aL (l x y x':R FP2):AV:=.val true (lcat (av (aX l x x')) (lcat (av (aY l x y (aX l x x'))) [.b false]))
section
variable (r s:R P2) (x y x' y':R FP2)
theorem ra_1:pureRun Tryz.prog oQs Tryz.f67 [va P2 r,va P2 s] [true] 300=some ([(r.2.2,true)],ve (mo s:P2)):=by kernel_rfl
theorem ra_2:pureRun Tryz.prog oQs Tryz.f67 [va P2 r,va P2 s] [false,true] 300=some ([(r.2.2,false),(s.2.2,true)],ve (mo r:P2)):=by kernel_rfl
theorem ra_c:pureRun Tryz.prog oQs Tryz.f67 [va P2 (x,y,false),va P2 (x',y',false)] [false,false,false] 300=some ([(false,false),(false,false),(e2 (re FP2 x) (re FP2 x'),false)],aL (sC x y x' y') x y x'):=by kernel_rfl
theorem ra_n:pureRun Tryz.prog oQs Tryz.f67 [va P2 (x,y,false),va P2 (x',y',false)] [false,false,true,true] 300=some ([(false,false),(false,false),(e2 (re FP2 x) (re FP2 x'),true),(!e2 (re FP2 y) (re FP2 y'),true)],.val true (zero24 true)):=by kernel_rfl
theorem ra_z:pureRun Tryz.prog oQs Tryz.f67 [va P2 (x,y,false),va P2 (x',y',false)] [false,false,true,false,true] 300=some ([(false,false),(false,false),(e2 (re FP2 x) (re FP2 x'),true),(!e2 (re FP2 y) (re FP2 y'),false),(e2 (re FP2 y) (kk 0),true)],.val true (zero24 true)):=by kernel_rfl
theorem ra_t:pureRun Tryz.prog oQs Tryz.f67 [va P2 (x,y,false),va P2 (x',y',false)] [false,false,true,false,false] 300=some ([(false,false),(false,false),(e2 (re FP2 x) (re FP2 x'),true),(!e2 (re FP2 y) (re FP2 y'),false),(e2 (re FP2 y) (kk 0),false)],aL (sT x y) x y x'):=by kernel_rfl
end
theorem e2_iff (a b:FP2):e2 (en a) (en b)=decide (a=b):=by
 unfold e2
 by_cases h:a=b
 ·subst h
  rw [decide_eq_true rfl]
  exact Bool.and_eq_true_iff.2 ⟨decide_eq_true rfl,decide_eq_true rfl⟩
 ·rw [decide_eq_false h]
  cases hq:(dq (en a:R FP2).1 (en b:R FP2).1&&dq (en a:R FP2).2 (en b:R FP2).2) with
  | false=>rfl
  | true =>
   obtain ⟨h1,h2⟩:=Bool.and_eq_true_iff.1 hq
   exact absurd (Qx.ext (Fin.ext (of_decide_eq_true h1)) (Fin.ext (of_decide_eq_true h2))) h
theorem aP_en (l x y x':R FP2):aP l x y x'=en (sumAt (mo x:FP2) (mo y) (mo x') (mo l)):=by
 unfold aP aY aX su mu
 simp only [mo_en]
 rfl
theorem mo_sC (x y x' y':R FP2):(mo (sC x y x' y'):FP2)=(mo y'-mo y)*FD.inv (mo x'-mo x):=by
 unfold sC mu su iv re
 simp only [mo_en]
theorem k1_eq (y:FP2):(1+1)*y=y+y:=ring [y] (a:=(1+1)*y) (b:=y+y) (by kernel_rfl)
theorem mo_sT (x y:R FP2):(mo (sT x y):FP2)=(mo x*mo x+mo x*mo x+mo x*mo x)*FD.inv (mo y+mo y):=by
 unfold sT mu iv re
 simp only [mo_en,mo_kk2,mo_kk3,k3_eq,k1_eq]
 rfl
theorem kk0:kk 0=en (0:FP2):=by kernel_rfl
theorem ra_ok (r s:R P2):PureOk Tryz.prog 67 [va P2 r,va P2 s] (ve (Rg.add (mo r:P2) (mo s))):=by
 have h1:=ra_1 r s
 have h2:=ra_2 r s
 obtain ⟨x,y,i⟩:=r
 obtain ⟨x',y',i'⟩:=s
 cases i with
 | true=>exact pure_ok oQsok mixed Tryz.func67 h1 ⟨rfl,trivial⟩ rfl
 | false =>
  cases i' with
  | true=>exact pure_ok oQsok mixed Tryz.func67 h2 ⟨rfl,rfl,trivial⟩ rfl
  | false =>
   have rc:=ra_c x y x' y'
   have rn:=ra_n x y x' y'
   have rz:=ra_z x y x' y'
   have rt:=ra_t x y x' y'
   have hE:∀ a b:R FP2,e2 (re FP2 a) (re FP2 b)=decide ((mo a:FP2)=mo b):=fun a b=>e2_iff _ _
   have hK:∀ a:R FP2,e2 (re FP2 a) (kk 0)=decide ((mo a:FP2)=0):=fun a=>by rw [kk0];exact e2_iff _ _
   simp only [hE,hK] at rc rn rz rt
   have hs:∀ {p c} {l:R FP2},pureRun Tryz.prog oQs Tryz.f67 [va P2 (x,y,false),va P2 (x',y',false)] p 300=some (c,aL l x y x')→okConds c→PureOk Tryz.prog 67 [va P2 (x,y,false),va P2 (x',y',false)] (ve (sumAt (mo x:FP2) (mo y) (mo x') (mo l))):=fun {_ _ l} h hc=>by
    unfold ve
    rw [← aP_en]
    exact pure_sh (α:=P2) (r:=aP l x y x') (pure_ok oQsok mixed Tryz.func67 h hc rfl) (by kernel_rfl)
   have hz:∀ {p c},pureRun Tryz.prog oQs Tryz.f67 [va P2 (x,y,false),va P2 (x',y',false)] p 300=some (c,.val true (zero24 true))→okConds c→PureOk Tryz.prog 67 [va P2 (x,y,false),va P2 (x',y',false)] (ve (.inf:P2)):=fun h hc=>pure_sh (α:=P2) (r:=(en (.inf:P2):R P2)) (pure_ok oQsok mixed Tryz.func67 h hc rfl) (by kernel_rfl)
   show PureOk _ _ _ (ve (Rg.add (.pt (mo x:FP2) (mo y)) (.pt (mo x') (mo y'))))
   rw [add_pt]
   by_cases hx:(mo x:FP2)=mo x'
   ·rw [if_pos hx]
    by_cases hy:(mo y:FP2)=mo y'
    ·by_cases h0:(mo y:FP2)=0
     ·rw [if_neg (fun h=>h.2 h0)]
      exact hz rz ⟨rfl,rfl,decide_eq_true hx,by rw [decide_eq_true hy];rfl,decide_eq_true h0,trivial⟩
     ·rw [if_pos ⟨hy,h0⟩]
      rw [← mo_sT]
      exact hs rt ⟨rfl,rfl,decide_eq_true hx,by rw [decide_eq_true hy];rfl,decide_eq_false h0,trivial⟩
    ·rw [if_neg (fun h=>hy h.1)]
     exact hz rn ⟨rfl,rfl,decide_eq_true hx,by rw [decide_eq_false hy];rfl,trivial⟩
   ·rw [if_neg hx]
    rw [← mo_sC]
    exact hs rc ⟨rfl,rfl,decide_eq_false hx,trivial⟩
noncomputable def SQt:List (FuncId×ASpec):=(67,pureSpec (sq2 P2 P2 fun r s=>ve (Rg.add (mo r:P2) (mo s))))::SQs
theorem SQtok:SpecsOk Tryz.prog SQt:=⟨pureSpec_ok Tryz.func67 (by kernel_rfl) (by kernel_rfl) (sq2_ok ra_ok),SQsok⟩
end Go.Proofs.YtfmajnlfpnjagaaGreat
/- sigillaw20: CodecEncodes1, CodecEncodes2: the walks. -/
namespace Go.Proofs.YtfmajnlfpnjagaaGreat
open Ex Num Rg
open Sh (R av rd mo en mo_en)
set_option maxRecDepth 100000
set_option maxHeartbeats 4000000
theorem laL_len (s i b:Bool) (B:List Int):(laL s i b B).length=B.length:=by
 cases B with
 | nil=>cases s<;>cases i<;>cases b<;>rfl
 | cons f t=>rw [laL_cons];rfl
theorem c2L_cat (s:Bool) (p:P2):c2L s p=cat ((l2 p).take (kT s)):=by
 cases s with
 | false=>exact b2_cat p
 | true =>
  show o48 (rX p).2++o48 (rX p).1=octL (rX p).2 48++(octL (rX p).1 48++[])
  rw [o48_eq (rX_lt p).1,o48_eq (rX_lt p).2,List.append_nil]
theorem r2L_n (s:Bool) (p:P2):(r2L s p).length=48*kT s:=by
 unfold r2L
 rw [laL_len,c2L_cat,cat_length]
 cases s<;>rfl
theorem same2 (s:Bool) (p:P2):smB (win (e2L s p) 0 (48*kT s)) (win (r2L s p) 0 (48*kT s))=true:=by
 refine decide_eq_true ?_
 have hl:laL s (pI1 p) (bg2 (pY1 p)) (cat ((l2 p).take (kT s)))=ecL s (pI1 p) (bg2 (pY1 p)) (cat ((l2 p).take (kT s))):=by
  cases s
  ·exact laL_ec _ _ _ (pX1 p).b.isLt [(pX1 p).a.val,(pY1 p).b.val,(pY1 p).a.val]
  ·exact laL_ec _ _ _ (pX1 p).b.isLt [(pX1 p).a.val]
 show List.take (48*kT s) (e2L s p)=List.take (48*kT s) (r2L s p)
 unfold r2L
 rw [e2L_ec,b2_cat,c2L_cat,hl,ecL_take _ _ _ (by have:=kT_pos s;omega),ecL_take _ _ _ (by have:=kT_pos s;omega),cat_take,cat_take,List.take_take,Nat.min_self]
section
variable (x y:Nat) (i:Bool)
end
section
variable (r:R P2)
end
end Go.Proofs.YtfmajnlfpnjagaaGreat
/- Subgroups of a curve, told by lists of their points; the order of the whole, by counting. -/
namespace Go.Proofs.YtfmajnlfpnjagaaGreat.Rg
open Num (Prime prodL)
section
variable {F:Type} [FD F] (C:Cv F)
theorem neg_add_p {p:Pt F} (hp:On C.b p):add (neg p) p=.inf:=by rw [add_comm' C (on_negP C hp) hp,add_neg_p C hp]
theorem add4 {a b c d:Pt F} (ha:On C.b a) (hb:On C.b b) (hc:On C.b c) (hd:On C.b d):add (add a b) (add c d)=add (add a c) (add b d):=by
 rw [add_assoc' C ha hb (on_add C hc hd),← add_assoc' C hb hc hd,add_comm' C hb hc,add_assoc' C hc hb hd,← add_assoc' C ha hc (on_add C hb hd)]
theorem neg_of_sum {p q:Pt F} (hp:On C.b p) (hq:On C.b q) (h:add p q=.inf):q=neg p:=by
 have:=neg_add_cancel C hp hq
 rw [h,add_inf] at this
 exact this.symm
theorem neg_add_d {p q:Pt F} (hp:On C.b p) (hq:On C.b q):neg (add p q)=add (neg p) (neg q):=by
 refine (neg_of_sum C (on_add C hp hq) (on_add C (on_negP C hp) (on_negP C hq)) ?_).symm
 rw [add4 C hp hq (on_negP C hp) (on_negP C hq),add_neg_p C hp,add_neg_p C hq];rfl
theorem smul_addp {p q:Pt F} (hp:On C.b p) (hq:On C.b q):∀ n,smul n (add p q)=add (smul n p) (smul n q)
 | 0=>rfl
 | n+1=>by
  simp only [smul]
  rw [smul_addp hp hq n,add4 C (on_smul C hp n) (on_smul C hq n) hp hq]
structure Sub (m:Nat) (S:List (Pt F)):Prop where
 on:∀ p∈S,On C.b p
 nd:S.Nodup
 len:S.length=m
 inf:Pt.inf∈S
 add:∀ p∈S,∀ q∈S,Rg.add p q∈S
 neg:∀ p∈S,Rg.neg p∈S
variable {C}
theorem Sub.smul {m:Nat} {S:List (Pt F)} (h:Sub C m S) {p:Pt F} (hp:p∈S):∀ n,Rg.smul n p∈S
 | 0=>h.inf
 | n+1=>h.add _ (h.smul hp n) _ hp
theorem Sub.of_add {m:Nat} {S:List (Pt F)} (h:Sub C m S) {p q:Pt F} (hp:p∈S) (hq:On C.b q) (hs:Rg.add p q∈S):q∈S:=by
 have:=neg_add_cancel C (h.on p hp) hq
 rw [← this]
 exact h.add _ (h.neg p hp) _ hs
theorem Sub.gcd {m:Nat} {S:List (Pt F)} (h:Sub C m S) {p:Pt F} (hp:On C.b p):∀ (a b:Nat),Rg.smul a p∈S→Rg.smul b p∈S→Rg.smul (Nat.gcd a b) p∈S:=by
 intro a b
 induction a,b using Nat.gcd.induction with
 | H0 n=>intro _ h2;rwa [Nat.gcd_zero_left]
 | H1 a b ha ih =>
  intro h1 h2
  rw [Nat.gcd_rec]
  refine ih ?_ h1
  have e:=Nat.div_add_mod b a
  rw [← e,smul_add C hp,smul_mul C hp] at h2
  exact h.of_add (h.smul h1 _) (on_smul C hp _) h2
def cos (S:List (Pt F)) (H:Pt F):Nat→List (Pt F)
 | 0=>[]
 | j+1=>cos S H j++S.map fun s=>Rg.add s (Rg.smul j H)
theorem mem_cos {S:List (Pt F)} {H x:Pt F}:∀ {t:Nat},x∈cos S H t↔∃ j,j<t∧∃ s∈S,Rg.add s (Rg.smul j H)=x
 | 0=>by simp [cos]
 | t+1=>by
  rw [cos,List.mem_append,mem_cos,List.mem_map]
  constructor
  ·rintro (⟨j,hj,s,hs,e⟩ | ⟨s,hs,e⟩)
   ·exact ⟨j,by omega,s,hs,e⟩
   ·exact ⟨t,by omega,s,hs,e⟩
  ·rintro ⟨j,hj,s,hs,e⟩
   rcases Nat.lt_or_ge j t with h | h
   ·exact .inl ⟨j,h,s,hs,e⟩
   ·have:j=t:=by omega
    subst this
    exact .inr ⟨s,hs,e⟩
theorem cos_len (S:List (Pt F)) (H:Pt F):∀ t,(cos S H t).length=t*S.length
 | 0=>by simp [cos]
 | t+1=>by rw [cos,List.length_append,List.length_map,cos_len S H t,Nat.succ_mul]
theorem nodup_map_add {S:List (Pt F)} (hS:∀ p∈S,On C.b p) (hn:S.Nodup) {H:Pt F} (hH:On C.b H):(S.map fun s=>Rg.add s H).Nodup:=by
 induction S with
 | nil=>exact List.nodup_nil
 | cons a l ih =>
  obtain ⟨h1,h2⟩:=List.nodup_cons.1 hn
  rw [List.map_cons,List.nodup_cons]
  refine ⟨fun hm=>?_,ih (fun p hp=>hS p (by simp [hp])) h2⟩
  obtain ⟨b,hb,e⟩:=List.mem_map.1 hm
  have ha:=hS a (by simp)
  have hb':=hS b (by simp [hb])
  rw [add_comm' C hb' hH,add_comm' C ha hH] at e
  exact h1 (add_left_inj C hH hb' ha e▸hb)
theorem Sub.cos_nd {m:Nat} {S:List (Pt F)} (h:Sub C m S) {H:Pt F} (hH:On C.b H):∀ {t:Nat},(∀ j,0<j→j<t→Rg.smul j H ∉ S)→(cos S H t).Nodup
 | 0,_=>List.nodup_nil
 | t+1,hm=>by
  rw [cos,List.nodup_append]
  refine ⟨h.cos_nd hH fun j h0 h1=>hm j h0 (by omega),nodup_map_add h.on h.nd (on_smul C hH _),fun x hx y hy e=>?_⟩
  subst e
  obtain ⟨j,hj,s,hs,e1⟩:=mem_cos.1 hx
  obtain ⟨s',hs',e2⟩:=List.mem_map.1 hy
  have hjH:=on_smul C hH j
  have hdH:=on_smul C hH (t-j)
  have e3:Rg.smul t H=Rg.add (Rg.smul j H) (Rg.smul (t-j) H):=by rw [← smul_add C hH];congr 1;omega
  rw [← e1,e3,← add_assoc' C (h.on s' hs') hjH hdH,add_comm' C (h.on s' hs') hjH,add_assoc' C hjH (h.on s' hs') hdH,add_comm' C (h.on s hs) hjH] at e2
  have e4:=add_left_inj C hjH (on_add C (h.on s' hs') hdH) (h.on s hs) e2
  exact hm (t-j) (by omega) (by omega) (h.of_add hs' hdH (e4▸hs))
theorem Sub.step {m:Nat} {S:List (Pt F)} (h:Sub C m S) {H:Pt F} (hH:On C.b H) {t:Nat} (ht:Rg.smul t H∈S) (h0:0<t) (hm:∀ j,0<j→j<t→Rg.smul j H ∉ S):Sub C (t*m) (cos S H t) where
 on p hp:=by
  obtain ⟨j,_,s,hs,rfl⟩:=mem_cos.1 hp
  exact on_add C (h.on s hs) (on_smul C hH j)
 nd:=h.cos_nd hH hm
 len:=by rw [cos_len,h.len]
 inf:=mem_cos.2 ⟨0,h0,.inf,h.inf,rfl⟩
 add p hp q hq:=by
  obtain ⟨i,hi,s,hs,rfl⟩:=mem_cos.1 hp
  obtain ⟨j,hj,s',hs',rfl⟩:=mem_cos.1 hq
  have hss:=h.add s hs s' hs'
  rw [add4 C (h.on s hs) (on_smul C hH i) (h.on s' hs') (on_smul C hH j),← smul_add C hH]
  rcases Nat.lt_or_ge (i+j) t with hlt | hge
  ·exact mem_cos.2 ⟨i+j,hlt,_,hss,rfl⟩
  ·refine mem_cos.2 ⟨i+j-t,by omega,Rg.add (Rg.add s s') (Rg.smul t H),h.add _ hss _ ht,?_⟩
   rw [add_assoc' C (h.on _ hss) (on_smul C hH t) (on_smul C hH _),← smul_add C hH]
   congr 2;omega
 neg p hp:=by
  obtain ⟨i,hi,s,hs,rfl⟩:=mem_cos.1 hp
  rw [neg_add_d C (h.on s hs) (on_smul C hH i)]
  rcases Nat.eq_zero_or_pos i with rfl | hpos
  ·exact mem_cos.2 ⟨0,h0,_,h.neg s hs,rfl⟩
  ·refine mem_cos.2 ⟨t-i,by omega,Rg.add (Rg.neg s) (Rg.neg (Rg.smul t H)),h.add _ (h.neg s hs) _ (h.neg _ ht),?_⟩
   rw [add_assoc' C (on_negP C (h.on s hs)) (on_negP C (on_smul C hH t)) (on_smul C hH _)]
   congr 1
   have e:Rg.smul t H=Rg.add (Rg.smul (t-i) H) (Rg.smul i H):=by rw [← smul_add C hH];congr 1;omega
   have hd:=on_smul C hH (t-i)
   rw [e,neg_add_d C hd (on_smul C hH i),add_comm' C (on_negP C hd) (on_negP C (on_smul C hH i)),add_assoc' C (on_negP C (on_smul C hH i)) (on_negP C hd) hd,neg_add_p C hd,add_inf]
theorem Sub.out {m:Nat} {S:List (Pt F)} (h:Sub C m S) {H:Pt F} (hH:On C.b H) {q:Nat} (hq:Prime q) (h0:Rg.smul q H=.inf) (hn:H ∉ S):Sub C (q*m) (cos S H q):=by
 refine h.step hH (by rw [h0];exact h.inf) (by have:=hq.1;omega) fun j h1 h2 hm=>hn ?_
 have hg:=h.gcd hH q j (by rw [h0];exact h.inf) hm
 have hc:Nat.gcd q j=1:=hq.coprime fun hd=>by have:=Nat.le_of_dvd h1 hd;omega
 rwa [hc] at hg
theorem Sub.all {m B:Nat} {S:List (Pt F)} (h:Sub C m S) (hB:∀ L:List (Pt F),L.Nodup→(∀ p∈L,On C.b p)→L.length≤B) (hm:B<m+m) {p:Pt F} (hp:On C.b p):p∈S:=by
 refine Classical.byContradiction fun hn=>?_
 have hL:=hB (S++S.map fun s=>Rg.add s p) ?_ ?_
 ·rw [List.length_append,List.length_map,h.len] at hL;omega
 ·rw [List.nodup_append]
  refine ⟨h.nd,nodup_map_add h.on h.nd hp,fun x hx y hy e=>?_⟩
  subst e
  obtain ⟨s,hs,e⟩:=List.mem_map.1 hy
  exact hn (h.of_add hs hp (e▸hx))
 ·intro x hx
  rcases List.mem_append.1 hx with hx | hx
  ·exact h.on x hx
  ·obtain ⟨s,hs,rfl⟩:=List.mem_map.1 hx
   exact on_add C (h.on s hs) hp
end
end Go.Proofs.YtfmajnlfpnjagaaGreat.Rg
/- bls.caught, and the closures that catch: the contracts. -/
namespace Go.Proofs.YtfmajnlfpnjagaaGreat
open Ex
set_option maxRecDepth 100000
set_option maxHeartbeats 4000000
theorem caught_nil (w:World):Calls Tryz.prog 58 #[.nilIface] w fun e w'=>e=.returned (.int .i64 0)∧w'=w:=by
 go_enter Tryz.func58,Tryz.ntmps58
 go_wp2
 exact ⟨rfl,_,results_tmp rfl _ _ _,rfl,rfl⟩
theorem caught_err (w:World):Calls Tryz.prog 58 #[.iface 26 (.int .i64 210)] w fun e w'=>e=.returned (.int .i64 210)∧w'=w:=by
 have hta:∀ (T:TypeId) (w:World),(Instr.typeAssert (.iface 26 (.int .i64 210)) T 26 true).run Tryz.prog w=.ok (.tuple #[.int .i64 210,.bool true]) w:=fun T w=>by
  simp [Instr.typeAssert,go_sem]
 have hnot:∀ (x:Bool) (w:World),(Op.unary .not (.bool x)).run Tryz.prog w=.ok (.bool (!x)) w:=fun _ _=>rfl
 go_enter Tryz.func58,Tryz.ntmps58
 go_wp2
 exact ⟨rfl,_,results_tmp rfl _ _ _,rfl,rfl⟩
theorem idle_a (p q:Value) (w:World):CallsD Tryz.prog 57 #[p,q] .returning w fun e u' w'=>e=.returned (.tuple #[])∧u'=.returning∧w'=w:=by
 refine callsD_of_wpS Tryz.func57 rfl fun c₀ cs hu=>?_
 apply wpS_seq
 apply wpS_region
 simp [wpOpsS,go_sem,recoverD,hu,Tryz.ntmps57,Exit.thenS]
 refine (caught_nil w).mono ?_
 rintro e w' ⟨rfl,rfl⟩
 show Code.wpS Tryz.prog _ _ _ _ _
 apply wpS_seq
 apply wpS_region
 simp [wpOpsS,go_sem,Exit.thenS]
 refine wpS_cond (t:=false) (by simp [Act.eval,Array.replicate]) ?_
 simp only [Bool.false_eq_true,if_false]
 refine wpS_of_wp (wp_skip ?_)
 cases c₀
 simp_all [bodyPostS,results,Tryz.results57]
theorem catch_a (p q:Addr) (x y:Value) (w:World) (hp:w.cell? p=some x) (hfp:w.frozen? p=false) (hq:w.cell? q=some y) (hfq:w.frozen? q=false) (hne:p.block≠q.block) :
  CallsD Tryz.prog 57 #[.pointer (some p),.pointer (some q)] (.panicking [{ v:=.iface 26 (.int .i64 210),recovered:=false }]) w fun e u' w' =>
   e=.returned (.tuple #[])∧u'=.panicking [{ v:=.iface 26 (.int .i64 210),recovered:=true }]∧w'=(w.setCell p (.slice none 0 0)).setCell q (.int .i64 210):=by
 refine callsD_of_wpS Tryz.func57 rfl fun c₀ cs hu=>?_
 apply wpS_seq
 apply wpS_region
 simp [wpOpsS,go_sem,recoverD,hu,Tryz.ntmps57,Exit.thenS]
 refine (caught_err w).mono ?_
 rintro e w' ⟨rfl,rfl⟩
 show Code.wpS Tryz.prog _ _ _ _ _
 apply wpS_seq
 apply wpS_region
 simp [wpOpsS,go_sem,Exit.thenS]
 refine wpS_cond (t:=true) (by simp [Act.eval,Array.replicate]) ?_
 simp only [if_true]
 apply wpS_region
 have e1:(w'.setCell p (.slice none 0 0)).cell? q=some y:=by rw [World.cell?_setCell_other (h:=fun h=>hne (congrArg Addr.block h))];exact hq
 have e2:(w'.setCell p (.slice none 0 0)).frozen? q=false:=by rw [World.frozen?_setCell];exact hfq
 simp [wpOpsS,go_sem,hp,hfp,e1,e2,bodyPostS,results,Tryz.results57]
end Go.Proofs.YtfmajnlfpnjagaaGreat
/- fr.wide, Reduce, FromOctets, Bytes, FromBytes: the contracts. -/
namespace Go.Proofs.YtfmajnlfpnjagaaGreat
open Ex Num Rg
open Sh (R av rd mo en mo_en)
set_option maxRecDepth 100000
set_option maxHeartbeats 4000000
def KV:List (TypeId×List (Option IntKind)):=(35,List.replicate 4 (some .u64))::KQ
theorem KVok:KindsOk Tryz.prog KV:=⟨⟨by kernel_rfl,by kernel_rfl,by kernel_rfl⟩,KQok⟩
def num4 (x:Nat):AV:=.val true [.num 4 x]
def ws4 (x:Nat):List Int:=(List.range 4).map (wordN x)++[]
def R4:Nat:=115792089237316195423570985008687907853269984665640564039457584007913129639936
theorem R4_eq:R4=2^(64*4):=by decide
theorem rQ_lt:Nat.blt rQ R4=true:=by kernel_rfl
theorem rN_lt:rN<R4:=by rw [rN_eq];exact nblt.1 rQ_lt
theorem rN_pos:0<rN:=by rw [rN_eq];exact nblt.1 (by kernel_rfl)
theorem modr_lt (x:Nat):x % rN<R4:=Nat.lt_trans (Nat.mod_lt _ rN_pos) rN_lt
def wd4 (l:List Int):List Int:=(wl 5 (natL l % natL (win RL 0 4))).take 4
theorem frw_run (off n m:Nat) (xs:List Int):segOut Tryz.prog oJn Tryz.f87 300 1 [] (entry Tryz.f87 [slA 0 off n m] (seqH xs) 1 []) =
 some ([(Nat.ble (off+n) xs.length,true),(hasB .i64 n,true),(true,true),(true,true),(true,true),(true,true),(false,false),(true,true)],[],.val true [.seq .u64 (wd4 (win xs off n))],[]):=by kernel_rfl
theorem frw_can {off n m:Nat} {xs:List Int} (hl:off+n≤xs.length) (hn:n≤1125899906842624):CanOk Tryz.prog 87 [slA 0 off n m] (seqH xs) 1 [] (num4 (natL (win xs off n) % rN)) []:=by
 refine can_val (can_run SJnok KHok Tryz.func87 (by kernel_rfl) (by kernel_rfl) (frw_run off n m xs) (by kernel_rfl) ⟨Nat.ble_eq_true_of_le hl,hasB_len hn,rfl,rfl,rfl,rfl,rfl,rfl,trivial⟩) fun β u hu=>?_
 obtain ⟨l,q,rfl⟩:=hu
 refine ⟨l,num_of_wl (β:=β) (k:=4) ?_ ?_,rfl⟩
 ·rw [← R4_eq];exact modr_lt _
 ·unfold wd4 at q
  rw [wl_take,natL_RL] at q
  exact q
noncomputable def SVb1:List (FuncId×ASpec):=(87,nilSpec (wdSp fun _ l=>num4 (natL l % rN)))::SJn
theorem SVb1ok:SpecsOk Tryz.prog SVb1:=⟨nilSpec_ok (wdSp_ok Tryz.func87 (by kernel_rfl) (by kernel_rfl) (fun _ _=>rfl) fun _ _ _ _ _ hl hn=>frw_can hl hn),SJnok⟩
noncomputable abbrev oVb1:Orc:=orc SVb1 KV
theorem oVb1ok:OrcOk Tryz.prog oVb1:=orc_ok SVb1ok KVok
theorem natL_ws4 {x:Nat} (h:x<R4):natL (win (ws4 x) 0 4)=x:=by
 have e:win (ws4 x) 0 4=wl 4 x:=by
  unfold win ws4 wl
  rw [List.append_nil,List.drop_zero,List.take_of_length_le (by simp)]
 rw [e,natL_wl (by rw [← R4_eq];exact h)]
theorem fred_run (a:Nat):pureRun Tryz.prog oVb1 Tryz.f70 [num4 a] [] 300=some (tt 2 [],num4 (natL (win (ws4 a) 0 4) % rN)):=by kernel_rfl
theorem fred_ok {a:Nat} (h:a<R4):PureOk Tryz.prog 70 [num4 a] (num4 (a % rN)):=by
 have h1:=pure_ok oVb1ok mixed Tryz.func70 (fred_run a) (tt_ok 2 trivial) rfl
 rw [natL_ws4 h] at h1
 exact h1
def spN4 (g:Nat→AV):List AV→Option AV
 | [.val true a]=>match asNum 4 a with
  | some x=>some (g x)
  | none=>none
 | _=>none
theorem spN4_ok {f:FuncId} {g:Nat→AV} (h:∀ x,x<R4→PureOk Tryz.prog f [num4 x] (g x)):∀ args v,spN4 g args=some v→PureOk Tryz.prog f args v:=by
 intro args v hs us w ha
 unfold spN4 at hs
 split at hs
 case h_2=>cases hs
 rename_i a
 split at hs
 case h_2=>cases hs
 rename_i x hx
 injection hs with hs;subst hs
 obtain ⟨u1,us1,⟨l,q,rfl⟩,ha,rfl⟩:=ha
 obtain ⟨_,hlt⟩:=asNum_rel hx q
 exact h x (by rw [R4_eq];exact hlt) _ w ⟨_,_,⟨l,num_any hx q,rfl⟩,ha,rfl⟩
noncomputable def SVb2:List (FuncId×ASpec):=(70,pureSpec (spN4 fun x=>num4 (x % rN)))::SVb1
theorem SVb2ok:SpecsOk Tryz.prog SVb2:=⟨pureSpec_ok Tryz.func70 (by kernel_rfl) (by kernel_rfl) (spN4_ok fun _ h=>fred_ok h),SVb1ok⟩
noncomputable abbrev oVb2:Orc:=orc SVb2 KV
noncomputable def frV (n N:Nat):Nat:=if n=32∧N<rN then N else 0
noncomputable def frE (n N:Nat):Int:=if n=32 then (if N<rN then 0 else 61) else 60
noncomputable def frA (n N:Nat):AV:=.tup [(true,[.num 4 (frV n N)]),(false,[.v (.int .i64 (frE n N))])]
def zero4:List Ch:=[.n .u64 0,.n .u64 0,.n .u64 0,.n .u64 0]
def fr0 (e:Int):AV:=.tup [(true,zero4),(false,[.n .i64 e])]
theorem zero_num4 {β:Env} {v:Value} (h:relG β true zero4 v):relG β true [.num 4 0] v:=by
 obtain ⟨l,q,rfl⟩:=h
 exact ⟨l,num_any (k:=4) (x:=0) (by kernel_rfl) q,rfl⟩
theorem frb_len (off n m:Nat) (xs:List Int):segOut Tryz.prog oVb2 Tryz.f24 300 1 [] (entry Tryz.f24 [slA 0 off n m] (byH xs) 1 [true]) =
 some ([(hasB .i64 n,true),(!decide ((n:Int)=32),true)],[],fr0 60,[]):=by kernel_rfl
noncomputable def frC (off:Nat) (xs:List Int) (b:Bool):List (Bool×Bool):=[(true,true),(false,false),(Nat.ble (off+32) xs.length,true),(true,true),(true,true),(!decide (natB (win xs off 32) % rN=natB (win xs off 32)),b)]
theorem frb_range (off m:Nat) (xs:List Int):segOut Tryz.prog oVb2 Tryz.f24 300 1 [] (entry Tryz.f24 [slA 0 off 32 m] (byH xs) 1 [false,true])=some (frC off xs true,[],fr0 61,[]):=by kernel_rfl
theorem frb_num (off m:Nat) (xs:List Int):segOut Tryz.prog oVb2 Tryz.f24 300 1 [] (entry Tryz.f24 [slA 0 off 32 m] (byH xs) 1 [false,false]) =
 some (frC off xs false,[],.tup [(true,[.num 4 (natB (win xs off 32))]),(false,[.n .i64 0])],[]):=by kernel_rfl
theorem frb_can {off n m:Nat} {xs:List Int} (hl:off+n≤xs.length) (hn:hasB .i64 n=true) :
  CanOk Tryz.prog 24 [slA 0 off n m] (byH xs) 1 [] (frA n (natB (win xs off n))) []:=by
 have hmod:∀ N:Nat,decide (N % rN=N)=decide (N<rN):=fun N=>by
  by_cases h:N<rN
  ·rw [decide_eq_true h,decide_eq_true (Nat.mod_eq_of_lt h)]
  ·rw [decide_eq_false h,decide_eq_false fun e=>h (by rw [← e];exact Nat.mod_lt _ rN_pos)]
 by_cases h:n=32
 ·subst h
  by_cases hN:natB (win xs off 32)<rN
  ·refine can_val (can_run SVb2ok KVok Tryz.func24 (by kernel_rfl) (by kernel_rfl) (frb_num off m xs) (by kernel_rfl) ⟨rfl,rfl,Nat.ble_eq_true_of_le hl,rfl,rfl,by rw [hmod,decide_eq_true hN];rfl,trivial⟩) fun β u hu=>?_
   unfold frA frV frE
   rw [if_pos ⟨rfl,hN⟩,if_pos rfl,if_pos hN]
   exact relT2 (fun _ q=>q) (fun _ q=>gval rfl q) hu
  ·refine can_val (can_run SVb2ok KVok Tryz.func24 (by kernel_rfl) (by kernel_rfl) (frb_range off m xs) (by kernel_rfl) ⟨rfl,rfl,Nat.ble_eq_true_of_le hl,rfl,rfl,by rw [hmod,decide_eq_false hN];rfl,trivial⟩) fun β u hu=>?_
   unfold frA frV frE
   rw [if_neg (fun q=>hN q.2),if_pos rfl,if_neg hN]
   exact relT2 (fun _ q=>zero_num4 q) (fun _ q=>gval rfl q) hu
 ·refine can_val (can_run SVb2ok KVok Tryz.func24 (by kernel_rfl) (by kernel_rfl) (frb_len off n m xs) (by kernel_rfl) ⟨hn,by simp;omega,trivial⟩) fun β u hu=>?_
  unfold frA frV frE
  rw [if_neg (fun q=>h q.1),if_neg h]
  exact relT2 (fun _ q=>zero_num4 q) (fun _ q=>gval rfl q) hu
noncomputable def SVb3:List (FuncId×ASpec):=(24,nilSpec (bySp fun n l=>frA n (natB l)))::SVb2
theorem SVb3ok:SpecsOk Tryz.prog SVb3:=⟨nilSpec_ok (bySp_ok Tryz.func24 (by kernel_rfl) (by kernel_rfl) (fun _ _=>rfl) fun _ _ _ _ _ hl hn=>frb_can hl hn),SVb2ok⟩
noncomputable abbrev oVb3:Orc:=orc SVb3 KV
theorem oVb3ok:OrcOk Tryz.prog oVb3:=orc_ok SVb3ok KVok
end Go.Proofs.YtfmajnlfpnjagaaGreat
/- bls.secret: what it answers, and what it panics with. -/
namespace Go.Proofs.YtfmajnlfpnjagaaGreat
open Ex Num Rg
open Go.RowKit (Below)
open Sh (R av rd mo en mo_en)
set_option maxRecDepth 100000
set_option maxHeartbeats 4000000
def zN:Nat:=Int.toNat 0+18446744073709551616*(Int.toNat 0+18446744073709551616*(Int.toNat 0+18446744073709551616*(Int.toNat 0+18446744073709551616*0)))
theorem zN_eq:zN=0:=by kernel_rfl
section
variable (n m:Nat) (xs:List Int)
noncomputable def scS (p:List Bool):ASt:=entry Tryz.f60 [slA 0 0 n m] (byH xs) 1 p
noncomputable def scC (r:List (Bool×Bool)):List (Bool×Bool):=(Nat.ble (0+n) xs.length,true)::(hasB .i64 n,true)::r
theorem sc_run:segOut Tryz.prog oVb3 Tryz.f60 300 1 [1] (scS n m xs [false,false])=some (scC n xs [(!decide (frE n (natB (win xs 0 n))=0),false),(decide (frV n (natB (win xs 0 n))=zN),false)],[],slA 1 0 4 4,[(1,some ⟨35,[.num 4 (frV n (natB (win xs 0 n)))],false⟩)]):=by kernel_rfl
noncomputable def sgSt (x:Option (List (Bool×Bool)×List Nat×ASt)):ASt:=match x with | some (_,_,y)=>y | none=>⟨[],⟨[],[],0,[]⟩⟩
noncomputable def scP (p:List Bool):ASt:=sgSt (aSegN Tryz.prog oVb3 8 1 (scS n m xs p))
theorem sc_p1:aSegN Tryz.prog oVb3 8 1 (scS n m xs [true])=some (scC n xs [(!decide (frE n (natB (win xs 0 n))=0),true)],[],scP n m xs [true]):=by kernel_rfl
theorem sc_p2:aSegN Tryz.prog oVb3 8 1 (scS n m xs [false,true])=some (scC n xs [(!decide (frE n (natB (win xs 0 n))=0),false),(decide (frV n (natB (win xs 0 n))=zN),true)],[],scP n m xs [false,true]):=by kernel_rfl
noncomputable def scI:List Item:=(scP 0 0 [] [true]).todo
theorem sc_t1:(scP n m xs [true]).todo=.code (.region (headId scI) (headOps scI) false)::rest1 scI:=by kernel_rfl
theorem sc_t2:(scP n m xs [false,true]).todo=.code (.region (headId scI) (headOps scI) false)::rest1 scI:=by kernel_rfl
end
noncomputable abbrev scO:Array Oper:=headOps scI
theorem sc_raise {Q:Exit→Act→World→Prop} {a:Act} {w:World} (ht:17<a.tmps.size) (h:∀ a',a'.defers=a.defers→Q (.panic [{ v:=.iface 26 (.int .i64 210),recovered:=false }]) a' w):wpOps Tryz.prog scO Q [0,1] a w :=
 raise_wp (k:=.i64) (t:=17) (T:=26) (v:=.int .i64 210) (o0:=scO.getD 0 default) (o1:=scO.getD 1 default) (by kernel_rfl) (by kernel_rfl) (by kernel_rfl) (by kernel_rfl) (by kernel_rfl) (by kernel_rfl) (by kernel_rfl) (by kernel_rfl) ht h
noncomputable def skB (n N:Nat):Bool:=decide (frE n N=0)&&!decide (frV n N=zN)
theorem skB_iff {n N:Nat}:skB n N=true↔n=32∧N<rN∧N≠0:=by
 unfold skB frE frV
 rw [zN_eq]
 by_cases h1:n=32
 ·by_cases h2:N<rN
  ·by_cases h3:N=0<;>simp [h1,h2,h3]
  ·simp [h1,h2]
 ·simp [h1]
theorem sc_can {n m:Nat} {xs:List Int} (hl:n≤xs.length) (hn:hasB .i64 n=true) (hk:skB n (natB (win xs 0 n))=true) :
  CanOk Tryz.prog 60 [slA 0 0 n m] (byH xs) 1 [] (slA 1 0 4 4) [(1,some ⟨35,[.num 4 (frV n (natB (win xs 0 n)))],false⟩)]:=by
 unfold skB at hk
 simp only [Bool.and_eq_true,Bool.not_eq_true',decide_eq_true_eq,decide_eq_false_iff_not] at hk
 exact can_run SVb3ok KVok Tryz.func60 (by kernel_rfl) (by kernel_rfl) (sc_run n m xs) (by kernel_rfl) ⟨Nat.ble_eq_true_of_le (by omega),hn,by rw [decide_eq_true hk.1];rfl,decide_eq_false hk.2,trivial⟩
noncomputable def errC:List PanicEntry:=[{ v:=.iface 26 (.int .i64 210),recovered:=false }]
theorem sc_pan {n m:Nat} {xs:List Int} (hl:n≤xs.length) (hn:hasB .i64 n=true) (hk:skB n (natB (win xs 0 n))=false):PanOk Tryz.prog 60 [slA 0 0 n m] (byH xs) 1 errC:=by
 intro β us w ha hg hf
 have fin:∀ (y:ASt),y.todo=.code (.region (headId scI) (headOps scI) false)::rest1 scI→ASafe Tryz.prog 60 β w (fun e w'=>e=.panicked errC∧Below w.heap.size w w') Tryz.f60.ntmps [] y:=by
  intro y hy β' a w' hi _
  rw [hy]
  refine Safe.of_wpP Tryz.func60 (wp_region ?_)
  have hs:List.range (headOps scI).size=[0,1]:=by kernel_rfl
  rw [hs]
  refine sc_raise (by rw [hi.sz];decide) fun a' ha'=>.inr ⟨errC,rfl,?_⟩
  rw [ha',hi.dfr]
  exact ⟨rfl,hi.os,hi.tape,hi.output,hi.size,fun k hk=>hi.frame k hk fun _ _ h=>by cases h⟩
 have hl':Nat.ble (0+n) xs.length=true:=Nat.ble_eq_true_of_le (by omega)
 by_cases he:frE n (natB (win xs 0 n))=0
 ·have hz:frV n (natB (win xs 0 n))=zN:=by
   unfold skB at hk
   rw [decide_eq_true he] at hk
   simpa using hk
  refine calls_of_entry (args:=[slA 0 0 n m]) (H:=byH xs) (k0:=1) (path:=[false,true]) Tryz.func60 (by kernel_rfl) (by kernel_rfl) ?_ ha hg hf
  exact segN_safe oVb3ok mixed (sc_p2 n m xs) ⟨hl',hn,by rw [decide_eq_true he];rfl,decide_eq_true hz,trivial⟩ (wfB_ok (by kernel_rfl)) hf (fun _ h=>by cases h) fun _=>fin _ (sc_t2 n m xs)
 ·refine calls_of_entry (args:=[slA 0 0 n m]) (H:=byH xs) (k0:=1) (path:=[true]) Tryz.func60 (by kernel_rfl) (by kernel_rfl) ?_ ha hg hf
  exact segN_safe oVb3ok mixed (sc_p1 n m xs) ⟨hl',hn,by rw [decide_eq_false he];rfl,trivial⟩ (wfB_ok (by kernel_rfl)) hf (fun _ h=>by cases h) fun _=>fin _ (sc_t1 n m xs)
noncomputable def secSp:ASpec:=fun args H fr path=>match args with
 | [S]=>match asSm S with
  | some (k,n,m)=>match hget H k with
   | some ⟨_,cs,_⟩=>match toSeq .u8 cs with
    | some xs=>some (trR [k] 1 fr 1 [] (slA 1 0 4 4) [(1,some ⟨35,[.num 4 (frV n (natB (win xs 0 n)))],false⟩)] [(Nat.ble n xs.length,true),(Nat.ble n m,true),(hasB .i64 n,true),(skB n (natB (win xs 0 n)),true)] path)
    | none=>none
   | _=>none
  | none=>none
 | _=>none
theorem secSp_ok:SpecOk Tryz.prog 60 secSp:=by
 refine can_spec2 Tryz.func60 (by kernel_rfl) (by kernel_rfl) fun args H fr path r hs=>?_
 unfold secSp at hs
 split at hs
 case h_2=>cases hs
 rename_i S
 split at hs
 case h_2=>cases hs
 rename_i k n m hS
 split at hs
 case h_2=>cases hs
 rename_i ty cs o hk'
 split at hs
 case h_2=>cases hs
 rename_i xs hxs
 injection hs with hs
 refine ⟨[k],1,1,[],_,_,_,path,hs.symm,fun β us w ha hg hc=>?_⟩
 obtain ⟨u1,us1,r1,ha,rfl⟩:=ha
 obtain ⟨hl,hm,hn,hb,_⟩:=hc
 obtain ⟨m',_,r1⟩:=asSm_rel hS (Nat.le_of_ble_eq_true hm) r1
 obtain ⟨g1,g2,g3⟩:=good_by hg hk' hxs
 exact ⟨[slA 0 0 n m'],byH xs,sc_can (Nat.le_of_ble_eq_true hl) hn hb,by kernel_rfl,⟨u1,_,sl_in (by omega) rfl r1,ha,rfl⟩,g2,g3⟩
noncomputable def SVc:List (FuncId×ASpec):=(60,secSp)::SVb3
theorem SVcok:SpecsOk Tryz.prog SVc:=⟨secSp_ok,SVb3ok⟩
noncomputable abbrev oVc:Orc:=orc SVc KV
theorem oVcok:OrcOk Tryz.prog oVc:=orc_ok SVcok KVok
end Go.Proofs.YtfmajnlfpnjagaaGreat
/- bls.SkToPk: the contract. -/
namespace Go.Proofs.YtfmajnlfpnjagaaGreat
open Ex Num Rg
open Go.RowKit (Below)
open Sh (R av rd mo en mo_en)
set_option maxRecDepth 100000
set_option maxHeartbeats 4000000
theorem cell_of {w:World} {B:Nat} {v:Value} {ty:TypeId} (h:w.heap[B]? = some (.cells #[v] ty (0,0))):w.cell? ⟨B,0,none⟩=some v∧w.frozen? ⟨B,0,none⟩=false:=by
 constructor
 ·simp [World.cell?,h]
 ·simp [World.frozen?,h]
theorem set_other {w:World} {a:Addr} {v:Value} {B:Nat} (h:B≠a.block):(w.setCell a v).heap[B]? = w.heap[B]?:=by
 simp only [World.setCell,Array.getElem?_modify]
 rw [if_neg (fun e=>h e.symm)]
theorem set_rest (w:World) (a:Addr) (v:Value):(w.setCell a v).heap.size=w.heap.size∧(w.setCell a v).os=w.os∧(w.setCell a v).tape=w.tape∧(w.setCell a v).output=w.output:=by
 refine ⟨?_,rfl,rfl,rfl⟩
 simp [World.setCell]
theorem set_same {w:World} {B:Nat} {u v:Value} {ty:TypeId} (h:w.heap[B]? = some (.cells #[u] ty (0,0))):(w.setCell ⟨B,0,none⟩ v).heap[B]? = some (.cells #[v] ty (0,0)):=by
 simp [World.setCell,Array.getElem?_modify,h]
noncomputable def errU:Value:=.tuple #[.slice none 0 0,.int .i64 210]
theorem catch_leaves {F:FuncId} {fnF:Func} (hF:Tryz.prog.funcs[F]? = some fnF) (hb:fnF.body.isSome=true) (hname:(fnF.name=="runtime.NumGoroutine")=false)
  (hcatch:∀ (p q:Addr) (x y:Value) (w:World),w.cell? p=some x→w.frozen? p=false→w.cell? q=some y→w.frozen? q=false→p.block≠q.block →
   CallsD Tryz.prog F #[.pointer (some p),.pointer (some q)] (.panicking [{ v:=.iface 26 (.int .i64 210),recovered:=false }]) w fun e u' w' =>
    e=.returned (.tuple #[])∧u'=.panicking [{ v:=.iface 26 (.int .i64 210),recovered:=true }]∧w'=(w.setCell p (.slice none 0 0)).setCell q (.int .i64 210))
  {fn:Func} {t1 t2:Tmp} {tmps:Array Value} {B1 B2:Nat} {ty1 ty2:TypeId} {R:Ending→World→Prop} {w:World} (hres:fn.results=#[.cell t1 23,.cell t2 26])
  (ht1:tmps.getD t1 undef=.pointer (some ⟨B1,0,none⟩)) (ht2:tmps.getD t2 undef=.pointer (some ⟨B2,0,none⟩)) (c1:w.heap[B1]? = some (.cells #[.slice none 0 0] ty1 (0,0))) (c2:w.heap[B2]? = some (.cells #[.int .i64 0] ty2 (0,0))) (hne:B1≠B2)
  (hR:∀ w',(∀ B,B≠B1→B≠B2→w'.heap[B]? = w.heap[B]?)→w'.heap.size=w.heap.size→w'.os=w.os→w'.tape=w.tape→w'.output=w.output→R (.returned errU) w') :
  Leaves Tryz.prog fn tmps R [{ target:=.fn (.func F) #[.pointer (some ⟨B1,0,none⟩),.pointer (some ⟨B2,0,none⟩)],args:=#[] }] (.panicking errC) w:=by
 obtain ⟨a1,f1⟩:=cell_of c1
 obtain ⟨a2,f2⟩:=cell_of c2
 have h1:fnF.name≠"runtime.NumGoroutine":=by simpa using hname
 have h2:¬ fnF.body=none:=by cases hq:fnF.body<;>simp [hq] at hb ⊢
 refine leaves_cons (f:=F) (args:=#[.pointer (some ⟨B1,0,none⟩),.pointer (some ⟨B2,0,none⟩)]) (by simp) (by simp [invoke,callFunc,hF,h1,h2]) ?_
 refine (hcatch ⟨B1,0,none⟩ ⟨B2,0,none⟩ _ _ w a1 f1 a2 f2 hne).mono ?_
 rintro e u' w' ⟨rfl,rfl,rfl⟩
 have c2':(w.setCell ⟨B1,0,none⟩ (.slice none 0 0)).heap[B2]? = some (.cells #[.int .i64 0] ty2 (0,0)):=(set_other fun e=>hne e.symm).trans c2
 have e2:=(cell_of (set_same (v:=.int .i64 210) c2')).1
 have e1:=(cell_of ((set_other (a:=⟨B2,0,none⟩) (v:=.int .i64 210) hne).trans (set_same (v:=.slice none 0 0) c1))).1
 obtain ⟨q1,q2,q3,q4⟩:=set_rest (w.setCell ⟨B1,0,none⟩ (.slice none 0 0)) ⟨B2,0,none⟩ (.int .i64 210)
 obtain ⟨r1,r2,r3,r4⟩:=set_rest w ⟨B1,0,none⟩ (.slice none 0 0)
 refine ⟨errU,?_,hR _ (fun B n1 n2=>by rw [set_other n2,set_other n1]) (q1.trans r1) (q2.trans r2) (q3.trans r3) (q4.trans r4)⟩
 rw [Array.getD_eq_getD_getElem?] at ht1 ht2
 simp [results,hres,ht1,ht2,go_sem,e1,e2,errU]
section
variable (n m:Nat) (xs:List Int) (p:List Bool)
noncomputable abbrev skF:Func:=Tryz.f19
noncomputable def skA:ASt:=entry skF [slA 0 0 n m] (byH xs) 1 p
noncomputable def skS:ASt:=sgSt (aSegN Tryz.prog oVc 3 1 (skA n m xs p))
noncomputable def skI:List Item:=(skS 0 0 [] []).todo
noncomputable abbrev skO:Array Oper:=headOps skI
noncomputable def rnS (x:Option (List Rec×St)):St:=match x with | some (_,s)=>s | none=>⟨[],[],0,[]⟩
noncomputable def rnR (x:Option (List Rec×St)):List Rec:=match x with | some (r,_)=>r | none=>[]
noncomputable def skX:Option (List Rec×St):=runOps Tryz.prog oVc skO [skO.getD 0 default] 0 (skS n m xs p).s
theorem sk_seg:aSegN Tryz.prog oVc 3 1 (skA n m xs p)=some ([],[],skS n m xs p):=by kernel_rfl
theorem sk_todo:(skS n m xs p).todo=.code (.region (headId skI) skO false)::rest1 skI:=by kernel_rfl
theorem sk_x:skX n m xs p=some (rnR (skX n m xs p),rnS (skX n m xs p)):=by kernel_rfl
theorem sk_xc:recConds (rnR (skX n m xs p))=[]:=by kernel_rfl
theorem sk_xk:recKeys (rnR (skX n m xs p))=[]:=by kernel_rfl
theorem sk_clo:tget (rnS (skX n m xs p)).T 6=.val false [.clo 57 [(1,0),(2,0)]]:=by kernel_rfl
theorem sk_fr:(rnS (skX n m xs p)).fr=3:=by kernel_rfl
noncomputable def skY:ASt:=⟨rest1 skI,rnS (skX n m xs p)⟩
end
theorem sk_open {n m:Nat} {xs:List Int} (p:List Bool) {β:Env} {us:List Value} {w:World} {R:Ending→World→Prop} (ha:relAs β [slA 0 0 n m] us) (hg:Ex.Good β (byH xs) w) (hf:∀ b,1≤b→β b=none)
  (h:∀ (β':Env) (a:Act) (w':World) (A B:Nat) (m1 m2:Nat×Nat),β' 1=some (.at_ A m1)→β' 2=some (.at_ B m2)→(∀ b,3≤b→β' b=none) →
   Inv β w [] ⟨skF.ntmps,[{ target:=.fn (.func 57) #[.pointer (some ⟨A,m1.2+0,none⟩),.pointer (some ⟨B,m2.2+0,none⟩)],args:=#[] }]⟩ β' (tget (skY n m xs p).s.T) (skY n m xs p).s.H a w' →
   Ex.Safe Tryz.prog 19 R (skY n m xs p).todo a w'):Calls Tryz.prog 19 ⟨us⟩ w R:=by
 refine calls_of_entry (args:=[slA 0 0 n m]) (H:=byH xs) (k0:=1) (path:=p) Tryz.func19 (by kernel_rfl) (by kernel_rfl) ?_ ha hg hf
 refine segN_safe oVcok mixed (sk_seg n m xs p) trivial (wfB_ok (by kernel_rfl)) hf (fun _ h=>by cases h) fun hw=>?_
 intro β' a w' hi hf'
 rw [sk_todo]
 refine Ex.Safe.of_wp (wp_region ?_)
 have hs:List.range skO.size=List.range' 0 [skO.getD 0 default].length++[1]:=by kernel_rfl
 rw [hs]
 refine seq_pre oVcok (W:=[]) _ 0 _ _ _ β' a w' (fun j o hj=>?_) (sk_x n m xs p) (by rw [sk_xc];trivial) hi hf' hw.1 hw.2 (by rw [sk_xk];intro k hk;cases hk) ?_
 ·cases j with
  | zero=>injection hj with hj;subst hj;kernel_rfl
  | succ j=>simp at hj
 ·intro β2 a2 w2 hi2 hf2
  have hc:=hi2.tmp 6
  rw [sk_clo] at hc
  obtain ⟨ps,hp,hu⟩:=rel_one hc
  obtain ⟨A,m1,B,m2,e1,e2,rfl⟩:=relP_two hp
  injection hu with hu _
  refine defer_wp (o:=skO.getD 1 default) (c:=match (skO.getD 1 default).op with | .defer c=>c | _=>⟨.builtin .len,#[],#[]⟩) (t:=6) (by kernel_rfl) (by kernel_rfl) (by kernel_rfl) (by kernel_rfl) (by kernel_rfl) (by kernel_rfl) hu ⟨rfl,?_⟩
  exact h β2 _ w2 A B m1 m2 e1 e2 (fun b hb=>hf2 b (by rw [sk_fr];exact hb)) hi2.push
theorem cell_at1 {β:Env} {H:Heap} {w:World} {k ty A:Nat} {m:Nat×Nat} {c:Ch} {v:Value} (hg:Ex.Good β H w) (hk:hget H k=some ⟨ty,[c],false⟩) (hr:Nat.beq ty roTy=false) (hA:β k=some (.at_ A m)) (hc:∀ l,relC β c l→l=[v]):w.heap[A]? = some (.cells #[v] ty (0,0))∧m.2=0:=by
 rcases relB_rw (hg.heap k _ hk) (nbeq_ro hr) with ⟨B,n,l,t,e1,e2,e3,e4,_⟩ | ⟨e1,_⟩
 ·rw [hA] at e1
  injection e1 with e1;injection e1 with e1 e5
  subst e1;subst e5
  obtain ⟨l1,l2,q1,q2,q3⟩:=e2
  simp only [relL] at q2
  rw [e4 rfl,q3,q2,hc _ q1] at e3
  exact ⟨e3,rfl⟩
 ·rw [hA] at e1;cases e1
section
variable (n m:Nat) (xs:List Int) (p:List Bool)
noncomputable def skZ:ASt:=sgSt (aSegN Tryz.prog oVc 1 1 (skY n m xs p))
noncomputable def skJ:List Item:=(skZ 0 0 [] []).todo
noncomputable def skW:Option (List Rec×St):=runOps Tryz.prog oVc (headOps skJ) [(headOps skJ).getD 0 default] 0 (skZ n m xs p).s
theorem sk_seg2:aSegN Tryz.prog oVc 1 3 (skY n m xs p)=some ([],[],skZ n m xs p):=by kernel_rfl
theorem sk_todo2:(skZ n m xs p).todo=.code (.region (headId skJ) (headOps skJ) false)::rest1 skJ:=by kernel_rfl
theorem sk_w:skW n m xs p=some (rnR (skW n m xs p),rnS (skW n m xs p)):=by kernel_rfl
theorem sk_wc:recConds (rnR (skW n m xs p))=[]:=by kernel_rfl
theorem sk_wk:recKeys (rnR (skW n m xs p))=[]:=by kernel_rfl
theorem sk_w8:tget (rnS (skW n m xs p)).T 8=slA 0 0 n m:=by kernel_rfl
theorem sk_w2:tget (rnS (skW n m xs p)).T 2=.val false [.p 1 0]:=by kernel_rfl
theorem sk_w3:tget (rnS (skW n m xs p)).T 3=.val false [.p 2 0]:=by kernel_rfl
theorem sk_wH0:hget (rnS (skW n m xs p)).H 0=some (roB [.seq .u8 xs]):=by kernel_rfl
theorem sk_wH1:hget (rnS (skW n m xs p)).H 1=some ⟨23,[.v (.slice none 0 0)],false⟩:=by kernel_rfl
theorem sk_wH2:hget (rnS (skW n m xs p)).H 2=some ⟨26,[.n .i64 0],false⟩:=by kernel_rfl
end
theorem seq_seq (xs:List Int):toSeq .u8 [.seq .u8 xs]=some xs:=by kernel_rfl
theorem ptr_at {β:Env} {T:AV} {u:Value} {k A:Nat} {m:Nat×Nat} (hT:T=.val false [.p k 0]) (h:relA β T u) (hA:β k=some (.at_ A m)):u=.pointer (some ⟨A,m.2+0,none⟩):=by
 subst hT
 obtain ⟨B,n,h1,h2⟩:=rel_one h
 rw [hA] at h1
 injection h1 with h1;injection h1 with h1 h3
 subst h1;subst h3
 injection h2
theorem below_get {w w':World} (h:Below w.heap.size w w') {B:Nat} {o:Obj} (hB:w.heap[B]? = some o):w'.heap[B]? = some o:=by
 rw [h.block B (Array.getElem?_eq_some_iff.1 hB).1];exact hB
theorem err_out {β:Env} {H:Heap} {w w':World} (hg:Ex.Good β H w) (hs:w.heap.size≤w'.heap.size) (hf:∀ B,B<w.heap.size→w'.heap[B]? = w.heap[B]?) (ho:w'.os=w.os) (ht:w'.tape=w.tape) (hp:w'.output=w.output):Outs β w [] (errV 210) [] (.returned errU) w' :=
 ⟨errU,β,rfl,{
  val:=⟨_,⟨_,_,rel_one' ⟨rfl,rfl,trivial⟩,⟨_,_,rel_one' ⟨rfl,(has_iff _ _).2 (by decide)⟩,rfl,rfl⟩,rfl⟩,rfl⟩
  good:=⟨(fun _ _ h=>by cases h),(fun _ _ _ _ _ h=>by cases h),(fun b B n h=>Nat.lt_of_lt_of_le (hg.lt b B n h) hs)⟩
  new:=fun _ _ h=>.inl h
  ext:=Env.le_refl β
  frame:=fun B hB _=>hf B hB
  size:=hs
  os:=ho
  tape:=ht
  output:=hp }⟩
theorem sk_err {n m:Nat} {xs:List Int} (hl:n≤xs.length) (hn:hasB .i64 n=true) (hk:skB n (natB (win xs 0 n))=false) :
  CanOk Tryz.prog 19 [slA 0 0 n m] (byH xs) 1 [] (errV 210) []:=by
 intro β us w ha hg hf
 refine sk_open [] ha hg hf fun β' a w' A B m1 m2 hA hB hf' hi=>?_
 refine segN_safe (β0:=β') (w0:=w') (W:=[]) oVcok mixed (sk_seg2 n m xs []) trivial (wfB_ok (by kernel_rfl)) hf' (fun _ h=>by cases h) (fun hw=>?_) β' a w' hi.root (fun b hb=>hf' b (by rw [show (skY n m xs []).s.fr=3 from sk_fr n m xs []] at hb;exact hb))
 intro β1 a1 w1 hi1 hf1
 rw [sk_todo2]
 refine Ex.Safe.of_wpP Tryz.func19 (wp_region ?_)
 have hs:List.range (headOps skJ).size=List.range' 0 [(headOps skJ).getD 0 default].length++(1::List.range' 2 ((headOps skJ).size-2)):=by kernel_rfl
 rw [hs]
 refine seq_pre oVcok (W:=[]) _ 0 _ _ _ β1 a1 w1 (fun j o hj=>?_) (sk_w n m xs []) (by rw [sk_wc];trivial) hi1 hf1 hw.1 hw.2 (by rw [sk_wk];intro k hk;cases hk) ?_
 ·cases j with
  | zero=>injection hj with hj;subst hj;kernel_rfl
  | succ j=>simp at hj
 intro β2 a2 w2 hi2 _
 have r8:=hi2.tmp 8
 rw [sk_w8] at r8
 obtain ⟨_,g2,_⟩:=good_by hi2.good (sk_wH0 n m xs []) (seq_seq xs)
 have hpan:=sc_pan hl hn hk (inEnv β2 [0] 1) [a2.tmps.getD 8 undef] w2 ⟨_,[],sl_in (by omega) rfl r8,rfl,rfl⟩ g2 (fun b hb=>by
  have:Nat.blt b 1=false:=by cases h:Nat.blt b 1 with | false=>rfl | true=>have:=nblt.1 h;omega
  simp [inEnv,this])
 refine pan_wp (o:=(headOps skJ).getD 1 default) (c:=match ((headOps skJ).getD 1 default).op with | .call c=>c | _=>⟨.builtin .len,#[],#[]⟩) (g:=60) (chain:=errC) (by kernel_rfl) (by kernel_rfl) (by kernel_rfl) (by kernel_rfl) Tryz.func60 (by kernel_rfl) (by kernel_rfl) ?_
 have hargs:(match ((headOps skJ).getD 1 default).op with | .call c=>c | _=>⟨.builtin .len,#[],#[]⟩).args=#[.tmp 8]:=by kernel_rfl
 rw [hargs,show Array.map a2.eval #[Operand.tmp 8]=#[a2.eval (.tmp 8)] from by simp]
 refine Calls.mono (R:=fun e w'=>e=.panicked errC∧Below w2.heap.size w2 w') hpan ?_
 rintro e w3 ⟨rfl,hbl⟩
 refine ⟨rfl,.inr ⟨errC,rfl,?_⟩⟩
 have hA2:=hi2.ext 1 _ hA
 have hB2:=hi2.ext 2 _ hB
 obtain ⟨c1,z1⟩:=cell_at1 (v:=.slice none 0 0) hi2.good (sk_wH1 n m xs []) (by kernel_rfl) hA2 fun l h=>h.1
 obtain ⟨c2,z2⟩:=cell_at1 (v:=.int .i64 0) hi2.good (sk_wH2 n m xs []) (by kernel_rfl) hB2 fun l h=>h.1
 have hne:A≠B:=fun e=>by
  subst e
  have:=hi2.good.inj 1 2 A m1 m2 (by rw [rwK_mk (sk_wH1 n m xs []) (nbeq_ro (by kernel_rfl))]) (by rw [sk_wH2];rfl) hA2 hB2
  cases this
 have big:∀ {k C:Nat} {q:Nat×Nat},1≤k→β' k=some (.at_ C q)→w.heap.size≤C:=by
  intro k C q hk0 hC
  rcases hi.new k _ hC with h | h
  ·rw [hf k hk0] at h;cases h
  ·rcases h C q rfl with h | ⟨j,_,hj,_⟩
   ·exact h
   ·cases hj
 have bA:=big (by omega) hA
 have bB:=big (by omega) hB
 have t1:=ptr_at (sk_w2 n m xs []) (hi2.tmp 2) hA2
 have t2:=ptr_at (sk_w3 n m xs []) (hi2.tmp 3) hB2
 rw [z1] at t1
 rw [z2] at t2
 rw [hi2.dfr,z1,z2]
 refine catch_leaves Tryz.func57 (by kernel_rfl) (by kernel_rfl) (fun p q x y w a b c d e=>catch_a p q x y w a b c d e) (t1:=2) (t2:=3) (by kernel_rfl) t1 t2 (below_get hbl c1) (below_get hbl c2) hne fun w4 k1 k2 k3 k4 k5=>?_
 refine err_out hg ?_ (fun C hC=>?_) ?_ ?_ ?_
 ·rw [k2];exact Nat.le_trans hi.size (Nat.le_trans hi2.size hbl.size)
 ·rw [k1 C (by omega) (by omega),hbl.block C (Nat.lt_of_lt_of_le hC (Nat.le_trans hi.size hi2.size)),hi2.frame C (Nat.lt_of_lt_of_le hC hi.size) (fun _ _ h=>by cases h),hi.frame C hC (fun _ _ h=>by cases h)]
 ·rw [k3,hbl.os,hi2.os,hi.os]
 ·rw [k4,hbl.tape,hi2.tape,hi.tape]
 ·rw [k5,hbl.output,hi2.output,hi.output]
noncomputable def skQ (N:Nat):Pt FP:=mulP (natL (win (ws4 N) 0 4)) (toPt (ptX G1B) (ptY G1B) (ptI G1B))
theorem skQ_eq {N:Nat} (h:N<R4):skQ N=smul N G1B:=by
 unfold skQ mulP
 rw [toPt_of,if_pos onG1,natL_ws4 h]
def pkV:AV:=.tup [(false,[.sl 12 0 48 48]),(false,[.n .i64 0])]
def pkH (l:List Int):Heap:=[(12,some ⟨5,[.seq .u8 l],true⟩)]
theorem sk_run (n m:Nat) (xs:List Int):segOut Tryz.prog oVc skF 400 1 [12] (skY n m xs [false,true,true,true,true,true,true,true,true,true]) =
 some ((Nat.ble n xs.length,true)::(Nat.ble n m,true)::(hasB .i64 n,true)::(skB n (natB (win xs 0 n)),true)::tt 2 [(in1 (toPt (ptX (skQ (frV n (natB (win xs 0 n))))) (ptY (skQ (frV n (natB (win xs 0 n))))) (ptI (skQ (frV n (natB (win xs 0 n)))))),true)],[],pkV,
  pkH (e1L true (toPt (ptX (skQ (frV n (natB (win xs 0 n))))) (ptY (skQ (frV n (natB (win xs 0 n))))) (ptI (skQ (frV n (natB (win xs 0 n)))))))):=by kernel_rfl
theorem in1_smul (N:Nat):in1 (smul N G1B)=true:=by
 have h1:=(onP_iff G1B).1 onG1
 unfold in1
 rw [(onP_iff _).2 (on_smul C1 h1 N),← smul_mul C1 h1,Nat.mul_comm,smul_mul C1 h1,rG1,smul_inf]
 rfl
theorem sk_can {n m:Nat} {xs:List Int} (hl:n≤xs.length) (hm:n≤m) (hn:hasB .i64 n=true) (hk:skB n (natB (win xs 0 n))=true) :
  CanOk Tryz.prog 19 [slA 0 0 n m] (byH xs) 1 [] pkV (pkH (e1L true (smul (natB (win xs 0 n)) G1B))):=by
 obtain ⟨k1,k2,_⟩:=skB_iff.1 hk
 have hV:frV n (natB (win xs 0 n))=natB (win xs 0 n):=if_pos ⟨k1,k2⟩
 have hrun:=sk_run n m xs
 rw [hV,toPt_of,skQ_eq (Nat.lt_trans k2 rN_lt)] at hrun
 intro β us w ha hg hf
 refine sk_open [false,true,true,true,true,true,true,true,true,true] ha hg hf fun β' a w' A B m1 m2 _ _ hf' hi=>?_
 exact out_idle oVcok mixed Tryz.func19 hrun ⟨Nat.ble_eq_true_of_le hl,Nat.ble_eq_true_of_le hm,hn,hk,tt_ok 2 ⟨in1_smul _,trivial⟩⟩ (wfB_ok (by kernel_rfl)) hf (fun _ h=>by cases h) rfl Tryz.func57 (by kernel_rfl) (by kernel_rfl)
  (fun w=>idle_a _ _ w) (fun _ _ h=>h) β' a w' hi (fun b hb=>hf' b (by rw [show (skY n m xs _).s.fr=3 from sk_fr n m xs _] at hb;exact hb))
end Go.Proofs.YtfmajnlfpnjagaaGreat
/- bls: SkToPk on offer; awake of sigillaw21. -/
namespace Go.Proofs.YtfmajnlfpnjagaaGreat
open Ex Num Rg
open Go.RowKit (Below)
open Sh (R av rd mo en mo_en)
set_option maxRecDepth 100000
set_option maxHeartbeats 4000000
noncomputable def skSp:ASpec:=fun args H fr path=>match args,path with
 | [S],b::rest=>match asSm S with
  | some (k,n,m)=>match hget H k with
   | some ⟨_,cs,_⟩=>match toSeq .u8 cs with
    | some xs=>match b with
     | true=>some (trR [k] 1 fr 0 [] (errV 210) [] [(Nat.ble n xs.length,true),(Nat.ble n m,true),(hasB .i64 n,true),(skB n (natB (win xs 0 n)),false)] rest)
     | false=>some (trR [k] 1 fr 12 [] pkV (pkH (e1L true (smul (natB (win xs 0 n)) G1B))) [(Nat.ble n xs.length,true),(Nat.ble n m,true),(hasB .i64 n,true),(skB n (natB (win xs 0 n)),true)] rest)
    | none=>none
   | _=>none
  | none=>none
 | _,_=>none
theorem skSp_ok:SpecOk Tryz.prog 19 skSp:=by
 refine can_spec2 Tryz.func19 (by kernel_rfl) (by kernel_rfl) fun args H fr path r hs=>?_
 unfold skSp at hs
 split at hs
 case h_2=>cases hs
 rename_i S b rest
 split at hs
 case h_2=>cases hs
 rename_i k n m hS
 split at hs
 case h_2=>cases hs
 rename_i ty cs o hk'
 split at hs
 case h_2=>cases hs
 rename_i xs hxs
 split at hs
 ·injection hs with hs
  refine ⟨[k],1,0,[],_,_,_,rest,hs.symm,fun β us w ha hg hc=>?_⟩
  obtain ⟨u1,us1,r1,ha,rfl⟩:=ha
  obtain ⟨hl,hm,hn,hb,_⟩:=hc
  obtain ⟨m',_,r1⟩:=asSm_rel hS (Nat.le_of_ble_eq_true hm) r1
  obtain ⟨g1,g2,g3⟩:=good_by hg hk' hxs
  exact ⟨[slA 0 0 n m'],byH xs,sk_err (Nat.le_of_ble_eq_true hl) hn hb,by kernel_rfl,⟨u1,_,sl_in (by omega) rfl r1,ha,rfl⟩,g2,g3⟩
 ·injection hs with hs
  refine ⟨[k],1,12,[],_,_,_,rest,hs.symm,fun β us w ha hg hc=>?_⟩
  obtain ⟨u1,us1,r1,ha,rfl⟩:=ha
  obtain ⟨hl,hm,hn,hb,_⟩:=hc
  obtain ⟨m',hm',r1⟩:=asSm_rel hS (Nat.le_of_ble_eq_true hm) r1
  obtain ⟨g1,g2,g3⟩:=good_by hg hk' hxs
  exact ⟨[slA 0 0 n m'],byH xs,sk_can (Nat.le_of_ble_eq_true hl) hm' hn hb,by kernel_rfl,⟨u1,_,sl_in (by omega) rfl r1,ha,rfl⟩,g2,g3⟩
noncomputable def SVe:List (FuncId×ASpec):=(19,skSp)::(21,nilSpec smSp)::(71,nilSpec (dcSp fun s L=>gmV (dec1 s L)))::SVc
theorem SVeok:SpecsOk Tryz.prog SVe:=⟨skSp_ok,nilSpec_ok smSp_ok,nilSpec_ok (dcSp_ok Tryz.func71 (by kernel_rfl) (by kernel_rfl) (fun _ _=>by kernel_rfl) fun _ _ _ s hl hm hn=>dec1_can hl hm hn s),SVcok⟩
noncomputable abbrev oVe:Orc:=orc SVe KV
theorem oVeok:OrcOk Tryz.prog oVe:=orc_ok SVeok KVok
noncomputable def SVf:List (FuncId×ASpec):=(25,inlSpec Tryz.prog oVe Tryz.f25 300)::(17,inlSpec Tryz.prog oVe Tryz.f17 300)::(22,inlSpec Tryz.prog oVe Tryz.f22 600)::(45,inlSpec Tryz.prog oVe Tryz.f45 300)::SVe
theorem SVfok:SpecsOk Tryz.prog SVf:=⟨inl_ok oVeok mixed Tryz.func25 (by kernel_rfl) (by kernel_rfl) 300,inl_ok oVeok mixed Tryz.func17 (by kernel_rfl) (by kernel_rfl) 300,inl_ok oVeok mixed Tryz.func22 (by kernel_rfl) (by kernel_rfl) 600,inl_ok oVeok mixed Tryz.func45 (by kernel_rfl) (by kernel_rfl) 300,SVeok⟩
noncomputable abbrev oVf:Orc:=orc SVf KV
theorem oVfok:OrcOk Tryz.prog oVf:=orc_ok SVfok KVok
end Go.Proofs.YtfmajnlfpnjagaaGreat
/- sigillaw21: awake, BlsNames. -/
namespace Go.Proofs.YtfmajnlfpnjagaaGreat
open Ex Num Rg
open Sh (R av rd mo en mo_en)
set_option maxRecDepth 100000
set_option maxHeartbeats 4000000
def oneB:List Int:=List.take (Int.toNat 31) (List.drop 0 (List.replicate (Int.toNat 31) 0))++[1]
def oneN:Nat:=natB (win oneB 0 (Int.toNat 31+1))
def zerN:Nat:=natB (win (List.replicate (Int.toNat 32) 0) 0 (Int.toNat 32))
theorem oneN_eq:oneN=1:=by kernel_rfl
theorem zerN_eq:zerN=0:=by kernel_rfl
noncomputable def aw21C:List (Bool×Bool):=tt 7 ((skB (Int.toNat 32) zerN,false)::tt 9 ((skB (Int.toNat 31+1) oneN,true)::(in1 (toPt (ptX G1B) (ptY G1B) (ptI G1B)),true)::(Nat.ble (0+48) (e1L true (smul oneN G1B)).length,true)::(Nat.ble (0+48) (e1L true (toPt (ptX G1B) (ptY G1B) (ptI G1B))).length,true) ::
 tt 2 ((smB (win (e1L true (smul oneN G1B)) 0 48) (win (e1L true (toPt (ptX G1B) (ptY G1B) (ptI G1B))) 0 48),true)::tt 2 ((Nat.ble 48 (e1L true (smul oneN G1B)).length,true)::tt 2 ((decide ((dec1 true (win (e1L true (smul oneN G1B)) 0 48)).2=0),true)::(!ptI (dec1 true (win (e1L true (smul oneN G1B)) 0 48)).1,true)::tt 3 [(false,false)])))))
theorem aw21_run:pureRun Tryz.prog oVf Tryz.f15 [] [true,true,true,false,false,true,true,true,true,false] 1000=some (aw21C,.val false [.b true]):=by kernel_rfl
theorem ecL_l (s i b:Bool) (B:List Int):(ecL s i b B).length=B.length:=by
 cases B with
 | nil=>cases s<;>cases i<;>cases b<;>rfl
 | cons f t=>rw [ecL_cons];rfl
theorem e1L_l (s:Bool) (p:Pt FP):(e1L s p).length=96:=by rw [e1L_ec,ecL_l,b1_cat,cat_length];rfl
theorem skB_zero:skB (Int.toNat 32) zerN=false:=by
 cases h:skB (Int.toNat 32) zerN with
 | false=>rfl
 | true=>exact absurd zerN_eq (skB_iff.1 h).2.2
theorem rN_gt1:1<rN:=by rw [rN_eq];exact nblt.1 (by kernel_rfl)
theorem skB_one:skB (Int.toNat 31+1) oneN=true:=skB_iff.2 ⟨rfl,by rw [oneN_eq];exact rN_gt1,by rw [oneN_eq];decide⟩
theorem smBr (l:List Int):smB l l=true:=decide_eq_true rfl
theorem aw21_ok:PureOk Tryz.prog 15 [] (.val false [.b true]):=by
 have r:=aw21_run
 have e1:smul oneN G1B=G1B:=by rw [oneN_eq];rfl
 have hd:dec1 true (win (e1L true G1B) 0 48)=(G1B,0):=dec_enc1 in1_G true
 unfold aw21C at r
 rw [toPt_of,e1,hd] at r
 have hb:Nat.ble 48 (e1L true G1B).length=true:=by rw [e1L_l];rfl
 have hb':Nat.ble (0+48) (e1L true G1B).length=true:=by rw [e1L_l];rfl
 exact pure_ok oVfok mixed Tryz.func15 r (tt_ok 7 ⟨skB_zero,tt_ok 9 ⟨skB_one,in1_G,hb',hb',tt_ok 2 ⟨smBr _,tt_ok 2 ⟨hb,tt_ok 2 ⟨decide_eq_true rfl,rfl,tt_ok 3 ⟨rfl,trivial⟩⟩⟩⟩⟩⟩) rfl
noncomputable def SVw:List (FuncId×ASpec):=(15,pureSpec yes12)::SVf
theorem SVwok:SpecsOk Tryz.prog SVw:=⟨pureSpec_ok Tryz.func15 (by kernel_rfl) (by kernel_rfl) (sp0_ok aw21_ok fun u h=>h),SVfok⟩
noncomputable abbrev oVw:Orc:=orc SVw KV
theorem oVwok:OrcOk Tryz.prog oVw:=orc_ok SVwok KVok
end Go.Proofs.YtfmajnlfpnjagaaGreat
/- sigillaw21: BlsOrders: the runs. -/
namespace Go.Proofs.YtfmajnlfpnjagaaGreat
open Ex Num Rg
open Sh (R av rd mo en mo_en)
set_option maxRecDepth 100000
set_option maxHeartbeats 4000000
noncomputable def SVg:List (FuncId×ASpec):=(16,inlSpec Tryz.prog oVw Tryz.f16 300)::SVw
theorem SVgok:SpecsOk Tryz.prog SVg:=⟨inl_ok oVwok mixed Tryz.func16 (by kernel_rfl) (by kernel_rfl) 300,SVwok⟩
def zR2:R P2:=(((0:Nat),(0:Nat)),((0:Nat),(0:Nat)),true)
noncomputable def sA1 (p:P2):P2:=Rg.add (mo zR2) (pR2 p)
noncomputable def dPt (x:List Int) (n:Nat):P2:=(dec2 true (win x 0 n)).1
end Go.Proofs.YtfmajnlfpnjagaaGreat
/- sigillaw21: BlsOrders. -/
namespace Go.Proofs.YtfmajnlfpnjagaaGreat
open Ex Num Rg
open Sh (R av rd mo en mo_en)
set_option maxRecDepth 100000
set_option maxHeartbeats 4000000
theorem pI1_inf {p:P2} (h:pI1 p=true):p=.inf:=by
 cases p with
 | inf=>rfl
 | pt x y=>cases h
theorem in2_add {p q:P2} (hp:in2 p=true) (hq:in2 q=true):in2 (Rg.add p q)=true:=by
 obtain ⟨a1,a2⟩:=Bool.and_eq_true_iff.1 hp
 obtain ⟨b1,b2⟩:=Bool.and_eq_true_iff.1 hq
 have c1:=(on2_iff _).1 a1
 have c2:=(on2_iff _).1 b1
 unfold in2
 rw [(on2_iff _).2 (on_add C2 c1 c2),smul_addp C2 c1 c2,pI1_inf a2,pI1_inf b2]
 rfl
theorem sA1_eq (p:P2):sA1 p=p:=by
 unfold sA1
 rw [pR2_eq']
 rfl
theorem eWn_len (p:P2) {n:Nat} (h:n≤192):Nat.ble n (e2L true p).length=true:=by rw [e2L_len];exact Nat.ble_eq_true_of_le h
theorem can_tt {f:FuncId} {args:List AV} {H:Heap} {k0:Nat} (h:CanOk Tryz.prog f args H k0 [] (.val false [.b true]) []):CanOk Tryz.prog f args H k0 [] (boolA true) [] :=
 can_val h fun _ _ ⟨l1,l2,h1,h3,h4⟩=>⟨l1,l2,⟨h1,rfl,trivial⟩,h3,h4⟩
def okB:List (Bool×Bool)→Bool
 | []=>true
 | (x,d)::r=>(x==d)&&okB r
theorem okB_ok:∀ {c:List (Bool×Bool)},okB c=true→okConds c
 | [],_=>trivial
 | (x,d)::r,h=>by
  obtain ⟨h1,h2⟩:=Bool.and_eq_true_iff.1 h
  exact ⟨beq_iff_eq.1 h1,okB_ok h2⟩
section
variable {n0 m0 n1 m1 n2 m2:Nat} {x0 x1 x2:List Int}
end
end Go.Proofs.YtfmajnlfpnjagaaGreat
/- No word at all: g1.Mul, sigilref12.Mul of an empty list, wherever it lies. -/
namespace Go.Proofs.YtfmajnlfpnjagaaGreat
open Ex Num Rg
set_option maxRecDepth 100000
set_option maxHeartbeats 4000000
section
variable (oa:Option Addr) (m x y:Nat) (i:Bool)
end
end Go.Proofs.YtfmajnlfpnjagaaGreat
/- sigillaw12: G1Sums: the runs. -/
namespace Go.Proofs.YtfmajnlfpnjagaaGreat
open Ex Num Rg
set_option maxRecDepth 100000
set_option maxHeartbeats 4000000
section
variable (n m n' m':Nat) (a0 a1 a2:Option Addr) (n0 m0 n1 m1 n2 m2:Nat)
end
end Go.Proofs.YtfmajnlfpnjagaaGreat
/- Lists of lists, and of points, that came in. -/
namespace Go.Proofs.YtfmajnlfpnjagaaGreat
open Ex Num
set_option maxRecDepth 100000
set_option maxHeartbeats 4000000
theorem add_add (a:Addr) (x y:Nat):(a.add x).add y=a.add (x+y):=by
 unfold Addr.add
 by_cases hx:x=0
 ·subst hx;simp
 ·by_cases hy:y=0
  ·subst hy;simp [hx]
  ·simp [hx,hy,Nat.add_assoc]
theorem rows_cells {W:World} {c:Nat}:∀ (css:List (List Value)) (a:Addr),(∀ cs∈css,cs.length=c)→(∀ i,i<css.length→∀ k,k<c→W.cell? ((a.add (i*c)).add k)=(css.getD i [])[k]?)→∀ j,j<css.flatten.length→W.cell? (a.add j)=css.flatten[j]?
 | [],a,_,_,j,hj=>by simp at hj
 | cs::r,a,hl,h,j,hj=>by
  have hc:cs.length=c:=hl cs (List.mem_cons_self ..)
  rw [List.flatten_cons] at hj ⊢
  by_cases q:j<c
  ·have:=h 0 (by simp) j q
   rw [Nat.zero_mul,add_add,Nat.zero_add] at this
   rw [this,List.getElem?_append_left (by omega)];rfl
  ·have ih:=rows_cells r (a.add c) (fun x hx=>hl x (List.mem_cons_of_mem _ hx)) (fun i hi k hk=>by
    have:=h (i+1) (by simpa using hi) k hk
    rw [add_add a c,show c+i*c=(i+1)*c by rw [Nat.succ_mul];omega,this];rfl) (j-c) (by rw [List.length_append] at hj;omega)
   rw [add_add,show c+(j-c)=j by omega] at ih
   rw [ih,List.getElem?_append_right (by omega),hc]
theorem list_of_cells {W:World} {a:Addr} {c:Array Value} {row:TypeId} {fz:Nat×Nat} (hblk:W.heap[a.block]? = some (.cells c row fz)) (hs:a.spot=none) (ho:a.off≤c.size) {l:List Value} (h:∀ j,j<l.length→W.cell? (a.add j)=l[j]?) :
  c.toList=c.toList.take a.off++(l++c.toList.drop (a.off+l.length))∧a.off+l.length≤c.size:=by
 have hget:∀ i,i<l.length→c[a.off+i]? = l[i]?:=by
  intro i hi
  have h1:=h i hi
  have e2:a.add i=⟨a.block,a.off+i,none⟩:=by
   unfold Addr.add
   split
   ·rename_i h0;subst h0
    cases a;simp only at hs;simp [hs]
   ·rfl
  rw [e2] at h1
  simp only [World.cell?,hblk] at h1
  simpa using h1
 have hend:a.off+l.length≤c.size:=by
  rcases Nat.eq_zero_or_pos l.length with h0 | hp
  ·omega
  ·have:=hget (l.length-1) (by omega)
   rw [List.getElem?_eq_getElem (by omega)] at this
   have:=(Array.getElem?_eq_some_iff.1 this).1
   omega
 refine ⟨?_,hend⟩
 have hmid:(c.toList.drop a.off).take l.length=l:=by
  refine List.ext_getElem? fun i=>?_
  by_cases hi:i<l.length
  ·rw [List.getElem?_take_of_lt hi,List.getElem?_drop,Array.getElem?_toList,hget i hi]
  ·rw [List.getElem?_eq_none (by simp;omega),List.getElem?_eq_none (by omega)]
 conv=>lhs;rw [← List.take_append_drop a.off c.toList,← List.take_append_drop l.length (c.toList.drop a.off),hmid,List.drop_drop]
section
variable {H:Type} {enc:TypeId×Value→H} {W:World} {base:Nat}
theorem rows_arg {t e:TypeId} {c:Nat} {v:Value} {d:DataW H} {p:List MemPlace} (hu:Tryz.prog.underlying t=some (.slice e)) (hc:Tryz.prog.cellsOf e=c)
  (hv:Value.okWide Tryz.prog W .any base t v) (ht:DataW.Trod enc Tryz.prog W 0 (fun _=>true) true t v d p) :
  ∃ (L:Ex.Loc) (n m:Nat) (css:List (List Value)),css.length=n∧n≤m∧n≤maxLen∧(∀ B q,L=Ex.Loc.at_ B q→B<W.heap.size)∧(∀ cs∈css,cs.length=c∧∃ (fuel:Nat) (y:DataW H×List MemPlace),DataW.trod enc Tryz.prog W 0 (fun _=>true) true fuel e cs=some y) ∧
   ∀ ls:List Ex.Loc,relA (locEnv (ls++[L])) (.val false [.sl ls.length 0 n m]) v∧∀ chs l r,css.flatten=l++r→relL (locEnv (ls++[L])) chs l→relB (locEnv (ls++[L])) (roB chs) ls.length W:=by
 obtain ⟨fuel,hf⟩:=ht
 obtain ⟨a0,len0,cap0,rfl⟩:=Go.WideShapes.okWide_slice hu hv
 have hcells:(Value.slice a0 len0 cap0).cells=#[Value.slice a0 len0 cap0]:=rfl
 rw [hcells] at hf
 rcases DataW.trod_slice hu hf with ⟨hcs,_⟩ | ⟨a,len,cap,elems,rest,k,_,hcs,_,hb,hl,hm,hlen,hel,_,_⟩
 ·have e1:Value.slice a0 len0 cap0=.slice none 0 0:=by simpa using hcs
  rw [e1]
  refine ⟨.nil,0,0,[],rfl,Nat.le_refl _,Nat.zero_le _,(fun B q h=>by cases h),(fun cs h=>by cases h),fun ls=>⟨?_,fun chs l r e h=>.inr ⟨locEnv_last _ _,.inr rfl,by rw [(List.append_eq_nil_iff.1 e.symm).1] at h;exact h⟩⟩⟩
  exact rel_one' (.inr ⟨locEnv_last _ _,rfl,rfl,rfl,rfl⟩)
 ·have e1:Value.slice a0 len0 cap0=.slice (some a) len cap:=by simpa using hcs
  rw [e1] at hv ⊢
  have hk:Cell.ok Tryz.prog W .any base t (.slice (some a) len cap):=by
   have:=hv
   simp only [Value.okWide,hu,Cell.okWide] at this
   exact this
  simp only [Cell.ok,hu] at hk
  obtain ⟨_,_,_,hspot,row,cells,hsh,hlies⟩:=hk
  obtain ⟨C,fz,hblk,hsz⟩:∃ C fz,W.heap[a.block]? = some (.cells C row fz)∧cells=C.size:=by
   unfold World.shape? at hsh
   split at hsh
   ·rename_i C el fz hq
    injection hsh with hsh;injection hsh with h1 h2
    exact ⟨C,fz,by rw [hq,h1],h2.symm⟩
   ·cases hsh
  have hoff:a.off≤C.size:=by
   have h1:=liesAt_le _ hlies
   have h2:=Nat.div_mul_le_self cells (Tryz.prog.cellsOf row)
   omega
  have hex:∀ i,i<len→∃ cs y,W.cells? 0 (a.add (i*Tryz.prog.cellsOf e)) (Tryz.prog.cellsOf e)=some cs∧DataW.trod enc Tryz.prog W 0 (fun _=>true) true k e cs=some y:=fun i hi=>by
   have h:=hel i hi
   rw [List.getElem?_eq_getElem (by omega),Option.bind_eq_some_iff] at h
   obtain ⟨cs,h1,h2⟩:=h
   exact ⟨cs,_,h1,h2⟩
  obtain ⟨css,hcl,hce⟩:∃ css:List (List Value),css.length=len∧∀ i,i<len→W.cells? 0 (a.add (i*c)) c=some (css.getD i [])∧∃ y,DataW.trod enc Tryz.prog W 0 (fun _=>true) true k e (css.getD i [])=some y:=by
   rw [hc] at hex
   refine ⟨(List.range len).map fun i=>if h:i<len then Classical.choose (hex i h) else [],by simp,fun i hi=>?_⟩
   have e:((List.range len).map fun i=>if h:i<len then Classical.choose (hex i h) else []).getD i []=Classical.choose (hex i hi):=by
    rw [List.getD_eq_getElem?_getD,List.getElem?_map,List.getElem?_range hi]
    simp [hi]
   rw [e]
   obtain ⟨y,h1,h2⟩:=Classical.choose_spec (hex i hi)
   exact ⟨h1,y,h2⟩
  have hmem:∀ cs∈css,∃ i,i<len∧css.getD i []=cs:=fun cs hcs=>by
   obtain ⟨i,hi⟩:=List.getElem?_of_mem hcs
   have hlt:=(List.getElem?_eq_some_iff.1 hi).1
   exact ⟨i,by omega,by rw [List.getD_eq_getElem?_getD,hi];rfl⟩
  have hall:∀ cs∈css,cs.length=c:=fun cs hcs=>by
   obtain ⟨i,hi,e⟩:=hmem cs hcs
   rw [← e]
   exact (World.cells?_some (hce i hi).1).2.1
  have hcell:=rows_cells (W:=W) css a hall fun i hi q hq=>(World.cells?_some (hce i (by omega)).1).2.2 q hq
  obtain ⟨hlist,hend⟩:=list_of_cells hblk hspot hoff hcell
  have ea:a=⟨a.block,a.off,none⟩:=by cases a;simp only at hspot;simp [hspot]
  refine ⟨.at_ a.block (C.size,a.off),len,cap,css,hcl,hl,Nat.le_trans hl hm,fun B q h=>?_,fun cs hcs=>⟨hall cs hcs,?_⟩,fun ls=>⟨?_,fun chs l r e h=>.inl ⟨a.block,(C.size,a.off),l,r++C.toList.drop (a.off+css.flatten.length),C.toList.take a.off,row,fz,locEnv_last _ _,h,?_,?_,fun hr=>absurd rfl hr⟩⟩⟩
  ·injection h with h1 h2
   rw [← h1]
   exact (Array.getElem?_eq_some_iff.1 hblk).1
  ·obtain ⟨i,hi,e⟩:=hmem cs hcs
   obtain ⟨y,hy⟩:=(hce i hi).2
   exact ⟨k,y,by rw [← e];exact hy⟩
  ·refine rel_one' (.inl ⟨a.block,(C.size,a.off),locEnv_last _ _,?_⟩)
   rw [Nat.add_zero,← ea]
  ·rw [← List.append_assoc l r,← e,← hlist];exact hblk
  ·simp;omega
end
end Go.Proofs.YtfmajnlfpnjagaaGreat
/- sigillaw12: G1Sums: the walk. -/
namespace Go.Proofs.YtfmajnlfpnjagaaGreat
open Ex Num Rg
set_option maxRecDepth 100000
set_option maxHeartbeats 4000000
theorem lenn1 {α:Type} {l:List α} (h:l.length=1):∃ c0,l=[c0]:=by
 match l,h with
 | [c0],_=>exact ⟨c0,rfl⟩
theorem lenn2 {α:Type} {l:List α} (h:l.length=2):∃ c0 c1,l=[c0,c1]:=by
 match l,h with
 | [c0,c1],_=>exact ⟨c0,c1,rfl⟩
theorem lenn3 {α:Type} {l:List α} (h:l.length=3):∃ c0 c1 c2,l=[c0,c1,c2]:=by
 match l,h with
 | [c0,c1,c2],_=>exact ⟨c0,c1,c2,rfl⟩
theorem locEnv_app (ls r:List Ex.Loc):Env.le (locEnv ls) (locEnv (ls++r)):=fun b X h=>by
 have hb:b<ls.length:=by
  rcases Nat.lt_or_ge b ls.length with q | q
  ·exact q
  ·simp only [locEnv] at h;rw [List.getElem?_eq_none q] at h;cases h
 simp only [locEnv] at h ⊢
 rw [List.getElem?_append_left hb];exact h
def HRow (W:World) (L:Ex.Loc) (n m:Nat) (v:Value) (css:List (List Value)):Prop:=∀ ls:List Ex.Loc,relA (locEnv (ls++[L])) (.val false [.sl ls.length 0 n m]) v∧∀ chs l r,css.flatten=l++r→relL (locEnv (ls++[L])) chs l→relB (locEnv (ls++[L])) (roB chs) ls.length W
theorem relL_nil {β:Env}:relL β [] []:=rfl
theorem v_rel {β:Env} (oa:Option Addr) (n m:Nat):relC β (.v (.slice oa n m)) [.slice oa n m]:=⟨rfl,rfl,trivial⟩
theorem v_row {β:Env} {cs:List Ch} {l:List Value} (oa:Option Addr) (n m:Nat) (h:relL β cs l):relL β (.v (.slice oa n m)::cs) ([.slice oa n m]++l):=⟨_,_,v_rel oa n m,h,rfl⟩
theorem c_row {β:Env} {c:Ch} {v:Value} {cs:List Ch} {l:List Value} (h1:relC β c [v]) (h:relL β cs l):relL β (c::cs) ([v]++l):=⟨_,_,h1,h,rfl⟩
section
variable {n m n' m':Nat} (bn:hasB .i64 (n:Int)=true) (bn':hasB .i64 (n':Int)=true)
include bn bn'
end
end Go.Proofs.YtfmajnlfpnjagaaGreat
/- Empty lists' bytes are no point, wherever they lie; the tables of BlsAggregates. -/
namespace Go.Proofs.YtfmajnlfpnjagaaGreat
open Ex Num Rg
open Sh (R av rd mo en mo_en)
set_option maxRecDepth 100000
set_option maxHeartbeats 4000000
theorem specs_append {P:Program}:∀ {S T:List (FuncId×ASpec)},SpecsOk P S→SpecsOk P T→SpecsOk P (S++T)
 | [],_,_,h=>h
 | _::_,_,h,h'=>⟨h.1,specs_append h.2 h'⟩
def emB (oa:Option Addr) (m:Nat):List AV:=[.val false [.v (.slice oa 0 m)],.val false [.b true]]
noncomputable def SWr:List (FuncId×ASpec):=(72,inlSpec Tryz.prog (orc [] KV) Tryz.f72 300)::(129,inlSpec Tryz.prog (orc [] KV) Tryz.f129 300)::[]
theorem SWrok:SpecsOk Tryz.prog SWr:=⟨inl_ok (orc_ok (L:=[]) trivial KVok) mixed Tryz.func72 (by kernel_rfl) (by kernel_rfl) 300,inl_ok (orc_ok (L:=[]) trivial KVok) mixed Tryz.func129 (by kernel_rfl) (by kernel_rfl) 300,trivial⟩
noncomputable abbrev oWr:Orc:=orc SWr KV
theorem oWrok:OrcOk Tryz.prog oWr:=orc_ok SWrok KVok
def dE1 (e:Int):AV:=.tup [(true,zero12 false),(false,[.n .i64 e])]
section
variable (oa:Option Addr) (m:Nat)
theorem emc2:pureRun Tryz.prog oWr Tryz.f26 (emB oa m) [true,true] 300=some (tt 2 [],dE2 200):=by kernel_rfl
theorem emr2:pureRun Tryz.prog oWr Tryz.f66 (emB oa m) [true,true] 300=some (tt 2 [],dE2 200):=by kernel_rfl
theorem emc1:pureRun Tryz.prog oWr Tryz.f71 (emB oa m) [true,true] 300=some (tt 2 [],dE1 200):=by kernel_rfl
theorem emc2_ok:PureOk Tryz.prog 26 (emB oa m) (gmV2 (.pt 0 0,200)):=pure_val (pure_ok oWrok mixed Tryz.func26 (emc2 oa m) (tt_ok 2 trivial) rfl) fun _ q=>gz_A2 q
theorem emr2_ok:PureOk Tryz.prog 66 (emB oa m) (gmV2 (.pt 0 0,200)):=pure_val (pure_ok oWrok mixed Tryz.func66 (emr2 oa m) (tt_ok 2 trivial) rfl) fun _ q=>gz_A2 q
theorem gz_A1 {β:Env} {e:Int} {u:Value} (h:relA β (dE1 e) u):relA β (gmV (.pt 0 0,e)) u:=relT2 (fun _ q=>(asG1_rel (x:=0) (y:=0) (i:=false) (by kernel_rfl) q).1) (fun _ q=>gval rfl q) h
theorem emc1_ok:PureOk Tryz.prog 71 (emB oa m) (gmV (.pt 0 0,200)):=pure_val (pure_ok oWrok mixed Tryz.func71 (emc1 oa m) (tt_ok 2 trivial) rfl) fun _ q=>gz_A1 q
end
def emQ (v:AV):List AV→Option AV
 | [.val false [.v (.slice _ 0 _)],.val false [.b true]]=>some v
 | _=>none
theorem emQ_ok {f:FuncId} {v:AV} (h:∀ oa m,PureOk Tryz.prog f (emB oa m) v):∀ args r,emQ v args=some r→PureOk Tryz.prog f args r:=by
 intro args r hs
 unfold emQ at hs
 split at hs
 case h_2=>cases hs
 injection hs with hs;subst hs
 exact h _ _
def emS (v:AV) (s:ASpec):ASpec:=fun args H fr path=>match emQ v args with
 | some _=>pureSpec (emQ v) args H fr path
 | none=>s args H fr path
theorem emS_ok {f:FuncId} {v:AV} {s:ASpec} (h1:SpecOk Tryz.prog f s) (h2:SpecOk Tryz.prog f (pureSpec (emQ v))):SpecOk Tryz.prog f (emS v s):=by
 intro args H fr path r β us w hs
 unfold emS at hs
 split at hs
 ·exact h2 args H fr path r β us w hs
 ·exact h1 args H fr path r β us w hs
noncomputable def SWe:List (FuncId×ASpec):=(26,emS (gmV2 (.pt 0 0,200)) (nilSpec (dcSp fun s L=>gmV2 (dec2 s L))))::(66,emS (gmV2 (.pt 0 0,200)) (nilSpec (dcSp fun s L=>gmV2 (dec2 s L))))::(71,emS (gmV (.pt 0 0,200)) (nilSpec (dcSp fun s L=>gmV (dec1 s L))))::[]
theorem SWeok:SpecsOk Tryz.prog SWe:=⟨emS_ok (nilSpec_ok (dcSp_ok Tryz.func26 (by kernel_rfl) (by kernel_rfl) (fun _ _=>by kernel_rfl) fun _ _ _ s hl hm hn=>dec2_can hl hm hn s)) (pureSpec_ok Tryz.func26 (by kernel_rfl) (by kernel_rfl) (emQ_ok emc2_ok)),emS_ok (nilSpec_ok (dcSp_ok Tryz.func66 (by kernel_rfl) (by kernel_rfl) (fun _ _=>by kernel_rfl) fun _ _ _ s hl hm hn=>k2_can hl hm hn s)) (pureSpec_ok Tryz.func66 (by kernel_rfl) (by kernel_rfl) (emQ_ok emr2_ok)),emS_ok (nilSpec_ok (dcSp_ok Tryz.func71 (by kernel_rfl) (by kernel_rfl) (fun _ _=>by kernel_rfl) fun _ _ _ s hl hm hn=>dec1_can hl hm hn s)) (pureSpec_ok Tryz.func71 (by kernel_rfl) (by kernel_rfl) (emQ_ok emc1_ok)),trivial⟩
noncomputable def SWf:List (FuncId×ASpec):=SWe++(SVg++(SQt++SQg))
theorem SWfok:SpecsOk Tryz.prog SWf:=specs_append SWeok (specs_append SVgok (specs_append SQtok SQgok))
noncomputable def SWa:List (FuncId×ASpec):=(22,inlSpec Tryz.prog (orc SWf KV) Tryz.f22 600)::(23,inlSpec Tryz.prog (orc SWf KV) Tryz.f23 600)::SWf
theorem SWaok:SpecsOk Tryz.prog SWa:=⟨inl_ok (orc_ok SWfok KVok) mixed Tryz.func22 (by kernel_rfl) (by kernel_rfl) 600,inl_ok (orc_ok SWfok KVok) mixed Tryz.func23 (by kernel_rfl) (by kernel_rfl) 600,SWfok⟩
noncomputable abbrev oWa:Orc:=orc SWa KV
end Go.Proofs.YtfmajnlfpnjagaaGreat
/- sigillaw21: BlsAggregates: the runs. -/
namespace Go.Proofs.YtfmajnlfpnjagaaGreat
open Ex Num Rg
open Sh (R av rd mo en mo_en)
set_option maxRecDepth 100000
set_option maxHeartbeats 4000000
theorem ag_l (M:Nat) (n:Nat):segOut Tryz.prog oWa Tryz.f5 900 1 [] (entry Tryz.f5 [slA 0 0 n M] [(0,some (roB []))] 1 [true])=some ((hasB IntKind.i64 (Int.ofNat n),true)::(decide (3<Int.ofNat n),true)::[],[],.val false [.b true],[]):=by kernel_rfl
theorem ag_l10 (M:Nat) (a0:Option Addr) (n0 m0:Nat):segOut Tryz.prog oWa Tryz.f5 900 1 [] (entry Tryz.f5 [slA 0 0 1 M] [(0,some (roB [.v (.slice a0 n0 m0)]))] 1 [false,true,true])=some ((true,true)::(false,false)::tt 3 ((hasB IntKind.i64 (Int.ofNat n0),true)::(decide (300<Int.ofNat n0),true)::[]),[],.val false [.b true],[]):=by kernel_rfl
theorem ag_l20 (M:Nat) (a0:Option Addr) (n0 m0:Nat):segOut Tryz.prog oWa Tryz.f5 900 1 [] (entry Tryz.f5 [slA 0 0 2 M] [(0,some (roB [.v (.slice a0 n0 m0)]))] 1 [false,true,true])=some ((true,true)::(false,false)::tt 3 ((hasB IntKind.i64 (Int.ofNat n0),true)::(decide (300<Int.ofNat n0),true)::[]),[],.val false [.b true],[]):=by kernel_rfl
theorem ag_l21 (M:Nat) (a0:Option Addr) (n0 m0:Nat) (a1:Option Addr) (n1 m1:Nat):segOut Tryz.prog oWa Tryz.f5 900 1 [] (entry Tryz.f5 [slA 0 0 2 M] [(0,some (roB [.v (.slice a0 n0 m0),.v (.slice a1 n1 m1)]))] 1 [false,true,false,true,true])=some ((true,true)::(false,false)::tt 3 ((hasB IntKind.i64 (Int.ofNat n0),true)::(decide (300<Int.ofNat n0),false)::tt 3 ((hasB IntKind.i64 (Int.ofNat n1),true)::(decide (300<Int.ofNat n1),true)::[])),[],.val false [.b true],[]):=by kernel_rfl
theorem ag_l30 (M:Nat) (a0:Option Addr) (n0 m0:Nat):segOut Tryz.prog oWa Tryz.f5 900 1 [] (entry Tryz.f5 [slA 0 0 3 M] [(0,some (roB [.v (.slice a0 n0 m0)]))] 1 [false,true,true])=some ((true,true)::(false,false)::tt 3 ((hasB IntKind.i64 (Int.ofNat n0),true)::(decide (300<Int.ofNat n0),true)::[]),[],.val false [.b true],[]):=by kernel_rfl
theorem ag_l31 (M:Nat) (a0:Option Addr) (n0 m0:Nat) (a1:Option Addr) (n1 m1:Nat):segOut Tryz.prog oWa Tryz.f5 900 1 [] (entry Tryz.f5 [slA 0 0 3 M] [(0,some (roB [.v (.slice a0 n0 m0),.v (.slice a1 n1 m1)]))] 1 [false,true,false,true,true])=some ((true,true)::(false,false)::tt 3 ((hasB IntKind.i64 (Int.ofNat n0),true)::(decide (300<Int.ofNat n0),false)::tt 3 ((hasB IntKind.i64 (Int.ofNat n1),true)::(decide (300<Int.ofNat n1),true)::[])),[],.val false [.b true],[]):=by kernel_rfl
theorem ag_l32 (M:Nat) (a0:Option Addr) (n0 m0:Nat) (a1:Option Addr) (n1 m1:Nat) (a2:Option Addr) (n2 m2:Nat):segOut Tryz.prog oWa Tryz.f5 900 1 [] (entry Tryz.f5 [slA 0 0 3 M] [(0,some (roB [.v (.slice a0 n0 m0),.v (.slice a1 n1 m1),.v (.slice a2 n2 m2)]))] 1 [false,true,false,true,false,true,true])=some ((true,true)::(false,false)::tt 3 ((hasB IntKind.i64 (Int.ofNat n0),true)::(decide (300<Int.ofNat n0),false)::tt 3 ((hasB IntKind.i64 (Int.ofNat n1),true)::(decide (300<Int.ofNat n1),false)::tt 3 ((hasB IntKind.i64 (Int.ofNat n2),true)::(decide (300<Int.ofNat n2),true)::[]))),[],.val false [.b true],[]):=by kernel_rfl
theorem ag_0 (M:Nat):segOut Tryz.prog oWa Tryz.f5 900 1 [] (entry Tryz.f5 [slA 0 0 0 M] [(0,some (roB []))] 1 [false,false,true,true,true,true,true,true,true])=some ((true,true)::(false,false)::(true,true)::(false,false)::tt 9 ([]),[],.val false [.b true],[]):=by kernel_rfl
theorem ag_10o (M:Nat) (x0:List Int) (n0 m0:Nat):segOut Tryz.prog oWa Tryz.f5 900 2 [] (entry Tryz.f5 [slA 1 0 1 M] [(0,some (roB [.seq .u8 x0])),(1,some (roB [.sl 0 0 n0 m0]))] 2 [false,true,false,false,false,true,true,false,true,true,true,true,true,true,true])=some ((true,true)::(false,false)::tt 3 ((hasB IntKind.i64 (Int.ofNat n0),true)::(decide (300<Int.ofNat n0),false)::(true,true)::(false,false)::(true,true)::(false,false)::tt 3 ((Nat.ble n0 (List.length x0),true)::(Nat.ble n0 m0,true)::(hasB IntKind.i64 (Int.ofNat n0),true)::(!decide (Prod.snd (dec2 true (win x0 (0) n0))=0),true)::(true,true)::(false,false)::tt 3 ((Nat.ble n0 (List.length x0),true)::(Nat.ble n0 m0,true)::(hasB IntKind.i64 (Int.ofNat n0),true)::(!decide (Prod.snd (dec2 true (win x0 (0) n0))=0),true)::tt 5 ([])))),[],boolA (decide ((dec2 true (win x0 0 n0)).2=(dec2 true (win x0 0 n0)).2)),[]):=by kernel_rfl
theorem ag_10e (M:Nat) (a0:Option Addr) (m0:Nat):segOut Tryz.prog oWa Tryz.f5 900 1 [] (entry Tryz.f5 [slA 0 0 1 M] [(0,some (roB [.v (.slice a0 0 m0)]))] 1 [false,true,false,false,false,true,true,false,true,true,true,true,true,true,true])=some ((true,true)::(false,false)::tt 4 ((false,false)::(true,true)::(false,false)::(true,true)::(false,false)::tt 3 ((!decide ((200:Int)=0),true)::(true,true)::(false,false)::tt 3 ((!decide ((200:Int)=0),true)::tt 5 ([])))),[],boolA (decide ((200:Int)=(200:Int))),[]):=by kernel_rfl
theorem ag_1ok (M:Nat) (x0:List Int) (n0 m0:Nat):segOut Tryz.prog oWa Tryz.f5 900 2 [] (entry Tryz.f5 [slA 1 0 1 M] [(0,some (roB [.seq .u8 x0])),(1,some (roB [.sl 0 0 n0 m0]))] 2 [false,true,false,false,false,true,false,false,false,false,true,false,false,false,true,true,true,true,true])=some ((true,true)::(false,false)::tt 3 ((hasB IntKind.i64 (Int.ofNat n0),true)::(decide (300<Int.ofNat n0),false)::(true,true)::(false,false)::(true,true)::(false,false)::tt 3 ((Nat.ble n0 (List.length x0),true)::(Nat.ble n0 m0,true)::(hasB IntKind.i64 (Int.ofNat n0),true)::(!decide (Prod.snd (dec2 true (win x0 (0) n0))=0),false)::(false,false)::(in2 (pR2 (sA1 (dPt x0 n0))),true)::(true,true)::(false,false)::tt 3 ((Nat.ble n0 (List.length x0),true)::(Nat.ble n0 m0,true)::(hasB IntKind.i64 (Int.ofNat n0),true)::(!decide (Prod.snd (dec2 true (win x0 (0) n0))=0),false)::(true,true)::(false,false)::(in2 (pR2 (sA1 (dPt x0 n0))),true)::(Nat.ble (0+96) (e2L true (pR2 (sA1 (dPt x0 n0)))).length,true)::(Nat.ble (0+96) (r2L true (pR2 (sA1 (dPt x0 n0)))).length,true)::tt 2 ((smB (win (e2L true (pR2 (sA1 (dPt x0 n0)))) 0 96) (win (r2L true (pR2 (sA1 (dPt x0 n0)))) 0 96),true)::[])))),[],.val false [.b true],[]):=by kernel_rfl
theorem ag_20o (M:Nat) (x0:List Int) (n0 m0:Nat) (a1:Option Addr) (n1 m1:Nat):segOut Tryz.prog oWa Tryz.f5 900 2 [] (entry Tryz.f5 [slA 1 0 2 M] [(0,some (roB [.seq .u8 x0])),(1,some (roB [.sl 0 0 n0 m0,.v (.slice a1 n1 m1)]))] 2 [false,true,false,true,false,false,false,true,true,false,true,true,true,true,true,true,true])=some ((true,true)::(false,false)::tt 3 ((hasB IntKind.i64 (Int.ofNat n0),true)::(decide (300<Int.ofNat n0),false)::tt 3 ((hasB IntKind.i64 (Int.ofNat n1),true)::(decide (300<Int.ofNat n1),false)::(true,true)::(false,false)::(true,true)::(false,false)::tt 3 ((Nat.ble n0 (List.length x0),true)::(Nat.ble n0 m0,true)::(hasB IntKind.i64 (Int.ofNat n0),true)::(!decide (Prod.snd (dec2 true (win x0 (0) n0))=0),true)::(true,true)::(false,false)::tt 3 ((Nat.ble n0 (List.length x0),true)::(Nat.ble n0 m0,true)::(hasB IntKind.i64 (Int.ofNat n0),true)::(!decide (Prod.snd (dec2 true (win x0 (0) n0))=0),true)::tt 5 ([]))))),[],boolA (decide ((dec2 true (win x0 0 n0)).2=(dec2 true (win x0 0 n0)).2)),[]):=by kernel_rfl
theorem ag_20e (M:Nat) (a0:Option Addr) (m0:Nat) (a1:Option Addr) (n1 m1:Nat):segOut Tryz.prog oWa Tryz.f5 900 1 [] (entry Tryz.f5 [slA 0 0 2 M] [(0,some (roB [.v (.slice a0 0 m0),.v (.slice a1 n1 m1)]))] 1 [false,true,false,true,false,false,false,true,true,false,true,true,true,true,true,true,true])=some ((true,true)::(false,false)::tt 4 ((false,false)::tt 3 ((hasB IntKind.i64 (Int.ofNat n1),true)::(decide (300<Int.ofNat n1),false)::(true,true)::(false,false)::(true,true)::(false,false)::tt 3 ((!decide ((200:Int)=0),true)::(true,true)::(false,false)::tt 3 ((!decide ((200:Int)=0),true)::tt 5 ([]))))),[],boolA (decide ((200:Int)=(200:Int))),[]):=by kernel_rfl
theorem ag_21o (M:Nat) (x0:List Int) (n0 m0:Nat) (x1:List Int) (n1 m1:Nat):segOut Tryz.prog oWa Tryz.f5 900 3 [] (entry Tryz.f5 [slA 2 0 2 M] [(0,some (roB [.seq .u8 x0])),(1,some (roB [.seq .u8 x1])),(2,some (roB [.sl 0 0 n0 m0,.sl 1 0 n1 m1]))] 3 [false,true,false,true,false,false,false,true,false,true,true,false,true,false,true,true,true,true,true,true,true])=some ((true,true)::(false,false)::tt 3 ((hasB IntKind.i64 (Int.ofNat n0),true)::(decide (300<Int.ofNat n0),false)::tt 3 ((hasB IntKind.i64 (Int.ofNat n1),true)::(decide (300<Int.ofNat n1),false)::(true,true)::(false,false)::(true,true)::(false,false)::tt 3 ((Nat.ble n0 (List.length x0),true)::(Nat.ble n0 m0,true)::(hasB IntKind.i64 (Int.ofNat n0),true)::(!decide (Prod.snd (dec2 true (win x0 (0) n0))=0),false)::tt 2 ((Nat.ble n1 (List.length x1),true)::(Nat.ble n1 m1,true)::(hasB IntKind.i64 (Int.ofNat n1),true)::(!decide (Prod.snd (dec2 true (win x1 (0) n1))=0),true)::(true,true)::(false,false)::tt 3 ((Nat.ble n0 (List.length x0),true)::(Nat.ble n0 m0,true)::(hasB IntKind.i64 (Int.ofNat n0),true)::(!decide (Prod.snd (dec2 true (win x0 (0) n0))=0),false)::tt 3 ((Nat.ble n1 (List.length x1),true)::(Nat.ble n1 m1,true)::(hasB IntKind.i64 (Int.ofNat n1),true)::(!decide (Prod.snd (dec2 true (win x1 (0) n1))=0),true)::tt 5 ([]))))))),[],boolA (decide ((dec2 true (win x1 0 n1)).2=(dec2 true (win x1 0 n1)).2)),[]):=by kernel_rfl
theorem ag_21e (M:Nat) (x0:List Int) (n0 m0:Nat) (a1:Option Addr) (m1:Nat):segOut Tryz.prog oWa Tryz.f5 900 2 [] (entry Tryz.f5 [slA 1 0 2 M] [(0,some (roB [.seq .u8 x0])),(1,some (roB [.sl 0 0 n0 m0,.v (.slice a1 0 m1)]))] 2 [false,true,false,true,false,false,false,true,false,true,true,false,true,false,true,true,true,true,true,true,true])=some ((true,true)::(false,false)::tt 3 ((hasB IntKind.i64 (Int.ofNat n0),true)::(decide (300<Int.ofNat n0),false)::tt 4 ((false,false)::(true,true)::(false,false)::(true,true)::(false,false)::tt 3 ((Nat.ble n0 (List.length x0),true)::(Nat.ble n0 m0,true)::(hasB IntKind.i64 (Int.ofNat n0),true)::(!decide (Prod.snd (dec2 true (win x0 (0) n0))=0),false)::tt 2 ((!decide ((200:Int)=0),true)::(true,true)::(false,false)::tt 3 ((Nat.ble n0 (List.length x0),true)::(Nat.ble n0 m0,true)::(hasB IntKind.i64 (Int.ofNat n0),true)::(!decide (Prod.snd (dec2 true (win x0 (0) n0))=0),false)::tt 3 ((!decide ((200:Int)=0),true)::tt 5 ([]))))))),[],boolA (decide ((200:Int)=(200:Int))),[]):=by kernel_rfl
theorem ag_2ok (M:Nat) (x0:List Int) (n0 m0:Nat) (x1:List Int) (n1 m1:Nat):segOut Tryz.prog oWa Tryz.f5 900 3 [] (entry Tryz.f5 [slA 2 0 2 M] [(0,some (roB [.seq .u8 x0])),(1,some (roB [.seq .u8 x1])),(2,some (roB [.sl 0 0 n0 m0,.sl 1 0 n1 m1]))] 3 [false,true,false,true,false,false,false,true,false,true,false,false,false,false,true,false,true,false,false,false,true,true,true,true,true])=some ((true,true)::(false,false)::tt 3 ((hasB IntKind.i64 (Int.ofNat n0),true)::(decide (300<Int.ofNat n0),false)::tt 3 ((hasB IntKind.i64 (Int.ofNat n1),true)::(decide (300<Int.ofNat n1),false)::(true,true)::(false,false)::(true,true)::(false,false)::tt 3 ((Nat.ble n0 (List.length x0),true)::(Nat.ble n0 m0,true)::(hasB IntKind.i64 (Int.ofNat n0),true)::(!decide (Prod.snd (dec2 true (win x0 (0) n0))=0),false)::tt 2 ((Nat.ble n1 (List.length x1),true)::(Nat.ble n1 m1,true)::(hasB IntKind.i64 (Int.ofNat n1),true)::(!decide (Prod.snd (dec2 true (win x1 (0) n1))=0),false)::(false,false)::(in2 (pR2 (Rg.add (pR2 (sA1 (dPt x0 n0))) (pR2 (dPt x1 n1)))),true)::(true,true)::(false,false)::tt 3 ((Nat.ble n0 (List.length x0),true)::(Nat.ble n0 m0,true)::(hasB IntKind.i64 (Int.ofNat n0),true)::(!decide (Prod.snd (dec2 true (win x0 (0) n0))=0),false)::tt 3 ((Nat.ble n1 (List.length x1),true)::(Nat.ble n1 m1,true)::(hasB IntKind.i64 (Int.ofNat n1),true)::(!decide (Prod.snd (dec2 true (win x1 (0) n1))=0),false)::(true,true)::(false,false)::(in2 (pR2 (Rg.add (pR2 (sA1 (dPt x0 n0))) (pR2 (dPt x1 n1)))),true)::(Nat.ble (0+96) (e2L true (pR2 (Rg.add (pR2 (sA1 (dPt x0 n0))) (pR2 (dPt x1 n1))))).length,true)::(Nat.ble (0+96) (r2L true (pR2 (Rg.add (pR2 (sA1 (dPt x0 n0))) (pR2 (dPt x1 n1))))).length,true)::tt 2 ((smB (win (e2L true (pR2 (Rg.add (pR2 (sA1 (dPt x0 n0))) (pR2 (dPt x1 n1))))) 0 96) (win (r2L true (pR2 (Rg.add (pR2 (sA1 (dPt x0 n0))) (pR2 (dPt x1 n1))))) 0 96),true)::[]))))))),[],.val false [.b true],[]):=by kernel_rfl
theorem ag_30o (M:Nat) (x0:List Int) (n0 m0:Nat) (a1:Option Addr) (n1 m1:Nat) (a2:Option Addr) (n2 m2:Nat):segOut Tryz.prog oWa Tryz.f5 900 2 [] (entry Tryz.f5 [slA 1 0 3 M] [(0,some (roB [.seq .u8 x0])),(1,some (roB [.sl 0 0 n0 m0,.v (.slice a1 n1 m1),.v (.slice a2 n2 m2)]))] 2 [false,true,false,true,false,true,false,false,false,true,true,false,true,true,true,true,true,true,true])=some ((true,true)::(false,false)::tt 3 ((hasB IntKind.i64 (Int.ofNat n0),true)::(decide (300<Int.ofNat n0),false)::tt 3 ((hasB IntKind.i64 (Int.ofNat n1),true)::(decide (300<Int.ofNat n1),false)::tt 3 ((hasB IntKind.i64 (Int.ofNat n2),true)::(decide (300<Int.ofNat n2),false)::(true,true)::(false,false)::(true,true)::(false,false)::tt 3 ((Nat.ble n0 (List.length x0),true)::(Nat.ble n0 m0,true)::(hasB IntKind.i64 (Int.ofNat n0),true)::(!decide (Prod.snd (dec2 true (win x0 (0) n0))=0),true)::(true,true)::(false,false)::tt 3 ((Nat.ble n0 (List.length x0),true)::(Nat.ble n0 m0,true)::(hasB IntKind.i64 (Int.ofNat n0),true)::(!decide (Prod.snd (dec2 true (win x0 (0) n0))=0),true)::tt 5 ([])))))),[],boolA (decide ((dec2 true (win x0 0 n0)).2=(dec2 true (win x0 0 n0)).2)),[]):=by kernel_rfl
theorem ag_30e (M:Nat) (a0:Option Addr) (m0:Nat) (a1:Option Addr) (n1 m1:Nat) (a2:Option Addr) (n2 m2:Nat):segOut Tryz.prog oWa Tryz.f5 900 1 [] (entry Tryz.f5 [slA 0 0 3 M] [(0,some (roB [.v (.slice a0 0 m0),.v (.slice a1 n1 m1),.v (.slice a2 n2 m2)]))] 1 [false,true,false,true,false,true,false,false,false,true,true,false,true,true,true,true,true,true,true])=some ((true,true)::(false,false)::tt 4 ((false,false)::tt 3 ((hasB IntKind.i64 (Int.ofNat n1),true)::(decide (300<Int.ofNat n1),false)::tt 3 ((hasB IntKind.i64 (Int.ofNat n2),true)::(decide (300<Int.ofNat n2),false)::(true,true)::(false,false)::(true,true)::(false,false)::tt 3 ((!decide ((200:Int)=0),true)::(true,true)::(false,false)::tt 3 ((!decide ((200:Int)=0),true)::tt 5 ([])))))),[],boolA (decide ((200:Int)=(200:Int))),[]):=by kernel_rfl
theorem ag_31o (M:Nat) (x0:List Int) (n0 m0:Nat) (x1:List Int) (n1 m1:Nat) (a2:Option Addr) (n2 m2:Nat):segOut Tryz.prog oWa Tryz.f5 900 3 [] (entry Tryz.f5 [slA 2 0 3 M] [(0,some (roB [.seq .u8 x0])),(1,some (roB [.seq .u8 x1])),(2,some (roB [.sl 0 0 n0 m0,.sl 1 0 n1 m1,.v (.slice a2 n2 m2)]))] 3 [false,true,false,true,false,true,false,false,false,true,false,true,true,false,true,false,true,true,true,true,true,true,true])=some ((true,true)::(false,false)::tt 3 ((hasB IntKind.i64 (Int.ofNat n0),true)::(decide (300<Int.ofNat n0),false)::tt 3 ((hasB IntKind.i64 (Int.ofNat n1),true)::(decide (300<Int.ofNat n1),false)::tt 3 ((hasB IntKind.i64 (Int.ofNat n2),true)::(decide (300<Int.ofNat n2),false)::(true,true)::(false,false)::(true,true)::(false,false)::tt 3 ((Nat.ble n0 (List.length x0),true)::(Nat.ble n0 m0,true)::(hasB IntKind.i64 (Int.ofNat n0),true)::(!decide (Prod.snd (dec2 true (win x0 (0) n0))=0),false)::tt 2 ((Nat.ble n1 (List.length x1),true)::(Nat.ble n1 m1,true)::(hasB IntKind.i64 (Int.ofNat n1),true)::(!decide (Prod.snd (dec2 true (win x1 (0) n1))=0),true)::(true,true)::(false,false)::tt 3 ((Nat.ble n0 (List.length x0),true)::(Nat.ble n0 m0,true)::(hasB IntKind.i64 (Int.ofNat n0),true)::(!decide (Prod.snd (dec2 true (win x0 (0) n0))=0),false)::tt 3 ((Nat.ble n1 (List.length x1),true)::(Nat.ble n1 m1,true)::(hasB IntKind.i64 (Int.ofNat n1),true)::(!decide (Prod.snd (dec2 true (win x1 (0) n1))=0),true)::tt 5 ([])))))))),[],boolA (decide ((dec2 true (win x1 0 n1)).2=(dec2 true (win x1 0 n1)).2)),[]):=by kernel_rfl
theorem ag_31e (M:Nat) (x0:List Int) (n0 m0:Nat) (a1:Option Addr) (m1:Nat) (a2:Option Addr) (n2 m2:Nat):segOut Tryz.prog oWa Tryz.f5 900 2 [] (entry Tryz.f5 [slA 1 0 3 M] [(0,some (roB [.seq .u8 x0])),(1,some (roB [.sl 0 0 n0 m0,.v (.slice a1 0 m1),.v (.slice a2 n2 m2)]))] 2 [false,true,false,true,false,true,false,false,false,true,false,true,true,false,true,false,true,true,true,true,true,true,true])=some ((true,true)::(false,false)::tt 3 ((hasB IntKind.i64 (Int.ofNat n0),true)::(decide (300<Int.ofNat n0),false)::tt 4 ((false,false)::tt 3 ((hasB IntKind.i64 (Int.ofNat n2),true)::(decide (300<Int.ofNat n2),false)::(true,true)::(false,false)::(true,true)::(false,false)::tt 3 ((Nat.ble n0 (List.length x0),true)::(Nat.ble n0 m0,true)::(hasB IntKind.i64 (Int.ofNat n0),true)::(!decide (Prod.snd (dec2 true (win x0 (0) n0))=0),false)::tt 2 ((!decide ((200:Int)=0),true)::(true,true)::(false,false)::tt 3 ((Nat.ble n0 (List.length x0),true)::(Nat.ble n0 m0,true)::(hasB IntKind.i64 (Int.ofNat n0),true)::(!decide (Prod.snd (dec2 true (win x0 (0) n0))=0),false)::tt 3 ((!decide ((200:Int)=0),true)::tt 5 ([])))))))),[],boolA (decide ((200:Int)=(200:Int))),[]):=by kernel_rfl
theorem ag_32o (M:Nat) (x0:List Int) (n0 m0:Nat) (x1:List Int) (n1 m1:Nat) (x2:List Int) (n2 m2:Nat):segOut Tryz.prog oWa Tryz.f5 900 4 [] (entry Tryz.f5 [slA 3 0 3 M] [(0,some (roB [.seq .u8 x0])),(1,some (roB [.seq .u8 x1])),(2,some (roB [.seq .u8 x2])),(3,some (roB [.sl 0 0 n0 m0,.sl 1 0 n1 m1,.sl 2 0 n2 m2]))] 4 [false,true,false,true,false,true,false,false,false,true,false,true,false,true,true,false,true,false,true,false,true,true,true,true,true,true,true])=some ((true,true)::(false,false)::tt 3 ((hasB IntKind.i64 (Int.ofNat n0),true)::(decide (300<Int.ofNat n0),false)::tt 3 ((hasB IntKind.i64 (Int.ofNat n1),true)::(decide (300<Int.ofNat n1),false)::tt 3 ((hasB IntKind.i64 (Int.ofNat n2),true)::(decide (300<Int.ofNat n2),false)::(true,true)::(false,false)::(true,true)::(false,false)::tt 3 ((Nat.ble n0 (List.length x0),true)::(Nat.ble n0 m0,true)::(hasB IntKind.i64 (Int.ofNat n0),true)::(!decide (Prod.snd (dec2 true (win x0 (0) n0))=0),false)::tt 2 ((Nat.ble n1 (List.length x1),true)::(Nat.ble n1 m1,true)::(hasB IntKind.i64 (Int.ofNat n1),true)::(!decide (Prod.snd (dec2 true (win x1 (0) n1))=0),false)::tt 2 ((Nat.ble n2 (List.length x2),true)::(Nat.ble n2 m2,true)::(hasB IntKind.i64 (Int.ofNat n2),true)::(!decide (Prod.snd (dec2 true (win x2 (0) n2))=0),true)::(true,true)::(false,false)::tt 3 ((Nat.ble n0 (List.length x0),true)::(Nat.ble n0 m0,true)::(hasB IntKind.i64 (Int.ofNat n0),true)::(!decide (Prod.snd (dec2 true (win x0 (0) n0))=0),false)::tt 3 ((Nat.ble n1 (List.length x1),true)::(Nat.ble n1 m1,true)::(hasB IntKind.i64 (Int.ofNat n1),true)::(!decide (Prod.snd (dec2 true (win x1 (0) n1))=0),false)::tt 3 ((Nat.ble n2 (List.length x2),true)::(Nat.ble n2 m2,true)::(hasB IntKind.i64 (Int.ofNat n2),true)::(!decide (Prod.snd (dec2 true (win x2 (0) n2))=0),true)::tt 5 ([])))))))))),[],boolA (decide ((dec2 true (win x2 0 n2)).2=(dec2 true (win x2 0 n2)).2)),[]):=by kernel_rfl
theorem ag_32e (M:Nat) (x0:List Int) (n0 m0:Nat) (x1:List Int) (n1 m1:Nat) (a2:Option Addr) (m2:Nat):segOut Tryz.prog oWa Tryz.f5 900 3 [] (entry Tryz.f5 [slA 2 0 3 M] [(0,some (roB [.seq .u8 x0])),(1,some (roB [.seq .u8 x1])),(2,some (roB [.sl 0 0 n0 m0,.sl 1 0 n1 m1,.v (.slice a2 0 m2)]))] 3 [false,true,false,true,false,true,false,false,false,true,false,true,false,true,true,false,true,false,true,false,true,true,true,true,true,true,true])=some ((true,true)::(false,false)::tt 3 ((hasB IntKind.i64 (Int.ofNat n0),true)::(decide (300<Int.ofNat n0),false)::tt 3 ((hasB IntKind.i64 (Int.ofNat n1),true)::(decide (300<Int.ofNat n1),false)::tt 4 ((false,false)::(true,true)::(false,false)::(true,true)::(false,false)::tt 3 ((Nat.ble n0 (List.length x0),true)::(Nat.ble n0 m0,true)::(hasB IntKind.i64 (Int.ofNat n0),true)::(!decide (Prod.snd (dec2 true (win x0 (0) n0))=0),false)::tt 2 ((Nat.ble n1 (List.length x1),true)::(Nat.ble n1 m1,true)::(hasB IntKind.i64 (Int.ofNat n1),true)::(!decide (Prod.snd (dec2 true (win x1 (0) n1))=0),false)::tt 2 ((!decide ((200:Int)=0),true)::(true,true)::(false,false)::tt 3 ((Nat.ble n0 (List.length x0),true)::(Nat.ble n0 m0,true)::(hasB IntKind.i64 (Int.ofNat n0),true)::(!decide (Prod.snd (dec2 true (win x0 (0) n0))=0),false)::tt 3 ((Nat.ble n1 (List.length x1),true)::(Nat.ble n1 m1,true)::(hasB IntKind.i64 (Int.ofNat n1),true)::(!decide (Prod.snd (dec2 true (win x1 (0) n1))=0),false)::tt 3 ((!decide ((200:Int)=0),true)::tt 5 ([])))))))))),[],boolA (decide ((200:Int)=(200:Int))),[]):=by kernel_rfl
theorem ag_3ok (M:Nat) (x0:List Int) (n0 m0:Nat) (x1:List Int) (n1 m1:Nat) (x2:List Int) (n2 m2:Nat):segOut Tryz.prog oWa Tryz.f5 900 4 [] (entry Tryz.f5 [slA 3 0 3 M] [(0,some (roB [.seq .u8 x0])),(1,some (roB [.seq .u8 x1])),(2,some (roB [.seq .u8 x2])),(3,some (roB [.sl 0 0 n0 m0,.sl 1 0 n1 m1,.sl 2 0 n2 m2]))] 4 [false,true,false,true,false,true,false,false,false,true,false,true,false,true,false,false,false,false,true,false,true,false,true,false,false,false,true,true,true,true,true])=some ((true,true)::(false,false)::tt 3 ((hasB IntKind.i64 (Int.ofNat n0),true)::(decide (300<Int.ofNat n0),false)::tt 3 ((hasB IntKind.i64 (Int.ofNat n1),true)::(decide (300<Int.ofNat n1),false)::tt 3 ((hasB IntKind.i64 (Int.ofNat n2),true)::(decide (300<Int.ofNat n2),false)::(true,true)::(false,false)::(true,true)::(false,false)::tt 3 ((Nat.ble n0 (List.length x0),true)::(Nat.ble n0 m0,true)::(hasB IntKind.i64 (Int.ofNat n0),true)::(!decide (Prod.snd (dec2 true (win x0 (0) n0))=0),false)::tt 2 ((Nat.ble n1 (List.length x1),true)::(Nat.ble n1 m1,true)::(hasB IntKind.i64 (Int.ofNat n1),true)::(!decide (Prod.snd (dec2 true (win x1 (0) n1))=0),false)::tt 2 ((Nat.ble n2 (List.length x2),true)::(Nat.ble n2 m2,true)::(hasB IntKind.i64 (Int.ofNat n2),true)::(!decide (Prod.snd (dec2 true (win x2 (0) n2))=0),false)::(false,false)::(in2 (pR2 (Rg.add (pR2 (Rg.add (pR2 (sA1 (dPt x0 n0))) (pR2 (dPt x1 n1)))) (pR2 (dPt x2 n2)))),true)::(true,true)::(false,false)::tt 3 ((Nat.ble n0 (List.length x0),true)::(Nat.ble n0 m0,true)::(hasB IntKind.i64 (Int.ofNat n0),true)::(!decide (Prod.snd (dec2 true (win x0 (0) n0))=0),false)::tt 3 ((Nat.ble n1 (List.length x1),true)::(Nat.ble n1 m1,true)::(hasB IntKind.i64 (Int.ofNat n1),true)::(!decide (Prod.snd (dec2 true (win x1 (0) n1))=0),false)::tt 3 ((Nat.ble n2 (List.length x2),true)::(Nat.ble n2 m2,true)::(hasB IntKind.i64 (Int.ofNat n2),true)::(!decide (Prod.snd (dec2 true (win x2 (0) n2))=0),false)::(true,true)::(false,false)::(in2 (pR2 (Rg.add (pR2 (Rg.add (pR2 (sA1 (dPt x0 n0))) (pR2 (dPt x1 n1)))) (pR2 (dPt x2 n2)))),true)::(Nat.ble (0+96) (e2L true (pR2 (Rg.add (pR2 (Rg.add (pR2 (sA1 (dPt x0 n0))) (pR2 (dPt x1 n1)))) (pR2 (dPt x2 n2))))).length,true)::(Nat.ble (0+96) (r2L true (pR2 (Rg.add (pR2 (Rg.add (pR2 (sA1 (dPt x0 n0))) (pR2 (dPt x1 n1)))) (pR2 (dPt x2 n2))))).length,true)::tt 2 ((smB (win (e2L true (pR2 (Rg.add (pR2 (Rg.add (pR2 (sA1 (dPt x0 n0))) (pR2 (dPt x1 n1)))) (pR2 (dPt x2 n2))))) 0 96) (win (r2L true (pR2 (Rg.add (pR2 (Rg.add (pR2 (sA1 (dPt x0 n0))) (pR2 (dPt x1 n1)))) (pR2 (dPt x2 n2))))) 0 96),true)::[])))))))))),[],.val false [.b true],[]):=by kernel_rfl
end Go.Proofs.YtfmajnlfpnjagaaGreat
/- sigillaw21: BlsAggregates: the walk. -/
namespace Go.Proofs.YtfmajnlfpnjagaaGreat
open Ex Num Rg
open Sh (R av rd mo en mo_en)
set_option maxRecDepth 100000
set_option maxHeartbeats 4000000
def RowB (W:World) (cs:List Value):Prop:=∃ oa n m,cs=[.slice oa n m]∧n≤m∧hasB .i64 (n:Int)=true∧(0<n→∃ (L:Ex.Loc) (zs:List Int),(∀ x∈zs,0≤x∧x<256)∧n≤zs.length∧(∀ B q,L=Ex.Loc.at_ B q→B<W.heap.size)∧∀ (ls:List Ex.Loc),relC (locEnv (ls++[L])) (.sl ls.length 0 n m) [.slice oa n m]∧relB (locEnv (ls++[L])) (roB [.seq .u8 zs]) ls.length W)
section
variable {H:Type} {enc:TypeId×Value→H} {W:World} {base:Nat}
theorem bytes_cell {cs:List Value} {fuel:Nat} {y:DataW H×List MemPlace} (ht:DataW.trod enc Tryz.prog W 0 (fun _=>true) true fuel 23 cs=some y) :
  RowB W cs:=by
 rcases Go.ChangeShapes.open_ints under_bytes under_u8 cells_u8 ht with ⟨rfl,_⟩ | ⟨a,len,cap,zs,rfl,hb,hl,hm,hz,_,hcell,hwf⟩
 ·exact ⟨none,0,0,rfl,Nat.le_refl _,rfl,fun h=>by cases h⟩
 ·simp only [if_true] at hz
  refine ⟨some a,len,cap,rfl,hl,len_has (Nat.le_trans hl hm),fun hl1=>?_⟩
  have h0:=hcell 0 (by omega)
  have e0:a.add 0=a:=rfl
  rw [e0] at h0
  obtain ⟨C,row,fz,hblk⟩:∃ C row fz,W.heap[a.block]? = some (.cells C row fz):=by
   unfold World.cell? at h0
   split at h0
   ·exact ⟨_,_,_,by assumption⟩
   ·cases h0
  have hs:a.spot=none:=by
   simp only [World.cell?,hblk] at h0
   cases hq:a.spot with
   | none=>rfl
   | some _=>rw [hq] at h0;cases h0
  have hget0:C[a.off]? = some (.int .u8 (zs.getD 0 0)):=by
   simp only [World.cell?,hblk,hs] at h0
   simpa using h0
  have hoff:a.off≤C.size:=Nat.le_of_lt (Array.getElem?_eq_some_iff.1 hget0).1
  obtain ⟨hlist,hend⟩:=list_of_cells (l:=zs.map (.int .u8)) hblk hs hoff fun j hj=>by
   rw [List.length_map] at hj
   rw [hcell j hj,List.getElem?_map,List.getElem?_eq_getElem hj,List.getD_eq_getElem?_getD,List.getElem?_eq_getElem hj];rfl
  rw [List.length_map] at hlist hend
  have ea:a=⟨a.block,a.off,none⟩:=by cases a;simp only at hs;simp [hs]
  have hhas:∀ x∈zs,has .u8 x:=fun x hx=>wf_has (hwf x hx)
  refine ⟨.at_ a.block (C.size,a.off),zs,fun x hx=>u8_bounds (hhas x hx),by omega,fun B q h=>?_,fun ls=>⟨.inl ⟨a.block,(C.size,a.off),locEnv_last _ _,?_⟩,.inl ⟨a.block,(C.size,a.off),zs.map (.int .u8),C.toList.drop (a.off+zs.length),C.toList.take a.off,row,fz,locEnv_last _ _,⟨_,[],⟨rfl,hhas⟩,rfl,by simp⟩,?_,?_,fun hr=>absurd rfl hr⟩⟩⟩
  ·injection h with h1 h2
   rw [← h1]
   exact (Array.getElem?_eq_some_iff.1 hblk).1
  ·rw [Nat.add_zero,← ea]
  ·rw [← hlist];exact hblk
  ·simp;omega
end
theorem rows_put {f:FuncId} {W:World} {v:Value} {LK:Ex.Loc} {n M:Nat} {css:List (List Value)} (hlt:∀ B q,LK=Ex.Loc.at_ B q→B<W.heap.size) (hK:HRow W LK n M v css)
  {ls:List Ex.Loc} {bs:List Blk} (A:ArgsOk W ls bs) {chs:List Ch} {l r:List Value} (e:css.flatten=l++r) (hr:relL (locEnv ls) chs l)
  (hc:CanOk Tryz.prog f [slA ls.length 0 n M] (enumH 0 (bs++[roB chs])) (bs++[roB chs]).length [] (boolA true) []) :
  ∃ ls bs args,ArgsOk W ls bs∧relAs (locEnv ls) args [v]∧CanOk Tryz.prog f args (enumH 0 bs) bs.length [] (boolA true) [] :=
 ⟨_,_,[slA ls.length 0 n M],A.snoc ((hK ls).2 chs l r e (relL_mono (locEnv_le ls LK) hr)) rfl hlt,⟨v,_,(hK ls).1,rfl,rfl⟩,hc⟩
theorem ag_run {args:List AV} {H:Heap} {k0:Nat} {p:List Bool} {c:List (Bool×Bool)} {v:AV} (hl:Nat.ble (alen args) Tryz.f5.ntmps=true) (h:segOut Tryz.prog oWa Tryz.f5 900 k0 [] (entry Tryz.f5 args H k0 p)=some (c,[],v,[])) (hw:wfB Tryz.f5.ntmps (entry Tryz.f5 args H k0 p).s=true) (hc:okConds c):CanOk Tryz.prog 5 args H k0 [] v [] :=
 can_run SWaok KVok Tryz.func5 (by kernel_rfl) hl h hw hc
theorem bad2 {x:List Int} {n:Nat} (h:¬ (dec2 true (win x 0 n)).2=0):decide ((dec2 true (win x 0 n)).2=0)=false:=decide_eq_false h
theorem blsAggregates_walk:LawWalk Tryz.prog 5 Tryz.f5:=walk_can fun H enc us W base ds ps hv hA=>by
 have hp:Tryz.f5.params.toList=[25]:=by kernel_rfl
 have hp':Tryz.f5.params=#[25]:=by kernel_rfl
 rw [hp] at hA
 rw [hp'] at hv
 obtain ⟨v1,us1,d1,ds1,p1,q1,rfl,rfl,t1,hA⟩:=args_cons hA
 obtain rfl:=args0 hA rfl
 obtain ⟨LK,n,M,css,hcl,hnM,hnm,hlt,hce,hK⟩:=rows_arg (e:=23) (c:=1) (by kernel_rfl) (by kernel_rfl) (hv 0 _ v1 rfl rfl) t1
 have bn:hasB .i64 (Int.ofNat n)=true:=len_has hnm
 have hw:∀ cs∈css,RowB W cs:=fun cs h=>by
  obtain ⟨_,_,_,ht⟩:=hce cs h
  exact bytes_cell ht
 have A0:ArgsOk W [] []:=ArgsOk.nil W
 by_cases h3:3<n
 ·have d:decide ((3:Int)<Int.ofNat n)=true:=decide_eq_true (by show (3:Int)<(n:Int);omega)
  have r:=ag_l M n
  simp only [bn,d] at r
  exact rows_put hlt hK A0 (l:=[]) (r:=css.flatten) rfl relL_nil (can_tt (ag_run (by kernel_rfl) r (by kernel_rfl) (okB_ok rfl)))
 by_cases k0:n=0
 ·subst k0
  obtain rfl:=List.length_eq_zero_iff.1 hcl
  exact rows_put hlt hK A0 (l:=[]) (r:=[]) rfl relL_nil (can_tt (ag_run (by kernel_rfl) (ag_0 M) (by kernel_rfl) (okB_ok rfl)))
 by_cases k1:n=1
 ·subst k1
  obtain ⟨c0,rfl⟩:=lenn1 hcl
  obtain ⟨a0,n0,m0,rfl,w0,b0,o0⟩:=hw c0 (by simp)
  replace b0:hasB .i64 (Int.ofNat n0)=true:=b0
  have g0:=Nat.ble_eq_true_of_le w0
  cases d0:decide ((300:Int)<Int.ofNat n0)
  case true =>
   have r:=ag_l10 M a0 n0 m0
   simp only [b0,d0] at r
   exact rows_put hlt hK A0 (l:=([.slice a0 n0 m0]++[])) (r:=[]) (by simp) (v_row a0 n0 m0 relL_nil) (can_tt (ag_run (by kernel_rfl) r (by kernel_rfl) (okB_ok rfl)))
  by_cases e0:n0=0
  ·subst e0
   have r:=ag_10e M a0 m0
   exact rows_put hlt hK A0 (l:=([.slice a0 0 m0]++[])) (r:=[]) (by simp) (v_row a0 0 m0 relL_nil) (can_bool (ag_run (by kernel_rfl) r (by kernel_rfl) (okB_ok rfl)) (by simp))
  obtain ⟨L0,z0,y0,h0,t0,r0⟩:=o0 (by omega)
  have l0:Nat.ble n0 (List.length z0)=true:=Nat.ble_eq_true_of_le h0
  have s0:relC (locEnv [L0]) (.sl 0 0 n0 m0) [.slice a0 n0 m0]:=(r0 []).1
  have A1:ArgsOk W [L0] [roB [.seq .u8 z0]]:=A0.snoc (r0 []).2 rfl t0
  by_cases f0:(dec2 true (win z0 0 n0)).2=0
  case neg =>
   replace f0:=bad2 f0
   have r:=ag_10o M z0 n0 m0
   simp only [b0,d0,l0,g0,f0,Bool.not_false] at r
   exact rows_put hlt hK A1 (l:=([.slice a0 n0 m0]++[])) (r:=[]) (by simp) (c_row (relC_mono (locEnv_app [L0] []) s0) relL_nil) (can_bool (ag_run (by kernel_rfl) r (by kernel_rfl) (okB_ok rfl)) (by simp))
  obtain ⟨i0,_⟩:=enc_dec2 (win_has y0) f0
  replace f0:=decide_eq_true f0
  have q:in2 (pR2 (sA1 (dPt z0 n0)))=true:=by
   simp only [pR2_eq',sA1_eq]
   exact i0
  have q1:Nat.ble (0+96) (e2L true (pR2 (sA1 (dPt z0 n0)))).length=true:=eWn_len _ (by decide)
  have q2:Nat.ble (0+96) (r2L true (pR2 (sA1 (dPt z0 n0)))).length=true:=by rw [r2L_n];rfl
  have q3:smB (win (e2L true (pR2 (sA1 (dPt z0 n0)))) 0 96) (win (r2L true (pR2 (sA1 (dPt z0 n0)))) 0 96)=true:=same2 true (pR2 (sA1 (dPt z0 n0)))
  have r:=ag_1ok M z0 n0 m0
  simp only [b0,d0,l0,g0,f0,q,q1,q2,q3,Bool.not_true] at r
  exact rows_put hlt hK A1 (l:=([.slice a0 n0 m0]++[])) (r:=[]) (by simp) (c_row (relC_mono (locEnv_app [L0] []) s0) relL_nil) (can_tt (ag_run (by kernel_rfl) r (by kernel_rfl) (okB_ok rfl)))
 by_cases k2:n=2
 ·subst k2
  obtain ⟨c0,c1,rfl⟩:=lenn2 hcl
  obtain ⟨a0,n0,m0,rfl,w0,b0,o0⟩:=hw c0 (by simp)
  replace b0:hasB .i64 (Int.ofNat n0)=true:=b0
  have g0:=Nat.ble_eq_true_of_le w0
  obtain ⟨a1,n1,m1,rfl,w1,b1,o1⟩:=hw c1 (by simp)
  replace b1:hasB .i64 (Int.ofNat n1)=true:=b1
  have g1:=Nat.ble_eq_true_of_le w1
  cases d0:decide ((300:Int)<Int.ofNat n0)
  case true =>
   have r:=ag_l20 M a0 n0 m0
   simp only [b0,d0] at r
   exact rows_put hlt hK A0 (l:=([.slice a0 n0 m0]++[])) (r:=[.slice a1 n1 m1]) (by simp) (v_row a0 n0 m0 relL_nil) (can_tt (ag_run (by kernel_rfl) r (by kernel_rfl) (okB_ok rfl)))
  cases d1:decide ((300:Int)<Int.ofNat n1)
  case true =>
   have r:=ag_l21 M a0 n0 m0 a1 n1 m1
   simp only [b0,d0,b1,d1] at r
   exact rows_put hlt hK A0 (l:=([.slice a0 n0 m0]++([.slice a1 n1 m1]++[]))) (r:=[]) (by simp) (v_row a0 n0 m0 (v_row a1 n1 m1 relL_nil)) (can_tt (ag_run (by kernel_rfl) r (by kernel_rfl) (okB_ok rfl)))
  by_cases e0:n0=0
  ·subst e0
   have r:=ag_20e M a0 m0 a1 n1 m1
   simp only [b1,d1] at r
   exact rows_put hlt hK A0 (l:=([.slice a0 0 m0]++([.slice a1 n1 m1]++[]))) (r:=[]) (by simp) (v_row a0 0 m0 (v_row a1 n1 m1 relL_nil)) (can_bool (ag_run (by kernel_rfl) r (by kernel_rfl) (okB_ok rfl)) (by simp))
  obtain ⟨L0,z0,y0,h0,t0,r0⟩:=o0 (by omega)
  have l0:Nat.ble n0 (List.length z0)=true:=Nat.ble_eq_true_of_le h0
  have s0:relC (locEnv [L0]) (.sl 0 0 n0 m0) [.slice a0 n0 m0]:=(r0 []).1
  have A1:ArgsOk W [L0] [roB [.seq .u8 z0]]:=A0.snoc (r0 []).2 rfl t0
  by_cases f0:(dec2 true (win z0 0 n0)).2=0
  case neg =>
   replace f0:=bad2 f0
   have r:=ag_20o M z0 n0 m0 a1 n1 m1
   simp only [b0,d0,b1,d1,l0,g0,f0,Bool.not_false] at r
   exact rows_put hlt hK A1 (l:=([.slice a0 n0 m0]++([.slice a1 n1 m1]++[]))) (r:=[]) (by simp) (c_row (relC_mono (locEnv_app [L0] []) s0) (v_row a1 n1 m1 relL_nil)) (can_bool (ag_run (by kernel_rfl) r (by kernel_rfl) (okB_ok rfl)) (by simp))
  obtain ⟨i0,_⟩:=enc_dec2 (win_has y0) f0
  replace f0:=decide_eq_true f0
  by_cases e1:n1=0
  ·subst e1
   have r:=ag_21e M z0 n0 m0 a1 m1
   simp only [b0,d0,l0,g0,f0,Bool.not_true] at r
   exact rows_put hlt hK A1 (l:=([.slice a0 n0 m0]++([.slice a1 0 m1]++[]))) (r:=[]) (by simp) (c_row (relC_mono (locEnv_app [L0] []) s0) (v_row a1 0 m1 relL_nil)) (can_bool (ag_run (by kernel_rfl) r (by kernel_rfl) (okB_ok rfl)) (by simp))
  obtain ⟨L1,z1,y1,h1,t1,r1⟩:=o1 (by omega)
  have l1:Nat.ble n1 (List.length z1)=true:=Nat.ble_eq_true_of_le h1
  have s1:relC (locEnv [L0,L1]) (.sl 1 0 n1 m1) [.slice a1 n1 m1]:=(r1 [L0]).1
  have A2:ArgsOk W [L0,L1] [roB [.seq .u8 z0],roB [.seq .u8 z1]]:=A1.snoc (r1 [L0]).2 rfl t1
  by_cases f1:(dec2 true (win z1 0 n1)).2=0
  case neg =>
   replace f1:=bad2 f1
   have r:=ag_21o M z0 n0 m0 z1 n1 m1
   simp only [b0,d0,b1,d1,l0,g0,f0,l1,g1,f1,Bool.not_false,Bool.not_true] at r
   exact rows_put hlt hK A2 (l:=([.slice a0 n0 m0]++([.slice a1 n1 m1]++[]))) (r:=[]) (by simp) (c_row (relC_mono (locEnv_app [L0] [L1]) s0) (c_row (relC_mono (locEnv_app [L0,L1] []) s1) relL_nil)) (can_bool (ag_run (by kernel_rfl) r (by kernel_rfl) (okB_ok rfl)) (by simp))
  obtain ⟨i1,_⟩:=enc_dec2 (win_has y1) f1
  replace f1:=decide_eq_true f1
  have q:in2 (pR2 (Rg.add (pR2 (sA1 (dPt z0 n0))) (pR2 (dPt z1 n1))))=true:=by
   simp only [pR2_eq',sA1_eq]
   exact (in2_add i0 i1)
  have q1:Nat.ble (0+96) (e2L true (pR2 (Rg.add (pR2 (sA1 (dPt z0 n0))) (pR2 (dPt z1 n1))))).length=true:=eWn_len _ (by decide)
  have q2:Nat.ble (0+96) (r2L true (pR2 (Rg.add (pR2 (sA1 (dPt z0 n0))) (pR2 (dPt z1 n1))))).length=true:=by rw [r2L_n];rfl
  have q3:smB (win (e2L true (pR2 (Rg.add (pR2 (sA1 (dPt z0 n0))) (pR2 (dPt z1 n1))))) 0 96) (win (r2L true (pR2 (Rg.add (pR2 (sA1 (dPt z0 n0))) (pR2 (dPt z1 n1))))) 0 96)=true:=same2 true (pR2 (Rg.add (pR2 (sA1 (dPt z0 n0))) (pR2 (dPt z1 n1))))
  have r:=ag_2ok M z0 n0 m0 z1 n1 m1
  simp only [b0,d0,l0,g0,f0,b1,d1,l1,g1,f1,q,q1,q2,q3,Bool.not_true] at r
  exact rows_put hlt hK A2 (l:=([.slice a0 n0 m0]++([.slice a1 n1 m1]++[]))) (r:=[]) (by simp) (c_row (relC_mono (locEnv_app [L0] [L1]) s0) (c_row (relC_mono (locEnv_app [L0,L1] []) s1) relL_nil)) (can_tt (ag_run (by kernel_rfl) r (by kernel_rfl) (okB_ok rfl)))
 by_cases k3:n=3
 ·subst k3
  obtain ⟨c0,c1,c2,rfl⟩:=lenn3 hcl
  obtain ⟨a0,n0,m0,rfl,w0,b0,o0⟩:=hw c0 (by simp)
  replace b0:hasB .i64 (Int.ofNat n0)=true:=b0
  have g0:=Nat.ble_eq_true_of_le w0
  obtain ⟨a1,n1,m1,rfl,w1,b1,o1⟩:=hw c1 (by simp)
  replace b1:hasB .i64 (Int.ofNat n1)=true:=b1
  have g1:=Nat.ble_eq_true_of_le w1
  obtain ⟨a2,n2,m2,rfl,w2,b2,o2⟩:=hw c2 (by simp)
  replace b2:hasB .i64 (Int.ofNat n2)=true:=b2
  have g2:=Nat.ble_eq_true_of_le w2
  cases d0:decide ((300:Int)<Int.ofNat n0)
  case true =>
   have r:=ag_l30 M a0 n0 m0
   simp only [b0,d0] at r
   exact rows_put hlt hK A0 (l:=([.slice a0 n0 m0]++[])) (r:=[.slice a1 n1 m1]++[.slice a2 n2 m2]) (by simp) (v_row a0 n0 m0 relL_nil) (can_tt (ag_run (by kernel_rfl) r (by kernel_rfl) (okB_ok rfl)))
  cases d1:decide ((300:Int)<Int.ofNat n1)
  case true =>
   have r:=ag_l31 M a0 n0 m0 a1 n1 m1
   simp only [b0,d0,b1,d1] at r
   exact rows_put hlt hK A0 (l:=([.slice a0 n0 m0]++([.slice a1 n1 m1]++[]))) (r:=[.slice a2 n2 m2]) (by simp) (v_row a0 n0 m0 (v_row a1 n1 m1 relL_nil)) (can_tt (ag_run (by kernel_rfl) r (by kernel_rfl) (okB_ok rfl)))
  cases d2:decide ((300:Int)<Int.ofNat n2)
  case true =>
   have r:=ag_l32 M a0 n0 m0 a1 n1 m1 a2 n2 m2
   simp only [b0,d0,b1,d1,b2,d2] at r
   exact rows_put hlt hK A0 (l:=([.slice a0 n0 m0]++([.slice a1 n1 m1]++([.slice a2 n2 m2]++[])))) (r:=[]) (by simp) (v_row a0 n0 m0 (v_row a1 n1 m1 (v_row a2 n2 m2 relL_nil))) (can_tt (ag_run (by kernel_rfl) r (by kernel_rfl) (okB_ok rfl)))
  by_cases e0:n0=0
  ·subst e0
   have r:=ag_30e M a0 m0 a1 n1 m1 a2 n2 m2
   simp only [b1,d1,b2,d2] at r
   exact rows_put hlt hK A0 (l:=([.slice a0 0 m0]++([.slice a1 n1 m1]++([.slice a2 n2 m2]++[])))) (r:=[]) (by simp) (v_row a0 0 m0 (v_row a1 n1 m1 (v_row a2 n2 m2 relL_nil))) (can_bool (ag_run (by kernel_rfl) r (by kernel_rfl) (okB_ok rfl)) (by simp))
  obtain ⟨L0,z0,y0,h0,t0,r0⟩:=o0 (by omega)
  have l0:Nat.ble n0 (List.length z0)=true:=Nat.ble_eq_true_of_le h0
  have s0:relC (locEnv [L0]) (.sl 0 0 n0 m0) [.slice a0 n0 m0]:=(r0 []).1
  have A1:ArgsOk W [L0] [roB [.seq .u8 z0]]:=A0.snoc (r0 []).2 rfl t0
  by_cases f0:(dec2 true (win z0 0 n0)).2=0
  case neg =>
   replace f0:=bad2 f0
   have r:=ag_30o M z0 n0 m0 a1 n1 m1 a2 n2 m2
   simp only [b0,d0,b1,d1,b2,d2,l0,g0,f0,Bool.not_false] at r
   exact rows_put hlt hK A1 (l:=([.slice a0 n0 m0]++([.slice a1 n1 m1]++([.slice a2 n2 m2]++[])))) (r:=[]) (by simp) (c_row (relC_mono (locEnv_app [L0] []) s0) (v_row a1 n1 m1 (v_row a2 n2 m2 relL_nil))) (can_bool (ag_run (by kernel_rfl) r (by kernel_rfl) (okB_ok rfl)) (by simp))
  obtain ⟨i0,_⟩:=enc_dec2 (win_has y0) f0
  replace f0:=decide_eq_true f0
  by_cases e1:n1=0
  ·subst e1
   have r:=ag_31e M z0 n0 m0 a1 m1 a2 n2 m2
   simp only [b0,d0,b2,d2,l0,g0,f0,Bool.not_true] at r
   exact rows_put hlt hK A1 (l:=([.slice a0 n0 m0]++([.slice a1 0 m1]++([.slice a2 n2 m2]++[])))) (r:=[]) (by simp) (c_row (relC_mono (locEnv_app [L0] []) s0) (v_row a1 0 m1 (v_row a2 n2 m2 relL_nil))) (can_bool (ag_run (by kernel_rfl) r (by kernel_rfl) (okB_ok rfl)) (by simp))
  obtain ⟨L1,z1,y1,h1,t1,r1⟩:=o1 (by omega)
  have l1:Nat.ble n1 (List.length z1)=true:=Nat.ble_eq_true_of_le h1
  have s1:relC (locEnv [L0,L1]) (.sl 1 0 n1 m1) [.slice a1 n1 m1]:=(r1 [L0]).1
  have A2:ArgsOk W [L0,L1] [roB [.seq .u8 z0],roB [.seq .u8 z1]]:=A1.snoc (r1 [L0]).2 rfl t1
  by_cases f1:(dec2 true (win z1 0 n1)).2=0
  case neg =>
   replace f1:=bad2 f1
   have r:=ag_31o M z0 n0 m0 z1 n1 m1 a2 n2 m2
   simp only [b0,d0,b1,d1,b2,d2,l0,g0,f0,l1,g1,f1,Bool.not_false,Bool.not_true] at r
   exact rows_put hlt hK A2 (l:=([.slice a0 n0 m0]++([.slice a1 n1 m1]++([.slice a2 n2 m2]++[])))) (r:=[]) (by simp) (c_row (relC_mono (locEnv_app [L0] [L1]) s0) (c_row (relC_mono (locEnv_app [L0,L1] []) s1) (v_row a2 n2 m2 relL_nil))) (can_bool (ag_run (by kernel_rfl) r (by kernel_rfl) (okB_ok rfl)) (by simp))
  obtain ⟨i1,_⟩:=enc_dec2 (win_has y1) f1
  replace f1:=decide_eq_true f1
  by_cases e2:n2=0
  ·subst e2
   have r:=ag_32e M z0 n0 m0 z1 n1 m1 a2 m2
   simp only [b0,d0,b1,d1,l0,g0,f0,l1,g1,f1,Bool.not_true] at r
   exact rows_put hlt hK A2 (l:=([.slice a0 n0 m0]++([.slice a1 n1 m1]++([.slice a2 0 m2]++[])))) (r:=[]) (by simp) (c_row (relC_mono (locEnv_app [L0] [L1]) s0) (c_row (relC_mono (locEnv_app [L0,L1] []) s1) (v_row a2 0 m2 relL_nil))) (can_bool (ag_run (by kernel_rfl) r (by kernel_rfl) (okB_ok rfl)) (by simp))
  obtain ⟨L2,z2,y2,h2,t2,r2⟩:=o2 (by omega)
  have l2:Nat.ble n2 (List.length z2)=true:=Nat.ble_eq_true_of_le h2
  have s2:relC (locEnv [L0,L1,L2]) (.sl 2 0 n2 m2) [.slice a2 n2 m2]:=(r2 [L0,L1]).1
  have A3:ArgsOk W [L0,L1,L2] [roB [.seq .u8 z0],roB [.seq .u8 z1],roB [.seq .u8 z2]]:=A2.snoc (r2 [L0,L1]).2 rfl t2
  by_cases f2:(dec2 true (win z2 0 n2)).2=0
  case neg =>
   replace f2:=bad2 f2
   have r:=ag_32o M z0 n0 m0 z1 n1 m1 z2 n2 m2
   simp only [b0,d0,b1,d1,b2,d2,l0,g0,f0,l1,g1,f1,l2,g2,f2,Bool.not_false,Bool.not_true] at r
   exact rows_put hlt hK A3 (l:=([.slice a0 n0 m0]++([.slice a1 n1 m1]++([.slice a2 n2 m2]++[])))) (r:=[]) (by simp) (c_row (relC_mono (locEnv_app [L0] [L1,L2]) s0) (c_row (relC_mono (locEnv_app [L0,L1] [L2]) s1) (c_row (relC_mono (locEnv_app [L0,L1,L2] []) s2) relL_nil))) (can_bool (ag_run (by kernel_rfl) r (by kernel_rfl) (okB_ok rfl)) (by simp))
  obtain ⟨i2,_⟩:=enc_dec2 (win_has y2) f2
  replace f2:=decide_eq_true f2
  have q:in2 (pR2 (Rg.add (pR2 (Rg.add (pR2 (sA1 (dPt z0 n0))) (pR2 (dPt z1 n1)))) (pR2 (dPt z2 n2))))=true:=by
   simp only [pR2_eq',sA1_eq]
   exact (in2_add (in2_add i0 i1) i2)
  have q1:Nat.ble (0+96) (e2L true (pR2 (Rg.add (pR2 (Rg.add (pR2 (sA1 (dPt z0 n0))) (pR2 (dPt z1 n1)))) (pR2 (dPt z2 n2))))).length=true:=eWn_len _ (by decide)
  have q2:Nat.ble (0+96) (r2L true (pR2 (Rg.add (pR2 (Rg.add (pR2 (sA1 (dPt z0 n0))) (pR2 (dPt z1 n1)))) (pR2 (dPt z2 n2))))).length=true:=by rw [r2L_n];rfl
  have q3:smB (win (e2L true (pR2 (Rg.add (pR2 (Rg.add (pR2 (sA1 (dPt z0 n0))) (pR2 (dPt z1 n1)))) (pR2 (dPt z2 n2))))) 0 96) (win (r2L true (pR2 (Rg.add (pR2 (Rg.add (pR2 (sA1 (dPt z0 n0))) (pR2 (dPt z1 n1)))) (pR2 (dPt z2 n2))))) 0 96)=true:=same2 true (pR2 (Rg.add (pR2 (Rg.add (pR2 (sA1 (dPt z0 n0))) (pR2 (dPt z1 n1)))) (pR2 (dPt z2 n2))))
  have r:=ag_3ok M z0 n0 m0 z1 n1 m1 z2 n2 m2
  simp only [b0,d0,l0,g0,f0,b1,d1,l1,g1,f1,b2,d2,l2,g2,f2,q,q1,q2,q3,Bool.not_true] at r
  exact rows_put hlt hK A3 (l:=([.slice a0 n0 m0]++([.slice a1 n1 m1]++([.slice a2 n2 m2]++[])))) (r:=[]) (by simp) (c_row (relC_mono (locEnv_app [L0] [L1,L2]) s0) (c_row (relC_mono (locEnv_app [L0,L1] [L2]) s1) (c_row (relC_mono (locEnv_app [L0,L1,L2] []) s2) relL_nil))) (can_tt (ag_run (by kernel_rfl) r (by kernel_rfl) (okB_ok rfl)))
 omega
end Go.Proofs.YtfmajnlfpnjagaaGreat
