/- Part 5 of the proof. -/
import Derived.Test.YtgnajdcdcblaoaaGreatPD
import Derived.Test.YtgnajdcdcblaoaaGreatPC
import Derived.Test.YtgnajdcdcblaoaaGreatPB
import Derived.Tactics
import Derived.Tactics2
set_option maxRecDepth 100000
set_option maxHeartbeats 4000000
open Go.Proofs.Tryz renaming prog→dr
open Go.Proofs.Tryz
namespace Go.Proofs.YtgnajdcdcblaoaaGreat
open Ex Num Rg
open Sh (R av rd mo en mo_en)
noncomputable section
theorem YY {ic n:Nat} {xs:dt} (ip:∀ d∈xs,0≤d∧d<18446744073709551616) (hn:n≤1125899906842624) {c:Nat} (hc:c<64*n) :
  wI (Int.tdiv (c:Int) 64)=((c / 64:Nat):Int)∧c / 64<n∧0≤CU xs ic c∧0≤Int.tmod (c:Int) 64∧JG (CU xs ic c) (Int.tmod c 64)=((AI (AA xs ic n) / 2^c % 2:Nat):Int):=by
 have hq:Int.tdiv (c:Int) 64=((c / 64:Nat):Int):=by rw [qk dn];rfl
 have hr:Int.tmod (c:Int) 64=((c % 64:Nat):Int):=by rw [o_ dn];rfl
 have hw:wI (Int.tdiv (c:Int) 64)=((c / 64:Nat):Int):=by rw [hq];exact Au dn
 have hjn:c / 64<n:=dn
 have jb:∀ d∈AA xs ic n,0≤d∧d<18446744073709551616:=DG ip
 have hv:CU xs ic c=(AA xs ic n).getD (c / 64) 0:=by
  unfold CU;rw [hw,jz,kt];exact (JI hjn).symm
 have hvb:0≤CU xs ic c∧CU xs ic c<18446744073709551616:=by rw [hv];exact Nw jb _
 refine ⟨hw,hjn,hvb.1,by rw [hr];omega,?_⟩
 obtain ⟨V,hV⟩:=kw hvb.1;rw [hr,← Xg _ c jb,← hv,hV,jz];exact Xe V _ dn dn
theorem YZ {ic n:Nat} {xs:dt} (ip:∀ d∈xs,0≤d∧d<18446744073709551616) (ii:ic+n≤xs.length):AI (AA xs ic n)<2^(64*n):=by
 have hl:=JH (AA xs ic n) (DG ip)
 unfold AA at hl ⊢
 rwa [kv,lk,mr dn] at hl
theorem gH (E c:Nat):E / 2^c=2*(E / 2^(c+1))+E / 2^c % 2:=by rw [lj,← ll];omega
noncomputable def AZQ:List Item:=B6 (AZ dr oJ3 (some 0) 500 1 none (Ak f178 [AQ 0 0 0 0,ve (.pt 0 0:P2)] (BE []) 1 ef))
noncomputable def hmT (ic n m:Nat) (i:Int):List AV:=.val false [.sl 0 ic n m]::.any::.any::.val false [.p 1 0]::.val false [.p 2 0]::.val false [.n .i64 0]::.val false [.p 3 0]::.val false [.v (.int .i64 i)]::List.replicate (f178.ntmps-8) .any
def hmH (xs:dt) (p:P2):Heap:=[(0,some (An [.seq .u64 xs])),(1,some ⟨70,av (en p:R P2),false⟩),(2,some ⟨70,CS false,false⟩)]
noncomputable def ON (ic n m:Nat) (xs:dt) (p:P2) (out:List Ch) (i:Int) (ie:List Bool):h_:=⟨AZQ,⟨hmT ic n m i,List.append (hmH xs p) [(3,some ⟨203,out,false⟩)],4,ie⟩⟩
def jC2 (j:J2):List Ch:=av (en j:R J2)
def jR (j:J2):J2:=mo (en j:R J2)
def gJ (j:J2) (p:P2):J2:=F0 (mo (en (Bw (jR j)):R J2)) (mo (rX p)) (mo (rY p))
def P6 (r:R P2) (ic n m:Nat):List AV:=[AQ 0 ic n m,va P2 r]
def gK (p:P2):P2:=mo (en p:R P2)
abbrev kM:Option (List Nat×List Nat×Nat):=some ([0,3,4,5,6,7],[0,1,2,3],4)
theorem AZT (r:R P2) (ic n m:Nat) (xs:dt):AZ dr oJ3 (some 0) 500 1 kM (Ak f178 (P6 r ic n m) (BE xs) 1 ef) =
 some ([(!BK (gK (mo r)),false),(EX (mo r:P2),false),(AK .i64 n,true)],[],ON ic n m xs (mo r) VI (wI (wI (64*(n:Int))-1)) []):=dm
def KJ (q:P2) (e:Int):AV:=.tup [(true,av (en q:R P2)),(false,[.v (.int .i64 e)])]
def Yg (q:P2) (e:Int):AV:=.tup [(true,av (en q:R P2)),(false,[.n .i64 e])]
theorem AZU (r:R P2) (ic n m:Nat) (xs:dt):AU dr oJ3 f178 500 1 [] (Ak f178 (P6 r ic n m) (BE xs) 1 dz) =
 some ([(!BK (gK (mo r)),true)],[],.tup [(true,CS false),(false,[.n .i64 120])],[]):=dm
theorem AZV (r:R P2) (ic n m:Nat) (xs:dt):AU dr oJ3 f178 500 1 [] (Ak f178 (P6 r ic n m) (BE xs) 1 ee) =
 some ([(!BK (gK (mo r)),false),(EX (mo r:P2),true)],[],Yg (mo r) 0,[]):=dm
section
variable (ic n m:Nat) (xs:dt) (p:P2) (j:J2) (i:Int)
theorem AZW:AZ dr oJ3 (some 0) 500 1 kM (ON ic n m xs p (jC2 j) i d_)=some (U' ic n xs i true [],[],ON ic n m xs p (jC2 (Bw (jR j))) (wI (i-1)) []):=dm
theorem AZX:AZ dr oJ3 (some 0) 500 1 kM (ON ic n m xs p (jC2 j) i eg) =
 some (U' ic n xs i false [(Cq (en (Bw (jR j))).2.2,true),(Cq (rX p),true),(Cq (rY p),true)],[],ON ic n m xs p (jC2 (gJ j p)) (wI (i-1)) []):=dm
theorem AZY:AU dr oJ3 f178 500 1 [] (ON ic n m xs p (jC2 j) i dx)=some ([(decide (0≤i),false),(Cq (en j).2.2,true)],[],Yg (CF (jR j)) 0,[]):=dm
end
theorem wV (ic n m:Nat) (xs:dt) (p:P2) (j:J2) (i:Int) (q:List Bool):BW f178.ntmps (ON ic n m xs p (jC2 j) i q).s:=AR dm
theorem AHf (β:Env) (l:List gq) (h:AP β VI l):AP β (jC2 ⟨0,0,0⟩) l:=Sh.rd_ok (r:=(en (⟨0,0,0⟩:J2):R J2)) (by kernel_rfl:rd VI=some (en (⟨0,0,0⟩:J2):R J2)) h
section
variable {ic n m:Nat} {xs:dt} (ip:∀ d∈xs,0≤d∧d<18446744073709551616) (ii:ic+n≤xs.length) (hn:n≤1125899906842624) {p:P2} (hP:Rg.On C2.b p) (hI:EX p=false) {β0:Env} {w0:gn} (hb:∀ b,1≤b→β0 b=none)
include ip ii hn hb hP hI
theorem AZZ:∀ (c:Nat) (j:J2),CF j=smul (AI (AA xs ic n) / 2^c) p→c≤64*n→gz dr 178 β0 w0 (BA β0 w0 [] (Yg (smul (AI (AA xs ic n)) p) 0) []) f178.ntmps [] (ON ic n m xs p (jC2 j) ((c:Int)-1) []):=by
 intro c;induction c with
 | zero =>
  intro j hj _;have h:gz dr 178 β0 w0 (BA β0 w0 [] (Yg (CF (jR j)) 0) []) f178.ntmps [] (ON ic n m xs p (jC2 j) (((0:Nat):Int)-1) dx) :=
   A6 VK AB func178 (AZY ..) ⟨rfl,KF j.z,trivial⟩ (wV ..) hb jl
  unfold jR at h;rw [mo_en,hj,kx,ld] at h;exact Ai dx h
 | succ c ih =>
  intro j hj hc;have hi:((c+1:Nat):Int)-1=(c:Int):=dn
  rw [hi];obtain ⟨hw,hjn,hv0,hr0,hbit⟩:=YY (ic:=ic) ip hn (c:=c) dn
  have ja:wI ((c:Int)-1)=(c:Int)-1:=Au dn
  have iu:∀ bit r,decide (JG (CU xs ic c) (Int.tmod c 64)=0)=bit→AM r→AM (U' ic n xs c bit r):=by
   intro bit r hbt hr';refine ⟨by simp,rfl,?_,?_,by simp,by simp only [jt];exact ⟨hr0,hv0⟩,hbt,hr'⟩
   ·rw [hw];simp;omega
   ·rw [hw];simp;omega
  have hoj:Rg.On C2.b (CF j):=by rw [hj];exact CE C2 hP _
  have ejR:jR j=j:=mo_en j
  have htw:CF (Bw (jR j))=smul (2*(AI (AA xs ic n) / 2^(c+1))) p:=by
   rw [ejR,Rz C2 hoj,hj,← JO C2 hP,qq]
  have hd:=gH (AI (AA xs ic n)) c
  rcases nz (AI (AA xs ic n) / 2^c) with h0 | h1
  ·refine Ai d_ (Aj VK AB (AZW ..) (iu true [] (by rw [hbit,h0];rfl) trivial) (wV ..) hb jl fun _=>?_)
   rw [ja];refine ih _ ?_ dn
   rw [htw,hd,h0];rfl
  ·refine Ai eg (Aj VK AB (AZX ..) (iu false _ (by rw [hbit,h1];rfl) ⟨KF (Bw (jR j)).z,KF (Mx p),KF (KB p),trivial⟩) (wV ..) hb jl fun _=>?_)
   rw [ja];refine ih _ ?_ dn
   unfold gJ;rw [mo_en,U3 C2 (by rw [htw];exact CE C2 hP _),htw,hd,h1]
   cases p with
   | inf=>cases hI
   | pt a b =>
    show add _ (.pt (mo (en a)) (mo (en b)))=_;rw [mo_en,mo_en];rfl
end
def Ew (N:Nat) (p:P2):P2:=if BK p=true then smul N p else .pt 0 0
def FS (p:P2):Int:=if BK p=true then 0 else 120
theorem AHg {β:Env} {q:P2} {e:Int} {u:gq} (h:AO β (Yg q e) u):AO β (KJ q e) u:=CQ (fun _ q=>q) (fun _ q=>EM rfl q) h
theorem AZa {ic n m:Nat} {xs:dt} (ip:∀ d∈xs,0≤d∧d<18446744073709551616) (ii:ic+n≤xs.length) (hn:n≤1125899906842624) (r:R P2) :
  Ab dr 178 (P6 r ic n m) (BE xs) 1 [] (KJ (Ew (AI (AA xs ic n)) (mo r)) (FS (mo r))) []:=by
 have e1:=AZT r ic n m xs;have e2:=AZU r ic n m xs;have e3:=AZV r ic n m xs;unfold gK at e1 e2 e3;rw [mo_en] at e1 e2 e3;generalize (mo r:P2)=p at *
 cases ho:BK p with
 | false =>
  unfold Ew FS;rw [jn (by rw [ho];exact kb),jn (by rw [ho];exact kb)]
  refine BN (A_ (ie:=dz) func178 dm dm fun β0 w0 hb =>
   A6 VK AB func178 e2 ⟨by rw [ho];rfl,trivial⟩ (AR dm) hb jl) fun β u hu=>?_
  exact CQ (fun _ q=>F1 (r:=(en (.pt 0 0:P2):R P2)) dm q) (fun _ q=>EM rfl q) hu
 | true =>
  have hP:=(LU p).1 ho
  unfold Ew FS;rw [jo ho,jo ho];cases hI:EX p with
  | true =>
   have hp:p=.inf:=by cases p with | inf=>rfl | pt a b=>cases hI
   have hs:smul (AI (AA xs ic n)) p=p:=by rw [hp,Gz]
   rw [hs];exact BN (A_ (ie:=ee) func178 dm dm fun β0 w0 hb =>
    A6 VK AB func178 e3 ⟨by rw [ho];rfl,hI,trivial⟩ (AR dm) hb jl) fun β u hu=>AHg hu
  | false =>
   refine BN (A_ (ie:=ef) func178 dm dm fun β0 w0 hb=>?_) fun β u hu=>AHg hu
   refine Aj VK AB e1 ⟨by rw [ho];rfl,hI,Mq hn,trivial⟩ (AR dm) hb jl fun _=>?_
   have e4:wI (wI (64*(n:Int))-1)=((64*n:Nat):Int)-1:=by
    rw [Au (z:=64*(n:Int)) dn,Au dn];omega
   rw [e4];refine fD AHf (AZZ ip ii hn hP hI hb (64*n) ⟨0,0,0⟩ ?_ (ju _))
   rw [G0 rfl,mf (YZ ip ii)];rfl
def gL (α:Type) [Sh α] (g:dt→R α→AV):ASpec:=fun args H fr ie =>
 match args with
 | [S,.val true a]=>match DS S with
  | some (k,ic,n)=>match (rd a:Option (R α)),AF H k with
   | some r,some ⟨_,cs,_⟩=>match A' .u64 cs with
    | some xs=>some (BP [k] 1 fr 0 [] (g (AA xs ic n) r) [] [(Nat.ble (ic+n) xs.length,true),(Nat.ble n 1125899906842624,true)] ie)
    | none=>none
   | _,_=>none
  | none=>none
 | _=>none
theorem AHh {α:Type} [Sh α] {f:gp} {fn:Func} {g:dt→R α→AV} (jc:dr.funcs[f]? = some fn) (hb:fn.body.isSome=true) (iq:fw fn) (hk:∀ l r,EJ 1 0 [] (g l r) []=true)
  (h:∀ (ic n m:Nat) (xs:dt) (r:R α),(∀ d∈xs,0≤d∧d<18446744073709551616)→ic+n≤xs.length→n≤1125899906842624→Ab dr f [AQ 0 ic n m,va α r] (BE xs) 1 [] (g (AA xs ic n) r) []):BI dr f (gL α g):=by
 refine DN jc hb iq fun args H fr ie r hs=>?_
 unfold gL at hs;split at hs;case h_2=>cases hs
 rename_i S a;split at hs;case h_2=>cases hs
 rename_i k ic n hS;split at hs;case h_2=>cases hs
 rename_i q ty cs o hx hk';split at hs;case h_2=>cases hs
 rename_i xs jh;injection hs with hs;refine ⟨[k],1,0,[],_,_,_,ie,hs.symm,fun β us w ha hg hc=>?_⟩
 obtain ⟨u1,jf,r1,⟨u2,jg,r2,ha,rfl⟩,rfl⟩:=ha;obtain ⟨m,r1⟩:=E8 hS r1;obtain ⟨g1,g2,g3⟩:=LL hg hk' jh;exact ⟨[AQ 0 ic n m,va α q],BE xs,h ic n m xs q g1 (jp hc.1) (jp hc.2.1),hk _ _,⟨u1,_,CV dn rfl r1,⟨u2,jg,F1 hx r2,ha,rfl⟩,rfl⟩,g2,g3⟩
def SJ4:dw:=(178,D3 (gL P2 fun l r=>KJ (Ew (AI l) (mo r)) (FS (mo r))))::SJ3
theorem AZb:AX dr SJ4:=⟨EK (AHh func178 dm dm (fun _ _=>by kernel_rfl) fun _ _ _ _ r hx hl hn=>AZa hx hl hn r),AHe⟩
end
noncomputable section
def rQ:Nat:=gc
theorem AHi:∃ n,n=rQ:=⟨_,rfl⟩
def rN:Nat:=Classical.choose AHi
theorem rN_eq:rN=rQ:=lf AHi
def RL:dt:=[0xffffffff00000001,0x53bda402fffe5bfe,0x3339d80809a1d805,0x73eda753299d7d48]
theorem wW:AI (AA RL 0 4)=rN:=(by kernel_rfl:AI (AA RL 0 4)=rQ).trans rN_eq.symm
def wX:List Ch:=RL.map fun i=>.n .u64 i
theorem AZc:AJ dr (AG S0 K0) f168 [] [] 100=some ([],.val true wX):=dm
theorem AZd:AT dr 168 [] (.val true wX):=AN (AH IV Ac) AB func168 AZc trivial rfl
def SJa:dw:=(168,Af (ev FP (.val true wX)))::SJ4
theorem AHj:AX dr SJa:=⟨Ah func168 dm dm (gB (α:=FP) AZd),AZb⟩
abbrev oJa:ia:=AG SJa KH
theorem AHk:g_ dr oJa:=AH AHj Co
def SJb:dw:=(109,BF dr oJa f109 100)::(179,BF dr oJa f179 100)::SJa
theorem AHl:AX dr SJb:=⟨BJ AHk AB func109 dm dm 100,BJ AHk AB func179 dm dm 100,AHj⟩
abbrev oJb:ia:=AG SJb KH
theorem AHm:g_ dr oJb:=AH AHl Co
def SJc:dw:=(108,BF dr oJb f108 300)::(177,BF dr oJb f177 300)::SJb
theorem AHn:AX dr SJc:=⟨BJ AHm AB func108 dm dm 300,BJ AHm AB func177 dm dm 300,AHl⟩
abbrev oJc:ia:=AG SJc KH
theorem gM:g_ dr oJc:=AH AHn Co
def A2 (p:Pt FP):Bool:=BH p&&Ao (smul rN p)
def CW (p:P2):Bool:=BK p&&EX (smul rN p)
def rW:dt:=AA RL (0+0*1) (4-0)
theorem AHo:AI rW=rN:=wW
section
variable (r:R P2) (x y:Nat) (i:Bool)
theorem AZe:AJ dr oJc f104 [va P2 r] dz 500=some (tt 2 [(decide (FS (mo r)=0),true)],Aw (en (Ew (AI rW) (mo r)):R P2).2.2):=dm
theorem AZf:AJ dr oJc f104 [va P2 r] dx 500=some (tt 2 [(decide (FS (mo r)=0),false)],.val false [.b false]):=dm
theorem AZg:AJ dr oJc f48 [Ax x y i] dz 500=some (tt 2 [(decide (HR (AL x y i)=0),true)],Aw (Ao (HQ (AI rW) (AL x y i)))):=dm
theorem AZh:AJ dr oJc f48 [Ax x y i] dx 500=some (tt 2 [(decide (HR (AL x y i)=0),false)],.val false [.b false]):=dm
end
theorem AZi (r:R P2):AT dr 104 [va P2 r] (Aw (CW (mo r))):=by
 have h1:=AZe r;have h2:=AZf r;generalize (mo r:P2)=p at *
 unfold CW;cases ho:BK p with
 | true =>
  have e:en (Ew (AI rW) p)=(en (smul rN p):R P2):=by unfold Ew;rw [jo ho,AHo]
  rw [e] at h1;exact AN gM AB func104 h1 (AY 2 ⟨by unfold FS;rw [jo ho];rfl,trivial⟩) rfl
 | false=>exact CG (AN gM AB func104 h2 (AY 2 ⟨by unfold FS;rw [jn (by rw [ho];exact kb)];rfl,trivial⟩) rfl) fun u hu=>Gw rfl hu
theorem AZj (x y:Nat) (i:Bool):AT dr 48 [Ax x y i] (Aw (A2 (AL x y i))):=by
 have h1:=AZg x y i;have h2:=AZh x y i;generalize AL x y i=p at *
 unfold A2;cases ho:BH p with
 | true =>
  have e:HQ (AI rW) p=smul rN p:=by unfold HQ;rw [jo ho,AHo]
  rw [e] at h1;exact AN gM AB func48 h1 (AY 2 ⟨by unfold HR;rw [jo ho];rfl,trivial⟩) rfl
 | false=>exact CG (AN gM AB func48 h2 (AY 2 ⟨by unfold HR;rw [jn (by rw [ho];exact kb)];rfl,trivial⟩) rfl) fun u hu=>Gw rfl hu
def SJd:dw:=(48,Af (N_ fun p=>Aw (A2 p)))::(104,Af (BZ P2 fun r=>Aw (CW (mo r))))::SJc
theorem AHp:AX dr SJd:=⟨Ah func48 dm dm (R0 AZj),Ah func104 dm dm (Bi AZi),AHn⟩
end
noncomputable section
abbrev oJd:ia:=AG SJd KH
theorem AHq:g_ dr oJd:=AH AHp Co
def SJe:dw:=(112,BF dr oJd f112 100)::(50,BF dr oJd f50 500)::SJd
theorem AHr:AX dr SJe:=⟨BJ AHq AB func112 dm dm 100,BJ AHq AB func50 dm dm 500,AHp⟩
abbrev oJe:ia:=AG SJe KH
theorem wY:g_ dr oJe:=AH AHr Co
def D8 (a:gw):Bool:=if a.b=0 then BG a.a.val else BG a.b.val
theorem AZk (r:R gw):AJ dr oJe f101 [va gw r] dz 300=some ([(dq (re FP r.2) 0,true)],Aw (BG r.1)):=dm
theorem AZl (r:R gw):AJ dr oJe f101 [va gw r] dx 300=some ([(dq (re FP r.2) 0,false)],Aw (BG r.2)):=dm
theorem gN (x:Nat):BG x=BG (tf x).val:=by
 unfold BG C7;show _=decide ((pN-x % pN % pN) % pN<x % pN % pN);rw [nu]
theorem AZm (r:R gw):AT dr 101 [va gw r] (Aw (D8 (mo r))):=by
 have e:dq (re FP r.2) 0=decide ((mo r:gw).b=0):=M2 (mo r:gw).b 0
 have h1:=AZk r;have h2:=AZl r;unfold D8;by_cases h:(mo r:gw).b=0
 ·rw [jo h];rw [show BG r.1=BG (mo r:gw).a.val from gN _] at h1
  exact AN wY AB func101 h1 ⟨by rw [e];exact jm h,trivial⟩ rfl
 ·rw [jn h];rw [show BG r.2=BG (mo r:gw).b.val from gN _] at h2
  exact AN wY AB func101 h2 ⟨by rw [e];exact jq h,trivial⟩ rfl
def SJf:dw:=(51,BF dr oJe f51 300)::(101,Af (BZ gw fun r=>Aw (D8 (mo r))))::SJe
theorem M3:AX dr SJf:=⟨BJ wY AB func51 dm dm 300,Ah func101 dm dm (Bi AZm),AHr⟩
abbrev oJf:ia:=AG SJf KH
theorem Ey:g_ dr oJf:=AH M3 Co
def Ez (l:dt) (f:Int):dt:=l.set 0 (bits .or .u8 (l.getD 0 0) f)
def b1 (p:Pt FP):dt:=Bv (A8 p % pN) 48++Bv (Av p % pN) 48
def eE (s:Bool) (k:Nat):AV:=match s with
 | true=>.tup [(false,[.sl 7 0 k k]),(false,[.n .i64 0])]
 | false=>.tup [(false,[.sx 7 (2*k) 1]),(false,[.n .i64 0])]
def eH (l:dt):Heap:=[(7,some ⟨5,[.seq .u8 l],true⟩)]
section
variable (x y:Nat) (i:Bool)
noncomputable def Yi (s:Bool) (p:List Bool):h_:=Ak f23 [Ax x y i,.val false [.b s]] [] 0 p
theorem AZn (s:Bool):AU dr oJf f23 800 0 [] (Yi x y i s dz)=some ([(!A2 (AL x y i),true)],[],.tup [(false,[.v (.slice none 0 0)]),(false,[.n .i64 140])],[]):=dm
def eC (p:Pt FP) (r:du):du:=(!A2 p,false)::tt 10 ((false,false)::r)
theorem AZo:AU dr oJf f23 800 0 [7] (Yi x y i true [false,true,true,false,true,false])=some (eC (AL x y i) (tt 10 ((Ao (AL x y i),true)::tt 4 [(BG (Av (AL x y i)),false)])),[],eE true 48,eH (Ez (Ez (b1 (AL x y i)) 128) 64)):=dm
theorem AZp:AU dr oJf f23 800 0 [7] (Yi x y i true [false,true,true,false,false,true,true])=some (eC (AL x y i) (tt 10 ((Ao (AL x y i),false)::(BG (Av (AL x y i)),true)::(!Ao (AL x y i),true)::tt 4 [])),[],eE true 48,eH (Ez (Ez (b1 (AL x y i)) 128) 32)):=dm
theorem AZq:AU dr oJf f23 800 0 [7] (Yi x y i true [false,true,true,false,false,false])=some (eC (AL x y i) (tt 10 [(Ao (AL x y i),false),(BG (Av (AL x y i)),false)]),[],eE true 48,eH (Ez (b1 (AL x y i)) 128)):=dm
end
def E0 (s:Bool) (p:Pt FP):dt:=match s,Ao p with
 | false,true=>Ez (b1 p) 64
 | false,false=>b1 p
 | true,true=>Ez (Ez (b1 p) 128) 64
 | true,false=>if BG (Av p)=true then Ez (Ez (b1 p) 128) 32 else Ez (b1 p) 128
theorem AZr {x y:Nat} {i:Bool} (hin:A2 (AL x y i)=true):Ab dr 23 [Ax x y i,.val false [.b true]] [] 0 [] (eE true 48) (eH (E0 true (AL x y i))):=by
 have h3:=AZo x y i;have h4:=AZp x y i;have h5:=AZq x y i;unfold Yi at *
 generalize AL x y i=p at *
 have hC:∀ r,AM r→AM (eC p r):=fun r hr=>⟨by rw [hin];rfl,AY 10 ⟨rfl,hr⟩⟩
 unfold E0;cases hp:Ao p with
 | true =>
  have hb:BG (Av p)=false:=by
   have:p=.inf:=by cases p with | inf=>rfl | pt a b=>cases hp
   rw [this];rfl
  exact Bf M3 Co func23 dm dm h3 dm (hC _ (AY 10 ⟨hp,AY 4 ⟨hb,trivial⟩⟩))
 | false =>
  by_cases hb:BG (Av p)=true
  ·simp only [jo hb];exact Bf M3 Co func23 dm dm h4 dm (hC _ (AY 10 ⟨hp,hb,by rw [hp];rfl,AY 4 trivial⟩))
  ·simp only [jn hb];exact Bf M3 Co func23 dm dm h5 dm (hC _ (AY 10 ⟨hp,by simpa using hb,trivial⟩))
end
noncomputable section
def VL (x:Nat):dt:=Bv (x % pN) 48
def b2 (p:P2):dt:=((VL (rX p).2++VL (rX p).1)++VL (rY p).2)++VL (rY p).1
def wZ (s:Bool) (p:P2):dt:=match s,EX p with
 | false,true=>Ez (b2 p) 64
 | false,false=>b2 p
 | true,true=>Ez (Ez (b2 p) 128) 64
 | true,false=>if D8 (KB p)=true then Ez (Ez (b2 p) 128) 32 else Ez (b2 p) 128
def P7 (e:Int):AV:=.tup [(false,[.v (.slice none 0 0)]),(false,[.n .i64 e])]
def gO (α:Type) [Sh α] (inn:α→Bool) (V:Bool→AV) (H:Bool→α→Heap) (nw:Nat):ASpec:=fun args _ fr ie=>match args with
 | [.val true a,B]=>match (rd a:Option (R α)),FY (some B),ie with
  | some r,some (_,_),true::ij=>some (BP [] 0 fr 0 [] (P7 140) [] [(inn (mo r),false)] ij)
  | some r,some (_,true),false::ij=>some (BP [] 0 fr nw [] (V true) (H true (mo r)) [(inn (mo r),true)] ij)
  | _,_,_=>none
 | _=>none
theorem SF {β β':Env} {B:AV} {c s:Bool} {u:gq} (h:FY (some B)=some (c,s)) (hr:AO β B u):AO β' (.val false [.b s]) u:=by
 have:=K5 (β:=β) (u:=u) (fv hr) h
 subst this;exact Az rfl
theorem AHs {α:Type} [Sh α] {inn:α→Bool} {V:Bool→AV} {H:Bool→α→Heap} {nw:Nat} {f:gp} {fn:Func} (jc:dr.funcs[f]? = some fn) (hb:fn.body.isSome=true) (iq:fw fn) (hk:∀ s x,EJ 0 nw [] (V s) (H s x)=true)
  (h0:∀ (r:R α) (s:Bool),inn (mo r)=false→Ab dr f [va α r,.val false [.b s]] [] 0 [] (P7 140) [])
  (h1:∀ (r:R α),inn (mo r)=true→Ab dr f [va α r,.val false [.b true]] [] 0 [] (V true) (H true (mo r))):BI dr f (gO α inn V H nw):=by
 have hg':∀ (β:Env) (H0:Heap) (w:gn),Ex.Good β H0 w→Ex.Good (A9 β [] 0) [] w:=fun β _ w _=>by
  have hn:∀ b,A9 β [] 0 b=none:=fun b=>by
   unfold A9;have:Nat.blt b 0=false:=by cases b<;>rfl
   rw [this]
  exact ⟨(fun b blk h=>by cases h),(fun b b' B n n' h=>by cases h),(fun b B n h=>by rw [hn] at h;cases h)⟩
 refine DN jc hb iq fun args H0 fr ie r hs=>?_
 unfold gO at hs;split at hs;case h_2=>cases hs
 rename_i a B;split at hs;case h_3=>cases hs
 all_goals injection hs with hs
 ·rename_i q c s ij hx hB;refine ⟨[],0,0,[],_,_,_,_,hs.symm,fun β us w ha hgd hc=>?_⟩
  obtain ⟨u1,jf,r1,⟨u2,jg,r2,ha,rfl⟩,rfl⟩:=ha;exact ⟨[va α q,.val false [.b s]],[],h0 q s hc.1,dm,⟨u1,_,F1 hx r1,⟨u2,jg,SF hB r2,ha,rfl⟩,rfl⟩,hg' β H0 w hgd,fun k hk=>by omega⟩
 ·rename_i q c ij hx hB;refine ⟨[],0,nw,[],_,_,_,_,hs.symm,fun β us w ha hgd hc=>?_⟩
  obtain ⟨u1,jf,r1,⟨u2,jg,r2,ha,rfl⟩,rfl⟩:=ha;exact ⟨[va α q,.val false [.b true]],[],h1 q hc.1,hk _ _,⟨u1,_,F1 hx r1,⟨u2,jg,SF hB r2,ha,rfl⟩,rfl⟩,hg' β H0 w hgd,fun k hk=>by omega⟩
theorem AZs (r:R (Pt FP)) (s:Bool) (h:A2 (mo r)=false):Ab dr 23 [va (Pt FP) r,.val false [.b s]] [] 0 [] (P7 140) [] :=
 Bf M3 Co func23 dm dm (AZn r.1 r.2.1 r.2.2 s) dm ⟨by rw [show A2 (AL r.1 r.2.1 r.2.2)=false from h];rfl,trivial⟩
def SJg:dw:=(23,gO (Pt FP) A2 (fun s=>eE s 48) (fun s p=>eH (E0 s p)) 8)::SJf
theorem AZt:AX dr SJg:=⟨AHs func23 dm dm (fun s _=>by cases s<;>kernel_rfl) AZs (fun r h=>AZr (x:=r.1) (y:=r.2.1) (i:=r.2.2) h),M3⟩
end
open Ex Num Rg
open Ex Num Rg
open Sh (R av rd mo en mo_en)
noncomputable section
def KK {α:Type} (x:Nat) (k:Nat→α):α:=Nat.rec (k 0) (fun n _=>k (Nat.succ n)) x
theorem LW {α:Type} (x:Nat) (k:Nat→α):KK x k=k x:=by cases x<;>rfl
section
variable {F:Type} [Sh F] [FD F]
def gP (fc:R (J F)→(R (J F)→Bool)→Bool) (z:R F→Bool) (a b:F) (N:Nat) (i:Nat):R (J F)→Bool :=
 Nat.rec (fun r=>z r.2.2) (fun i ih r=>fc (en (Bw (mo r:J F))) fun s=>cond (Nat.beq (N / 2^i % 2) 1) (fc (en (F0 (mo s:J F) a b)) ih) (ih s)) i
theorem AZu (C:Cv F) {fc:R (J F)→(R (J F)→Bool)→Bool} {z:R F→Bool} {a b:F} {N:Nat} (hfc:∀ r k,fc r k=k r) (hz:∀ r:R F,z r=true→(mo r:F)=0) (hP:On C.b (.pt a b)) :
  ∀ (i:Nat) (r:R (J F)),CF (mo r:J F)=smul (N / 2^i) (.pt a b)→gP fc z a b N i r=true→smul N (.pt a b)=.inf:=by
 intro i;induction i with
 | zero =>
  intro r hr h;rw [kx,ld] at hr;rw [← hr];exact G0 (hz r.2.2 h)
 | succ i ih =>
  intro r hr h;have h':fc (en (Bw (mo r:J F))) (fun s=>cond (Nat.beq (N / 2^i % 2) 1) (fc (en (F0 (mo s:J F) a b)) (gP fc z a b N i)) (gP fc z a b N i s))=true:=h
  rw [hfc,hfc] at h';have hdiv:N / 2^i=2*(N / 2^(i+1))+N / 2^i % 2:=by
   rw [lj,← ll];omega
  have hoj:On C.b (CF (mo r:J F)):=by rw [hr];exact CE C hP _
  have htw:CF (Bw (mo r:J F))=smul (2*(N / 2^(i+1))) (.pt a b):=by
   rw [Rz C hoj,hr,← JO C hP,qq]
  have htw':CF (mo (en (Bw (mo r:J F)):R (J F)):J F)=smul (2*(N / 2^(i+1))) (.pt a b):=by rw [mo_en];exact htw
  cases hb:Nat.beq (N / 2^i % 2) 1 with
  | true =>
   rw [hb] at h';have h1:=nf hb;refine ih _ ?_ h'
   rw [mo_en,U3 C (by rw [htw'];exact CE C hP _),htw']
   rw [hdiv,h1];rfl
  | false =>
   rw [hb] at h';have h1:N / 2^i % 2=0:=by
    have:=Nat.ne_of_beq_eq_false hb
    omega
   refine ih _ ?_ h'
   rw [htw',hdiv,h1];rfl
end
def w7 (r:R (J FP)) (k:R (J FP)→Bool):Bool:=KK r.1 fun x=>KK r.2.1 fun y=>KK r.2.2 fun z=>k (x,y,z)
theorem AZv (r:R (J FP)) (k:R (J FP)→Bool):w7 r k=k r:=by unfold w7;rw [LW,LW,LW];rfl
def FT (r:R (J gw)) (k:R (J gw)→Bool):Bool:=KK r.1.1 fun x=>KK r.1.2 fun x'=>KK r.2.1.1 fun y=>KK r.2.1.2 fun y'=>KK r.2.2.1 fun z=>KK r.2.2.2 fun z'=>k ((x,x'),(y,y'),(z,z'))
theorem AZw (r:R (J gw)) (k:R (J gw)→Bool):FT r k=k r:=by unfold FT;rw [LW,LW,LW,LW,LW,LW];rfl
def zr1 (r:R FP):Bool:=Nat.beq r 0
theorem xA (r:R FP) (h:zr1 r=true):(mo r:FP)=0:=by
 have:r=(0:Nat):=nf h
 rw [this];exact tf_zero
def Yj (r:R gw):Bool:=Nat.beq r.1 0&&Nat.beq r.2 0
theorem gQ (r:R gw) (h:Yj r=true):(mo r:gw)=0:=by
 obtain ⟨h1,h2⟩:=jy.1 h;exact Qx.ext (xA r.1 h1) (xA r.2 h2)
theorem AZx:rQ / 2^255=0:=dm
theorem gR:BH G1B=true:=(vO gX gY).symm.trans dm
theorem AZy:gP w7 zr1 (tf gX) (tf gY) rQ 255 (en (⟨0,0,0⟩:J FP))=true:=dm
theorem rG1:smul rN G1B=.inf:=by
 rw [rN_eq];exact AZu C1 AZv xA ((Ih G1B).1 gR) 255 _ (by rw [mo_en,AZx,G0 rfl];rfl) AZy
theorem Yk:A2 G1B=true:=by unfold A2;rw [gR,rG1];rfl
theorem VM:A2 .inf=true:=by unfold A2;rw [Gz];rfl
end
open Ex Num
noncomputable section
def Yl (xs ys:dt):Heap:=[(0,some (An [.seq .u8 xs])),(1,some (An [.seq .u8 ys]))]
noncomputable def xB (ic n m ig n' m':Nat) (xs ys:dt) (p:List Bool):h_:=Ak f25 (J1 ic n m ig n' m') (Yl xs ys) 2 p
noncomputable def AZz:List Item:=B6 (AZ dr (AG S10 K0) (some 0) 100 2 none (xB 0 0 0 0 0 0 [] [] dx))
noncomputable def saT (ic n m ig n' m':Nat) (i:Int):List AV:=.val false [.sl 0 ic n m]::.val false [.sl 1 ig n' m']::.any::.any::.any::.val false [.n .i64 i]::List.replicate (f25.ntmps-6) .any
noncomputable def SG (ic n m ig n' m':Nat) (xs ys:dt) (i:Int) (p:List Bool):h_:=⟨AZz,⟨saT ic n m ig n' m' i,Yl xs ys,2,p⟩⟩
abbrev saK:Option (List Nat×List Nat×Nat):=some ([0,1,5],[0,1],2)
section
variable (ic n m ig n' m':Nat) (xs ys:dt) (i:Int)
theorem AZ1:AZ dr (AG S10 K0) (some 0) 100 2 saK (xB ic n m ig n' m' xs ys dx)=some ([(AK .i64 n,true),(AK .i64 n',true),(!decide ((n:Int)=n'),false)],[],SG ic n m ig n' m' xs ys 0 []):=dm
theorem AZ2:AU dr (AG S10 K0) f25 100 2 [] (xB ic n m ig n' m' xs ys dz)=some ([(AK .i64 n,true),(AK .i64 n',true),(!decide ((n:Int)=n'),true)],[],.val false [.b false],[]):=dm
def xC (d:Bool) (r:du):du:=(AK .i64 n,true)::(decide (i<n),true)::(decide (0≤i∧i<n),true)::(decide (ic+i.toNat*1<xs.length),true)::(decide (0≤i∧i<n'),true)::(decide (ig+i.toNat*1<ys.length),true)::(!decide (xs.getD (ic+i.toNat*1) 0=ys.getD (ig+i.toNat*1) 0),d)::r
theorem AZ3:AZ dr (AG S10 K0) (some 0) 100 2 saK (SG ic n m ig n' m' xs ys i eg)=some (xC ic n ig n' xs ys i false [],[],SG ic n m ig n' m' xs ys (AW true .i64 (i+1)) []):=dm
theorem AZ4:AU dr (AG S10 K0) f25 100 2 [] (SG ic n m ig n' m' xs ys i d_)=some (xC ic n ig n' xs ys i true [],[],.val false [.b false],[]):=dm
theorem AZ5:AU dr (AG S10 K0) f25 100 2 [] (SG ic n m ig n' m' xs ys i dx)=some ([(AK .i64 n,true),(decide (i<n),false)],[],.val false [.b true],[]):=dm
theorem xD (p:List Bool):BW f25.ntmps (SG ic n m ig n' m' xs ys i p).s:=AR dm
end
def M4 (a b:dt):Bool:=decide (a=b)
theorem gS {xs:dt} {ic n j:Nat} (h:j<n):(AA xs ic n).getD j 0=xs.getD (ic+j) 0:=by
 unfold AA;rw [kq,kq,rx h,qv]
theorem VN {xs:dt} {ic n:Nat} (h:ic+n≤xs.length):(AA xs ic n).length=n:=by
 unfold AA;rw [kv,lk];omega
theorem xE {β:Env} {x y:Bool} {u:gq} (e:x=y) (h:AO β (.val false [.b x]) u):AO β (Aw y) u:=by
 subst e;obtain ⟨l1,l2,h1,h2,h3⟩:=h;exact ⟨l1,l2,⟨h1,rfl,trivial⟩,h2,h3⟩
section
variable {ic n m ig m':Nat} {xs ys:dt} (hl:ic+n≤xs.length) (hl':ig+n≤ys.length) (hn:AK .i64 n=true) {β0:Env} {w0:gn} (hb:∀ b,2≤b→β0 b=none)
include hl hl' hn hb
theorem AZ6:∀ c i:Nat,i+c=n→(∀ j,j<i→xs.getD (ic+j) 0=ys.getD (ig+j) 0) →
  gz dr 25 β0 w0 (BA β0 w0 [] (Aw (M4 (AA xs ic n) (AA ys ig n))) []) f25.ntmps [] (SG ic n m ig n m' xs ys (i:Nat) []):=by
 have bn:n≤9223372036854775807:=by simp only [AK,jx,jt] at hn;omega
 intro c;induction c with
 | zero =>
  intro i hi heq;have e:M4 (AA xs ic n) (AA ys ig n)=true:=jm (sf (by rw [VN hl,VN hl']) fun j h1 h2=>by
   rw [VN hl] at h1;have h3:=heq j dn;rw [← gS h1,← gS h1,kq,kq,nh (by rw [VN hl];exact h1),nh h2] at h3
   exact h3)
  refine Ai dx (IW (A6 (AH LM Ac) AB func25 (AZ5 ..) ⟨hn,jq dn,trivial⟩ (xD ..) hb jl) fun _ _=>xE e.symm)
 | succ c ih =>
  intro i hi heq;have et:((i:Nat):Int).toNat=i:=jz i
  have hC:∀ d r,(!decide (xs.getD (ic+i) 0=ys.getD (ig+i) 0))=d→AM r→AM (xC ic n ig n xs ys (i:Nat) d r):=fun d r hd hr =>
   ⟨hn,jm dn,jm dn,jm (by rw [et];omega),jm dn,jm (by rw [et];omega),by rw [et,kt];exact hd,hr⟩
  by_cases he:xs.getD (ic+i) 0=ys.getD (ig+i) 0
  ·refine Ai eg (Aj (AH LM Ac) AB (AZ3 ..) (hC false [] (by rw [jm he];rfl) trivial) (xD ..) hb jl fun _=>?_)
   rw [Xk true dn,show ((i:Nat):Int)+1=((i+1:Nat):Int) from rfl]
   refine ih (i+1) dn fun j hj=>?_
   rcases kf j i with q | q
   ·exact heq j q
   ·rw [show j=i by omega];exact he
  ·have e:M4 (AA xs ic n) (AA ys ig n)=false:=jq fun h=>he (by
    have h3:(AA xs ic n).getD i 0=(AA ys ig n).getD i 0:=by rw [h]
    rw [gS dn,gS dn] at h3;exact h3)
   exact Ai d_ (IW (A6 (AH LM Ac) AB func25 (AZ4 ..) (hC true [] (by rw [jq he];rfl) trivial) (xD ..) hb jl) fun _ _=>xE e.symm)
end
theorem AZ7 {ic n m ig n' m':Nat} {xs ys:dt} (hl:ic+n≤xs.length) (hl':ig+n'≤ys.length) (hn:AK .i64 n=true) (hn':AK .i64 n'=true) :
  Ab dr 25 (J1 ic n m ig n' m') (Yl xs ys) 2 [] (Aw (M4 (AA xs ic n) (AA ys ig n'))) []:=by
 by_cases he:n=n'
 ·subst he;refine A_ (ie:=dx) func25 dm dm fun β0 w0 hb=>?_
  exact Aj (AH LM Ac) AB (AZ1 ic n m ig n m' xs ys) ⟨hn,hn',by rw [jm rfl];rfl,trivial⟩ (AR dm) hb jl fun _=>AZ6 hl hl' hn hb n 0 dn fun j hj=>absurd hj (pf j)
 ·have e:M4 (AA xs ic n) (AA ys ig n')=false:=jq fun h=>he (by
   have h3:=jw List.length h
   rwa [VN hl,VN hl'] at h3)
  exact BN (Bf LM Ac func25 dm dm (AZ2 ic n m ig n' m' xs ys) dm ⟨hn,hn',by rw [jq dn];rfl,trivial⟩) fun _ _=>xE e.symm
theorem AZ8 {β:Env} {H:Heap} {w:gn} {k t:Nat} {ty ty':Nat} {cs ds:List Ch} {o o':Bool} {xs ys:dt} (hg:Ex.Good β H w) (hk:AF H k=some ⟨ty,cs,o⟩) (ht:AF H t=some ⟨ty',ds,o'⟩) (jh:A' .u8 cs=some xs) (hys:A' .u8 ds=some ys) :
  Ex.Good (A9 β [k,t] 2) (Yl xs ys) w∧(∀ j,j<2→∃ X,β (nth [k,t] j)=some X):=by
 refine ⟨AD' (c:=[.seq .u8 xs]) (e:=[.seq .u8 ys]) hg hk ht (fun l h=>?_) (fun l h=>?_),fun j hj=>?_⟩
 ·obtain ⟨q1,q2⟩:=DL jh h;exact ⟨_,[],⟨q1,q2⟩,rfl,by simp⟩
 ·obtain ⟨q1,q2⟩:=DL hys h;exact ⟨_,[],⟨q1,q2⟩,rfl,by simp⟩
 ·match j,hj with
  | 0,_=>exact CM (hg.heap _ _ hk)
  | 1,_=>exact CM (hg.heap _ _ ht)
noncomputable def smSp:ASpec:=fun args H fr ie =>
 match args with
 | [A,B]=>match DS A,DS B with
  | some (k,ic,n),some (t,ig,n')=>match AF H k,AF H t with
   | some ⟨_,cs,_⟩,some ⟨_,ds,_⟩=>match A' .u8 cs,A' .u8 ds with
    | some xs,some ys=>some (BP [k,t] 2 fr 0 [] (Aw (M4 (AA xs ic n) (AA ys ig n'))) [] [(Nat.ble (ic+n) xs.length,true),(Nat.ble (ig+n') ys.length,true),(AK .i64 n,true),(AK .i64 n',true)] ie)
    | _,_=>none
   | _,_=>none
  | _,_=>none
 | _=>none
theorem AZ9:BI dr 25 smSp:=by
 refine DN func25 dm dm fun args H fr ie r h=>?_
 unfold smSp at h;split at h;case h_2=>cases h
 rename_i A B;split at h;case h_2=>cases h
 rename_i k ic n t ig n' hA hB;split at h;case h_2=>cases h
 rename_i ty cs o ty' ds o' hk ht;split at h;case h_2=>cases h
 rename_i xs ys jh hys;injection h with h;refine ⟨[k,t],2,0,[],_,_,_,ie,h.symm,fun β us w ha hg hc=>?_⟩
 obtain ⟨u1,jf,r1,⟨u2,jg,r2,ha,rfl⟩,rfl⟩:=ha;obtain ⟨m,r1⟩:=E8 hA r1;obtain ⟨m',r2⟩:=E8 hB r2;obtain ⟨g2,g3⟩:=AZ8 hg hk ht jh hys;exact ⟨J1 ic n m ig n' m',Yl xs ys,AZ7 (jp hc.1) (jp hc.2.1) hc.2.2.1 hc.2.2.2.1,dm,⟨u1,_,CV dn rfl r1,⟨u2,jg,CV dn rfl r2,ha,rfl⟩,rfl⟩,g2,g3⟩
end
open Ex Num Rg
open Sh (R av rd mo en mo_en)
noncomputable section
def Al (l:dt) (k:Int):Bool:=decide (0<bits .and .u8 (l.getD 0 0) k)
def B_ (xs:dt) (k:Nat):dt:=bits .and .u8 (xs.getD 0 0) 31::List.take k (List.drop 1 xs)
def CJ (ls:dt) (o:Nat):Nat:=Ap (AA ls o 48)
def fB (s i b:Bool) (f:Int):Int:=match s,i with
 | false,true=>bits .or .u8 f 64
 | false,false=>f
 | true,true=>bits .or .u8 (bits .or .u8 f 128) 64
 | true,false=>if b=true then bits .or .u8 (bits .or .u8 f 128) 32 else bits .or .u8 f 128
def fB1 (s i b:Bool) (n:Nat):Bool:=(decide (0<bits .and .u8 (fB s i b n) 128)==s)&&((decide (0<bits .and .u8 (fB s i b n) 64)==i)&&((decide (0<bits .and .u8 (fB s i b n) 32)==(s&&(!i&&b)))&&decide (bits .and .u8 (fB s i b n) 31=n)))
theorem AZ_ (s i b:Bool):(List.range 32).all (fB1 s i b)=true:=by cases s<;>cases i<;>cases b<;>kernel_rfl
theorem AZ' (s i b:Bool) {f:Int} (h0:0≤f) (h1:f<32):decide (0<bits .and .u8 (fB s i b f) 128)=s∧decide (0<bits .and .u8 (fB s i b f) 64)=i∧decide (0<bits .and .u8 (fB s i b f) 32)=(s&&(!i&&b))∧bits .and .u8 (fB s i b f) 31=f:=by
 obtain ⟨n,rfl⟩:=kw h0;have h:=nj.1 (AZ_ s i b) n (mj.2 dn)
 unfold fB1 at h;simp only [jx,beq_iff_eq] at h;exact ⟨h.1,h.2.1,h.2.2.1,kj h.2.2.2⟩
def fB3 (s i b:Bool) (n:Nat):Bool:=!(decide (0<bits .and .u8 n 128)==s)||(!(decide (0<bits .and .u8 n 64)==i)||(!(decide (0<bits .and .u8 n 32)==(s&&(!i&&b)))||decide (fB s i b (bits .and .u8 n 31)=n)))
theorem AaA (s i b:Bool):(List.range 256).all (fB3 s i b)=true:=by cases s<;>cases i<;>cases b<;>kernel_rfl
theorem AaB {s i b:Bool} {f:Int} (h0:0≤f) (h1:f<256) (hs:decide (0<bits .and .u8 f 128)=s) (hi:decide (0<bits .and .u8 f 64)=i) (hb:decide (0<bits .and .u8 f 32)=(s&&(!i&&b))):fB s i b (bits .and .u8 f 31)=f:=by
 obtain ⟨n,rfl⟩:=kw h0;have h:=nj.1 (AaA s i b) n (mj.2 dn)
 unfold fB3 at h;rw [hs,hi,hb] at h;simpa using h
def fB4 (n:Nat):Bool:=decide (0≤bits .and .u8 n 31)&&decide (bits .and .u8 n 31<32)
theorem AaC:(List.range 256).all fB4=true:=dm
theorem AaD {f:Int} (h0:0≤f) (h1:f<256):0≤bits .and .u8 f 31∧bits .and .u8 f 31<32:=by
 obtain ⟨n,rfl⟩:=kw h0;have h:=nj.1 AaC n (mj.2 dn)
 unfold fB4 at h;simpa using h
def DY (s i b:Bool) (B:dt):dt:=match s,i with
 | false,true=>Ez B 64
 | false,false=>B
 | true,true=>Ez (Ez B 128) 64
 | true,false=>if b=true then Ez (Ez B 128) 32 else Ez B 128
theorem VO (s i b:Bool) (f:Int) (t:dt):DY s i b (f::t)=fB s i b f::t:=by cases s<;>cases i<;>cases b<;>rfl
theorem Ym (s:Bool) (p:Pt FP):E0 s p=DY s (Ao p) (BG (Av p)) (b1 p):=by
 unfold E0 DY;cases s<;>cases Ao p<;>rfl
theorem AHz (s:Bool) (p:P2):wZ s p=DY s (EX p) (D8 (KB p)) (b2 p):=by
 unfold wZ DY;cases s<;>cases EX p<;>rfl
theorem AaE (s i b:Bool) {B:dt} {k:Nat} (hk:0<k) (hB:k≤B.length) {f:Int} {t:dt} (e:B=f::t) (h0:0≤f) (h1:f<32):(AA (DY s i b B) 0 k).length=k∧Al (AA (DY s i b B) 0 k) 128=s∧Al (AA (DY s i b B) 0 k) 64=i∧Al (AA (DY s i b B) 0 k) 32=(s&&(!i&&b))∧B_ (AA (DY s i b B) 0 k) (k-1)=B.take k:=by
 obtain ⟨j,rfl⟩:∃ j,k=j+1:=⟨k-1,dn⟩
 subst e;rw [VO];obtain ⟨q1,q2,q3,q4⟩:=AZ' s i b h0 h1;have hl:j≤t.length:=by simpa using hB
 refine ⟨by simp [AA];omega,q1,q2,q3,?_⟩
 show bits .and .u8 (fB s i b f) 31::List.take j (List.take j t)=f::List.take j t;rw [q4,List.take_take,Nat.min_self]
theorem AH0 {s i b:Bool} {L B:dt} {k:Nat} (hk:0<k) (hl:L.length=k) (hL:∀ d∈L,0≤d∧d<256) (hs:Al L 128=s) (hi:Al L 64=i) (hb:Al L 32=(s&&(!i&&b))) (hB:B.take k=B_ L (k-1)):AA (DY s i b B) 0 k=L:=by
 obtain ⟨j,rfl⟩:∃ j,k=j+1:=⟨k-1,dn⟩
 cases L with
 | nil=>cases hl
 | cons v u =>
  have hv:=hL v (qr ..)
  have hu:u.length=j:=by simpa using hl
  have hB':B.take (j+1)=bits .and .u8 v 31::List.take j u:=hB
  cases B with
  | nil=>cases hB'
  | cons f t =>
   rw [ui] at hB';injection hB' with e1 e2;rw [VO];show fB s i b f::List.take j t=v::u;rw [e1,e2,AaB hv.1 hv.2 hs hi hb,← hu,List.take_length]
def cat:List Nat→dt
 | []=>[]
 | x::r=>Bv x 48++cat r
theorem Yn:∀ l:List Nat,(cat l).length=48*l.length
 | []=>rfl
 | x::r=>by rw [cat,ku,J6,Yn r,k_];omega
theorem VP:∀ (l:List Nat) (k:Nat),(cat l).take (48*k)=cat (l.take k)
 | [],k=>by rw [cat,List.take_nil,List.take_nil];rfl
 | x::r,0=>rfl
 | x::r,k+1=>by
  rw [cat,ui,cat,← VP r k,List.take_append,J6,oi (by rw [J6];omega)]
  congr 2
theorem AH1:∀ (l:List Nat) (j:Nat),j<l.length→CJ (cat l) (48*j)=l.getD j 0 % 256^48
 | [],j,h=>absurd h (pf j)
 | x::r,0,_=>by
  show Ap ((Bv x 48++cat r).take 48)=_;rw [List.take_left' (J6 x 48),AGA];rfl
 | x::r,j+1,h=>by
  have ih:=AH1 r j (by simpa using h)
  show Ap (((Bv x 48++cat r).drop (48*(j+1))).take 48)=r.getD j 0 % 256^48;rw [show 48*(j+1)=48+48*j by omega,← od,List.drop_left' (J6 x 48)]
  exact ih
theorem AH2:∀ (k:Nat) (ls:dt),ls.length=48*k→(∀ d∈ls,0≤d∧d<256)→cat ((List.range k).map fun j=>CJ ls (48*j))=ls
 | 0,ls,h,_=>by
  cases ls with
  | nil=>rfl
  | cons a b=>simp at h
 | k+1,ls,h,hb=>by
  have ih:=AH2 k (ls.drop 48) (by rw [lk];omega) fun d hd=>hb d (pn hd)
  rw [sr,lz,ot,cat];have e1:Bv (CJ ls (48*0)) 48=ls.take 48:=by
   have hl:(ls.take 48).length=48:=by rw [kv];omega
   have:=AGB (ls.take 48) fun d hd=>hb d (qh hd)
   rw [hl] at this;exact this
  have e2:((fun j=>CJ ls (48*j)) ∘ Nat.succ)=fun j=>CJ (ls.drop 48) (48*j):=by
   funext j
   show Ap ((ls.drop (48*(j+1))).take 48)=Ap (((ls.drop 48).drop (48*j)).take 48);rw [od,show 48*(j+1)=48+48*j by omega]
  rw [e1,e2,ih,nq]
theorem AH3:pN<32*256^47:=BX.1 dm
theorem AaF {x:Nat} (h:x<pN):x % 256^48=x:=jv (by have:=AH3;omega)
theorem AH4 {x:Nat} (hx:x<pN) (r:List Nat):∃ f t,cat (x::r)=f::t∧0≤f∧f<32:=by
 refine ⟨FC x 47,Bv x 47++cat r,?_,?_⟩
 ·show Bv x (47+1)++cat r=_;rw [uR];rfl
 ·have h1:x / 256^47<32:=mb (by have:=AH3;omega)
  have h2:FC x 47=((x / 256^47 % 256:Nat):Int):=rfl
  rw [h2];omega
noncomputable def l1 (p:Pt FP):List Nat:=[A8 p,Av p]
noncomputable def l2 (p:P2):List Nat:=[(rX p).2,(rX p).1,(rY p).2,(rY p).1]
theorem VQ (p:Pt FP):b1 p=cat (l1 p):=by
 unfold b1 l1 cat cat cat;rw [jv (Py p),jv (eU p),lh]
theorem AH5 (p:P2):Nat.lt (rX p).1 pN∧Nat.lt (rX p).2 pN:=⟨(Mx p).a.isLt,(Mx p).b.isLt⟩
theorem AH6 (p:P2):Nat.lt (rY p).1 pN∧Nat.lt (rY p).2 pN:=⟨(KB p).a.isLt,(KB p).b.isLt⟩
theorem gT {x:Nat} (h:Nat.lt x pN):VL x=Bv x 48:=by unfold VL;rw [jv h]
theorem AH7 (p:P2):b2 p=cat (l2 p):=by
 unfold b2 l2 cat cat cat cat cat;rw [gT (AH5 p).1,gT (AH5 p).2,gT (AH6 p).1,gT (AH6 p).2,lh,ol,ol]
end
abbrev fj:List Bool:=[false,false,true,false,false]
abbrev fk:List Bool:=[false,false,true,false,true]
abbrev fq:List Bool:=[true,false,false,true,false,true,false]
open Ex Num Rg
set_option maxRecDepth 100000
set_option maxHeartbeats 4000000
noncomputable section
theorem AH8:∀ (T0 T1:List AV) (x y:AV) (t:Nat),t≠T0.length→Aq (T0++x::T1) t=Aq (T0++y::T1) t
 | [],_,_,_,0,h=>absurd rfl h
 | [],_,_,_,_+1,_=>rfl
 | _::_,_,_,_,0,_=>rfl
 | _::T0,T1,x,y,t+1,h=>AH8 T0 T1 x y t fun e=>h (by rw [e];rfl)
theorem xF:∀ (T0 T1:List AV) (x:AV),Aq (T0++x::T1) T0.length=x
 | [],_,_=>rfl
 | _::T0,T1,x=>xF T0 T1 x
theorem KL {P:gr} {f:gp} {β0:Env} {w0:gn} {R:Ending→gn→Prop} {nt:Nat} {W:List Nat} {todo:List Item} {T0 T1:List AV} {H:Heap} {fr:Nat} {p:List Bool} {k n sz:Nat}
  (h:∀ cap,n≤cap→gz P f β0 w0 R nt W ⟨todo,⟨T0++.val false [.sl k 0 n cap]::T1,H,fr,p⟩⟩):gz P f β0 w0 R nt W ⟨todo,⟨T0++.val false [.sx k n sz]::T1,H,fr,p⟩⟩:=fun β a w hi hf=>by
 have h1:=hi.tmp T0.length;dsimp only at h1;rw [xF] at h1;obtain ⟨cap,hc,hr⟩:∃ cap,n≤cap∧AO β (.val false [.sl k 0 n cap]) (a.tmps.getD T0.length undef):=by
  obtain ⟨l1,l2,q,q2,q3⟩:=h1;rcases q with ⟨B,N,cap,e1,e2,e3,e4⟩ | ⟨e1,e2,e3⟩
  ·exact ⟨cap,e3,l1,l2,.inl ⟨B,(N,0),e1,e2⟩,q2,q3⟩
  ·subst e2;exact ⟨0,ju _,l1,l2,.inr (.inl ⟨e1,rfl,rfl,rfl,e3⟩),q2,q3⟩
 refine h cap hc β a w { hi with tmp:=fun t=>?_ } hf
 by_cases e:t=T0.length
 ·subst e;dsimp only;rw [xF];exact hr
 ·dsimp only;rw [AH8 _ _ _ (.val false [.sx k n sz]) _ e];exact hi.tmp t
def OO (n m:Nat) (h:Int) (s:Bool):List AV:=[AQ 0 0 n m,.val false [.n .i64 h],.val false [.b s]]
noncomputable def Il (xs:dt) (n m:Nat) (h:Int) (s:Bool) (p:List Bool):h_:=Ak f59 (OO n m h s) [(0,some (An [.seq .u8 xs]))] 1 p
def G4 (e:Int):AV:=.tup [(false,[.v (.slice none 0 0)]),(false,[.b false]),(false,[.n .i64 e])]
def LX (k:Nat) (jk:Bool):AV:=.tup [(false,[.sx (2+3*k) k 6]),(false,[.v (.bool jk)]),(false,[.n .i64 0])]
def FU (k:Nat) (l:List Ch):Heap:=[(2+3*k,some ⟨40,l,true⟩)]
def gU (xs ls:dt):Heap:=[(0,some (An [.seq .u8 xs])),(2,some ⟨5,[.seq .u8 ls],true⟩)]
noncomputable def AaG:List Item:=B6 (AZ dr oJf (some 0) 800 1 none (Il [] 48 48 1 true fi))
noncomputable def r1T (n:Nat) (jk:Bool) (i:Int):List AV:=List.append (List.replicate 12 AV.any) (.val false [.v (.bool jk)]::List.append (List.replicate 50 AV.any) (.val false [.sx 2 n 1]::.val false [.v (.int .i64 n)]::.val false [.n .i64 i]::List.replicate (f59.ntmps-66) AV.any))
noncomputable def LY (xs ls:dt) (n:Nat) (jk:Bool) (i:Int) (p:List Bool):h_:=⟨AaG,⟨r1T n jk i,gU xs ls,3,p⟩⟩
noncomputable def AaI:List Item:=B6 (AZ dr oJf (some 0) 800 1 none (Il [] 48 48 1 true ff))
noncomputable def AaJ (jk:Bool):List AV:=List.append (List.replicate 12 AV.any) [.val false [.v (.bool jk)]]
noncomputable def AaK:List AV:=.any::.any::.val false [.v (.slice none 0 0)]::List.replicate (f59.ntmps-17) AV.any
noncomputable def HT (xs ls:dt) (jk:Bool) (i:AV) (p:List Bool):h_:=⟨AaI,⟨AaJ jk++i::AaK,gU xs ls,3,p⟩⟩
def Yo:Option (List Nat×List Nat×Nat):=some ([12,63,64,65],[0,2],3)
def gV:Option (List Nat×List Nat×Nat):=some ([12,13,16],[0,2],3)
def LZ (xs:dt) (s b:Bool) (r:du):du:=(true,true)::(false,false)::(true,true)::(decide (0<xs.length),true)::(true,true)::(decide (0<xs.length),true)::(true,true)::(decide (0<xs.length),true)::(!(Al xs 128==s),b)::r
def OP (xs:dt) (n m:Nat) (b c:Bool) (r:du):du:=(Al xs 32,b)::(true,true)::(decide (0<xs.length),true)::(true,true)::(Nat.beq m 1,false)::(true,true)::(Nat.ble n xs.length,true)::(true,true)::(Al xs 64,c)::r
def Lb (C o:Nat) (ls:dt) (e:Bool) (r:du):du:=(true,true)::(decide ((0:Int)≤48∧(48:Int)≤(C:Int)),true)::(true,true)::(Nat.ble (o+48) ls.length,true)::(true,true)::(!decide (H3 48 (CJ ls o)=0),e)::r
def P8 (C:Nat) (b:Bool) (r:du):du:=(true,true)::(true,true)::(Nat.beq C 48,b)::(true,true)::r
section
variable (xs ls:dt) (n m C:Nat) (i:Int) (jk:Bool)
theorem AaL:AZ dr oJf (some 0) 800 1 Yo (LY xs ls n jk i [true,true,true])=some ([(decide (i<n),true),(decide (0≤i∧i<n),true),(decide (0+i.toNat*1<ls.length),true),(decide (ls.getD (0+i.toNat*1) 0=0),true),(!jk,true)],[],LY xs ls n jk (AW true .i64 (i+1)) []):=dm
theorem AaM:AU dr oJf f59 800 1 [] (LY xs ls n jk i dx)=some ([(decide (i<n),false)],[],G4 0,[]):=dm
theorem AaN:AU dr oJf f59 800 1 [] (LY xs ls n jk i eg)=some ([(decide (i<n),true),(decide (0≤i∧i<n),true),(decide (0+i.toNat*1<ls.length),true),(decide (ls.getD (0+i.toNat*1) 0=0),false)],[],G4 202,[]):=dm
theorem AaO:AU dr oJf f59 800 1 [] (LY xs ls n jk i [true,true,false])=some ([(decide (i<n),true),(decide (0≤i∧i<n),true),(decide (0+i.toNat*1<ls.length),true),(decide (ls.getD (0+i.toNat*1) 0=0),true),(!jk,false)],[],G4 202,[]):=dm
theorem AaP:AU dr oJf f59 800 1 [] (Il xs n m 1 true dz)=some ([(AK .i64 n,true),(!decide ((n:Int)=48),true)],[],G4 200,[]):=dm
theorem AaQ:AU dr oJf f59 800 1 [] (Il xs 48 m 1 true ee)=some (LZ xs true true [],[],G4 201,[]):=dm
theorem AaR:AZ dr oJf (some 0) 800 1 Yo (Il xs 48 m 1 true fi)=some (LZ xs true false (OP xs 48 m false true [(true,true)]),[],LY xs (B_ xs 47) 48 (Al xs 32) 0 []):=dm
theorem AH9:AZ dr oJf (some 0) 800 1 gV (Il xs 48 m 1 true ff)=some (LZ xs true false (OP xs 48 m false false []),[],HT xs (B_ xs 47) (Al xs 32) (.val false [.sx 2 48 1]) []):=dm
theorem AaS:AZ dr oJf (some 0) 800 1 Yo (Il xs 48 m 1 true fk)=some (LZ xs true false (OP xs 48 m true true [(true,true)]),[],LY xs (B_ xs 47) 48 (Al xs 32) 0 []):=dm
theorem AH_:AZ dr oJf (some 0) 800 1 gV (Il xs 48 m 1 true fj)=some (LZ xs true false (OP xs 48 m true false []),[],HT xs (B_ xs 47) (Al xs 32) (.val false [.sx 2 48 1]) []):=dm
theorem AaT:AU dr oJf f59 800 1 [] (Il xs n m 2 true dz)=some ([(AK .i64 n,true),(!decide ((n:Int)=96),true)],[],G4 200,[]):=dm
theorem AaU:AU dr oJf f59 800 1 [] (Il xs 96 m 2 true ee)=some (LZ xs true true [],[],G4 201,[]):=dm
theorem AaV:AZ dr oJf (some 0) 800 1 Yo (Il xs 96 m 2 true fi)=some (LZ xs true false (OP xs 96 m false true [(true,true)]),[],LY xs (B_ xs 95) 96 (Al xs 32) 0 []):=dm
theorem AH':AZ dr oJf (some 0) 800 1 gV (Il xs 96 m 2 true ff)=some (LZ xs true false (OP xs 96 m false false []),[],HT xs (B_ xs 95) (Al xs 32) (.val false [.sx 2 96 1]) []):=dm
theorem AaW:AZ dr oJf (some 0) 800 1 Yo (Il xs 96 m 2 true fk)=some (LZ xs true false (OP xs 96 m true true [(true,true)]),[],LY xs (B_ xs 95) 96 (Al xs 32) 0 []):=dm
theorem AIA:AZ dr oJf (some 0) 800 1 gV (Il xs 96 m 2 true fj)=some (LZ xs true false (OP xs 96 m true false []),[],HT xs (B_ xs 95) (Al xs 32) (.val false [.sx 2 96 1]) []):=dm
theorem AaX:AU dr oJf f59 800 1 [5] (HT xs ls jk (.val false [.sl 2 0 48 C]) [true,false,true,false])=some ((true,true)::Lb C 0 ls false (P8 C true ([(false,false)])),[],LX 1 jk,FU 1 [.num 6 (Gy 48 (CJ ls 0))]):=dm
theorem AaY:AU dr oJf f59 800 1 [5] (HT xs ls jk (.val false [.sl 2 0 48 C]) [true,false,false,false])=some ((true,true)::Lb C 0 ls false (P8 C false ([(false,false)])),[],LX 1 jk,FU 1 [.num 6 (Gy 48 (CJ ls 0))]):=dm
theorem AaZ:AU dr oJf f59 800 1 [] (HT xs ls jk (.val false [.sl 2 0 48 C]) d_)=some ((true,true)::Lb C 0 ls true [],[],G4 203,[]):=dm
theorem Aaa:AU dr oJf f59 800 1 [8] (HT xs ls jk (.val false [.sl 2 0 96 C]) fq)=some ((true,true)::Lb C 0 ls false (P8 C false (Lb (C-48) 48 ls false (P8 (C-48) true ([(false,false)])))),[],LX 2 jk,FU 2 [.num 6 (Gy 48 (CJ ls 0)),.num 6 (Gy 48 (CJ ls 48))]):=dm
theorem Aab:AU dr oJf f59 800 1 [8] (HT xs ls jk (.val false [.sl 2 0 96 C]) [true,false,false,true,false,false,false])=some ((true,true)::Lb C 0 ls false (P8 C false (Lb (C-48) 48 ls false (P8 (C-48) false ([(false,false)])))),[],LX 2 jk,FU 2 [.num 6 (Gy 48 (CJ ls 0)),.num 6 (Gy 48 (CJ ls 48))]):=dm
theorem Aac:AU dr oJf f59 800 1 [] (HT xs ls jk (.val false [.sl 2 0 96 C]) d_)=some ((true,true)::Lb C 0 ls true [],[],G4 203,[]):=dm
theorem Aad:AU dr oJf f59 800 1 [] (HT xs ls jk (.val false [.sl 2 0 96 C]) [true,false,false,true,true])=some ((true,true)::Lb C 0 ls false (P8 C false (Lb (C-48) 48 ls true [])),[],G4 203,[]):=dm
end
end
open Ex Num Rg
noncomputable section
noncomputable abbrev rdF:Func:=f59
def Ld (ls:dt) (jk:Bool):Bool:=ls.all (fun d=>decide (d=0))&&!jk
def G5 (ls:dt) (jk:Bool):Int:=if Ld ls jk=true then 0 else 202
def FH (ls:dt) (k:Nat):Bool:=(List.range k).all fun j=>decide (CJ ls (48*j)<pN)
def Im (ls:dt) (k:Nat):List Ch:=(List.range k).map fun j=>.num 6 (CJ ls (48*j))
def BU (k:Nat) (s:Bool) (l:dt):Int:=if l.length≠48*k then 200 else if Al l 128≠s then 201 else if (Al l 32&&!s)=true then 201 else if Al l 64=true then G5 (B_ l (48*k-1)) (Al l 32) else if FH (B_ l (48*k-1)) k=true then 0 else 203
def Be (k:Nat) (s:Bool) (l:dt):Bool:=decide (l.length=48*k)&&(decide (Al l 128=s)&&(!(Al l 32&&!s)&&(!Al l 64&&FH (B_ l (48*k-1)) k)))
theorem gW (xs ls:dt) (n:Nat) (jk:Bool) (i:Int) (p:List Bool):BW rdF.ntmps (LY xs ls n jk i p).s:=AR dm
theorem SH (xs ls:dt) (jk:Bool) (k n C:Nat) (p:List Bool):BW rdF.ntmps (HT xs ls jk (.val false [.sl k 0 n C]) p).s:=AR dm
theorem AIB {ls:dt} {n:Nat} (hl:ls.length=n) (h:∀ j,j<n→ls.getD j 0=0):ls.all (fun d=>decide (d=0))=true:=by
 rw [nj];intro d hd;obtain ⟨j,hj⟩:=List.getElem?_of_mem hd
 have jb:=(ug.1 hj).1
 have:=h j dn
 rw [kq,hj] at this;exact jm this
theorem AIC {ls:dt} {j:Nat} (hj:j<ls.length) (h:ls.all (fun d=>decide (d=0))=true):ls.getD j 0=0:=by
 rw [nj] at h;rw [kq,nh hj];exact kj (h _ (List.getElem_mem hj))
section
variable {xs ls:dt} {n:Nat} {jk:Bool} (hl:ls.length=n) (hn:0<n) (hm:n≤1000) {β0:Env} {w0:gn} (hb:∀ b,1≤b→β0 b=none)
include hl hn hm hb
theorem gZ:∀ c i:Nat,i+c=n→(∀ j,j<i→ls.getD j 0=0)→(0<i→jk=false)→gz dr 59 β0 w0 (BA β0 w0 [] (G4 (G5 ls jk)) []) rdF.ntmps [] (LY xs ls n jk (i:Nat) []):=by
 intro c;induction c with
 | zero =>
  intro i hi hz hbig;have hin:i=n:=dn
  subst hin;have e:G5 ls jk=0:=by
   unfold G5 Ld;rw [AIB hl hz,hbig hn];rfl
  rw [e];exact Ai dx (A6 Ey AB func59 (AaM xs ls i (i:Nat) jk) ⟨jq dn,trivial⟩ (gW ..) hb jl)
 | succ c ih =>
  intro i hi hz hbig;have c1:decide (((i:Nat):Int)<(n:Int))=true:=jm dn
  have c2:decide (0≤((i:Nat):Int)∧((i:Nat):Int)<(n:Int))=true:=jm dn
  have c3:decide (0+((i:Nat):Int).toNat*1<ls.length)=true:=jm dn
  have ei:0+((i:Nat):Int).toNat*1=i:=dn
  by_cases h0:ls.getD i 0=0
  ·cases hq:jk with
   | true =>
    have e:G5 ls jk=202:=by
     unfold G5 Ld;rw [hq,pu,ny,jn kb]
    rw [← hq,e];exact Ai [true,true,false] (A6 Ey AB func59 (AaO xs ls n (i:Nat) jk) ⟨c1,c2,c3,jm (by rw [ei];exact h0),by rw [hq];rfl,trivial⟩ (gW ..) hb jl)
   | false =>
    rw [← hq];refine Ai [true,true,true] (Aj Ey AB (AaL xs ls n (i:Nat) jk) ⟨c1,c2,c3,jm (by rw [ei];exact h0),by rw [hq];rfl,trivial⟩ (gW ..) hb jl fun _=>?_)
    rw [Xk true dn,show ((i:Nat):Int)+1=((i+1:Nat):Int) from rfl]
    refine ih (i+1) dn (fun j hj=>?_) (fun _=>hq)
    rcases kf j i with q | q
    ·exact hz j q
    ·rw [show j=i by omega];exact h0
  ·have e:G5 ls jk=202:=by
    unfold G5 Ld;cases ha:ls.all (fun d=>decide (d=0)) with
    | true=>exact absurd (AIC dn ha) h0
    | false=>rw [oy,jn kb]
   rw [e];exact Ai eg (A6 Ey AB func59 (AaN xs ls n (i:Nat) jk) ⟨c1,c2,c3,jq (by rw [ei];exact h0),trivial⟩ (gW ..) hb jl)
end
theorem Le {N:Nat} (h:N<pN):(!decide (H3 48 N=0))=false:=by unfold H3;rw [jo rfl,jo h];rfl
theorem VR {N:Nat} (h:¬ N<pN):(!decide (H3 48 N=0))=true:=by unfold H3;rw [jo rfl,jn h];rfl
theorem OQ {N:Nat} (h:N<pN):Gy 48 N=N:=jo ⟨rfl,h⟩
theorem M5 {C o:Nat} {ls:dt} {e:Bool} {r:du} (h1:48≤C) (h2:o+48≤ls.length) (h3:(!decide (H3 48 (CJ ls o)=0))=e) (hr:AM r):AM (Lb C o ls e r) :=
 ⟨rfl,jm ⟨dp,dn⟩,rfl,jr h2,rfl,h3,hr⟩
theorem SI {C:Nat} {b:Bool} {r:du} (h:Nat.beq C 48=b) (hr:AM r):AM (P8 C b r):=⟨rfl,rfl,h,rfl,hr⟩
theorem xG {a:Nat} (h:a≠48):Nat.beq a 48=false:=by
 cases hq:Nat.beq a 48 with
 | false=>rfl
 | true=>exact absurd (nf hq) h
section
variable {xs ls:dt} {jk:Bool} {C:Nat} {β0:Env} {w0:gn} (hb:∀ b,1≤b→β0 b=none)
include hb
theorem AID (hC:48≤C) (hl:ls.length=48) (h0:CJ ls 0<pN):gz dr 59 β0 w0 (BA β0 w0 [] (LX 1 jk) (FU 1 (Im ls 1))) rdF.ntmps [] (HT xs ls jk (.val false [.sl 2 0 48 C]) []):=by
 cases hq:Nat.beq C 48 with
 | true =>
  have t:=AaX xs ls C jk;rw [OQ h0] at t;exact Ai [true,false,true,false] (A6 Ey AB func59 t ⟨rfl,M5 dn dn (Le h0) (SI hq (⟨rfl,trivial⟩))⟩ (SH ..) hb jl)
 | false =>
  have t:=AaY xs ls C jk;rw [OQ h0] at t;exact Ai [true,false,false,false] (A6 Ey AB func59 t ⟨rfl,M5 dn dn (Le h0) (SI hq (⟨rfl,trivial⟩))⟩ (SH ..) hb jl)
theorem AIE (hC:48≤C) (hl:ls.length=48) (h:FH ls 1=false):gz dr 59 β0 w0 (BA β0 w0 [] (G4 203) []) rdF.ntmps [] (HT xs ls jk (.val false [.sl 2 0 48 C]) []):=by
 by_cases h0:CJ ls 0<pN;case neg=>exact Ai d_ (A6 Ey AB func59 (AaZ xs ls C jk) ⟨rfl,M5 dn dn (VR h0) trivial⟩ (SH ..) hb jl)
 have:FH ls 1=true:=by
  show (decide (CJ ls 0<pN)&&true)=true;rw [jm h0];rfl
 rw [this] at h;cases h
theorem AIF (hC:96≤C) (hl:ls.length=96) (h0:CJ ls 0<pN) (h1:CJ ls 48<pN):gz dr 59 β0 w0 (BA β0 w0 [] (LX 2 jk) (FU 2 (Im ls 2))) rdF.ntmps [] (HT xs ls jk (.val false [.sl 2 0 96 C]) []):=by
 cases hq:Nat.beq (C-48) 48 with
 | true =>
  have t:=Aaa xs ls C jk;rw [OQ h0,OQ h1] at t;exact Ai fq (A6 Ey AB func59 t ⟨rfl,M5 dn dn (Le h0) (SI (xG dn) (M5 dn dn (Le h1) (SI hq (⟨rfl,trivial⟩))))⟩ (SH ..) hb jl)
 | false =>
  have t:=Aab xs ls C jk;rw [OQ h0,OQ h1] at t;exact Ai [true,false,false,true,false,false,false] (A6 Ey AB func59 t ⟨rfl,M5 dn dn (Le h0) (SI (xG dn) (M5 dn dn (Le h1) (SI hq (⟨rfl,trivial⟩))))⟩ (SH ..) hb jl)
theorem AIG (hC:96≤C) (hl:ls.length=96) (h:FH ls 2=false):gz dr 59 β0 w0 (BA β0 w0 [] (G4 203) []) rdF.ntmps [] (HT xs ls jk (.val false [.sl 2 0 96 C]) []):=by
 by_cases h0:CJ ls 0<pN;case neg=>exact Ai d_ (A6 Ey AB func59 (Aac xs ls C jk) ⟨rfl,M5 dn dn (VR h0) trivial⟩ (SH ..) hb jl)
 by_cases h1:CJ ls 48<pN;case neg=>exact Ai [true,false,false,true,true] (A6 Ey AB func59 (Aad xs ls C jk) ⟨rfl,M5 dn dn (Le h0) (SI (xG dn) (M5 dn dn (VR h1) trivial))⟩ (SH ..) hb jl)
 have:FH ls 2=true:=by
  show (decide (CJ ls 0<pN)&&(decide (CJ ls 48<pN)&&true))=true;rw [jm h0,jm h1];rfl
 rw [this] at h;cases h
end
theorem M6 {ls:dt} {k:Nat} (h:FH ls k=true) (j:Nat) (hj:j<k):CJ ls (48*j)<pN:=by
 unfold FH at h;rw [nj] at h;exact kj (h j (mj.2 hj))
theorem DI {xs:dt} {n:Nat} (hn:0<n) (k:Int):Al (AA xs 0 n) k=Al xs k:=by
 unfold Al AA;rw [qf,kq,kq,rx hn]
theorem P9 {xs:dt} {n:Nat} (hn:0<n):B_ (AA xs 0 n) (n-1)=B_ xs (n-1):=by
 unfold B_ AA;rw [qf,kq,kq,rx hn,List.drop_take,List.take_take,Nat.min_self]
theorem OR {xs:dt} {k:Nat} (h:k<xs.length):(B_ xs k).length=k+1:=by
 unfold B_;simp;omega
theorem KM {xs:dt} {n:Nat} (h:n≤xs.length):(AA xs 0 n).length=n:=by
 unfold AA;simp;omega
theorem In {xs:dt} {s b:Bool} {r:du} (h:0<xs.length) (hs:(!(Al xs 128==s))=b) (hr:AM r):AM (LZ xs s b r):=by
 have e:=jm h;exact ⟨rfl,rfl,rfl,e,rfl,e,rfl,e,hs,hr⟩
theorem KN {xs:dt} {n m:Nat} {b c:Bool} {r:du} (h:0<xs.length) (hn:n≤xs.length) (hm:1<m) (h1:Al xs 32=b) (h2:Al xs 64=c) (hr:AM r):AM (OP xs n m b c r):=by
 have e:=jm h;refine ⟨h1,rfl,e,rfl,?_,rfl,jr hn,rfl,h2,hr⟩
 cases hq:Nat.beq m 1 with
 | false=>rfl
 | true=>have:=nf hq;omega
theorem Aae {xs:dt} {n m:Nat} (hl:n≤xs.length) (hm:n≤m) (hn:AK .i64 n=true) (hr:Be 1 true (AA xs 0 n)=false):Ab dr 59 (OO n m 1 true) (A7 xs) 1 [] (G4 (BU 1 true (AA xs 0 n))) []:=by
 by_cases hk:n=48;case neg =>
  have e:BU 1 true (AA xs 0 n)=200:=by unfold BU;rw [KM hl,jo hk]
  rw [e];exact Bf M3 Co func59 dm dm (AaP xs n m) dm ⟨hn,by rw [jq dn];rfl,trivial⟩
 subst hk;have hx:0<xs.length:=dn
 have hw:=KM hl;have er:=P9 (xs:=xs) (n:=48) dp
 have elen:=OR (xs:=xs) (k:=47) dn
 unfold BU Be at *
 rw [DI dp,DI dp,DI dp,er,hw,jm rfl,lg] at hr;rw [DI dp,DI dp,DI dp,er,hw,jn (fun h=>h rfl)]
 by_cases f1:Al xs 128=true;case neg =>
  rw [jo f1];exact Bf M3 Co func59 dm dm (AaQ xs m) dm (In hx (by cases hq:Al xs 128<;>first | rfl | exact absurd hq f1) trivial)
 rw [jn (fun h=>h f1)]
 rw [jm f1,lg] at hr;have p0:(!(Al xs 128==true))=false:=by rw [f1];rfl
 rw [jn (fun h=>by rw [pu,ny] at h;cases h)]
 rw [pu,ny,qw,lg] at hr;cases f2:Al xs 32
 case false =>
  cases f3:Al xs 64 with
  | true =>
   rw [jo rfl];refine A_ (ie:=fi) func59 dm dm fun β0 w0 hb=>?_
   have t:=AaR xs m;rw [f2] at t;exact Aj Ey AB t (In hx p0 (KN hx hl dn f2 f3 ⟨rfl,trivial⟩)) (AR dm) hb jl fun _=>gZ elen dp dp hb 48 0 dp (fun j hj=>absurd hj (pf j)) (fun h=>absurd h (ri 0))
  | false =>
   rw [f3] at hr;have hr':FH (B_ xs 47) 1=false:=hr
   rw [jn kb,jn (by rw [hr'];exact kb)]
   refine A_ (ie:=ff) func59 dm dm fun β0 w0 hb=>?_
   exact Aj Ey AB (AH9 xs m) (In hx p0 (KN hx hl dn f2 f3 trivial)) (AR dm) hb jl fun _=>KL fun C hC=>AIE hb hC elen hr'
 case true =>
  cases f3:Al xs 64 with
  | true =>
   rw [jo rfl];refine A_ (ie:=fk) func59 dm dm fun β0 w0 hb=>?_
   have t:=AaS xs m;rw [f2] at t;exact Aj Ey AB t (In hx p0 (KN hx hl dn f2 f3 ⟨rfl,trivial⟩)) (AR dm) hb jl fun _=>gZ elen dp dp hb 48 0 dp (fun j hj=>absurd hj (pf j)) (fun h=>absurd h (ri 0))
  | false =>
   rw [f3] at hr;have hr':FH (B_ xs 47) 1=false:=hr
   rw [jn kb,jn (by rw [hr'];exact kb)]
   refine A_ (ie:=fj) func59 dm dm fun β0 w0 hb=>?_
   exact Aj Ey AB (AH_ xs m) (In hx p0 (KN hx hl dn f2 f3 trivial)) (AR dm) hb jl fun _=>KL fun C hC=>AIE hb hC elen hr'
theorem Aaf {xs:dt} {n m:Nat} (hl:n≤xs.length) (hm:n≤m) (hr:Be 1 true (AA xs 0 n)=true):Ab dr 59 (OO n m 1 true) (A7 xs) 1 [] (LX 1 (Al (AA xs 0 n) 32)) (FU 1 (Im (B_ (AA xs 0 n) 47) 1)):=by
 unfold Be at hr;simp only [jx,jt] at hr;obtain ⟨hk,f1,f2,f3,h4⟩:=hr;rw [KM hl] at hk;have hk':n=48:=hk
 subst hk';have hx:0<xs.length:=dn
 have er:=P9 (xs:=xs) (n:=48) dp
 have elen:=OR (xs:=xs) (k:=47) dn
 rw [DI dp] at f1 f2 f3;rw [er] at h4;rw [DI dp,er];have p0:(!(Al xs 128==true))=false:=by rw [f1];rfl
 have f3':Al xs 64=false:=by cases hq:Al xs 64 with | false=>rfl | true=>rw [hq] at f3;cases f3
 cases f4:Al xs 32
 case false =>
  refine A_ (ie:=ff) func59 dm dm fun β0 w0 hb=>?_
  have t:=AH9 xs m;rw [f4] at t;exact Aj Ey AB t (In hx p0 (KN hx hl dn f4 f3' trivial)) (AR dm) hb jl fun _=>KL fun C hC=>AID hb hC elen (M6 h4 0 dp)
 case true =>
  refine A_ (ie:=fj) func59 dm dm fun β0 w0 hb=>?_
  have t:=AH_ xs m;rw [f4] at t;exact Aj Ey AB t (In hx p0 (KN hx hl dn f4 f3' trivial)) (AR dm) hb jl fun _=>KL fun C hC=>AID hb hC elen (M6 h4 0 dp)
theorem Aag {xs:dt} {n m:Nat} (hl:n≤xs.length) (hm:n≤m) (hn:AK .i64 n=true) (hr:Be 2 true (AA xs 0 n)=false):Ab dr 59 (OO n m 2 true) (A7 xs) 1 [] (G4 (BU 2 true (AA xs 0 n))) []:=by
 by_cases hk:n=96;case neg =>
  have e:BU 2 true (AA xs 0 n)=200:=by unfold BU;rw [KM hl,jo hk]
  rw [e];exact Bf M3 Co func59 dm dm (AaT xs n m) dm ⟨hn,by rw [jq dn];rfl,trivial⟩
 subst hk;have hx:0<xs.length:=dn
 have hw:=KM hl;have er:=P9 (xs:=xs) (n:=96) dp
 have elen:=OR (xs:=xs) (k:=95) dn
 unfold BU Be at *
 rw [DI dp,DI dp,DI dp,er,hw,jm rfl,lg] at hr;rw [DI dp,DI dp,DI dp,er,hw,jn (fun h=>h rfl)]
 by_cases f1:Al xs 128=true;case neg =>
  rw [jo f1];exact Bf M3 Co func59 dm dm (AaU xs m) dm (In hx (by cases hq:Al xs 128<;>first | rfl | exact absurd hq f1) trivial)
 rw [jn (fun h=>h f1)]
 rw [jm f1,lg] at hr;have p0:(!(Al xs 128==true))=false:=by rw [f1];rfl
 rw [jn (fun h=>by rw [pu,ny] at h;cases h)]
 rw [pu,ny,qw,lg] at hr;cases f2:Al xs 32
 case false =>
  cases f3:Al xs 64 with
  | true =>
   rw [jo rfl];refine A_ (ie:=fi) func59 dm dm fun β0 w0 hb=>?_
   have t:=AaV xs m;rw [f2] at t;exact Aj Ey AB t (In hx p0 (KN hx hl dn f2 f3 ⟨rfl,trivial⟩)) (AR dm) hb jl fun _=>gZ elen dp dp hb 96 0 dp (fun j hj=>absurd hj (pf j)) (fun h=>absurd h (ri 0))
  | false =>
   rw [f3] at hr;have hr':FH (B_ xs 95) 2=false:=hr
   rw [jn kb,jn (by rw [hr'];exact kb)]
   refine A_ (ie:=ff) func59 dm dm fun β0 w0 hb=>?_
   exact Aj Ey AB (AH' xs m) (In hx p0 (KN hx hl dn f2 f3 trivial)) (AR dm) hb jl fun _=>KL fun C hC=>AIG hb hC elen hr'
 case true =>
  cases f3:Al xs 64 with
  | true =>
   rw [jo rfl];refine A_ (ie:=fk) func59 dm dm fun β0 w0 hb=>?_
   have t:=AaW xs m;rw [f2] at t;exact Aj Ey AB t (In hx p0 (KN hx hl dn f2 f3 ⟨rfl,trivial⟩)) (AR dm) hb jl fun _=>gZ elen dp dp hb 96 0 dp (fun j hj=>absurd hj (pf j)) (fun h=>absurd h (ri 0))
  | false =>
   rw [f3] at hr;have hr':FH (B_ xs 95) 2=false:=hr
   rw [jn kb,jn (by rw [hr'];exact kb)]
   refine A_ (ie:=fj) func59 dm dm fun β0 w0 hb=>?_
   exact Aj Ey AB (AIA xs m) (In hx p0 (KN hx hl dn f2 f3 trivial)) (AR dm) hb jl fun _=>KL fun C hC=>AIG hb hC elen hr'
theorem Aah {xs:dt} {n m:Nat} (hl:n≤xs.length) (hm:n≤m) (hr:Be 2 true (AA xs 0 n)=true):Ab dr 59 (OO n m 2 true) (A7 xs) 1 [] (LX 2 (Al (AA xs 0 n) 32)) (FU 2 (Im (B_ (AA xs 0 n) 95) 2)):=by
 unfold Be at hr;simp only [jx,jt] at hr;obtain ⟨hk,f1,f2,f3,h4⟩:=hr;rw [KM hl] at hk;have hk':n=96:=hk
 subst hk';have hx:0<xs.length:=dn
 have er:=P9 (xs:=xs) (n:=96) dp
 have elen:=OR (xs:=xs) (k:=95) dn
 rw [DI dp] at f1 f2 f3;rw [er] at h4;rw [DI dp,er];have p0:(!(Al xs 128==true))=false:=by rw [f1];rfl
 have f3':Al xs 64=false:=by cases hq:Al xs 64 with | false=>rfl | true=>rw [hq] at f3;cases f3
 cases f4:Al xs 32
 case false =>
  refine A_ (ie:=ff) func59 dm dm fun β0 w0 hb=>?_
  have t:=AH' xs m;rw [f4] at t;exact Aj Ey AB t (In hx p0 (KN hx hl dn f4 f3' trivial)) (AR dm) hb jl fun _=>KL fun C hC=>AIF hb hC elen (M6 h4 0 dp) (M6 h4 1 dp)
 case true =>
  refine A_ (ie:=fj) func59 dm dm fun β0 w0 hb=>?_
  have t:=AIA xs m;rw [f4] at t;exact Aj Ey AB t (In hx p0 (KN hx hl dn f4 f3' trivial)) (AR dm) hb jl fun _=>KL fun C hC=>AIF hb hC elen (M6 h4 0 dp) (M6 h4 1 dp)
end
def Io:AV→Option (Nat×Nat×Nat)
 | .val false [.sl k 0 n m]=>some (k,n,m)
 | .val false [.sx k n _]=>some (k,n,n)
 | _=>none
theorem KO {β:Env} {A:AV} {k n m:Nat} {u:gq} (h:Io A=some (k,n,m)) (hm:n≤m) (hr:AO β A u):∃ m',n≤m'∧AO β (AQ k 0 n m') u:=by
 unfold Io at h;split at h
 ·injection h with h;injection h with h1 h;injection h with h2 h3;subst h1;subst h2;subst h3;exact ⟨_,hm,hr⟩
 ·injection h with h;injection h with h1 h;injection h with h2 h3;subst h1;subst h2;subst h3;obtain ⟨l1,l2,h1,h2,h3⟩:=hr;rcases h1 with ⟨B,q,cap,q1,q2,q3,q4⟩ | ⟨q1,q2,q3⟩
  ·exact ⟨cap,q3,l1,l2,.inl ⟨B,(q,0),q1,by rw [q2]⟩,h2,h3⟩
  ·subst q2;exact ⟨0,ju _,l1,l2,.inr (.inl ⟨q1,rfl,rfl,rfl,q3⟩),h2,h3⟩
 ·cases h
def SJ (h:Int) (s:Bool):Option Nat:=if h=1 then (match s with | true=>some 1 | false=>none) else if h=2 then (match s with | true=>some 2 | false=>none) else none
theorem Aai {h:Int} {s:Bool} {K:Nat} (hK:SJ h s=some K) {xs:dt} {n m:Nat} (hl:n≤xs.length) (hm:n≤m) (hn:AK .i64 n=true) (hr:Be K s (AA xs 0 n)=false):Ab dr 59 (OO n m h s) (A7 xs) 1 [] (G4 (BU K s (AA xs 0 n))) []:=by
 unfold SJ at hK;split at hK
 ·rename_i e;subst e;cases s
  ·cases hK
  ·injection hK with hK;subst hK;exact Aae hl hm hn hr
 ·split at hK
  ·rename_i e;subst e;cases s
   ·cases hK
   ·injection hK with hK;subst hK;exact Aag hl hm hn hr
  ·cases hK
theorem Aaj {h:Int} {s:Bool} {K:Nat} (hK:SJ h s=some K) {xs:dt} {n m:Nat} (hl:n≤xs.length) (hm:n≤m) (hr:Be K s (AA xs 0 n)=true):Ab dr 59 (OO n m h s) (A7 xs) 1 [] (LX K (Al (AA xs 0 n) 32)) (FU K (Im (B_ (AA xs 0 n) (48*K-1)) K)):=by
 unfold SJ at hK;split at hK
 ·rename_i e;subst e;cases s
  ·cases hK
  ·injection hK with hK;subst hK;exact Aaf hl hm hr
 ·split at hK
  ·rename_i e;subst e;cases s
   ·cases hK
   ·injection hK with hK;subst hK;exact Aah hl hm hr
  ·cases hK
def AIH (e:Int):AV:=.tup [(false,[.v (.slice none 0 0)]),(false,[.b false]),(false,[.v (.int .i64 e)])]
theorem Aak {β β':Env} {g g' g'':Bool} {a a' b b' c c':List Ch} {u:gq} (h1:∀ v,Bt β g a v→Bt β' g a' v) (h2:∀ v,Bt β g' b v→Bt β' g' b' v) (h3:∀ v,Bt β g'' c v→Bt β' g'' c' v) (h:AO β (.tup [(g,a),(g',b),(g'',c)]) u):AO β' (.tup [(g,a'),(g',b'),(g'',c')]) u:=by
 obtain ⟨us,⟨u1,l1,q1,⟨u2,l2,q2,⟨u3,l3,q3,q4,q5⟩,q6⟩,q7⟩,q8⟩:=h;exact ⟨us,⟨u1,l1,h1 _ q1,⟨u2,l2,h2 _ q2,⟨u3,l3,h3 _ q3,q4,q5⟩,q6⟩,q7⟩,q8⟩
theorem Aal {β:Env} {e:Int} {u:gq} (h:AO β (G4 e) u):AO β (AIH e) u:=Aak (fun _ q=>q) (fun _ q=>q) (fun _ q=>EM rfl q) h
def g5 (n m:Nat) (xs:dt) (b d:Bool):du:=[(Nat.ble n xs.length,true),(Nat.ble n m,true),(AK .i64 n,true),(b,d)]
noncomputable def rdSp:ASpec:=fun args H fr ie=>match args with
 | [S,.val false [.n .i64 h],B]=>match Io S,FY (some B) with
  | some (k,n,m),some (_,s)=>match AF H k,SJ h s with
   | some ⟨_,cs,_⟩,some K=>match A' .u8 cs,ie with
    | some xs,true::ij=>some (BP [k] 1 fr 0 [] (AIH (BU K s (AA xs 0 n))) [] (g5 n m xs (Be K s (AA xs 0 n)) false) ij)
    | some xs,false::ij=>some (BP [k] 1 fr (3*K+2) [] (LX K (Al (AA xs 0 n) 32)) (FU K (Im (B_ (AA xs 0 n) (48*K-1)) K)) (g5 n m xs (Be K s (AA xs 0 n)) true) ij)
    | _,_=>none
   | _,_=>none
  | _,_=>none
 | _=>none
theorem Aam {h:Int} {s:Bool} {K:Nat} (hK:SJ h s=some K):K=1∨K=2:=by
 unfold SJ at hK;split at hK
 ·cases s
  ·cases hK
  ·injection hK with hK;omega
 ·split at hK
  ·cases s
   ·cases hK
   ·injection hK with hK;omega
  ·cases hK
theorem Aan {K:Nat} (h:K=1∨K=2) (b:Bool) (l:dt):EJ 1 (3*K+2) [] (LX K b) (FU K (Im l K))=true:=by
 rcases h with rfl | rfl<;>kernel_rfl
theorem Aao:BI dr 59 rdSp:=by
 refine DN func59 dm dm fun args H fr ie r hs=>?_
 unfold rdSp at hs;split at hs;case h_2=>cases hs
 rename_i S h B;split at hs;case h_2=>cases hs
 rename_i k n m c s hS hB;split at hs;case h_2=>cases hs
 rename_i ty cs o K hk' hK;split at hs;case h_3=>cases hs
 all_goals
  rename_i xs ij jh;injection hs with hs
 ·refine ⟨[k],1,0,[],_,_,_,ij,hs.symm,fun β us w ha hg hc=>?_⟩
  obtain ⟨u1,jf,r1,⟨u2,jg,r2,⟨u3,us3,r3,ha,rfl⟩,rfl⟩,rfl⟩:=ha;obtain ⟨hl,hm,hn,hr,_⟩:=hc;obtain ⟨m',hm',r1⟩:=KO hS (jp hm) r1
  obtain ⟨g1,g2,g3⟩:=EP hg hk' jh;exact ⟨OO n m' h s,A7 xs,BN (Aai hK (jp hl) hm' hn hr) fun _ _ q=>Aal q,dm,⟨u1,_,CV dn rfl r1,⟨u2,_,r2,⟨u3,us3,SF hB r3,ha,rfl⟩,rfl⟩,rfl⟩,g2,g3⟩
 ·refine ⟨[k],1,3*K+2,[],_,_,_,ij,hs.symm,fun β us w ha hg hc=>?_⟩
  obtain ⟨u1,jf,r1,⟨u2,jg,r2,⟨u3,us3,r3,ha,rfl⟩,rfl⟩,rfl⟩:=ha;obtain ⟨hl,hm,hn,hr,_⟩:=hc;obtain ⟨m',hm',r1⟩:=KO hS (jp hm) r1
  obtain ⟨g1,g2,g3⟩:=EP hg hk' jh;exact ⟨OO n m' h s,A7 xs,Aaj hK (jp hl) hm' hr,Aan (Aam hK) _ _,⟨u1,_,CV dn rfl r1,⟨u2,_,r2,⟨u3,us3,SF hB r3,ha,rfl⟩,rfl⟩,rfl⟩,g2,g3⟩
abbrev fo:List Bool:=[false,false,true,true]
open Ex Num Rg
open Sh (R av rd mo en mo_en)
set_option maxRecDepth 100000
set_option maxHeartbeats 4000000
noncomputable def SJi:dw:=(59,rdSp)::SJg
theorem VS:AX dr SJi:=⟨Aao,AZt⟩
noncomputable abbrev Lf:ia:=AG SJi KH
def HU (n m:Nat) (xs:dt) (b d:Bool) (r:du):du:=(Nat.ble n xs.length,true)::(Nat.ble n m,true)::(AK .i64 n,true)::(b,d)::r
def Ip (n m:Nat) (s:Bool):List AV:=[AQ 0 0 n m,.val false [.b s]]
noncomputable def xN (K j:Nat) (L:dt):Nat:=CJ (B_ L (48*K-1)) (48*j)
noncomputable def yR (x:Nat):Nat:=D4 (ad FP (mu FP (mu FP x x) x) (4:Nat))
noncomputable def yB (x:Nat) (b:Bool):Nat:=if (!(BG (yR x)==b))=true then ng FP (yR x) else yR x
def dE (e:Int):AV:=.tup [(true,FR false),(false,[.n .i64 e])]
def dP (x y:Nat):AV:=.tup [(true,[.num 6 x,.num 6 y,.b false]),(false,[.n .i64 0])]
section
variable (n m:Nat) (xs:dt)
noncomputable def Lh (s:Bool) (p:List Bool):h_:=Ak f28 (Ip n m s) (A7 xs) 1 p
theorem Aap:AU dr Lf f28 800 1 [] (Lh n m xs true d_)=some (HU n m xs (Be 1 true (AA xs 0 n)) false [(!decide (BU 1 true (AA xs 0 n)=0),true)],[],.tup [(true,FR false),(false,[.v (.int .i64 (BU 1 true (AA xs 0 n)))])],[]):=dm
theorem Aaq:AU dr Lf f28 800 1 [] (Lh n m xs true ew)=some (HU n m xs (Be 1 true (AA xs 0 n)) false ((!decide (BU 1 true (AA xs 0 n)=0),false)::tt 2 []),[],.tup [(true,FR true),(false,[.n .i64 0])],[]):=dm
noncomputable def P_ (b:Bool) (r:du):du:=HU n m xs (Be 1 true (AA xs 0 n)) true ((true,true)::(false,false)::(true,true)::(!(BG (yR (xN 1 0 (AA xs 0 n)))==Al (AA xs 0 n) 32),b)::r)
theorem Aar:AU dr Lf f28 800 1 [] (Lh n m xs true fo)=some (P_ n m xs true [(!BH (AL (xN 1 0 (AA xs 0 n)) (ng FP (yR (xN 1 0 (AA xs 0 n)))) false),true)],[],dE 204,[]):=dm
theorem Aas:AU dr Lf f28 800 1 [] (Lh n m xs true fk)=some (P_ n m xs true [(!BH (AL (xN 1 0 (AA xs 0 n)) (ng FP (yR (xN 1 0 (AA xs 0 n)))) false),false),(!A2 (AL (xN 1 0 (AA xs 0 n)) (ng FP (yR (xN 1 0 (AA xs 0 n)))) false),true)],[],dE 205,[]):=dm
theorem Aat:AU dr Lf f28 800 1 [] (Lh n m xs true fj)=some (P_ n m xs true [(!BH (AL (xN 1 0 (AA xs 0 n)) (ng FP (yR (xN 1 0 (AA xs 0 n)))) false),false),(!A2 (AL (xN 1 0 (AA xs 0 n)) (ng FP (yR (xN 1 0 (AA xs 0 n)))) false),false)],[],dP (xN 1 0 (AA xs 0 n)) (ng FP (yR (xN 1 0 (AA xs 0 n)))),[]):=dm
theorem Aau:AU dr Lf f28 800 1 [] (Lh n m xs true eq)=some (P_ n m xs false [(!BH (AL (xN 1 0 (AA xs 0 n)) (yR (xN 1 0 (AA xs 0 n))) false),true)],[],dE 204,[]):=dm
theorem Aav:AU dr Lf f28 800 1 [] (Lh n m xs true fi)=some (P_ n m xs false [(!BH (AL (xN 1 0 (AA xs 0 n)) (yR (xN 1 0 (AA xs 0 n))) false),false),(!A2 (AL (xN 1 0 (AA xs 0 n)) (yR (xN 1 0 (AA xs 0 n))) false),true)],[],dE 205,[]):=dm
theorem Aaw:AU dr Lf f28 800 1 [] (Lh n m xs true ff)=some (P_ n m xs false [(!BH (AL (xN 1 0 (AA xs 0 n)) (yR (xN 1 0 (AA xs 0 n))) false),false),(!A2 (AL (xN 1 0 (AA xs 0 n)) (yR (xN 1 0 (AA xs 0 n))) false),false)],[],dP (xN 1 0 (AA xs 0 n)) (yR (xN 1 0 (AA xs 0 n))),[]):=dm
end
noncomputable def P' (p:Pt FP):Pt FP×Int:=if BH p=true then (if A2 p=true then (p,0) else (.pt 0 0,205)) else (.pt 0 0,204)
noncomputable def JR (s:Bool) (L:dt):Pt FP:=match s with
 | true=>AL (xN 1 0 L) (yB (xN 1 0 L) (Al L 32)) false
 | false=>AL (xN 2 0 L) (xN 2 1 L) false
def kS (s:Bool):Nat:=match s with | true=>1 | false=>2
noncomputable def EQ (s:Bool) (L:dt):Pt FP×Int:=if Be (kS s) s L=true then P' (JR s L) else if BU (kS s) s L=0 then (.inf,0) else (.pt 0 0,BU (kS s) s L)
noncomputable def FI (q:Pt FP×Int):AV:=Mw q.1 q.2
theorem Yp {β:Env} {e:Int} {u:gq} (h:AO β (dE e) u):AO β (FI (.pt 0 0,e)) u:=CQ (fun _ q=>(G1 (x:=0) (y:=0) (i:=false) dm q).1) (fun _ q=>EM rfl q) h
theorem AII {β:Env} {x y:Nat} (hx:x<pN) (hy:y<pN) {u:gq} (h:AO β (dP x y) u):AO β (FI (AL x y false,0)) u:=by
 have e:FI (AL x y false,0)=.tup [(true,[.num 6 x,.num 6 y,.v (.bool false)]),(false,[.v (.int .i64 0)])]:=by
  show Mw (.pt (tf x) (tf y)) 0=_;show AV.tup [(true,[Ch.num 6 (tf x).val,Ch.num 6 (tf y).val,Ch.v (.bool false)]),(false,[Ch.v (.int .i64 0)])]=_;rw [HO hx,HO hy]
 rw [e];exact CQ (fun _ q=>(G1 (x:=x) (y:=y) (i:=false) rfl q).1) (fun _ q=>EM rfl q) h
theorem AIJ {n m:Nat} {xs:dt} {s:Bool} {x y:Nat} (hx:x<pN) (hy:y<pN) {C:du→du} (hC:∀ r,AM r→AM (C r)) {p1 p2 p3:List Bool}
  (h1:AU dr Lf f28 800 1 [] (Lh n m xs s p1)=some (C [(!BH (AL x y false),true)],[],dE 204,[]))
  (h2:AU dr Lf f28 800 1 [] (Lh n m xs s p2)=some (C [(!BH (AL x y false),false),(!A2 (AL x y false),true)],[],dE 205,[]))
  (h3:AU dr Lf f28 800 1 [] (Lh n m xs s p3)=some (C [(!BH (AL x y false),false),(!A2 (AL x y false),false)],[],dP x y,[])) :
  Ab dr 28 (Ip n m s) (A7 xs) 1 [] (FI (P' (AL x y false))) []:=by
 unfold P';cases ho:BH (AL x y false) with
 | false =>
  rw [jn kb];exact BN (Bf VS Co func28 dm dm h1 dm (hC _ ⟨by rw [ho];rfl,trivial⟩)) fun _ _ q=>Yp q
 | true =>
  rw [jo rfl];cases hi:A2 (AL x y false) with
  | false =>
   rw [jn kb];exact BN (Bf VS Co func28 dm dm h2 dm (hC _ ⟨by rw [ho];rfl,by rw [hi];rfl,trivial⟩)) fun _ _ q=>Yp q
  | true =>
   rw [jo rfl];exact BN (Bf VS Co func28 dm dm h3 dm (hC _ ⟨by rw [ho];rfl,by rw [hi];rfl,trivial⟩)) fun _ _ q=>AII hx hy q
theorem H7 {K:Nat} {s:Bool} {L:dt} (h:Be K s L=true) (j:Nat) (hj:j<K):xN K j L<pN:=by
 unfold Be at h;simp only [jx] at h;exact M6 h.2.2.2.2 j hj
theorem Yq (x:Nat):yR x<pN:=by
 unfold yR;generalize (ad FP (mu FP (mu FP x x) x) (4:Nat))=a
 by_cases h:CX a=true
 ·exact (s6 h).2.2
 ·unfold D4;rw [jn h];exact C6
theorem xH (x:Nat):Nat.lt (ng FP x) pN:=(-(tf x)).isLt
theorem g7 {e:Int} (h:¬ e=0):(!decide (e=0))=true:=by rw [jq h];rfl
theorem AIK {e:Int} (h:e=0):(!decide (e=0))=false:=by rw [jm h];rfl
theorem Aax {β:Env} {u:gq} (h:AO β (.tup [(true,FR true),(false,[.n .i64 0])]) u):AO β (FI (.inf,0)) u:=CQ (fun _ q=>(G1 (x:=0) (y:=0) (i:=true) dm q).1) (fun _ q=>EM rfl q) h
theorem Aay {β:Env} {e:Int} {u:gq} (h:AO β (.tup [(true,FR false),(false,[.v (.int .i64 e)])]) u):AO β (FI (.pt 0 0,e)) u:=CQ (fun _ q=>(G1 (x:=0) (y:=0) (i:=false) dm q).1) (fun _ q=>q) h
theorem xI {n m:Nat} {xs:dt} (hl:n≤xs.length) (hm:n≤m) (hn:AK .i64 n=true) (s:Bool) (hs1:s=true):Ab dr 28 (Ip n m s) (A7 xs) 1 [] (FI (EQ s (AA xs 0 n))) []:=by
 have hW:∀ (b d:Bool) r,b=d→AM r→AM (HU n m xs b d r):=fun b d r h hr=>⟨jr hl,jr hm,hn,h,hr⟩
 unfold EQ;cases hr:Be (kS s) s (AA xs 0 n) with
 | false =>
  rw [jn kb];by_cases he:BU (kS s) s (AA xs 0 n)=0
  ·rw [jo he];cases s with
   | true=>exact BN (Bf VS Co func28 dm dm (Aaq n m xs) dm (hW _ _ _ hr ⟨AIK he,AY 2 trivial⟩)) fun _ _ q=>Aax q
   | false=>cases hs1
  ·rw [jn he];cases s with
   | true=>exact BN (Bf VS Co func28 dm dm (Aap n m xs) dm (hW _ _ _ hr ⟨g7 he,trivial⟩)) fun _ _ q=>Aay q
   | false=>cases hs1
 | true =>
  rw [jo rfl];cases s with
  | true =>
   have hx:=H7 hr 0 dp;unfold JR yB;by_cases hb:(!(BG (yR (xN 1 0 (AA xs 0 n)))==Al (AA xs 0 n) 32))=true
   ·simp only [jo hb];exact AIJ hx (xH _) (C:=P_ n m xs true) (fun r hq=>hW _ _ _ hr ⟨rfl,rfl,rfl,hb,hq⟩) (Aar n m xs) (Aas n m xs) (Aat n m xs)
   ·simp only [jn hb];exact AIJ hx (Yq _) (C:=P_ n m xs false) (fun r hq=>hW _ _ _ hr ⟨rfl,rfl,rfl,by simpa using hb,hq⟩) (Aau n m xs) (Aav n m xs) (Aaw n m xs)
  | false=>cases hs1
noncomputable def Li (V:Bool→dt→AV):ASpec:=fun args H fr ie=>match args with
 | [S,B]=>match Io S,FY (some B) with
  | some (k,n,m),some (_,true)=>match AF H k with
   | some ⟨_,cs,_⟩=>match A' .u8 cs with
    | some xs=>some (BP [k] 1 fr 0 [] (V true (AA xs 0 n)) [] [(Nat.ble n xs.length,true),(Nat.ble n m,true),(AK .i64 n,true)] ie)
    | none=>none
   | _=>none
  | _,_=>none
 | _=>none
theorem OS {f:gp} {fn:Func} {V:Bool→dt→AV} (jc:dr.funcs[f]? = some fn) (hb:fn.body.isSome=true) (iq:fw fn) (hk:∀ s L,EJ 1 0 [] (V s L) []=true)
  (h:∀ (n m:Nat) (xs:dt),n≤xs.length→n≤m→AK .i64 n=true→Ab dr f (Ip n m true) (A7 xs) 1 [] (V true (AA xs 0 n)) []):BI dr f (Li V):=by
 refine DN jc hb iq fun args H fr ie r hs=>?_
 unfold Li at hs;split at hs;case h_2=>cases hs
 rename_i S B;split at hs;case h_2=>cases hs
 rename_i k n m c hS hB;split at hs;case h_2=>cases hs
 rename_i ty cs o hk';split at hs;case h_2=>cases hs
 rename_i xs jh;injection hs with hs;refine ⟨[k],1,0,[],_,_,_,ie,hs.symm,fun β us w ha hg hc=>?_⟩
 obtain ⟨u1,jf,r1,⟨u3,us3,r3,ha,rfl⟩,rfl⟩:=ha;obtain ⟨hl,hm,hn,_⟩:=hc;obtain ⟨m',hm',r1⟩:=KO hS (jp hm) r1
 obtain ⟨g1,g2,g3⟩:=EP hg hk' jh;exact ⟨Ip n m' true,A7 xs,h n m' xs (jp hl) hm' hn,hk _ _,⟨u1,_,CV dn rfl r1,⟨u3,us3,SF hB r3,ha,rfl⟩,rfl⟩,g2,g3⟩
noncomputable def SJk:dw:=(28,Li fun s L=>FI (EQ s L))::SJi
theorem xJ:AX dr SJk:=⟨OS func28 dm dm (fun _ _=>by kernel_rfl) fun _ _ _ hl hm hn=>xI hl hm hn true rfl,VS⟩
noncomputable abbrev oJk:ia:=AG SJk KH
theorem xK:g_ dr oJk:=AH xJ Co
open Ex Num Rg
open Sh (R av rd mo en mo_en)
theorem xL (K:Nat):∀ d∈cat (List.replicate K 0),d=0:=by
 induction K with
 | zero=>intro d h;cases h
 | succ K ih =>
  intro d h;rw [sk,cat] at h;rcases j_.1 h with q | q
  ·have:(Bv 0 48).all (fun d=>decide (d=0))=true:=dm
   exact kj (nj.1 this d q)
  ·exact ih d q
section
variable {s i b:Bool} {x:Nat} {r:List Nat} {K:Nat} (hx:x<pN) (hK:0<K) (hl:K≤r.length+1)
include hx hK hl
theorem AIL:(AA (DY s i b (cat (x::r))) 0 (48*K)).length=48*K∧Al (AA (DY s i b (cat (x::r))) 0 (48*K)) 128=s∧Al (AA (DY s i b (cat (x::r))) 0 (48*K)) 64=i∧Al (AA (DY s i b (cat (x::r))) 0 (48*K)) 32=(s&&(!i&&b))∧B_ (AA (DY s i b (cat (x::r))) 0 (48*K)) (48*K-1)=cat ((x::r).take K):=by
 obtain ⟨f,t,e,h0,h1⟩:=AH4 hx r;have h:=AaE s i b (show 0<48*K by omega) (show 48*K≤(cat (x::r)).length by rw [Yn,k_];omega) e h0 h1
 rw [VP] at h;exact h
theorem Aaz (hr:∀ y∈r,y<pN) (hi:i=false):Be K s (AA (DY s i b (cat (x::r))) 0 (48*K))=true∧(∀ j,j<K→xN K j (AA (DY s i b (cat (x::r))) 0 (48*K))=(x::r).getD j 0)∧Al (AA (DY s i b (cat (x::r))) 0 (48*K)) 32=(s&&b):=by
 obtain ⟨q1,q2,q3,q4,q5⟩:=AIL (s:=s) (i:=i) (b:=b) hx hK hl
 have hn:∀ j,j<K→CJ (cat ((x::r).take K)) (48*j)=(x::r).getD j 0∧(x::r).getD j 0<pN:=by
  intro j hj;have jb:(x::r).getD j 0<pN:=by
   rw [kq];cases hq:(x::r)[j]? with
   | none=>exact C6
   | some y =>
    rcases ka.1 (pm hq) with e | e
    ·rw [e];exact hx
    ·exact hr y e
  refine ⟨?_,jb⟩
  rw [AH1 _ j (by rw [kv,k_];omega)]
  have e:((x::r).take K).getD j 0=(x::r).getD j 0:=by rw [kq,kq,rx hj]
  rw [e];exact AaF jb
 refine ⟨?_,fun j hj=>?_,?_⟩
 ·unfold Be;rw [q1,q2,q3,q4,q5,hi,jm rfl,jm rfl];have ho:FH (cat ((x::r).take K)) K=true:=by
   unfold FH;rw [nj];intro j hj;obtain ⟨e1,e2⟩:=hn j (mj.1 hj)
   rw [e1];exact jm e2
  rw [ho];cases s<;>cases b<;>rfl
 ·unfold xN;rw [q5];exact (hn j hj).1
 ·rw [q4,hi];rfl
theorem Aa0 (hi:i=true) (h0:∀ d∈cat ((x::r).take K),d=0):Be K s (AA (DY s i b (cat (x::r))) 0 (48*K))=false∧BU K s (AA (DY s i b (cat (x::r))) 0 (48*K))=0:=by
 obtain ⟨q1,q2,q3,q4,q5⟩:=AIL (s:=s) (i:=i) (b:=b) hx hK hl
 have e32:(s&&(!i&&b))=false:=by rw [hi];cases s<;>rfl
 constructor
 ·unfold Be;rw [q1,q2,q3,q4,q5,hi];cases s<;>cases b<;>simp
 ·unfold BU;rw [q1,q2,q3,q4,q5,e32,hi,jn (fun h=>h rfl),jn (fun h=>h rfl),jn (by rw [oy];exact kb),jo rfl]
  have ho:Ld (cat ((x::r).take K)) false=true:=by
   unfold Ld;rw [qw,Bool.and_true,nj];exact fun d hd=>jm (h0 d hd)
  unfold G5;rw [jo ho]
end
section
variable {s:Bool} {K:Nat} {L:dt} (hK:0<K) (hL:∀ d∈L,0≤d∧d<256)
include hK hL
theorem AIM (ii:L.length=48*K):(B_ L (48*K-1)).length=48*K∧∀ d∈B_ L (48*K-1),0≤d∧d<256:=by
 cases L with
 | nil=>simp at ii;omega
 | cons v u =>
  refine ⟨by rw [OR dn];omega,fun d hd=>?_⟩
  rcases ka.1 hd with e | e
  ·have hv:=hL v (qr ..)
   have:=AaD hv.1 hv.2
   have e':d=bits .and .u8 v 31:=e
   rw [e'];omega
  ·exact hL d (oq _ (pn (i:=0) (qh e)))
theorem g8 {b:Bool} {l:List Nat} (hr:Be K s L=true) (hl:l.take K=(List.range K).map fun j=>xN K j L) (hb:Al L 32=(s&&b)):AA (DY s false b (cat l)) 0 (48*K)=L:=by
 unfold Be at hr;simp only [jx,jt] at hr;obtain ⟨h1,h2,h3,h4,_⟩:=hr;obtain ⟨g1,g2⟩:=AIM hK hL h1;refine AH0 dn h1 hL h2 (by simpa using h4) (by rw [hb,qw,lg]) ?_
 rw [VP,hl];exact AH2 K _ g1 g2
theorem AIN {b:Bool} {l:List Nat} (hr:Be K s L=false) (he:BU K s L=0) (hl:l.take K=List.replicate K 0):AA (DY s true b (cat l)) 0 (48*K)=L:=by
 unfold BU at he;by_cases h1:L.length≠48*K
 ·rw [jo h1] at he;cases he
 have h1:L.length=48*K:=dn
 rw [jn (fun h=>h h1)] at he
 by_cases h2:Al L 128≠s
 ·rw [jo h2] at he;cases he
 have h2:Al L 128=s:=by
  cases hq:Al L 128<;>cases s<;>first | rfl | exact absurd (by rw [hq];decide) h2
 rw [jn (fun h=>h h2)] at he
 by_cases h3:(Al L 32&&!s)=true
 ·rw [jo h3] at he;cases he
 rw [jn h3] at he;obtain ⟨g1,g2⟩:=AIM hK hL h1;cases h4:Al L 64 with
 | true =>
  rw [h4,jo rfl] at he;unfold G5 at he;by_cases h5:Ld (B_ L (48*K-1)) (Al L 32)=true
  ·unfold Ld at h5;obtain ⟨h6,h7⟩:=jy.1 h5;have h7:Al L 32=false:=by simpa using h7
   have h6:∀ d∈B_ L (48*K-1),d=0:=fun d hd=>kj (nj.1 h6 d hd)
   refine AH0 dn h1 hL h2 h4 (by rw [h7];cases s<;>rfl) ?_
   rw [VP,hl];have e1:=List.eq_replicate_iff.2 ⟨g1,h6⟩
   have e2:=List.eq_replicate_iff.2 ⟨(Yn (List.replicate K 0)).trans (by rw [oz]),xL K⟩
   rw [e1,e2]
  ·rw [jn h5] at he;cases he
 | false =>
  rw [h4,jn kb] at he;by_cases h5:FH (B_ L (48*K-1)) K=true
  ·exfalso
   unfold Be at hr;have h3':(Al L 32&&!s)=false:=by simpa using h3
   rw [h3',h4,h5,jm h1,jm h2] at hr;cases hr
  ·rw [jn h5] at he;cases he
end
theorem Aa1 {y:FP} (h:y≠0):0<y.val:=sm fun e=>h (by rw [← Bn y,e];exact tf_zero)
theorem AIO (y:FP):BG y.val=decide ((pN-y.val) % pN<y.val):=by
 have h:=y.isLt;unfold BG C7;rw [jv h]
theorem g9 {y:FP} (h:y≠0):BG (-y).val=!BG y.val:=by
 have h1:=y.isLt;have h0:=Aa1 h;have hv:(-y).val=pN-y.val:=by
  show (pN-y.val) % pN=pN-y.val;exact jv dn
 have ho:=Xh;rw [AIO,AIO,hv,jv (show pN-(pN-y.val)<pN by omega),jv (show pN-y.val<pN by omega)]
 by_cases hq:pN-y.val<y.val
 ·rw [jm hq,jq dn];rfl
 ·rw [jq hq,jm dn];rfl
theorem AIP (x:Nat):tf (yR x)=CY (tf x*tf x*tf x+Dy)∧CX (ad FP (mu FP (mu FP x x) x) (4:Nat))=Cw (tf x*tf x*tf x+Dy):=by
 have e:(ad FP (mu FP (mu FP x x) x) (4:Nat):Nat)=(tf x*tf x*tf x+Dy).val:=by
  unfold ad mu;show (mo (en (mo (en (mo x*mo x:FP))*mo x:FP))+mo (4:Nat):FP).val=_;rw [mo_en,mo_en];rfl
 constructor
 ·unfold yR CY;rw [e]
 ·unfold Cw;rw [e]
theorem Aa2 {a b:FP} (h:b*b=a*a*a+Dy):yB a.val (BG b.val)=b.val:=by
 have hb:b≠0:=C1.no2 a b h
 have hs:Cw (a*a*a+Dy)=true:=My h
 obtain ⟨e1,_⟩:=AIP a.val;rw [Bn] at e1;have hq:=OK hs;rw [← e1,← h] at hq;have hv:(tf (yR a.val)).val=yR a.val:=HO (Yq _)
 unfold yB;rcases fX hq with e | e
 ·have e':yR a.val=b.val:=by rw [← hv,e]
  rw [e',jn (by cases BG b.val<;>decide)]
 ·have e':yR a.val=(-b).val:=by rw [← hv,e]
  have hg:ng FP (yR a.val)=b.val:=by
   show (-(tf (yR a.val)):FP).val=b.val;rw [e,neg_neg]
  rw [hg];rw [e',g9 hb,jo (by cases BG b.val<;>decide)]
theorem Aa3 {x:Nat} {c:Bool} (h:Rg.On C1.b (AL x (yB x c) false)):BG (yB x c)=c:=by
 have hb:tf (yB x c)≠0:=C1.no2 _ _ h
 have hv:(tf (yR x)).val=yR x:=HO (Yq _)
 unfold yB at hb ⊢
 by_cases hq:(!(BG (yR x)==c))=true
 ·rw [jo hq] at hb ⊢;have hv2:ng FP (yR x)=(-(tf (yR x)):FP).val:=rfl
  have jd:tf (yR x)≠0:=fun e=>hb (by
   rw [hv2,e,HN];exact tf_zero)
  have:BG (ng FP (yR x))=!BG (yR x):=by
   rw [hv2,g9 jd,hv]
  rw [this]
  revert hq
  cases BG (yR x)<;>cases c<;>decide
 ·rw [jn hq]
  revert hq
  cases BG (yR x)<;>cases c<;>decide
theorem Aa4 (p:Pt FP):∀ y∈[Av p],y<pN:=fun y hy=>by
 rcases ka.1 hy with e | e
 ·rw [e];exact eU p
 ·cases e
theorem SK (s:Bool):0<kS s:=by cases s<;>decide
theorem AIQ (s:Bool):kS s≤2:=by cases s<;>decide
theorem Aa5 {p:Pt FP} (h:A2 p=true):BH p=true:=(jy.1 h).1
theorem AIR {p:Pt FP} (h:A2 p=true) (s:Bool):EQ s (AA (E0 s p) 0 (48*kS s))=(p,0):=by
 have ho:=Aa5 h;rw [Ym,VQ];unfold EQ l1;cases p with
 | inf =>
  have h0:∀ d∈cat ([A8 (Pt.inf:Pt FP),Av (Pt.inf:Pt FP)].take (kS s)),d=0:=by
   cases s
   ·exact xL 2
   ·exact xL 1
  obtain ⟨q1,q2⟩:=Aa0 (r:=[Av (Pt.inf:Pt FP)]) (s:=s) (i:=Ao (Pt.inf:Pt FP)) (b:=BG (Av (Pt.inf:Pt FP))) (Py Pt.inf) (SK s) (AIQ s) rfl h0
  rw [q1,q2,jn kb,jo rfl]
 | pt a b =>
  obtain ⟨q1,q2,q3⟩:=Aaz (r:=[Av (.pt a b:Pt FP)]) (s:=s) (i:=Ao (.pt a b:Pt FP)) (b:=BG (Av (.pt a b:Pt FP))) (Py (.pt a b)) (SK s) (AIQ s) (Aa4 _) rfl
  rw [q1,jo rfl];have hP:JR s (AA (DY s (Ao (.pt a b:Pt FP)) (BG (Av (.pt a b:Pt FP))) (cat [A8 (.pt a b:Pt FP),Av (.pt a b:Pt FP)])) 0 (48*kS s))=.pt a b:=by
   unfold JR;cases s with
   | true =>
    have x0:=q2 0 dp;have hon:b*b=a*a*a+Dy:=(Ih _).1 ho
    have ey:=Aa2 hon;simp only
    rw [show kS true=1 from rfl] at x0 q3 ⊢
    rw [x0,q3];show AL a.val (yB a.val (BG b.val)) false=_;rw [ey];exact U6 (.pt a b)
   | false =>
    have x0:=q2 0 dp;have x1:=q2 1 dp;simp only
    rw [show kS false=2 from rfl] at x0 x1 ⊢
    rw [x0,x1];exact U6 (.pt a b)
  rw [hP];unfold P';rw [ho,h];rfl
theorem Aa6 {L:dt} (hL:∀ d∈L,0≤d∧d<256) {s:Bool} (h:(EQ s L).2=0):A2 (EQ s L).1=true∧AA (E0 s (EQ s L).1) 0 (48*kS s)=L:=by
 unfold EQ at h ⊢
 cases hr:Be (kS s) s L with
 | false =>
  rw [hr,jn kb] at h;rw [jn kb];by_cases he:BU (kS s) s L=0
  ·rw [jo he];refine ⟨by unfold A2;rw [Gz];rfl,?_⟩
   rw [Ym,VQ];exact AIN (SK s) hL hr he (by cases s<;>rfl)
  ·rw [jn he] at h;exact absurd h he
 | true =>
  rw [hr,jo rfl] at h;rw [jo rfl];unfold P' at h ⊢
  cases ho:BH (JR s L) with
  | false=>rw [ho,jn kb] at h;cases h
  | true =>
   rw [ho,jo rfl] at h;cases hi:A2 (JR s L) with
   | false=>rw [hi,jn kb] at h;cases h
   | true =>
    rw [jo rfl,jo rfl];refine ⟨hi,?_⟩
    have hon:=(Ih _).1 ho
    rw [Ym,VQ];cases s with
    | true =>
     have x0:xN 1 0 L<pN:=H7 hr 0 dp
     have hY:yB (xN 1 0 L) (Al L 32)<pN:=by
      unfold yB;split
      ·exact xH _
      ·exact Yq _
     have e1:l1 (JR true L)=[xN 1 0 L,yB (xN 1 0 L) (Al L 32)]:=by
      show [(tf _).val,(tf _).val]=_;rw [HO x0,HO hY]
     have e2:Av (JR true L)=yB (xN 1 0 L) (Al L 32):=HO hY
     have e3:Ao (JR true L)=false:=rfl
     rw [e1,e2,e3,Aa3 hon];exact g8 (SK true) hL hr rfl (by rw [lg])
    | false =>
     have x0:xN 2 0 L<pN:=H7 hr 0 dp
     have x1:xN 2 1 L<pN:=H7 hr 1 dp
     have e1:l1 (JR false L)=[xN 2 0 L,xN 2 1 L]:=by
      show [(tf _).val,(tf _).val]=_;rw [HO x0,HO x1]
     have e3:Ao (JR false L)=false:=rfl
     rw [e1,e3];refine g8 (SK false) hL hr rfl ?_
     unfold Be at hr;simp only [jx] at hr;have:=hr.2.2.1
     rw [oy];simpa using this
theorem hJ {H:Type} {enc:gt×gq→H} {W:gn} {base:Nat} {v:gq} {d:DataW H} {p:List MemPlace} (hv:Value.okWide dr W .any base 22 v) (ht:DataW.Trod enc dr W 0 (fun _=>true) true 22 v d p) {ls:List Ex.Loc} {bs:List ib} (ho:ArgsOk W ls bs) :
  ∃ (L:Ex.Loc) (zs:dt) (n m:Nat),(∀ x∈zs,0≤x∧x<256)∧n≤zs.length∧n≤m∧AK .i64 (n:Int)=true∧AO (DH (ls++[L])) (AQ ls.length 0 n m) v∧ArgsOk W (ls++[L]) (bs++[An [.seq .u8 zs]]):=by
 obtain ⟨L,zs,n,m,h1,h2,h3,h4,h5⟩:=AUZ hv ht ho;refine ⟨L,zs,n,m,h1,h2,?_,h3,h4,h5⟩
 obtain ⟨l1,l2,r1,r2,r3⟩:=h4;rcases r1 with ⟨B,q,e1,e2⟩ | ⟨e1,e2,e3,e4,e5⟩ | ⟨e1,e2,e3,e4,e5⟩
 ·subst e2;injection r3 with r3 _;subst r3;have hk:Cell.ok dr W .any base 22 (.slice (some ⟨B,q.2+0,none⟩) n m):=by
   have:=hv
   simp only [Value.okWide,X_,Cell.okWide] at this;exact this
  simp only [Cell.ok,X_] at hk;omega
 ·omega
 ·omega
def hfC:List Ch:=[.n .u64 0xdcff7fffffffd556,.n .u64 0xf55ffff58a9ffff,.n .u64 0xb39869507b587b12,.n .u64 0xb23ba5c279c2895f,.n .u64 0x258dd3db21a5d66b,.n .u64 0xd0088f51cbff34d]
def xM:Nat:=0x0d0088f51cbff34d258dd3db21a5d66bb23ba5c279c2895fb39869507b587b120f55ffff58a9ffffdcff7fffffffd556
theorem AIS:∃ n,n=xM:=⟨_,rfl⟩
noncomputable def GO:Nat:=Classical.choose AIS
theorem AIT:GO=xM:=lf AIS
theorem Aa8:AJ dr oJk f173 [] [] 100=some ([],.val true hfC):=dm
theorem Aa9:AT dr 173 [] (Ad GO):=by
 rw [AIT];exact CG (AN xK AB func173 Aa8 trivial rfl) fun u ⟨l,q,e⟩=>⟨l,GI (k:=6) (x:=xM) dm q,e⟩
theorem Aa_:tf GO+tf GO=1:=by rw [AIT,← Gx,← D6];exact AX2 dm
noncomputable def B8 (a:gw):Int:=if Cy a=true then 1 else 0
theorem Aa' (a:gw):decide (B8 a=1)=Cy a:=by
 unfold B8;cases Cy a<;>rfl
theorem AIU (x:Nat):EV x=if OJ (tf x)=true then 1 else 0:=by
 unfold EV OJ;have h:(tf x).val=x % pN:=rfl
 rw [h];rcases nz (x % pN) with e | e<;>rw [e]<;>rfl
theorem AbA (r:R gw):AJ dr oJk f174 [va gw r] dz 300=some ([(dq (re FP r.1) 0,true)],DR (EV r.2)):=dm
theorem AbB (r:R gw):AJ dr oJk f174 [va gw r] dx 300=some ([(dq (re FP r.1) 0,false)],DR (EV r.1)):=dm
theorem AIV (r:R gw):AT dr 174 [va gw r] (DR (B8 (mo r))):=by
 have e:dq (re FP r.1) 0=decide ((mo r:gw).a=0):=M2 (mo r:gw).a 0
 have h1:=AbA r;have h2:=AbB r;rw [AIU] at h1 h2;unfold B8 Cy;by_cases h:(mo r:gw).a=0
 ·rw [jo h];exact AN xK AB func174 h1 ⟨by rw [e];exact jm h,trivial⟩ rfl
 ·rw [jn h];exact AN xK AB func174 h2 ⟨by rw [e];exact jq h,trivial⟩ rfl
noncomputable def SJl:dw:=(173,Af (ev FP (Ad GO)))::(174,Af (BZ gw fun r=>DR (B8 (mo r))))::SJk
theorem AIW:AX dr SJl:=⟨Ah func173 dm dm (gB (α:=FP) Aa9),Ah func174 dm dm (Bi AIV),xJ⟩
noncomputable abbrev oJl:ia:=AG SJl KH
noncomputable def tX (r:R gw) (n:Nat):Nat:=D4 (mu FP (ad FP r.1 n) GO)
noncomputable def OT (r:R gw) (n:Nat):Bool:=CX (mu FP (ad FP r.1 n) GO)
noncomputable def OU (r:R gw):Bool:=CX (ng FP r.1)
noncomputable def Iq (r:R gw) (n:Nat):R gw:=(tX r n,D4 (ng FP r.1))
noncomputable def Ir (r:R gw) (n:Nat):R gw:=(tX r n,mu FP (mu FP r.2 GO) (iv FP (tX r n)))
noncomputable def hU (n:Nat):List AV:=[va FP n,.val false [.p 0 0]]
noncomputable def h9 (r:R gw):Heap:=[(0,some (An (av r)))]
noncomputable def OV (r:R gw) (n:Nat) (p:List Bool):=AU dr oJl f172 500 1 [] (Ak f172 (hU n) (h9 r) 1 p)
section
variable (r:R gw) (n:Nat)
theorem AbD:OV r n [true,true,true]=some ([(dq (tX r n) 0,true),(decide (B8 (mo (Iq r n):gw)=1),true),(OU r,true)],[],.tup [(true,av (ng gw (Iq r n))),(false,[.v (.bool (CI (mu gw (ng gw (Iq r n)) (ng gw (Iq r n))) r))])],[]):=dm
theorem AbE:OV r n [true,true,false]=some ([(dq (tX r n) 0,true),(decide (B8 (mo (Iq r n):gw)=1),true),(OU r,false)],[],.tup [(true,av (ng gw (Iq r n))),(false,[.b false])],[]):=dm
theorem AbF:OV r n ew=some ([(dq (tX r n) 0,true),(decide (B8 (mo (Iq r n):gw)=1),false),(OU r,true)],[],.tup [(true,av (Iq r n)),(false,[.v (.bool (CI (mu gw (Iq r n) (Iq r n)) r))])],[]):=dm
theorem AbG:OV r n e_=some ([(dq (tX r n) 0,true),(decide (B8 (mo (Iq r n):gw)=1),false),(OU r,false)],[],.tup [(true,av (Iq r n)),(false,[.b false])],[]):=dm
theorem AbH:OV r n fe=some ([(dq (tX r n) 0,false),(decide (B8 (mo (Ir r n):gw)=1),true),(OT r n,true)],[],.tup [(true,av (ng gw (Ir r n))),(false,[.v (.bool (CI (mu gw (ng gw (Ir r n)) (ng gw (Ir r n))) r))])],[]):=dm
theorem AbI:OV r n fl=some ([(dq (tX r n) 0,false),(decide (B8 (mo (Ir r n):gw)=1),true),(OT r n,false)],[],.tup [(true,av (ng gw (Ir r n))),(false,[.b false])],[]):=dm
theorem AbJ:OV r n fb=some ([(dq (tX r n) 0,false),(decide (B8 (mo (Ir r n):gw)=1),false),(OT r n,true)],[],.tup [(true,av (Ir r n)),(false,[.v (.bool (CI (mu gw (Ir r n) (Ir r n)) r))])],[]):=dm
theorem AbK:OV r n fh=some ([(dq (tX r n) 0,false),(decide (B8 (mo (Ir r n):gw)=1),false),(OT r n,false)],[],.tup [(true,av (Ir r n)),(false,[.b false])],[]):=dm
end
theorem QA {r:R gw} {n:Nat} {p:List Bool} {conds:du} {out:R gw} {ok:Ch} (h:OV r n p=some (conds,[],.tup [(true,av out),(false,[ok])],[])) (hc:AM conds) {e:gw} {t:Bool} (ho:out=en e) (hok:ok=.b t∨ok=.v (.bool t)) :
  Ab dr 172 (hU n) (h9 r) 1 [] (.tup [(true,av (en e:R gw)),(false,[.v (.bool t)])]) []:=by
 subst ho;refine BN (Bf AIW Co func172 dm dm h dm hc) fun β u q=>?_
 refine CQ (fun _ q=>q) (fun _ q=>?_) q
 rcases hok with e | e
 ·subst e;obtain ⟨l1,l2,p1,p2,p3⟩:=q;exact ⟨l1,l2,⟨p1,rfl,trivial⟩,p2,p3⟩
 ·subst e;exact q
noncomputable def hF:FP:=tf GO
theorem xO (q:FP):D4 q.val=(CY q).val:=by
 unfold CY;refine (HO ?_).symm
 by_cases h:CX q.val=true
 ·exact (s6 h).2.2
 ·unfold D4;rw [jn h];exact C6
theorem Yr (x y:gw):CI (mu gw (en x) (en x)) (en y)=decide (x*x=y):=by
 have e:mu gw (en x) (en x)=(en (x*x):R gw):=by unfold mu;rw [mo_en]
 rw [e];have e1:CI (en (x*x)) (en y)=(decide ((x*x).a=y.a)&&decide ((x*x).b=y.b)):=by
  show (dq (x*x).a.val y.a.val&&dq (x*x).b.val y.b.val)=_;rw [M2,M2]
 rw [e1];by_cases h:x*x=y
 ·rw [h,jm rfl,jm rfl,jm rfl];rfl
 ·rw [jq h];by_cases ha:(x*x).a=y.a
  ·by_cases hb:(x*x).b=y.b
   ·exact absurd (Qx.ext ha hb) h
   ·rw [jq hb,ny]
  ·rw [jq ha,oy]
section
variable (a:gw) (n:Nat)
theorem iB:tX (en a) n=(C_ hF a (tf n)).val:=by
 have e:mu FP (ad FP (en a:R gw).1 n) GO=((a.a+tf n)*hF:FP).val:=by
  unfold ad mu;show (mo (en (mo a.a.val+mo n:FP))*mo GO:FP).val=_;rw [mo_en];show ((tf a.a.val+tf n)*tf GO:FP).val=_;rw [Bn];rfl
 unfold tX C_;rw [e];exact xO _
theorem AbL:OT (en a) n=Cw ((a.a+tf n)*hF):=by
 have e:mu FP (ad FP (en a:R gw).1 n) GO=((a.a+tf n)*hF:FP).val:=by
  unfold ad mu;show (mo (en (mo a.a.val+mo n:FP))*mo GO:FP).val=_;rw [mo_en];show ((tf a.a.val+tf n)*tf GO:FP).val=_;rw [Bn];rfl
 unfold OT Cw;rw [e]
theorem AIX:(ng FP (en a:R gw).1:Nat)=(-a.a:FP).val:=by
 show (-(tf a.a.val):FP).val=_;rw [Bn]
theorem AbM:OU (en a)=Cw (-a.a):=by
 unfold OU Cw;rw [AIX]
theorem AbN (h:C_ hF a (tf n)=0):Iq (en a) n=(en (⟨C_ hF a (tf n),M0 hF a (tf n)⟩:gw):R gw):=by
 unfold Iq M0;rw [jo h,iB,AIX,xO];rfl
theorem AbO (h:¬ C_ hF a (tf n)=0):Ir (en a) n=(en (⟨C_ hF a (tf n),M0 hF a (tf n)⟩:gw):R gw):=by
 have e:(mu FP (mu FP (en a:R gw).2 GO) (iv FP (tX (en a) n)):Nat)=(a.b*hF*FD.inv (C_ hF a (tf n)):FP).val:=by
  rw [iB];unfold mu iv;show (mo (en (mo a.b.val*mo GO:FP))*mo (en (FD.inv (mo (C_ hF a (tf n)).val:FP))):FP).val=_;rw [mo_en,mo_en];show (tf a.b.val*tf GO*FD.inv (tf (C_ hF a (tf n)).val):FP).val=_;rw [Bn,Bn];rfl
 unfold Ir M0;rw [jn h,e,iB];rfl
theorem AbP:dq (tX (en a) n) 0=decide (C_ hF a (tf n)=0):=by
 rw [iB];exact M2 _ 0
noncomputable def xP:AV:=.tup [(true,av (en (JQ hF a (tf n)):R gw)),(false,[.v (.bool (F2 hF a (tf n)))])]
theorem xQ (o:gw):ng gw (en o)=(en (-o):R gw):=by unfold ng;rw [mo_en]
theorem xR (o:gw):decide (B8 (mo (en o:R gw):gw)=1)=Cy o:=by rw [mo_en];exact Aa' o
theorem AbQ:Ab dr 172 (hU n) (h9 (en a)) 1 [] (xP a n) []:=by
 unfold xP;have hz:=AbP a n;by_cases h:C_ hF a (tf n)=0
 ·rw [jm h] at hz;have eo:=AbN a n h;have ei:F2 hF a (tf n)=(OU (en a)&&decide (JQ hF a (tf n)*JQ hF a (tf n)=a)):=by unfold F2;rw [jo h,AbM]
  have r1:=AbD (en a) n
  have r2:=AbE (en a) n
  have r3:=AbF (en a) n
  have r4:=AbG (en a) n
  rw [eo,xR] at r1 r2 r3 r4;rw [xQ] at r1 r2;unfold JQ at *
  generalize hO:(⟨C_ hF a (tf n),M0 hF a (tf n)⟩:gw)=o at *
  rw [ei];unfold KD;cases hs:Cy o with
  | true =>
   rw [jo rfl];cases hi:OU (en a) with
   | true=>exact QA r1 ⟨hz,hs,hi,trivial⟩ rfl (.inr (by rw [Yr,lg]))
   | false=>exact QA r2 ⟨hz,hs,hi,trivial⟩ rfl (.inl (by rw [oy]))
  | false =>
   rw [jn kb];cases hi:OU (en a) with
   | true=>exact QA r3 ⟨hz,hs,hi,trivial⟩ rfl (.inr (by rw [Yr,lg]))
   | false=>exact QA r4 ⟨hz,hs,hi,trivial⟩ rfl (.inl (by rw [oy]))
 ·rw [jq h] at hz;have eo:=AbO a n h;have ei:F2 hF a (tf n)=(OT (en a) n&&decide (JQ hF a (tf n)*JQ hF a (tf n)=a)):=by unfold F2;rw [jn h,AbL]
  have r1:=AbH (en a) n
  have r2:=AbI (en a) n
  have r3:=AbJ (en a) n
  have r4:=AbK (en a) n
  rw [eo,xR] at r1 r2 r3 r4;rw [xQ] at r1 r2;unfold JQ at *
  generalize hO:(⟨C_ hF a (tf n),M0 hF a (tf n)⟩:gw)=o at *
  rw [ei];unfold KD;cases hs:Cy o with
  | true =>
   rw [jo rfl];cases hi:OT (en a) n with
   | true=>exact QA r1 ⟨hz,hs,hi,trivial⟩ rfl (.inr (by rw [Yr,lg]))
   | false=>exact QA r2 ⟨hz,hs,hi,trivial⟩ rfl (.inl (by rw [oy]))
  | false =>
   rw [jn kb];cases hi:OT (en a) n with
   | true=>exact QA r3 ⟨hz,hs,hi,trivial⟩ rfl (.inr (by rw [Yr,lg]))
   | false=>exact QA r4 ⟨hz,hs,hi,trivial⟩ rfl (.inl (by rw [oy]))
end
noncomputable def trSp:ASpec:=fun args H fr ie=>match args with
 | [.val true c,.val false [.p k 0]]=>match DE 6 c,AF H k with
  | some n,some ⟨_,cs,_⟩=>match (rd cs:Option (R gw)) with
   | some r=>some (BP [k] 1 fr 0 [] (xP (mo r) n) [] [(Cq r,true)] ie)
   | none=>none
  | _,_=>none
 | _=>none
theorem AbR:BI dr 172 trSp:=by
 refine GW func172 dm dm fun args H fr ie r hs=>?_
 unfold trSp at hs;split at hs;case h_2=>cases hs
 rename_i c k;split at hs;case h_2=>cases hs
 rename_i n ty cs o hn hk';split at hs;case h_2=>cases hs
 rename_i q hq;injection hs with hs;refine ⟨[k],hU n,h9 q,1,0,[],_,_,_,ie,hs.symm,fun β us w ha hg hc=>?_⟩
 obtain ⟨u1,jf,r1,⟨u2,jg,r2,ha,rfl⟩,rfl⟩:=ha;have hr:=LV hc.1;have h:=AbQ (mo q) n
 rw [hr] at h;refine ⟨h,dm,⟨u1,_,?_,⟨u2,jg,r2,ha,rfl⟩,rfl⟩,cE (c:=av q) hg hk' (fun l h=>Sh.rd_ok hq h),fun j hj=>?_⟩
 ·obtain ⟨l,q,rfl⟩:=r1;exact ⟨l,GI hn q,rfl⟩
 ·match j,hj with
  | 0,_=>exact CM (hg.heap _ _ hk')
noncomputable def SJl2:dw:=(172,trSp)::SJl
theorem AbS:AX dr SJl2:=⟨AbR,AIW⟩
noncomputable abbrev oJl2:ia:=AG SJl2 KH
theorem iC:g_ dr oJl2:=AH AbS Co
noncomputable def JS (q:R gw):Nat:=ad FP (mu FP q.1 q.1) (mu FP q.2 q.2)
def SL:List Ch:=[.n .u64 0,.n .u64 0,.n .u64 0,.n .u64 0,.n .u64 0,.n .u64 0,.n .u64 0,.n .u64 0,.n .u64 0,.n .u64 0,.n .u64 0,.n .u64 0]
def iD:AV:=.tup [(true,SL),(false,[.b false])]
noncomputable def iE (q:R gw) (n:Nat):AV:=.tup [(true,av (en (JQ hF (mo q) (tf n)):R gw)),(false,[.b true])]
section
variable (r:R gw)
theorem AbT:AJ dr oJl2 f98 [va gw r] dz 500=some ([(!CX (JS (re gw r)),true)],iD):=dm
theorem AbU:AJ dr oJl2 f98 [va gw r] ee 500=some ([(!CX (JS (re gw r)),false),(Cq (re gw r),true),(F2 hF (mo (re gw r)) (tf (D4 (JS (re gw r)))),true)],iE (re gw r) (D4 (JS (re gw r)))):=dm
theorem AbV:AJ dr oJl2 f98 [va gw r] fb 500=some ([(!CX (JS (re gw r)),false),(Cq (re gw r),true),(F2 hF (mo (re gw r)) (tf (D4 (JS (re gw r)))),false),(Cq (re gw r),true),(F2 hF (mo (re gw r)) (tf (ng FP (D4 (JS (re gw r))))),true)],iE (re gw r) (ng FP (D4 (JS (re gw r))))):=dm
theorem AbW:AJ dr oJl2 f98 [va gw r] fh 500=some ([(!CX (JS (re gw r)),false),(Cq (re gw r),true),(F2 hF (mo (re gw r)) (tf (D4 (JS (re gw r)))),false),(Cq (re gw r),true),(F2 hF (mo (re gw r)) (tf (ng FP (D4 (JS (re gw r))))),false)],iD):=dm
end
theorem AIY (a:gw):JS (en a)=(F3 a).val:=by
 unfold JS ad mu F3;show (mo (en (mo a.a.val*mo a.a.val:FP))+mo (en (mo a.b.val*mo a.b.val:FP)):FP).val=_;rw [mo_en,mo_en];show (tf a.a.val*tf a.a.val+tf a.b.val*tf a.b.val:FP).val=_;rw [Bn,Bn]
noncomputable def OW (a:gw):AV:=.tup [(true,av (en (EZ a):R gw)),(false,[.v (.bool (CZ a))])]
theorem AbX:(rd SL:Option (R gw))=some (en (0:gw)):=dm
theorem Ys {β β':Env} {b b':Bool} {u:gq} (e:b=b') (h:Bt β false [.b b] u):Bt β' false [.v (.bool b')] u:=by
 subst e;obtain ⟨l1,l2,p1,p2,p3⟩:=h;exact ⟨l1,l2,⟨p1,rfl,trivial⟩,p2,p3⟩
theorem xS {a:gw} (hi:CZ a=false) {u:gq} (h:AO CB iD u):AO CB (OW a) u:=by
 unfold OW;rw [AYF hi,hi];exact CQ (fun _ ⟨l,q,e⟩=>⟨l,Sh.rd_ok (α:=gw) AbX q,e⟩) (fun _ q=>Ys rfl q) h
theorem AIZ {a:gw} {n:Nat} (ht:F2 hF a (tf n)=true) {u:gq} (h:AO CB (iE (en a) n) u):AO CB (OW a) u:=by
 obtain ⟨h1,h2⟩:=AYL ht;unfold OW;rw [← h1,h2];unfold iE at h;rw [mo_en] at h;exact CQ (fun _ q=>q) (fun _ q=>Ys rfl q) h
theorem AbY (r:R gw):AT dr 98 [va gw r] (OW (mo r)):=by
 have h1:=AbT r;have h2:=AbU r;have h3:=AbV r;have h4:=AbW r;have e:re gw r=en (mo r:gw):=rfl
 rw [e] at h1 h2 h3 h4;generalize (mo r:gw)=a at *
 rw [mo_en,AIY] at h2 h3 h4;rw [AIY] at h1;rw [xO,Bn] at h2 h3 h4;have en2:tf (ng FP (CY (F3 a)).val)=-CY (F3 a):=by
  show tf (-(tf (CY (F3 a)).val):FP).val=_;rw [Bn,Bn]
 rw [en2] at h3 h4;have hr:=KF a;cases hi:Cw (F3 a) with
 | false =>
  have hi':CX (F3 a).val=false:=hi
  exact CG (AN iC AB func98 h1 ⟨by rw [hi'];rfl,trivial⟩ rfl) fun u q=>xS (AYN hi) q
 | true =>
  have hi':(!CX (F3 a).val)=false:=by
   have:CX (F3 a).val=true:=hi
   rw [this];rfl
  cases ht:F2 hF a (CY (F3 a)) with
  | true =>
   refine CG (AN iC AB func98 h2 ⟨hi',hr,ht,trivial⟩ rfl) fun u q=>?_
   exact AIZ (n:=(CY (F3 a)).val) (by rw [Bn];exact ht) q
  | false =>
   cases ht2:F2 hF a (-CY (F3 a)) with
   | true =>
    refine CG (AN iC AB func98 h3 ⟨hi',hr,ht,hr,ht2,trivial⟩ rfl) fun u q=>?_
    exact AIZ (n:=ng FP (CY (F3 a)).val) (by rw [en2];exact ht2) q
   | false=>exact CG (AN iC AB func98 h4 ⟨hi',hr,ht,hr,ht2,trivial⟩ rfl) fun u q=>xS (AYO Aa_ hi ht ht2) q
noncomputable def SJm:dw:=(98,Af (BZ gw fun r=>OW (mo r)))::SJk
theorem VT:AX dr SJm:=⟨Ah func98 dm dm (Bi AbY),xJ⟩
noncomputable abbrev Lj:ia:=AG SJm KH
noncomputable def x2 (K:Nat) (L:dt):R gw:=(xN K 1 L,xN K 0 L)
noncomputable def z2 (L:dt):R gw:=(xN 4 3 L,xN 4 2 L)
noncomputable def CA (x:R gw):R gw:=en (EZ (mo (ad gw (mu gw (mu gw x x) x) ((4:Nat),(4:Nat)))))
noncomputable def KP (x:R gw) (b:Bool):R gw:=if (!(D8 (mo (CA x))==b))=true then ng gw (CA x) else CA x
noncomputable def HV (e:Int):AV:=.tup [(true,CS false),(false,[.n .i64 e])]
noncomputable def OX (x y:R gw):AV:=.tup [(true,Bs (av x) (Bs (av y) [.b false])),(false,[.n .i64 0])]
section
variable (n m:Nat) (xs:dt)
noncomputable def Lk (s:Bool) (p:List Bool):h_:=Ak f45 (Ip n m s) (A7 xs) 1 p
theorem AbZ:AU dr Lj f45 800 1 [] (Lk n m xs true d_)=some (HU n m xs (Be 2 true (AA xs 0 n)) false [(!decide (BU 2 true (AA xs 0 n)=0),true)],[],.tup [(true,CS false),(false,[.v (.int .i64 (BU 2 true (AA xs 0 n)))])],[]):=dm
theorem Aba:AU dr Lj f45 800 1 [] (Lk n m xs true ew)=some (HU n m xs (Be 2 true (AA xs 0 n)) false ((!decide (BU 2 true (AA xs 0 n)=0),false)::tt 2 []),[],.tup [(true,CS true),(false,[.n .i64 0])],[]):=dm
noncomputable def QB (b:Bool) (r:du):du:=HU n m xs (Be 2 true (AA xs 0 n)) true ((true,true)::(false,false)::tt 2 ((!(D8 (mo (CA (x2 2 (AA xs 0 n))))==Al (AA xs 0 n) 32),b)::r))
theorem Abb:AU dr Lj f45 800 1 [] (Lk n m xs true fo)=some (QB n m xs true [(!BK (mo ((x2 2 (AA xs 0 n)),ng gw (CA (x2 2 (AA xs 0 n))),false):P2),true)],[],HV 204,[]):=dm
theorem Abc:AU dr Lj f45 800 1 [] (Lk n m xs true fk)=some (QB n m xs true [(!BK (mo ((x2 2 (AA xs 0 n)),ng gw (CA (x2 2 (AA xs 0 n))),false):P2),false),(!CW (mo ((x2 2 (AA xs 0 n)),ng gw (CA (x2 2 (AA xs 0 n))),false):P2),true)],[],HV 205,[]):=dm
theorem Abd:AU dr Lj f45 800 1 [] (Lk n m xs true fj)=some (QB n m xs true [(!BK (mo ((x2 2 (AA xs 0 n)),ng gw (CA (x2 2 (AA xs 0 n))),false):P2),false),(!CW (mo ((x2 2 (AA xs 0 n)),ng gw (CA (x2 2 (AA xs 0 n))),false):P2),false)],[],OX (x2 2 (AA xs 0 n)) (ng gw (CA (x2 2 (AA xs 0 n)))),[]):=dm
theorem Abe:AU dr Lj f45 800 1 [] (Lk n m xs true eq)=some (QB n m xs false [(!BK (mo ((x2 2 (AA xs 0 n)),CA (x2 2 (AA xs 0 n)),false):P2),true)],[],HV 204,[]):=dm
theorem Abf:AU dr Lj f45 800 1 [] (Lk n m xs true fi)=some (QB n m xs false [(!BK (mo ((x2 2 (AA xs 0 n)),CA (x2 2 (AA xs 0 n)),false):P2),false),(!CW (mo ((x2 2 (AA xs 0 n)),CA (x2 2 (AA xs 0 n)),false):P2),true)],[],HV 205,[]):=dm
theorem Abg:AU dr Lj f45 800 1 [] (Lk n m xs true ff)=some (QB n m xs false [(!BK (mo ((x2 2 (AA xs 0 n)),CA (x2 2 (AA xs 0 n)),false):P2),false),(!CW (mo ((x2 2 (AA xs 0 n)),CA (x2 2 (AA xs 0 n)),false):P2),false)],[],OX (x2 2 (AA xs 0 n)) (CA (x2 2 (AA xs 0 n))),[]):=dm
end
noncomputable def SM (p:P2):P2×Int:=if BK p=true then (if CW p=true then (p,0) else (.pt 0 0,205)) else (.pt 0 0,204)
noncomputable def KR (s:Bool) (L:dt):P2:=match s with
 | true=>mo (x2 2 L,KP (x2 2 L) (Al L 32),false)
 | false=>mo (x2 4 L,z2 L,false)
def kT (s:Bool):Nat:=match s with | true=>2 | false=>4
noncomputable def G6 (s:Bool) (L:dt):P2×Int:=if Be (kT s) s L=true then SM (KR s L) else if BU (kT s) s L=0 then (.inf,0) else (.pt 0 0,BU (kT s) s L)
noncomputable def GP (q:P2×Int):AV:=KJ q.1 q.2
theorem AIa:(rd (CS false):Option (R P2))=some (en (.pt 0 0:P2)):=dm
theorem Abh:(rd (CS true):Option (R P2))=some (en (.inf:P2)):=dm
theorem xU {β β':Env} {i:Bool} {p:P2} (h:(rd (CS i):Option (R P2))=some (en p)) {u:gq} (hr:Bt β true (CS i) u):Bt β' true (av (en p:R P2)) u:=by
 obtain ⟨l,q,e⟩:=hr;exact ⟨l,Sh.rd_ok (α:=P2) h q,e⟩
theorem QD {β:Env} {e:Int} {u:gq} (h:AO β (HV e) u):AO β (GP (.pt 0 0,e)) u:=CQ (fun _ q=>xU AIa q) (fun _ q=>EM rfl q) h
theorem AIb {β:Env} {u:gq} (h:AO β (.tup [(true,CS true),(false,[.n .i64 0])]) u):AO β (GP (.inf,0)) u:=CQ (fun _ q=>xU Abh q) (fun _ q=>EM rfl q) h
theorem Abi {β:Env} {e:Int} {u:gq} (h:AO β (.tup [(true,CS false),(false,[.v (.int .i64 e)])]) u):AO β (GP (.pt 0 0,e)) u:=CQ (fun _ q=>xU AIa q) (fun _ q=>q) h
theorem Abj (x y:R gw):(rd (Bs (av x) (Bs (av y) [.b false])):Option (R P2))=some (x,y,false):=dm
theorem xV {β:Env} {x y:R gw} (hx:Cq x=true) (hy:Cq y=true) {u:gq} (h:AO β (OX x y) u):AO β (GP (mo (x,y,false),0)) u:=by
 have e:(en (mo (x,y,false):P2):R P2)=(x,y,false):=by
  show ((en (mo x:gw):R gw),(en (mo y:gw):R gw),false)=_;rw [LV hx,LV hy]
 unfold GP KJ;simp only
 rw [e];exact CQ (fun _ ⟨l,q,e⟩=>⟨l,Sh.rd_ok (α:=P2) (Abj x y) q,e⟩) (fun _ q=>EM rfl q) h
theorem AIc {n m:Nat} {xs:dt} {s:Bool} {x y:R gw} (hx:Cq x=true) (hy:Cq y=true) {C:du→du} (hC:∀ r,AM r→AM (C r)) {p1 p2 p3:List Bool}
  (h1:AU dr Lj f45 800 1 [] (Lk n m xs s p1)=some (C [(!BK (mo (x,y,false)),true)],[],HV 204,[]))
  (h2:AU dr Lj f45 800 1 [] (Lk n m xs s p2)=some (C [(!BK (mo (x,y,false)),false),(!CW (mo (x,y,false)),true)],[],HV 205,[]))
  (h3:AU dr Lj f45 800 1 [] (Lk n m xs s p3)=some (C [(!BK (mo (x,y,false)),false),(!CW (mo (x,y,false)),false)],[],OX x y,[])) :
  Ab dr 45 (Ip n m s) (A7 xs) 1 [] (GP (SM (mo (x,y,false)))) []:=by
 unfold SM;cases ho:BK (mo (x,y,false)) with
 | false =>
  rw [jn kb];exact BN (Bf VT Co func45 dm dm h1 dm (hC _ ⟨by rw [ho];rfl,trivial⟩)) fun _ _ q=>QD q
 | true =>
  rw [jo rfl];cases hi:CW (mo (x,y,false)) with
  | false =>
   rw [jn kb];exact BN (Bf VT Co func45 dm dm h2 dm (hC _ ⟨by rw [ho];rfl,by rw [hi];rfl,trivial⟩)) fun _ _ q=>QD q
  | true =>
   rw [jo rfl];exact BN (Bf VT Co func45 dm dm h3 dm (hC _ ⟨by rw [ho];rfl,by rw [hi];rfl,trivial⟩)) fun _ _ q=>xV hx hy q
theorem Yt {a b:Nat} (ha:a<pN) (hb:b<pN):Cq ((a,b):R gw)=true:=jy.2 ⟨jm ha,jm hb⟩
theorem AId (x:R gw):Cq (CA x)=true:=KF _
theorem AIe (x:R gw):Cq (ng gw x)=true:=KF _
theorem AIf {n m:Nat} {xs:dt} (hl:n≤xs.length) (hm:n≤m) (hn:AK .i64 n=true) (s:Bool) (hs1:s=true):Ab dr 45 (Ip n m s) (A7 xs) 1 [] (GP (G6 s (AA xs 0 n))) []:=by
 have hW:∀ (b d:Bool) r,b=d→AM r→AM (HU n m xs b d r):=fun b d r h hr=>⟨jr hl,jr hm,hn,h,hr⟩
 unfold G6;cases hr:Be (kT s) s (AA xs 0 n) with
 | false =>
  rw [jn kb];by_cases he:BU (kT s) s (AA xs 0 n)=0
  ·rw [jo he];cases s with
   | true=>exact BN (Bf VT Co func45 dm dm (Aba n m xs) dm (hW _ _ _ hr ⟨AIK he,AY 2 trivial⟩)) fun _ _ q=>AIb q
   | false=>cases hs1
  ·rw [jn he];cases s with
   | true=>exact BN (Bf VT Co func45 dm dm (AbZ n m xs) dm (hW _ _ _ hr ⟨g7 he,trivial⟩)) fun _ _ q=>Abi q
   | false=>cases hs1
 | true =>
  rw [jo rfl];cases s with
  | true =>
   have hx:Cq (x2 2 (AA xs 0 n))=true:=Yt (H7 hr 1 dp) (H7 hr 0 dp)
   unfold KR KP;by_cases hb:(!(D8 (mo (CA (x2 2 (AA xs 0 n))))==Al (AA xs 0 n) 32))=true
   ·simp only [jo hb];exact AIc hx (AIe _) (C:=QB n m xs true) (fun r hq=>hW _ _ _ hr ⟨rfl,rfl,AY 2 ⟨hb,hq⟩⟩) (Abb n m xs) (Abc n m xs) (Abd n m xs)
   ·simp only [jn hb];exact AIc hx (AId _) (C:=QB n m xs false) (fun r hq=>hW _ _ _ hr ⟨rfl,rfl,AY 2 ⟨by simpa using hb,hq⟩⟩) (Abe n m xs) (Abf n m xs) (Abg n m xs)
  | false=>cases hs1
noncomputable def SJn:dw:=(45,Li fun s L=>GP (G6 s L))::SJm
theorem iF:AX dr SJn:=⟨OS func45 dm dm (fun _ _=>by kernel_rfl) fun _ _ _ hl hm hn=>AIf hl hm hn true rfl,VT⟩
noncomputable abbrev oJn:ia:=AG SJn KH
theorem Abl {y:FP} (h:y≠0):-y≠0:=fun e=>h (by rw [← neg_neg y,e];exact HN)
theorem Abm {y:gw} (h:y≠0):D8 (-y)=!D8 y:=by
 unfold D8;by_cases hb:y.b=0
 ·have hb':(-y).b=0:=by show -y.b=0;rw [hb];exact HN
  have ha:y.a≠0:=fun e=>h (Qx.ext e hb)
  rw [jo hb,jo hb'];exact g9 ha
 ·rw [jn hb,jn (show ¬ (-y).b=0 from Abl hb)]
  exact g9 hb
theorem Abn (x:R gw):(mo (ng gw x):gw)=-mo x:=by unfold ng;rw [mo_en]
theorem Abo {x:R gw} {c:Bool} (h:Rg.On C2.b (mo (x,KP x c,false):P2)):D8 (mo (KP x c))=c:=by
 have hb:(mo (KP x c):gw)≠0:=C2.no2 _ _ h
 unfold KP at hb ⊢
 by_cases hq:(!(D8 (mo (CA x))==c))=true
 ·rw [jo hq] at hb ⊢;rw [Abn] at hb ⊢;have jd:(mo (CA x):gw)≠0:=fun e=>hb (by rw [e];exact HN)
  rw [Abm jd]
  revert hq
  cases D8 (mo (CA x))<;>cases c<;>decide
 ·rw [jn hq]
  revert hq
  cases D8 (mo (CA x))<;>cases c<;>decide
theorem xW (s:Bool):0<kT s:=by cases s<;>decide
theorem Abp (p:P2):l2 p=(Mx p).b.val::[(Mx p).a.val,(KB p).b.val,(KB p).a.val]:=rfl
theorem xX {x:R gw} (h:Cq x=true):(mo x:gw).a.val=x.1∧(mo x:gw).b.val=x.2:=by
 have e:=LV h;exact ⟨jw Prod.fst e,jw Prod.snd e⟩
theorem Abq {L:dt} (hL:∀ d∈L,0≤d∧d<256) {s:Bool} (h:(G6 s L).2=0):CW (G6 s L).1=true∧AA (wZ s (G6 s L).1) 0 (48*kT s)=L:=by
 unfold G6 at h ⊢
 cases hr:Be (kT s) s L with
 | false =>
  rw [hr,jn kb] at h;rw [jn kb];by_cases he:BU (kT s) s L=0
  ·rw [jo he];refine ⟨by unfold CW;rw [Gz];rfl,?_⟩
   rw [AHz,AH7];exact AIN (xW s) hL hr he (by cases s<;>rfl)
  ·rw [jn he] at h;exact absurd h he
 | true =>
  rw [hr,jo rfl] at h;rw [jo rfl];unfold SM at h ⊢
  cases ho:BK (KR s L) with
  | false=>rw [ho,jn kb] at h;cases h
  | true =>
   rw [ho,jo rfl] at h;cases hi:CW (KR s L) with
   | false=>rw [hi,jn kb] at h;cases h
   | true =>
    rw [jo rfl,jo rfl];refine ⟨hi,?_⟩
    have hon:=(LU _).1 ho
    rw [AHz,AH7,Abp];cases s with
    | true =>
     have x0:xN 2 0 L<pN:=H7 hr 0 dp
     have x1:xN 2 1 L<pN:=H7 hr 1 dp
     have hX:Mx (KR true L)=mo (x2 2 L):=rfl
     have hY:KB (KR true L)=mo (KP (x2 2 L) (Al L 32)):=rfl
     have hI:EX (KR true L)=false:=rfl
     obtain ⟨e1,e2⟩:=xX (x:=x2 2 L) (Yt x1 x0)
     rw [hI,hY,hX,Abo hon,e1,e2];exact g8 (xW true) hL hr rfl (by rw [lg])
    | false =>
     have x0:xN 4 0 L<pN:=H7 hr 0 dp
     have x1:xN 4 1 L<pN:=H7 hr 1 dp
     have x3:xN 4 2 L<pN:=H7 hr 2 dp
     have x4:xN 4 3 L<pN:=H7 hr 3 dp
     have hX:Mx (KR false L)=mo (x2 4 L):=rfl
     have hY:KB (KR false L)=mo (z2 L):=rfl
     have hI:EX (KR false L)=false:=rfl
     obtain ⟨e1,e2⟩:=xX (x:=x2 4 L) (Yt x1 x0)
     obtain ⟨e3,e4⟩:=xX (x:=z2 L) (Yt x4 x3)
     rw [hI,hY,hX,e1,e2,e3,e4];refine g8 (xW false) hL hr rfl ?_
     unfold Be at hr;simp only [jx] at hr;have:=hr.2.2.1
     rw [oy];simpa using this
section
variable {F:Type} [FD F] (C:Cv F)
theorem Abr {a p:Pt F} (ha:Rg.On C.b a) (hp:Rg.On C.b p):add (Rg.neg a) (Rg.neg p)=Rg.neg (add a p):=by
 have na:=H4 C ha;have np:=H4 C hp;have hS:=If C hp ha;have h:add (add (Rg.neg a) (Rg.neg p)) (add p a)=.inf:=by
  rw [J9 C na np hS,Pu C hp ha,H5 C na ha,YI C ha]
 have h2:=AVP C (If C na np) hS
 rw [h] at h2;rw [← h2,H5 C ha hp];rfl
theorem AIg {p:Pt F} (hp:Rg.On C.b p):∀ n,smul n (Rg.neg p)=Rg.neg (smul n p)
 | 0=>rfl
 | n+1=>by
  show add (smul n (Rg.neg p)) (Rg.neg p)=Rg.neg (add (smul n p) p);rw [AIg hp n,Abr C (CE C hp n) hp]
end
theorem Abs (p:Pt FP):Ao (Rg.neg p)=Ao p:=by cases p<;>rfl
theorem Abt {p:Pt FP} (h:BH p=true):BH (Rg.neg p)=true:=(Ih _).2 (H4 C1 ((Ih p).1 h))
theorem Abu {p:Pt FP} (h:A2 p=true):BH p=true∧Rg.On C1.b p:=by
 have:=(jy.1 h).1
 exact ⟨this,(Ih p).1 this⟩
theorem AIh {p:Pt FP} (h:A2 p=true):A2 (Rg.neg p)=true:=by
 obtain ⟨h1,h2⟩:=Abu h;unfold A2 at h ⊢
 rw [h1] at h;rw [Abt h1,AIg C1 h2,Abs];exact h
theorem Abv (p:Pt FP):A2 (Rg.neg p)=A2 p:=by
 cases h:A2 p with
 | true=>exact AIh h
 | false=>cases h2:A2 (Rg.neg p) with
  | false=>rfl
  | true =>
   have:=AIh h2
   rw [AVO,h] at this;cases this
def KQ:List (gt×List (Option IntKind)):=(209,List.replicate 36 (some .u64))::KH
theorem C':MU dr KQ:=⟨⟨dm,dm,dm⟩,Co⟩
noncomputable abbrev oQ0:ia:=AG SJn KQ
theorem iG:g_ dr oQ0:=AH iF C'
def VU (i:Int):List Ch:=[.n .u64 i,.n .u64 0,.n .u64 0,.n .u64 0,.n .u64 0,.n .u64 0,.n .u64 0,.n .u64 0,.n .u64 0,.n .u64 0,.n .u64 0,.n .u64 0]
def xY:List AV→Option AV
 | [.val false [.n .u64 i]]=>some (.val true (VU i))
 | _=>none
theorem Abw (i:Int):AJ dr oQ0 f243 [.val false [.n .u64 i]] [] 100=some ([],.val true (VU i)):=dm
theorem Abx:∀ args v,xY args=some v→AT dr 243 args v:=by
 intro args v hs;unfold xY at hs;split at hs;case h_2=>cases hs
 rename_i i;injection hs with hs;subst hs;exact AN iG AB func243 (Abw i) trivial rfl
theorem Aby:AJ dr oQ0 f185 [] [] 100=some ([],.val true AHV):=dm
theorem Abz:AT dr 185 [] (ve KC):=EY (α:=gw) (r:=(en KC:R gw)) (AN iG AB func185 Aby trivial rfl) dm
section
variable (r s:R P2)
theorem Ab0:AJ dr oQ0 f194 [va P2 r] dz 300=some ([(r.2.2,true)],.val true (CS true)):=dm
theorem Ab1:AJ dr oQ0 f194 [va P2 r] dx 300=some ([(r.2.2,false)],.val true (Bs (av (re gw r.1)) (Bs (av (re gw r.2.1)) [.b false]))):=dm
end
theorem Ab2 (r:R P2):AT dr 194 [va P2 r] (ve (mo r:P2)):=by
 have h1:=Ab0 r;have h2:=Ab1 r;obtain ⟨x,y,i⟩:=r;cases i with
 | true=>exact EY (α:=P2) (r:=(en (.inf:P2):R P2)) (AN iG AB func194 h1 ⟨rfl,trivial⟩ rfl) dm
 | false=>exact EY (α:=P2) (r:=((re gw x,re gw y,false):R P2)) (AN iG AB func194 h2 ⟨rfl,trivial⟩ rfl) dm
noncomputable def SQ0:dw:=(243,Af xY)::(185,Af (ev gw (ve KC)))::(194,Af (BZ P2 fun r=>ve (mo r:P2)))::SJn
theorem AIi:AX dr SQ0:=⟨Ah func243 dm dm Abx,Ah func185 dm dm (gB Abz),Ah func194 dm dm (Bi Ab2),iF⟩
noncomputable abbrev oQ1:ia:=AG SQ0 KQ
theorem xZ:g_ dr oQ1:=AH AIi C'
def kk (n:Nat):R gw:=((n:Nat),(0:Nat))
noncomputable def uS (x y:R gw):R gw:=mu gw (kk 4) (mu gw x (mu gw y y))
noncomputable def uM (x:R gw):R gw:=mu gw (kk 3) (mu gw x x)
noncomputable def uX (x y:R gw):R gw:=su gw (mu gw (uM x) (uM x)) (ad gw (uS x y) (uS x y))
noncomputable def uY (x y:R gw):R gw:=su gw (mu gw (uM x) (su gw (uS x y) (uX x y))) (mu gw (kk 8) (mu gw (mu gw y y) (mu gw y y)))
noncomputable def uT (r:R J2):R J2:=(uX r.1 r.2.1,uY r.1 r.2.1,mu gw (kk 2) (mu gw r.2.1 r.2.2))
theorem Ab3 (r:R J2):AJ dr oQ1 f241 [va J2 r] [] 500=some ([],va J2 (uT r)):=dm
theorem AIj:(mo (kk 2):gw)=1+1:=Qx.ext fK (by show tf 0=0+0;rw [tf_zero];exact (zero_add 0).symm)
theorem AIk:(mo (kk 3):gw)=1+1+1:=Qx.ext vV (by show tf 0=0+0+0;rw [tf_zero,zero_add,zero_add])
theorem Ab4:(mo (kk 4):gw)=1+1+(1+1):=Qx.ext vW (by show tf 0=0+0+(0+0);rw [tf_zero,zero_add,zero_add])
theorem Ab5:(mo (kk 8):gw)=1+1+(1+1)+(1+1+(1+1)):=Qx.ext AGp (by show tf 0=0+0+(0+0)+(0+0+(0+0));rw [tf_zero,zero_add,zero_add,zero_add])
theorem Ab6 (x y:gw):(1+1+(1+1))*(x*(y*y))=jD x y:=ring [x,y] (a:=(1+1+(1+1))*(x*(y*y))) (b:=x*(y*y)+x*(y*y)+(x*(y*y)+x*(y*y))) dm
theorem AIl (x:gw):(1+1+1)*(x*x)=jE x:=ring [x] (a:=(1+1+1)*(x*x)) (b:=x*x+x*x+x*x) dm
theorem Ab7 (y:gw):(1+1+(1+1)+(1+1+(1+1)))*((y*y)*(y*y))=U1 y:=ring [y] (a:=(1+1+(1+1)+(1+1+(1+1)))*((y*y)*(y*y))) (b:=((y*y)*(y*y)+(y*y)*(y*y)+((y*y)*(y*y)+(y*y)*(y*y)))+((y*y)*(y*y)+(y*y)*(y*y)+((y*y)*(y*y)+(y*y)*(y*y)))) dm
theorem Ab8 (y z:gw):(1+1)*(y*z)=y*z+y*z:=ring [y,z] (a:=(1+1)*(y*z)) (b:=y*z+y*z) dm
theorem Ab9 (r:R J2):uT r=en (Bw (mo r:J2)):=by
 unfold uT uY uX uM uS su mu ad;simp only [mo_en,AIj,AIk,Ab4,Ab5,Ab8,AIl,Ab6,Ab7];rfl
theorem Ab_ (r:R J2):AT dr 241 [va J2 r] (ve (Bw (mo r:J2))):=by
 unfold ve;rw [← Ab9];exact AN xZ AB func241 (Ab3 r) trivial rfl
theorem Ab' (r:R P2):AJ dr oQ1 f119 [va P2 r] dz 300=some ([(r.2.2,true)],.val false [.b true]):=dm
theorem AcA (r:R P2):AJ dr oQ1 f119 [va P2 r] dx 300=some ([(r.2.2,false)],Aw (YW r.1 r.2.1)):=dm
theorem AcB (r:R P2):AT dr 119 [va P2 r] (Aw (BK (mo r))):=by
 have h1:=Ab' r;have h2:=AcA r;obtain ⟨x,y,i⟩:=r;cases i with
 | true=>exact CG (AN xZ AB func119 h1 ⟨rfl,trivial⟩ rfl) fun u hu=>Gw rfl hu
 | false =>
  have e:BK (mo ((x,y,false):R P2))=YW x y:=(AHX x y).symm
  rw [e];exact AN xZ AB func119 h2 ⟨rfl,trivial⟩ rfl
noncomputable def SQ1:dw:=(241,Af (BZ J2 fun r=>ve (Bw (mo r:J2))))::(119,Af (BZ P2 fun r=>Aw (BK (mo r))))::SQ0
theorem AIm:AX dr SQ1:=⟨Ah func241 dm dm (Bi Ab_),Ah func119 dm dm (Bi AcB),AIi⟩
noncomputable abbrev oQ2:ia:=AG SQ1 KQ
theorem iH:g_ dr oQ2:=AH AIm C'
section
variable (p:R J2) (q:R P2)
theorem AcC:AJ dr oQ2 f242 [va J2 p,va P2 q] dz 500=some ([(Cp p.2.2,true)],.val true (Bs (av q.1) (Bs (av q.2.1) (VU 1)))):=dm
theorem AcD:AJ dr oQ2 f242 [va J2 p,va P2 q] fe 500=some ([(Cp p.2.2,false),(Cp (qH p.1 p.2.2 q.1),true),(Cp (qR p.2.1 p.2.2 q.2.1),true)],ve (Bw (mo p:J2))):=dm
theorem AcE:AJ dr oQ2 f242 [va J2 p,va P2 q] fl 500=some ([(Cp p.2.2,false),(Cp (qH p.1 p.2.2 q.1),true),(Cp (qR p.2.1 p.2.2 q.2.1),false)],.val true VI):=dm
theorem AcF:AJ dr oQ2 f242 [va J2 p,va P2 q] ef 500=some ([(Cp p.2.2,false),(Cp (qH p.1 p.2.2 q.1),false)],
 va J2 (SA p.1 (qH p.1 p.2.2 q.1) (qR p.2.1 p.2.2 q.2.1),VH p.1 p.2.1 (qH p.1 p.2.2 q.1) (qR p.2.1 p.2.2 q.2.1),mu gw p.2.2 (qH p.1 p.2.2 q.1))):=dm
end
theorem AcG {p:R J2} {q:R P2} (hz:Cq p.2.2=true) (hx:Cq q.1=true) (hy:Cq q.2.1=true):AT dr 242 [va J2 p,va P2 q] (ve (F0 (mo p:J2) (mo q.1) (mo q.2.1))):=by
 have ez:Cp p.2.2=decide ((mo p:J2).z=0):=by
  conv=>lhs;rw [← LV hz]
  exact OM _
 have eh:qH p.1 p.2.2 q.1=en (pH (mo p:J2) (mo q.1)):=by unfold qH su mu;simp only [mo_en];rfl
 have er:qR p.2.1 p.2.2 q.2.1=en (pR (mo p:J2) (mo q.2.1)):=by unfold qR su mu;simp only [mo_en];rfl
 have zh:Cp (qH p.1 p.2.2 q.1)=decide (pH (mo p:J2) (mo q.1)=0):=by rw [eh];exact OM _
 have zr:Cp (qR p.2.1 p.2.2 q.2.1)=decide (pR (mo p:J2) (mo q.2.1)=0):=by rw [er];exact OM _
 have r1:=AcC p q;have r2:=AcD p q;have r3:=AcE p q;have r4:=AcF p q;rw [zh,ez] at r2;rw [zh,ez,zr] at r3;rw [zr] at r2;rw [zh,ez,eh,er] at r4;rw [ez] at r1;unfold F0;by_cases h0:(mo p:J2).z=0
 ·rw [jo h0];refine EY (α:=J2) (r:=(en (⟨mo q.1,mo q.2.1,1⟩:J2):R J2)) (AN iH AB func242 r1 ⟨jm h0,trivial⟩ rfl) ?_
  have e:(en (⟨mo q.1,mo q.2.1,1⟩:J2):R J2)=(q.1,q.2.1,en (1:gw)):=by
   show ((en (mo q.1:gw),en (mo q.2.1:gw),en (1:gw)):R J2)=_;rw [LV hx,LV hy]
  rw [e];exact AHd _ _
 ·rw [jn h0];by_cases hh:pH (mo p:J2) (mo q.1)=0
  ·rw [jo hh];by_cases hr:pR (mo p:J2) (mo q.2.1)=0
   ·rw [jo hr];exact AN iH AB func242 r2 ⟨jq h0,jm hh,jm hr,trivial⟩ rfl
   ·rw [jn hr];exact EY (α:=J2) (r:=(en (⟨0,0,0⟩:J2):R J2)) (AN iH AB func242 r3 ⟨jq h0,jm hh,jq hr,trivial⟩ rfl) dm
  ·rw [jn hh];have e:((SA p.1 (en (pH (mo p:J2) (mo q.1))) (en (pR (mo p:J2) (mo q.2.1))),VH p.1 p.2.1 (en (pH (mo p:J2) (mo q.1))) (en (pR (mo p:J2) (mo q.2.1))),mu gw p.2.2 (en (pH (mo p:J2) (mo q.1)))):R J2) =
     en (⟨pX (mo p:J2).x (pH (mo p:J2) (mo q.1)) (pR (mo p:J2) (mo q.2.1)),pY (mo p:J2).x (mo p:J2).y (pH (mo p:J2) (mo q.1)) (pR (mo p:J2) (mo q.2.1)),(mo p:J2).z*pH (mo p:J2) (mo q.1)⟩:J2):=by
    unfold VH SA su mu ad;simp only [mo_en];rfl
   rw [e] at r4;exact AN iH AB func242 r4 ⟨jq h0,jq hh,trivial⟩ rfl
theorem AcH:∀ args c v,VJ args=some (c,v)→AM c→AT dr 242 args v:=by
 intro args c v hs hc us w ha;unfold VJ at hs;split at hs;case h_2=>cases hs
 split at hs;case h_2=>cases hs
 rename_i p q hx hy;injection hs with hs;injection hs with h1 h2;subst h1;subst h2;obtain ⟨u1,jf,r1,⟨u2,jg,r2,ha,rfl⟩,rfl⟩:=ha;exact AcG hc.1 hc.2.1 hc.2.2.1 _ w ⟨u1,_,F1 hx r1,⟨u2,_,F1 hy r2,ha,rfl⟩,rfl⟩
noncomputable def SQ2:dw:=(242,FO VJ)::SQ1
theorem iI:AX dr SQ2:=⟨GK func242 dm dm AcH,AIm⟩
noncomputable abbrev oQ3:ia:=AG SQ2 KQ
theorem SO:g_ dr oQ3:=AH iI C'
noncomputable def AcI:List Item:=B6 (AZ dr oQ3 (some 0) 500 1 none (Ak f186 [AQ 0 0 0 0,ve (.pt 0 0:P2)] (BE []) 1 ef))
noncomputable def vmT (ic n m:Nat) (i:Int):List AV:=.val false [.sl 0 ic n m]::.any::.any::.val false [.p 1 0]::.val false [.p 2 0]::.val false [.n .i64 0]::.any::.val false [.p 3 0]::.val false [.p 4 0]::.val false [.v (.int .i64 i)]::List.replicate (f186.ntmps-10) .any
noncomputable def vmH (xs:dt) (r:R P2) (p:P2):Heap:=[(0,some (An [.seq .u64 xs])),(1,some ⟨70,av r,false⟩),(2,some ⟨70,CS false,false⟩),(3,some ⟨70,av (en p:R P2),false⟩)]
noncomputable def OY (r:R P2) (ic n m:Nat) (xs:dt) (p:P2) (out:List Ch) (i:Int) (ie:List Bool):h_:=⟨AcI,⟨vmT ic n m i,List.append (vmH xs r p) [(4,some ⟨209,out,false⟩)],5,ie⟩⟩
abbrev kV:Option (List Nat×List Nat×Nat):=some ([0,3,4,5,7,8,9],[0,1,2,3,4],5)
theorem AcL (r:R P2) (ic n m:Nat) (xs:dt):AZ dr oQ3 (some 0) 500 1 kV (Ak f186 (P6 r ic n m) (BE xs) 1 ef) =
 some ([(!BK (mo r),false),(r.2.2,false),(AK .i64 n,true)],[],OY r ic n m xs (mo r) VI (wI (wI (64*(n:Int))-1)) []):=dm
theorem AcM (r:R P2) (ic n m:Nat) (xs:dt):AU dr oQ3 f186 500 1 [] (Ak f186 (P6 r ic n m) (BE xs) 1 dz) =
 some ([(!BK (mo r),true)],[],.tup [(true,CS false),(false,[.n .i64 120])],[]):=dm
theorem AcN (r:R P2) (ic n m:Nat) (xs:dt):AU dr oQ3 f186 500 1 [] (Ak f186 (P6 r ic n m) (BE xs) 1 ee) =
 some ([(!BK (mo r),false),(r.2.2,true)],[],.tup [(true,CS true),(false,[.n .i64 0])],[]):=dm
noncomputable def vI (j:J2):R gw:=iv gw (en j:R J2).2.2
section
variable (r:R P2) (ic n m:Nat) (xs:dt) (p:P2) (j:J2) (i:Int)
theorem AcO:AZ dr oQ3 (some 0) 500 1 kV (OY r ic n m xs p (jC2 j) i eg)=some (VD ic n xs i false [],[],OY r ic n m xs p (jC2 (Bw (jR j))) (wI (i-1)) []):=dm
theorem AcP:AZ dr oQ3 (some 0) 500 1 kV (OY r ic n m xs p (jC2 j) i d_) =
 some (VD ic n xs i true [(Cq (en (Bw (jR j))).2.2,true),(Cq (rX p),true),(Cq (rY p),true)],[],OY r ic n m xs p (jC2 (gJ j p)) (wI (i-1)) []):=dm
theorem AcQ:AU dr oQ3 f186 500 1 [] (OY r ic n m xs p (jC2 j) i ee) =
 some ([(decide (0≤i),false),(Cp (en j:R J2).2.2,true)],[],.tup [(true,CS true),(false,[.n .i64 0])],[]):=dm
theorem AcR:AU dr oQ3 f186 500 1 [] (OY r ic n m xs p (jC2 j) i ef) =
 some ([(decide (0≤i),false),(Cp (en j:R J2).2.2,false)],[],OX (mu gw (en j:R J2).1 (mu gw (vI j) (vI j))) (mu gw (en j:R J2).2.1 (mu gw (mu gw (vI j) (vI j)) (vI j))),[]):=dm
end
theorem iJ (r:R P2) (ic n m:Nat) (xs:dt) (p:P2) (j:J2) (i:Int) (q:List Bool):BW f186.ntmps (OY r ic n m xs p (jC2 j) i q).s:=AR dm
noncomputable def vmV (q:P2):AV:=match q with
 | .inf=>.tup [(true,CS true),(false,[.n .i64 0])]
 | .pt a b=>OX (en a) (en b)
section
variable {ic n m:Nat} {xs:dt} (ip:∀ d∈xs,0≤d∧d<18446744073709551616) (ii:ic+n≤xs.length) (hn:n≤1125899906842624) {r:R P2} {p:P2} (hP:Rg.On C2.b p) (hI:EX p=false) {β0:Env} {w0:gn} (hb:∀ b,1≤b→β0 b=none)
include ip ii hn hb hP hI
theorem AcS:∀ (c:Nat) (j:J2),CF j=smul (AI (AA xs ic n) / 2^c) p→c≤64*n→gz dr 186 β0 w0 (BA β0 w0 [] (vmV (smul (AI (AA xs ic n)) p)) []) f186.ntmps [] (OY r ic n m xs p (jC2 j) ((c:Int)-1) []):=by
 intro c;induction c with
 | zero =>
  intro j hj _;rw [kx,ld] at hj;rw [← hj];have ez:Cp (en j:R J2).2.2=decide (j.z=0):=OM j.z
  by_cases hz:j.z=0
  ·rw [G0 hz];exact Ai ee (A6 SO AB func186 (AcQ ..) ⟨rfl,by rw [ez];exact jm hz,trivial⟩ (iJ ..) hb jl)
  ·rw [Ig hz];have e1:mu gw (en j:R J2).1 (mu gw (vI j) (vI j))=(en (j.x*(FD.inv j.z*FD.inv j.z)):R gw):=by
    unfold vI mu iv;show en ((mo (en j.x:R gw):gw)*mo (en (mo (en (FD.inv (mo (en j.z:R gw):gw)))*mo (en (FD.inv (mo (en j.z:R gw):gw))))))=_;simp only [mo_en]
   have e2:mu gw (en j:R J2).2.1 (mu gw (mu gw (vI j) (vI j)) (vI j))=(en (j.y*((FD.inv j.z*FD.inv j.z)*FD.inv j.z)):R gw):=by
    unfold vI mu iv;show en ((mo (en j.y:R gw):gw)*mo (en (mo (en (mo (en (FD.inv (mo (en j.z:R gw):gw)))*mo (en (FD.inv (mo (en j.z:R gw):gw)))))*mo (en (FD.inv (mo (en j.z:R gw):gw))))))=_;simp only [mo_en]
   have t:=AcR r ic n m xs p j (((0:Nat):Int)-1)
   rw [e1,e2] at t;exact Ai ef (A6 SO AB func186 t ⟨rfl,by rw [ez];exact jq hz,trivial⟩ (iJ ..) hb jl)
 | succ c ih =>
  intro j hj hc;have hi:((c+1:Nat):Int)-1=(c:Int):=dn
  rw [hi];obtain ⟨hw,hjn,hv0,hr0,hbit⟩:=YY (ic:=ic) ip hn (c:=c) dn
  obtain ⟨hq1,hq2⟩:=X6 xs ic c;have ja:wI ((c:Int)-1)=(c:Int)-1:=Au dn
  have iu:∀ bit r,decide (LQ xs ic c=1)=bit→AM r→AM (VD ic n xs c bit r):=by
   intro bit r hbt hr';refine ⟨by simp,rfl,?_,?_,by simp,by simp only [jt];rw [hq2];exact ⟨hr0,hv0⟩,hbt,hr'⟩
   ·rw [hw];simp;omega
   ·rw [hw];simp;omega
  rw [← hq1] at hbit;have hoj:Rg.On C2.b (CF j):=by rw [hj];exact CE C2 hP _
  have ejR:jR j=j:=mo_en j
  have htw:CF (Bw (jR j))=smul (2*(AI (AA xs ic n) / 2^(c+1))) p:=by
   rw [ejR,Rz C2 hoj,hj,← JO C2 hP,qq]
  have hd:=gH (AI (AA xs ic n)) c
  rcases nz (AI (AA xs ic n) / 2^c) with h0 | h1
  ·refine Ai eg (Aj SO AB (AcO ..) (iu false [] (by rw [hbit,h0];rfl) trivial) (iJ ..) hb jl fun _=>?_)
   rw [ja];refine ih _ ?_ dn
   rw [htw,hd,h0];rfl
  ·refine Ai d_ (Aj SO AB (AcP ..) (iu true _ (by rw [hbit,h1];rfl) ⟨KF (Bw (jR j)).z,KF (Mx p),KF (KB p),trivial⟩) (iJ ..) hb jl fun _=>?_)
   rw [ja];refine ih _ ?_ dn
   unfold gJ;rw [mo_en,U3 C2 (by rw [htw];exact CE C2 hP _),htw,hd,h1]
   cases p with
   | inf=>cases hI
   | pt a b =>
    show add _ (.pt (mo (en a)) (mo (en b)))=_;rw [mo_en,mo_en];rfl
end
theorem AIo {β:Env} {q:P2} {u:gq} (h:AO β (vmV q) u):AO β (KJ q 0) u:=by
 cases q with
 | inf=>exact AIb h
 | pt a b =>
  have:=xV (KF a) (KF b) h
  have e:(mo ((en a,en b,false):R P2):P2)=.pt a b:=mo_en (.pt a b:P2)
  rw [e] at this;exact this
theorem AcT (r:R P2):EX (mo r:P2)=r.2.2:=by
 obtain ⟨a,b,i⟩:=r;cases i<;>rfl
theorem AcU {ic n m:Nat} {xs:dt} (ip:∀ d∈xs,0≤d∧d<18446744073709551616) (ii:ic+n≤xs.length) (hn:n≤1125899906842624) (r:R P2) :
  Ab dr 186 (P6 r ic n m) (BE xs) 1 [] (KJ (Ew (AI (AA xs ic n)) (mo r)) (FS (mo r))) []:=by
 have e1:=AcL r ic n m xs;have e2:=AcM r ic n m xs;have e3:=AcN r ic n m xs;have hpi:=AcT r;cases ho:BK (mo r) with
 | false =>
  unfold Ew FS;rw [jn (by rw [ho];exact kb),jn (by rw [ho];exact kb)]
  exact BN (A_ (ie:=dz) func186 dm dm fun β0 w0 hb =>
   A6 SO AB func186 e2 ⟨by rw [ho];rfl,trivial⟩ (AR dm) hb jl) fun β u hu=>QD hu
 | true =>
  have hP:=(LU _).1 ho
  unfold Ew FS;rw [jo ho,jo ho];cases hI:r.2.2 with
  | true =>
   rw [hI] at hpi;have hp:(mo r:P2)=.inf:=by
    generalize (mo r:P2)=p at *
    cases p with | inf=>rfl | pt a b=>cases hpi
   rw [hp,Gz];exact BN (A_ (ie:=ee) func186 dm dm fun β0 w0 hb =>
    A6 SO AB func186 e3 ⟨by rw [ho];rfl,hI,trivial⟩ (AR dm) hb jl) fun β u hu=>AIo (q:=.inf) hu
  | false =>
   rw [hI] at hpi;refine BN (A_ (ie:=ef) func186 dm dm fun β0 w0 hb=>?_) fun β u hu=>AIo hu
   refine Aj SO AB e1 ⟨by rw [ho];rfl,hI,Mq hn,trivial⟩ (AR dm) hb jl fun _=>?_
   have e4:wI (wI (64*(n:Int))-1)=((64*n:Nat):Int)-1:=by
    rw [Au (z:=64*(n:Int)) dn,Au dn];omega
   rw [e4];refine fD AHf (AcS ip ii hn hP hpi hb (64*n) ⟨0,0,0⟩ ?_ (ju _))
   rw [G0 rfl,mf (YZ ip ii)];rfl
noncomputable def SQ3:dw:=(186,D3 (gL P2 fun l r=>KJ (Ew (AI l) (mo r)) (FS (mo r))))::SQ2
theorem AIp:AX dr SQ3:=⟨EK (AHh func186 dm dm (fun _ _=>by kernel_rfl) fun _ _ _ _ r hx hl hn=>AcU hx hl hn r),iI⟩
noncomputable abbrev oQ4:ia:=AG SQ3 KQ
theorem iK:g_ dr oQ4:=AH AIp C'
noncomputable def x8 (r:R gw) (ic n m:Nat):List AV:=[va gw r,AQ 0 ic n m]
noncomputable def AcV:List Item:=B6 (AZ dr oQ4 (some 0) 100 1 none (Ak f238 (x8 (en (0:gw)) 0 0 0) (BE []) 1 []))
noncomputable def SS (ic n m:Nat) (xs:dt) (x:R gw) (v:List Ch) (i:Int) (p:List Bool):h_:=⟨AcV,⟨Dx f238.ntmps [(1,AQ 0 ic n m),(2,.val false [.p 1 0]),(4,.val false [.p 2 0]),(5,.val false [.p 3 0]),(6,iA i)],
 [(0,some (An [.seq .u64 xs])),(1,some ⟨68,av x,false⟩),(2,some ⟨68,SL,false⟩),(3,some ⟨68,v,false⟩)],4,p⟩⟩
abbrev x9:Option (List Nat×List Nat×Nat):=some ([1,2,4,5,6],[0,1,2,3],4)
theorem AcW (x:R gw) (ic n m:Nat) (xs:dt):AZ dr oQ4 (some 0) 100 1 x9 (Ak f238 (x8 x ic n m) (BE xs) 1 [])=some ([(AK .i64 n,true)],[],SS ic n m xs x (VU 1) (wI (wI (64*(n:Int))-1)) []):=dm
section
variable (ic n m:Nat) (xs:dt) (x v:R gw) (i:Int)
theorem AcX:AZ dr oQ4 (some 0) 100 1 x9 (SS ic n m xs x (av v) i d_)=some (LR ic n xs i true,[],SS ic n m xs x (av (mu gw (mu gw v v) x)) (wI (i-1)) []):=dm
theorem AcY:AZ dr oQ4 (some 0) 100 1 x9 (SS ic n m xs x (av v) i eg)=some (LR ic n xs i false,[],SS ic n m xs x (av (mu gw v v)) (wI (i-1)) []):=dm
theorem AcZ:AU dr oQ4 f238 100 1 [] (SS ic n m xs x (av v) i dx)=some ([(decide (0≤i),false)],[],va gw v,[]):=dm
end
theorem Aca (β:Env) (l:List gq) (h:AP β (VU 1) l):AP β (av (en (1:gw):R gw)) l:=Sh.rd_ok (r:=(en (1:gw):R gw)) (by kernel_rfl:rd (VU 1)=some (en (1:gw):R gw)) h
theorem pw2 (a:gw) (k:Nat):pw a k*pw a k=pw a (k+k):=(Rt a k k).symm
theorem Acc {ic n m:Nat} {xs:dt} (ip:∀ d∈xs,0≤d∧d<18446744073709551616) (ii:ic+n≤xs.length) (hn:n≤1125899906842624) (x:R gw) :
  Ab dr 238 (x8 x ic n m) (BE xs) 1 [] (ve (pw (mo x:gw) (AI (AA xs ic n)))) []:=by
 refine A_ (ie:=[]) func238 dm dm fun β0 w0 hb=>?_
 refine Aj iK AB (AcW x ic n m xs) ⟨Mq hn,trivial⟩ (AR dm) hb jl fun _=>?_
 generalize hE:AI (AA xs ic n)=E at *
 have loop:∀ c,c≤64*n→gz dr 238 β0 w0 (BA β0 w0 [] (ve (pw (mo x:gw) E)) []) f238.ntmps [] (SS ic n m xs x (av (en (pw (mo x:gw) (E / 2^c)):R gw)) ((c:Int)-1) []):=by
  intro c;induction c with
  | zero =>
   intro _;have h:=A6 (w0:=w0) (W:=[]) (n:=f238.ntmps) iK AB func238 (AcZ ic n m xs x (en (pw (mo x:gw) E)) (((0:Nat):Int)-1)) ⟨rfl,trivial⟩ (AR dm) hb jl
   rw [kx,ld];exact Ai dx h
  | succ c ih =>
   intro hc;have hi:((c+1:Nat):Int)-1=(c:Int):=dn
   rw [hi];obtain ⟨hw,hjn,hv0,hr0,hbit⟩:=YY (ic:=ic) ip hn (c:=c) dn
   obtain ⟨hq1,hq2⟩:=X6 xs ic c;rw [← hq1,hE] at hbit;have ja:wI ((c:Int)-1)=(c:Int)-1:=Au dn
   have iu:∀ bit,decide (LQ xs ic c=1)=bit→AM (LR ic n xs c bit):=by
    intro bit hbt;refine ⟨by simp,rfl,?_,?_,by simp,by simp only [jt];rw [hq2];exact ⟨hr0,hv0⟩,hbt,trivial⟩
    ·rw [hw];simp;omega
    ·rw [hw];simp;omega
   have hd:=gH E c;have ihc:=ih dn;have e1:mu gw (en (pw (mo x:gw) (E / 2^(c+1)))) (en (pw (mo x:gw) (E / 2^(c+1))))=(en (pw (mo x:gw) (2*(E / 2^(c+1)))):R gw):=by
    unfold mu;rw [mo_en,pw2,qq]
   rcases nz (E / 2^c) with h0 | h1
   ·refine Ai eg (Aj iK AB (AcY ..) (iu false (by rw [hbit,h0];rfl)) (AR dm) hb jl fun _=>?_)
    rw [ja,e1,show 2*(E / 2^(c+1))=E / 2^c by omega]
    exact ihc
   ·have e2:mu gw (en (pw (mo x:gw) (2*(E / 2^(c+1))))) x=(en (pw (mo x:gw) (2*(E / 2^(c+1))+1)):R gw):=by
     unfold mu;rw [mo_en];rfl
    refine Ai d_ (Aj iK AB (AcX ..) (iu true (by rw [hbit,h1];rfl)) (AR dm) hb jl fun _=>?_)
    rw [ja,e1,e2,show 2*(E / 2^(c+1))+1=E / 2^c by omega]
    exact ihc
 have h0:=loop (64*n) (ju _)
 have hl:=YZ ip ii;rw [hE] at hl;rw [mf hl] at h0;have e3:wI (wI (64*(n:Int))-1)=((64*n:Nat):Int)-1:=by
  rw [Au (z:=64*(n:Int)) dn,Au dn];omega
 rw [e3];refine N6 ?_ h0
 exact ⟨rfl,rfl,rfl,fun β l h=>h,rfl,rfl,rfl,fun β l h=>h,rfl,rfl,rfl,fun β l h=>h,rfl,rfl,rfl,fun β l h=>Aca β l h,trivial⟩
noncomputable def Yu (α:Type) [Sh α] (g:R α→dt→AV):ASpec:=fun args H fr ie =>
 match args with
 | [.val true a,S]=>match DS S with
  | some (k,ic,n)=>match (rd a:Option (R α)),AF H k with
   | some r,some ⟨_,cs,_⟩=>match A' .u64 cs with
    | some xs=>some (BP [k] 1 fr 0 [] (g r (AA xs ic n)) [] [(Nat.ble (ic+n) xs.length,true),(Nat.ble n 1125899906842624,true)] ie)
    | none=>none
   | _,_=>none
  | none=>none
 | _=>none
theorem yA {α:Type} [Sh α] {f:gp} {fn:Func} {g:R α→dt→AV} (jc:dr.funcs[f]? = some fn) (hb:fn.body.isSome=true) (iq:fw fn) (hk:∀ r l,EJ 1 0 [] (g r l) []=true)
  (h:∀ (ic n m:Nat) (xs:dt) (r:R α),(∀ d∈xs,0≤d∧d<18446744073709551616)→ic+n≤xs.length→n≤1125899906842624→Ab dr f [va α r,AQ 0 ic n m] (BE xs) 1 [] (g r (AA xs ic n)) []):BI dr f (Yu α g):=by
 refine DN jc hb iq fun args H fr ie r hs=>?_
 unfold Yu at hs;split at hs;case h_2=>cases hs
 rename_i a S;split at hs;case h_2=>cases hs
 rename_i k ic n hS;split at hs;case h_2=>cases hs
 rename_i q ty cs o hx hk';split at hs;case h_2=>cases hs
 rename_i xs jh;injection hs with hs;refine ⟨[k],1,0,[],_,_,_,ie,hs.symm,fun β us w ha hg hc=>?_⟩
 obtain ⟨u1,jf,r1,⟨u2,jg,r2,ha,rfl⟩,rfl⟩:=ha;obtain ⟨m,r2⟩:=E8 hS r2;obtain ⟨g1,g2,g3⟩:=LL hg hk' jh;exact ⟨[va α q,AQ 0 ic n m],BE xs,h ic n m xs q g1 (jp hc.1) (jp hc.2.1),hk _ _,⟨u1,_,F1 hx r1,⟨u2,jg,CV dn rfl r2,ha,rfl⟩,rfl⟩,g2,g3⟩
theorem AIq (a:gw) (k:Nat):∃ y,y=pw a k:=⟨_,rfl⟩
noncomputable def VV (a:gw) (k:Nat):gw:=Classical.choose (AIq a k)
theorem iL (a:gw) (k:Nat):VV a k=pw a k:=lf (AIq a k)
noncomputable def SQ4:dw:=(238,Yu gw fun r l=>ve (VV (mo r:gw) (AI l)))::SQ3
theorem AIr:AX dr SQ4:=⟨yA func238 dm dm (fun _ _=>by kernel_rfl) fun _ _ _ _ r hx hl hn=>by rw [iL];exact Acc hx hl hn r,AIp⟩
noncomputable abbrev oQ5:ia:=AG SQ4 KQ
theorem yC:g_ dr oQ5:=AH AIr C'
noncomputable def SQ5:dw:=(239,BF dr oQ5 f239 100)::(240,BF dr oQ5 f240 100)::(212,BF dr oQ5 f212 100)::SQ4
theorem AIs:AX dr SQ5:=⟨BJ yC AB func239 dm dm 100,BJ yC AB func240 dm dm 100,BJ yC AB func212 dm dm 100,AIr⟩
noncomputable abbrev oQ6:ia:=AG SQ5 KQ
theorem Acd:g_ dr oQ6:=AH AIs C'
noncomputable def SQ6:dw:=(151,BF dr oQ6 f151 300)::SQ5
theorem AIt:AX dr SQ6:=⟨BJ Acd AB func151 dm dm 300,AIs⟩
noncomputable abbrev oQ7:ia:=AG SQ6 KQ
theorem M7:g_ dr oQ7:=AH AIt C'
def Yv:dt:=AA RL 0 4
theorem AIu:AI Yv=rN:=wW
section
variable (r:R P2) (x y:Nat) (i:Bool)
theorem Ace:AJ dr oQ7 f120 [va P2 r] dz 500=some (tt 4 [(decide (FS (mo r)=0),true)],Aw (en (Ew (AI Yv) (mo r)):R P2).2.2):=dm
theorem Acf:AJ dr oQ7 f120 [va P2 r] dx 500=some (tt 4 [(decide (FS (mo r)=0),false)],.val false [.b false]):=dm
theorem Acg:AJ dr oQ7 f72 [Ax x y i] dz 500=some (tt 4 [(decide (HR (AL x y i)=0),true)],Aw (Ao (HQ (AI Yv) (AL x y i)))):=dm
theorem Ach:AJ dr oQ7 f72 [Ax x y i] dx 500=some (tt 4 [(decide (HR (AL x y i)=0),false)],.val false [.b false]):=dm
end
theorem Aci (r:R P2):AT dr 120 [va P2 r] (Aw (CW (mo r))):=by
 have h1:=Ace r;have h2:=Acf r;generalize (mo r:P2)=p at *
 unfold CW;cases ho:BK p with
 | true =>
  have e:en (Ew (AI Yv) p)=(en (smul rN p):R P2):=by unfold Ew;rw [jo ho,AIu]
  rw [e] at h1;exact AN M7 AB func120 h1 (AY 4 ⟨by unfold FS;rw [jo ho];rfl,trivial⟩) rfl
 | false=>exact CG (AN M7 AB func120 h2 (AY 4 ⟨by unfold FS;rw [jn (by rw [ho];exact kb)];rfl,trivial⟩) rfl) fun u hu=>Gw rfl hu
theorem Acj (x y:Nat) (i:Bool):AT dr 72 [Ax x y i] (Aw (A2 (AL x y i))):=by
 have h1:=Acg x y i;have h2:=Ach x y i;generalize AL x y i=p at *
 unfold A2;cases ho:BH p with
 | true =>
  have e:HQ (AI Yv) p=smul rN p:=by unfold HQ;rw [jo ho,AIu]
  rw [e] at h1;exact AN M7 AB func72 h1 (AY 4 ⟨by unfold HR;rw [jo ho];rfl,trivial⟩) rfl
 | false=>exact CG (AN M7 AB func72 h2 (AY 4 ⟨by unfold HR;rw [jn (by rw [ho];exact kb)];rfl,trivial⟩) rfl) fun u hu=>Gw rfl hu
def lwL:dt:=[0xee7fbfffffffeaaa,0x7aaffffac54ffff,0xd9cc34a83dac3d89,0xd91dd2e13ce144af,0x92c6e9ed90d2eb35,0x680447a8e5ff9a6]
def yD:dt:=[0xdcff7fffffffd555,0xf55ffff58a9ffff,0xb39869507b587b12,0xb23ba5c279c2895f,0x258dd3db21a5d66b,0xd0088f51cbff34d]
theorem Ack:AI (AA lwL 0 6)=(pN-3) / 4:=dm
theorem Acl:AI (AA yD 0 6)=(pN-1) / 2:=dm
noncomputable def gF (r:R gw):R gw:=en (VV (mo r:gw) (AI (AA lwL 0 6)))
noncomputable def Sz (r:R gw):R gw:=mu gw (gF r) r
noncomputable def S_ (r:R gw):R gw:=mu gw (gF r) (Sz r)
def yE:R gw:=((0:Nat),(1:Nat))
section
variable (r:R gw)
theorem Acm:AJ dr oQ7 f182 [va gw r] dz 500=some (tt 2 [(CI (S_ r) (ng gw (kk 1)),true)],va gw (mu gw (Sz r) yE)):=dm
theorem Acn:AJ dr oQ7 f182 [va gw r] dx 500=some (tt 2 ((CI (S_ r) (ng gw (kk 1)),false)::tt 2 []),va gw (mu gw (en (VV (mo (ad gw (kk 1) (S_ r)):gw) (AI (AA yD 0 6)))) (Sz r))):=dm
theorem Aco:AJ dr oQ7 f184 [va gw r] dz 300=some ([(dq (re FP r.1) 0,true)],DR (EV r.2)):=dm
theorem Acp:AJ dr oQ7 f184 [va gw r] dx 300=some ([(dq (re FP r.1) 0,false)],DR (EV r.1)):=dm
theorem Acq:AJ dr oQ7 f117 [va gw r] dz 300=some ([(dq (re FP r.2) 0,true)],Aw (BG r.1)):=dm
theorem Acr:AJ dr oQ7 f117 [va gw r] dx 300=some ([(dq (re FP r.2) 0,false)],Aw (BG r.2)):=dm
end
theorem AIw:(mo (kk 1):gw)=1:=Qx.ext D6 tf_zero
theorem Acs:(mo yE:gw)=uu:=Qx.ext tf_zero D6
theorem AIx (r:R gw):gF r=en (OL (mo r:gw)):=by unfold gF OL;rw [Ack,iL]
theorem yF (r:R gw):Sz r=en (Ed (mo r:gw)):=by unfold Sz Ed;rw [AIx];unfold mu;rw [mo_en]
theorem AIy (r:R gw):S_ r=en (Cz (mo r:gw)):=by unfold S_ Cz;rw [AIx,yF];unfold mu;rw [mo_en,mo_en]
theorem Acu:ng gw (kk 1)=(en (-1:gw):R gw):=by unfold ng;rw [AIw]
theorem AIz (a:gw):∃ y,y=G3 a:=⟨_,rfl⟩
noncomputable def iM (a:gw):gw:=Classical.choose (AIz a)
theorem AI0 (a:gw):iM a=G3 a:=lf (AIz a)
theorem Acv (r:R gw):AT dr 182 [va gw r] (ve (iM (mo r:gw))):=by
 rw [AI0];have h1:=Acm r;have h2:=Acn r;have ec:CI (S_ r) (ng gw (kk 1))=decide (Cz (mo r:gw)=-1):=by rw [AIy,Acu];exact R9 _ _
 rw [ec] at h1 h2;unfold G3;by_cases h:Cz (mo r:gw)=-1
 ·rw [jo h];have e:mu gw (Sz r) yE=(en (Ed (mo r:gw)*uu):R gw):=by rw [yF];unfold mu;rw [mo_en,Acs]
  rw [e] at h1;exact AN M7 AB func182 h1 (AY 2 ⟨jm h,trivial⟩) rfl
 ·rw [jn h];have e:mu gw (en (VV (mo (ad gw (kk 1) (S_ r)):gw) (AI (AA yD 0 6)))) (Sz r)=(en (pw (1+Cz (mo r:gw)) ((pN-1) / 2)*Ed (mo r:gw)):R gw):=by
   rw [yF,AIy,Acl,iL];unfold mu ad;rw [mo_en,mo_en,mo_en,AIw,mo_en]
  rw [e] at h2;exact AN M7 AB func182 h2 (AY 2 ⟨jq h,AY 2 trivial⟩) rfl
theorem Acw (r:R gw):AT dr 184 [va gw r] (DR (B8 (mo r))):=by
 have e:dq (re FP r.1) 0=decide ((mo r:gw).a=0):=M2 (mo r:gw).a 0
 have h1:=Aco r;have h2:=Acp r;rw [AIU] at h1 h2;unfold B8 Cy;by_cases h:(mo r:gw).a=0
 ·rw [jo h];exact AN M7 AB func184 h1 ⟨by rw [e];exact jm h,trivial⟩ rfl
 ·rw [jn h];exact AN M7 AB func184 h2 ⟨by rw [e];exact jq h,trivial⟩ rfl
theorem Acx (r:R gw):AT dr 117 [va gw r] (Aw (D8 (mo r))):=by
 have e:dq (re FP r.2) 0=decide ((mo r:gw).b=0):=M2 (mo r:gw).b 0
 have h1:=Acq r;have h2:=Acr r;unfold D8;by_cases h:(mo r:gw).b=0
 ·rw [jo h];rw [show BG r.1=BG (mo r:gw).a.val from gN _] at h1
  exact AN M7 AB func117 h1 ⟨by rw [e];exact jm h,trivial⟩ rfl
 ·rw [jn h];rw [show BG r.2=BG (mo r:gw).b.val from gN _] at h2
  exact AN M7 AB func117 h2 ⟨by rw [e];exact jq h,trivial⟩ rfl
noncomputable def SQ7:dw:=(72,Af (N_ fun p=>Aw (A2 p)))::(120,Af (BZ P2 fun r=>Aw (CW (mo r))))::(182,Af (BZ gw fun r=>ve (iM (mo r:gw))))::(184,Af (BZ gw fun r=>DR (B8 (mo r))))::(117,Af (BZ gw fun r=>Aw (D8 (mo r))))::SQ6
theorem AI1:AX dr SQ7:=⟨Ah func72 dm dm (R0 Acj),Ah func120 dm dm (Bi Aci),Ah func182 dm dm (Bi Acv),Ah func184 dm dm (Bi Acw),Ah func117 dm dm (Bi Acx),AIt⟩
noncomputable abbrev oQ8:ia:=AG SQ7 KQ
theorem yG:g_ dr oQ8:=AH AI1 C'
noncomputable def rR (r:R gw):R gw:=en (iM (mo r:gw))
section
variable (r:R gw)
theorem Acy:AJ dr oQ8 f115 [va gw r] dz 500=some ([(!CI (mu gw (rR r) (rR r)) (re gw r),true)],iD):=dm
theorem Acz:AJ dr oQ8 f115 [va gw r] ee 500=some ([(!CI (mu gw (rR r) (rR r)) (re gw r),false),(decide (B8 (mo (rR r))=1),true)],.tup [(true,av (ng gw (rR r))),(false,[.b true])]):=dm
theorem Ac0:AJ dr oQ8 f115 [va gw r] ef 500=some ([(!CI (mu gw (rR r) (rR r)) (re gw r),false),(decide (B8 (mo (rR r))=1),false)],.tup [(true,av (rR r)),(false,[.b true])]):=dm
end
theorem Ac1 (r:R gw):AT dr 115 [va gw r] (OW (mo r)):=by
 have h1:=Acy r;have h2:=Acz r;have h3:=Ac0 r;unfold rR at h1 h2 h3;rw [AI0] at h1 h2 h3;have e:re gw r=en (mo r:gw):=rfl
 rw [e] at h1 h2 h3;generalize (mo r:gw)=a at *
 rw [Yr] at h1 h2 h3;rw [xR] at h2 h3;rw [xQ] at h2;by_cases h:G3 a*G3 a=a
 ·obtain ⟨q1,q2⟩:=AYU h;have ht:(!decide (G3 a*G3 a=a))=false:=by rw [jm h];rfl
  unfold OW;rw [← q1,q2];unfold KD;cases hs:Cy (G3 a) with
  | true =>
   rw [jo rfl];exact CG (AN yG AB func115 h2 ⟨ht,hs,trivial⟩ rfl) fun u q=>CQ (fun _ q=>q) (fun _ q=>Ys rfl q) q
  | false =>
   rw [jn kb];exact CG (AN yG AB func115 h3 ⟨ht,hs,trivial⟩ rfl) fun u q=>CQ (fun _ q=>q) (fun _ q=>Ys rfl q) q
 ·exact CG (AN yG AB func115 h1 ⟨by rw [jq h];rfl,trivial⟩ rfl) fun u q=>xS (AYV h) q
noncomputable def SQ8:dw:=(115,Af (BZ gw fun r=>OW (mo r)))::SQ7
theorem AI2:AX dr SQ8:=⟨Ah func115 dm dm (Bi Ac1),AI1⟩
noncomputable abbrev oQ9:ia:=AG SQ8 KQ
theorem Ac2:g_ dr oQ9:=AH AI2 C'
noncomputable def SQ9:dw:=(84,BF dr oQ9 f84 3000)::SQ8
theorem Yw:AX dr SQ9:=⟨BJ Ac2 AB func84 dm dm 3000,AI2⟩
noncomputable abbrev iN:ia:=AG SQ9 KQ
def Ll (l:dt) (f:Int):dt:=l.set 0 (AW false .u8 (l.getD 0 0+f))
def VW (s i b:Bool) (B:dt):dt:=match s,i with
 | false,true=>Ll B 64
 | false,false=>B
 | true,true=>Ll (Ll B 128) 64
 | true,false=>if b=true then Ll (Ll B 128) 32 else Ll B 128
def fA (s i b:Bool) (f:Int):Int:=match s,i with
 | false,true=>AW false .u8 (f+64)
 | false,false=>f
 | true,true=>AW false .u8 (AW false .u8 (f+128)+64)
 | true,false=>if b=true then AW false .u8 (AW false .u8 (f+128)+32) else AW false .u8 (f+128)
def fA1 (s i b:Bool) (n:Nat):Bool:=decide (fA s i b n=fB s i b n)
theorem Ac4 (s i b:Bool):(List.range 32).all (fA1 s i b)=true:=by cases s<;>cases i<;>cases b<;>kernel_rfl
theorem Ac5 (s i b:Bool) {f:Int} (h0:0≤f) (h1:f<32):fA s i b f=fB s i b f:=by
 obtain ⟨n,rfl⟩:=kw h0;exact kj (nj.1 (Ac4 s i b) n (mj.2 dn))
theorem AI3 (s i b:Bool) (f:Int) (t:dt):VW s i b (f::t)=fA s i b f::t:=by cases s<;>cases i<;>cases b<;>rfl
theorem AI4 (s i b:Bool) {x:Nat} (hx:x<pN) (r:List Nat):VW s i b (cat (x::r))=DY s i b (cat (x::r)):=by
 obtain ⟨f,t,e,h0,h1⟩:=AH4 hx r;rw [e,AI3,VO,Ac5 s i b h0 h1]
theorem AI5 (s i b:Bool) {B:dt} {k:Nat} (hk:0<k):(DY s i b B).take k=DY s i b (B.take k):=by
 obtain ⟨j,rfl⟩:∃ j,k=j+1:=⟨k-1,dn⟩
 cases B with
 | nil=>cases s<;>cases i<;>cases b<;>rfl
 | cons f t=>rw [VO,ui,ui,VO]
noncomputable def yH (s:Bool) (p:Pt FP):dt:=match s with
 | true=>Bv (A8 p % pN) 48
 | false=>b1 p
noncomputable def Lo (s:Bool) (p:Pt FP):dt:=VW s (Ao p) (BG (Av p)) (yH s p)
def Yx (s:Bool):AV:=match s with
 | true=>.tup [(false,[.sx 3 48 1]),(false,[.n .i64 0])]
 | false=>.tup [(false,[.sx 5 96 1]),(false,[.n .i64 0])]
noncomputable def yI (s:Bool) (p:Pt FP):Heap:=match s with
 | true=>[(3,some ⟨5,[.seq .u8 (Lo true p)],true⟩)]
 | false=>[(5,some ⟨5,[.seq .u8 (Lo false p)],true⟩)]
def yJ (k:Nat) (l:dt):Heap:=[(k,some ⟨5,[.seq .u8 l],true⟩)]
section
variable (x y:Nat) (i:Bool)
noncomputable def Yy (s:Bool) (p:List Bool):h_:=Ak f34 [Ax x y i,.val false [.b s]] [] 0 p
theorem Ac6 (s:Bool):AU dr iN f34 1200 0 [] (Yy x y i s dz)=some ([(!A2 (AL x y i),true)],[],P7 140,[]):=by cases s<;>kernel_rfl
theorem Ac7:AU dr iN f34 1200 0 [3] (Yy x y i true [false,true,false,true,false])=some ((!A2 (AL x y i),false)::tt 8 ((false,false)::tt 4 ((Ao (AL x y i),true)::tt 4 [(BG (Av (AL x y i)),false)])),[],Yx true,yJ 3 (Ll (Ll (Bv (A8 (AL x y i) % pN) 48) 128) 64)):=dm
theorem Ac8:AU dr iN f34 1200 0 [3] (Yy x y i true [false,true,false,false,true,true])=some ((!A2 (AL x y i),false)::tt 8 ((false,false)::tt 4 ((Ao (AL x y i),false)::(BG (Av (AL x y i)),true)::(!Ao (AL x y i),true)::tt 4 [])),[],Yx true,yJ 3 (Ll (Ll (Bv (A8 (AL x y i) % pN) 48) 128) 32)):=dm
theorem Ac9:AU dr iN f34 1200 0 [3] (Yy x y i true [false,true,false,false,false])=some ((!A2 (AL x y i),false)::tt 8 ((false,false)::tt 4 ((Ao (AL x y i),false)::[(BG (Av (AL x y i)),false)])),[],Yx true,yJ 3 (Ll (Bv (A8 (AL x y i) % pN) 48) 128)):=dm
end
theorem Ac_ (r:R (Pt FP)) (s:Bool) (h:A2 (mo r)=false):Ab dr 34 [va (Pt FP) r,.val false [.b s]] [] 0 [] (P7 140) [] :=
 Bf Yw C' func34 dm dm (Ac6 r.1 r.2.1 r.2.2 s) dm ⟨by rw [show A2 (AL r.1 r.2.1 r.2.2)=false from h];rfl,trivial⟩
theorem Ac' {x y:Nat} {i:Bool} (hin:A2 (AL x y i)=true):Ab dr 34 [Ax x y i,.val false [.b true]] [] 0 [] (Yx true) (yI true (AL x y i)):=by
 have h3:=Ac7 x y i;have h4:=Ac8 x y i;have h5:=Ac9 x y i;unfold Yy at *
 generalize AL x y i=p at *
 have h0:(!A2 p)=false:=by rw [hin];rfl
 unfold yI Lo VW yH;cases hp:Ao p with
 | true =>
  have hb:BG (Av p)=false:=by
   have:p=.inf:=by cases p with | inf=>rfl | pt a b=>cases hp
   rw [this];rfl
  exact Bf Yw C' func34 dm dm h3 dm ⟨h0,AY 8 ⟨rfl,AY 4 ⟨hp,AY 4 ⟨hb,trivial⟩⟩⟩⟩
 | false =>
  by_cases hb:BG (Av p)=true
  ·simp only [jo hb];exact Bf Yw C' func34 dm dm h4 dm ⟨h0,AY 8 ⟨rfl,AY 4 ⟨hp,hb,by rw [hp];rfl,AY 4 trivial⟩⟩⟩
  ·simp only [jn hb];exact Bf Yw C' func34 dm dm h5 dm ⟨h0,AY 8 ⟨rfl,AY 4 ⟨hp,by simpa using hb,trivial⟩⟩⟩
noncomputable def SQe:dw:=(34,gO (Pt FP) A2 Yx yI 6)::SQ9
theorem S':AX dr SQe:=⟨AHs func34 dm dm (fun s _=>by cases s<;>kernel_rfl) Ac_ (fun r h=>Ac' (x:=r.1) (y:=r.2.1) (i:=r.2.2) h),Yw⟩
noncomputable abbrev oQe:ia:=AG SQe KQ
theorem H8:g_ dr oQe:=AH S' C'
abbrev ep:List Bool:=[false,false,false,false]
open Ex Num Rg
set_option maxRecDepth 100000
set_option maxHeartbeats 4000000
noncomputable abbrev qrF:Func:=f65
def qA (n m:Nat) (k:Int) (s:Bool):List AV:=[AQ 0 0 n m,.val false [.n .i64 k],.val false [.b s]]
noncomputable def M8 (xs:dt) (n m:Nat) (k:Int) (s:Bool) (p:List Bool):h_:=Ak qrF (qA n m k s) [(0,some (An [.seq .u8 xs]))] 1 p
def Ls (e:Int) (i:Bool):AV:=.tup [(false,[.v (.slice none 0 0)]),(false,[.b false]),(false,[.b i]),(false,[.n .i64 e])]
def QE (e:Int):AV:=.tup [(false,[.v (.slice none 0 0)]),(false,[.b false]),(false,[.v (.bool (decide (e=0)))]),(false,[.v (.int .i64 e)])]
def OZ (k:Nat) (jk:Bool):AV:=.tup [(false,[.sx (2+3*k) k 6]),(false,[.v (.bool jk)]),(false,[.b false]),(false,[.n .i64 0])]
theorem AdA {β β':Env} {g1 g2 g3 g4:Bool} {a a' b b' c c' d d':List Ch} {u:gq} (h1:∀ v,Bt β g1 a v→Bt β' g1 a' v) (h2:∀ v,Bt β g2 b v→Bt β' g2 b' v) (h3:∀ v,Bt β g3 c v→Bt β' g3 c' v) (h4:∀ v,Bt β g4 d v→Bt β' g4 d' v) (h:AO β (.tup [(g1,a),(g2,b),(g3,c),(g4,d)]) u):AO β' (.tup [(g1,a'),(g2,b'),(g3,c'),(g4,d')]) u:=by
 obtain ⟨us,⟨u1,l1,q1,⟨u2,l2,q2,⟨u3,l3,q3,⟨u4,l4,q4,q5,q6⟩,q7⟩,q8⟩,q9⟩,q10⟩:=h;exact ⟨us,⟨u1,l1,h1 _ q1,⟨u2,l2,h2 _ q2,⟨u3,l3,h3 _ q3,⟨u4,l4,h4 _ q4,q5,q6⟩,q7⟩,q8⟩,q9⟩,q10⟩
theorem M9 {e e':Int} {i:Bool} (he:e=e') (hi:i=decide (e'=0)):∀ (β:Env) (u:gq),AO β (Ls e i) u→AO β (QE e') u:=fun β u h=>by
 subst he;exact AdA (fun _ q=>q) (fun _ q=>q) (fun _ q=>Ys hi q) (fun _ q=>EM rfl q) h
noncomputable def AdB:List Item:=B6 (AZ dr oQe (some 0) 800 1 none (M8 [] 48 48 1 true eq))
noncomputable def Oi (xs ls:dt) (n:Nat) (jk:Bool) (i:Int) (p:List Bool):h_:=⟨AdB,⟨Dx qrF.ntmps [(10,.val false [.v (.bool jk)]),(11,.val false [.sx 2 n 1]),(12,.val false [.n .i64 i])],gU xs ls,3,p⟩⟩
noncomputable def AdC:List Item:=B6 (AZ dr oQe (some 0) 800 1 none (M8 [] 48 48 1 true ep))
noncomputable def AdD (k:Int) (jk:Bool):List AV:=[.any,.val false [.n .i64 k],.any,.any,.any,.any,.any,.any,.any,.any,.val false [.v (.bool jk)]]
noncomputable def AdE:List AV:=.any::.val false [.v (.slice none 0 0)]::.val false [.n .i64 0]::List.replicate (qrF.ntmps-15) AV.any
noncomputable def KS (xs ls:dt) (k:Int) (jk:Bool) (i:AV) (p:List Bool):h_:=⟨AdC,⟨AdD k jk++i::AdE,gU xs ls,3,p⟩⟩
abbrev yK:Option (List Nat×List Nat×Nat):=some ([10,11,12],[0,2],3)
abbrev qK2:Option (List Nat×List Nat×Nat):=some ([1,10,11,13,14],[0,2],3)
def TA (xs:dt) (s b:Bool) (r:du):du:=(true,true)::(false,false)::(true,true)::(decide (0<xs.length),true)::(true,true)::(decide (0<xs.length),true)::(!(Al xs 128==s),b)::r
def Yz (xs:dt) (n m:Nat) (c:Bool) (r:du):du:=(true,true)::(decide (0<xs.length),true)::(true,true)::(Nat.beq m 1,false)::(true,true)::(Nat.ble n xs.length,true)::(true,true)::(true,true)::(decide (0<xs.length),true)::(Al xs 64,c)::r
def QF (C lo hi:Nat) (ls:dt) (e:Bool) (r:du):du:=(decide ((0:Int)≤(hi:Int)∧(hi:Int)≤(C:Int)),true)::(true,true)::(Nat.beq C lo,false)::(Nat.ble hi ls.length,true)::(true,true)::(!decide (H3 48 (CJ ls lo)=0),e)::r
section
variable (xs ls:dt) (n m C:Nat) (i:Int) (jk:Bool)
def yL (r:du):du:=(AK .i64 n,true)::(decide (i<n),true)::(decide (0≤i∧i<n),true)::(decide (0+i.toNat*1<ls.length),true)::r
theorem AdF:AZ dr oQe (some 0) 800 1 yK (Oi xs ls n jk i e_)=some (yL ls n i [(!decide (ls.getD (0+i.toNat*1) 0=0),false),(jk,false)],[],Oi xs ls n jk (AW true .i64 (i+1)) []):=dm
theorem AdG:AU dr oQe qrF 800 1 [] (Oi xs ls n jk i dx)=some ([(AK .i64 n,true),(decide (i<n),false)],[],Ls 0 true,[]):=dm
theorem AdH:AU dr oQe qrF 800 1 [] (Oi xs ls n jk i d_)=some (yL ls n i [(!decide (ls.getD (0+i.toNat*1) 0=0),true)],[],Ls 202 false,[]):=dm
theorem AdI:AU dr oQe qrF 800 1 [] (Oi xs ls n jk i ew)=some (yL ls n i [(!decide (ls.getD (0+i.toNat*1) 0=0),false),(jk,true)],[],Ls 202 false,[]):=dm
theorem AdJ:AU dr oQe qrF 800 1 [] (M8 xs n m 1 true dz)=some ([(AK .i64 n,true),(!decide ((n:Int)=48),true)],[],Ls 200 false,[]):=dm
theorem AdK:AU dr oQe qrF 800 1 [] (M8 xs 48 m 1 true ee)=some (TA xs true true [],[],Ls 201 false,[]):=dm
theorem AdL:AZ dr oQe (some 0) 800 1 yK (M8 xs 48 m 1 true eq)=some (TA xs true false ((Yz xs 48 m true [])),[],Oi xs (B_ xs 47) 48 (Al xs 32) 0 []):=dm
theorem AI7:AZ dr oQe (some 0) 800 1 qK2 (M8 xs 48 m 1 true ep)=some (TA xs true false ((Yz xs 48 m false [])),[],KS xs (B_ xs 47) 1 (Al xs 32) (.val false [.sx 2 48 1]) []):=dm
theorem AdM:AU dr oQe qrF 800 1 [] (M8 xs n m 2 true dz)=some ([(AK .i64 n,true),(!decide ((n:Int)=96),true)],[],Ls 200 false,[]):=dm
theorem AdN:AU dr oQe qrF 800 1 [] (M8 xs 96 m 2 true ee)=some (TA xs true true [],[],Ls 201 false,[]):=dm
theorem AdO:AZ dr oQe (some 0) 800 1 yK (M8 xs 96 m 2 true eq)=some (TA xs true false ((Yz xs 96 m true [])),[],Oi xs (B_ xs 95) 96 (Al xs 32) 0 []):=dm
theorem AI8:AZ dr oQe (some 0) 800 1 qK2 (M8 xs 96 m 2 true ep)=some (TA xs true false ((Yz xs 96 m false [])),[],KS xs (B_ xs 95) 2 (Al xs 32) (.val false [.sx 2 96 1]) []):=dm
theorem AdP:AU dr oQe qrF 800 1 [5] (KS xs ls 1 jk (.val false [.sl 2 0 48 C]) ef)=some (QF C 0 48 ls false ((true,true)::[]),[],OZ 1 jk,FU 1 [.num 6 (Gy 48 (CJ ls 0))]):=dm
theorem AdQ:AU dr oQe qrF 800 1 [] (KS xs ls 1 jk (.val false [.sl 2 0 48 C]) ee)=some (QF C 0 48 ls true [],[],Ls 203 false,[]):=dm
theorem AdR:AU dr oQe qrF 800 1 [8] (KS xs ls 2 jk (.val false [.sl 2 0 96 C]) ep)=some (QF C 0 48 ls false ((true,true)::QF C 48 96 ls false ((true,true)::[])),[],OZ 2 jk,FU 2 [.num 6 (Gy 48 (CJ ls 0)),.num 6 (Gy 48 (CJ ls 48))]):=dm
theorem AdS:AU dr oQe qrF 800 1 [] (KS xs ls 2 jk (.val false [.sl 2 0 96 C]) ee)=some (QF C 0 48 ls true [],[],Ls 203 false,[]):=dm
theorem AdT:AU dr oQe qrF 800 1 [] (KS xs ls 2 jk (.val false [.sl 2 0 96 C]) eq)=some (QF C 0 48 ls false ((true,true)::QF C 48 96 ls true []),[],Ls 203 false,[]):=dm
end
theorem iO (xs ls:dt) (n:Nat) (jk:Bool) (i:Int) (p:List Bool):BW qrF.ntmps (Oi xs ls n jk i p).s:=AR dm
theorem Y0 (xs ls:dt) (K:Int) (jk:Bool) (k n C:Nat) (p:List Bool):BW qrF.ntmps (KS xs ls K jk (.val false [.sl k 0 n C]) p).s:=AR dm
section
variable {xs ls:dt} {n:Nat} {jk:Bool} (hl:ls.length=n) (hn:0<n) (hm:n≤1000) {β0:Env} {w0:gn} (hb:∀ b,1≤b→β0 b=none)
include hl hn hm hb
theorem AI9:∀ c i:Nat,i+c=n→(∀ j,j<i→ls.getD j 0=0)→(0<i→jk=false)→gz dr 65 β0 w0 (BA β0 w0 [] (QE (G5 ls jk)) []) qrF.ntmps [] (Oi xs ls n jk (i:Nat) []):=by
 have hB:AK .i64 (n:Int)=true:=by simp only [AK,jx,jt];omega
 intro c;induction c with
 | zero =>
  intro i hi hz hbig;have hin:i=n:=dn
  subst hin;have e:G5 ls jk=0:=by
   unfold G5 Ld;rw [AIB hl hz,hbig hn];rfl
  rw [e];exact Ai dx (IW (A6 H8 AB func65 (AdG xs ls i (i:Nat) jk) ⟨hB,jq dn,trivial⟩ (iO ..) hb jl) (M9 rfl rfl))
 | succ c ih =>
  intro i hi hz hbig;have c1:decide (((i:Nat):Int)<(n:Int))=true:=jm dn
  have c2:decide (0≤((i:Nat):Int)∧((i:Nat):Int)<(n:Int))=true:=jm dn
  have c3:decide (0+((i:Nat):Int).toNat*1<ls.length)=true:=jm dn
  have ei:0+((i:Nat):Int).toNat*1=i:=dn
  by_cases h0:ls.getD i 0=0
  ·have z:(!decide (ls.getD (0+((i:Nat):Int).toNat*1) 0=0))=false:=by rw [ei,jm h0];rfl
   cases hq:jk with
   | true =>
    have e:G5 ls jk=202:=by
     unfold G5 Ld;rw [hq,pu,ny,jn kb]
    rw [← hq,e];exact Ai ew (IW (A6 H8 AB func65 (AdI xs ls n (i:Nat) jk) ⟨hB,c1,c2,c3,z,hq,trivial⟩ (iO ..) hb jl) (M9 rfl rfl))
   | false =>
    rw [← hq];refine Ai e_ (Aj H8 AB (AdF xs ls n (i:Nat) jk) ⟨hB,c1,c2,c3,z,hq,trivial⟩ (iO ..) hb jl fun _=>?_)
    rw [Xk true dn,show ((i:Nat):Int)+1=((i+1:Nat):Int) from rfl]
    refine ih (i+1) dn (fun j hj=>?_) (fun _=>hq)
    rcases kf j i with q | q
    ·exact hz j q
    ·rw [show j=i by omega];exact h0
  ·have e:G5 ls jk=202:=by
    unfold G5 Ld;cases ha:ls.all (fun d=>decide (d=0)) with
    | true=>exact absurd (AIC dn ha) h0
    | false=>rw [oy,jn kb]
   rw [e];exact Ai d_ (IW (A6 H8 AB func65 (AdH xs ls n (i:Nat) jk) ⟨hB,c1,c2,c3,by rw [ei,jq h0];rfl,trivial⟩ (iO ..) hb jl) (M9 rfl rfl))
end
theorem AI_ {C lo:Nat} (h:lo<C):Nat.beq C lo=false:=by
 cases hq:Nat.beq C lo with
 | false=>rfl
 | true=>have:=nf hq;omega
theorem TB {C lo hi:Nat} {ls:dt} {e:Bool} {r:du} (h1:lo<hi) (h2:hi≤C) (h3:hi≤ls.length) (h4:(!decide (H3 48 (CJ ls lo)=0))=e) (hr:AM r):AM (QF C lo hi ls e r) :=
 ⟨jm ⟨dn,dn⟩,rfl,AI_ dn,jr h3,rfl,h4,hr⟩
section
variable {xs ls:dt} {jk:Bool} {C:Nat} {β0:Env} {w0:gn} (hb:∀ b,1≤b→β0 b=none)
include hb
theorem AdU (hC:48≤C) (hl:ls.length=48) (h0:CJ ls 0<pN):gz dr 65 β0 w0 (BA β0 w0 [] (OZ 1 jk) (FU 1 (Im ls 1))) qrF.ntmps [] (KS xs ls 1 jk (.val false [.sl 2 0 48 C]) []):=by
 have t:=AdP xs ls C jk;rw [OQ h0] at t;exact Ai ef (A6 H8 AB func65 t (TB dp dn dn (Le h0) ⟨rfl,trivial⟩) (Y0 ..) hb jl)
theorem AdV (hC:48≤C) (hl:ls.length=48) (h:FH ls 1=false):gz dr 65 β0 w0 (BA β0 w0 [] (QE 203) []) qrF.ntmps [] (KS xs ls 1 jk (.val false [.sl 2 0 48 C]) []):=by
 by_cases h0:CJ ls 0<pN;case neg=>exact Ai ee (IW (A6 H8 AB func65 (AdQ xs ls C jk) (TB dp dn dn (VR h0) trivial) (Y0 ..) hb jl) (M9 rfl rfl))
 have:FH ls 1=true:=by
  show (decide (CJ ls 0<pN)&&true)=true;rw [jm h0];rfl
 rw [this] at h;cases h
theorem AdW (hC:96≤C) (hl:ls.length=96) (h0:CJ ls 0<pN) (h1:CJ ls 48<pN):gz dr 65 β0 w0 (BA β0 w0 [] (OZ 2 jk) (FU 2 (Im ls 2))) qrF.ntmps [] (KS xs ls 2 jk (.val false [.sl 2 0 96 C]) []):=by
 have t:=AdR xs ls C jk;rw [OQ h0,OQ h1] at t;exact Ai ep (A6 H8 AB func65 t (TB dp dn dn (Le h0) ⟨rfl,TB dp dn dn (Le h1) ⟨rfl,trivial⟩⟩) (Y0 ..) hb jl)
theorem AdX (hC:96≤C) (hl:ls.length=96) (h:FH ls 2=false):gz dr 65 β0 w0 (BA β0 w0 [] (QE 203) []) qrF.ntmps [] (KS xs ls 2 jk (.val false [.sl 2 0 96 C]) []):=by
 by_cases h0:CJ ls 0<pN;case neg=>exact Ai ee (IW (A6 H8 AB func65 (AdS xs ls C jk) (TB dp dn dn (VR h0) trivial) (Y0 ..) hb jl) (M9 rfl rfl))
 by_cases h1:CJ ls 48<pN;case neg=>exact Ai eq (IW (A6 H8 AB func65 (AdT xs ls C jk) (TB dp dn dn (Le h0) ⟨rfl,TB dp dn dn (VR h1) trivial⟩) (Y0 ..) hb jl) (M9 rfl rfl))
 have:FH ls 2=true:=by
  show (decide (CJ ls 0<pN)&&(decide (CJ ls 48<pN)&&true))=true;rw [jm h0,jm h1];rfl
 rw [this] at h;cases h
end
theorem QG {xs:dt} {s b:Bool} {r:du} (h:0<xs.length) (hs:(!(Al xs 128==s))=b) (hr:AM r):AM (TA xs s b r):=by
 have e:=jm h;exact ⟨rfl,rfl,rfl,e,rfl,e,hs,hr⟩
theorem VX {xs:dt} {n m:Nat} {c:Bool} {r:du} (h:0<xs.length) (hn:n≤xs.length) (hm:1<m) (h2:Al xs 64=c) (hr:AM r):AM (Yz xs n m c r) :=
 ⟨rfl,jm h,rfl,AI_ hm,rfl,jr hn,rfl,rfl,jm h,h2,hr⟩
theorem AdY {xs:dt} {n m:Nat} (hl:n≤xs.length) (hm:n≤m) (hn:AK .i64 n=true) (hr:Be 1 true (AA xs 0 n)=false):Ab dr 65 (qA n m 1 true) (A7 xs) 1 [] (QE (BU 1 true (AA xs 0 n))) []:=by
 by_cases hk:n=48;case neg =>
  have e:BU 1 true (AA xs 0 n)=200:=by unfold BU;rw [KM hl,jo hk]
  rw [e];exact BN (Bf S' C' func65 dm dm (AdJ xs n m) dm ⟨hn,by rw [jq dn];rfl,trivial⟩) (M9 rfl rfl)
 subst hk;have hx:0<xs.length:=dn
 have hw:=KM hl;have er:=P9 (xs:=xs) (n:=48) dp
 have elen:=OR (xs:=xs) (k:=47) dn
 unfold BU Be at *
 rw [DI dp,DI dp,DI dp,er,hw,jm rfl,lg] at hr;rw [DI dp,DI dp,DI dp,er,hw,jn (fun h=>h rfl)]
 by_cases f1:Al xs 128=true;case neg =>
  rw [jo f1];exact BN (Bf S' C' func65 dm dm (AdK xs m) dm (QG hx (by cases hq:Al xs 128<;>first | rfl | exact absurd hq f1) trivial)) (M9 rfl rfl)
 rw [jn (fun h=>h f1)]
 rw [jm f1,lg] at hr;have p0:(!(Al xs 128==true))=false:=by rw [f1];rfl
 rw [jn (fun h=>by rw [pu,ny] at h;cases h)]
 rw [pu,ny,qw,lg] at hr;cases f3:Al xs 64 with
 | true =>
  rw [jo rfl];refine A_ (ie:=eq) func65 dm dm fun β0 w0 hb=>?_
  exact Aj H8 AB (AdL xs m) (QG hx p0 (VX hx hl dn f3 trivial)) (AR dm) hb jl fun _=>AI9 elen dp dp hb 48 0 dp (fun j hj=>absurd hj (pf j)) (fun h=>absurd h (ri 0))
 | false =>
  rw [f3] at hr;have hr':FH (B_ xs 47) 1=false:=hr
  rw [jn kb,jn (by rw [hr'];exact kb)]
  refine A_ (ie:=ep) func65 dm dm fun β0 w0 hb=>?_
  exact Aj H8 AB (AI7 xs m) (QG hx p0 (VX hx hl dn f3 trivial)) (AR dm) hb jl fun _=>KL fun C hC=>AdV hb hC elen hr'
theorem AdZ {xs:dt} {n m:Nat} (hl:n≤xs.length) (hm:n≤m) (hr:Be 1 true (AA xs 0 n)=true):Ab dr 65 (qA n m 1 true) (A7 xs) 1 [] (OZ 1 (Al (AA xs 0 n) 32)) (FU 1 (Im (B_ (AA xs 0 n) 47) 1)):=by
 unfold Be at hr;simp only [jx,jt] at hr;obtain ⟨hk,f1,f2,f3,h4⟩:=hr;rw [KM hl] at hk;have hk':n=48:=hk
 subst hk';have hx:0<xs.length:=dn
 have er:=P9 (xs:=xs) (n:=48) dp
 have elen:=OR (xs:=xs) (k:=47) dn
 rw [DI dp] at f1 f2 f3;rw [er] at h4;rw [DI dp,er];have p0:(!(Al xs 128==true))=false:=by rw [f1];rfl
 have f3':Al xs 64=false:=by cases hq:Al xs 64 with | false=>rfl | true=>rw [hq] at f3;cases f3
 refine A_ (ie:=ep) func65 dm dm fun β0 w0 hb=>?_
 exact Aj H8 AB (AI7 xs m) (QG hx p0 (VX hx hl dn f3' trivial)) (AR dm) hb jl fun _=>KL fun C hC=>AdU hb hC elen (M6 h4 0 dp)
theorem Ada {xs:dt} {n m:Nat} (hl:n≤xs.length) (hm:n≤m) (hn:AK .i64 n=true) (hr:Be 2 true (AA xs 0 n)=false):Ab dr 65 (qA n m 2 true) (A7 xs) 1 [] (QE (BU 2 true (AA xs 0 n))) []:=by
 by_cases hk:n=96;case neg =>
  have e:BU 2 true (AA xs 0 n)=200:=by unfold BU;rw [KM hl,jo hk]
  rw [e];exact BN (Bf S' C' func65 dm dm (AdM xs n m) dm ⟨hn,by rw [jq dn];rfl,trivial⟩) (M9 rfl rfl)
 subst hk;have hx:0<xs.length:=dn
 have hw:=KM hl;have er:=P9 (xs:=xs) (n:=96) dp
 have elen:=OR (xs:=xs) (k:=95) dn
 unfold BU Be at *
 rw [DI dp,DI dp,DI dp,er,hw,jm rfl,lg] at hr;rw [DI dp,DI dp,DI dp,er,hw,jn (fun h=>h rfl)]
 by_cases f1:Al xs 128=true;case neg =>
  rw [jo f1];exact BN (Bf S' C' func65 dm dm (AdN xs m) dm (QG hx (by cases hq:Al xs 128<;>first | rfl | exact absurd hq f1) trivial)) (M9 rfl rfl)
 rw [jn (fun h=>h f1)]
 rw [jm f1,lg] at hr;have p0:(!(Al xs 128==true))=false:=by rw [f1];rfl
 rw [jn (fun h=>by rw [pu,ny] at h;cases h)]
 rw [pu,ny,qw,lg] at hr;cases f3:Al xs 64 with
 | true =>
  rw [jo rfl];refine A_ (ie:=eq) func65 dm dm fun β0 w0 hb=>?_
  exact Aj H8 AB (AdO xs m) (QG hx p0 (VX hx hl dn f3 trivial)) (AR dm) hb jl fun _=>AI9 elen dp dp hb 96 0 dp (fun j hj=>absurd hj (pf j)) (fun h=>absurd h (ri 0))
 | false =>
  rw [f3] at hr;have hr':FH (B_ xs 95) 2=false:=hr
  rw [jn kb,jn (by rw [hr'];exact kb)]
  refine A_ (ie:=ep) func65 dm dm fun β0 w0 hb=>?_
  exact Aj H8 AB (AI8 xs m) (QG hx p0 (VX hx hl dn f3 trivial)) (AR dm) hb jl fun _=>KL fun C hC=>AdX hb hC elen hr'
theorem Adb {xs:dt} {n m:Nat} (hl:n≤xs.length) (hm:n≤m) (hr:Be 2 true (AA xs 0 n)=true):Ab dr 65 (qA n m 2 true) (A7 xs) 1 [] (OZ 2 (Al (AA xs 0 n) 32)) (FU 2 (Im (B_ (AA xs 0 n) 95) 2)):=by
 unfold Be at hr;simp only [jx,jt] at hr;obtain ⟨hk,f1,f2,f3,h4⟩:=hr;rw [KM hl] at hk;have hk':n=96:=hk
 subst hk';have hx:0<xs.length:=dn
 have er:=P9 (xs:=xs) (n:=96) dp
 have elen:=OR (xs:=xs) (k:=95) dn
 rw [DI dp] at f1 f2 f3;rw [er] at h4;rw [DI dp,er];have p0:(!(Al xs 128==true))=false:=by rw [f1];rfl
 have f3':Al xs 64=false:=by cases hq:Al xs 64 with | false=>rfl | true=>rw [hq] at f3;cases f3
 refine A_ (ie:=ep) func65 dm dm fun β0 w0 hb=>?_
 exact Aj H8 AB (AI8 xs m) (QG hx p0 (VX hx hl dn f3' trivial)) (AR dm) hb jl fun _=>KL fun C hC=>AdW hb hC elen (M6 h4 0 dp) (M6 h4 1 dp)
def TC (k:Int) (s:Bool):Option Nat:=if k=1 then (match s with | true=>some 1 | false=>none) else if k=2 then (match s with | true=>some 2 | false=>none) else none
theorem Adc {k:Int} {s:Bool} {K:Nat} (hK:TC k s=some K) {xs:dt} {n m:Nat} (hl:n≤xs.length) (hm:n≤m) (hn:AK .i64 n=true) (hr:Be K s (AA xs 0 n)=false):Ab dr 65 (qA n m k s) (A7 xs) 1 [] (QE (BU K s (AA xs 0 n))) []:=by
 unfold TC at hK;split at hK
 ·rename_i e;subst e;cases s
  ·cases hK
  ·injection hK with hK;subst hK;exact AdY hl hm hn hr
 ·split at hK
  ·rename_i e;subst e;cases s
   ·cases hK
   ·injection hK with hK;subst hK;exact Ada hl hm hn hr
  ·cases hK
theorem Ade {k:Int} {s:Bool} {K:Nat} (hK:TC k s=some K) {xs:dt} {n m:Nat} (hl:n≤xs.length) (hm:n≤m) (hr:Be K s (AA xs 0 n)=true):Ab dr 65 (qA n m k s) (A7 xs) 1 [] (OZ K (Al (AA xs 0 n) 32)) (FU K (Im (B_ (AA xs 0 n) (48*K-1)) K)):=by
 unfold TC at hK;split at hK
 ·rename_i e;subst e;cases s
  ·cases hK
  ·injection hK with hK;subst hK;exact AdZ hl hm hr
 ·split at hK
  ·rename_i e;subst e;cases s
   ·cases hK
   ·injection hK with hK;subst hK;exact Adb hl hm hr
  ·cases hK
theorem Adf {k:Int} {s:Bool} {K:Nat} (hK:TC k s=some K):K=1∨K=2:=by
 unfold TC at hK;split at hK
 ·cases s
  ·cases hK
  ·injection hK with hK;omega
 ·split at hK
  ·cases s
   ·cases hK
   ·injection hK with hK;omega
  ·cases hK
theorem Adg {K:Nat} (h:K=1∨K=2) (b:Bool) (l:dt):EJ 1 (3*K+2) [] (OZ K b) (FU K (Im l K))=true:=by
 rcases h with rfl | rfl<;>kernel_rfl
noncomputable def rqSp:ASpec:=fun args H fr ie=>match args with
 | [S,.val false [.n .i64 h],B]=>match Io S,FY (some B) with
  | some (k,n,m),some (_,s)=>match AF H k,TC h s with
   | some ⟨_,cs,_⟩,some K=>match A' .u8 cs,ie with
    | some xs,true::ij=>some (BP [k] 1 fr 0 [] (QE (BU K s (AA xs 0 n))) [] (g5 n m xs (Be K s (AA xs 0 n)) false) ij)
    | some xs,false::ij=>some (BP [k] 1 fr (3*K+2) [] (OZ K (Al (AA xs 0 n) 32)) (FU K (Im (B_ (AA xs 0 n) (48*K-1)) K)) (g5 n m xs (Be K s (AA xs 0 n)) true) ij)
    | _,_=>none
   | _,_=>none
  | _,_=>none
 | _=>none
theorem Adh:BI dr 65 rqSp:=by
 refine DN func65 dm dm fun args H fr ie r hs=>?_
 unfold rqSp at hs;split at hs;case h_2=>cases hs
 rename_i S h B;split at hs;case h_2=>cases hs
 rename_i k n m c s hS hB;split at hs;case h_2=>cases hs
 rename_i ty cs o K hk' hK;split at hs;case h_3=>cases hs
 all_goals
  rename_i xs ij jh;injection hs with hs
 ·refine ⟨[k],1,0,[],_,_,_,ij,hs.symm,fun β us w ha hg hc=>?_⟩
  obtain ⟨u1,jf,r1,⟨u2,jg,r2,⟨u3,us3,r3,ha,rfl⟩,rfl⟩,rfl⟩:=ha;obtain ⟨hl,hm,hn,hr,_⟩:=hc;obtain ⟨m',hm',r1⟩:=KO hS (jp hm) r1
  obtain ⟨g1,g2,g3⟩:=EP hg hk' jh;exact ⟨qA n m' h s,A7 xs,Adc hK (jp hl) hm' hn hr,dm,⟨u1,_,CV dn rfl r1,⟨u2,_,r2,⟨u3,us3,SF hB r3,ha,rfl⟩,rfl⟩,rfl⟩,g2,g3⟩
 ·refine ⟨[k],1,3*K+2,[],_,_,_,ij,hs.symm,fun β us w ha hg hc=>?_⟩
  obtain ⟨u1,jf,r1,⟨u2,jg,r2,⟨u3,us3,r3,ha,rfl⟩,rfl⟩,rfl⟩:=ha;obtain ⟨hl,hm,hn,hr,_⟩:=hc;obtain ⟨m',hm',r1⟩:=KO hS (jp hm) r1
  obtain ⟨g1,g2,g3⟩:=EP hg hk' jh;exact ⟨qA n m' h s,A7 xs,Ade hK (jp hl) hm' hr,Adg (Adf hK) _ _,⟨u1,_,CV dn rfl r1,⟨u2,_,r2,⟨u3,us3,SF hB r3,ha,rfl⟩,rfl⟩,rfl⟩,g2,g3⟩
noncomputable def SQf:dw:=(65,rqSp)::SQe
theorem JT:AX dr SQf:=⟨Adh,S'⟩
noncomputable abbrev ER:ia:=AG SQf KQ
open Ex Num Rg
open Sh (R av rd mo en mo_en)
noncomputable def Y1 (x:Nat):Bool:=CX (ad FP (mu FP (mu FP x x) x) (4:Nat))
noncomputable def Y2 (x:R gw):Bool:=CZ (mo (ad gw (mu gw (mu gw x x) x) ((4:Nat),(4:Nat))))
def yM (b:Bool):List Ch:=[.n .u64 0,.n .u64 0,.n .u64 0,.n .u64 0,.n .u64 0,.n .u64 0,.n .u64 0,.n .u64 0,.n .u64 0,.n .u64 0,.n .u64 0,.n .u64 0,.v (.bool b)]
def VY (b:Bool):List Ch:=List.replicate 24 (.n .u64 0)++[.v (.bool b)]
section
variable (n m:Nat) (xs:dt)
noncomputable def KT (s:Bool) (p:List Bool):h_:=Ak f29 (Ip n m s) (A7 xs) 1 p
noncomputable def KU (s:Bool) (p:List Bool):h_:=Ak f53 (Ip n m s) (A7 xs) 1 p
theorem Adi:AU dr ER f29 800 1 [] (KT n m xs true d_)=some (HU n m xs (Be 1 true (AA xs 0 n)) false [(!decide (BU 1 true (AA xs 0 n)=0),true)],[],.tup [(true,yM (decide (BU 1 true (AA xs 0 n)=0))),(false,[.v (.int .i64 (BU 1 true (AA xs 0 n)))])],[]):=dm
theorem Adj:AU dr ER f29 800 1 [] (KT n m xs true ew)=some (HU n m xs (Be 1 true (AA xs 0 n)) false [(!decide (BU 1 true (AA xs 0 n)=0),false),(decide (BU 1 true (AA xs 0 n)=0),true)],[],.tup [(true,yM (decide (BU 1 true (AA xs 0 n)=0))),(false,[.v (.int .i64 (BU 1 true (AA xs 0 n)))])],[]):=dm
noncomputable def Oj (b:Bool) (r:du):du:=HU n m xs (Be 1 true (AA xs 0 n)) true (tt 1 ((!Y1 (xN 1 0 (AA xs 0 n)),b)::r))
theorem Adk:AU dr ER f29 800 1 [] (KT n m xs true ee)=some (Oj n m xs true [],[],dE 204,[]):=dm
theorem Adl:AU dr ER f29 800 1 [] (KT n m xs true fo)=some (Oj n m xs false ([(!(BG (yR (xN 1 0 (AA xs 0 n)))==Al (AA xs 0 n) 32),true),(!BH (AL (xN 1 0 (AA xs 0 n)) (ng FP (yR (xN 1 0 (AA xs 0 n)))) false),true)]),[],dE 204,[]):=dm
theorem Adm:AU dr ER f29 800 1 [] (KT n m xs true fk)=some (Oj n m xs false ([(!(BG (yR (xN 1 0 (AA xs 0 n)))==Al (AA xs 0 n) 32),true),(!BH (AL (xN 1 0 (AA xs 0 n)) (ng FP (yR (xN 1 0 (AA xs 0 n)))) false),false),(!A2 (AL (xN 1 0 (AA xs 0 n)) (ng FP (yR (xN 1 0 (AA xs 0 n)))) false),true)]),[],dE 205,[]):=dm
theorem Adn:AU dr ER f29 800 1 [] (KT n m xs true fj)=some (Oj n m xs false ([(!(BG (yR (xN 1 0 (AA xs 0 n)))==Al (AA xs 0 n) 32),true),(!BH (AL (xN 1 0 (AA xs 0 n)) (ng FP (yR (xN 1 0 (AA xs 0 n)))) false),false),(!A2 (AL (xN 1 0 (AA xs 0 n)) (ng FP (yR (xN 1 0 (AA xs 0 n)))) false),false)]),[],dP (xN 1 0 (AA xs 0 n)) (ng FP (yR (xN 1 0 (AA xs 0 n)))),[]):=dm
theorem Ado:AU dr ER f29 800 1 [] (KT n m xs true eq)=some (Oj n m xs false ([(!(BG (yR (xN 1 0 (AA xs 0 n)))==Al (AA xs 0 n) 32),false),(!BH (AL (xN 1 0 (AA xs 0 n)) (yR (xN 1 0 (AA xs 0 n))) false),true)]),[],dE 204,[]):=dm
theorem Adp:AU dr ER f29 800 1 [] (KT n m xs true fi)=some (Oj n m xs false ([(!(BG (yR (xN 1 0 (AA xs 0 n)))==Al (AA xs 0 n) 32),false),(!BH (AL (xN 1 0 (AA xs 0 n)) (yR (xN 1 0 (AA xs 0 n))) false),false),(!A2 (AL (xN 1 0 (AA xs 0 n)) (yR (xN 1 0 (AA xs 0 n))) false),true)]),[],dE 205,[]):=dm
theorem Adq:AU dr ER f29 800 1 [] (KT n m xs true ff)=some (Oj n m xs false ([(!(BG (yR (xN 1 0 (AA xs 0 n)))==Al (AA xs 0 n) 32),false),(!BH (AL (xN 1 0 (AA xs 0 n)) (yR (xN 1 0 (AA xs 0 n))) false),false),(!A2 (AL (xN 1 0 (AA xs 0 n)) (yR (xN 1 0 (AA xs 0 n))) false),false)]),[],dP (xN 1 0 (AA xs 0 n)) (yR (xN 1 0 (AA xs 0 n))),[]):=dm
theorem Adr:AU dr ER f53 800 1 [] (KU n m xs true d_)=some (HU n m xs (Be 2 true (AA xs 0 n)) false [(!decide (BU 2 true (AA xs 0 n)=0),true)],[],.tup [(true,VY (decide (BU 2 true (AA xs 0 n)=0))),(false,[.v (.int .i64 (BU 2 true (AA xs 0 n)))])],[]):=dm
theorem Ads:AU dr ER f53 800 1 [] (KU n m xs true ew)=some (HU n m xs (Be 2 true (AA xs 0 n)) false [(!decide (BU 2 true (AA xs 0 n)=0),false),(decide (BU 2 true (AA xs 0 n)=0),true)],[],.tup [(true,VY (decide (BU 2 true (AA xs 0 n)=0))),(false,[.v (.int .i64 (BU 2 true (AA xs 0 n)))])],[]):=dm
noncomputable def Ok (b:Bool) (r:du):du:=HU n m xs (Be 2 true (AA xs 0 n)) true (tt 2 ((!Y2 (x2 2 (AA xs 0 n)),b)::r))
theorem Adt:AU dr ER f53 800 1 [] (KU n m xs true ee)=some (Ok n m xs true [],[],HV 204,[]):=dm
theorem Adu:AU dr ER f53 800 1 [] (KU n m xs true fo)=some (Ok n m xs false ([(!(D8 (mo (CA (x2 2 (AA xs 0 n))))==Al (AA xs 0 n) 32),true),(!BK (mo ((x2 2 (AA xs 0 n)),(ng gw (CA (x2 2 (AA xs 0 n)))),false):P2),true)]),[],HV 204,[]):=dm
theorem Adv:AU dr ER f53 800 1 [] (KU n m xs true fk)=some (Ok n m xs false ([(!(D8 (mo (CA (x2 2 (AA xs 0 n))))==Al (AA xs 0 n) 32),true),(!BK (mo ((x2 2 (AA xs 0 n)),(ng gw (CA (x2 2 (AA xs 0 n)))),false):P2),false),(!CW (mo ((x2 2 (AA xs 0 n)),(ng gw (CA (x2 2 (AA xs 0 n)))),false):P2),true)]),[],HV 205,[]):=dm
theorem Adw:AU dr ER f53 800 1 [] (KU n m xs true fj)=some (Ok n m xs false ([(!(D8 (mo (CA (x2 2 (AA xs 0 n))))==Al (AA xs 0 n) 32),true),(!BK (mo ((x2 2 (AA xs 0 n)),(ng gw (CA (x2 2 (AA xs 0 n)))),false):P2),false),(!CW (mo ((x2 2 (AA xs 0 n)),(ng gw (CA (x2 2 (AA xs 0 n)))),false):P2),false)]),[],OX (x2 2 (AA xs 0 n)) (ng gw (CA (x2 2 (AA xs 0 n)))),[]):=dm
theorem Adx:AU dr ER f53 800 1 [] (KU n m xs true eq)=some (Ok n m xs false ([(!(D8 (mo (CA (x2 2 (AA xs 0 n))))==Al (AA xs 0 n) 32),false),(!BK (mo ((x2 2 (AA xs 0 n)),(CA (x2 2 (AA xs 0 n))),false):P2),true)]),[],HV 204,[]):=dm
theorem Ady:AU dr ER f53 800 1 [] (KU n m xs true fi)=some (Ok n m xs false ([(!(D8 (mo (CA (x2 2 (AA xs 0 n))))==Al (AA xs 0 n) 32),false),(!BK (mo ((x2 2 (AA xs 0 n)),(CA (x2 2 (AA xs 0 n))),false):P2),false),(!CW (mo ((x2 2 (AA xs 0 n)),(CA (x2 2 (AA xs 0 n))),false):P2),true)]),[],HV 205,[]):=dm
theorem Adz:AU dr ER f53 800 1 [] (KU n m xs true ff)=some (Ok n m xs false ([(!(D8 (mo (CA (x2 2 (AA xs 0 n))))==Al (AA xs 0 n) 32),false),(!BK (mo ((x2 2 (AA xs 0 n)),(CA (x2 2 (AA xs 0 n))),false):P2),false),(!CW (mo ((x2 2 (AA xs 0 n)),(CA (x2 2 (AA xs 0 n))),false):P2),false)]),[],OX (x2 2 (AA xs 0 n)) (CA (x2 2 (AA xs 0 n))),[]):=dm
end
theorem Ad0 {x:Nat} (h:Y1 x=false) (c:Bool):BH (AL x (yB x c) false)=false:=by
 cases ho:BH (AL x (yB x c) false) with
 | false=>rfl
 | true =>
  have hq:tf (yB x c)*tf (yB x c)=tf x*tf x*tf x+Dy:=(Ih _).1 ho
  have h2:=My hq;unfold Y1 at h;rw [(AIP x).2,h2] at h;cases h
theorem Ad1 {x:R gw} (h:Y2 x=false) (c:Bool):BK (mo (x,KP x c,false))=false:=by
 cases ho:BK (mo (x,KP x c,false)) with
 | false=>rfl
 | true =>
  have hq:(mo (KP x c):gw)*mo (KP x c)=mo x*mo x*mo x+KC:=(LU _).1 ho
  have e:(mo (ad gw (mu gw (mu gw x x) x) ((4:Nat),(4:Nat))):gw)=mo x*mo x*mo x+KC:=by
   unfold ad mu;rw [mo_en,mo_en,mo_en];rfl
  have h2:=Ij.2 ⟨_,hq⟩
  unfold Y2 at h;rw [e,h2] at h;cases h
theorem AI' {β:Env} {e:Int} {q:Pt FP} {b:Bool} (hb:b=Ao q) (h0:A8 q=0) (h1:Av q=0) {u:gq} (h:AO β (.tup [(true,yM b),(false,[.v (.int .i64 e)])]) u):AO β (FI (q,e)) u:=by
 subst hb;have e1:FI (q,e)=.tup [(true,[.num 6 0,.num 6 0,.v (.bool (Ao q))]),(false,[.v (.int .i64 e)])]:=by
  show Mw q e=_;unfold Mw;rw [h0,h1]
 rw [e1];exact CQ (fun _ q=>(G1 (x:=0) (y:=0) dm q).1) (fun _ q=>q) h
theorem AJA {β:Env} {e:Int} {q:P2} {b:Bool} (hq:(rd (VY b):Option (R P2))=some (en q)) {u:gq} (h:AO β (.tup [(true,VY b),(false,[.v (.int .i64 e)])]) u):AO β (GP (q,e)) u :=
 CQ (fun _ ⟨l,q,e⟩=>⟨l,Sh.rd_ok (α:=P2) hq q,e⟩) (fun _ q=>q) h
theorem Ad2:(rd (VY true):Option (R P2))=some (en (.inf:P2)):=dm
theorem Ad3:(rd (VY false):Option (R P2))=some (en (.pt 0 0:P2)):=dm
theorem AJB {n m:Nat} {xs:dt} {s:Bool} {x y:Nat} (hx:x<pN) (hy:y<pN) {C:du→du} (hC:∀ r,AM r→AM (C r)) {p1 p2 p3:List Bool}
  (h1:AU dr ER f29 800 1 [] (KT n m xs s p1)=some (C [(!BH (AL x y false),true)],[],dE 204,[]))
  (h2:AU dr ER f29 800 1 [] (KT n m xs s p2)=some (C [(!BH (AL x y false),false),(!A2 (AL x y false),true)],[],dE 205,[]))
  (h3:AU dr ER f29 800 1 [] (KT n m xs s p3)=some (C [(!BH (AL x y false),false),(!A2 (AL x y false),false)],[],dP x y,[])) :
  Ab dr 29 (Ip n m s) (A7 xs) 1 [] (FI (P' (AL x y false))) []:=by
 unfold P';cases ho:BH (AL x y false) with
 | false =>
  rw [jn kb];exact BN (Bf JT C' func29 dm dm h1 dm (hC _ ⟨by rw [ho];rfl,trivial⟩)) fun _ _ q=>Yp q
 | true =>
  rw [jo rfl];cases hi:A2 (AL x y false) with
  | false =>
   rw [jn kb];exact BN (Bf JT C' func29 dm dm h2 dm (hC _ ⟨by rw [ho];rfl,by rw [hi];rfl,trivial⟩)) fun _ _ q=>Yp q
  | true =>
   rw [jo rfl];exact BN (Bf JT C' func29 dm dm h3 dm (hC _ ⟨by rw [ho];rfl,by rw [hi];rfl,trivial⟩)) fun _ _ q=>AII hx hy q
theorem AJC {n m:Nat} {xs:dt} (hl:n≤xs.length) (hm:n≤m) (hn:AK .i64 n=true) (s:Bool) (hs1:s=true):Ab dr 29 (Ip n m s) (A7 xs) 1 [] (FI (EQ s (AA xs 0 n))) []:=by
 have hW:∀ (b d:Bool) r,b=d→AM r→AM (HU n m xs b d r):=fun b d r h hr=>⟨jr hl,jr hm,hn,h,hr⟩
 cases hr:Be (kS s) s (AA xs 0 n) with
 | false =>
  unfold EQ;rw [hr,jn kb];by_cases he:BU (kS s) s (AA xs 0 n)=0
  ·rw [jo he];cases s with
   | true =>
    have t:=Adj n m xs;have he:BU 1 true (AA xs 0 n)=0:=he
    rw [he] at t;exact BN (Bf JT C' func29 dm dm t dm (hW _ _ _ hr ⟨rfl,rfl,trivial⟩)) fun _ _ q=>AI' (q:=.inf) rfl rfl rfl q
   | false=>cases hs1
  ·rw [jn he];cases s with
   | true =>
    exact BN (Bf JT C' func29 dm dm (Adi n m xs) dm (hW _ _ _ hr ⟨g7 he,trivial⟩)) fun _ _ q=>by
     have he:¬ BU 1 true (AA xs 0 n)=0:=he
     rw [jq he] at q;exact AI' (q:=.pt 0 0) rfl rfl rfl q
   | false=>cases hs1
 | true =>
  cases s with
  | true =>
   have hx:=H7 hr 0 dp;cases hs:Y1 (xN 1 0 (AA xs 0 n)) with
   | false =>
    have ev:EQ true (AA xs 0 n)=(.pt 0 0,204):=by
     unfold EQ;rw [hr,jo rfl];unfold P';rw [show BH (JR true (AA xs 0 n))=false from Ad0 hs _,jn kb]
    rw [ev];exact BN (Bf JT C' func29 dm dm (Adk n m xs) dm (hW _ _ _ hr (AY 1 ⟨by rw [hs];rfl,trivial⟩))) fun _ _ q=>Yp q
   | true =>
    unfold EQ;rw [hr,jo rfl];unfold JR yB;have hs':(!Y1 (xN 1 0 (AA xs 0 n)))=false:=by rw [hs];rfl
    by_cases hb:(!(BG (yR (xN 1 0 (AA xs 0 n)))==Al (AA xs 0 n) 32))=true
    ·simp only [jo hb];exact AJB hx (xH _) (C:=fun r=>Oj n m xs false ((!(BG (yR (xN 1 0 (AA xs 0 n)))==Al (AA xs 0 n) 32),true)::r)) (fun r hq=>hW _ _ _ hr (AY 1 ⟨hs',hb,hq⟩)) (Adl n m xs) (Adm n m xs) (Adn n m xs)
    ·simp only [jn hb];exact AJB hx (Yq _) (C:=fun r=>Oj n m xs false ((!(BG (yR (xN 1 0 (AA xs 0 n)))==Al (AA xs 0 n) 32),false)::r)) (fun r hq=>hW _ _ _ hr (AY 1 ⟨hs',by simpa using hb,hq⟩)) (Ado n m xs) (Adp n m xs) (Adq n m xs)
  | false=>cases hs1
theorem AJD {n m:Nat} {xs:dt} {s:Bool} {x y:R gw} (hx:Cq x=true) (hy:Cq y=true) {C:du→du} (hC:∀ r,AM r→AM (C r)) {p1 p2 p3:List Bool}
  (h1:AU dr ER f53 800 1 [] (KU n m xs s p1)=some (C [(!BK (mo (x,y,false):P2),true)],[],HV 204,[]))
  (h2:AU dr ER f53 800 1 [] (KU n m xs s p2)=some (C [(!BK (mo (x,y,false):P2),false),(!CW (mo (x,y,false):P2),true)],[],HV 205,[]))
  (h3:AU dr ER f53 800 1 [] (KU n m xs s p3)=some (C [(!BK (mo (x,y,false):P2),false),(!CW (mo (x,y,false):P2),false)],[],OX x y,[])) :
  Ab dr 53 (Ip n m s) (A7 xs) 1 [] (GP (SM (mo (x,y,false):P2))) []:=by
 unfold SM;cases ho:BK (mo (x,y,false):P2) with
 | false =>
  rw [jn kb];exact BN (Bf JT C' func53 dm dm h1 dm (hC _ ⟨by rw [ho];rfl,trivial⟩)) fun _ _ q=>QD q
 | true =>
  rw [jo rfl];cases hi:CW (mo (x,y,false):P2) with
  | false =>
   rw [jn kb];exact BN (Bf JT C' func53 dm dm h2 dm (hC _ ⟨by rw [ho];rfl,by rw [hi];rfl,trivial⟩)) fun _ _ q=>QD q
  | true =>
   rw [jo rfl];exact BN (Bf JT C' func53 dm dm h3 dm (hC _ ⟨by rw [ho];rfl,by rw [hi];rfl,trivial⟩)) fun _ _ q=>xV hx hy q
theorem AJE {n m:Nat} {xs:dt} (hl:n≤xs.length) (hm:n≤m) (hn:AK .i64 n=true) (s:Bool) (hs1:s=true):Ab dr 53 (Ip n m s) (A7 xs) 1 [] (GP (G6 s (AA xs 0 n))) []:=by
 have hW:∀ (b d:Bool) r,b=d→AM r→AM (HU n m xs b d r):=fun b d r h hr=>⟨jr hl,jr hm,hn,h,hr⟩
 cases hr:Be (kT s) s (AA xs 0 n) with
 | false =>
  unfold G6;rw [hr,jn kb];by_cases he:BU (kT s) s (AA xs 0 n)=0
  ·rw [jo he];cases s with
   | true =>
    have t:=Ads n m xs;have he:BU 2 true (AA xs 0 n)=0:=he
    rw [he] at t;exact BN (Bf JT C' func53 dm dm t dm (hW _ _ _ hr ⟨rfl,rfl,trivial⟩)) fun _ _ q=>AJA (q:=.inf) Ad2 q
   | false=>cases hs1
  ·rw [jn he];cases s with
   | true =>
    exact BN (Bf JT C' func53 dm dm (Adr n m xs) dm (hW _ _ _ hr ⟨g7 he,trivial⟩)) fun _ _ q=>by
     have he:¬ BU 2 true (AA xs 0 n)=0:=he
     rw [jq he] at q;exact AJA (q:=.pt 0 0) Ad3 q
   | false=>cases hs1
 | true =>
  cases s with
  | true =>
   have hx:=Yt (H7 hr 1 dp) (H7 hr 0 dp)
   cases hs:Y2 (x2 2 (AA xs 0 n)) with
   | false =>
    have ev:G6 true (AA xs 0 n)=(.pt 0 0,204):=by
     unfold G6;rw [hr,jo rfl];unfold SM;rw [show BK (KR true (AA xs 0 n))=false from Ad1 hs _,jn kb]
    rw [ev];exact BN (Bf JT C' func53 dm dm (Adt n m xs) dm (hW _ _ _ hr (AY 2 ⟨by rw [hs];rfl,trivial⟩))) fun _ _ q=>QD q
   | true =>
    unfold G6;rw [hr,jo rfl];unfold KR KP;have hs':(!Y2 (x2 2 (AA xs 0 n)))=false:=by rw [hs];rfl
    by_cases hb:(!(D8 (mo (CA (x2 2 (AA xs 0 n))))==Al (AA xs 0 n) 32))=true
    ·simp only [jo hb];exact AJD hx (AIe _) (C:=fun r=>Ok n m xs false ((!(D8 (mo (CA (x2 2 (AA xs 0 n))))==Al (AA xs 0 n) 32),true)::r)) (fun r hq=>hW _ _ _ hr (AY 2 ⟨hs',hb,hq⟩)) (Adu n m xs) (Adv n m xs) (Adw n m xs)
    ·simp only [jn hb];exact AJD hx (AId _) (C:=fun r=>Ok n m xs false ((!(D8 (mo (CA (x2 2 (AA xs 0 n))))==Al (AA xs 0 n) 32),false)::r)) (fun r hq=>hW _ _ _ hr (AY 2 ⟨hs',by simpa using hb,hq⟩)) (Adx n m xs) (Ady n m xs) (Adz n m xs)
  | false=>cases hs1
noncomputable def SQg:dw:=(29,Li fun s L=>FI (EQ s L))::(53,Li fun s L=>GP (G6 s L))::SQf
theorem AJF:AX dr SQg:=⟨OS func29 dm dm (fun _ _=>by kernel_rfl) fun _ _ _ hl hm hn=>AJC hl hm hn true rfl,OS func53 dm dm (fun _ _=>by kernel_rfl) fun _ _ _ hl hm hn=>AJE hl hm hn true rfl,JT⟩
noncomputable def SQs:dw:=(249,BF dr (AG SQ2 KQ) f249 300)::SQ2
theorem AJG:AX dr SQs:=⟨BJ (AH iI C') AB func249 dm dm 300,iI⟩
noncomputable abbrev oQs:ia:=AG SQs KQ
theorem iQ:g_ dr oQs:=AH AJG C'
def e2 (a b:R gw):Bool:=dq a.1 b.1&&dq a.2 b.2
noncomputable def sC (x y x' y':R gw):R gw:=mu gw (su gw (re gw y') (re gw y)) (iv gw (su gw (re gw x') (re gw x)))
noncomputable def sT (x y:R gw):R gw:=mu gw (mu gw (kk 3) (mu gw (re gw x) (re gw x))) (iv gw (mu gw (kk 2) (re gw y)))
noncomputable def aX (l x x':R gw):R gw:=su gw (su gw (mu gw l l) x) x'
noncomputable def aY (l x y X:R gw):R gw:=su gw (mu gw l (su gw x X)) y
noncomputable def aP (l x y x':R gw):R P2:=(aX l x x',aY l x y (aX l x x'),false)
noncomputable def aL (l x y x':R gw):AV:=.val true (Bs (av (aX l x x')) (Bs (av (aY l x y (aX l x x'))) [.b false]))
section
variable (r s:R P2) (x y x' y':R gw)
theorem Ad4:AJ dr oQs f191 [va P2 r,va P2 s] dz 300=some ([(r.2.2,true)],ve (mo s:P2)):=dm
theorem Ad5:AJ dr oQs f191 [va P2 r,va P2 s] ee 300=some ([(r.2.2,false),(s.2.2,true)],ve (mo r:P2)):=dm
theorem Ad6:AJ dr oQs f191 [va P2 (x,y,false),va P2 (x',y',false)] fh 300=some ([(false,false),(false,false),(e2 (re gw x) (re gw x'),false)],aL (sC x y x' y') x y x'):=dm
theorem Ad7:AJ dr oQs f191 [va P2 (x,y,false),va P2 (x',y',false)] fo 300=some ([(false,false),(false,false),(e2 (re gw x) (re gw x'),true),(!e2 (re gw y) (re gw y'),true)],.val true (CS true)):=dm
theorem Ad8:AJ dr oQs f191 [va P2 (x,y,false),va P2 (x',y',false)] fk 300=some ([(false,false),(false,false),(e2 (re gw x) (re gw x'),true),(!e2 (re gw y) (re gw y'),false),(e2 (re gw y) (kk 0),true)],.val true (CS true)):=dm
theorem Ad9:AJ dr oQs f191 [va P2 (x,y,false),va P2 (x',y',false)] fj 300=some ([(false,false),(false,false),(e2 (re gw x) (re gw x'),true),(!e2 (re gw y) (re gw y'),false),(e2 (re gw y) (kk 0),false)],aL (sT x y) x y x'):=dm
end
theorem iR (a b:gw):e2 (en a) (en b)=decide (a=b):=by
 unfold e2;by_cases h:a=b
 ·subst h;rw [jm rfl];exact jy.2 ⟨jm rfl,jm rfl⟩
 ·rw [jq h];cases hq:(dq (en a:R gw).1 (en b:R gw).1&&dq (en a:R gw).2 (en b:R gw).2) with
  | false=>rfl
  | true =>
   obtain ⟨h1,h2⟩:=jy.1 hq;exact absurd (Qx.ext (Fin.ext (kj h1)) (Fin.ext (kj h2))) h
theorem AJH (l x y x':R gw):aP l x y x'=en (GM (mo x:gw) (mo y) (mo x') (mo l)):=by
 unfold aP aY aX su mu;simp only [mo_en];rfl
theorem yN (x y x' y':R gw):(mo (sC x y x' y'):gw)=(mo y'-mo y)*FD.inv (mo x'-mo x):=by
 unfold sC mu su iv re;simp only [mo_en]
theorem Ad_ (y:gw):(1+1)*y=y+y:=ring [y] (a:=(1+1)*y) (b:=y+y) dm
theorem AJI (x y:R gw):(mo (sT x y):gw)=(mo x*mo x+mo x*mo x+mo x*mo x)*FD.inv (mo y+mo y):=by
 unfold sT mu iv re;simp only [mo_en,AIj,AIk,AIl,Ad_];rfl
theorem kk0:kk 0=en (0:gw):=dm
theorem Ad' (r s:R P2):AT dr 191 [va P2 r,va P2 s] (ve (Rg.add (mo r:P2) (mo s))):=by
 have h1:=Ad4 r s;have h2:=Ad5 r s;obtain ⟨x,y,i⟩:=r;obtain ⟨x',y',i'⟩:=s;cases i with
 | true=>exact AN iQ AB func191 h1 ⟨rfl,trivial⟩ rfl
 | false =>
  cases i' with
  | true=>exact AN iQ AB func191 h2 ⟨rfl,rfl,trivial⟩ rfl
  | false =>
   have rc:=Ad6 x y x' y';have rn:=Ad7 x y x' y';have rz:=Ad8 x y x' y';have rt:=Ad9 x y x' y';have hE:∀ a b:R gw,e2 (re gw a) (re gw b)=decide ((mo a:gw)=mo b):=fun a b=>iR _ _
   have hK:∀ a:R gw,e2 (re gw a) (kk 0)=decide ((mo a:gw)=0):=fun a=>by rw [kk0];exact iR _ _
   simp only [hE,hK] at rc rn rz rt;have hs:∀ {p c} {l:R gw},AJ dr oQs f191 [va P2 (x,y,false),va P2 (x',y',false)] p 300=some (c,aL l x y x')→AM c→AT dr 191 [va P2 (x,y,false),va P2 (x',y',false)] (ve (GM (mo x:gw) (mo y) (mo x') (mo l))):=fun {_ _ l} h hc=>by
    unfold ve;rw [← AJH];exact EY (α:=P2) (r:=aP l x y x') (AN iQ AB func191 h hc rfl) dm
   have hz:∀ {p c},AJ dr oQs f191 [va P2 (x,y,false),va P2 (x',y',false)] p 300=some (c,.val true (CS true))→AM c→AT dr 191 [va P2 (x,y,false),va P2 (x',y',false)] (ve (.inf:P2)):=fun h hc=>EY (α:=P2) (r:=(en (.inf:P2):R P2)) (AN iQ AB func191 h hc rfl) dm
   show AT _ _ _ (ve (Rg.add (.pt (mo x:gw) (mo y)) (.pt (mo x') (mo y'))));rw [JN];by_cases hx:(mo x:gw)=mo x'
   ·rw [jo hx];by_cases hy:(mo y:gw)=mo y'
    ·by_cases h0:(mo y:gw)=0
     ·rw [jn (fun h=>h.2 h0)]
      exact hz rz ⟨rfl,rfl,jm hx,by rw [jm hy];rfl,jm h0,trivial⟩
     ·rw [jo ⟨hy,h0⟩];rw [← AJI];exact hs rt ⟨rfl,rfl,jm hx,by rw [jm hy];rfl,jq h0,trivial⟩
    ·rw [jn (fun h=>hy h.1)]
     exact hz rn ⟨rfl,rfl,jm hx,by rw [jq hy];rfl,trivial⟩
   ·rw [jn hx];rw [← yN];exact hs rc ⟨rfl,rfl,jq hx,trivial⟩
noncomputable def SQt:dw:=(191,Af (DO P2 P2 fun r s=>ve (Rg.add (mo r:P2) (mo s))))::SQs
theorem AJK:AX dr SQt:=⟨Ah func191 dm dm (DX Ad'),AJG⟩
theorem AeA (s i b:Bool) (B:dt):(VW s i b B).length=B.length:=by
 cases B with
 | nil=>cases s<;>cases i<;>cases b<;>rfl
 | cons f t=>rw [AI3];rfl
theorem AJL (s:Bool) (p:Pt FP):yH s p=cat ((l1 p).take (kS s)):=by
 cases s with
 | false=>exact VQ p
 | true =>
  show Bv (A8 p % pN) 48=Bv (A8 p) 48++[];rw [jv (Py p),lh]
theorem AeB (s:Bool) (p:Pt FP):(Lo s p).length=48*kS s:=by
 unfold Lo;rw [AeA,AJL,Yn];cases s<;>rfl
theorem AeC (s:Bool) (p:Pt FP):M4 (AA (E0 s p) 0 (48*kS s)) (AA (Lo s p) 0 (48*kS s))=true:=by
 refine jm ?_
 have hl:VW s (Ao p) (BG (Av p)) (cat ((l1 p).take (kS s)))=DY s (Ao p) (BG (Av p)) (cat ((l1 p).take (kS s))):=by
  cases s
  ·exact AI4 _ _ _ (Py p) [Av p]
  ·exact AI4 _ _ _ (Py p) []
 show List.take (48*kS s) (E0 s p)=List.take (48*kS s) (Lo s p);unfold Lo;rw [Ym,VQ,AJL,hl,AI5 _ _ _ (by have:=SK s;omega),AI5 _ _ _ (by have:=SK s;omega),VP,VP,List.take_take,Nat.min_self]
end Go.Proofs.YtgnajdcdcblaoaaGreat
namespace Go.Proofs.YtgnajdcdcblaoaaGreat.Rg
set_option synthInstance.maxSize 100000
set_option synthInstance.maxHeartbeats 400000
structure RH {F G:Type} [CR F] [CR G] (σ:F→G):Prop where
 add:∀ x y,σ (x+y)=σ x+σ y
 mul:∀ x y,σ (x*y)=σ x*σ y
 one:σ 1=1
section
variable {F:Type} [CR F] {β ξ:F}
theorem RH.zero {G:Type} [CR G] {σ:F→G} (h:RH σ):σ 0=0:=by
 have e:σ 0+σ 0=σ 0+0:=by rw [← h.add,zero_add,add_zero]
 exact vA e
theorem Qx.conj_rh:RH (Qx.conj:Qx β→Qx β) where
 add _ _:=Qx.ext rfl (YA _ _)
 mul:=Qx.conj_mul
 one:=Qx.ext rfl HN
theorem Qx.conj_conj (x:Qx β):x.conj.conj=x:=Qx.ext rfl (neg_neg _)
def kM (σ:F→F) (g:F) (x:Kx ξ):Kx ξ:=⟨σ x.a,σ x.b*g,σ x.c*(g*g)⟩
theorem AeD {σ:F→F} {g:F} (h:RH σ) (hg:σ ξ=ξ*(g*(g*g))):RH (kM σ g:Kx ξ→Kx ξ) where
 add x y:=Kx.ext (h.add _ _) (by show σ (x.b+y.b)*g=_;rw [h.add,add_mul];rfl) (by show σ (x.c+y.c)*(g*g)=_;rw [h.add,add_mul];rfl)
 mul x y:=by
  refine Kx.ext ?_ ?_ ?_
  ·show σ (x.a*y.a+ξ*(x.b*y.c+x.c*y.b))=σ x.a*σ y.a+ξ*(σ x.b*g*(σ y.c*(g*g))+σ x.c*(g*g)*(σ y.b*g));simp only [h.add,h.mul,hg];exact ring [σ x.a,σ x.b,σ x.c,σ y.a,σ y.b,σ y.c,g,ξ] dm
  ·show σ (x.a*y.b+x.b*y.a+ξ*(x.c*y.c))*g=σ x.a*(σ y.b*g)+σ x.b*g*σ y.a+ξ*(σ x.c*(g*g)*(σ y.c*(g*g)));simp only [h.add,h.mul,hg];exact ring [σ x.a,σ x.b,σ x.c,σ y.a,σ y.b,σ y.c,g,ξ] dm
  ·show σ (x.a*y.c+x.b*y.b+x.c*y.a)*(g*g)=σ x.a*(σ y.c*(g*g))+σ x.b*g*(σ y.b*g)+σ x.c*(g*g)*σ y.a;simp only [h.add,h.mul];exact ring [σ x.a,σ x.b,σ x.c,σ y.a,σ y.b,σ y.c,g] dm
 one:=Kx.ext h.one (by show σ 0*g=0;rw [h.zero,zero_mul]) (by show σ 0*(g*g)=0;rw [h.zero,zero_mul])
def qM (σ:F→F) (g:F) (x:Qx β):Qx β:=⟨σ x.a,σ x.b*g⟩
theorem AeE {σ:F→F} {g:F} (h:RH σ) (hg:σ β=β*(g*g)):RH (qM σ g:Qx β→Qx β) where
 add x y:=Qx.ext (h.add _ _) (by show σ (x.b+y.b)*g=_;rw [h.add,add_mul];rfl)
 mul x y:=by
  refine Qx.ext ?_ ?_
  ·show σ (x.a*y.a+β*(x.b*y.b))=σ x.a*σ y.a+β*(σ x.b*g*(σ y.b*g));simp only [h.add,h.mul,hg];exact ring [σ x.a,σ x.b,σ y.a,σ y.b,g,β] dm
  ·show σ (x.a*y.b+x.b*y.a)*g=σ x.a*(σ y.b*g)+σ x.b*g*σ y.a;simp only [h.add,h.mul];exact ring [σ x.a,σ x.b,σ y.a,σ y.b,g] dm
 one:=Qx.ext h.one (by show σ 0*g=0;rw [h.zero,zero_mul])
end
structure MH {F:Type} [CR F] (φ:F→F):Prop where
 mul:∀ x y,φ (x*y)=φ x*φ y
 one:φ 1=1
section
variable {F:Type} [CR F] {φ ψ:F→F}
theorem RH.mh (h:RH φ):MH φ:=⟨h.mul,h.one⟩
theorem MH.comp (h:MH φ) (k:MH ψ):MH fun x=>φ (ψ x):=⟨fun x y=>by rw [k.mul,h.mul],by rw [k.one,h.one]⟩
theorem MH.prod (h:MH φ) (k:MH ψ):MH fun x=>φ x*ψ x:=⟨fun x y=>by
 show φ (x*y)*ψ (x*y)=φ x*ψ x*(φ y*ψ y);rw [k.mul,h.mul];exact ring [φ x,φ y,ψ x,ψ y] dm,by show φ 1*ψ 1=1;rw [k.one,h.one,mul_one]⟩
theorem yO:∀ n:Nat,pw (1:F) n=1
 | 0=>rfl
 | n+1=>by show pw (1:F) n*1=1;rw [yO n,mul_one]
theorem MH.pw (n:Nat):MH fun x:F=>Rg.pw x n:=⟨fun x y=>pw_mul x y n,yO n⟩
end
section
variable {F:Type} [FD F]
open FD (inv)
theorem AeF (x y:F):inv (x*y)=inv x*inv y:=by
 by_cases hx:x=0
 ·rw [hx,zero_mul,FD.inv_zero,zero_mul]
 by_cases hy:y=0
 ·rw [hy,mul_zero,FD.inv_zero,mul_zero]
 ·refine JM (DC hx hy) ?_
  rw [FD.mul_inv _ (DC hx hy)];have h1:=FD.mul_inv x hx;have h2:=FD.mul_inv y hy;have e:x*y*(inv x*inv y)=(x*inv x)*(y*inv y):=ring [x,y,inv x,inv y] dm
  rw [e,h1,h2,mul_one]
theorem AeG:inv (1:F)=1:=by
 have:=FD.mul_inv (1:F) FD.one_ne
 rwa [one_mul] at this
theorem AeH:MH (inv:F→F):=⟨AeF,AeG⟩
end
def TD {F:Type} [FD F] (c f:F→F) (E X:Nat) (x:F):F :=
 let g:=c x*FD.inv x
 let h:=f (f g)*g
 let a:=pw h E
 let b:=c (pw a X)*f a
 pw (pw b X) X*f (f b)*c b*h
section
variable {F:Type} [FD F] {c f:F→F} (hc:MH c) (hf:MH f)
include hc hf
theorem AJM (E X:Nat):MH (TD c f E X):=by
 have g:MH fun x=>c x*FD.inv x:=hc.prod AeH
 have h:MH fun x=>f (f (c x*FD.inv x))*(c x*FD.inv x):=(hf.comp (hf.comp g)).prod g
 have a:MH fun x=>pw (f (f (c x*FD.inv x))*(c x*FD.inv x)) E:=(MH.pw E).comp h
 have b:=(hc.comp ((MH.pw X).comp a)).prod (hf.comp a)
 exact (((((MH.pw X).comp ((MH.pw X).comp b)).prod (hf.comp (hf.comp b))).prod (hc.comp b))).prod h
theorem AeI (h2:∀ x,c (c x)=x) (E X:Nat) {x:F} (hx:x≠0):TD c f E X x*TD c f E X (c x)=1:=by
 have m:=AJM hc hf E X;rw [← m.mul];have hx':c x≠0:=fun e=>by
  have h0:c x*c (FD.inv x)=1:=by rw [← hc.mul,FD.mul_inv x hx,hc.one]
  rw [e,zero_mul] at h0;exact FD.one_ne h0.symm
 have hn:x*c x≠0:=DC hx hx'
 have hcn:c (x*c x)=x*c x:=by rw [hc.mul,h2,mul_comm]
 have hg:c (x*c x)*FD.inv (x*c x)=1:=by rw [hcn,FD.mul_inv _ hn]
 unfold TD;simp only [hg,hf.one,hc.one,yO,mul_one]
end
end Go.Proofs.YtgnajdcdcblaoaaGreat.Rg
namespace Go.Proofs.YtgnajdcdcblaoaaGreat.Rg
open Num (Prime BT)
section
variable {F:Type} [FD F] (C:Cv F)
theorem AeJ {p:Pt F} (hp:On C.b p):add (neg p) p=.inf:=by rw [H5 C (H4 C hp) hp,YI C hp]
theorem yP {a b c d:Pt F} (ha:On C.b a) (hb:On C.b b) (hc:On C.b c) (hd:On C.b d):add (add a b) (add c d)=add (add a c) (add b d):=by
 rw [J9 C ha hb (If C hc hd),← J9 C hb hc hd,H5 C hb hc,J9 C hc hb hd,← J9 C ha hc (If C hb hd)]
theorem AeK {p q:Pt F} (hp:On C.b p) (hq:On C.b q) (h:add p q=.inf):q=neg p:=by
 have:=Pu C hp hq
 rw [h,Ps] at this;exact this.symm
theorem AJN {p q:Pt F} (hp:On C.b p) (hq:On C.b q):neg (add p q)=add (neg p) (neg q):=by
 refine (AeK C (If C hp hq) (If C (H4 C hp) (H4 C hq)) ?_).symm
 rw [yP C hp hq (H4 C hp) (H4 C hq),YI C hp,YI C hq];rfl
theorem Y3 {p q:Pt F} (hp:On C.b p) (hq:On C.b q):∀ n,smul n (add p q)=add (smul n p) (smul n q)
 | 0=>rfl
 | n+1=>by
  simp only [smul];rw [Y3 hp hq n,yP C (CE C hp n) (CE C hq n) hp hq]
theorem iS {p:Pt F} (hp:On C.b p) (m n:Nat):smul m (smul n p)=smul n (smul m p):=by rw [← JP C hp,← JP C hp,ko]
structure Sub (m:Nat) (S:List (Pt F)):Prop where
 on:∀ p∈S,On C.b p
 nd:S.Nodup
 len:S.length=m
 inf:Pt.inf∈S
 add:∀ p∈S,∀ q∈S,Rg.add p q∈S
 neg:∀ p∈S,Rg.neg p∈S
variable {C}
theorem Sub.triv:Sub C 1 [.inf] where
 on p hp:=by rcases l_.1 hp with rfl;trivial
 nd:=by simp
 len:=rfl
 inf:=by simp
 add p hp q hq:=by
  rcases l_.1 hp with rfl
  exact hq
 neg p hp:=by
  rcases l_.1 hp with rfl
  exact l_.2 rfl
theorem Sub.smul {m:Nat} {S:List (Pt F)} (h:Sub C m S) {p:Pt F} (hp:p∈S):∀ n,Rg.smul n p∈S
 | 0=>h.inf
 | n+1=>h.add _ (h.smul hp n) _ hp
theorem Sub.of_add {m:Nat} {S:List (Pt F)} (h:Sub C m S) {p q:Pt F} (hp:p∈S) (hq:On C.b q) (hs:Rg.add p q∈S):q∈S:=by
 have:=Pu C (h.on p hp) hq
 rw [← this];exact h.add _ (h.neg p hp) _ hs
theorem Sub.gcd {m:Nat} {S:List (Pt F)} (h:Sub C m S) {p:Pt F} (hp:On C.b p):∀ (a b:Nat),Rg.smul a p∈S→Rg.smul b p∈S→Rg.smul (Nat.gcd a b) p∈S:=by
 intro a b;induction a,b using Nat.gcd.induction with
 | H0 n=>intro _ h2;rwa [Nat.gcd_zero_left]
 | H1 a b ha ih =>
  intro h1 h2;rw [Nat.gcd_rec];refine ih ?_ h1
  have e:=mv b a;rw [← e,JO C hp,JP C hp] at h2;exact h.of_add (h.smul h1 _) (CE C hp _) h2
def JU (S:List (Pt F)) (H:Pt F):Nat→List (Pt F)
 | 0=>[]
 | j+1=>JU S H j++S.map fun s=>Rg.add s (Rg.smul j H)
theorem HW {S:List (Pt F)} {H x:Pt F}:∀ {t:Nat},x∈JU S H t↔∃ j,j<t∧∃ s∈S,Rg.add s (Rg.smul j H)=x
 | 0=>by simp [JU]
 | t+1=>by
  rw [JU,j_,HW,ml];constructor
  ·rintro (⟨j,hj,s,hs,e⟩ | ⟨s,hs,e⟩)
   ·exact ⟨j,dn,s,hs,e⟩
   ·exact ⟨t,dn,s,hs,e⟩
  ·rintro ⟨j,hj,s,hs,e⟩
   rcases kf j t with h | h
   ·exact .inl ⟨j,h,s,hs,e⟩
   ·have:j=t:=dn
    subst this;exact .inr ⟨s,hs,e⟩
theorem AJO (S:List (Pt F)) (H:Pt F):∀ t,(JU S H t).length=t*S.length
 | 0=>by simp [JU]
 | t+1=>by rw [JU,ku,ma,AJO S H t,rk]
theorem AJP {S:List (Pt F)} (hS:∀ p∈S,On C.b p) (hn:S.Nodup) {H:Pt F} (hH:On C.b H):(S.map fun s=>Rg.add s H).Nodup:=by
 induction S with
 | nil=>exact List.nodup_nil
 | cons a l ih =>
  obtain ⟨h1,h2⟩:=rf.1 hn;rw [lz,rf];refine ⟨fun hm=>?_,ih (fun p hp=>hS p (by simp [hp])) h2⟩
  obtain ⟨b,hb,e⟩:=ml.1 hm;have ha:=hS a (by simp)
  have hb':=hS b (by simp [hb])
  rw [H5 C hb' hH,H5 C ha hH] at e;exact h1 (vH C hH hb' ha e▸hb)
theorem Sub.cos_nd {m:Nat} {S:List (Pt F)} (h:Sub C m S) {H:Pt F} (hH:On C.b H):∀ {t:Nat},(∀ j,0<j→j<t→Rg.smul j H ∉ S)→(JU S H t).Nodup
 | 0,_=>List.nodup_nil
 | t+1,hm=>by
  rw [JU,List.nodup_append];refine ⟨h.cos_nd hH fun j h0 h1=>hm j h0 dn,AJP h.on h.nd (CE C hH _),fun x hx y hy e=>?_⟩
  subst e;obtain ⟨j,hj,s,hs,e1⟩:=HW.1 hx;obtain ⟨s',hs',e2⟩:=ml.1 hy;have hjH:=CE C hH j;have hdH:=CE C hH (t-j)
  have e3:Rg.smul t H=Rg.add (Rg.smul j H) (Rg.smul (t-j) H):=by rw [← JO C hH];congr 1;omega
  rw [← e1,e3,← J9 C (h.on s' hs') hjH hdH,H5 C (h.on s' hs') hjH,J9 C hjH (h.on s' hs') hdH,H5 C (h.on s hs) hjH] at e2;have e4:=vH C hjH (If C (h.on s' hs') hdH) (h.on s hs) e2
  exact hm (t-j) dn dn (h.of_add hs' hdH (e4▸hs))
theorem Sub.step {m:Nat} {S:List (Pt F)} (h:Sub C m S) {H:Pt F} (hH:On C.b H) {t:Nat} (ht:Rg.smul t H∈S) (h0:0<t) (hm:∀ j,0<j→j<t→Rg.smul j H ∉ S):Sub C (t*m) (JU S H t) where
 on p hp:=by
  obtain ⟨j,_,s,hs,rfl⟩:=HW.1 hp;exact If C (h.on s hs) (CE C hH j)
 nd:=h.cos_nd hH hm
 len:=by rw [AJO,h.len]
 inf:=HW.2 ⟨0,h0,.inf,h.inf,rfl⟩
 add p hp q hq:=by
  obtain ⟨i,hi,s,hs,rfl⟩:=HW.1 hp;obtain ⟨j,hj,s',hs',rfl⟩:=HW.1 hq;have hss:=h.add s hs s' hs';rw [yP C (h.on s hs) (CE C hH i) (h.on s' hs') (CE C hH j),← JO C hH];rcases kf (i+j) t with jb | hge
  ·exact HW.2 ⟨i+j,jb,_,hss,rfl⟩
  ·refine HW.2 ⟨i+j-t,dn,Rg.add (Rg.add s s') (Rg.smul t H),h.add _ hss _ ht,?_⟩
   rw [J9 C (h.on _ hss) (CE C hH t) (CE C hH _),← JO C hH];congr 2;omega
 neg p hp:=by
  obtain ⟨i,hi,s,hs,rfl⟩:=HW.1 hp;rw [AJN C (h.on s hs) (CE C hH i)];rcases md i with rfl | iy
  ·exact HW.2 ⟨0,h0,_,h.neg s hs,rfl⟩
  ·refine HW.2 ⟨t-i,dn,Rg.add (Rg.neg s) (Rg.neg (Rg.smul t H)),h.add _ (h.neg s hs) _ (h.neg _ ht),?_⟩
   rw [J9 C (H4 C (h.on s hs)) (H4 C (CE C hH t)) (CE C hH _)];congr 1
   have e:Rg.smul t H=Rg.add (Rg.smul (t-i) H) (Rg.smul i H):=by rw [← JO C hH];congr 1;omega
   have hd:=CE C hH (t-i)
   rw [e,AJN C hd (CE C hH i),H5 C (H4 C hd) (H4 C (CE C hH i)),J9 C (H4 C (CE C hH i)) (H4 C hd) hd,AeJ C hd,Ps]
theorem AJQ {q:Nat} (hq:Prime q):∀ {l:List Nat},q∣BT l→∃ x∈l,q∣x
 | [],h=>by
  have:=mn dp h
  have:=hq.1
  simp only [BT] at *;omega
 | x::l,h=>by
  rcases hq.dvd_mul h with h | h
  ·exact ⟨x,by simp,h⟩
  ·obtain ⟨y,hy,hd⟩:=AJQ hq h;exact ⟨y,by simp [hy],hd⟩
theorem AeL {G:Pt F} (hG:On C.b G) {l:List Nat} (hl:∀ q∈l,Prime q) (h0:Rg.smul (BT l) G=.inf) (hq:∀ q∈l,Rg.smul (BT l / q) G≠.inf) (j:Nat) (hj:Rg.smul j G=.inf):BT l∣j:=by
 have T:Sub C 1 [(.inf:Pt F)]:=Sub.triv
 have hg:=T.gcd hG j (BT l) (by rw [hj];exact T.inf) (by rw [h0];exact T.inf)
 have hg:Rg.smul (Nat.gcd j (BT l)) G=.inf:=l_.1 hg
 obtain ⟨k,hk⟩:=Nat.gcd_dvd_right j (BT l)
 by_cases h1:k=1
 ·rw [h1,kt] at hk;rw [hk];exact Nat.gcd_dvd_left j _
 ·exfalso
  by_cases hk0:k=0
  ·rw [hk0,me] at hk;have:∀ {l:List Nat},(∀ q∈l,Prime q)→0<BT l:=by
    intro l;induction l with
    | nil=>intro _;exact Nat.one_pos
    | cons x l ih=>intro h;exact Nat.mul_pos (by have:=(h x (by simp)).1;omega) (ih fun q hq=>h q (by simp [hq]))
   have:=this hl
   omega
  obtain ⟨q,hqp,hqk⟩:=Num.exists_prime_dvd k dn;have hqM:q∣BT l:=by rw [hk];exact Nat.dvd_mul_left_of_dvd hqk _
  obtain ⟨x,hx,hqx⟩:=AJQ hqp hqM;have hqx':q=x:=by
   rcases (hl x hx).2 q hqx with e | e
   ·have:=hqp.1;omega
   ·exact e
  subst hqx';refine hq q hx ?_
  obtain ⟨c,hc⟩:=hqk;have e:BT l / q=Nat.gcd j (BT l)*c:=by
   have h2:=hqp.1;refine Nat.div_eq_of_eq_mul_right dn (hk.trans ?_)
   rw [hc,nb]
  rw [e,JP C hG,hg,Gz]
theorem Sub.out {m:Nat} {S:List (Pt F)} (h:Sub C m S) {H:Pt F} (hH:On C.b H) {q:Nat} (hq:Prime q) (h0:Rg.smul q H=.inf) (hn:H ∉ S):Sub C (q*m) (JU S H q):=by
 refine h.step hH (by rw [h0];exact h.inf) (by have:=hq.1;omega) fun j h1 h2 hm=>hn ?_
 have hg:=h.gcd hH q j (by rw [h0];exact h.inf) hm
 have hc:Nat.gcd q j=1:=hq.coprime fun hd=>by have:=mn h1 hd;omega
 rwa [hc] at hg
theorem Sub.all {m B:Nat} {S:List (Pt F)} (h:Sub C m S) (hB:∀ L:List (Pt F),L.Nodup→(∀ p∈L,On C.b p)→L.length≤B) (hm:B<m+m) {p:Pt F} (hp:On C.b p):p∈S:=by
 refine ux fun hn=>?_
 have hL:=hB (S++S.map fun s=>Rg.add s p) ?_ ?_
 ·rw [ku,ma,h.len] at hL;omega
 ·rw [List.nodup_append];refine ⟨h.nd,AJP h.on h.nd hp,fun x hx y hy e=>?_⟩
  subst e;obtain ⟨s,hs,e⟩:=ml.1 hy;exact hn (h.of_add hs hp (e▸hx))
 ·intro x hx;rcases j_.1 hx with hx | hx
  ·exact h.on x hx
  ·obtain ⟨s,hs,rfl⟩:=ml.1 hx;exact If C (h.on s hs) hp
theorem AeM {l:List Nat} (hl:∀ q∈l,Prime q) {G H H':Pt F} {q q' B:Nat} (hG:On C.b G) (hH:On C.b H) (hH':On C.b H') (hq:Prime q) (hq':Prime q') (jd:q≠q') (hm:q∈l) (hm':q'∈l)
  (g0:Rg.smul (BT l) G=.inf) (g1:∀ x∈l,Rg.smul (BT l / x) G≠.inf) (h0:Rg.smul q H=.inf) (h0':Rg.smul q' H'=.inf)
  (h1:∀ i,i<q→Rg.smul i (Rg.smul (BT l / q) G)≠H) (h1':∀ i,i<q'→Rg.smul i (Rg.smul (BT l / q') G)≠H')
  (hB:∀ L:List (Pt F),L.Nodup→(∀ p∈L,On C.b p)→L.length≤B) (hb:B<q'*(q*BT l)+q'*(q*BT l)) {p:Pt F} (hp:On C.b p):∃ i j k,p=Rg.add (Rg.add (Rg.smul i G) (Rg.smul j H)) (Rg.smul k H'):=by
 have dv:∀ x∈l,∃ k,BT l=x*k:=by
  have:∀ {l:List Nat},∀ x∈l,x∣BT l:=by
   intro l;induction l with
   | nil=>intro x hx;cases hx
   | cons y l ih =>
    intro x hx;rcases ka.1 hx with rfl | hx
    ·exact Nat.dvd_mul_right _ _
    ·exact Nat.dvd_mul_left_of_dvd (ih x hx) _
  exact fun x hx=>this x hx
 have ord:=AeL hG hl g0 g1;have T:Sub C 1 [(.inf:Pt F)]:=Sub.triv
 have iy:0<BT l:=by
  refine sm fun e=>?_
  have h3:=g1 q hm;rw [e,Nat.zero_div] at h3;exact h3 rfl
 have S1:=T.step hG (t:=BT l) (by rw [g0];exact T.inf) iy fun j j0 j1 hj=>by
  have:=mn j0 (ord j (l_.1 hj));omega
 rw [kt] at S1;have inS1:∀ {x:Pt F},x∈JU [.inf] G (BT l)→∃ i,x=Rg.smul i G:=by
  intro x hx;obtain ⟨i,_,s,hs,rfl⟩:=HW.1 hx;rcases l_.1 hs with rfl
  exact ⟨i,rfl⟩
 have out:∀ {x:Nat} {K:Pt F},x∈l→Rg.smul x K=.inf→(∀ i,i<x→Rg.smul i (Rg.smul (BT l / x) G)≠K)→K ∉ JU [.inf] G (BT l):=by
  intro x K hx hK h hin;obtain ⟨i,_,s,hs,e⟩:=HW.1 hin;rename_i hi;rcases l_.1 hs with rfl
  have e:K=Rg.smul i G:=e.symm
  have hx2:=(hl x hx).1
  obtain ⟨k,hk⟩:=dv x hx;have hd:BT l∣i*x:=ord _ (by rw [JP C hG,← e,hK])
  have hkx:BT l / x=k:=Nat.div_eq_of_eq_mul_right dn hk
  obtain ⟨c,hc⟩:=hd;have hic:i=k*c:=by
   refine Nat.eq_of_mul_eq_mul_left (show 0<x by omega) ?_
   rw [ko x i,hc,hk,lm]
  have hk0:0<k:=sm fun e=>by rw [e,me] at hk;omega
  have hcx:c<x:=by
   refine Nat.lt_of_mul_lt_mul_left (a:=k) ?_
   rw [← hic,ko k x,← hk];exact hi
  refine h c hcx ?_
  rw [hkx,← JP C hG,← hic,e]
 have S2:=S1.out hH hq h0 (out hm h0 h1)
 have S3:=S2.out hH' hq' h0' fun hin=>by
  obtain ⟨j,_,s,hs,e⟩:=HW.1 hin;refine out hm' h0' h1' ?_
  have e2:Rg.smul q H'=Rg.smul q s:=by
   rw [← e,Y3 C (S1.on s hs) (CE C hH j),iS C hH,h0,Gz,Ps]
  have hg:=S1.gcd hH' q q' (by rw [e2];exact S1.smul hs q) (by rw [h0'];exact S1.inf)
  have hc:Nat.gcd q q'=1:=hq.coprime fun hd=>by
   rcases hq'.2 q hd with e | e
   ·have:=hq.1;omega
   ·exact jd e
  rwa [hc] at hg
 have hin:=S3.all hB hb hp;obtain ⟨j',_,s',hs',rfl⟩:=HW.1 hin;obtain ⟨j,_,s,hs,rfl⟩:=HW.1 hs';obtain ⟨i,rfl⟩:=inS1 hs;exact ⟨i,j,j',rfl⟩
end
end Go.Proofs.YtgnajdcdcblaoaaGreat.Rg
namespace Go.Proofs.YtgnajdcdcblaoaaGreat
abbrev f_:Nat:=0x242f7fd3174c30564058aa1817124bdf9e35fcd8882607f0f52b92e68fc2fc9794736c947ce2977d47fd11494865d54177840aa2a7660d227a1f89c6d79d62873b5197d4f43e0922476e59b4c8906fa3b229b121cb6487be3754c31c1062f
abbrev ga:Nat:=0x2c893adc6b7176918a45bda77edb711338dffc1e3169e263a3e6dc2f75dc4a932cdcd467fc2a93105899ede40a55f2c6ba7b20c8307d9a030c7595e1095f3e304901f5f267aed02a3087d0de80b1c47ab3e48b3d4919449b57cac8c0142b
abbrev gb:Nat:=0x192c2c6652fd594721a1da80100cba58c71a6d1c3230b79c7e080d25f4b42a26aa0d832fa4ca2699ef4bdf80e4735cb31b7d3f0cfa0435a8adffadc1fa2ab3d8824f0572c02b27becd846aed11169071e01d00c9989efa418aaa44f221a9
abbrev gd:Nat:=0x36a1bb9b5c4317a0825ce90614adb17d650043b4efe6617ae349ce98036a22accce076a339ab671eb6da73bd9ea785570b7103212a06aec52dc319ccfef25527e30a6d03fcf8088181a43e96d6ac34acc96c24cfa906bec9506c581c07
abbrev ge:Nat:=0xc665fc2b138ed6b10ac97ec53b9150280e01b04be7e28755a132c1b5976b608fad2557b6c5a697f60fea18a8431e34293244609b0c3af6e86c1aae5aac1878433c47df616e9ee5af28c3b449166ee4004da6f8b13c62f129996d87adf
abbrev gh:Nat:=0x90c899fda4848e0e68f0d8042e979918ef6b7c817f142e7e3c6d389a24561bacd8b691b11f43682500aa1199eb9d56cbf980b0b78f09ee8420ab8babd94bb46863ebb0d704b7bcfe3557cf018b9eb86ecac41e64676cb22eea42b4d3
abbrev gi:Nat:=0x4168ee1e1b7bf8c809fc4eb22e66f9b224e8b8370be312e39f7a982e7cd0e3a03b733c6054fdf
abbrev gj:Nat:=0x4fe83901ee48583e221a912f8b0ea9acd1dda8f38894b1ccfa8c6f0be60505f97ae9d5cba52a1c3527924f4356d391730e11c9fa753f2ada47b7b31c1062f
open Ex Num Rg
open Sh (R av rd mo en mo_en)
set_option maxRecDepth 100000
set_option maxHeartbeats 4000000
section
variable {F:Type} [Sh F] [FD F]
noncomputable def FJ (fc:R (J F)→(R (J F)→Bool)→Bool) (k:R (J F)→Bool) (a b:F) (N:Nat) (i:Nat):R (J F)→Bool :=
 Nat.rec k (fun i ih r=>fc (en (Bw (mo r:J F))) fun s=>cond (Nat.beq (N / 2^i % 2) 1) (fc (en (F0 (mo s:J F) a b)) ih) (ih s)) i
theorem AeN (C:Cv F) {fc:R (J F)→(R (J F)→Bool)→Bool} {k:R (J F)→Bool} {a b:F} {N:Nat} (hfc:∀ r k,fc r k=k r) (hP:On C.b (.pt a b)) :
  ∀ (i:Nat) (r:R (J F)),CF (mo r:J F)=smul (N / 2^i) (.pt a b)→FJ fc k a b N i r=true→∃ s:R (J F),CF (mo s:J F)=smul N (.pt a b)∧k s=true:=by
 intro i;induction i with
 | zero =>
  intro r hr h;rw [kx,ld] at hr;exact ⟨r,hr,h⟩
 | succ i ih =>
  intro r hr h;have h':fc (en (Bw (mo r:J F))) (fun s=>cond (Nat.beq (N / 2^i % 2) 1) (fc (en (F0 (mo s:J F) a b)) (FJ fc k a b N i)) (FJ fc k a b N i s))=true:=h
  rw [hfc,hfc] at h';have hdiv:N / 2^i=2*(N / 2^(i+1))+N / 2^i % 2:=by
   rw [lj,← ll];omega
  have hoj:On C.b (CF (mo r:J F)):=by rw [hr];exact CE C hP _
  have htw:CF (Bw (mo r:J F))=smul (2*(N / 2^(i+1))) (.pt a b):=by
   rw [Rz C hoj,hr,← JO C hP,qq]
  have htw':CF (mo (en (Bw (mo r:J F)):R (J F)):J F)=smul (2*(N / 2^(i+1))) (.pt a b):=by rw [mo_en];exact htw
  cases hb:Nat.beq (N / 2^i % 2) 1 with
  | true =>
   rw [hb] at h';have h1:=nf hb;refine ih _ ?_ h'
   rw [mo_en,U3 C (by rw [htw'];exact CE C hP _),htw']
   rw [hdiv,h1];rfl
  | false =>
   rw [hb] at h';have h1:N / 2^i % 2=0:=by
    have:=Nat.ne_of_beq_eq_false hb
    omega
   refine ih _ ?_ h'
   rw [htw',hdiv,h1];rfl
end
noncomputable section
def yQ (a b:Nat):Bool:=!(Nat.beq (a % pN) 0&&Nat.beq (b % pN) 0)
def Y4 (r:R gw):Bool:=yQ r.1 r.2
theorem AJR {a:Nat} (h:tf a=0):Nat.beq (a % pN) 0=true:=by
 rw [← tf_zero,Rp] at h;rw [h,pr];rfl
theorem iT {r:R gw} (h:Y4 r=true):(mo r:gw)≠0:=fun e=>by
 have h1:=AJR (a:=r.1) (jw Qx.a e)
 have h2:=AJR (a:=r.2) (jw Qx.b e)
 have h':yQ r.1 r.2=true:=h
 unfold yQ at h';rw [h1,h2] at h';cases h'
def dX (a:gw) (r:R (J gw)):R gw:=en ((mo r:J gw).x-a*((mo r:J gw).z*(mo r:J gw).z))
def dY (b:gw) (r:R (J gw)):R gw:=en ((mo r:J gw).y-b*((mo r:J gw).z*(mo r:J gw).z*(mo r:J gw).z))
def Y5 (r:R (J gw)):Bool:=Yj r.2.2
def Ol (r:R (J gw)):Bool:=Y4 r.2.2
def Y6 (a b:gw) (r:R (J gw)):Bool:=Y4 r.2.2&&(Yj (dX a r)&&Yj (dY b r))
def iU (a b:gw) (r:R (J gw)):Bool:=Y4 (dX a r)||(Y4 (dY b r)||Yj r.2.2)
theorem AeO {r:R (J gw)} (h:Y5 r=true):CF (mo r:J gw)=.inf:=G0 (gQ r.2.2 h)
theorem AeP {r:R (J gw)} (h:Ol r=true):CF (mo r:J gw)≠.inf:=by
 rw [Ig (iT h)];exact fun e=>by cases e
theorem AeQ {a b:gw} {r:R (J gw)} (h:Y6 a b r=true):CF (mo r:J gw)=.pt a b:=by
 unfold Y6 at h;simp only [jx] at h;obtain ⟨h1,h2,h3⟩:=h;have hz:(mo r:J gw).z≠0:=iT h1
 have hi:=FD.mul_inv _ hz;have hx:=gQ _ h2;have hy:=gQ _ h3;unfold dX at hx;unfold dY at hy;rw [mo_en,Aa] at hx hy;rw [Ig hz,hx,hy];generalize (mo r:J gw).z=z at *
 generalize FD.inv z=i at *
 congr 1
 ·calc a*(z*z)*(i*i)=a*((z*i)*(z*i)):=ring [a,z,i] dm
   _=a:=by rw [hi,Rg.mul_one,Rg.mul_one]
 ·calc b*(z*z*z)*(i*i*i)=b*((z*i)*(z*i)*(z*i)):=ring [b,z,i] dm
   _=b:=by rw [hi,Rg.mul_one,Rg.mul_one,Rg.mul_one]
theorem AeR {a b:gw} {r:R (J gw)} (h:iU a b r=true):CF (mo r:J gw)≠.pt a b:=fun e=>by
 by_cases hz:(mo r:J gw).z=0
 ·rw [G0 hz] at e;cases e
 ·rw [Ig hz] at e;injection e with e1 e2;have hi:=FD.mul_inv _ hz;have hx:(mo r:J gw).x-a*((mo r:J gw).z*(mo r:J gw).z)=0:=by
   rw [Aa,← e1];generalize (mo r:J gw).z=z at *
   generalize FD.inv z=i at *
   calc (mo r:J gw).x=(mo r:J gw).x*((z*i)*(z*i)):=by rw [hi,Rg.mul_one,Rg.mul_one]
    _=_:=ring [(mo r:J gw).x,z,i] dm
  have hy:(mo r:J gw).y-b*((mo r:J gw).z*(mo r:J gw).z*(mo r:J gw).z)=0:=by
   rw [Aa,← e2];generalize (mo r:J gw).z=z at *
   generalize FD.inv z=i at *
   calc (mo r:J gw).y=(mo r:J gw).y*((z*i)*(z*i)*(z*i)):=by rw [hi,Rg.mul_one,Rg.mul_one,Rg.mul_one]
    _=_:=ring [(mo r:J gw).y,z,i] dm
  unfold iU at h;simp only [sn] at h;rcases h with h | h | h
  ·exact iT h (by unfold dX;rw [mo_en];exact hx)
  ·exact iT h (by unfold dY;rw [mo_en];exact hy)
  ·exact hz (gQ r.2.2 h)
def z0:R (J gw):=en (⟨0,0,0⟩:J gw)
theorem at_ {a b:gw} (hP:On C2.b (.pt a b)) {k:R (J gw)→Bool} {N i:Nat} (h0:N / 2^i=0) (h:FJ FT k a b N i z0=true):∃ s:R (J gw),CF (mo s:J gw)=smul N (.pt a b)∧k s=true :=
 AeN C2 AZw hP i z0 (by unfold z0;rw [mo_en,h0,G0 rfl];rfl) h
theorem yS {a b:gw} (hP:On C2.b (.pt a b)) {N i:Nat} (h0:N / 2^i=0) (h:FJ FT Y5 a b N i z0=true):smul N (.pt a b)=.inf:=by
 obtain ⟨s,h1,h2⟩:=at_ hP h0 h;rw [← h1];exact AeO h2
theorem TE {a b:gw} (hP:On C2.b (.pt a b)) {N i:Nat} (h0:N / 2^i=0) (h:FJ FT Ol a b N i z0=true):smul N (.pt a b)≠.inf:=by
 obtain ⟨s,h1,h2⟩:=at_ hP h0 h;rw [← h1];exact AeP h2
theorem AJS {a b c d:gw} (hP:On C2.b (.pt a b)) {N i:Nat} (h0:N / 2^i=0) (h:FJ FT (Y6 c d) a b N i z0=true):smul N (.pt a b)=.pt c d:=by
 obtain ⟨s,h1,h2⟩:=at_ hP h0 h;rw [← h1];exact AeQ h2
def iV (a b c d:gw) (n:Nat):Bool:=Nat.rec true (fun i ih=>FJ FT (iU c d) a b i 5 z0&&ih) n
theorem yT {a b c d:gw} (hP:On C2.b (.pt a b)):∀ n,n≤32→iV a b c d n=true→∀ i,i<n→smul i (.pt a b)≠.pt c d
 | 0,_,_,i,hi=>dn
 | n+1,hn,h,i,hi=>by
  have h':(FJ FT (iU c d) a b n 5 z0&&iV a b c d n)=true:=h
  obtain ⟨h1,h2⟩:=jy.1 h';rcases kf i n with jb | hge
  ·exact yT hP n dn h2 i jb
  ·have:i=n:=dn
   subst this;obtain ⟨s,q1,q2⟩:=at_ hP (mf dn) h1
   rw [← q1];exact AeR q2
theorem AeS {L:List Nat} {n:Nat} (hn:L.Nodup) (hb:∀ x∈L,x<n):L.length≤n:=by
 refine ux fun h=>?_
 have hp:=sO (m:=List.range n) hn (fun x hx=>mj.2 (hb x hx)) (by rw [pp];omega)
 have:=hp.length_eq
 rw [pp] at this;omega
def Om:Pt gw→Nat
 | .inf=>0
 | .pt x y=>1+2*(x.a.val*pN+x.b.val)+(match Cy y with | true=>1 | false=>0)
theorem AeT (p:Pt gw):Om p<1+2*(pN*pN):=by
 cases p with
 | inf=>simp only [Om];omega
 | pt x y =>
  have h1:=x.a.isLt;have h2:=x.b.isLt;have h3:(x.a.val+1)*pN≤pN*pN:=my _ h1
  rw [rk] at h3;have h4:(match Cy y with | true=>1 | false=>0)≤1:=by cases Cy y<;>simp
  simp only [Om];generalize pN*pN=q at *
  generalize x.a.val*pN=u at *
  omega
theorem AeU {p q:Pt gw} (hp:On C2.b p) (hq:On C2.b q) (h:Om p=Om q):p=q:=by
 have bt:∀ b:Bool,(match b with | true=>1 | false=>0:Nat)≤1:=fun b=>by cases b<;>simp
 cases p with
 | inf=>cases q with
  | inf=>rfl
  | pt x y=>simp only [Om] at h;omega
 | pt x y=>cases q with
  | inf=>simp only [Om] at h;omega
  | pt x' y' =>
   simp only [Om] at h;have b1:=bt (Cy y)
   have b2:=bt (Cy y')
   have e1:x.a.val*pN+x.b.val=x'.a.val*pN+x'.b.val:=by
    generalize x.a.val*pN+x.b.val=u at *
    generalize x'.a.val*pN+x'.b.val=v at *
    omega
   have e2:(match Cy y with | true=>1 | false=>0:Nat)=(match Cy y' with | true=>1 | false=>0):=by
    rw [e1] at h;generalize x'.a.val*pN+x'.b.val=v at *
    omega
   have e3:Cy y=Cy y':=by
    cases h1:Cy y<;>cases h2:Cy y'<;>rw [h1,h2] at e2<;>first | rfl | cases e2
   have l1:=x.b.isLt;have l2:=x'.b.isLt;have m1:x.b.val=x'.b.val:=by
    have:=jw (· % pN) e1
    simp only [ko _ pN,Nat.mul_add_mod] at this
    rwa [jv l1,jv l2] at this
   have m2:x.a.val=x'.a.val:=by
    rw [m1] at e1;exact Nat.eq_of_mul_eq_mul_right C6 (Nat.add_right_cancel e1)
   have ex:x=x':=Qx.ext (Fin.ext m2) (Fin.ext m1)
   subst ex;have hy:y*y=y'*y':=Eq.trans hp hq.symm
   rcases AHH hy with e | e
   ·rw [e]
   ·exfalso
    have hy0:=C2.no2 _ _ hq;rw [e,fY hy0] at e3;cases h1:Cy y'<;>rw [h1] at e3<;>cases e3
theorem AeV (L:List (Pt gw)) (hn:L.Nodup) (hL:∀ p∈L,On C2.b p):L.length≤1+2*(pN*pN):=by
 have hmap:(L.map Om).Nodup:=by
  induction L with
  | nil=>exact List.nodup_nil
  | cons a l ih =>
   obtain ⟨h1,h2⟩:=rf.1 hn;rw [lz,rf];refine ⟨fun hm=>?_,ih h2 fun p hp=>hL p (by simp [hp])⟩
   obtain ⟨b,hb,e⟩:=ml.1 hm;exact h1 (AeU (hL b (by simp [hb])) (hL a (by simp)) e▸hb)
 have:=AeS hmap (n:=1+2*(pN*pN)) fun x hx=>by
  obtain ⟨p,_,rfl⟩:=ml.1 hx;exact AeT p
 rwa [ma] at this
noncomputable def G7:gw:=⟨tf 0x0,tf 0x1⟩
noncomputable def G8:gw:=⟨tf 0x6af0e0437ff400b6831e36d6bd17ffe48395dabc2d3435e77f76e17009241c5ee67992f72ec05f4c81084fbede3cc09,tf 0x5f3e7dd918226781285fd6dffd72cdc8bcb3281ab0b48a3ff4a885bf4fa30d253753470588fee2161cd710c36544690⟩
noncomputable def Y7:gw:=⟨tf 0x16dc1d49fd9ec2103e990636ba57f6d0c38a01304e503c8b821d3efdb7adc74a6ba456c7600e1affdd68171b52c0c8b5,tf 0x14917c708fd82299f81041e8de947a2219854970c5548e585afd3b0d378f98b781e8be39905e6f1c7a27f4c37a735e45⟩
noncomputable def kAy:gw:=⟨tf 0x8497007e8deb16aab414b87573ee6da6f68f597136318517797bfb6c0d868c851000f6a64d37ecb23963b5fe1859f40,tf 0x11e26d6c2667fd72cf134f14a574e4b2c0a25a871faaa198ef07cd31d988b49bc5d27abb97d188ad016db3e83018fadb⟩
noncomputable def TF:gw:=⟨tf 0x9d9acc6dfec295b33b81207e234d0806642df2fc6b3dce14c0c3ecc7380a280338c1b757d0411eaec597b1f6547a4fe,tf 0x150a3bc83828ad1e76601cd7f02dd2b6cf3d796cb9d253fb4890132f540cd4e032b00cb52033eb04480ae31d5cb2b534⟩
noncomputable def TG:gw:=⟨tf 0x1153708c1b38b0ed0c19f99e54e66a08ce2464341c2813082874352ff354bb3e9e63595ed626ca3d6bc42f327f7b92d3,tf 0xc4ccc8d72ace767a08577447b4f264007c174321f1b147e75218e324b91f77b2fe61b875c22542c3a64244688c4f396⟩
noncomputable def Y8:gw:=⟨tf 0x342aae9a96630c3a3a2dbb689674838fc60d6a0958db27be0c97c2f080de0f11e5308aa65fbdf3dec8c208ad0046bfb,tf 0xc7e26dc22341cc760be50271ac2ca0e37845bdc706e7c77d5a249dbc44696154785543c8e2fdf3b123a802b782c563⟩
noncomputable def kBy:gw:=⟨tf 0x84232304c63a9419c60d333bae0b8311518e31293a0ea28a642e32ac6c8aed4aa814c862b5e675aa776ea3559dc7b1e,tf 0x7771b4d84f6884e18f31cbf206e793f6280865fc164ec15c16df78b37d890dad91c8ec4680034636de506c3960d2404⟩
noncomputable def TH:gw:=⟨tf 0x2339297a6745ca7960cf16ef9e23e6cd1de431ecf24b700ffe561f7c463976c71f13b942cbe7a0bc2666e7eb95f7765,tf 0xc3eb269a284a558d283910d71842fec9634f722ce231b733049a79902ab70475f2666c0ed0f0401b26f7226032d3b6c⟩
noncomputable def TI:gw:=⟨tf 0x1518c6ad5cb4a2974b0800c52671b94dbac07227ddc1201f5f214f4c091079b71c093efa238cae49e7148ce7a769b765,tf 0xc9a15dc3c730442114fda98be390d0052a3b68bba7830c1852718e2675f957619e5f0e1b66e353aa12364baee2044fd⟩
def It:List Nat:=[13,23,2713,11953,262069,402096035359507321594726366720466575392706800671181159425656785868777272553337714697862511267018014931937703598282857976535744623203249,52435875175126190479447740508185965837690552500527637822603658699938581184513]
theorem yU:∀ q∈It,Prime q:=by
 intro q hq;simp only [It,ka,List.not_mem_nil,or_false] at hq;rcases hq with rfl | rfl | rfl | rfl | rfl | rfl | rfl
 ·exact Hw (f:=5) dm
 ·exact Hw (f:=5) dm
 ·exact Hw (f:=60) dm
 ·exact Hw (f:=120) dm
 ·exact Hw (f:=520) dm
 ·exact prT
 ·exact prR
theorem AJT:∃ n,n=f_:=⟨_,rfl⟩
def oN:Nat:=Classical.choose AJT
theorem Y9:oN=f_:=lf AJT
theorem Lt:BT It=f_:=dm
theorem Iu:On C2.b (.pt G7 G8):=(LU _).1 (by kernel_rfl:BK (.pt G7 G8)=true)
theorem AeW:On C2.b (.pt Y7 kAy):=(LU _).1 (by kernel_rfl:BK (.pt Y7 kAy)=true)
theorem VZ:On C2.b (.pt TF TG):=(LU _).1 (by kernel_rfl:BK (.pt TF TG)=true)
theorem AeX:On C2.b (.pt Y8 kBy):=(LU _).1 (by kernel_rfl:BK (.pt Y8 kBy)=true)
theorem Y_:On C2.b (.pt TH TI):=(LU _).1 (by kernel_rfl:BK (.pt TH TI)=true)
theorem AeY:FJ FT Y5 G7 G8 f_ 754 z0=true:=dm
theorem AeZ:FJ FT Ol G7 G8 ga 750 z0=true:=dm
theorem Aea:FJ FT Ol G7 G8 gb 749 z0=true:=dm
theorem Aeb:FJ FT Ol G7 G8 gd 742 z0=true:=dm
theorem Aec:FJ FT Ol G7 G8 ge 740 z0=true:=dm
theorem Aed:FJ FT Ol G7 G8 gh 736 z0=true:=dm
theorem Aee:FJ FT Ol G7 G8 gi 307 z0=true:=dm
theorem Aef:FJ FT Ol G7 G8 gj 499 z0=true:=dm
theorem Aeg:FJ FT (Y6 Y7 kAy) G7 G8 ga 750 z0=true:=dm
theorem Aeh:FJ FT (Y6 Y8 kBy) G7 G8 gb 749 z0=true:=dm
theorem Aei:FJ FT Y5 TF TG 13 4 z0=true:=dm
theorem Aej:FJ FT Y5 TH TI 23 5 z0=true:=dm
theorem Aek:iV Y7 kAy TF TG 13=true:=dm
theorem Ael:iV Y8 kBy TH TI 23=true:=dm
theorem KW {N i:Nat} (h:Nat.beq (N / 2^i) 0=true):N / 2^i=0:=nf h
theorem Oo {m q k:Nat} (h:BT It=m) (e:Nat.beq (m / q) k=true):BT It / q=k:=by rw [h];exact nf e
theorem AJU:smul oN (.pt G7 G8)=.inf:=by rw [Y9];exact yS Iu (KW dm) AeY
theorem AJV:smul 13 (.pt TF TG)=.inf:=yS VZ (KW dm) Aei
theorem AJW:smul 23 (.pt TH TI)=.inf:=yS Y_ (KW dm) Aej
theorem Aem:∀ x∈It,smul (BT It / x) (.pt G7 G8)≠.inf:=by
 intro x hx;have hx':=hx;simp only [It,ka,List.not_mem_nil,or_false] at hx';rcases hx' with rfl | rfl | rfl | rfl | rfl | rfl | rfl
 ·rw [Oo Lt (k:=ga) dm];exact TE Iu (KW dm) AeZ
 ·rw [Oo Lt (k:=gb) dm];exact TE Iu (KW dm) Aea
 ·rw [Oo Lt (k:=gd) dm];exact TE Iu (KW dm) Aeb
 ·rw [Oo Lt (k:=ge) dm];exact TE Iu (KW dm) Aec
 ·rw [Oo Lt (k:=gh) dm];exact TE Iu (KW dm) Aed
 ·rw [Oo Lt (k:=gi) dm];exact TE Iu (KW dm) Aee
 ·rw [Oo Lt (k:=gj) dm];exact TE Iu (KW dm) Aef
theorem Aen {p:P2} (hp:On C2.b p):∃ i j k,p=Rg.add (Rg.add (smul i (.pt G7 G8)) (smul j (.pt TF TG))) (smul k (.pt TH TI)):=by
 have hk:smul (BT It / 13) (.pt G7 G8)=.pt Y7 kAy:=by rw [Oo Lt (k:=ga) dm];exact AJS Iu (KW dm) Aeg
 have hk':smul (BT It / 23) (.pt G7 G8)=.pt Y8 kBy:=by rw [Oo Lt (k:=gb) dm];exact AJS Iu (KW dm) Aeh
 exact AeM (C:=C2) yU (q:=13) (q':=23) (B:=1+2*(pN*pN)) Iu VZ Y_ (yU 13 (by simp [It])) (yU 23 (by simp [It])) dp (by simp [It]) (by simp [It])
  (by rw [Lt,← Y9];exact AJU) Aem AJV AJW
  (fun i hi=>by rw [hk];exact yT AeW 13 dp Aek i hi) (fun i hi=>by rw [hk'];exact yT AeX 23 dp Ael i hi) AeV (by rw [Lt];exact BX.1 dm) hp
theorem Aeo:oN=13*(oN / 13):=by rw [Y9]<;>kernel_rfl
theorem Aep:oN=23*(oN / 23):=by rw [Y9]<;>kernel_rfl
theorem Aeq {p:P2} (hp:On C2.b p):smul oN p=.inf:=by
 obtain ⟨i,j,k,rfl⟩:=Aen hp;have hj:smul oN (.pt TF TG)=.inf:=by rw [Aeo,JP C2 VZ,AJV,Gz]
 have hk:smul oN (.pt TH TI)=.inf:=by rw [Aep,JP C2 Y_,AJW,Gz]
 rw [Y3 C2 (If C2 (CE C2 Iu i) (CE C2 VZ j)) (CE C2 Y_ k),Y3 C2 (CE C2 Iu i) (CE C2 VZ j),iS C2 Iu,AJU,Gz,iS C2 VZ,hj,Gz,iS C2 Y_,hk,Gz];rfl
end
open Ex
theorem Aer (w:gn):Calls dr 42 #[.nilIface] w fun e w'=>e=.returned (.int .i64 0)∧w'=w:=by
 go_enter func42,Tryz.ntmps42
 go_wp2
 exact ⟨rfl,_,results_tmp rfl _ _ _,rfl,rfl⟩
theorem Aes (w:gn):Calls dr 42 #[.iface 31 (.int .i64 210)] w fun e w'=>e=.returned (.int .i64 210)∧w'=w:=by
 have hta:∀ (T:gt) (w:gn),(Instr.typeAssert (.iface 31 (.int .i64 210)) T 31 true).run dr w=.ok (.tuple #[.int .i64 210,.bool true]) w:=fun T w=>by
  simp [Instr.typeAssert,go_sem]
 have hnot:∀ (x:Bool) (w:gn),(Op.unary .not (.bool x)).run dr w=.ok (.bool (!x)) w:=fun _ _=>rfl
 go_enter func42,Tryz.ntmps42
 go_wp2
 exact ⟨rfl,_,results_tmp rfl _ _ _,rfl,rfl⟩
theorem Aet (p q:gq) (w:gn):CallsD dr 41 #[p,q] .returning w fun e u' w'=>e=.returned (.tuple #[])∧u'=.returning∧w'=w:=by
 refine callsD_of_wpS func41 rfl fun c₀ cs hu=>?_
 apply wpS_seq
 apply wpS_region
 simp [wpOpsS,go_sem,recoverD,hu,Tryz.ntmps41,Exit.thenS]
 refine (Aer w).mono ?_
 rintro e w' ⟨rfl,rfl⟩
 show Code.wpS dr _ _ _ _ _;apply wpS_seq
 apply wpS_region
 simp [wpOpsS,go_sem,Exit.thenS]
 refine wpS_cond (t:=false) (by simp [Act.eval,Array.replicate]) ?_
 simp only [Bool.false_eq_true,if_false];refine wpS_of_wp (wp_skip ?_)
 cases c₀
 simp_all [bodyPostS,results,Tryz.results41]
theorem Aeu (p q:Addr) (x y:gq) (w:gn) (hp:w.cell? p=some x) (hfp:w.frozen? p=false) (hq:w.cell? q=some y) (hfq:w.frozen? q=false) (jd:p.block≠q.block) :
  CallsD dr 41 #[.pointer (some p),.pointer (some q)] (.panicking [{ v:=.iface 31 (.int .i64 210),recovered:=false }]) w fun e u' w' =>
   e=.returned (.tuple #[])∧u'=.panicking [{ v:=.iface 31 (.int .i64 210),recovered:=true }]∧w'=(w.setCell p (.slice none 0 0)).setCell q (.int .i64 210):=by
 refine callsD_of_wpS func41 rfl fun c₀ cs hu=>?_
 apply wpS_seq
 apply wpS_region
 simp [wpOpsS,go_sem,recoverD,hu,Tryz.ntmps41,Exit.thenS]
 refine (Aes w).mono ?_
 rintro e w' ⟨rfl,rfl⟩
 show Code.wpS dr _ _ _ _ _;apply wpS_seq
 apply wpS_region
 simp [wpOpsS,go_sem,Exit.thenS]
 refine wpS_cond (t:=true) (by simp [Act.eval,Array.replicate]) ?_
 simp only [if_true];apply wpS_region
 have e1:(w'.setCell p (.slice none 0 0)).cell? q=some y:=by rw [World.cell?_setCell_other (h:=fun h=>jd (jw Addr.block h))];exact hq
 have e2:(w'.setCell p (.slice none 0 0)).frozen? q=false:=by rw [World.frozen?_setCell];exact hfq
 simp [wpOpsS,go_sem,hp,hfp,e1,e2,bodyPostS,results,Tryz.results41]
open Ex Num Rg
open Sh (R av rd mo en mo_en)
def KV:List (gt×List (Option IntKind)):=(60,List.replicate 4 (some .u64))::KQ
theorem BR:MU dr KV:=⟨⟨dm,dm,dm⟩,C'⟩
def QH (x:Nat):AV:=.val true [.num 4 x]
def Y' (x:Nat):dt:=(List.range 4).map (AE x)++[]
def R4:Nat:=115792089237316195423570985008687907853269984665640564039457584007913129639936
theorem yV:R4=2^(64*4):=dp
theorem Aev:Nat.blt rQ R4=true:=dm
theorem AJX:rN<R4:=by rw [rN_eq];exact BX.1 Aev
theorem AJY:0<rN:=by rw [rN_eq];exact BX.1 dm
theorem Aew (x:Nat):x % rN<R4:=nl (ki _ AJY) AJX
def wd4 (l:dt):dt:=(wl 5 (AI l % AI (AA RL 0 4))).take 4
theorem Aex (ic n m:Nat) (xs:dt):AU dr oJn f90 300 1 [] (Ak f90 [AQ 0 ic n m] (BE xs) 1 []) =
 some ([(Nat.ble (ic+n) xs.length,true),(AK .i64 n,true),(true,true),(true,true),(true,true),(true,true),(false,false),(true,true)],[],.val true [.seq .u64 (wd4 (AA xs ic n))],[]):=dm
theorem Aey {ic n m:Nat} {xs:dt} (hl:ic+n≤xs.length) (hn:n≤1125899906842624):Ab dr 90 [AQ 0 ic n m] (BE xs) 1 [] (QH (AI (AA xs ic n) % rN)) []:=by
 refine BN (Bf iF Co func90 dm dm (Aex ic n m xs) dm ⟨jr hl,Mq hn,rfl,rfl,rfl,rfl,rfl,rfl,trivial⟩) fun β u hu=>?_
 obtain ⟨l,q,rfl⟩:=hu;refine ⟨l,AG0 (β:=β) (k:=4) ?_ ?_,rfl⟩
 ·rw [← yV];exact Aew _
 ·unfold wd4 at q;rw [wB,wW] at q;exact q
noncomputable def SVb1:dw:=(90,D3 (X9 fun _ l=>QH (AI l % rN)))::SJn
theorem AJa:AX dr SVb1:=⟨EK (uZ func90 dm dm (fun _ _=>rfl) fun _ _ _ _ _ hl hn=>Aey hl hn),iF⟩
noncomputable abbrev oVb1:ia:=AG SVb1 KV
theorem Aez:g_ dr oVb1:=AH AJa BR
theorem AJb {x:Nat} (h:x<R4):AI (AA (Y' x) 0 4)=x:=by
 have e:AA (Y' x) 0 4=wl 4 x:=by
  unfold AA Y' wl;rw [lh,qf,oi (by simp)]
 rw [e,v6 (by rw [← yV];exact h)]
theorem Ae0 (a:Nat):AJ dr oVb1 f92 [QH a] [] 300=some (tt 2 [],QH (AI (AA (Y' a) 0 4) % rN)):=dm
theorem Ae1 {a:Nat} (h:a<R4):AT dr 92 [QH a] (QH (a % rN)):=by
 have h1:=AN Aez AB func92 (Ae0 a) (AY 2 trivial) rfl
 rw [AJb h] at h1;exact h1
def yW (g:Nat→AV):List AV→Option AV
 | [.val true a]=>match DE 4 a with
  | some x=>some (g x)
  | none=>none
 | _=>none
theorem Ae2 {f:gp} {g:Nat→AV} (h:∀ x,x<R4→AT dr f [QH x] (g x)):∀ args v,yW g args=some v→AT dr f args v:=by
 intro args v hs us w ha;unfold yW at hs;split at hs;case h_2=>cases hs
 rename_i a;split at hs;case h_2=>cases hs
 rename_i x hx;injection hs with hs;subst hs;obtain ⟨u1,jf,⟨l,q,rfl⟩,ha,rfl⟩:=ha;obtain ⟨_,jb⟩:=Hm hx q;exact h x (by rw [yV];exact jb) _ w ⟨_,_,⟨l,GI hx q,rfl⟩,ha,rfl⟩
noncomputable def SVb2:dw:=(92,Af (yW fun x=>QH (x % rN)))::SVb1
theorem iW:AX dr SVb2:=⟨Ah func92 dm dm (Ae2 fun _ h=>Ae1 h),AJa⟩
noncomputable abbrev yX:ia:=AG SVb2 KV
noncomputable def F4 (n N:Nat):Nat:=if n=32∧N<rN then N else 0
noncomputable def M_ (n N:Nat):Int:=if n=32 then (if N<rN then 0 else 61) else 60
noncomputable def ZA (n N:Nat):AV:=.tup [(true,[.num 4 (F4 n N)]),(false,[.v (.int .i64 (M_ n N))])]
def AJc:List Ch:=[.n .u64 0,.n .u64 0,.n .u64 0,.n .u64 0]
def fr0 (e:Int):AV:=.tup [(true,AJc),(false,[.n .i64 e])]
theorem AJe {β:Env} {v:gq} (h:Bt β true AJc v):Bt β true [.num 4 0] v:=by
 obtain ⟨l,q,rfl⟩:=h;exact ⟨l,GI (k:=4) (x:=0) dm q,rfl⟩
theorem Ae3 (ic n m:Nat) (xs:dt):AU dr yX f97 300 1 [] (Ak f97 [AQ 0 ic n m] (A7 xs) 1 dz) =
 some ([(AK .i64 n,true),(!decide ((n:Int)=32),true)],[],fr0 60,[]):=dm
noncomputable def frC (ic:Nat) (xs:dt) (b:Bool):du:=[(true,true),(false,false),(Nat.ble (ic+32) xs.length,true),(true,true),(true,true),(!decide (Ap (AA xs ic 32) % rN=Ap (AA xs ic 32)),b)]
theorem Ae4 (ic m:Nat) (xs:dt):AU dr yX f97 300 1 [] (Ak f97 [AQ 0 ic 32 m] (A7 xs) 1 ee)=some (frC ic xs true,[],fr0 61,[]):=dm
theorem Ae5 (ic m:Nat) (xs:dt):AU dr yX f97 300 1 [] (Ak f97 [AQ 0 ic 32 m] (A7 xs) 1 ef) =
 some (frC ic xs false,[],.tup [(true,[.num 4 (Ap (AA xs ic 32))]),(false,[.n .i64 0])],[]):=dm
theorem Ae6 {ic n m:Nat} {xs:dt} (hl:ic+n≤xs.length) (hn:AK .i64 n=true) :
  Ab dr 97 [AQ 0 ic n m] (A7 xs) 1 [] (ZA n (Ap (AA xs ic n))) []:=by
 have hmod:∀ N:Nat,decide (N % rN=N)=decide (N<rN):=fun N=>by
  by_cases h:N<rN
  ·rw [jm h,jm (jv h)]
  ·rw [jq h,jq fun e=>h (by rw [← e];exact ki _ AJY)]
 by_cases h:n=32
 ·subst h;by_cases hN:Ap (AA xs ic 32)<rN
  ·refine BN (Bf iW BR func97 dm dm (Ae5 ic m xs) dm ⟨rfl,rfl,jr hl,rfl,rfl,by rw [hmod,jm hN];rfl,trivial⟩) fun β u hu=>?_
   unfold ZA F4 M_;rw [jo ⟨rfl,hN⟩,jo rfl,jo hN];exact CQ (fun _ q=>q) (fun _ q=>EM rfl q) hu
  ·refine BN (Bf iW BR func97 dm dm (Ae4 ic m xs) dm ⟨rfl,rfl,jr hl,rfl,rfl,by rw [hmod,jq hN];rfl,trivial⟩) fun β u hu=>?_
   unfold ZA F4 M_;rw [jn (fun q=>hN q.2),jo rfl,jn hN]
   exact CQ (fun _ q=>AJe q) (fun _ q=>EM rfl q) hu
 ·refine BN (Bf iW BR func97 dm dm (Ae3 ic n m xs) dm ⟨hn,by simp;omega,trivial⟩) fun β u hu=>?_
  unfold ZA F4 M_;rw [jn (fun q=>h q.1),jn h]
  exact CQ (fun _ q=>AJe q) (fun _ q=>EM rfl q) hu
noncomputable def SVb3:dw:=(97,D3 (X8 fun n l=>ZA n (Ap l)))::SVb2
theorem iX:AX dr SVb3:=⟨EK (uW func97 dm dm (fun _ _=>rfl) fun _ _ _ _ _ hl hn=>Ae6 hl hn),iW⟩
noncomputable abbrev oVb3:ia:=AG SVb3 KV
theorem AJg:g_ dr oVb3:=AH iX BR
end Go.Proofs.YtgnajdcdcblaoaaGreat
