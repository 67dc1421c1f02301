/- Part 6 of the proof: Si, Sj, Sk, Sl, Sm, Sn, So, Sp, Sq, Sr, Ss, St, Su, Sv, Sw, Sx, Sy, Yb, Yc, Yd, Ye, Yf, Yg, Yh. -/
import Derived.Test.YtjlcdlekmpjjnaaGreatPE
namespace Go.Proofs.YtjlcdlekmpjjnaaGreat
open Ex Num
set_option maxRecDepth 100000
set_option maxHeartbeats 4000000
noncomputable def APl:List Item:=Bh (AR Tryz.prog oSa (some 0) 100 0 none (Af Tryz.f233 [.val true [.seq .u8 (Ap fun _=>0)]] [] 0 []))
noncomputable def LX (f:Nat→Int) (ws:List Int) (t:AV) (p:List Bool):ASt:=⟨APl,⟨Cs Tryz.f233.ntmps [(1,.val false [.p 0 0]),(2,.val false [.p 1 0]),(3,.val false [.p 2 0]),(4,t)],[(0,some ⟨176,[.seq .u8 (Ap f)],false⟩),(1,some ⟨213,List.replicate 64 (.n .u32 0),false⟩),(2,some ⟨213,[.seq .u32 ws],false⟩)],3,p⟩⟩
abbrev V7:Option (List Nat×List Nat×Nat):=some ([1,2,3,4],[0,1,2],3)
noncomputable def LY (f:Nat→Int):ASt:=EX (AR Tryz.prog oSa (some 0) 100 0 V7 (Af Tryz.f233 [.val true [.seq .u8 (Ap f)]] [] 0 []))
theorem APm (f:Nat→Int):AR Tryz.prog oSa (some 0) 100 0 V7 (Af Tryz.f233 [.val true [.seq .u8 (Ap f)]] [] 0 [])=some ([],[],LY f):=by kernel_rfl
theorem APn (f:Nat→Int):AG (LY f).s.H 2=some ⟨213,List.replicate 64 (.n .u32 0),false⟩:=by kernel_rfl
theorem APo {f:Nat→Int} {L:List Int}:(⟨(LY f).todo,⟨(LY f).s.T.map Dr,D2 2 [.seq .u32 L] (LY f).s.H,(LY f).s.fr,(LY f).s.path⟩⟩:ASt)=LX f L (iA 0) []:=by kernel_rfl
def cV (f:Nat→Int) (t:Int):Int:=AN false .u32 (AN false .u32 (AN false .u32 (Jp (AN false .u32 (gI (Ap f) (wI (4*t)))) 24+Jp (AN false .u32 (gI (Ap f) (wI (wI (4*t)+1)))) 16)+Jp (AN false .u32 (gI (Ap f) (wI (wI (4*t)+2)))) 8)+AN false .u32 (gI (Ap f) (wI (wI (4*t)+3))))
theorem APp (f:Nat→Int) (ws:List Int) (t:Int):AR Tryz.prog oSa (some 0) 200 0 V7 (LX f ws (iA t) [true,true]) =
 some ((decide (t<64),true)::(decide (t<16),true)::EY (wI (4*t)) (Ap f).length ((true,true)::EY (wI (wI (4*t)+1)) (Ap f).length ((true,true)::EY (wI (wI (4*t)+2)) (Ap f).length ((true,true)::EY (wI (wI (4*t)+3)) (Ap f).length (EY t ws.length [])))),[],LX f (ws.set (0+t.toNat*1) (cV f t)) (iA (wI (t+1))) []):=by kernel_rfl
def V8 (x:Int) (a b c:Nat):Int:=bits .xor .u32 (bits .xor .u32 (rr x.toNat a:Nat) (rr x.toNat b:Nat)) (IL x c)
def cW (ws:List Int) (t:Int):Int:=AN false .u32 (AN false .u32 (AN false .u32 (V8 (gI ws (wI (t-2))) 17 19 10+gI ws (wI (t-7)))+V8 (gI ws (wI (t-15))) 7 18 3)+gI ws (wI (t-16)))
theorem APq (f:Nat→Int) (ws:List Int) (t:Int):AR Tryz.prog oSa (some 0) 200 0 V7 (LX f ws (iA t) [true,false]) =
 some ((decide (t<64),true)::(decide (t<16),false)::EY (wI (t-15)) ws.length (EY (wI (t-2)) ws.length (tt 2 ((decide ((0:Int)≤3∧0≤gI ws (wI (t-15))),true)::tt 2 ((decide ((0:Int)≤10∧0≤gI ws (wI (t-2))),true)::EY (wI (t-7)) ws.length (EY (wI (t-16)) ws.length (EY t ws.length [])))))),[],LX f (ws.set (0+t.toNat*1) (cW ws t)) (iA (wI (t+1))) []):=by kernel_rfl
theorem APr (f g:Nat→Int) (t:Int):DQ Tryz.prog oSa Tryz.f233 100 0 (LX f (Ap g) (iA t) [false])=some ([(decide (t<64),false)],[],.val true [.seq .u32 (Ap g)]):=by kernel_rfl
theorem ND (f:Nat→Int) {i:Nat} (h:i<64):gI (Ap f) (i:Int)=f i:=by
 unfold gI Ap
 rw [Int.toNat_natCast,Nat.zero_add,Nat.mul_one]
 simp [List.getD_eq_getElem?_getD,h]
theorem LZ {t j:Nat} (h:t<16):wI (4*(t:Int))=((4*t:Nat):Int)∧wI (((4*t:Nat):Int)+(j:Int))=wI (((4*t+j:Nat):Int)):=by
 refine ⟨by rw [Al (by omega)];omega,by congr 1⟩
theorem O8 {n:Nat} (h:n<64):wI ((n:Nat):Int)=n:=Al (by omega)
theorem APs {b:Nat→Nat} (hb:∀ i,b i<256) {t:Nat} (h:t<16):cV (fun i=>(b i:Int)) (t:Int)=(IM b t:Nat):=by
 unfold cV IM
 have h0:=hb (4*t)
 have h1:=hb (4*t+1)
 have h2:=hb (4*t+2)
 have h3:=hb (4*t+3)
 rw [(LZ (j:=0) h).1,show (1:Int)=((1:Nat):Int) from rfl,show (2:Int)=((2:Nat):Int) from rfl,show (3:Int)=((3:Nat):Int) from rfl,(LZ (j:=1) h).2,(LZ (j:=2) h).2,(LZ (j:=3) h).2,O8 (by omega),O8 (by omega),O8 (by omega)]
 rw [ND _ (by omega),ND _ (by omega),ND _ (by omega),ND _ (by omega),Rr,Rr,Rr,Rr,show (24:Int)=((24:Nat):Int) from rfl,show (16:Int)=((16:Nat):Int) from rfl,show (8:Int)=((8:Nat):Int) from rfl,O0 _ _ (by decide),O0 _ _ (by decide),O0 _ _ (by decide),DC,DC,DC]
 congr 1
 omega
theorem xC {x:Nat} (hx:x<4294967296) (a b c:Nat) (hc:c≤32):V8 (x:Int) a b c=(Jr a b c x:Nat):=by
 unfold V8 Jr
 rw [Int.toNat_natCast,Rm _ _ hc,V2 (IK hx _) (IK hx _) (Nat.lt_of_le_of_lt (Nat.div_le_self _ _) hx)]
theorem xD {b:Nat→Nat} (hb:∀ i,b i<256) (n i:Nat):(EL b n).getD i 0<4294967296:=by
 rw [List.getD_eq_getElem?_getD]
 cases e:(EL b n)[i]? with
 | none=>exact (by decide:(0:Nat)<4294967296)
 | some d=>exact wQ hb n d (List.mem_of_getElem? e)
theorem APt {b:Nat→Nat} (hb:∀ i,b i<256) {n:Nat} (h:n<48):cW (EZ b n) ((n+16:Nat):Int)=(O5 (EL b n) n:Nat):=by
 unfold cW O5
 rw [show (2:Int)=((2:Nat):Int) from rfl,show (7:Int)=((7:Nat):Int) from rfl,show (15:Int)=((15:Nat):Int) from rfl,show (16:Int)=((16:Nat):Int) from rfl,Et (by omega) (by decide),Et (by omega) (by decide),Et (by omega) (by decide),Et (by omega) (by decide),IO b (by omega),IO b (by omega),IO b (by omega),IO b (by omega)]
 rw [xC (xD hb _ _) _ _ _ (by decide),xC (xD hb _ _) _ _ _ (by decide),DC,DC,DC,show n+16-2=n+14 by omega,show n+16-7=n+9 by omega,show n+16-15=n+1 by omega,show n+16-16=n by omega]
 congr 1
 omega
theorem APu {b:Nat→Nat}:GC (fun i=>(IM b i:Int)) 64 16=EZ b 0:=by
 unfold GC EZ
 rw [EL,List.map_map]
 rfl
theorem APv {b:Nat→Nat} (hb:∀ i,b i<256) (w0:World):ASafe Tryz.prog 233 BZ w0 (E6 w0 (.val true [.seq .u32 (Ap fun t=>(Es b t:Int))])) Tryz.f233.ntmps [] (LY fun i=>(b i:Int)):=by
 refine NC (APn _) (O4 (k:=.u32) (xs:=List.replicate 64 0) (by kernel_rfl)) ?_
 refine Ds ?_
 rw [APo]
 have loop2:∀ r n,n+r=48→ASafe Tryz.prog 233 BZ w0 (E6 w0 (.val true [.seq .u32 (Ap fun t=>(Es b t:Int))])) Tryz.f233.ntmps [] (LX (fun i=>(b i:Int)) (EZ b n) (iA ((n+16:Nat):Int)) []):=by
  intro r
  induction r with
  | zero =>
   intro n hn
   obtain rfl:n=48:=by omega
   rw [w7]
   exact AZ [false] (FS Hg AE Tryz.func233 (APr _ _ _) ⟨by decide,trivial⟩ (AL (by kernel_rfl)) (fun _ _=>rfl) rfl)
  | succ r ih =>
   intro n hn
   refine AZ [true,false] (Ab Hg AE (APq _ _ _) ?_ (AL (by kernel_rfl)) (fun _ _=>rfl) (fun _ h=>by cases h) fun _=>?_)
   ·have hl:=cS b (show n≤48 by omega)
    rw [hl,show (2:Int)=((2:Nat):Int) from rfl,show (7:Int)=((7:Nat):Int) from rfl,show (15:Int)=((15:Nat):Int) from rfl,show (16:Int)=((16:Nat):Int) from rfl,Et (by omega) (by decide),Et (by omega) (by decide),Et (by omega) (by decide),Et (by omega) (by decide),IO b (by omega),IO b (by omega)]
    exact ⟨decide_eq_true (by omega),decide_eq_false (by omega),Eu (by omega) (by omega) (Eu (by omega) (by omega) (Aj 2 ⟨decide_eq_true ⟨by decide,by omega⟩,Aj 2 ⟨decide_eq_true ⟨by decide,by omega⟩,Eu (by omega) (by omega) (Eu (by omega) (by omega) (Eu (by omega) (by omega) trivial))⟩⟩))⟩
   ·rw [APt hb (by omega),show 0+((n+16:Nat):Int).toNat*1=n+16 by omega,wZ b (by omega),Al (z:=((n+16:Nat):Int)+1) (by omega)]
    have:=ih (n+1) (by omega)
    rw [show ((n+1+16:Nat):Int)=((n+16:Nat):Int)+1 by omega] at this
    exact this
 have loop1:∀ r i,i+r=16→ASafe Tryz.prog 233 BZ w0 (E6 w0 (.val true [.seq .u32 (Ap fun t=>(Es b t:Int))])) Tryz.f233.ntmps [] (LX (fun i=>(b i:Int)) (GC (fun i=>(IM b i:Int)) 64 i) (iA (i:Int)) []):=by
  intro r
  induction r with
  | zero =>
   intro i hi
   obtain rfl:i=16:=by omega
   rw [APu]
   exact loop2 48 0 rfl
  | succ r ih =>
   intro i hi
   refine AZ [true,true] (Ab Hg AE (APp _ _ _) ?_ (AL (by kernel_rfl)) (fun _ _=>rfl) (fun _ h=>by cases h) fun _=>?_)
   ·rw [m8 (by omega),(LZ (j:=0) (show i<16 by omega)).1,show (1:Int)=((1:Nat):Int) from rfl,show (2:Int)=((2:Nat):Int) from rfl,show (3:Int)=((3:Nat):Int) from rfl,(LZ (j:=1) (show i<16 by omega)).2,(LZ (j:=2) (show i<16 by omega)).2,(LZ (j:=3) (show i<16 by omega)).2,O8 (by omega),O8 (by omega),O8 (by omega),show (Ap fun i=>(b i:Int)).length=64 from rfl]
    exact ⟨decide_eq_true (by omega),decide_eq_true (by omega),Eu (by omega) (by omega) ⟨rfl,Eu (by omega) (by omega) ⟨rfl,Eu (by omega) (by omega) ⟨rfl,Eu (by omega) (by omega) (Eu (by omega) (by omega) trivial)⟩⟩⟩⟩
   ·rw [APs hb (by omega),show 0+((i:Nat):Int).toNat*1=i by omega,m9 (f:=fun i=>(IM b i:Int)) (by omega),Al (z:=(i:Int)+1) (by omega)]
    exact ih (i+1) (by omega)
 have:=loop1 16 0 rfl
 rw [nA] at this
 exact this
theorem APw {b:Nat→Nat} (hb:∀ i,b i<256):AX Tryz.prog 233 [.val true [.seq .u8 (Ap fun i=>(b i:Int))]] (.val true [.seq .u32 (Ap fun t=>(Es b t:Int))]) :=
 Ir (path:=[]) Tryz.func233 (by kernel_rfl) (by kernel_rfl) fun w0=>Ab Hg AE (APm _) trivial (AL (by kernel_rfl)) (fun _ _=>rfl) (fun _ h=>by cases h) fun _=>APv hb w0
theorem O9 {A:List Ch} {k:IntKind} {xs:List Int} {β:Env} {u:Value} (h:As k A=some xs) (hr:AO β (.val true A) u):(∀ x∈xs,has k x)∧∀ β':Env,AO β' (.val true [.seq k xs]) u:=by
 obtain ⟨l,hl,rfl⟩:=hr
 obtain ⟨rfl,q⟩:=CJ h hl
 exact ⟨q,fun β'=>⟨_,J7 q,rfl⟩⟩
theorem xE {x:Int} (h:has .u8 x):0≤x∧x<256:=by
 rw [Do] at h;simp only [AH,Bool.and_eq_true,decide_eq_true_eq] at h;omega
def cX:List AV→Option (List (Bool×Bool)×AV)
 | [.val true cs]=>match As .u8 cs with
  | some xs=>some ([(Nat.beq xs.length 64,true)],.val true [.seq .u32 (Ap fun t=>(Es (bN xs) t:Int))])
  | none=>none
 | _=>none
theorem APx:∀ args c v,cX args=some (c,v)→AQ c→AX Tryz.prog 233 args v:=by
 intro args c v hs hc us w ha
 unfold cX at hs
 split at hs
 case h_2=>cases hs
 rename_i cs
 split at hs
 case h_2=>cases hs
 rename_i xs hx
 injection hs with hs;injection hs with hs1 hs2;subst hs1;subst hs2
 obtain ⟨u1,us1,r1,ha,rfl⟩:=ha
 obtain ⟨p1,q1⟩:=O9 hx r1
 have hb:=fun d hd=>xE (p1 d hd)
 have h:=APw (xA xs)
 rw [← cU hb (Ao.1 hc.1)] at h
 exact h _ w ⟨u1,_,q1 _,ha,rfl⟩
noncomputable def SSi:List (FuncId×ASpec):=(233,DI cX)::(235,kSp)::SSg
theorem xF:AU Tryz.prog SSi:=⟨Di Tryz.func233 (by kernel_rfl) (by kernel_rfl) APx,APN,APk⟩
noncomputable abbrev oSi:Orc:=AI SSi KV
theorem IP:OrcOk Tryz.prog oSi:=AK xF BT
def V9 (x:Option (List (Bool×Bool)×List Nat×AV)):AV:=match x with | some (_,_,v)=>v | none=>.any
def cvO (x:Option (List (Bool×Bool)×List Nat×AV)):List (Bool×Bool):=match x with | some (c,_,_)=>c | none=>[]
def kvO (x:Option (List (Bool×Bool)×List Nat×AV)):List Nat:=match x with | some (_,k,_)=>k | none=>[]
def ivO (x:Option (List (Bool×Bool)×List Nat×AV)):Bool:=match x with | some _=>true | none=>false
structure Rets (x:Option (List (Bool×Bool)×List Nat×AV)):Prop where
 isO:ivO x=true
 ky:kvO x=[]
 cd:NB (cvO x)=true
 nk:KJ (V9 x)=true
theorem xG {P:Program} {O:Orc} {f:FuncId} {fn:Func} {β0:Env} {w0:World} {n:Fz} (hO:OrcOk P O) (hm:P.follows .mixedOrders=true) (hfn:P.funcs[f]? = some fn) {fuel k0:Nat} {x:ASt}
  (h:Rets (DQ P O fn fuel k0 x)) (hwf:Bs n x.s) (h0:∀ b,k0≤b→β0 b=none) (hD:n.D=[]:=by rfl):ASafe P f β0 w0 (E6 w0 (V9 (DQ P O fn fuel k0 x))) n [] x:=by
 obtain ⟨h1,h2,h3,h4⟩:=h
 generalize e:DQ P O fn fuel k0 x=y at *
 cases y with
 | none=>cases h1
 | some v =>
  obtain ⟨c,k,v⟩:=v
  have hk:k=[]:=h2
  subst hk
  exact FS hO hm hfn e (O6 h3) hwf h0 h4 hD
theorem xH (f:Nat→Int) (β:Env) (l:List Value) (h:AM β [.seq .u32 (l8 f)] l):AM β (w8 f) l:=by
 obtain ⟨l1,l2,⟨rfl,hx⟩,h2,rfl⟩:=h
 simp only [AM] at h2
 subst h2
 have hm:∀ i,i<8→fZ (.int .u32 (f i)):=fun i hi=>⟨rfl,hx _ (List.mem_map.2 ⟨i,List.mem_range.2 hi,rfl⟩)⟩
 exact ⟨[_],_,⟨rfl,hm 0 (by decide)⟩,⟨[_],_,⟨rfl,hm 1 (by decide)⟩,⟨[_],_,⟨rfl,hm 2 (by decide)⟩,⟨[_],_,⟨rfl,hm 3 (by decide)⟩,⟨[_],_,⟨rfl,hm 4 (by decide)⟩,⟨[_],_,⟨rfl,hm 5 (by decide)⟩,⟨[_],_,⟨rfl,hm 6 (by decide)⟩,⟨[_],_,⟨rfl,hm 7 (by decide)⟩,rfl,rfl⟩,rfl⟩,rfl⟩,rfl⟩,rfl⟩,rfl⟩,rfl⟩,rfl⟩
def xI (b:Nat→Int):Nat→Int:=fun t=>(Es (bN (Ap b)) t:Int)
def A' (f:Nat→Nat):Nat→Int:=fun i=>(f i:Int)
noncomputable def xJ (h b:Nat→Int):ASt:=Af Tryz.f163 [.val true [.seq .u32 (l8 h)],.val true [.seq .u8 (Ap b)]] [] 0 []
noncomputable def Lb (h b:Nat→Int):ASt:=EX (AR Tryz.prog oSi (some 0) 100 0 cJ (xJ h b))
noncomputable def xK:List Ch:=match AG (Lb (fun _=>0) fun _=>0).s.H 3 with | some b=>b.cs | none=>[]
theorem AP1 (h b:Nat→Int):AR Tryz.prog oSi (some 0) 100 0 cJ (xJ h b)=some ([(true,true)],[],Lb h b):=by kernel_rfl
theorem AP2 (h b:Nat→Int):AG (Lb h b).s.H 3=some ⟨213,xK,false⟩:=by kernel_rfl
theorem AP3:As .u32 xK=some kL:=by kernel_rfl
noncomputable def NE (h b:Nat→Int):ASt:=⟨(Lb h b).todo,⟨(Lb h b).s.T,D2 3 [.seq .u32 kL] (Lb h b).s.H,(Lb h b).s.fr,(Lb h b).s.path⟩⟩
theorem AP4 (h b:Nat→Int):AG (NE h b).s.H 5=some ⟨173,[.seq .u32 (l8 h)],false⟩:=by kernel_rfl
theorem AP5 (h b:Nat→Int):(⟨(NE h b).todo,⟨(NE h b).s.T.map Dr,D2 5 (w8 h) (NE h b).s.H,(NE h b).s.fr,(NE h b).s.path⟩⟩:ASt)=O2 (l8 h) kL (Ap (xI b)) h (iA 0) []:=by kernel_rfl
theorem AP6 (h ws s:Nat→Int):Rets (DQ Tryz.prog oSi Tryz.f163 400 0 (O2 (l8 h) kL (Ap ws) s (iA 64) [false])):=⟨by kernel_rfl,by kernel_rfl,by kernel_rfl,by kernel_rfl⟩
theorem AP7 (h ws s:Nat→Int):V9 (DQ Tryz.prog oSi Tryz.f163 400 0 (O2 (l8 h) kL (Ap ws) s (iA 64) [false]))=.val true (w8 fun i=>AN false .u32 (s i+h i)):=by kernel_rfl
theorem xL {t:Nat} (h:t<64):kL.getD (0+(t:Int).toNat*1) 0=(kN t:Nat):=by
 have:=cT (xs:=kL) (P:=fun d=>0≤d) (by decide) (by decide) t
 rw [show 0+(t:Int).toNat*1=t by omega]
 unfold kN;omega
theorem xM (f:Nat→Int) {t:Nat} (h:t<64):(Ap f).getD (0+(t:Int).toNat*1) 0=f t:=ND f h
theorem AP8 {h:Nat→Nat} (hh:∀ i,h i<4294967296) (W:Nat→Nat) (w0:World):∀ r t,t+r=64 →
  ASafe Tryz.prog 163 BZ w0 (E6 w0 (.val true (w8 fun i=>AN false .u32 (G_ h kN W 64 i+h i)))) Tryz.f163.ntmps [] (O2 (l8 (A' h)) kL (Ap (A' W)) (A' (G_ h kN W t)) (iA (t:Int)) []):=by
 intro r
 induction r with
 | zero =>
  intro t ht
  obtain rfl:t=64:=by omega
  have:=xG (P:=Tryz.prog) (n:=Tryz.f163.ntmps) (β0:=BZ) (w0:=w0) IP AE Tryz.func163 (AP6 (A' h) (A' W) (A' (G_ h kN W 64))) (AL (by kernel_rfl)) (fun _ _=>rfl)
  rw [AP7] at this
  exact AZ [false] this
 | succ r ih =>
  intro t ht
  refine AZ [true] (Ab Hg AE (APA _ _ _ _ _) ?_ (AL (by kernel_rfl)) (fun _ _=>rfl) (fun _ h=>by cases h) fun _=>?_)
  ·unfold wL
   exact ⟨decide_eq_true (by omega),Aj 3 ⟨decide_eq_true ⟨by omega,by omega⟩,decide_eq_true (by show 0+(t:Int).toNat*1<64;omega),decide_eq_true ⟨by omega,by omega⟩,decide_eq_true (by show 0+(t:Int).toNat*1<64;omega),Aj 5 trivial⟩⟩
  ·rw [xL (by omega),xM _ (by omega)]
   have e:=APC (cK hh kN W t) (kN t) (W t)
   unfold A'
   rw [e,Al (z:=(t:Int)+1) (by omega)]
   exact ih (t+1) (by omega)
theorem AP9 {h:Nat→Nat} (hh:∀ i,h i<4294967296) (b:Nat→Int):AX Tryz.prog 163 [.val true [.seq .u32 (l8 (A' h))],.val true [.seq .u8 (Ap b)]] (.val true (w8 fun i=>AN false .u32 (G_ h kN (Es (bN (Ap b))) 64 i+h i))) :=
 Ir (path:=[]) Tryz.func163 (by kernel_rfl) (by kernel_rfl) fun w0=>Ab IP AE (AP1 (A' h) b) ⟨rfl,trivial⟩ (AL (by kernel_rfl)) (fun _ _=>rfl) (fun _ h=>by cases h) fun _ =>
  NC (AP2 _ _) (O4 AP3) (show ASafe _ _ _ _ _ _ _ (NE (A' h) b) from NC (AP4 _ _) (xH _) (Ds (by
   rw [AP5]
   exact AP8 hh _ w0 64 0 rfl)))
noncomputable def xO (h b:Nat→Int):ASt:=Af Tryz.f176 [.val true [.seq .u32 (l8 h)],.val true [.seq .u8 (Ap b)]] [] 0 []
abbrev cY:Option (List Nat×List Nat×Nat):=some ([2,4,5,6,7],[0,2,3,4],5)
noncomputable def Ld (h b:Nat→Int):ASt:=EX (AR Tryz.prog oSi (some 0) 100 0 cY (xO h b))
noncomputable def AP_:List Item:=(Ld (fun _=>0) fun _=>0).todo
noncomputable def O_ (h ws s:Nat→Int) (t:AV) (p:List Bool):ASt:=⟨AP_,⟨Cs Tryz.f176.ntmps [(2,.val false [.p 0 0]),(4,.val false [.p 2 0]),(5,.val false [.p 3 0]),(6,.val false [.p 4 0]),(7,t)],
 [(0,some ⟨173,[.seq .u32 (l8 h)],false⟩),(2,some ⟨173,List.replicate 8 (.n .u32 0),false⟩),(3,some ⟨213,[.seq .u32 (Ap ws)],false⟩),(4,some ⟨173,w8 s,false⟩)],5,p⟩⟩
theorem AP' (h b:Nat→Int):AR Tryz.prog oSi (some 0) 100 0 cY (xO h b)=some ([(true,true)],[],Ld h b):=by kernel_rfl
theorem AQA (h b:Nat→Int):AG (Ld h b).s.H 4=some ⟨173,[.seq .u32 (l8 h)],false⟩:=by kernel_rfl
theorem AQB (h b:Nat→Int):(⟨(Ld h b).todo,⟨(Ld h b).s.T.map Dr,D2 4 (w8 h) (Ld h b).s.H,(Ld h b).s.fr,(Ld h b).s.path⟩⟩:ASt)=O_ h (xI b) h (iA 0) []:=by kernel_rfl
def V_ (a b c:Nat) (x:Int):Int:=bits .xor .u32 (bits .xor .u32 (rr x.toNat a:Nat) (rr x.toNat b:Nat)) (rr x.toNat c:Nat)
def O' (s:Nat→Int) (k w:Int):Int:=AN false .u32 (AN false .u32 (AN false .u32 (AN false .u32 (s 7+V_ 6 11 25 (s 4))+bits .xor .u32 (bits .and .u32 (s 4) (s 5)) (bits .and .u32 (bits .xor .u32 4294967295 (s 4)) (s 6)))+k)+w)
def V' (s:Nat→Int):Int:=AN false .u32 (V_ 2 13 22 (s 0)+bits .xor .u32 (bits .xor .u32 (bits .and .u32 (s 0) (s 1)) (bits .and .u32 (s 0) (s 2))) (bits .and .u32 (s 1) (s 2)))
def cZ (s:Nat→Int) (k w:Int):Nat→Int
 | 0=>AN false .u32 (O' s k w+V' s)
 | 1=>s 0
 | 2=>s 1
 | 3=>s 2
 | 4=>AN false .u32 (s 3+O' s k w)
 | 5=>s 4
 | 6=>s 5
 | _=>s 6
theorem AQC (h ws s:Nat→Int) (t:Int):AR Tryz.prog oSi (some 0) 100 0 cY (O_ h ws s (iA t) [true]) =
 some ((decide (t<64),true)::tt 3 ((decide (0≤t∧t<64),true)::EY t (Ap ws).length (tt 3 [])),[],O_ h ws (cZ s (kL.getD (0+t.toNat*1) 0) ((Ap ws).getD (0+t.toNat*1) 0)) (iA (wI (t+1))) []):=by kernel_rfl
theorem AQD (h ws s:Nat→Int):Rets (DQ Tryz.prog oSi Tryz.f176 400 0 (O_ h ws s (iA 64) [false])):=⟨by kernel_rfl,by kernel_rfl,by kernel_rfl,by kernel_rfl⟩
theorem AQE (h ws s:Nat→Int):V9 (DQ Tryz.prog oSi Tryz.f176 400 0 (O_ h ws s (iA 64) [false]))=.val true (w8 fun i=>AN false .u32 (h i+s i)):=by kernel_rfl
theorem xP {x:Nat} (hx:x<4294967296) (a b c:Nat):V_ a b c (x:Int)=(Jq a b c x:Nat):=by
 unfold V_ Jq
 rw [Int.toNat_natCast,V2 (IK hx _) (IK hx _) (IK hx _)]
theorem AQF {s:Nat→Nat} (hs:∀ i,s i<4294967296) (k w:Nat):O' (A' s) k w=(O3 s k w:Nat):=by
 unfold O' O3 A'
 have h5:(s 4 &&& s 5)<4294967296:=Nat.and_lt_two_pow (n:=32) _ (hs 5)
 have h6:((4294967295 ^^^ s 4) &&& s 6)<4294967296:=Nat.and_lt_two_pow (n:=32) _ (hs 6)
 have h7:(4294967295 ^^^ s 4)<4294967296:=Nat.xor_lt_two_pow (n:=32) (by decide) (hs 4)
 rw [show (4294967295:Int)=((4294967295:Nat):Int) from rfl,xP (hs 4),(DZ _ _ (by decide) (hs 4)).2.2,(DZ _ _ (hs 4) (hs 5)).1,(DZ _ _ h7 (hs 6)).1,(DZ _ _ h5 h6).2.2,APE (hs 6),DC,DC,DC,DC]
 congr 1
 omega
theorem AQG {s:Nat→Nat} (hs:∀ i,s i<4294967296):V' (A' s)=(Rq s:Nat):=by
 unfold V' Rq A'
 have a1:(s 0 &&& s 1)<4294967296:=Nat.and_lt_two_pow (n:=32) _ (hs 1)
 have a2:(s 0 &&& s 2)<4294967296:=Nat.and_lt_two_pow (n:=32) _ (hs 2)
 have a3:(s 1 &&& s 2)<4294967296:=Nat.and_lt_two_pow (n:=32) _ (hs 2)
 rw [xP (hs 0),(DZ _ _ (hs 0) (hs 1)).1,(DZ _ _ (hs 0) (hs 2)).1,(DZ _ _ (hs 1) (hs 2)).1,(DZ _ _ a1 a2).2.2,(DZ _ _ (Nat.xor_lt_two_pow (n:=32) a1 a2) a3).2.2,APF,DC]
theorem AQH {s:Nat→Nat} (hs:∀ i,s i<4294967296) (k w:Nat):cZ (A' s) k w=A' (M' s k w):=by
 funext i
 have e1:=AQF hs k w
 have e2:=AQG hs
 show cZ (A' s) k w i=((M' s k w i:Nat):Int)
 match i with
 | 0 =>
  show AN false .u32 (O' (A' s) k w+V' (A' s))=_
  rw [e1,e2,DC];rfl
 | 1=>rfl
 | 2=>rfl
 | 3=>rfl
 | 4 =>
  show AN false .u32 (A' s 3+O' (A' s) k w)=_
  rw [e1];exact DC _ _
 | 5=>rfl
 | 6=>rfl
 | _+7=>rfl
theorem AQI {h:Nat→Nat} (hh:∀ i,h i<4294967296) (W:Nat→Nat) (w0:World):∀ r t,t+r=64 →
  ASafe Tryz.prog 176 BZ w0 (E6 w0 (.val true (w8 fun i=>AN false .u32 (h i+G_ h kN W 64 i)))) Tryz.f176.ntmps [] (O_ (A' h) (A' W) (A' (G_ h kN W t)) (iA (t:Int)) []):=by
 intro r
 induction r with
 | zero =>
  intro t ht
  obtain rfl:t=64:=by omega
  have:=xG (P:=Tryz.prog) (n:=Tryz.f176.ntmps) (β0:=BZ) (w0:=w0) IP AE Tryz.func176 (AQD (A' h) (A' W) (A' (G_ h kN W 64))) (AL (by kernel_rfl)) (fun _ _=>rfl)
  rw [AQE] at this
  exact AZ [false] this
 | succ r ih =>
  intro t ht
  refine AZ [true] (Ab IP AE (AQC _ _ _ _) ?_ (AL (by kernel_rfl)) (fun _ _=>rfl) (fun _ h=>by cases h) fun _=>?_)
  ·exact ⟨decide_eq_true (by omega),Aj 3 ⟨decide_eq_true ⟨by omega,by omega⟩,Eu (by omega) (by show t<64;omega) (Aj 3 trivial)⟩⟩
  ·rw [xL (by omega),xM _ (by omega),Al (z:=(t:Int)+1) (by omega)]
   have e:=AQH (cK hh kN W t) (kN t) (W t)
   rw [show A' W t=((W t:Nat):Int) from rfl,e]
   exact ih (t+1) (by omega)
theorem AQJ {h:Nat→Nat} (hh:∀ i,h i<4294967296) (b:Nat→Int):AX Tryz.prog 176 [.val true [.seq .u32 (l8 (A' h))],.val true [.seq .u8 (Ap b)]] (.val true (w8 fun i=>AN false .u32 (h i+G_ h kN (Es (bN (Ap b))) 64 i))) :=
 Ir (path:=[]) Tryz.func176 (by kernel_rfl) (by kernel_rfl) fun w0=>Ab IP AE (AP' (A' h) b) ⟨rfl,trivial⟩ (AL (by kernel_rfl)) (fun _ _=>rfl) (fun _ h=>by cases h) fun _ =>
  NC (AQA _ _) (xH _) (Ds (by
   rw [AQB]
   exact AQI hh _ w0 64 0 rfl))
def wN (xs:List Int) (i:Nat):Nat:=(xs.getD i 0).toNat % 4294967296
theorem AQK (xs:List Int) (i:Nat):wN xs i<4294967296:=Nat.mod_lt _ (by decide)
theorem AQL {xs:List Int} (h:∀ d∈xs,0≤d∧d<4294967296) (hl:xs.length=8):xs=l8 (A' (wN xs)):=by
 conv=>lhs;rw [O7 hl]
 refine List.map_congr_left fun i _=>?_
 have:=cT (P:=fun d=>0≤d∧d<4294967296) h ⟨by decide,by decide⟩ i
 unfold A' wN;omega
def WA:List AV→Option (List (Bool×Bool)×AV)
 | [.val true hs,.val true bs]=>match As .u32 hs,As .u8 bs with
  | some xs,some ys=>some ([(Nat.beq xs.length 8,true),(Nat.beq ys.length 64,true)],.val true [.seq .u32 (l8 (A' (NA (wN xs) (bN ys))))])
  | _,_=>none
 | _=>none
theorem AQM (f:Nat→Int):As .u32 (w8 f)=some (l8 f):=by kernel_rfl
theorem xQ {F:FuncId} (h:∀ (h:Nat→Nat) (b:Nat→Int),(∀ i,h i<4294967296)→AX Tryz.prog F [.val true [.seq .u32 (l8 (A' h))],.val true [.seq .u8 (Ap b)]] (.val true (w8 (A' (NA h (bN (Ap b))))))):∀ args c v,WA args=some (c,v)→AQ c→AX Tryz.prog F args v:=by
 intro args c v hs hc us w ha
 unfold WA at hs
 split at hs
 case h_2=>cases hs
 rename_i hs' bs'
 split at hs
 case h_2=>cases hs
 rename_i xs ys hx hy
 injection hs with hs;injection hs with hs1 hs2;subst hs1;subst hs2
 obtain ⟨u1,us1,r1,⟨u2,us2,r2,ha,rfl⟩,rfl⟩:=ha
 obtain ⟨p1,q1⟩:=O9 hx r1
 obtain ⟨p2,q2⟩:=O9 hy r2
 have e1:=AQL (fun d hd=>V0 (p1 d hd)) (Ao.1 hc.1)
 have e2:=cU (fun d hd=>xE (p2 d hd)) (Ao.1 hc.2.1)
 have q:=h (wN xs) (fun i=>(bN ys i:Int)) (AQK xs)
 rw [← e2,← e1] at q
 refine C_ q (fun u hu=>(O9 (AQM _) hu).2 _) _ w ⟨u1,_,q1 _,⟨u2,_,q2 _,ha,rfl⟩,rfl⟩
noncomputable def SSj:List (FuncId×ASpec):=(163,DI WA)::(176,DI WA)::SSi
theorem xR (f g:Nat→Nat):(fun i=>AN false .u32 ((f i:Int)+(g i:Int)))=A' fun i=>(f i+g i) % 4294967296:=by
 funext i
 rw [DC];rfl
theorem AQN:AU Tryz.prog SSj:=⟨Di Tryz.func163 (by kernel_rfl) (by kernel_rfl) (xQ fun h b hh=>by
  have:=AP9 hh b
  rw [xR] at this
  exact this),Di Tryz.func176 (by kernel_rfl) (by kernel_rfl) (xQ fun h b hh=>by
  have:=AQJ hh b
  rw [xR,show (fun i=>(h i+G_ h kN (Es (bN (Ap b))) 64 i) % 4294967296)=NA h (bN (Ap b)) from funext fun i=>by unfold NA;rw [Nat.add_comm]] at this
  exact this),xF⟩
def PA (k:Nat):Heap→Heap
 | []=>[]
 | (j,b)::r=>match Nat.beq j k with
  | true=>(j,match b with | some ⟨ty,cs,_⟩=>some ⟨ty,cs,true⟩ | none=>none)::r
  | false=>(j,b)::PA k r
theorem c8 {k:Nat} {cs:List Ch} {ty:TypeId} {o:Bool}:∀ {H:Heap},AG H k=some ⟨ty,cs,o⟩→∀ b x,AG (PA k H) b=some x→AG H b=some x∨(b=k∧x=⟨ty,cs,true⟩)
 | [],h,_,_,_=>by cases h
 | (j,z)::r,h,b,x,hx=>by
  simp only [AG] at h ⊢
  unfold PA at hx
  cases e:Nat.beq j k with
  | true =>
   rw [e] at h hx
   have hz:z=some ⟨ty,cs,o⟩:=h
   subst hz
   simp only [AG] at hx
   cases e':Nat.beq j b with
   | true =>
    rw [e'] at hx
    injection hx with hx
    exact .inr ⟨(Ao.1 e').symm.trans (Ao.1 e),hx.symm⟩
   | false=>rw [e'] at hx;exact .inl hx
  | false =>
   rw [e] at h hx
   simp only [AG] at hx
   cases e':Nat.beq j b with
   | true=>rw [e'] at hx;exact .inl hx
   | false=>rw [e'] at hx;exact c8 (H:=r) h b x hx
theorem AQO {β:Env} {ty:TypeId} {cs:List Ch} {o:Bool} {k:Nat} {w:World} (hr:Dn β ⟨ty,cs,o⟩ k w):Dn β ⟨ty,cs,true⟩ k w:=by
 rcases hr with ⟨B,n,l,t,pre,ty',fz,q1,q2,q3,q4,q5⟩ | ⟨q1,q2,q3⟩
 ·exact .inl ⟨B,n,l,t,pre,ty',fz,q1,q2,q3,q4,fun h=>by
   obtain ⟨a1,a2,a3,a4,a5⟩:=q5 h
   exact ⟨a1,a2,a3,(fun h=>by cases h),a5⟩⟩
 ·exact .inr ⟨q1,.inl rfl,q3⟩
theorem AQP {P:Program} {f:FuncId} {β0:Env} {w0:World} {R:Ending→World→Prop} {n:Fz} {W:List Nat} {x:ASt} {k:Nat} {ty:TypeId} {cs:List Ch} {o:Bool} (hk:AG x.s.H k=some ⟨ty,cs,o⟩)
  (hs:ASafe P f β0 w0 R n W ⟨x.todo,⟨x.s.T,PA k x.s.H,x.s.fr,x.s.path⟩⟩):ASafe P f β0 w0 R n W x:=by
 intro β a w hi hf
 refine hs β a w { hi with good:=?_ } hf
 have g:=hi.good
 have hh:∀ b y,AG (PA k x.s.H) b=some y→∃ z,AG x.s.H b=some z∧z.ty=y.ty:=fun b y hb=>by
  rcases c8 hk b y hb with e | ⟨rfl,rfl⟩
  ·exact ⟨y,e,rfl⟩
  ·exact ⟨_,hk,rfl⟩
 refine ⟨fun b blk hb=>?_,fun b b' B n n' h1 h2 h3 h4=>?_,g.lt⟩
 ·rcases c8 hk b blk hb with e | ⟨rfl,rfl⟩
  ·exact g.heap b blk e
  ·exact AQO (g.heap b _ hk)
 ·obtain ⟨y,hy,hr⟩:=E0 h1
  obtain ⟨z,hz,e⟩:=hh b y hy
  obtain ⟨y',hy'⟩:=Option.isSome_iff_exists.1 h2
  obtain ⟨z',hz',_⟩:=hh b' y' hy'
  exact g.inj b b' B n n' (EO hz (by rw [e];exact hr)) (by rw [hz'];rfl) h3 h4
def PB (n:Nat):Int:=wI (wI (Int.tdiv (wI (wI ((n:Int)+9)+63)) 64)*64)
def Ju (n:Nat):Nat:=(PB n).toNat
def Ru (n:Nat):List Int:=List.replicate (Ju n) 0
def Rv (off n:Nat) (xs:List Int):List Int:=(Ru n).take 0++((xs.drop off).take (Nat.min n (Ju n))++(Ru n).drop (0+Nat.min n (Ju n)*1))
def c9 (off n:Nat) (xs:List Int):List Int:=(Rv off n xs).set (0+(n:Int).toNat*1) 128
noncomputable def pdT:List Item:=Bh (AR Tryz.prog oSi (some 0) 100 1 none (Af Tryz.f161 [AJ 0 0 0 0] (Ak []) 1 []))
noncomputable def Rw (N:Int) (L:Nat) (ys:List Int) (i k:AV) (p:List Bool):ASt:=⟨pdT,⟨Cs Tryz.f161.ntmps [(3,iA N),(4,AJ 1 0 L L),(5,i),(6,k)],[(1,some ⟨5,[.seq .u8 ys],false⟩)],2,p⟩⟩
def PC (k:Int):AV:=.val false [.v (.int .u64 k)]
abbrev xS:Option (List Nat×List Nat×Nat):=some ([3,4,5,6],[1],2)
theorem AQR (off n m:Nat) (xs:List Int):AR Tryz.prog oSi (some 0) 400 1 xS (Af Tryz.f161 [AJ 0 off n m] (Ak xs) 1 []) =
 some ((AH .i64 n,true)::(true,true)::(Ky (PB n) 1,true)::(Nat.ble (off+Nat.min n (Ju n)) xs.length,true)::(Nat.ble (0+Nat.min n (Ju n)*1) (Ru n).length,true)::(AH .i64 n,true)::(decide ((0:Int)≤n∧(n:Int)<Ju n),true)::(decide (0+(n:Int).toNat*1<(Rv off n xs).length),true)::(AH .i64 n,true)::[],[],
  Rw (PB n) (Ju n) (c9 off n xs) (.val false [.n .i64 0]) (PC (AN false .u64 (8*AN false .u64 n))) []):=by kernel_rfl
def PD (N i:Int):Int:=wI (wI (N-1)-i)
theorem AQS (N:Int) (L:Nat) (ys:List Int) (i k:Int):AR Tryz.prog oSi (some 0) 400 1 xS (Rw N L ys (iA i) (PC k) [true]) =
 some ((decide (i<8),true)::(decide (0≤PD N i∧PD N i<L),true)::(decide (0+(PD N i).toNat*1<ys.length),true)::(decide ((0:Int)≤8∧0≤k),true)::[],[],Rw N L (ys.set (0+(PD N i).toNat*1) (AN false .u8 k)) (iA (wI (i+1))) (PC (Int.fdiv k (2^min (8:Int).toNat IntKind.u64.bits))) []):=by kernel_rfl
theorem AQT (N:Int) (L:Nat) (ys:List Int) (i k:Int):AP Tryz.prog oSi Tryz.f161 400 1 [1] (Rw N L ys (iA i) (PC k) [false])=some ([(decide (i<8),false)],[],AJ 1 0 L L,[(1,some ⟨5,[.seq .u8 ys],false⟩)]):=by kernel_rfl
theorem xU {n:Nat} (h:n≤35184372088832):PB n=(Am n:Nat)∧Ju n=Am n:=by
 have e1:wI (wI ((n:Int)+9)+63)=((n+72:Nat):Int):=by rw [Al (z:=(n:Int)+9) (by omega),Al (by omega)];omega
 have e2:Int.tdiv ((n+72:Nat):Int) 64=(((n+72) / 64:Nat):Int):=by rw [Int.tdiv_eq_ediv_of_nonneg (by omega)];rfl
 have e3:PB n=(Am n:Nat):=by
  unfold PB Am
  rw [e1,e2,Al (z:=(((n+72) / 64:Nat):Int)) (by omega),Al (by omega)]
  rfl
 exact ⟨e3,by unfold Ju;rw [e3];rfl⟩
def Hh (xs:List Int) (i:Nat):List Int:=xs++128::(List.replicate (Am xs.length-xs.length-9) 0++(List.replicate (8-i) 0++(BK (8*xs.length) 8).drop (8-i)))
theorem AQU (xs:List Int):Hh xs 0=xs++128::List.replicate (Am xs.length-xs.length-1) 0:=by
 unfold Hh
 have:=Js xs.length
 rw [List.drop_eq_nil_of_le (by rw [Gy];exact Nat.le_refl _),List.append_nil,List.replicate_append_replicate]
 congr 3
 omega
theorem AQV (xs:List Int):Hh xs 8=CD xs:=by
 unfold Hh CD
 rw [Nat.sub_self,List.replicate_zero,List.drop_zero,List.nil_append]
theorem AQW (xs:List Int) {i:Nat} (h:i≤8):(Hh xs i).length=Am xs.length:=by
 have:=Js xs.length
 unfold Hh
 simp only [List.length_append,List.length_cons,List.length_replicate,List.length_drop,Gy]
 omega
theorem AQX (xs:List Int) {i:Nat} (h:i<8):(Hh xs i).set (Am xs.length-1-i) (EA (8*xs.length) i)=Hh xs (i+1):=by
 have hp:=Js xs.length
 unfold Hh
 rw [List.set_append_right _ _ (by omega),show Am xs.length-1-i-xs.length=(Am xs.length-xs.length-9+(7-i))+1 by omega,List.set_cons_succ,List.set_append_right _ _ (by simp),List.length_replicate,Nat.add_sub_cancel_left,show 8-i=(7-i)+1 by omega,List.replicate_succ',List.append_assoc,List.set_append_right _ _ (by simp),List.length_replicate,Nat.sub_self,show 8-(i+1)=7-i by omega]
 have e:(BK (8*xs.length) 8).drop (7-i)=EA (8*xs.length) i::(BK (8*xs.length) 8).drop (7-i+1):=by
  rw [List.drop_eq_getElem_cons (by rw [Gy];omega)]
  congr 1
  simp only [BK,List.getElem_map,List.getElem_range]
  congr 1;omega
 rw [e]
 rfl
theorem AQY {off n:Nat} {xs:List Int} (hl:off+n≤xs.length) (hn:n≤35184372088832):Rv off n xs=AA xs off n++List.replicate (Am n-n) 0∧c9 off n xs=Hh (AA xs off n) 0:=by
 have hp:=Js n
 have hw:(AA xs off n).length=n:=by unfold AA;rw [List.length_take,List.length_drop];omega
 have e:Rv off n xs=AA xs off n++List.replicate (Am n-n) 0:=by
  unfold Rv Ru
  rw [(xU hn).2,show Nat.min n (Am n)=n from Nat.min_eq_left (by omega),List.take_zero,List.nil_append,Nat.zero_add,Nat.mul_one,List.drop_replicate]
  rfl
 refine ⟨e,?_⟩
 unfold c9
 rw [e,AQU,hw,show 0+(n:Int).toNat*1=n by omega,List.set_append_right _ _ (by omega),hw,Nat.sub_self,show Am n-n=(Am n-n-1)+1 by omega,List.replicate_succ,List.set_cons_zero]
 rfl
theorem AQZ {off n m:Nat} {xs:List Int} (hl:off+n≤xs.length) (hn:n≤35184372088832):Ah Tryz.prog 161 [AJ 0 off n m] (Ak xs) 1 [] (AJ 1 0 (Am n) (Am n)) [(1,some ⟨5,[.seq .u8 (CD (AA xs off n))],false⟩)]:=by
 have hp:=Js n
 have hw:(AA xs off n).length=n:=by unfold AA;rw [List.length_take,List.length_drop];omega
 have hN:Am n≤n+72:=by unfold Am;omega
 obtain ⟨e1,e2⟩:=xU hn
 obtain ⟨e3,e4⟩:=AQY (off:=off) (n:=n) hl hn
 refine Av (path:=[]) Tryz.func161 (by kernel_rfl) (by kernel_rfl) fun β0 w0 h0=>?_
 refine Ab IP AE (AQR off n m xs) ?_ (AL (by kernel_rfl)) h0 (fun _ h=>by cases h) fun _=>?_
 ·have hh:AH .i64 n=true:=by simp only [AH,Bool.and_eq_true,decide_eq_true_eq];omega
  refine ⟨hh,rfl,?_,Nat.ble_eq_true_of_le ?_,Nat.ble_eq_true_of_le ?_,hh,decide_eq_true ⟨by omega,by omega⟩,decide_eq_true ?_,hh,trivial⟩
  ·rw [e1];unfold Ky;exact decide_eq_true ⟨by omega,by omega,by omega,by omega⟩
  ·rw [e2,show Nat.min n (Am n)=n from Nat.min_eq_left (by omega)];exact hl
  ·unfold Ru;rw [e2,show Nat.min n (Am n)=n from Nat.min_eq_left (by omega),List.length_replicate];omega
  ·rw [e3,List.length_append,hw,List.length_replicate];omega
 ·rw [e4,e1,e2,show AN false .u64 (8*AN false .u64 (n:Int))=((8*n:Nat):Int) by rw [CA,CA,IntKind.wrap_u64,IntKind.wrap_u64];omega]
  have loop:∀ r i,i+r=8→ASafe Tryz.prog 161 β0 w0 (Ax β0 w0 [] (AJ 1 0 (Am n) (Am n)) [(1,some ⟨5,[.seq .u8 (CD (AA xs off n))],false⟩)]) Tryz.f161.ntmps [] (Rw (Am n:Nat) (Am n) (Hh (AA xs off n) i) (iA (i:Int)) (PC ((8*n / 256^i:Nat):Int)) []):=by
   intro r
   induction r with
   | zero =>
    intro i hi
    obtain rfl:i=8:=by omega
    rw [AQV]
    exact AZ [false] (Aq IP AE Tryz.func161 (AQT ..) ⟨by decide,trivial⟩ (AL (by kernel_rfl)) h0 (fun _ h=>by cases h))
   | succ r ih =>
    intro i hi
    have ej:PD (Am n:Nat) i=((Am n-1-i:Nat):Int):=by unfold PD;rw [Al (z:=((Am n:Nat):Int)-1) (by omega),Al (by omega)];omega
    refine AZ [true] (Ab IP AE (AQS ..) ?_ (AL (by kernel_rfl)) h0 (fun _ h=>by cases h) fun _=>?_)
    ·rw [ej,AQW _ (by omega),hw]
     exact ⟨decide_eq_true (by omega),decide_eq_true ⟨by omega,by omega⟩,decide_eq_true (by omega),decide_eq_true ⟨by decide,Int.natCast_nonneg _⟩,trivial⟩
    ·have ek:Int.fdiv ((8*n / 256^i:Nat):Int) (2^min (8:Int).toNat IntKind.u64.bits)=((8*n / 256^(i+1):Nat):Int):=by
      rw [show min (8:Int).toNat IntKind.u64.bits=8 from rfl,Int.fdiv_eq_ediv_of_nonneg _ (by decide),Nat.pow_succ,← Nat.div_div_eq_div_mul]
      rfl
     have ev:AN false .u8 ((8*n / 256^i:Nat):Int)=EA (8*n) i:=by rw [CA,IntKind.wrap_u8];unfold EA;omega
     have es:=AQX (AA xs off n) (show i<8 by omega)
     rw [hw] at es
     rw [ej,ek,ev,show 0+((Am n-1-i:Nat):Int).toNat*1=Am n-1-i by omega,es,Al (z:=(i:Int)+1) (by omega)]
     exact ih (i+1) (by omega)
  have:=loop 8 0 rfl
  rw [Nat.pow_zero,Nat.div_one] at this
  exact Ds this
def pdSp:ASpec:=fun args H fr path=>match args with
 | [S]=>match Bw S with
  | some (k,off,n)=>match AG H k with
   | some ⟨_,cs,_⟩=>match As .u8 cs with
    | some xs=>some (A8 [k] 1 fr 1 [] (AJ 1 0 (Am n) (Am n)) [(1,some ⟨5,[.seq .u8 (CD (AA xs off n))],false⟩)] [(Nat.ble (off+n) xs.length,true),(Nat.ble n 35184372088832,true)] path)
    | none=>none
   | none=>none
  | none=>none
 | _=>none
theorem AQa:A7 Tryz.prog 161 pdSp:=by
 refine CG Tryz.func161 (by kernel_rfl) (by kernel_rfl) fun args H fr path r hs=>?_
 unfold pdSp at hs
 split at hs
 case h_2=>cases hs
 rename_i S
 split at hs
 case h_2=>cases hs
 rename_i k off n hS
 split at hs
 case h_2=>cases hs
 rename_i ty cs o hk
 split at hs
 case h_2=>cases hs
 rename_i xs hxs
 injection hs with hs
 refine ⟨[k],1,1,[],_,_,_,path,hs.symm,fun β us w ha hg hc=>?_⟩
 obtain ⟨u1,us1,r1,ha,rfl⟩:=ha
 obtain ⟨m,r1⟩:=C3 hS r1
 obtain ⟨g1,g2,g3⟩:=C0 hg hk hxs
 exact ⟨[AJ 0 off n m],Ak xs,AQZ (Nat.le_of_ble_eq_true hc.1) (Nat.le_of_ble_eq_true hc.2.1),by kernel_rfl,⟨u1,_,Bl (by omega) rfl r1,ha,rfl⟩,g2,g3⟩
noncomputable def SSk:List (FuncId×ASpec):=(161,pdSp)::SSj
theorem AQb:AU Tryz.prog SSk:=⟨AQa,AQN⟩
def WB:AV:=.val true [.n .u32 1779033703,.n .u32 3144134277,.n .u32 1013904242,.n .u32 2773480762,.n .u32 1359893119,.n .u32 2600822924,.n .u32 528734635,.n .u32 1541459225]
theorem AQc:Ac Tryz.prog oSi Tryz.f162 [] [] 100=some ([],WB):=by kernel_rfl
theorem AQd:Ac Tryz.prog oSi Tryz.f175 [] [] 100=some ([],WB):=by kernel_rfl
noncomputable def xV:AV:=.val true [.seq .u32 (l8 (A' Rt))]
theorem AQe {β β':Env} {u:Value} (h:AO β WB u):AO β' xV u:=(O9 (k:=.u32) (xs:=l8 (A' Rt)) (by kernel_rfl) h).2 _
noncomputable def WC:List AV→Option AV
 | []=>some xV
 | _=>none
theorem xW {F:FuncId} (h:AX Tryz.prog F [] WB):∀ args v,WC args=some v→AX Tryz.prog F args v:=by
 intro args v hs
 unfold WC at hs
 split at hs
 case h_2=>cases hs
 injection hs with hs;subst hs
 exact C_ h fun u hu=>AQe hu
noncomputable def SSl:List (FuncId×ASpec):=(162,Ar WC)::(175,Ar WC)::SSk
theorem xX:AU Tryz.prog SSl:=⟨Au Tryz.func162 (by kernel_rfl) (by kernel_rfl) (xW (Ag IP AE Tryz.func162 AQc trivial rfl)),Au Tryz.func175 (by kernel_rfl) (by kernel_rfl) (xW (Ag IP AE Tryz.func175 AQd trivial rfl)),AQb⟩
noncomputable abbrev oSl:Orc:=AI SSl KV
theorem Jv:OrcOk Tryz.prog oSl:=AK xX BT
def IQ (p:List Int):Nat→Nat→Nat
 | 0=>Rt
 | k+1=>NA (wN (l8 (A' (IQ p k)))) (bN ((p.drop (64*k)).take 64))
def dB (xs:List Int) (i:Nat):Nat:=IQ (CD xs) (Am xs.length / 64) (i / 4) / 2^(24-8*(i % 4)) % 256
def B4 (xs:List Int):List Int:=(List.range 32).map fun i=>(dB xs i:Int)
theorem FK (xs:List Int):(B4 xs).length=32:=rfl
def G' (x:Option (List (Bool×Bool)×List Nat×AV×Heap)):AV:=match x with | some (_,_,v,_)=>v | none=>.any
def Le (x:Option (List (Bool×Bool)×List Nat×AV×Heap)):Heap:=match x with | some (_,_,_,h)=>h | none=>[]
def o4B (x:Option (List (Bool×Bool)×List Nat×AV×Heap)):Bool:=match x with | some (c,[],_,_)=>NB c | _=>false
structure Outr (x:Option (List (Bool×Bool)×List Nat×AV×Heap)):Prop where
 ok:o4B x=true
theorem xY {P:Program} {O:Orc} {f:FuncId} {fn:Func} {β0:Env} {w0:World} {n:Fz} {W:List Nat} (hO:OrcOk P O) (hm:P.follows .mixedOrders=true) (hfn:P.funcs[f]? = some fn) {fuel k0:Nat} {ks:List Nat} {x:ASt}
  (h:Outr (AP P O fn fuel k0 ks x)) (hwf:Bs n x.s) (h0:∀ b,k0≤b→β0 b=none) (hD:n.D=[]:=by rfl):ASafe P f β0 w0 (Ax β0 w0 W (G' (AP P O fn fuel k0 ks x)) (Le (AP P O fn fuel k0 ks x))) n W x:=by
 obtain ⟨h1⟩:=h
 generalize e:AP P O fn fuel k0 ks x=y at *
 cases y with
 | none=>cases h1
 | some v =>
  obtain ⟨c,k,v,H⟩:=v
  cases k with
  | nil=>exact Aq hO hm hfn e (O6 h1) hwf h0 (fun _ h=>by cases h) hD
  | cons=>cases h1
theorem xZ {β0:Env} {w0:World} {W:List Nat} {v v':AV} {H:Heap} (h:∀ β u,AO β v u→AO β v' u) {e:Ending} {w:World} (ho:Ax β0 w0 W v H e w):Ax β0 w0 W v' H e w:=by
 obtain ⟨u,β,q,o⟩:=ho
 exact ⟨u,β,q,{ o with val:=h _ _ o.val }⟩
noncomputable def x8 (off n m:Nat) (xs:List Int):ASt:=Af Tryz.f98 [AJ 0 off n m] (Ak xs) 1 []
abbrev WD:Option (List Nat×List Nat×Nat):=some ([2,3,4],[1,2,3],4)
noncomputable def Lf (off n m:Nat) (xs:List Int):ASt:=EX (AR Tryz.prog oSl (some 0) 100 1 WD (x8 off n m xs))
noncomputable def smT:List Item:=(Lf 0 0 0 []).todo
noncomputable def Lg (off L:Nat) (P:List Int) (s:Nat→Int) (p:List Bool):ASt:=⟨smT,⟨Cs Tryz.f98.ntmps [(2,.val false [.p 1 0]),(3,AJ 2 off L L),(4,.val false [.p 3 0])],[(1,some ⟨122,List.replicate 32 (.n .u8 0),false⟩),(2,some ⟨5,[.seq .u8 P],true⟩),(3,some ⟨173,[.seq .u32 (l8 s)],false⟩)],4,p⟩⟩
theorem AQh (off n m:Nat) (xs:List Int):AR Tryz.prog oSl (some 0) 100 1 WD (x8 off n m xs)=some ((Nat.ble (off+n) xs.length,true)::(Nat.ble n 35184372088832,true)::[],[],Lf off n m xs):=by kernel_rfl
theorem AQi (off n m:Nat) (xs:List Int):AG (Lf off n m xs).s.H 2=some ⟨5,[.seq .u8 (CD (AA xs off n))],false⟩:=by kernel_rfl
theorem AQj (off n m:Nat) (xs:List Int):(⟨(Lf off n m xs).todo,⟨(Lf off n m xs).s.T,PA 2 (Lf off n m xs).s.H,(Lf off n m xs).s.fr,(Lf off n m xs).s.path⟩⟩:ASt)=Lg 0 (Am n) (CD (AA xs off n)) (A' Rt) []:=by kernel_rfl
def dC (off L:Nat) (P:List Int) (b:Bool):List (Bool×Bool):=(AH .i64 L,true)::(decide ((0:Int)<L),true)::(decide ((0:Int)≤64∧(64:Int)≤L),true)::(true,true)::(true,true)::(Nat.ble (off+64) P.length,true)::(true,true)::(Nat.beq ((P.drop off).take 64).length 64,true)::(decide ((0:Int)≤64∧(64:Int)≤L),true)::(Nat.beq L (64:Int).toNat,b)::[]
def dD (s:Nat→Int) (P:List Int) (off:Nat):Nat→Int:=A' (NA (wN (l8 s)) (bN ((P.drop off).take 64)))
theorem AQk (off L:Nat) (P:List Int) (s:Nat→Int):AR Tryz.prog oSl (some 0) 100 1 WD (Lg off L P s [true,false])=some (dC off L P false,[],Lg (off+(64:Int).toNat*1) (L-(64:Int).toNat) P (dD s P off) []):=by kernel_rfl
theorem AQl (off L:Nat) (P:List Int) (s:Nat→Int):AR Tryz.prog oSl (some 0) 100 1 WD (Lg off L P s [true,true])=some (dC off L P true,[],Lg off (L-(64:Int).toNat) P (dD s P off) []):=by kernel_rfl
noncomputable def NF (off:Nat) (P:List Int) (s:Nat→Nat):=AP Tryz.prog oSl Tryz.f98 1000 1 [] (Lg off 0 P (A' s) [false])
theorem AQm (off:Nat) (P:List Int) (s:Nat→Nat):Outr (NF off P s):=⟨by kernel_rfl⟩
def dF (s:Nat→Int):List Int:=(List.range 32).map fun i=>AN false .u8 (IL (s (i / 4)) ((24-8*(i % 4):Nat):Int))
def WE:AV→List Ch
 | .val true cs=>cs
 | _=>[]
theorem AQn (off:Nat) (P:List Int) (s:Nat→Nat):G' (NF off P s)=.val true (WE (G' (NF off P s))):=by kernel_rfl
theorem AQo (off:Nat) (P:List Int) (s:Nat→Nat):As .u8 (WE (G' (NF off P s)))=some (dF (A' s)):=by kernel_rfl
theorem AQp (off:Nat) (P:List Int) (s:Nat→Nat):Le (NF off P s)=[]:=by kernel_rfl
theorem x9 (s:Nat→Nat):dF (A' s)=(List.range 32).map fun i=>((s (i / 4) / 2^(24-8*(i % 4)) % 256:Nat):Int):=by
 refine List.map_congr_left fun i _=>?_
 unfold A'
 rw [Rm _ _ (by omega),CA,IntKind.wrap_u8]
 omega
theorem yA {A:AV} {cs:List Ch} {k:IntKind} {xs:List Int} (h1:A=.val true cs) (h2:As k cs=some xs) (β:Env) (u:Value) (hr:AO β A u):AO β (.val true [.seq k xs]) u:=by
 subst h1
 exact (O9 h2 hr).2 _
theorem dG {P:Program} {f:FuncId} {β0:Env} {w0:World} {R R':Ending→World→Prop} {W:List Nat} {n:Fz} {x:ASt} (h:ASafe P f β0 w0 R n W x) (hv:∀ e w,R e w→R' e w):ASafe P f β0 w0 R' n W x:=by
 intro β a w hi hf b cs q1 q2
 obtain ⟨e',w',fr,q5,q4⟩:=h β a w hi hf b cs q1 q2
 exact ⟨e',w',fr,hv _ _ q5,q4⟩
theorem AQq {β0:Env} {w0:World} (h0:∀ b,1≤b→β0 b=none) (off:Nat) (P:List Int) (s:Nat→Nat) :
  ASafe Tryz.prog 98 β0 w0 (Ax β0 w0 [] (.val true [.seq .u8 ((List.range 32).map fun i=>((s (i / 4) / 2^(24-8*(i % 4)) % 256:Nat):Int))]) []) Tryz.f98.ntmps [] (Lg off 0 P (A' s) [false]):=by
 have:=xY (P:=Tryz.prog) (n:=Tryz.f98.ntmps) (β0:=β0) (w0:=w0) (W:=[]) Jv AE Tryz.func98 (AQm off P s) (AL (by kernel_rfl)) h0
 refine dG this fun e w ho=>?_
 have ho:Ax β0 w0 [] (G' (NF off P s)) (Le (NF off P s)) e w:=ho
 rw [AQp] at ho
 rw [← x9 s]
 exact xZ (yA (AQn off P s) (AQo off P s)) ho
theorem yC {off L:Nat} {P:List Int} {b:Bool} (h1:64≤L) (h2:off+L≤P.length) (h3:L≤281474976710656) (hb:Nat.beq L 64=b):AQ (dC off L P b):=by
 refine ⟨?_,decide_eq_true (by omega),decide_eq_true ⟨by decide,by omega⟩,rfl,rfl,Nat.ble_eq_true_of_le (by omega),rfl,Ao.2 ?_,decide_eq_true ⟨by decide,by omega⟩,hb,trivial⟩
 ·simp only [AH,Bool.and_eq_true,decide_eq_true_eq];omega
 ·rw [List.length_take,List.length_drop];omega
theorem AQr {off n m:Nat} {xs:List Int} (hl:off+n≤xs.length) (hn:n≤35184372088832):Ah Tryz.prog 98 [AJ 0 off n m] (Ak xs) 1 [] (.val true [.seq .u8 (B4 (AA xs off n))]) []:=by
 have hw:(AA xs off n).length=n:=by unfold AA;rw [List.length_take,List.length_drop];omega
 have hK:Am n=64*(Am n / 64):=by unfold Am;omega
 have hp:=Js n
 have hN:Am n≤n+72:=by unfold Am;omega
 have hlen:=wR (AA xs off n)
 rw [hw] at hlen
 refine Av (path:=[]) Tryz.func98 (by kernel_rfl) (by kernel_rfl) fun β0 w0 h0=>?_
 refine Ab Jv AE (AQh off n m xs) ⟨Nat.ble_eq_true_of_le hl,Nat.ble_eq_true_of_le hn,trivial⟩ (AL (by kernel_rfl)) h0 (fun _ h=>by cases h) fun _=>?_
 refine AQP (AQi off n m xs) ?_
 rw [AQj]
 have loop:∀ r k,1≤r→k+r=Am n / 64→ASafe Tryz.prog 98 β0 w0 (Ax β0 w0 [] (.val true [.seq .u8 (B4 (AA xs off n))]) []) Tryz.f98.ntmps [] (Lg (64*k) (Am n-64*k) (CD (AA xs off n)) (A' (IQ (CD (AA xs off n)) k)) []):=by
  intro r
  induction r with
  | zero=>intro k h;omega
  | succ r ih =>
   intro k _ hk
   cases r with
   | zero =>
    refine AZ [true,true] (Ab Jv AE (AQl ..) (yC (by omega) (by omega) (by omega) (Ao.2 (by omega))) (AL (by kernel_rfl)) h0 (fun _ h=>by cases h) fun _=>?_)
    rw [show Am n-64*k-(64:Int).toNat=0 by rw [show (64:Int).toNat=64 from rfl];omega]
    have e:dD (A' (IQ (CD (AA xs off n)) k)) (CD (AA xs off n)) (64*k)=A' (IQ (CD (AA xs off n)) (Am n / 64)):=by rw [← hk];rfl
    rw [e]
    have:=AQq h0 (64*k) (CD (AA xs off n)) (IQ (CD (AA xs off n)) (Am n / 64)) (w0:=w0)
    unfold B4 dB
    rw [hw]
    exact AZ [false] this
   | succ r =>
    refine AZ [true,false] (Ab Jv AE (AQk ..) (yC (by omega) (by omega) (by omega) ?_) (AL (by kernel_rfl)) h0 (fun _ h=>by cases h) fun _=>?_)
    ·cases q:Nat.beq (Am n-64*k) 64 with
     | false=>rfl
     | true=>have:=Ao.1 q;omega
    ·have:=ih (k+1) (by omega) (by omega)
     rw [show 64*(k+1)=64*k+(64:Int).toNat*1 by rw [show (64:Int).toNat=64 from rfl];omega,show Am n-(64*k+(64:Int).toNat*1)=Am n-64*k-(64:Int).toNat by rw [show (64:Int).toNat=64 from rfl];omega] at this
     exact this
 have:=loop (Am n / 64) 0 (by omega) (by omega)
 exact this
def sumSp:ASpec:=fun args H fr path=>match args with
 | [S]=>match Bw S with
  | some (k,off,n)=>match AG H k with
   | some ⟨_,cs,_⟩=>match As .u8 cs with
    | some xs=>some (A8 [k] 1 fr 0 [] (.val true [.seq .u8 (B4 (AA xs off n))]) [] [(Nat.ble (off+n) xs.length,true),(Nat.ble n 35184372088832,true)] path)
    | none=>none
   | none=>none
  | none=>none
 | _=>none
theorem yD {F:FuncId} {fn:Func} (hfn:Tryz.prog.funcs[F]? = some fn) (hb:fn.body.isSome=true) (hname:(fn.name=="runtime.NumGoroutine")=false) (hcan:∀ {off n m:Nat} {xs:List Int},(∀ d∈xs,0≤d∧d<256)→off+n≤xs.length→n≤35184372088832→Ah Tryz.prog F [AJ 0 off n m] (Ak xs) 1 [] (.val true [.seq .u8 (B4 (AA xs off n))]) []):A7 Tryz.prog F sumSp:=by
 refine CG hfn hb hname fun args H fr path r hs=>?_
 unfold sumSp at hs
 split at hs
 case h_2=>cases hs
 rename_i S
 split at hs
 case h_2=>cases hs
 rename_i k off n hS
 split at hs
 case h_2=>cases hs
 rename_i ty cs o hk
 split at hs
 case h_2=>cases hs
 rename_i xs hxs
 injection hs with hs
 refine ⟨[k],1,0,[],_,_,_,path,hs.symm,fun β us w ha hg hc=>?_⟩
 obtain ⟨u1,us1,r1,ha,rfl⟩:=ha
 obtain ⟨m,r1⟩:=C3 hS r1
 obtain ⟨g1,g2,g3⟩:=C0 hg hk hxs
 exact ⟨[AJ 0 off n m],Ak xs,hcan g1 (Nat.le_of_ble_eq_true hc.1) (Nat.le_of_ble_eq_true hc.2.1),rfl,⟨u1,_,Bl (by omega) rfl r1,ha,rfl⟩,g2,g3⟩
noncomputable def SSm:List (FuncId×ASpec):=(98,sumSp)::SSl
theorem AQs:AU Tryz.prog SSm:=⟨yD Tryz.func98 (by kernel_rfl) (by kernel_rfl) fun _=>AQr,xX⟩
noncomputable def yE (off n m:Nat) (xs:List Int):ASt:=Af Tryz.f174 [AJ 0 off n m] (Ak xs) 1 []
noncomputable def dH:List Item:=Bh (AR Tryz.prog oSl (some 0) 100 1 none (yE 0 0 0 []))
noncomputable def dI (off n m:Nat) (s:AV):List AV:=Cs Tryz.f174.ntmps [(0,AJ 0 off n m),(3,s)]
def Rx (xs ys:List Int):Heap:=[(0,some (Ad [.seq .u8 xs])),(1,some ⟨5,[.seq .u8 ys],true⟩)]
noncomputable def WF (off n m:Nat) (xs ys:List Int) (L:Nat) (p:List Bool):ASt:=⟨dH,⟨dI off n m (.val false [.sx 1 L 1]),Rx xs ys,2,p⟩⟩
noncomputable def yF:List Item:=Bh (AR Tryz.prog oSl (some 0) 100 1 none (WF 0 0 0 [] [] 0 [false]))
noncomputable def yG (s i:AV) (k:Int):List AV:=Cs Tryz.f174.ntmps [(3,s),(4,PC k),(5,i)]
def Dm (ys:List Int):Heap:=[(1,some ⟨5,[.seq .u8 ys],true⟩)]
noncomputable def Ry (ys:List Int) (L:Nat) (k:Int) (i:AV) (p:List Bool):ASt:=⟨yF,⟨yG (.val false [.sx 1 L 1]) i k,Dm ys,2,p⟩⟩
def CP (L:Nat):Bool:=decide (1≤1∧2*L*1≤281474976710656)
theorem AQt (off n m:Nat) (xs:List Int):AR Tryz.prog oSl (some 0) 100 1 (some ([0,3],[0,4],5)) (yE off n m xs) =
 some ((true,true)::(Nat.ble (off+n) xs.length,true)::(CP (0+n),true)::(Nat.ble (0+n) ([]++(xs.drop off).take n).length,true)::(CP (0+n+1),true)::[],[],⟨dH,⟨EQ (Bj 1 [4]) (dI off n m (.val false [.sx 1 (0+n+1) 1])),Dp (Bj 1 [4]) (Rx xs (([]++(xs.drop off).take n).take (0+n)++[128])),5,[]⟩⟩):=by kernel_rfl
theorem AQu (off n m:Nat) (xs ys:List Int) (L:Nat):AR Tryz.prog oSl (some 0) 100 1 (some ([0,3],[0,3],4)) (WF off n m xs ys L [true]) =
 some ((AH .i64 L,true)::(true,true)::(!decide (Int.tmod (L:Int) 64=56),true)::(Nat.ble L ys.length,true)::(CP (L+1),true)::[],[],⟨dH,⟨EQ (Bj 1 [3]) (dI off n m (.val false [.sx 1 (L+1) 1])),Dp (Bj 1 [3]) (Rx xs (ys.take L++[0])),4,[]⟩⟩):=by kernel_rfl
theorem AQv (off n m:Nat) (xs ys:List Int) (L:Nat):AR Tryz.prog oSl (some 0) 100 1 (some ([3,4,5],[1],2)) (WF off n m xs ys L [false]) =
 some ((AH .i64 L,true)::(true,true)::(!decide (Int.tmod (L:Int) 64=56),false)::(AH .i64 n,true)::[],[],Ry ys L (AN false .u64 (8*AN false .u64 n)) (.val false [.n .i64 7]) []):=by kernel_rfl
def dJ (k i:Int):Int:=AN false .u8 (Int.fdiv k (2^min (AN false .u64 (wI (8*i))).toNat IntKind.u64.bits))
theorem AQw (ys:List Int) (L:Nat) (k i:Int):AR Tryz.prog oSl (some 0) 100 1 (some ([3,4,5],[3],4)) (Ry ys L k (iA i) [true]) =
 some ((decide (0≤i),true)::(decide (0≤AN false .u64 (wI (8*i))∧0≤k),true)::(Nat.ble L ys.length,true)::(CP (L+1),true)::[],[],⟨yF,⟨EQ (Bj 1 [3]) (yG (.val false [.sx 1 (L+1) 1]) (iA (wI (i-1))) k),Dp (Bj 1 [3]) (Dm (ys.take L++[dJ k i])),4,[]⟩⟩):=by kernel_rfl
theorem AQx (ys:List Int) (L:Nat) (k i:Int):AP Tryz.prog oSl Tryz.f174 100 1 [1] (Ry ys L k (iA i) [false])=some ([(decide (0≤i),false)],[],.val false [.sx 1 L 1],Dm ys):=by kernel_rfl
def Hi (xs:List Int) (j:Nat):List Int:=xs++128::List.replicate j 0
theorem dK (xs:List Int) (j:Nat):(Hi xs j).length=xs.length+1+j:=by unfold Hi;simp;omega
theorem AQy (xs:List Int) (j:Nat):Hi xs j++[0]=Hi xs (j+1):=by
 unfold Hi
 rw [List.replicate_succ',List.append_assoc];rfl
theorem AQz (xs:List Int) {c:Nat} (h:c<8) (A:Nat):xs++(BK A 8).take c++[EA A (7-c)]=xs++(BK A 8).take (c+1):=by
 rw [List.append_assoc,List.take_succ_eq_append_getElem (by rw [Gy];exact h)]
 congr 2
 simp only [BK,List.getElem_map,List.getElem_range]
theorem CZ {L:Nat} (h:L≤140737488355328):CP L=true:=decide_eq_true ⟨Nat.le_refl _,by omega⟩
theorem AQ0 {off n m:Nat} {xs:List Int} (hl:off+n≤xs.length) (hn:n≤35184372088832):Ah Tryz.prog 174 [AJ 0 off n m] (Ak xs) 1 [] (.val false [.sx 1 (Am n) 1]) (Dm (CD (AA xs off n))):=by
 have hw:(AA xs off n).length=n:=by unfold AA;rw [List.length_take,List.length_drop];omega
 have hp:=Js n
 have hN:Am n≤n+72:=by unfold Am;omega
 have hh:∀ L:Nat,L≤70368744177664→AH .i64 L=true:=fun L h=>by simp only [AH,Bool.and_eq_true,decide_eq_true_eq];omega
 refine Av (path:=[]) Tryz.func174 (by kernel_rfl) (by kernel_rfl) fun β0 w0 h0=>?_
 have h0':∀ b,1≤b→β0 b=none:=h0
 have loop2:∀ r c,c+r=8→ASafe Tryz.prog 174 β0 w0 (Ax β0 w0 [] (.val false [.sx 1 (Am n) 1]) (Dm (CD (AA xs off n)))) Tryz.f174.ntmps [] (Ry (Hi (AA xs off n) (Am n-n-9)++(BK (8*n) 8).take c) (Am n-8+c) ((8*n:Nat):Int) (iA (7-(c:Int))) []):=by
  intro r
  induction r with
  | zero =>
   intro c hc
   obtain rfl:c=8:=by omega
   have e:Hi (AA xs off n) (Am n-n-9)++(BK (8*n) 8).take 8=CD (AA xs off n):=by
    unfold Hi CD
    rw [hw,List.take_of_length_le (by rw [Gy];exact Nat.le_refl _),List.append_assoc];rfl
   rw [e,show Am n-8+8=Am n by omega]
   exact AZ [false] (Aq Jv AE Tryz.func174 (AQx ..) ⟨by decide,trivial⟩ (AL (by kernel_rfl)) h0 (fun _ h=>by cases h))
  | succ r ih =>
   intro c hc
   have ei:(7:Int)-(c:Int)=((7-c:Nat):Int):=by omega
   have e8:AN false .u64 (wI (8*((7-c:Nat):Int)))=((8*(7-c):Nat):Int):=by rw [Al (by omega),CA,IntKind.wrap_u64];omega
   have hlen:(Hi (AA xs off n) (Am n-n-9)++(BK (8*n) 8).take c).length=Am n-8+c:=by
    rw [List.length_append,dK,hw,List.length_take,Gy];omega
   refine AZ [true] (Ab Jv AE (AQw ..) ?_ (AL (by kernel_rfl)) h0 (fun _ h=>by cases h) fun _=>?_)
   ·rw [ei,e8,hlen]
    exact ⟨decide_eq_true (by omega),decide_eq_true ⟨by omega,by omega⟩,Nat.ble_eq_true_of_le (Nat.le_refl _),CZ (by omega),trivial⟩
   ·refine ER (m:=2) (by kernel_rfl) h0 ?_
    have ev:dJ ((8*n:Nat):Int) (7-(c:Int))=EA (8*n) (7-c):=by
     unfold dJ EA
     rw [ei,e8,Int.toNat_natCast,show min (8*(7-c)) IntKind.u64.bits=8*(7-c) from Nat.min_eq_left (by show 8*(7-c)≤64;omega),Int.fdiv_eq_ediv_of_nonneg _ (by exact_mod_cast Nat.zero_le (2^(8*(7-c)))),CA,IntKind.wrap_u8,I_]
     have:((8*n:Nat):Int) / (2^(8*(7-c)))=((8*n / 2^(8*(7-c)):Nat):Int):=by rw [Int.natCast_ediv,Int.natCast_pow];rfl
     rw [this];omega
    rw [ev,List.take_of_length_le (by rw [hlen];exact Nat.le_refl _),AQz _ (by omega),Al (z:=(7:Int)-(c:Int)-1) (by omega)]
    have:=ih (c+1) (by omega)
    rw [show (7:Int)-((c+1:Nat):Int)=7-(c:Int)-1 by omega] at this
    exact this
 have mid:ASafe Tryz.prog 174 β0 w0 (Ax β0 w0 [] (.val false [.sx 1 (Am n) 1]) (Dm (CD (AA xs off n)))) Tryz.f174.ntmps [] (Ry (Hi (AA xs off n) (Am n-n-9)) (Am n-8) ((8*n:Nat):Int) (.val false [.n .i64 7]) []):=by
  have:=loop2 8 0 rfl
  rw [List.take_zero,List.append_nil] at this
  exact Ds this
 have loop1:∀ r j,n+1+j+r=Am n-8→ASafe Tryz.prog 174 β0 w0 (Ax β0 w0 [] (.val false [.sx 1 (Am n) 1]) (Dm (CD (AA xs off n)))) Tryz.f174.ntmps [] (WF off n m xs (Hi (AA xs off n) j) (n+1+j) []):=by
  intro r
  induction r with
  | zero =>
   intro j hj
   have ht:Int.tmod ((n+1+j:Nat):Int) 64=56:=by
    rw [Int.tmod_eq_emod_of_nonneg (by omega)];unfold Am at hj;omega
   refine AZ [false] (Ab Jv AE (AQv ..) ⟨hh _ (by omega),rfl,by rw [decide_eq_true ht];rfl,hh _ (by omega),trivial⟩ (AL (by kernel_rfl)) h0 (fun _ h=>by cases h) fun _=>?_)
   rw [show AN false .u64 (8*AN false .u64 (n:Int))=((8*n:Nat):Int) by rw [CA,CA,IntKind.wrap_u64,IntKind.wrap_u64];omega,show j=Am n-n-9 by omega,show n+1+(Am n-n-9)=Am n-8 by omega]
   exact mid
  | succ r ih =>
   intro j hj
   have ht:Int.tmod ((n+1+j:Nat):Int) 64≠56:=by
    rw [Int.tmod_eq_emod_of_nonneg (by omega)];unfold Am at hj;omega
   refine AZ [true] (Ab Jv AE (AQu ..) ⟨hh _ (by omega),rfl,by rw [decide_eq_false ht];rfl,Nat.ble_eq_true_of_le (by rw [dK,hw];exact Nat.le_refl _),CZ (by omega),trivial⟩ (AL (by kernel_rfl)) h0 (fun _ h=>by cases h) fun _=>?_)
   refine ER (m:=2) (by kernel_rfl) h0 ?_
   rw [List.take_of_length_le (by rw [dK,hw];exact Nat.le_refl _),AQy]
   exact ih (j+1) (by omega)
 refine Ab Jv AE (AQt off n m xs) ⟨rfl,Nat.ble_eq_true_of_le hl,CZ (by omega),Nat.ble_eq_true_of_le ?_,CZ (by omega),trivial⟩ (AL (by kernel_rfl)) h0 (fun _ h=>by cases h) fun _=>?_
 ·rw [List.nil_append,List.length_take,List.length_drop];omega
 ·refine ER (m:=2) (by kernel_rfl) h0 ?_
  rw [List.nil_append,List.take_of_length_le (l:=(xs.drop off).take n) (by rw [List.length_take];omega),Nat.zero_add]
  exact loop1 (Am n-8-(n+1)) 0 (by omega)
def rpadSp:ASpec:=fun args H fr path=>match args with
 | [S]=>match Bw S with
  | some (k,off,n)=>match AG H k with
   | some ⟨_,cs,_⟩=>match As .u8 cs with
    | some xs=>some (A8 [k] 1 fr 1 [] (.val false [.sx 1 (Am n) 1]) (Dm (CD (AA xs off n))) [(Nat.ble (off+n) xs.length,true),(Nat.ble n 35184372088832,true)] path)
    | none=>none
   | none=>none
  | none=>none
 | _=>none
theorem AQ1:A7 Tryz.prog 174 rpadSp:=by
 refine CG Tryz.func174 (by kernel_rfl) (by kernel_rfl) fun args H fr path r hs=>?_
 unfold rpadSp at hs
 split at hs
 case h_2=>cases hs
 rename_i S
 split at hs
 case h_2=>cases hs
 rename_i k off n hS
 split at hs
 case h_2=>cases hs
 rename_i ty cs o hk
 split at hs
 case h_2=>cases hs
 rename_i xs hxs
 injection hs with hs
 refine ⟨[k],1,1,[],_,_,_,path,hs.symm,fun β us w ha hg hc=>?_⟩
 obtain ⟨u1,us1,r1,ha,rfl⟩:=ha
 obtain ⟨m,r1⟩:=C3 hS r1
 obtain ⟨g1,g2,g3⟩:=C0 hg hk hxs
 exact ⟨[AJ 0 off n m],Ak xs,AQ0 (Nat.le_of_ble_eq_true hc.1) (Nat.le_of_ble_eq_true hc.2.1),by kernel_rfl,⟨u1,_,Bl (by omega) rfl r1,ha,rfl⟩,g2,g3⟩
noncomputable def SSn:List (FuncId×ASpec):=(174,rpadSp)::SSm
theorem yH:AU Tryz.prog SSn:=⟨AQ1,AQs⟩
noncomputable abbrev oSn:Orc:=AI SSn KV
theorem dL:OrcOk Tryz.prog oSn:=AK yH BT
noncomputable def yI (off n m:Nat) (xs:List Int):ASt:=Af Tryz.f112 [AJ 0 off n m] (Ak xs) 1 []
abbrev dM:Option (List Nat×List Nat×Nat):=some ([2,3,4,5],[1,2,3],4)
noncomputable def Lh (off n m:Nat) (xs:List Int):ASt:=EX (AR Tryz.prog oSn (some 0) 100 1 dM (yI off n m xs))
noncomputable def AQ2:List Item:=(Lh 0 0 0 []).todo
noncomputable def PE (N:Nat) (P:List Int) (s:Nat→Int) (i:Int) (p:List Bool):ASt:=⟨AQ2,⟨Cs Tryz.f112.ntmps [(2,.val false [.p 1 0]),(3,.val false [.sx 2 N 1]),(4,.val false [.p 3 0]),(5,iA i)],[(1,some ⟨122,List.replicate 32 (.n .u8 0),false⟩),(2,some ⟨5,[.seq .u8 P],true⟩),(3,some ⟨173,[.seq .u32 (l8 s)],false⟩)],4,p⟩⟩
theorem AQ3 (off n m:Nat) (xs:List Int):AR Tryz.prog oSn (some 0) 100 1 dM (yI off n m xs)=some ((Nat.ble (off+n) xs.length,true)::(Nat.ble n 35184372088832,true)::[],[],Lh off n m xs):=by kernel_rfl
theorem AQ4 (off n m:Nat) (xs:List Int):(⟨(Lh off n m xs).todo,⟨(Lh off n m xs).s.T.map Dr,(Lh off n m xs).s.H,(Lh off n m xs).s.fr,(Lh off n m xs).s.path⟩⟩:ASt)=PE (Am n) (CD (AA xs off n)) (A' Rt) 0 []:=by kernel_rfl
def Li (i:Int) (j:Nat):Int:=wI (i+(j:Int))
def WG (N len:Nat) (i:Int):Nat→Nat→List (Bool×Bool)
 | 0,_=>[(true,true),(true,true)]
 | f+1,j=>(decide (0≤Li i j∧Li i j<N),true)::(decide (0+(Li i j).toNat*1<len),true)::WG N len i f (j+1)
def dN (P:List Int) (i:Int):List Int:=(List.range 64).map fun j=>P.getD (0+(Li i j).toNat*1) 0
def dO (s:Nat→Int) (P:List Int) (i:Int):Nat→Int:=A' (NA (wN (l8 s)) (bN (dN P i)))
theorem AQ5 (N:Nat) (P:List Int) (s:Nat→Int) (i:Int):AR Tryz.prog oSn (some 4) 3000 1 dM (PE N P s i [true])=some ((AH .i64 N,true)::(decide (wI (i+64)≤N),true)::WG N P.length i 64 0,[],PE N P (dO s P i) (wI (i+64)) []):=by kernel_rfl
noncomputable def NG (N:Nat) (P:List Int) (s:Nat→Nat) (i:Int):=AP Tryz.prog oSn Tryz.f112 1000 1 [] (PE N P (A' s) i [false])
def WH:List (Bool×Bool)→List (Bool×Bool)
 | _::_::r=>r
 | _=>[]
def dQ (x:Option (List (Bool×Bool)×List Nat×AV×Heap)):List (Bool×Bool):=match x with | some (c,_,_,_)=>c | none=>[]
def o4K (x:Option (List (Bool×Bool)×List Nat×AV×Heap)):List Nat:=match x with | some (_,k,_,_)=>k | none=>[0]
def o4I (x:Option (List (Bool×Bool)×List Nat×AV×Heap)):Bool:=match x with | some _=>true | none=>false
structure Outc (x:Option (List (Bool×Bool)×List Nat×AV×Heap)) (a b:Bool×Bool):Prop where
 io:o4I x=true
 ky:o4K x=[]
 co:dQ x=a::b::WH (dQ x)
 cd:NB (WH (dQ x))=true
theorem AQ8 {P:Program} {O:Orc} {f:FuncId} {fn:Func} {β0:Env} {w0:World} {n:Fz} {W:List Nat} (hO:OrcOk P O) (hm:P.follows .mixedOrders=true) (hfn:P.funcs[f]? = some fn) {fuel k0:Nat} {ks:List Nat} {x:ASt} {a b:Bool×Bool}
  (h:Outc (AP P O fn fuel k0 ks x) a b) (ha:a.1=a.2) (hb:b.1=b.2) (hwf:Bs n x.s) (h0:∀ b,k0≤b→β0 b=none) (hD:n.D=[]:=by rfl):ASafe P f β0 w0 (Ax β0 w0 W (G' (AP P O fn fuel k0 ks x)) (Le (AP P O fn fuel k0 ks x))) n W x:=by
 obtain ⟨h1,h2,h3,h4⟩:=h
 generalize e:AP P O fn fuel k0 ks x=y at *
 cases y with
 | none=>cases h1
 | some v =>
  obtain ⟨c',k,v,H⟩:=v
  have h2:k=[]:=h2
  have h3':c'=a::b::WH c':=h3
  subst h2
  refine Aq hO hm hfn e ?_ hwf h0 (fun _ h=>by cases h) hD
  have h5:AQ (a::b::WH c'):=⟨ha,hb,O6 h4⟩
  rwa [← h3'] at h5
theorem AQ9 {P:Program} {f:FuncId} {β0:Env} {w0:World} {R:Ending→World→Prop} {n:Nat} {W:List Nat} {x:ASt} (h:ASafe P f β0 w0 R n W ⟨x.todo,⟨x.s.T.map Dr,x.s.H,x.s.fr,x.s.path⟩⟩):ASafe P f β0 w0 R n W x:=Ds (T:=x.s.T) h
theorem AQ_ (N:Nat) (P:List Int) (s:Nat→Nat) (i:Int):Outc (NG N P s i) (AH .i64 N,true) (decide (wI (i+64)≤N),false):=⟨by kernel_rfl,by kernel_rfl,by kernel_rfl,by kernel_rfl⟩
theorem AQ' (N:Nat) (P:List Int) (s:Nat→Nat) (i:Int):G' (NG N P s i)=.val true (WE (G' (NG N P s i))):=by kernel_rfl
theorem ARA (N:Nat) (P:List Int) (s:Nat→Nat) (i:Int):As .u8 (WE (G' (NG N P s i)))=some (dF (A' s)):=by kernel_rfl
theorem ARB (N:Nat) (P:List Int) (s:Nat→Nat) (i:Int):Le (NG N P s i)=[]:=by kernel_rfl
theorem ARC {β0:Env} {w0:World} (h0:∀ b,1≤b→β0 b=none) {N:Nat} (P:List Int) (s:Nat→Nat) {i:Int} (hN:AH .i64 N=true) (hi:decide (wI (i+64)≤N)=false) :
  ASafe Tryz.prog 112 β0 w0 (Ax β0 w0 [] (.val true [.seq .u8 ((List.range 32).map fun i=>((s (i / 4) / 2^(24-8*(i % 4)) % 256:Nat):Int))]) []) Tryz.f112.ntmps [] (PE N P (A' s) i [false]):=by
 have:=AQ8 (P:=Tryz.prog) (n:=Tryz.f112.ntmps) (β0:=β0) (w0:=w0) (W:=[]) dL AE Tryz.func112 (AQ_ N P s i) hN hi (AL (by kernel_rfl)) h0
 refine dG this fun e w ho=>?_
 have ho:Ax β0 w0 [] (G' (NG N P s i)) (Le (NG N P s i)) e w:=ho
 rw [ARB] at ho
 rw [← x9 s]
 exact xZ (yA (AQ' N P s i) (ARA N P s i)) ho
theorem yJ {N len:Nat} {i:Nat} (hN:N≤281474976710656) (hl:N≤len):∀ f j,i+j+f≤N→AQ (WG N len (i:Int) f j)
 | 0,_,_=>⟨rfl,rfl,trivial⟩
 | f+1,j,h=>by
  have e:Li (i:Int) j=((i+j:Nat):Int):=by unfold Li;rw [Al (by omega)];omega
  rw [WG,e]
  exact ⟨decide_eq_true ⟨by omega,by omega⟩,decide_eq_true (by omega),yJ hN hl f (j+1) (by omega)⟩
theorem ARD {P:List Int} {i:Nat} (h:i+64≤P.length) (hP:P.length≤281474976710656):dN P (i:Int)=(P.drop i).take 64:=by
 unfold dN
 refine List.ext_getElem (by simp;omega) fun k h1 h2=>?_
 have hk:k<64:=by simpa using h1
 have e:Li (i:Int) k=((i+k:Nat):Int):=by unfold Li;rw [Al (by omega)];omega
 rw [List.getElem_map,List.getElem_range,e,List.getElem_take,List.getElem_drop,show 0+((i+k:Nat):Int).toNat*1=i+k by omega]
 simp [List.getD_eq_getElem?_getD,show i+k<P.length by omega]
theorem ARE {off n m:Nat} {xs:List Int} (hl:off+n≤xs.length) (hn:n≤35184372088832):Ah Tryz.prog 112 [AJ 0 off n m] (Ak xs) 1 [] (.val true [.seq .u8 (B4 (AA xs off n))]) []:=by
 have hw:(AA xs off n).length=n:=by unfold AA;rw [List.length_take,List.length_drop];omega
 have hK:Am n=64*(Am n / 64):=by unfold Am;omega
 have hp:=Js n
 have hN:Am n≤n+72:=by unfold Am;omega
 have hlen:=wR (AA xs off n)
 rw [hw] at hlen
 have hh:AH .i64 (Am n)=true:=by simp only [AH,Bool.and_eq_true,decide_eq_true_eq];omega
 refine Av (path:=[]) Tryz.func112 (by kernel_rfl) (by kernel_rfl) fun β0 w0 h0=>?_
 refine Ab dL AE (AQ3 off n m xs) ⟨Nat.ble_eq_true_of_le hl,Nat.ble_eq_true_of_le hn,trivial⟩ (AL (by kernel_rfl)) h0 (fun _ h=>by cases h) fun _=>?_
 refine AQ9 (x:=Lh off n m xs) ?_
 rw [AQ4]
 have loop:∀ r k,k+r=Am n / 64→ASafe Tryz.prog 112 β0 w0 (Ax β0 w0 [] (.val true [.seq .u8 (B4 (AA xs off n))]) []) Tryz.f112.ntmps [] (PE (Am n) (CD (AA xs off n)) (A' (IQ (CD (AA xs off n)) k)) ((64*k:Nat):Int) []):=by
  intro r
  induction r with
  | zero =>
   intro k hk
   have:=ARC (N:=Am n) (i:=((64*k:Nat):Int)) h0 (CD (AA xs off n)) (IQ (CD (AA xs off n)) (Am n / 64)) (w0:=w0) hh (by rw [Al (by omega)];exact decide_eq_false (by omega))
   unfold B4 dB
   rw [hw,show k=Am n / 64 by omega] at *
   exact AZ [false] this
  | succ r ih =>
   intro k hk
   refine AZ [true] (Ab dL AE (AQ5 ..) ⟨hh,by rw [Al (by omega)];exact decide_eq_true (by omega),yJ (by omega) (by omega) 64 0 (by omega)⟩ (AL (by kernel_rfl)) h0 (fun _ h=>by cases h) fun _=>?_)
   have e:dO (A' (IQ (CD (AA xs off n)) k)) (CD (AA xs off n)) ((64*k:Nat):Int)=A' (IQ (CD (AA xs off n)) (k+1)):=by
    unfold dO
    rw [ARD (by omega) (by omega)]
    rfl
   rw [e,Al (z:=((64*k:Nat):Int)+64) (by omega)]
   have:=ih (k+1) (by omega)
   rw [show ((64*(k+1):Nat):Int)=((64*k:Nat):Int)+64 by omega] at this
   exact this
 exact loop (Am n / 64) 0 (by omega)
noncomputable def SSo:List (FuncId×ASpec):=(112,sumSp)::SSn
theorem yK:AU Tryz.prog SSo:=⟨yD Tryz.func112 (by kernel_rfl) (by kernel_rfl) fun _=>ARE,yH⟩
noncomputable abbrev oSo:Orc:=AI SSo KV
theorem dR:OrcOk Tryz.prog oSo:=AK yK BT
noncomputable abbrev grF:Func:=Tryz.f165
def Jw:AV:=.val false [.v (.slice none 0 0)]
noncomputable def dS (i:Int) (p:List Bool):ASt:=Af grF [Jw,iA i] [] 0 p
def Lj (i:Int):Int:=wI (i-wI ((0:Int)-0))
def dU (i:Int):Heap:=[(0,some ⟨5,[.seq .u8 (List.replicate i.toNat 0)],true⟩)]
theorem ARF (i:Int):AP Tryz.prog oSo grF 200 0 [0] (dS i [false,true])=some ((decide (i<0),false)::(true,true)::(decide (0<Lj i),true)::(true,true)::(decide (0≤Lj i∧Lj i≤9223372036854775807),true)::(CP (0+(Lj i).toNat),true)::(true,true)::(true,true)::[],[],.val false [.sx 0 0 1],dU (Lj i)):=by kernel_rfl
noncomputable def PF (i:Int):ASt:=EX (C7 Tryz.prog oSo 14 0 (dS i [false,false]))
theorem ARG (i:Int):C7 Tryz.prog oSo 14 0 (dS i [false,false])=some ((decide (i<0),false)::(true,true)::(decide (0<Lj i),false)::[],[],PF i):=by kernel_rfl
theorem ARH (i:Int):AP Tryz.prog oSo grF 200 0 [0] ⟨(PF i).todo,⟨Hz 0 1 [0] 0 (PF i).s.T,[]++[(0,some ⟨5,[.seq .u8 []],true⟩)],0+1,[]⟩⟩=some ([],[],.val false [.sx 0 0 1],[(0,some ⟨5,[.seq .u8 []],true⟩)]):=by kernel_rfl
theorem ARI (i:Int):PF i=⟨(PF i).todo,⟨(PF i).s.T,[],0,[]⟩⟩:=by kernel_rfl
theorem ARJ {i:Nat} (h:i≤35184372088832):Lj (i:Int)=i:=by
 unfold Lj
 rw [show wI ((0:Int)-0)=0 from rfl,Al (by omega)];omega
theorem ARK {i:Nat} (h:i≤35184372088832):Ah Tryz.prog 165 [Jw,iA i] [] 0 [] (.val false [.sx 0 0 1]) (dU i):=by
 have e:=ARJ h
 rcases Nat.eq_zero_or_pos i with h0 | h0
 ·subst h0
  refine Av (path:=[false,false]) Tryz.func165 (by kernel_rfl) (by kernel_rfl) fun β0 w0 hb=>?_
  refine H3 dR AE (ARG ((0:Nat):Int)) ⟨by decide,rfl,by rw [e];decide,trivial⟩ (AL (by kernel_rfl)) hb (fun _ h=>by cases h) fun _=>?_
  rw [ARI]
  refine P7 (ts:=[0]) (sz:=1) (ty:=5) (kd:=.u8) rfl (hb 0 (Nat.le_refl _)) ?_
  exact Aq dR AE Tryz.func165 (ARH _) trivial (AL (by kernel_rfl)) hb (fun _ h=>by cases h)
 ·refine Av (path:=[false,true]) Tryz.func165 (by kernel_rfl) (by kernel_rfl) fun β0 w0 hb=>?_
  have:=Aq (P:=Tryz.prog) (n:=grF.ntmps) (β0:=β0) (w0:=w0) (W:=[]) dR AE Tryz.func165 (ARF (i:Int)) ⟨decide_eq_false (by omega),rfl,decide_eq_true (by rw [e];omega),rfl,decide_eq_true (by rw [e];omega),by rw [e];exact CZ (by omega),rfl,rfl,trivial⟩ (AL (by kernel_rfl)) hb (fun _ h=>by cases h)
  rw [e] at this
  exact this
def grSp:ASpec:=fun args _ fr path=>match args with
 | [.val false [.v (.slice none 0 0)],I]=>match BH (some I) with
  | some (_,.i64,i)=>some (A8 [] 0 fr 1 [] (.val false [.sx 0 0 1]) (dU i) [(decide (0≤i∧i≤35184372088832),true)] path)
  | _=>none
 | _=>none
theorem ARL {β:Env} {w:World}:Ex.Good (A4 β [] 0) [] w:=⟨(fun _ _ h=>by cases h),(fun _ _ _ _ _ h=>by cases h),(fun b B n h=>by
 have e:Nat.blt b 0=false:=by cases q:Nat.blt b 0 with | false=>rfl | true=>exact absurd (Ay.1 q) (Nat.not_lt_zero b)
 simp [A4,e] at h)⟩
theorem ARM:A7 Tryz.prog 165 grSp:=by
 refine CG Tryz.func165 (by kernel_rfl) (by kernel_rfl) fun args H fr path r hs=>?_
 unfold grSp at hs
 split at hs
 case h_2=>cases hs
 rename_i I
 split at hs
 case h_2=>cases hs
 rename_i c i hI
 injection hs with hs
 refine ⟨[],0,1,[],_,_,_,path,hs.symm,fun β us w ha hg hc=>?_⟩
 obtain ⟨u1,us1,r1,⟨u2,us2,r2,ha,rfl⟩,rfl⟩:=ha
 have hi:=of_decide_eq_true hc.1
 obtain ⟨n,rfl⟩:=Int.eq_ofNat_of_zero_le hi.1
 exact ⟨[Jw,iA n],[],ARK (by omega),by kernel_rfl,⟨u1,_,MC rfl r1,⟨u2,_,(G9 hI r2).2 _,ha,rfl⟩,rfl⟩,ARL,fun k h=>by cases h⟩
noncomputable def SSp:List (FuncId×ASpec):=(165,grSp)::SSo
theorem yL:AU Tryz.prog SSp:=⟨ARM,yK⟩
noncomputable abbrev oSp:Orc:=AI SSp KV
theorem WI:OrcOk Tryz.prog oSp:=AK yL BT
noncomputable abbrev ccF:Func:=Tryz.f100
def HA (k:Nat) (ys:List Int):Heap:=[(k,some ⟨5,[.seq .u8 ys],true⟩)]
theorem BP {xs:List Int} {off n:Nat} (h:off+n≤xs.length):(AA xs off n).length=n:=by unfold AA;rw [List.length_take,List.length_drop];omega
theorem Cu {l:List Int} {n:Nat} (h:l.length=n):l.take n=l:=List.take_of_length_le (by omega)
theorem Cn {a b:List Int} {n m:Nat} (h:a.length=n) (k:b.length=m):(a++b).length=n+m:=by rw [List.length_append,h,k]
theorem Cf {L:Nat} (h:L≤35184372088832):AH .i64 L=true:=by simp only [AH,Bool.and_eq_true,decide_eq_true_eq];omega
theorem WJ (n:Nat):decide ((n:Int)<0)=false:=decide_eq_false (by omega)
theorem NH {a b:Nat} (h:a+b≤35184372088832):wI ((a:Int)+(b:Int))=((a+b:Nat):Int):=by rw [Al (by omega)];omega
noncomputable def dV (o1 n1 m1 o2 n2 m2:Nat) (x1 x2:List Int):Heap:=[(0,some (Ad [.sl 1 o1 n1 m1,.sl 2 o2 n2 m2])),(1,some (Ad [.seq .u8 x1])),(2,some (Ad [.seq .u8 x2]))]
noncomputable def ARN (o1 n1 m1 o2 n2 m2:Nat) (x1 x2:List Int):ASt:=Af ccF [AJ 0 0 2 2] (dV o1 n1 m1 o2 n2 m2 x1 x2) 3 [true,false,true,false,false,true,true,false]
def WK (n1 n2:Nat):Int:=wI (wI (0+(n1:Int))+(n2:Int))
def yM (o1 n1 o2 n2:Nat) (x1 x2:List Int):List Int:=(AA x1 o1 n1).take (0+n1)++AA x2 o2 n2
theorem ARO (o1 n1 m1 o2 n2 m2:Nat) (x1 x2:List Int):AP Tryz.prog oSp ccF 400 3 [5] (ARN o1 n1 m1 o2 n2 m2 x1 x2)=some (tt 3 ((AH .i64 n1,true)::(decide (wI (0+(n1:Int))<0),false)::tt 2 ((AH .i64 n2,true)::(decide (wI (wI (0+(n1:Int))+(n2:Int))<0),false)::(false,false)::(decide (0≤WK n1 n2∧WK n1 n2≤35184372088832),true)::tt 4 ((Nat.ble (o1+n1) x1.length,true)::(CP (0+n1),true)::tt 2 ((Nat.ble (0+n1) (AA x1 o1 n1).length,true)::(Nat.ble (o2+n2) x2.length,true)::(CP (0+n1+n2),true)::(false,false)::[])))),[],.val false [.sx 5 (0+n1+n2) 1],HA 5 (yM o1 n1 o2 n2 x1 x2)):=by kernel_rfl
theorem ARP {o1 n1 m1 o2 n2 m2:Nat} {x1 x2:List Int} (h1:o1+n1≤x1.length) (h2:o2+n2≤x2.length) (hn:n1+n2≤35184372088832):Ah Tryz.prog 100 [AJ 0 0 2 2] (dV o1 n1 m1 o2 n2 m2 x1 x2) 3 [] (.val false [.sx 5 (n1+n2) 1]) (HA 5 (AA x1 o1 n1++AA x2 o2 n2)):=by
 have w1:=BP h1
 have w2:=BP h2
 have e1:wI (0+(n1:Int))=(n1:Nat):=by rw [Al (by omega)];omega
 have e2:=NH (a:=n1) (b:=n2) (by omega)
 have eA:WK n1 n2=((n1+n2:Nat):Int):=by unfold WK;rw [e1,e2]
 have l1:=w1
 have l2:=Cn l1 w2
 have q2:(AA x1 o1 n1).take (0+n1)++AA x2 o2 n2=AA x1 o1 n1++AA x2 o2 n2:=by rw [show 0+n1=n1 by omega,Cu l1]
 have eY:yM o1 n1 o2 n2 x1 x2=AA x1 o1 n1++AA x2 o2 n2:=q2
 have eL:0+n1+n2=n1+n2:=by omega
 refine Av (path:=[true,false,true,false,false,true,true,false]) Tryz.func100 (by kernel_rfl) (by kernel_rfl) fun β0 w0 hb=>?_
 have:=Aq (P:=Tryz.prog) (n:=ccF.ntmps) (β0:=β0) (w0:=w0) (W:=[]) WI AE Tryz.func100 (ARO o1 n1 m1 o2 n2 m2 x1 x2) ?_ (AL (by kernel_rfl)) hb (fun _ h=>by cases h)
 ·rw [eY,eL] at this
  exact this
 ·rw [eA]
  simp only [e1,e2,WJ]
  exact Aj 3 ⟨Cf (by omega),rfl,Aj 2 ⟨Cf (by omega),rfl,rfl,decide_eq_true ⟨by omega,by omega⟩,Aj 4 ⟨Nat.ble_eq_true_of_le h1,CZ (by omega),Aj 2 ⟨Nat.ble_eq_true_of_le (by rw [w1];omega),Nat.ble_eq_true_of_le h2,CZ (by omega),rfl,trivial⟩⟩⟩⟩
noncomputable def dW (o1 n1 m1 o2 n2 m2 o3 n3 m3:Nat) (x1 x2 x3:List Int):Heap:=[(0,some (Ad [.sl 1 o1 n1 m1,.sl 2 o2 n2 m2,.sl 3 o3 n3 m3])),(1,some (Ad [.seq .u8 x1])),(2,some (Ad [.seq .u8 x2])),(3,some (Ad [.seq .u8 x3]))]
noncomputable def ARQ (o1 n1 m1 o2 n2 m2 o3 n3 m3:Nat) (x1 x2 x3:List Int):ASt:=Af ccF [AJ 0 0 3 3] (dW o1 n1 m1 o2 n2 m2 o3 n3 m3 x1 x2 x3) 4 [true,false,true,false,true,false,false,true,true,true,false]
def WL (n1 n2 n3:Nat):Int:=wI (wI (wI (0+(n1:Int))+(n2:Int))+(n3:Int))
def yN (o1 n1 o2 n2 o3 n3:Nat) (x1 x2 x3:List Int):List Int:=((AA x1 o1 n1).take (0+n1)++AA x2 o2 n2).take (0+n1+n2)++AA x3 o3 n3
theorem ARR (o1 n1 m1 o2 n2 m2 o3 n3 m3:Nat) (x1 x2 x3:List Int):AP Tryz.prog oSp ccF 400 4 [7] (ARQ o1 n1 m1 o2 n2 m2 o3 n3 m3 x1 x2 x3)=some (tt 3 ((AH .i64 n1,true)::(decide (wI (0+(n1:Int))<0),false)::tt 2 ((AH .i64 n2,true)::(decide (wI (wI (0+(n1:Int))+(n2:Int))<0),false)::tt 2 ((AH .i64 n3,true)::(decide (wI (wI (wI (0+(n1:Int))+(n2:Int))+(n3:Int))<0),false)::(false,false)::(decide (0≤WL n1 n2 n3∧WL n1 n2 n3≤35184372088832),true)::tt 4 ((Nat.ble (o1+n1) x1.length,true)::(CP (0+n1),true)::tt 2 ((Nat.ble (0+n1) (AA x1 o1 n1).length,true)::(Nat.ble (o2+n2) x2.length,true)::(CP (0+n1+n2),true)::tt 2 ((Nat.ble (0+n1+n2) ((AA x1 o1 n1).take (0+n1)++AA x2 o2 n2).length,true)::(Nat.ble (o3+n3) x3.length,true)::(CP (0+n1+n2+n3),true)::(false,false)::[])))))),[],.val false [.sx 7 (0+n1+n2+n3) 1],HA 7 (yN o1 n1 o2 n2 o3 n3 x1 x2 x3)):=by kernel_rfl
theorem ARS {o1 n1 m1 o2 n2 m2 o3 n3 m3:Nat} {x1 x2 x3:List Int} (h1:o1+n1≤x1.length) (h2:o2+n2≤x2.length) (h3:o3+n3≤x3.length) (hn:n1+n2+n3≤35184372088832):Ah Tryz.prog 100 [AJ 0 0 3 3] (dW o1 n1 m1 o2 n2 m2 o3 n3 m3 x1 x2 x3) 4 [] (.val false [.sx 7 (n1+n2+n3) 1]) (HA 7 (AA x1 o1 n1++AA x2 o2 n2++AA x3 o3 n3)):=by
 have w1:=BP h1
 have w2:=BP h2
 have w3:=BP h3
 have e1:wI (0+(n1:Int))=(n1:Nat):=by rw [Al (by omega)];omega
 have e2:=NH (a:=n1) (b:=n2) (by omega)
 have e3:=NH (a:=n1+n2) (b:=n3) (by omega)
 have eA:WL n1 n2 n3=((n1+n2+n3:Nat):Int):=by unfold WL;rw [e1,e2,e3]
 have l1:=w1
 have l2:=Cn l1 w2
 have l3:=Cn l2 w3
 have q2:(AA x1 o1 n1).take (0+n1)++AA x2 o2 n2=AA x1 o1 n1++AA x2 o2 n2:=by rw [show 0+n1=n1 by omega,Cu l1]
 have q3:((AA x1 o1 n1).take (0+n1)++AA x2 o2 n2).take (0+n1+n2)++AA x3 o3 n3=AA x1 o1 n1++AA x2 o2 n2++AA x3 o3 n3:=by rw [q2,show 0+n1+n2=n1+n2 by omega,Cu l2]
 have eY:yN o1 n1 o2 n2 o3 n3 x1 x2 x3=AA x1 o1 n1++AA x2 o2 n2++AA x3 o3 n3:=q3
 have eL:0+n1+n2+n3=n1+n2+n3:=by omega
 refine Av (path:=[true,false,true,false,true,false,false,true,true,true,false]) Tryz.func100 (by kernel_rfl) (by kernel_rfl) fun β0 w0 hb=>?_
 have:=Aq (P:=Tryz.prog) (n:=ccF.ntmps) (β0:=β0) (w0:=w0) (W:=[]) WI AE Tryz.func100 (ARR o1 n1 m1 o2 n2 m2 o3 n3 m3 x1 x2 x3) ?_ (AL (by kernel_rfl)) hb (fun _ h=>by cases h)
 ·rw [eY,eL] at this
  exact this
 ·rw [eA]
  simp only [e1,e2,e3,WJ]
  exact Aj 3 ⟨Cf (by omega),rfl,Aj 2 ⟨Cf (by omega),rfl,Aj 2 ⟨Cf (by omega),rfl,rfl,decide_eq_true ⟨by omega,by omega⟩,Aj 4 ⟨Nat.ble_eq_true_of_le h1,CZ (by omega),Aj 2 ⟨Nat.ble_eq_true_of_le (by rw [w1];omega),Nat.ble_eq_true_of_le h2,CZ (by omega),Aj 2 ⟨Nat.ble_eq_true_of_le (by rw [q2,l2];omega),Nat.ble_eq_true_of_le h3,CZ (by omega),rfl,trivial⟩⟩⟩⟩⟩⟩
noncomputable def dX (o1 n1 m1 o2 n2 m2 o3 n3 m3 o4 n4 m4:Nat) (x1 x2 x3 x4:List Int):Heap:=[(0,some (Ad [.sl 1 o1 n1 m1,.sl 2 o2 n2 m2,.sl 3 o3 n3 m3,.sl 4 o4 n4 m4])),(1,some (Ad [.seq .u8 x1])),(2,some (Ad [.seq .u8 x2])),(3,some (Ad [.seq .u8 x3])),(4,some (Ad [.seq .u8 x4]))]
noncomputable def ART (o1 n1 m1 o2 n2 m2 o3 n3 m3 o4 n4 m4:Nat) (x1 x2 x3 x4:List Int):ASt:=Af ccF [AJ 0 0 4 4] (dX o1 n1 m1 o2 n2 m2 o3 n3 m3 o4 n4 m4 x1 x2 x3 x4) 5 [true,false,true,false,true,false,true,false,false,true,true,true,true,false]
def WM (n1 n2 n3 n4:Nat):Int:=wI (wI (wI (wI (0+(n1:Int))+(n2:Int))+(n3:Int))+(n4:Int))
def yO (o1 n1 o2 n2 o3 n3 o4 n4:Nat) (x1 x2 x3 x4:List Int):List Int:=(((AA x1 o1 n1).take (0+n1)++AA x2 o2 n2).take (0+n1+n2)++AA x3 o3 n3).take (0+n1+n2+n3)++AA x4 o4 n4
theorem ARU (o1 n1 m1 o2 n2 m2 o3 n3 m3 o4 n4 m4:Nat) (x1 x2 x3 x4:List Int):AP Tryz.prog oSp ccF 400 5 [9] (ART o1 n1 m1 o2 n2 m2 o3 n3 m3 o4 n4 m4 x1 x2 x3 x4)=some (tt 3 ((AH .i64 n1,true)::(decide (wI (0+(n1:Int))<0),false)::tt 2 ((AH .i64 n2,true)::(decide (wI (wI (0+(n1:Int))+(n2:Int))<0),false)::tt 2 ((AH .i64 n3,true)::(decide (wI (wI (wI (0+(n1:Int))+(n2:Int))+(n3:Int))<0),false)::tt 2 ((AH .i64 n4,true)::(decide (wI (wI (wI (wI (0+(n1:Int))+(n2:Int))+(n3:Int))+(n4:Int))<0),false)::(false,false)::(decide (0≤WM n1 n2 n3 n4∧WM n1 n2 n3 n4≤35184372088832),true)::tt 4 ((Nat.ble (o1+n1) x1.length,true)::(CP (0+n1),true)::tt 2 ((Nat.ble (0+n1) (AA x1 o1 n1).length,true)::(Nat.ble (o2+n2) x2.length,true)::(CP (0+n1+n2),true)::tt 2 ((Nat.ble (0+n1+n2) ((AA x1 o1 n1).take (0+n1)++AA x2 o2 n2).length,true)::(Nat.ble (o3+n3) x3.length,true)::(CP (0+n1+n2+n3),true)::tt 2 ((Nat.ble (0+n1+n2+n3) (((AA x1 o1 n1).take (0+n1)++AA x2 o2 n2).take (0+n1+n2)++AA x3 o3 n3).length,true)::(Nat.ble (o4+n4) x4.length,true)::(CP (0+n1+n2+n3+n4),true)::(false,false)::[])))))))),[],.val false [.sx 9 (0+n1+n2+n3+n4) 1],HA 9 (yO o1 n1 o2 n2 o3 n3 o4 n4 x1 x2 x3 x4)):=by kernel_rfl
theorem ARV {o1 n1 m1 o2 n2 m2 o3 n3 m3 o4 n4 m4:Nat} {x1 x2 x3 x4:List Int} (h1:o1+n1≤x1.length) (h2:o2+n2≤x2.length) (h3:o3+n3≤x3.length) (h4:o4+n4≤x4.length) (hn:n1+n2+n3+n4≤35184372088832):Ah Tryz.prog 100 [AJ 0 0 4 4] (dX o1 n1 m1 o2 n2 m2 o3 n3 m3 o4 n4 m4 x1 x2 x3 x4) 5 [] (.val false [.sx 9 (n1+n2+n3+n4) 1]) (HA 9 (AA x1 o1 n1++AA x2 o2 n2++AA x3 o3 n3++AA x4 o4 n4)):=by
 have w1:=BP h1
 have w2:=BP h2
 have w3:=BP h3
 have w4:=BP h4
 have e1:wI (0+(n1:Int))=(n1:Nat):=by rw [Al (by omega)];omega
 have e2:=NH (a:=n1) (b:=n2) (by omega)
 have e3:=NH (a:=n1+n2) (b:=n3) (by omega)
 have e4:=NH (a:=n1+n2+n3) (b:=n4) (by omega)
 have eA:WM n1 n2 n3 n4=((n1+n2+n3+n4:Nat):Int):=by unfold WM;rw [e1,e2,e3,e4]
 have l1:=w1
 have l2:=Cn l1 w2
 have l3:=Cn l2 w3
 have l4:=Cn l3 w4
 have q2:(AA x1 o1 n1).take (0+n1)++AA x2 o2 n2=AA x1 o1 n1++AA x2 o2 n2:=by rw [show 0+n1=n1 by omega,Cu l1]
 have q3:((AA x1 o1 n1).take (0+n1)++AA x2 o2 n2).take (0+n1+n2)++AA x3 o3 n3=AA x1 o1 n1++AA x2 o2 n2++AA x3 o3 n3:=by rw [q2,show 0+n1+n2=n1+n2 by omega,Cu l2]
 have q4:(((AA x1 o1 n1).take (0+n1)++AA x2 o2 n2).take (0+n1+n2)++AA x3 o3 n3).take (0+n1+n2+n3)++AA x4 o4 n4=AA x1 o1 n1++AA x2 o2 n2++AA x3 o3 n3++AA x4 o4 n4:=by rw [q3,show 0+n1+n2+n3=n1+n2+n3 by omega,Cu l3]
 have eY:yO o1 n1 o2 n2 o3 n3 o4 n4 x1 x2 x3 x4=AA x1 o1 n1++AA x2 o2 n2++AA x3 o3 n3++AA x4 o4 n4:=q4
 have eL:0+n1+n2+n3+n4=n1+n2+n3+n4:=by omega
 refine Av (path:=[true,false,true,false,true,false,true,false,false,true,true,true,true,false]) Tryz.func100 (by kernel_rfl) (by kernel_rfl) fun β0 w0 hb=>?_
 have:=Aq (P:=Tryz.prog) (n:=ccF.ntmps) (β0:=β0) (w0:=w0) (W:=[]) WI AE Tryz.func100 (ARU o1 n1 m1 o2 n2 m2 o3 n3 m3 o4 n4 m4 x1 x2 x3 x4) ?_ (AL (by kernel_rfl)) hb (fun _ h=>by cases h)
 ·rw [eY,eL] at this
  exact this
 ·rw [eA]
  simp only [e1,e2,e3,e4,WJ]
  exact Aj 3 ⟨Cf (by omega),rfl,Aj 2 ⟨Cf (by omega),rfl,Aj 2 ⟨Cf (by omega),rfl,Aj 2 ⟨Cf (by omega),rfl,rfl,decide_eq_true ⟨by omega,by omega⟩,Aj 4 ⟨Nat.ble_eq_true_of_le h1,CZ (by omega),Aj 2 ⟨Nat.ble_eq_true_of_le (by rw [w1];omega),Nat.ble_eq_true_of_le h2,CZ (by omega),Aj 2 ⟨Nat.ble_eq_true_of_le (by rw [q2,l2];omega),Nat.ble_eq_true_of_le h3,CZ (by omega),Aj 2 ⟨Nat.ble_eq_true_of_le (by rw [q3,l3];omega),Nat.ble_eq_true_of_le h4,CZ (by omega),rfl,trivial⟩⟩⟩⟩⟩⟩⟩⟩
noncomputable def dY (o1 n1 m1 o2 n2 m2:Nat) (x1 x2:List Int):Heap:=[(0,some (Ad [.v (.slice none 0 0),.sl 1 o1 n1 m1,.sl 2 o2 n2 m2])),(1,some (Ad [.seq .u8 x1])),(2,some (Ad [.seq .u8 x2]))]
noncomputable def ARW (o1 n1 m1 o2 n2 m2:Nat) (x1 x2:List Int):ASt:=Af ccF [AJ 0 0 3 3] (dY o1 n1 m1 o2 n2 m2 x1 x2) 3 [true,false,true,false,true,false,false,true,true,true,false]
def WN (n1 n2:Nat):Int:=wI (wI (wI (0+0)+(n1:Int))+(n2:Int))
def yP (o1 n1 o2 n2:Nat) (x1 x2:List Int):List Int:=(AA x1 o1 n1).take (0+n1)++AA x2 o2 n2
theorem ARX (o1 n1 m1 o2 n2 m2:Nat) (x1 x2:List Int):AP Tryz.prog oSp ccF 400 3 [6] (ARW o1 n1 m1 o2 n2 m2 x1 x2)=some (tt 4 ((false,false)::tt 2 ((AH .i64 n1,true)::(decide (wI (wI (0+0)+(n1:Int))<0),false)::tt 2 ((AH .i64 n2,true)::(decide (wI (wI (wI (0+0)+(n1:Int))+(n2:Int))<0),false)::(false,false)::(decide (0≤WN n1 n2∧WN n1 n2≤35184372088832),true)::tt 9 ((Nat.ble (o1+n1) x1.length,true)::(CP (0+n1),true)::tt 2 ((Nat.ble (0+n1) (AA x1 o1 n1).length,true)::(Nat.ble (o2+n2) x2.length,true)::(CP (0+n1+n2),true)::(false,false)::[]))))),[],.val false [.sx 6 (0+n1+n2) 1],HA 6 (yP o1 n1 o2 n2 x1 x2)):=by kernel_rfl
theorem ARY {o1 n1 m1 o2 n2 m2:Nat} {x1 x2:List Int} (h1:o1+n1≤x1.length) (h2:o2+n2≤x2.length) (hn:n1+n2≤35184372088832):Ah Tryz.prog 100 [AJ 0 0 3 3] (dY o1 n1 m1 o2 n2 m2 x1 x2) 3 [] (.val false [.sx 6 (n1+n2) 1]) (HA 6 (AA x1 o1 n1++AA x2 o2 n2)):=by
 have w1:=BP h1
 have w2:=BP h2
 have e0:wI ((0:Int)+0)=0:=rfl
 have e1:wI (0+(n1:Int))=(n1:Nat):=by rw [Al (by omega)];omega
 have e2:=NH (a:=n1) (b:=n2) (by omega)
 have eA:WN n1 n2=((n1+n2:Nat):Int):=by unfold WN;rw [e0,e1,e2]
 have l1:=w1
 have l2:=Cn l1 w2
 have q2:(AA x1 o1 n1).take (0+n1)++AA x2 o2 n2=AA x1 o1 n1++AA x2 o2 n2:=by rw [show 0+n1=n1 by omega,Cu l1]
 have eY:yP o1 n1 o2 n2 x1 x2=AA x1 o1 n1++AA x2 o2 n2:=q2
 have eL:0+n1+n2=n1+n2:=by omega
 refine Av (path:=[true,false,true,false,true,false,false,true,true,true,false]) Tryz.func100 (by kernel_rfl) (by kernel_rfl) fun β0 w0 hb=>?_
 have:=Aq (P:=Tryz.prog) (n:=ccF.ntmps) (β0:=β0) (w0:=w0) (W:=[]) WI AE Tryz.func100 (ARX o1 n1 m1 o2 n2 m2 x1 x2) ?_ (AL (by kernel_rfl)) hb (fun _ h=>by cases h)
 ·rw [eY,eL] at this
  exact this
 ·rw [eA]
  simp only [e0,e1,e2,WJ]
  exact Aj 4 ⟨rfl,Aj 2 ⟨Cf (by omega),rfl,Aj 2 ⟨Cf (by omega),rfl,rfl,decide_eq_true ⟨by omega,by omega⟩,Aj 9 ⟨Nat.ble_eq_true_of_le h1,CZ (by omega),Aj 2 ⟨Nat.ble_eq_true_of_le (by rw [w1];omega),Nat.ble_eq_true_of_le h2,CZ (by omega),rfl,trivial⟩⟩⟩⟩⟩
theorem PG {β:Env} {H:Heap} {w:World} {ρ:List Nat} {bs:List Blk} (g:Ex.Good β H w) (h:∀ j d,bs[j]? = some d→d.ty=B5∧Dn (A4 β ρ bs.length) d j w):Ex.Good (A4 β ρ bs.length) (MM 0 bs) w:=by
 refine ⟨fun j blk hj=>?_,fun i j B n n' h1 _ _ _=>?_,fun j B n hj=>?_⟩
 ·obtain ⟨_,hj⟩:=KU hj
  rw [Nat.sub_zero] at hj
  exact (h j blk hj).2
 ·obtain ⟨d,hd,hr⟩:=E0 h1
  obtain ⟨_,hd⟩:=KU hd
  rw [Nat.sub_zero] at hd
  exact absurd (h i d hd).1 hr
 ·unfold A4 at hj
  split at hj
  ·exact g.lt _ _ _ hj
  ·cases hj
theorem Hj {β:Env} {C:Ch} {k off n:Nat} {l:List Value} (h:Bw (.val false [C])=some (k,off,n)) (hr:BL β C l):∃ m,BL β (.sl k off n m) l:=by
 have h1:∃ u,l=[u]:=by
  unfold Bw at h
  split at h
  ·rename_i he
   injection he with _ he;injection he with he _;subst he
   rcases hr with ⟨B,q,_,e⟩ | ⟨_,_,_,_,e⟩<;>exact ⟨_,e⟩
  ·rename_i he
   injection he with _ he;injection he with he _;subst he
   rcases hr with ⟨B,q,cap,_,e,_⟩ | ⟨_,_,e⟩<;>exact ⟨_,e⟩
  ·cases h
 obtain ⟨u,rfl⟩:=h1
 obtain ⟨m,hm⟩:=C3 (u:=u) h (Aw hr)
 exact ⟨m,Az hm⟩
theorem Hk {β:Env} {k j off n m:Nat} {ρ:List Nat} {k0:Nat} {l:List Value} (hj:j<k0) (hn:nth ρ j=k) (h:BL β (.sl k off n m) l):BL (A4 β ρ k0) (.sl j off n m) l:=by
 have e:A4 β ρ k0 j=β k:=by rw [HO hj,hn]
 rcases h with ⟨B,q,q1,q2⟩ | ⟨q1,q2⟩
 ·exact .inl ⟨B,q,by rw [e];exact q1,q2⟩
 ·exact .inr ⟨by rw [e];exact q1,q2⟩
theorem FL {β:Env} {H:Heap} {w:World} {k j ty:Nat} {cs:List Ch} {o:Bool} {xs:List Int} {ρ:List Nat} {k0:Nat} (hg:Ex.Good β H w) (hk:AG H k=some ⟨ty,cs,o⟩) (hx:As .u8 cs=some xs) (hj:j<k0) (hn:nth ρ j=k):Dn (A4 β ρ k0) (Ad [.seq .u8 xs]) j w:=by
 refine QG (hg.heap _ _ hk) (by rw [HO hj,hn]) (.inl rfl) fun l h=>?_
 obtain ⟨q1,q2⟩:=CJ hx h
 exact ⟨_,[],⟨q1,q2⟩,rfl,by simp⟩
theorem WO {β:Env} {H:Heap} {w:World} {k ty:Nat} {c:Ch} {cs:List Ch} {o:Bool} (hg:Ex.Good β H w) (hk:AG H k=some ⟨ty,c::cs,o⟩) (hz:Da c=1):∃ l,AM β (c::cs) l∧∀ (β':Env) (cs':List Ch) (j:Nat),β' j=β k→AM β' cs' l→Dn β' (Ad cs') j w:=by
 rcases hg.heap _ _ hk with ⟨B,n,l,t,pre,ty',fz,q1,q2,q3,q4,_⟩ | ⟨_,_,q3⟩
 ·exact ⟨l,q2,fun β' cs' j he hr=>.inl ⟨B,n,l,t,pre,ty',fz,he.trans q1,hr,q3,q4,fun h=>absurd rfl h⟩⟩
 ·have:=SL q3
  simp only [Ls,hz,List.length_nil] at this
  omega
def GN (H:Heap) (c:Ch):Option (Nat×Nat×Nat×List Int):=match Bw (.val false [c]) with
 | some (k,off,n)=>match AG H k with
  | some ⟨_,cs,_⟩=>match As .u8 cs with
   | some xs=>some (k,off,n,xs)
   | none=>none
  | none=>none
 | none=>none
theorem Hl {H:Heap} {c:Ch} {k off n:Nat} {xs:List Int} (h:GN H c=some (k,off,n,xs)):Bw (.val false [c])=some (k,off,n)∧∃ ty cs o,AG H k=some ⟨ty,cs,o⟩∧As .u8 cs=some xs:=by
 unfold GN at h
 split at h
 case h_2=>cases h
 rename_i k' off' n' h1
 split at h
 case h_2=>cases h
 rename_i ty cs o h2
 split at h
 case h_2=>cases h
 rename_i xs' h3
 injection h with h;injection h with e1 h;injection h with e2 h;injection h with e3 e4
 subst e1;subst e2;subst e3;subst e4
 exact ⟨h1,ty,cs,o,h2,h3⟩
theorem dZ {c:Ch} {x:Nat×Nat×Nat} (h:Bw (.val false [c])=some x):Da c=1:=by
 unfold Bw at h
 split at h
 ·rename_i he
  injection he with _ he;injection he with he _;subst he;rfl
 ·rename_i he
  injection he with _ he;injection he with he _;subst he;rfl
 ·cases h
def d6 (H:Heap) (k fr:Nat) (path:List Bool) (c1 c2:Ch):Option R:=match GN H c1,GN H c2 with
 | some (k1,o1,n1,x1),some (k2,o2,n2,x2)=>some (A8 [k,k1,k2] 3 fr 3 [] (.val false [.sx 5 (n1+n2) 1]) (HA 5 (AA x1 o1 n1++AA x2 o2 n2)) [(Nat.ble (o1+n1) x1.length,true),(Nat.ble (o2+n2) x2.length,true),(Nat.ble (n1+n2) 35184372088832,true)] path)
 | _,_=>none
def d7 (H:Heap) (k fr:Nat) (path:List Bool) (c1 c2 c3:Ch):Option R:=match GN H c1,GN H c2,GN H c3 with
 | some (k1,o1,n1,x1),some (k2,o2,n2,x2),some (k3,o3,n3,x3)=>some (A8 [k,k1,k2,k3] 4 fr 4 [] (.val false [.sx 7 (n1+n2+n3) 1]) (HA 7 (AA x1 o1 n1++AA x2 o2 n2++AA x3 o3 n3)) [(Nat.ble (o1+n1) x1.length,true),(Nat.ble (o2+n2) x2.length,true),(Nat.ble (o3+n3) x3.length,true),(Nat.ble (n1+n2+n3) 35184372088832,true)] path)
 | _,_,_=>none
def d8 (H:Heap) (k fr:Nat) (path:List Bool) (c1 c2 c3 c4:Ch):Option R:=match GN H c1,GN H c2,GN H c3,GN H c4 with
 | some (k1,o1,n1,x1),some (k2,o2,n2,x2),some (k3,o3,n3,x3),some (k4,o4,n4,x4)=>some (A8 [k,k1,k2,k3,k4] 5 fr 5 [] (.val false [.sx 9 (n1+n2+n3+n4) 1]) (HA 9 (AA x1 o1 n1++AA x2 o2 n2++AA x3 o3 n3++AA x4 o4 n4)) [(Nat.ble (o1+n1) x1.length,true),(Nat.ble (o2+n2) x2.length,true),(Nat.ble (o3+n3) x3.length,true),(Nat.ble (o4+n4) x4.length,true),(Nat.ble (n1+n2+n3+n4) 35184372088832,true)] path)
 | _,_,_,_=>none
def d9 (H:Heap) (k fr:Nat) (path:List Bool) (c2 c3:Ch):Option R:=match GN H c2,GN H c3 with
 | some (k1,o1,n1,x1),some (k2,o2,n2,x2)=>some (A8 [k,k1,k2] 3 fr 4 [] (.val false [.sx 6 (n1+n2) 1]) (HA 6 (AA x1 o1 n1++AA x2 o2 n2)) [(Nat.ble (o1+n1) x1.length,true),(Nat.ble (o2+n2) x2.length,true),(Nat.ble (n1+n2) 35184372088832,true)] path)
 | _,_=>none
def ccSp:ASpec:=fun args H fr path=>match args with
 | [.val false [.sl k 0 n m]]=>match AG H k,Nat.beq m n with
  | some ⟨_,cs,_⟩,true=>match cs with
   | [c1,c2]=>match Nat.beq n 2 with
    | true=>d6 H k fr path c1 c2
    | false=>none
   | [c1,c2,c3]=>match Nat.beq n 3,c1 with
    | true,.v (.slice none 0 0)=>d9 H k fr path c2 c3
    | true,c1=>d7 H k fr path c1 c2 c3
    | _,_=>none
   | [c1,c2,c3,c4]=>match Nat.beq n 4 with
    | true=>d8 H k fr path c1 c2 c3 c4
    | false=>none
   | _=>none
  | _,_=>none
 | _=>none
theorem ARZ {H:Heap} {k fr ty:Nat} {path:List Bool} {c1 c2:Ch} {o:Bool} {r:R} (hk:AG H k=some ⟨ty,[c1,c2],o⟩) (hs:d6 H k fr path c1 c2=some r) :
  ∃ (ρ:List Nat) (k0 nw:Nat) (W:List Nat) (val:AV) (H1:Heap) (conds:List (Bool×Bool)) (path':List Bool),
   r=A8 ρ k0 fr nw W val H1 conds path'∧(∀ β us w,A9 β [AJ k 0 2 2] us→Ex.Good β H w→AQ conds→∃ args0 H0,Ah Tryz.prog 100 args0 H0 k0 W val H1∧C6 k0 nw W val H1=true∧A9 (A4 β ρ k0) args0 us∧Ex.Good (A4 β ρ k0) H0 w∧(∀ k,k<k0→∃ X,β (nth ρ k)=some X)):=by
 unfold d6 at hs
 split at hs
 case h_2=>cases hs
 rename_i k1 o1 n1 x1 k2 o2 n2 x2 a1 a2
 injection hs with hs
 obtain ⟨s1,ty1,cs1,p1,g1,t1⟩:=Hl a1
 obtain ⟨s2,ty2,cs2,p2,g2,t2⟩:=Hl a2
 refine ⟨[k,k1,k2],3,3,[],_,_,_,path,hs.symm,fun β us w ha hg hc=>?_⟩
 obtain ⟨b1,b2,hS,_⟩:=hc
 obtain ⟨u1,us1,r1,ha,rfl⟩:=ha
 obtain ⟨l,hl,hv⟩:=WO hg hk (dZ s1)
 obtain ⟨v1,l1,d1,f1,rfl⟩:=hl
 obtain ⟨v2,l2,d2,f2,rfl⟩:=f1
 obtain ⟨m1,d1⟩:=Hj s1 d1
 obtain ⟨m2,d2⟩:=Hj s2 d2
 refine ⟨[AJ 0 0 2 2],dV o1 n1 m1 o2 n2 m2 x1 x2,ARP (Nat.le_of_ble_eq_true b1) (Nat.le_of_ble_eq_true b2) (Nat.le_of_ble_eq_true hS),rfl,⟨u1,_,Bl (by omega) rfl r1,ha,rfl⟩,PG (bs:=[Ad [.sl 1 o1 n1 m1,.sl 2 o2 n2 m2],Ad [.seq .u8 x1],Ad [.seq .u8 x2]]) hg fun j d hj=>?_,fun j hj=>?_⟩
 ·match j,hj with
  | 0,hj=>injection hj with hj;subst hj;exact ⟨rfl,hv _ _ _ (HO (by show 0<3;decide)) ⟨_,_,Hk (by show 1<3;decide) rfl d1,⟨_,_,Hk (by show 2<3;decide) rfl d2,f2,rfl⟩,rfl⟩⟩
  | 1,hj=>injection hj with hj;subst hj;exact ⟨rfl,FL hg g1 t1 (by show 1<3;decide) rfl⟩
  | 2,hj=>injection hj with hj;subst hj;exact ⟨rfl,FL hg g2 t2 (by show 2<3;decide) rfl⟩
 ·match j,hj with
  | 0,_=>exact Bu (hg.heap _ _ hk)
  | 1,_=>exact Bu (hg.heap _ _ g1)
  | 2,_=>exact Bu (hg.heap _ _ g2)
theorem ARa {H:Heap} {k fr ty:Nat} {path:List Bool} {c1 c2 c3:Ch} {o:Bool} {r:R} (hk:AG H k=some ⟨ty,[c1,c2,c3],o⟩) (hs:d7 H k fr path c1 c2 c3=some r) :
  ∃ (ρ:List Nat) (k0 nw:Nat) (W:List Nat) (val:AV) (H1:Heap) (conds:List (Bool×Bool)) (path':List Bool),
   r=A8 ρ k0 fr nw W val H1 conds path'∧(∀ β us w,A9 β [AJ k 0 3 3] us→Ex.Good β H w→AQ conds→∃ args0 H0,Ah Tryz.prog 100 args0 H0 k0 W val H1∧C6 k0 nw W val H1=true∧A9 (A4 β ρ k0) args0 us∧Ex.Good (A4 β ρ k0) H0 w∧(∀ k,k<k0→∃ X,β (nth ρ k)=some X)):=by
 unfold d7 at hs
 split at hs
 case h_2=>cases hs
 rename_i k1 o1 n1 x1 k2 o2 n2 x2 k3 o3 n3 x3 a1 a2 a3
 injection hs with hs
 obtain ⟨s1,ty1,cs1,p1,g1,t1⟩:=Hl a1
 obtain ⟨s2,ty2,cs2,p2,g2,t2⟩:=Hl a2
 obtain ⟨s3,ty3,cs3,p3,g3,t3⟩:=Hl a3
 refine ⟨[k,k1,k2,k3],4,4,[],_,_,_,path,hs.symm,fun β us w ha hg hc=>?_⟩
 obtain ⟨b1,b2,b3,hS,_⟩:=hc
 obtain ⟨u1,us1,r1,ha,rfl⟩:=ha
 obtain ⟨l,hl,hv⟩:=WO hg hk (dZ s1)
 obtain ⟨v1,l1,d1,f1,rfl⟩:=hl
 obtain ⟨v2,l2,d2,f2,rfl⟩:=f1
 obtain ⟨v3,l3,d3,f3,rfl⟩:=f2
 obtain ⟨m1,d1⟩:=Hj s1 d1
 obtain ⟨m2,d2⟩:=Hj s2 d2
 obtain ⟨m3,d3⟩:=Hj s3 d3
 refine ⟨[AJ 0 0 3 3],dW o1 n1 m1 o2 n2 m2 o3 n3 m3 x1 x2 x3,ARS (Nat.le_of_ble_eq_true b1) (Nat.le_of_ble_eq_true b2) (Nat.le_of_ble_eq_true b3) (Nat.le_of_ble_eq_true hS),rfl,⟨u1,_,Bl (by omega) rfl r1,ha,rfl⟩,PG (bs:=[Ad [.sl 1 o1 n1 m1,.sl 2 o2 n2 m2,.sl 3 o3 n3 m3],Ad [.seq .u8 x1],Ad [.seq .u8 x2],Ad [.seq .u8 x3]]) hg fun j d hj=>?_,fun j hj=>?_⟩
 ·match j,hj with
  | 0,hj=>injection hj with hj;subst hj;exact ⟨rfl,hv _ _ _ (HO (by show 0<4;decide)) ⟨_,_,Hk (by show 1<4;decide) rfl d1,⟨_,_,Hk (by show 2<4;decide) rfl d2,⟨_,_,Hk (by show 3<4;decide) rfl d3,f3,rfl⟩,rfl⟩,rfl⟩⟩
  | 1,hj=>injection hj with hj;subst hj;exact ⟨rfl,FL hg g1 t1 (by show 1<4;decide) rfl⟩
  | 2,hj=>injection hj with hj;subst hj;exact ⟨rfl,FL hg g2 t2 (by show 2<4;decide) rfl⟩
  | 3,hj=>injection hj with hj;subst hj;exact ⟨rfl,FL hg g3 t3 (by show 3<4;decide) rfl⟩
 ·match j,hj with
  | 0,_=>exact Bu (hg.heap _ _ hk)
  | 1,_=>exact Bu (hg.heap _ _ g1)
  | 2,_=>exact Bu (hg.heap _ _ g2)
  | 3,_=>exact Bu (hg.heap _ _ g3)
theorem ARb {H:Heap} {k fr ty:Nat} {path:List Bool} {c1 c2 c3 c4:Ch} {o:Bool} {r:R} (hk:AG H k=some ⟨ty,[c1,c2,c3,c4],o⟩) (hs:d8 H k fr path c1 c2 c3 c4=some r) :
  ∃ (ρ:List Nat) (k0 nw:Nat) (W:List Nat) (val:AV) (H1:Heap) (conds:List (Bool×Bool)) (path':List Bool),
   r=A8 ρ k0 fr nw W val H1 conds path'∧(∀ β us w,A9 β [AJ k 0 4 4] us→Ex.Good β H w→AQ conds→∃ args0 H0,Ah Tryz.prog 100 args0 H0 k0 W val H1∧C6 k0 nw W val H1=true∧A9 (A4 β ρ k0) args0 us∧Ex.Good (A4 β ρ k0) H0 w∧(∀ k,k<k0→∃ X,β (nth ρ k)=some X)):=by
 unfold d8 at hs
 split at hs
 case h_2=>cases hs
 rename_i k1 o1 n1 x1 k2 o2 n2 x2 k3 o3 n3 x3 k4 o4 n4 x4 a1 a2 a3 a4
 injection hs with hs
 obtain ⟨s1,ty1,cs1,p1,g1,t1⟩:=Hl a1
 obtain ⟨s2,ty2,cs2,p2,g2,t2⟩:=Hl a2
 obtain ⟨s3,ty3,cs3,p3,g3,t3⟩:=Hl a3
 obtain ⟨s4,ty4,cs4,p4,g4,t4⟩:=Hl a4
 refine ⟨[k,k1,k2,k3,k4],5,5,[],_,_,_,path,hs.symm,fun β us w ha hg hc=>?_⟩
 obtain ⟨b1,b2,b3,b4,hS,_⟩:=hc
 obtain ⟨u1,us1,r1,ha,rfl⟩:=ha
 obtain ⟨l,hl,hv⟩:=WO hg hk (dZ s1)
 obtain ⟨v1,l1,d1,f1,rfl⟩:=hl
 obtain ⟨v2,l2,d2,f2,rfl⟩:=f1
 obtain ⟨v3,l3,d3,f3,rfl⟩:=f2
 obtain ⟨v4,l4,d4,f4,rfl⟩:=f3
 obtain ⟨m1,d1⟩:=Hj s1 d1
 obtain ⟨m2,d2⟩:=Hj s2 d2
 obtain ⟨m3,d3⟩:=Hj s3 d3
 obtain ⟨m4,d4⟩:=Hj s4 d4
 refine ⟨[AJ 0 0 4 4],dX o1 n1 m1 o2 n2 m2 o3 n3 m3 o4 n4 m4 x1 x2 x3 x4,ARV (Nat.le_of_ble_eq_true b1) (Nat.le_of_ble_eq_true b2) (Nat.le_of_ble_eq_true b3) (Nat.le_of_ble_eq_true b4) (Nat.le_of_ble_eq_true hS),rfl,⟨u1,_,Bl (by omega) rfl r1,ha,rfl⟩,PG (bs:=[Ad [.sl 1 o1 n1 m1,.sl 2 o2 n2 m2,.sl 3 o3 n3 m3,.sl 4 o4 n4 m4],Ad [.seq .u8 x1],Ad [.seq .u8 x2],Ad [.seq .u8 x3],Ad [.seq .u8 x4]]) hg fun j d hj=>?_,fun j hj=>?_⟩
 ·match j,hj with
  | 0,hj=>injection hj with hj;subst hj;exact ⟨rfl,hv _ _ _ (HO (by show 0<5;decide)) ⟨_,_,Hk (by show 1<5;decide) rfl d1,⟨_,_,Hk (by show 2<5;decide) rfl d2,⟨_,_,Hk (by show 3<5;decide) rfl d3,⟨_,_,Hk (by show 4<5;decide) rfl d4,f4,rfl⟩,rfl⟩,rfl⟩,rfl⟩⟩
  | 1,hj=>injection hj with hj;subst hj;exact ⟨rfl,FL hg g1 t1 (by show 1<5;decide) rfl⟩
  | 2,hj=>injection hj with hj;subst hj;exact ⟨rfl,FL hg g2 t2 (by show 2<5;decide) rfl⟩
  | 3,hj=>injection hj with hj;subst hj;exact ⟨rfl,FL hg g3 t3 (by show 3<5;decide) rfl⟩
  | 4,hj=>injection hj with hj;subst hj;exact ⟨rfl,FL hg g4 t4 (by show 4<5;decide) rfl⟩
 ·match j,hj with
  | 0,_=>exact Bu (hg.heap _ _ hk)
  | 1,_=>exact Bu (hg.heap _ _ g1)
  | 2,_=>exact Bu (hg.heap _ _ g2)
  | 3,_=>exact Bu (hg.heap _ _ g3)
  | 4,_=>exact Bu (hg.heap _ _ g4)
theorem ARc {H:Heap} {k fr ty:Nat} {path:List Bool} {c2 c3:Ch} {o:Bool} {r:R} (hk:AG H k=some ⟨ty,[.v (.slice none 0 0),c2,c3],o⟩) (hs:d9 H k fr path c2 c3=some r) :
  ∃ (ρ:List Nat) (k0 nw:Nat) (W:List Nat) (val:AV) (H1:Heap) (conds:List (Bool×Bool)) (path':List Bool),
   r=A8 ρ k0 fr nw W val H1 conds path'∧(∀ β us w,A9 β [AJ k 0 3 3] us→Ex.Good β H w→AQ conds→∃ args0 H0,Ah Tryz.prog 100 args0 H0 k0 W val H1∧C6 k0 nw W val H1=true∧A9 (A4 β ρ k0) args0 us∧Ex.Good (A4 β ρ k0) H0 w∧(∀ k,k<k0→∃ X,β (nth ρ k)=some X)):=by
 unfold d9 at hs
 split at hs
 case h_2=>cases hs
 rename_i k1 o1 n1 x1 k2 o2 n2 x2 a1 a2
 injection hs with hs
 obtain ⟨s1,ty1,cs1,p1,g1,t1⟩:=Hl a1
 obtain ⟨s2,ty2,cs2,p2,g2,t2⟩:=Hl a2
 refine ⟨[k,k1,k2],3,4,[],_,_,_,path,hs.symm,fun β us w ha hg hc=>?_⟩
 obtain ⟨b1,b2,hS,_⟩:=hc
 obtain ⟨u1,us1,r1,ha,rfl⟩:=ha
 obtain ⟨l,hl,hv⟩:=WO hg hk rfl
 obtain ⟨v1,l1,d1,f1,rfl⟩:=hl
 obtain ⟨v2,l2,d2,f2,rfl⟩:=f1
 obtain ⟨v3,l3,d3,f3,rfl⟩:=f2
 obtain ⟨m1,d2⟩:=Hj s1 d2
 obtain ⟨m2,d3⟩:=Hj s2 d3
 refine ⟨[AJ 0 0 3 3],dY o1 n1 m1 o2 n2 m2 x1 x2,ARY (Nat.le_of_ble_eq_true b1) (Nat.le_of_ble_eq_true b2) (Nat.le_of_ble_eq_true hS),rfl,⟨u1,_,Bl (by omega) rfl r1,ha,rfl⟩,PG (bs:=[Ad [.v (.slice none 0 0),.sl 1 o1 n1 m1,.sl 2 o2 n2 m2],Ad [.seq .u8 x1],Ad [.seq .u8 x2]]) hg fun j d hj=>?_,fun j hj=>?_⟩
 ·match j,hj with
  | 0,hj=>injection hj with hj;subst hj;exact ⟨rfl,hv _ _ _ (HO (by show 0<3;decide)) ⟨_,_,d1,⟨_,_,Hk (by show 1<3;decide) rfl d2,⟨_,_,Hk (by show 2<3;decide) rfl d3,f3,rfl⟩,rfl⟩,rfl⟩⟩
  | 1,hj=>injection hj with hj;subst hj;exact ⟨rfl,FL hg g1 t1 (by show 1<3;decide) rfl⟩
  | 2,hj=>injection hj with hj;subst hj;exact ⟨rfl,FL hg g2 t2 (by show 2<3;decide) rfl⟩
 ·match j,hj with
  | 0,_=>exact Bu (hg.heap _ _ hk)
  | 1,_=>exact Bu (hg.heap _ _ g1)
  | 2,_=>exact Bu (hg.heap _ _ g2)
theorem ARd:A7 Tryz.prog 100 ccSp:=by
 refine CG Tryz.func100 (by kernel_rfl) (by kernel_rfl) fun args H fr path r hs=>?_
 unfold ccSp at hs
 split at hs
 case h_2=>cases hs
 rename_i k n m
 split at hs
 case h_2=>cases hs
 rename_i ty cs o hk hm
 obtain rfl:=Ao.1 hm
 split at hs
 ·split at hs
  case h_2=>cases hs
  rename_i hn
  obtain rfl:=Ao.1 hn
  exact ARZ hk hs
 ·split at hs
  ·rename_i hn
   obtain rfl:=Ao.1 hn
   exact ARc hk hs
  ·rename_i hn _
   obtain rfl:=Ao.1 hn
   exact ARa hk hs
  ·cases hs
 ·split at hs
  case h_2=>cases hs
  rename_i hn
  obtain rfl:=Ao.1 hn
  exact ARb hk hs
 ·cases hs
noncomputable def SSr:List (FuncId×ASpec):=(100,ccSp)::SSp
theorem yQ:AU Tryz.prog SSr:=⟨ARd,yL⟩
noncomputable abbrev oSr:Orc:=AI SSr KV
theorem ARe:OrcOk Tryz.prog oSr:=AK yQ BT
def FM (f:Nat→Int) (x:Int):Nat→Int:=fun i=>bits .xor .u8 (f i) x
def NI (x:Int):AV:=.val false [.v (.int .u8 x)]
theorem yS {β:Env} {k:IntKind}:∀ {xs:List Int},(∀ x∈xs,has k x)→AM β (xs.map fun x=>Ch.v (.int k x)) (xs.map (.int k))
 | [],_=>rfl
 | x::_,h=>⟨[_],_,⟨rfl,rfl,h x (List.mem_cons_self ..)⟩,yS (fun y hy=>h y (List.mem_cons_of_mem _ hy)),rfl⟩
def WP (f:Nat→Int):List Ch:=(Ap f).map fun x=>Ch.v (.int .u8 x)
noncomputable def mxE (f:Nat→Int) (x:Int):ASt:=Af Tryz.f229 [NI x,.val false [.p 0 0]] [(0,some (Ad (WP f)))] 1 []
noncomputable def Rz (f:Nat→Int) (x:Int):=AP Tryz.prog oSr Tryz.f229 1000 1 [1] (mxE f x)
theorem ARg (f:Nat→Int) (x:Int):Outr (Rz f x):=⟨by kernel_rfl⟩
theorem ARh (f:Nat→Int) (x:Int):G' (Rz f x)=AJ 1 0 64 64:=by kernel_rfl
theorem ARi (f:Nat→Int) (x:Int):Le (Rz f x)=[(1,some ⟨5,[.seq .u8 (Ap (FM f x))],false⟩)]:=by kernel_rfl
theorem ARj (f:Nat→Int) (x:Int):Ah Tryz.prog 229 [NI x,.val false [.p 0 0]] [(0,some (Ad (WP f)))] 1 [] (AJ 1 0 64 64) [(1,some ⟨5,[.seq .u8 (Ap (FM f x))],false⟩)]:=by
 refine Av (path:=[]) Tryz.func229 (by kernel_rfl) (by kernel_rfl) fun β0 w0 h0=>?_
 have:=xY (P:=Tryz.prog) (n:=Tryz.f229.ntmps) (β0:=β0) (w0:=w0) (W:=[]) ARe AE Tryz.func229 (ARg f x) (AL (by kernel_rfl)) h0
 refine dG this fun e w ho=>?_
 have ho:Ax β0 w0 [] (G' (Rz f x)) (Le (Rz f x)) e w:=ho
 rw [ARh,ARi] at ho
 exact ho
def mxSp:ASpec:=fun args H fr path=>match args with
 | [X,.val false [.p k 0]]=>match BH (some X),AG H k with
  | some (_,.u8,x),some ⟨_,cs,_⟩=>match As .u8 cs with
   | some xs=>some (A8 [k] 1 fr 1 [] (AJ 1 0 64 64) [(1,some ⟨5,[.seq .u8 (Ap (FM (fun i=>xs.getD i 0) x))],false⟩)] [(Nat.beq xs.length 64,true)] path)
   | none=>none
  | _,_=>none
 | _=>none
theorem ARk:A7 Tryz.prog 229 mxSp:=by
 refine CG Tryz.func229 (by kernel_rfl) (by kernel_rfl) fun args H fr path r hs=>?_
 unfold mxSp at hs
 split at hs
 case h_2=>cases hs
 rename_i X k
 split at hs
 case h_2=>cases hs
 rename_i c x ty cs o hX hk
 split at hs
 case h_2=>cases hs
 rename_i xs hxs
 injection hs with hs
 refine ⟨[k],1,1,[],_,_,_,path,hs.symm,fun β us w ha hg hc=>?_⟩
 obtain ⟨u1,us1,r1,⟨u2,us2,r2,ha,rfl⟩,rfl⟩:=ha
 have e:xs=Ap fun i=>xs.getD i 0:=O7 (Ao.1 hc.1)
 refine ⟨[NI x,.val false [.p 0 0]],[(0,some (Ad (WP fun i=>xs.getD i 0)))],ARj _ _,rfl,⟨u1,_,(G9 hX r1).2 _,⟨u2,_,xB (by omega) rfl r2,ha,rfl⟩,rfl⟩,QI hg hk fun l hl=>?_,fun j hj=>?_⟩
 ·obtain ⟨q1,q2⟩:=CJ hxs hl
  have:=yS (β:=A4 β [k] 1) q2
  rw [← q1] at this
  unfold WP
  rw [← e]
  exact this
 ·match j,hj with
  | 0,_=>exact Bu (hg.heap _ _ hk)
noncomputable def SSs0:List (FuncId×ASpec):=(229,mxSp)::SSr
theorem yT:AU Tryz.prog SSs0:=⟨ARk,yQ⟩
noncomputable abbrev oSs0:Orc:=AI SSs0 KV
theorem ARl:OrcOk Tryz.prog oSs0:=AK yT BT
noncomputable def SSs:List (FuncId×ASpec):=(230,DG Tryz.prog oSs0 Tryz.f230 200)::SSs0
theorem yU:AU Tryz.prog SSs:=⟨Dd ARl AE Tryz.func230 (by kernel_rfl) (by kernel_rfl) 200,yT⟩
noncomputable abbrev oSs:Orc:=AI SSs KV
theorem WQ:OrcOk Tryz.prog oSs:=AK yU BT
theorem yV {P:Program} {f:FuncId} {β0:Env} {w0:World} {R:Ending→World→Prop} {n:Fz} {W:List Nat} {x y:ASt} {k:Nat} {ty:TypeId} {cs cs':List Ch} {o:Bool} {keep ks:List Nat} {fr:Nat} (hk:AG x.s.H k=some ⟨ty,cs,o⟩) (h:∀ β l,AM β cs l→AM β cs' l)
  (hf:KL keep ks fr [] ⟨x.s.T,D2 k cs' x.s.H,x.s.fr,x.s.path⟩=some y.s) (ht:x.todo=y.todo) (hβ0:∀ b,fr≤b→β0 b=none) (hs:ASafe P f β0 w0 R n W y):ASafe P f β0 w0 R n W x:=by
 refine NC hk h (i7 hf hβ0 ?_)
 rw [ht]
 exact hs
def kF (k:List Int):Nat→Int:=fun i=>k.getD i 0
def HB (k:List Int):List Int:=if 64<k.length then B4 k else k
def R0 (f:Nat→Int) (b:List Int):List Int:=B4 (Ap (FM f 92)++B4 (Ap (FM f 54)++b))
def B_ (k b:List Int):List Int:=R0 (kF (HB k)) b
noncomputable abbrev macF:Func:=Tryz.f164
section
variable (o1 n1 m1 o2 n2 m2:Nat) (x1 x2:List Int)
noncomputable def WR (p:List Bool):ASt:=Af macF [AJ 0 o1 n1 m1,AJ 1 o2 n2 m2] [(0,some (Ad [.seq .u8 x1])),(1,some (Ad [.seq .u8 x2]))] 2 p
noncomputable def Hm:ASt:=EX (C7 Tryz.prog oSs 10 2 (WR o1 n1 m1 o2 n2 m2 x1 x2 [false]))
noncomputable def eB:ASt:=⟨(Hm o1 n1 m1 o2 n2 m2 x1 x2).todo,⟨(Hm o1 n1 m1 o2 n2 m2 x1 x2).s.T,D2 3 [.seq .u8 (List.replicate 64 0)] (Hm o1 n1 m1 o2 n2 m2 x1 x2).s.H,4,[]⟩⟩
noncomputable def Jx:ASt:=EX (C7 Tryz.prog oSs 1 2 (eB o1 n1 m1 o2 n2 m2 x1 x2))
noncomputable def Jy:ASt:=EX (C7 Tryz.prog oSs 13 2 (WR o1 n1 m1 o2 n2 m2 x1 x2 [true]))
noncomputable def ARm:List Item:=(Jx 0 0 0 0 0 0 [] []).todo
noncomputable def PH (f:Nat→Int):ASt:=⟨ARm,⟨Cs macF.ntmps [(1,AJ 1 o2 n2 m2),(4,.val false [.p 2 0]),(5,.val false [.p 3 0])],[(1,some (Ad [.seq .u8 x2])),(2,some ⟨122,List.replicate 32 (.n .u8 0),false⟩),(3,some ⟨176,[.seq .u8 (Ap f)],false⟩)],4,[]⟩⟩
theorem ARn:C7 Tryz.prog oSs 10 2 (WR o1 n1 m1 o2 n2 m2 x1 x2 [false])=some ((AH .i64 n1,true)::(decide ((64:Int)<n1),false)::[],[],Hm o1 n1 m1 o2 n2 m2 x1 x2):=by kernel_rfl
theorem ARo:AG (Hm o1 n1 m1 o2 n2 m2 x1 x2).s.H 3=some ⟨176,List.replicate 64 (.n .u8 0),false⟩:=by kernel_rfl
theorem ARp:(⟨(Hm o1 n1 m1 o2 n2 m2 x1 x2).todo,⟨(Hm o1 n1 m1 o2 n2 m2 x1 x2).s.T,D2 3 [.seq .u8 (List.replicate 64 0)] (Hm o1 n1 m1 o2 n2 m2 x1 x2).s.H,(Hm o1 n1 m1 o2 n2 m2 x1 x2).s.fr,(Hm o1 n1 m1 o2 n2 m2 x1 x2).s.path⟩⟩:ASt)=eB o1 n1 m1 o2 n2 m2 x1 x2:=by kernel_rfl
def WS:List Int:=(List.replicate 64 0).take 0++((x1.drop o1).take (Nat.min n1 (64-0))++(List.replicate 64 0).drop (0+0*1+Nat.min n1 (64-0)*1))
theorem ARq:C7 Tryz.prog oSs 1 2 (eB o1 n1 m1 o2 n2 m2 x1 x2)=some ((Nat.ble (o1+Nat.min n1 (64-0)) x1.length,true)::(Nat.ble (0+0*1+Nat.min n1 (64-0)*1) (List.replicate 64 (0:Int)).length,true)::[],[],Jx o1 n1 m1 o2 n2 m2 x1 x2):=by kernel_rfl
theorem ARr:AG (Jx o1 n1 m1 o2 n2 m2 x1 x2).s.H 3=some ⟨176,[.seq .u8 (WS o1 n1 x1)],false⟩:=by kernel_rfl
theorem ARs (f:Nat→Int):KL [1,4,5] [1,2,3] 4 [] ⟨(Jx o1 n1 m1 o2 n2 m2 x1 x2).s.T,D2 3 [.seq .u8 (Ap f)] (Jx o1 n1 m1 o2 n2 m2 x1 x2).s.H,(Jx o1 n1 m1 o2 n2 m2 x1 x2).s.fr,(Jx o1 n1 m1 o2 n2 m2 x1 x2).s.path⟩=some (PH o2 n2 m2 x2 f).s:=by kernel_rfl
theorem ARt (f:Nat→Int):(Jx o1 n1 m1 o2 n2 m2 x1 x2).todo=(PH o2 n2 m2 x2 f).todo:=by kernel_rfl
theorem ARu:C7 Tryz.prog oSs 13 2 (WR o1 n1 m1 o2 n2 m2 x1 x2 [true])=some ((AH .i64 n1,true)::(decide ((64:Int)<n1),true)::(Nat.ble (o1+n1) x1.length,true)::(Nat.ble n1 35184372088832,true)::(true,true)::[],[],Jy o1 n1 m1 o2 n2 m2 x1 x2):=by kernel_rfl
noncomputable def yW:List Ch:=match AG (Jy o1 n1 m1 o2 n2 m2 x1 x2).s.H 3 with | some b=>b.cs | none=>[]
theorem ARv:AG (Jy o1 n1 m1 o2 n2 m2 x1 x2).s.H 3=some ⟨176,yW o1 n1 m1 o2 n2 m2 x1 x2,false⟩:=by kernel_rfl
theorem ARw:As .u8 (yW o1 n1 m1 o2 n2 m2 x1 x2)=some (Ap (kF (B4 (AA x1 o1 n1)))):=by kernel_rfl
theorem ARx (f:Nat→Int):KL [1,4,5] [1,2,3] 4 [] ⟨(Jy o1 n1 m1 o2 n2 m2 x1 x2).s.T,D2 3 [.seq .u8 (Ap f)] (Jy o1 n1 m1 o2 n2 m2 x1 x2).s.H,(Jy o1 n1 m1 o2 n2 m2 x1 x2).s.fr,(Jy o1 n1 m1 o2 n2 m2 x1 x2).s.path⟩=some (PH o2 n2 m2 x2 f).s:=by kernel_rfl
theorem ARy (f:Nat→Int):(Jy o1 n1 m1 o2 n2 m2 x1 x2).todo=(PH o2 n2 m2 x2 f).todo:=by kernel_rfl
def WT (f:Nat→Int):List Int:=AA (Ap (FM (fun i=>(Ap f).getD i 0) 54)) 0 64++AA x2 o2 n2
def eD (f:Nat→Int):List Int:=B4 (AA (AA (Ap (FM (fun i=>(Ap f).getD i 0) 92)) 0 64++AA (B4 (AA (WT o2 n2 x2 f) 0 (64+n2))) 0 32) 0 (64+32))
theorem ARz (f:Nat→Int):AP Tryz.prog oSs macF 400 2 [] (PH o2 n2 m2 x2 f)=some (tt 2 ((Nat.ble (o2+n2) x2.length,true)::(Nat.ble (64+n2) 35184372088832,true)::(Nat.ble (0+(64+n2)) (WT o2 n2 x2 f).length,true)::(Nat.ble (64+n2) 35184372088832,true)::tt 6 []),[],.val true [.seq .u8 (eD o2 n2 x2 f)],[]):=by kernel_rfl
end
theorem C5 {l:List Int} {n:Nat} (h:l.length=n):AA l 0 n=l:=by unfold AA;rw [List.drop_zero];exact Cu h
theorem IR (f:Nat→Int):(Ap f).length=64:=rfl
theorem yX (f:Nat→Int) (x:Int):Ap (FM (fun i=>(Ap f).getD i 0) x)=Ap (FM f x):=by
 refine List.map_congr_left fun i hi=>?_
 have h:=ND f (List.mem_range.1 hi)
 unfold gI at h
 rw [show 0+(i:Int).toNat*1=i by omega] at h
 exact congrArg (fun z=>bits .xor .u8 z x) h
theorem yY (o2 n2:Nat) (x2:List Int) (f:Nat→Int):WT o2 n2 x2 f=Ap (FM f 54)++AA x2 o2 n2:=by
 unfold WT
 rw [C5 (IR _),yX]
theorem AR0 {o2 n2:Nat} {x2:List Int} (h:o2+n2≤x2.length) (f:Nat→Int):eD o2 n2 x2 f=R0 f (AA x2 o2 n2):=by
 unfold eD R0
 rw [yY,C5 (IR _),yX,C5 (FK _),C5 (Cn (IR _) (BP h)),C5 (Cn (IR _) (FK _))]
theorem yZ {o2 n2 m2:Nat} {x2:List Int} (h2:o2+n2≤x2.length) (hn:n2≤17592186044416) (f:Nat→Int) {β0:Env} {w0:World} (hb:∀ b,2≤b→β0 b=none) :
  ASafe Tryz.prog 164 β0 w0 (Ax β0 w0 [] (.val true [.seq .u8 (R0 f (AA x2 o2 n2))]) []) macF.ntmps [] (PH o2 n2 m2 x2 f):=by
 have:=Aq (P:=Tryz.prog) (n:=macF.ntmps) (β0:=β0) (w0:=w0) (W:=[]) WQ AE Tryz.func164 (ARz o2 n2 m2 x2 f) (Aj 2 ⟨Nat.ble_eq_true_of_le h2,Nat.ble_eq_true_of_le (by omega),Nat.ble_eq_true_of_le (by rw [yY,Cn (IR _) (BP h2)];omega),Nat.ble_eq_true_of_le (by omega),Aj 6 trivial⟩) (AL (by kernel_rfl)) hb (fun _ h=>by cases h)
 rw [AR0 h2] at this
 exact this
theorem AR1 {o1 n1:Nat} {x1:List Int} (h1:o1+n1≤x1.length) (hn:n1≤64):WS o1 n1 x1=Ap (kF (AA x1 o1 n1)):=by
 have e:WS o1 n1 x1=AA x1 o1 n1++List.replicate (64-n1) 0:=by
  unfold WS
  rw [Nat.sub_zero,show Nat.min n1 64=n1 from Nat.min_eq_left hn,List.take_zero,List.nil_append,List.drop_replicate,show 64-(0+0*1+n1*1)=64-n1 by omega]
  rfl
 have hl:(AA x1 o1 n1++List.replicate (64-n1) (0:Int)).length=64:=by rw [List.length_append,BP h1,List.length_replicate];omega
 rw [e,O7 hl]
 refine List.map_congr_left fun i _=>?_
 unfold kF
 rw [List.getD_eq_getElem?_getD,List.getD_eq_getElem?_getD]
 by_cases q:i<n1
 ·rw [List.getElem?_append_left (by rw [BP h1];exact q)]
 ·rw [List.getElem?_append_right (by rw [BP h1];omega),List.getElem?_eq_none (l:=AA x1 o1 n1) (by rw [BP h1];omega),List.getElem?_replicate]
  split<;>rfl
theorem AR2 {k:IntKind} {xs ys:List Int} (e:xs=ys) (β:Env) (l:List Value) (h:AM β [.seq k xs] l):AM β [.seq k ys] l:=e▸h
theorem AR3 {o1 n1 m1 o2 n2 m2:Nat} {x1 x2:List Int} (h1:o1+n1≤x1.length) (h2:o2+n2≤x2.length) (hn1:n1≤64) (hn:n2≤17592186044416) {β0:Env} {w0:World} (hb:∀ b,2≤b→β0 b=none) :
  ASafe Tryz.prog 164 β0 w0 (Ax β0 w0 [] (.val true [.seq .u8 (B_ (AA x1 o1 n1) (AA x2 o2 n2))]) []) macF.ntmps [] (Jx o1 n1 m1 o2 n2 m2 x1 x2):=by
 have:=yZ (m2:=m2) h2 hn (kF (AA x1 o1 n1)) (w0:=w0) hb
 unfold B_ HB
 rw [BP h1,if_neg (by omega)]
 exact yV (ARr ..) (AR2 (AR1 h1 hn1)) (ARs o1 n1 m1 o2 n2 m2 x1 x2 _) (ARt ..) (fun b h=>hb b (by omega)) this
theorem AR4 {o1 n1 m1 o2 n2 m2:Nat} {x1 x2:List Int} (h1:o1+n1≤x1.length) (h2:o2+n2≤x2.length) (hn1:64<n1) (hn:n2≤17592186044416) {β0:Env} {w0:World} (hb:∀ b,2≤b→β0 b=none) :
  ASafe Tryz.prog 164 β0 w0 (Ax β0 w0 [] (.val true [.seq .u8 (B_ (AA x1 o1 n1) (AA x2 o2 n2))]) []) macF.ntmps [] (Jy o1 n1 m1 o2 n2 m2 x1 x2):=by
 have:=yZ (m2:=m2) h2 hn (kF (B4 (AA x1 o1 n1))) (w0:=w0) hb
 unfold B_ HB
 rw [BP h1,if_pos hn1]
 exact yV (ARv ..) (O4 (ARw ..)) (ARx o1 n1 m1 o2 n2 m2 x1 x2 _) (ARy ..) (fun b h=>hb b (by omega)) this
theorem AR5 {o1 n1 m1 o2 n2 m2:Nat} {x1 x2:List Int} (h1:o1+n1≤x1.length) (h2:o2+n2≤x2.length) (hn1:n1≤64) (hn:n2≤17592186044416) {β0:Env} {w0:World} (hb:∀ b,2≤b→β0 b=none) :
  ASafe Tryz.prog 164 β0 w0 (Ax β0 w0 [] (.val true [.seq .u8 (B_ (AA x1 o1 n1) (AA x2 o2 n2))]) []) macF.ntmps [] (Hm o1 n1 m1 o2 n2 m2 x1 x2):=by
 refine NC (ARo ..) (O4 (k:=.u8) (xs:=List.replicate 64 0) (by kernel_rfl)) ?_
 rw [ARp]
 refine H3 WQ AE (ARq ..) ⟨Nat.ble_eq_true_of_le ?_,Nat.ble_eq_true_of_le ?_,trivial⟩ (AL (by kernel_rfl)) hb (fun _ h=>by cases h) fun _=>AR3 h1 h2 hn1 hn hb
 ·rw [Nat.sub_zero,show Nat.min n1 64=n1 from Nat.min_eq_left hn1];exact h1
 ·rw [Nat.sub_zero,show Nat.min n1 64=n1 from Nat.min_eq_left hn1,List.length_replicate];omega
theorem AR6 {o1 n1 m1 o2 n2 m2:Nat} {x1 x2:List Int} (h1:o1+n1≤x1.length) (h2:o2+n2≤x2.length) (hn1:n1≤17592186044416) (hn:n2≤17592186044416) :
  Ah Tryz.prog 164 [AJ 0 o1 n1 m1,AJ 1 o2 n2 m2] [(0,some (Ad [.seq .u8 x1])),(1,some (Ad [.seq .u8 x2]))] 2 [] (.val true [.seq .u8 (B_ (AA x1 o1 n1) (AA x2 o2 n2))]) []:=by
 have hh:AH .i64 n1=true:=Cf (by omega)
 rcases Nat.lt_or_ge 64 n1 with q | q
 ·exact Av (path:=[true]) Tryz.func164 (by kernel_rfl) (by kernel_rfl) fun β0 w0 hb=>H3 WQ AE (ARu ..) ⟨hh,decide_eq_true (by omega),Nat.ble_eq_true_of_le h1,Nat.ble_eq_true_of_le (by omega),rfl,trivial⟩ (AL (by kernel_rfl)) hb (fun _ h=>by cases h) fun _=>AR4 h1 h2 q hn hb
 ·exact Av (path:=[false]) Tryz.func164 (by kernel_rfl) (by kernel_rfl) fun β0 w0 hb=>H3 WQ AE (ARn ..) ⟨hh,decide_eq_false (by omega),trivial⟩ (AL (by kernel_rfl)) hb (fun _ h=>by cases h) fun _=>AR5 h1 h2 q hn hb
def WU (g:List Int→List Int→AV) (B:Nat):ASpec:=fun args H fr path=>match args with
 | [S,T]=>match Bw S,Bw T with
  | some (k,o,n),some (l,p,m)=>match AG H k,AG H l with
   | some ⟨_,cs,_⟩,some ⟨_,ds,_⟩=>match As .u8 cs,As .u8 ds with
    | some xs,some ys=>some (A8 [k,l] 2 fr 0 [] (g (AA xs o n) (AA ys p m)) [] [(Nat.ble (o+n) xs.length,true),(Nat.ble (p+m) ys.length,true),(Nat.ble n B,true),(Nat.ble m B,true)] path)
    | _,_=>none
   | _,_=>none
  | _,_=>none
 | _=>none
theorem y8 {F:FuncId} {fn:Func} {g:List Int→List Int→AV} {B:Nat} (hfn:Tryz.prog.funcs[F]? = some fn) (hb:fn.body.isSome=true) (hname:(fn.name=="runtime.NumGoroutine")=false) (hk:∀ a b,C6 2 0 [] (g a b) []=true)
  (h:∀ {o1 n1 m1 o2 n2 m2:Nat} {x1 x2:List Int},(∀ d∈x1,0≤d∧d<256)→(∀ d∈x2,0≤d∧d<256)→o1+n1≤x1.length→o2+n2≤x2.length→n1≤B→n2≤B→Ah Tryz.prog F [AJ 0 o1 n1 m1,AJ 1 o2 n2 m2] [(0,some (Ad [.seq .u8 x1])),(1,some (Ad [.seq .u8 x2]))] 2 [] (g (AA x1 o1 n1) (AA x2 o2 n2)) []):A7 Tryz.prog F (WU g B):=by
 refine CG hfn hb hname fun args H fr path r hs=>?_
 unfold WU at hs
 split at hs
 case h_2=>cases hs
 rename_i S T
 split at hs
 case h_2=>cases hs
 rename_i k o n l p m hS hT
 split at hs
 case h_2=>cases hs
 rename_i ty cs op ty' ds op' hk' hl'
 split at hs
 case h_2=>cases hs
 rename_i xs ys hx hy
 injection hs with hs
 refine ⟨[k,l],2,0,[],_,_,_,path,hs.symm,fun β us w ha hg hc=>?_⟩
 obtain ⟨c1,c2,c3,c4,_⟩:=hc
 obtain ⟨u1,us1,r1,⟨u2,us2,r2,ha,rfl⟩,rfl⟩:=ha
 obtain ⟨m1,r1⟩:=C3 hS r1
 obtain ⟨m2,r2⟩:=C3 hT r2
 obtain ⟨g1,_,_⟩:=C0 hg hk' hx
 obtain ⟨g2,_,_⟩:=C0 hg hl' hy
 refine ⟨[AJ 0 o n m1,AJ 1 p m m2],[(0,some (Ad [.seq .u8 xs])),(1,some (Ad [.seq .u8 ys]))],h g1 g2 (Nat.le_of_ble_eq_true c1) (Nat.le_of_ble_eq_true c2) (Nat.le_of_ble_eq_true c3) (Nat.le_of_ble_eq_true c4),hk _ _,⟨u1,_,Bl (by omega) rfl r1,⟨u2,_,Bl (by omega) rfl r2,ha,rfl⟩,rfl⟩,PG (bs:=[Ad [.seq .u8 xs],Ad [.seq .u8 ys]]) hg fun j d hj=>?_,fun j hj=>?_⟩
 ·match j,hj with
  | 0,hj=>injection hj with hj;subst hj;exact ⟨rfl,FL hg hk' hx (by show 0<2;decide) rfl⟩
  | 1,hj=>injection hj with hj;subst hj;exact ⟨rfl,FL hg hl' hy (by show 1<2;decide) rfl⟩
 ·match j,hj with
  | 0,_=>exact Bu (hg.heap _ _ hk')
  | 1,_=>exact Bu (hg.heap _ _ hl')
def y9 (a b:List Int):AV:=.val true [.seq .u8 (B_ a b)]
noncomputable def SSt0:List (FuncId×ASpec):=(164,WU y9 17592186044416)::SSs
theorem zA:AU Tryz.prog SSt0:=⟨y8 Tryz.func164 (by kernel_rfl) (by kernel_rfl) (fun _ _=>rfl) fun _ _=>AR6,yU⟩
noncomputable abbrev oSt0:Orc:=AI SSt0 KV
theorem AR7:OrcOk Tryz.prog oSt0:=AK zA BT
noncomputable def SSt:List (FuncId×ASpec):=(99,DG Tryz.prog oSt0 Tryz.f99 100)::SSt0
theorem zB:AU Tryz.prog SSt:=⟨Dd AR7 AE Tryz.func99 (by kernel_rfl) (by kernel_rfl) 100,zA⟩
noncomputable abbrev oSt:Orc:=AI SSt KV
theorem AR8:OrcOk Tryz.prog oSt:=AK zB BT
noncomputable abbrev exF:Func:=Tryz.f101
section
variable (o1 n1 m1 o2 n2 m2:Nat) (x1 x2:List Int)
noncomputable def exE (p:List Bool):ASt:=Af exF [AJ 0 o1 n1 m1,AJ 1 o2 n2 m2,.val false [.n .i64 48]] [(0,some (Ad [.seq .u8 x1])),(1,some (Ad [.seq .u8 x2]))] 2 p
def PI:List Int:=AA x2 o2 n2++AA [1] 0 1
def WV:List Int:=B_ (AA x1 o1 n1) (AA (PI o2 n2 x2) 0 (n2+1))
def PJ:List Int:=AA (WV o1 n1 o2 n2 x1 x2) (0+0*1) (32-0)++AA x2 o2 n2++AA [2] 0 1
def eF:List Int:=B_ (AA x1 o1 n1) (AA (PJ o1 n1 o2 n2 x1 x2) 0 (32-0+n2+1))
def eG:List Int:=List.append (List.take (0+(32-0)) (List.append [] (List.take (32-0) (List.drop (0+0*1) (WV o1 n1 o2 n2 x1 x2))))) (List.take (32-0) (List.drop (0+0*1) (eF o1 n1 o2 n2 x1 x2)))
theorem AR_:AP Tryz.prog oSt exF 400 2 [17] (exE o1 n1 m1 o2 n2 m2 x1 x2 [true,true,false])=some (tt 2 ((Nat.ble (o2+n2) x2.length,true)::(true,true)::(Nat.ble (n2+1) 35184372088832,true)::(Nat.ble (o1+n1) x1.length,true)::(Nat.ble (0+(n2+1)) (PI o2 n2 x2).length,true)::(Nat.ble n1 17592186044416,true)::(Nat.ble (n2+1) 17592186044416,true)::tt 5 ((Nat.ble (o2+n2) x2.length,true)::(true,true)::(Nat.ble (32-0+n2+1) 35184372088832,true)::(Nat.ble (o1+n1) x1.length,true)::(Nat.ble (0+(32-0+n2+1)) (PJ o1 n1 o2 n2 x1 x2).length,true)::(Nat.ble n1 17592186044416,true)::(Nat.ble (32-0+n2+1) 17592186044416,true)::tt 4 ((false,false)::(true,true)::[]))),[],.tup [(false,[.sx 17 48 1]),(false,[.n .i64 0])],[(17,some ⟨5,[.seq .u8 (eG o1 n1 o2 n2 x1 x2)],true⟩)]):=by kernel_rfl
end
def F1 (k i:List Int):List Int:=B_ k (i++[1])++B_ k (B_ k (i++[1])++i++[2])
theorem Ev (a b:List Int):(B_ a b).length=32:=rfl
theorem AR' (k i:List Int):(F1 k i).length=64:=by unfold F1;rw [List.length_append,Ev,Ev]
theorem ASA {o1 n1 o2 n2:Nat} {x1 x2:List Int} (h2:o2+n2≤x2.length):eG o1 n1 o2 n2 x1 x2=F1 (AA x1 o1 n1) (AA x2 o2 n2)∧(PI o2 n2 x2).length=n2+1∧(PJ o1 n1 o2 n2 x1 x2).length=32+n2+1:=by
 have w:AA [(1:Int)] 0 1=[1]:=rfl
 have w':AA [(2:Int)] 0 1=[2]:=rfl
 have l1:(PI o2 n2 x2).length=n2+1:=by unfold PI;rw [w];exact Cn (BP h2) rfl
 have t1:WV o1 n1 o2 n2 x1 x2=B_ (AA x1 o1 n1) (AA x2 o2 n2++[1]):=by unfold WV;rw [C5 l1];unfold PI;rw [w]
 have b2:PJ o1 n1 o2 n2 x1 x2=B_ (AA x1 o1 n1) (AA x2 o2 n2++[1])++AA x2 o2 n2++[2]:=by
  unfold PJ
  rw [w',t1,show 0+0*1=0 from rfl,show 32-0=32 from rfl,C5 (Ev _ _)]
 have l2:(PJ o1 n1 o2 n2 x1 x2).length=32+n2+1:=by rw [b2];exact Cn (Cn (Ev _ _) (BP h2)) rfl
 have t2:eF o1 n1 o2 n2 x1 x2=B_ (AA x1 o1 n1) (B_ (AA x1 o1 n1) (AA x2 o2 n2++[1])++AA x2 o2 n2++[2]):=by unfold eF;rw [show 32-0+n2+1=32+n2+1 from rfl,C5 l2,b2]
 refine ⟨?_,l1,l2⟩
 unfold eG F1
 rw [t1,t2]
 generalize ha:B_ (AA x1 o1 n1) (AA x2 o2 n2++[1])=a
 have la:a.length=32:=by rw [← ha];exact Ev _ _
 generalize hb:B_ (AA x1 o1 n1) (a++AA x2 o2 n2++[2])=b
 have lb:b.length=32:=by rw [← hb];exact Ev _ _
 show List.take (0+(32-0)) ([]++List.take (32-0) (List.drop (0+0*1) a))++List.take (32-0) (List.drop (0+0*1) b)=a++b
 rw [show 0+0*1=0 from rfl,show 32-0=32 from rfl,List.drop_zero,List.drop_zero,List.nil_append,Cu la,Cu lb,Cu (by omega)]
def exO (ys:List Int):Heap:=[(17,some ⟨5,[.seq .u8 ys],true⟩)]
theorem ASC {o1 n1 m1 o2 n2 m2:Nat} {x1 x2:List Int} (h1:o1+n1≤x1.length) (h2:o2+n2≤x2.length) (hn1:n1≤8796093022208) (hn:n2≤8796093022208) :
  Ah Tryz.prog 101 [AJ 0 o1 n1 m1,AJ 1 o2 n2 m2,.val false [.n .i64 48]] [(0,some (Ad [.seq .u8 x1])),(1,some (Ad [.seq .u8 x2]))] 2 [] (.tup [(false,[.sx 17 48 1]),(false,[.n .i64 0])]) (exO (F1 (AA x1 o1 n1) (AA x2 o2 n2))):=by
 obtain ⟨e,l1,l2⟩:=ASA (o1:=o1) (n1:=n1) (x1:=x1) h2
 refine Av (path:=[true,true,false]) Tryz.func101 (by kernel_rfl) (by kernel_rfl) fun β0 w0 hb=>?_
 have:=Aq (P:=Tryz.prog) (n:=exF.ntmps) (β0:=β0) (w0:=w0) (W:=[]) AR8 AE Tryz.func101 (AR_ o1 n1 m1 o2 n2 m2 x1 x2) (Aj 2 ⟨Nat.ble_eq_true_of_le h2,rfl,Nat.ble_eq_true_of_le (by omega),Nat.ble_eq_true_of_le h1,Nat.ble_eq_true_of_le (by rw [l1];omega),Nat.ble_eq_true_of_le (by omega),Nat.ble_eq_true_of_le (by omega),Aj 5 ⟨Nat.ble_eq_true_of_le h2,rfl,Nat.ble_eq_true_of_le (by omega),Nat.ble_eq_true_of_le h1,Nat.ble_eq_true_of_le (by rw [l2];omega),Nat.ble_eq_true_of_le (by omega),Nat.ble_eq_true_of_le (by omega),Aj 4 ⟨rfl,rfl,trivial⟩⟩⟩) (AL (by kernel_rfl)) hb (fun _ h=>by cases h)
 rw [e] at this
 exact this
theorem WW {β:Env} {H:Heap} {w:World} {S T:AV} {k o n l p m:Nat} {ty ty':TypeId} {cs ds:List Ch} {op op':Bool} {xs ys:List Int} {u1 u2:Value} (hg:Ex.Good β H w) (hS:Bw S=some (k,o,n)) (hT:Bw T=some (l,p,m)) (hk:AG H k=some ⟨ty,cs,op⟩) (hl:AG H l=some ⟨ty',ds,op'⟩) (hx:As .u8 cs=some xs) (hy:As .u8 ds=some ys) (r1:AO β S u1) (r2:AO β T u2) :
  ∃ m1 m2,AO (A4 β [k,l] 2) (AJ 0 o n m1) u1∧AO (A4 β [k,l] 2) (AJ 1 p m m2) u2∧(∀ d∈xs,0≤d∧d<256)∧(∀ d∈ys,0≤d∧d<256)∧Ex.Good (A4 β [k,l] 2) [(0,some (Ad [.seq .u8 xs])),(1,some (Ad [.seq .u8 ys]))] w∧(∀ j,j<2→∃ X,β (nth [k,l] j)=some X):=by
 obtain ⟨m1,r1⟩:=C3 hS r1
 obtain ⟨m2,r2⟩:=C3 hT r2
 obtain ⟨g1,_,_⟩:=C0 hg hk hx
 obtain ⟨g2,_,_⟩:=C0 hg hl hy
 refine ⟨m1,m2,Bl (by omega) rfl r1,Bl (by omega) rfl r2,g1,g2,PG (bs:=[Ad [.seq .u8 xs],Ad [.seq .u8 ys]]) hg fun j d hj=>?_,fun j hj=>?_⟩
 ·match j,hj with
  | 0,hj=>injection hj with hj;subst hj;exact ⟨rfl,FL hg hk hx (by show 0<2;decide) rfl⟩
  | 1,hj=>injection hj with hj;subst hj;exact ⟨rfl,FL hg hl hy (by show 1<2;decide) rfl⟩
 ·match j,hj with
  | 0,_=>exact Bu (hg.heap _ _ hk)
  | 1,_=>exact Bu (hg.heap _ _ hl)
def WX (K nw:Nat):ASpec:=fun args H fr path=>match args with
 | [S,T,.val false [.n .i64 48]]=>match Bw S,Bw T with
  | some (k,o,n),some (l,p,m)=>match AG H k,AG H l with
   | some ⟨_,cs,_⟩,some ⟨_,ds,_⟩=>match As .u8 cs,As .u8 ds with
    | some xs,some ys=>some (A8 [k,l] 2 fr nw [] (.tup [(false,[.sx K 48 1]),(false,[.n .i64 0])]) [(K,some ⟨5,[.seq .u8 (F1 (AA xs o n) (AA ys p m))],true⟩)] [(Nat.ble (o+n) xs.length,true),(Nat.ble (p+m) ys.length,true),(Nat.ble n 8796093022208,true),(Nat.ble m 8796093022208,true)] path)
    | _,_=>none
   | _,_=>none
  | _,_=>none
 | _=>none
theorem zC {F:FuncId} {fn:Func} {K nw:Nat} (hfn:Tryz.prog.funcs[F]? = some fn) (hb:fn.body.isSome=true) (hname:(fn.name=="runtime.NumGoroutine")=false) (hk:∀ L,C6 2 nw [] (.tup [(false,[.sx K 48 1]),(false,[.n .i64 0])]) [(K,some ⟨5,[.seq .u8 L],true⟩)]=true)
  (h:∀ {o1 n1 m1 o2 n2 m2:Nat} {x1 x2:List Int},o1+n1≤x1.length→o2+n2≤x2.length→n1≤8796093022208→n2≤8796093022208→Ah Tryz.prog F [AJ 0 o1 n1 m1,AJ 1 o2 n2 m2,.val false [.n .i64 48]] [(0,some (Ad [.seq .u8 x1])),(1,some (Ad [.seq .u8 x2]))] 2 [] (.tup [(false,[.sx K 48 1]),(false,[.n .i64 0])]) [(K,some ⟨5,[.seq .u8 (F1 (AA x1 o1 n1) (AA x2 o2 n2))],true⟩)]):A7 Tryz.prog F (WX K nw):=by
 refine CG hfn hb hname fun args H fr path r hs=>?_
 unfold WX at hs
 split at hs
 case h_2=>cases hs
 rename_i S T
 split at hs
 case h_2=>cases hs
 rename_i k o n l p m hS hT
 split at hs
 case h_2=>cases hs
 rename_i ty cs op ty' ds op' hk' hl'
 split at hs
 case h_2=>cases hs
 rename_i xs ys hx hy
 injection hs with hs
 refine ⟨[k,l],2,nw,[],_,_,_,path,hs.symm,fun β us w ha hg hc=>?_⟩
 obtain ⟨c1,c2,c3,c4,_⟩:=hc
 obtain ⟨u1,us1,r1,⟨u2,us2,r2,⟨u3,us3,r3,ha,rfl⟩,rfl⟩,rfl⟩:=ha
 obtain ⟨m1,m2,q1,q2,_,_,q5,q6⟩:=WW hg hS hT hk' hl' hx hy r1 r2
 exact ⟨_,_,h (Nat.le_of_ble_eq_true c1) (Nat.le_of_ble_eq_true c2) (Nat.le_of_ble_eq_true c3) (Nat.le_of_ble_eq_true c4),hk _,⟨u1,_,q1,⟨u2,_,q2,⟨u3,_,MC rfl r3,ha,rfl⟩,rfl⟩,rfl⟩,q5,q6⟩
noncomputable def SSu:List (FuncId×ASpec):=(101,WX 17 16)::SSt
theorem zD:AU Tryz.prog SSu:=⟨zC Tryz.func101 (by kernel_rfl) (by kernel_rfl) (fun _=>rfl) ASC,zB⟩
noncomputable abbrev oSu:Orc:=AI SSu KV
theorem NJ:OrcOk Tryz.prog oSu:=AK zD BT
noncomputable abbrev lessF:Func:=Tryz.f178
noncomputable def zE (off n m:Nat) (x:Int) (xs:List Int):ASt:=Af lessF [AJ 0 off n m,NI x] (Ak xs) 1 []
noncomputable def WY:List Item:=Bh (AR Tryz.prog oSu (some 0) 100 1 none (zE 0 0 0 0 []))
noncomputable def WZ (off n m:Nat) (x:Int) (s i:AV):List AV:=Cs lessF.ntmps [(0,AJ 0 off n m),(1,NI x),(5,s),(6,i)]
noncomputable def Wb (off n m:Nat) (x:Int) (xs ys:List Int) (L:Nat) (i:Int) (p:List Bool):ASt:=⟨WY,⟨WZ off n m x (.val false [.sx 1 L 1]) (iA i),Rx xs ys,2,p⟩⟩
theorem ASD (off n m:Nat) (x:Int) (xs:List Int):AR Tryz.prog oSu (some 0) 100 1 (some ([0,1,5,6],[0],1)) (zE off n m x xs)=some ([],[],⟨WY,⟨WZ off n m x Jw (.val false [.n .i64 0]),Ak xs,1,[]⟩⟩):=by kernel_rfl
theorem ASE (off n m:Nat) (x:Int) (xs:List Int):(⟨WY,⟨(Hz 1 1 [5] 0 (WZ off n m x Jw (.val false [.n .i64 0]))).map Dr,Ak xs++[(1,some ⟨5,[.seq .u8 []],true⟩)],1+1,[]⟩⟩:ASt)=Wb off n m x xs [] 0 0 []:=by kernel_rfl
theorem ASF (off n m:Nat) (x:Int) (xs ys:List Int) (L:Nat) (i:Int):AR Tryz.prog oSu (some 0) 100 1 (some ([0,1,5,6],[0,3],4)) (Wb off n m x xs ys L i [true]) =
 some ((AH .i64 n,true)::(decide (i<n),true)::(decide (0≤i∧i<n),true)::(decide (off+i.toNat*1<xs.length),true)::(Nat.ble L ys.length,true)::(CP (L+1),true)::[],[],⟨WY,⟨EQ (Bj 1 [3]) (WZ off n m x (.val false [.sx 1 (L+1) 1]) (iA (wI (i+1)))),Dp (Bj 1 [3]) (Rx xs (ys.take L++[bits .xor .u8 (xs.getD (off+i.toNat*1) 0) x])),4,[]⟩⟩):=by kernel_rfl
theorem ASG (off n m:Nat) (x:Int) (xs ys:List Int) (L:Nat) (i:Int):AP Tryz.prog oSu lessF 100 1 [1] (Wb off n m x xs ys L i [false])=some ((AH .i64 n,true)::(decide (i<n),false)::[],[],.val false [.sx 1 L 1],Dm ys):=by kernel_rfl
def NK (k:List Int) (x:Int):List Int:=(List.range k.length).map (FM (kF k) x)
theorem ASH {off n m:Nat} {x:Int} {xs:List Int} (hl:off+n≤xs.length) (hn:n≤35184372088832):Ah Tryz.prog 178 [AJ 0 off n m,NI x] (Ak xs) 1 [] (.val false [.sx 1 n 1]) (Dm (NK (AA xs off n) x)):=by
 refine Av (path:=[]) Tryz.func178 (by kernel_rfl) (by kernel_rfl) fun β0 w0 hb=>?_
 refine Ab NJ AE (ASD off n m x xs) trivial (AL (by kernel_rfl)) hb (fun _ h=>by cases h) fun _=>?_
 refine P7 (ts:=[5]) (sz:=1) (ty:=5) (kd:=.u8) rfl (hb 1 (Nat.le_refl _)) (Ds ?_)
 rw [ASE]
 have hh:AH .i64 n=true:=Cf hn
 have loop:∀ r i,i+r=n→ASafe Tryz.prog 178 β0 w0 (Ax β0 w0 [] (.val false [.sx 1 n 1]) (Dm (NK (AA xs off n) x))) lessF.ntmps [] (Wb off n m x xs ((List.range i).map (FM (kF (AA xs off n)) x)) i (i:Int) []):=by
  intro r
  induction r with
  | zero =>
   intro i hi
   obtain rfl:i=n:=by omega
   unfold NK
   rw [BP hl]
   exact AZ [false] (Aq NJ AE Tryz.func178 (ASG ..) ⟨hh,decide_eq_false (by omega),trivial⟩ (AL (by kernel_rfl)) hb (fun _ h=>by cases h))
  | succ r ih =>
   intro i hi
   refine AZ [true] (Ab NJ AE (ASF ..) ⟨hh,decide_eq_true (by omega),decide_eq_true ⟨by omega,by omega⟩,decide_eq_true (by omega),Nat.ble_eq_true_of_le (by simp),CZ (by omega),trivial⟩ (AL (by kernel_rfl)) hb (fun _ h=>by cases h) fun _=>?_)
   refine ER (m:=2) (by kernel_rfl) hb ?_
   have e:xs.getD (off+(i:Int).toNat*1) 0=kF (AA xs off n) i:=by
    rw [show off+(i:Int).toNat*1=off+i by omega]
    unfold kF AA
    rw [List.getD_eq_getElem?_getD,List.getD_eq_getElem?_getD,List.getElem?_take,if_pos (by omega),List.getElem?_drop]
   rw [e,Cu (by simp),Al (z:=(i:Int)+1) (by omega)]
   have:=ih (i+1) (by omega)
   rw [List.range_succ,List.map_append] at this
   exact this
 exact loop n 0 (by omega)
def lsSp:ASpec:=fun args H fr path=>match args with
 | [S,X]=>match Bw S,BH (some X) with
  | some (k,off,n),some (_,.u8,x)=>match AG H k with
   | some ⟨_,cs,_⟩=>match As .u8 cs with
    | some xs=>some (A8 [k] 1 fr 1 [] (.val false [.sx 1 n 1]) (Dm (NK (AA xs off n) x)) [(Nat.ble (off+n) xs.length,true),(Nat.ble n 35184372088832,true)] path)
    | none=>none
   | none=>none
  | _,_=>none
 | _=>none
theorem ASI:A7 Tryz.prog 178 lsSp:=by
 refine CG Tryz.func178 (by kernel_rfl) (by kernel_rfl) fun args H fr path r hs=>?_
 unfold lsSp at hs
 split at hs
 case h_2=>cases hs
 rename_i S X
 split at hs
 case h_2=>cases hs
 rename_i k off n c x hS hX
 split at hs
 case h_2=>cases hs
 rename_i ty cs o hk
 split at hs
 case h_2=>cases hs
 rename_i xs hxs
 injection hs with hs
 refine ⟨[k],1,1,[],_,_,_,path,hs.symm,fun β us w ha hg hc=>?_⟩
 obtain ⟨u1,us1,r1,⟨u2,us2,r2,ha,rfl⟩,rfl⟩:=ha
 obtain ⟨m,r1⟩:=C3 hS r1
 obtain ⟨g1,g2,g3⟩:=C0 hg hk hxs
 exact ⟨[AJ 0 off n m,NI x],Ak xs,ASH (Nat.le_of_ble_eq_true hc.1) (Nat.le_of_ble_eq_true hc.2.1),by kernel_rfl,⟨u1,_,Bl (by omega) rfl r1,⟨u2,_,(G9 hX r2).2 _,ha,rfl⟩,rfl⟩,g2,g3⟩
noncomputable abbrev blkF:Func:=Tryz.f177
noncomputable def eI (off n m:Nat) (xs:List Int) (p:List Bool):ASt:=Af blkF [AJ 0 off n m] (Ak xs) 1 p
noncomputable def Wd:List Item:=Bh (AR Tryz.prog oSu (some 0) 100 1 none (eI 0 0 0 [] [false]))
noncomputable def We (L:Nat):List AV:=Cs blkF.ntmps [(3,.val false [.sx 1 L 1])]
noncomputable def eJ (ys:List Int) (L:Nat) (p:List Bool):ASt:=⟨Wd,⟨We L,Dm ys,2,p⟩⟩
theorem ASJ (off n m:Nat) (xs:List Int):AR Tryz.prog oSu (some 0) 100 1 (some ([3],[2],3)) (eI off n m xs [false])=some ((true,true)::(Nat.ble (off+n) xs.length,true)::(CP (0+n),true)::(AH .i64 n,true)::(decide ((64:Int)<n),false)::[],[],⟨Wd,⟨EQ (Bj 1 [2]) (We (0+n)),Dp (Bj 1 [2]) (Dm (AA xs off n)),3,[]⟩⟩):=by kernel_rfl
def eK (off n:Nat) (xs:List Int):List Int:=(B4 (AA xs off n)).drop (0+0*1) |>.take (32-0)
theorem ASK (off n m:Nat) (xs:List Int):AR Tryz.prog oSu (some 0) 100 1 (some ([3],[5],6)) (eI off n m xs [true])=some ((true,true)::(Nat.ble (off+n) xs.length,true)::(CP (0+n),true)::(AH .i64 n,true)::(decide ((64:Int)<n),true)::(Nat.ble (off+n) xs.length,true)::(Nat.ble n 35184372088832,true)::tt 3 [],[],⟨Wd,⟨EQ (Bj 1 [5]) (We 32),Dp (Bj 1 [5]) (Dm (eK off n xs)),6,[]⟩⟩):=by kernel_rfl
theorem ASL (ys:List Int) (L:Nat):AR Tryz.prog oSu (some 0) 100 1 (some ([3],[3],4)) (eJ ys L [true])=some ((AH .i64 L,true)::(decide ((L:Int)<64),true)::(Nat.ble L ys.length,true)::(CP (L+1),true)::[],[],⟨Wd,⟨EQ (Bj 1 [3]) (We (L+1)),Dp (Bj 1 [3]) (Dm (ys.take L++[0])),4,[]⟩⟩):=by kernel_rfl
theorem ASM (ys:List Int) (L:Nat):AP Tryz.prog oSu blkF 100 1 [1] (eJ ys L [false])=some ((AH .i64 L,true)::(decide ((L:Int)<64),false)::[],[],.val false [.sx 1 L 1],Dm ys):=by kernel_rfl
theorem ASN {k:List Int} (h:k.length≤64):k++List.replicate (64-k.length) 0=Ap (kF k):=by
 have hl:(k++List.replicate (64-k.length) (0:Int)).length=64:=by rw [List.length_append,List.length_replicate];omega
 rw [O7 hl]
 refine List.map_congr_left fun i _=>?_
 unfold kF
 rw [List.getD_eq_getElem?_getD,List.getD_eq_getElem?_getD]
 by_cases q:i<k.length
 ·rw [List.getElem?_append_left q]
 ·rw [List.getElem?_append_right (by omega),List.getElem?_eq_none (l:=k) (by omega),List.getElem?_replicate]
  split<;>rfl
theorem zF {β0:Env} {w0:World} (hb:∀ b,1≤b→β0 b=none) {k:List Int} (hk:k.length≤64):∀ r j,k.length+j+r=64→ASafe Tryz.prog 177 β0 w0 (Ax β0 w0 [] (.val false [.sx 1 64 1]) (Dm (Ap (kF k)))) blkF.ntmps [] (eJ (k++List.replicate j 0) (k.length+j) []):=by
 intro r
 induction r with
 | zero =>
  intro j hj
  rw [show j=64-k.length by omega,ASN hk,show k.length+(64-k.length)=64 by omega]
  exact AZ [false] (Aq NJ AE Tryz.func177 (ASM ..) ⟨rfl,by decide,trivial⟩ (AL (by kernel_rfl)) hb (fun _ h=>by cases h))
 | succ r ih =>
  intro j hj
  have hl:(k++List.replicate j (0:Int)).length=k.length+j:=by simp
  refine AZ [true] (Ab NJ AE (ASL ..) ⟨Cf (by omega),decide_eq_true (by omega),Nat.ble_eq_true_of_le (by omega),CZ (by omega),trivial⟩ (AL (by kernel_rfl)) hb (fun _ h=>by cases h) fun _=>?_)
  refine ER (m:=2) (by kernel_rfl) hb ?_
  rw [Cu hl,List.append_assoc,← List.replicate_succ']
  exact ih (j+1) (by omega)
theorem ASO {off n m:Nat} {xs:List Int} (hl:off+n≤xs.length) (hn:n≤35184372088832):Ah Tryz.prog 177 [AJ 0 off n m] (Ak xs) 1 [] (.val false [.sx 1 64 1]) (Dm (Ap (kF (HB (AA xs off n))))):=by
 have hh:AH .i64 n=true:=Cf hn
 rcases Nat.lt_or_ge 64 n with q | q
 ·refine Av (path:=[true]) Tryz.func177 (by kernel_rfl) (by kernel_rfl) fun β0 w0 hb=>?_
  refine Ab NJ AE (ASK off n m xs) ⟨rfl,Nat.ble_eq_true_of_le hl,CZ (by omega),hh,decide_eq_true (by omega),Nat.ble_eq_true_of_le hl,Nat.ble_eq_true_of_le hn,Aj 3 trivial⟩ (AL (by kernel_rfl)) hb (fun _ h=>by cases h) fun _=>?_
  refine ER (m:=2) (by kernel_rfl) hb ?_
  have e:eK off n xs=B4 (AA xs off n):=by unfold eK;rw [show 0+0*1=0 from rfl,List.drop_zero];exact Cu (FK _)
  have ek:HB (AA xs off n)=B4 (AA xs off n):=by unfold HB;rw [BP hl,if_pos q]
  rw [e,ek]
  have:=zF (w0:=w0) hb (k:=B4 (AA xs off n)) (by rw [FK];decide) 32 0 (by rw [FK])
  rw [List.replicate_zero,List.append_nil,FK] at this
  exact this
 ·refine Av (path:=[false]) Tryz.func177 (by kernel_rfl) (by kernel_rfl) fun β0 w0 hb=>?_
  refine Ab NJ AE (ASJ off n m xs) ⟨rfl,Nat.ble_eq_true_of_le hl,CZ (by omega),hh,decide_eq_false (by omega),trivial⟩ (AL (by kernel_rfl)) hb (fun _ h=>by cases h) fun _=>?_
  refine ER (m:=2) (by kernel_rfl) hb ?_
  have ek:HB (AA xs off n)=AA xs off n:=by unfold HB;rw [BP hl,if_neg (by omega)]
  rw [ek]
  have:=zF (w0:=w0) hb (k:=AA xs off n) (by rw [BP hl];exact q) (64-n) 0 (by rw [BP hl];omega)
  rw [List.replicate_zero,List.append_nil,BP hl,Nat.add_zero] at this
  rw [Nat.zero_add]
  exact this
def blkSp:ASpec:=fun args H fr path=>match args with
 | [S]=>match Bw S with
  | some (k,off,n)=>match AG H k with
   | some ⟨_,cs,_⟩=>match As .u8 cs with
    | some xs=>some (A8 [k] 1 fr 1 [] (.val false [.sx 1 64 1]) (Dm (Ap (kF (HB (AA xs off n))))) [(Nat.ble (off+n) xs.length,true),(Nat.ble n 35184372088832,true)] path)
    | none=>none
   | none=>none
  | none=>none
 | _=>none
theorem ASP:A7 Tryz.prog 177 blkSp:=by
 refine CG Tryz.func177 (by kernel_rfl) (by kernel_rfl) fun args H fr path r hs=>?_
 unfold blkSp at hs
 split at hs
 case h_2=>cases hs
 rename_i S
 split at hs
 case h_2=>cases hs
 rename_i k off n hS
 split at hs
 case h_2=>cases hs
 rename_i ty cs o hk
 split at hs
 case h_2=>cases hs
 rename_i xs hxs
 injection hs with hs
 refine ⟨[k],1,1,[],_,_,_,path,hs.symm,fun β us w ha hg hc=>?_⟩
 obtain ⟨u1,us1,r1,ha,rfl⟩:=ha
 obtain ⟨m,r1⟩:=C3 hS r1
 obtain ⟨g1,g2,g3⟩:=C0 hg hk hxs
 exact ⟨[AJ 0 off n m],Ak xs,ASO (Nat.le_of_ble_eq_true hc.1) (Nat.le_of_ble_eq_true hc.2.1),by kernel_rfl,⟨u1,_,Bl (by omega) rfl r1,ha,rfl⟩,g2,g3⟩
noncomputable def SSv:List (FuncId×ASpec):=(178,lsSp)::(177,blkSp)::SSu
theorem zG:AU Tryz.prog SSv:=⟨ASI,ASP,zD⟩
noncomputable abbrev oSv:Orc:=AI SSv KV
theorem ASQ:OrcOk Tryz.prog oSv:=AK zG BT
noncomputable abbrev rmacF:Func:=Tryz.f113
section
variable (o1 n1 m1 o2 n2 m2:Nat) (x1 x2:List Int)
noncomputable def ASR:ASt:=Af rmacF [AJ 0 o1 n1 m1,AJ 1 o2 n2 m2] [(0,some (Ad [.seq .u8 x1])),(1,some (Ad [.seq .u8 x2]))] 2 []
def Wf (x:Int):List Int:=List.take 64 (NK (AA (Ap (kF (HB (AA x1 o1 n1)))) 0 64) x)
def PK:List Int:=Wf o1 n1 x1 54++(x2.drop o2).take n2
def eM:List Int:=B4 (AA (Wf o1 n1 x1 92++List.take (32-0) (List.drop (0+0*1) (B4 (AA (PK o1 n1 o2 n2 x1 x2) 0 (64+n2))))) 0 (64+(32-0)))
theorem ASS:AP Tryz.prog oSv rmacF 400 2 [] (ASR o1 n1 m1 o2 n2 m2 x1 x2)=some ((Nat.ble (o1+n1) x1.length,true)::(Nat.ble n1 35184372088832,true)::tt 3 ((Nat.ble (o2+n2) x2.length,true)::(CP (64+n2),true)::(Nat.ble (0+(64+n2)) (PK o1 n1 o2 n2 x1 x2).length,true)::(Nat.ble (64+n2) 35184372088832,true)::tt 7 []),[],.val true [.seq .u8 (eM o1 n1 o2 n2 x1 x2)],[]):=by kernel_rfl
end
theorem AST (f:Nat→Int) (x:Int):NK (Ap f) x=Ap (FM f x):=by
 unfold NK
 rw [IR]
 refine List.map_congr_left fun i hi=>?_
 have h:=ND f (List.mem_range.1 hi)
 unfold gI at h
 rw [show 0+(i:Int).toNat*1=i by omega] at h
 exact congrArg (fun z=>bits .xor .u8 z x) h
theorem zH (o1 n1:Nat) (x1:List Int) (x:Int):Wf o1 n1 x1 x=Ap (FM (kF (HB (AA x1 o1 n1))) x):=by
 unfold Wf
 rw [C5 (IR _),AST,Cu (IR _)]
theorem ASU {o1 n1 o2 n2:Nat} {x1 x2:List Int} (h2:o2+n2≤x2.length):eM o1 n1 o2 n2 x1 x2=B_ (AA x1 o1 n1) (AA x2 o2 n2)∧(PK o1 n1 o2 n2 x1 x2).length=64+n2:=by
 have hY:PK o1 n1 o2 n2 x1 x2=Ap (FM (kF (HB (AA x1 o1 n1))) 54)++AA x2 o2 n2:=by unfold PK;rw [zH];rfl
 have hl:(PK o1 n1 o2 n2 x1 x2).length=64+n2:=by rw [hY];exact Cn (IR _) (BP h2)
 refine ⟨?_,hl⟩
 unfold eM B_ R0
 rw [C5 hl,hY,zH,show 0+0*1=0 from rfl,show 32-0=32 from rfl,List.drop_zero,Cu (FK _),C5 (Cn (IR _) (FK _))]
theorem ASV {o1 n1 m1 o2 n2 m2:Nat} {x1 x2:List Int} (h1:o1+n1≤x1.length) (h2:o2+n2≤x2.length) (hn1:n1≤17592186044416) (hn:n2≤17592186044416) :
  Ah Tryz.prog 113 [AJ 0 o1 n1 m1,AJ 1 o2 n2 m2] [(0,some (Ad [.seq .u8 x1])),(1,some (Ad [.seq .u8 x2]))] 2 [] (.val true [.seq .u8 (B_ (AA x1 o1 n1) (AA x2 o2 n2))]) []:=by
 obtain ⟨e,l⟩:=ASU (o1:=o1) (n1:=n1) (x1:=x1) h2
 refine Av (path:=[]) Tryz.func113 (by kernel_rfl) (by kernel_rfl) fun β0 w0 hb=>?_
 have:=Aq (P:=Tryz.prog) (n:=rmacF.ntmps) (β0:=β0) (w0:=w0) (W:=[]) ASQ AE Tryz.func113 (ASS o1 n1 m1 o2 n2 m2 x1 x2) ⟨Nat.ble_eq_true_of_le h1,Nat.ble_eq_true_of_le (by omega),Aj 3 ⟨Nat.ble_eq_true_of_le h2,CZ (by omega),Nat.ble_eq_true_of_le (by rw [l];omega),Nat.ble_eq_true_of_le (by omega),Aj 7 trivial⟩⟩ (AL (by kernel_rfl)) hb (fun _ h=>by cases h)
 rw [e] at this
 exact this
noncomputable def SSw0:List (FuncId×ASpec):=(113,WU y9 17592186044416)::SSv
theorem zI:AU Tryz.prog SSw0:=⟨y8 Tryz.func113 (by kernel_rfl) (by kernel_rfl) (fun _ _=>rfl) fun _ _=>ASV,zG⟩
noncomputable abbrev oSw0:Orc:=AI SSw0 KV
theorem ASW:OrcOk Tryz.prog oSw0:=AK zI BT
noncomputable abbrev rexF:Func:=Tryz.f114
section
variable (o1 n1 m1 o2 n2 m2:Nat) (x1 x2:List Int)
noncomputable def ASX:ASt:=Af rexF [AJ 0 o1 n1 m1,AJ 1 o2 n2 m2,.val false [.n .i64 48]] [(0,some (Ad [.seq .u8 x1])),(1,some (Ad [.seq .u8 x2]))] 2 [true,true,false]
def PM:List Int:=List.take (0+0+n2) ((x2.drop o2).take n2)++[1]
def Wg:List Int:=B_ (AA x1 o1 n1) (AA (PM o2 n2 x2) 0 (0+0+n2+1))
def R1 (t:List Int):List Int:=List.take (0+(32-0)) (List.take (32-0) (List.drop (0+0*1) t))
def PN:List Int:=List.take (0+(0+(32-0))) (R1 (Wg o1 n1 o2 n2 x1 x2))++(x2.drop o2).take n2
def PO:List Int:=List.take (0+(0+(32-0))+n2) (PN o1 n1 o2 n2 x1 x2)++[2]
def eN:List Int:=B_ (AA x1 o1 n1) (AA (PO o1 n1 o2 n2 x1 x2) 0 (0+(0+(32-0))+n2+1))
def eO:List Int:=List.take (0+(0+(32-0))) (R1 (Wg o1 n1 o2 n2 x1 x2))++R1 (eN o1 n1 o2 n2 x1 x2)
theorem ASY:AP Tryz.prog oSw0 rexF 400 2 [19] (ASX o1 n1 m1 o2 n2 m2 x1 x2)=some (tt 6 ((Nat.ble (o2+n2) x2.length,true)::(CP (0+0+n2),true)::(Nat.ble (0+0+n2) ((x2.drop o2).take n2).length,true)::(CP (0+0+n2+1),true)::(Nat.ble (o1+n1) x1.length,true)::(Nat.ble (0+(0+0+n2+1)) (PM o2 n2 x2).length,true)::(Nat.ble n1 17592186044416,true)::(Nat.ble (0+0+n2+1) 17592186044416,true) ::
 tt 11 ((Nat.ble (o2+n2) x2.length,true)::(CP (0+(0+(32-0))+n2),true)::(Nat.ble (0+(0+(32-0))+n2) (PN o1 n1 o2 n2 x1 x2).length,true)::(CP (0+(0+(32-0))+n2+1),true)::(Nat.ble (o1+n1) x1.length,true)::(Nat.ble (0+(0+(0+(32-0))+n2+1)) (PO o1 n1 o2 n2 x1 x2).length,true)::(Nat.ble n1 17592186044416,true)::(Nat.ble (0+(0+(32-0))+n2+1) 17592186044416,true)::tt 7 ((false,false)::(true,true)::[]))),[],.tup [(false,[.sx 19 48 1]),(false,[.n .i64 0])],[(19,some ⟨5,[.seq .u8 (eO o1 n1 o2 n2 x1 x2)],true⟩)]):=by kernel_rfl
end
theorem eP {t:List Int} (h:t.length=32):R1 t=t:=by
 unfold R1
 rw [show 0+0*1=0 from rfl,show 32-0=32 from rfl,show 0+32=32 from rfl,List.drop_zero,Cu h,Cu h]
theorem ASZ {o1 n1 o2 n2:Nat} {x1 x2:List Int} (h2:o2+n2≤x2.length):eO o1 n1 o2 n2 x1 x2=F1 (AA x1 o1 n1) (AA x2 o2 n2)∧(PM o2 n2 x2).length=n2+1∧(PN o1 n1 o2 n2 x1 x2).length=32+n2∧(PO o1 n1 o2 n2 x1 x2).length=32+n2+1:=by
 have a1:PM o2 n2 x2=AA x2 o2 n2++[1]:=by unfold PM;rw [show 0+0+n2=n2 by omega];exact congrArg (fun z=>z++[1]) (Cu (BP h2))
 have l1:(PM o2 n2 x2).length=n2+1:=by rw [a1];exact Cn (BP h2) rfl
 have t1:Wg o1 n1 o2 n2 x1 x2=B_ (AA x1 o1 n1) (AA x2 o2 n2++[1]):=by unfold Wg;rw [show 0+0+n2+1=n2+1 by omega,C5 l1,a1]
 have c2:PN o1 n1 o2 n2 x1 x2=B_ (AA x1 o1 n1) (AA x2 o2 n2++[1])++AA x2 o2 n2:=by
  unfold PN
  rw [t1,eP (Ev _ _),Cu (Ev _ _)]
  rfl
 have lc:(PN o1 n1 o2 n2 x1 x2).length=32+n2:=by rw [c2];exact Cn (Ev _ _) (BP h2)
 have a2:PO o1 n1 o2 n2 x1 x2=B_ (AA x1 o1 n1) (AA x2 o2 n2++[1])++AA x2 o2 n2++[2]:=by
  unfold PO
  rw [show 0+(0+(32-0))+n2=32+n2 by omega,Cu lc,c2]
 have l2:(PO o1 n1 o2 n2 x1 x2).length=32+n2+1:=by rw [a2];exact Cn (Cn (Ev _ _) (BP h2)) rfl
 have t2:eN o1 n1 o2 n2 x1 x2=B_ (AA x1 o1 n1) (B_ (AA x1 o1 n1) (AA x2 o2 n2++[1])++AA x2 o2 n2++[2]):=by unfold eN;rw [show 0+(0+(32-0))+n2+1=32+n2+1 by omega,C5 l2,a2]
 refine ⟨?_,l1,lc,l2⟩
 unfold eO F1
 rw [t1,t2,eP (Ev _ _),eP (Ev _ _),Cu (Ev _ _)]
theorem ASa {o1 n1 m1 o2 n2 m2:Nat} {x1 x2:List Int} (h1:o1+n1≤x1.length) (h2:o2+n2≤x2.length) (hn1:n1≤8796093022208) (hn:n2≤8796093022208) :
  Ah Tryz.prog 114 [AJ 0 o1 n1 m1,AJ 1 o2 n2 m2,.val false [.n .i64 48]] [(0,some (Ad [.seq .u8 x1])),(1,some (Ad [.seq .u8 x2]))] 2 [] (.tup [(false,[.sx 19 48 1]),(false,[.n .i64 0])]) [(19,some ⟨5,[.seq .u8 (F1 (AA x1 o1 n1) (AA x2 o2 n2))],true⟩)]:=by
 obtain ⟨e,l1,lc,l2⟩:=ASZ (o1:=o1) (n1:=n1) (x1:=x1) h2
 refine Av (path:=[true,true,false]) Tryz.func114 (by kernel_rfl) (by kernel_rfl) fun β0 w0 hb=>?_
 have:=Aq (P:=Tryz.prog) (n:=rexF.ntmps) (β0:=β0) (w0:=w0) (W:=[]) ASW AE Tryz.func114 (ASY o1 n1 m1 o2 n2 m2 x1 x2) (Aj 6 ⟨Nat.ble_eq_true_of_le h2,CZ (by omega),Nat.ble_eq_true_of_le (by have:=BP h2;unfold AA at this;rw [this];omega),CZ (by omega),Nat.ble_eq_true_of_le h1,Nat.ble_eq_true_of_le (by rw [l1];omega),Nat.ble_eq_true_of_le (by omega),Nat.ble_eq_true_of_le (by omega),Aj 11 ⟨Nat.ble_eq_true_of_le h2,CZ (by omega),Nat.ble_eq_true_of_le (by rw [lc];omega),CZ (by omega),Nat.ble_eq_true_of_le h1,Nat.ble_eq_true_of_le (by rw [l2];omega),Nat.ble_eq_true_of_le (by omega),Nat.ble_eq_true_of_le (by omega),Aj 7 ⟨rfl,rfl,trivial⟩⟩⟩) (AL (by kernel_rfl)) hb (fun _ h=>by cases h)
 rw [e] at this
 exact this
noncomputable def SSw:List (FuncId×ASpec):=(114,WX 19 18)::SSw0
theorem ASb:AU Tryz.prog SSw:=⟨zC Tryz.func114 (by kernel_rfl) (by kernel_rfl) (fun _=>rfl) ASa,zI⟩
def eQ (g:List Int→AV) (B:Nat):ASpec:=fun args H fr path=>match args with
 | [S]=>match Bw S with
  | some (k,off,n)=>match AG H k with
   | some ⟨_,cs,_⟩=>match As .u8 cs with
    | some xs=>some (A8 [k] 1 fr 0 [] (g (AA xs off n)) [] [(Nat.ble (off+n) xs.length,true),(Nat.ble n B,true)] path)
    | none=>none
   | none=>none
  | none=>none
 | _=>none
theorem ASc {F:FuncId} {fn:Func} {g:List Int→AV} {B:Nat} (hfn:Tryz.prog.funcs[F]? = some fn) (hb:fn.body.isSome=true) (hname:(fn.name=="runtime.NumGoroutine")=false) (hk:∀ a,C6 1 0 [] (g a) []=true) (hcan:∀ {off n m:Nat} {xs:List Int},(∀ d∈xs,0≤d∧d<256)→off+n≤xs.length→n≤B→Ah Tryz.prog F [AJ 0 off n m] (Ak xs) 1 [] (g (AA xs off n)) []):A7 Tryz.prog F (eQ g B):=by
 refine CG hfn hb hname fun args H fr path r hs=>?_
 unfold eQ at hs
 split at hs
 case h_2=>cases hs
 rename_i S
 split at hs
 case h_2=>cases hs
 rename_i k off n hS
 split at hs
 case h_2=>cases hs
 rename_i ty cs o hk'
 split at hs
 case h_2=>cases hs
 rename_i xs hxs
 injection hs with hs
 refine ⟨[k],1,0,[],_,_,_,path,hs.symm,fun β us w ha hg hc=>?_⟩
 obtain ⟨u1,us1,r1,ha,rfl⟩:=ha
 obtain ⟨m,r1⟩:=C3 hS r1
 obtain ⟨g1,g2,g3⟩:=C0 hg hk' hxs
 exact ⟨[AJ 0 off n m],Ak xs,hcan g1 (Nat.le_of_ble_eq_true hc.1) (Nat.le_of_ble_eq_true hc.2.1),hk _,⟨u1,_,Bl (by omega) rfl r1,ha,rfl⟩,g2,g3⟩
noncomputable def SSx0:List (FuncId×ASpec):=SSw++SVb3
theorem eR:AU Tryz.prog SSx0:=Rl ASb Vr
noncomputable abbrev oSx0:Orc:=AI SSx0 KV
theorem ASd:OrcOk Tryz.prog oSx0:=AK eR BT
def FN (off n:Nat) (xs:List Int):List Int:=List.map (AB (AS (AA xs off n))) (List.range ((n+7) / 8))++[]
theorem ASe (off n m:Nat) (xs:List Int):AP Tryz.prog oSx0 Tryz.f21 300 1 [] (Af Tryz.f21 [AJ 0 off n m] (Ak xs) 1 []) =
 some ((Nat.ble (off+n) xs.length,true)::(Nat.ble n 35184372088832,true)::(Nat.ble (0+(n+7) / 8) (FN off n xs).length,true)::(Nat.ble ((n+7) / 8) 1125899906842624,true)::[],[],CI (AF (AA (FN off n xs) 0 ((n+7) / 8)) % rN),[]):=by kernel_rfl
theorem eS {off n:Nat} {xs:List Int} (hx:∀ d∈xs,0≤d∧d<256) (hl:off+n≤xs.length):AF (AA (FN off n xs) 0 ((n+7) / 8))=AS (AA xs off n):=by
 have e:FN off n xs=Cj (AS (AA xs off n)) ((n+7) / 8):=by unfold FN Cj;rw [List.append_nil]
 rw [e,C5 (by simp [Cj]),nT]
 have h:=UJ (AA xs off n) (CS hx)
 rw [BP hl,I_] at h
 exact Nat.lt_of_lt_of_le h (Nat.pow_le_pow_right (by decide) (by omega))
theorem ASf {off n m:Nat} {xs:List Int} (hx:∀ d∈xs,0≤d∧d<256) (hl:off+n≤xs.length) (hn:n≤35184372088832):Ah Tryz.prog 21 [AJ 0 off n m] (Ak xs) 1 [] (CI (AS (AA xs off n) % rN)) []:=by
 have:=A_ eR BT Tryz.func21 (by kernel_rfl) (by kernel_rfl) (ASe off n m xs) (by kernel_rfl) ⟨Nat.ble_eq_true_of_le hl,Nat.ble_eq_true_of_le hn,Nat.ble_eq_true_of_le (by unfold FN;simp),Nat.ble_eq_true_of_le (by omega),trivial⟩
 rw [eS hx hl] at this
 exact this
def R2 (x:Nat):AV:=.val true [.seq .u8 (BK x 32)]
theorem ASg (a:Nat):Ac Tryz.prog oSx0 Tryz.f53 [CI a] [] 300=some (tt 4 [],R2 (AF (AA (LR (a % rN)) 0 4))):=by kernel_rfl
theorem ASh {a:Nat} (_h:a<R4):AX Tryz.prog 53 [CI a] (R2 (a % rN)):=by
 have h1:=Ag ASd AE Tryz.func53 (ASg a) (Aj 4 trivial) rfl
 rw [RZ (bY a)] at h1
 exact h1
noncomputable def SSx:List (FuncId×ASpec):=(21,eQ (fun l=>CI (AS l % rN)) 35184372088832)::(53,Ar (Vn fun x=>R2 (x % rN)))::SSx0
theorem zJ:AU Tryz.prog SSx:=⟨ASc Tryz.func21 (by kernel_rfl) (by kernel_rfl) (fun _=>rfl) ASf,Au Tryz.func53 (by kernel_rfl) (by kernel_rfl) (vO fun _ h=>ASh h),eR⟩
noncomputable abbrev oSx:Orc:=AI SSx KV
theorem R3:OrcOk Tryz.prog oSx:=AK zJ BT
def tagK:List Int:=[66,76,83,45,83,73,71,45,75,69,89,71,69,78,45,83,65,76,84,45]
noncomputable def GO (y b i:List Int):Nat:=AS (AA (F1 (B_ (B4 y) (b++[0])) (i++[0,48])) 0 48) % rN
noncomputable def Ew (b i:List Int):Nat→List Int→Nat
 | 0,_=>0
 | r+1,y=>if GO y b i=0 then Ew b i r (B4 y) else GO y b i
theorem zK:∃ f:List Int→List Int→Nat,∀ b i,f b i=Ew b i 16 tagK:=⟨_,fun _ _=>rfl⟩
noncomputable def DF:List Int→List Int→Nat:=Classical.choose zK
theorem zL (b i:List Int):DF b i=Ew b i 16 tagK:=Classical.choose_spec zK b i
noncomputable abbrev kgF:Func:=Tryz.f34
section
variable (o1 n1 m1 o2 n2 m2:Nat) (x1 x2 y:List Int) (i:Int)
noncomputable def eT (p:List Bool):ASt:=Af kgF [AJ 0 o1 n1 m1,AJ 1 o2 n2 m2] [(0,some (Ad [.seq .u8 x1])),(1,some (Ad [.seq .u8 x2]))] 2 p
noncomputable def zM:List Item:=Bh (AR Tryz.prog oSx (some 0) 100 2 none (eT 0 0 0 0 0 0 [] [] [false]))
noncomputable def zO (c:AV):List AV:=Cs kgF.ntmps [(0,AJ 0 o1 n1 m1),(1,AJ 1 o2 n2 m2),(6,.val false [.p 2 0]),(18,c)]
def zP:Heap:=[(0,some (Ad [.seq .u8 x1])),(1,some (Ad [.seq .u8 x2])),(2,some ⟨122,[.seq .u8 (B4 y)],false⟩)]
noncomputable def R5 (p:List Bool):ASt:=⟨zM,⟨zO o1 n1 m1 o2 n2 m2 (iA i),zP x1 x2 y,3,p⟩⟩
theorem ASi:AR Tryz.prog oSx (some 0) 100 2 (some ([0,1,6,18],[0,1,3],4)) (eT o1 n1 m1 o2 n2 m2 x1 x2 [false])=some ((AH .i64 n1,true)::(decide ((n1:Int)<32),false)::tt 2 [],[],⟨zM,⟨EQ (Bj 2 [3]) (zO o1 n1 m1 o2 n2 m2 (.val false [.n .i64 0])),Dp (Bj 2 [3]) (zP x1 x2 (AA tagK 0 20)),4,[]⟩⟩):=by kernel_rfl
def Wh:List Int:=AA x1 o1 n1++AA [0] 0 1
def Wi:List Int:=AA x2 o2 n2++AA [0,48] 0 2
noncomputable def Wj:Nat:=AS (AA (F1 (AA (B_ (AA (B4 y) (0+0*1) (32-0)) (AA (Wh o1 n1 x1) 0 (n1+1))) (0+0*1) (32-0)) (AA (Wi o2 n2 x2) 0 (n2+2))) 0 48) % rN
noncomputable def Wk (b:Bool) (r:List (Bool×Bool)):List (Bool×Bool):=(decide (i<16),true)::(Nat.ble (o1+n1) x1.length,true)::(true,true)::(Nat.ble (n1+1) 35184372088832,true)::(true,true)::(Nat.ble (0+(n1+1)) (Wh o1 n1 x1).length,true)::(true,true)::(Nat.ble (n1+1) 17592186044416,true)::(Nat.ble (o2+n2) x2.length,true)::(true,true)::(Nat.ble (n2+2) 35184372088832,true)::(true,true)::(Nat.ble (0+(n2+2)) (Wi o2 n2 x2).length,true)::(true,true)::(Nat.ble (n2+2) 8796093022208,true)::tt 2 ((!decide (Wj o1 n1 o2 n2 x1 x2 y=0),b)::r)
theorem ASj:AR Tryz.prog oSx (some 0) 100 2 (some ([0,1,6,18],[0,1,2],3)) (R5 o1 n1 m1 o2 n2 m2 x1 x2 y i [true,false])=some (Wk o1 n1 o2 n2 x1 x2 y i false (tt 2 []),[],R5 o1 n1 m1 o2 n2 m2 x1 x2 (AA (B4 y) (0+0*1) (32-0)) (wI (i+1)) []):=by kernel_rfl
def PP (K:Nat) (xs:List Int):Heap:=[(K,some ⟨22,[.seq .u8 xs],false⟩)]
def PQ (K:Nat):AV:=.tup [(false,[.sl K 0 32 32]),(false,[.n .i64 0])]
def IS (e:Int):AV:=.tup [(false,[.v (.slice none 0 0)]),(false,[.n .i64 e])]
theorem ASk:AP Tryz.prog oSx kgF 400 2 [32] (R5 o1 n1 m1 o2 n2 m2 x1 x2 y i [true,true])=some (Wk o1 n1 o2 n2 x1 x2 y i true [],[],PQ 32,PP 32 (BK (Wj o1 n1 o2 n2 x1 x2 y % rN) 32)):=by kernel_rfl
theorem ASl:AP Tryz.prog oSx kgF 400 2 [] (R5 o1 n1 m1 o2 n2 m2 x1 x2 y i [false])=some ((decide (i<16),false)::[],[],IS 210,[]):=by kernel_rfl
theorem ASm:AP Tryz.prog oSx kgF 400 2 [] (eT o1 n1 m1 o2 n2 m2 x1 x2 [true])=some ((AH .i64 n1,true)::(decide ((n1:Int)<32),true)::[],[],IS 211,[]):=by kernel_rfl
end
theorem zQ {o1 n1 o2 n2:Nat} {x1 x2:List Int} (h1:o1+n1≤x1.length) (h2:o2+n2≤x2.length) (y:List Int):Wj o1 n1 o2 n2 x1 x2 y=GO y (AA x1 o1 n1) (AA x2 o2 n2):=by
 unfold Wj GO
 have e1:Wh o1 n1 x1=AA x1 o1 n1++[0]:=rfl
 have e2:Wi o2 n2 x2=AA x2 o2 n2++[0,48]:=rfl
 rw [e1,e2,show 0+0*1=0 from rfl,show 32-0=32 from rfl,C5 (FK _),C5 (Ev _ _),C5 (Cn (b:=[0]) (m:=1) (BP h1) rfl),C5 (Cn (b:=[0,48]) (m:=2) (BP h2) rfl)]
theorem zR {o1 n1 o2 n2:Nat} {x1 x2 y:List Int} {i:Int} {b:Bool} {r:List (Bool×Bool)} (h1:o1+n1≤x1.length) (h2:o2+n2≤x2.length) (hn1:n1≤4398046511104) (hn2:n2≤4398046511104) (hi:i<16) (hb:(!decide (GO y (AA x1 o1 n1) (AA x2 o2 n2)=0))=b) (hr:AQ r):AQ (Wk o1 n1 o2 n2 x1 x2 y i b r):=by
 have l1:(Wh o1 n1 x1).length=n1+1:=Cn (BP h1) rfl
 have l2:(Wi o2 n2 x2).length=n2+2:=Cn (BP h2) rfl
 unfold Wk
 rw [zQ h1 h2,l1,l2]
 exact ⟨decide_eq_true hi,Nat.ble_eq_true_of_le h1,rfl,Nat.ble_eq_true_of_le (by omega),rfl,Nat.ble_eq_true_of_le (by omega),rfl,Nat.ble_eq_true_of_le (by omega),Nat.ble_eq_true_of_le h2,rfl,Nat.ble_eq_true_of_le (by omega),rfl,Nat.ble_eq_true_of_le (by omega),rfl,Nat.ble_eq_true_of_le (by omega),Aj 2 ⟨hb,hr⟩⟩
noncomputable def HC (K N:Nat):AV:=if N=0 then IS 210 else PQ K
noncomputable def HD (K N:Nat):Heap:=if N=0 then [] else PP K (BK N 32)
theorem eU (y b i:List Int):GO y b i<rN:=Nat.mod_lt _ bX
theorem ASn {o1 n1 m1 o2 n2 m2:Nat} {x1 x2:List Int} (h1:o1+n1≤x1.length) (h2:o2+n2≤x2.length) (hn1:n1≤4398046511104) (hn2:n2≤4398046511104) {β0:Env} {w0:World} (hb:∀ b,2≤b→β0 b=none):∀ (r i:Nat) (y:List Int),i+r=16 →
  ASafe Tryz.prog 34 β0 w0 (Ax β0 w0 [] (HC 32 (Ew (AA x1 o1 n1) (AA x2 o2 n2) r y)) (HD 32 (Ew (AA x1 o1 n1) (AA x2 o2 n2) r y))) kgF.ntmps [] (R5 o1 n1 m1 o2 n2 m2 x1 x2 y (i:Int) []):=by
 intro r
 induction r with
 | zero =>
  intro i y hi
  obtain rfl:i=16:=by omega
  unfold HC HD Ew
  rw [if_pos rfl,if_pos rfl]
  exact AZ [false] (Aq R3 AE Tryz.func34 (ASl ..) ⟨by decide,trivial⟩ (AL (by kernel_rfl)) hb (fun _ h=>by cases h))
 | succ r ih =>
  intro i y hi
  by_cases hz:GO y (AA x1 o1 n1) (AA x2 o2 n2)=0
  ·refine AZ [true,false] (Ab R3 AE (ASj ..) (zR h1 h2 hn1 hn2 (by omega) (by rw [decide_eq_true hz];rfl) (Aj 2 trivial)) (AL (by kernel_rfl)) hb (fun _ h=>by cases h) fun _=>?_)
   rw [show 0+0*1=0 from rfl,show 32-0=32 from rfl,C5 (FK _),Al (z:=(i:Int)+1) (by omega)]
   have:=ih (i+1) (B4 y) (by omega)
   unfold Ew
   rw [if_pos hz]
   exact this
  ·have:=Aq (P:=Tryz.prog) (n:=kgF.ntmps) (β0:=β0) (w0:=w0) (W:=[]) R3 AE Tryz.func34 (ASk o1 n1 m1 o2 n2 m2 x1 x2 y (i:Int)) (zR h1 h2 hn1 hn2 (by omega) (by rw [decide_eq_false hz];rfl) trivial) (AL (by kernel_rfl)) hb (fun _ h=>by cases h)
   rw [zQ h1 h2,Nat.mod_eq_of_lt (eU _ _ _)] at this
   unfold HC HD Ew
   rw [if_neg hz,if_neg hz,if_neg hz]
   exact AZ [true,true] this
theorem eV:AA tagK 0 20=tagK:=by kernel_rfl
theorem ASo {o1 n1 m1 o2 n2 m2:Nat} {x1 x2:List Int} (h1:o1+n1≤x1.length) (h2:o2+n2≤x2.length) (hn1:n1≤4398046511104) (hn2:n2≤4398046511104) (hn:¬ n1<32) :
  Ah Tryz.prog 34 [AJ 0 o1 n1 m1,AJ 1 o2 n2 m2] [(0,some (Ad [.seq .u8 x1])),(1,some (Ad [.seq .u8 x2]))] 2 [] (HC 32 (DF (AA x1 o1 n1) (AA x2 o2 n2))) (HD 32 (DF (AA x1 o1 n1) (AA x2 o2 n2))):=by
 refine Av (path:=[false]) Tryz.func34 (by kernel_rfl) (by kernel_rfl) fun β0 w0 hb=>?_
 refine Ab R3 AE (ASi o1 n1 m1 o2 n2 m2 x1 x2) ⟨Cf (by omega),decide_eq_false (by omega),Aj 2 trivial⟩ (AL (by kernel_rfl)) hb (fun _ h=>by cases h) fun _=>?_
 refine ER (m:=3) (by kernel_rfl) hb ?_
 rw [eV,zL]
 exact Ds (ASn h1 h2 hn1 hn2 hb 16 0 tagK rfl)
theorem ASp {o1 n1 m1 o2 n2 m2:Nat} {x1 x2:List Int} (hn:n1<32) :
  Ah Tryz.prog 34 [AJ 0 o1 n1 m1,AJ 1 o2 n2 m2] [(0,some (Ad [.seq .u8 x1])),(1,some (Ad [.seq .u8 x2]))] 2 [] (IS 211) [] :=
 Av (path:=[true]) Tryz.func34 (by kernel_rfl) (by kernel_rfl) fun β0 w0 hb=>Aq R3 AE Tryz.func34 (ASm o1 n1 m1 o2 n2 m2 x1 x2) ⟨Cf (by omega),decide_eq_true (by omega),trivial⟩ (AL (by kernel_rfl)) hb (fun _ h=>by cases h)
noncomputable def Wl (K nw:Nat):ASpec:=fun args H fr path=>match args with
 | [S,T]=>match Bw S,Bw T with
  | some (k,o,n),some (l,p,m)=>match AG H k,AG H l with
   | some ⟨_,cs,_⟩,some ⟨_,ds,_⟩=>match As .u8 cs,As .u8 ds with
    | some xs,some ys=>match path with
     | true::rest=>some (A8 [k,l] 2 fr 0 [] (IS 211) [] [(decide (n<32),true)] rest)
     | false::true::rest=>some (A8 [k,l] 2 fr 0 [] (IS 210) [] [(decide (n<32),false),(Nat.ble (o+n) xs.length,true),(Nat.ble (p+m) ys.length,true),(Nat.ble n 4398046511104,true),(Nat.ble m 4398046511104,true),(decide (DF (AA xs o n) (AA ys p m)=0),true)] rest)
     | false::false::rest=>some (A8 [k,l] 2 fr nw [] (PQ K) (PP K (BK (DF (AA xs o n) (AA ys p m)) 32)) [(decide (n<32),false),(Nat.ble (o+n) xs.length,true),(Nat.ble (p+m) ys.length,true),(Nat.ble n 4398046511104,true),(Nat.ble m 4398046511104,true),(decide (DF (AA xs o n) (AA ys p m)=0),false)] rest)
     | _=>none
    | _,_=>none
   | _,_=>none
  | _,_=>none
 | _=>none
theorem zS {F:FuncId} {fn:Func} {K nw:Nat} (hfn:Tryz.prog.funcs[F]? = some fn) (hb:fn.body.isSome=true) (hname:(fn.name=="runtime.NumGoroutine")=false) (hk:∀ L,C6 2 nw [] (PQ K) (PP K L)=true)
  (h0:∀ {o1 n1 m1 o2 n2 m2:Nat} {x1 x2:List Int},n1<32→Ah Tryz.prog F [AJ 0 o1 n1 m1,AJ 1 o2 n2 m2] [(0,some (Ad [.seq .u8 x1])),(1,some (Ad [.seq .u8 x2]))] 2 [] (IS 211) [])
  (h:∀ {o1 n1 m1 o2 n2 m2:Nat} {x1 x2:List Int},(∀ d∈x1,0≤d∧d<256)→(∀ d∈x2,0≤d∧d<256)→o1+n1≤x1.length→o2+n2≤x2.length→n1≤4398046511104→n2≤4398046511104→¬ n1<32→Ah Tryz.prog F [AJ 0 o1 n1 m1,AJ 1 o2 n2 m2] [(0,some (Ad [.seq .u8 x1])),(1,some (Ad [.seq .u8 x2]))] 2 [] (HC K (DF (AA x1 o1 n1) (AA x2 o2 n2))) (HD K (DF (AA x1 o1 n1) (AA x2 o2 n2)))):A7 Tryz.prog F (Wl K nw):=by
 refine CG hfn hb hname fun args H fr path r hs=>?_
 unfold Wl at hs
 split at hs
 case h_2=>cases hs
 rename_i S T
 split at hs
 case h_2=>cases hs
 rename_i k o n l p m hS hT
 split at hs
 case h_2=>cases hs
 rename_i ty cs op ty' ds op' hk' hl'
 split at hs
 case h_2=>cases hs
 rename_i xs ys hx hy
 split at hs
 ·rename_i rest
  injection hs with hs
  refine ⟨[k,l],2,0,[],_,_,_,rest,hs.symm,fun β us w ha hg hc=>?_⟩
  obtain ⟨u1,us1,r1,⟨u2,us2,r2,ha,rfl⟩,rfl⟩:=ha
  obtain ⟨m1,m2,q1,q2,_,_,q5,q6⟩:=WW hg hS hT hk' hl' hx hy r1 r2
  exact ⟨_,_,h0 (of_decide_eq_true hc.1),rfl,⟨u1,_,q1,⟨u2,_,q2,ha,rfl⟩,rfl⟩,q5,q6⟩
 ·rename_i rest
  injection hs with hs
  refine ⟨[k,l],2,0,[],_,_,_,rest,hs.symm,fun β us w ha hg hc=>?_⟩
  obtain ⟨u1,us1,r1,⟨u2,us2,r2,ha,rfl⟩,rfl⟩:=ha
  obtain ⟨m1,m2,q1,q2,b1,b2,q5,q6⟩:=WW hg hS hT hk' hl' hx hy r1 r2
  obtain ⟨c0,c1,c2,c3,c4,c5,_⟩:=hc
  have:=h (o1:=o) (n1:=n) (m1:=m1) (o2:=p) (n2:=m) (m2:=m2) b1 b2 (Nat.le_of_ble_eq_true c1) (Nat.le_of_ble_eq_true c2) (Nat.le_of_ble_eq_true c3) (Nat.le_of_ble_eq_true c4) (of_decide_eq_false c0)
  unfold HC HD at this
  rw [if_pos (of_decide_eq_true c5),if_pos (of_decide_eq_true c5)] at this
  exact ⟨_,_,this,rfl,⟨u1,_,q1,⟨u2,_,q2,ha,rfl⟩,rfl⟩,q5,q6⟩
 ·rename_i rest
  injection hs with hs
  refine ⟨[k,l],2,nw,[],_,_,_,rest,hs.symm,fun β us w ha hg hc=>?_⟩
  obtain ⟨u1,us1,r1,⟨u2,us2,r2,ha,rfl⟩,rfl⟩:=ha
  obtain ⟨m1,m2,q1,q2,b1,b2,q5,q6⟩:=WW hg hS hT hk' hl' hx hy r1 r2
  obtain ⟨c0,c1,c2,c3,c4,c5,_⟩:=hc
  have:=h (o1:=o) (n1:=n) (m1:=m1) (o2:=p) (n2:=m) (m2:=m2) b1 b2 (Nat.le_of_ble_eq_true c1) (Nat.le_of_ble_eq_true c2) (Nat.le_of_ble_eq_true c3) (Nat.le_of_ble_eq_true c4) (of_decide_eq_false c0)
  unfold HC HD at this
  rw [if_neg (of_decide_eq_false c5),if_neg (of_decide_eq_false c5)] at this
  exact ⟨_,_,this,hk _,⟨u1,_,q1,⟨u2,_,q2,ha,rfl⟩,rfl⟩,q5,q6⟩
 ·cases hs
noncomputable def SSy:List (FuncId×ASpec):=(34,Wl 32 31)::SSx
theorem zT:AU Tryz.prog SSy:=⟨zS Tryz.func34 (by kernel_rfl) (by kernel_rfl) (fun _=>rfl) ASp fun _ _=>ASo,zJ⟩
noncomputable abbrev oSy:Orc:=AI SSy KV
theorem Hn:OrcOk Tryz.prog oSy:=AK zT BT
noncomputable abbrev waddF:Func:=Tryz.f334
noncomputable abbrev wsubF:Func:=Tryz.f294
def wu (z:Int):Int:=AN false .u64 z
theorem eW (z:Int):wu z=z % 18446744073709551616:=by unfold wu;rw [CA,IntKind.wrap_u64]
def fC (L:Nat):Bool:=decide (1≤8∧2*L*8≤281474976710656)
theorem zU {L:Nat} (h:L≤17592186044416):fC L=true:=decide_eq_true ⟨by decide,by omega⟩
def FO (zs:List Int):Heap:=[(2,some ⟨24,[.seq .u64 zs],true⟩)]
def PR (xs ys zs:List Int):Heap:=CF xs ys++FO zs
section
variable (off n m off' n' m':Nat) (xs ys zs:List Int) (L:Nat) (c i:Int)
noncomputable def Wm:List Item:=Bh (AR Tryz.prog oSy (some 0) 100 2 none (Af waddF (Dh 0 0 0 0 0 0) (CF [] []) 2 []))
noncomputable def Wn (s c i:AV):List AV:=Cs waddF.ntmps [(0,AJ 0 off n m),(1,AJ 1 off' n' m'),(6,s),(7,c),(8,i)]
noncomputable def PS (p:List Bool):ASt:=⟨Wm,⟨Wn off n m off' n' m' (.val false [.sx 2 L 1]) (.val false [.v (.int .u64 c)]) (iA i),PR xs ys zs,3,p⟩⟩
abbrev NL:Option (List Nat×List Nat×Nat):=some ([0,1,6,7,8],[0,1,4],5)
theorem ASq:AR Tryz.prog oSy (some 0) 100 2 (some ([0,1,6,7,8],[0,1],2)) (Af waddF (Dh off n m off' n' m') (CF xs ys) 2 [])=some ([],[],⟨Wm,⟨Wn off n m off' n' m' Jw (.val false [.n .u64 0]) (.val false [.n .i64 0]),CF xs ys,2,[]⟩⟩):=by kernel_rfl
theorem ASr:(⟨Wm,⟨(Hz 2 1 [6] 0 (Wn off n m off' n' m' Jw (.val false [.n .u64 0]) (.val false [.n .i64 0]))).map Dr,CF xs ys++[(2,some ⟨24,[.seq .u64 []],true⟩)],2+1,[]⟩⟩:ASt)=PS off n m off' n' m' xs ys [] 0 0 0 []:=by kernel_rfl
def Lk (r:List (Bool×Bool)):List (Bool×Bool):=(AH .i64 n,true)::(AH .i64 n',true)::(decide (i<Cg n n'),true)::(Nat.ble (off+n) xs.length,true)::(AH .i64 n,true)::(decide (0≤i),true)::(Nat.ble (off'+n') ys.length,true)::(AH .i64 n',true)::(decide (0≤i),true)::r
def Wo:List (Bool×Bool):=[(Nat.ble L zs.length,true),(fC (L+1),true)]
noncomputable def Wp (k:Int) (T:Int):ASt:=⟨Wm,⟨EQ (Bj 2 [4]) (Wn off n m off' n' m' (.val false [.sx 2 (L+1) 1]) (.val false [.n .u64 k]) (iA (wI (i+1)))),Dp (Bj 2 [4]) (PR xs ys (zs.take L++[T])),5,[]⟩⟩
theorem ASs:AR Tryz.prog oSy (some 0) 100 2 NL (PS off n m off' n' m' xs ys zs L c i [true,true]) =
 some (Lk off n off' n' xs ys i ((decide (wu (Ai xs off n i+Ai ys off' n' i)<Ai xs off n i),true)::Wo zs L),[],Wp off n m off' n' m' xs ys zs L i 1 (wu (wu (Ai xs off n i+Ai ys off' n' i)+c))):=by kernel_rfl
theorem ASu:AR Tryz.prog oSy (some 0) 100 2 NL (PS off n m off' n' m' xs ys zs L c i [true,false,true]) =
 some (Lk off n off' n' xs ys i ((decide (wu (Ai xs off n i+Ai ys off' n' i)<Ai xs off n i),false)::(decide (wu (wu (Ai xs off n i+Ai ys off' n' i)+c)<wu (Ai xs off n i+Ai ys off' n' i)),true)::Wo zs L),[],Wp off n m off' n' m' xs ys zs L i 1 (wu (wu (Ai xs off n i+Ai ys off' n' i)+c))):=by kernel_rfl
theorem ASv:AR Tryz.prog oSy (some 0) 100 2 NL (PS off n m off' n' m' xs ys zs L c i [true,false,false]) =
 some (Lk off n off' n' xs ys i ((decide (wu (Ai xs off n i+Ai ys off' n' i)<Ai xs off n i),false)::(decide (wu (wu (Ai xs off n i+Ai ys off' n' i)+c)<wu (Ai xs off n i+Ai ys off' n' i)),false)::Wo zs L),[],Wp off n m off' n' m' xs ys zs L i 0 (wu (wu (Ai xs off n i+Ai ys off' n' i)+c))):=by kernel_rfl
theorem ASw:AP Tryz.prog oSy waddF 100 2 [2] (PS off n m off' n' m' xs ys zs L c i [false])=some ((AH .i64 n,true)::(AH .i64 n',true)::(decide (i<Cg n n'),false)::[],[],.tup [(false,[.sx 2 L 1]),(false,[.v (.int .u64 c)])],FO zs):=by kernel_rfl
noncomputable def Wq:List Item:=Bh (AR Tryz.prog oSy (some 0) 100 2 none (Af wsubF (Dh 0 0 0 0 0 0) (CF [] []) 2 []))
noncomputable def Wr (s c i:AV):List AV:=Cs wsubF.ntmps [(0,AJ 0 off n m),(1,AJ 1 off' n' m'),(6,s),(7,c),(8,i)]
noncomputable def NM (p:List Bool):ASt:=⟨Wq,⟨Wr off n m off' n' m' (.val false [.sx 2 L 1]) (.val false [.v (.int .u64 c)]) (iA i),PR xs ys zs,3,p⟩⟩
theorem ASx:AR Tryz.prog oSy (some 0) 100 2 (some ([0,1,6,7,8],[0,1],2)) (Af wsubF (Dh off n m off' n' m') (CF xs ys) 2 [])=some ([],[],⟨Wq,⟨Wr off n m off' n' m' Jw (.val false [.n .u64 0]) (.val false [.n .i64 0]),CF xs ys,2,[]⟩⟩):=by kernel_rfl
theorem ASy:(⟨Wq,⟨(Hz 2 1 [6] 0 (Wr off n m off' n' m' Jw (.val false [.n .u64 0]) (.val false [.n .i64 0]))).map Dr,CF xs ys++[(2,some ⟨24,[.seq .u64 []],true⟩)],2+1,[]⟩⟩:ASt)=NM off n m off' n' m' xs ys [] 0 0 0 []:=by kernel_rfl
noncomputable def R6 (k:Int) (T:Int):ASt:=⟨Wq,⟨EQ (Bj 2 [4]) (Wr off n m off' n' m' (.val false [.sx 2 (L+1) 1]) (.val false [.n .u64 k]) (iA (wI (i+1)))),Dp (Bj 2 [4]) (PR xs ys (zs.take L++[T])),5,[]⟩⟩
def NN:Int:=wu (wu (Ai xs off n i-Ai ys off' n' i)-c)
def R9 (b:Bool) (r:List (Bool×Bool)):List (Bool×Bool):=(Nat.ble L zs.length,true)::(fC (L+1),true)::(decide (Ai xs off n i<Ai ys off' n' i),b)::r
theorem ASz:AR Tryz.prog oSy (some 0) 100 2 NL (NM off n m off' n' m' xs ys zs L c i [true,true])=some (Lk off n off' n' xs ys i (R9 off n off' n' xs ys zs L i true []),[],R6 off n m off' n' m' xs ys zs L i 1 (NN off n off' n' xs ys c i)):=by kernel_rfl
theorem AS0:AR Tryz.prog oSy (some 0) 100 2 NL (NM off n m off' n' m' xs ys zs L c i [true,false,true,true])=some (Lk off n off' n' xs ys i (R9 off n off' n' xs ys zs L i false [(decide (Ai xs off n i=Ai ys off' n' i),true),(decide (c=1),true)]),[],R6 off n m off' n' m' xs ys zs L i 1 (NN off n off' n' xs ys c i)):=by kernel_rfl
theorem AS1:AR Tryz.prog oSy (some 0) 100 2 NL (NM off n m off' n' m' xs ys zs L c i [true,false,true,false])=some (Lk off n off' n' xs ys i (R9 off n off' n' xs ys zs L i false [(decide (Ai xs off n i=Ai ys off' n' i),true),(decide (c=1),false)]),[],R6 off n m off' n' m' xs ys zs L i 0 (NN off n off' n' xs ys c i)):=by kernel_rfl
theorem AS2:AR Tryz.prog oSy (some 0) 100 2 NL (NM off n m off' n' m' xs ys zs L c i [true,false,false])=some (Lk off n off' n' xs ys i (R9 off n off' n' xs ys zs L i false [(decide (Ai xs off n i=Ai ys off' n' i),false)]),[],R6 off n m off' n' m' xs ys zs L i 0 (NN off n off' n' xs ys c i)):=by kernel_rfl
theorem AS3:AP Tryz.prog oSy wsubF 100 2 [2] (NM off n m off' n' m' xs ys zs L c i [false])=some ((AH .i64 n,true)::(AH .i64 n',true)::(decide (i<Cg n n'),false)::[],[],.tup [(false,[.sx 2 L 1]),(false,[.v (.int .u64 c)])],FO zs):=by kernel_rfl
end
theorem AS4 {X Y c:Int} (hX:0≤X∧X<18446744073709551616) (hY:0≤Y∧Y<18446744073709551616) (hc:0≤c∧c≤1) :
  wu (wu (X+Y)+c)=Ba X Y c∧((wu (X+Y)<X∨wu (wu (X+Y)+c)<wu (X+Y))→Bt X Y c=1)∧(¬ wu (X+Y)<X→¬ wu (wu (X+Y)+c)<wu (X+Y)→Bt X Y c=0):=by
 simp only [eW]
 unfold Ba Bt
 omega
def Ey (A B i:Nat):Nat:=if A % 2^(64*i)<B % 2^(64*i) then 1 else 0
theorem AS5 (A B i:Nat):Ey A B i≤1:=by unfold Ey;split<;>omega
theorem AS6 {A B Q:Nat} (h:B≤A) (hp:0<Q):A / Q=(A-B) / Q+B / Q+(if A % Q<B % Q then 1 else 0):=by
 have ha:=Nat.div_add_mod A Q
 have hb:=Nat.div_add_mod B Q
 have la:=Nat.mod_lt A hp
 have lb:=Nat.mod_lt B hp
 have hq:B / Q≤A / Q:=Nat.div_le_div_right h
 obtain ⟨d,hd⟩:∃ d,A / Q=B / Q+d:=⟨A / Q-B / Q,by omega⟩
 rw [hd,Nat.mul_add] at ha
 by_cases c:A % Q<B % Q
 ·rw [if_pos c]
  have h0:d≠0:=fun e=>by rw [e,Nat.mul_zero] at ha;omega
  obtain ⟨k,rfl⟩:∃ k,d=k+1:=⟨d-1,by omega⟩
  rw [Nat.mul_succ] at ha
  have e:A-B=(Q+A % Q-B % Q)+Q*k:=by omega
  rw [hd,e,Nat.add_mul_div_left _ _ hp,Nat.div_eq_of_lt (by omega:Q+A % Q-B % Q<Q)]
  omega
 ·rw [if_neg c]
  have e:A-B=(A % Q-B % Q)+Q*d:=by omega
  rw [hd,e,Nat.add_mul_div_left _ _ hp,Nat.div_eq_of_lt (by omega:A % Q-B % Q<Q)]
  omega
theorem AS7 (A B i:Nat):Ey A B (i+1)=if A / 2^(64*i) % 18446744073709551616<B / 2^(64*i) % 18446744073709551616∨(A / 2^(64*i) % 18446744073709551616=B / 2^(64*i) % 18446744073709551616∧Ey A B i=1) then 1 else 0:=by
 have e:2^(64*(i+1))=2^(64*i)*18446744073709551616:=by rw [show 64*(i+1)=64*i+64 by omega,Nat.pow_add]
 unfold Ey
 rw [e,Nat.mod_mul,Nat.mod_mul]
 have hp:0<2^(64*i):=Nat.pow_pos (by decide)
 generalize 2^(64*i)=Q at *
 have la:=Nat.mod_lt A hp
 have lb:=Nat.mod_lt B hp
 generalize A / Q % 18446744073709551616=x
 generalize B / Q % 18446744073709551616=y
 generalize A % Q=u at *
 generalize B % Q=v at *
 rcases Nat.lt_trichotomy x y with h | h | h
 ·have:Q*(x+1)≤Q*y:=Nat.mul_le_mul_left Q h
  rw [Nat.mul_succ] at this
  rw [if_pos (by omega),if_pos (.inl h)]
 ·subst h
  by_cases c:u<v
  ·rw [if_pos (by omega),if_pos (.inr ⟨rfl,by rw [if_pos c]⟩)]
  ·rw [if_neg (by omega),if_neg (by rintro (q | ⟨_,q⟩);exact absurd q (Nat.lt_irrefl _);rw [if_neg c] at q;cases q)]
 ·have:Q*(y+1)≤Q*x:=Nat.mul_le_mul_left Q h
  rw [Nat.mul_succ] at this
  rw [if_neg (by omega),if_neg (by omega)]
theorem AS8 {X Y D b c q:Nat} (h:q=D+c+b) (hX:X=q % 18446744073709551616) (hc:Y=c % 18446744073709551616):wu (wu ((X:Int)-(Y:Int))-(b:Int))=((D % 18446744073709551616:Nat):Int):=by
 simp only [eW]
 omega
theorem zV (S i:Nat):wl (i+1) S=wl i S++[AB S i]:=by unfold wl;rw [List.range_succ,List.map_append];rfl
def Ll (M:Nat) (c:Int):AV:=.tup [(false,[.sx 2 M 1]),(false,[.v (.int .u64 c)])]
theorem Ws {off n off' n':Nat} {xs ys:List Int} (hl:off+n≤xs.length) (hl':off'+n'≤ys.length) (hn:n≤17592186044415) (hn':n'≤17592186044415) {i:Nat} (hi:i<max n n') {r:List (Bool×Bool)} (hr:AQ r):AQ (Lk off n off' n' xs ys i r):=by
 have h1:AH .i64 (n:Int)=true:=Cf (by omega)
 have h2:AH .i64 (n':Int)=true:=Cf (by omega)
 have hm:Cg (n:Int) n'=((max n n':Nat):Int):=by unfold Cg;split<;>omega
 exact ⟨h1,h2,by rw [hm];exact decide_eq_true (by omega),Nat.ble_eq_true_of_le hl,h1,decide_eq_true (by omega),Nat.ble_eq_true_of_le hl',h2,decide_eq_true (by omega),hr⟩
section
variable {off n m off' n' m':Nat} {xs ys:List Int} (hx:∀ d∈xs,0≤d∧d<18446744073709551616) (hy:∀ d∈ys,0≤d∧d<18446744073709551616) (hl:off+n≤xs.length) (hl':off'+n'≤ys.length)
 (hn:n≤17592186044415) (hn':n'≤17592186044415)
include hx hy hl hl' hn hn'
theorem AS9:Ah Tryz.prog 334 (Dh off n m off' n' m') (CF xs ys) 2 [] (Ll (max n n') (D_ (AF (AA xs off n)) (AF (AA ys off' n')) (max n n'))) (FO (wl (max n n') (AF (AA xs off n)+AF (AA ys off' n')))):=by
 refine Av (path:=[]) Tryz.func334 (by kernel_rfl) (by kernel_rfl) fun β0 w0 hb=>?_
 refine Ab Hn AE (ASq off n m off' n' m' xs ys) trivial (AL (by kernel_rfl)) hb (fun _ h=>by cases h) fun _=>?_
 refine P7 (ts:=[6]) (sz:=1) (ty:=24) (kd:=.u64) rfl (hb 2 (Nat.le_refl _)) (Ds ?_)
 rw [ASr]
 have h1:AH .i64 (n:Int)=true:=Cf (by omega)
 have h2:AH .i64 (n':Int)=true:=Cf (by omega)
 have hm:Cg (n:Int) n'=((max n n':Nat):Int):=by unfold Cg;split<;>omega
 have loop:∀ r i,i+r=max n n'→ASafe Tryz.prog 334 β0 w0 (Ax β0 w0 [] (Ll (max n n') (D_ (AF (AA xs off n)) (AF (AA ys off' n')) (max n n'))) (FO (wl (max n n') (AF (AA xs off n)+AF (AA ys off' n'))))) waddF.ntmps []
   (PS off n m off' n' m' xs ys (wl i (AF (AA xs off n)+AF (AA ys off' n'))) i (D_ (AF (AA xs off n)) (AF (AA ys off' n')) i) i []):=by
  intro r
  induction r with
  | zero =>
   intro i hi
   obtain rfl:i=max n n':=by omega
   exact AZ [false] (Aq Hn AE Tryz.func334 (ASw ..) ⟨h1,h2,by rw [hm];exact decide_eq_false (by omega),trivial⟩ (AL (by kernel_rfl)) hb (fun _ h=>by cases h))
  | succ r ih =>
   intro i hi
   have ea:=MS (off:=off) (n:=n) hx i
   have eb:=MS (off:=off') (n:=n') hy i
   obtain ⟨w1,w2⟩:=AC8 (AF (AA xs off n)) (AF (AA ys off' n')) i
   have hc1:=AC5 (AF (AA xs off n)) (AF (AA ys off' n')) i
   rw [← ea,← eb] at w1 w2
   obtain ⟨k1,k2,k3⟩:=AS4 (X:=Ai xs off n i) (Y:=Ai ys off' n' i) (c:=(D_ (AF (AA xs off n)) (AF (AA ys off' n')) i:Nat)) (by rw [ea];omega) (by rw [eb];omega) (by omega)
   rw [w1] at k1
   rw [w2] at k2 k3
   have hD:AQ (Wo (wl i (AF (AA xs off n)+AF (AA ys off' n'))) i):=⟨Nat.ble_eq_true_of_le (by rw [G3];omega),zU (by omega),trivial⟩
   have next:∀ k:Nat,(D_ (AF (AA xs off n)) (AF (AA ys off' n')) (i+1):Int)=k→k<2→ASafe Tryz.prog 334 β0 w0 (Ax β0 w0 [] (Ll (max n n') (D_ (AF (AA xs off n)) (AF (AA ys off' n')) (max n n'))) (FO (wl (max n n') (AF (AA xs off n)+AF (AA ys off' n'))))) waddF.ntmps []
     (Wp off n m off' n' m' xs ys (wl i (AF (AA xs off n)+AF (AA ys off' n'))) i i k (wu (wu (Ai xs off n i+Ai ys off' n' i)+(D_ (AF (AA xs off n)) (AF (AA ys off' n')) i:Nat)))):=by
    intro k hk hk2
    refine ER (m:=3) (by kernel_rfl) hb (Ds ?_)
    rw [k1,Cu (by rw [G3]),← zV,Al (z:=(i:Int)+1) (by omega)]
    have:=ih (i+1) (by omega)
    rw [hk] at this
    match k,hk2 with
    | 0,_=>exact this
    | 1,_=>exact this
   by_cases c1:wu (Ai xs off n i+Ai ys off' n' i)<Ai xs off n i
   ·exact AZ [true,true] (Ab Hn AE (ASs ..) (Ws hl hl' hn hn' (by omega) ⟨decide_eq_true c1,hD⟩) (AL (by kernel_rfl)) hb (fun _ h=>by cases h) fun _=>next 1 (k2 (.inl c1)) (by decide))
   ·by_cases c2:wu (wu (Ai xs off n i+Ai ys off' n' i)+(D_ (AF (AA xs off n)) (AF (AA ys off' n')) i:Nat))<wu (Ai xs off n i+Ai ys off' n' i)
    ·exact AZ [true,false,true] (Ab Hn AE (ASu ..) (Ws hl hl' hn hn' (by omega) ⟨decide_eq_false c1,decide_eq_true c2,hD⟩) (AL (by kernel_rfl)) hb (fun _ h=>by cases h) fun _=>next 1 (k2 (.inr c2)) (by decide))
    ·exact AZ [true,false,false] (Ab Hn AE (ASv ..) (Ws hl hl' hn hn' (by omega) ⟨decide_eq_false c1,decide_eq_false c2,hD⟩) (AL (by kernel_rfl)) hb (fun _ h=>by cases h) fun _=>next 0 (k3 c1 c2) (by decide))
 have e0:D_ (AF (AA xs off n)) (AF (AA ys off' n')) 0=0:=by unfold D_;simp [Nat.mod_one]
 have:=loop (max n n') 0 (by omega)
 rw [e0] at this
 exact this
theorem AS_ (hle:AF (AA ys off' n')≤AF (AA xs off n)):Ah Tryz.prog 294 (Dh off n m off' n' m') (CF xs ys) 2 [] (Ll (max n n') (Ey (AF (AA xs off n)) (AF (AA ys off' n')) (max n n'))) (FO (wl (max n n') (AF (AA xs off n)-AF (AA ys off' n')))):=by
 refine Av (path:=[]) Tryz.func294 (by kernel_rfl) (by kernel_rfl) fun β0 w0 hb=>?_
 refine Ab Hn AE (ASx off n m off' n' m' xs ys) trivial (AL (by kernel_rfl)) hb (fun _ h=>by cases h) fun _=>?_
 refine P7 (ts:=[6]) (sz:=1) (ty:=24) (kd:=.u64) rfl (hb 2 (Nat.le_refl _)) (Ds ?_)
 rw [ASy]
 have h1:AH .i64 (n:Int)=true:=Cf (by omega)
 have h2:AH .i64 (n':Int)=true:=Cf (by omega)
 have hm:Cg (n:Int) n'=((max n n':Nat):Int):=by unfold Cg;split<;>omega
 have loop:∀ r i,i+r=max n n'→ASafe Tryz.prog 294 β0 w0 (Ax β0 w0 [] (Ll (max n n') (Ey (AF (AA xs off n)) (AF (AA ys off' n')) (max n n'))) (FO (wl (max n n') (AF (AA xs off n)-AF (AA ys off' n'))))) wsubF.ntmps []
   (NM off n m off' n' m' xs ys (wl i (AF (AA xs off n)-AF (AA ys off' n'))) i (Ey (AF (AA xs off n)) (AF (AA ys off' n')) i) i []):=by
  intro r
  induction r with
  | zero =>
   intro i hi
   obtain rfl:i=max n n':=by omega
   exact AZ [false] (Aq Hn AE Tryz.func294 (AS3 ..) ⟨h1,h2,by rw [hm];exact decide_eq_false (by omega),trivial⟩ (AL (by kernel_rfl)) hb (fun _ h=>by cases h))
  | succ r ih =>
   intro i hi
   have ea:=MS (off:=off) (n:=n) hx i
   have eb:=MS (off:=off') (n:=n') hy i
   have hc1:=AS5 (AF (AA xs off n)) (AF (AA ys off' n')) i
   have hg:=AS6 (A:=AF (AA xs off n)) (B:=AF (AA ys off' n')) (Q:=2^(64*i)) hle (Nat.pow_pos (by decide))
   have hnx:=AS7 (AF (AA xs off n)) (AF (AA ys off' n')) i
   have k1:NN off n off' n' xs ys (Ey (AF (AA xs off n)) (AF (AA ys off' n')) i:Nat) i=AB (AF (AA xs off n)-AF (AA ys off' n')) i:=by
    unfold NN AB
    rw [ea,eb]
    exact AS8 hg rfl rfl
   have hD:∀ b r,decide (Ai xs off n i<Ai ys off' n' i)=b→AQ r→AQ (R9 off n off' n' xs ys (wl i (AF (AA xs off n)-AF (AA ys off' n'))) i i b r):=fun b r hb hr=>⟨Nat.ble_eq_true_of_le (by rw [G3];omega),zU (by omega),hb,hr⟩
   have next:∀ k:Nat,Ey (AF (AA xs off n)) (AF (AA ys off' n')) (i+1)=k→k<2→ASafe Tryz.prog 294 β0 w0 (Ax β0 w0 [] (Ll (max n n') (Ey (AF (AA xs off n)) (AF (AA ys off' n')) (max n n'))) (FO (wl (max n n') (AF (AA xs off n)-AF (AA ys off' n'))))) wsubF.ntmps []
     (R6 off n m off' n' m' xs ys (wl i (AF (AA xs off n)-AF (AA ys off' n'))) i i k (NN off n off' n' xs ys (Ey (AF (AA xs off n)) (AF (AA ys off' n')) i:Nat) i)):=by
    intro k hk hk2
    refine ER (m:=3) (by kernel_rfl) hb (Ds ?_)
    rw [k1,Cu (by rw [G3]),← zV,Al (z:=(i:Int)+1) (by omega)]
    have:=ih (i+1) (by omega)
    rw [hk] at this
    match k,hk2 with
    | 0,_=>exact this
    | 1,_=>exact this
   have go:=fun r (hr:AQ r)=>Ws hl hl' hn hn' (i:=i) (by omega) hr
   rw [ea,eb] at hD
   by_cases c1:AF (AA xs off n) / 2^(64*i) % 18446744073709551616<AF (AA ys off' n') / 2^(64*i) % 18446744073709551616
   ·rw [if_pos (.inl c1)] at hnx
    exact AZ [true,true] (Ab Hn AE (ASz ..) (go _ (hD _ _ (decide_eq_true (by omega)) trivial)) (AL (by kernel_rfl)) hb (fun _ h=>by cases h) fun _=>next 1 hnx (by decide))
   ·by_cases c2:AF (AA xs off n) / 2^(64*i) % 18446744073709551616=AF (AA ys off' n') / 2^(64*i) % 18446744073709551616
    ·have e2:decide (Ai xs off n i=Ai ys off' n' i)=true:=by rw [ea,eb,c2];exact decide_eq_true rfl
     by_cases c3:Ey (AF (AA xs off n)) (AF (AA ys off' n')) i=1
     ·rw [if_pos (.inr ⟨c2,c3⟩)] at hnx
      exact AZ [true,false,true,true] (Ab Hn AE (AS0 ..) (go _ (hD _ _ (decide_eq_false (by omega)) ⟨e2,decide_eq_true (by omega),trivial⟩)) (AL (by kernel_rfl)) hb (fun _ h=>by cases h) fun _=>next 1 hnx (by decide))
     ·rw [if_neg (by rintro (q | q);exact c1 q;exact c3 q.2)] at hnx
      exact AZ [true,false,true,false] (Ab Hn AE (AS1 ..) (go _ (hD _ _ (decide_eq_false (by omega)) ⟨e2,decide_eq_false (by omega),trivial⟩)) (AL (by kernel_rfl)) hb (fun _ h=>by cases h) fun _=>next 0 hnx (by decide))
    ·have e2:decide (Ai xs off n i=Ai ys off' n' i)=false:=by rw [ea,eb];exact decide_eq_false (by omega)
     rw [if_neg (by rintro (q | q);exact c1 q;exact c2 q.1)] at hnx
     exact AZ [true,false,false] (Ab Hn AE (AS2 ..) (go _ (hD _ _ (decide_eq_false (by omega)) ⟨e2,trivial⟩)) (AL (by kernel_rfl)) hb (fun _ h=>by cases h) fun _=>next 0 hnx (by decide))
 have e0:Ey (AF (AA xs off n)) (AF (AA ys off' n')) 0=0:=by unfold Ey;simp [Nat.mod_one]
 have:=loop (max n n') 0 (by omega)
 rw [e0] at this
 exact this
end
def PT (val:Nat→List Int→Nat→List Int→AV) (hp:Nat→List Int→Nat→List Int→Heap) (nw:Nat) (cs:List Int→List Int→List (Bool×Bool)):ASpec:=fun args H fr path=>match args with
 | [S,T]=>match Bw S,Bw T with
  | some (k,o,n),some (t,p,m)=>match AG H k,AG H t with
   | some ⟨_,ds,_⟩,some ⟨_,es,_⟩=>match As .u64 ds,As .u64 es with
    | some xs,some ys=>some (A8 [k,t] 2 fr nw [] (val n (AA xs o n) m (AA ys p m)) (hp n (AA xs o n) m (AA ys p m)) ((Nat.ble (o+n) xs.length,true)::(Nat.ble (p+m) ys.length,true)::(Nat.ble n 17592186044415,true)::(Nat.ble m 17592186044415,true)::cs (AA xs o n) (AA ys p m)) path)
    | _,_=>none
   | _,_=>none
  | _,_=>none
 | _=>none
theorem Wt {f:FuncId} {fn:Func} {val:Nat→List Int→Nat→List Int→AV} {hp:Nat→List Int→Nat→List Int→Heap} {nw:Nat} {cs:List Int→List Int→List (Bool×Bool)} (hfn:Tryz.prog.funcs[f]? = some fn) (hb:fn.body.isSome=true) (hname:(fn.name=="runtime.NumGoroutine")=false)
  (hk:∀ n a m b,C6 2 nw [] (val n a m b) (hp n a m b)=true)
  (h:∀ (off n m off' n' m':Nat) (xs ys:List Int),(∀ d∈xs,0≤d∧d<18446744073709551616)→(∀ d∈ys,0≤d∧d<18446744073709551616)→off+n≤xs.length→off'+n'≤ys.length→n≤17592186044415→n'≤17592186044415→AQ (cs (AA xs off n) (AA ys off' n')) →
   Ah Tryz.prog f (Dh off n m off' n' m') (CF xs ys) 2 [] (val n (AA xs off n) n' (AA ys off' n')) (hp n (AA xs off n) n' (AA ys off' n'))):A7 Tryz.prog f (PT val hp nw cs):=by
 refine CG hfn hb hname fun args H fr path r hs=>?_
 unfold PT at hs
 split at hs
 case h_2=>cases hs
 rename_i S T
 split at hs
 case h_2=>cases hs
 rename_i k o n t p m hS hT
 split at hs
 case h_2=>cases hs
 rename_i ty ds op ty' es op' hk' ht'
 split at hs
 case h_2=>cases hs
 rename_i xs ys hx hy
 injection hs with hs
 refine ⟨[k,t],2,nw,[],_,_,_,path,hs.symm,fun β us w ha hg hc=>?_⟩
 obtain ⟨u1,us1,r1,⟨u2,us2,r2,ha,rfl⟩,rfl⟩:=ha
 obtain ⟨m1,r1⟩:=C3 hS r1
 obtain ⟨m2,r2⟩:=C3 hT r2
 obtain ⟨g1,g1',g2,g3⟩:=Tw hg hk' ht' hx hy
 obtain ⟨c1,c2,c3,c4,c5⟩:=hc
 exact ⟨_,_,h o n m1 p m m2 xs ys g1 g1' (Nat.le_of_ble_eq_true c1) (Nat.le_of_ble_eq_true c2) (Nat.le_of_ble_eq_true c3) (Nat.le_of_ble_eq_true c4) c5,hk _ _ _ _,⟨u1,_,Bl (by omega) rfl r1,⟨u2,_,Bl (by omega) rfl r2,ha,rfl⟩,rfl⟩,g2,g3⟩
def AS':ASpec:=PT (fun n a m b=>Ll (max n m) (D_ (AF a) (AF b) (max n m))) (fun n a m b=>FO (wl (max n m) (AF a+AF b))) 1 (fun _ _=>[])
def ATA:ASpec:=PT (fun n a m b=>Ll (max n m) (Ey (AF a) (AF b) (max n m))) (fun n a m b=>FO (wl (max n m) (AF a-AF b))) 1 (fun a b=>[(decide (AF b≤AF a),true)])
def ATB:ASpec:=PT (fun _ a _ b=>.val false [.v (.int .i64 (Cb (AF a) (AF b)))]) (fun _ _ _ _=>[]) 0 (fun _ _=>[])
noncomputable def SYb0:List (FuncId×ASpec):=(334,AS')::(294,ATA)::(240,ES ATB)::SSy
theorem zW:AU Tryz.prog SYb0:=⟨Wt Tryz.func334 (by kernel_rfl) (by kernel_rfl) (fun _ _ _ _=>by kernel_rfl) fun _ _ _ _ _ _ _ _ hx hy hl hl' hn hn' _=>AS9 hx hy hl hl' hn hn',Wt Tryz.func294 (by kernel_rfl) (by kernel_rfl) (fun _ _ _ _=>by kernel_rfl) fun _ _ _ _ _ _ _ _ hx hy hl hl' hn hn' hc=>AS_ hx hy hl hl' hn hn' (of_decide_eq_true hc.1),E8 (Wt Tryz.func240 (by kernel_rfl) (by kernel_rfl) (fun _ _ _ _=>by kernel_rfl) fun _ _ _ _ _ _ _ _ hx hy hl hl' hn hn' _=>o8 hx hy hl hl' (Cf (by omega)) (Cf (by omega))),zT⟩
noncomputable abbrev oYb0:Orc:=AI SYb0 KV
theorem ATC:OrcOk Tryz.prog oYb0:=AK zW BT
noncomputable def SYb:List (FuncId×ASpec):=(293,DG Tryz.prog oYb0 Tryz.f293 100)::SYb0
theorem zX:AU Tryz.prog SYb:=⟨Dd ATC AE Tryz.func293 (by kernel_rfl) (by kernel_rfl) 100,zW⟩
noncomputable abbrev oYb:Orc:=AI SYb KV
theorem R_:OrcOk Tryz.prog oYb:=AK zX BT
noncomputable abbrev wmodF:Func:=Tryz.f237
def z5:List Int:=[0,0,0,0,0]
section
variable (off n m off' m':Nat) (xs ys zs:List Int) (i:Int)
noncomputable def zY (p:List Bool):ASt:=Af wmodF (Dh off n m off' 4 m') (CF xs ys) 2 p
noncomputable def Wu:List Item:=Bh (AR Tryz.prog oYb (some 0) 300 2 none (zY 0 0 0 0 0 [] [] [false]))
noncomputable def Wv (s i:AV):List AV:=Cs wmodF.ntmps [(0,AJ 0 off n m),(1,AJ 1 off' 4 m'),(6,s),(7,i)]
noncomputable def Ww (p:List Bool):ASt:=⟨Wu,⟨Wv off n m off' m' (.val false [.sx 2 5 1]) (iA i),PR xs ys zs,3,p⟩⟩
def zZ:Heap:=CF xs ys++[(2,some ⟨24,[.seq .u64 z5],false⟩)]
noncomputable def ATD (p:List Bool):ASt:=⟨Wu,⟨Wv off n m off' m' (.val false [.sl 2 0 5 5]) (iA i),zZ xs ys,3,p⟩⟩
theorem ATE:AR Tryz.prog oYb (some 0) 300 2 (some ([0,1,6,7],[0,1,3],4)) (zY off n m off' m' xs ys [false]) =
 some ([(Nat.ble (off'+4) ys.length,true),(true,true),(true,true),(true,true),(decide (Cb (AF (AA ys off' 4)) (AF (AA [] 0 0))=0),false),(true,true),(true,true),(AH .i64 n,true)],[],
  ⟨Wu,⟨EQ (Bj 2 [3]) (Wv off n m off' m' (.val false [.sl 2 0 5 5]) (iA (wI (wI (64*(n:Int))-1)))),Dp (Bj 2 [3]) (zZ xs ys),4,[]⟩⟩):=by kernel_rfl
def NO:List Int:=wl 5 (AF (AA zs 0 5)+AF (AA zs 0 5))
def Jz:List Int:=(NO zs).set (0+Int.toNat 0*1) (wu ((NO zs).getD (0+Int.toNat 0*1) 0+JB xs off i))
def SA (b:Bool) (r:List (Bool×Bool)):List (Bool×Bool):=(decide (0≤i),true)::(Nat.ble (0+5) zs.length,true)::(Nat.ble (0+5) zs.length,true)::(true,true)::(true,true)::(true,true)::(decide (0+Int.toNat 0*1<(NO zs).length),true)::(true,true) ::
 (decide (0≤wI (Int.tdiv i 64)∧wI (Int.tdiv i 64)<n),true)::(decide (off+(wI (Int.tdiv i 64)).toNat*1<xs.length),true)::(decide (0≤i∧(0:Int)<64),true)::(decide (0≤wu (Int.tmod i 64)∧0≤xs.getD (off+(wI (Int.tdiv i 64)).toNat*1) 0),true)::(true,true) ::
 (decide (0+Int.toNat 0*1<(NO zs).length),true)::(Nat.ble (0+5) (Jz off xs zs i).length,true)::(Nat.ble (off'+4) ys.length,true)::(true,true)::(true,true)::(decide (0≤Cb (AF (AA (Jz off xs zs i) 0 5)) (AF (AA ys off' 4))),b)::r
noncomputable def fD (K:List Nat) (fr:Nat) (ws:List Int):ASt:=⟨Wu,⟨EQ (Bj 2 K) (Wv off n m off' m' (.val false [.sx 2 5 1]) (iA (wI (i-1)))),Dp (Bj 2 K) (PR xs ys ws),fr,[]⟩⟩
theorem ATF:AR Tryz.prog oYb (some 0) 300 2 (some ([0,1,6,7],[0,1,3],4)) (Ww off n m off' m' xs ys zs i [true,false])=some (SA off n off' xs ys zs i false [],[],fD off n m off' m' xs ys i [3] 4 (Jz off xs zs i)):=by kernel_rfl
def fE:List Int:=wl 5 (AF (AA (Jz off xs zs i) 0 5)-AF (AA ys off' 4))
theorem ATG:AR Tryz.prog oYb (some 0) 300 2 (some ([0,1,6,7],[0,1,4],5)) (Ww off n m off' m' xs ys zs i [true,true]) =
 some (SA off n off' xs ys zs i true [(Nat.ble (0+5) (Jz off xs zs i).length,true),(Nat.ble (off'+4) ys.length,true),(true,true),(true,true),(decide (AF (AA ys off' 4)≤AF (AA (Jz off xs zs i) 0 5)),true)],[],fD off n m off' m' xs ys i [4] 5 (fE off off' xs ys zs i)):=by kernel_rfl
theorem ATH:AR Tryz.prog oYb (some 0) 300 2 (some ([0,1,6,7],[0,1,3],4)) (ATD off n m off' m' xs ys i [true,false])=some (SA off n off' xs ys z5 i false [],[],fD off n m off' m' xs ys i [3] 4 (Jz off xs z5 i)):=by kernel_rfl
def Wx:AV:=.tup [(false,[.sx 2 4 1]),(false,[.n .i64 0])]
theorem ATI:AP Tryz.prog oYb wmodF 300 2 [2] (Ww off n m off' m' xs ys zs i [false])=some ([(decide (0≤i),false),(true,true),(true,true)],[],Wx,FO zs):=by kernel_rfl
end
theorem ATJ (N b:Nat) (hb:b≤1):(wl 5 (N+N)).set (0+Int.toNat 0*1) (wu ((wl 5 (N+N)).getD (0+Int.toNat 0*1) 0+(b:Int)))=wl 5 (N+N+b):=by
 have key:∀ k,(N+N+b) / 2^(64*(k+1))=(N+N) / 2^(64*(k+1)):=fun k=>by
  rw [show 64*(k+1)=(64*k+63)+1 by omega,Nat.pow_succ,Nat.mul_comm,← Nat.div_div_eq_div_mul,← Nat.div_div_eq_div_mul,show (N+N+b) / 2=(N+N) / 2 by omega]
 have w:∀ k,AB (N+N+b) (k+1)=AB (N+N) (k+1):=fun k=>by unfold AB;rw [key k]
 have w0:wu (AB (N+N) 0+(b:Int))=AB (N+N+b) 0:=by
  unfold AB
  rw [eW,Nat.mul_zero,Nat.pow_zero,Nat.div_one,Nat.div_one,show (2:Nat)^64=18446744073709551616 from rfl]
  omega
 show [wu (AB (N+N) 0+(b:Int)),AB (N+N) 1,AB (N+N) 2,AB (N+N) 3,AB (N+N) 4]=[AB (N+N+b) 0,AB (N+N+b) 1,AB (N+N+b) 2,AB (N+N+b) 3,AB (N+N+b) 4]
 rw [w0,w 0,w 1,w 2,w 3]
theorem ATK {X M:Nat} (h:M≤X) (h2:X<M+M):X % M=X-M:=by rw [Nat.mod_eq_sub_mod h,Nat.mod_eq_of_lt (by omega)]
def P5:Nat:=2135987035920910082395021706169552114602704522356652769947041607822219725780640550022962086936576
theorem ATL:P5=2^(64*5):=by kernel_rfl
theorem Wy {x:Nat} (h:x<P5):AF (AA (wl 5 x) 0 5)=x:=by rw [C5 (G3 5 x)];exact Mq (by rw [← ATL];exact h)
section
variable {off n m off' m':Nat} {xs ys:List Int} (hx:∀ d∈xs,0≤d∧d<18446744073709551616) (hl:off+n≤xs.length) (hl':off'+4≤ys.length) (hn:n≤17592186044415)
 {M:Nat} (hM:AF (AA ys off' 4)=M) (h0:0<M) (hM2:M+M+1<P5) {β0:Env} {w0:World} (hb:∀ b,2≤b→β0 b=none)
theorem fF {N c:Nat} (hN:N<P5) (hx:∀ d∈xs,0≤d∧d<18446744073709551616) (hn:n≤17592186044415) (hc:c<64*n):NO (wl 5 N)=wl 5 (N+N)∧Jz off xs (wl 5 N) (c:Int)=wl 5 (N+N+AF (AA xs off n) / 2^c % 2):=by
 have e1:NO (wl 5 N)=wl 5 (N+N):=by unfold NO;rw [Wy hN]
 refine ⟨e1,?_⟩
 obtain ⟨_,_,_,_,f5⟩:=aQ (off:=off) hx (by omega:n≤1125899906842624) hc
 unfold Jz
 rw [e1,(US xs off c).1,f5]
 exact ATJ N _ (by omega)
theorem z4 {A B:Nat}:decide (0≤Cb A B)=decide (B≤A):=by
 unfold Cb
 by_cases h:A<B
 ·rw [if_pos h,decide_eq_false (by decide),decide_eq_false (by omega)]
 ·rw [if_neg h,decide_eq_true (by omega:B≤A)]
  split<;>exact decide_eq_true (by decide)
include hx hl hl' hn hM hM2 in
theorem fG {N c:Nat} (hN:N<M) (hc:c<64*n) {b:Bool} (hbit:decide (M≤N+N+AF (AA xs off n) / 2^c % 2)=b) {r:List (Bool×Bool)} (hr:AQ r):AQ (SA off n off' xs ys (wl 5 N) (c:Int) b r):=by
 obtain ⟨e1,e2⟩:=fF (off:=off) (N:=N) (c:=c) (by omega) hx hn hc
 obtain ⟨f1,f2,f3,f4,_⟩:=aQ (off:=off) hx (by omega:n≤1125899906842624) hc
 have hw:=(US xs off c).2
 have hpw:Bp xs off c=xs.getD (off+(wI (Int.tdiv (c:Int) 64)).toNat*1) 0:=rfl
 unfold SA
 rw [e1,e2,G3,G3,G3,Wy (by omega),hM,z4,← hpw]
 refine ⟨decide_eq_true (by omega),rfl,rfl,rfl,rfl,rfl,rfl,rfl,?_,?_,decide_eq_true ⟨by omega,by decide⟩,?_,rfl,rfl,rfl,Nat.ble_eq_true_of_le hl',rfl,rfl,hbit,hr⟩
 ·rw [f1];exact decide_eq_true (by omega)
 ·rw [f1];exact decide_eq_true (by omega)
 ·exact decide_eq_true ⟨by unfold wu;rw [hw];exact f4,f3⟩
include hx hl hl' hn hM h0 hM2 hb in
theorem ATM:∀ c,c≤64*n→ASafe Tryz.prog 237 β0 w0 (Ax β0 w0 [] Wx (FO (wl 5 (AF (AA xs off n) % M)))) wmodF.ntmps [] (Ww off n m off' m' xs ys (wl 5 (AF (AA xs off n) / 2^c % M)) ((c:Int)-1) []):=by
 intro c
 induction c with
 | zero =>
  intro _
  rw [Nat.pow_zero,Nat.div_one]
  exact AZ [false] (Aq R_ AE Tryz.func237 (ATI ..) ⟨rfl,rfl,rfl,trivial⟩ (AL (by kernel_rfl)) hb (fun _ h=>by cases h))
 | succ c ih =>
  intro hc
  have hi:((c+1:Nat):Int)-1=(c:Int):=by omega
  rw [hi]
  have hN:AF (AA xs off n) / 2^(c+1) % M<M:=Nat.mod_lt _ h0
  have hd:=aR (AF (AA xs off n)) c
  obtain ⟨e1,e2⟩:=fF (off:=off) (N:=AF (AA xs off n) / 2^(c+1) % M) (c:=c) (by omega) hx hn (by omega)
  have hq:AF (AA xs off n) / 2^c % M=(AF (AA xs off n) / 2^(c+1) % M+AF (AA xs off n) / 2^(c+1) % M+AF (AA xs off n) / 2^c % 2) % M:=by
   conv=>lhs;rw [hd]
   rw [Nat.two_mul]
   conv=>lhs;rw [Nat.add_mod,Nat.add_mod (AF (AA xs off n) / 2^(c+1))]
   conv=>rhs;rw [Nat.add_mod]
  have hlt:AF (AA xs off n) / 2^c % 2<2:=Nat.mod_lt _ (by decide)
  have hwi:wI ((c:Int)-1)=(c:Int)-1:=Al (by omega)
  have next:=ih (by omega)
  by_cases hge:M≤AF (AA xs off n) / 2^(c+1) % M+AF (AA xs off n) / 2^(c+1) % M+AF (AA xs off n) / 2^c % 2
  ·refine AZ [true,true] (Ab R_ AE (ATG ..) (fG hx hl hl' hn hM hM2 hN (by omega) (decide_eq_true hge) ?_) (AL (by kernel_rfl)) hb (fun _ h=>by cases h) fun _=>?_)
   ·rw [e2,G3,Wy (by omega),hM]
    exact ⟨rfl,Nat.ble_eq_true_of_le hl',rfl,rfl,decide_eq_true hge,trivial⟩
   ·refine ER (m:=3) (by kernel_rfl) hb ?_
    rw [hwi]
    have ey:fE off off' xs ys (wl 5 (AF (AA xs off n) / 2^(c+1) % M)) (c:Int)=wl 5 (AF (AA xs off n) / 2^c % M):=by
     unfold fE
     rw [e2,Wy (by omega),hM,hq,ATK hge (by omega)]
    rw [ey]
    exact next
  ·refine AZ [true,false] (Ab R_ AE (ATF ..) (fG hx hl hl' hn hM hM2 hN (by omega) (decide_eq_false hge) trivial) (AL (by kernel_rfl)) hb (fun _ h=>by cases h) fun _=>?_)
   refine ER (m:=3) (by kernel_rfl) hb ?_
   rw [hwi,e2]
   rw [hq.trans (Nat.mod_eq_of_lt (by omega))] at next
   exact next
theorem ATN:z5=wl 5 0:=by kernel_rfl
include hx hl hl' hn hM h0 hM2 in
theorem ATO (hn0:0<n) (h1:1<M):Ah Tryz.prog 237 (Dh off n m off' 4 m') (CF xs ys) 2 [] Wx (FO (wl 5 (AF (AA xs off n) % M))):=by
 refine Av (path:=[false]) Tryz.func237 (by kernel_rfl) (by kernel_rfl) fun β0 w0 hb=>?_
 have ez:AF (AA [] 0 0)=0:=by kernel_rfl
 refine Ab R_ AE (ATE off n m off' m' xs ys) ⟨Nat.ble_eq_true_of_le hl',rfl,rfl,rfl,?_,rfl,rfl,Cf (by omega),trivial⟩ (AL (by kernel_rfl)) hb (fun _ h=>by cases h) fun _=>?_
 ·rw [ez,hM]
  refine decide_eq_false ?_
  unfold Cb
  rw [if_neg (by omega),if_pos h0]
  decide
 refine ER (m:=3) (by kernel_rfl) hb ?_
 have e4:wI (wI (64*(n:Int))-1)=((64*n-1:Nat):Int):=by
  rw [Al (z:=64*(n:Int)) (by omega),Al (by omega)];omega
 rw [e4]
 obtain ⟨c,hc⟩:∃ c,64*n=c+1:=⟨64*n-1,by omega⟩
 rw [show 64*n-1=c by omega]
 have htop:AF (AA xs off n) / 2^(c+1)=0:=by rw [← hc];exact Nat.div_eq_of_lt (s6 hx hl)
 have hd:=aR (AF (AA xs off n)) c
 rw [htop,Nat.mul_zero,Nat.zero_add] at hd
 have hlt:AF (AA xs off n) / 2^c % 2<2:=Nat.mod_lt _ (by decide)
 obtain ⟨e1,e2⟩:=fF (off:=off) (N:=0) (c:=c) (by omega) hx hn (by omega)
 have hC:=fG (c:=c) (N:=0) hx hl hl' hn hM hM2 h0 (by omega) (b:=false) (decide_eq_false (by omega)) (r:=[]) trivial
 rw [← ATN] at e2 hC
 refine AZ [true,false] (Ab R_ AE (ATH ..) hC (AL (by kernel_rfl)) hb (fun _ h=>by cases h) fun _=>?_)
 refine ER (m:=3) (by kernel_rfl) hb ?_
 rw [e2,Al (z:=(c:Int)-1) (by omega)]
 have next:=ATM (m:=m) (m':=m') (w0:=w0) hx hl hl' hn hM h0 hM2 hb c (by omega)
 rw [(congrArg (· % M) hd).trans (Nat.mod_eq_of_lt (by omega))] at next
 rw [Nat.zero_add] at *
 exact next
end
def modSp3:ASpec:=PT (fun _ _ _ _=>Wx) (fun _ a _ b=>FO (wl 5 (AF a % AF b))) 1 (fun a b=>[(Nat.blt 0 a.length,true),(Nat.beq b.length 4,true),(Nat.blt 1 (AF b),true),(Nat.blt (AF b+AF b+1) P5,true)])
theorem ATP:A7 Tryz.prog 237 modSp3:=by
 refine Wt Tryz.func237 (by kernel_rfl) (by kernel_rfl) (fun _ _ _ _=>by kernel_rfl) fun off n m off' n' m' xs ys hx hy hl hl' hn hn' hc=>?_
 obtain ⟨c1,c2,c3,c4,_⟩:=hc
 rw [BP hl] at c1
 rw [BP hl'] at c2
 obtain rfl:=Ao.1 c2
 exact ATO hx hl hl' hn rfl (by have:=Ay.1 c3;omega) (Ay.1 c4) (Ay.1 c1) (Ay.1 c3)
end Go.Proofs.YtjlcdlekmpjjnaaGreat
namespace Go.Proofs.YtjlcdlekmpjjnaaGreat
open Ex Num Rg
open Sh (R av rd mo en mo_en)
set_option maxRecDepth 100000
set_option maxHeartbeats 4000000
noncomputable def SYd0:List (FuncId×ASpec):=(237,modSp3)::(SYb++(SVg++(SQt++SQg)))
theorem fH:AU Tryz.prog SYd0:=⟨ATP,Rl zX (Rl AOz (Rl AN2 AN0))⟩
noncomputable abbrev oYd0:Orc:=AI SYd0 KV
theorem ATQ:OrcOk Tryz.prog oYd0:=AK fH BT
noncomputable def PU:List Int:=AA RL (0+0*1) (4-0)
theorem fI:AF PU=rN:=VF
noncomputable def IT (off n:Nat) (xs:List Int):Nat:=AF (AA xs off n) % AF PU
noncomputable def z7 (off n:Nat) (xs:List Int):List Ch:=[.v (.int .u64 ((wl 5 (IT off n xs)).getD (0+Int.toNat 0*1) 0)),.v (.int .u64 ((wl 5 (IT off n xs)).getD (0+Int.toNat 1*1) 0)),.v (.int .u64 ((wl 5 (IT off n xs)).getD (0+Int.toNat 2*1) 0)),.v (.int .u64 ((wl 5 (IT off n xs)).getD (0+Int.toNat 3*1) 0))]
theorem ATR (off n m:Nat) (xs:List Int):AP Tryz.prog oYd0 Tryz.f179 300 1 [] (Af Tryz.f179 [AJ 0 off n m] (BB xs) 1 []) =
 some ((Nat.ble (off+n) xs.length,true)::(true,true)::(Nat.ble n 17592186044415,true)::(true,true)::(Nat.blt 0 (AA xs off n).length,true)::(true,true)::(Nat.blt 1 (AF PU),true)::(Nat.blt (AF PU+AF PU+1) P5,true)::(true,true) ::
  (decide (0+Int.toNat 0*1<(wl 5 (IT off n xs)).length),true)::(true,true)::(decide (0+Int.toNat 1*1<(wl 5 (IT off n xs)).length),true)::(true,true)::(decide (0+Int.toNat 2*1<(wl 5 (IT off n xs)).length),true)::(true,true)::(decide (0+Int.toNat 3*1<(wl 5 (IT off n xs)).length),true)::[],[],.val true (z7 off n xs),[]):=by kernel_rfl
theorem ATS (off n:Nat) (xs:List Int):Br 4 (z7 off n xs)=some (AF (wl 4 (IT off n xs))):=by kernel_rfl
theorem ATT:Nat.blt (rN+rN+1) P5=true:=by rw [rN_eq];kernel_rfl
theorem ATU:Nat.blt 1 rN=true:=by rw [rN_eq];kernel_rfl
theorem ATV {off n m:Nat} {xs:List Int} (hl:off+n≤xs.length) (hn:n≤17592186044415) (h0:0<n):Ah Tryz.prog 179 [AJ 0 off n m] (BB xs) 1 [] (CI (AF (AA xs off n) % rN)) []:=by
 refine Bf (A_ fH BT Tryz.func179 (by kernel_rfl) (by kernel_rfl) (ATR off n m xs) (by kernel_rfl) ?_) fun β u hu=>?_
 ·rw [BP hl,fI,G3]
  exact ⟨Nat.ble_eq_true_of_le hl,rfl,Nat.ble_eq_true_of_le hn,rfl,Ay.2 h0,rfl,ATU,ATT,rfl,rfl,rfl,rfl,rfl,rfl,rfl,rfl,trivial⟩
 ·obtain ⟨l,q,rfl⟩:=hu
  have h:=Df (β':=β) (ATS off n xs) q
  unfold IT at h
  rw [fI,Mq (by rw [← Oy];exact bY _)] at h
  exact ⟨l,h,rfl⟩
def fJ (g:List Int→AV):ASpec:=fun args H fr path=>match args with
 | [S]=>match Bw S with
  | some (k,o,n)=>match AG H k with
   | some ⟨_,cs,_⟩=>match As .u64 cs with
    | some xs=>some (A8 [k] 1 fr 0 [] (g (AA xs o n)) [] [(Nat.ble (o+n) xs.length,true),(Nat.ble n 17592186044415,true),(Nat.blt 0 n,true)] path)
    | none=>none
   | none=>none
  | none=>none
 | _=>none
theorem ATW {F:FuncId} {fn:Func} {g:List Int→AV} (hfn:Tryz.prog.funcs[F]? = some fn) (hb:fn.body.isSome=true) (hname:(fn.name=="runtime.NumGoroutine")=false) (hk:∀ a,C6 1 0 [] (g a) []=true)
  (h:∀ {off n m:Nat} {xs:List Int},off+n≤xs.length→n≤17592186044415→0<n→Ah Tryz.prog F [AJ 0 off n m] (BB xs) 1 [] (g (AA xs off n)) []):A7 Tryz.prog F (fJ g):=by
 refine CG hfn hb hname fun args H fr path r hs=>?_
 unfold fJ at hs
 split at hs
 case h_2=>cases hs
 rename_i S
 split at hs
 case h_2=>cases hs
 rename_i k o n hS
 split at hs
 case h_2=>cases hs
 rename_i ty cs op hk'
 split at hs
 case h_2=>cases hs
 rename_i xs hxs
 injection hs with hs
 refine ⟨[k],1,0,[],_,_,_,path,hs.symm,fun β us w ha hg hc=>?_⟩
 obtain ⟨u1,us1,r1,ha,rfl⟩:=ha
 obtain ⟨m,r1⟩:=C3 hS r1
 obtain ⟨g1,g2,g3⟩:=H6 hg hk' hxs
 exact ⟨[AJ 0 o n m],BB xs,h (Nat.le_of_ble_eq_true hc.1) (Nat.le_of_ble_eq_true hc.2.1) (Ay.1 hc.2.2.1),hk _,⟨u1,_,Bl (by omega) rfl r1,ha,rfl⟩,g2,g3⟩
theorem ATX (x:Nat):Ac Tryz.prog oYd0 Tryz.f238 [CI x,.val false [.n .u64 0]] [true] 300=some ([(true,true),(BU (A5 x rQ 1),true),(BU (A5 x rQ 2),true),(BU (A5 x rQ 3),true),(decide (0<A5 x rQ 4),true)],CI x):=by kernel_rfl
theorem ATY {x:Nat} (hx:x<rQ):A5 x rQ 4=1:=by
 have hR:rQ<R4:=Ay.1 vL
 have h1:AF (wl 4 x)=x:=Mq (by rw [← Oy];omega)
 have h2:AF (wl 4 rQ)=rQ:=Mq (by rw [← Oy];exact hR)
 change (AB x 0).toNat+18446744073709551616*((AB x 1).toNat+18446744073709551616*((AB x 2).toNat+18446744073709551616*((AB x 3).toNat+18446744073709551616*0)))=x at h1
 change (AB rQ 0).toNat+18446744073709551616*((AB rQ 1).toNat+18446744073709551616*((AB rQ 2).toNat+18446744073709551616*((AB rQ 3).toNat+18446744073709551616*0)))=rQ at h2
 have e0:BI x rQ 0=AB x 0-AB rQ 0-A5 x rQ 0+18446744073709551616*A5 x rQ 1:=HM x rQ 0
 have e1:BI x rQ 1=AB x 1-AB rQ 1-A5 x rQ 1+18446744073709551616*A5 x rQ 2:=HM x rQ 1
 have e2:BI x rQ 2=AB x 2-AB rQ 2-A5 x rQ 2+18446744073709551616*A5 x rQ 3:=HM x rQ 2
 have e3:BI x rQ 3=AB x 3-AB rQ 3-A5 x rQ 3+18446744073709551616*A5 x rQ 4:=HM x rQ 3
 have z:A5 x rQ 0=0:=rfl
 have d0:=C8 x rQ 0
 have d1:=C8 x rQ 1
 have d2:=C8 x rQ 2
 have d3:=C8 x rQ 3
 have b4:=De x rQ 4
 have w0:=BF x 0
 have w1:=BF x 1
 have w2:=BF x 2
 have w3:=BF x 3
 have v0:=BF rQ 0
 have v1:=BF rQ 1
 have v2:=BF rQ 2
 have v3:=BF rQ 3
 generalize AB x 0=a0 at *
 generalize AB x 1=a1 at *
 generalize AB x 2=a2 at *
 generalize AB x 3=a3 at *
 generalize AB rQ 0=c0 at *
 generalize AB rQ 1=c1 at *
 generalize AB rQ 2=c2 at *
 generalize AB rQ 3=c3 at *
 generalize BI x rQ 0=f0 at *
 generalize BI x rQ 1=f1 at *
 generalize BI x rQ 2=f2 at *
 generalize BI x rQ 3=f3 at *
 generalize A5 x rQ 0=g0 at *
 generalize A5 x rQ 1=g1 at *
 generalize A5 x rQ 2=g2 at *
 generalize A5 x rQ 3=g3 at *
 generalize A5 x rQ 4=g4 at *
 generalize rQ=q at *
 clear hR
 omega
theorem fK (x y i:Nat):BU (A5 x y i)=true:=decide_eq_true (De x y i)
theorem ATZ {x:Nat} (h:x<rN):AX Tryz.prog 238 [CI x,.val false [.n .u64 0]] (CI x) :=
 Ag ATQ AE Tryz.func238 (ATX x) ⟨rfl,fK _ _ _,fK _ _ _,fK _ _ _,by rw [ATY (by rw [← rN_eq];exact h)];rfl,trivial⟩ rfl
noncomputable def fL:List AV→Option (List (Bool×Bool)×AV)
 | [.val true a,.val false [.n .u64 0]]=>match Br 4 a with
  | some x=>some ([(Nat.blt x rN,true)],CI x)
  | none=>none
 | _=>none
theorem ATa:∀ args c v,fL args=some (c,v)→AQ c→AX Tryz.prog 238 args v:=by
 intro args c v hs hc us w ha
 unfold fL at hs
 split at hs
 case h_2=>cases hs
 rename_i a
 split at hs
 case h_2=>cases hs
 rename_i x hx
 injection hs with hs;injection hs with h1 h2;subst h1;subst h2
 obtain ⟨u1,us1,⟨l,q,rfl⟩,ha,rfl⟩:=ha
 exact ATZ (Ay.1 hc.1) _ w ⟨_,_,⟨l,Df hx q,rfl⟩,ha,rfl⟩
noncomputable def SYd1:List (FuncId×ASpec):=(179,fJ fun l=>CI (AF l % rN))::(238,DI fL)::SYd0
theorem z8:AU Tryz.prog SYd1:=⟨ATW Tryz.func179 (by kernel_rfl) (by kernel_rfl) (fun _=>rfl) fun hl hn h0=>ATV hl hn h0,Di Tryz.func238 (by kernel_rfl) (by kernel_rfl) ATa,fH⟩
noncomputable abbrev oYd1:Orc:=AI SYd1 KV
theorem ATb:OrcOk Tryz.prog oYd1:=AK z8 BT
theorem ATc (x:Nat):Ac Tryz.prog oYd1 Tryz.f181 [CI x] [true] 300=some ([(Nat.blt x rN,true),(decide (x=x),true)],CI x):=by kernel_rfl
theorem ATd {x:Nat} (h:x<rN):AX Tryz.prog 181 [CI x] (CI x) :=
 Ag ATb AE Tryz.func181 (ATc x) ⟨Ay.2 h,decide_eq_true rfl,trivial⟩ rfl
noncomputable def Wz (g:Nat→AV):List AV→Option (List (Bool×Bool)×AV)
 | [.val true a]=>match Br 4 a with
  | some x=>some ([(Nat.blt x rN,true)],g x)
  | none=>none
 | _=>none
theorem z9 {f:FuncId} {g:Nat→AV} (h:∀ x,x<rN→AX Tryz.prog f [CI x] (g x)):∀ args c v,Wz g args=some (c,v)→AQ c→AX Tryz.prog f args v:=by
 intro args c v hs hc us w ha
 unfold Wz at hs
 split at hs
 case h_2=>cases hs
 rename_i a
 split at hs
 case h_2=>cases hs
 rename_i x hx
 injection hs with hs;injection hs with h1 h2;subst h1;subst h2
 obtain ⟨u1,us1,⟨l,q,rfl⟩,ha,rfl⟩:=ha
 exact h x (Ay.1 hc.1) _ w ⟨_,_,⟨l,Df hx q,rfl⟩,ha,rfl⟩
noncomputable def SYd2:List (FuncId×ASpec):=(181,DI (Wz CI))::SYd1
theorem PV:AU Tryz.prog SYd2:=⟨Di Tryz.func181 (by kernel_rfl) (by kernel_rfl) (z9 fun _ h=>ATd h),z8⟩
noncomputable abbrev oYd2:Orc:=AI SYd2 KV
theorem ATe:OrcOk Tryz.prog oYd2:=AK PV BT
theorem ATf (a:Nat):Ac Tryz.prog oYd2 Tryz.f116 [CI a] [] 3000=some ((Nat.blt a rN,true)::tt 67 [],.val true ((BK (AF (AA (LR a) 0 4)) 32).map fun d=>.v (.int .u8 d))):=by kernel_rfl
theorem ATg (off n m:Nat) (xs:List Int):AP Tryz.prog oYd2 Tryz.f115 300 1 [] (Af Tryz.f115 [AJ 0 off n m] (Ak xs) 1 []) =
 some ([(Nat.ble (off+n) xs.length,true),(Nat.ble n 35184372088832,true),(Nat.ble (0+(n+7) / 8) (FN off n xs).length,true),(Nat.ble ((n+7) / 8) 17592186044415,true),(Nat.blt 0 ((n+7) / 8),true)],[],CI (AF (AA (FN off n xs) 0 ((n+7) / 8)) % rN),[]):=by kernel_rfl
theorem ATh {a:Nat} (h:a<rN):AX Tryz.prog 116 [CI a] (R2 a):=by
 have h1:=Ag ATe AE Tryz.func116 (ATf a) ⟨Ay.2 h,Aj 67 trivial⟩ rfl
 rw [RZ (Nat.lt_trans h Vm)] at h1
 exact C_ h1 fun u ⟨l,q,e⟩=>⟨l,pG q,e⟩
theorem ATi {off n m:Nat} {xs:List Int} (hx:∀ d∈xs,0≤d∧d<256) (hl:off+n≤xs.length) (hn:n≤35184372088832) (h0:0<n):Ah Tryz.prog 115 [AJ 0 off n m] (Ak xs) 1 [] (CI (AS (AA xs off n) % rN)) []:=by
 have:=A_ PV BT Tryz.func115 (by kernel_rfl) (by kernel_rfl) (ATg off n m xs) (by kernel_rfl) ⟨Nat.ble_eq_true_of_le hl,Nat.ble_eq_true_of_le hn,Nat.ble_eq_true_of_le (by unfold FN;simp),Nat.ble_eq_true_of_le (by omega),Ay.2 (by omega),trivial⟩
 rw [eS hx hl] at this
 exact this
def fM (g:List Int→AV) (B:Nat):ASpec:=fun args H fr path=>match args with
 | [S]=>match Bw S with
  | some (k,o,n)=>match AG H k with
   | some ⟨_,cs,_⟩=>match As .u8 cs with
    | some xs=>some (A8 [k] 1 fr 0 [] (g (AA xs o n)) [] [(Nat.ble (o+n) xs.length,true),(Nat.ble n B,true),(Nat.blt 0 n,true)] path)
    | none=>none
   | none=>none
  | none=>none
 | _=>none
theorem ATj {F:FuncId} {fn:Func} {g:List Int→AV} {B:Nat} (hfn:Tryz.prog.funcs[F]? = some fn) (hb:fn.body.isSome=true) (hname:(fn.name=="runtime.NumGoroutine")=false) (hk:∀ a,C6 1 0 [] (g a) []=true)
  (hcan:∀ {off n m:Nat} {xs:List Int},(∀ d∈xs,0≤d∧d<256)→off+n≤xs.length→n≤B→0<n→Ah Tryz.prog F [AJ 0 off n m] (Ak xs) 1 [] (g (AA xs off n)) []):A7 Tryz.prog F (fM g B):=by
 refine CG hfn hb hname fun args H fr path r hs=>?_
 unfold fM at hs
 split at hs
 case h_2=>cases hs
 rename_i S
 split at hs
 case h_2=>cases hs
 rename_i k o n hS
 split at hs
 case h_2=>cases hs
 rename_i ty cs op hk'
 split at hs
 case h_2=>cases hs
 rename_i xs hxs
 injection hs with hs
 refine ⟨[k],1,0,[],_,_,_,path,hs.symm,fun β us w ha hg hc=>?_⟩
 obtain ⟨u1,us1,r1,ha,rfl⟩:=ha
 obtain ⟨m,r1⟩:=C3 hS r1
 obtain ⟨g1,g2,g3⟩:=C0 hg hk' hxs
 exact ⟨[AJ 0 o n m],Ak xs,hcan g1 (Nat.le_of_ble_eq_true hc.1) (Nat.le_of_ble_eq_true hc.2.1) (Ay.1 hc.2.2.1),hk _,⟨u1,_,Bl (by omega) rfl r1,ha,rfl⟩,g2,g3⟩
theorem ATk (off n m:Nat) (xs:List Int):AP Tryz.prog oYd2 Tryz.f183 300 1 [] (Af Tryz.f183 [AJ 0 off n m] (Ak xs) 1 [true])=some ([(AH .i64 n,true),(!decide ((n:Int)=32),true)],[],Vp 60,[]):=by kernel_rfl
noncomputable def W0 (off:Nat) (xs:List Int) (b:Bool) (r:List (Bool×Bool)):List (Bool×Bool):=(true,true)::(false,false)::(Nat.ble (off+32) xs.length,true)::(true,true)::(Nat.ble (0+(32+7) / 8) (FN off 32 xs).length,true)::(true,true)::(true,true)::(true,true)::(decide (0≤Cb (AF (AA (FN off 32 xs) 0 ((32+7) / 8))) (AF PU)),b)::r
theorem ATl (off m:Nat) (xs:List Int):AP Tryz.prog oYd2 Tryz.f183 300 1 [] (Af Tryz.f183 [AJ 0 off 32 m] (Ak xs) 1 [false,true])=some (W0 off xs true [],[],Vp 61,[]):=by kernel_rfl
theorem ATm (off m:Nat) (xs:List Int):AP Tryz.prog oYd2 Tryz.f183 300 1 [] (Af Tryz.f183 [AJ 0 off 32 m] (Ak xs) 1 [false,false]) =
 some (W0 off xs false [(Nat.ble (0+(32+7) / 8) (FN off 32 xs).length,true),(true,true),(true,true)],[],.tup [(true,[.num 4 (AF (AA (FN off 32 xs) 0 ((32+7) / 8)) % rN)]),(false,[.n .i64 0])],[]):=by kernel_rfl
theorem ATn {off n m:Nat} {xs:List Int} (hx:∀ d∈xs,0≤d∧d<256) (hl:off+n≤xs.length) (hn:AH .i64 n=true) :
  Ah Tryz.prog 183 [AJ 0 off n m] (Ak xs) 1 [] (HX n (AS (AA xs off n))) []:=by
 by_cases h:n=32
 ·subst h
  have hF:Nat.ble (0+(32+7) / 8) (FN off 32 xs).length=true:=Nat.ble_eq_true_of_le (by unfold FN;simp)
  have e:=eS hx hl
  have hc:∀ b,decide (rN≤AS (AA xs off 32))=b→∀ r,AQ r→AQ (W0 off xs b r):=fun b hb r hr=>by
   unfold W0
   rw [e,fI,z4]
   exact ⟨rfl,rfl,Nat.ble_eq_true_of_le hl,rfl,hF,rfl,rfl,rfl,hb,hr⟩
  by_cases hN:AS (AA xs off 32)<rN
  ·have hr:=ATm off m xs
   rw [e,Nat.mod_eq_of_lt hN] at hr
   refine Bf (A_ PV BT Tryz.func183 (by kernel_rfl) (by kernel_rfl) hr (by kernel_rfl) (hc false (decide_eq_false (by omega)) _ ⟨hF,rfl,rfl,trivial⟩)) fun β u hu=>?_
   unfold HX CY EW
   rw [if_pos ⟨rfl,hN⟩,if_pos rfl,if_pos hN]
   exact Ck (fun _ q=>q) (fun _ q=>DE rfl q) hu
  ·refine Bf (A_ PV BT Tryz.func183 (by kernel_rfl) (by kernel_rfl) (ATl off m xs) (by kernel_rfl) (hc true (decide_eq_true (by omega)) _ trivial)) fun β u hu=>?_
   unfold HX CY EW
   rw [if_neg (fun q=>hN q.2),if_pos rfl,if_neg hN]
   exact Ck (fun _ q=>Vq q) (fun _ q=>DE rfl q) hu
 ·refine Bf (A_ PV BT Tryz.func183 (by kernel_rfl) (by kernel_rfl) (ATk off n m xs) (by kernel_rfl) ⟨hn,by simp;omega,trivial⟩) fun β u hu=>?_
  unfold HX CY EW
  rw [if_neg (fun q=>h q.1),if_neg h]
  exact Ck (fun _ q=>Vq q) (fun _ q=>DE rfl q) hu
noncomputable def SYe:List (FuncId×ASpec):=(116,DI (Wz R2))::(115,fM (fun l=>CI (AS l % rN)) 35184372088832)::SYd2
theorem ATo:AU Tryz.prog SYe:=⟨Di Tryz.func116 (by kernel_rfl) (by kernel_rfl) (z9 fun _ h=>ATh h),ATj Tryz.func115 (by kernel_rfl) (by kernel_rfl) (fun _=>rfl) ATi,PV⟩
theorem ATp:A7 Tryz.prog 183 (OF fun n l=>HX n (AS l)):=Zj Tryz.func183 (by kernel_rfl) (by kernel_rfl) (fun _ _=>rfl) fun _ _ _ _ hx hl hn=>ATn hx hl hn
noncomputable def SYf0:List (FuncId×ASpec):=(183,ES (OF fun n l=>HX n (AS l)))::SYe
theorem AAA:AU Tryz.prog SYf0:=⟨E8 ATp,ATo⟩
noncomputable abbrev oYf0:Orc:=AI SYf0 KV
theorem Lm:OrcOk Tryz.prog oYf0:=AK AAA BT
noncomputable def SYf1:List (FuncId×ASpec):=(117,DG Tryz.prog oYf0 Tryz.f117 300)::SYf0
theorem W1:AU Tryz.prog SYf1:=⟨Dd Lm AE Tryz.func117 (by kernel_rfl) (by kernel_rfl) 300,AAA⟩
noncomputable abbrev fN:Orc:=AI SYf1 KV
noncomputable abbrev W2:Func:=Tryz.f45
section
variable (n m:Nat) (xs:List Int)
noncomputable def fO (p:List Bool):ASt:=Af W2 [AJ 0 0 n m] (Ak xs) 1 p
noncomputable def fP (b:Bool) (r:List (Bool×Bool)):List (Bool×Bool):=(Nat.ble (0+n) xs.length,true)::(AH .i64 n,true)::(!decide (EW n (AS (AA xs 0 n))=0),b)::r
theorem ATq:AP Tryz.prog fN W2 300 1 [] (fO n m xs [true])=some (fP n xs true [],[],.tup [(false,[.v (.slice none 0 0)]),(false,[.n .i64 210])],[]):=by kernel_rfl
theorem ATr:AP Tryz.prog fN W2 300 1 [] (fO n m xs [false,true])=some (fP n xs false [(decide (CY n (AS (AA xs 0 n))=zN),true)],[],.tup [(false,[.v (.slice none 0 0)]),(false,[.n .i64 210])],[]):=by kernel_rfl
noncomputable def fQ (N:Nat):List Int:=[]++(LR N)
noncomputable def W3 (N:Nat):Pt FP:=EE (AF (AA (fQ N) 0 (0+(4-0)))) (Ae (CU G1B) (BS G1B) (BM G1B))
noncomputable def W4 (N:Nat):Pt FP:=Ae (CU (W3 N)) (BS (W3 N)) (BM (W3 N))
def fR:AV:=.tup [(false,[.sx 8 48 1]),(false,[.n .i64 0])]
def fS (l:List Int):Heap:=[(8,some ⟨5,[.seq .u8 l],true⟩)]
theorem ATs:AP Tryz.prog fN W2 300 1 [8] (fO n m xs [false,false,false])=some (fP n xs false ((decide (CY n (AS (AA xs 0 n))=zN),false)::(true,true)::(true,true)::(Nat.ble (0+(0+(4-0))) (fQ (CY n (AS (AA xs 0 n)))).length,true)::(true,true)::(Bb (W4 (CY n (AS (AA xs 0 n)))),true)::[]),[],fR,fS (Dl true (W4 (CY n (AS (AA xs 0 n)))))):=by kernel_rfl
end
noncomputable abbrev kgrF:Func:=Tryz.f44
section
variable (o1 n1 m1 o2 n2 m2:Nat) (x1 x2 y:List Int) (i:Int)
noncomputable def fT (p:List Bool):ASt:=Af kgrF [AJ 0 o1 n1 m1,AJ 1 o2 n2 m2] [(0,some (Ad [.seq .u8 x1])),(1,some (Ad [.seq .u8 x2]))] 2 p
noncomputable def fU:List Item:=Bh (AR Tryz.prog oYf0 (some 0) 100 2 none (fT 0 0 0 0 0 0 [] [] [false]))
noncomputable def fV (s c:AV):List AV:=Cs kgrF.ntmps [(0,AJ 0 o1 n1 m1),(1,AJ 1 o2 n2 m2),(6,s),(7,c)]
def fW (b:Blk):Heap:=[(0,some (Ad [.seq .u8 x1])),(1,some (Ad [.seq .u8 x2])),(2,some b)]
noncomputable def W5 (p:List Bool):ASt:=⟨fU,⟨fV o1 n1 m1 o2 n2 m2 (.val false [.sx 2 32 1]) (iA i),fW x1 x2 ⟨5,[.seq .u8 y],true⟩,3,p⟩⟩
def ATt:Blk:=Ad (tagK.map fun d=>.n .u8 d)
noncomputable def fX (p:List Bool):ASt:=⟨fU,⟨fV o1 n1 m1 o2 n2 m2 (.val false [.sl 2 0 20 20]) (.val false [.n .i64 0]),fW x1 x2 ATt,3,p⟩⟩
theorem ATu:AR Tryz.prog oYf0 (some 0) 100 2 (some ([0,1,6,7],[0,1,2],3)) (fT o1 n1 m1 o2 n2 m2 x1 x2 [false])=some ((AH .i64 n1,true)::(decide ((n1:Int)<32),false)::[],[],fX o1 n1 m1 o2 n2 m2 x1 x2 []):=by kernel_rfl
def NP:List Int:=[]++List.take (32-0) (List.drop (0+0*1) (B4 y))
def SF:List Int:=List.take (0+n1) ([]++List.take n1 (List.drop o1 x1))++[0]
def SG:List Int:=List.take (0+n2) ([]++List.take n2 (List.drop o2 x2))++[0,48]
def SH:List Int:=B_ (AA (NP y) 0 (0+(32-0))) (AA (SF o1 n1 x1) 0 (0+n1+1))
def SI:List Int:=F1 (AA (SH o1 n1 x1 y) (0+0*1) (32-0)) (AA (SG o2 n2 x2) 0 (0+n2+2))
noncomputable def NQ:Nat:=AS (AA (SI o1 n1 o2 n2 x1 x2 y) 0 48) % rN
noncomputable def PW (c:Bool×Bool) (b:Bool) (r:List (Bool×Bool)):List (Bool×Bool):=c::(tt 5 ((Nat.ble (o1+n1) x1.length,true)::(CP (0+n1),true)::(Nat.ble (0+n1) ([]++List.take n1 (List.drop o1 x1)).length,true)::(CP (0+n1+1),true)::(Nat.ble (0+(32-0)) (NP y).length,true)::(Nat.ble (0+(0+n1+1)) (SF o1 n1 x1).length,true)::(true,true)::(Nat.ble (0+n1+1) 17592186044416,true)::(true,true) ::
 (Nat.ble (o2+n2) x2.length,true)::(CP (0+n2),true)::(Nat.ble (0+n2) ([]++List.take n2 (List.drop o2 x2)).length,true)::(CP (0+n2+2),true)::(Nat.ble (0+0*1+(32-0)) (SH o1 n1 x1 y).length,true)::(Nat.ble (0+(0+n2+2)) (SG o2 n2 x2).length,true)::(true,true)::(Nat.ble (0+n2+2) 8796093022208,true)::(Nat.ble (0+48) (SI o1 n1 o2 n2 x1 x2 y).length,true)::(true,true)::(true,true)::(!decide (NQ o1 n1 o2 n2 x1 x2 y=zN),b)::r))
noncomputable def AAB (i:AV) (z:List Int):ASt:=⟨fU,⟨EQ (Bj 2 [5]) (fV o1 n1 m1 o2 n2 m2 (.val false [.sx 2 32 1]) i),Dp (Bj 2 [5]) (fW x1 x2 ⟨5,[.seq .u8 z],true⟩),34,[]⟩⟩
theorem ATv:AR Tryz.prog oYf0 (some 0) 200 2 (some ([0,1,6,7],[0,1,5],34)) (W5 o1 n1 m1 o2 n2 m2 x1 x2 y i [true,false])=some ((decide (i<16),true)::PW o1 n1 o2 n2 x1 x2 (AA y 0 32) (Nat.ble (0+32) y.length,true) false [],[],AAB o1 n1 m1 o2 n2 m2 x1 x2 (iA (wI (i+1))) (NP (AA y 0 32))):=by kernel_rfl
theorem ATw:AR Tryz.prog oYf0 (some 0) 200 2 (some ([0,1,6,7],[0,1,5],34)) (fX o1 n1 m1 o2 n2 m2 x1 x2 [false])=some (PW o1 n1 o2 n2 x1 x2 (AA tagK 0 20) (true,true) false [],[],AAB o1 n1 m1 o2 n2 m2 x1 x2 (.val false [.n .i64 1]) (NP (AA tagK 0 20))):=by kernel_rfl
theorem ATx:AP Tryz.prog oYf0 kgrF 400 2 [34] (W5 o1 n1 m1 o2 n2 m2 x1 x2 y i [true,true])=some ((decide (i<16),true)::PW o1 n1 o2 n2 x1 x2 (AA y 0 32) (Nat.ble (0+32) y.length,true) true [(Nat.blt (NQ o1 n1 o2 n2 x1 x2 (AA y 0 32)) rN,true)],[],PQ 34,PP 34 (BK (NQ o1 n1 o2 n2 x1 x2 (AA y 0 32)) 32)):=by kernel_rfl
theorem ATy:AP Tryz.prog oYf0 kgrF 400 2 [34] (fX o1 n1 m1 o2 n2 m2 x1 x2 [true])=some (PW o1 n1 o2 n2 x1 x2 (AA tagK 0 20) (true,true) true [(Nat.blt (NQ o1 n1 o2 n2 x1 x2 (AA tagK 0 20)) rN,true)],[],PQ 34,PP 34 (BK (NQ o1 n1 o2 n2 x1 x2 (AA tagK 0 20)) 32)):=by kernel_rfl
theorem ATz:AP Tryz.prog oYf0 kgrF 400 2 [] (W5 o1 n1 m1 o2 n2 m2 x1 x2 y i [false])=some ((decide (i<16),false)::[],[],IS 210,[]):=by kernel_rfl
theorem AT0:AP Tryz.prog oYf0 kgrF 400 2 [] (fT o1 n1 m1 o2 n2 m2 x1 x2 [true])=some ((AH .i64 n1,true)::(decide ((n1:Int)<32),true)::[],[],IS 211,[]):=by kernel_rfl
end
theorem AAC {x:List Int} {o n:Nat} (h:o+n≤x.length):List.take (0+n) ([]++List.take n (List.drop o x))=AA x o n:=by
 have e:([]:List Int)++List.take n (List.drop o x)=AA x o n:=rfl
 rw [e,Nat.zero_add]
 exact Cu (BP h)
theorem W6 (y:List Int):NP y=B4 y:=by
 unfold NP
 rw [show 0+0*1=0 from rfl,show 32-0=32 from rfl,List.drop_zero,List.nil_append]
 exact Cu (FK _)
theorem AAD {o1 n1:Nat} {x1:List Int} (h1:o1+n1≤x1.length):SF o1 n1 x1=AA x1 o1 n1++[0]:=by unfold SF;rw [AAC h1]
theorem AAE {o2 n2:Nat} {x2:List Int} (h2:o2+n2≤x2.length):SG o2 n2 x2=AA x2 o2 n2++[0,48]:=by unfold SG;rw [AAC h2]
theorem AAF {o1 n1:Nat} {x1:List Int} (h1:o1+n1≤x1.length) (y:List Int):SH o1 n1 x1 y=B_ (B4 y) (AA x1 o1 n1++[0]):=by
 unfold SH
 rw [W6,AAD h1,show 0+(32-0)=32 from rfl,C5 (FK _),Nat.zero_add,C5 (Cn (b:=[0]) (m:=1) (BP h1) rfl)]
theorem AAG {o1 n1 o2 n2:Nat} {x1 x2:List Int} (h1:o1+n1≤x1.length) (h2:o2+n2≤x2.length) (y:List Int):SI o1 n1 o2 n2 x1 x2 y=F1 (B_ (B4 y) (AA x1 o1 n1++[0])) (AA x2 o2 n2++[0,48]):=by
 unfold SI
 rw [AAF h1,AAE h2,show 0+0*1=0 from rfl,show 32-0=32 from rfl,C5 (Ev _ _),Nat.zero_add,C5 (Cn (b:=[0,48]) (m:=2) (BP h2) rfl)]
theorem fY {o1 n1 o2 n2:Nat} {x1 x2:List Int} (h1:o1+n1≤x1.length) (h2:o2+n2≤x2.length) (y:List Int):NQ o1 n1 o2 n2 x1 x2 y=GO y (AA x1 o1 n1) (AA x2 o2 n2):=by
 unfold NQ GO
 rw [AAG h1 h2]
theorem W7 {o1 n1 o2 n2:Nat} {x1 x2 y:List Int} {c:Bool×Bool} {b:Bool} {r:List (Bool×Bool)} (h1:o1+n1≤x1.length) (h2:o2+n2≤x2.length) (hn1:n1≤4398046511104) (hn2:n2≤4398046511104) (hc:c.1=c.2) (hb:(!decide (GO y (AA x1 o1 n1) (AA x2 o2 n2)=0))=b) (hr:AQ r):AQ (PW o1 n1 o2 n2 x1 x2 y c b r):=by
 have e1:(([]:List Int)++List.take n1 (List.drop o1 x1)).length=n1:=BP h1
 have e2:(([]:List Int)++List.take n2 (List.drop o2 x2)).length=n2:=BP h2
 have e3:(SF o1 n1 x1).length=n1+1:=by rw [AAD h1];exact Cn (BP h1) rfl
 have e4:(SG o2 n2 x2).length=n2+2:=by rw [AAE h2];exact Cn (BP h2) rfl
 have e5:(SH o1 n1 x1 y).length=32:=by rw [AAF h1];exact Ev _ _
 have e6:(NP y).length=32:=by rw [W6];exact FK _
 have e7:Nat.ble (0+48) (SI o1 n1 o2 n2 x1 x2 y).length=true:=by rw [AAG h1 h2];exact Nat.ble_eq_true_of_le (by rw [AR'];decide)
 unfold PW
 rw [e1,e2,e3,e4,e5,e6,fY h1 h2,b8]
 refine ⟨hc,Aj 5 ⟨Nat.ble_eq_true_of_le h1,CZ (by omega),Nat.ble_eq_true_of_le (by omega),CZ (by omega),rfl,Nat.ble_eq_true_of_le (by omega),rfl,Nat.ble_eq_true_of_le (by omega),rfl,
  Nat.ble_eq_true_of_le h2,CZ (by omega),Nat.ble_eq_true_of_le (by omega),CZ (by omega),rfl,Nat.ble_eq_true_of_le (by omega),rfl,Nat.ble_eq_true_of_le (by omega),e7,rfl,rfl,hb,hr⟩⟩
section
variable {o1 n1 m1 o2 n2 m2:Nat} {x1 x2:List Int} (h1:o1+n1≤x1.length) (h2:o2+n2≤x2.length) (hn1:n1≤4398046511104) (hn2:n2≤4398046511104) {β0:Env} {w0:World} (hb:∀ b,2≤b→β0 b=none)
include h1 h2 hn1 hn2 hb
theorem AT1:∀ (r i:Nat) (y:List Int),i+r=16→y.length=32 →
  ASafe Tryz.prog 44 β0 w0 (Ax β0 w0 [] (HC 34 (Ew (AA x1 o1 n1) (AA x2 o2 n2) r y)) (HD 34 (Ew (AA x1 o1 n1) (AA x2 o2 n2) r y))) kgrF.ntmps [] (W5 o1 n1 m1 o2 n2 m2 x1 x2 y (i:Int) []):=by
 intro r
 induction r with
 | zero =>
  intro i y hi hy
  obtain rfl:i=16:=by omega
  unfold HC HD Ew
  rw [if_pos rfl,if_pos rfl]
  exact AZ [false] (Aq Lm AE Tryz.func44 (ATz ..) ⟨by decide,trivial⟩ (AL (by kernel_rfl)) hb (fun _ h=>by cases h))
 | succ r ih =>
  intro i y hi hy
  have ew:AA y 0 32=y:=C5 hy
  by_cases hz:GO y (AA x1 o1 n1) (AA x2 o2 n2)=0
  ·have hs:=ATv o1 n1 m1 o2 n2 m2 x1 x2 y (i:Int)
   rw [ew,W6] at hs
   refine AZ [true,false] (Ab Lm AE hs ⟨decide_eq_true (by omega),W7 h1 h2 hn1 hn2 (Nat.ble_eq_true_of_le (by omega)) (by rw [decide_eq_true hz];rfl) trivial⟩ (AL (by kernel_rfl)) hb (fun _ h=>by cases h) fun _=>?_)
   refine ER (m:=3) (by kernel_rfl) hb ?_
   rw [Al (z:=(i:Int)+1) (by omega)]
   have:=ih (i+1) (B4 y) (by omega) (FK _)
   unfold Ew
   rw [if_pos hz]
   exact this
  ·have hs:=ATx o1 n1 m1 o2 n2 m2 x1 x2 y (i:Int)
   rw [ew,fY h1 h2] at hs
   have:=Aq (P:=Tryz.prog) (n:=kgrF.ntmps) (β0:=β0) (w0:=w0) (W:=[]) Lm AE Tryz.func44 hs ⟨decide_eq_true (by omega),W7 h1 h2 hn1 hn2 (Nat.ble_eq_true_of_le (by omega)) (by rw [decide_eq_false hz];rfl) ⟨Ay.2 (eU _ _ _),trivial⟩⟩ (AL (by kernel_rfl)) hb (fun _ h=>by cases h)
   unfold HC HD Ew
   rw [if_neg hz,if_neg hz,if_neg hz]
   exact AZ [true,true] this
end
theorem AT2 {o1 n1 m1 o2 n2 m2:Nat} {x1 x2:List Int} (h1:o1+n1≤x1.length) (h2:o2+n2≤x2.length) (hn1:n1≤4398046511104) (hn2:n2≤4398046511104) (hn:¬ n1<32) :
  Ah Tryz.prog 44 [AJ 0 o1 n1 m1,AJ 1 o2 n2 m2] [(0,some (Ad [.seq .u8 x1])),(1,some (Ad [.seq .u8 x2]))] 2 [] (HC 34 (DF (AA x1 o1 n1) (AA x2 o2 n2))) (HD 34 (DF (AA x1 o1 n1) (AA x2 o2 n2))):=by
 refine Av (path:=[false]) Tryz.func44 (by kernel_rfl) (by kernel_rfl) fun β0 w0 hb=>?_
 refine Ab Lm AE (ATu o1 n1 m1 o2 n2 m2 x1 x2) ⟨Cf (by omega),decide_eq_false (by omega),trivial⟩ (AL (by kernel_rfl)) hb (fun _ h=>by cases h) fun _=>?_
 rw [zL]
 by_cases hz:GO tagK (AA x1 o1 n1) (AA x2 o2 n2)=0
 ·have hs:=ATw o1 n1 m1 o2 n2 m2 x1 x2
  rw [eV,W6] at hs
  refine AZ [false] (Ab Lm AE hs (W7 h1 h2 hn1 hn2 rfl (by rw [decide_eq_true hz];rfl) trivial) (AL (by kernel_rfl)) hb (fun _ h=>by cases h) fun _=>?_)
  refine ER (m:=3) (by kernel_rfl) hb (Ds ?_)
  have:=AT1 (m1:=m1) (m2:=m2) (w0:=w0) h1 h2 hn1 hn2 hb 15 1 (B4 tagK) rfl (FK _)
  rw [show Ew (AA x1 o1 n1) (AA x2 o2 n2) 16 tagK=Ew (AA x1 o1 n1) (AA x2 o2 n2) 15 (B4 tagK) from if_pos hz]
  exact this
 ·have hs:=ATy o1 n1 m1 o2 n2 m2 x1 x2
  rw [eV,fY h1 h2] at hs
  have:=Aq (P:=Tryz.prog) (n:=kgrF.ntmps) (β0:=β0) (w0:=w0) (W:=[]) Lm AE Tryz.func44 hs (W7 h1 h2 hn1 hn2 rfl (by rw [decide_eq_false hz];rfl) ⟨Ay.2 (eU _ _ _),trivial⟩) (AL (by kernel_rfl)) hb (fun _ h=>by cases h)
  rw [show Ew (AA x1 o1 n1) (AA x2 o2 n2) 16 tagK=GO tagK (AA x1 o1 n1) (AA x2 o2 n2) from if_neg hz]
  unfold HC HD
  rw [if_neg hz,if_neg hz]
  exact AZ [true] this
theorem AT3 {o1 n1 m1 o2 n2 m2:Nat} {x1 x2:List Int} (hn:n1<32) :
  Ah Tryz.prog 44 [AJ 0 o1 n1 m1,AJ 1 o2 n2 m2] [(0,some (Ad [.seq .u8 x1])),(1,some (Ad [.seq .u8 x2]))] 2 [] (IS 211) [] :=
 Av (path:=[true]) Tryz.func44 (by kernel_rfl) (by kernel_rfl) fun β0 w0 hb=>Aq Lm AE Tryz.func44 (AT0 o1 n1 m1 o2 n2 m2 x1 x2) ⟨Cf (by omega),decide_eq_true (by omega),trivial⟩ (AL (by kernel_rfl)) hb (fun _ h=>by cases h)
theorem AT4 {N:Nat} (h:N<R4):AF (AA (fQ N) 0 (0+(4-0)))=N:=RZ h
theorem AT5 {N:Nat} (h:N<R4):W4 N=A6 N G1B:=by
 unfold W4
 rw [K8]
 unfold W3 EE
 rw [K8,if_pos RS,AT4 h]
theorem AT6 {n m:Nat} {xs:List Int} (hl:n≤xs.length) (hn:AH .i64 n=true) (hk:B3 n (AS (AA xs 0 n))=false):Ah Tryz.prog 45 [AJ 0 0 n m] (Ak xs) 1 [] (.tup [(false,[.v (.slice none 0 0)]),(false,[.n .i64 210])]) []:=by
 have hl':Nat.ble (0+n) xs.length=true:=Nat.ble_eq_true_of_le (by omega)
 by_cases he:EW n (AS (AA xs 0 n))=0
 ·have hz:CY n (AS (AA xs 0 n))=zN:=by
   unfold B3 at hk
   rw [decide_eq_true he] at hk
   simpa using hk
  exact A_ W1 BT Tryz.func45 (by kernel_rfl) (by kernel_rfl) (ATr n m xs) (by kernel_rfl) ⟨hl',hn,by rw [decide_eq_true he];rfl,decide_eq_true hz,trivial⟩
 ·exact A_ W1 BT Tryz.func45 (by kernel_rfl) (by kernel_rfl) (ATq n m xs) (by kernel_rfl) ⟨hl',hn,by rw [decide_eq_false he];rfl,trivial⟩
theorem AT7 {n m:Nat} {xs:List Int} (hl:n≤xs.length) (hn:AH .i64 n=true) (hk:B3 n (AS (AA xs 0 n))=true):Ah Tryz.prog 45 [AJ 0 0 n m] (Ak xs) 1 [] fR (fS (Dl true (A6 (AS (AA xs 0 n)) G1B))):=by
 obtain ⟨k1,k2,k3⟩:=Vt.1 hk
 have hV:CY n (AS (AA xs 0 n))=AS (AA xs 0 n):=if_pos ⟨k1,k2⟩
 have hE:EW n (AS (AA xs 0 n))=0:=by unfold EW;rw [if_pos k1,if_pos k2]
 have hr:=ATs n m xs
 rw [hV,AT5 (Nat.lt_trans k2 Vm)] at hr
 exact A_ W1 BT Tryz.func45 (by kernel_rfl) (by kernel_rfl) hr (by kernel_rfl) ⟨Nat.ble_eq_true_of_le (by omega),hn,by rw [decide_eq_true hE];rfl,by rw [b8];exact decide_eq_false k3,rfl,rfl,rfl,rfl,v7 _,trivial⟩
noncomputable def skrSp:ASpec:=fun args H fr path=>match args,path with
 | [S],b::rest=>match Bw S with
  | some (k,0,n)=>match AG H k with
   | some ⟨_,cs,_⟩=>match As .u8 cs with
    | some xs=>match b with
     | true=>some (A8 [k] 1 fr 0 [] (.tup [(false,[.v (.slice none 0 0)]),(false,[.n .i64 210])]) [] [(Nat.ble n xs.length,true),(AH .i64 n,true),(B3 n (AS (AA xs 0 n)),false)] rest)
     | false=>some (A8 [k] 1 fr 8 [] fR (fS (Dl true (A6 (AS (AA xs 0 n)) G1B))) [(Nat.ble n xs.length,true),(AH .i64 n,true),(B3 n (AS (AA xs 0 n)),true)] rest)
    | none=>none
   | _=>none
  | _=>none
 | _,_=>none
theorem AT8:A7 Tryz.prog 45 skrSp:=by
 refine CG Tryz.func45 (by kernel_rfl) (by kernel_rfl) fun args H fr path r hs=>?_
 unfold skrSp at hs
 split at hs
 case h_2=>cases hs
 rename_i S b rest
 split at hs
 case h_2=>cases hs
 rename_i k n hS
 split at hs
 case h_2=>cases hs
 rename_i ty cs o hk'
 split at hs
 case h_2=>cases hs
 rename_i xs hxs
 split at hs
 ·injection hs with hs
  refine ⟨[k],1,0,[],_,_,_,rest,hs.symm,fun β us w ha hg hc=>?_⟩
  obtain ⟨u1,us1,r1,ha,rfl⟩:=ha
  obtain ⟨m,r1⟩:=C3 hS r1
  obtain ⟨g1,g2,g3⟩:=C0 hg hk' hxs
  exact ⟨[AJ 0 0 n m],Ak xs,AT6 (Nat.le_of_ble_eq_true hc.1) hc.2.1 hc.2.2.1,by kernel_rfl,⟨u1,_,Bl (by omega) rfl r1,ha,rfl⟩,g2,g3⟩
 ·injection hs with hs
  refine ⟨[k],1,8,[],_,_,_,rest,hs.symm,fun β us w ha hg hc=>?_⟩
  obtain ⟨u1,us1,r1,ha,rfl⟩:=ha
  obtain ⟨m,r1⟩:=C3 hS r1
  obtain ⟨g1,g2,g3⟩:=C0 hg hk' hxs
  exact ⟨[AJ 0 0 n m],Ak xs,AT7 (Nat.le_of_ble_eq_true hc.1) hc.2.1 hc.2.2.1,by kernel_rfl,⟨u1,_,Bl (by omega) rfl r1,ha,rfl⟩,g2,g3⟩
noncomputable def SYf:List (FuncId×ASpec):=(44,Wl 34 33)::(45,skrSp)::SYf1
theorem AT9:AU Tryz.prog SYf:=⟨zS Tryz.func44 (by kernel_rfl) (by kernel_rfl) (fun _=>rfl) AT3 fun _ _=>AT2,AT8,W1⟩
noncomputable abbrev IU:Orc:=AI SYf KV
noncomputable def W8 (x0 x1 x2:List Int):Heap:=[(0,some (Ad [.seq .u8 x0])),(1,some (Ad [.seq .u8 x1])),(2,some (Ad [.seq .u8 x2]))]
noncomputable def IV (n0 m0 n1 m1 n2 m2:Nat) (x0 x1 x2:List Int) (p:List Bool):ASt:=Af Tryz.f6 [AJ 0 0 n0 m0,AJ 1 0 n1 m1,AJ 2 0 n2 m2] (W8 x0 x1 x2) 3 p
def PX:List Bool:=[false,true,false,true,false,true,false,false]
theorem AT_ (n0 m0 n1 m1 n2 m2:Nat) (x0 x1 x2:List Int):AP Tryz.prog IU Tryz.f6 800 3 [] (IV n0 m0 n1 m1 n2 m2 x0 x1 x2 [false,true,true])=some ((true,true)::(false,false)::tt 3 ((AH IntKind.i64 (Int.ofNat n0),true)::(decide (300<Int.ofNat n0),true)::[]),[],.val false [.b true],[]):=by kernel_rfl
theorem AT' (n0 m0 n1 m1 n2 m2:Nat) (x0 x1 x2:List Int):AP Tryz.prog IU Tryz.f6 800 3 [] (IV n0 m0 n1 m1 n2 m2 x0 x1 x2 [false,true,false,true,true])=some ((true,true)::(false,false)::tt 3 ((AH IntKind.i64 (Int.ofNat n0),true)::(decide (300<Int.ofNat n0),false)::tt 3 ((AH IntKind.i64 (Int.ofNat n1),true)::(decide (300<Int.ofNat n1),true)::[])),[],.val false [.b true],[]):=by kernel_rfl
theorem AUA (n0 m0 n1 m1 n2 m2:Nat) (x0 x1 x2:List Int):AP Tryz.prog IU Tryz.f6 800 3 [] (IV n0 m0 n1 m1 n2 m2 x0 x1 x2 [false,true,false,true,false,true,true])=some ((true,true)::(false,false)::tt 3 ((AH IntKind.i64 (Int.ofNat n0),true)::(decide (300<Int.ofNat n0),false)::tt 3 ((AH IntKind.i64 (Int.ofNat n1),true)::(decide (300<Int.ofNat n1),false)::tt 3 ((AH IntKind.i64 (Int.ofNat n2),true)::(decide (300<Int.ofNat n2),true)::[]))),[],.val false [.b true],[]):=by kernel_rfl
theorem AUB (n0 m0 n1 m1 n2 m2:Nat) (x0 x1 x2:List Int):AP Tryz.prog IU Tryz.f6 800 3 [] (IV n0 m0 n1 m1 n2 m2 x0 x1 x2 (PX++[true,true,true,true,true,true]))=some ((true,true)::(false,false)::tt 3 ((AH IntKind.i64 (Int.ofNat n0),true)::(decide (300<Int.ofNat n0),false)::tt 3 ((AH IntKind.i64 (Int.ofNat n1),true)::(decide (300<Int.ofNat n1),false)::tt 3 ((AH IntKind.i64 (Int.ofNat n2),true)::(decide (300<Int.ofNat n2),false)::(true,true)::(false,false)::(decide (n0<32),true)::(decide (n0<32),true)::(Nat.ble n2 (List.length x2),true)::(Nat.ble n2 m2,true)::(AH IntKind.i64 (Int.ofNat n2),true)::(B3 n2 (AS (AA x2 (0) n2)),false)::(Nat.ble n2 (List.length x2),true)::(AH IntKind.i64 (Int.ofNat n2),true)::(B3 n2 (AS (AA x2 (0) n2)),false)::tt 10 ([])))),[],.val false [.b true],[]):=by kernel_rfl
theorem AUC (n0 m0 n1 m1 n2 m2:Nat) (x0 x1 x2:List Int):AP Tryz.prog IU Tryz.f6 800 3 [] (IV n0 m0 n1 m1 n2 m2 x0 x1 x2 (PX++[true,true,false,false,true,true]))=some ((true,true)::(false,false)::tt 3 ((AH IntKind.i64 (Int.ofNat n0),true)::(decide (300<Int.ofNat n0),false)::tt 3 ((AH IntKind.i64 (Int.ofNat n1),true)::(decide (300<Int.ofNat n1),false)::tt 3 ((AH IntKind.i64 (Int.ofNat n2),true)::(decide (300<Int.ofNat n2),false)::(true,true)::(false,false)::(decide (n0<32),true)::(decide (n0<32),true)::(Nat.ble n2 (List.length x2),true)::(Nat.ble n2 m2,true)::(AH IntKind.i64 (Int.ofNat n2),true)::(B3 n2 (AS (AA x2 (0) n2)),true)::(Nat.ble n2 (List.length x2),true)::(AH IntKind.i64 (Int.ofNat n2),true)::(B3 n2 (AS (AA x2 (0) n2)),true)::tt 4 ((Nat.ble (0+48) (List.length (CH true (A6 (AS (AA x2 (0) n2)) G1B))),true)::(Nat.ble (0+48) (List.length (Dl true (A6 (AS (AA x2 (0) n2)) G1B))),true)::tt 3 ((Ek (AA (CH true (A6 (AS (AA x2 (0) n2)) G1B)) (0) (48)) (AA (Dl true (A6 (AS (AA x2 (0) n2)) G1B)) (0) (48)),true)::[]))))),[],.val false [.b true],[]):=by kernel_rfl
theorem AUD (n0 m0 n1 m1 n2 m2:Nat) (x0 x1 x2:List Int):AP Tryz.prog IU Tryz.f6 800 3 [] (IV n0 m0 n1 m1 n2 m2 x0 x1 x2 (PX++[false,true,false,true,true,true,true,true]))=some ((true,true)::(false,false)::tt 3 ((AH IntKind.i64 (Int.ofNat n0),true)::(decide (300<Int.ofNat n0),false)::tt 3 ((AH IntKind.i64 (Int.ofNat n1),true)::(decide (300<Int.ofNat n1),false)::tt 3 ((AH IntKind.i64 (Int.ofNat n2),true)::(decide (300<Int.ofNat n2),false)::(true,true)::(false,false)::(decide (n0<32),false)::(Nat.ble (0+n0) (List.length x0),true)::(Nat.ble (0+n1) (List.length x1),true)::(Nat.ble n0 (4398046511104),true)::(Nat.ble n1 (4398046511104),true)::(decide (DF (AA x0 (0) n0) (AA x1 (0) n1)=0),true)::(decide (n0<32),false)::(Nat.ble (0+n0) (List.length x0),true)::(Nat.ble (0+n1) (List.length x1),true)::(Nat.ble n0 (4398046511104),true)::(Nat.ble n1 (4398046511104),true)::(decide (DF (AA x0 (0) n0) (AA x1 (0) n1)=0),true)::(Nat.ble n2 (List.length x2),true)::(Nat.ble n2 m2,true)::(AH IntKind.i64 (Int.ofNat n2),true)::(B3 n2 (AS (AA x2 (0) n2)),false)::(Nat.ble n2 (List.length x2),true)::(AH IntKind.i64 (Int.ofNat n2),true)::(B3 n2 (AS (AA x2 (0) n2)),false)::tt 10 ([])))),[],.val false [.b true],[]):=by kernel_rfl
theorem AUE (n0 m0 n1 m1 n2 m2:Nat) (x0 x1 x2:List Int):AP Tryz.prog IU Tryz.f6 800 3 [] (IV n0 m0 n1 m1 n2 m2 x0 x1 x2 (PX++[false,true,false,true,false,false,true,true]))=some ((true,true)::(false,false)::tt 3 ((AH IntKind.i64 (Int.ofNat n0),true)::(decide (300<Int.ofNat n0),false)::tt 3 ((AH IntKind.i64 (Int.ofNat n1),true)::(decide (300<Int.ofNat n1),false)::tt 3 ((AH IntKind.i64 (Int.ofNat n2),true)::(decide (300<Int.ofNat n2),false)::(true,true)::(false,false)::(decide (n0<32),false)::(Nat.ble (0+n0) (List.length x0),true)::(Nat.ble (0+n1) (List.length x1),true)::(Nat.ble n0 (4398046511104),true)::(Nat.ble n1 (4398046511104),true)::(decide (DF (AA x0 (0) n0) (AA x1 (0) n1)=0),true)::(decide (n0<32),false)::(Nat.ble (0+n0) (List.length x0),true)::(Nat.ble (0+n1) (List.length x1),true)::(Nat.ble n0 (4398046511104),true)::(Nat.ble n1 (4398046511104),true)::(decide (DF (AA x0 (0) n0) (AA x1 (0) n1)=0),true)::(Nat.ble n2 (List.length x2),true)::(Nat.ble n2 m2,true)::(AH IntKind.i64 (Int.ofNat n2),true)::(B3 n2 (AS (AA x2 (0) n2)),true)::(Nat.ble n2 (List.length x2),true)::(AH IntKind.i64 (Int.ofNat n2),true)::(B3 n2 (AS (AA x2 (0) n2)),true)::tt 4 ((Nat.ble (0+48) (List.length (CH true (A6 (AS (AA x2 (0) n2)) G1B))),true)::(Nat.ble (0+48) (List.length (Dl true (A6 (AS (AA x2 (0) n2)) G1B))),true)::tt 3 ((Ek (AA (CH true (A6 (AS (AA x2 (0) n2)) G1B)) (0) (48)) (AA (Dl true (A6 (AS (AA x2 (0) n2)) G1B)) (0) (48)),true)::[]))))),[],.val false [.b true],[]):=by kernel_rfl
theorem AUF (n0 m0 n1 m1 n2 m2:Nat) (x0 x1 x2:List Int):AP Tryz.prog IU Tryz.f6 800 3 [] (IV n0 m0 n1 m1 n2 m2 x0 x1 x2 (PX++[false,false,false,false,true,true,true,true]))=some ((true,true)::(false,false)::tt 3 ((AH IntKind.i64 (Int.ofNat n0),true)::(decide (300<Int.ofNat n0),false)::tt 3 ((AH IntKind.i64 (Int.ofNat n1),true)::(decide (300<Int.ofNat n1),false)::tt 3 ((AH IntKind.i64 (Int.ofNat n2),true)::(decide (300<Int.ofNat n2),false)::(true,true)::(false,false)::(decide (n0<32),false)::(Nat.ble (0+n0) (List.length x0),true)::(Nat.ble (0+n1) (List.length x1),true)::(Nat.ble n0 (4398046511104),true)::(Nat.ble n1 (4398046511104),true)::(decide (DF (AA x0 (0) n0) (AA x1 (0) n1)=0),false)::(decide (n0<32),false)::(Nat.ble (0+n0) (List.length x0),true)::(Nat.ble (0+n1) (List.length x1),true)::(Nat.ble n0 (4398046511104),true)::(Nat.ble n1 (4398046511104),true)::(decide (DF (AA x0 (0) n0) (AA x1 (0) n1)=0),false)::(Nat.ble n2 (List.length x2),true)::(Nat.ble n2 m2,true)::(AH IntKind.i64 (Int.ofNat n2),true)::(B3 n2 (AS (AA x2 (0) n2)),false)::(Nat.ble n2 (List.length x2),true)::(AH IntKind.i64 (Int.ofNat n2),true)::(B3 n2 (AS (AA x2 (0) n2)),false)::tt 8 ((Ek (AA (BK (DF (AA x0 (0) n0) (AA x1 (0) n1)) (32)) (0) (32)) (AA (BK (DF (AA x0 (0) n0) (AA x1 (0) n1)) (32)) (0) (32)),true)::(true,true)::[])))),[],.val false [.b true],[]):=by kernel_rfl
theorem AUG (n0 m0 n1 m1 n2 m2:Nat) (x0 x1 x2:List Int):AP Tryz.prog IU Tryz.f6 800 3 [] (IV n0 m0 n1 m1 n2 m2 x0 x1 x2 (PX++[false,false,false,false,false,false,true,true]))=some ((true,true)::(false,false)::tt 3 ((AH IntKind.i64 (Int.ofNat n0),true)::(decide (300<Int.ofNat n0),false)::tt 3 ((AH IntKind.i64 (Int.ofNat n1),true)::(decide (300<Int.ofNat n1),false)::tt 3 ((AH IntKind.i64 (Int.ofNat n2),true)::(decide (300<Int.ofNat n2),false)::(true,true)::(false,false)::(decide (n0<32),false)::(Nat.ble (0+n0) (List.length x0),true)::(Nat.ble (0+n1) (List.length x1),true)::(Nat.ble n0 (4398046511104),true)::(Nat.ble n1 (4398046511104),true)::(decide (DF (AA x0 (0) n0) (AA x1 (0) n1)=0),false)::(decide (n0<32),false)::(Nat.ble (0+n0) (List.length x0),true)::(Nat.ble (0+n1) (List.length x1),true)::(Nat.ble n0 (4398046511104),true)::(Nat.ble n1 (4398046511104),true)::(decide (DF (AA x0 (0) n0) (AA x1 (0) n1)=0),false)::(Nat.ble n2 (List.length x2),true)::(Nat.ble n2 m2,true)::(AH IntKind.i64 (Int.ofNat n2),true)::(B3 n2 (AS (AA x2 (0) n2)),true)::(Nat.ble n2 (List.length x2),true)::(AH IntKind.i64 (Int.ofNat n2),true)::(B3 n2 (AS (AA x2 (0) n2)),true)::tt 4 ((Nat.ble (0+48) (List.length (CH true (A6 (AS (AA x2 (0) n2)) G1B))),true)::(Nat.ble (0+48) (List.length (Dl true (A6 (AS (AA x2 (0) n2)) G1B))),true)::tt 2 ((Ek (AA (BK (DF (AA x0 (0) n0) (AA x1 (0) n1)) (32)) (0) (32)) (AA (BK (DF (AA x0 (0) n0) (AA x1 (0) n1)) (32)) (0) (32)),true)::(Ek (AA (CH true (A6 (AS (AA x2 (0) n2)) G1B)) (0) (48)) (AA (Dl true (A6 (AS (AA x2 (0) n2)) G1B)) (0) (48)),true)::[]))))),[],.val false [.b true],[]):=by kernel_rfl
section
variable {n0 m0 n1 m1 n2 m2:Nat} {x0 x1 x2:List Int}
theorem J0 {v:AV} {c:List (Bool×Bool)} {p:List Bool} (h:AP Tryz.prog IU Tryz.f6 800 3 [] (IV n0 m0 n1 m1 n2 m2 x0 x1 x2 p)=some (c,[],v,[])) (hc:AQ c):Ah Tryz.prog 6 [AJ 0 0 n0 m0,AJ 1 0 n1 m1,AJ 2 0 n2 m2] (W8 x0 x1 x2) 3 [] v [] :=
 A_ AT9 BT Tryz.func6 (by kernel_rfl) (by kernel_rfl) h (by kernel_rfl) hc
theorem AUH (a0:n0≤x0.length) (c0:AH .i64 (Int.ofNat n0)=true) (a1:n1≤x1.length) (c1:AH .i64 (Int.ofNat n1)=true) (a2:n2≤x2.length) (c2:AH .i64 (Int.ofNat n2)=true) (e2:n2≤m2):Ah Tryz.prog 6 [AJ 0 0 n0 m0,AJ 1 0 n1 m1,AJ 2 0 n2 m2] (W8 x0 x1 x2) 3 [] (BV true) []:=by
 cases d0:decide ((300:Int)<Int.ofNat n0) with
 | true =>
  have r:=AT_ n0 m0 n1 m1 n2 m2 x0 x1 x2
  rw [c0,d0] at r
  exact Jo (J0 r (IJ rfl))
 | false =>
 cases d1:decide ((300:Int)<Int.ofNat n1) with
 | true =>
  have r:=AT' n0 m0 n1 m1 n2 m2 x0 x1 x2
  rw [c0,c1,d0,d1] at r
  exact Jo (J0 r (IJ rfl))
 | false =>
 cases d2:decide ((300:Int)<Int.ofNat n2) with
 | true =>
  have r:=AUA n0 m0 n1 m1 n2 m2 x0 x1 x2
  rw [c0,c1,c2,d0,d1,d2] at r
  exact Jo (J0 r (IJ rfl))
 | false =>
 have k0:n0≤300:=by have:¬ (300:Int)<(n0:Int):=of_decide_eq_false d0;omega
 have k1:n1≤300:=by have:¬ (300:Int)<(n1:Int):=of_decide_eq_false d1;omega
 have b0:Nat.ble (0+n0) x0.length=true:=Nat.ble_eq_true_of_le (by omega)
 have b1:Nat.ble (0+n1) x1.length=true:=Nat.ble_eq_true_of_le (by omega)
 have b2:Nat.ble n2 x2.length=true:=Nat.ble_eq_true_of_le a2
 have b2':Nat.ble n2 m2=true:=Nat.ble_eq_true_of_le e2
 have y0:Nat.ble n0 4398046511104=true:=Nat.ble_eq_true_of_le (by omega)
 have y1:Nat.ble n1 4398046511104=true:=Nat.ble_eq_true_of_le (by omega)
 have nn:Ek (AA [] 0 0) (AA [] 0 0)=true:=LW _
 have l1:Nat.ble (0+48) (CH true (A6 (AS (AA x2 0 n2)) G1B)).length=true:=by rw [AN5];rfl
 have l2:Nat.ble (0+48) (Dl true (A6 (AS (AA x2 0 n2)) G1B)).length=true:=by rw [AN6];rfl
 have sm:Ek (AA (CH true (A6 (AS (AA x2 0 n2)) G1B)) 0 48) (AA (Dl true (A6 (AS (AA x2 0 n2)) G1B)) 0 48)=true:=AN7 true _
 have s0:∀ b,decide (n0<32)=b→∀ z,decide (DF (AA x0 0 n0) (AA x1 0 n1)=0)=z→∀ k,B3 n2 (AS (AA x2 0 n2))=k→Ah Tryz.prog 6 [AJ 0 0 n0 m0,AJ 1 0 n1 m1,AJ 2 0 n2 m2] (W8 x0 x1 x2) 3 [] (BV true) []:=by
  intro b hb z hz k hk
  cases b with
  | true=>cases k with
   | false =>
    have r:=AUB n0 m0 n1 m1 n2 m2 x0 x1 x2
    simp only [c0,c1,c2,d0,d1,d2,b0,b1,b2,b2',y0,y1,hb,hk,nn,LW] at r
    exact Jo (J0 r (IJ rfl))
   | true =>
    have r:=AUC n0 m0 n1 m1 n2 m2 x0 x1 x2
    simp only [c0,c1,c2,d0,d1,d2,b0,b1,b2,b2',y0,y1,hb,hk,nn,LW,l1,l2,sm] at r
    exact Jo (J0 r (IJ rfl))
  | false=>cases z with
   | true=>cases k with
    | false =>
     have r:=AUD n0 m0 n1 m1 n2 m2 x0 x1 x2
     simp only [c0,c1,c2,d0,d1,d2,b0,b1,b2,b2',y0,y1,hb,hz,hk,nn,LW] at r
     exact Jo (J0 r (IJ rfl))
    | true =>
     have r:=AUE n0 m0 n1 m1 n2 m2 x0 x1 x2
     simp only [c0,c1,c2,d0,d1,d2,b0,b1,b2,b2',y0,y1,hb,hz,hk,nn,LW,l1,l2,sm] at r
     exact Jo (J0 r (IJ rfl))
   | false=>cases k with
    | false =>
     have r:=AUF n0 m0 n1 m1 n2 m2 x0 x1 x2
     simp only [c0,c1,c2,d0,d1,d2,b0,b1,b2,b2',y0,y1,hb,hz,hk,nn,LW] at r
     exact Jo (J0 r (IJ rfl))
    | true =>
     have r:=AUG n0 m0 n1 m1 n2 m2 x0 x1 x2
     simp only [c0,c1,c2,d0,d1,d2,b0,b1,b2,b2',y0,y1,hb,hz,hk,nn,LW,l1,l2,sm] at r
     exact Jo (J0 r (IJ rfl))
 exact s0 _ rfl _ rfl _ rfl
end
theorem blsKeys_walk:YI Tryz.prog 6 Tryz.f6:=AGQ fun H enc us W base ds ps hv hA=>by
 have hp:Tryz.f6.params.toList=[28,28,28]:=by kernel_rfl
 have hp':Tryz.f6.params=#[28,28,28]:=by kernel_rfl
 rw [hp] at hA
 rw [hp'] at hv
 obtain ⟨v1,us1,d1,ds1,p1,q1,rfl,rfl,t1,hA⟩:=Yy hA
 obtain ⟨v2,us2,d2,ds2,p2,q2,rfl,rfl,t2,hA⟩:=Yy hA
 obtain ⟨v3,us3,d3,ds3,p3,q3,rfl,rfl,t3,hA⟩:=Yy hA
 obtain rfl:=args0 hA rfl
 obtain ⟨L0,z0,n0,m0,y0,a0,b0,c0,r0,A0⟩:=bK (hv 0 _ v1 rfl rfl) t1 (ArgsOk.nil W)
 obtain ⟨L1,z1,n1,m1,y1,a1,b1,c1,r1,A1⟩:=bK (hv 1 _ v2 rfl rfl) t2 A0
 obtain ⟨L2,z2,n2,m2,y2,a2,b2,c2,r2,A2⟩:=bK (hv 2 _ v3 rfl rfl) t3 A1
 refine ⟨_,_,[AJ 0 0 n0 m0,AJ 1 0 n1 m1,AJ 2 0 n2 m2],A2,⟨v1,_,Lp (UX _ L2) (Lp (UX _ L1) r0),⟨v2,_,Lp (UX _ L2) r1,⟨v3,_,r2,rfl,rfl⟩,rfl⟩,rfl⟩,?_⟩
 exact AUH a0 c0 a1 c1 a2 c2 b2
end Go.Proofs.YtjlcdlekmpjjnaaGreat
