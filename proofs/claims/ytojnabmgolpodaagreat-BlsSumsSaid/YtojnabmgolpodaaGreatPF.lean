/- Part 6 of the proof: Sh, Si, Sj, Sk, Sl, Sm, Sn, So, Sp, Sq, Sr, Ss, St, Su, Sv, Sw, Sx, Sy, Yb, Yc, Yd, Ye, Yf, Ca, Cb, Cc, Cd, Ce, Cf, Cg, Ch, Ci, Cj, Ck, Cl, Cm, Ud, Ue, Uf, Ug, Uh, Ui. -/
import Derived.Test.YtojnabmgolpodaaGreatPE
import Derived.Test.YtojnabmgolpodaaGreatPD
namespace Go.Proofs.YtojnabmgolpodaaGreat
open Ex Num
set_option maxRecDepth 100000
set_option maxHeartbeats 4000000
theorem APT (L:List Int):(Ie L (.val false [.n .i64 16]) []).s.T.map FH=(Ie L (iA 16) []).s.T:=by kernel_rfl
theorem APU {β0:Env} {w0:World} {R:Ending→World→Prop} {n:Nat} {W:List Nat} {L:List Int} (h:ASafe Tryz.prog 197 β0 w0 R n W (Ie L (iA 16) [])):ASafe Tryz.prog 197 β0 w0 R n W (Ie L (.val false [.n .i64 16]) []):=by
 refine Kx (T:=(Ie L (.val false [.n .i64 16]) []).s.T) ?_
 rw [APT]
 exact h
theorem APV {b:Nat→Nat} (hb:∀ i,b i<256) {β0:Env} {w0:World} (h0:∀ b,1≤b→β0 b=none):ASafe Tryz.prog 197 β0 w0 (A7 β0 w0 [] (.val true [.seq .u32 (BE fun t=>(Jz b t:Int))]) []) Tryz.f197.ntmps [] (J0 fun i=>(b i:Int)):=by
 refine O6 (APJ _) (V0 (APK _)) ?_
 rw [APR hb]
 refine Aj RZ AE (APL _ _) trivial (AR (by kernel_rfl)) h0 (fun _ h=>by cases h) fun _=>?_
 refine APU ?_
 have loop:∀ r n,n+r=48→ASafe Tryz.prog 197 β0 w0 (A7 β0 w0 [] (.val true [.seq .u32 (BE fun t=>(Jz b t:Int))]) []) Tryz.f197.ntmps [] (Ie (GH b n) (iA ((n+16:Nat):Int)) []):=by
  intro r
  induction r with
  | zero =>
   intro n hn
   obtain rfl:n=48:=by omega
   rw [APQ]
   exact Af [false] (Aw RZ AE Tryz.func197 (APN _ _) ⟨by decide,trivial⟩ (AR (by kernel_rfl)) h0 (fun _ h=>by cases h))
  | succ r ih =>
   intro n hn
   refine Af [true] (Aj RZ AE (APM _ _) ?_ (AR (by kernel_rfl)) h0 (fun _ h=>by cases h) fun _=>?_)
   ·have hl:=xJ b (show n≤48 by omega)
    unfold xI
    rw [hl,show (2:Int)=((2:Nat):Int) from rfl,show (7:Int)=((7:Nat):Int) from rfl,show (15:Int)=((15:Nat):Int) from rfl,show (16:Int)=((16:Nat):Int) from rfl,LZ (by omega) (by decide),LZ (by omega) (by decide),LZ (by omega) (by decide),LZ (by omega) (by decide)]
    exact ⟨decide_eq_true (by omega),Rk (by omega) (by omega) (Ab 3 (Rk (by omega) (by omega) (Rk (by omega) (by omega) (Ab 3 (Rk (by omega) (by omega) (Rk (by omega) (by omega) trivial))))))⟩
   ·rw [APS b (by omega),show 0+((n+16:Nat):Int).toNat*1=n+16 by omega,APP b (by omega),A4 (z:=((n+16:Nat):Int)+1) (by omega)]
    have:=ih (n+1) (by omega)
    rw [show ((n+1+16:Nat):Int)=((n+16:Nat):Int)+1 by omega] at this
    exact this
 have:=loop 48 0 rfl
 rw [show ((0+16:Nat):Int)=16 from rfl] at this
 exact this
theorem APW {b:Nat→Nat} (hb:∀ i,b i<256) {β0:Env} {w0:World} (h0:∀ b,1≤b→β0 b=none):ASafe Tryz.prog 197 β0 w0 (A7 β0 w0 [] (.val true [.seq .u32 (BE fun t=>(Jz b t:Int))]) []) Tryz.f197.ntmps [] (xF fun i=>(b i:Int)) :=
 APE RZ AE (API fun i=>(b i:Int)) (AR (by kernel_rfl)) h0 fun _=>APV hb h0
theorem APX {b:Nat→Nat} (hb:∀ i,b i<256):AY Tryz.prog 197 [.val false [.p 0 0]] [(0,some (AU [.seq .u8 (BE fun i=>(b i:Int))]))] 1 [] (.val true [.seq .u32 (BE fun t=>(Jz b t:Int))]) [] :=
 Ax (path:=cN 16) Tryz.func197 (by kernel_rfl) (by kernel_rfl) fun _ _ h0=>APW hb h0
def bN (xs:List Int) (i:Nat):Nat:=(xs.getD i 0).toNat % 256
theorem APY (xs:List Int) (i:Nat):bN xs i<256:=Nat.mod_lt _ (by decide)
theorem cS {xs:List Int} {P:Int→Prop} (h:∀ d∈xs,P d) (h0:P 0) (i:Nat):P (xs.getD i 0):=by
 rw [List.getD_eq_getElem?_getD]
 cases e:xs[i]? with
 | none=>exact h0
 | some d=>exact h d (List.mem_of_getElem? e)
theorem APZ {xs:List Int} (h:∀ d∈xs,0≤d∧d<256) (i:Nat):(bN xs i:Int)=xs.getD i 0:=by
 have:=cS (P:=fun d=>0≤d∧d<256) h ⟨by decide,by decide⟩ i
 unfold bN;omega
theorem xL {xs:List Int} (h:∀ d∈xs,0≤d∧d<256) (hl:xs.length=64):xs=BE fun i=>(bN xs i:Int):=by
 conv=>lhs;rw [O7 hl]
 exact List.map_congr_left fun i _=>(APZ h i).symm
def wdsSp:ASpec:=fun args H fr path=>match args with
 | [.val false [.p k 0]]=>match AB H k with
  | some ⟨_,cs,_⟩=>match Ak .u8 cs with
   | some xs=>some (Az [k] 1 fr 0 [] (.val true [.seq .u32 (BE fun t=>(Jz (bN xs) t:Int))]) [] [(Nat.beq xs.length 64,true)] path)
   | none=>none
  | none=>none
 | _=>none
theorem xM {β:Env} {j k:Nat} {ρ:List Nat} {k0:Nat} {u:Value} (hj:j<k0) (hn:nth ρ j=k) (h:AG β (.val false [.p k 0]) u):AG (Ap β ρ k0) (.val false [.p j 0]) u:=by
 obtain ⟨l1,l2,⟨B,q,q1,q2⟩,h2,h3⟩:=h
 have e:Ap β ρ k0 j=β k:=by rw [HH hj,hn]
 exact ⟨l1,l2,⟨B,q,by rw [e];exact q1,q2⟩,h2,h3⟩
theorem APa:A6 Tryz.prog 197 wdsSp:=by
 refine CJ Tryz.func197 (by kernel_rfl) (by kernel_rfl) fun args H fr path r hs=>?_
 unfold wdsSp at hs
 split at hs
 case h_2=>cases hs
 rename_i k
 split at hs
 case h_2=>cases hs
 rename_i ty cs o hk
 split at hs
 case h_2=>cases hs
 rename_i xs hxs
 injection hs with hs
 refine ⟨[k],1,0,[],_,_,_,path,hs.symm,fun β us w ha hg hc=>?_⟩
 obtain ⟨u1,us1,r1,ha,rfl⟩:=ha
 obtain ⟨g1,g2,g3⟩:=Cx hg hk hxs
 have hl:=Ad.1 hc.1
 refine ⟨[.val false [.p 0 0]],Ar xs,?_,by kernel_rfl,⟨u1,_,xM (by omega) rfl r1,ha,rfl⟩,g2,g3⟩
 have:=APX (APY xs)
 rw [← xL g1 hl] at this
 exact this
noncomputable def SSg:List (FuncId×ASpec):=(197,wdsSp)::SSa
theorem APb:AM Tryz.prog SSg:=⟨APa,wY⟩
theorem xO (f:Nat→Int) {i:Nat} (h:i<64):gI (BE f) (i:Int)=f i:=by
 unfold gI BE
 rw [Int.toNat_natCast,Nat.zero_add,Nat.mul_one]
 simp [List.getD_eq_getElem?_getD,h]
theorem Rl {A:List Ch} {k:IntKind} {xs:List Int} {β:Env} {u:Value} (h:Ak k A=some xs) (hr:AG β (.val true A) u):(∀ x∈xs,has k x)∧∀ β':Env,AG β' (.val true [.seq k xs]) u:=by
 obtain ⟨l,hl,rfl⟩:=hr
 obtain ⟨rfl,q⟩:=Bu h hl
 exact ⟨q,fun β'=>⟨_,KB q,rfl⟩⟩
theorem APc {x:Int} (h:has .u8 x):0≤x∧x<256:=by
 rw [Dq] at h;simp only [AI,Bool.and_eq_true,decide_eq_true_eq] at h;omega
noncomputable def SSi:List (FuncId×ASpec):=SSg
theorem xP:AM Tryz.prog SSi:=APb
noncomputable abbrev oSi:Orc:=AJ SSi KV
theorem O9:OrcOk Tryz.prog oSi:=AN xP BR
def cT (x:Option (List (Bool×Bool)×List Nat×AV)):AV:=match x with | some (_,_,v)=>v | none=>.any
def cvO (x:Option (List (Bool×Bool)×List Nat×AV)):List (Bool×Bool):=match x with | some (c,_,_)=>c | none=>[]
def kvO (x:Option (List (Bool×Bool)×List Nat×AV)):List Nat:=match x with | some (_,k,_)=>k | none=>[]
def ivO (x:Option (List (Bool×Bool)×List Nat×AV)):Bool:=match x with | some _=>true | none=>false
structure Rets (x:Option (List (Bool×Bool)×List Nat×AV)):Prop where
 isO:ivO x=true
 ky:kvO x=[]
 cd:O5 (cvO x)=true
 nk:KP (cT x)=true
theorem APg {P:Program} {O:Orc} {f:FuncId} {fn:Func} {β0:Env} {w0:World} {n:Fz} (hO:OrcOk P O) (hm:P.follows .mixedOrders=true) (hfn:P.funcs[f]? = some fn) {fuel k0:Nat} {x:ASt}
  (h:Rets (Ey P O fn fuel k0 x)) (hwf:Bp n x.s) (h0:∀ b,k0≤b→β0 b=none) (hD:n.D=[]:=by rfl):ASafe P f β0 w0 (MB w0 (cT (Ey P O fn fuel k0 x))) n [] x:=by
 obtain ⟨h1,h2,h3,h4⟩:=h
 generalize e:Ey P O fn fuel k0 x=y at *
 cases y with
 | none=>cases h1
 | some v =>
  obtain ⟨c,k,v⟩:=v
  have hk:k=[]:=h2
  subst hk
  exact H5 hO hm hfn e (Rj h3) hwf h0 h4 hD
theorem APh (f:Nat→Int) (β:Env) (l:List Value) (h:AH β [.seq .u32 (l8 f)] l):AH β (w8 f) l:=by
 obtain ⟨l1,l2,⟨rfl,hx⟩,h2,rfl⟩:=h
 simp only [AH] at h2
 subst h2
 have hm:∀ i,i<8→gQ (.int .u32 (f i)):=fun i hi=>⟨rfl,hx _ (List.mem_map.2 ⟨i,List.mem_range.2 hi,rfl⟩)⟩
 exact ⟨[_],_,⟨rfl,hm 0 (by decide)⟩,⟨[_],_,⟨rfl,hm 1 (by decide)⟩,⟨[_],_,⟨rfl,hm 2 (by decide)⟩,⟨[_],_,⟨rfl,hm 3 (by decide)⟩,⟨[_],_,⟨rfl,hm 4 (by decide)⟩,⟨[_],_,⟨rfl,hm 5 (by decide)⟩,⟨[_],_,⟨rfl,hm 6 (by decide)⟩,⟨[_],_,⟨rfl,hm 7 (by decide)⟩,rfl,rfl⟩,rfl⟩,rfl⟩,rfl⟩,rfl⟩,rfl⟩,rfl⟩,rfl⟩
def scW (b:Nat→Int):Nat→Int:=fun t=>(Jz (bN (BE b)) t:Int)
def CF (f:Nat→Nat):Nat→Int:=fun i=>(f i:Int)
noncomputable def xQ (h b:Nat→Int):ASt:=Ah Tryz.f144 [.val true [.seq .u32 (l8 h)],.val true [.seq .u8 (BE b)]] [] 0 []
noncomputable def Lb (h b:Nat→Int):ASt:=E9 (Aa Tryz.prog oSi (some 0) 100 0 cJ (xQ h b))
noncomputable def xR:List Ch:=match AB (Lb (fun _=>0) fun _=>0).s.H 3 with | some b=>b.cs | none=>[]
theorem APj (h b:Nat→Int):Aa Tryz.prog oSi (some 0) 100 0 cJ (xQ h b)=some ([(true,true)],[],Lb h b):=by kernel_rfl
theorem APk (h b:Nat→Int):AB (Lb h b).s.H 3=some ⟨205,xR,false⟩:=by kernel_rfl
theorem APl:Ak .u32 xR=some kL:=by kernel_rfl
noncomputable def NH (h b:Nat→Int):ASt:=⟨(Lb h b).todo,⟨(Lb h b).s.T,Es 3 [.seq .u32 kL] (Lb h b).s.H,(Lb h b).s.fr,(Lb h b).s.path⟩⟩
theorem APm (h b:Nat→Int):AB (NH h b).s.H 5=some ⟨169,[.seq .u32 (l8 h)],false⟩:=by kernel_rfl
theorem APn (h b:Nat→Int):(⟨(NH h b).todo,⟨(NH h b).s.T.map FH,Es 5 (w8 h) (NH h b).s.H,(NH h b).s.fr,(NH h b).s.path⟩⟩:ASt)=O4 (l8 h) kL (BE (scW b)) h (iA 0) []:=by kernel_rfl
theorem APo (h ws s:Nat→Int):Rets (Ey Tryz.prog oSi Tryz.f144 400 0 (O4 (l8 h) kL (BE ws) s (iA 64) [false])):=⟨by kernel_rfl,by kernel_rfl,by kernel_rfl,by kernel_rfl⟩
theorem APp (h ws s:Nat→Int):cT (Ey Tryz.prog oSi Tryz.f144 400 0 (O4 (l8 h) kL (BE ws) s (iA 64) [false]))=.val true (w8 fun i=>AS false .u32 (s i+h i)):=by kernel_rfl
theorem APq {t:Nat} (h:t<64):kL.getD (0+(t:Int).toNat*1) 0=(kN t:Nat):=by
 have:=cS (xs:=kL) (P:=fun d=>0≤d) (by decide) (by decide) t
 rw [show 0+(t:Int).toNat*1=t by omega]
 unfold kN;omega
theorem APr (f:Nat→Int) {t:Nat} (h:t<64):(BE f).getD (0+(t:Int).toNat*1) 0=f t:=xO f h
theorem APs {h:Nat→Nat} (hh:∀ i,h i<4294967296) (W:Nat→Nat) (w0:World):∀ r t,t+r=64 →
  ASafe Tryz.prog 144 B0 w0 (MB w0 (.val true (w8 fun i=>AS false .u32 (NF h kN W 64 i+h i)))) Tryz.f144.ntmps [] (O4 (l8 (CF h)) kL (BE (CF W)) (CF (NF h kN W t)) (iA (t:Int)) []):=by
 intro r
 induction r with
 | zero =>
  intro t ht
  obtain rfl:t=64:=by omega
  have:=APg (P:=Tryz.prog) (n:=Tryz.f144.ntmps) (β0:=B0) (w0:=w0) O9 AE Tryz.func144 (APo (CF h) (CF W) (CF (NF h kN W 64))) (AR (by kernel_rfl)) (fun _ _=>rfl)
  rw [APp] at this
  exact Af [false] this
 | succ r ih =>
  intro t ht
  refine Af [true] (Aj RZ AE (AO7 _ _ _ _ _) ?_ (AR (by kernel_rfl)) (fun _ _=>rfl) (fun _ h=>by cases h) fun _=>?_)
  ·unfold wZ
   exact ⟨decide_eq_true (by omega),Ab 3 ⟨decide_eq_true ⟨by omega,by omega⟩,decide_eq_true (by show 0+(t:Int).toNat*1<64;omega),decide_eq_true ⟨by omega,by omega⟩,decide_eq_true (by show 0+(t:Int).toNat*1<64;omega),Ab 5 trivial⟩⟩
  ·rw [APq (by omega),APr _ (by omega)]
   have e:=AO_ (xC hh kN W t) (kN t) (W t)
   unfold CF
   rw [e,A4 (z:=(t:Int)+1) (by omega)]
   exact ih (t+1) (by omega)
theorem APt {h:Nat→Nat} (hh:∀ i,h i<4294967296) (b:Nat→Int):AW Tryz.prog 144 [.val true [.seq .u32 (l8 (CF h))],.val true [.seq .u8 (BE b)]] (.val true (w8 fun i=>AS false .u32 (NF h kN (Jz (bN (BE b))) 64 i+h i))) :=
 TZ (path:=[]) Tryz.func144 (by kernel_rfl) (by kernel_rfl) fun w0=>Aj O9 AE (APj (CF h) b) ⟨rfl,trivial⟩ (AR (by kernel_rfl)) (fun _ _=>rfl) (fun _ h=>by cases h) fun _ =>
  O6 (APk _ _) (V0 APl) (show ASafe _ _ _ _ _ _ _ (NH (CF h) b) from O6 (APm _ _) (APh _) (Kx (by
   rw [APn]
   exact APs hh _ w0 64 0 rfl)))
def wN (xs:List Int) (i:Nat):Nat:=(xs.getD i 0).toNat % 4294967296
theorem APu (xs:List Int) (i:Nat):wN xs i<4294967296:=Nat.mod_lt _ (by decide)
theorem APv {xs:List Int} (h:∀ d∈xs,0≤d∧d<4294967296) (hl:xs.length=8):xs=l8 (CF (wN xs)):=by
 conv=>lhs;rw [O7 hl]
 refine List.map_congr_left fun i _=>?_
 have:=cS (P:=fun d=>0≤d∧d<4294967296) h ⟨by decide,by decide⟩ i
 unfold CF wN;omega
def cU:List AV→Option (List (Bool×Bool)×AV)
 | [.val true hs,.val true bs]=>match Ak .u32 hs,Ak .u8 bs with
  | some xs,some ys=>some ([(Nat.beq xs.length 8,true),(Nat.beq ys.length 64,true)],.val true [.seq .u32 (l8 (CF (V2 (wN xs) (bN ys))))])
  | _,_=>none
 | _=>none
theorem APw (f:Nat→Int):Ak .u32 (w8 f)=some (l8 f):=by kernel_rfl
theorem APx {F:FuncId} (h:∀ (h:Nat→Nat) (b:Nat→Int),(∀ i,h i<4294967296)→AW Tryz.prog F [.val true [.seq .u32 (l8 (CF h))],.val true [.seq .u8 (BE b)]] (.val true (w8 (CF (V2 h (bN (BE b))))))):∀ args c v,cU args=some (c,v)→AP c→AW Tryz.prog F args v:=by
 intro args c v hs hc us w ha
 unfold cU at hs
 split at hs
 case h_2=>cases hs
 rename_i hs' bs'
 split at hs
 case h_2=>cases hs
 rename_i xs ys hx hy
 injection hs with hs;injection hs with hs1 hs2;subst hs1;subst hs2
 obtain ⟨u1,us1,r1,⟨u2,us2,r2,ha,rfl⟩,rfl⟩:=ha
 obtain ⟨p1,q1⟩:=Rl hx r1
 obtain ⟨p2,q2⟩:=Rl hy r2
 have e1:=APv (fun d hd=>cF (p1 d hd)) (Ad.1 hc.1)
 have e2:=xL (fun d hd=>APc (p2 d hd)) (Ad.1 hc.2.1)
 have q:=h (wN xs) (fun i=>(bN ys i:Int)) (APu xs)
 rw [← e2,← e1] at q
 refine ER q (fun u hu=>(Rl (APw _) hu).2 _) _ w ⟨u1,_,q1 _,⟨u2,_,q2 _,ha,rfl⟩,rfl⟩
noncomputable def SSj:List (FuncId×ASpec):=(144,FG cU)::SSi
theorem APy (f g:Nat→Nat):(fun i=>AS false .u32 ((f i:Int)+(g i:Int)))=CF fun i=>(f i+g i) % 4294967296:=by
 funext i
 rw [HX];rfl
theorem APz:AM Tryz.prog SSj:=⟨GS Tryz.func144 (by kernel_rfl) (by kernel_rfl) (APx fun h b hh=>by
  have:=APt hh b
  rw [APy] at this
  exact this),xP⟩
def O_ (k:Nat):Heap→Heap
 | []=>[]
 | (j,b)::r=>match Nat.beq j k with
  | true=>(j,match b with | some ⟨ty,cs,_⟩=>some ⟨ty,cs,true⟩ | none=>none)::r
  | false=>(j,b)::O_ k r
theorem cV {k:Nat} {cs:List Ch} {ty:TypeId} {o:Bool}:∀ {H:Heap},AB H k=some ⟨ty,cs,o⟩→∀ b x,AB (O_ k H) b=some x→AB H b=some x∨(b=k∧x=⟨ty,cs,true⟩)
 | [],h,_,_,_=>by cases h
 | (j,z)::r,h,b,x,hx=>by
  simp only [AB] at h ⊢
  unfold O_ at hx
  cases e:Nat.beq j k with
  | true =>
   rw [e] at h hx
   have hz:z=some ⟨ty,cs,o⟩:=h
   subst hz
   simp only [AB] at hx
   cases e':Nat.beq j b with
   | true =>
    rw [e'] at hx
    injection hx with hx
    exact .inr ⟨(Ad.1 e').symm.trans (Ad.1 e),hx.symm⟩
   | false=>rw [e'] at hx;exact .inl hx
  | false =>
   rw [e] at h hx
   simp only [AB] at hx
   cases e':Nat.beq j b with
   | true=>rw [e'] at hx;exact .inl hx
   | false=>rw [e'] at hx;exact cV (H:=r) h b x hx
theorem AP0 {β:Env} {ty:TypeId} {cs:List Ch} {o:Bool} {k:Nat} {w:World} (hr:Da β ⟨ty,cs,o⟩ k w):Da β ⟨ty,cs,true⟩ k w:=by
 rcases hr with ⟨B,n,l,t,pre,ty',fz,q1,q2,q3,q4,q5⟩ | ⟨q1,q2,q3⟩ | ⟨B,l,es,q,q1,q2,q3,q4⟩
 ·exact .inl ⟨B,n,l,t,pre,ty',fz,q1,q2,q3,q4,fun h=>by
   obtain ⟨a1,a2,a3,a4,a5⟩:=q5 h
   exact ⟨a1,a2,a3,(fun h=>by cases h),a5⟩⟩
 ·exact .inr (.inl ⟨q1,.inl rfl,q3⟩)
 ·exact .inr (.inr ⟨B,l,es,q,q1,q2,q3,q4⟩)
theorem AP1 {P:Program} {f:FuncId} {β0:Env} {w0:World} {R:Ending→World→Prop} {n:Fz} {W:List Nat} {x:ASt} {k:Nat} {ty:TypeId} {cs:List Ch} {o:Bool} (hk:AB x.s.H k=some ⟨ty,cs,o⟩)
  (hs:ASafe P f β0 w0 R n W ⟨x.todo,⟨x.s.T,O_ k x.s.H,x.s.fr,x.s.path⟩⟩):ASafe P f β0 w0 R n W x:=by
 intro β a w hi hf
 refine hs β a w { hi with good:=?_ } hf
 have g:=hi.good
 have hh:∀ b y,AB (O_ k x.s.H) b=some y→∃ z,AB x.s.H b=some z∧z.ty=y.ty:=fun b y hb=>by
  rcases cV hk b y hb with e | ⟨rfl,rfl⟩
  ·exact ⟨y,e,rfl⟩
  ·exact ⟨_,hk,rfl⟩
 refine ⟨fun b blk hb=>?_,fun b b' B n n' h1 h2 h3 h4=>?_,g.lt⟩
 ·rcases cV hk b blk hb with e | ⟨rfl,rfl⟩
  ·exact g.heap b blk e
  ·exact AP0 (g.heap b _ hk)
 ·obtain ⟨y,hy,hr⟩:=FB h1
  obtain ⟨z,hz,e⟩:=hh b y hy
  obtain ⟨y',hy'⟩:=Option.isSome_iff_exists.1 h2
  obtain ⟨z',hz',_⟩:=hh b' y' hy'
  exact g.inj b b' B n n' (EN hz (by rw [e];exact hr)) (by rw [hz'];rfl) h3 h4
def O' (n:Nat):Int:=wI (wI (Int.tdiv (wI (wI ((n:Int)+9)+63)) 64)*64)
def J1 (n:Nat):Nat:=(O' n).toNat
def Rm (n:Nat):List Int:=List.replicate (J1 n) 0
def Rn (off n:Nat) (xs:List Int):List Int:=(Rm n).take 0++((xs.drop off).take (Nat.min n (J1 n))++(Rm n).drop (0+Nat.min n (J1 n)*1))
def cW (off n:Nat) (xs:List Int):List Int:=(Rn off n xs).set (0+(n:Int).toNat*1) 128
noncomputable def pdT:List Item:=C3 (Aa Tryz.prog oSi (some 0) 100 1 none (Ah Tryz.f142 [AK 0 0 0 0] (Ar []) 1 []))
noncomputable def Ro (N:Int) (L:Nat) (ys:List Int) (i k:AV) (p:List Bool):ASt:=⟨pdT,⟨JI Tryz.f142.ntmps [(3,iA N),(4,AK 1 0 L L),(5,i),(6,k)],[(1,some ⟨5,[.seq .u8 ys],false⟩)],2,p⟩⟩
def Rp (k:Int):AV:=.val false [.v (.int .u64 k)]
abbrev xS:Option (List Nat×List Nat×Nat):=some ([3,4,5,6],[1],2)
theorem AP3 (off n m:Nat) (xs:List Int):Aa Tryz.prog oSi (some 0) 400 1 xS (Ah Tryz.f142 [AK 0 off n m] (Ar xs) 1 []) =
 some ((AI .i64 n,true)::(true,true)::(OQ (O' n) 1,true)::(Nat.ble (off+Nat.min n (J1 n)) xs.length,true)::(Nat.ble (0+Nat.min n (J1 n)*1) (Rm n).length,true)::(AI .i64 n,true)::(decide ((0:Int)≤n∧(n:Int)<J1 n),true)::(decide (0+(n:Int).toNat*1<(Rn off n xs).length),true)::(AI .i64 n,true)::[],[],
  Ro (O' n) (J1 n) (cW off n xs) (.val false [.n .i64 0]) (Rp (AS false .u64 (8*AS false .u64 n))) []):=by kernel_rfl
def PA (N i:Int):Int:=wI (wI (N-1)-i)
theorem AP4 (N:Int) (L:Nat) (ys:List Int) (i k:Int):Aa Tryz.prog oSi (some 0) 400 1 xS (Ro N L ys (iA i) (Rp k) [true]) =
 some ((decide (i<8),true)::(decide (0≤PA N i∧PA N i<L),true)::(decide (0+(PA N i).toNat*1<ys.length),true)::(decide ((0:Int)≤8∧0≤k),true)::[],[],Ro N L (ys.set (0+(PA N i).toNat*1) (AS false .u8 k)) (iA (wI (i+1))) (Rp (Int.fdiv k (2^min (8:Int).toNat IntKind.u64.bits))) []):=by kernel_rfl
theorem AP5 (N:Int) (L:Nat) (ys:List Int) (i k:Int):AQ Tryz.prog oSi Tryz.f142 400 1 [1] (Ro N L ys (iA i) (Rp k) [false])=some ([(decide (i<8),false)],[],AK 1 0 L L,[(1,some ⟨5,[.seq .u8 ys],false⟩)]):=by kernel_rfl
theorem xU {n:Nat} (h:n≤35184372088832):O' n=(A8 n:Nat)∧J1 n=A8 n:=by
 have e1:wI (wI ((n:Int)+9)+63)=((n+72:Nat):Int):=by rw [A4 (z:=(n:Int)+9) (by omega),A4 (by omega)];omega
 have e2:Int.tdiv ((n+72:Nat):Int) 64=(((n+72) / 64:Nat):Int):=by rw [Int.tdiv_eq_ediv_of_nonneg (by omega)];rfl
 have e3:O' n=(A8 n:Nat):=by
  unfold O' A8
  rw [e1,e2,A4 (z:=(((n+72) / 64:Nat):Int)) (by omega),A4 (by omega)]
  rfl
 exact ⟨e3,by unfold J1;rw [e3];rfl⟩
def HY (xs:List Int) (i:Nat):List Int:=xs++128::(List.replicate (A8 xs.length-xs.length-9) 0++(List.replicate (8-i) 0++(BB (8*xs.length) 8).drop (8-i)))
theorem AP6 (xs:List Int):HY xs 0=xs++128::List.replicate (A8 xs.length-xs.length-1) 0:=by
 unfold HY
 have:=NG xs.length
 rw [List.drop_eq_nil_of_le (by rw [HQ];exact Nat.le_refl _),List.append_nil,List.replicate_append_replicate]
 congr 3
 omega
theorem AP7 (xs:List Int):HY xs 8=EW xs:=by
 unfold HY EW
 rw [Nat.sub_self,List.replicate_zero,List.drop_zero,List.nil_append]
theorem AP8 (xs:List Int) {i:Nat} (h:i≤8):(HY xs i).length=A8 xs.length:=by
 have:=NG xs.length
 unfold HY
 simp only [List.length_append,List.length_cons,List.length_replicate,List.length_drop,HQ]
 omega
theorem AP9 (xs:List Int) {i:Nat} (h:i<8):(HY xs i).set (A8 xs.length-1-i) (F2 (8*xs.length) i)=HY xs (i+1):=by
 have hp:=NG xs.length
 unfold HY
 rw [List.set_append_right _ _ (by omega),show A8 xs.length-1-i-xs.length=(A8 xs.length-xs.length-9+(7-i))+1 by omega,List.set_cons_succ,List.set_append_right _ _ (by simp),List.length_replicate,Nat.add_sub_cancel_left,show 8-i=(7-i)+1 by omega,List.replicate_succ',List.append_assoc,List.set_append_right _ _ (by simp),List.length_replicate,Nat.sub_self,show 8-(i+1)=7-i by omega]
 have e:(BB (8*xs.length) 8).drop (7-i)=F2 (8*xs.length) i::(BB (8*xs.length) 8).drop (7-i+1):=by
  rw [List.drop_eq_getElem_cons (by rw [HQ];omega)]
  congr 1
  simp only [BB,List.getElem_map,List.getElem_range]
  congr 1;omega
 rw [e]
 rfl
theorem AP_ {off n:Nat} {xs:List Int} (hl:off+n≤xs.length) (hn:n≤35184372088832):Rn off n xs=AA xs off n++List.replicate (A8 n-n) 0∧cW off n xs=HY (AA xs off n) 0:=by
 have hp:=NG n
 have hw:(AA xs off n).length=n:=by unfold AA;rw [List.length_take,List.length_drop];omega
 have e:Rn off n xs=AA xs off n++List.replicate (A8 n-n) 0:=by
  unfold Rn Rm
  rw [(xU hn).2,show Nat.min n (A8 n)=n from Nat.min_eq_left (by omega),List.take_zero,List.nil_append,Nat.zero_add,Nat.mul_one,List.drop_replicate]
  rfl
 refine ⟨e,?_⟩
 unfold cW
 rw [e,AP6,hw,show 0+(n:Int).toNat*1=n by omega,List.set_append_right _ _ (by omega),hw,Nat.sub_self,show A8 n-n=(A8 n-n-1)+1 by omega,List.replicate_succ,List.set_cons_zero]
 rfl
theorem AP' {off n m:Nat} {xs:List Int} (hl:off+n≤xs.length) (hn:n≤35184372088832):AY Tryz.prog 142 [AK 0 off n m] (Ar xs) 1 [] (AK 1 0 (A8 n) (A8 n)) [(1,some ⟨5,[.seq .u8 (EW (AA xs off n))],false⟩)]:=by
 have hp:=NG n
 have hw:(AA xs off n).length=n:=by unfold AA;rw [List.length_take,List.length_drop];omega
 have hN:A8 n≤n+72:=by unfold A8;omega
 obtain ⟨e1,e2⟩:=xU hn
 obtain ⟨e3,e4⟩:=AP_ (off:=off) (n:=n) hl hn
 refine Ax (path:=[]) Tryz.func142 (by kernel_rfl) (by kernel_rfl) fun β0 w0 h0=>?_
 refine Aj O9 AE (AP3 off n m xs) ?_ (AR (by kernel_rfl)) h0 (fun _ h=>by cases h) fun _=>?_
 ·have hh:AI .i64 n=true:=by simp only [AI,Bool.and_eq_true,decide_eq_true_eq];omega
  refine ⟨hh,rfl,?_,Nat.ble_eq_true_of_le ?_,Nat.ble_eq_true_of_le ?_,hh,decide_eq_true ⟨by omega,by omega⟩,decide_eq_true ?_,hh,trivial⟩
  ·rw [e1];unfold OQ;exact decide_eq_true ⟨by omega,by omega,by omega,by omega⟩
  ·rw [e2,show Nat.min n (A8 n)=n from Nat.min_eq_left (by omega)];exact hl
  ·unfold Rm;rw [e2,show Nat.min n (A8 n)=n from Nat.min_eq_left (by omega),List.length_replicate];omega
  ·rw [e3,List.length_append,hw,List.length_replicate];omega
 ·rw [e4,e1,e2,show AS false .u64 (8*AS false .u64 (n:Int))=((8*n:Nat):Int) by rw [C_,C_,IntKind.wrap_u64,IntKind.wrap_u64];omega]
  have loop:∀ r i,i+r=8→ASafe Tryz.prog 142 β0 w0 (A7 β0 w0 [] (AK 1 0 (A8 n) (A8 n)) [(1,some ⟨5,[.seq .u8 (EW (AA xs off n))],false⟩)]) Tryz.f142.ntmps [] (Ro (A8 n:Nat) (A8 n) (HY (AA xs off n) i) (iA (i:Int)) (Rp ((8*n / 256^i:Nat):Int)) []):=by
   intro r
   induction r with
   | zero =>
    intro i hi
    obtain rfl:i=8:=by omega
    rw [AP7]
    exact Af [false] (Aw O9 AE Tryz.func142 (AP5 ..) ⟨by decide,trivial⟩ (AR (by kernel_rfl)) h0 (fun _ h=>by cases h))
   | succ r ih =>
    intro i hi
    have ej:PA (A8 n:Nat) i=((A8 n-1-i:Nat):Int):=by unfold PA;rw [A4 (z:=((A8 n:Nat):Int)-1) (by omega),A4 (by omega)];omega
    refine Af [true] (Aj O9 AE (AP4 ..) ?_ (AR (by kernel_rfl)) h0 (fun _ h=>by cases h) fun _=>?_)
    ·rw [ej,AP8 _ (by omega),hw]
     exact ⟨decide_eq_true (by omega),decide_eq_true ⟨by omega,by omega⟩,decide_eq_true (by omega),decide_eq_true ⟨by decide,Int.natCast_nonneg _⟩,trivial⟩
    ·have ek:Int.fdiv ((8*n / 256^i:Nat):Int) (2^min (8:Int).toNat IntKind.u64.bits)=((8*n / 256^(i+1):Nat):Int):=by
      rw [show min (8:Int).toNat IntKind.u64.bits=8 from rfl,Int.fdiv_eq_ediv_of_nonneg _ (by decide),Nat.pow_succ,← Nat.div_div_eq_div_mul]
      rfl
     have ev:AS false .u8 ((8*n / 256^i:Nat):Int)=F2 (8*n) i:=by rw [C_,IntKind.wrap_u8];unfold F2;omega
     have es:=AP9 (AA xs off n) (show i<8 by omega)
     rw [hw] at es
     rw [ej,ek,ev,show 0+((A8 n-1-i:Nat):Int).toNat*1=A8 n-1-i by omega,es,A4 (z:=(i:Int)+1) (by omega)]
     exact ih (i+1) (by omega)
  have:=loop 8 0 rfl
  rw [Nat.pow_zero,Nat.div_one] at this
  exact Kx this
def pdSp:ASpec:=fun args H fr path=>match args with
 | [S]=>match Br S with
  | some (k,off,n)=>match AB H k with
   | some ⟨_,cs,_⟩=>match Ak .u8 cs with
    | some xs=>some (Az [k] 1 fr 1 [] (AK 1 0 (A8 n) (A8 n)) [(1,some ⟨5,[.seq .u8 (EW (AA xs off n))],false⟩)] [(Nat.ble (off+n) xs.length,true),(Nat.ble n 35184372088832,true)] path)
    | none=>none
   | none=>none
  | none=>none
 | _=>none
theorem AQA:A6 Tryz.prog 142 pdSp:=by
 refine CJ Tryz.func142 (by kernel_rfl) (by kernel_rfl) fun args H fr path r hs=>?_
 unfold pdSp at hs
 split at hs
 case h_2=>cases hs
 rename_i S
 split at hs
 case h_2=>cases hs
 rename_i k off n hS
 split at hs
 case h_2=>cases hs
 rename_i ty cs o hk
 split at hs
 case h_2=>cases hs
 rename_i xs hxs
 injection hs with hs
 refine ⟨[k],1,1,[],_,_,_,path,hs.symm,fun β us w ha hg hc=>?_⟩
 obtain ⟨u1,us1,r1,ha,rfl⟩:=ha
 obtain ⟨m,r1⟩:=Dj hS r1
 obtain ⟨g1,g2,g3⟩:=Cx hg hk hxs
 exact ⟨[AK 0 off n m],Ar xs,AP' (Nat.le_of_ble_eq_true hc.1) (Nat.le_of_ble_eq_true hc.2.1),by kernel_rfl,⟨u1,_,BW (by omega) rfl r1,ha,rfl⟩,g2,g3⟩
noncomputable def SSk:List (FuncId×ASpec):=(142,pdSp)::SSj
theorem AQB:AM Tryz.prog SSk:=⟨AQA,APz⟩
def cX:AV:=.val true [.n .u32 1779033703,.n .u32 3144134277,.n .u32 1013904242,.n .u32 2773480762,.n .u32 1359893119,.n .u32 2600822924,.n .u32 528734635,.n .u32 1541459225]
theorem AQC:AX Tryz.prog oSi Tryz.f143 [] [] 100=some ([],cX):=by kernel_rfl
noncomputable def xV:AV:=.val true [.seq .u32 (l8 (CF V3))]
theorem AQD {β β':Env} {u:Value} (h:AG β cX u):AG β' xV u:=(Rl (k:=.u32) (xs:=l8 (CF V3)) (by kernel_rfl) h).2 _
noncomputable def cY:List AV→Option AV
 | []=>some xV
 | _=>none
theorem AQE {F:FuncId} (h:AW Tryz.prog F [] cX):∀ args v,cY args=some v→AW Tryz.prog F args v:=by
 intro args v hs
 unfold cY at hs
 split at hs
 case h_2=>cases hs
 injection hs with hs;subst hs
 exact ER h fun u hu=>AQD hu
noncomputable def SSl:List (FuncId×ASpec):=(143,As cY)::SSk
theorem xW:AM Tryz.prog SSl:=⟨Av Tryz.func143 (by kernel_rfl) (by kernel_rfl) (AQE (Ac O9 AE Tryz.func143 AQC trivial rfl)),AQB⟩
noncomputable abbrev oSl:Orc:=AJ SSl KV
theorem V6:OrcOk Tryz.prog oSl:=AN xW BR
def PB (p:List Int):Nat→Nat→Nat
 | 0=>V3
 | k+1=>V2 (wN (l8 (CF (PB p k)))) (bN ((p.drop (64*k)).take 64))
def cZ (xs:List Int) (i:Nat):Nat:=PB (EW xs) (A8 xs.length / 64) (i / 4) / 2^(24-8*(i % 4)) % 256
theorem AQF (xs:List Int) (i:Nat):cZ xs i<256:=Nat.mod_lt _ (by decide)
def C9 (xs:List Int):List Int:=(List.range 32).map fun i=>(cZ xs i:Int)
theorem NI (xs:List Int):(C9 xs).length=32:=rfl
theorem AQG (xs:List Int):∀ d∈C9 xs,0≤d∧d<256:=by
 intro d hd
 obtain ⟨i,_,rfl⟩:=List.mem_map.1 hd
 have:=AQF xs i
 omega
def NJ (x:Option (List (Bool×Bool)×List Nat×AV×Heap)):AV:=match x with | some (_,_,v,_)=>v | none=>.any
def Rq (x:Option (List (Bool×Bool)×List Nat×AV×Heap)):Heap:=match x with | some (_,_,_,h)=>h | none=>[]
def o4B (x:Option (List (Bool×Bool)×List Nat×AV×Heap)):Bool:=match x with | some (c,[],_,_)=>O5 c | _=>false
structure Outr (x:Option (List (Bool×Bool)×List Nat×AV×Heap)):Prop where
 ok:o4B x=true
theorem xX {P:Program} {O:Orc} {f:FuncId} {fn:Func} {β0:Env} {w0:World} {n:Fz} {W:List Nat} (hO:OrcOk P O) (hm:P.follows .mixedOrders=true) (hfn:P.funcs[f]? = some fn) {fuel k0:Nat} {ks:List Nat} {x:ASt}
  (h:Outr (AQ P O fn fuel k0 ks x)) (hwf:Bp n x.s) (h0:∀ b,k0≤b→β0 b=none) (hD:n.D=[]:=by rfl):ASafe P f β0 w0 (A7 β0 w0 W (NJ (AQ P O fn fuel k0 ks x)) (Rq (AQ P O fn fuel k0 ks x))) n W x:=by
 obtain ⟨h1⟩:=h
 generalize e:AQ P O fn fuel k0 ks x=y at *
 cases y with
 | none=>cases h1
 | some v =>
  obtain ⟨c,k,v,H⟩:=v
  cases k with
  | nil=>exact Aw hO hm hfn e (Rj h1) hwf h0 (fun _ h=>by cases h) hD
  | cons=>cases h1
theorem AQI {β0:Env} {w0:World} {W:List Nat} {v v':AV} {H:Heap} (h:∀ β u,AG β v u→AG β v' u) {e:Ending} {w:World} (ho:A7 β0 w0 W v H e w):A7 β0 w0 W v' H e w:=by
 obtain ⟨u,β,q,o⟩:=ho
 exact ⟨u,β,q,{ o with val:=h _ _ o.val }⟩
noncomputable def xY (off n m:Nat) (xs:List Int):ASt:=Ah Tryz.f88 [AK 0 off n m] (Ar xs) 1 []
abbrev V7:Option (List Nat×List Nat×Nat):=some ([2,3,4],[1,2,3],4)
noncomputable def Ld (off n m:Nat) (xs:List Int):ASt:=E9 (Aa Tryz.prog oSl (some 0) 100 1 V7 (xY off n m xs))
noncomputable def smT:List Item:=(Ld 0 0 0 []).todo
noncomputable def Le (off L:Nat) (P:List Int) (s:Nat→Int) (p:List Bool):ASt:=⟨smT,⟨JI Tryz.f88.ntmps [(2,.val false [.p 1 0]),(3,AK 2 off L L),(4,.val false [.p 3 0])],[(1,some ⟨120,List.replicate 32 (.n .u8 0),false⟩),(2,some ⟨5,[.seq .u8 P],true⟩),(3,some ⟨169,[.seq .u32 (l8 s)],false⟩)],4,p⟩⟩
theorem AQK (off n m:Nat) (xs:List Int):Aa Tryz.prog oSl (some 0) 100 1 V7 (xY off n m xs)=some ((Nat.ble (off+n) xs.length,true)::(Nat.ble n 35184372088832,true)::[],[],Ld off n m xs):=by kernel_rfl
theorem AQL (off n m:Nat) (xs:List Int):AB (Ld off n m xs).s.H 2=some ⟨5,[.seq .u8 (EW (AA xs off n))],false⟩:=by kernel_rfl
theorem AQM (off n m:Nat) (xs:List Int):(⟨(Ld off n m xs).todo,⟨(Ld off n m xs).s.T,O_ 2 (Ld off n m xs).s.H,(Ld off n m xs).s.fr,(Ld off n m xs).s.path⟩⟩:ASt)=Le 0 (A8 n) (EW (AA xs off n)) (CF V3) []:=by kernel_rfl
def c9 (off L:Nat) (P:List Int) (b:Bool):List (Bool×Bool):=(AI .i64 L,true)::(decide ((0:Int)<L),true)::(decide ((0:Int)≤64∧(64:Int)≤L),true)::(true,true)::(true,true)::(Nat.ble (off+64) P.length,true)::(true,true)::(Nat.beq ((P.drop off).take 64).length 64,true)::(decide ((0:Int)≤64∧(64:Int)≤L),true)::(Nat.beq L (64:Int).toNat,b)::[]
def dB (s:Nat→Int) (P:List Int) (off:Nat):Nat→Int:=CF (V2 (wN (l8 s)) (bN ((P.drop off).take 64)))
theorem AQN (off L:Nat) (P:List Int) (s:Nat→Int):Aa Tryz.prog oSl (some 0) 100 1 V7 (Le off L P s [true,false])=some (c9 off L P false,[],Le (off+(64:Int).toNat*1) (L-(64:Int).toNat) P (dB s P off) []):=by kernel_rfl
theorem AQO (off L:Nat) (P:List Int) (s:Nat→Int):Aa Tryz.prog oSl (some 0) 100 1 V7 (Le off L P s [true,true])=some (c9 off L P true,[],Le off (L-(64:Int).toNat) P (dB s P off) []):=by kernel_rfl
noncomputable def NK (off:Nat) (P:List Int) (s:Nat→Nat):=AQ Tryz.prog oSl Tryz.f88 1000 1 [] (Le off 0 P (CF s) [false])
theorem AQP (off:Nat) (P:List Int) (s:Nat→Nat):Outr (NK off P s):=⟨by kernel_rfl⟩
def xZ (s:Nat→Int):List Int:=(List.range 32).map fun i=>AS false .u8 (LX (s (i / 4)) ((24-8*(i % 4):Nat):Int))
def x8:AV→List Ch
 | .val true cs=>cs
 | _=>[]
theorem AQQ (off:Nat) (P:List Int) (s:Nat→Nat):NJ (NK off P s)=.val true (x8 (NJ (NK off P s))):=by kernel_rfl
theorem AQR (off:Nat) (P:List Int) (s:Nat→Nat):Ak .u8 (x8 (NJ (NK off P s)))=some (xZ (CF s)):=by kernel_rfl
theorem AQS (off:Nat) (P:List Int) (s:Nat→Nat):Rq (NK off P s)=[]:=by kernel_rfl
theorem AQT (s:Nat→Nat):xZ (CF s)=(List.range 32).map fun i=>((s (i / 4) / 2^(24-8*(i % 4)) % 256:Nat):Int):=by
 refine List.map_congr_left fun i _=>?_
 unfold CF
 rw [cE _ _ (by omega),C_,IntKind.wrap_u8]
 omega
theorem AQU {A:AV} {cs:List Ch} {k:IntKind} {xs:List Int} (h1:A=.val true cs) (h2:Ak k cs=some xs) (β:Env) (u:Value) (hr:AG β A u):AG β (.val true [.seq k xs]) u:=by
 subst h1
 exact (Rl h2 hr).2 _
theorem x9 {P:Program} {f:FuncId} {β0:Env} {w0:World} {R R':Ending→World→Prop} {W:List Nat} {n:Fz} {x:ASt} (h:ASafe P f β0 w0 R n W x) (hv:∀ e w,R e w→R' e w):ASafe P f β0 w0 R' n W x:=by
 intro β a w hi hf b cs q1 q2
 obtain ⟨e',w',fr,q5,q4⟩:=h β a w hi hf b cs q1 q2
 exact ⟨e',w',fr,hv _ _ q5,q4⟩
theorem AQV {β0:Env} {w0:World} (h0:∀ b,1≤b→β0 b=none) (off:Nat) (P:List Int) (s:Nat→Nat) :
  ASafe Tryz.prog 88 β0 w0 (A7 β0 w0 [] (.val true [.seq .u8 ((List.range 32).map fun i=>((s (i / 4) / 2^(24-8*(i % 4)) % 256:Nat):Int))]) []) Tryz.f88.ntmps [] (Le off 0 P (CF s) [false]):=by
 have:=xX (P:=Tryz.prog) (n:=Tryz.f88.ntmps) (β0:=β0) (w0:=w0) (W:=[]) V6 AE Tryz.func88 (AQP off P s) (AR (by kernel_rfl)) h0
 refine x9 this fun e w ho=>?_
 have ho:A7 β0 w0 [] (NJ (NK off P s)) (Rq (NK off P s)) e w:=ho
 rw [AQS] at ho
 rw [← AQT s]
 exact AQI (AQU (AQQ off P s) (AQR off P s)) ho
theorem yA {off L:Nat} {P:List Int} {b:Bool} (h1:64≤L) (h2:off+L≤P.length) (h3:L≤281474976710656) (hb:Nat.beq L 64=b):AP (c9 off L P b):=by
 refine ⟨?_,decide_eq_true (by omega),decide_eq_true ⟨by decide,by omega⟩,rfl,rfl,Nat.ble_eq_true_of_le (by omega),rfl,Ad.2 ?_,decide_eq_true ⟨by decide,by omega⟩,hb,trivial⟩
 ·simp only [AI,Bool.and_eq_true,decide_eq_true_eq];omega
 ·rw [List.length_take,List.length_drop];omega
theorem AQW {off n m:Nat} {xs:List Int} (hl:off+n≤xs.length) (hn:n≤35184372088832):AY Tryz.prog 88 [AK 0 off n m] (Ar xs) 1 [] (.val true [.seq .u8 (C9 (AA xs off n))]) []:=by
 have hw:(AA xs off n).length=n:=by unfold AA;rw [List.length_take,List.length_drop];omega
 have hK:A8 n=64*(A8 n / 64):=by unfold A8;omega
 have hp:=NG n
 have hN:A8 n≤n+72:=by unfold A8;omega
 have hlen:=APC (AA xs off n)
 rw [hw] at hlen
 refine Ax (path:=[]) Tryz.func88 (by kernel_rfl) (by kernel_rfl) fun β0 w0 h0=>?_
 refine Aj V6 AE (AQK off n m xs) ⟨Nat.ble_eq_true_of_le hl,Nat.ble_eq_true_of_le hn,trivial⟩ (AR (by kernel_rfl)) h0 (fun _ h=>by cases h) fun _=>?_
 refine AP1 (AQL off n m xs) ?_
 rw [AQM]
 have loop:∀ r k,1≤r→k+r=A8 n / 64→ASafe Tryz.prog 88 β0 w0 (A7 β0 w0 [] (.val true [.seq .u8 (C9 (AA xs off n))]) []) Tryz.f88.ntmps [] (Le (64*k) (A8 n-64*k) (EW (AA xs off n)) (CF (PB (EW (AA xs off n)) k)) []):=by
  intro r
  induction r with
  | zero=>intro k h;omega
  | succ r ih =>
   intro k _ hk
   cases r with
   | zero =>
    refine Af [true,true] (Aj V6 AE (AQO ..) (yA (by omega) (by omega) (by omega) (Ad.2 (by omega))) (AR (by kernel_rfl)) h0 (fun _ h=>by cases h) fun _=>?_)
    rw [show A8 n-64*k-(64:Int).toNat=0 by rw [show (64:Int).toNat=64 from rfl];omega]
    have e:dB (CF (PB (EW (AA xs off n)) k)) (EW (AA xs off n)) (64*k)=CF (PB (EW (AA xs off n)) (A8 n / 64)):=by rw [← hk];rfl
    rw [e]
    have:=AQV h0 (64*k) (EW (AA xs off n)) (PB (EW (AA xs off n)) (A8 n / 64)) (w0:=w0)
    unfold C9 cZ
    rw [hw]
    exact Af [false] this
   | succ r =>
    refine Af [true,false] (Aj V6 AE (AQN ..) (yA (by omega) (by omega) (by omega) ?_) (AR (by kernel_rfl)) h0 (fun _ h=>by cases h) fun _=>?_)
    ·cases q:Nat.beq (A8 n-64*k) 64 with
     | false=>rfl
     | true=>have:=Ad.1 q;omega
    ·have:=ih (k+1) (by omega) (by omega)
     rw [show 64*(k+1)=64*k+(64:Int).toNat*1 by rw [show (64:Int).toNat=64 from rfl];omega,show A8 n-(64*k+(64:Int).toNat*1)=A8 n-64*k-(64:Int).toNat by rw [show (64:Int).toNat=64 from rfl];omega] at this
     exact this
 have:=loop (A8 n / 64) 0 (by omega) (by omega)
 exact this
def sumSp:ASpec:=fun args H fr path=>match args with
 | [S]=>match Br S with
  | some (k,off,n)=>match AB H k with
   | some ⟨_,cs,_⟩=>match Ak .u8 cs with
    | some xs=>some (Az [k] 1 fr 0 [] (.val true [.seq .u8 (C9 (AA xs off n))]) [] [(Nat.ble (off+n) xs.length,true),(Nat.ble n 35184372088832,true)] path)
    | none=>none
   | none=>none
  | none=>none
 | _=>none
theorem AQX {F:FuncId} {fn:Func} (hfn:Tryz.prog.funcs[F]? = some fn) (hb:fn.body.isSome=true) (hname:(fn.name=="runtime.NumGoroutine")=false) (hcan:∀ {off n m:Nat} {xs:List Int},(∀ d∈xs,0≤d∧d<256)→off+n≤xs.length→n≤35184372088832→AY Tryz.prog F [AK 0 off n m] (Ar xs) 1 [] (.val true [.seq .u8 (C9 (AA xs off n))]) []):A6 Tryz.prog F sumSp:=by
 refine CJ hfn hb hname fun args H fr path r hs=>?_
 unfold sumSp at hs
 split at hs
 case h_2=>cases hs
 rename_i S
 split at hs
 case h_2=>cases hs
 rename_i k off n hS
 split at hs
 case h_2=>cases hs
 rename_i ty cs o hk
 split at hs
 case h_2=>cases hs
 rename_i xs hxs
 injection hs with hs
 refine ⟨[k],1,0,[],_,_,_,path,hs.symm,fun β us w ha hg hc=>?_⟩
 obtain ⟨u1,us1,r1,ha,rfl⟩:=ha
 obtain ⟨m,r1⟩:=Dj hS r1
 obtain ⟨g1,g2,g3⟩:=Cx hg hk hxs
 exact ⟨[AK 0 off n m],Ar xs,hcan g1 (Nat.le_of_ble_eq_true hc.1) (Nat.le_of_ble_eq_true hc.2.1),rfl,⟨u1,_,BW (by omega) rfl r1,ha,rfl⟩,g2,g3⟩
noncomputable def SSm:List (FuncId×ASpec):=(88,sumSp)::SSl
theorem AQY:AM Tryz.prog SSm:=⟨AQX Tryz.func88 (by kernel_rfl) (by kernel_rfl) fun _=>AQW,xW⟩
def E' (L:Nat):Bool:=decide (1≤1∧2*L*1≤281474976710656)
theorem FT {L:Nat} (h:L≤140737488355328):E' L=true:=decide_eq_true ⟨Nat.le_refl _,by omega⟩
noncomputable def SSn:List (FuncId×ASpec):=SSm
theorem AQZ:AM Tryz.prog SSn:=AQY
noncomputable def SSo:List (FuncId×ASpec):=SSn
theorem yC:AM Tryz.prog SSo:=AQZ
noncomputable abbrev oSo:Orc:=AJ SSo KV
theorem dC:OrcOk Tryz.prog oSo:=AN yC BR
noncomputable abbrev grF:Func:=Tryz.f146
def V8:AV:=.val false [.v (.slice none 0 0)]
noncomputable def dD (i:Int) (p:List Bool):ASt:=Ah grF [V8,iA i] [] 0 p
def Lf (i:Int):Int:=wI (i-wI ((0:Int)-0))
def dF (i:Int):Heap:=[(0,some ⟨5,[.seq .u8 (List.replicate i.toNat 0)],true⟩)]
theorem AQa (i:Int):AQ Tryz.prog oSo grF 200 0 [0] (dD i [false,true])=some ((decide (i<0),false)::(true,true)::(decide (0<Lf i),true)::(true,true)::(decide (0≤Lf i∧Lf i≤9223372036854775807),true)::(E' (0+(Lf i).toNat),true)::(true,true)::(true,true)::[],[],.val false [.sx 0 0 1],dF (Lf i)):=by kernel_rfl
noncomputable def PC (i:Int):ASt:=E9 (CZ Tryz.prog oSo 14 0 (dD i [false,false]))
theorem AQb (i:Int):CZ Tryz.prog oSo 14 0 (dD i [false,false])=some ((decide (i<0),false)::(true,true)::(decide (0<Lf i),false)::[],[],PC i):=by kernel_rfl
theorem AQc (i:Int):AQ Tryz.prog oSo grF 200 0 [0] ⟨(PC i).todo,⟨N8 0 1 [0] 0 (PC i).s.T,[]++[(0,some ⟨5,[.seq .u8 []],true⟩)],0+1,[]⟩⟩=some ([],[],.val false [.sx 0 0 1],[(0,some ⟨5,[.seq .u8 []],true⟩)]):=by kernel_rfl
theorem AQd (i:Int):PC i=⟨(PC i).todo,⟨(PC i).s.T,[],0,[]⟩⟩:=by kernel_rfl
theorem AQe {i:Nat} (h:i≤35184372088832):Lf (i:Int)=i:=by
 unfold Lf
 rw [show wI ((0:Int)-0)=0 from rfl,A4 (by omega)];omega
theorem AQf {i:Nat} (h:i≤35184372088832):AY Tryz.prog 146 [V8,iA i] [] 0 [] (.val false [.sx 0 0 1]) (dF i):=by
 have e:=AQe h
 rcases Nat.eq_zero_or_pos i with h0 | h0
 ·subst h0
  refine Ax (path:=[false,false]) Tryz.func146 (by kernel_rfl) (by kernel_rfl) fun β0 w0 hb=>?_
  refine HG dC AE (AQb ((0:Nat):Int)) ⟨by decide,rfl,by rw [e];decide,trivial⟩ (AR (by kernel_rfl)) hb (fun _ h=>by cases h) fun _=>?_
  rw [AQd]
  refine k8 (ts:=[0]) (sz:=1) (ty:=5) (kd:=.u8) rfl (hb 0 (Nat.le_refl _)) ?_
  exact Aw dC AE Tryz.func146 (AQc _) trivial (AR (by kernel_rfl)) hb (fun _ h=>by cases h)
 ·refine Ax (path:=[false,true]) Tryz.func146 (by kernel_rfl) (by kernel_rfl) fun β0 w0 hb=>?_
  have:=Aw (P:=Tryz.prog) (n:=grF.ntmps) (β0:=β0) (w0:=w0) (W:=[]) dC AE Tryz.func146 (AQa (i:Int)) ⟨decide_eq_false (by omega),rfl,decide_eq_true (by rw [e];omega),rfl,decide_eq_true (by rw [e];omega),by rw [e];exact FT (by omega),rfl,rfl,trivial⟩ (AR (by kernel_rfl)) hb (fun _ h=>by cases h)
  rw [e] at this
  exact this
def grSp:ASpec:=fun args _ fr path=>match args with
 | [.val false [.v (.slice none 0 0)],I]=>match A' (some I) with
  | some (_,.i64,i)=>some (Az [] 0 fr 1 [] (.val false [.sx 0 0 1]) (dF i) [(decide (0≤i∧i≤35184372088832),true)] path)
  | _=>none
 | _=>none
theorem yD {β:Env} {w:World}:Ex.Good (Ap β [] 0) [] w:=⟨(fun _ _ h=>by cases h),(fun _ _ _ _ _ h=>by cases h),(fun b B n h=>by
 have e:Nat.blt b 0=false:=by cases q:Nat.blt b 0 with | false=>rfl | true=>exact absurd (A9.1 q) (Nat.not_lt_zero b)
 simp [Ap,e] at h)⟩
theorem AQg:A6 Tryz.prog 146 grSp:=by
 refine CJ Tryz.func146 (by kernel_rfl) (by kernel_rfl) fun args H fr path r hs=>?_
 unfold grSp at hs
 split at hs
 case h_2=>cases hs
 rename_i I
 split at hs
 case h_2=>cases hs
 rename_i c i hI
 injection hs with hs
 refine ⟨[],0,1,[],_,_,_,path,hs.symm,fun β us w ha hg hc=>?_⟩
 obtain ⟨u1,us1,r1,⟨u2,us2,r2,ha,rfl⟩,rfl⟩:=ha
 have hi:=of_decide_eq_true hc.1
 obtain ⟨n,rfl⟩:=Int.eq_ofNat_of_zero_le hi.1
 exact ⟨[V8,iA n],[],AQf (by omega),by kernel_rfl,⟨u1,_,HE rfl r1,⟨u2,_,(LY hI r2).2 _,ha,rfl⟩,rfl⟩,yD,fun k h=>by cases h⟩
noncomputable def SSp:List (FuncId×ASpec):=(146,grSp)::SSo
theorem yE:AM Tryz.prog SSp:=⟨AQg,yC⟩
noncomputable abbrev oSp:Orc:=AJ SSp KV
theorem V9:OrcOk Tryz.prog oSp:=AN yE BR
noncomputable abbrev ccF:Func:=Tryz.f90
def G2 (k:Nat) (ys:List Int):Heap:=[(k,some ⟨5,[.seq .u8 ys],true⟩)]
theorem CS {xs:List Int} {off n:Nat} (h:off+n≤xs.length):(AA xs off n).length=n:=by unfold AA;rw [List.length_take,List.length_drop];omega
theorem GI {l:List Int} {n:Nat} (h:l.length=n):l.take n=l:=List.take_of_length_le (by omega)
theorem EL {a b:List Int} {n m:Nat} (h:a.length=n) (k:b.length=m):(a++b).length=n+m:=by rw [List.length_append,h,k]
theorem Et {L:Nat} (h:L≤35184372088832):AI .i64 L=true:=by simp only [AI,Bool.and_eq_true,decide_eq_true_eq];omega
theorem V_ (n:Nat):decide ((n:Int)<0)=false:=decide_eq_false (by omega)
theorem NL {a b:Nat} (h:a+b≤35184372088832):wI ((a:Int)+(b:Int))=((a+b:Nat):Int):=by rw [A4 (by omega)];omega
noncomputable def dG (o1 n1 m1 o2 n2 m2:Nat) (x1 x2:List Int):Heap:=[(0,some (AU [.sl 1 o1 n1 m1,.sl 2 o2 n2 m2])),(1,some (AU [.seq .u8 x1])),(2,some (AU [.seq .u8 x2]))]
noncomputable def AQh (o1 n1 m1 o2 n2 m2:Nat) (x1 x2:List Int):ASt:=Ah ccF [AK 0 0 2 2] (dG o1 n1 m1 o2 n2 m2 x1 x2) 3 [true,false,true,false,false,true,true,false]
def V' (n1 n2:Nat):Int:=wI (wI (0+(n1:Int))+(n2:Int))
def yF (o1 n1 o2 n2:Nat) (x1 x2:List Int):List Int:=(AA x1 o1 n1).take (0+n1)++AA x2 o2 n2
theorem AQi (o1 n1 m1 o2 n2 m2:Nat) (x1 x2:List Int):AQ Tryz.prog oSp ccF 400 3 [5] (AQh o1 n1 m1 o2 n2 m2 x1 x2)=some (tt 3 ((AI .i64 n1,true)::(decide (wI (0+(n1:Int))<0),false)::tt 2 ((AI .i64 n2,true)::(decide (wI (wI (0+(n1:Int))+(n2:Int))<0),false)::(false,false)::(decide (0≤V' n1 n2∧V' n1 n2≤35184372088832),true)::tt 4 ((Nat.ble (o1+n1) x1.length,true)::(E' (0+n1),true)::tt 2 ((Nat.ble (0+n1) (AA x1 o1 n1).length,true)::(Nat.ble (o2+n2) x2.length,true)::(E' (0+n1+n2),true)::(false,false)::[])))),[],.val false [.sx 5 (0+n1+n2) 1],G2 5 (yF o1 n1 o2 n2 x1 x2)):=by kernel_rfl
theorem AQj {o1 n1 m1 o2 n2 m2:Nat} {x1 x2:List Int} (h1:o1+n1≤x1.length) (h2:o2+n2≤x2.length) (hn:n1+n2≤35184372088832):AY Tryz.prog 90 [AK 0 0 2 2] (dG o1 n1 m1 o2 n2 m2 x1 x2) 3 [] (.val false [.sx 5 (n1+n2) 1]) (G2 5 (AA x1 o1 n1++AA x2 o2 n2)):=by
 have w1:=CS h1
 have w2:=CS h2
 have e1:wI (0+(n1:Int))=(n1:Nat):=by rw [A4 (by omega)];omega
 have e2:=NL (a:=n1) (b:=n2) (by omega)
 have eA:V' n1 n2=((n1+n2:Nat):Int):=by unfold V';rw [e1,e2]
 have l1:=w1
 have l2:=EL l1 w2
 have q2:(AA x1 o1 n1).take (0+n1)++AA x2 o2 n2=AA x1 o1 n1++AA x2 o2 n2:=by rw [show 0+n1=n1 by omega,GI l1]
 have eY:yF o1 n1 o2 n2 x1 x2=AA x1 o1 n1++AA x2 o2 n2:=q2
 have eL:0+n1+n2=n1+n2:=by omega
 refine Ax (path:=[true,false,true,false,false,true,true,false]) Tryz.func90 (by kernel_rfl) (by kernel_rfl) fun β0 w0 hb=>?_
 have:=Aw (P:=Tryz.prog) (n:=ccF.ntmps) (β0:=β0) (w0:=w0) (W:=[]) V9 AE Tryz.func90 (AQi o1 n1 m1 o2 n2 m2 x1 x2) ?_ (AR (by kernel_rfl)) hb (fun _ h=>by cases h)
 ·rw [eY,eL] at this
  exact this
 ·rw [eA]
  simp only [e1,e2,V_]
  exact Ab 3 ⟨Et (by omega),rfl,Ab 2 ⟨Et (by omega),rfl,rfl,decide_eq_true ⟨by omega,by omega⟩,Ab 4 ⟨Nat.ble_eq_true_of_le h1,FT (by omega),Ab 2 ⟨Nat.ble_eq_true_of_le (by rw [w1];omega),Nat.ble_eq_true_of_le h2,FT (by omega),rfl,trivial⟩⟩⟩⟩
noncomputable def dH (o1 n1 m1 o2 n2 m2 o3 n3 m3:Nat) (x1 x2 x3:List Int):Heap:=[(0,some (AU [.sl 1 o1 n1 m1,.sl 2 o2 n2 m2,.sl 3 o3 n3 m3])),(1,some (AU [.seq .u8 x1])),(2,some (AU [.seq .u8 x2])),(3,some (AU [.seq .u8 x3]))]
noncomputable def AQk (o1 n1 m1 o2 n2 m2 o3 n3 m3:Nat) (x1 x2 x3:List Int):ASt:=Ah ccF [AK 0 0 3 3] (dH o1 n1 m1 o2 n2 m2 o3 n3 m3 x1 x2 x3) 4 [true,false,true,false,true,false,false,true,true,true,false]
def WA (n1 n2 n3:Nat):Int:=wI (wI (wI (0+(n1:Int))+(n2:Int))+(n3:Int))
def yG (o1 n1 o2 n2 o3 n3:Nat) (x1 x2 x3:List Int):List Int:=((AA x1 o1 n1).take (0+n1)++AA x2 o2 n2).take (0+n1+n2)++AA x3 o3 n3
theorem AQl (o1 n1 m1 o2 n2 m2 o3 n3 m3:Nat) (x1 x2 x3:List Int):AQ Tryz.prog oSp ccF 400 4 [7] (AQk o1 n1 m1 o2 n2 m2 o3 n3 m3 x1 x2 x3)=some (tt 3 ((AI .i64 n1,true)::(decide (wI (0+(n1:Int))<0),false)::tt 2 ((AI .i64 n2,true)::(decide (wI (wI (0+(n1:Int))+(n2:Int))<0),false)::tt 2 ((AI .i64 n3,true)::(decide (wI (wI (wI (0+(n1:Int))+(n2:Int))+(n3:Int))<0),false)::(false,false)::(decide (0≤WA n1 n2 n3∧WA n1 n2 n3≤35184372088832),true)::tt 4 ((Nat.ble (o1+n1) x1.length,true)::(E' (0+n1),true)::tt 2 ((Nat.ble (0+n1) (AA x1 o1 n1).length,true)::(Nat.ble (o2+n2) x2.length,true)::(E' (0+n1+n2),true)::tt 2 ((Nat.ble (0+n1+n2) ((AA x1 o1 n1).take (0+n1)++AA x2 o2 n2).length,true)::(Nat.ble (o3+n3) x3.length,true)::(E' (0+n1+n2+n3),true)::(false,false)::[])))))),[],.val false [.sx 7 (0+n1+n2+n3) 1],G2 7 (yG o1 n1 o2 n2 o3 n3 x1 x2 x3)):=by kernel_rfl
theorem AQm {o1 n1 m1 o2 n2 m2 o3 n3 m3:Nat} {x1 x2 x3:List Int} (h1:o1+n1≤x1.length) (h2:o2+n2≤x2.length) (h3:o3+n3≤x3.length) (hn:n1+n2+n3≤35184372088832):AY Tryz.prog 90 [AK 0 0 3 3] (dH o1 n1 m1 o2 n2 m2 o3 n3 m3 x1 x2 x3) 4 [] (.val false [.sx 7 (n1+n2+n3) 1]) (G2 7 (AA x1 o1 n1++AA x2 o2 n2++AA x3 o3 n3)):=by
 have w1:=CS h1
 have w2:=CS h2
 have w3:=CS h3
 have e1:wI (0+(n1:Int))=(n1:Nat):=by rw [A4 (by omega)];omega
 have e2:=NL (a:=n1) (b:=n2) (by omega)
 have e3:=NL (a:=n1+n2) (b:=n3) (by omega)
 have eA:WA n1 n2 n3=((n1+n2+n3:Nat):Int):=by unfold WA;rw [e1,e2,e3]
 have l1:=w1
 have l2:=EL l1 w2
 have l3:=EL l2 w3
 have q2:(AA x1 o1 n1).take (0+n1)++AA x2 o2 n2=AA x1 o1 n1++AA x2 o2 n2:=by rw [show 0+n1=n1 by omega,GI l1]
 have q3:((AA x1 o1 n1).take (0+n1)++AA x2 o2 n2).take (0+n1+n2)++AA x3 o3 n3=AA x1 o1 n1++AA x2 o2 n2++AA x3 o3 n3:=by rw [q2,show 0+n1+n2=n1+n2 by omega,GI l2]
 have eY:yG o1 n1 o2 n2 o3 n3 x1 x2 x3=AA x1 o1 n1++AA x2 o2 n2++AA x3 o3 n3:=q3
 have eL:0+n1+n2+n3=n1+n2+n3:=by omega
 refine Ax (path:=[true,false,true,false,true,false,false,true,true,true,false]) Tryz.func90 (by kernel_rfl) (by kernel_rfl) fun β0 w0 hb=>?_
 have:=Aw (P:=Tryz.prog) (n:=ccF.ntmps) (β0:=β0) (w0:=w0) (W:=[]) V9 AE Tryz.func90 (AQl o1 n1 m1 o2 n2 m2 o3 n3 m3 x1 x2 x3) ?_ (AR (by kernel_rfl)) hb (fun _ h=>by cases h)
 ·rw [eY,eL] at this
  exact this
 ·rw [eA]
  simp only [e1,e2,e3,V_]
  exact Ab 3 ⟨Et (by omega),rfl,Ab 2 ⟨Et (by omega),rfl,Ab 2 ⟨Et (by omega),rfl,rfl,decide_eq_true ⟨by omega,by omega⟩,Ab 4 ⟨Nat.ble_eq_true_of_le h1,FT (by omega),Ab 2 ⟨Nat.ble_eq_true_of_le (by rw [w1];omega),Nat.ble_eq_true_of_le h2,FT (by omega),Ab 2 ⟨Nat.ble_eq_true_of_le (by rw [q2,l2];omega),Nat.ble_eq_true_of_le h3,FT (by omega),rfl,trivial⟩⟩⟩⟩⟩⟩
noncomputable def dI (o1 n1 m1 o2 n2 m2 o3 n3 m3 o4 n4 m4:Nat) (x1 x2 x3 x4:List Int):Heap:=[(0,some (AU [.sl 1 o1 n1 m1,.sl 2 o2 n2 m2,.sl 3 o3 n3 m3,.sl 4 o4 n4 m4])),(1,some (AU [.seq .u8 x1])),(2,some (AU [.seq .u8 x2])),(3,some (AU [.seq .u8 x3])),(4,some (AU [.seq .u8 x4]))]
noncomputable def AQn (o1 n1 m1 o2 n2 m2 o3 n3 m3 o4 n4 m4:Nat) (x1 x2 x3 x4:List Int):ASt:=Ah ccF [AK 0 0 4 4] (dI o1 n1 m1 o2 n2 m2 o3 n3 m3 o4 n4 m4 x1 x2 x3 x4) 5 [true,false,true,false,true,false,true,false,false,true,true,true,true,false]
def WB (n1 n2 n3 n4:Nat):Int:=wI (wI (wI (wI (0+(n1:Int))+(n2:Int))+(n3:Int))+(n4:Int))
def yH (o1 n1 o2 n2 o3 n3 o4 n4:Nat) (x1 x2 x3 x4:List Int):List Int:=(((AA x1 o1 n1).take (0+n1)++AA x2 o2 n2).take (0+n1+n2)++AA x3 o3 n3).take (0+n1+n2+n3)++AA x4 o4 n4
theorem AQo (o1 n1 m1 o2 n2 m2 o3 n3 m3 o4 n4 m4:Nat) (x1 x2 x3 x4:List Int):AQ Tryz.prog oSp ccF 400 5 [9] (AQn o1 n1 m1 o2 n2 m2 o3 n3 m3 o4 n4 m4 x1 x2 x3 x4)=some (tt 3 ((AI .i64 n1,true)::(decide (wI (0+(n1:Int))<0),false)::tt 2 ((AI .i64 n2,true)::(decide (wI (wI (0+(n1:Int))+(n2:Int))<0),false)::tt 2 ((AI .i64 n3,true)::(decide (wI (wI (wI (0+(n1:Int))+(n2:Int))+(n3:Int))<0),false)::tt 2 ((AI .i64 n4,true)::(decide (wI (wI (wI (wI (0+(n1:Int))+(n2:Int))+(n3:Int))+(n4:Int))<0),false)::(false,false)::(decide (0≤WB n1 n2 n3 n4∧WB n1 n2 n3 n4≤35184372088832),true)::tt 4 ((Nat.ble (o1+n1) x1.length,true)::(E' (0+n1),true)::tt 2 ((Nat.ble (0+n1) (AA x1 o1 n1).length,true)::(Nat.ble (o2+n2) x2.length,true)::(E' (0+n1+n2),true)::tt 2 ((Nat.ble (0+n1+n2) ((AA x1 o1 n1).take (0+n1)++AA x2 o2 n2).length,true)::(Nat.ble (o3+n3) x3.length,true)::(E' (0+n1+n2+n3),true)::tt 2 ((Nat.ble (0+n1+n2+n3) (((AA x1 o1 n1).take (0+n1)++AA x2 o2 n2).take (0+n1+n2)++AA x3 o3 n3).length,true)::(Nat.ble (o4+n4) x4.length,true)::(E' (0+n1+n2+n3+n4),true)::(false,false)::[])))))))),[],.val false [.sx 9 (0+n1+n2+n3+n4) 1],G2 9 (yH o1 n1 o2 n2 o3 n3 o4 n4 x1 x2 x3 x4)):=by kernel_rfl
theorem AQp {o1 n1 m1 o2 n2 m2 o3 n3 m3 o4 n4 m4:Nat} {x1 x2 x3 x4:List Int} (h1:o1+n1≤x1.length) (h2:o2+n2≤x2.length) (h3:o3+n3≤x3.length) (h4:o4+n4≤x4.length) (hn:n1+n2+n3+n4≤35184372088832):AY Tryz.prog 90 [AK 0 0 4 4] (dI o1 n1 m1 o2 n2 m2 o3 n3 m3 o4 n4 m4 x1 x2 x3 x4) 5 [] (.val false [.sx 9 (n1+n2+n3+n4) 1]) (G2 9 (AA x1 o1 n1++AA x2 o2 n2++AA x3 o3 n3++AA x4 o4 n4)):=by
 have w1:=CS h1
 have w2:=CS h2
 have w3:=CS h3
 have w4:=CS h4
 have e1:wI (0+(n1:Int))=(n1:Nat):=by rw [A4 (by omega)];omega
 have e2:=NL (a:=n1) (b:=n2) (by omega)
 have e3:=NL (a:=n1+n2) (b:=n3) (by omega)
 have e4:=NL (a:=n1+n2+n3) (b:=n4) (by omega)
 have eA:WB n1 n2 n3 n4=((n1+n2+n3+n4:Nat):Int):=by unfold WB;rw [e1,e2,e3,e4]
 have l1:=w1
 have l2:=EL l1 w2
 have l3:=EL l2 w3
 have l4:=EL l3 w4
 have q2:(AA x1 o1 n1).take (0+n1)++AA x2 o2 n2=AA x1 o1 n1++AA x2 o2 n2:=by rw [show 0+n1=n1 by omega,GI l1]
 have q3:((AA x1 o1 n1).take (0+n1)++AA x2 o2 n2).take (0+n1+n2)++AA x3 o3 n3=AA x1 o1 n1++AA x2 o2 n2++AA x3 o3 n3:=by rw [q2,show 0+n1+n2=n1+n2 by omega,GI l2]
 have q4:(((AA x1 o1 n1).take (0+n1)++AA x2 o2 n2).take (0+n1+n2)++AA x3 o3 n3).take (0+n1+n2+n3)++AA x4 o4 n4=AA x1 o1 n1++AA x2 o2 n2++AA x3 o3 n3++AA x4 o4 n4:=by rw [q3,show 0+n1+n2+n3=n1+n2+n3 by omega,GI l3]
 have eY:yH o1 n1 o2 n2 o3 n3 o4 n4 x1 x2 x3 x4=AA x1 o1 n1++AA x2 o2 n2++AA x3 o3 n3++AA x4 o4 n4:=q4
 have eL:0+n1+n2+n3+n4=n1+n2+n3+n4:=by omega
 refine Ax (path:=[true,false,true,false,true,false,true,false,false,true,true,true,true,false]) Tryz.func90 (by kernel_rfl) (by kernel_rfl) fun β0 w0 hb=>?_
 have:=Aw (P:=Tryz.prog) (n:=ccF.ntmps) (β0:=β0) (w0:=w0) (W:=[]) V9 AE Tryz.func90 (AQo o1 n1 m1 o2 n2 m2 o3 n3 m3 o4 n4 m4 x1 x2 x3 x4) ?_ (AR (by kernel_rfl)) hb (fun _ h=>by cases h)
 ·rw [eY,eL] at this
  exact this
 ·rw [eA]
  simp only [e1,e2,e3,e4,V_]
  exact Ab 3 ⟨Et (by omega),rfl,Ab 2 ⟨Et (by omega),rfl,Ab 2 ⟨Et (by omega),rfl,Ab 2 ⟨Et (by omega),rfl,rfl,decide_eq_true ⟨by omega,by omega⟩,Ab 4 ⟨Nat.ble_eq_true_of_le h1,FT (by omega),Ab 2 ⟨Nat.ble_eq_true_of_le (by rw [w1];omega),Nat.ble_eq_true_of_le h2,FT (by omega),Ab 2 ⟨Nat.ble_eq_true_of_le (by rw [q2,l2];omega),Nat.ble_eq_true_of_le h3,FT (by omega),Ab 2 ⟨Nat.ble_eq_true_of_le (by rw [q3,l3];omega),Nat.ble_eq_true_of_le h4,FT (by omega),rfl,trivial⟩⟩⟩⟩⟩⟩⟩⟩
noncomputable def dJ (o1 n1 m1 o2 n2 m2:Nat) (x1 x2:List Int):Heap:=[(0,some (AU [.v (.slice none 0 0),.sl 1 o1 n1 m1,.sl 2 o2 n2 m2])),(1,some (AU [.seq .u8 x1])),(2,some (AU [.seq .u8 x2]))]
noncomputable def AQq (o1 n1 m1 o2 n2 m2:Nat) (x1 x2:List Int):ASt:=Ah ccF [AK 0 0 3 3] (dJ o1 n1 m1 o2 n2 m2 x1 x2) 3 [true,false,true,false,true,false,false,true,true,true,false]
def WC (n1 n2:Nat):Int:=wI (wI (wI (0+0)+(n1:Int))+(n2:Int))
def yI (o1 n1 o2 n2:Nat) (x1 x2:List Int):List Int:=(AA x1 o1 n1).take (0+n1)++AA x2 o2 n2
theorem AQr (o1 n1 m1 o2 n2 m2:Nat) (x1 x2:List Int):AQ Tryz.prog oSp ccF 400 3 [6] (AQq o1 n1 m1 o2 n2 m2 x1 x2)=some (tt 4 ((false,false)::tt 2 ((AI .i64 n1,true)::(decide (wI (wI (0+0)+(n1:Int))<0),false)::tt 2 ((AI .i64 n2,true)::(decide (wI (wI (wI (0+0)+(n1:Int))+(n2:Int))<0),false)::(false,false)::(decide (0≤WC n1 n2∧WC n1 n2≤35184372088832),true)::tt 9 ((Nat.ble (o1+n1) x1.length,true)::(E' (0+n1),true)::tt 2 ((Nat.ble (0+n1) (AA x1 o1 n1).length,true)::(Nat.ble (o2+n2) x2.length,true)::(E' (0+n1+n2),true)::(false,false)::[]))))),[],.val false [.sx 6 (0+n1+n2) 1],G2 6 (yI o1 n1 o2 n2 x1 x2)):=by kernel_rfl
theorem AQs {o1 n1 m1 o2 n2 m2:Nat} {x1 x2:List Int} (h1:o1+n1≤x1.length) (h2:o2+n2≤x2.length) (hn:n1+n2≤35184372088832):AY Tryz.prog 90 [AK 0 0 3 3] (dJ o1 n1 m1 o2 n2 m2 x1 x2) 3 [] (.val false [.sx 6 (n1+n2) 1]) (G2 6 (AA x1 o1 n1++AA x2 o2 n2)):=by
 have w1:=CS h1
 have w2:=CS h2
 have e0:wI ((0:Int)+0)=0:=rfl
 have e1:wI (0+(n1:Int))=(n1:Nat):=by rw [A4 (by omega)];omega
 have e2:=NL (a:=n1) (b:=n2) (by omega)
 have eA:WC n1 n2=((n1+n2:Nat):Int):=by unfold WC;rw [e0,e1,e2]
 have l1:=w1
 have l2:=EL l1 w2
 have q2:(AA x1 o1 n1).take (0+n1)++AA x2 o2 n2=AA x1 o1 n1++AA x2 o2 n2:=by rw [show 0+n1=n1 by omega,GI l1]
 have eY:yI o1 n1 o2 n2 x1 x2=AA x1 o1 n1++AA x2 o2 n2:=q2
 have eL:0+n1+n2=n1+n2:=by omega
 refine Ax (path:=[true,false,true,false,true,false,false,true,true,true,false]) Tryz.func90 (by kernel_rfl) (by kernel_rfl) fun β0 w0 hb=>?_
 have:=Aw (P:=Tryz.prog) (n:=ccF.ntmps) (β0:=β0) (w0:=w0) (W:=[]) V9 AE Tryz.func90 (AQr o1 n1 m1 o2 n2 m2 x1 x2) ?_ (AR (by kernel_rfl)) hb (fun _ h=>by cases h)
 ·rw [eY,eL] at this
  exact this
 ·rw [eA]
  simp only [e0,e1,e2,V_]
  exact Ab 4 ⟨rfl,Ab 2 ⟨Et (by omega),rfl,Ab 2 ⟨Et (by omega),rfl,rfl,decide_eq_true ⟨by omega,by omega⟩,Ab 9 ⟨Nat.ble_eq_true_of_le h1,FT (by omega),Ab 2 ⟨Nat.ble_eq_true_of_le (by rw [w1];omega),Nat.ble_eq_true_of_le h2,FT (by omega),rfl,trivial⟩⟩⟩⟩⟩
theorem If {β:Env} {H:Heap} {w:World} {ρ:List Nat} {bs:List Blk} (g:Ex.Good β H w) (h:∀ j d,bs[j]? = some d→d.ty=BN∧Da (Ap β ρ bs.length) d j w):Ex.Good (Ap β ρ bs.length) (MQ 0 bs) w:=by
 refine ⟨fun j blk hj=>?_,fun i j B n n' h1 _ _ _=>?_,fun j B n hj=>?_⟩
 ·obtain ⟨_,hj⟩:=Kq hj
  rw [Nat.sub_zero] at hj
  exact (h j blk hj).2
 ·obtain ⟨d,hd,hr⟩:=FB h1
  obtain ⟨_,hd⟩:=Kq hd
  rw [Nat.sub_zero] at hd
  exact absurd (h i d hd).1 hr
 ·unfold Ap at hj
  split at hj
  ·exact g.lt _ _ _ hj
  ·cases hj
theorem HZ {β:Env} {C:Ch} {k off n:Nat} {l:List Value} (h:Br (.val false [C])=some (k,off,n)) (hr:A2 β C l):∃ m,A2 β (.sl k off n m) l:=by
 have h1:∃ u,l=[u]:=by
  unfold Br at h
  split at h
  ·rename_i he
   injection he with _ he;injection he with he _;subst he
   rcases hr with ⟨B,q,_,e⟩ | ⟨_,_,_,_,e⟩<;>exact ⟨_,e⟩
  ·rename_i he
   injection he with _ he;injection he with he _;subst he
   rcases hr with ⟨B,q,cap,_,e,_⟩ | ⟨_,_,e⟩<;>exact ⟨_,e⟩
  ·cases h
 obtain ⟨u,rfl⟩:=h1
 obtain ⟨m,hm⟩:=Dj (u:=u) h (Am hr)
 exact ⟨m,An hm⟩
theorem Hg {β:Env} {k j off n m:Nat} {ρ:List Nat} {k0:Nat} {l:List Value} (hj:j<k0) (hn:nth ρ j=k) (h:A2 β (.sl k off n m) l):A2 (Ap β ρ k0) (.sl j off n m) l:=by
 have e:Ap β ρ k0 j=β k:=by rw [HH hj,hn]
 rcases h with ⟨B,q,q1,q2⟩ | ⟨q1,q2⟩
 ·exact .inl ⟨B,q,by rw [e];exact q1,q2⟩
 ·exact .inr ⟨by rw [e];exact q1,q2⟩
theorem DE {β:Env} {H:Heap} {w:World} {k j ty:Nat} {cs:List Ch} {o:Bool} {xs:List Int} {ρ:List Nat} {k0:Nat} (hg:Ex.Good β H w) (hk:AB H k=some ⟨ty,cs,o⟩) (hx:Ak .u8 cs=some xs) (hj:j<k0) (hn:nth ρ j=k):Da (Ap β ρ k0) (AU [.seq .u8 xs]) j w:=by
 refine Tr (hg.heap _ _ hk) (by rw [HH hj,hn]) (.inl ⟨rfl,rfl⟩) fun l h=>?_
 obtain ⟨q1,q2⟩:=Bu hx h
 exact ⟨_,[],⟨q1,q2⟩,rfl,by simp⟩
theorem WD {β:Env} {H:Heap} {w:World} {k ty:Nat} {c:Ch} {cs:List Ch} {o:Bool} (hg:Ex.Good β H w) (hk:AB H k=some ⟨ty,c::cs,o⟩) (hz:DN c=1) (hw:G7 [c]=true):∃ l,AH β (c::cs) l∧∀ (β':Env) (cs':List Ch) (j:Nat),β' j=β k→AH β' cs' l→Da β' (AU cs') j w:=by
 rcases hg.heap _ _ hk with ⟨B,n,l,t,pre,ty',fz,q1,q2,q3,q4,_⟩ | ⟨_,_,q3⟩ | ⟨B,l,es,q,q1,q2,⟨l1,l2,q3,q5,q6⟩,q4⟩
 ·exact ⟨l,q2,fun β' cs' j he hr=>.inl ⟨B,n,l,t,pre,ty',fz,he.trans q1,hr,q3,q4,fun h=>absurd rfl h⟩⟩
 ·have:=NZ q3
  simp only [Ho,hz,List.length_nil] at this
  omega
 ·exfalso
  have h1:=Lo q3
  rw [hz] at h1
  match l1,h1,q6 with
  | [x],_,q6 =>
   injection q6 with q6 _
   subst q6
   exact W2 hw ⟨_,[],q3,rfl,rfl⟩ (List.mem_cons_self ..)
def GJ (H:Heap) (c:Ch):Option (Nat×Nat×Nat×List Int):=match Br (.val false [c]) with
 | some (k,off,n)=>match AB H k with
  | some ⟨_,cs,_⟩=>match Ak .u8 cs with
   | some xs=>some (k,off,n,xs)
   | none=>none
  | none=>none
 | none=>none
theorem Hh {H:Heap} {c:Ch} {k off n:Nat} {xs:List Int} (h:GJ H c=some (k,off,n,xs)):Br (.val false [c])=some (k,off,n)∧∃ ty cs o,AB H k=some ⟨ty,cs,o⟩∧Ak .u8 cs=some xs:=by
 unfold GJ at h
 split at h
 case h_2=>cases h
 rename_i k' off' n' h1
 split at h
 case h_2=>cases h
 rename_i ty cs o h2
 split at h
 case h_2=>cases h
 rename_i xs' h3
 injection h with h;injection h with e1 h;injection h with e2 h;injection h with e3 e4
 subst e1;subst e2;subst e3;subst e4
 exact ⟨h1,ty,cs,o,h2,h3⟩
theorem dK {c:Ch} {x:Nat×Nat×Nat} (h:Br (.val false [c])=some x):DN c=1:=by
 unfold Br at h
 split at h
 ·rename_i he
  injection he with _ he;injection he with he _;subst he;rfl
 ·rename_i he
  injection he with _ he;injection he with he _;subst he;rfl
 ·cases h
theorem dL {c:Ch} {x:Nat×Nat×Nat} (h:Br (.val false [c])=some x):G7 [c]=true:=by
 unfold Br at h
 split at h
 ·rename_i he
  injection he with _ he;injection he with he _;subst he;rfl
 ·rename_i he
  injection he with _ he;injection he with he _;subst he;rfl
 ·cases h
def dM (H:Heap) (k fr:Nat) (path:List Bool) (c1 c2:Ch):Option R:=match GJ H c1,GJ H c2 with
 | some (k1,o1,n1,x1),some (k2,o2,n2,x2)=>some (Az [k,k1,k2] 3 fr 3 [] (.val false [.sx 5 (n1+n2) 1]) (G2 5 (AA x1 o1 n1++AA x2 o2 n2)) [(Nat.ble (o1+n1) x1.length,true),(Nat.ble (o2+n2) x2.length,true),(Nat.ble (n1+n2) 35184372088832,true)] path)
 | _,_=>none
def dN (H:Heap) (k fr:Nat) (path:List Bool) (c1 c2 c3:Ch):Option R:=match GJ H c1,GJ H c2,GJ H c3 with
 | some (k1,o1,n1,x1),some (k2,o2,n2,x2),some (k3,o3,n3,x3)=>some (Az [k,k1,k2,k3] 4 fr 4 [] (.val false [.sx 7 (n1+n2+n3) 1]) (G2 7 (AA x1 o1 n1++AA x2 o2 n2++AA x3 o3 n3)) [(Nat.ble (o1+n1) x1.length,true),(Nat.ble (o2+n2) x2.length,true),(Nat.ble (o3+n3) x3.length,true),(Nat.ble (n1+n2+n3) 35184372088832,true)] path)
 | _,_,_=>none
def dO (H:Heap) (k fr:Nat) (path:List Bool) (c1 c2 c3 c4:Ch):Option R:=match GJ H c1,GJ H c2,GJ H c3,GJ H c4 with
 | some (k1,o1,n1,x1),some (k2,o2,n2,x2),some (k3,o3,n3,x3),some (k4,o4,n4,x4)=>some (Az [k,k1,k2,k3,k4] 5 fr 5 [] (.val false [.sx 9 (n1+n2+n3+n4) 1]) (G2 9 (AA x1 o1 n1++AA x2 o2 n2++AA x3 o3 n3++AA x4 o4 n4)) [(Nat.ble (o1+n1) x1.length,true),(Nat.ble (o2+n2) x2.length,true),(Nat.ble (o3+n3) x3.length,true),(Nat.ble (o4+n4) x4.length,true),(Nat.ble (n1+n2+n3+n4) 35184372088832,true)] path)
 | _,_,_,_=>none
def dQ (H:Heap) (k fr:Nat) (path:List Bool) (c2 c3:Ch):Option R:=match GJ H c2,GJ H c3 with
 | some (k1,o1,n1,x1),some (k2,o2,n2,x2)=>some (Az [k,k1,k2] 3 fr 4 [] (.val false [.sx 6 (n1+n2) 1]) (G2 6 (AA x1 o1 n1++AA x2 o2 n2)) [(Nat.ble (o1+n1) x1.length,true),(Nat.ble (o2+n2) x2.length,true),(Nat.ble (n1+n2) 35184372088832,true)] path)
 | _,_=>none
def ccSp:ASpec:=fun args H fr path=>match args with
 | [.val false [.sl k 0 n m]]=>match AB H k,Nat.beq m n with
  | some ⟨_,cs,_⟩,true=>match cs with
   | [c1,c2]=>match Nat.beq n 2 with
    | true=>dM H k fr path c1 c2
    | false=>none
   | [c1,c2,c3]=>match Nat.beq n 3,c1 with
    | true,.v (.slice none 0 0)=>dQ H k fr path c2 c3
    | true,c1=>dN H k fr path c1 c2 c3
    | _,_=>none
   | [c1,c2,c3,c4]=>match Nat.beq n 4 with
    | true=>dO H k fr path c1 c2 c3 c4
    | false=>none
   | _=>none
  | _,_=>none
 | _=>none
theorem AQt {H:Heap} {k fr ty:Nat} {path:List Bool} {c1 c2:Ch} {o:Bool} {r:R} (hk:AB H k=some ⟨ty,[c1,c2],o⟩) (hs:dM H k fr path c1 c2=some r) :
  ∃ (ρ:List Nat) (k0 nw:Nat) (W:List Nat) (val:AV) (H1:Heap) (conds:List (Bool×Bool)) (path':List Bool),
   r=Az ρ k0 fr nw W val H1 conds path'∧(∀ β us w,Aq β [AK k 0 2 2] us→Ex.Good β H w→AP conds→∃ args0 H0,AY Tryz.prog 90 args0 H0 k0 W val H1∧Ct k0 nw W val H1=true∧Aq (Ap β ρ k0) args0 us∧Ex.Good (Ap β ρ k0) H0 w∧(∀ k,k<k0→∃ X,β (nth ρ k)=some X)):=by
 unfold dM at hs
 split at hs
 case h_2=>cases hs
 rename_i k1 o1 n1 x1 k2 o2 n2 x2 a1 a2
 injection hs with hs
 obtain ⟨s1,ty1,cs1,p1,g1,t1⟩:=Hh a1
 obtain ⟨s2,ty2,cs2,p2,g2,t2⟩:=Hh a2
 refine ⟨[k,k1,k2],3,3,[],_,_,_,path,hs.symm,fun β us w ha hg hc=>?_⟩
 obtain ⟨b1,b2,hS,_⟩:=hc
 obtain ⟨u1,us1,r1,ha,rfl⟩:=ha
 obtain ⟨l,hl,hv⟩:=WD hg hk (dK s1) (dL s1)
 obtain ⟨v1,l1,d1,f1,rfl⟩:=hl
 obtain ⟨v2,l2,d2,f2,rfl⟩:=f1
 obtain ⟨m1,d1⟩:=HZ s1 d1
 obtain ⟨m2,d2⟩:=HZ s2 d2
 refine ⟨[AK 0 0 2 2],dG o1 n1 m1 o2 n2 m2 x1 x2,AQj (Nat.le_of_ble_eq_true b1) (Nat.le_of_ble_eq_true b2) (Nat.le_of_ble_eq_true hS),rfl,⟨u1,_,BW (by omega) rfl r1,ha,rfl⟩,If (bs:=[AU [.sl 1 o1 n1 m1,.sl 2 o2 n2 m2],AU [.seq .u8 x1],AU [.seq .u8 x2]]) hg fun j d hj=>?_,fun j hj=>?_⟩
 ·match j,hj with
  | 0,hj=>injection hj with hj;subst hj;exact ⟨rfl,hv _ _ _ (HH (by show 0<3;decide)) ⟨_,_,Hg (by show 1<3;decide) rfl d1,⟨_,_,Hg (by show 2<3;decide) rfl d2,f2,rfl⟩,rfl⟩⟩
  | 1,hj=>injection hj with hj;subst hj;exact ⟨rfl,DE hg g1 t1 (by show 1<3;decide) rfl⟩
  | 2,hj=>injection hj with hj;subst hj;exact ⟨rfl,DE hg g2 t2 (by show 2<3;decide) rfl⟩
 ·match j,hj with
  | 0,_=>exact BH (hg.heap _ _ hk)
  | 1,_=>exact BH (hg.heap _ _ g1)
  | 2,_=>exact BH (hg.heap _ _ g2)
theorem AQu {H:Heap} {k fr ty:Nat} {path:List Bool} {c1 c2 c3:Ch} {o:Bool} {r:R} (hk:AB H k=some ⟨ty,[c1,c2,c3],o⟩) (hs:dN H k fr path c1 c2 c3=some r) :
  ∃ (ρ:List Nat) (k0 nw:Nat) (W:List Nat) (val:AV) (H1:Heap) (conds:List (Bool×Bool)) (path':List Bool),
   r=Az ρ k0 fr nw W val H1 conds path'∧(∀ β us w,Aq β [AK k 0 3 3] us→Ex.Good β H w→AP conds→∃ args0 H0,AY Tryz.prog 90 args0 H0 k0 W val H1∧Ct k0 nw W val H1=true∧Aq (Ap β ρ k0) args0 us∧Ex.Good (Ap β ρ k0) H0 w∧(∀ k,k<k0→∃ X,β (nth ρ k)=some X)):=by
 unfold dN at hs
 split at hs
 case h_2=>cases hs
 rename_i k1 o1 n1 x1 k2 o2 n2 x2 k3 o3 n3 x3 a1 a2 a3
 injection hs with hs
 obtain ⟨s1,ty1,cs1,p1,g1,t1⟩:=Hh a1
 obtain ⟨s2,ty2,cs2,p2,g2,t2⟩:=Hh a2
 obtain ⟨s3,ty3,cs3,p3,g3,t3⟩:=Hh a3
 refine ⟨[k,k1,k2,k3],4,4,[],_,_,_,path,hs.symm,fun β us w ha hg hc=>?_⟩
 obtain ⟨b1,b2,b3,hS,_⟩:=hc
 obtain ⟨u1,us1,r1,ha,rfl⟩:=ha
 obtain ⟨l,hl,hv⟩:=WD hg hk (dK s1) (dL s1)
 obtain ⟨v1,l1,d1,f1,rfl⟩:=hl
 obtain ⟨v2,l2,d2,f2,rfl⟩:=f1
 obtain ⟨v3,l3,d3,f3,rfl⟩:=f2
 obtain ⟨m1,d1⟩:=HZ s1 d1
 obtain ⟨m2,d2⟩:=HZ s2 d2
 obtain ⟨m3,d3⟩:=HZ s3 d3
 refine ⟨[AK 0 0 3 3],dH o1 n1 m1 o2 n2 m2 o3 n3 m3 x1 x2 x3,AQm (Nat.le_of_ble_eq_true b1) (Nat.le_of_ble_eq_true b2) (Nat.le_of_ble_eq_true b3) (Nat.le_of_ble_eq_true hS),rfl,⟨u1,_,BW (by omega) rfl r1,ha,rfl⟩,If (bs:=[AU [.sl 1 o1 n1 m1,.sl 2 o2 n2 m2,.sl 3 o3 n3 m3],AU [.seq .u8 x1],AU [.seq .u8 x2],AU [.seq .u8 x3]]) hg fun j d hj=>?_,fun j hj=>?_⟩
 ·match j,hj with
  | 0,hj=>injection hj with hj;subst hj;exact ⟨rfl,hv _ _ _ (HH (by show 0<4;decide)) ⟨_,_,Hg (by show 1<4;decide) rfl d1,⟨_,_,Hg (by show 2<4;decide) rfl d2,⟨_,_,Hg (by show 3<4;decide) rfl d3,f3,rfl⟩,rfl⟩,rfl⟩⟩
  | 1,hj=>injection hj with hj;subst hj;exact ⟨rfl,DE hg g1 t1 (by show 1<4;decide) rfl⟩
  | 2,hj=>injection hj with hj;subst hj;exact ⟨rfl,DE hg g2 t2 (by show 2<4;decide) rfl⟩
  | 3,hj=>injection hj with hj;subst hj;exact ⟨rfl,DE hg g3 t3 (by show 3<4;decide) rfl⟩
 ·match j,hj with
  | 0,_=>exact BH (hg.heap _ _ hk)
  | 1,_=>exact BH (hg.heap _ _ g1)
  | 2,_=>exact BH (hg.heap _ _ g2)
  | 3,_=>exact BH (hg.heap _ _ g3)
theorem AQv {H:Heap} {k fr ty:Nat} {path:List Bool} {c1 c2 c3 c4:Ch} {o:Bool} {r:R} (hk:AB H k=some ⟨ty,[c1,c2,c3,c4],o⟩) (hs:dO H k fr path c1 c2 c3 c4=some r) :
  ∃ (ρ:List Nat) (k0 nw:Nat) (W:List Nat) (val:AV) (H1:Heap) (conds:List (Bool×Bool)) (path':List Bool),
   r=Az ρ k0 fr nw W val H1 conds path'∧(∀ β us w,Aq β [AK k 0 4 4] us→Ex.Good β H w→AP conds→∃ args0 H0,AY Tryz.prog 90 args0 H0 k0 W val H1∧Ct k0 nw W val H1=true∧Aq (Ap β ρ k0) args0 us∧Ex.Good (Ap β ρ k0) H0 w∧(∀ k,k<k0→∃ X,β (nth ρ k)=some X)):=by
 unfold dO at hs
 split at hs
 case h_2=>cases hs
 rename_i k1 o1 n1 x1 k2 o2 n2 x2 k3 o3 n3 x3 k4 o4 n4 x4 a1 a2 a3 a4
 injection hs with hs
 obtain ⟨s1,ty1,cs1,p1,g1,t1⟩:=Hh a1
 obtain ⟨s2,ty2,cs2,p2,g2,t2⟩:=Hh a2
 obtain ⟨s3,ty3,cs3,p3,g3,t3⟩:=Hh a3
 obtain ⟨s4,ty4,cs4,p4,g4,t4⟩:=Hh a4
 refine ⟨[k,k1,k2,k3,k4],5,5,[],_,_,_,path,hs.symm,fun β us w ha hg hc=>?_⟩
 obtain ⟨b1,b2,b3,b4,hS,_⟩:=hc
 obtain ⟨u1,us1,r1,ha,rfl⟩:=ha
 obtain ⟨l,hl,hv⟩:=WD hg hk (dK s1) (dL s1)
 obtain ⟨v1,l1,d1,f1,rfl⟩:=hl
 obtain ⟨v2,l2,d2,f2,rfl⟩:=f1
 obtain ⟨v3,l3,d3,f3,rfl⟩:=f2
 obtain ⟨v4,l4,d4,f4,rfl⟩:=f3
 obtain ⟨m1,d1⟩:=HZ s1 d1
 obtain ⟨m2,d2⟩:=HZ s2 d2
 obtain ⟨m3,d3⟩:=HZ s3 d3
 obtain ⟨m4,d4⟩:=HZ s4 d4
 refine ⟨[AK 0 0 4 4],dI o1 n1 m1 o2 n2 m2 o3 n3 m3 o4 n4 m4 x1 x2 x3 x4,AQp (Nat.le_of_ble_eq_true b1) (Nat.le_of_ble_eq_true b2) (Nat.le_of_ble_eq_true b3) (Nat.le_of_ble_eq_true b4) (Nat.le_of_ble_eq_true hS),rfl,⟨u1,_,BW (by omega) rfl r1,ha,rfl⟩,If (bs:=[AU [.sl 1 o1 n1 m1,.sl 2 o2 n2 m2,.sl 3 o3 n3 m3,.sl 4 o4 n4 m4],AU [.seq .u8 x1],AU [.seq .u8 x2],AU [.seq .u8 x3],AU [.seq .u8 x4]]) hg fun j d hj=>?_,fun j hj=>?_⟩
 ·match j,hj with
  | 0,hj=>injection hj with hj;subst hj;exact ⟨rfl,hv _ _ _ (HH (by show 0<5;decide)) ⟨_,_,Hg (by show 1<5;decide) rfl d1,⟨_,_,Hg (by show 2<5;decide) rfl d2,⟨_,_,Hg (by show 3<5;decide) rfl d3,⟨_,_,Hg (by show 4<5;decide) rfl d4,f4,rfl⟩,rfl⟩,rfl⟩,rfl⟩⟩
  | 1,hj=>injection hj with hj;subst hj;exact ⟨rfl,DE hg g1 t1 (by show 1<5;decide) rfl⟩
  | 2,hj=>injection hj with hj;subst hj;exact ⟨rfl,DE hg g2 t2 (by show 2<5;decide) rfl⟩
  | 3,hj=>injection hj with hj;subst hj;exact ⟨rfl,DE hg g3 t3 (by show 3<5;decide) rfl⟩
  | 4,hj=>injection hj with hj;subst hj;exact ⟨rfl,DE hg g4 t4 (by show 4<5;decide) rfl⟩
 ·match j,hj with
  | 0,_=>exact BH (hg.heap _ _ hk)
  | 1,_=>exact BH (hg.heap _ _ g1)
  | 2,_=>exact BH (hg.heap _ _ g2)
  | 3,_=>exact BH (hg.heap _ _ g3)
  | 4,_=>exact BH (hg.heap _ _ g4)
theorem AQw {H:Heap} {k fr ty:Nat} {path:List Bool} {c2 c3:Ch} {o:Bool} {r:R} (hk:AB H k=some ⟨ty,[.v (.slice none 0 0),c2,c3],o⟩) (hs:dQ H k fr path c2 c3=some r) :
  ∃ (ρ:List Nat) (k0 nw:Nat) (W:List Nat) (val:AV) (H1:Heap) (conds:List (Bool×Bool)) (path':List Bool),
   r=Az ρ k0 fr nw W val H1 conds path'∧(∀ β us w,Aq β [AK k 0 3 3] us→Ex.Good β H w→AP conds→∃ args0 H0,AY Tryz.prog 90 args0 H0 k0 W val H1∧Ct k0 nw W val H1=true∧Aq (Ap β ρ k0) args0 us∧Ex.Good (Ap β ρ k0) H0 w∧(∀ k,k<k0→∃ X,β (nth ρ k)=some X)):=by
 unfold dQ at hs
 split at hs
 case h_2=>cases hs
 rename_i k1 o1 n1 x1 k2 o2 n2 x2 a1 a2
 injection hs with hs
 obtain ⟨s1,ty1,cs1,p1,g1,t1⟩:=Hh a1
 obtain ⟨s2,ty2,cs2,p2,g2,t2⟩:=Hh a2
 refine ⟨[k,k1,k2],3,4,[],_,_,_,path,hs.symm,fun β us w ha hg hc=>?_⟩
 obtain ⟨b1,b2,hS,_⟩:=hc
 obtain ⟨u1,us1,r1,ha,rfl⟩:=ha
 obtain ⟨l,hl,hv⟩:=WD hg hk rfl rfl
 obtain ⟨v1,l1,d1,f1,rfl⟩:=hl
 obtain ⟨v2,l2,d2,f2,rfl⟩:=f1
 obtain ⟨v3,l3,d3,f3,rfl⟩:=f2
 obtain ⟨m1,d2⟩:=HZ s1 d2
 obtain ⟨m2,d3⟩:=HZ s2 d3
 refine ⟨[AK 0 0 3 3],dJ o1 n1 m1 o2 n2 m2 x1 x2,AQs (Nat.le_of_ble_eq_true b1) (Nat.le_of_ble_eq_true b2) (Nat.le_of_ble_eq_true hS),rfl,⟨u1,_,BW (by omega) rfl r1,ha,rfl⟩,If (bs:=[AU [.v (.slice none 0 0),.sl 1 o1 n1 m1,.sl 2 o2 n2 m2],AU [.seq .u8 x1],AU [.seq .u8 x2]]) hg fun j d hj=>?_,fun j hj=>?_⟩
 ·match j,hj with
  | 0,hj=>injection hj with hj;subst hj;exact ⟨rfl,hv _ _ _ (HH (by show 0<3;decide)) ⟨_,_,d1,⟨_,_,Hg (by show 1<3;decide) rfl d2,⟨_,_,Hg (by show 2<3;decide) rfl d3,f3,rfl⟩,rfl⟩,rfl⟩⟩
  | 1,hj=>injection hj with hj;subst hj;exact ⟨rfl,DE hg g1 t1 (by show 1<3;decide) rfl⟩
  | 2,hj=>injection hj with hj;subst hj;exact ⟨rfl,DE hg g2 t2 (by show 2<3;decide) rfl⟩
 ·match j,hj with
  | 0,_=>exact BH (hg.heap _ _ hk)
  | 1,_=>exact BH (hg.heap _ _ g1)
  | 2,_=>exact BH (hg.heap _ _ g2)
theorem AQx:A6 Tryz.prog 90 ccSp:=by
 refine CJ Tryz.func90 (by kernel_rfl) (by kernel_rfl) fun args H fr path r hs=>?_
 unfold ccSp at hs
 split at hs
 case h_2=>cases hs
 rename_i k n m
 split at hs
 case h_2=>cases hs
 rename_i ty cs o hk hm
 obtain rfl:=Ad.1 hm
 split at hs
 ·split at hs
  case h_2=>cases hs
  rename_i hn
  obtain rfl:=Ad.1 hn
  exact AQt hk hs
 ·split at hs
  ·rename_i hn
   obtain rfl:=Ad.1 hn
   exact AQw hk hs
  ·rename_i hn _
   obtain rfl:=Ad.1 hn
   exact AQu hk hs
  ·cases hs
 ·split at hs
  case h_2=>cases hs
  rename_i hn
  obtain rfl:=Ad.1 hn
  exact AQv hk hs
 ·cases hs
noncomputable def SSr:List (FuncId×ASpec):=(90,ccSp)::SSp
theorem yJ:AM Tryz.prog SSr:=⟨AQx,yE⟩
noncomputable abbrev oSr:Orc:=AJ SSr KV
theorem AQy:OrcOk Tryz.prog oSr:=AN yJ BR
def Ig (f:Nat→Int) (x:Int):Nat→Int:=fun i=>bits .xor .u8 (f i) x
def dR (x:Int):AV:=.val false [.v (.int .u8 x)]
theorem yK {β:Env} {k:IntKind}:∀ {xs:List Int},(∀ x∈xs,has k x)→AH β (xs.map fun x=>Ch.v (.int k x)) (xs.map (.int k))
 | [],_=>rfl
 | x::_,h=>⟨[_],_,⟨rfl,rfl,h x (List.mem_cons_self ..)⟩,yK (fun y hy=>h y (List.mem_cons_of_mem _ hy)),rfl⟩
def WE (f:Nat→Int):List Ch:=(BE f).map fun x=>Ch.v (.int .u8 x)
noncomputable def mxE (f:Nat→Int) (x:Int):ASt:=Ah Tryz.f200 [dR x,.val false [.p 0 0]] [(0,some (AU (WE f)))] 1 []
noncomputable def Rr (f:Nat→Int) (x:Int):=AQ Tryz.prog oSr Tryz.f200 1000 1 [1] (mxE f x)
theorem AQ0 (f:Nat→Int) (x:Int):Outr (Rr f x):=⟨by kernel_rfl⟩
theorem AQ1 (f:Nat→Int) (x:Int):NJ (Rr f x)=AK 1 0 64 64:=by kernel_rfl
theorem AQ2 (f:Nat→Int) (x:Int):Rq (Rr f x)=[(1,some ⟨5,[.seq .u8 (BE (Ig f x))],false⟩)]:=by kernel_rfl
theorem AQ3 (f:Nat→Int) (x:Int):AY Tryz.prog 200 [dR x,.val false [.p 0 0]] [(0,some (AU (WE f)))] 1 [] (AK 1 0 64 64) [(1,some ⟨5,[.seq .u8 (BE (Ig f x))],false⟩)]:=by
 refine Ax (path:=[]) Tryz.func200 (by kernel_rfl) (by kernel_rfl) fun β0 w0 h0=>?_
 have:=xX (P:=Tryz.prog) (n:=Tryz.f200.ntmps) (β0:=β0) (w0:=w0) (W:=[]) AQy AE Tryz.func200 (AQ0 f x) (AR (by kernel_rfl)) h0
 refine x9 this fun e w ho=>?_
 have ho:A7 β0 w0 [] (NJ (Rr f x)) (Rq (Rr f x)) e w:=ho
 rw [AQ1,AQ2] at ho
 exact ho
def mxSp:ASpec:=fun args H fr path=>match args with
 | [X,.val false [.p k 0]]=>match A' (some X),AB H k with
  | some (_,.u8,x),some ⟨_,cs,_⟩=>match Ak .u8 cs with
   | some xs=>some (Az [k] 1 fr 1 [] (AK 1 0 64 64) [(1,some ⟨5,[.seq .u8 (BE (Ig (fun i=>xs.getD i 0) x))],false⟩)] [(Nat.beq xs.length 64,true)] path)
   | none=>none
  | _,_=>none
 | _=>none
theorem AQ4:A6 Tryz.prog 200 mxSp:=by
 refine CJ Tryz.func200 (by kernel_rfl) (by kernel_rfl) fun args H fr path r hs=>?_
 unfold mxSp at hs
 split at hs
 case h_2=>cases hs
 rename_i X k
 split at hs
 case h_2=>cases hs
 rename_i c x ty cs o hX hk
 split at hs
 case h_2=>cases hs
 rename_i xs hxs
 injection hs with hs
 refine ⟨[k],1,1,[],_,_,_,path,hs.symm,fun β us w ha hg hc=>?_⟩
 obtain ⟨u1,us1,r1,⟨u2,us2,r2,ha,rfl⟩,rfl⟩:=ha
 have e:xs=BE fun i=>xs.getD i 0:=O7 (Ad.1 hc.1)
 refine ⟨[dR x,.val false [.p 0 0]],[(0,some (AU (WE fun i=>xs.getD i 0)))],AQ3 _ _,rfl,⟨u1,_,(LY hX r1).2 _,⟨u2,_,xM (by omega) rfl r2,ha,rfl⟩,rfl⟩,QA hg hk fun l hl=>?_,fun j hj=>?_⟩
 ·obtain ⟨q1,q2⟩:=Bu hxs hl
  have:=yK (β:=Ap β [k] 1) q2
  rw [← q1] at this
  unfold WE
  rw [← e]
  exact this
 ·match j,hj with
  | 0,_=>exact BH (hg.heap _ _ hk)
noncomputable def SSs0:List (FuncId×ASpec):=(200,mxSp)::SSr
theorem yL:AM Tryz.prog SSs0:=⟨AQ4,yJ⟩
noncomputable abbrev oSs0:Orc:=AJ SSs0 KV
theorem AQ5:OrcOk Tryz.prog oSs0:=AN yL BR
noncomputable def SSs:List (FuncId×ASpec):=(201,C0 Tryz.prog oSs0 Tryz.f201 200)::SSs0
theorem yM:AM Tryz.prog SSs:=⟨DG AQ5 AE Tryz.func201 (by kernel_rfl) (by kernel_rfl) 200,yL⟩
noncomputable abbrev oSs:Orc:=AJ SSs KV
theorem WF:OrcOk Tryz.prog oSs:=AN yM BR
theorem yN {P:Program} {f:FuncId} {β0:Env} {w0:World} {R:Ending→World→Prop} {n:Fz} {W:List Nat} {x y:ASt} {k:Nat} {ty:TypeId} {cs cs':List Ch} {o:Bool} {keep ks:List Nat} {fr:Nat} (hk:AB x.s.H k=some ⟨ty,cs,o⟩) (h:∀ β l,AH β cs l→AH β cs' l)
  (hf:KS keep ks fr [] ⟨x.s.T,Es k cs' x.s.H,x.s.fr,x.s.path⟩=some y.s) (ht:x.todo=y.todo) (hβ0:∀ b,fr≤b→β0 b=none) (hs:ASafe P f β0 w0 R n W y):ASafe P f β0 w0 R n W x:=by
 refine O6 hk h (j7 hf hβ0 ?_)
 rw [ht]
 exact hs
def kF (k:List Int):Nat→Int:=fun i=>k.getD i 0
def dS (k:List Int):List Int:=if 64<k.length then C9 k else k
def WG (f:Nat→Int) (b:List Int):List Int:=C9 (BE (Ig f 92)++C9 (BE (Ig f 54)++b))
def DY (k b:List Int):List Int:=WG (kF (dS k)) b
noncomputable abbrev macF:Func:=Tryz.f145
section
variable (o1 n1 m1 o2 n2 m2:Nat) (x1 x2:List Int)
noncomputable def WH (p:List Bool):ASt:=Ah macF [AK 0 o1 n1 m1,AK 1 o2 n2 m2] [(0,some (AU [.seq .u8 x1])),(1,some (AU [.seq .u8 x2]))] 2 p
noncomputable def Hi:ASt:=E9 (CZ Tryz.prog oSs 10 2 (WH o1 n1 m1 o2 n2 m2 x1 x2 [false]))
noncomputable def dU:ASt:=⟨(Hi o1 n1 m1 o2 n2 m2 x1 x2).todo,⟨(Hi o1 n1 m1 o2 n2 m2 x1 x2).s.T,Es 3 [.seq .u8 (List.replicate 64 0)] (Hi o1 n1 m1 o2 n2 m2 x1 x2).s.H,4,[]⟩⟩
noncomputable def J3:ASt:=E9 (CZ Tryz.prog oSs 1 2 (dU o1 n1 m1 o2 n2 m2 x1 x2))
noncomputable def J4:ASt:=E9 (CZ Tryz.prog oSs 13 2 (WH o1 n1 m1 o2 n2 m2 x1 x2 [true]))
noncomputable def AQ6:List Item:=(J3 0 0 0 0 0 0 [] []).todo
noncomputable def PD (f:Nat→Int):ASt:=⟨AQ6,⟨JI macF.ntmps [(1,AK 1 o2 n2 m2),(4,.val false [.p 2 0]),(5,.val false [.p 3 0])],[(1,some (AU [.seq .u8 x2])),(2,some ⟨120,List.replicate 32 (.n .u8 0),false⟩),(3,some ⟨172,[.seq .u8 (BE f)],false⟩)],4,[]⟩⟩
theorem AQ7:CZ Tryz.prog oSs 10 2 (WH o1 n1 m1 o2 n2 m2 x1 x2 [false])=some ((AI .i64 n1,true)::(decide ((64:Int)<n1),false)::[],[],Hi o1 n1 m1 o2 n2 m2 x1 x2):=by kernel_rfl
theorem AQ8:AB (Hi o1 n1 m1 o2 n2 m2 x1 x2).s.H 3=some ⟨172,List.replicate 64 (.n .u8 0),false⟩:=by kernel_rfl
theorem AQ9:(⟨(Hi o1 n1 m1 o2 n2 m2 x1 x2).todo,⟨(Hi o1 n1 m1 o2 n2 m2 x1 x2).s.T,Es 3 [.seq .u8 (List.replicate 64 0)] (Hi o1 n1 m1 o2 n2 m2 x1 x2).s.H,(Hi o1 n1 m1 o2 n2 m2 x1 x2).s.fr,(Hi o1 n1 m1 o2 n2 m2 x1 x2).s.path⟩⟩:ASt)=dU o1 n1 m1 o2 n2 m2 x1 x2:=by kernel_rfl
def WI:List Int:=(List.replicate 64 0).take 0++((x1.drop o1).take (Nat.min n1 (64-0))++(List.replicate 64 0).drop (0+0*1+Nat.min n1 (64-0)*1))
theorem AQ_:CZ Tryz.prog oSs 1 2 (dU o1 n1 m1 o2 n2 m2 x1 x2)=some ((Nat.ble (o1+Nat.min n1 (64-0)) x1.length,true)::(Nat.ble (0+0*1+Nat.min n1 (64-0)*1) (List.replicate 64 (0:Int)).length,true)::[],[],J3 o1 n1 m1 o2 n2 m2 x1 x2):=by kernel_rfl
theorem AQ':AB (J3 o1 n1 m1 o2 n2 m2 x1 x2).s.H 3=some ⟨172,[.seq .u8 (WI o1 n1 x1)],false⟩:=by kernel_rfl
theorem ARA (f:Nat→Int):KS [1,4,5] [1,2,3] 4 [] ⟨(J3 o1 n1 m1 o2 n2 m2 x1 x2).s.T,Es 3 [.seq .u8 (BE f)] (J3 o1 n1 m1 o2 n2 m2 x1 x2).s.H,(J3 o1 n1 m1 o2 n2 m2 x1 x2).s.fr,(J3 o1 n1 m1 o2 n2 m2 x1 x2).s.path⟩=some (PD o2 n2 m2 x2 f).s:=by kernel_rfl
theorem ARB (f:Nat→Int):(J3 o1 n1 m1 o2 n2 m2 x1 x2).todo=(PD o2 n2 m2 x2 f).todo:=by kernel_rfl
theorem ARC:CZ Tryz.prog oSs 13 2 (WH o1 n1 m1 o2 n2 m2 x1 x2 [true])=some ((AI .i64 n1,true)::(decide ((64:Int)<n1),true)::(Nat.ble (o1+n1) x1.length,true)::(Nat.ble n1 35184372088832,true)::(true,true)::[],[],J4 o1 n1 m1 o2 n2 m2 x1 x2):=by kernel_rfl
noncomputable def yO:List Ch:=match AB (J4 o1 n1 m1 o2 n2 m2 x1 x2).s.H 3 with | some b=>b.cs | none=>[]
theorem ARD:AB (J4 o1 n1 m1 o2 n2 m2 x1 x2).s.H 3=some ⟨172,yO o1 n1 m1 o2 n2 m2 x1 x2,false⟩:=by kernel_rfl
theorem ARE:Ak .u8 (yO o1 n1 m1 o2 n2 m2 x1 x2)=some (BE (kF (C9 (AA x1 o1 n1)))):=by kernel_rfl
theorem ARF (f:Nat→Int):KS [1,4,5] [1,2,3] 4 [] ⟨(J4 o1 n1 m1 o2 n2 m2 x1 x2).s.T,Es 3 [.seq .u8 (BE f)] (J4 o1 n1 m1 o2 n2 m2 x1 x2).s.H,(J4 o1 n1 m1 o2 n2 m2 x1 x2).s.fr,(J4 o1 n1 m1 o2 n2 m2 x1 x2).s.path⟩=some (PD o2 n2 m2 x2 f).s:=by kernel_rfl
theorem ARG (f:Nat→Int):(J4 o1 n1 m1 o2 n2 m2 x1 x2).todo=(PD o2 n2 m2 x2 f).todo:=by kernel_rfl
def WJ (f:Nat→Int):List Int:=AA (BE (Ig (fun i=>(BE f).getD i 0) 54)) 0 64++AA x2 o2 n2
def dV (f:Nat→Int):List Int:=C9 (AA (AA (BE (Ig (fun i=>(BE f).getD i 0) 92)) 0 64++AA (C9 (AA (WJ o2 n2 x2 f) 0 (64+n2))) 0 32) 0 (64+32))
theorem ARH (f:Nat→Int):AQ Tryz.prog oSs macF 400 2 [] (PD o2 n2 m2 x2 f)=some (tt 2 ((Nat.ble (o2+n2) x2.length,true)::(Nat.ble (64+n2) 35184372088832,true)::(Nat.ble (0+(64+n2)) (WJ o2 n2 x2 f).length,true)::(Nat.ble (64+n2) 35184372088832,true)::tt 6 []),[],.val true [.seq .u8 (dV o2 n2 x2 f)],[]):=by kernel_rfl
end
theorem Dp {l:List Int} {n:Nat} (h:l.length=n):AA l 0 n=l:=by unfold AA;rw [List.drop_zero];exact GI h
theorem Rs (f:Nat→Int):(BE f).length=64:=rfl
theorem yP (f:Nat→Int) (x:Int):BE (Ig (fun i=>(BE f).getD i 0) x)=BE (Ig f x):=by
 refine List.map_congr_left fun i hi=>?_
 have h:=xO f (List.mem_range.1 hi)
 unfold gI at h
 rw [show 0+(i:Int).toNat*1=i by omega] at h
 exact congrArg (fun z=>bits .xor .u8 z x) h
theorem yQ (o2 n2:Nat) (x2:List Int) (f:Nat→Int):WJ o2 n2 x2 f=BE (Ig f 54)++AA x2 o2 n2:=by
 unfold WJ
 rw [Dp (Rs _),yP]
theorem ARI {o2 n2:Nat} {x2:List Int} (h:o2+n2≤x2.length) (f:Nat→Int):dV o2 n2 x2 f=WG f (AA x2 o2 n2):=by
 unfold dV WG
 rw [yQ,Dp (Rs _),yP,Dp (NI _),Dp (EL (Rs _) (CS h)),Dp (EL (Rs _) (NI _))]
theorem yS {o2 n2 m2:Nat} {x2:List Int} (h2:o2+n2≤x2.length) (hn:n2≤17592186044416) (f:Nat→Int) {β0:Env} {w0:World} (hb:∀ b,2≤b→β0 b=none) :
  ASafe Tryz.prog 145 β0 w0 (A7 β0 w0 [] (.val true [.seq .u8 (WG f (AA x2 o2 n2))]) []) macF.ntmps [] (PD o2 n2 m2 x2 f):=by
 have:=Aw (P:=Tryz.prog) (n:=macF.ntmps) (β0:=β0) (w0:=w0) (W:=[]) WF AE Tryz.func145 (ARH o2 n2 m2 x2 f) (Ab 2 ⟨Nat.ble_eq_true_of_le h2,Nat.ble_eq_true_of_le (by omega),Nat.ble_eq_true_of_le (by rw [yQ,EL (Rs _) (CS h2)];omega),Nat.ble_eq_true_of_le (by omega),Ab 6 trivial⟩) (AR (by kernel_rfl)) hb (fun _ h=>by cases h)
 rw [ARI h2] at this
 exact this
theorem ARJ {o1 n1:Nat} {x1:List Int} (h1:o1+n1≤x1.length) (hn:n1≤64):WI o1 n1 x1=BE (kF (AA x1 o1 n1)):=by
 have e:WI o1 n1 x1=AA x1 o1 n1++List.replicate (64-n1) 0:=by
  unfold WI
  rw [Nat.sub_zero,show Nat.min n1 64=n1 from Nat.min_eq_left hn,List.take_zero,List.nil_append,List.drop_replicate,show 64-(0+0*1+n1*1)=64-n1 by omega]
  rfl
 have hl:(AA x1 o1 n1++List.replicate (64-n1) (0:Int)).length=64:=by rw [List.length_append,CS h1,List.length_replicate];omega
 rw [e,O7 hl]
 refine List.map_congr_left fun i _=>?_
 unfold kF
 rw [List.getD_eq_getElem?_getD,List.getD_eq_getElem?_getD]
 by_cases q:i<n1
 ·rw [List.getElem?_append_left (by rw [CS h1];exact q)]
 ·rw [List.getElem?_append_right (by rw [CS h1];omega),List.getElem?_eq_none (l:=AA x1 o1 n1) (by rw [CS h1];omega),List.getElem?_replicate]
  split<;>rfl
theorem ARK {k:IntKind} {xs ys:List Int} (e:xs=ys) (β:Env) (l:List Value) (h:AH β [.seq k xs] l):AH β [.seq k ys] l:=e▸h
theorem ARL {o1 n1 m1 o2 n2 m2:Nat} {x1 x2:List Int} (h1:o1+n1≤x1.length) (h2:o2+n2≤x2.length) (hn1:n1≤64) (hn:n2≤17592186044416) {β0:Env} {w0:World} (hb:∀ b,2≤b→β0 b=none) :
  ASafe Tryz.prog 145 β0 w0 (A7 β0 w0 [] (.val true [.seq .u8 (DY (AA x1 o1 n1) (AA x2 o2 n2))]) []) macF.ntmps [] (J3 o1 n1 m1 o2 n2 m2 x1 x2):=by
 have:=yS (m2:=m2) h2 hn (kF (AA x1 o1 n1)) (w0:=w0) hb
 unfold DY dS
 rw [CS h1,if_neg (by omega)]
 exact yN (AQ' ..) (ARK (ARJ h1 hn1)) (ARA o1 n1 m1 o2 n2 m2 x1 x2 _) (ARB ..) (fun b h=>hb b (by omega)) this
theorem ARM {o1 n1 m1 o2 n2 m2:Nat} {x1 x2:List Int} (h1:o1+n1≤x1.length) (h2:o2+n2≤x2.length) (hn1:64<n1) (hn:n2≤17592186044416) {β0:Env} {w0:World} (hb:∀ b,2≤b→β0 b=none) :
  ASafe Tryz.prog 145 β0 w0 (A7 β0 w0 [] (.val true [.seq .u8 (DY (AA x1 o1 n1) (AA x2 o2 n2))]) []) macF.ntmps [] (J4 o1 n1 m1 o2 n2 m2 x1 x2):=by
 have:=yS (m2:=m2) h2 hn (kF (C9 (AA x1 o1 n1))) (w0:=w0) hb
 unfold DY dS
 rw [CS h1,if_pos hn1]
 exact yN (ARD ..) (V0 (ARE ..)) (ARF o1 n1 m1 o2 n2 m2 x1 x2 _) (ARG ..) (fun b h=>hb b (by omega)) this
theorem ARN {o1 n1 m1 o2 n2 m2:Nat} {x1 x2:List Int} (h1:o1+n1≤x1.length) (h2:o2+n2≤x2.length) (hn1:n1≤64) (hn:n2≤17592186044416) {β0:Env} {w0:World} (hb:∀ b,2≤b→β0 b=none) :
  ASafe Tryz.prog 145 β0 w0 (A7 β0 w0 [] (.val true [.seq .u8 (DY (AA x1 o1 n1) (AA x2 o2 n2))]) []) macF.ntmps [] (Hi o1 n1 m1 o2 n2 m2 x1 x2):=by
 refine O6 (AQ8 ..) (V0 (k:=.u8) (xs:=List.replicate 64 0) (by kernel_rfl)) ?_
 rw [AQ9]
 refine HG WF AE (AQ_ ..) ⟨Nat.ble_eq_true_of_le ?_,Nat.ble_eq_true_of_le ?_,trivial⟩ (AR (by kernel_rfl)) hb (fun _ h=>by cases h) fun _=>ARL h1 h2 hn1 hn hb
 ·rw [Nat.sub_zero,show Nat.min n1 64=n1 from Nat.min_eq_left hn1];exact h1
 ·rw [Nat.sub_zero,show Nat.min n1 64=n1 from Nat.min_eq_left hn1,List.length_replicate];omega
theorem ARO {o1 n1 m1 o2 n2 m2:Nat} {x1 x2:List Int} (h1:o1+n1≤x1.length) (h2:o2+n2≤x2.length) (hn1:n1≤17592186044416) (hn:n2≤17592186044416) :
  AY Tryz.prog 145 [AK 0 o1 n1 m1,AK 1 o2 n2 m2] [(0,some (AU [.seq .u8 x1])),(1,some (AU [.seq .u8 x2]))] 2 [] (.val true [.seq .u8 (DY (AA x1 o1 n1) (AA x2 o2 n2))]) []:=by
 have hh:AI .i64 n1=true:=Et (by omega)
 rcases Nat.lt_or_ge 64 n1 with q | q
 ·exact Ax (path:=[true]) Tryz.func145 (by kernel_rfl) (by kernel_rfl) fun β0 w0 hb=>HG WF AE (ARC ..) ⟨hh,decide_eq_true (by omega),Nat.ble_eq_true_of_le h1,Nat.ble_eq_true_of_le (by omega),rfl,trivial⟩ (AR (by kernel_rfl)) hb (fun _ h=>by cases h) fun _=>ARM h1 h2 q hn hb
 ·exact Ax (path:=[false]) Tryz.func145 (by kernel_rfl) (by kernel_rfl) fun β0 w0 hb=>HG WF AE (AQ7 ..) ⟨hh,decide_eq_false (by omega),trivial⟩ (AR (by kernel_rfl)) hb (fun _ h=>by cases h) fun _=>ARN h1 h2 q hn hb
def dW (g:List Int→List Int→AV) (B:Nat):ASpec:=fun args H fr path=>match args with
 | [S,T]=>match Br S,Br T with
  | some (k,o,n),some (l,p,m)=>match AB H k,AB H l with
   | some ⟨_,cs,_⟩,some ⟨_,ds,_⟩=>match Ak .u8 cs,Ak .u8 ds with
    | some xs,some ys=>some (Az [k,l] 2 fr 0 [] (g (AA xs o n) (AA ys p m)) [] [(Nat.ble (o+n) xs.length,true),(Nat.ble (p+m) ys.length,true),(Nat.ble n B,true),(Nat.ble m B,true)] path)
    | _,_=>none
   | _,_=>none
  | _,_=>none
 | _=>none
theorem ARP {F:FuncId} {fn:Func} {g:List Int→List Int→AV} {B:Nat} (hfn:Tryz.prog.funcs[F]? = some fn) (hb:fn.body.isSome=true) (hname:(fn.name=="runtime.NumGoroutine")=false) (hk:∀ a b,Ct 2 0 [] (g a b) []=true)
  (h:∀ {o1 n1 m1 o2 n2 m2:Nat} {x1 x2:List Int},(∀ d∈x1,0≤d∧d<256)→(∀ d∈x2,0≤d∧d<256)→o1+n1≤x1.length→o2+n2≤x2.length→n1≤B→n2≤B→AY Tryz.prog F [AK 0 o1 n1 m1,AK 1 o2 n2 m2] [(0,some (AU [.seq .u8 x1])),(1,some (AU [.seq .u8 x2]))] 2 [] (g (AA x1 o1 n1) (AA x2 o2 n2)) []):A6 Tryz.prog F (dW g B):=by
 refine CJ hfn hb hname fun args H fr path r hs=>?_
 unfold dW at hs
 split at hs
 case h_2=>cases hs
 rename_i S T
 split at hs
 case h_2=>cases hs
 rename_i k o n l p m hS hT
 split at hs
 case h_2=>cases hs
 rename_i ty cs op ty' ds op' hk' hl'
 split at hs
 case h_2=>cases hs
 rename_i xs ys hx hy
 injection hs with hs
 refine ⟨[k,l],2,0,[],_,_,_,path,hs.symm,fun β us w ha hg hc=>?_⟩
 obtain ⟨c1,c2,c3,c4,_⟩:=hc
 obtain ⟨u1,us1,r1,⟨u2,us2,r2,ha,rfl⟩,rfl⟩:=ha
 obtain ⟨m1,r1⟩:=Dj hS r1
 obtain ⟨m2,r2⟩:=Dj hT r2
 obtain ⟨g1,_,_⟩:=Cx hg hk' hx
 obtain ⟨g2,_,_⟩:=Cx hg hl' hy
 refine ⟨[AK 0 o n m1,AK 1 p m m2],[(0,some (AU [.seq .u8 xs])),(1,some (AU [.seq .u8 ys]))],h g1 g2 (Nat.le_of_ble_eq_true c1) (Nat.le_of_ble_eq_true c2) (Nat.le_of_ble_eq_true c3) (Nat.le_of_ble_eq_true c4),hk _ _,⟨u1,_,BW (by omega) rfl r1,⟨u2,_,BW (by omega) rfl r2,ha,rfl⟩,rfl⟩,If (bs:=[AU [.seq .u8 xs],AU [.seq .u8 ys]]) hg fun j d hj=>?_,fun j hj=>?_⟩
 ·match j,hj with
  | 0,hj=>injection hj with hj;subst hj;exact ⟨rfl,DE hg hk' hx (by show 0<2;decide) rfl⟩
  | 1,hj=>injection hj with hj;subst hj;exact ⟨rfl,DE hg hl' hy (by show 1<2;decide) rfl⟩
 ·match j,hj with
  | 0,_=>exact BH (hg.heap _ _ hk')
  | 1,_=>exact BH (hg.heap _ _ hl')
def ARQ (a b:List Int):AV:=.val true [.seq .u8 (DY a b)]
noncomputable def SSt0:List (FuncId×ASpec):=(145,dW ARQ 17592186044416)::SSs
theorem yT:AM Tryz.prog SSt0:=⟨ARP Tryz.func145 (by kernel_rfl) (by kernel_rfl) (fun _ _=>rfl) fun _ _=>ARO,yM⟩
noncomputable abbrev oSt0:Orc:=AJ SSt0 KV
theorem ARR:OrcOk Tryz.prog oSt0:=AN yT BR
noncomputable def SSt:List (FuncId×ASpec):=(89,C0 Tryz.prog oSt0 Tryz.f89 100)::SSt0
theorem yU:AM Tryz.prog SSt:=⟨DG ARR AE Tryz.func89 (by kernel_rfl) (by kernel_rfl) 100,yT⟩
noncomputable abbrev oSt:Orc:=AJ SSt KV
theorem ARS:OrcOk Tryz.prog oSt:=AN yU BR
noncomputable abbrev exF:Func:=Tryz.f91
section
variable (o1 n1 m1 o2 n2 m2:Nat) (x1 x2:List Int)
noncomputable def exE (p:List Bool):ASt:=Ah exF [AK 0 o1 n1 m1,AK 1 o2 n2 m2,.val false [.n .i64 48]] [(0,some (AU [.seq .u8 x1])),(1,some (AU [.seq .u8 x2]))] 2 p
def PE:List Int:=AA x2 o2 n2++AA [1] 0 1
def WK:List Int:=DY (AA x1 o1 n1) (AA (PE o2 n2 x2) 0 (n2+1))
def PF:List Int:=AA (WK o1 n1 o2 n2 x1 x2) (0+0*1) (32-0)++AA x2 o2 n2++AA [2] 0 1
def dZ:List Int:=DY (AA x1 o1 n1) (AA (PF o1 n1 o2 n2 x1 x2) 0 (32-0+n2+1))
def d6:List Int:=List.append (List.take (0+(32-0)) (List.append [] (List.take (32-0) (List.drop (0+0*1) (WK o1 n1 o2 n2 x1 x2))))) (List.take (32-0) (List.drop (0+0*1) (dZ o1 n1 o2 n2 x1 x2)))
theorem ARU:AQ Tryz.prog oSt exF 400 2 [17] (exE o1 n1 m1 o2 n2 m2 x1 x2 [true,true,false])=some (tt 2 ((Nat.ble (o2+n2) x2.length,true)::(true,true)::(Nat.ble (n2+1) 35184372088832,true)::(Nat.ble (o1+n1) x1.length,true)::(Nat.ble (0+(n2+1)) (PE o2 n2 x2).length,true)::(Nat.ble n1 17592186044416,true)::(Nat.ble (n2+1) 17592186044416,true)::tt 5 ((Nat.ble (o2+n2) x2.length,true)::(true,true)::(Nat.ble (32-0+n2+1) 35184372088832,true)::(Nat.ble (o1+n1) x1.length,true)::(Nat.ble (0+(32-0+n2+1)) (PF o1 n1 o2 n2 x1 x2).length,true)::(Nat.ble n1 17592186044416,true)::(Nat.ble (32-0+n2+1) 17592186044416,true)::tt 4 ((false,false)::(true,true)::[]))),[],.tup [(false,[.sx 17 48 1]),(false,[.n .i64 0])],[(17,some ⟨5,[.seq .u8 (d6 o1 n1 o2 n2 x1 x2)],true⟩)]):=by kernel_rfl
end
def NM (k i:List Int):List Int:=DY k (i++[1])++DY k (DY k (i++[1])++i++[2])
theorem Rt (a b:List Int):(DY a b).length=32:=rfl
theorem ARV {o1 n1 o2 n2:Nat} {x1 x2:List Int} (h2:o2+n2≤x2.length):d6 o1 n1 o2 n2 x1 x2=NM (AA x1 o1 n1) (AA x2 o2 n2)∧(PE o2 n2 x2).length=n2+1∧(PF o1 n1 o2 n2 x1 x2).length=32+n2+1:=by
 have w:AA [(1:Int)] 0 1=[1]:=rfl
 have w':AA [(2:Int)] 0 1=[2]:=rfl
 have l1:(PE o2 n2 x2).length=n2+1:=by unfold PE;rw [w];exact EL (CS h2) rfl
 have t1:WK o1 n1 o2 n2 x1 x2=DY (AA x1 o1 n1) (AA x2 o2 n2++[1]):=by unfold WK;rw [Dp l1];unfold PE;rw [w]
 have b2:PF o1 n1 o2 n2 x1 x2=DY (AA x1 o1 n1) (AA x2 o2 n2++[1])++AA x2 o2 n2++[2]:=by
  unfold PF
  rw [w',t1,show 0+0*1=0 from rfl,show 32-0=32 from rfl,Dp (Rt _ _)]
 have l2:(PF o1 n1 o2 n2 x1 x2).length=32+n2+1:=by rw [b2];exact EL (EL (Rt _ _) (CS h2)) rfl
 have t2:dZ o1 n1 o2 n2 x1 x2=DY (AA x1 o1 n1) (DY (AA x1 o1 n1) (AA x2 o2 n2++[1])++AA x2 o2 n2++[2]):=by unfold dZ;rw [show 32-0+n2+1=32+n2+1 from rfl,Dp l2,b2]
 refine ⟨?_,l1,l2⟩
 unfold d6 NM
 rw [t1,t2]
 generalize ha:DY (AA x1 o1 n1) (AA x2 o2 n2++[1])=a
 have la:a.length=32:=by rw [← ha];exact Rt _ _
 generalize hb:DY (AA x1 o1 n1) (a++AA x2 o2 n2++[2])=b
 have lb:b.length=32:=by rw [← hb];exact Rt _ _
 show List.take (0+(32-0)) ([]++List.take (32-0) (List.drop (0+0*1) a))++List.take (32-0) (List.drop (0+0*1) b)=a++b
 rw [show 0+0*1=0 from rfl,show 32-0=32 from rfl,List.drop_zero,List.drop_zero,List.nil_append,GI la,GI lb,GI (by omega)]
def exO (ys:List Int):Heap:=[(17,some ⟨5,[.seq .u8 ys],true⟩)]
theorem ARX {o1 n1 m1 o2 n2 m2:Nat} {x1 x2:List Int} (h1:o1+n1≤x1.length) (h2:o2+n2≤x2.length) (hn1:n1≤8796093022208) (hn:n2≤8796093022208) :
  AY Tryz.prog 91 [AK 0 o1 n1 m1,AK 1 o2 n2 m2,.val false [.n .i64 48]] [(0,some (AU [.seq .u8 x1])),(1,some (AU [.seq .u8 x2]))] 2 [] (.tup [(false,[.sx 17 48 1]),(false,[.n .i64 0])]) (exO (NM (AA x1 o1 n1) (AA x2 o2 n2))):=by
 obtain ⟨e,l1,l2⟩:=ARV (o1:=o1) (n1:=n1) (x1:=x1) h2
 refine Ax (path:=[true,true,false]) Tryz.func91 (by kernel_rfl) (by kernel_rfl) fun β0 w0 hb=>?_
 have:=Aw (P:=Tryz.prog) (n:=exF.ntmps) (β0:=β0) (w0:=w0) (W:=[]) ARS AE Tryz.func91 (ARU o1 n1 m1 o2 n2 m2 x1 x2) (Ab 2 ⟨Nat.ble_eq_true_of_le h2,rfl,Nat.ble_eq_true_of_le (by omega),Nat.ble_eq_true_of_le h1,Nat.ble_eq_true_of_le (by rw [l1];omega),Nat.ble_eq_true_of_le (by omega),Nat.ble_eq_true_of_le (by omega),Ab 5 ⟨Nat.ble_eq_true_of_le h2,rfl,Nat.ble_eq_true_of_le (by omega),Nat.ble_eq_true_of_le h1,Nat.ble_eq_true_of_le (by rw [l2];omega),Nat.ble_eq_true_of_le (by omega),Nat.ble_eq_true_of_le (by omega),Ab 4 ⟨rfl,rfl,trivial⟩⟩⟩) (AR (by kernel_rfl)) hb (fun _ h=>by cases h)
 rw [e] at this
 exact this
theorem WL {β:Env} {H:Heap} {w:World} {S T:AV} {k o n l p m:Nat} {ty ty':TypeId} {cs ds:List Ch} {op op':Bool} {xs ys:List Int} {u1 u2:Value} (hg:Ex.Good β H w) (hS:Br S=some (k,o,n)) (hT:Br T=some (l,p,m)) (hk:AB H k=some ⟨ty,cs,op⟩) (hl:AB H l=some ⟨ty',ds,op'⟩) (hx:Ak .u8 cs=some xs) (hy:Ak .u8 ds=some ys) (r1:AG β S u1) (r2:AG β T u2) :
  ∃ m1 m2,AG (Ap β [k,l] 2) (AK 0 o n m1) u1∧AG (Ap β [k,l] 2) (AK 1 p m m2) u2∧(∀ d∈xs,0≤d∧d<256)∧(∀ d∈ys,0≤d∧d<256)∧Ex.Good (Ap β [k,l] 2) [(0,some (AU [.seq .u8 xs])),(1,some (AU [.seq .u8 ys]))] w∧(∀ j,j<2→∃ X,β (nth [k,l] j)=some X):=by
 obtain ⟨m1,r1⟩:=Dj hS r1
 obtain ⟨m2,r2⟩:=Dj hT r2
 obtain ⟨g1,_,_⟩:=Cx hg hk hx
 obtain ⟨g2,_,_⟩:=Cx hg hl hy
 refine ⟨m1,m2,BW (by omega) rfl r1,BW (by omega) rfl r2,g1,g2,If (bs:=[AU [.seq .u8 xs],AU [.seq .u8 ys]]) hg fun j d hj=>?_,fun j hj=>?_⟩
 ·match j,hj with
  | 0,hj=>injection hj with hj;subst hj;exact ⟨rfl,DE hg hk hx (by show 0<2;decide) rfl⟩
  | 1,hj=>injection hj with hj;subst hj;exact ⟨rfl,DE hg hl hy (by show 1<2;decide) rfl⟩
 ·match j,hj with
  | 0,_=>exact BH (hg.heap _ _ hk)
  | 1,_=>exact BH (hg.heap _ _ hl)
def d7 (K nw:Nat):ASpec:=fun args H fr path=>match args with
 | [S,T,.val false [.n .i64 48]]=>match Br S,Br T with
  | some (k,o,n),some (l,p,m)=>match AB H k,AB H l with
   | some ⟨_,cs,_⟩,some ⟨_,ds,_⟩=>match Ak .u8 cs,Ak .u8 ds with
    | some xs,some ys=>some (Az [k,l] 2 fr nw [] (.tup [(false,[.sx K 48 1]),(false,[.n .i64 0])]) [(K,some ⟨5,[.seq .u8 (NM (AA xs o n) (AA ys p m))],true⟩)] [(Nat.ble (o+n) xs.length,true),(Nat.ble (p+m) ys.length,true),(Nat.ble n 8796093022208,true),(Nat.ble m 8796093022208,true)] path)
    | _,_=>none
   | _,_=>none
  | _,_=>none
 | _=>none
theorem ARY {F:FuncId} {fn:Func} {K nw:Nat} (hfn:Tryz.prog.funcs[F]? = some fn) (hb:fn.body.isSome=true) (hname:(fn.name=="runtime.NumGoroutine")=false) (hk:∀ L,Ct 2 nw [] (.tup [(false,[.sx K 48 1]),(false,[.n .i64 0])]) [(K,some ⟨5,[.seq .u8 L],true⟩)]=true)
  (h:∀ {o1 n1 m1 o2 n2 m2:Nat} {x1 x2:List Int},o1+n1≤x1.length→o2+n2≤x2.length→n1≤8796093022208→n2≤8796093022208→AY Tryz.prog F [AK 0 o1 n1 m1,AK 1 o2 n2 m2,.val false [.n .i64 48]] [(0,some (AU [.seq .u8 x1])),(1,some (AU [.seq .u8 x2]))] 2 [] (.tup [(false,[.sx K 48 1]),(false,[.n .i64 0])]) [(K,some ⟨5,[.seq .u8 (NM (AA x1 o1 n1) (AA x2 o2 n2))],true⟩)]):A6 Tryz.prog F (d7 K nw):=by
 refine CJ hfn hb hname fun args H fr path r hs=>?_
 unfold d7 at hs
 split at hs
 case h_2=>cases hs
 rename_i S T
 split at hs
 case h_2=>cases hs
 rename_i k o n l p m hS hT
 split at hs
 case h_2=>cases hs
 rename_i ty cs op ty' ds op' hk' hl'
 split at hs
 case h_2=>cases hs
 rename_i xs ys hx hy
 injection hs with hs
 refine ⟨[k,l],2,nw,[],_,_,_,path,hs.symm,fun β us w ha hg hc=>?_⟩
 obtain ⟨c1,c2,c3,c4,_⟩:=hc
 obtain ⟨u1,us1,r1,⟨u2,us2,r2,⟨u3,us3,r3,ha,rfl⟩,rfl⟩,rfl⟩:=ha
 obtain ⟨m1,m2,q1,q2,_,_,q5,q6⟩:=WL hg hS hT hk' hl' hx hy r1 r2
 exact ⟨_,_,h (Nat.le_of_ble_eq_true c1) (Nat.le_of_ble_eq_true c2) (Nat.le_of_ble_eq_true c3) (Nat.le_of_ble_eq_true c4),hk _,⟨u1,_,q1,⟨u2,_,q2,⟨u3,_,HE rfl r3,ha,rfl⟩,rfl⟩,rfl⟩,q5,q6⟩
noncomputable def SSu:List (FuncId×ASpec):=(91,d7 17 16)::SSt
theorem ARZ:AM Tryz.prog SSu:=⟨ARY Tryz.func91 (by kernel_rfl) (by kernel_rfl) (fun _=>rfl) ARX,yU⟩
noncomputable def SSv:List (FuncId×ASpec):=SSu
theorem ARa:AM Tryz.prog SSv:=ARZ
section
variable (o1 n1 m1 o2 n2 m2:Nat) (x1 x2:List Int)
end
noncomputable def SSw0:List (FuncId×ASpec):=SSv
theorem ARb:AM Tryz.prog SSw0:=ARa
section
variable (o1 n1 m1 o2 n2 m2:Nat) (x1 x2:List Int)
end
noncomputable def SSw:List (FuncId×ASpec):=SSw0
theorem ARc:AM Tryz.prog SSw:=ARb
def d8 (g:List Int→AV) (B:Nat):ASpec:=fun args H fr path=>match args with
 | [S]=>match Br S with
  | some (k,off,n)=>match AB H k with
   | some ⟨_,cs,_⟩=>match Ak .u8 cs with
    | some xs=>some (Az [k] 1 fr 0 [] (g (AA xs off n)) [] [(Nat.ble (off+n) xs.length,true),(Nat.ble n B,true)] path)
    | none=>none
   | none=>none
  | none=>none
 | _=>none
theorem ARd {F:FuncId} {fn:Func} {g:List Int→AV} {B:Nat} (hfn:Tryz.prog.funcs[F]? = some fn) (hb:fn.body.isSome=true) (hname:(fn.name=="runtime.NumGoroutine")=false) (hk:∀ a,Ct 1 0 [] (g a) []=true) (hcan:∀ {off n m:Nat} {xs:List Int},(∀ d∈xs,0≤d∧d<256)→off+n≤xs.length→n≤B→AY Tryz.prog F [AK 0 off n m] (Ar xs) 1 [] (g (AA xs off n)) []):A6 Tryz.prog F (d8 g B):=by
 refine CJ hfn hb hname fun args H fr path r hs=>?_
 unfold d8 at hs
 split at hs
 case h_2=>cases hs
 rename_i S
 split at hs
 case h_2=>cases hs
 rename_i k off n hS
 split at hs
 case h_2=>cases hs
 rename_i ty cs o hk'
 split at hs
 case h_2=>cases hs
 rename_i xs hxs
 injection hs with hs
 refine ⟨[k],1,0,[],_,_,_,path,hs.symm,fun β us w ha hg hc=>?_⟩
 obtain ⟨u1,us1,r1,ha,rfl⟩:=ha
 obtain ⟨m,r1⟩:=Dj hS r1
 obtain ⟨g1,g2,g3⟩:=Cx hg hk' hxs
 exact ⟨[AK 0 off n m],Ar xs,hcan g1 (Nat.le_of_ble_eq_true hc.1) (Nat.le_of_ble_eq_true hc.2.1),hk _,⟨u1,_,BW (by omega) rfl r1,ha,rfl⟩,g2,g3⟩
noncomputable def SSx0:List (FuncId×ASpec):=SSw++SVb3
theorem d9:AM Tryz.prog SSx0:=Jy ARc Vk
noncomputable abbrev oSx0:Orc:=AJ SSx0 KV
theorem ARe:OrcOk Tryz.prog oSx0:=AN d9 BR
def NN (off n:Nat) (xs:List Int):List Int:=List.map (AF (AT (AA xs off n))) (List.range ((n+7) / 8))++[]
theorem ARf (off n m:Nat) (xs:List Int):AQ Tryz.prog oSx0 Tryz.f17 300 1 [] (Ah Tryz.f17 [AK 0 off n m] (Ar xs) 1 []) =
 some ((Nat.ble (off+n) xs.length,true)::(Nat.ble n 35184372088832,true)::(Nat.ble (0+(n+7) / 8) (NN off n xs).length,true)::(Nat.ble ((n+7) / 8) 1125899906842624,true)::[],[],DK (AL (AA (NN off n xs) 0 ((n+7) / 8)) % rN),[]):=by kernel_rfl
theorem yV {off n:Nat} {xs:List Int} (hx:∀ d∈xs,0≤d∧d<256) (hl:off+n≤xs.length):AL (AA (NN off n xs) 0 ((n+7) / 8))=AT (AA xs off n):=by
 have e:NN off n xs=Di (AT (AA xs off n)) ((n+7) / 8):=by unfold NN Di;rw [List.append_nil]
 rw [e,Dp (by simp [Di]),AF2]
 have h:=ZS (AA xs off n) (Du hx)
 rw [CS hl,Mm] at h
 exact Nat.lt_of_lt_of_le h (Nat.pow_le_pow_right (by decide) (by omega))
theorem ARg {off n m:Nat} {xs:List Int} (hx:∀ d∈xs,0≤d∧d<256) (hl:off+n≤xs.length) (hn:n≤35184372088832):AY Tryz.prog 17 [AK 0 off n m] (Ar xs) 1 [] (DK (AT (AA xs off n) % rN)) []:=by
 have:=BA d9 BR Tryz.func17 (by kernel_rfl) (by kernel_rfl) (ARf off n m xs) (by kernel_rfl) ⟨Nat.ble_eq_true_of_le hl,Nat.ble_eq_true_of_le hn,Nat.ble_eq_true_of_le (by unfold NN;simp),Nat.ble_eq_true_of_le (by omega),trivial⟩
 rw [yV hx hl] at this
 exact this
def eB (x:Nat):AV:=.val true [.seq .u8 (BB x 32)]
theorem ARh (a:Nat):AX Tryz.prog oSx0 Tryz.f40 [DK a] [] 300=some (tt 4 [],eB (AL (AA (EV (a % rN)) 0 4))):=by kernel_rfl
theorem ARi {a:Nat} (_h:a<R4):AW Tryz.prog 40 [DK a] (eB (a % rN)):=by
 have h1:=Ac ARe AE Tryz.func40 (ARh a) (Ab 4 trivial) rfl
 rw [LS (vS a)] at h1
 exact h1
noncomputable def SSx:List (FuncId×ASpec):=(17,d8 (fun l=>DK (AT l % rN)) 35184372088832)::(40,As (Vi fun x=>eB (x % rN)))::SSx0
theorem yW:AM Tryz.prog SSx:=⟨ARd Tryz.func17 (by kernel_rfl) (by kernel_rfl) (fun _=>rfl) ARg,Av Tryz.func40 (by kernel_rfl) (by kernel_rfl) (vV fun _ h=>ARi h),d9⟩
noncomputable abbrev oSx:Orc:=AJ SSx KV
theorem Ru:OrcOk Tryz.prog oSx:=AN yW BR
def tagK:List Int:=[66,76,83,45,83,73,71,45,75,69,89,71,69,78,45,83,65,76,84,45]
noncomputable def NO (y b i:List Int):Nat:=AT (AA (NM (DY (C9 y) (b++[0])) (i++[0,48])) 0 48) % rN
noncomputable def Lg (b i:List Int):Nat→List Int→Nat
 | 0,_=>0
 | r+1,y=>if NO y b i=0 then Lg b i r (C9 y) else NO y b i
theorem yX:∃ f:List Int→List Int→Nat,∀ b i,f b i=Lg b i 16 tagK:=⟨_,fun _ _=>rfl⟩
noncomputable def Lh:List Int→List Int→Nat:=Classical.choose yX
theorem ARj (b i:List Int):Lh b i=Lg b i 16 tagK:=Classical.choose_spec yX b i
noncomputable abbrev kgF:Func:=Tryz.f30
section
variable (o1 n1 m1 o2 n2 m2:Nat) (x1 x2 y:List Int) (i:Int)
noncomputable def eD (p:List Bool):ASt:=Ah kgF [AK 0 o1 n1 m1,AK 1 o2 n2 m2] [(0,some (AU [.seq .u8 x1])),(1,some (AU [.seq .u8 x2]))] 2 p
noncomputable def yY:List Item:=C3 (Aa Tryz.prog oSx (some 0) 100 2 none (eD 0 0 0 0 0 0 [] [] [false]))
noncomputable def yZ (c:AV):List AV:=JI kgF.ntmps [(0,AK 0 o1 n1 m1),(1,AK 1 o2 n2 m2),(6,.val false [.p 2 0]),(18,c)]
def y8:Heap:=[(0,some (AU [.seq .u8 x1])),(1,some (AU [.seq .u8 x2])),(2,some ⟨120,[.seq .u8 (C9 y)],false⟩)]
noncomputable def Rv (p:List Bool):ASt:=⟨yY,⟨yZ o1 n1 m1 o2 n2 m2 (iA i),y8 x1 x2 y,3,p⟩⟩
theorem ARk:Aa Tryz.prog oSx (some 0) 100 2 (some ([0,1,6,18],[0,1,3],4)) (eD o1 n1 m1 o2 n2 m2 x1 x2 [false])=some ((AI .i64 n1,true)::(decide ((n1:Int)<32),false)::tt 2 [],[],⟨yY,⟨N6 (Eb 2 [3]) (yZ o1 n1 m1 o2 n2 m2 (.val false [.n .i64 0])),KT (Eb 2 [3]) (y8 x1 x2 (AA tagK 0 20)),4,[]⟩⟩):=by kernel_rfl
def WM:List Int:=AA x1 o1 n1++AA [0] 0 1
def WN:List Int:=AA x2 o2 n2++AA [0,48] 0 2
noncomputable def WO:Nat:=AT (AA (NM (AA (DY (AA (C9 y) (0+0*1) (32-0)) (AA (WM o1 n1 x1) 0 (n1+1))) (0+0*1) (32-0)) (AA (WN o2 n2 x2) 0 (n2+2))) 0 48) % rN
noncomputable def WP (b:Bool) (r:List (Bool×Bool)):List (Bool×Bool):=(decide (i<16),true)::(Nat.ble (o1+n1) x1.length,true)::(true,true)::(Nat.ble (n1+1) 35184372088832,true)::(true,true)::(Nat.ble (0+(n1+1)) (WM o1 n1 x1).length,true)::(true,true)::(Nat.ble (n1+1) 17592186044416,true)::(Nat.ble (o2+n2) x2.length,true)::(true,true)::(Nat.ble (n2+2) 35184372088832,true)::(true,true)::(Nat.ble (0+(n2+2)) (WN o2 n2 x2).length,true)::(true,true)::(Nat.ble (n2+2) 8796093022208,true)::tt 2 ((!decide (WO o1 n1 o2 n2 x1 x2 y=0),b)::r)
theorem ARl:Aa Tryz.prog oSx (some 0) 100 2 (some ([0,1,6,18],[0,1,2],3)) (Rv o1 n1 m1 o2 n2 m2 x1 x2 y i [true,false])=some (WP o1 n1 o2 n2 x1 x2 y i false (tt 2 []),[],Rv o1 n1 m1 o2 n2 m2 x1 x2 (AA (C9 y) (0+0*1) (32-0)) (wI (i+1)) []):=by kernel_rfl
def WQ (K:Nat) (xs:List Int):Heap:=[(K,some ⟨22,[.seq .u8 xs],false⟩)]
def WR (K:Nat):AV:=.tup [(false,[.sl K 0 32 32]),(false,[.n .i64 0])]
def NP (e:Int):AV:=.tup [(false,[.v (.slice none 0 0)]),(false,[.n .i64 e])]
theorem ARm:AQ Tryz.prog oSx kgF 400 2 [32] (Rv o1 n1 m1 o2 n2 m2 x1 x2 y i [true,true])=some (WP o1 n1 o2 n2 x1 x2 y i true [],[],WR 32,WQ 32 (BB (WO o1 n1 o2 n2 x1 x2 y % rN) 32)):=by kernel_rfl
theorem ARn:AQ Tryz.prog oSx kgF 400 2 [] (Rv o1 n1 m1 o2 n2 m2 x1 x2 y i [false])=some ((decide (i<16),false)::[],[],NP 210,[]):=by kernel_rfl
theorem ARo:AQ Tryz.prog oSx kgF 400 2 [] (eD o1 n1 m1 o2 n2 m2 x1 x2 [true])=some ((AI .i64 n1,true)::(decide ((n1:Int)<32),true)::[],[],NP 211,[]):=by kernel_rfl
end
theorem y9 {o1 n1 o2 n2:Nat} {x1 x2:List Int} (h1:o1+n1≤x1.length) (h2:o2+n2≤x2.length) (y:List Int):WO o1 n1 o2 n2 x1 x2 y=NO y (AA x1 o1 n1) (AA x2 o2 n2):=by
 unfold WO NO
 have e1:WM o1 n1 x1=AA x1 o1 n1++[0]:=rfl
 have e2:WN o2 n2 x2=AA x2 o2 n2++[0,48]:=rfl
 rw [e1,e2,show 0+0*1=0 from rfl,show 32-0=32 from rfl,Dp (NI _),Dp (Rt _ _),Dp (EL (b:=[0]) (m:=1) (CS h1) rfl),Dp (EL (b:=[0,48]) (m:=2) (CS h2) rfl)]
theorem zA {o1 n1 o2 n2:Nat} {x1 x2 y:List Int} {i:Int} {b:Bool} {r:List (Bool×Bool)} (h1:o1+n1≤x1.length) (h2:o2+n2≤x2.length) (hn1:n1≤4398046511104) (hn2:n2≤4398046511104) (hi:i<16) (hb:(!decide (NO y (AA x1 o1 n1) (AA x2 o2 n2)=0))=b) (hr:AP r):AP (WP o1 n1 o2 n2 x1 x2 y i b r):=by
 have l1:(WM o1 n1 x1).length=n1+1:=EL (CS h1) rfl
 have l2:(WN o2 n2 x2).length=n2+2:=EL (CS h2) rfl
 unfold WP
 rw [y9 h1 h2,l1,l2]
 exact ⟨decide_eq_true hi,Nat.ble_eq_true_of_le h1,rfl,Nat.ble_eq_true_of_le (by omega),rfl,Nat.ble_eq_true_of_le (by omega),rfl,Nat.ble_eq_true_of_le (by omega),Nat.ble_eq_true_of_le h2,rfl,Nat.ble_eq_true_of_le (by omega),rfl,Nat.ble_eq_true_of_le (by omega),rfl,Nat.ble_eq_true_of_le (by omega),Ab 2 ⟨hb,hr⟩⟩
noncomputable def NQ (K N:Nat):AV:=if N=0 then NP 210 else WR K
noncomputable def NR (K N:Nat):Heap:=if N=0 then [] else WQ K (BB N 32)
theorem ARp (y b i:List Int):NO y b i<rN:=Nat.mod_lt _ RM
theorem ARq {o1 n1 m1 o2 n2 m2:Nat} {x1 x2:List Int} (h1:o1+n1≤x1.length) (h2:o2+n2≤x2.length) (hn1:n1≤4398046511104) (hn2:n2≤4398046511104) {β0:Env} {w0:World} (hb:∀ b,2≤b→β0 b=none):∀ (r i:Nat) (y:List Int),i+r=16 →
  ASafe Tryz.prog 30 β0 w0 (A7 β0 w0 [] (NQ 32 (Lg (AA x1 o1 n1) (AA x2 o2 n2) r y)) (NR 32 (Lg (AA x1 o1 n1) (AA x2 o2 n2) r y))) kgF.ntmps [] (Rv o1 n1 m1 o2 n2 m2 x1 x2 y (i:Int) []):=by
 intro r
 induction r with
 | zero =>
  intro i y hi
  obtain rfl:i=16:=by omega
  unfold NQ NR Lg
  rw [if_pos rfl,if_pos rfl]
  exact Af [false] (Aw Ru AE Tryz.func30 (ARn ..) ⟨by decide,trivial⟩ (AR (by kernel_rfl)) hb (fun _ h=>by cases h))
 | succ r ih =>
  intro i y hi
  by_cases hz:NO y (AA x1 o1 n1) (AA x2 o2 n2)=0
  ·refine Af [true,false] (Aj Ru AE (ARl ..) (zA h1 h2 hn1 hn2 (by omega) (by rw [decide_eq_true hz];rfl) (Ab 2 trivial)) (AR (by kernel_rfl)) hb (fun _ h=>by cases h) fun _=>?_)
   rw [show 0+0*1=0 from rfl,show 32-0=32 from rfl,Dp (NI _),A4 (z:=(i:Int)+1) (by omega)]
   have:=ih (i+1) (C9 y) (by omega)
   unfold Lg
   rw [if_pos hz]
   exact this
  ·have:=Aw (P:=Tryz.prog) (n:=kgF.ntmps) (β0:=β0) (w0:=w0) (W:=[]) Ru AE Tryz.func30 (ARm o1 n1 m1 o2 n2 m2 x1 x2 y (i:Int)) (zA h1 h2 hn1 hn2 (by omega) (by rw [decide_eq_false hz];rfl) trivial) (AR (by kernel_rfl)) hb (fun _ h=>by cases h)
   rw [y9 h1 h2,Nat.mod_eq_of_lt (ARp _ _ _)] at this
   unfold NQ NR Lg
   rw [if_neg hz,if_neg hz,if_neg hz]
   exact Af [true,true] this
theorem ARr:AA tagK 0 20=tagK:=by kernel_rfl
theorem ARs {o1 n1 m1 o2 n2 m2:Nat} {x1 x2:List Int} (h1:o1+n1≤x1.length) (h2:o2+n2≤x2.length) (hn1:n1≤4398046511104) (hn2:n2≤4398046511104) (hn:¬ n1<32) :
  AY Tryz.prog 30 [AK 0 o1 n1 m1,AK 1 o2 n2 m2] [(0,some (AU [.seq .u8 x1])),(1,some (AU [.seq .u8 x2]))] 2 [] (NQ 32 (Lh (AA x1 o1 n1) (AA x2 o2 n2))) (NR 32 (Lh (AA x1 o1 n1) (AA x2 o2 n2))):=by
 refine Ax (path:=[false]) Tryz.func30 (by kernel_rfl) (by kernel_rfl) fun β0 w0 hb=>?_
 refine Aj Ru AE (ARk o1 n1 m1 o2 n2 m2 x1 x2) ⟨Et (by omega),decide_eq_false (by omega),Ab 2 trivial⟩ (AR (by kernel_rfl)) hb (fun _ h=>by cases h) fun _=>?_
 refine YK (m:=3) (by kernel_rfl) hb ?_
 rw [ARr,ARj]
 exact Kx (ARq h1 h2 hn1 hn2 hb 16 0 tagK rfl)
theorem ARt {o1 n1 m1 o2 n2 m2:Nat} {x1 x2:List Int} (hn:n1<32) :
  AY Tryz.prog 30 [AK 0 o1 n1 m1,AK 1 o2 n2 m2] [(0,some (AU [.seq .u8 x1])),(1,some (AU [.seq .u8 x2]))] 2 [] (NP 211) [] :=
 Ax (path:=[true]) Tryz.func30 (by kernel_rfl) (by kernel_rfl) fun β0 w0 hb=>Aw Ru AE Tryz.func30 (ARo o1 n1 m1 o2 n2 m2 x1 x2) ⟨Et (by omega),decide_eq_true (by omega),trivial⟩ (AR (by kernel_rfl)) hb (fun _ h=>by cases h)
noncomputable def eF (K nw:Nat):ASpec:=fun args H fr path=>match args with
 | [S,T]=>match Br S,Br T with
  | some (k,o,n),some (l,p,m)=>match AB H k,AB H l with
   | some ⟨_,cs,_⟩,some ⟨_,ds,_⟩=>match Ak .u8 cs,Ak .u8 ds with
    | some xs,some ys=>match path with
     | true::rest=>some (Az [k,l] 2 fr 0 [] (NP 211) [] [(decide (n<32),true)] rest)
     | false::true::rest=>some (Az [k,l] 2 fr 0 [] (NP 210) [] [(decide (n<32),false),(Nat.ble (o+n) xs.length,true),(Nat.ble (p+m) ys.length,true),(Nat.ble n 4398046511104,true),(Nat.ble m 4398046511104,true),(decide (Lh (AA xs o n) (AA ys p m)=0),true)] rest)
     | false::false::rest=>some (Az [k,l] 2 fr nw [] (WR K) (WQ K (BB (Lh (AA xs o n) (AA ys p m)) 32)) [(decide (n<32),false),(Nat.ble (o+n) xs.length,true),(Nat.ble (p+m) ys.length,true),(Nat.ble n 4398046511104,true),(Nat.ble m 4398046511104,true),(decide (Lh (AA xs o n) (AA ys p m)=0),false)] rest)
     | _=>none
    | _,_=>none
   | _,_=>none
  | _,_=>none
 | _=>none
theorem ARu {F:FuncId} {fn:Func} {K nw:Nat} (hfn:Tryz.prog.funcs[F]? = some fn) (hb:fn.body.isSome=true) (hname:(fn.name=="runtime.NumGoroutine")=false) (hk:∀ L,Ct 2 nw [] (WR K) (WQ K L)=true)
  (h0:∀ {o1 n1 m1 o2 n2 m2:Nat} {x1 x2:List Int},n1<32→AY Tryz.prog F [AK 0 o1 n1 m1,AK 1 o2 n2 m2] [(0,some (AU [.seq .u8 x1])),(1,some (AU [.seq .u8 x2]))] 2 [] (NP 211) [])
  (h:∀ {o1 n1 m1 o2 n2 m2:Nat} {x1 x2:List Int},(∀ d∈x1,0≤d∧d<256)→(∀ d∈x2,0≤d∧d<256)→o1+n1≤x1.length→o2+n2≤x2.length→n1≤4398046511104→n2≤4398046511104→¬ n1<32→AY Tryz.prog F [AK 0 o1 n1 m1,AK 1 o2 n2 m2] [(0,some (AU [.seq .u8 x1])),(1,some (AU [.seq .u8 x2]))] 2 [] (NQ K (Lh (AA x1 o1 n1) (AA x2 o2 n2))) (NR K (Lh (AA x1 o1 n1) (AA x2 o2 n2)))):A6 Tryz.prog F (eF K nw):=by
 refine CJ hfn hb hname fun args H fr path r hs=>?_
 unfold eF at hs
 split at hs
 case h_2=>cases hs
 rename_i S T
 split at hs
 case h_2=>cases hs
 rename_i k o n l p m hS hT
 split at hs
 case h_2=>cases hs
 rename_i ty cs op ty' ds op' hk' hl'
 split at hs
 case h_2=>cases hs
 rename_i xs ys hx hy
 split at hs
 ·rename_i rest
  injection hs with hs
  refine ⟨[k,l],2,0,[],_,_,_,rest,hs.symm,fun β us w ha hg hc=>?_⟩
  obtain ⟨u1,us1,r1,⟨u2,us2,r2,ha,rfl⟩,rfl⟩:=ha
  obtain ⟨m1,m2,q1,q2,_,_,q5,q6⟩:=WL hg hS hT hk' hl' hx hy r1 r2
  exact ⟨_,_,h0 (of_decide_eq_true hc.1),rfl,⟨u1,_,q1,⟨u2,_,q2,ha,rfl⟩,rfl⟩,q5,q6⟩
 ·rename_i rest
  injection hs with hs
  refine ⟨[k,l],2,0,[],_,_,_,rest,hs.symm,fun β us w ha hg hc=>?_⟩
  obtain ⟨u1,us1,r1,⟨u2,us2,r2,ha,rfl⟩,rfl⟩:=ha
  obtain ⟨m1,m2,q1,q2,b1,b2,q5,q6⟩:=WL hg hS hT hk' hl' hx hy r1 r2
  obtain ⟨c0,c1,c2,c3,c4,c5,_⟩:=hc
  have:=h (o1:=o) (n1:=n) (m1:=m1) (o2:=p) (n2:=m) (m2:=m2) b1 b2 (Nat.le_of_ble_eq_true c1) (Nat.le_of_ble_eq_true c2) (Nat.le_of_ble_eq_true c3) (Nat.le_of_ble_eq_true c4) (of_decide_eq_false c0)
  unfold NQ NR at this
  rw [if_pos (of_decide_eq_true c5),if_pos (of_decide_eq_true c5)] at this
  exact ⟨_,_,this,rfl,⟨u1,_,q1,⟨u2,_,q2,ha,rfl⟩,rfl⟩,q5,q6⟩
 ·rename_i rest
  injection hs with hs
  refine ⟨[k,l],2,nw,[],_,_,_,rest,hs.symm,fun β us w ha hg hc=>?_⟩
  obtain ⟨u1,us1,r1,⟨u2,us2,r2,ha,rfl⟩,rfl⟩:=ha
  obtain ⟨m1,m2,q1,q2,b1,b2,q5,q6⟩:=WL hg hS hT hk' hl' hx hy r1 r2
  obtain ⟨c0,c1,c2,c3,c4,c5,_⟩:=hc
  have:=h (o1:=o) (n1:=n) (m1:=m1) (o2:=p) (n2:=m) (m2:=m2) b1 b2 (Nat.le_of_ble_eq_true c1) (Nat.le_of_ble_eq_true c2) (Nat.le_of_ble_eq_true c3) (Nat.le_of_ble_eq_true c4) (of_decide_eq_false c0)
  unfold NQ NR at this
  rw [if_neg (of_decide_eq_false c5),if_neg (of_decide_eq_false c5)] at this
  exact ⟨_,_,this,hk _,⟨u1,_,q1,⟨u2,_,q2,ha,rfl⟩,rfl⟩,q5,q6⟩
 ·cases hs
noncomputable def SSy:List (FuncId×ASpec):=(30,eF 32 31)::SSx
theorem WS:AM Tryz.prog SSy:=⟨ARu Tryz.func30 (by kernel_rfl) (by kernel_rfl) (fun _=>rfl) ARt fun _ _=>ARs,yW⟩
noncomputable abbrev oSy:Orc:=AJ SSy KV
theorem ARv:OrcOk Tryz.prog oSy:=AN WS BR
section
variable (off n m off' n' m':Nat) (xs ys zs:List Int) (L:Nat) (c i:Int)
end
section
variable {off n m off' n' m':Nat} {xs ys:List Int} (hx:∀ d∈xs,0≤d∧d<18446744073709551616) (hy:∀ d∈ys,0≤d∧d<18446744073709551616) (hl:off+n≤xs.length) (hl':off'+n'≤ys.length)
 (hn:n≤17592186044415) (hn':n'≤17592186044415)
include hx hy hl hl' hn hn'
end
noncomputable def SYb0:List (FuncId×ASpec):=SSy
theorem ARw:AM Tryz.prog SYb0:=WS
noncomputable def SYb:List (FuncId×ASpec):=SYb0
theorem ARx:AM Tryz.prog SYb:=ARw
section
variable (off n m off' m':Nat) (xs ys zs:List Int) (i:Int)
end
def P5:Nat:=2135987035920910082395021706169552114602704522356652769947041607822219725780640550022962086936576
theorem ARy:P5=2^(64*5):=by kernel_rfl
theorem ARz {x:Nat} (h:x<P5):AL (AA (wl 5 x) 0 5)=x:=by rw [Dp (Z2 5 x)];exact Ur (by rw [← ARy];exact h)
section
variable {off n m off' m':Nat} {xs ys:List Int} (hx:∀ d∈xs,0≤d∧d<18446744073709551616) (hl:off+n≤xs.length) (hl':off'+4≤ys.length) (hn:n≤17592186044415)
 {M:Nat} (hM:AL (AA ys off' 4)=M) (h0:0<M) (hM2:M+M+1<P5) {β0:Env} {w0:World} (hb:∀ b,2≤b→β0 b=none)
end
end Go.Proofs.YtojnabmgolpodaaGreat
namespace Go.Proofs.YtojnabmgolpodaaGreat
open Ex Num Rg
open Sh (R av rd mo en mo_en)
set_option maxRecDepth 100000
set_option maxHeartbeats 4000000
noncomputable def SYd0:List (FuncId×ASpec):=(SYb++(SVg++(SQt++SQg)))
theorem AR0:AM Tryz.prog SYd0:=Jy ARx (Jy wP (Jy vE vD))
noncomputable def SYd1:List (FuncId×ASpec):=SYd0
theorem AR1:AM Tryz.prog SYd1:=AR0
noncomputable def SYd2:List (FuncId×ASpec):=SYd1
theorem AR2:AM Tryz.prog SYd2:=AR1
noncomputable def SYe:List (FuncId×ASpec):=SYd2
theorem AR3:AM Tryz.prog SYe:=AR2
noncomputable def SYf0:List (FuncId×ASpec):=SYe
theorem AR4:AM Tryz.prog SYf0:=AR3
noncomputable def SYf1:List (FuncId×ASpec):=SYf0
theorem AR5:AM Tryz.prog SYf1:=AR4
section
variable (n m:Nat) (xs:List Int)
end
section
variable (o1 n1 m1 o2 n2 m2:Nat) (x1 x2 y:List Int) (i:Int)
end
section
variable {o1 n1 m1 o2 n2 m2:Nat} {x1 x2:List Int} (h1:o1+n1≤x1.length) (h2:o2+n2≤x2.length) (hn1:n1≤4398046511104) (hn2:n2≤4398046511104) {β0:Env} {w0:World} (hb:∀ b,2≤b→β0 b=none)
include h1 h2 hn1 hn2 hb
end
noncomputable def SYf:List (FuncId×ASpec):=SYf1
theorem zB:AM Tryz.prog SYf:=AR5
end Go.Proofs.YtojnabmgolpodaaGreat
namespace Go.Proofs.YtojnabmgolpodaaGreat
open Ex Num
set_option maxRecDepth 100000
set_option maxHeartbeats 4000000
noncomputable abbrev xeF:Func:=Tryz.f257
noncomputable def SXa0:List (FuncId×ASpec):=(310,C0 Tryz.prog oSy Tryz.f310 300)::SSy
theorem AR6:AM Tryz.prog SXa0:=⟨DG ARv AE Tryz.func310 (by kernel_rfl) (by kernel_rfl) 300,WS⟩
noncomputable abbrev oXa0:Orc:=AJ SXa0 KV
theorem eI:OrcOk Tryz.prog oXa0:=AN AR6 BR
noncomputable def D5 (xs ds:List Int):Heap:=[(0,some (AU [.seq .u8 xs])),(1,some (AU [.seq .u8 ds]))]
noncomputable def zC (o n m n' m':Nat) (xs ds:List Int) (p:List Bool):ASt:=Ah xeF [AK 0 o n m,AK 1 0 n' m',.val false [.n .i64 256]] (D5 xs ds) 2 p
noncomputable def eJ:List Item:=C3 (Aa Tryz.prog oXa0 (some 4) 300 2 none (zC 0 0 0 0 0 [] [] [false,false]))
noncomputable def eM (L:Nat) (s i:AV):List AV:=JI xeF.ntmps [(2,.val false [.n .i64 256]),(8,.val false [.sx 2 L 1]),(9,.val false [.p 3 0]),(10,s),(11,.val false [.p 4 0]),(12,i)]
def PG (f:Nat→Int):List Int:=(List.range 32).map f
noncomputable def eN (xs ds tg F:List Int) (b:Blk):Heap:=[(0,some (AU [.seq .u8 xs])),(1,some (AU [.seq .u8 ds])),(2,some ⟨5,[.seq .u8 tg],true⟩),(3,some ⟨120,[.seq .u8 F],false⟩),(4,some b)]
noncomputable def zD (g:List Int):Blk:=⟨120,[.seq .u8 g],false⟩
noncomputable def Rw (xs ds tg:List Int) (L:Nat) (f g:Nat→Int) (ys:List Int) (M:Nat) (i:Int) (p:List Bool):ASt:=⟨eJ,⟨eM L (.val false [.sx 5 M 1]) (iA i),eN xs ds tg (PG f) (zD (PG g))++[(5,some ⟨5,[.seq .u8 ys],true⟩)],6,p⟩⟩
section
variable (xs ds tg:List Int) (L:Nat) (f g:Nat→Int) (ys:List Int) (M:Nat) (i:Int)
def WT:List Int:=PG fun k=>bits .xor .u8 (g k) (f k)
def Rx:List Int:=AA (WT f g) (0+0*1) (32-0)++AA [AS false .u8 i] 0 1++AA tg 0 L
def eO:List Int:=C9 (AA (Rx tg L f g i) 0 (32-0+1+L))
noncomputable def xeN (z:List Int):ASt:=⟨eJ,⟨N6 (Eb 2 [2,3,4,13]) (eM L (.val false [.sx 5 (M+(32-0)) 1]) (iA (wI (i+1)))),KT (Eb 2 [2,3,4,13]) (eN xs ds tg (PG f) (zD z)++[(5,some ⟨5,[.seq .u8 (ys.take M++List.take (32-0) (List.drop (0+0*1) z))],true⟩)]),14,[]⟩⟩
theorem AR8:Aa Tryz.prog oXa0 (some 4) 600 2 (some ([2,8,9,10,11,12],[0,1,2,3,4,13],14)) (Rw xs ds tg L f g ys M i [true]) =
 some ((AI .i64 M,true)::(decide ((M:Int)<256),true)::tt 98 ((Nat.ble (0+L) tg.length,true)::(Nat.ble (32-0+1+L) 35184372088832,true)::(Nat.ble (0+(32-0+1+L)) (Rx tg L f g i).length,true)::(Nat.ble (32-0+1+L) 35184372088832,true)::(Nat.ble M ys.length,true)::(true,true)::(E' (M+(32-0)),true)::[]),[],xeN xs ds tg L f ys M i (eO tg L f g i)):=by kernel_rfl
def eP:Heap:=[(5,some ⟨5,[.seq .u8 ys],true⟩)]
theorem AR9:AQ Tryz.prog oXa0 xeF 300 2 [5] (Rw xs ds tg L f g ys M i [false])=some ([(AI .i64 M,true),(decide ((M:Int)<256),false),(decide ((0:Int)≤256∧(256:Int)≤M),true),(true,true)],[],.tup [(false,[.sl 5 0 256 256]),(false,[.n .i64 0])],eP ys):=by kernel_rfl
end
section
variable (o n m n' m':Nat) (xs ds:List Int)
def FA:Nat:=Int.toNat (n':Int)-0
def Ry:List Int:=List.take (FA n') (List.drop 0 ds)++[AS false .u8 n']
def Rz:List Int:=AA (List.replicate 64 0) 0 64++AA xs o n++AA [1,0,0] 0 3++AA (Ry n' ds) 0 (FA n'+1)
def AR_:Blk:=⟨120,List.replicate 32 (.n .u8 0),false⟩
theorem AR':Aa Tryz.prog oXa0 (some 4) 300 2 (some ([2,8,9,10,11,12],[0,1,3,13,14],15)) (zC o n m n' m' xs ds [false,false]) =
 some ((AI .i64 n',true)::(decide ((n':Int)<1),false)::(AI .i64 n',true)::(decide ((255:Int)<n'),false)::(AI .i64 n',true)::(AI .i64 n',true)::(decide ((0:Int)≤n'∧(n':Int)≤m'),true)::(decide ((0:Int)≤n'∧(n':Int)≤Int.toNat (n':Int)),true)::(true,true)::(AI .i64 n',true)::(Nat.ble (0+FA n') ds.length,true) ::
  (Nat.beq (FA n') (FA n')&&Nat.blt 0 1,true)::(E' (FA n'+1),true)::(true,true)::(true,true)::(Nat.ble (o+n) xs.length,true)::(true,true)::(Nat.ble (0+(FA n'+1)) (Ry n' ds).length,true)::(Nat.ble (64+n+3+(FA n'+1)) 35184372088832,true)::(Nat.ble (0+(64+n+3+(FA n'+1))) (Rz o n n' xs ds).length,true)::(Nat.ble (64+n+3+(FA n'+1)) 35184372088832,true)::[],[],
  ⟨eJ,⟨N6 (Eb 2 [3,13,14]) (eM (FA n'+1) V8 (.val false [.n .i64 1])),KT (Eb 2 [3,13,14]) (eN xs ds (Ry n' ds) (C9 (AA (Rz o n n' xs ds) 0 (64+n+3+(FA n'+1)))) AR_),15,[]⟩⟩):=by kernel_rfl
end
def Ih (d:List Int):List Int:=d++[(d.length:Int)]
def WU (x t:List Int):List Int:=C9 (List.replicate 64 0++x++[1,0,0]++t)
def WV (F l:List Int):List Int:=WT (fun k=>F.getD k 0) fun k=>l.getD k 0
def xd (F t:List Int):Nat→List Int
 | 0=>List.replicate 32 0
 | i+1=>C9 (WV F (xd F t i)++[((i+1:Nat):Int)]++t)
def Hj (F t:List Int):Nat→List Int
 | 0=>[]
 | i+1=>Hj F t i++xd F t (i+1)
theorem zE:∃ f:List Int→List Int→List Int,∀ x d,f x d=Hj (WU x (Ih d)) (Ih d) 8:=⟨_,fun _ _=>rfl⟩
noncomputable def Ii:List Int→List Int→List Int:=Classical.choose zE
theorem eR (x d:List Int):Ii x d=Hj (WU x (Ih d)) (Ih d) 8:=Classical.choose_spec zE x d
theorem WW (F t:List Int):∀ i,(xd F t i).length=32
 | 0=>List.length_replicate
 | i+1=>NI _
theorem WX (F t:List Int):∀ i,(Hj F t i).length=32*i
 | 0=>rfl
 | i+1=>by
  show (Hj F t i++xd F t (i+1)).length=_
  rw [List.length_append,WX F t i,WW]
  omega
theorem eS {l:List Int} (h:l.length=32):PG (fun k=>l.getD k 0)=l:=(O7 h).symm
theorem zG (f g:Nat→Int):(WT f g).length=32:=by unfold WT PG;rw [List.length_map,List.length_range]
theorem zH {i:Nat} (h:i<256):AS false .u8 (i:Int)=(i:Int):=by rw [C_,IntKind.wrap_u8];omega
theorem zI {F l t:List Int} {L i:Nat} (ht:t.length=L) (hi:i<256):Rx t L (fun k=>F.getD k 0) (fun k=>l.getD k 0) (i:Int)=WV F l++[(i:Int)]++t:=by
 unfold Rx WV
 rw [show 0+0*1=0 from rfl,show 32-0=32 from rfl,Dp (zG _ _),Dp ht,zH hi]
 rfl
theorem zJ {F l t:List Int} {L i:Nat} (ht:t.length=L) (hi:i<256):(Rx t L (fun k=>F.getD k 0) (fun k=>l.getD k 0) (i:Int)).length=32-0+1+L:=by
 rw [zI ht hi,List.length_append,List.length_append,ht]
 unfold WV
 rw [zG];rfl
theorem ASA {xs ds t F:List Int} {L:Nat} (hF:F.length=32) (ht:t.length=L) (hL:L≤1000) {β0:Env} {w0:World} (hb:∀ b,2≤b→β0 b=none):∀ r i:Nat,i+r=8 →
  ASafe Tryz.prog 257 β0 w0 (A7 β0 w0 [] (.tup [(false,[.sl 5 0 256 256]),(false,[.n .i64 0])]) (eP (Hj F t 8))) xeF.ntmps []
   (Rw xs ds t L (fun k=>F.getD k 0) (fun k=>(xd F t i).getD k 0) (Hj F t i) (32*i) ((i+1:Nat):Int) []):=by
 intro r
 induction r with
 | zero =>
  intro i hi
  obtain rfl:i=8:=by omega
  exact Af [false] (Aw eI AE Tryz.func257 (AR9 ..) ⟨by decide,by decide,by decide,rfl,trivial⟩ (AR (by kernel_rfl)) hb (fun _ h=>by cases h))
 | succ r ih =>
  intro i hi
  refine Af [true] (Aj eI AE (AR8 ..) ⟨Et (by omega),decide_eq_true (by omega),Ab 98 ⟨Nat.ble_eq_true_of_le (by omega),Nat.ble_eq_true_of_le (by omega),?_,Nat.ble_eq_true_of_le (by omega),?_,rfl,FT (by omega),trivial⟩⟩ (AR (by kernel_rfl)) hb (fun _ h=>by cases h) fun _=>?_)
  ·rw [zJ ht (by omega)];exact Nat.ble_eq_true_of_le (by omega)
  ·rw [WX];exact Nat.ble_eq_true_of_le (by omega)
  ·have ez:eO t L (fun k=>F.getD k 0) (fun k=>(xd F t i).getD k 0) ((i+1:Nat):Int)=xd F t (i+1):=by
    unfold eO
    rw [Dp (zJ ht (by omega)),zI ht (by omega)]
    rfl
   rw [ez]
   refine YK (m:=6) (by kernel_rfl) hb ?_
   have e1:(Hj F t i).take (32*i)++List.take (32-0) (List.drop (0+0*1) (xd F t (i+1)))=Hj F t (i+1):=by
    rw [GI (WX F t i),show 0+0*1=0 from rfl,show 32-0=32 from rfl,List.drop_zero,GI (WW F t (i+1))]
    rfl
   have next:=ih (i+1) (by omega)
   unfold Rw at next
   rw [eS (WW F t (i+1))] at next
   rw [e1,A4 (z:=((i+1:Nat):Int)+1) (by omega)]
   exact next
def NS (ts:List Nat):Nat→List AV→List AV
 | _,[]=>[]
 | i,x::r=>(match FC i ts with | true=>FH x | false=>x)::NS ts (i+1) r
theorem zK (ts:List Nat):∀ (T:List AV) (i t:Nat),Al (NS ts i T) t=FH (Al T t)∨Al (NS ts i T) t=Al T t
 | [],_,_=>.inr rfl
 | x::r,i,0=>by
  simp only [NS,Al]
  split
  ·exact .inl rfl
  ·exact .inr rfl
 | _::r,i,t+1=>zK ts r (i+1) t
theorem ASB {P:Program} {f:FuncId} {β0:Env} {w0:World} {R:Ending→World→Prop} {n:Fz} {W:List Nat} {todo:List Item} {T:List AV} {H:Heap} {fr:Nat} {p:List Bool} (ts:List Nat) (h:ASafe P f β0 w0 R n W ⟨todo,⟨NS ts 0 T,H,fr,p⟩⟩):ASafe P f β0 w0 R n W ⟨todo,⟨T,H,fr,p⟩⟩:=by
 intro β a w hi hf
 refine h β a w { hi with tmp:=fun t=>?_ } hf
 rcases zK ts T 0 t with e | e
 ·show AG β (Al (NS ts 0 T) t) _
  rw [e];exact mT (hi.tmp t)
 ·show AG β (Al (NS ts 0 T) t) _
  rw [e];exact hi.tmp t
theorem ASC (β:Env) (l:List Value) (h:AH β (List.replicate 32 (.n .u8 0)) l):AH β [.seq .u8 (List.replicate 32 0)] l:=by
 have e:Ak .u8 (List.replicate 32 (.n .u8 0))=some (List.replicate 32 0):=by kernel_rfl
 obtain ⟨h1,h2⟩:=Bu e h
 exact ⟨_,[],⟨h1,h2⟩,rfl,by simp⟩
theorem ASD {o n m n' m':Nat} {xs ds:List Int} (h1:o+n≤xs.length) (h2:n'≤ds.length) (hn:n≤4398046511104) (hn1:1≤n') (hn':n'≤255) (hm:n'≤m') :
  AY Tryz.prog 257 [AK 0 o n m,AK 1 0 n' m',.val false [.n .i64 256]] (D5 xs ds) 2 [] (.tup [(false,[.sl 5 0 256 256]),(false,[.n .i64 0])]) (eP (Ii (AA xs o n) (AA ds 0 n'))):=by
 have hd:(AA ds 0 n').length=n':=CS (by omega)
 have eL:FA n'=n':=by unfold FA;omega
 have eG:Ry n' ds=Ih (AA ds 0 n'):=by
  unfold Ry Ih
  rw [eL,hd,zH (by omega)]
  rfl
 have lT:(Ih (AA ds 0 n')).length=n'+1:=EL hd rfl
 have eQ:Rz o n n' xs ds=List.replicate 64 0++AA xs o n++[1,0,0]++Ih (AA ds 0 n'):=by
  unfold Rz
  rw [eL,eG,Dp lT]
  rfl
 have lQ:(Rz o n n' xs ds).length=64+n+3+(FA n'+1):=by
  rw [eQ,List.length_append,List.length_append,List.length_append,lT,CS h1,List.length_replicate,eL];rfl
 refine Ax (path:=[false,false]) Tryz.func257 (by kernel_rfl) (by kernel_rfl) fun β0 w0 hb=>?_
 refine Aj eI AE (AR' o n m n' m' xs ds) ?_ (AR (by kernel_rfl)) hb (fun _ h=>by cases h) fun _=>?_
 ·have hh:AI .i64 (n':Int)=true:=Et (by omega)
  rw [lQ,eG,lT,eL]
  exact ⟨hh,decide_eq_false (by omega),hh,decide_eq_false (by omega),hh,hh,decide_eq_true (by omega),decide_eq_true (by omega),rfl,hh,Nat.ble_eq_true_of_le (by omega),by rw [Nat.beq_refl];rfl,FT (by omega),rfl,rfl,Nat.ble_eq_true_of_le h1,rfl,Nat.ble_eq_true_of_le (by omega),Nat.ble_eq_true_of_le (by omega),Nat.ble_eq_true_of_le (by omega),Nat.ble_eq_true_of_le (by omega),trivial⟩
 ·refine YK (m:=5) (by kernel_rfl) hb ?_
  refine k8 (ts:=[10]) (sz:=1) (ty:=5) (kd:=.u8) rfl (hb 5 (by decide)) (ASB [12] ?_)
  refine O6 (k:=4) (ty:=120) (o:=false) (cs':=[.seq .u8 (List.replicate 32 0)]) rfl ASC ?_
  rw [Dp lQ,eQ,eG,eL,eR]
  have next:=ASA (xs:=xs) (ds:=ds) (F:=WU (AA xs o n) (Ih (AA ds 0 n'))) (w0:=w0) (NI _) lT (by omega) hb 8 0 rfl
  unfold Rw at next
  rw [eS (l:=WU (AA xs o n) (Ih (AA ds 0 n'))) (NI _),eS (WW _ _ 0)] at next
  exact next
def xeV:AV:=.tup [(false,[.sl 5 0 256 256]),(false,[.n .i64 0])]
noncomputable def eU (v:AV) (K nw:Nat):ASpec:=fun args H fr path=>match args with
 | [S,T,.val false [.n .i64 256]]=>match Br S,IX T with
  | some (k,o,n),some (t,n',m')=>match AB H k,AB H t with
   | some ⟨_,cs,_⟩,some ⟨_,es,_⟩=>match Ak .u8 cs,Ak .u8 es with
    | some xs,some ds=>some (Az [k,t] 2 fr nw [] v [(K,some ⟨5,[.seq .u8 (Ii (AA xs o n) (AA ds 0 n'))],true⟩)] [(Nat.ble (o+n) xs.length,true),(Nat.ble n' ds.length,true),(Nat.ble n 4398046511104,true),(Nat.ble 1 n',true),(Nat.ble n' 255,true),(Nat.ble n' m',true)] path)
    | _,_=>none
   | _,_=>none
  | _,_=>none
 | _=>none
theorem ASF {F:FuncId} {fn:Func} {v:AV} {K nw:Nat} (hfn:Tryz.prog.funcs[F]? = some fn) (hb:fn.body.isSome=true) (hname:(fn.name=="runtime.NumGoroutine")=false) (hk:∀ l,Ct 2 nw [] v [(K,some ⟨5,[.seq .u8 l],true⟩)]=true)
  (h:∀ {o n m n' m':Nat} {xs ds:List Int},(∀ d∈xs,0≤d∧d<256)→(∀ d∈ds,0≤d∧d<256)→o+n≤xs.length→n'≤ds.length→n≤4398046511104→1≤n'→n'≤255→n'≤m'→AY Tryz.prog F [AK 0 o n m,AK 1 0 n' m',.val false [.n .i64 256]] (D5 xs ds) 2 [] v [(K,some ⟨5,[.seq .u8 (Ii (AA xs o n) (AA ds 0 n'))],true⟩)]):A6 Tryz.prog F (eU v K nw):=by
 refine CJ hfn hb hname fun args H fr path r hs=>?_
 unfold eU at hs
 split at hs
 case h_2=>cases hs
 rename_i S T
 split at hs
 case h_2=>cases hs
 rename_i k o n t n' m' hS hT
 split at hs
 case h_2=>cases hs
 rename_i ty cs op ty' es op' hk' ht'
 split at hs
 case h_2=>cases hs
 rename_i xs ds hx hd
 injection hs with hs
 refine ⟨[k,t],2,nw,[],_,_,_,path,hs.symm,fun β us w ha hg hc=>?_⟩
 obtain ⟨u1,us1,r1,⟨u2,us2,r2,⟨u3,us3,r3,ha,rfl⟩,rfl⟩,rfl⟩:=ha
 obtain ⟨c1,c2,c3,c4,c5,c6,_⟩:=hc
 obtain ⟨m,r1⟩:=Dj hS r1
 obtain ⟨m2,hm2,r2⟩:=IY hT (Nat.le_of_ble_eq_true c6) r2
 obtain ⟨g1,_,_⟩:=Cx hg hk' hx
 obtain ⟨g2,_,_⟩:=Cx hg ht' hd
 refine ⟨_,_,h (o:=o) (n:=n) (m:=m) (n':=n') (m':=m2) g1 g2 (Nat.le_of_ble_eq_true c1) (Nat.le_of_ble_eq_true c2) (Nat.le_of_ble_eq_true c3) (Nat.le_of_ble_eq_true c4) (Nat.le_of_ble_eq_true c5) hm2,hk _,⟨u1,_,BW (by omega) rfl r1,⟨u2,_,BW (by omega) rfl r2,⟨u3,_,HE rfl r3,ha,rfl⟩,rfl⟩,rfl⟩,If (bs:=[AU [.seq .u8 xs],AU [.seq .u8 ds]]) hg fun j d hj=>?_,fun j hj=>?_⟩
 ·match j,hj with
  | 0,hj=>injection hj with hj;subst hj;exact ⟨rfl,DE hg hk' hx (by show 0<2;decide) rfl⟩
  | 1,hj=>injection hj with hj;subst hj;exact ⟨rfl,DE hg ht' hd (by show 1<2;decide) rfl⟩
 ·match j,hj with
  | 0,_=>exact BH (hg.heap _ _ hk')
  | 1,_=>exact BH (hg.heap _ _ ht')
noncomputable def SCb0:List (FuncId×ASpec):=(257,eU xeV 5 4)::(SIe++SSy)
theorem ASG:AM Tryz.prog SCb0:=⟨ASF Tryz.func257 (by kernel_rfl) (by kernel_rfl) (fun _=>rfl) fun _ _ h1 h2 h3 h4 h5 h6=>ASD h1 h2 h3 h4 h5 h6,Jy rO WS⟩
noncomputable abbrev oCb0:Orc:=AJ SCb0 KV
theorem ASH:OrcOk Tryz.prog oCb0:=AN ASG BR
noncomputable abbrev fdsF:Func:=Tryz.f202
section
variable (o n m n' m':Nat) (xs ds:List Int)
noncomputable def ASI (p:List Bool):ASt:=Ah fdsF [AK 0 o n m,AK 1 0 n' m',.val false [.n .i64 2]] (D5 xs ds) 2 p
noncomputable def G3:List Int:=Ii (AA xs o n) (AA ds 0 n')
noncomputable def Ij (Z:List Int) (j:Nat):Nat:=AL (AA (NN (64*j) 64 Z) 0 ((64+7) / 8)) % pN
noncomputable def zL (K:Nat) (a b c d:Nat):Heap:=[(K,some ⟨39,[.num 6 a,.num 6 b,.num 6 c,.num 6 d],true⟩)]
noncomputable def ASJ (Z:List Int):List (Bool×Bool):=(Nat.ble (o+n) xs.length,true)::(Nat.ble n' ds.length,true)::(Nat.ble n 4398046511104,true)::(Nat.ble 1 n',true)::(Nat.ble n' 255,true)::(Nat.ble n' m',true)::tt 4 ((Nat.ble 64 Z.length,true)::tt 5 ((false,false)::(Nat.ble 128 Z.length,true)::tt 5 ((false,false)::tt 4 ((Nat.ble 192 Z.length,true)::tt 5 ((false,false)::(Nat.ble 256 Z.length,true)::tt 7 ((false,false)::[]))))))
theorem ASK:AQ Tryz.prog oCb0 fdsF 300 2 [13] (ASI o n m n' m' xs ds [true,false,false,true,false,true,false]) =
 some (ASJ o n n' m' xs ds (G3 o n n' xs ds),[],.tup [(false,[.sx 13 2 12]),(false,[.n .i64 0])],zL 13 (Ij (G3 o n n' xs ds) 0) (Ij (G3 o n n' xs ds) 1) (Ij (G3 o n n' xs ds) 2) (Ij (G3 o n n' xs ds) 3)):=by kernel_rfl
end
theorem zM (x d:List Int):(Ii x d).length=256:=by rw [eR,WX]
theorem zO (F t:List Int):∀ i,∀ d∈Hj F t i,0≤d∧d<256
 | 0,_,h=>by cases h
 | i+1,d,h=>by
  rcases List.mem_append.1 (show d∈Hj F t i++xd F t (i+1) from h) with h | h
  ·exact zO F t i d h
  ·exact AQG _ d h
theorem ASL (x d:List Int):∀ z∈Ii x d,0≤z∧z<256:=by rw [eR];exact zO _ _ 8
theorem zP:∃ f:List Int→List Int→Nat→Nat,∀ x d j,f x d j=AT (AA (Ii x d) (64*j) 64) % pN:=⟨_,fun _ _ _=>rfl⟩
noncomputable def Li:List Int→List Int→Nat→Nat:=Classical.choose zP
theorem ASM (x d:List Int) (j:Nat):Li x d j=AT (AA (Ii x d) (64*j) 64) % pN:=Classical.choose_spec zP x d j
noncomputable def eV (x d:List Int):Blk:=⟨39,[.num 6 (Li x d 0),.num 6 (Li x d 1),.num 6 (Li x d 2),.num 6 (Li x d 3)],true⟩
theorem WY (x d:List Int) {j:Nat} (hj:j<4):Ij (Ii x d) j=Li x d j:=by
 unfold Ij
 rw [yV (ASL x d) (by rw [zM];omega),ASM]
theorem ASN {o n m n' m':Nat} {xs ds:List Int} (h1:o+n≤xs.length) (h2:n'≤ds.length) (hn:n≤4398046511104) (hn1:1≤n') (hn':n'≤255) (hm:n'≤m') :
  AY Tryz.prog 202 [AK 0 o n m,AK 1 0 n' m',.val false [.n .i64 2]] (D5 xs ds) 2 [] (.tup [(false,[.sx 13 2 12]),(false,[.n .i64 0])]) [(13,some (eV (AA xs o n) (AA ds 0 n')))]:=by
 refine Ax (path:=[true,false,false,true,false,true,false]) Tryz.func202 (by kernel_rfl) (by kernel_rfl) fun β0 w0 hb=>?_
 have lZ:(G3 o n n' xs ds).length=256:=zM _ _
 have b64:∀ k,k≤256→Nat.ble k (G3 o n n' xs ds).length=true:=fun k hk=>Nat.ble_eq_true_of_le (by rw [lZ];exact hk)
 have:=Aw (P:=Tryz.prog) (n:=fdsF.ntmps) (β0:=β0) (w0:=w0) (W:=[]) ASH AE Tryz.func202 (ASK o n m n' m' xs ds) ⟨Nat.ble_eq_true_of_le h1,Nat.ble_eq_true_of_le h2,Nat.ble_eq_true_of_le hn,Nat.ble_eq_true_of_le hn1,Nat.ble_eq_true_of_le hn',Nat.ble_eq_true_of_le hm,Ab 4 ⟨b64 64 (by decide),Ab 5 ⟨rfl,b64 128 (by decide),Ab 5 ⟨rfl,Ab 4 ⟨b64 192 (by decide),Ab 5 ⟨rfl,b64 256 (by decide),Ab 7 ⟨rfl,trivial⟩⟩⟩⟩⟩⟩⟩ (AR (by kernel_rfl)) hb (fun _ h=>by cases h)
 have e:zL 13 (Ij (G3 o n n' xs ds) 0) (Ij (G3 o n n' xs ds) 1) (Ij (G3 o n n' xs ds) 2) (Ij (G3 o n n' xs ds) 3)=[(13,some (eV (AA xs o n) (AA ds 0 n')))]:=by
  unfold G3
  rw [WY _ _ (by decide),WY _ _ (by decide),WY _ _ (by decide),WY _ _ (by decide)]
  rfl
 rw [e] at this
 exact this
noncomputable def eW (c:Int) (v:AV) (K nw:Nat) (g:List Int→List Int→Blk):ASpec:=fun args H fr path=>match args with
 | [S,T,.val false [.n .i64 z]]=>match decide (z=c) with
  | true=>match Br S,IX T with
   | some (k,o,n),some (t,n',m')=>match AB H k,AB H t with
    | some ⟨_,cs,_⟩,some ⟨_,es,_⟩=>match Ak .u8 cs,Ak .u8 es with
     | some xs,some ds=>some (Az [k,t] 2 fr nw [] v [(K,some (g (AA xs o n) (AA ds 0 n')))] [(Nat.ble (o+n) xs.length,true),(Nat.ble n' ds.length,true),(Nat.ble n 4398046511104,true),(Nat.ble 1 n',true),(Nat.ble n' 255,true),(Nat.ble n' m',true)] path)
     | _,_=>none
    | _,_=>none
   | _,_=>none
  | false=>none
 | _=>none
theorem ASO {c:Int} {F:FuncId} {fn:Func} {v:AV} {K nw:Nat} {g:List Int→List Int→Blk} (hfn:Tryz.prog.funcs[F]? = some fn) (hb:fn.body.isSome=true) (hname:(fn.name=="runtime.NumGoroutine")=false) (hk:∀ l d,Ct 2 nw [] v [(K,some (g l d))]=true)
  (h:∀ {o n m n' m':Nat} {xs ds:List Int},(∀ d∈xs,0≤d∧d<256)→(∀ d∈ds,0≤d∧d<256)→o+n≤xs.length→n'≤ds.length→n≤4398046511104→1≤n'→n'≤255→n'≤m'→AY Tryz.prog F [AK 0 o n m,AK 1 0 n' m',.val false [.n .i64 c]] (D5 xs ds) 2 [] v [(K,some (g (AA xs o n) (AA ds 0 n')))]):A6 Tryz.prog F (eW c v K nw g):=by
 refine CJ hfn hb hname fun args H fr path r hs=>?_
 unfold eW at hs
 split at hs
 case h_2=>cases hs
 rename_i S T z
 split at hs
 case h_2=>cases hs
 rename_i hz
 obtain rfl:z=c:=of_decide_eq_true hz
 split at hs
 case h_2=>cases hs
 rename_i k o n t n' m' hS hT
 split at hs
 case h_2=>cases hs
 rename_i ty cs op ty' es op' hk' ht'
 split at hs
 case h_2=>cases hs
 rename_i xs ds hx hd
 injection hs with hs
 refine ⟨[k,t],2,nw,[],_,_,_,path,hs.symm,fun β us w ha hg hc=>?_⟩
 obtain ⟨u1,us1,r1,⟨u2,us2,r2,⟨u3,us3,r3,ha,rfl⟩,rfl⟩,rfl⟩:=ha
 obtain ⟨c1,c2,c3,c4,c5,c6,_⟩:=hc
 obtain ⟨m,r1⟩:=Dj hS r1
 obtain ⟨m2,hm2,r2⟩:=IY hT (Nat.le_of_ble_eq_true c6) r2
 obtain ⟨g1,_,_⟩:=Cx hg hk' hx
 obtain ⟨g2,_,_⟩:=Cx hg ht' hd
 refine ⟨_,_,h (o:=o) (n:=n) (m:=m) (n':=n') (m':=m2) g1 g2 (Nat.le_of_ble_eq_true c1) (Nat.le_of_ble_eq_true c2) (Nat.le_of_ble_eq_true c3) (Nat.le_of_ble_eq_true c4) (Nat.le_of_ble_eq_true c5) hm2,hk _ _,⟨u1,_,BW (by omega) rfl r1,⟨u2,_,BW (by omega) rfl r2,⟨u3,_,HE rfl r3,ha,rfl⟩,rfl⟩,rfl⟩,If (bs:=[AU [.seq .u8 xs],AU [.seq .u8 ds]]) hg fun j d hj=>?_,fun j hj=>?_⟩
 ·match j,hj with
  | 0,hj=>injection hj with hj;subst hj;exact ⟨rfl,DE hg hk' hx (by show 0<2;decide) rfl⟩
  | 1,hj=>injection hj with hj;subst hj;exact ⟨rfl,DE hg ht' hd (by show 1<2;decide) rfl⟩
 ·match j,hj with
  | 0,_=>exact BH (hg.heap _ _ hk')
  | 1,_=>exact BH (hg.heap _ _ ht')
def fdV (K:Nat):AV:=.tup [(false,[.sx K 2 12]),(false,[.n .i64 0])]
noncomputable def SCc:List (FuncId×ASpec):=[(202,eW 2 (fdV 13) 13 12 eV)]
theorem ASQ:AM Tryz.prog SCc:=⟨ASO Tryz.func202 (by kernel_rfl) (by kernel_rfl) (fun _ _=>rfl) fun _ _ h1 h2 h3 h4 h5 h6=>ASN h1 h2 h3 h4 h5 h6,trivial⟩
section
variable (xs ds tg:List Int) (L:Nat) (f g:Nat→Int) (ys:List Int) (M:Nat) (i:Int)
end
section
variable (o n m n' m':Nat) (xs ds:List Int)
end
section
variable (o n m n' m':Nat) (xs ds:List Int)
end
noncomputable def SCe:List (FuncId×ASpec):=SCc
theorem ASR:AM Tryz.prog SCe:=ASQ
end Go.Proofs.YtojnabmgolpodaaGreat
namespace Go.Proofs.YtojnabmgolpodaaGreat
open Ex Num Rg
open Sh (R av rd mo en mo_en)
set_option maxRecDepth 100000
set_option maxHeartbeats 4000000
noncomputable def SCf0:List (FuncId×ASpec):=(136,As (Dl FP2 fun r=>DB (B6 (mo r))))::(SVg++(SQt++SQg))
theorem zQ:AM Tryz.prog SCf0:=⟨Av Tryz.func136 (by kernel_rfl) (by kernel_rfl) (EH uN),Jy wP (Jy vE vD)⟩
noncomputable abbrev oCf0:Orc:=AJ SCf0 KV
theorem WZ:OrcOk Tryz.prog oCf0:=AN zQ BR
noncomputable def SCf1:List (FuncId×ASpec):=(311,C0 Tryz.prog oCf0 Tryz.f311 3000)::(314,C0 Tryz.prog oCf0 Tryz.f314 100)::(313,C0 Tryz.prog oCf0 Tryz.f313 100)::(312,C0 Tryz.prog oCf0 Tryz.f312 100)::SCf0
theorem fA:AM Tryz.prog SCf1:=⟨DG WZ AE Tryz.func311 (by kernel_rfl) (by kernel_rfl) 3000,DG WZ AE Tryz.func314 (by kernel_rfl) (by kernel_rfl) 100,DG WZ AE Tryz.func313 (by kernel_rfl) (by kernel_rfl) 100,DG WZ AE Tryz.func312 (by kernel_rfl) (by kernel_rfl) 100,zQ⟩
noncomputable abbrev oCf1:Orc:=AJ SCf1 KV
theorem ASS:OrcOk Tryz.prog oCf1:=AN fA BR
noncomputable section
def aR:R FP2:=((0:Nat),(240:Nat))
def bR:R FP2:=((1012:Nat),(1012:Nat))
def zR:R FP2:=ng FP2 ((2:Nat),(1:Nat))
def oR:R FP2:=((1:Nat),(0:Nat))
def DZ:R FP2:=((0:Nat),(0:Nat))
def aF:FP2:=mo aR
def bF:FP2:=mo bR
def zF:FP2:=mo zR
theorem zS:(mo oR:FP2)=1:=Qx.ext F1 rfl
theorem fC:(mo DZ:FP2)=0:=rfl
def By (x:FP2):FP2:=x*x*x+aF*x+bF
def fD (r:R FP2):R FP2:=ad FP2 (mu FP2 (ad FP2 (mu FP2 (ad FP2 (mu FP2 (ad FP2 (mu FP2 DZ r) oR) r) DZ) r) aR) r) bR
theorem AST (r:R FP2):AX Tryz.prog oCf1 Tryz.f316 [va FP2 r] [true,true,true,true,false] 300=some (tt 9 ((false,false)::[]),va FP2 (fD r)):=by kernel_rfl
theorem ASU (x a b:FP2):(((0*x+1)*x+0)*x+a)*x+b=x*x*x+a*x+b:=ring [x,a,b] (a:=(((0*x+1)*x+0)*x+a)*x+b) (b:=x*x*x+a*x+b) (by kernel_rfl)
theorem ASV (r:R FP2):fD r=en (By (mo r)):=by
 simp only [fD,ad,mu,mo_en,zS,fC]
 exact congrArg en (ASU _ _ _)
def SCf2:List (FuncId×ASpec):=(316,As (Dl FP2 fun r=>va FP2 (en (By (mo r)))))::SCf1
theorem zT:AM Tryz.prog SCf2:=⟨Av Tryz.func316 (by kernel_rfl) (by kernel_rfl) (EH fun r=>by rw [← ASV];exact Ac ASS AE Tryz.func316 (AST r) (Ab 9 ⟨rfl,trivial⟩) rfl),fA⟩
abbrev oCf2:Orc:=AJ SCf2 KV
theorem ASW:OrcOk Tryz.prog oCf2:=AN zT BR
def SCf3:List (FuncId×ASpec):=(315,C0 Tryz.prog oCf2 Tryz.f315 300)::SCf2
theorem ASX:AM Tryz.prog SCf3:=⟨DG ASW AE Tryz.func315 (by kernel_rfl) (by kernel_rfl) 300,zT⟩
abbrev oCf3:Orc:=AJ SCf3 KV
theorem zU:OrcOk Tryz.prog oCf3:=AN ASX BR
def wR (r:R FP2):R FP2:=mu FP2 zR (mu FP2 r r)
def tR (r:R FP2):R FP2:=ad FP2 (mu FP2 (wR r) (wR r)) (wR r)
def Ik (r:R FP2):Bool→R FP2
 | true=>mu FP2 bR (iv FP2 (mu FP2 zR aR))
 | false=>mu FP2 (ng FP2 (mu FP2 bR (iv FP2 aR))) (ad FP2 oR (iv FP2 (tR r)))
def R0 (r:R FP2) (b:Bool):R FP2:=mu FP2 (wR r) (Ik r b)
def NT (x:R FP2):R FP2:=en (DT (mo (en (By (mo x)):R FP2)))
def Wb (x:R FP2):Bool:=Bw (mo (en (By (mo x)):R FP2))
def R1 (r y:R FP2):Bool:=!decide (B6 (mo y)=B6 (mo r))
def Wd (y:R FP2):Bool→R FP2
 | true=>ng FP2 y
 | false=>y
def We (x y:R FP2):AV:=.tup [(true,av x),(true,av y)]
end
theorem ASY (r:R FP2):∀ b c:Bool,AX Tryz.prog oCf3 Tryz.f261 [va FP2 r] [b,c,true] 300=some ([(CO (tR r) DZ,b),(R1 r (NT (Ik r b)),c),(Wb (Ik r b),true)],We (Ik r b) (Wd (NT (Ik r b)) c))
 | true,true=>by kernel_rfl
 | true,false=>by kernel_rfl
 | false,true=>by kernel_rfl
 | false,false=>by kernel_rfl
theorem ASZ (r:R FP2):∀ b c d:Bool,AX Tryz.prog oCf3 Tryz.f261 [va FP2 r] [b,c,false,d] 300=some ([(CO (tR r) DZ,b),(R1 r (NT (Ik r b)),c),(Wb (Ik r b),false),(R1 r (NT (R0 r b)),d)],We (R0 r b) (Wd (NT (R0 r b)) d))
 | true,true,true=>by kernel_rfl
 | true,false,true=>by kernel_rfl
 | false,true,true=>by kernel_rfl
 | false,false,true=>by kernel_rfl
 | true,true,false=>by kernel_rfl
 | true,false,false=>by kernel_rfl
 | false,true,false=>by kernel_rfl
 | false,false,false=>by kernel_rfl
noncomputable section
def wF (u:FP2):FP2:=zF*(u*u)
def tF (u:FP2):FP2:=wF u*wF u+wF u
def NU (u:FP2):Bool→FP2
 | true=>bF*FD.inv (zF*aF)
 | false=>-(bF*FD.inv aF)*(1+FD.inv (tF u))
def G4 (u:FP2):Bool:=decide (tF u=0)
def FU (u:FP2):FP2:=NU u (G4 u)
def GK (u:FP2):FP2:=match Bw (By (FU u)) with
 | true=>FU u
 | false=>wF u*FU u
def Wf (u y:FP2):FP2:=match (!decide (B6 y=B6 u)) with
 | true=>-y
 | false=>y
def NV (u:FP2):FP2:=Wf u (DT (By (GK u)))
theorem ASa (r:R FP2):tR r=en (tF (mo r)):=by simp only [tR,wR,ad,mu,mo_en];rfl
theorem zV (r:R FP2):CO (tR r) DZ=G4 (mo r):=by rw [ASa,show DZ=en (0:FP2) from rfl,Ot];rfl
theorem zW (r:R FP2):∀ b,Ik r b=en (NU (mo r) b)
 | true=>by simp only [Ik,iv,mu,mo_en];rfl
 | false=>by simp only [Ik,tR,wR,iv,ad,ng,mu,mo_en,zS];rfl
theorem ASb (r:R FP2) (b:Bool):R0 r b=en (wF (mo r)*NU (mo r) b):=by unfold R0;rw [zW];simp only [wR,mu,mo_en];rfl
theorem R2 (x:FP2):NT (en x)=en (DT (By x)):=by unfold NT;rw [mo_en,mo_en]
theorem zX (x:FP2):Wb (en x)=Bw (By x):=by unfold Wb;rw [mo_en,mo_en]
theorem fE (r:R FP2) (y:FP2):R1 r (en y)=!decide (B6 y=B6 (mo r)):=by unfold R1;rw [mo_en]
theorem zY (r:R FP2) (y:FP2):Wd (en y) (!decide (B6 y=B6 (mo r)))=en (Wf (mo r) y):=by
 unfold Wf Wd
 cases (!decide (B6 y=B6 (mo r))) with
 | true=>exact (show ng FP2 (en y)=en (-y) by unfold ng;rw [mo_en])
 | false=>rfl
def Wg (u:FP2):AV:=We (en (GK u)) (en (NV u))
theorem ASc (r:R FP2):AW Tryz.prog 261 [va FP2 r] (Wg (mo r)):=by
 have e1:=zW r (G4 (mo r))
 have e2:=ASb r (G4 (mo r))
 unfold Wg NV GK FU
 cases hi:Bw (By (NU (mo r) (G4 (mo r)))) with
 | true =>
  have h:=Ac zU AE Tryz.func261 (ASY r (G4 (mo r)) (!decide (B6 (DT (By (NU (mo r) (G4 (mo r)))))=B6 (mo r)))) ⟨zV r,by rw [e1,R2,fE],by rw [e1,zX];exact hi,trivial⟩ rfl
  rw [e1,R2,zY] at h
  exact h
 | false =>
  have h:=Ac zU AE Tryz.func261 (ASZ r (G4 (mo r)) (!decide (B6 (DT (By (NU (mo r) (G4 (mo r)))))=B6 (mo r))) (!decide (B6 (DT (By (wF (mo r)*NU (mo r) (G4 (mo r)))))=B6 (mo r)))) ⟨zV r,by rw [e1,R2,fE],by rw [e1,zX];exact hi,by rw [e2,R2,fE],trivial⟩ rfl
  rw [e2,R2,zY] at h
  exact h
theorem zZ:∃ f:FP2→FP2×FP2,∀ u,f u=(GK u,NV u):=⟨_,fun _=>rfl⟩
def Hk:FP2→FP2×FP2:=Classical.choose zZ
theorem z4 (u:FP2):Hk u=(GK u,NV u):=Classical.choose_spec zZ u
def fF (u:FP2):AV:=We (en (Hk u).1) (en (Hk u).2)
theorem ASd (u:FP2):fF u=Wg u:=by unfold fF Wg;rw [z4]
def SCf:List (FuncId×ASpec):=(261,As (Dl FP2 fun r=>fF (mo r)))::SCf1
theorem z5:AM Tryz.prog SCf:=⟨Av Tryz.func261 (by kernel_rfl) (by kernel_rfl) (EH fun r=>by rw [ASd];exact ASc r),fA⟩
end
noncomputable section
def SCg0:List (FuncId×ASpec):=SCf
theorem ASe:AM Tryz.prog SCg0:=z5
def SCg1:List (FuncId×ASpec):=SCg0
theorem ASf:AM Tryz.prog SCg1:=ASe
abbrev oCg1:Orc:=AJ SCg1 KV
theorem fG:OrcOk Tryz.prog oCg1:=AN ASf BR
def fH:R FP2:=((0:Nat),(4002409555221667393417789825735904156556882819939007885332058136124031650490837864442687629129015664037894272559715:Nat))
def fI:R FP2:=((12:Nat),(4002409555221667393417789825735904156556882819939007885332058136124031650490837864442687629129015664037894272559775:Nat))
def fJ:R FP2:=((1:Nat),(0:Nat))
def fK:R FP2:=((4002409555221667393417789825735904156556882819939007885332058136124031650490837864442687629129015664037894272559355:Nat),(4002409555221667393417789825735904156556882819939007885332058136124031650490837864442687629129015664037894272559355:Nat))
def fL:R FP2:=((0:Nat),(4002409555221667393417789825735904156556882819939007885332058136124031650490837864442687629129015664037894272559571:Nat))
def fM:R FP2:=((18:Nat),(4002409555221667393417789825735904156556882819939007885332058136124031650490837864442687629129015664037894272559769:Nat))
def fN:R FP2:=((1:Nat),(0:Nat))
def fO:R FP2:=((889424345604814976315064405719089812568196182208668418962679585805340366775741747653930584250892369786198727235542:Nat),(889424345604814976315064405719089812568196182208668418962679585805340366775741747653930584250892369786198727235542:Nat))
def fP:R FP2:=((0:Nat),(2668273036814444928945193217157269437704588546626005256888038757416021100327225242961791752752677109358596181706522:Nat))
def fQ:R FP2:=((2668273036814444928945193217157269437704588546626005256888038757416021100327225242961791752752677109358596181706526:Nat),(1334136518407222464472596608578634718852294273313002628444019378708010550163612621480895876376338554679298090853261:Nat))
def fR:R FP2:=((3557697382419259905260257622876359250272784728834673675850718343221361467102966990615722337003569479144794908942033:Nat),(0:Nat))
def fS:R FP2:=((3261222600550988246488569487636662646083386001431784202863158481286248011511053074731078808919938689216061999863558:Nat),(3261222600550988246488569487636662646083386001431784202863158481286248011511053074731078808919938689216061999863558:Nat))
def fT:R FP2:=((0:Nat),(889424345604814976315064405719089812568196182208668418962679585805340366775741747653930584250892369786198727235518:Nat))
def fU:R FP2:=((2668273036814444928945193217157269437704588546626005256888038757416021100327225242961791752752677109358596181706524:Nat),(1334136518407222464472596608578634718852294273313002628444019378708010550163612621480895876376338554679298090853263:Nat))
def fV:R FP2:=((2816510427748580758331037284777117739799287910327449993381818688383577828123182200904113516794492504322962636245776:Nat),(0:Nat))
def R3 (r a b c d:R FP2):R FP2:=ad FP2 (mu FP2 (ad FP2 (mu FP2 (ad FP2 (mu FP2 (ad FP2 (mu FP2 DZ r) d) r) c) r) b) r) a
def z7 (r a b c:R FP2):R FP2:=ad FP2 (mu FP2 (ad FP2 (mu FP2 (ad FP2 (mu FP2 DZ r) c) r) b) r) a
def PH (r:R FP2) (p2:R FP2):R FP2:=mu FP2 (R3 r fO fP fQ fR) (iv FP2 p2)
def PI (r s:R FP2) (p4:R FP2):R FP2:=mu FP2 s (mu FP2 (R3 r fS fT fU fV) (iv FP2 p4))
def PJ (x y:R FP2):AV:=.val true (CD (av x) (CD (av y) [.b false]))
def PK (r:R FP2):R FP2:=z7 r fH fI fJ
def R5 (r:R FP2):R FP2:=R3 r fK fL fM fN
end
section
variable (r s:R FP2)
theorem ASg:AX Tryz.prog oCg1 Tryz.f260 [va FP2 r,va FP2 s] [true,true,true,false,true,true,true,true,false,true] 600=some (tt 7 ((false,false)::tt 9 ((false,false)::(CO (PK r) DZ,true)::[])),.val true (CV true)):=by kernel_rfl
theorem ASh:AX Tryz.prog oCg1 Tryz.f260 [va FP2 r,va FP2 s] [true,true,true,false,true,true,true,true,false,false,true] 600=some (tt 7 ((false,false)::tt 9 ((false,false)::(CO (PK r) DZ,false)::(CO (R5 r) DZ,true)::[])),.val true (CV true)):=by kernel_rfl
theorem ASi:AX Tryz.prog oCg1 Tryz.f260 [va FP2 r,va FP2 s] [true,true,true,false,true,true,true,true,false,false,false,true,true,true,true,false,true,true,true,true,false] 600=some (tt 7 ((false,false)::tt 9 ((false,false)::(CO (PK r) DZ,false)::(CO (R5 r) DZ,false)::tt 9 ((false,false)::tt 9 ((false,false)::[])))),PJ (PH r (PK r)) (PI r s (R5 r))):=by kernel_rfl
end
noncomputable section
def NW (x a b c d:FP2):FP2:=(((0*x+d)*x+c)*x+b)*x+a
def DM (k:Nat) (x:FP2):FP2:=match k with
 | 1=>NW x (mo fO) (mo fP) (mo fQ) (mo fR)
 | 2=>NW x (mo fH) (mo fI) (mo fJ) 0
 | 3=>NW x (mo fS) (mo fT) (mo fU) (mo fV)
 | _=>NW x (mo fK) (mo fL) (mo fM) (mo fN)
def R6 (p1 p2 p3 p4 y:FP2):P2:=match decide (p2=0) with
 | true=>.inf
 | false=>match decide (p4=0) with
  | true=>.inf
  | false=>.pt (p1*FD.inv p2) (y*(p3*FD.inv p4))
def NX (x y:FP2):P2:=R6 (DM 1 x) (DM 2 x) (DM 3 x) (DM 4 x) y
theorem fW (r a b c d:R FP2):R3 r a b c d=en (NW (mo r) (mo a) (mo b) (mo c) (mo d)):=by simp only [R3,ad,mu,mo_en,fC];rfl
theorem ASj (x a b c:FP2):((0*x+c)*x+b)*x+a=NW x a b c 0:=ring [x,a,b,c] (a:=((0*x+c)*x+b)*x+a) (b:=(((0*x+0)*x+c)*x+b)*x+a) (by kernel_rfl)
theorem ASk (r:R FP2):PK r=en (DM 2 (mo r)):=by
 simp only [PK,z7,ad,mu,mo_en,fC]
 exact congrArg en (ASj _ _ _ _)
theorem ASl (r:R FP2):R5 r=en (DM 4 (mo r)):=by unfold R5;rw [fW];rfl
theorem ASm (r:R FP2) (p:FP2):PH r (en p)=en (DM 1 (mo r)*FD.inv p):=by unfold PH iv mu;rw [fW,mo_en,mo_en,mo_en];rfl
theorem ASn (r s:R FP2) (p:FP2):PI r s (en p)=en (mo s*(DM 3 (mo r)*FD.inv p)):=by unfold PI iv mu;rw [fW,mo_en,mo_en,mo_en,mo_en];rfl
theorem ASo:DZ=en (0:FP2):=rfl
theorem ASp {F:FuncId} {args:List AV} (X Y:FP2) (h:AW Tryz.prog F args (PJ (en X) (en Y))):AW Tryz.prog F args (ve (.pt X Y:P2)):=FL (α:=P2) (r:=(en (.pt X Y:P2):R P2)) h (by kernel_rfl)
theorem ASq {F:FuncId} {r s:R FP2} {p1 p2 p3 p4:FP2}
  (h1:decide (p2=0)=true→AW Tryz.prog F [va FP2 r,va FP2 s] (.val true (CV true))) (h2:decide (p2=0)=false→decide (p4=0)=true→AW Tryz.prog F [va FP2 r,va FP2 s] (.val true (CV true)))
  (h3:decide (p2=0)=false→decide (p4=0)=false→AW Tryz.prog F [va FP2 r,va FP2 s] (PJ (en (p1*FD.inv p2)) (en (mo s*(p3*FD.inv p4))))):AW Tryz.prog F [va FP2 r,va FP2 s] (ve (R6 p1 p2 p3 p4 (mo s))):=by
 have z:AW Tryz.prog F [va FP2 r,va FP2 s] (.val true (CV true))→AW Tryz.prog F [va FP2 r,va FP2 s] (ve (.inf:P2)):=fun h=>FL (α:=P2) (r:=(en (.inf:P2):R P2)) h (by kernel_rfl)
 unfold R6
 cases q2:decide (p2=0) with
 | true=>exact z (h1 q2)
 | false =>
  cases q4:decide (p4=0) with
  | true=>exact z (h2 q2 q4)
  | false=>exact ASp _ _ (h3 q2 q4)
theorem z8 {p:R FP2} {x:FP2} (e:p=en x):CO p DZ=decide (x=0):=by rw [e,ASo,Ot]
theorem ASr {x y x' y':R FP2} (e1:x=x') (e2:y=y'):PJ x y=PJ x' y':=by rw [e1,e2]
theorem ASs {F:FuncId} {r s:R FP2} {p2 p4:R FP2} (e2:p2=en (DM 2 (mo r))) (e4:p4=en (DM 4 (mo r)))
  (h1:CO p2 DZ=true→AW Tryz.prog F [va FP2 r,va FP2 s] (.val true (CV true))) (h2:CO p2 DZ=false→CO p4 DZ=true→AW Tryz.prog F [va FP2 r,va FP2 s] (.val true (CV true)))
  (h3:CO p2 DZ=false→CO p4 DZ=false→AW Tryz.prog F [va FP2 r,va FP2 s] (PJ (PH r p2) (PI r s p4))):AW Tryz.prog F [va FP2 r,va FP2 s] (ve (NX (mo r) (mo s))):=by
 have f2:=z8 e2
 have f4:=z8 e4
 have ex:PH r p2=en (DM 1 (mo r)*FD.inv (DM 2 (mo r))):=(congrArg (PH r) e2).trans (ASm r _)
 have ey:PI r s p4=en (mo s*(DM 3 (mo r)*FD.inv (DM 4 (mo r)))):=(congrArg (PI r s) e4).trans (ASn r s _)
 unfold NX
 generalize DM 1 (mo r)=q1 at *
 generalize DM 2 (mo r)=q2 at *
 generalize DM 3 (mo r)=q3 at *
 generalize DM 4 (mo r)=q4 at *
 exact ASq (fun h=>h1 (f2.trans h)) (fun h h'=>h2 (f2.trans h) (f4.trans h')) fun h h'=>(ASr ex ey)▸h3 (f2.trans h) (f4.trans h')
theorem ASu (r s:R FP2):AW Tryz.prog 260 [va FP2 r,va FP2 s] (ve (NX (mo r) (mo s))) :=
 ASs (ASk r) (ASl r) (fun h=>Ac fG AE Tryz.func260 (ASg r s) (Ab 7 ⟨rfl,Ab 9 ⟨rfl,h,trivial⟩⟩) rfl) (fun h h'=>Ac fG AE Tryz.func260 (ASh r s) (Ab 7 ⟨rfl,Ab 9 ⟨rfl,h,h',trivial⟩⟩) rfl)
  fun h h'=>Ac fG AE Tryz.func260 (ASi r s) (Ab 7 ⟨rfl,Ab 9 ⟨rfl,h,h',Ab 9 ⟨rfl,Ab 9 ⟨rfl,trivial⟩⟩⟩⟩) rfl
theorem z9:∃ f:FP2→FP2→P2,∀ x y,f x y=NX x y:=⟨_,fun _ _=>rfl⟩
def PM:FP2→FP2→P2:=Classical.choose z9
theorem AAA (x y:FP2):PM x y=NX x y:=Classical.choose_spec z9 x y
def SCg:List (FuncId×ASpec):=(260,As (GZ FP2 FP2 fun r s=>ve (PM (mo r) (mo s))))::SCf
theorem AAB:AM Tryz.prog SCg:=⟨Av Tryz.func260 (by kernel_rfl) (by kernel_rfl) (IR fun r s=>by rw [AAA];exact ASu r s),z5⟩
abbrev oCg:Orc:=AJ SCg KV
theorem ASv:OrcOk Tryz.prog oCg:=AN AAB BR
end
noncomputable section
def hcL:List Int:=[16717924791090763089,6451771550755190452,16813287336095381155,3368952460600638490,7891079509683868336,3646841576362204053,11062809923385098209,9863631852917151592,6362576984766887208,848540440590185907]
theorem AAC:∃ n,n=AL hcL:=⟨_,rfl⟩
def Lj:Nat:=Classical.choose AAC
theorem AAD:Lj=AL hcL:=Classical.choose_spec AAC
theorem ASw (r:R P2):AX Tryz.prog oCg Tryz.f262 [va P2 r] [] 300=some ([(true,true),(true,true)],M2 (C5 (AL hcL) (mo r)) (IU (mo r))):=by kernel_rfl
def SCi0:List (FuncId×ASpec):=(262,As (Dl P2 fun r=>M2 (C5 Lj (mo r)) (IU (mo r))))::SCg
theorem AAE:AM Tryz.prog SCi0:=⟨Av Tryz.func262 (by kernel_rfl) (by kernel_rfl) (EH fun r=>by rw [AAD];exact Ac ASv AE Tryz.func262 (ASw r) ⟨rfl,rfl,trivial⟩ rfl),AAB⟩
abbrev oCi0:Orc:=AJ SCi0 KV
theorem ASx:OrcOk Tryz.prog oCi0:=AN AAE BR
def SCi1:List (FuncId×ASpec):=(259,C0 Tryz.prog oCi0 Tryz.f259 300)::SCi0
theorem ASy:AM Tryz.prog SCi1:=⟨DG ASx AE Tryz.func259 (by kernel_rfl) (by kernel_rfl) 300,AAE⟩
abbrev oCi1:Orc:=AJ SCi1 KV
theorem ASz:OrcOk Tryz.prog oCi1:=AN ASy BR
def fX (r:R FP2):P2:=PM (mo (en (Hk (mo r)).1:R FP2)) (mo (en (Hk (mo r)).2:R FP2))
def Wh (r s:R FP2):P2:=C5 Lj (mo (en (Rg.add (mo (en (fX r):R P2):P2) (mo (en (fX s):R P2))):R P2))
theorem AS0 (r s:R FP2):AX Tryz.prog oCi1 Tryz.f203 [va FP2 r,va FP2 s] [] 300=some ([],ve (Wh r s)):=by kernel_rfl
def Wi (u v:FP2):P2:=C5 Lj (Rg.add (PM (Hk u).1 (Hk u).2) (PM (Hk v).1 (Hk v).2))
theorem AS1 (r s:R FP2):Wh r s=Wi (mo r) (mo s):=by unfold Wh fX Wi;simp only [mo_en]
theorem AAF:∃ f:FP2→FP2→P2,∀ x y,f x y=Wi x y:=⟨_,fun _ _=>rfl⟩
def PN:FP2→FP2→P2:=Classical.choose AAF
theorem AAG (x y:FP2):PN x y=Wi x y:=Classical.choose_spec AAF x y
theorem AS2 (r s:R FP2):ve (PN (mo r) (mo s))=ve (Wh r s):=by rw [AAG,AS1]
def SCi2:List (FuncId×ASpec):=(203,As (GZ FP2 FP2 fun r s=>ve (PN (mo r) (mo s))))::SCe
theorem AS3:AM Tryz.prog SCi2:=⟨Av Tryz.func203 (by kernel_rfl) (by kernel_rfl) (IR fun r s=>by rw [AS2];exact Ac ASz AE Tryz.func203 (AS0 r s) trivial rfl),ASR⟩
abbrev AAH:Orc:=AJ SCi2 KV
end
noncomputable def fY (g:List Int→List Int→AV):ASpec:=fun args H fr path=>match args with
 | [S,T]=>match Br S,IX T with
  | some (k,o,n),some (t,n',m')=>match AB H k,AB H t with
   | some ⟨_,cs,_⟩,some ⟨_,es,_⟩=>match Ak .u8 cs,Ak .u8 es with
    | some xs,some ds=>some (Az [k,t] 2 fr 0 [] (g (AA xs o n) (AA ds 0 n')) [] [(Nat.ble (o+n) xs.length,true),(Nat.ble n' ds.length,true),(Nat.ble n 4398046511104,true),(Nat.ble 1 n',true),(Nat.ble n' 255,true),(Nat.ble n' m',true)] path)
    | _,_=>none
   | _,_=>none
  | _,_=>none
 | _=>none
theorem AS4 {F:FuncId} {fn:Func} {g:List Int→List Int→AV} (hfn:Tryz.prog.funcs[F]? = some fn) (hb:fn.body.isSome=true) (hname:(fn.name=="runtime.NumGoroutine")=false) (hk:∀ l d,Ct 2 0 [] (g l d) []=true)
  (h:∀ {o n m n' m':Nat} {xs ds:List Int},(∀ d∈xs,0≤d∧d<256)→(∀ d∈ds,0≤d∧d<256)→o+n≤xs.length→n'≤ds.length→n≤4398046511104→1≤n'→n'≤255→n'≤m'→AY Tryz.prog F [AK 0 o n m,AK 1 0 n' m'] (D5 xs ds) 2 [] (g (AA xs o n) (AA ds 0 n')) []):A6 Tryz.prog F (fY g):=by
 refine CJ hfn hb hname fun args H fr path r hs=>?_
 unfold fY at hs
 split at hs
 case h_2=>cases hs
 rename_i S T
 split at hs
 case h_2=>cases hs
 rename_i k o n t n' m' hS hT
 split at hs
 case h_2=>cases hs
 rename_i ty cs op ty' es op' hk' ht'
 split at hs
 case h_2=>cases hs
 rename_i xs ds hx hd
 injection hs with hs
 refine ⟨[k,t],2,0,[],_,_,_,path,hs.symm,fun β us w ha hg hc=>?_⟩
 obtain ⟨u1,us1,r1,⟨u2,us2,r2,ha,rfl⟩,rfl⟩:=ha
 obtain ⟨c1,c2,c3,c4,c5,c6,_⟩:=hc
 obtain ⟨m,r1⟩:=Dj hS r1
 obtain ⟨m2,hm2,r2⟩:=IY hT (Nat.le_of_ble_eq_true c6) r2
 obtain ⟨g1,_,_⟩:=Cx hg hk' hx
 obtain ⟨g2,_,_⟩:=Cx hg ht' hd
 refine ⟨_,_,h (o:=o) (n:=n) (m:=m) (n':=n') (m':=m2) g1 g2 (Nat.le_of_ble_eq_true c1) (Nat.le_of_ble_eq_true c2) (Nat.le_of_ble_eq_true c3) (Nat.le_of_ble_eq_true c4) (Nat.le_of_ble_eq_true c5) hm2,hk _ _,⟨u1,_,BW (by omega) rfl r1,⟨u2,_,BW (by omega) rfl r2,ha,rfl⟩,rfl⟩,If (bs:=[AU [.seq .u8 xs],AU [.seq .u8 ds]]) hg fun j d hj=>?_,fun j hj=>?_⟩
 ·match j,hj with
  | 0,hj=>injection hj with hj;subst hj;exact ⟨rfl,DE hg hk' hx (by show 0<2;decide) rfl⟩
  | 1,hj=>injection hj with hj;subst hj;exact ⟨rfl,DE hg ht' hd (by show 1<2;decide) rfl⟩
 ·match j,hj with
  | 0,_=>exact BH (hg.heap _ _ hk')
  | 1,_=>exact BH (hg.heap _ _ ht')
noncomputable section
def fZ (f:Func) (o n m n' m':Nat) (xs ds:List Int):ASt:=Ah f [AK 0 o n m,AK 1 0 n' m'] (D5 xs ds) 2 []
def fdR (x d:List Int) (j:Nat):R FP2:=(Li x d j,Li x d (j+1))
def Wj (x d:List Int):P2:=PN (mo (fdR x d 0)) (mo (fdR x d 2))
def hsC (o n n' m':Nat) (xs ds:List Int):List (Bool×Bool):=(Nat.ble (o+n) xs.length,true)::(Nat.ble n' ds.length,true)::(Nat.ble n 4398046511104,true)::(Nat.ble 1 n',true)::(Nat.ble n' 255,true)::(Nat.ble n' m',true)::tt 2 []
def Wk (p:P2):AV:=.tup [(true,av (en p:R P2)),(false,[.n .i64 0])]
section
variable (o n m n' m':Nat) (xs ds:List Int)
theorem AS5:AQ Tryz.prog AAH Tryz.f149 300 2 [] (fZ Tryz.f149 o n m n' m' xs ds)=some (hsC o n n' m' xs ds,[],Wk (Wj (AA xs o n) (AA ds 0 n')),[]):=by kernel_rfl
end
theorem AAK:∃ f:List Int→List Int→P2,∀ x d,f x d=Wj x d:=⟨_,fun _ _=>rfl⟩
def J5:List Int→List Int→P2:=Classical.choose AAK
theorem AAL (x d:List Int):J5 x d=Wj x d:=Classical.choose_spec AAK x d
theorem AS6 {F:FuncId} {f:Func} (hf:Tryz.prog.funcs[F]? = some f) (hb1:f.body.isSome=true) (ha:Nat.ble 2 f.ntmps=true) {o n m n' m':Nat} {xs ds:List Int} (hw:YD f.ntmps (fZ f o n m n' m' xs ds).s=true)
  (hr:AQ Tryz.prog AAH f 300 2 [] (fZ f o n m n' m' xs ds)=some (hsC o n n' m' xs ds,[],Wk (Wj (AA xs o n) (AA ds 0 n')),[]))
  (h1:o+n≤xs.length) (h2:n'≤ds.length) (hn:n≤4398046511104) (hn1:1≤n') (hn':n'≤255) (hm:n'≤m'):AY Tryz.prog F [AK 0 o n m,AK 1 0 n' m'] (D5 xs ds) 2 [] (Wk (J5 (AA xs o n) (AA ds 0 n'))) []:=by
 rw [AAL]
 refine BA AS3 BR hf hb1 ha hr hw ?_
 exact ⟨Nat.ble_eq_true_of_le h1,Nat.ble_eq_true_of_le h2,Nat.ble_eq_true_of_le hn,Nat.ble_eq_true_of_le hn1,Nat.ble_eq_true_of_le hn',Nat.ble_eq_true_of_le hm,Ab 2 trivial⟩
def SCj:List (FuncId×ASpec):=(149,fY fun x d=>Wk (J5 x d))::[]
theorem AS7:AM Tryz.prog SCj:=⟨AS4 Tryz.func149 (by kernel_rfl) (by kernel_rfl) (fun _ _=>by kernel_rfl) fun _ _ h1 h2 h3 h4 h5 h6=>AS6 Tryz.func149 (by kernel_rfl) (by kernel_rfl) (by kernel_rfl) (AS5 ..) h1 h2 h3 h4 h5 h6,trivial⟩
end
end Go.Proofs.YtojnabmgolpodaaGreat
namespace Go.Proofs.YtojnabmgolpodaaGreat
open Ex Num Rg
open Go.RowKit (Below)
open Sh (R av rd mo en mo_en)
set_option maxRecDepth 100000
set_option maxHeartbeats 4000000
noncomputable def SCk0:List (FuncId×ASpec):=SCj++SYf
theorem AS8:AM Tryz.prog SCk0:=Jy AS7 zB
noncomputable abbrev oCk0:Orc:=AJ SCk0 KV
theorem PO:OrcOk Tryz.prog oCk0:=AN AS8 BR
section
variable (o n m n' m':Nat) (xs ds:List Int) (s:ByteArray) (p:List Bool)
noncomputable abbrev sgdF:Func:=Tryz.f95
noncomputable def AAM:ASt:=Ah sgdF [AK 0 0 n m,AK 1 o n' m',.val false [.v (.string s)]] (D5 xs ds) 2 p
noncomputable def Wl:ASt:=E9 (CZ Tryz.prog oCk0 3 2 (AAM o n m n' m' xs ds s p))
noncomputable def sgdI:List Item:=(Wl 0 0 0 0 0 [] [] ByteArray.empty []).todo
noncomputable abbrev sgdO:Array Oper:=Cu sgdI
noncomputable def Lk:Option (List Rec×St):=DF Tryz.prog oCk0 sgdO [sgdO.getD 0 default] 0 (Wl o n m n' m' xs ds s p).s
theorem AS9:CZ Tryz.prog oCk0 3 2 (AAM o n m n' m' xs ds s p)=some ([],[],Wl o n m n' m' xs ds s p):=by kernel_rfl
theorem AS_:(Wl o n m n' m' xs ds s p).todo=.code (.region (MH sgdI) sgdO false)::I7 sgdI:=by kernel_rfl
theorem AS':Lk o n m n' m' xs ds s p=some (G1 (Lk o n m n' m' xs ds s p),DL (Lk o n m n' m' xs ds s p)):=by kernel_rfl
theorem ATA:HC (G1 (Lk o n m n' m' xs ds s p))=[]:=by kernel_rfl
theorem ATB:Ea (G1 (Lk o n m n' m' xs ds s p))=[]:=by kernel_rfl
theorem ATC:Al (DL (Lk o n m n' m' xs ds s p)).T 13=.val false [.clo 148 [(2,0),(3,0)]]:=by kernel_rfl
theorem Wm:(DL (Lk o n m n' m' xs ds s p)).fr=4:=by kernel_rfl
noncomputable def Il:ASt:=⟨I7 sgdI,DL (Lk o n m n' m' xs ds s p)⟩
end
theorem f6 {o n m n' m':Nat} {xs ds:List Int} {s:ByteArray} (p:List Bool) {β:Env} {us:List Value} {w:World} {R:Ending→World→Prop} (ha:Aq β [AK 0 0 n m,AK 1 o n' m',.val false [.v (.string s)]] us) (hg:Ex.Good β (D5 xs ds) w) (hf:∀ b,2≤b→β b=none)
  (h:∀ (β':Env) (a:Act) (w':World) (A B:Nat) (m1 m2:Nat×Nat),β' 2=some (.at_ A m1)→β' 3=some (.at_ B m2)→(∀ b,4≤b→β' b=none) →
   Inv β w [] ⟨sgdF.ntmps,[{ target:=.fn (.func 148) #[.pointer (some ⟨A,m1.2+0,none⟩),.pointer (some ⟨B,m2.2+0,none⟩)],args:=#[] }]⟩ β' (Al (Il o n m n' m' xs ds s p).s.T) (Il o n m n' m' xs ds s p).s.H a w' →
   Ex.Safe Tryz.prog 95 R (Il o n m n' m' xs ds s p).todo a w'):Calls Tryz.prog 95 ⟨us⟩ w R:=by
 refine N1 (args:=[AK 0 0 n m,AK 1 o n' m',.val false [.v (.string s)]]) (H:=D5 xs ds) (k0:=2) (path:=p) Tryz.func95 (by kernel_rfl) (by kernel_rfl) ?_ ha hg hf
 refine HG PO AE (AS9 o n m n' m' xs ds s p) trivial (AR (by kernel_rfl)) hf (fun _ h=>by cases h) fun hw=>?_
 intro β' a w' hi hf'
 rw [AS_]
 refine Ex.Safe.of_wp (wp_region ?_)
 have hs:List.range sgdO.size=List.range' 0 [sgdO.getD 0 default].length++[1]:=by kernel_rfl
 rw [hs]
 refine P3 PO (W:=[]) _ 0 _ _ _ β' a w' (fun j o hj=>?_) (AS' o n m n' m' xs ds s p) (by rw [ATA];trivial) hi hf' hw.1 hw.2 (by rw [ATB];intro k hk;cases hk) ?_
 ·cases j with
  | zero=>injection hj with hj;subst hj;kernel_rfl
  | succ j=>simp at hj
 ·intro β2 a2 w2 hi2 hf2
  have hc:=hi2.tmp 13
  rw [ATC] at hc
  obtain ⟨ps,hp,hu⟩:=An hc
  obtain ⟨A,m1,B,m2,e1,e2,rfl⟩:=lF hp
  injection hu with hu _
  refine lE (o:=sgdO.getD 1 default) (c:=match (sgdO.getD 1 default).op with | .defer c=>c | _=>⟨.builtin .len,#[],#[]⟩) (t:=13) (by kernel_rfl) (by kernel_rfl) (by kernel_rfl) (by kernel_rfl) (by kernel_rfl) (by kernel_rfl) hu ⟨rfl,?_⟩
  exact h β2 _ w2 A B m1 m2 e1 e2 (fun b hb=>hf2 b (by rw [Wm];exact hb)) hi2.push
section
variable (o n m n' m':Nat) (xs ds:List Int) (s:ByteArray) (p:List Bool)
noncomputable def Wn:ASt:=E9 (CZ Tryz.prog oCk0 1 4 (Il o n m n' m' xs ds s p))
noncomputable def sgdJ:List Item:=(Wn 0 0 0 0 0 [] [] ByteArray.empty []).todo
noncomputable def Hl:Option (List Rec×St):=DF Tryz.prog oCk0 (Cu sgdJ) [(Cu sgdJ).getD 0 default] 0 (Wn o n m n' m' xs ds s p).s
theorem ATD:CZ Tryz.prog oCk0 1 4 (Il o n m n' m' xs ds s p)=some ([],[],Wn o n m n' m' xs ds s p):=by kernel_rfl
theorem ATE:(Wn o n m n' m' xs ds s p).todo=.code (.region (MH sgdJ) (Cu sgdJ) false)::I7 sgdJ:=by kernel_rfl
theorem ATF:Hl o n m n' m' xs ds s p=some (G1 (Hl o n m n' m' xs ds s p),DL (Hl o n m n' m' xs ds s p)):=by kernel_rfl
theorem ATG:HC (G1 (Hl o n m n' m' xs ds s p))=[]:=by kernel_rfl
theorem ATH:Ea (G1 (Hl o n m n' m' xs ds s p))=[]:=by kernel_rfl
theorem ATI:Al (DL (Hl o n m n' m' xs ds s p)).T 14=AK 0 0 n m:=by kernel_rfl
theorem ATJ:Al (DL (Hl o n m n' m' xs ds s p)).T 6=.val false [.p 2 0]:=by kernel_rfl
theorem ATK:Al (DL (Hl o n m n' m' xs ds s p)).T 7=.val false [.p 3 0]:=by kernel_rfl
theorem ATL:AB (DL (Hl o n m n' m' xs ds s p)).H 0=some (AU [.seq .u8 xs]):=by kernel_rfl
theorem AAN:AB (DL (Hl o n m n' m' xs ds s p)).H 2=some ⟨28,[.v (.slice none 0 0)],false⟩:=by kernel_rfl
theorem AAO:AB (DL (Hl o n m n' m' xs ds s p)).H 3=some ⟨33,[.n .i64 0],false⟩:=by kernel_rfl
end
theorem ATM {o n m n' m':Nat} {xs ds:List Int} {s:ByteArray} (hl:n≤xs.length) (hn:AI .i64 n=true) (hk:B7 n (AT (AA xs 0 n))=false) :
  AY Tryz.prog 95 [AK 0 0 n m,AK 1 o n' m',.val false [.v (.string s)]] (D5 xs ds) 2 [] (FM 210) []:=by
 intro β us w ha hg hf
 refine f6 [] ha hg hf fun β' a w' A B m1 m2 hA hB hf' hi=>?_
 refine HG (β0:=β') (w0:=w') (W:=[]) PO AE (ATD o n m n' m' xs ds s []) trivial (AR (by kernel_rfl)) hf' (fun _ h=>by cases h) (fun hw=>?_) β' a w' hi.root (fun b hb=>hf' b (by rw [show (Il o n m n' m' xs ds s []).s.fr=4 from Wm o n m n' m' xs ds s []] at hb;exact hb))
 intro β1 a1 w1 hi1 hf1
 rw [ATE]
 refine Ex.Safe.of_wpP Tryz.func95 (wp_region ?_)
 have hs:List.range (Cu sgdJ).size=List.range' 0 [(Cu sgdJ).getD 0 default].length++(1::List.range' 2 ((Cu sgdJ).size-2)):=by kernel_rfl
 rw [hs]
 refine P3 PO (W:=[]) _ 0 _ _ _ β1 a1 w1 (fun j o hj=>?_) (ATF o n m n' m' xs ds s []) (by rw [ATG];trivial) hi1 hf1 hw.1 hw.2 (by rw [ATH];intro k hk;cases hk) ?_
 ·cases j with
  | zero=>injection hj with hj;subst hj;kernel_rfl
  | succ j=>simp at hj
 intro β2 a2 w2 hi2 _
 have r8:=hi2.tmp 14
 rw [ATI] at r8
 obtain ⟨_,g2,_⟩:=Cx hi2.good (ATL o n m n' m' xs ds s []) (wG xs)
 have hpan:=v5 hl hn hk (Ap β2 [0] 1) [a2.tmps.getD 14 undef] w2 ⟨_,[],BW (by omega) rfl r8,rfl,rfl⟩ g2 (fun b hb=>by
  have:Nat.blt b 1=false:=by cases h:Nat.blt b 1 with | false=>rfl | true=>have:=A9.1 h;omega
  simp [Ap,this])
 refine lD (o:=(Cu sgdJ).getD 1 default) (c:=match ((Cu sgdJ).getD 1 default).op with | .call c=>c | _=>⟨.builtin .len,#[],#[]⟩) (g:=94) (chain:=errC) (by kernel_rfl) (by kernel_rfl) (by kernel_rfl) (by kernel_rfl) Tryz.func94 (by kernel_rfl) (by kernel_rfl) ?_
 have hargs:(match ((Cu sgdJ).getD 1 default).op with | .call c=>c | _=>⟨.builtin .len,#[],#[]⟩).args=#[.tmp 14]:=by kernel_rfl
 rw [hargs,show Array.map a2.eval #[Operand.tmp 14]=#[a2.eval (.tmp 14)] from by simp]
 refine Calls.mono (R:=fun e w'=>e=.panicked errC∧Below w2.heap.size w2 w') hpan ?_
 rintro e w3 ⟨rfl,hbl⟩
 refine ⟨rfl,.inr ⟨errC,rfl,?_⟩⟩
 have hA2:=hi2.ext 2 _ hA
 have hB2:=hi2.ext 3 _ hB
 obtain ⟨c1,z1⟩:=Vp (v:=.slice none 0 0) hi2.good (AAN o n m n' m' xs ds s []) (by kernel_rfl) hA2 fun l h=>h.1
 obtain ⟨c2,z2⟩:=Vp (v:=.int .i64 0) hi2.good (AAO o n m n' m' xs ds s []) (by kernel_rfl) hB2 fun l h=>h.1
 have hne:A≠B:=fun e=>by
  subst e
  have:=hi2.good.inj 2 3 A m1 m2 (by rw [EN (AAN o n m n' m' xs ds s []) (Pa (by kernel_rfl))]) (by rw [AAO];rfl) hA2 hB2
  cases this
 have big:∀ {k C:Nat} {q:Nat×Nat},2≤k→β' k=some (.at_ C q)→w.heap.size≤C:=by
  intro k C q hk0 hC
  rcases hi.new k _ hC with h | h
  ·rw [hf k hk0] at h;cases h
  ·rcases h C q rfl with h | ⟨j,_,hj,_⟩
   ·exact h
   ·cases hj
 have bA:=big (by omega) hA
 have bB:=big (by omega) hB
 have t1:=Vr (ATJ o n m n' m' xs ds s []) (hi2.tmp 6) hA2
 have t2:=Vr (ATK o n m n' m' xs ds s []) (hi2.tmp 7) hB2
 rw [z1] at t1
 rw [z2] at t2
 rw [hi2.dfr,z1,z2]
 refine v9 Tryz.func148 (by kernel_rfl) (by kernel_rfl) (fun p q x y w a b c d e=>AN8 p q x y w a b c d e) (t1:=6) (t2:=7) (by kernel_rfl) t1 t2 (Vs hbl c1) (Vs hbl c2) hne fun w4 k1 k2 k3 k4 k5=>?_
 refine wH hg ?_ (fun C hC=>?_) ?_ ?_ ?_
 ·rw [k2];exact Nat.le_trans hi.size (Nat.le_trans hi2.size hbl.size)
 ·rw [k1 C (by omega) (by omega),hbl.block C (Nat.lt_of_lt_of_le hC (Nat.le_trans hi.size hi2.size)),hi2.frame C (Nat.lt_of_lt_of_le hC hi.size) (fun _ _ h=>by cases h),hi.frame C hC (fun _ _ h=>by cases h)]
 ·rw [k3,hbl.os,hi2.os,hi.os]
 ·rw [k4,hbl.tape,hi2.tape,hi.tape]
 ·rw [k5,hbl.output,hi2.output,hi.output]
noncomputable def Ll (ds:List Int) (o n':Nat) (s:ByteArray):P2:=J5 (AA ds o n') (AA (EY s) 0 s.size)
noncomputable def Wo (N:Nat) (P:P2):P2:=mo (en (C5 (AL (AA (EV N) 0 4)) (mo (en P:R P2))):R P2)
theorem AAP {N:Nat} (h:N<R4) (P:P2):Wo N P=C5 N P:=by unfold Wo;rw [mo_en,mo_en,LS h]
noncomputable def Wp (o n m n':Nat) (xs ds:List Int) (s:ByteArray) (b:Bool):List (Bool×Bool):=(Nat.ble n xs.length,true)::(Nat.ble n m,true)::(AI .i64 n,true)::(B7 n (AT (AA xs 0 n)),true)::(Nat.ble (o+n') ds.length,true)::(Nat.ble s.size (EY s).length,true)::(Nat.ble n' 4398046511104,true)::(Nat.ble 1 s.size,true)::(Nat.ble s.size 255,true)::(Nat.ble s.size s.size,true)::tt 2 ((BX (Wo (DD n (AT (AA xs 0 n))) (Ll ds o n' s)),b)::[])
noncomputable def f7:AV:=.tup [(false,[.sl 21 0 96 96]),(false,[.n .i64 0])]
noncomputable def sgH (K:Nat) (l:List Int):Heap:=[(K,some ⟨5,[.seq .u8 l],true⟩)]
section
variable (o n m n' m':Nat) (xs ds:List Int) (s:ByteArray)
theorem ATN:AQ Tryz.prog oCk0 sgdF 400 2 [21] (Il o n m n' m' xs ds s [false])=some (Wp o n m n' xs ds s true,[],f7,sgH 21 (DU true (Wo (DD n (AT (AA xs 0 n))) (Ll ds o n' s)))):=by kernel_rfl
theorem ATO:AQ Tryz.prog oCk0 sgdF 400 2 [] (Il o n m n' m' xs ds s [true])=some (Wp o n m n' xs ds s false,[],FM 140,[]):=by kernel_rfl
end
theorem ATP {o n m n' m':Nat} {xs ds:List Int} {s:ByteArray} (hl:n≤xs.length) (hm:n≤m) (hn:AI .i64 n=true) (hk:B7 n (AT (AA xs 0 n))=true) (h1:o+n'≤ds.length) (h2:n'≤4398046511104) (h3:1≤s.size) (h4:s.size≤255) (h5:(EY s).length=s.size)
  (hi:BX (C5 (AT (AA xs 0 n)) (Ll ds o n' s))=true):AY Tryz.prog 95 [AK 0 0 n m,AK 1 o n' m',.val false [.v (.string s)]] (D5 xs ds) 2 [] f7 (sgH 21 (DU true (C5 (AT (AA xs 0 n)) (Ll ds o n' s)))):=by
 obtain ⟨k1,k2,_⟩:=NC.1 hk
 have hV:DD n (AT (AA xs 0 n))=AT (AA xs 0 n):=if_pos ⟨k1,k2⟩
 have hrun:=ATN o n m n' m' xs ds s
 unfold Wp at hrun
 rw [hV,AAP (Nat.lt_trans k2 RK)] at hrun
 intro β us w ha hg hf
 refine f6 [false] ha hg hf fun β' a w' A B m1 m2 _ _ hf' hi'=>?_
 exact YR PO AE Tryz.func95 hrun ⟨Nat.ble_eq_true_of_le hl,Nat.ble_eq_true_of_le hm,hn,hk,Nat.ble_eq_true_of_le h1,Nat.ble_eq_true_of_le (by omega),Nat.ble_eq_true_of_le h2,Nat.ble_eq_true_of_le h3,Nat.ble_eq_true_of_le h4,Nat.ble_eq_true_of_le (Nat.le_refl _),Ab 2 ⟨hi,trivial⟩⟩ (AR (by kernel_rfl)) hf (fun _ h=>by cases h) rfl Tryz.func148 (by kernel_rfl) (by kernel_rfl)
  (fun w=>vR _ _ w) (fun _ _ h=>h) β' a w' hi' (fun b hb=>hf' b (by rw [show (Il o n m n' m' xs ds s _).s.fr=4 from Wm o n m n' m' xs ds s _] at hb;exact hb))
theorem ATQ {o n m n' m':Nat} {xs ds:List Int} {s:ByteArray} (hl:n≤xs.length) (hm:n≤m) (hn:AI .i64 n=true) (hk:B7 n (AT (AA xs 0 n))=true) (h1:o+n'≤ds.length) (h2:n'≤4398046511104) (h3:1≤s.size) (h4:s.size≤255) (h5:(EY s).length=s.size)
  (hi:BX (C5 (AT (AA xs 0 n)) (Ll ds o n' s))=false):AY Tryz.prog 95 [AK 0 0 n m,AK 1 o n' m',.val false [.v (.string s)]] (D5 xs ds) 2 [] (FM 140) []:=by
 obtain ⟨k1,k2,_⟩:=NC.1 hk
 have hV:DD n (AT (AA xs 0 n))=AT (AA xs 0 n):=if_pos ⟨k1,k2⟩
 have hrun:=ATO o n m n' m' xs ds s
 unfold Wp at hrun
 rw [hV,AAP (Nat.lt_trans k2 RK)] at hrun
 intro β us w ha hg hf
 refine f6 [true] ha hg hf fun β' a w' A B m1 m2 _ _ hf' hi'=>?_
 exact YR PO AE Tryz.func95 hrun ⟨Nat.ble_eq_true_of_le hl,Nat.ble_eq_true_of_le hm,hn,hk,Nat.ble_eq_true_of_le h1,Nat.ble_eq_true_of_le (by omega),Nat.ble_eq_true_of_le h2,Nat.ble_eq_true_of_le h3,Nat.ble_eq_true_of_le h4,Nat.ble_eq_true_of_le (Nat.le_refl _),Ab 2 ⟨hi,trivial⟩⟩ (AR (by kernel_rfl)) hf (fun _ h=>by cases h) rfl Tryz.func148 (by kernel_rfl) (by kernel_rfl)
  (fun w=>vR _ _ w) (fun _ _ h=>h) β' a w' hi' (fun b hb=>hf' b (by rw [show (Il o n m n' m' xs ds s _).s.fr=4 from Wm o n m n' m' xs ds s _] at hb;exact hb))
end Go.Proofs.YtojnabmgolpodaaGreat
namespace Go.Proofs.YtojnabmgolpodaaGreat
open Ex Num Rg
open Sh (R av rd mo en mo_en)
set_option maxRecDepth 100000
set_option maxHeartbeats 4000000
theorem AAR:∃ f:ByteArray→Bool,∀ s,f s=(Nat.ble 1 s.size&&(Nat.ble s.size 255&&Nat.beq (EY s).length s.size)):=⟨_,fun _=>rfl⟩
noncomputable def PP:ByteArray→Bool:=Classical.choose AAR
theorem AAS (s:ByteArray):PP s=(Nat.ble 1 s.size&&(Nat.ble s.size 255&&Nat.beq (EY s).length s.size)):=Classical.choose_spec AAR s
theorem AAT {s:ByteArray} (h:PP s=true):1≤s.size∧s.size≤255∧(EY s).length=s.size:=by
 rw [AAS] at h
 obtain ⟨h1,h⟩:=Bool.and_eq_true_iff.1 h
 obtain ⟨h2,h3⟩:=Bool.and_eq_true_iff.1 h
 exact ⟨Nat.le_of_ble_eq_true h1,Nat.le_of_ble_eq_true h2,Ad.1 h3⟩
theorem AAU:∃ f:List Int→List Int→ByteArray→P2,∀ x d s,f x d s=C5 (AT x) (J5 d (AA (EY s) 0 s.size)):=⟨_,fun _ _ _=>rfl⟩
noncomputable def R7:List Int→List Int→ByteArray→P2:=Classical.choose AAU
theorem f8 (x d:List Int) (s:ByteArray):R7 x d s=C5 (AT x) (J5 d (AA (EY s) 0 s.size)):=Classical.choose_spec AAU x d s
noncomputable def f9 (V:AV) (K nw:Nat) (G:P2→List Int):ASpec:=fun args H fr path=>match args,path with
 | [S,T,.val false [.v (.string s)]],b::rest=>match IX S,Br T with
  | some (k,n,m),some (t,o,n')=>match AB H k,AB H t with
   | some ⟨_,cs,_⟩,some ⟨_,es,_⟩=>match Ak .u8 cs,Ak .u8 es with
    | some xs,some ds=>match b,rest with
     | true,rest=>some (Az [k,t] 2 fr 0 [] (FM 210) [] [(Nat.ble n xs.length,true),(Nat.ble n m,true),(AI .i64 n,true),(B7 n (AT (AA xs 0 n)),false)] rest)
     | false,true::rest=>some (Az [k,t] 2 fr 0 [] (FM 140) [] [(Nat.ble n xs.length,true),(Nat.ble n m,true),(AI .i64 n,true),(B7 n (AT (AA xs 0 n)),true),(Nat.ble (o+n') ds.length,true),(Nat.ble n' 4398046511104,true),(PP s,true),(BX (R7 (AA xs 0 n) (AA ds o n') s),false)] rest)
     | false,false::rest=>some (Az [k,t] 2 fr nw [] V [(K,some ⟨5,[.seq .u8 (G (R7 (AA xs 0 n) (AA ds o n') s))],true⟩)] [(Nat.ble n xs.length,true),(Nat.ble n m,true),(AI .i64 n,true),(B7 n (AT (AA xs 0 n)),true),(Nat.ble (o+n') ds.length,true),(Nat.ble n' 4398046511104,true),(PP s,true),(BX (R7 (AA xs 0 n) (AA ds o n') s),true)] rest)
     | _,_=>none
    | _,_=>none
   | _,_=>none
  | _,_=>none
 | _,_=>none
theorem ATR {F:FuncId} {fn:Func} {V:AV} {K nw:Nat} {G:P2→List Int} (hfn:Tryz.prog.funcs[F]? = some fn) (hb:fn.body.isSome=true) (hname:(fn.name=="runtime.NumGoroutine")=false) (hk:∀ l,Ct 2 nw [] V [(K,some ⟨5,[.seq .u8 l],true⟩)]=true)
  (h1:∀ {o n m n' m':Nat} {xs ds:List Int} {s:ByteArray},n≤xs.length→n≤m→AI .i64 n=true→B7 n (AT (AA xs 0 n))=false→AY Tryz.prog F [AK 0 0 n m,AK 1 o n' m',.val false [.v (.string s)]] (D5 xs ds) 2 [] (FM 210) [])
  (h2:∀ {o n m n' m':Nat} {xs ds:List Int} {s:ByteArray},n≤xs.length→n≤m→AI .i64 n=true→B7 n (AT (AA xs 0 n))=true→o+n'≤ds.length→n'≤4398046511104→1≤s.size→s.size≤255→(EY s).length=s.size→BX (C5 (AT (AA xs 0 n)) (Ll ds o n' s))=false→AY Tryz.prog F [AK 0 0 n m,AK 1 o n' m',.val false [.v (.string s)]] (D5 xs ds) 2 [] (FM 140) [])
  (h3:∀ {o n m n' m':Nat} {xs ds:List Int} {s:ByteArray},n≤xs.length→n≤m→AI .i64 n=true→B7 n (AT (AA xs 0 n))=true→o+n'≤ds.length→n'≤4398046511104→1≤s.size→s.size≤255→(EY s).length=s.size→BX (C5 (AT (AA xs 0 n)) (Ll ds o n' s))=true→AY Tryz.prog F [AK 0 0 n m,AK 1 o n' m',.val false [.v (.string s)]] (D5 xs ds) 2 [] V [(K,some ⟨5,[.seq .u8 (G (C5 (AT (AA xs 0 n)) (Ll ds o n' s)))],true⟩)]):A6 Tryz.prog F (f9 V K nw G):=by
 refine CJ hfn hb hname fun args H fr path r hs=>?_
 unfold f9 at hs
 split at hs
 case h_2=>cases hs
 rename_i S T s b rest
 split at hs
 case h_2=>cases hs
 rename_i k n m t o n' hS hT
 split at hs
 case h_2=>cases hs
 rename_i ty cs op ty' es op' hk' ht'
 split at hs
 case h_2=>cases hs
 rename_i xs ds hx hd
 have key:∀ {β:Env} {us:List Value} {w:World},Aq β [S,T,.val false [.v (.string s)]] us→Ex.Good β H w→n≤m→∃ M M':Nat,n≤M∧Aq (Ap β [k,t] 2) [AK 0 0 n M,AK 1 o n' M',.val false [.v (.string s)]] us∧Ex.Good (Ap β [k,t] 2) (D5 xs ds) w∧∀ j,j<2→∃ X,β (Ex.nth [k,t] j)=some X:=by
  intro β us w ha hg hm
  obtain ⟨u1,us1,r1,⟨u2,us2,r2,⟨u3,us3,r3,ha,rfl⟩,rfl⟩,rfl⟩:=ha
  obtain ⟨M,hM,r1⟩:=IY hS hm r1
  obtain ⟨M',r2⟩:=Dj hT r2
  refine ⟨M,M',hM,⟨u1,_,BW (by omega) rfl r1,⟨u2,_,BW (by omega) rfl r2,⟨u3,_,HE rfl r3,ha,rfl⟩,rfl⟩,rfl⟩,If (bs:=[AU [.seq .u8 xs],AU [.seq .u8 ds]]) hg fun j d hj=>?_,fun j hj=>?_⟩
  ·match j,hj with
   | 0,hj=>injection hj with hj;subst hj;exact ⟨rfl,DE hg hk' hx (by show 0<2;decide) rfl⟩
   | 1,hj=>injection hj with hj;subst hj;exact ⟨rfl,DE hg ht' hd (by show 1<2;decide) rfl⟩
  ·match j,hj with
   | 0,_=>exact BH (hg.heap _ _ hk')
   | 1,_=>exact BH (hg.heap _ _ ht')
 split at hs
 ·injection hs with hs
  refine ⟨[k,t],2,0,[],_,_,_,_,hs.symm,fun β us w ha hg hc=>?_⟩
  obtain ⟨c1,c2,c3,c4,_⟩:=hc
  obtain ⟨M,M',hM,q1,q2,q3⟩:=key ha hg (Nat.le_of_ble_eq_true c2)
  exact ⟨_,_,h1 (Nat.le_of_ble_eq_true c1) hM c3 c4,by kernel_rfl,q1,q2,q3⟩
 ·injection hs with hs
  refine ⟨[k,t],2,0,[],_,_,_,_,hs.symm,fun β us w ha hg hc=>?_⟩
  obtain ⟨c1,c2,c3,c4,c5,c6,c7,c8,_⟩:=hc
  obtain ⟨M,M',hM,q1,q2,q3⟩:=key ha hg (Nat.le_of_ble_eq_true c2)
  obtain ⟨t1,t2,t3⟩:=AAT c7
  rw [f8] at c8
  exact ⟨_,_,h2 (Nat.le_of_ble_eq_true c1) hM c3 c4 (Nat.le_of_ble_eq_true c5) (Nat.le_of_ble_eq_true c6) t1 t2 t3 c8,by kernel_rfl,q1,q2,q3⟩
 ·injection hs with hs
  refine ⟨[k,t],2,nw,[],_,_,_,_,hs.symm,fun β us w ha hg hc=>?_⟩
  obtain ⟨c1,c2,c3,c4,c5,c6,c7,c8,_⟩:=hc
  obtain ⟨M,M',hM,q1,q2,q3⟩:=key ha hg (Nat.le_of_ble_eq_true c2)
  obtain ⟨t1,t2,t3⟩:=AAT c7
  rw [f8] at c8 ⊢
  exact ⟨_,_,h3 (Nat.le_of_ble_eq_true c1) hM c3 c4 (Nat.le_of_ble_eq_true c5) (Nat.le_of_ble_eq_true c6) t1 t2 t3 c8,hk _,q1,q2,q3⟩
 ·cases hs
noncomputable def SCl:List (FuncId×ASpec):=(95,f9 f7 21 20 (DU true))::SYf
theorem AAV:AM Tryz.prog SCl:=⟨ATR Tryz.func95 (by kernel_rfl) (by kernel_rfl) (fun _=>rfl) (fun h1 _ h3 h4=>ATM h1 h3 h4) (fun h1 h2 h3 h4 h5 h6 h7 h8 h9 h=>ATQ h1 h2 h3 h4 h5 h6 h7 h8 h9 h) fun h1 h2 h3 h4 h5 h6 h7 h8 h9 h=>ATP h1 h2 h3 h4 h5 h6 h7 h8 h9 h,zB⟩
noncomputable abbrev oCl0:Orc:=AJ SCl KV
theorem ATS:OrcOk Tryz.prog oCl0:=AN AAV BR
noncomputable def SCl1:List (FuncId×ASpec):=(32,C0 Tryz.prog oCl0 Tryz.f32 300)::SCl
theorem AAW:AM Tryz.prog SCl1:=⟨DG ATS AE Tryz.func32 (by kernel_rfl) (by kernel_rfl) 300,AAV⟩
def tagM:ByteArray:=⟨List.toArray [66,76,83,95,83,73,71,95,66,76,83,49,50,51,56,49,71,50,95,88,77,68,58,83,72,65,45,50,53,54,95,83,83,87,85,95,82,79,95,80,79,80,95]⟩
theorem ATT:PP tagM=true:=by rw [AAS];kernel_rfl
section
variable (n0 m0 n1 m1:Nat) (x0 x1:List Int)
end
section
variable {n0 m0 n1 m1:Nat} {x0 x1:List Int}
end
noncomputable section
theorem Wq {x y:FP} (h:x*y≠0):Be (x*y)=(Be x==Be y):=by
 have e:(x*y).val=Ag x.val y.val:=rfl
 unfold Be
 rw [e]
 exact AEh fun q=>h (Zo.1 (e.trans q))
theorem AAX:Be (-1:FP)=false:=by
 cases h:Be (-1:FP) with
 | false=>rfl
 | true=>obtain ⟨y,hy⟩:=rV.1 h;exact absurd hy (rU y)
theorem AAY:(1:FP)≠0:=FD.one_ne
theorem ATU {x:FP} (h:x≠0):Be (-(x*x))=false:=by
 have e:-(x*x)=-1*(x*x):=ring [x] (by kernel_rfl)
 have h1:-(1:FP)*(x*x)≠0:=C4 (fun q=>AAY (Q7.1 q)) (C4 h h)
 rw [e,Wq h1,AAX,JV rfl];rfl
theorem ATV:(1+1:FP)≠0:=fun e=>by
 rw [← F1,← IE] at e
 have:=congrArg Fin.val e
 rw [IP (by decide)] at this
 cases this
def Au:FP:=FD.inv (1+1)
theorem gA:Au+Au=1:=by
 have:=FD.mul_inv (1+1:FP) ATV
 rw [← this]
 exact ring [Au] (a:=Au+Au) (b:=(1+1)*Au) (by kernel_rfl)
theorem AAZ {a:FP2} {m:FP} (hm:m*m=a.nrm) (h:Be ((a.a+m)*Au)=true) (h0:(a.a+m)*Au≠0):Bw a=true:=by
 have hx:=JU h
 generalize Bb ((a.a+m)*Au)=x at hx
 have hx0:x≠0:=fun e=>h0 (by rw [← hx,e,Rg.mul_zero])
 have hxi:=FD.mul_inv x hx0
 have hn:=aC a
 rw [← hm] at hn
 have hyx:x*(a.b*Au*FD.inv x)=a.b*Au:=by
  have:x*(a.b*Au*FD.inv x)=a.b*Au*(x*FD.inv x):=ring [x,a.b,Au,FD.inv x] (by kernel_rfl)
  rw [this,hxi,Rg.mul_one]
 generalize a.b*Au*FD.inv x=y at hyx
 refine F8.2 ⟨⟨x,y⟩,Qx.ext ?_ ?_⟩
 ·show x*x+-1*(y*y)=a.a
  refine AO.1 (Qs h0 ?_)
  rw [← hx]
  have e1:x*x*(x*x+-1*(y*y)-a.a)=(x*x)*(x*x)-(x*x)*a.a-(x*y)*(x*y):=ring [x,y,a.a] (by kernel_rfl)
  rw [e1,hyx,hx]
  have e2:(a.a+m)*Au*((a.a+m)*Au)-(a.a+m)*Au*a.a-a.b*Au*(a.b*Au)=(m*m-(a.a*a.a+a.b*a.b))*(Au*Au)+(a.a+m)*Au*a.a*(Au+Au)-(a.a+m)*Au*a.a:=ring [a.a,a.b,m,Au] (by kernel_rfl)
  rw [e2,← hn,gA,Rg.mul_one]
  exact ring [a.a,m,Au] (a:=(m*m-m*m)*(Au*Au)+(a.a+m)*Au*a.a-(a.a+m)*Au*a.a) (b:=0) (by kernel_rfl)
 ·show x*y+y*x=a.b
  have e1:x*y+y*x=x*y+x*y:=ring [x,y] (by kernel_rfl)
  rw [e1,hyx]
  have e2:a.b*Au+a.b*Au=a.b*(Au+Au):=ring [a.b,Au] (by kernel_rfl)
  rw [e2,gA,Rg.mul_one]
theorem gB {a:FP2} (h:Be a.nrm=true):Bw a=true:=by
 have hm:=JU h
 generalize Bb a.nrm=n at hm
 have hn:=aC a
 by_cases hb:a.b=0
 ·by_cases ha:a.a=0
  ·exact F8.2 ⟨0,Qx.ext (by rw [ha];exact ring [] (a:=(0:FP)*0+-1*(0*0)) (b:=0) (by kernel_rfl)) (by rw [hb];exact ring [] (a:=(0:FP)*0+0*0) (b:=0) (by kernel_rfl))⟩
  ·cases hi:Be a.a with
   | true =>
    have hx:=JU hi
    refine F8.2 ⟨⟨Bb a.a,0⟩,Qx.ext ?_ ?_⟩
    ·show Bb a.a*Bb a.a+-1*(0*0)=a.a
     rw [hx];exact ring [a.a] (a:=a.a+-1*(0*0)) (b:=a.a) (by kernel_rfl)
    ·show Bb a.a*0+0*Bb a.a=a.b
     rw [hb];exact ring [Bb a.a] (a:=Bb a.a*0+0*Bb a.a) (b:=0) (by kernel_rfl)
   | false =>
    have e:-a.a=-1*a.a:=ring [a.a] (by kernel_rfl)
    have hi':Be (-a.a)=true:=by rw [e,Wq (by rw [← e];exact fun q=>ha (Q7.1 q)),AAX,hi];rfl
    have hx:=JU hi'
    refine F8.2 ⟨⟨0,Bb (-a.a)⟩,Qx.ext ?_ ?_⟩
    ·show 0*0+-1*(Bb (-a.a)*Bb (-a.a))=a.a
     rw [hx];exact ring [a.a] (a:=0*0+-1*-a.a) (b:=a.a) (by kernel_rfl)
    ·show 0*Bb (-a.a)+Bb (-a.a)*0=a.b
     rw [hb];exact ring [Bb (-a.a)] (a:=0*Bb (-a.a)+Bb (-a.a)*0) (b:=0) (by kernel_rfl)
 ·have hb0:a.b*Au≠0:=C4 hb fun e=>AAY (by rw [← gA,e];exact ring [] (a:=(0:FP)+0) (b:=0) (by kernel_rfl))
  have hp:(a.a+n)*Au*((a.a+-n)*Au)=-(a.b*Au*(a.b*Au)):=by
   have e:(a.a+n)*Au*((a.a+-n)*Au)=(a.a*a.a+a.b*a.b-n*n)*(Au*Au)-a.b*Au*(a.b*Au):=ring [a.a,a.b,n,Au] (by kernel_rfl)
   rw [e,hm,hn]
   exact ring [a.a,a.b,Au] (a:=(a.a*a.a+a.b*a.b-(a.a*a.a+a.b*a.b))*(Au*Au)-a.b*Au*(a.b*Au)) (b:=-(a.b*Au*(a.b*Au))) (by kernel_rfl)
  have hne:(a.a+n)*Au*((a.a+-n)*Au)≠0:=by rw [hp];exact fun q=>C4 hb0 hb0 (Q7.1 q)
  have hs:=Wq hne
  rw [hp,ATU hb0] at hs
  cases hA:Be ((a.a+n)*Au) with
  | true=>exact AAZ hm hA fun e=>hne (by rw [e,Rg.zero_mul])
  | false =>
   rw [hA] at hs
   have hB:Be ((a.a+-n)*Au)=true:=by
    cases hB:Be ((a.a+-n)*Au) with
    | true=>rfl
    | false=>rw [hB] at hs;cases hs
   exact AAZ (m:=-n) (by rw [← hm];exact ring [n] (by kernel_rfl)) hB fun e=>hne (by rw [e,Rg.mul_zero])
theorem ATW {a:FP2} (h:Bw a=false):a.nrm≠0:=fun e=>by
 have:Bw a=true:=gB (by rw [e];exact JV (y:=0) (ring [] (a:=(0:FP)*0) (b:=0) (by kernel_rfl)))
 rw [this] at h;cases h
theorem ATX {a b:FP2} (ha:Bw a=false) (hb:Be b.nrm=false):Bw (b*a)=true:=by
 have h1:Be a.nrm=false:=by
  cases h:Be a.nrm with
  | false=>rfl
  | true=>rw [gB h] at ha;cases ha
 have h2:b.nrm≠0:=fun e=>by
  rw [e,JV (y:=0) (ring [] (a:=(0:FP)*0) (b:=0) (by kernel_rfl))] at hb;cases hb
 refine gB ?_
 have e:=Qx.nrm_mul b a
 rw [e,Wq (C4 h2 (ATW ha)),h1,hb];rfl
theorem AAa {a c:FP2} (h:Bw a=true):Bw (c*c*a)=true:=by
 obtain ⟨s,hs⟩:=F8.1 h
 exact F8.2 ⟨c*s,by rw [← hs];exact ring [c,s] (by kernel_rfl)⟩
theorem ATY (x:FP):x*x≠tf 5:=rS (Z' k2 rT (by decide) (by kernel_rfl) (by decide)) (by decide) x
theorem ATZ:Be zF.nrm=false:=by
 have e:zF.nrm=tf 5:=by kernel_rfl
 cases h:Be zF.nrm with
 | false=>rfl
 | true=>obtain ⟨y,hy⟩:=rV.1 h;exact absurd (hy.trans e) (ATY y)
def Wr:FP2:=⟨tf 0x1a59d4b6bbf912a32d63b43028e2deeebe8d5d97ca64b6d66f64ac7a265a9305e1a40da5edb81b4e3ac4f5c28f5bd27,tf 0x15103a07f641331bb298f5ed3ba1230aa0bcc9f87d923077324df24a0f7ffa93045d3d6f94c17ae10efa11eb851e7336⟩
def kzS:FP2:=⟨tf 0x1776b5d3dd70bb2ac6e46be0849209c9c47853350da878bdc14a5042102f1f01cbc75043b8d13d709dd5ca27f92cb390,tf 0x2c094c100c4f8a157767045bc04279dd04f207fbddc4de6675911b512cddacc0061215698453b5b11125516029e4d21⟩
theorem ATb:bF*FD.inv (zF*aF)=Wr:=by
 have h:zF*aF*Wr=bF:=by kernel_rfl
 have h0:zF*aF≠0:=of_decide_eq_false (by kernel_rfl:decide (zF*aF=0)=false)
 exact Qt h0 h
theorem ATc:Bw (By Wr)=true:=F8.2 ⟨kzS,by kernel_rfl⟩
theorem ATd:aF≠0:=of_decide_eq_false (by kernel_rfl:decide (aF=0)=false)
theorem ATe {w:FP2} (ht:w*w+w≠0) {x:FP2} (hx:x=-(bF*FD.inv aF)*(1+FD.inv (w*w+w))):By (w*x)=w*w*(w*By x):=by
 have ha:=FD.mul_inv aF ATd
 have hti:=FD.mul_inv (w*w+w) ht
 have h1:aF*x*(w*w+w)=-(bF*(w*w+w+1)):=by
  have e:aF*(-(bF*FD.inv aF)*(1+FD.inv (w*w+w)))*(w*w+w)=-(bF*(aF*FD.inv aF)*(w*w+w+(w*w+w)*FD.inv (w*w+w))):=ring [aF,bF,FD.inv aF,FD.inv (w*w+w),w] (by kernel_rfl)
  rw [hx,e,ha,hti,Rg.mul_one]
 have e:By (w*x)-w*w*(w*By x)=(1-w)*(aF*x*(w*w+w)+bF*(w*w+w+1)):=ring [w,x,aF,bF] (a:=w*x*(w*x)*(w*x)+aF*(w*x)+bF-w*w*(w*(x*x*x+aF*x+bF))) (by kernel_rfl)
 refine AO.1 (e.trans ?_)
 rw [h1]
 exact ring [w,bF] (a:=(1-w)*(-(bF*(w*w+w+1))+bF*(w*w+w+1))) (b:=0) (by kernel_rfl)
theorem ATf (u:FP2):Bw (By (GK u))=true:=by
 unfold GK
 cases h:Bw (By (FU u)) with
 | true=>exact h
 | false =>
  show Bw (By (wF u*FU u))=true
  by_cases ht:tF u=0
  ·have:FU u=Wr:=by
    unfold FU G4
    rw [decide_eq_true ht]
    exact ATb
   rw [this,ATc] at h;cases h
  ·have hx:FU u=-(bF*FD.inv aF)*(1+FD.inv (tF u)):=by
    unfold FU G4
    rw [decide_eq_false ht];rfl
   rw [ATe (w:=wF u) ht hx]
   refine AAa ?_
   have e:wF u*By (FU u)=u*u*(zF*By (FU u)):=ring [u,zF,By (FU u)] (a:=zF*(u*u)*By (FU u)) (by kernel_rfl)
   rw [e]
   exact AAa (ATX h ATZ)
theorem ATg (u:FP2):NV u*NV u=By (GK u):=by
 have h:=aB (ATf u)
 unfold NV Wf
 split
 ·have e:-(DT (By (GK u)))*-(DT (By (GK u)))=DT (By (GK u))*DT (By (GK u)):=ring [DT (By (GK u))] (by kernel_rfl)
  rw [e,h]
 ·exact h
end
noncomputable section
def A_:List FP2→FP2→FP2
 | [],_=>0
 | c::r,x=>c+x*A_ r x
def PQ:List FP2→List FP2→List FP2
 | [],q=>q
 | p,[]=>p
 | c::p,d::q=>(c+d)::PQ p q
def PR (c:FP2):List FP2→List FP2
 | []=>[]
 | d::q=>c*d::PR c q
def GL:List FP2→List FP2→List FP2
 | [],_=>[]
 | c::p,q=>PQ (PR c q) (0::GL p q)
theorem gD (x:FP2):∀ p q:List FP2,A_ (PQ p q) x=A_ p x+A_ q x
 | [],q=>ring [A_ q x] (a:=A_ q x) (b:=0+A_ q x) (by kernel_rfl)
 | c::p,[]=>ring [A_ (c::p) x] (a:=A_ (c::p) x) (b:=A_ (c::p) x+0) (by kernel_rfl)
 | c::p,d::q=>by
  show c+d+x*A_ (PQ p q) x=c+x*A_ p x+(d+x*A_ q x)
  rw [gD x p q]
  exact ring [c,d,x,A_ p x,A_ q x] (a:=c+d+x*(A_ p x+A_ q x)) (by kernel_rfl)
theorem gE (c x:FP2):∀ q:List FP2,A_ (PR c q) x=c*A_ q x
 | []=>ring [c] (a:=0) (b:=c*0) (by kernel_rfl)
 | d::q=>by
  show c*d+x*A_ (PR c q) x=c*(d+x*A_ q x)
  rw [gE c x q]
  exact ring [c,d,x,A_ q x] (a:=c*d+x*(c*A_ q x)) (by kernel_rfl)
theorem Im (x:FP2):∀ p q:List FP2,A_ (GL p q) x=A_ p x*A_ q x
 | [],q=>ring [A_ q x] (a:=0) (b:=0*A_ q x) (by kernel_rfl)
 | c::p,q=>by
  show A_ (PQ (PR c q) (0::GL p q)) x=(c+x*A_ p x)*A_ q x
  rw [gD,gE]
  show c*A_ q x+(0+x*A_ (GL p q) x)=_
  rw [Im x p q]
  exact ring [c,x,A_ p x,A_ q x] (a:=c*A_ q x+(0+x*(A_ p x*A_ q x))) (by kernel_rfl)
theorem Ws (x a b c d:FP2):NW x a b c d=A_ [a,b,c,d] x:=ring [x,a,b,c,d] (a:=(((0*x+d)*x+c)*x+b)*x+a) (b:=a+x*(b+x*(c+x*(d+x*0)))) (by kernel_rfl)
def Wt:List FP2:=[mo fO,mo fP,mo fQ,mo fR]
def NY:List FP2:=[mo fH,mo fI,mo fJ,0]
def gF:List FP2:=[mo fS,mo fT,mo fU,mo fV]
def gG:List FP2:=[mo fK,mo fL,mo fM,mo fN]
def pSd:List FP2:=[bF,aF,0,1]
theorem ATh (x:FP2):By x=A_ pSd x:=ring [x,aF,bF] (a:=x*x*x+aF*x+bF) (b:=bF+x*(aF+x*(0+x*(1+x*0)))) (by kernel_rfl)
def Wu:List FP2→Bool
 | []=>true
 | d::q=>decide (d=0)&&Wu q
def pz:List FP2→List FP2→Bool
 | [],q=>Wu q
 | c::p,q=>match q with
  | []=>decide (c=0)&&pz p []
  | d::q=>decide (c=d)&&pz p q
theorem AAc (x:FP2):∀ q:List FP2,Wu q=true→A_ q x=0
 | [],_=>rfl
 | d::q,h=>by
  have h:=Bool.and_eq_true_iff.1 (show (decide (d=0)&&Wu q)=true from h)
  show d+x*A_ q x=0
  rw [of_decide_eq_true h.1,AAc x q h.2]
  exact ring [x] (a:=0+x*0) (b:=0) (by kernel_rfl)
theorem Wv (x:FP2):∀ p q:List FP2,pz p q=true→A_ p x=A_ q x
 | [],q,h=>(AAc x q h).symm
 | c::p,[],h=>by
  have h:=Bool.and_eq_true_iff.1 (show (decide (c=0)&&pz p [])=true from h)
  show c+x*A_ p x=0
  rw [of_decide_eq_true h.1,Wv x p [] h.2]
  exact ring [x] (a:=0+x*0) (b:=0) (by kernel_rfl)
 | c::p,d::q,h=>by
  have h:=Bool.and_eq_true_iff.1 (show (decide (c=d)&&pz p q)=true from h)
  show c+x*A_ p x=d+x*A_ q x
  rw [of_decide_eq_true h.1,Wv x p q h.2]
theorem ATi:pz (GL (GL NY NY) NY) (GL gG gG)=true:=by kernel_rfl
theorem ATj:pz (GL pSd (GL gF gF)) (PQ (GL (GL Wt Wt) Wt) (PR C2.b (GL (GL NY NY) NY)))=true:=by kernel_rfl
theorem ATk (x:FP2):DM 1 x=A_ Wt x:=Ws ..
theorem ATl (x:FP2):DM 2 x=A_ NY x:=Ws ..
theorem ATm (x:FP2):DM 3 x=A_ gF x:=Ws ..
theorem ATn (x:FP2):DM 4 x=A_ gG x:=Ws ..
theorem ATo {s b n1 d2 n3 d4 y:FP2} (hd:d2*d2*d2=d4*d4) (hn:s*(n3*n3)=n1*n1*n1+b*(d2*d2*d2)) (h2:d2≠0) (h4:d4≠0) (hy:y*y=s) :
  y*(n3*FD.inv d4)*(y*(n3*FD.inv d4))=n1*FD.inv d2*(n1*FD.inv d2)*(n1*FD.inv d2)+b:=by
 have i2:=FD.mul_inv d2 h2
 have i4:=FD.mul_inv d4 h4
 refine IK (C4 h4 h4) ?_
 have e1:d4*d4*(y*(n3*FD.inv d4)*(y*(n3*FD.inv d4)))=y*y*(n3*n3)*(d4*FD.inv d4*(d4*FD.inv d4)):=ring [y,n3,d4,FD.inv d4] (by kernel_rfl)
 have e2:d2*d2*d2*(n1*FD.inv d2*(n1*FD.inv d2)*(n1*FD.inv d2)+b)=n1*n1*n1*(d2*FD.inv d2*(d2*FD.inv d2)*(d2*FD.inv d2))+b*(d2*d2*d2):=ring [n1,d2,FD.inv d2,b] (by kernel_rfl)
 rw [e1,← hd,e2,i2,i4,hy,Rg.mul_one,Rg.mul_one,Rg.mul_one,Rg.mul_one,hn]
theorem ATp {p1 p2 p3 p4 y s:FP2} (hd:p2*p2*p2=p4*p4) (hn:s*(p3*p3)=p1*p1*p1+C2.b*(p2*p2*p2)) (hy:y*y=s):On C2.b (R6 p1 p2 p3 p4 y):=by
 unfold R6
 cases h2:decide (p2=0) with
 | true=>trivial
 | false=>cases h4:decide (p4=0) with
  | true=>trivial
  | false=>exact ATo hd hn (of_decide_eq_false h2) (of_decide_eq_false h4) hy
theorem ATq {x y:FP2} (h:y*y=By x):On C2.b (NX x y):=by
 unfold NX
 rw [ATk,ATl,ATm,ATn]
 have hd:=Wv x _ _ ATi
 have hn:=Wv x _ _ ATj
 rw [Im,Im,Im] at hd
 rw [Im,Im,gD,Im,Im,gE,Im,Im,← ATh] at hn
 exact ATp hd hn h
theorem AAd (u:FP2):On C2.b (PM (Hk u).1 (Hk u).2):=by
 rw [AAA,z4]
 exact ATq (ATg u)
theorem rhN:rQ*AL hcL % 0x242f7fd3174c30564058aa1817124bdf9e35fcd8882607f0f52b92e68fc2fc9794736c947ce2977d47fd11494865d54177840aa2a7660d227a1f89c6d79d62873b5197d4f43e0922476e59b4c8906fa3b229b121cb6487be3754c31c1062f=0:=by kernel_rfl
theorem ATs {p:P2} (hp:On C2.b p) (n:Nat) (h:oN∣n):smul n p=.inf:=by
 obtain ⟨k,rfl⟩:=h
 rw [F5 C2 hp,AN5 hp]
 exact F6 k
theorem ATt {p:P2} (hp:On C2.b p):On C2.b (C5 Lj p)∧smul rN (C5 Lj p)=.inf:=by
 have e:C5 Lj p=smul Lj p:=if_pos ((IT p).2 hp)
 rw [e]
 refine ⟨Bf C2 hp _,?_⟩
 rw [← F5 C2 hp]
 refine ATs hp _ ?_
 rw [vM,AAD,rN_eq]
 exact Nat.dvd_of_mod_eq_zero (by rw [Nat.mul_comm];exact rhN)
theorem ATu (u v:FP2):On C2.b (PN u v)∧smul rN (PN u v)=.inf:=by
 rw [AAG]
 exact ATt (IN C2 (AAd u) (AAd v))
theorem AAe (x d:List Int):On C2.b (J5 x d)∧smul rN (J5 x d)=.inf:=by
 rw [AAL]
 exact ATu _ _
end
noncomputable section
def SUf0:List (FuncId×ASpec):=(98,addlSpec)::SCl1
theorem ATv:AM Tryz.prog SUf0:=⟨mX,AAW⟩
abbrev oUf0:Orc:=AJ SUf0 KV
theorem ATw:OrcOk Tryz.prog oUf0:=AN ATv BR
def AAf (a b:Nat):Nat:=Ky (EV a) 0 4 (EV b) 0 4
def PS (a b:Nat):List Int:=List.take 4 (List.drop 0 (Dh (AAf a b) 4 4))++[((GT (EV a) 0 4 (EV b) 0 4 4:Nat):Int)]
theorem ATx (a b:Nat):AX Tryz.prog oUf0 Tryz.f36 [DK a,DK b] [] 300=some (tt 9 ((Nat.ble (0+(4+1)) (PS a b).length,true)::(true,true)::[]),DK (AL (AA (PS a b) 0 5) % rN)):=by kernel_rfl
theorem ATy {a b:Nat} (ha:a<R4) (hb:b<R4):AL (AA (PS a b) 0 5)=a+b:=by
 have e1:AAf a b=a+b:=by
  show AL (AA (EV a) 0 4)+AL (AA (EV b) 0 4)=a+b
  rw [LS ha,LS hb]
 have e2:GT (EV a) 0 4 (EV b) 0 4 4=(a+b) / R4:=by
  show HL (AL (AA (EV a) 0 4)) (AL (AA (EV b) 0 4)) 4=_
  rw [LS ha,LS hb]
  unfold HL
  rw [← NB,Nat.mod_eq_of_lt ha,Nat.mod_eq_of_lt hb]
 have h5:a+b<P5:=by unfold R4 at ha hb;unfold P5;omega
 have e3:PS a b=wl 5 (a+b):=by
  have e4:((a+b) / R4:Nat)=(a+b) / 2^(64*4) % 2^64:=by
   rw [← NB,Nat.mod_eq_of_lt]
   unfold R4 at *
   omega
  unfold PS
  rw [e1,e2,e4]
  rfl
 rw [e3,ARz h5]
theorem ATz {a b:Nat} (ha:a<R4) (hb:b<R4):AW Tryz.prog 36 [DK a,DK b] (DK ((a+b) % rN)):=by
 have h:=Ac ATw AE Tryz.func36 (ATx a b) (Ab 9 ⟨Nat.ble_eq_true_of_le (by simp [PS,Dh]),rfl,trivial⟩) rfl
 rw [ATy ha hb] at h
 exact h
def gH (g:Nat→Nat→AV):List AV→Option AV
 | [.val true a,.val true b]=>match B8 4 a,B8 4 b with
  | some x,some y=>some (g x y)
  | _,_=>none
 | _=>none
theorem AT0 {f:FuncId} {g:Nat→Nat→AV} (h:∀ x y,x<R4→y<R4→AW Tryz.prog f [DK x,DK y] (g x y)):∀ args v,gH g args=some v→AW Tryz.prog f args v:=by
 intro args v hs us w ha
 unfold gH at hs
 split at hs
 case h_2=>cases hs
 rename_i a b
 split at hs
 case h_2=>cases hs
 rename_i x y hx hy
 injection hs with hs;subst hs
 obtain ⟨u1,us1,⟨l,q,rfl⟩,⟨u2,us2,⟨l2,q2,rfl⟩,ha,rfl⟩,rfl⟩:=ha
 obtain ⟨_,h1⟩:=EO hx q
 obtain ⟨_,h2⟩:=EO hy q2
 exact h x y (by rw [NB];exact h1) (by rw [NB];exact h2) _ w ⟨_,_,⟨l,Ef hx q,rfl⟩,⟨_,_,⟨l2,Ef hy q2,rfl⟩,ha,rfl⟩,rfl⟩
def SUf1:List (FuncId×ASpec):=(36,As (gH fun x y=>DK ((x+y) % rN)))::SCl1
theorem AAg:AM Tryz.prog SUf1:=⟨Av Tryz.func36 (by kernel_rfl) (by kernel_rfl) (AT0 fun _ _ h1 h2=>ATz h1 h2),AAW⟩
abbrev gJ:Orc:=AJ SUf1 KV
end
noncomputable section
noncomputable def R9 (n:Nat):Nat:=match decide (n=0) with
 | true=>1
 | false=>n
noncomputable def Hm (xs:List Int):Nat:=R9 (AT (AA xs 0 32) % rN)
def PT (l:List Int):Heap:=[(2,some ⟨22,[.seq .u8 l],false⟩)]
def PU:AV:=.val false [.sl 2 0 32 32]
noncomputable def gK (xs:List Int) (p:List Bool):ASt:=Ah Tryz.f39 [.val true [.seq .u8 xs]] [] 0 p
noncomputable def kyC (xs:List Int) (b:Bool):List (Bool×Bool):=[(Nat.ble 32 xs.length,true),(true,true),(decide (AT (AA xs 0 32) % rN=0),b)]
theorem AT1 (xs:List Int):AQ Tryz.prog gJ Tryz.f39 300 0 [2] (gK xs [false])=some (kyC xs false,[],PU,PT (BB (AT (AA xs 0 32) % rN % rN) 32)):=by kernel_rfl
theorem AT2 (xs:List Int):AQ Tryz.prog gJ Tryz.f39 300 0 [2] (gK xs [true])=some (kyC xs true,[],PU,PT (BB (1 % rN) 32)):=by kernel_rfl
theorem AT3 {xs:List Int} (h:32≤xs.length):AY Tryz.prog 39 [.val true [.seq .u8 xs]] [] 0 [] PU (PT (BB (Hm xs) 32)):=by
 have run:∀ {p c l},AQ Tryz.prog gJ Tryz.f39 300 0 [2] (gK xs p)=some (c,[],PU,PT l)→AP c→AY Tryz.prog 39 [.val true [.seq .u8 xs]] [] 0 [] PU (PT l):=fun hr hc =>
  BA AAg BR Tryz.func39 (by kernel_rfl) (by kernel_rfl) hr (by kernel_rfl) hc
 unfold Hm R9
 cases hd:decide (AT (AA xs 0 32) % rN=0) with
 | true =>
  have:=run (AT2 xs) ⟨Nat.ble_eq_true_of_le h,rfl,hd,trivial⟩
  rw [Nat.mod_eq_of_lt cC] at this
  exact this
 | false =>
  have:=run (AT1 xs) ⟨Nat.ble_eq_true_of_le h,rfl,hd,trivial⟩
  rw [Nat.mod_mod] at this
  exact this
noncomputable def kySp:ASpec:=fun args _ fr path=>match args with
 | [.val true a]=>match Ak .u8 a with
  | some xs=>some (Az [] 0 fr 3 [] PU (PT (BB (Hm xs) 32)) [(Nat.ble 32 xs.length,true)] path)
  | none=>none
 | _=>none
theorem AT4:A6 Tryz.prog 39 kySp:=by
 refine CJ Tryz.func39 (by kernel_rfl) (by kernel_rfl) fun args H0 fr path r hs=>?_
 unfold kySp at hs
 split at hs
 case h_2=>cases hs
 rename_i a
 split at hs
 case h_2=>cases hs
 rename_i xs hx
 injection hs with hs
 refine ⟨[],0,3,[],_,_,_,_,hs.symm,fun β us w ha hgd hc=>?_⟩
 obtain ⟨u1,us1,⟨l,q,rfl⟩,ha,rfl⟩:=ha
 obtain ⟨q1,q2⟩:=Bu hx q
 exact ⟨[.val true [.seq .u8 xs]],[],AT3 (Nat.le_of_ble_eq_true hc.1),by kernel_rfl,⟨_,_,⟨l,⟨l,[],⟨q1,q2⟩,rfl,by simp⟩,rfl⟩,ha,rfl⟩,yD,fun k hk=>by omega⟩
noncomputable def SUg:List (FuncId×ASpec):=(39,kySp)::SUf1
theorem AT5:AM Tryz.prog SUg:=⟨AT4,AAg⟩
noncomputable abbrev oUg:Orc:=AJ SUg KV
end
noncomputable section
def Eu (f:Nat→Int):List Int:=(List.range 32).map f
def In (f:Nat→Int):List Int:=BB (Hm (Eu f)) 32
noncomputable def bmS (n m:Nat) (f g:Nat→Int) (xs:List Int) (p:List Bool):ASt:=Ah Tryz.f6 [.val true [.seq .u8 (Eu f)],.val true [.seq .u8 (Eu g)],AK 0 0 n m] [(0,AU [.seq .u8 xs])] 1 p
def bmP:List Bool:=[false,false,false,false,false,false,true,false,true,false,false,false]
def Io (n:Nat) (l xs:List Int):P2:=R7 (AA l 0 32) (AA xs 0 n) tagM
def sA2 (p q:P2):P2:=Rg.add (JX (cD p)) (JX q)
def G5 (n:Nat) (f g:Nat→Int) (xs:List Int):P2:=JX (sA2 (Vv (DU true (Io n (In f) xs)) 96) (Vv (DU true (Io n (In g) xs)) 96))
def Ip (f g:Nat→Int):Nat:=(AT (AA (In f) 0 32) % rN+AT (AA (In g) 0 32) % rN) % rN % rN
noncomputable def Ww (n m:Nat) (f g:Nat→Int) (xs:List Int) (p:List Bool):=AQ Tryz.prog oUg Tryz.f6 800 1 [] (bmS n m f g xs p)
def Wx (n:Nat) (xs l:List Int) (r:List (Bool×Bool)):List (Bool×Bool):=(B7 32 (AT (AA l 0 32)),true)::(Nat.ble (0+n) xs.length,true)::(Nat.ble n 4398046511104,true)::(PP tagM,true)::(BX (Io n l xs),true)::r
def gL (P:P2) (r:List (Bool×Bool)):List (Bool×Bool):=(Nat.ble 96 (DU true P).length,true)::tt 2 ((!decide ((HT true (AA (DU true P) 0 96)).2=0),false)::r)
def gM (n:Nat) (f g:Nat→Int) (xs:List Int) (r:List (Bool×Bool)):List (Bool×Bool) :=
 (AI .i64 n,true)::(decide ((300:Int)<n),false)::tt 9 (Wx n xs (In f) (tt 3 (Wx n xs (In g) ((true,true)::(false,false)::tt 3 (gL (Io n (In f) xs) (tt 2 (gL (Io n (In g) xs) ((false,false)::(BX (G5 n f g xs),true)::(Nat.ble (32-0) (BB (Ip f g) 32).length,true)::tt 2 r))))))))
section
variable (n m:Nat) (f g:Nat→Int) (xs:List Int)
theorem AT8:Ww n m f g xs [true]=some ([(AI .i64 n,true),(decide ((300:Int)<n),true)],[],.val false [.b true],[]):=by kernel_rfl
theorem AT9:Ww n m f g xs (bmP++[false,false])=some (gM n f g xs (Wx n xs (BB (Ip f g) 32) ((Nat.ble (0+96) (DU true (G5 n f g xs)).length,true)::(Nat.ble (0+96) (DU true (Io n (BB (Ip f g) 32) xs)).length,true)::tt 2 [])),[],
 CI (JZ (RS (G5 n f g xs)) (RS (Io n (BB (Ip f g) 32) xs))),[]):=by kernel_rfl
theorem AT_:Ww n m f g xs (bmP++[true,true])=some (gM n f g xs ((B7 32 (AT (AA (BB (Ip f g) 32) 0 32)),false)::(Nat.ble 96 (DU true (G5 n f g xs)).length,true)::tt 2 ((bS (HT true (RS (G5 n f g xs))).1 .inf,true)::[])),[],
 CI (decide ((HT true (RS (G5 n f g xs))).2=0)),[]):=by kernel_rfl
end
end
theorem AT' {x:Nat} (h:x<rN):0<R9 x∧R9 x<rN:=by
 unfold R9
 cases hd:decide (x=0) with
 | true=>exact ⟨Nat.one_pos,cC⟩
 | false=>exact ⟨Nat.pos_of_ne_zero (of_decide_eq_false hd),h⟩
theorem J6 (xs:List Int):0<Hm xs∧Hm xs<rN:=AT' (Nat.mod_lt _ RM)
theorem Wy {k:Nat} (h:k<rN):AT (AA (BB k 32) 0 32)=k:=by
 rw [rH (HQ ..),ZX,show (256:Nat)^32=R4 by decide]
 exact Nat.mod_eq_of_lt (Nat.lt_trans h RK)
theorem AAk {k:Nat} (h:k<rN):B7 32 (AT (AA (BB k 32) 0 32))=!decide (k=0):=by
 rw [Wy h]
 cases hd:decide (k=0) with
 | true =>
  cases hs:B7 32 k with
  | false=>rfl
  | true=>exact absurd (of_decide_eq_true hd) (NC.1 hs).2.2
 | false=>exact NC.2 ⟨rfl,h,of_decide_eq_false hd⟩
noncomputable def R_ (n:Nat) (xs:List Int):P2:=J5 (AA xs 0 n) (AA (EY tagM) 0 tagM.size)
theorem SA {k n:Nat} {xs:List Int} (h:k<rN):Io n (BB k 32) xs=smul k (R_ n xs):=by
 unfold Io
 rw [f8,Wy h]
 exact if_pos ((IT _).2 (AAe _ _).1)
theorem Wz (n:Nat) (xs:List Int):On C2.b (R_ n xs)∧smul rN (R_ n xs)=.inf:=AAe _ _
theorem gN {p:P2} (h:On C2.b p∧smul rN p=.inf) (k:Nat):BX (smul k p)=true:=by
 unfold BX
 rw [(IT _).2 (Bf C2 h.1 k),VS C2 h.1,h.2,F6];rfl
theorem AUA {p:P2} (h:On C2.b p∧smul rN p=.inf) (N:Nat):smul (N % rN) p=smul N p:=by
 have e:=Nat.mod_add_div N rN
 have:smul N p=smul (N % rN+rN*(N / rN)) p:=by rw [e]
 rw [this,F4 C2 h.1,F5 C2 h.1,h.2,F6,LB]
theorem gO {p:P2} (h:BX p=true):HT true (AA (DU true p) 0 96)=(p,0):=ANM h true
theorem AAl {p:P2} (h:BX p=true):Vv (DU true p) 96=p:=by unfold Vv;rw [gO h]
section
variable {n m:Nat} {f g:Nat→Int} {xs:List Int}
theorem AAm:Ip f g=(Hm (Eu f)+Hm (Eu g)) % rN:=by
 unfold Ip In
 rw [Wy (J6 _).2,Wy (J6 _).2,Nat.mod_mod,← Nat.add_mod]
theorem AAn:G5 n f g xs=smul (Hm (Eu f)+Hm (Eu g)) (R_ n xs):=by
 unfold G5 sA2 In
 rw [SA (J6 _).2,SA (J6 _).2,AAl (gN (Wz n xs) _),AAl (gN (Wz n xs) _),AOv,F4 C2 (Wz n xs).1]
 simp only [vA]
theorem gP {v:AV} {c:List (Bool×Bool)} {p:List Bool} (h:Ww n m f g xs p=some (c,[],v,[])) (hc:AP c):AY Tryz.prog 6 [.val true [.seq .u8 (Eu f)],.val true [.seq .u8 (Eu g)],AK 0 0 n m] [(0,AU [.seq .u8 xs])] 1 [] v [] :=
 BA AT5 BR Tryz.func6 (by kernel_rfl) (by kernel_rfl) h (by kernel_rfl) hc
theorem AUB (a0:n≤xs.length) (c0:AI .i64 (n:Int)=true):AY Tryz.prog 6 [.val true [.seq .u8 (Eu f)],.val true [.seq .u8 (Eu g)],AK 0 0 n m] [(0,AU [.seq .u8 xs])] 1 [] (CI true) []:=by
 cases d0:decide ((300:Int)<(n:Int)) with
 | true=>exact AOw (gP (AT8 n m f g xs) ⟨c0,d0,trivial⟩)
 | false =>
 have k1:n≤300:=by have:¬ (300:Int)<(n:Int):=of_decide_eq_false d0;omega
 have b1:Nat.ble (0+n) xs.length=true:=Nat.ble_eq_true_of_le (by omega)
 have y1:Nat.ble n 4398046511104=true:=Nat.ble_eq_true_of_le (by omega)
 have hr:=Wz n xs
 have hi:=fun k=>gN hr k
 have hZ:BX (G5 n f g xs)=true:=by rw [AAn];exact hi _
 have sg:∀ {k:Nat} {r},0<k→k<rN→AP r→AP (Wx n xs (BB k 32) r):=fun h0 h1 h =>
  ⟨by rw [AAk h1,decide_eq_false (by omega)];rfl,b1,y1,ATT,by rw [SA h1];exact hi _,h⟩
 have dc:∀ {p:P2} {r},BX p=true→AP r→AP (gL p r):=fun hp h=>⟨Vw _ (by decide),Ab 2 ⟨by rw [gO hp];rfl,h⟩⟩
 have hW:∀ l,BX (Io n (BB (Hm l) 32) xs)=true:=fun l=>by rw [SA (J6 l).2];exact hi _
 have main:∀ {r},AP r→AP (gM n f g xs r):=fun h =>
  ⟨c0,d0,Ab 9 (sg (J6 _).1 (J6 _).2 (Ab 3 (sg (J6 _).1 (J6 _).2 ⟨rfl,rfl,Ab 3 (dc (hW _) (Ab 2 (dc (hW _) ⟨rfl,hZ,by rw [HQ];rfl,Ab 2 h⟩)))⟩)))⟩
 have hK:Ip f g<rN:=by rw [AAm];exact Nat.mod_lt _ RM
 have eK:smul (Ip f g) (R_ n xs)=G5 n f g xs:=by rw [AAm,AUA hr,AAn]
 by_cases h0:Ip f g=0
 ·have eZ:G5 n f g xs=.inf:=by rw [← eK,h0];rfl
  have hd:HT true (RS (G5 n f g xs))=(.inf,0):=by rw [eZ];exact gO AKx
  have r:=gP (AT_ n m f g xs) (main ⟨by rw [AAk hK,decide_eq_true h0];rfl,Vw _ (by decide),Ab 2 ⟨by rw [hd];exact ANP rfl,trivial⟩⟩)
  rw [hd] at r
  exact r
 ·have r:=gP (AT9 n m f g xs) (main (sg (Nat.pos_of_ne_zero h0) hK ⟨Vw _ (by decide),Vw _ (by decide),Ab 2 trivial⟩))
  rw [SA hK,eK,wO] at r
  exact r
end
theorem AAo {k:IntKind}:∀ {n:Nat} {l:List Value},Dc (List.replicate n (some k)) l→∃ xs:List Int,xs.length=n∧l=xs.map (.int k)∧∀ x∈xs,has k x
 | 0,[],_=>⟨[],rfl,rfl,by simp⟩
 | 0,_::_,h=>by cases h
 | n+1,[],h=>by cases h
 | n+1,v::r,h=>by
  have h':Dc (some k::List.replicate n (some k)) (v::r):=h
  cases v<;>simp only [Dc] at h'
  rename_i k' i
  obtain ⟨rfl,hi,h'⟩:=h'
  obtain ⟨xs,h1,h2,h3⟩:=AAo h'
  exact ⟨i::xs,by simp [h1],by simp [h2],fun x hx=>by
   rcases List.mem_cons.1 hx with rfl | hx
   ·exact hi
   ·exact h3 x hx⟩
theorem AUC:∀ (xs:List Int),(List.range xs.length).map (fun i=>xs.getD i 0)=xs:=fun xs=>by
 refine List.ext_getElem (by simp) fun i h1 h2=>?_
 simp at h1
 simp [h1]
theorem AUD:ME Tryz.prog 40 22=some (List.replicate 32 (some .u8)):=by kernel_rfl
theorem AUE:YH Tryz.prog 22=true:=by kernel_rfl
theorem AAp {H:Type} {enc:TypeId×Value→H} {W:World} {base:Nat} {v:Value} {d:DataW H} {p:List MemPlace} (hv:Value.okWide Tryz.prog W .any base 22 v) (ht:DataW.Trod enc Tryz.prog W 0 (fun _=>true) true 22 v d p) :
  ∃ f:Nat→Int,∀ β:Env,AG β (.val true [.seq .u8 (Eu f)]) v:=by
 obtain ⟨l,rfl,hl⟩:=AB_ AUD AUE hv ht
 obtain ⟨xs,h1,rfl,h3⟩:=AAo hl
 refine ⟨fun i=>xs.getD i 0,fun β=>?_⟩
 have e:Eu (fun i=>xs.getD i 0)=xs:=by unfold Eu;rw [← h1];exact AUC xs
 rw [e]
 exact ⟨_,⟨_,[],⟨rfl,h3⟩,rfl,by simp⟩,rfl⟩
theorem blsSums_walk:YI Tryz.prog 6 Tryz.f6:=AGT fun H enc us W base ds ps hv hA=>by
 have hp:Tryz.f6.params.toList=[22,22,28]:=by kernel_rfl
 have hp':Tryz.f6.params=#[22,22,28]:=by kernel_rfl
 rw [hp] at hA
 rw [hp'] at hv
 obtain ⟨v1,us1,d1,ds1,p1,q1,rfl,rfl,t1,hA⟩:=Y6 hA
 obtain ⟨v2,us2,d2,ds2,p2,q2,rfl,rfl,t2,hA⟩:=Y6 hA
 obtain ⟨v3,us3,d3,ds3,p3,q3,rfl,rfl,t3,hA⟩:=Y6 hA
 obtain rfl:=args0 hA rfl
 obtain ⟨f,r0⟩:=AAp (hv 0 _ v1 rfl rfl) t1
 obtain ⟨g,r1⟩:=AAp (hv 1 _ v2 rfl rfl) t2
 obtain ⟨L0,z0,n0,m0,y0,a0,b0,c0,r2,A0⟩:=AMQ (hv 2 _ v3 rfl rfl) t3 (ArgsOk.nil W)
 refine ⟨_,_,[.val true [.seq .u8 (Eu f)],.val true [.seq .u8 (Eu g)],AK 0 0 n0 m0],A0,⟨v1,_,r0 _,⟨v2,_,r1 _,⟨v3,_,r2,rfl,rfl⟩,rfl⟩,rfl⟩,?_⟩
 exact AUB a0 c0
end Go.Proofs.YtojnabmgolpodaaGreat
