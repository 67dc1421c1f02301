/- Part 7 of the proof: Yd, Ye, Yf, Ca, Cb, Cc, Cd, Ce, Cf, Cg, Ch, Ci, Cj, Ck, Cl, Cm, Cn. -/
import Derived.Test.YtjlcdlekmpjjnaaGreatPF
import Derived.Test.YtjlcdlekmpjjnaaGreatPE
import Derived.Test.YtjlcdlekmpjjnaaGreatPD
namespace Go.Proofs.YtjlcdlekmpjjnaaGreat
open Ex Num Rg
open Sh (R av rd mo en mo_en)
set_option maxRecDepth 100000
set_option maxHeartbeats 4000000
noncomputable def SYd0:List (FuncId×ASpec):=(237,modSp3)::(SYb++(SVg++(SQt++SQg)))
theorem AD5:AX Tryz.prog SYd0:=⟨AZU,K3 AD1 (K3 ACi (K3 ACD ACA))⟩
noncomputable abbrev AZV:Orc:=AH SYd0 KV
noncomputable def Q3:List Int:=AA RL (0+0*1) (4-0)
theorem m8:AF Q3=rN:=XL
noncomputable def JL (off n:Nat) (xs:List Int):Nat:=AF (AA xs off n) % AF Q3
noncomputable def AD6 (off n:Nat) (xs:List Int):List Ch:=[.v (.int .u64 ((wl 5 (JL off n xs)).getD (0+Int.toNat 0*1) 0)),.v (.int .u64 ((wl 5 (JL off n xs)).getD (0+Int.toNat 1*1) 0)),.v (.int .u64 ((wl 5 (JL off n xs)).getD (0+Int.toNat 2*1) 0)),.v (.int .u64 ((wl 5 (JL off n xs)).getD (0+Int.toNat 3*1) 0))]
theorem AZW (off n m:Nat) (xs:List Int):AM Tryz.prog AZV Tryz.f179 300 1 [] (Af Tryz.f179 [AI 0 off n m] (Az xs) 1 []) =
 some ((Nat.ble (off+n) xs.length,true)::(true,true)::(Nat.ble n 17592186044415,true)::(true,true)::(Nat.blt 0 (AA xs off n).length,true)::(true,true)::(Nat.blt 1 (AF Q3),true)::(Nat.blt (AF Q3+AF Q3+1) P5,true)::(true,true) ::
  (decide (0+Int.toNat 0*1<(wl 5 (JL off n xs)).length),true)::(true,true)::(decide (0+Int.toNat 1*1<(wl 5 (JL off n xs)).length),true)::(true,true)::(decide (0+Int.toNat 2*1<(wl 5 (JL off n xs)).length),true)::(true,true)::(decide (0+Int.toNat 3*1<(wl 5 (JL off n xs)).length),true)::[],[],.val true (AD6 off n xs),[]):=by kernel_rfl
theorem AZX (off n:Nat) (xs:List Int):CP 4 (AD6 off n xs)=some (AF (wl 4 (JL off n xs))):=by kernel_rfl
theorem AZY:Nat.blt (rN+rN+1) P5=true:=by rw [rN_eq];kernel_rfl
theorem AZZ:Nat.blt 1 rN=true:=by rw [rN_eq];kernel_rfl
theorem AZa {off n m:Nat} {xs:List Int} (hl:off+n≤xs.length) (hn:n≤17592186044415) (h0:0<n):Ad Tryz.prog 179 [AI 0 off n m] (Az xs) 1 [] (GF (AF (AA xs off n) % rN)) []:=by
 refine BU (A2 AD5 A9 Tryz.func179 (by kernel_rfl) (by kernel_rfl) (AZW off n m xs) (by kernel_rfl) ?_) fun β u hu=>?_
 ·rw [CN hl,m8,Hk]
  exact ⟨Nat.ble_eq_true_of_le hl,rfl,Nat.ble_eq_true_of_le hn,rfl,A8.2 h0,rfl,AZZ,AZY,rfl,rfl,rfl,rfl,rfl,rfl,rfl,rfl,trivial⟩
 ·obtain ⟨l,q,rfl⟩:=hu
  have h:=EO (β':=β) (AZX off n xs) q
  unfold JL at h
  rw [m8,T4 (by rw [← Xw];exact j6 _)] at h
  exact ⟨l,h,rfl⟩
def m9 (g:List Int→AV):ASpec:=fun args H fr path=>match args with
 | [S]=>match By S with
  | some (k,o,n)=>match AG H k with
   | some ⟨_,cs,_⟩=>match Ao .u64 cs with
    | some xs=>some (A5 [k] 1 fr 0 [] (g (AA xs o n)) [] [(Nat.ble (o+n) xs.length,true),(Nat.ble n 17592186044415,true),(Nat.blt 0 n,true)] path)
    | none=>none
   | none=>none
  | none=>none
 | _=>none
theorem AZb {F:FuncId} {fn:Func} {g:List Int→AV} (hfn:Tryz.prog.funcs[F]? = some fn) (hb:fn.body.isSome=true) (hname:(fn.name=="runtime.NumGoroutine")=false) (hk:∀ a,Cu 1 0 [] (g a) []=true)
  (h:∀ {off n m:Nat} {xs:List Int},off+n≤xs.length→n≤17592186044415→0<n→Ad Tryz.prog F [AI 0 off n m] (Az xs) 1 [] (g (AA xs off n)) []):A6 Tryz.prog F (m9 g):=by
 refine CS hfn hb hname fun args H fr path r hs=>?_
 unfold m9 at hs
 split at hs
 case h_2=>cases hs
 rename_i S
 split at hs
 case h_2=>cases hs
 rename_i k o n hS
 split at hs
 case h_2=>cases hs
 rename_i ty cs op hk'
 split at hs
 case h_2=>cases hs
 rename_i xs hxs
 injection hs with hs
 refine ⟨[k],1,0,[],_,_,_,path,hs.symm,fun β us w ha hg hc=>?_⟩
 obtain ⟨u1,us1,r1,ha,rfl⟩:=ha
 obtain ⟨m,r1⟩:=DF hS r1
 obtain ⟨g1,g2,g3⟩:=HU hg hk' hxs
 exact ⟨[AI 0 o n m],Az xs,h (Nat.le_of_ble_eq_true hc.1) (Nat.le_of_ble_eq_true hc.2.1) (A8.1 hc.2.2.1),hk _,⟨u1,_,BS (by omega) rfl r1,ha,rfl⟩,g2,g3⟩
noncomputable def SYd1:List (FuncId×ASpec):=(179,m9 fun l=>GF (AF l % rN))::SYd0
theorem AZc:AX Tryz.prog SYd1:=⟨AZb Tryz.func179 (by kernel_rfl) (by kernel_rfl) (fun _=>rfl) fun hl hn h0=>AZa hl hn h0,AD5⟩
noncomputable def SYd2:List (FuncId×ASpec):=SYd1
theorem Uk:AX Tryz.prog SYd2:=AZc
noncomputable abbrev nA:Orc:=AH SYd2 KV
theorem AZd (off n m:Nat) (xs:List Int):AM Tryz.prog nA Tryz.f183 300 1 [] (Af Tryz.f183 [AI 0 off n m] (Au xs) 1 [true])=some ([(AJ .i64 n,true),(!decide ((n:Int)=32),true)],[],Xz 60,[]):=by kernel_rfl
noncomputable def Y' (off:Nat) (xs:List Int) (b:Bool) (r:List (Bool×Bool)):List (Bool×Bool):=(true,true)::(false,false)::(Nat.ble (off+32) xs.length,true)::(true,true)::(Nat.ble (0+(32+7) / 8) (HM off 32 xs).length,true)::(true,true)::(true,true)::(true,true)::(decide (0≤C6 (AF (AA (HM off 32 xs) 0 ((32+7) / 8))) (AF Q3)),b)::r
theorem AZe (off m:Nat) (xs:List Int):AM Tryz.prog nA Tryz.f183 300 1 [] (Af Tryz.f183 [AI 0 off 32 m] (Au xs) 1 [false,true])=some (Y' off xs true [],[],Xz 61,[]):=by kernel_rfl
theorem AZf (off m:Nat) (xs:List Int):AM Tryz.prog nA Tryz.f183 300 1 [] (Af Tryz.f183 [AI 0 off 32 m] (Au xs) 1 [false,false]) =
 some (Y' off xs false [(Nat.ble (0+(32+7) / 8) (HM off 32 xs).length,true),(true,true),(true,true)],[],.tup [(true,[.num 4 (AF (AA (HM off 32 xs) 0 ((32+7) / 8)) % rN)]),(false,[.n .i64 0])],[]):=by kernel_rfl
theorem AZg {off n m:Nat} {xs:List Int} (hx:∀ d∈xs,0≤d∧d<256) (hl:off+n≤xs.length) (hn:AJ .i64 n=true) :
  Ad Tryz.prog 183 [AI 0 off n m] (Au xs) 1 [] (IN n (AT (AA xs off n))) []:=by
 by_cases h:n=32
 ·subst h
  have hF:Nat.ble (0+(32+7) / 8) (HM off 32 xs).length=true:=Nat.ble_eq_true_of_le (by unfold HM;simp)
  have e:=mR hx hl
  have hc:∀ b,decide (rN≤AT (AA xs off 32))=b→∀ r,AQ r→AQ (Y' off xs b r):=fun b hb r hr=>by
   unfold Y'
   rw [e,m8,AD4]
   exact ⟨rfl,rfl,Nat.ble_eq_true_of_le hl,rfl,hF,rfl,rfl,rfl,hb,hr⟩
  by_cases hN:AT (AA xs off 32)<rN
  ·have hr:=AZf off m xs
   rw [e,Nat.mod_eq_of_lt hN] at hr
   refine BU (A2 Uk A9 Tryz.func183 (by kernel_rfl) (by kernel_rfl) hr (by kernel_rfl) (hc false (decide_eq_false (by omega)) _ ⟨hF,rfl,rfl,trivial⟩)) fun β u hu=>?_
   unfold IN Bp D5
   rw [if_pos ⟨rfl,hN⟩,if_pos rfl,if_pos hN]
   exact Cy (fun _ q=>q) (fun _ q=>Df rfl q) hu
  ·refine BU (A2 Uk A9 Tryz.func183 (by kernel_rfl) (by kernel_rfl) (AZe off m xs) (by kernel_rfl) (hc true (decide_eq_true (by omega)) _ trivial)) fun β u hu=>?_
   unfold IN Bp D5
   rw [if_neg (fun q=>hN q.2),if_pos rfl,if_neg hN]
   exact Cy (fun _ q=>X0 q) (fun _ q=>Df rfl q) hu
 ·refine BU (A2 Uk A9 Tryz.func183 (by kernel_rfl) (by kernel_rfl) (AZd off n m xs) (by kernel_rfl) ⟨hn,by simp;omega,trivial⟩) fun β u hu=>?_
  unfold IN Bp D5
  rw [if_neg (fun q=>h q.1),if_neg h]
  exact Cy (fun _ q=>X0 q) (fun _ q=>Df rfl q) hu
noncomputable def SYe:List (FuncId×ASpec):=SYd2
theorem AZh:AX Tryz.prog SYe:=Uk
theorem AZi:A6 Tryz.prog 183 (Pm fun n l=>IN n (AT l)):=fS Tryz.func183 (by kernel_rfl) (by kernel_rfl) (fun _ _=>rfl) fun _ _ _ _ hx hl hn=>AZg hx hl hn
noncomputable def SYf0:List (FuncId×ASpec):=(183,Du (Pm fun n l=>IN n (AT l)))::SYe
theorem AD7:AX Tryz.prog SYf0:=⟨EM AZi,AZh⟩
noncomputable abbrev oYf0:Orc:=AH SYf0 KV
theorem AZj:OrcOk Tryz.prog oYf0:=AK AD7 A9
noncomputable def SYf1:List (FuncId×ASpec):=(117,BY Tryz.prog oYf0 Tryz.f117 300)::SYf0
theorem ZA:AX Tryz.prog SYf1:=⟨Bj AZj AB Tryz.func117 (by kernel_rfl) (by kernel_rfl) 300,AD7⟩
noncomputable abbrev nC:Orc:=AH SYf1 KV
noncomputable abbrev ZB:Func:=Tryz.f45
section
variable (n m:Nat) (xs:List Int)
noncomputable def nF (p:List Bool):ASt:=Af ZB [AI 0 0 n m] (Au xs) 1 p
noncomputable def nG (b:Bool) (r:List (Bool×Bool)):List (Bool×Bool):=(Nat.ble (0+n) xs.length,true)::(AJ .i64 n,true)::(!decide (D5 n (AT (AA xs 0 n))=0),b)::r
theorem AZk:AM Tryz.prog nC ZB 300 1 [] (nF n m xs [true])=some (nG n xs true [],[],.tup [(false,[.v (.slice none 0 0)]),(false,[.n .i64 210])],[]):=by kernel_rfl
theorem AZl:AM Tryz.prog nC ZB 300 1 [] (nF n m xs [false,true])=some (nG n xs false [(decide (Bp n (AT (AA xs 0 n))=zN),true)],[],.tup [(false,[.v (.slice none 0 0)]),(false,[.n .i64 210])],[]):=by kernel_rfl
noncomputable def nJ (N:Nat):List Int:=[]++(MZ N)
noncomputable def ZC (N:Nat):Pt FP:=Es (AF (AA (nJ N) 0 (0+(4-0)))) (Ah (Cz G1B) (BT G1B) (BL G1B))
noncomputable def ZD (N:Nat):Pt FP:=Ah (Cz (ZC N)) (BT (ZC N)) (BL (ZC N))
def nK:AV:=.tup [(false,[.sx 8 48 1]),(false,[.n .i64 0])]
def nL (l:List Int):Heap:=[(8,some ⟨5,[.seq .u8 l],true⟩)]
theorem AZm:AM Tryz.prog nC ZB 300 1 [8] (nF n m xs [false,false,false])=some (nG n xs false ((decide (Bp n (AT (AA xs 0 n))=zN),false)::(true,true)::(true,true)::(Nat.ble (0+(0+(4-0))) (nJ (Bp n (AT (AA xs 0 n)))).length,true)::(true,true)::(Bh (ZD (Bp n (AT (AA xs 0 n)))),true)::[]),[],nK,nL (HK true (ZD (Bp n (AT (AA xs 0 n)))))):=by kernel_rfl
end
section
variable (o1 n1 m1 o2 n2 m2:Nat) (x1 x2 y:List Int) (i:Int)
end
section
variable {o1 n1 m1 o2 n2 m2:Nat} {x1 x2:List Int} (h1:o1+n1≤x1.length) (h2:o2+n2≤x2.length) (hn1:n1≤4398046511104) (hn2:n2≤4398046511104) {β0:Env} {w0:World} (hb:∀ b,2≤b→β0 b=none)
include h1 h2 hn1 hn2 hb
end
theorem AZn {N:Nat} (h:N<R4):AF (AA (nJ N) 0 (0+(4-0)))=N:=UK h
theorem AZo {N:Nat} (h:N<R4):ZD N=BH N G1B:=by
 unfold ZD
 rw [MG]
 unfold ZC Es
 rw [MG,if_pos UC,AZn h]
theorem AZp {n m:Nat} {xs:List Int} (hl:n≤xs.length) (hn:AJ .i64 n=true) (hk:Bm n (AT (AA xs 0 n))=false):Ad Tryz.prog 45 [AI 0 0 n m] (Au xs) 1 [] (.tup [(false,[.v (.slice none 0 0)]),(false,[.n .i64 210])]) []:=by
 have hl':Nat.ble (0+n) xs.length=true:=Nat.ble_eq_true_of_le (by omega)
 by_cases he:D5 n (AT (AA xs 0 n))=0
 ·have hz:Bp n (AT (AA xs 0 n))=zN:=by
   unfold Bm at hk
   rw [decide_eq_true he] at hk
   simpa using hk
  exact A2 ZA A9 Tryz.func45 (by kernel_rfl) (by kernel_rfl) (AZl n m xs) (by kernel_rfl) ⟨hl',hn,by rw [decide_eq_true he];rfl,decide_eq_true hz,trivial⟩
 ·exact A2 ZA A9 Tryz.func45 (by kernel_rfl) (by kernel_rfl) (AZk n m xs) (by kernel_rfl) ⟨hl',hn,by rw [decide_eq_false he];rfl,trivial⟩
theorem AZq {n m:Nat} {xs:List Int} (hl:n≤xs.length) (hn:AJ .i64 n=true) (hk:Bm n (AT (AA xs 0 n))=true):Ad Tryz.prog 45 [AI 0 0 n m] (Au xs) 1 [] nK (nL (HK true (BH (AT (AA xs 0 n)) G1B))):=by
 obtain ⟨k1,k2,k3⟩:=Ma.1 hk
 have hV:Bp n (AT (AA xs 0 n))=AT (AA xs 0 n):=if_pos ⟨k1,k2⟩
 have hE:D5 n (AT (AA xs 0 n))=0:=by unfold D5;rw [if_pos k1,if_pos k2]
 have hr:=AZm n m xs
 rw [hV,AZo (Nat.lt_trans k2 OQ)] at hr
 exact A2 ZA A9 Tryz.func45 (by kernel_rfl) (by kernel_rfl) hr (by kernel_rfl) ⟨Nat.ble_eq_true_of_le (by omega),hn,by rw [decide_eq_true hE];rfl,by rw [j8];exact decide_eq_false k3,rfl,rfl,rfl,rfl,ACc _,trivial⟩
noncomputable def skrSp:ASpec:=fun args H fr path=>match args,path with
 | [S],b::rest=>match By S with
  | some (k,0,n)=>match AG H k with
   | some ⟨_,cs,_⟩=>match Ao .u8 cs with
    | some xs=>match b with
     | true=>some (A5 [k] 1 fr 0 [] (.tup [(false,[.v (.slice none 0 0)]),(false,[.n .i64 210])]) [] [(Nat.ble n xs.length,true),(AJ .i64 n,true),(Bm n (AT (AA xs 0 n)),false)] rest)
     | false=>some (A5 [k] 1 fr 8 [] nK (nL (HK true (BH (AT (AA xs 0 n)) G1B))) [(Nat.ble n xs.length,true),(AJ .i64 n,true),(Bm n (AT (AA xs 0 n)),true)] rest)
    | none=>none
   | _=>none
  | _=>none
 | _,_=>none
theorem AZr:A6 Tryz.prog 45 skrSp:=by
 refine CS Tryz.func45 (by kernel_rfl) (by kernel_rfl) fun args H fr path r hs=>?_
 unfold skrSp at hs
 split at hs
 case h_2=>cases hs
 rename_i S b rest
 split at hs
 case h_2=>cases hs
 rename_i k n hS
 split at hs
 case h_2=>cases hs
 rename_i ty cs o hk'
 split at hs
 case h_2=>cases hs
 rename_i xs hxs
 split at hs
 ·injection hs with hs
  refine ⟨[k],1,0,[],_,_,_,rest,hs.symm,fun β us w ha hg hc=>?_⟩
  obtain ⟨u1,us1,r1,ha,rfl⟩:=ha
  obtain ⟨m,r1⟩:=DF hS r1
  obtain ⟨g1,g2,g3⟩:=Cx hg hk' hxs
  exact ⟨[AI 0 0 n m],Au xs,AZp (Nat.le_of_ble_eq_true hc.1) hc.2.1 hc.2.2.1,by kernel_rfl,⟨u1,_,BS (by omega) rfl r1,ha,rfl⟩,g2,g3⟩
 ·injection hs with hs
  refine ⟨[k],1,8,[],_,_,_,rest,hs.symm,fun β us w ha hg hc=>?_⟩
  obtain ⟨u1,us1,r1,ha,rfl⟩:=ha
  obtain ⟨m,r1⟩:=DF hS r1
  obtain ⟨g1,g2,g3⟩:=Cx hg hk' hxs
  exact ⟨[AI 0 0 n m],Au xs,AZq (Nat.le_of_ble_eq_true hc.1) hc.2.1 hc.2.2.1,by kernel_rfl,⟨u1,_,BS (by omega) rfl r1,ha,rfl⟩,g2,g3⟩
noncomputable def SYf:List (FuncId×ASpec):=(45,skrSp)::SYf1
theorem AD8:AX Tryz.prog SYf:=⟨AZr,ZA⟩
end Go.Proofs.YtjlcdlekmpjjnaaGreat
namespace Go.Proofs.YtjlcdlekmpjjnaaGreat
open Ex Num
set_option maxRecDepth 100000
set_option maxHeartbeats 4000000
noncomputable abbrev xeF:Func:=Tryz.f287
noncomputable def SXa0:List (FuncId×ASpec):=(327,BY Tryz.prog oSy Tryz.f327 300)::SSy
theorem AZs:AX Tryz.prog SXa0:=⟨Bj Hw AB Tryz.func327 (by kernel_rfl) (by kernel_rfl) 300,Yx⟩
noncomputable abbrev oXa0:Orc:=AH SXa0 KV
theorem nM:OrcOk Tryz.prog oXa0:=AK AZs A9
noncomputable def Ct (xs ds:List Int):Heap:=[(0,some (Ai [.seq .u8 xs])),(1,some (Ai [.seq .u8 ds]))]
noncomputable def xeE (o n m n' m':Nat) (xs ds:List Int) (p:List Bool):ASt:=Af xeF [AI 0 o n m,AI 1 0 n' m',.val false [.n .i64 256]] (Ct xs ds) 2 p
noncomputable def nN:List Item:=Be (AS Tryz.prog oXa0 (some 4) 300 2 none (xeE 0 0 0 0 0 [] [] [false,false]))
noncomputable def nO (L:Nat) (s i:AV):List AV:=C8 xeF.ntmps [(2,.val false [.n .i64 256]),(8,.val false [.sx 2 L 1]),(9,.val false [.p 3 0]),(10,s),(11,.val false [.p 4 0]),(12,i)]
def LE (f:Nat→Int):List Int:=(List.range 32).map f
noncomputable def Q4 (xs ds tg F:List Int) (b:Blk):Heap:=[(0,some (Ai [.seq .u8 xs])),(1,some (Ai [.seq .u8 ds])),(2,some ⟨5,[.seq .u8 tg],true⟩),(3,some ⟨122,[.seq .u8 F],false⟩),(4,some b)]
noncomputable def ZE (g:List Int):Blk:=⟨122,[.seq .u8 g],false⟩
noncomputable def Ul (xs ds tg:List Int) (L:Nat) (f g:Nat→Int) (ys:List Int) (M:Nat) (i:Int) (p:List Bool):ASt:=⟨nN,⟨nO L (.val false [.sx 5 M 1]) (iA i),Q4 xs ds tg (LE f) (ZE (LE g))++[(5,some ⟨5,[.seq .u8 ys],true⟩)],6,p⟩⟩
section
variable (xs ds tg:List Int) (L:Nat) (f g:Nat→Int) (ys:List Int) (M:Nat) (i:Int)
def Q5:List Int:=LE fun k=>bits .xor .u8 (g k) (f k)
def M3:List Int:=AA (Q5 f g) (0+0*1) (32-0)++AA [AO false .u8 i] 0 1++AA tg 0 L
def Q6:List Int:=DA (AA (M3 tg L f g i) 0 (32-0+1+L))
noncomputable def xeN (z:List Int):ASt:=⟨nN,⟨E7 (Bt 2 [2,3,4,13]) (nO L (.val false [.sx 5 (M+(32-0)) 1]) (iA (wI (i+1)))),EL (Bt 2 [2,3,4,13]) (Q4 xs ds tg (LE f) (ZE z)++[(5,some ⟨5,[.seq .u8 (ys.take M++List.take (32-0) (List.drop (0+0*1) z))],true⟩)]),14,[]⟩⟩
theorem AZu:AS Tryz.prog oXa0 (some 4) 600 2 (some ([2,8,9,10,11,12],[0,1,2,3,4,13],14)) (Ul xs ds tg L f g ys M i [true]) =
 some ((AJ .i64 M,true)::(decide ((M:Int)<256),true)::tt 98 ((Nat.ble (0+L) tg.length,true)::(Nat.ble (32-0+1+L) 35184372088832,true)::(Nat.ble (0+(32-0+1+L)) (M3 tg L f g i).length,true)::(Nat.ble (32-0+1+L) 35184372088832,true)::(Nat.ble M ys.length,true)::(true,true)::(DO (M+(32-0)),true)::[]),[],xeN xs ds tg L f ys M i (Q6 tg L f g i)):=by kernel_rfl
def Or:Heap:=[(5,some ⟨5,[.seq .u8 ys],true⟩)]
theorem AZv:AM Tryz.prog oXa0 xeF 300 2 [5] (Ul xs ds tg L f g ys M i [false])=some ([(AJ .i64 M,true),(decide ((M:Int)<256),false),(decide ((0:Int)≤256∧(256:Int)≤M),true),(true,true)],[],.tup [(false,[.sl 5 0 256 256]),(false,[.n .i64 0])],Or ys):=by kernel_rfl
end
section
variable (o n m n' m':Nat) (xs ds:List Int)
def GI:Nat:=Int.toNat (n':Int)-0
def Um:List Int:=List.take (GI n') (List.drop 0 ds)++[AO false .u8 n']
def Un:List Int:=AA (List.replicate 64 0) 0 64++AA xs o n++AA [1,0,0] 0 3++AA (Um n' ds) 0 (GI n'+1)
def AD_:Blk:=⟨122,List.replicate 32 (.n .u8 0),false⟩
theorem AZw:AS Tryz.prog oXa0 (some 4) 300 2 (some ([2,8,9,10,11,12],[0,1,3,13,14],15)) (xeE o n m n' m' xs ds [false,false]) =
 some ((AJ .i64 n',true)::(decide ((n':Int)<1),false)::(AJ .i64 n',true)::(decide ((255:Int)<n'),false)::(AJ .i64 n',true)::(AJ .i64 n',true)::(decide ((0:Int)≤n'∧(n':Int)≤m'),true)::(decide ((0:Int)≤n'∧(n':Int)≤Int.toNat (n':Int)),true)::(true,true)::(AJ .i64 n',true)::(Nat.ble (0+GI n') ds.length,true) ::
  (Nat.beq (GI n') (GI n')&&Nat.blt 0 1,true)::(DO (GI n'+1),true)::(true,true)::(true,true)::(Nat.ble (o+n) xs.length,true)::(true,true)::(Nat.ble (0+(GI n'+1)) (Um n' ds).length,true)::(Nat.ble (64+n+3+(GI n'+1)) 35184372088832,true)::(Nat.ble (0+(64+n+3+(GI n'+1))) (Un o n n' xs ds).length,true)::(Nat.ble (64+n+3+(GI n'+1)) 35184372088832,true)::[],[],
  ⟨nN,⟨E7 (Bt 2 [3,13,14]) (nO (GI n'+1) JI (.val false [.n .i64 1])),EL (Bt 2 [3,13,14]) (Q4 xs ds (Um n' ds) (DA (AA (Un o n n' xs ds) 0 (64+n+3+(GI n'+1)))) AD_),15,[]⟩⟩):=by kernel_rfl
end
def FG (d:List Int):List Int:=d++[(d.length:Int)]
def Q7 (x t:List Int):List Int:=DA (List.replicate 64 0++x++[1,0,0]++t)
def Ot (F l:List Int):List Int:=Q5 (fun k=>F.getD k 0) fun k=>l.getD k 0
def xd (F t:List Int):Nat→List Int
 | 0=>List.replicate 32 0
 | i+1=>DA (Ot F (xd F t i)++[((i+1:Nat):Int)]++t)
def GJ (F t:List Int):Nat→List Int
 | 0=>[]
 | i+1=>GJ F t i++xd F t (i+1)
theorem AD':∃ f:List Int→List Int→List Int,∀ x d,f x d=GJ (Q7 x (FG d)) (FG d) 8:=⟨_,fun _ _=>rfl⟩
noncomputable def Hx:List Int→List Int→List Int:=Classical.choose AD'
theorem ZF (x d:List Int):Hx x d=GJ (Q7 x (FG d)) (FG d) 8:=Classical.choose_spec AD' x d
theorem Ou (F t:List Int):∀ i,(xd F t i).length=32
 | 0=>List.length_replicate
 | i+1=>LA _
theorem Q8 (F t:List Int):∀ i,(GJ F t i).length=32*i
 | 0=>rfl
 | i+1=>by
  show (GJ F t i++xd F t (i+1)).length=_
  rw [List.length_append,Q8 F t i,Ou]
  omega
theorem Q9 {l:List Int} (h:l.length=32):LE (fun k=>l.getD k 0)=l:=(Qj h).symm
theorem nP (f g:Nat→Int):(Q5 f g).length=32:=by unfold Q5 LE;rw [List.length_map,List.length_range]
theorem nQ {i:Nat} (h:i<256):AO false .u8 (i:Int)=(i:Int):=by rw [CO,IntKind.wrap_u8];omega
theorem nS {F l t:List Int} {L i:Nat} (ht:t.length=L) (hi:i<256):M3 t L (fun k=>F.getD k 0) (fun k=>l.getD k 0) (i:Int)=Ot F l++[(i:Int)]++t:=by
 unfold M3 Ot
 rw [show 0+0*1=0 from rfl,show 32-0=32 from rfl,Dp (nP _ _),Dp ht,nQ hi]
 rfl
theorem AEA {F l t:List Int} {L i:Nat} (ht:t.length=L) (hi:i<256):(M3 t L (fun k=>F.getD k 0) (fun k=>l.getD k 0) (i:Int)).length=32-0+1+L:=by
 rw [nS ht hi,List.length_append,List.length_append,ht]
 unfold Ot
 rw [nP];rfl
theorem AZx {xs ds t F:List Int} {L:Nat} (hF:F.length=32) (ht:t.length=L) (hL:L≤1000) {β0:Env} {w0:World} (hb:∀ b,2≤b→β0 b=none):∀ r i:Nat,i+r=8 →
  ASafe Tryz.prog 287 β0 w0 (Ay β0 w0 [] (.tup [(false,[.sl 5 0 256 256]),(false,[.n .i64 0])]) (Or (GJ F t 8))) xeF.ntmps []
   (Ul xs ds t L (fun k=>F.getD k 0) (fun k=>(xd F t i).getD k 0) (GJ F t i) (32*i) ((i+1:Nat):Int) []):=by
 intro r
 induction r with
 | zero =>
  intro i hi
  obtain rfl:i=8:=by omega
  exact Ab [false] (As nM AB Tryz.func287 (AZv ..) ⟨by decide,by decide,by decide,rfl,trivial⟩ (AL (by kernel_rfl)) hb (fun _ h=>by cases h))
 | succ r ih =>
  intro i hi
  refine Ab [true] (Ae nM AB (AZu ..) ⟨DI (by omega),decide_eq_true (by omega),Ac 98 ⟨Nat.ble_eq_true_of_le (by omega),Nat.ble_eq_true_of_le (by omega),?_,Nat.ble_eq_true_of_le (by omega),?_,rfl,DV (by omega),trivial⟩⟩ (AL (by kernel_rfl)) hb (fun _ h=>by cases h) fun _=>?_)
  ·rw [AEA ht (by omega)];exact Nat.ble_eq_true_of_le (by omega)
  ·rw [Q8];exact Nat.ble_eq_true_of_le (by omega)
  ·have ez:Q6 t L (fun k=>F.getD k 0) (fun k=>(xd F t i).getD k 0) ((i+1:Nat):Int)=xd F t (i+1):=by
    unfold Q6
    rw [Dp (AEA ht (by omega)),nS ht (by omega)]
    rfl
   rw [ez]
   refine FO (m:=6) (by kernel_rfl) hb ?_
   have e1:(GJ F t i).take (32*i)++List.take (32-0) (List.drop (0+0*1) (xd F t (i+1)))=GJ F t (i+1):=by
    rw [Dd (Q8 F t i),show 0+0*1=0 from rfl,show 32-0=32 from rfl,List.drop_zero,Dd (Ou F t (i+1))]
    rfl
   have next:=ih (i+1) (by omega)
   unfold Ul at next
   rw [Q9 (Ou F t (i+1))] at next
   rw [e1,Am (z:=((i+1:Nat):Int)+1) (by omega)]
   exact next
def Ov (ts:List Nat):Nat→List AV→List AV
 | _,[]=>[]
 | i,x::r=>(match GM i ts with | true=>EF x | false=>x)::Ov ts (i+1) r
theorem AEB (ts:List Nat):∀ (T:List AV) (i t:Nat),Aq (Ov ts i T) t=EF (Aq T t)∨Aq (Ov ts i T) t=Aq T t
 | [],_,_=>.inr rfl
 | x::r,i,0=>by
  simp only [Ov,Aq]
  split
  ·exact .inl rfl
  ·exact .inr rfl
 | _::r,i,t+1=>AEB ts r (i+1) t
theorem AEC {P:Program} {f:FuncId} {β0:Env} {w0:World} {R:Ending→World→Prop} {n:Fz} {W:List Nat} {todo:List Item} {T:List AV} {H:Heap} {fr:Nat} {p:List Bool} (ts:List Nat) (h:ASafe P f β0 w0 R n W ⟨todo,⟨Ov ts 0 T,H,fr,p⟩⟩):ASafe P f β0 w0 R n W ⟨todo,⟨T,H,fr,p⟩⟩:=by
 intro β a w hi hf
 refine h β a w { hi with tmp:=fun t=>?_ } hf
 rcases AEB ts T 0 t with e | e
 ·show AP β (Aq (Ov ts 0 T) t) _
  rw [e];exact t9 (hi.tmp t)
 ·show AP β (Aq (Ov ts 0 T) t) _
  rw [e];exact hi.tmp t
theorem AED (β:Env) (l:List Value) (h:AN β (List.replicate 32 (.n .u8 0)) l):AN β [.seq .u8 (List.replicate 32 0)] l:=by
 have e:Ao .u8 (List.replicate 32 (.n .u8 0))=some (List.replicate 32 0):=by kernel_rfl
 obtain ⟨h1,h2⟩:=CY e h
 exact ⟨_,[],⟨h1,h2⟩,rfl,by simp⟩
theorem AZy {o n m n' m':Nat} {xs ds:List Int} (h1:o+n≤xs.length) (h2:n'≤ds.length) (hn:n≤4398046511104) (hn1:1≤n') (hn':n'≤255) (hm:n'≤m') :
  Ad Tryz.prog 287 [AI 0 o n m,AI 1 0 n' m',.val false [.n .i64 256]] (Ct xs ds) 2 [] (.tup [(false,[.sl 5 0 256 256]),(false,[.n .i64 0])]) (Or (Hx (AA xs o n) (AA ds 0 n'))):=by
 have hd:(AA ds 0 n').length=n':=CN (by omega)
 have eL:GI n'=n':=by unfold GI;omega
 have eG:Um n' ds=FG (AA ds 0 n'):=by
  unfold Um FG
  rw [eL,hd,nQ (by omega)]
  rfl
 have lT:(FG (AA ds 0 n')).length=n'+1:=D7 hd rfl
 have eQ:Un o n n' xs ds=List.replicate 64 0++AA xs o n++[1,0,0]++FG (AA ds 0 n'):=by
  unfold Un
  rw [eL,eG,Dp lT]
  rfl
 have lQ:(Un o n n' xs ds).length=64+n+3+(GI n'+1):=by
  rw [eQ,List.length_append,List.length_append,List.length_append,lT,CN h1,List.length_replicate,eL];rfl
 refine Av (path:=[false,false]) Tryz.func287 (by kernel_rfl) (by kernel_rfl) fun β0 w0 hb=>?_
 refine Ae nM AB (AZw o n m n' m' xs ds) ?_ (AL (by kernel_rfl)) hb (fun _ h=>by cases h) fun _=>?_
 ·have hh:AJ .i64 (n':Int)=true:=DI (by omega)
  rw [lQ,eG,lT,eL]
  exact ⟨hh,decide_eq_false (by omega),hh,decide_eq_false (by omega),hh,hh,decide_eq_true (by omega),decide_eq_true (by omega),rfl,hh,Nat.ble_eq_true_of_le (by omega),by rw [Nat.beq_refl];rfl,DV (by omega),rfl,rfl,Nat.ble_eq_true_of_le h1,rfl,Nat.ble_eq_true_of_le (by omega),Nat.ble_eq_true_of_le (by omega),Nat.ble_eq_true_of_le (by omega),Nat.ble_eq_true_of_le (by omega),trivial⟩
 ·refine FO (m:=5) (by kernel_rfl) hb ?_
  refine PO (ts:=[10]) (sz:=1) (ty:=5) (kd:=.u8) rfl (hb 5 (by decide)) (AEC [12] ?_)
  refine K8 (k:=4) (ty:=122) (o:=false) (cs':=[.seq .u8 (List.replicate 32 0)]) rfl AED ?_
  rw [Dp lQ,eQ,eG,eL,ZF]
  have next:=AZx (xs:=xs) (ds:=ds) (F:=Q7 (AA xs o n) (FG (AA ds 0 n'))) (w0:=w0) (LA _) lT (by omega) hb 8 0 rfl
  unfold Ul at next
  rw [Q9 (l:=Q7 (AA xs o n) (FG (AA ds 0 n'))) (LA _),Q9 (Ou _ _ 0)] at next
  exact next
def xeV:AV:=.tup [(false,[.sl 5 0 256 256]),(false,[.n .i64 0])]
noncomputable def nT (v:AV) (K nw:Nat):ASpec:=fun args H fr path=>match args with
 | [S,T,.val false [.n .i64 256]]=>match By S,I_ T with
  | some (k,o,n),some (t,n',m')=>match AG H k,AG H t with
   | some ⟨_,cs,_⟩,some ⟨_,es,_⟩=>match Ao .u8 cs,Ao .u8 es with
    | some xs,some ds=>some (A5 [k,t] 2 fr nw [] v [(K,some ⟨5,[.seq .u8 (Hx (AA xs o n) (AA ds 0 n'))],true⟩)] [(Nat.ble (o+n) xs.length,true),(Nat.ble n' ds.length,true),(Nat.ble n 4398046511104,true),(Nat.ble 1 n',true),(Nat.ble n' 255,true),(Nat.ble n' m',true)] path)
    | _,_=>none
   | _,_=>none
  | _,_=>none
 | _=>none
theorem AZ0 {F:FuncId} {fn:Func} {v:AV} {K nw:Nat} (hfn:Tryz.prog.funcs[F]? = some fn) (hb:fn.body.isSome=true) (hname:(fn.name=="runtime.NumGoroutine")=false) (hk:∀ l,Cu 2 nw [] v [(K,some ⟨5,[.seq .u8 l],true⟩)]=true)
  (h:∀ {o n m n' m':Nat} {xs ds:List Int},(∀ d∈xs,0≤d∧d<256)→(∀ d∈ds,0≤d∧d<256)→o+n≤xs.length→n'≤ds.length→n≤4398046511104→1≤n'→n'≤255→n'≤m'→Ad Tryz.prog F [AI 0 o n m,AI 1 0 n' m',.val false [.n .i64 256]] (Ct xs ds) 2 [] v [(K,some ⟨5,[.seq .u8 (Hx (AA xs o n) (AA ds 0 n'))],true⟩)]):A6 Tryz.prog F (nT v K nw):=by
 refine CS hfn hb hname fun args H fr path r hs=>?_
 unfold nT at hs
 split at hs
 case h_2=>cases hs
 rename_i S T
 split at hs
 case h_2=>cases hs
 rename_i k o n t n' m' hS hT
 split at hs
 case h_2=>cases hs
 rename_i ty cs op ty' es op' hk' ht'
 split at hs
 case h_2=>cases hs
 rename_i xs ds hx hd
 injection hs with hs
 refine ⟨[k,t],2,nw,[],_,_,_,path,hs.symm,fun β us w ha hg hc=>?_⟩
 obtain ⟨u1,us1,r1,⟨u2,us2,r2,⟨u3,us3,r3,ha,rfl⟩,rfl⟩,rfl⟩:=ha
 obtain ⟨c1,c2,c3,c4,c5,c6,_⟩:=hc
 obtain ⟨m,r1⟩:=DF hS r1
 obtain ⟨m2,hm2,r2⟩:=I' hT (Nat.le_of_ble_eq_true c6) r2
 obtain ⟨g1,_,_⟩:=Cx hg hk' hx
 obtain ⟨g2,_,_⟩:=Cx hg ht' hd
 refine ⟨_,_,h (o:=o) (n:=n) (m:=m) (n':=n') (m':=m2) g1 g2 (Nat.le_of_ble_eq_true c1) (Nat.le_of_ble_eq_true c2) (Nat.le_of_ble_eq_true c3) (Nat.le_of_ble_eq_true c4) (Nat.le_of_ble_eq_true c5) hm2,hk _,⟨u1,_,BS (by omega) rfl r1,⟨u2,_,BS (by omega) rfl r2,⟨u3,_,In rfl r3,ha,rfl⟩,rfl⟩,rfl⟩,JJ (bs:=[Ai [.seq .u8 xs],Ai [.seq .u8 ds]]) hg fun j d hj=>?_,fun j hj=>?_⟩
 ·match j,hj with
  | 0,hj=>injection hj with hj;subst hj;exact ⟨rfl,Dj hg hk' hx (by show 0<2;decide) rfl⟩
  | 1,hj=>injection hj with hj;subst hj;exact ⟨rfl,Dj hg ht' hd (by show 1<2;decide) rfl⟩
 ·match j,hj with
  | 0,_=>exact BZ (hg.heap _ _ hk')
  | 1,_=>exact BZ (hg.heap _ _ ht')
noncomputable def SCb0:List (FuncId×ASpec):=(287,nT xeV 5 4)::(SIe++SSy)
theorem AZ1:AX Tryz.prog SCb0:=⟨AZ0 Tryz.func287 (by kernel_rfl) (by kernel_rfl) (fun _=>rfl) fun _ _ h1 h2 h3 h4 h5 h6=>AZy h1 h2 h3 h4 h5 h6,K3 AAK Yx⟩
noncomputable abbrev oCb0:Orc:=AH SCb0 KV
theorem AZ2:OrcOk Tryz.prog oCb0:=AK AZ1 A9
noncomputable abbrev fdsF:Func:=Tryz.f231
section
variable (o n m n' m':Nat) (xs ds:List Int)
noncomputable def AZ3 (p:List Bool):ASt:=Af fdsF [AI 0 o n m,AI 1 0 n' m',.val false [.n .i64 2]] (Ct xs ds) 2 p
noncomputable def D9:List Int:=Hx (AA xs o n) (AA ds 0 n')
noncomputable def E3 (Z:List Int) (j:Nat):Nat:=AF (AA (HM (64*j) 64 Z) 0 ((64+7) / 8)) % pN
noncomputable def ZG (K:Nat) (a b c d:Nat):Heap:=[(K,some ⟨39,[.num 6 a,.num 6 b,.num 6 c,.num 6 d],true⟩)]
noncomputable def AZ4 (Z:List Int):List (Bool×Bool):=(Nat.ble (o+n) xs.length,true)::(Nat.ble n' ds.length,true)::(Nat.ble n 4398046511104,true)::(Nat.ble 1 n',true)::(Nat.ble n' 255,true)::(Nat.ble n' m',true)::tt 4 ((Nat.ble 64 Z.length,true)::tt 5 ((false,false)::(Nat.ble 128 Z.length,true)::tt 5 ((false,false)::tt 4 ((Nat.ble 192 Z.length,true)::tt 5 ((false,false)::(Nat.ble 256 Z.length,true)::tt 7 ((false,false)::[]))))))
theorem AZ5:AM Tryz.prog oCb0 fdsF 300 2 [13] (AZ3 o n m n' m' xs ds [true,false,false,true,false,true,false]) =
 some (AZ4 o n n' m' xs ds (D9 o n n' xs ds),[],.tup [(false,[.sx 13 2 12]),(false,[.n .i64 0])],ZG 13 (E3 (D9 o n n' xs ds) 0) (E3 (D9 o n n' xs ds) 1) (E3 (D9 o n n' xs ds) 2) (E3 (D9 o n n' xs ds) 3)):=by kernel_rfl
end
theorem nU (x d:List Int):(Hx x d).length=256:=by rw [ZF,Q8]
theorem AEE (F t:List Int):∀ i,∀ d∈GJ F t i,0≤d∧d<256
 | 0,_,h=>by cases h
 | i+1,d,h=>by
  rcases List.mem_append.1 (show d∈GJ F t i++xd F t (i+1) from h) with h | h
  ·exact AEE F t i d h
  ·exact AWz _ d h
theorem AZ6 (x d:List Int):∀ z∈Hx x d,0≤z∧z<256:=by rw [ZF];exact AEE _ _ 8
theorem AEF:∃ f:List Int→List Int→Nat→Nat,∀ x d j,f x d j=AT (AA (Hx x d) (64*j) 64) % pN:=⟨_,fun _ _ _=>rfl⟩
noncomputable def M4:List Int→List Int→Nat→Nat:=Classical.choose AEF
theorem AZ7 (x d:List Int) (j:Nat):M4 x d j=AT (AA (Hx x d) (64*j) 64) % pN:=Classical.choose_spec AEF x d j
noncomputable def Q_ (x d:List Int):Blk:=⟨39,[.num 6 (M4 x d 0),.num 6 (M4 x d 1),.num 6 (M4 x d 2),.num 6 (M4 x d 3)],true⟩
theorem M5 (x d:List Int) {j:Nat} (hj:j<4):E3 (Hx x d) j=M4 x d j:=by
 unfold E3
 rw [mR (AZ6 x d) (by rw [nU];omega),AZ7]
theorem AZ8 {o n m n' m':Nat} {xs ds:List Int} (h1:o+n≤xs.length) (h2:n'≤ds.length) (hn:n≤4398046511104) (hn1:1≤n') (hn':n'≤255) (hm:n'≤m') :
  Ad Tryz.prog 231 [AI 0 o n m,AI 1 0 n' m',.val false [.n .i64 2]] (Ct xs ds) 2 [] (.tup [(false,[.sx 13 2 12]),(false,[.n .i64 0])]) [(13,some (Q_ (AA xs o n) (AA ds 0 n')))]:=by
 refine Av (path:=[true,false,false,true,false,true,false]) Tryz.func231 (by kernel_rfl) (by kernel_rfl) fun β0 w0 hb=>?_
 have lZ:(D9 o n n' xs ds).length=256:=nU _ _
 have b64:∀ k,k≤256→Nat.ble k (D9 o n n' xs ds).length=true:=fun k hk=>Nat.ble_eq_true_of_le (by rw [lZ];exact hk)
 have:=As (P:=Tryz.prog) (n:=fdsF.ntmps) (β0:=β0) (w0:=w0) (W:=[]) AZ2 AB Tryz.func231 (AZ5 o n m n' m' xs ds) ⟨Nat.ble_eq_true_of_le h1,Nat.ble_eq_true_of_le h2,Nat.ble_eq_true_of_le hn,Nat.ble_eq_true_of_le hn1,Nat.ble_eq_true_of_le hn',Nat.ble_eq_true_of_le hm,Ac 4 ⟨b64 64 (by decide),Ac 5 ⟨rfl,b64 128 (by decide),Ac 5 ⟨rfl,Ac 4 ⟨b64 192 (by decide),Ac 5 ⟨rfl,b64 256 (by decide),Ac 7 ⟨rfl,trivial⟩⟩⟩⟩⟩⟩⟩ (AL (by kernel_rfl)) hb (fun _ h=>by cases h)
 have e:ZG 13 (E3 (D9 o n n' xs ds) 0) (E3 (D9 o n n' xs ds) 1) (E3 (D9 o n n' xs ds) 2) (E3 (D9 o n n' xs ds) 3)=[(13,some (Q_ (AA xs o n) (AA ds 0 n')))]:=by
  unfold D9
  rw [M5 _ _ (by decide),M5 _ _ (by decide),M5 _ _ (by decide),M5 _ _ (by decide)]
  rfl
 rw [e] at this
 exact this
noncomputable def Uo (c:Int) (v:AV) (K nw:Nat) (g:List Int→List Int→Blk):ASpec:=fun args H fr path=>match args with
 | [S,T,.val false [.n .i64 z]]=>match decide (z=c) with
  | true=>match By S,I_ T with
   | some (k,o,n),some (t,n',m')=>match AG H k,AG H t with
    | some ⟨_,cs,_⟩,some ⟨_,es,_⟩=>match Ao .u8 cs,Ao .u8 es with
     | some xs,some ds=>some (A5 [k,t] 2 fr nw [] v [(K,some (g (AA xs o n) (AA ds 0 n')))] [(Nat.ble (o+n) xs.length,true),(Nat.ble n' ds.length,true),(Nat.ble n 4398046511104,true),(Nat.ble 1 n',true),(Nat.ble n' 255,true),(Nat.ble n' m',true)] path)
     | _,_=>none
    | _,_=>none
   | _,_=>none
  | false=>none
 | _=>none
theorem nV {c:Int} {F:FuncId} {fn:Func} {v:AV} {K nw:Nat} {g:List Int→List Int→Blk} (hfn:Tryz.prog.funcs[F]? = some fn) (hb:fn.body.isSome=true) (hname:(fn.name=="runtime.NumGoroutine")=false) (hk:∀ l d,Cu 2 nw [] v [(K,some (g l d))]=true)
  (h:∀ {o n m n' m':Nat} {xs ds:List Int},(∀ d∈xs,0≤d∧d<256)→(∀ d∈ds,0≤d∧d<256)→o+n≤xs.length→n'≤ds.length→n≤4398046511104→1≤n'→n'≤255→n'≤m'→Ad Tryz.prog F [AI 0 o n m,AI 1 0 n' m',.val false [.n .i64 c]] (Ct xs ds) 2 [] v [(K,some (g (AA xs o n) (AA ds 0 n')))]):A6 Tryz.prog F (Uo c v K nw g):=by
 refine CS hfn hb hname fun args H fr path r hs=>?_
 unfold Uo at hs
 split at hs
 case h_2=>cases hs
 rename_i S T z
 split at hs
 case h_2=>cases hs
 rename_i hz
 obtain rfl:z=c:=of_decide_eq_true hz
 split at hs
 case h_2=>cases hs
 rename_i k o n t n' m' hS hT
 split at hs
 case h_2=>cases hs
 rename_i ty cs op ty' es op' hk' ht'
 split at hs
 case h_2=>cases hs
 rename_i xs ds hx hd
 injection hs with hs
 refine ⟨[k,t],2,nw,[],_,_,_,path,hs.symm,fun β us w ha hg hc=>?_⟩
 obtain ⟨u1,us1,r1,⟨u2,us2,r2,⟨u3,us3,r3,ha,rfl⟩,rfl⟩,rfl⟩:=ha
 obtain ⟨c1,c2,c3,c4,c5,c6,_⟩:=hc
 obtain ⟨m,r1⟩:=DF hS r1
 obtain ⟨m2,hm2,r2⟩:=I' hT (Nat.le_of_ble_eq_true c6) r2
 obtain ⟨g1,_,_⟩:=Cx hg hk' hx
 obtain ⟨g2,_,_⟩:=Cx hg ht' hd
 refine ⟨_,_,h (o:=o) (n:=n) (m:=m) (n':=n') (m':=m2) g1 g2 (Nat.le_of_ble_eq_true c1) (Nat.le_of_ble_eq_true c2) (Nat.le_of_ble_eq_true c3) (Nat.le_of_ble_eq_true c4) (Nat.le_of_ble_eq_true c5) hm2,hk _ _,⟨u1,_,BS (by omega) rfl r1,⟨u2,_,BS (by omega) rfl r2,⟨u3,_,In rfl r3,ha,rfl⟩,rfl⟩,rfl⟩,JJ (bs:=[Ai [.seq .u8 xs],Ai [.seq .u8 ds]]) hg fun j d hj=>?_,fun j hj=>?_⟩
 ·match j,hj with
  | 0,hj=>injection hj with hj;subst hj;exact ⟨rfl,Dj hg hk' hx (by show 0<2;decide) rfl⟩
  | 1,hj=>injection hj with hj;subst hj;exact ⟨rfl,Dj hg ht' hd (by show 1<2;decide) rfl⟩
 ·match j,hj with
  | 0,_=>exact BZ (hg.heap _ _ hk')
  | 1,_=>exact BZ (hg.heap _ _ ht')
def nW (K:Nat):AV:=.tup [(false,[.sx K 2 12]),(false,[.n .i64 0])]
noncomputable def SCc:List (FuncId×ASpec):=[(231,Uo 2 (nW 13) 13 12 Q_)]
theorem AZ9:AX Tryz.prog SCc:=⟨nV Tryz.func231 (by kernel_rfl) (by kernel_rfl) (fun _ _=>rfl) fun _ _ h1 h2 h3 h4 h5 h6=>AZ8 h1 h2 h3 h4 h5 h6,trivial⟩
noncomputable abbrev rxF:Func:=Tryz.f298
noncomputable def rxE (o n m n' m':Nat) (xs ds:List Int) (p:List Bool):ASt:=Af rxF [AI 0 o n m,AI 1 0 n' m',.val false [.n .i64 256]] (Ct xs ds) 2 p
noncomputable def nZ:List Item:=Be (AS Tryz.prog oSo (some 4) 300 2 none (rxE 0 0 0 0 0 [] [] [false,false]))
noncomputable def n5 (L:Nat) (s i:AV):List AV:=C8 rxF.ntmps [(2,.val false [.n .i64 256]),(8,.val false [.sx 2 L 1]),(10,.val false [.p 3 0]),(11,s),(12,.val false [.p 4 0]),(13,i)]
noncomputable def Up (xs ds tg:List Int) (L:Nat) (f g:Nat→Int) (ys:List Int) (M:Nat) (i:Int) (p:List Bool):ASt:=⟨nZ,⟨n5 L (.val false [.sx 5 M 1]) (iA i),Q4 xs ds tg (LE f) (ZE (LE g))++Or ys,6,p⟩⟩
theorem AZ_ (a b:Int):bits .xor .u8 a b=bits .xor .u8 b a:=by simp only [bits];rw [BitVec.xor_comm]
theorem AZ' (f g:Nat→Int):Q5 f g=Q5 g f:=List.map_congr_left fun _ _=>AZ_ _ _
section
variable (xs ds tg:List Int) (L:Nat) (f g:Nat→Int) (ys:List Int) (M:Nat) (i:Int)
noncomputable def rxN (z:List Int):ASt:=⟨nZ,⟨E7 (Bt 2 [2,3,4,73]) (n5 L (.val false [.sx 5 (M+(32-0)) 1]) (iA (wI (i+1)))),EL (Bt 2 [2,3,4,73]) (Q4 xs ds tg (LE f) (ZE z)++[(5,some ⟨5,[.seq .u8 (ys.take M++List.take (32-0) (List.drop (0+0*1) z))],true⟩)]),74,[]⟩⟩
theorem AaB:AS Tryz.prog oSo (some 4) 600 2 (some ([2,8,10,11,12,13],[0,1,2,3,4,73],74)) (Up xs ds tg L f g ys M i [true]) =
 some ((AJ .i64 M,true)::(decide ((M:Int)<256),true)::tt 130 ((Nat.ble L tg.length,true)::(DO (33+L),true)::(Nat.ble (0+(33+L)) (M3 tg L g f i).length,true)::(Nat.ble (33+L) 35184372088832,true)::(Nat.ble M ys.length,true)::(true,true)::(DO (M+(32-0)),true)::[]),[],rxN xs ds tg L f ys M i (Q6 tg L g f i)):=by kernel_rfl
theorem AaC:AM Tryz.prog oSo rxF 300 2 [5] (Up xs ds tg L f g ys M i [false])=some ([(AJ .i64 M,true),(decide ((M:Int)<256),false),(decide ((0:Int)≤256∧(256:Int)≤M),true)],[],.tup [(false,[.sx 5 256 1]),(false,[.n .i64 0])],Or ys):=by kernel_rfl
end
section
variable (o n m n' m':Nat) (xs ds:List Int)
def RA:List Int:=List.take (0+n') (List.take n' (List.drop 0 ds))++[AO false .u8 n']
def ZH:List Int:=List.take 64 (List.drop 0 (List.replicate 64 0))++List.take n (List.drop o xs)
def RB:List Int:=List.take (64+n) (ZH o n xs)++[1,0,0]
def RC:List Int:=List.take (64+n+3) (RB o n xs)++List.take (0+n'+1) (RA n' ds)
theorem AaD:AS Tryz.prog oSo (some 4) 300 2 (some ([2,8,10,11,12,13],[0,1,5,11,12],13)) (rxE o n m n' m' xs ds [false,false]) =
 some ((AJ .i64 n',true)::(decide ((n':Int)<1),false)::(AJ .i64 n',true)::(decide ((255:Int)<n'),false)::(true,true)::(Nat.ble (0+n') ds.length,true)::(DO (0+n'),true)::(AJ .i64 n',true)::(Nat.ble (0+n') (List.take n' (List.drop 0 ds)).length,true)::(DO (0+n'+1),true)::(true,true)::(true,true)::(true,true)::(Nat.ble (o+n) xs.length,true)::(DO (64+n),true)::(Nat.ble (64+n) (ZH o n xs).length,true)::(DO (64+n+3),true)::(Nat.ble (64+n+3) (RB o n xs).length,true)::(Nat.ble (0+n'+1) (RA n' ds).length,true)::(DO (64+n+3+(0+n'+1)),true)::(Nat.ble (0+(64+n+3+(0+n'+1))) (RC o n n' xs ds).length,true)::(Nat.ble (64+n+3+(0+n'+1)) 35184372088832,true)::[],[],
  ⟨nZ,⟨E7 (Bt 2 [5,11,12]) (n5 (0+n'+1) JI (.val false [.n .i64 1])),EL (Bt 2 [5,11,12]) (Q4 xs ds (RA n' ds) (DA (AA (RC o n n' xs ds) 0 (64+n+3+(0+n'+1)))) AD_),13,[]⟩⟩):=by kernel_rfl
end
theorem AaE {xs ds t F:List Int} {L:Nat} (hF:F.length=32) (ht:t.length=L) (hL:L≤1000) {β0:Env} {w0:World} (hb:∀ b,2≤b→β0 b=none):∀ r i:Nat,i+r=8 →
  ASafe Tryz.prog 298 β0 w0 (Ay β0 w0 [] (.tup [(false,[.sx 5 256 1]),(false,[.n .i64 0])]) (Or (GJ F t 8))) rxF.ntmps []
   (Up xs ds t L (fun k=>F.getD k 0) (fun k=>(xd F t i).getD k 0) (GJ F t i) (32*i) ((i+1:Nat):Int) []):=by
 intro r
 induction r with
 | zero =>
  intro i hi
  obtain rfl:i=8:=by omega
  exact Ab [false] (As Qu AB Tryz.func298 (AaC ..) ⟨by decide,by decide,by decide,trivial⟩ (AL (by kernel_rfl)) hb (fun _ h=>by cases h))
 | succ r ih =>
  intro i hi
  have eA:M3 t L (fun k=>(xd F t i).getD k 0) (fun k=>F.getD k 0) ((i+1:Nat):Int)=Ot F (xd F t i)++[((i+1:Nat):Int)]++t:=by
   rw [← nS ht (by omega)]
   unfold M3
   rw [AZ']
  have lA:(Ot F (xd F t i)++[((i+1:Nat):Int)]++t).length=33+L:=by
   rw [List.length_append,List.length_append,ht]
   unfold Ot
   rw [nP];rfl
  refine Ab [true] (Ae Qu AB (AaB ..) ⟨DI (by omega),decide_eq_true (by omega),Ac 130 ⟨Nat.ble_eq_true_of_le (by omega),DV (by omega),?_,Nat.ble_eq_true_of_le (by omega),?_,rfl,DV (by omega),trivial⟩⟩ (AL (by kernel_rfl)) hb (fun _ h=>by cases h) fun _=>?_)
  ·rw [eA,lA];exact Nat.ble_eq_true_of_le (by omega)
  ·rw [Q8];exact Nat.ble_eq_true_of_le (by omega)
  ·have ez:Q6 t L (fun k=>(xd F t i).getD k 0) (fun k=>F.getD k 0) ((i+1:Nat):Int)=xd F t (i+1):=by
    unfold Q6
    rw [eA,Dp (by rw [lA])]
    rfl
   rw [ez]
   refine FO (m:=6) (by kernel_rfl) hb ?_
   have e1:(GJ F t i).take (32*i)++List.take (32-0) (List.drop (0+0*1) (xd F t (i+1)))=GJ F t (i+1):=by
    rw [Dd (Q8 F t i),show 0+0*1=0 from rfl,show 32-0=32 from rfl,List.drop_zero,Dd (Ou F t (i+1))]
    rfl
   have next:=ih (i+1) (by omega)
   unfold Up at next
   rw [Q9 (Ou F t (i+1))] at next
   rw [e1,Am (z:=((i+1:Nat):Int)+1) (by omega)]
   exact next
theorem AaF {o n m n' m':Nat} {xs ds:List Int} (h1:o+n≤xs.length) (h2:n'≤ds.length) (hn:n≤4398046511104) (hn1:1≤n') (hn':n'≤255) :
  Ad Tryz.prog 298 [AI 0 o n m,AI 1 0 n' m',.val false [.n .i64 256]] (Ct xs ds) 2 [] (.tup [(false,[.sx 5 256 1]),(false,[.n .i64 0])]) (Or (Hx (AA xs o n) (AA ds 0 n'))):=by
 have hd:(AA ds 0 n').length=n':=CN (by omega)
 have l0:(List.take n' (List.drop 0 ds)).length=n':=CN (off:=0) (by omega)
 have eG:RA n' ds=FG (AA ds 0 n'):=by
  unfold RA FG
  rw [hd,nQ (by omega),Nat.zero_add,Dd l0]
  rfl
 have lT:(FG (AA ds 0 n')).length=n'+1:=D7 hd rfl
 have e1:ZH o n xs=List.replicate 64 0++AA xs o n:=rfl
 have l1:(ZH o n xs).length=64+n:=by rw [e1,List.length_append,List.length_replicate,CN h1]
 have e2:RB o n xs=List.replicate 64 0++AA xs o n++[1,0,0]:=by unfold RB;rw [Dd l1,e1]
 have l2:(RB o n xs).length=64+n+3:=by unfold RB;rw [Dd l1];exact D7 l1 rfl
 have lx:(RA n' ds).length=0+n'+1:=by rw [eG,lT];omega
 have e3:RC o n n' xs ds=List.replicate 64 0++AA xs o n++[1,0,0]++FG (AA ds 0 n'):=by unfold RC;rw [Dd l2,Dd lx,e2,eG]
 have l3:(RC o n n' xs ds).length=64+n+3+(0+n'+1):=by unfold RC;rw [Dd l2,Dd lx];exact D7 l2 lx
 refine Av (path:=[false,false]) Tryz.func298 (by kernel_rfl) (by kernel_rfl) fun β0 w0 hb=>?_
 refine Ae Qu AB (AaD o n m n' m' xs ds) ?_ (AL (by kernel_rfl)) hb (fun _ h=>by cases h) fun _=>?_
 ·have hh:AJ .i64 (n':Int)=true:=DI (by omega)
  rw [l3,lx,l2,l1,l0]
  exact ⟨hh,decide_eq_false (by omega),hh,decide_eq_false (by omega),rfl,Nat.ble_eq_true_of_le (by omega),DV (by omega),hh,Nat.ble_eq_true_of_le (by omega),DV (by omega),rfl,rfl,rfl,Nat.ble_eq_true_of_le h1,DV (by omega),Nat.ble_eq_true_of_le (by omega),DV (by omega),Nat.ble_eq_true_of_le (by omega),Nat.ble_eq_true_of_le (by omega),DV (by omega),Nat.ble_eq_true_of_le (by omega),Nat.ble_eq_true_of_le (by omega),trivial⟩
 ·refine FO (m:=5) (by kernel_rfl) hb ?_
  refine PO (ts:=[11]) (sz:=1) (ty:=5) (kd:=.u8) rfl (hb 5 (by decide)) (AEC [13] ?_)
  refine K8 (k:=4) (ty:=122) (o:=false) (cs':=[.seq .u8 (List.replicate 32 0)]) rfl AED ?_
  rw [Dp l3,e3,eG,ZF]
  have next:=AaE (xs:=xs) (ds:=ds) (F:=Q7 (AA xs o n) (FG (AA ds 0 n'))) (w0:=w0) (LA _) (show (FG (AA ds 0 n')).length=0+n'+1 by rw [lT];omega) (by omega) hb 8 0 rfl
  unfold Up at next
  rw [Q9 (l:=Q7 (AA xs o n) (FG (AA ds 0 n'))) (LA _),Q9 (Ou _ _ 0)] at next
  exact next
def RD (m:Nat):Nat→Nat→List AV→List AV
 | _,_,[]=>[]
 | t,i,x::r=>(match Nat.beq i t,x with
  | true,.val false [.sx k len _]=>.val false [.sl k 0 len m]
  | _,y=>y)::RD m t (i+1) r
theorem AEH (m t:Nat):∀ (T:List AV) (i j:Nat),Aq (RD m t i T) j=Aq T j∨∃ k len sz,i+j=t∧Aq T j=.val false [.sx k len sz]∧Aq (RD m t i T) j=.val false [.sl k 0 len m]
 | [],_,_=>.inl rfl
 | x::r,i,0=>by
  simp only [RD,Aq]
  split
  ·rename_i k len sz h;exact .inr ⟨_,_,_,An.1 h,rfl,rfl⟩
  ·exact .inl rfl
 | x::r,i,j+1=>by
  rcases AEH m t r (i+1) j with h | ⟨k,len,sz,h1,h2,h3⟩
  ·exact .inl h
  ·exact .inr ⟨k,len,sz,by omega,h2,h3⟩
theorem AaG {P:Program} {f:FuncId} {β0:Env} {w0:World} {R:Ending→World→Prop} {n:Fz} {W:List Nat} {todo:List Item} {T:List AV} {H:Heap} {fr:Nat} {p:List Bool} {t k len sz:Nat} (ht:Aq T t=.val false [.sx k len sz])
  (h:∀ m,len≤m→ASafe P f β0 w0 R n W ⟨todo,⟨RD m t 0 T,H,fr,p⟩⟩):ASafe P f β0 w0 R n W ⟨todo,⟨T,H,fr,p⟩⟩:=by
 intro β a w hi hf
 have r:=hi.tmp t
 change AP β (Aq T t) _ at r
 rw [ht] at r
 have key:∃ m,len≤m∧AP β (.val false [.sl k 0 len m]) (a.tmps.getD t undef):=by
  obtain ⟨l1,l2,h1,h2,h3⟩:=r
  rcases h1 with ⟨B,q,cap,q1,q2,q3,q4⟩ | ⟨q1,q2,q3⟩
  ·exact ⟨cap,q3,l1,l2,.inl ⟨B,(q,0),q1,by rw [q2]⟩,h2,h3⟩
  ·exact ⟨0,by omega,l1,l2,.inr ⟨q1,rfl,q2,rfl,q3⟩,h2,h3⟩
 obtain ⟨m,hm,r⟩:=key
 refine h m hm β a w { hi with tmp:=fun j=>?_ } hf
 show AP β (Aq (RD m t 0 T) j) _
 rcases AEH m t T 0 j with e | ⟨k',len',sz',e1,e2,e3⟩
 ·rw [e];exact hi.tmp j
 ·have e1:j=t:=by omega
  subst e1
  rw [ht] at e2
  injection e2 with _ e2;injection e2 with e2;injection e2 with x1 x2 x3
  subst x1;subst x2
  rw [e3];exact r
def rxV:AV:=.tup [(false,[.sx 5 256 1]),(false,[.n .i64 0])]
noncomputable def SCe0:List (FuncId×ASpec):=(298,Uo 256 rxV 5 4 fun x d=>⟨5,[.seq .u8 (Hx x d)],true⟩)::SYd2
theorem AaI:AX Tryz.prog SCe0:=⟨nV Tryz.func298 (by kernel_rfl) (by kernel_rfl) (fun _ _=>rfl) fun _ _ h1 h2 h3 h4 h5 _=>AaF h1 h2 h3 h4 h5,Uk⟩
noncomputable abbrev oCe0:Orc:=AH SCe0 KV
theorem AEI:OrcOk Tryz.prog oCe0:=AK AaI A9
noncomputable abbrev fdrF:Func:=Tryz.f248
noncomputable def AEJ (o n m n' m':Nat) (xs ds:List Int) (p:List Bool):ASt:=Af fdrF [AI 0 o n m,AI 1 0 n' m',.val false [.n .i64 2]] (Ct xs ds) 2 p
noncomputable def AEK:List Item:=Be (AS Tryz.prog oCe0 (some 0) 300 2 none (AEJ 0 0 0 0 0 [] [] []))
noncomputable def AEL (s:AV):List AV:=C8 fdrF.ntmps [(2,.val false [.n .i64 2]),(9,s),(11,JI),(12,.val false [.n .i64 0])]
noncomputable def AaJ (Z:List Int) (s:AV) (p:List Bool):ASt:=⟨AEK,⟨AEL s,[(2,some ⟨5,[.seq .u8 Z],true⟩)],3,p⟩⟩
section
variable (o n m n' m':Nat) (xs ds:List Int)
theorem AaK:AS Tryz.prog oCe0 (some 0) 300 2 (some ([2,9,11,12],[5],6)) (AEJ o n m n' m' xs ds []) =
 some ([(Nat.ble (o+n) xs.length,true),(Nat.ble n' ds.length,true),(Nat.ble n 4398046511104,true),(Nat.ble 1 n',true),(Nat.ble n' 255,true),(Nat.ble n' m',true)],[],⟨AEK,⟨E7 (Bt 2 [5]) (AEL (.val false [.sx 2 256 1])),EL (Bt 2 [5]) [(2,some ⟨5,[.seq .u8 (D9 o n n' xs ds)],true⟩)],6,[]⟩⟩):=by kernel_rfl
theorem AaL (Z:List Int):AM Tryz.prog oCe0 fdrF 300 2 [14] (AaJ Z (AI 2 0 256 m) [false,false,false,false]) =
 some ((decide ((0:Int)≤64∧(64:Int)≤m),true)::(true,true)::(Nat.beq m 0,false)::(Nat.ble 64 Z.length,true)::tt 3 ((decide ((0:Int)≤128∧(128:Int)≤m),true)::(true,true)::(Nat.beq m 64,false)::(Nat.ble 128 Z.length,true)::tt 4 ((decide ((0:Int)≤192∧(192:Int)≤m),true)::(true,true)::(Nat.beq m 128,false)::(Nat.ble 192 Z.length,true)::tt 3 ((decide ((0:Int)≤256∧(256:Int)≤m),true)::(true,true)::(Nat.beq m 192,false)::(Nat.ble 256 Z.length,true)::tt 4 []))),[],
  .tup [(false,[.sx 14 2 12]),(false,[.n .i64 0])],ZG 14 (E3 Z 0) (E3 Z 1) (E3 Z 2) (E3 Z 3)):=by kernel_rfl
end
theorem AaM {o n m n' m':Nat} {xs ds:List Int} (h1:o+n≤xs.length) (h2:n'≤ds.length) (hn:n≤4398046511104) (hn1:1≤n') (hn':n'≤255) (hm:n'≤m') :
  Ad Tryz.prog 248 [AI 0 o n m,AI 1 0 n' m',.val false [.n .i64 2]] (Ct xs ds) 2 [] (nW 14) [(14,some (Q_ (AA xs o n) (AA ds 0 n')))]:=by
 refine Av (path:=[]) Tryz.func248 (by kernel_rfl) (by kernel_rfl) fun β0 w0 hb=>?_
 refine Ae AEI AB (AaK o n m n' m' xs ds) ⟨Nat.ble_eq_true_of_le h1,Nat.ble_eq_true_of_le h2,Nat.ble_eq_true_of_le hn,Nat.ble_eq_true_of_le hn1,Nat.ble_eq_true_of_le hn',Nat.ble_eq_true_of_le hm,trivial⟩ (AL (by kernel_rfl)) hb (fun _ h=>by cases h) fun _=>?_
 refine FO (m:=3) (by kernel_rfl) hb ?_
 refine AaG (t:=9) (k:=2) (len:=256) (sz:=1) (by kernel_rfl) fun c hc=>?_
 have lZ:(D9 o n n' xs ds).length=256:=nU _ _
 have b64:∀ k,k≤256→Nat.ble k (D9 o n n' xs ds).length=true:=fun k hk=>Nat.ble_eq_true_of_le (by rw [lZ];exact hk)
 have bc:∀ k,k<256→Nat.beq c k=false:=fun k hk=>FJ (by omega)
 have:=As (P:=Tryz.prog) (n:=fdrF.ntmps) (β0:=β0) (w0:=w0) (W:=[]) AEI AB Tryz.func248 (AaL c (D9 o n n' xs ds)) ⟨decide_eq_true (by omega),rfl,bc 0 (by decide),b64 64 (by decide),Ac 3 ⟨decide_eq_true (by omega),rfl,bc 64 (by decide),b64 128 (by decide),Ac 4 ⟨decide_eq_true (by omega),rfl,bc 128 (by decide),b64 192 (by decide),Ac 3 ⟨decide_eq_true (by omega),rfl,bc 192 (by decide),b64 256 (by decide),Ac 4 trivial⟩⟩⟩⟩ (AL (by kernel_rfl)) hb (fun _ h=>by cases h)
 have e:ZG 14 (E3 (D9 o n n' xs ds) 0) (E3 (D9 o n n' xs ds) 1) (E3 (D9 o n n' xs ds) 2) (E3 (D9 o n n' xs ds) 3)=[(14,some (Q_ (AA xs o n) (AA ds 0 n')))]:=by
  unfold D9
  rw [M5 _ _ (by decide),M5 _ _ (by decide),M5 _ _ (by decide),M5 _ _ (by decide)]
  rfl
 rw [e] at this
 exact Ab [false,false,false,false] this
noncomputable def SCe:List (FuncId×ASpec):=(248,Uo 2 (nW 14) 14 13 Q_)::SCc
theorem AaN:AX Tryz.prog SCe:=⟨nV Tryz.func248 (by kernel_rfl) (by kernel_rfl) (fun _ _=>rfl) fun _ _ h1 h2 h3 h4 h5 h6=>AaM h1 h2 h3 h4 h5 h6,AZ9⟩
end Go.Proofs.YtjlcdlekmpjjnaaGreat
namespace Go.Proofs.YtjlcdlekmpjjnaaGreat
open Ex Num Rg
open Sh (R av rd mo en mo_en)
set_option maxRecDepth 100000
set_option maxHeartbeats 4000000
noncomputable def SCf0:List (FuncId×ASpec):=(155,Aj (Bz FP2 fun r=>Cq (BX (mo r))))::(SVg++(SQt++SQg))
theorem AEM:AX Tryz.prog SCf0:=⟨Ak Tryz.func155 (by kernel_rfl) (by kernel_rfl) (CC ABf),K3 ACi (K3 ACD ACA)⟩
noncomputable abbrev oCf0:Orc:=AH SCf0 KV
theorem Ow:OrcOk Tryz.prog oCf0:=AK AEM A9
noncomputable def SCf1:List (FuncId×ASpec):=(328,BY Tryz.prog oCf0 Tryz.f328 3000)::(331,BY Tryz.prog oCf0 Tryz.f331 100)::(330,BY Tryz.prog oCf0 Tryz.f330 100)::(329,BY Tryz.prog oCf0 Tryz.f329 100)::(350,BY Tryz.prog oCf0 Tryz.f350 100)::(349,BY Tryz.prog oCf0 Tryz.f349 100)::(337,BY Tryz.prog oCf0 Tryz.f337 100)::SCf0
theorem n8:AX Tryz.prog SCf1:=⟨Bj Ow AB Tryz.func328 (by kernel_rfl) (by kernel_rfl) 3000,Bj Ow AB Tryz.func331 (by kernel_rfl) (by kernel_rfl) 100,Bj Ow AB Tryz.func330 (by kernel_rfl) (by kernel_rfl) 100,Bj Ow AB Tryz.func329 (by kernel_rfl) (by kernel_rfl) 100,Bj Ow AB Tryz.func350 (by kernel_rfl) (by kernel_rfl) 100,Bj Ow AB Tryz.func349 (by kernel_rfl) (by kernel_rfl) 100,Bj Ow AB Tryz.func337 (by kernel_rfl) (by kernel_rfl) 100,AEM⟩
noncomputable abbrev oCf1:Orc:=AH SCf1 KV
theorem AEN:OrcOk Tryz.prog oCf1:=AK n8 A9
noncomputable section
def aR:R FP2:=((0:Nat),(240:Nat))
def bR:R FP2:=((1012:Nat),(1012:Nat))
def zR:R FP2:=ng FP2 ((2:Nat),(1:Nat))
def oR:R FP2:=((1:Nat),(0:Nat))
def DB:R FP2:=((0:Nat),(0:Nat))
def aF:FP2:=mo aR
def bF:FP2:=mo bR
def zF:FP2:=mo zR
theorem AEO:(mo oR:FP2)=1:=Qx.ext En rfl
theorem mo_zoR:(mo DB:FP2)=0:=rfl
def FH (x:FP2):FP2:=x*x*x+aF*x+bF
def n9 (r:R FP2):R FP2:=ad FP2 (mu FP2 (ad FP2 (mu FP2 (ad FP2 (mu FP2 (ad FP2 (mu FP2 DB r) oR) r) DB) r) aR) r) bR
def oA (r:R FP2):R FP2:=ad FP2 (ad FP2 (mu FP2 (mu FP2 r r) r) (mu FP2 aR r)) bR
theorem AaO (r:R FP2):AR Tryz.prog oCf1 Tryz.f336 [va FP2 r] [] 300=some ([],va FP2 (oA r)):=by kernel_rfl
theorem AaP (r:R FP2):AR Tryz.prog oCf1 Tryz.f333 [va FP2 r] [true,true,true,true,false] 300=some (tt 9 ((false,false)::[]),va FP2 (n9 r)):=by kernel_rfl
theorem AaQ (r:R FP2):oA r=en (FH (mo r)):=by simp only [oA,ad,mu,mo_en];rfl
theorem AaR (x a b:FP2):(((0*x+1)*x+0)*x+a)*x+b=x*x*x+a*x+b:=ring [x,a,b] (a:=(((0*x+1)*x+0)*x+a)*x+b) (b:=x*x*x+a*x+b) (by kernel_rfl)
theorem AaS (r:R FP2):n9 r=en (FH (mo r)):=by
 simp only [n9,ad,mu,mo_en,AEO,mo_zoR]
 exact congrArg en (AaR _ _ _)
def SCf2:List (FuncId×ASpec):=(333,Aj (Bz FP2 fun r=>va FP2 (en (FH (mo r)))))::(336,Aj (Bz FP2 fun r=>va FP2 (en (FH (mo r)))))::SCf1
theorem AEP:AX Tryz.prog SCf2:=⟨Ak Tryz.func333 (by kernel_rfl) (by kernel_rfl) (CC fun r=>by rw [← AaS];exact AW AEN AB Tryz.func333 (AaP r) (Ac 9 ⟨rfl,trivial⟩) rfl),Ak Tryz.func336 (by kernel_rfl) (by kernel_rfl) (CC fun r=>by rw [← AaQ];exact AW AEN AB Tryz.func336 (AaO r) trivial rfl),n8⟩
abbrev oCf2:Orc:=AH SCf2 KV
theorem AEQ:OrcOk Tryz.prog oCf2:=AK AEP A9
def SCf3:List (FuncId×ASpec):=(332,BY Tryz.prog oCf2 Tryz.f332 300)::(335,BY Tryz.prog oCf2 Tryz.f335 300)::SCf2
theorem AaT:AX Tryz.prog SCf3:=⟨Bj AEQ AB Tryz.func332 (by kernel_rfl) (by kernel_rfl) 300,Bj AEQ AB Tryz.func335 (by kernel_rfl) (by kernel_rfl) 300,AEP⟩
abbrev oCf3:Orc:=AH SCf3 KV
theorem ZI:OrcOk Tryz.prog oCf3:=AK AaT A9
def wR (r:R FP2):R FP2:=mu FP2 zR (mu FP2 r r)
def tR (r:R FP2):R FP2:=ad FP2 (mu FP2 (wR r) (wR r)) (wR r)
def GK (r:R FP2):Bool→R FP2
 | true=>mu FP2 bR (iv FP2 (mu FP2 zR aR))
 | false=>mu FP2 (ng FP2 (mu FP2 bR (iv FP2 aR))) (ad FP2 oR (iv FP2 (tR r)))
def M6 (r:R FP2) (b:Bool):R FP2:=mu FP2 (wR r) (GK r b)
def IX (x:R FP2):R FP2:=en (Et (mo (en (FH (mo x)):R FP2)))
def RE (x:R FP2):Bool:=DX (mo (en (FH (mo x)):R FP2))
def Uq (r y:R FP2):Bool:=!decide (BX (mo y)=BX (mo r))
def RF (y:R FP2):Bool→R FP2
 | true=>ng FP2 y
 | false=>y
def RG (x y:R FP2):AV:=.tup [(true,av x),(true,av y)]
end
theorem AaU (r:R FP2):∀ b c:Bool,AR Tryz.prog oCf3 Tryz.f291 [va FP2 r] [b,c,true] 300=some ([(Bl (tR r) DB,b),(Uq r (IX (GK r b)),c),(RE (GK r b),true)],RG (GK r b) (RF (IX (GK r b)) c))
 | true,true=>by kernel_rfl
 | true,false=>by kernel_rfl
 | false,true=>by kernel_rfl
 | false,false=>by kernel_rfl
theorem AaV (r:R FP2):∀ b c d:Bool,AR Tryz.prog oCf3 Tryz.f291 [va FP2 r] [b,c,false,d] 300=some ([(Bl (tR r) DB,b),(Uq r (IX (GK r b)),c),(RE (GK r b),false),(Uq r (IX (M6 r b)),d)],RG (M6 r b) (RF (IX (M6 r b)) d))
 | true,true,true=>by kernel_rfl
 | true,false,true=>by kernel_rfl
 | false,true,true=>by kernel_rfl
 | false,false,true=>by kernel_rfl
 | true,true,false=>by kernel_rfl
 | true,false,false=>by kernel_rfl
 | false,true,false=>by kernel_rfl
 | false,false,false=>by kernel_rfl
noncomputable def ZJ (r y:R FP2):Bool:=!decide (BX (mo r)=BX (mo y))
theorem AaW (r:R FP2):∀ b d:Bool,AR Tryz.prog oCf3 Tryz.f300 [va FP2 r] [b,false,d] 300=some ([(Bl (tR r) DB,b),(!RE (GK r b),false),(ZJ r (IX (GK r b)),d)],RG (GK r b) (RF (IX (GK r b)) d))
 | true,true=>by kernel_rfl
 | true,false=>by kernel_rfl
 | false,true=>by kernel_rfl
 | false,false=>by kernel_rfl
theorem AaX (r:R FP2):∀ b d:Bool,AR Tryz.prog oCf3 Tryz.f300 [va FP2 r] [b,true,d] 300=some ([(Bl (tR r) DB,b),(!RE (GK r b),true),(ZJ r (IX (M6 r b)),d)],RG (M6 r b) (RF (IX (M6 r b)) d))
 | true,true=>by kernel_rfl
 | true,false=>by kernel_rfl
 | false,true=>by kernel_rfl
 | false,false=>by kernel_rfl
noncomputable section
def wF (u:FP2):FP2:=zF*(u*u)
def tF (u:FP2):FP2:=wF u*wF u+wF u
def JM (u:FP2):Bool→FP2
 | true=>bF*FD.inv (zF*aF)
 | false=>-(bF*FD.inv aF)*(1+FD.inv (tF u))
def FI (u:FP2):Bool:=decide (tF u=0)
def Ur (u:FP2):FP2:=JM u (FI u)
def RH (u:FP2):FP2:=match DX (FH (Ur u)) with
 | true=>Ur u
 | false=>wF u*Ur u
def oB (u y:FP2):FP2:=match (!decide (BX y=BX u)) with
 | true=>-y
 | false=>y
def Us (u:FP2):FP2:=oB u (Et (FH (RH u)))
theorem AaY (r:R FP2):tR r=en (tF (mo r)):=by simp only [tR,wR,ad,mu,mo_en];rfl
theorem ZK (r:R FP2):Bl (tR r) DB=FI (mo r):=by rw [AaY,show DB=en (0:FP2) from rfl,N6];rfl
theorem oC (r:R FP2):∀ b,GK r b=en (JM (mo r) b)
 | true=>by simp only [GK,iv,mu,mo_en];rfl
 | false=>by simp only [GK,tR,wR,iv,ad,ng,mu,mo_en,AEO];rfl
theorem AER (r:R FP2) (b:Bool):M6 r b=en (wF (mo r)*JM (mo r) b):=by unfold M6;rw [oC];simp only [wR,mu,mo_en];rfl
theorem LF (x:FP2):IX (en x)=en (Et (FH x)):=by unfold IX;rw [mo_en,mo_en]
theorem ZL (x:FP2):RE (en x)=DX (FH x):=by unfold RE;rw [mo_en,mo_en]
theorem oD (r:R FP2) (y:FP2):Uq r (en y)=!decide (BX y=BX (mo r)):=by unfold Uq;rw [mo_en]
theorem AES (r:R FP2) (y:FP2):ZJ r (en y)=!decide (BX y=BX (mo r)):=by unfold ZJ;rw [mo_en];exact congrArg _ (decide_eq_decide.2 ⟨Eq.symm,Eq.symm⟩)
theorem ZM (r:R FP2) (y:FP2):RF (en y) (!decide (BX y=BX (mo r)))=en (oB (mo r) y):=by
 unfold oB RF
 cases (!decide (BX y=BX (mo r))) with
 | true=>exact (show ng FP2 (en y)=en (-y) by unfold ng;rw [mo_en])
 | false=>rfl
def RJ (u:FP2):AV:=RG (en (RH u)) (en (Us u))
theorem AaZ (r:R FP2):AU Tryz.prog 291 [va FP2 r] (RJ (mo r)):=by
 have e1:=oC r (FI (mo r))
 have e2:=AER r (FI (mo r))
 unfold RJ Us RH Ur
 cases hi:DX (FH (JM (mo r) (FI (mo r)))) with
 | true =>
  have h:=AW ZI AB Tryz.func291 (AaU r (FI (mo r)) (!decide (BX (Et (FH (JM (mo r) (FI (mo r)))))=BX (mo r)))) ⟨ZK r,by rw [e1,LF,oD],by rw [e1,ZL];exact hi,trivial⟩ rfl
  rw [e1,LF,ZM] at h
  exact h
 | false =>
  have h:=AW ZI AB Tryz.func291 (AaV r (FI (mo r)) (!decide (BX (Et (FH (JM (mo r) (FI (mo r)))))=BX (mo r))) (!decide (BX (Et (FH (wF (mo r)*JM (mo r) (FI (mo r)))))=BX (mo r)))) ⟨ZK r,by rw [e1,LF,oD],by rw [e1,ZL];exact hi,by rw [e2,LF,oD],trivial⟩ rfl
  rw [e2,LF,ZM] at h
  exact h
theorem Aaa (r:R FP2):AU Tryz.prog 300 [va FP2 r] (RJ (mo r)):=by
 have e1:=oC r (FI (mo r))
 have e2:=AER r (FI (mo r))
 unfold RJ Us RH Ur
 cases hi:DX (FH (JM (mo r) (FI (mo r)))) with
 | true =>
  have h:=AW ZI AB Tryz.func300 (AaW r (FI (mo r)) (!decide (BX (Et (FH (JM (mo r) (FI (mo r)))))=BX (mo r)))) ⟨ZK r,by rw [e1,ZL,hi];rfl,by rw [e1,LF,AES],trivial⟩ rfl
  rw [e1,LF,ZM] at h
  exact h
 | false =>
  have h:=AW ZI AB Tryz.func300 (AaX r (FI (mo r)) (!decide (BX (Et (FH (wF (mo r)*JM (mo r) (FI (mo r)))))=BX (mo r)))) ⟨ZK r,by rw [e1,ZL,hi];rfl,by rw [e2,LF,AES],trivial⟩ rfl
  rw [e2,LF,ZM] at h
  exact h
theorem AET:∃ f:FP2→FP2×FP2,∀ u,f u=(RH u,Us u):=⟨_,fun _=>rfl⟩
def LG:FP2→FP2×FP2:=Classical.choose AET
theorem Aab (u:FP2):LG u=(RH u,Us u):=Classical.choose_spec AET u
def ZN (u:FP2):AV:=RG (en (LG u).1) (en (LG u).2)
theorem AEU (u:FP2):ZN u=RJ u:=by unfold ZN RJ;rw [Aab]
def SCf:List (FuncId×ASpec):=(291,Aj (Bz FP2 fun r=>ZN (mo r)))::(300,Aj (Bz FP2 fun r=>ZN (mo r)))::SCf1
theorem oE:AX Tryz.prog SCf:=⟨Ak Tryz.func291 (by kernel_rfl) (by kernel_rfl) (CC fun r=>by rw [AEU];exact AaZ r),Ak Tryz.func300 (by kernel_rfl) (by kernel_rfl) (CC fun r=>by rw [AEU];exact Aaa r),n8⟩
abbrev oCf:Orc:=AH SCf KV
theorem AEV:OrcOk Tryz.prog oCf:=AK oE A9
end
noncomputable section
def SCg0:List (FuncId×ASpec):=(351,BY Tryz.prog oCf Tryz.f351 300)::(352,BY Tryz.prog oCf Tryz.f352 300)::SCf
theorem AEW:AX Tryz.prog SCg0:=⟨Bj AEV AB Tryz.func351 (by kernel_rfl) (by kernel_rfl) 300,Bj AEV AB Tryz.func352 (by kernel_rfl) (by kernel_rfl) 300,oE⟩
abbrev oCg0:Orc:=AH SCg0 KV
theorem Aac:OrcOk Tryz.prog oCg0:=AK AEW A9
def SCg1:List (FuncId×ASpec):=(338,BY Tryz.prog oCg0 Tryz.f338 600)::SCg0
theorem Aad:AX Tryz.prog SCg1:=⟨Bj Aac AB Tryz.func338 (by kernel_rfl) (by kernel_rfl) 600,AEW⟩
abbrev oCg1:Orc:=AH SCg1 KV
theorem RK:OrcOk Tryz.prog oCg1:=AK Aad A9
def oF:R FP2:=((0:Nat),(4002409555221667393417789825735904156556882819939007885332058136124031650490837864442687629129015664037894272559715:Nat))
def oG:R FP2:=((12:Nat),(4002409555221667393417789825735904156556882819939007885332058136124031650490837864442687629129015664037894272559775:Nat))
def oH:R FP2:=((1:Nat),(0:Nat))
def i4a:R FP2:=((4002409555221667393417789825735904156556882819939007885332058136124031650490837864442687629129015664037894272559355:Nat),(4002409555221667393417789825735904156556882819939007885332058136124031650490837864442687629129015664037894272559355:Nat))
def i4b:R FP2:=((0:Nat),(4002409555221667393417789825735904156556882819939007885332058136124031650490837864442687629129015664037894272559571:Nat))
def i4c:R FP2:=((18:Nat),(4002409555221667393417789825735904156556882819939007885332058136124031650490837864442687629129015664037894272559769:Nat))
def i4d:R FP2:=((1:Nat),(0:Nat))
def i1a:R FP2:=((889424345604814976315064405719089812568196182208668418962679585805340366775741747653930584250892369786198727235542:Nat),(889424345604814976315064405719089812568196182208668418962679585805340366775741747653930584250892369786198727235542:Nat))
def i1b:R FP2:=((0:Nat),(2668273036814444928945193217157269437704588546626005256888038757416021100327225242961791752752677109358596181706522:Nat))
def i1c:R FP2:=((2668273036814444928945193217157269437704588546626005256888038757416021100327225242961791752752677109358596181706526:Nat),(1334136518407222464472596608578634718852294273313002628444019378708010550163612621480895876376338554679298090853261:Nat))
def i1d:R FP2:=((3557697382419259905260257622876359250272784728834673675850718343221361467102966990615722337003569479144794908942033:Nat),(0:Nat))
def i3a:R FP2:=((3261222600550988246488569487636662646083386001431784202863158481286248011511053074731078808919938689216061999863558:Nat),(3261222600550988246488569487636662646083386001431784202863158481286248011511053074731078808919938689216061999863558:Nat))
def i3b:R FP2:=((0:Nat),(889424345604814976315064405719089812568196182208668418962679585805340366775741747653930584250892369786198727235518:Nat))
def i3c:R FP2:=((2668273036814444928945193217157269437704588546626005256888038757416021100327225242961791752752677109358596181706524:Nat),(1334136518407222464472596608578634718852294273313002628444019378708010550163612621480895876376338554679298090853263:Nat))
def i3d:R FP2:=((2816510427748580758331037284777117739799287910327449993381818688383577828123182200904113516794492504322962636245776:Nat),(0:Nat))
def RM (r a b c d:R FP2):R FP2:=ad FP2 (mu FP2 (ad FP2 (mu FP2 (ad FP2 (mu FP2 (ad FP2 (mu FP2 DB r) d) r) c) r) b) r) a
def pl3 (r a b c:R FP2):R FP2:=ad FP2 (mu FP2 (ad FP2 (mu FP2 (ad FP2 (mu FP2 DB r) c) r) b) r) a
def Ox (r:R FP2) (p2:R FP2):R FP2:=mu FP2 (RM r i1a i1b i1c i1d) (iv FP2 p2)
def Oy (r s:R FP2) (p4:R FP2):R FP2:=mu FP2 s (mu FP2 (RM r i3a i3b i3c i3d) (iv FP2 p4))
def Oz (x y:R FP2):AV:=.val true (CB (av x) (CB (av y) [.b false]))
def RN (r:R FP2):R FP2:=pl3 r oF oG oH
def M7 (r:R FP2):R FP2:=RM r i4a i4b i4c i4d
def RO (r:R FP2):R FP2:=RM r oF oG oH DB
end
section
variable (r s:R FP2)
theorem Aae:AR Tryz.prog oCg1 Tryz.f290 [va FP2 r,va FP2 s] [true,true,true,false,true,true,true,true,false,true] 600=some (tt 7 ((false,false)::tt 9 ((false,false)::(Bl (RN r) DB,true)::[])),.val true (Bv true)):=by kernel_rfl
theorem Aaf:AR Tryz.prog oCg1 Tryz.f290 [va FP2 r,va FP2 s] [true,true,true,false,true,true,true,true,false,false,true] 600=some (tt 7 ((false,false)::tt 9 ((false,false)::(Bl (RN r) DB,false)::(Bl (M7 r) DB,true)::[])),.val true (Bv true)):=by kernel_rfl
theorem Aag:AR Tryz.prog oCg1 Tryz.f290 [va FP2 r,va FP2 s] [true,true,true,false,true,true,true,true,false,false,false,true,true,true,true,false,true,true,true,true,false] 600=some (tt 7 ((false,false)::tt 9 ((false,false)::(Bl (RN r) DB,false)::(Bl (M7 r) DB,false)::tt 9 ((false,false)::tt 9 ((false,false)::[])))),Oz (Ox r (RN r)) (Oy r s (M7 r))):=by kernel_rfl
theorem Aah:AR Tryz.prog oCg1 Tryz.f301 [va FP2 r,va FP2 s] [true] 600=some ([(Bl (RO r) DB,true)],.val true (Bv true)):=by kernel_rfl
theorem Aai:AR Tryz.prog oCg1 Tryz.f301 [va FP2 r,va FP2 s] [false,true] 600=some ([(Bl (RO r) DB,false),(Bl (M7 r) DB,true)],.val true (Bv true)):=by kernel_rfl
theorem Aaj:AR Tryz.prog oCg1 Tryz.f301 [va FP2 r,va FP2 s] [false,false] 600=some ([(Bl (RO r) DB,false),(Bl (M7 r) DB,false)],Oz (Ox r (RO r)) (Oy r s (M7 r))):=by kernel_rfl
end
noncomputable section
def RP (x a b c d:FP2):FP2:=(((0*x+d)*x+c)*x+b)*x+a
def Eb (k:Nat) (x:FP2):FP2:=match k with
 | 1=>RP x (mo i1a) (mo i1b) (mo i1c) (mo i1d)
 | 2=>RP x (mo oF) (mo oG) (mo oH) 0
 | 3=>RP x (mo i3a) (mo i3b) (mo i3c) (mo i3d)
 | _=>RP x (mo i4a) (mo i4b) (mo i4c) (mo i4d)
def oI (p1 p2 p3 p4 y:FP2):P2:=match decide (p2=0) with
 | true=>.inf
 | false=>match decide (p4=0) with
  | true=>.inf
  | false=>.pt (p1*FD.inv p2) (y*(p3*FD.inv p4))
def RQ (x y:FP2):P2:=oI (Eb 1 x) (Eb 2 x) (Eb 3 x) (Eb 4 x) y
theorem ZO (r a b c d:R FP2):RM r a b c d=en (RP (mo r) (mo a) (mo b) (mo c) (mo d)):=by simp only [RM,ad,mu,mo_en,mo_zoR];rfl
theorem Aak (x a b c:FP2):((0*x+c)*x+b)*x+a=RP x a b c 0:=ring [x,a,b,c] (a:=((0*x+c)*x+b)*x+a) (b:=(((0*x+0)*x+c)*x+b)*x+a) (by kernel_rfl)
theorem Aal (r:R FP2):RN r=en (Eb 2 (mo r)):=by
 simp only [RN,pl3,ad,mu,mo_en,mo_zoR]
 exact congrArg en (Aak _ _ _ _)
theorem Aam (r:R FP2):RO r=en (Eb 2 (mo r)):=by unfold RO;rw [ZO];rfl
theorem AEk (r:R FP2):M7 r=en (Eb 4 (mo r)):=by unfold M7;rw [ZO];rfl
theorem Aan (r:R FP2) (p:FP2):Ox r (en p)=en (Eb 1 (mo r)*FD.inv p):=by unfold Ox iv mu;rw [ZO,mo_en,mo_en,mo_en];rfl
theorem Aao (r s:R FP2) (p:FP2):Oy r s (en p)=en (mo s*(Eb 3 (mo r)*FD.inv p)):=by unfold Oy iv mu;rw [ZO,mo_en,mo_en,mo_en,mo_en];rfl
theorem Aap:DB=en (0:FP2):=rfl
theorem Aaq {F:FuncId} {args:List AV} (X Y:FP2) (h:AU Tryz.prog F args (Oz (en X) (en Y))):AU Tryz.prog F args (ve (.pt X Y:P2)):=D2 (α:=P2) (r:=(en (.pt X Y:P2):R P2)) h (by kernel_rfl)
theorem Aar {F:FuncId} {r s:R FP2} {p1 p2 p3 p4:FP2}
  (h1:decide (p2=0)=true→AU Tryz.prog F [va FP2 r,va FP2 s] (.val true (Bv true))) (h2:decide (p2=0)=false→decide (p4=0)=true→AU Tryz.prog F [va FP2 r,va FP2 s] (.val true (Bv true)))
  (h3:decide (p2=0)=false→decide (p4=0)=false→AU Tryz.prog F [va FP2 r,va FP2 s] (Oz (en (p1*FD.inv p2)) (en (mo s*(p3*FD.inv p4))))):AU Tryz.prog F [va FP2 r,va FP2 s] (ve (oI p1 p2 p3 p4 (mo s))):=by
 have z:AU Tryz.prog F [va FP2 r,va FP2 s] (.val true (Bv true))→AU Tryz.prog F [va FP2 r,va FP2 s] (ve (.inf:P2)):=fun h=>D2 (α:=P2) (r:=(en (.inf:P2):R P2)) h (by kernel_rfl)
 unfold oI
 cases q2:decide (p2=0) with
 | true=>exact z (h1 q2)
 | false =>
  cases q4:decide (p4=0) with
  | true=>exact z (h2 q2 q4)
  | false=>exact Aaq _ _ (h3 q2 q4)
theorem AEl {p:R FP2} {x:FP2} (e:p=en x):Bl p DB=decide (x=0):=by rw [e,Aap,N6]
theorem Aas {x y x' y':R FP2} (e1:x=x') (e2:y=y'):Oz x y=Oz x' y':=by rw [e1,e2]
theorem AEm {F:FuncId} {r s:R FP2} {p2 p4:R FP2} (e2:p2=en (Eb 2 (mo r))) (e4:p4=en (Eb 4 (mo r)))
  (h1:Bl p2 DB=true→AU Tryz.prog F [va FP2 r,va FP2 s] (.val true (Bv true))) (h2:Bl p2 DB=false→Bl p4 DB=true→AU Tryz.prog F [va FP2 r,va FP2 s] (.val true (Bv true)))
  (h3:Bl p2 DB=false→Bl p4 DB=false→AU Tryz.prog F [va FP2 r,va FP2 s] (Oz (Ox r p2) (Oy r s p4))):AU Tryz.prog F [va FP2 r,va FP2 s] (ve (RQ (mo r) (mo s))):=by
 have f2:=AEl e2
 have f4:=AEl e4
 have ex:Ox r p2=en (Eb 1 (mo r)*FD.inv (Eb 2 (mo r))):=(congrArg (Ox r) e2).trans (Aan r _)
 have ey:Oy r s p4=en (mo s*(Eb 3 (mo r)*FD.inv (Eb 4 (mo r)))):=(congrArg (Oy r s) e4).trans (Aao r s _)
 unfold RQ
 generalize Eb 1 (mo r)=q1 at *
 generalize Eb 2 (mo r)=q2 at *
 generalize Eb 3 (mo r)=q3 at *
 generalize Eb 4 (mo r)=q4 at *
 exact Aar (fun h=>h1 (f2.trans h)) (fun h h'=>h2 (f2.trans h) (f4.trans h')) fun h h'=>(Aas ex ey)▸h3 (f2.trans h) (f4.trans h')
theorem Aat (r s:R FP2):AU Tryz.prog 290 [va FP2 r,va FP2 s] (ve (RQ (mo r) (mo s))) :=
 AEm (Aal r) (AEk r) (fun h=>AW RK AB Tryz.func290 (Aae r s) (Ac 7 ⟨rfl,Ac 9 ⟨rfl,h,trivial⟩⟩) rfl) (fun h h'=>AW RK AB Tryz.func290 (Aaf r s) (Ac 7 ⟨rfl,Ac 9 ⟨rfl,h,h',trivial⟩⟩) rfl)
  fun h h'=>AW RK AB Tryz.func290 (Aag r s) (Ac 7 ⟨rfl,Ac 9 ⟨rfl,h,h',Ac 9 ⟨rfl,Ac 9 ⟨rfl,trivial⟩⟩⟩⟩) rfl
theorem Aau (r s:R FP2):AU Tryz.prog 301 [va FP2 r,va FP2 s] (ve (RQ (mo r) (mo s))) :=
 AEm (Aam r) (AEk r) (fun h=>AW RK AB Tryz.func301 (Aah r s) ⟨h,trivial⟩ rfl) (fun h h'=>AW RK AB Tryz.func301 (Aai r s) ⟨h,h',trivial⟩ rfl)
  fun h h'=>AW RK AB Tryz.func301 (Aaj r s) ⟨h,h',trivial⟩ rfl
theorem AEn:∃ f:FP2→FP2→P2,∀ x y,f x y=RQ x y:=⟨_,fun _ _=>rfl⟩
def RS:FP2→FP2→P2:=Classical.choose AEn
theorem AEo (x y:FP2):RS x y=RQ x y:=Classical.choose_spec AEn x y
def SCg:List (FuncId×ASpec):=(290,Aj (Dm FP2 FP2 fun r s=>ve (RS (mo r) (mo s))))::(301,Aj (Dm FP2 FP2 fun r s=>ve (RS (mo r) (mo s))))::SCf
theorem AEp:AX Tryz.prog SCg:=⟨Ak Tryz.func290 (by kernel_rfl) (by kernel_rfl) (EG fun r s=>by rw [AEo];exact Aat r s),Ak Tryz.func301 (by kernel_rfl) (by kernel_rfl) (EG fun r s=>by rw [AEo];exact Aau r s),oE⟩
abbrev oCg:Orc:=AH SCg KV
theorem AEq:OrcOk Tryz.prog oCg:=AK AEp A9
end
noncomputable section
def hcL:List Int:=[16717924791090763089,6451771550755190452,16813287336095381155,3368952460600638490,7891079509683868336,3646841576362204053,11062809923385098209,9863631852917151592,6362576984766887208,848540440590185907]
theorem AEr:∃ n,n=AF hcL:=⟨_,rfl⟩
def Ut:Nat:=Classical.choose AEr
theorem AEs:Ut=AF hcL:=Classical.choose_spec AEr
theorem Aav (r:R P2):AR Tryz.prog oCg Tryz.f292 [va P2 r] [] 300=some ([(true,true),(true,true)],Hm (CM (AF hcL) (mo r)) (EH (mo r))):=by kernel_rfl
theorem Aaw (r:R P2):AR Tryz.prog oCg Tryz.f302 [va P2 r] [] 300=some ([(true,true),(true,true)],Hm (CM (AF hcL) (mo r)) (EH (mo r))):=by kernel_rfl
def SCi0:List (FuncId×ASpec):=(292,Aj (Bz P2 fun r=>Hm (CM Ut (mo r)) (EH (mo r))))::(302,Aj (Bz P2 fun r=>Hm (CM Ut (mo r)) (EH (mo r))))::SCg
theorem AEt:AX Tryz.prog SCi0:=⟨Ak Tryz.func292 (by kernel_rfl) (by kernel_rfl) (CC fun r=>by rw [AEs];exact AW AEq AB Tryz.func292 (Aav r) ⟨rfl,rfl,trivial⟩ rfl),Ak Tryz.func302 (by kernel_rfl) (by kernel_rfl) (CC fun r=>by rw [AEs];exact AW AEq AB Tryz.func302 (Aaw r) ⟨rfl,rfl,trivial⟩ rfl),AEp⟩
abbrev oCi0:Orc:=AH SCi0 KV
theorem Aax:OrcOk Tryz.prog oCi0:=AK AEt A9
def SCi1:List (FuncId×ASpec):=(289,BY Tryz.prog oCi0 Tryz.f289 300)::SCi0
theorem Aay:AX Tryz.prog SCi1:=⟨Bj Aax AB Tryz.func289 (by kernel_rfl) (by kernel_rfl) 300,AEt⟩
abbrev oCi1:Orc:=AH SCi1 KV
theorem AEu:OrcOk Tryz.prog oCi1:=AK Aay A9
def oJ (r:R FP2):P2:=RS (mo (en (LG (mo r)).1:R FP2)) (mo (en (LG (mo r)).2:R FP2))
def Uu (r s:R FP2):P2:=CM Ut (mo (en (Rg.add (mo (en (oJ r):R P2):P2) (mo (en (oJ s):R P2))):R P2))
theorem Aaz (r s:R FP2):AR Tryz.prog oCi1 Tryz.f232 [va FP2 r,va FP2 s] [] 300=some ([],ve (Uu r s)):=by kernel_rfl
theorem Aa0 (r s:R FP2):AR Tryz.prog oCi1 Tryz.f249 [va FP2 r,va FP2 s] [] 300=some ([],ve (Uu r s)):=by kernel_rfl
def ZP (u v:FP2):P2:=CM Ut (Rg.add (RS (LG u).1 (LG u).2) (RS (LG v).1 (LG v).2))
theorem Aa1 (r s:R FP2):Uu r s=ZP (mo r) (mo s):=by unfold Uu oJ ZP;simp only [mo_en]
theorem AEv:∃ f:FP2→FP2→P2,∀ x y,f x y=ZP x y:=⟨_,fun _ _=>rfl⟩
def Uv:FP2→FP2→P2:=Classical.choose AEv
theorem Aa2 (x y:FP2):Uv x y=ZP x y:=Classical.choose_spec AEv x y
theorem AEw (r s:R FP2):ve (Uv (mo r) (mo s))=ve (Uu r s):=by rw [Aa2,Aa1]
def SCi2:List (FuncId×ASpec):=(232,Aj (Dm FP2 FP2 fun r s=>ve (Uv (mo r) (mo s))))::(249,Aj (Dm FP2 FP2 fun r s=>ve (Uv (mo r) (mo s))))::SCe
theorem Aa3:AX Tryz.prog SCi2:=⟨Ak Tryz.func232 (by kernel_rfl) (by kernel_rfl) (EG fun r s=>by rw [AEw];exact AW AEu AB Tryz.func232 (Aaz r s) trivial rfl),Ak Tryz.func249 (by kernel_rfl) (by kernel_rfl) (EG fun r s=>by rw [AEw];exact AW AEu AB Tryz.func249 (Aa0 r s) trivial rfl),AaN⟩
abbrev oK:Orc:=AH SCi2 KV
end
noncomputable def ZQ (g:List Int→List Int→AV):ASpec:=fun args H fr path=>match args with
 | [S,T]=>match By S,I_ T with
  | some (k,o,n),some (t,n',m')=>match AG H k,AG H t with
   | some ⟨_,cs,_⟩,some ⟨_,es,_⟩=>match Ao .u8 cs,Ao .u8 es with
    | some xs,some ds=>some (A5 [k,t] 2 fr 0 [] (g (AA xs o n) (AA ds 0 n')) [] [(Nat.ble (o+n) xs.length,true),(Nat.ble n' ds.length,true),(Nat.ble n 4398046511104,true),(Nat.ble 1 n',true),(Nat.ble n' 255,true),(Nat.ble n' m',true)] path)
    | _,_=>none
   | _,_=>none
  | _,_=>none
 | _=>none
theorem AEx {F:FuncId} {fn:Func} {g:List Int→List Int→AV} (hfn:Tryz.prog.funcs[F]? = some fn) (hb:fn.body.isSome=true) (hname:(fn.name=="runtime.NumGoroutine")=false) (hk:∀ l d,Cu 2 0 [] (g l d) []=true)
  (h:∀ {o n m n' m':Nat} {xs ds:List Int},(∀ d∈xs,0≤d∧d<256)→(∀ d∈ds,0≤d∧d<256)→o+n≤xs.length→n'≤ds.length→n≤4398046511104→1≤n'→n'≤255→n'≤m'→Ad Tryz.prog F [AI 0 o n m,AI 1 0 n' m'] (Ct xs ds) 2 [] (g (AA xs o n) (AA ds 0 n')) []):A6 Tryz.prog F (ZQ g):=by
 refine CS hfn hb hname fun args H fr path r hs=>?_
 unfold ZQ at hs
 split at hs
 case h_2=>cases hs
 rename_i S T
 split at hs
 case h_2=>cases hs
 rename_i k o n t n' m' hS hT
 split at hs
 case h_2=>cases hs
 rename_i ty cs op ty' es op' hk' ht'
 split at hs
 case h_2=>cases hs
 rename_i xs ds hx hd
 injection hs with hs
 refine ⟨[k,t],2,0,[],_,_,_,path,hs.symm,fun β us w ha hg hc=>?_⟩
 obtain ⟨u1,us1,r1,⟨u2,us2,r2,ha,rfl⟩,rfl⟩:=ha
 obtain ⟨c1,c2,c3,c4,c5,c6,_⟩:=hc
 obtain ⟨m,r1⟩:=DF hS r1
 obtain ⟨m2,hm2,r2⟩:=I' hT (Nat.le_of_ble_eq_true c6) r2
 obtain ⟨g1,_,_⟩:=Cx hg hk' hx
 obtain ⟨g2,_,_⟩:=Cx hg ht' hd
 refine ⟨_,_,h (o:=o) (n:=n) (m:=m) (n':=n') (m':=m2) g1 g2 (Nat.le_of_ble_eq_true c1) (Nat.le_of_ble_eq_true c2) (Nat.le_of_ble_eq_true c3) (Nat.le_of_ble_eq_true c4) (Nat.le_of_ble_eq_true c5) hm2,hk _ _,⟨u1,_,BS (by omega) rfl r1,⟨u2,_,BS (by omega) rfl r2,ha,rfl⟩,rfl⟩,JJ (bs:=[Ai [.seq .u8 xs],Ai [.seq .u8 ds]]) hg fun j d hj=>?_,fun j hj=>?_⟩
 ·match j,hj with
  | 0,hj=>injection hj with hj;subst hj;exact ⟨rfl,Dj hg hk' hx (by show 0<2;decide) rfl⟩
  | 1,hj=>injection hj with hj;subst hj;exact ⟨rfl,Dj hg ht' hd (by show 1<2;decide) rfl⟩
 ·match j,hj with
  | 0,_=>exact BZ (hg.heap _ _ hk')
  | 1,_=>exact BZ (hg.heap _ _ ht')
noncomputable section
def ZR (f:Func) (o n m n' m':Nat) (xs ds:List Int):ASt:=Af f [AI 0 o n m,AI 1 0 n' m'] (Ct xs ds) 2 []
def fdR (x d:List Int) (j:Nat):R FP2:=(M4 x d j,M4 x d (j+1))
def Uw (x d:List Int):P2:=Uv (mo (fdR x d 0)) (mo (fdR x d 2))
def oL (o n n' m':Nat) (xs ds:List Int):List (Bool×Bool):=(Nat.ble (o+n) xs.length,true)::(Nat.ble n' ds.length,true)::(Nat.ble n 4398046511104,true)::(Nat.ble 1 n',true)::(Nat.ble n' 255,true)::(Nat.ble n' m',true)::tt 2 []
def RT (p:P2):AV:=.tup [(true,av (en p:R P2)),(false,[.n .i64 0])]
section
variable (o n m n' m':Nat) (xs ds:List Int)
theorem Aa4:AM Tryz.prog oK Tryz.f167 300 2 [] (ZR Tryz.f167 o n m n' m' xs ds)=some (oL o n n' m' xs ds,[],RT (Uw (AA xs o n) (AA ds 0 n')),[]):=by kernel_rfl
theorem Aa5:AM Tryz.prog oK Tryz.f194 300 2 [] (ZR Tryz.f194 o n m n' m' xs ds)=some (oL o n n' m' xs ds,[],RT (Uw (AA xs o n) (AA ds 0 n')),[]):=by kernel_rfl
end
theorem AEz:∃ f:List Int→List Int→P2,∀ x d,f x d=Uw x d:=⟨_,fun _ _=>rfl⟩
def O0:List Int→List Int→P2:=Classical.choose AEz
theorem Aa6 (x d:List Int):O0 x d=Uw x d:=Classical.choose_spec AEz x d
theorem AE0 {F:FuncId} {f:Func} (hf:Tryz.prog.funcs[F]? = some f) (hb1:f.body.isSome=true) (ha:Nat.ble 2 f.ntmps=true) {o n m n' m':Nat} {xs ds:List Int} (hw:bX f.ntmps (ZR f o n m n' m' xs ds).s=true)
  (hr:AM Tryz.prog oK f 300 2 [] (ZR f o n m n' m' xs ds)=some (oL o n n' m' xs ds,[],RT (Uw (AA xs o n) (AA ds 0 n')),[]))
  (h1:o+n≤xs.length) (h2:n'≤ds.length) (hn:n≤4398046511104) (hn1:1≤n') (hn':n'≤255) (hm:n'≤m'):Ad Tryz.prog F [AI 0 o n m,AI 1 0 n' m'] (Ct xs ds) 2 [] (RT (O0 (AA xs o n) (AA ds 0 n'))) []:=by
 rw [Aa6]
 refine A2 Aa3 A9 hf hb1 ha hr hw ?_
 exact ⟨Nat.ble_eq_true_of_le h1,Nat.ble_eq_true_of_le h2,Nat.ble_eq_true_of_le hn,Nat.ble_eq_true_of_le hn1,Nat.ble_eq_true_of_le hn',Nat.ble_eq_true_of_le hm,Ac 2 trivial⟩
def SCj:List (FuncId×ASpec):=[(167,ZQ fun x d=>RT (O0 x d)),(194,ZQ fun x d=>RT (O0 x d))]
theorem Aa7:AX Tryz.prog SCj:=⟨AEx Tryz.func167 (by kernel_rfl) (by kernel_rfl) (fun _ _=>by kernel_rfl) fun _ _ h1 h2 h3 h4 h5 h6=>AE0 Tryz.func167 (by kernel_rfl) (by kernel_rfl) (by kernel_rfl) (Aa4 ..) h1 h2 h3 h4 h5 h6,
 AEx Tryz.func194 (by kernel_rfl) (by kernel_rfl) (fun _ _=>by kernel_rfl) fun _ _ h1 h2 h3 h4 h5 h6=>AE0 Tryz.func194 (by kernel_rfl) (by kernel_rfl) (by kernel_rfl) (Aa5 ..) h1 h2 h3 h4 h5 h6,trivial⟩
end
end Go.Proofs.YtjlcdlekmpjjnaaGreat
namespace Go.Proofs.YtjlcdlekmpjjnaaGreat
open Ex Num Rg
open Go.RowKit (Below)
open Sh (R av rd mo en mo_en)
set_option maxRecDepth 100000
set_option maxHeartbeats 4000000
noncomputable def SCk0:List (FuncId×ASpec):=SCj++SYf
theorem Ux:AX Tryz.prog SCk0:=K3 Aa7 AD8
noncomputable abbrev oCk0:Orc:=AH SCk0 KV
theorem RU:OrcOk Tryz.prog oCk0:=AK Ux A9
section
variable (o n m n' m':Nat) (xs ds:List Int) (s:ByteArray) (p:List Bool)
noncomputable abbrev sgdF:Func:=Tryz.f105
noncomputable def AE1:ASt:=Af sgdF [AI 0 0 n m,AI 1 o n' m',.val false [.v (.string s)]] (Ct xs ds) 2 p
noncomputable def ZS:ASt:=EZ (C5 Tryz.prog oCk0 3 2 (AE1 o n m n' m' xs ds s p))
noncomputable def sgdI:List Item:=(ZS 0 0 0 0 0 [] [] ByteArray.empty []).todo
noncomputable abbrev sgdO:Array Oper:=DR sgdI
noncomputable def M8:Option (List Rec×St):=Dk Tryz.prog oCk0 sgdO [sgdO.getD 0 default] 0 (ZS o n m n' m' xs ds s p).s
theorem Aa8:C5 Tryz.prog oCk0 3 2 (AE1 o n m n' m' xs ds s p)=some ([],[],ZS o n m n' m' xs ds s p):=by kernel_rfl
theorem Aa9:(ZS o n m n' m' xs ds s p).todo=.code (.region (NW sgdI) sgdO false)::Jw sgdI:=by kernel_rfl
theorem Aa_:M8 o n m n' m' xs ds s p=some (Hs (M8 o n m n' m' xs ds s p),Do (M8 o n m n' m' xs ds s p)):=by kernel_rfl
theorem Aa':H7 (Hs (M8 o n m n' m' xs ds s p))=[]:=by kernel_rfl
theorem AbA:FM (Hs (M8 o n m n' m' xs ds s p))=[]:=by kernel_rfl
theorem AbB:Aq (Do (M8 o n m n' m' xs ds s p)).T 13=.val false [.clo 166 [(2,0),(3,0)]]:=by kernel_rfl
theorem ZT:(Do (M8 o n m n' m' xs ds s p)).fr=4:=by kernel_rfl
noncomputable def JN:ASt:=⟨Jw sgdI,Do (M8 o n m n' m' xs ds s p)⟩
end
theorem oM {o n m n' m':Nat} {xs ds:List Int} {s:ByteArray} (p:List Bool) {β:Env} {us:List Value} {w:World} {R:Ending→World→Prop} (ha:A7 β [AI 0 0 n m,AI 1 o n' m',.val false [.v (.string s)]] us) (hg:Ex.Good β (Ct xs ds) w) (hf:∀ b,2≤b→β b=none)
  (h:∀ (β':Env) (a:Act) (w':World) (A B:Nat) (m1 m2:Nat×Nat),β' 2=some (.at_ A m1)→β' 3=some (.at_ B m2)→(∀ b,4≤b→β' b=none) →
   Inv β w [] ⟨sgdF.ntmps,[{ target:=.fn (.func 166) #[.pointer (some ⟨A,m1.2+0,none⟩),.pointer (some ⟨B,m2.2+0,none⟩)],args:=#[] }]⟩ β' (Aq (JN o n m n' m' xs ds s p).s.T) (JN o n m n' m' xs ds s p).s.H a w' →
   Ex.Safe Tryz.prog 105 R (JN o n m n' m' xs ds s p).todo a w'):Calls Tryz.prog 105 ⟨us⟩ w R:=by
 refine PK (args:=[AI 0 0 n m,AI 1 o n' m',.val false [.v (.string s)]]) (H:=Ct xs ds) (k0:=2) (path:=p) Tryz.func105 (by kernel_rfl) (by kernel_rfl) ?_ ha hg hf
 refine HP RU AB (Aa8 o n m n' m' xs ds s p) trivial (AL (by kernel_rfl)) hf (fun _ h=>by cases h) fun hw=>?_
 intro β' a w' hi hf'
 rw [Aa9]
 refine Ex.Safe.of_wp (wp_region ?_)
 have hs:List.range sgdO.size=List.range' 0 [sgdO.getD 0 default].length++[1]:=by kernel_rfl
 rw [hs]
 refine SL RU (W:=[]) _ 0 _ _ _ β' a w' (fun j o hj=>?_) (Aa_ o n m n' m' xs ds s p) (by rw [Aa'];trivial) hi hf' hw.1 hw.2 (by rw [AbA];intro k hk;cases hk) ?_
 ·cases j with
  | zero=>injection hj with hj;subst hj;kernel_rfl
  | succ j=>simp at hj
 ·intro β2 a2 w2 hi2 hf2
  have hc:=hi2.tmp 13
  rw [AbB] at hc
  obtain ⟨ps,hp,hu⟩:=A3 hc
  obtain ⟨A,m1,B,m2,e1,e2,rfl⟩:=sV hp
  injection hu with hu _
  refine sU (o:=sgdO.getD 1 default) (c:=match (sgdO.getD 1 default).op with | .defer c=>c | _=>⟨.builtin .len,#[],#[]⟩) (t:=13) (by kernel_rfl) (by kernel_rfl) (by kernel_rfl) (by kernel_rfl) (by kernel_rfl) (by kernel_rfl) hu ⟨rfl,?_⟩
  exact h β2 _ w2 A B m1 m2 e1 e2 (fun b hb=>hf2 b (by rw [ZT];exact hb)) hi2.push
section
variable (o n m n' m':Nat) (xs ds:List Int) (s:ByteArray) (p:List Bool)
noncomputable def ZU:ASt:=EZ (C5 Tryz.prog oCk0 1 4 (JN o n m n' m' xs ds s p))
noncomputable def sgdJ:List Item:=(ZU 0 0 0 0 0 [] [] ByteArray.empty []).todo
noncomputable def IY:Option (List Rec×St):=Dk Tryz.prog oCk0 (DR sgdJ) [(DR sgdJ).getD 0 default] 0 (ZU o n m n' m' xs ds s p).s
theorem AbC:C5 Tryz.prog oCk0 1 4 (JN o n m n' m' xs ds s p)=some ([],[],ZU o n m n' m' xs ds s p):=by kernel_rfl
theorem AbD:(ZU o n m n' m' xs ds s p).todo=.code (.region (NW sgdJ) (DR sgdJ) false)::Jw sgdJ:=by kernel_rfl
theorem AbE:IY o n m n' m' xs ds s p=some (Hs (IY o n m n' m' xs ds s p),Do (IY o n m n' m' xs ds s p)):=by kernel_rfl
theorem AbF:H7 (Hs (IY o n m n' m' xs ds s p))=[]:=by kernel_rfl
theorem AbG:FM (Hs (IY o n m n' m' xs ds s p))=[]:=by kernel_rfl
theorem AbH:Aq (Do (IY o n m n' m' xs ds s p)).T 14=AI 0 0 n m:=by kernel_rfl
theorem AbI:Aq (Do (IY o n m n' m' xs ds s p)).T 6=.val false [.p 2 0]:=by kernel_rfl
theorem AbJ:Aq (Do (IY o n m n' m' xs ds s p)).T 7=.val false [.p 3 0]:=by kernel_rfl
theorem AbK:AG (Do (IY o n m n' m' xs ds s p)).H 0=some (Ai [.seq .u8 xs]):=by kernel_rfl
theorem AE2:AG (Do (IY o n m n' m' xs ds s p)).H 2=some ⟨28,[.v (.slice none 0 0)],false⟩:=by kernel_rfl
theorem AE3:AG (Do (IY o n m n' m' xs ds s p)).H 3=some ⟨33,[.n .i64 0],false⟩:=by kernel_rfl
end
theorem AbL {o n m n' m':Nat} {xs ds:List Int} {s:ByteArray} (hl:n≤xs.length) (hn:AJ .i64 n=true) (hk:Bm n (AT (AA xs 0 n))=false) :
  Ad Tryz.prog 105 [AI 0 0 n m,AI 1 o n' m',.val false [.v (.string s)]] (Ct xs ds) 2 [] (Di 210) []:=by
 intro β us w ha hg hf
 refine oM [] ha hg hf fun β' a w' A B m1 m2 hA hB hf' hi=>?_
 refine HP (β0:=β') (w0:=w') (W:=[]) RU AB (AbC o n m n' m' xs ds s []) trivial (AL (by kernel_rfl)) hf' (fun _ h=>by cases h) (fun hw=>?_) β' a w' hi.root (fun b hb=>hf' b (by rw [show (JN o n m n' m' xs ds s []).s.fr=4 from ZT o n m n' m' xs ds s []] at hb;exact hb))
 intro β1 a1 w1 hi1 hf1
 rw [AbD]
 refine Ex.Safe.of_wpP Tryz.func105 (wp_region ?_)
 have hs:List.range (DR sgdJ).size=List.range' 0 [(DR sgdJ).getD 0 default].length++(1::List.range' 2 ((DR sgdJ).size-2)):=by kernel_rfl
 rw [hs]
 refine SL RU (W:=[]) _ 0 _ _ _ β1 a1 w1 (fun j o hj=>?_) (AbE o n m n' m' xs ds s []) (by rw [AbF];trivial) hi1 hf1 hw.1 hw.2 (by rw [AbG];intro k hk;cases hk) ?_
 ·cases j with
  | zero=>injection hj with hj;subst hj;kernel_rfl
  | succ j=>simp at hj
 intro β2 a2 w2 hi2 _
 have r8:=hi2.tmp 14
 rw [AbH] at r8
 obtain ⟨_,g2,_⟩:=Cx hi2.good (AbK o n m n' m' xs ds s []) (ACa xs)
 have hpan:=ACR hl hn hk (A4 β2 [0] 1) [a2.tmps.getD 14 undef] w2 ⟨_,[],BS (by omega) rfl r8,rfl,rfl⟩ g2 (fun b hb=>by
  have:Nat.blt b 1=false:=by cases h:Nat.blt b 1 with | false=>rfl | true=>have:=A8.1 h;omega
  simp [A4,this])
 refine sS (o:=(DR sgdJ).getD 1 default) (c:=match ((DR sgdJ).getD 1 default).op with | .call c=>c | _=>⟨.builtin .len,#[],#[]⟩) (g:=104) (chain:=errC) (by kernel_rfl) (by kernel_rfl) (by kernel_rfl) (by kernel_rfl) Tryz.func104 (by kernel_rfl) (by kernel_rfl) ?_
 have hargs:(match ((DR sgdJ).getD 1 default).op with | .call c=>c | _=>⟨.builtin .len,#[],#[]⟩).args=#[.tmp 14]:=by kernel_rfl
 rw [hargs,show Array.map a2.eval #[Operand.tmp 14]=#[a2.eval (.tmp 14)] from by simp]
 refine Calls.mono (R:=fun e w'=>e=.panicked errC∧Below w2.heap.size w2 w') hpan ?_
 rintro e w3 ⟨rfl,hbl⟩
 refine ⟨rfl,.inr ⟨errC,rfl,?_⟩⟩
 have hA2:=hi2.ext 2 _ hA
 have hB2:=hi2.ext 3 _ hB
 obtain ⟨c1,z1⟩:=X6 (v:=.slice none 0 0) hi2.good (AE2 o n m n' m' xs ds s []) (by kernel_rfl) hA2 fun l h=>h.1
 obtain ⟨c2,z2⟩:=X6 (v:=.int .i64 0) hi2.good (AE3 o n m n' m' xs ds s []) (by kernel_rfl) hB2 fun l h=>h.1
 have hne:A≠B:=fun e=>by
  subst e
  have:=hi2.good.inj 2 3 A m1 m2 (by rw [Ef (AE2 o n m n' m' xs ds s []) (Gx (by kernel_rfl))]) (by rw [AE3];rfl) hA2 hB2
  cases this
 have big:∀ {k C:Nat} {q:Nat×Nat},2≤k→β' k=some (.at_ C q)→w.heap.size≤C:=by
  intro k C q hk0 hC
  rcases hi.new k _ hC with h | h
  ·rw [hf k hk0] at h;cases h
  ·rcases h C q rfl with h | ⟨j,_,hj,_⟩
   ·exact h
   ·cases hj
 have bA:=big (by omega) hA
 have bB:=big (by omega) hB
 have t1:=X8 (AbI o n m n' m' xs ds s []) (hi2.tmp 6) hA2
 have t2:=X8 (AbJ o n m n' m' xs ds s []) (hi2.tmp 7) hB2
 rw [z1] at t1
 rw [z2] at t2
 rw [hi2.dfr,z1,z2]
 refine ACV Tryz.func166 (by kernel_rfl) (by kernel_rfl) (fun p q x y w a b c d e=>AUV p q x y w a b c d e) (t1:=6) (t2:=7) (by kernel_rfl) t1 t2 (X9 hbl c1) (X9 hbl c2) hne fun w4 k1 k2 k3 k4 k5=>?_
 refine ACb hg ?_ (fun C hC=>?_) ?_ ?_ ?_
 ·rw [k2];exact Nat.le_trans hi.size (Nat.le_trans hi2.size hbl.size)
 ·rw [k1 C (by omega) (by omega),hbl.block C (Nat.lt_of_lt_of_le hC (Nat.le_trans hi.size hi2.size)),hi2.frame C (Nat.lt_of_lt_of_le hC hi.size) (fun _ _ h=>by cases h),hi.frame C hC (fun _ _ h=>by cases h)]
 ·rw [k3,hbl.os,hi2.os,hi.os]
 ·rw [k4,hbl.tape,hi2.tape,hi.tape]
 ·rw [k5,hbl.output,hi2.output,hi.output]
noncomputable def Gu (ds:List Int) (o n':Nat) (s:ByteArray):P2:=O0 (AA ds o n') (AA (EK s) 0 s.size)
noncomputable def RV (N:Nat) (P:P2):P2:=mo (en (CM (AF (AA (MZ N) 0 4)) (mo (en P:R P2))):R P2)
theorem ZV {N:Nat} (h:N<R4) (P:P2):RV N P=CM N P:=by unfold RV;rw [mo_en,mo_en,UK h]
noncomputable def ZW (o n m n':Nat) (xs ds:List Int) (s:ByteArray) (b:Bool):List (Bool×Bool):=(Nat.ble n xs.length,true)::(Nat.ble n m,true)::(AJ .i64 n,true)::(Bm n (AT (AA xs 0 n)),true)::(Nat.ble (o+n') ds.length,true)::(Nat.ble s.size (EK s).length,true)::(Nat.ble n' 4398046511104,true)::(Nat.ble 1 s.size,true)::(Nat.ble s.size 255,true)::(Nat.ble s.size s.size,true)::tt 2 ((BQ (RV (Bp n (AT (AA xs 0 n))) (Gu ds o n' s)),b)::[])
noncomputable def oN:AV:=.tup [(false,[.sl 21 0 96 96]),(false,[.n .i64 0])]
noncomputable def ZX (K:Nat) (l:List Int):Heap:=[(K,some ⟨5,[.seq .u8 l],true⟩)]
section
variable (o n m n' m':Nat) (xs ds:List Int) (s:ByteArray)
theorem AbM:AM Tryz.prog oCk0 sgdF 400 2 [21] (JN o n m n' m' xs ds s [false])=some (ZW o n m n' xs ds s true,[],oN,ZX 21 (GD true (RV (Bp n (AT (AA xs 0 n))) (Gu ds o n' s)))):=by kernel_rfl
theorem AbN:AM Tryz.prog oCk0 sgdF 400 2 [] (JN o n m n' m' xs ds s [true])=some (ZW o n m n' xs ds s false,[],Di 140,[]):=by kernel_rfl
noncomputable abbrev Uy:Func:=Tryz.f122
noncomputable def ZY (p:List Bool):ASt:=Af Uy [AI 0 0 n m,AI 1 o n' m',.val false [.v (.string s)]] (Ct xs ds) 2 p
noncomputable def oO (b:Bool) (r:List (Bool×Bool)):List (Bool×Bool):=(Nat.ble (0+n) xs.length,true)::(AJ .i64 n,true)::(!decide (D5 n (AT (AA xs 0 n))=0),b)::r
theorem AbO:AM Tryz.prog oCk0 Uy 400 2 [] (ZY o n m n' m' xs ds s [true])=some (oO n xs true [],[],Di 210,[]):=by kernel_rfl
theorem AbP:AM Tryz.prog oCk0 Uy 400 2 [] (ZY o n m n' m' xs ds s [false,true])=some (oO n xs false [(decide (Bp n (AT (AA xs 0 n))=zN),true)],[],Di 210,[]):=by kernel_rfl
noncomputable def ZZ (b:Bool):List (Bool×Bool):=oO n xs false ((decide (Bp n (AT (AA xs 0 n))=zN),false)::tt 2 ((Nat.ble (o+n') ds.length,true)::(Nat.ble s.size (EK s).length,true)::(Nat.ble n' 4398046511104,true)::(Nat.ble 1 s.size,true)::(Nat.ble s.size 255,true)::(Nat.ble s.size s.size,true)::tt 2 ((BQ (RV (Bp n (AT (AA xs 0 n))) (Gu ds o n' s)),b)::[])))
noncomputable def oP:AV:=.tup [(false,[.sx 13 96 1]),(false,[.n .i64 0])]
theorem AbQ:AM Tryz.prog oCk0 Uy 400 2 [13] (ZY o n m n' m' xs ds s [false,false,false])=some (ZZ o n n' xs ds s true,[],oP,ZX 13 (Fu true (RV (Bp n (AT (AA xs 0 n))) (Gu ds o n' s)))):=by kernel_rfl
theorem AbR:AM Tryz.prog oCk0 Uy 400 2 [] (ZY o n m n' m' xs ds s [false,false,true])=some (ZZ o n n' xs ds s false,[],Di 140,[]):=by kernel_rfl
end
theorem AbS {o n m n' m':Nat} {xs ds:List Int} {s:ByteArray} (hl:n≤xs.length) (hm:n≤m) (hn:AJ .i64 n=true) (hk:Bm n (AT (AA xs 0 n))=true) (h1:o+n'≤ds.length) (h2:n'≤4398046511104) (h3:1≤s.size) (h4:s.size≤255) (h5:(EK s).length=s.size)
  (hi:BQ (CM (AT (AA xs 0 n)) (Gu ds o n' s))=true):Ad Tryz.prog 105 [AI 0 0 n m,AI 1 o n' m',.val false [.v (.string s)]] (Ct xs ds) 2 [] oN (ZX 21 (GD true (CM (AT (AA xs 0 n)) (Gu ds o n' s)))):=by
 obtain ⟨k1,k2,_⟩:=Ma.1 hk
 have hV:Bp n (AT (AA xs 0 n))=AT (AA xs 0 n):=if_pos ⟨k1,k2⟩
 have hrun:=AbM o n m n' m' xs ds s
 unfold ZW at hrun
 rw [hV,ZV (Nat.lt_trans k2 OQ)] at hrun
 intro β us w ha hg hf
 refine oM [false] ha hg hf fun β' a w' A B m1 m2 _ _ hf' hi'=>?_
 exact cF RU AB Tryz.func105 hrun ⟨Nat.ble_eq_true_of_le hl,Nat.ble_eq_true_of_le hm,hn,hk,Nat.ble_eq_true_of_le h1,Nat.ble_eq_true_of_le (by omega),Nat.ble_eq_true_of_le h2,Nat.ble_eq_true_of_le h3,Nat.ble_eq_true_of_le h4,Nat.ble_eq_true_of_le (Nat.le_refl _),Ac 2 ⟨hi,trivial⟩⟩ (AL (by kernel_rfl)) hf (fun _ h=>by cases h) rfl Tryz.func166 (by kernel_rfl) (by kernel_rfl)
  (fun w=>ACK _ _ w) (fun _ _ h=>h) β' a w' hi' (fun b hb=>hf' b (by rw [show (JN o n m n' m' xs ds s _).s.fr=4 from ZT o n m n' m' xs ds s _] at hb;exact hb))
theorem AbT {o n m n' m':Nat} {xs ds:List Int} {s:ByteArray} (hl:n≤xs.length) (hm:n≤m) (hn:AJ .i64 n=true) (hk:Bm n (AT (AA xs 0 n))=true) (h1:o+n'≤ds.length) (h2:n'≤4398046511104) (h3:1≤s.size) (h4:s.size≤255) (h5:(EK s).length=s.size)
  (hi:BQ (CM (AT (AA xs 0 n)) (Gu ds o n' s))=false):Ad Tryz.prog 105 [AI 0 0 n m,AI 1 o n' m',.val false [.v (.string s)]] (Ct xs ds) 2 [] (Di 140) []:=by
 obtain ⟨k1,k2,_⟩:=Ma.1 hk
 have hV:Bp n (AT (AA xs 0 n))=AT (AA xs 0 n):=if_pos ⟨k1,k2⟩
 have hrun:=AbN o n m n' m' xs ds s
 unfold ZW at hrun
 rw [hV,ZV (Nat.lt_trans k2 OQ)] at hrun
 intro β us w ha hg hf
 refine oM [true] ha hg hf fun β' a w' A B m1 m2 _ _ hf' hi'=>?_
 exact cF RU AB Tryz.func105 hrun ⟨Nat.ble_eq_true_of_le hl,Nat.ble_eq_true_of_le hm,hn,hk,Nat.ble_eq_true_of_le h1,Nat.ble_eq_true_of_le (by omega),Nat.ble_eq_true_of_le h2,Nat.ble_eq_true_of_le h3,Nat.ble_eq_true_of_le h4,Nat.ble_eq_true_of_le (Nat.le_refl _),Ac 2 ⟨hi,trivial⟩⟩ (AL (by kernel_rfl)) hf (fun _ h=>by cases h) rfl Tryz.func166 (by kernel_rfl) (by kernel_rfl)
  (fun w=>ACK _ _ w) (fun _ _ h=>h) β' a w' hi' (fun b hb=>hf' b (by rw [show (JN o n m n' m' xs ds s _).s.fr=4 from ZT o n m n' m' xs ds s _] at hb;exact hb))
theorem AbU {o n m n' m':Nat} {xs ds:List Int} {s:ByteArray} (hl:n≤xs.length) (hn:AJ .i64 n=true) (hk:Bm n (AT (AA xs 0 n))=false):Ad Tryz.prog 122 [AI 0 0 n m,AI 1 o n' m',.val false [.v (.string s)]] (Ct xs ds) 2 [] (Di 210) []:=by
 have hl':Nat.ble (0+n) xs.length=true:=Nat.ble_eq_true_of_le (by omega)
 by_cases he:D5 n (AT (AA xs 0 n))=0
 ·have hz:Bp n (AT (AA xs 0 n))=zN:=by
   unfold Bm at hk
   rw [decide_eq_true he] at hk
   simpa using hk
  exact A2 Ux A9 Tryz.func122 (by kernel_rfl) (by kernel_rfl) (AbP o n m n' m' xs ds s) (by kernel_rfl) ⟨hl',hn,by rw [decide_eq_true he];rfl,decide_eq_true hz,trivial⟩
 ·exact A2 Ux A9 Tryz.func122 (by kernel_rfl) (by kernel_rfl) (AbO o n m n' m' xs ds s) (by kernel_rfl) ⟨hl',hn,by rw [decide_eq_false he];rfl,trivial⟩
theorem AE4 {o n n':Nat} {xs ds:List Int} {s:ByteArray} {b:Bool} (hl:n≤xs.length) (hn:AJ .i64 n=true) (hk:Bm n (AT (AA xs 0 n))=true) (h1:o+n'≤ds.length) (h2:n'≤4398046511104) (h3:1≤s.size) (h4:s.size≤255) (h5:(EK s).length=s.size)
  (hi:BQ (CM (AT (AA xs 0 n)) (Gu ds o n' s))=b):AQ (ZZ o n n' xs ds s b):=by
 obtain ⟨k1,k2,k3⟩:=Ma.1 hk
 have hV:Bp n (AT (AA xs 0 n))=AT (AA xs 0 n):=if_pos ⟨k1,k2⟩
 have hE:D5 n (AT (AA xs 0 n))=0:=by unfold D5;rw [if_pos k1,if_pos k2]
 unfold ZZ
 rw [hV,ZV (Nat.lt_trans k2 OQ)]
 exact ⟨Nat.ble_eq_true_of_le (by omega),hn,by rw [decide_eq_true hE];rfl,by rw [j8];exact decide_eq_false k3,Ac 2 ⟨Nat.ble_eq_true_of_le h1,Nat.ble_eq_true_of_le (by omega),Nat.ble_eq_true_of_le h2,Nat.ble_eq_true_of_le h3,Nat.ble_eq_true_of_le h4,Nat.ble_eq_true_of_le (Nat.le_refl _),Ac 2 ⟨hi,trivial⟩⟩⟩
theorem AbV {o n m n' m':Nat} {xs ds:List Int} {s:ByteArray} (hl:n≤xs.length) (hn:AJ .i64 n=true) (hk:Bm n (AT (AA xs 0 n))=true) (h1:o+n'≤ds.length) (h2:n'≤4398046511104) (h3:1≤s.size) (h4:s.size≤255) (h5:(EK s).length=s.size)
  (hi:BQ (CM (AT (AA xs 0 n)) (Gu ds o n' s))=true):Ad Tryz.prog 122 [AI 0 0 n m,AI 1 o n' m',.val false [.v (.string s)]] (Ct xs ds) 2 [] oP (ZX 13 (Fu true (CM (AT (AA xs 0 n)) (Gu ds o n' s)))):=by
 obtain ⟨k1,k2,_⟩:=Ma.1 hk
 have hV:Bp n (AT (AA xs 0 n))=AT (AA xs 0 n):=if_pos ⟨k1,k2⟩
 have h:=A2 Ux A9 Tryz.func122 (by kernel_rfl) (by kernel_rfl) (AbQ o n m n' m' xs ds s) (by kernel_rfl) (AE4 hl hn hk h1 h2 h3 h4 h5 hi)
 rw [hV,ZV (Nat.lt_trans k2 OQ)] at h
 exact h
theorem AbW {o n m n' m':Nat} {xs ds:List Int} {s:ByteArray} (hl:n≤xs.length) (hn:AJ .i64 n=true) (hk:Bm n (AT (AA xs 0 n))=true) (h1:o+n'≤ds.length) (h2:n'≤4398046511104) (h3:1≤s.size) (h4:s.size≤255) (h5:(EK s).length=s.size)
  (hi:BQ (CM (AT (AA xs 0 n)) (Gu ds o n' s))=false):Ad Tryz.prog 122 [AI 0 0 n m,AI 1 o n' m',.val false [.v (.string s)]] (Ct xs ds) 2 [] (Di 140) [] :=
 A2 Ux A9 Tryz.func122 (by kernel_rfl) (by kernel_rfl) (AbR o n m n' m' xs ds s) (by kernel_rfl) (AE4 hl hn hk h1 h2 h3 h4 h5 hi)
end Go.Proofs.YtjlcdlekmpjjnaaGreat
namespace Go.Proofs.YtjlcdlekmpjjnaaGreat
open Ex Num Rg
open Sh (R av rd mo en mo_en)
set_option maxRecDepth 100000
set_option maxHeartbeats 4000000
theorem AE5:∃ f:ByteArray→Bool,∀ s,f s=(Nat.ble 1 s.size&&(Nat.ble s.size 255&&Nat.beq (EK s).length s.size)):=⟨_,fun _=>rfl⟩
noncomputable def M9:ByteArray→Bool:=Classical.choose AE5
theorem oQ (s:ByteArray):M9 s=(Nat.ble 1 s.size&&(Nat.ble s.size 255&&Nat.beq (EK s).length s.size)):=Classical.choose_spec AE5 s
theorem AE6 {s:ByteArray} (h:M9 s=true):1≤s.size∧s.size≤255∧(EK s).length=s.size:=by
 rw [oQ] at h
 obtain ⟨h1,h⟩:=Bool.and_eq_true_iff.1 h
 obtain ⟨h2,h3⟩:=Bool.and_eq_true_iff.1 h
 exact ⟨Nat.le_of_ble_eq_true h1,Nat.le_of_ble_eq_true h2,An.1 h3⟩
theorem AE7:∃ f:List Int→List Int→ByteArray→P2,∀ x d s,f x d s=CM (AT x) (O0 d (AA (EK s) 0 s.size)):=⟨_,fun _ _ _=>rfl⟩
noncomputable def RW:List Int→List Int→ByteArray→P2:=Classical.choose AE7
theorem AE8 (x d:List Int) (s:ByteArray):RW x d s=CM (AT x) (O0 d (AA (EK s) 0 s.size)):=Classical.choose_spec AE7 x d s
noncomputable def Za (V:AV) (K nw:Nat) (G:P2→List Int):ASpec:=fun args H fr path=>match args,path with
 | [S,T,.val false [.v (.string s)]],b::rest=>match I_ S,By T with
  | some (k,n,m),some (t,o,n')=>match AG H k,AG H t with
   | some ⟨_,cs,_⟩,some ⟨_,es,_⟩=>match Ao .u8 cs,Ao .u8 es with
    | some xs,some ds=>match b,rest with
     | true,rest=>some (A5 [k,t] 2 fr 0 [] (Di 210) [] [(Nat.ble n xs.length,true),(Nat.ble n m,true),(AJ .i64 n,true),(Bm n (AT (AA xs 0 n)),false)] rest)
     | false,true::rest=>some (A5 [k,t] 2 fr 0 [] (Di 140) [] [(Nat.ble n xs.length,true),(Nat.ble n m,true),(AJ .i64 n,true),(Bm n (AT (AA xs 0 n)),true),(Nat.ble (o+n') ds.length,true),(Nat.ble n' 4398046511104,true),(M9 s,true),(BQ (RW (AA xs 0 n) (AA ds o n') s),false)] rest)
     | false,false::rest=>some (A5 [k,t] 2 fr nw [] V [(K,some ⟨5,[.seq .u8 (G (RW (AA xs 0 n) (AA ds o n') s))],true⟩)] [(Nat.ble n xs.length,true),(Nat.ble n m,true),(AJ .i64 n,true),(Bm n (AT (AA xs 0 n)),true),(Nat.ble (o+n') ds.length,true),(Nat.ble n' 4398046511104,true),(M9 s,true),(BQ (RW (AA xs 0 n) (AA ds o n') s),true)] rest)
     | _,_=>none
    | _,_=>none
   | _,_=>none
  | _,_=>none
 | _,_=>none
theorem AE9 {F:FuncId} {fn:Func} {V:AV} {K nw:Nat} {G:P2→List Int} (hfn:Tryz.prog.funcs[F]? = some fn) (hb:fn.body.isSome=true) (hname:(fn.name=="runtime.NumGoroutine")=false) (hk:∀ l,Cu 2 nw [] V [(K,some ⟨5,[.seq .u8 l],true⟩)]=true)
  (h1:∀ {o n m n' m':Nat} {xs ds:List Int} {s:ByteArray},n≤xs.length→n≤m→AJ .i64 n=true→Bm n (AT (AA xs 0 n))=false→Ad Tryz.prog F [AI 0 0 n m,AI 1 o n' m',.val false [.v (.string s)]] (Ct xs ds) 2 [] (Di 210) [])
  (h2:∀ {o n m n' m':Nat} {xs ds:List Int} {s:ByteArray},n≤xs.length→n≤m→AJ .i64 n=true→Bm n (AT (AA xs 0 n))=true→o+n'≤ds.length→n'≤4398046511104→1≤s.size→s.size≤255→(EK s).length=s.size→BQ (CM (AT (AA xs 0 n)) (Gu ds o n' s))=false→Ad Tryz.prog F [AI 0 0 n m,AI 1 o n' m',.val false [.v (.string s)]] (Ct xs ds) 2 [] (Di 140) [])
  (h3:∀ {o n m n' m':Nat} {xs ds:List Int} {s:ByteArray},n≤xs.length→n≤m→AJ .i64 n=true→Bm n (AT (AA xs 0 n))=true→o+n'≤ds.length→n'≤4398046511104→1≤s.size→s.size≤255→(EK s).length=s.size→BQ (CM (AT (AA xs 0 n)) (Gu ds o n' s))=true→Ad Tryz.prog F [AI 0 0 n m,AI 1 o n' m',.val false [.v (.string s)]] (Ct xs ds) 2 [] V [(K,some ⟨5,[.seq .u8 (G (CM (AT (AA xs 0 n)) (Gu ds o n' s)))],true⟩)]):A6 Tryz.prog F (Za V K nw G):=by
 refine CS hfn hb hname fun args H fr path r hs=>?_
 unfold Za at hs
 split at hs
 case h_2=>cases hs
 rename_i S T s b rest
 split at hs
 case h_2=>cases hs
 rename_i k n m t o n' hS hT
 split at hs
 case h_2=>cases hs
 rename_i ty cs op ty' es op' hk' ht'
 split at hs
 case h_2=>cases hs
 rename_i xs ds hx hd
 have key:∀ {β:Env} {us:List Value} {w:World},A7 β [S,T,.val false [.v (.string s)]] us→Ex.Good β H w→n≤m→∃ M M':Nat,n≤M∧A7 (A4 β [k,t] 2) [AI 0 0 n M,AI 1 o n' M',.val false [.v (.string s)]] us∧Ex.Good (A4 β [k,t] 2) (Ct xs ds) w∧∀ j,j<2→∃ X,β (Ex.nth [k,t] j)=some X:=by
  intro β us w ha hg hm
  obtain ⟨u1,us1,r1,⟨u2,us2,r2,⟨u3,us3,r3,ha,rfl⟩,rfl⟩,rfl⟩:=ha
  obtain ⟨M,hM,r1⟩:=I' hS hm r1
  obtain ⟨M',r2⟩:=DF hT r2
  refine ⟨M,M',hM,⟨u1,_,BS (by omega) rfl r1,⟨u2,_,BS (by omega) rfl r2,⟨u3,_,In rfl r3,ha,rfl⟩,rfl⟩,rfl⟩,JJ (bs:=[Ai [.seq .u8 xs],Ai [.seq .u8 ds]]) hg fun j d hj=>?_,fun j hj=>?_⟩
  ·match j,hj with
   | 0,hj=>injection hj with hj;subst hj;exact ⟨rfl,Dj hg hk' hx (by show 0<2;decide) rfl⟩
   | 1,hj=>injection hj with hj;subst hj;exact ⟨rfl,Dj hg ht' hd (by show 1<2;decide) rfl⟩
  ·match j,hj with
   | 0,_=>exact BZ (hg.heap _ _ hk')
   | 1,_=>exact BZ (hg.heap _ _ ht')
 split at hs
 ·injection hs with hs
  refine ⟨[k,t],2,0,[],_,_,_,_,hs.symm,fun β us w ha hg hc=>?_⟩
  obtain ⟨c1,c2,c3,c4,_⟩:=hc
  obtain ⟨M,M',hM,q1,q2,q3⟩:=key ha hg (Nat.le_of_ble_eq_true c2)
  exact ⟨_,_,h1 (Nat.le_of_ble_eq_true c1) hM c3 c4,by kernel_rfl,q1,q2,q3⟩
 ·injection hs with hs
  refine ⟨[k,t],2,0,[],_,_,_,_,hs.symm,fun β us w ha hg hc=>?_⟩
  obtain ⟨c1,c2,c3,c4,c5,c6,c7,c8,_⟩:=hc
  obtain ⟨M,M',hM,q1,q2,q3⟩:=key ha hg (Nat.le_of_ble_eq_true c2)
  obtain ⟨t1,t2,t3⟩:=AE6 c7
  rw [AE8] at c8
  exact ⟨_,_,h2 (Nat.le_of_ble_eq_true c1) hM c3 c4 (Nat.le_of_ble_eq_true c5) (Nat.le_of_ble_eq_true c6) t1 t2 t3 c8,by kernel_rfl,q1,q2,q3⟩
 ·injection hs with hs
  refine ⟨[k,t],2,nw,[],_,_,_,_,hs.symm,fun β us w ha hg hc=>?_⟩
  obtain ⟨c1,c2,c3,c4,c5,c6,c7,c8,_⟩:=hc
  obtain ⟨M,M',hM,q1,q2,q3⟩:=key ha hg (Nat.le_of_ble_eq_true c2)
  obtain ⟨t1,t2,t3⟩:=AE6 c7
  rw [AE8] at c8 ⊢
  exact ⟨_,_,h3 (Nat.le_of_ble_eq_true c1) hM c3 c4 (Nat.le_of_ble_eq_true c5) (Nat.le_of_ble_eq_true c6) t1 t2 t3 c8,hk _,q1,q2,q3⟩
 ·cases hs
noncomputable def SCl:List (FuncId×ASpec):=(105,Za oN 21 20 (GD true))::(122,Za oP 13 12 (Fu true))::SYf
theorem AE_:AX Tryz.prog SCl:=⟨AE9 Tryz.func105 (by kernel_rfl) (by kernel_rfl) (fun _=>rfl) (fun h1 _ h3 h4=>AbL h1 h3 h4) (fun h1 h2 h3 h4 h5 h6 h7 h8 h9 h=>AbT h1 h2 h3 h4 h5 h6 h7 h8 h9 h) fun h1 h2 h3 h4 h5 h6 h7 h8 h9 h=>AbS h1 h2 h3 h4 h5 h6 h7 h8 h9 h,AE9 Tryz.func122 (by kernel_rfl) (by kernel_rfl) (fun _=>rfl) (fun h1 _ h3 h4=>AbU h1 h3 h4) (fun h1 _ h3 h4 h5 h6 h7 h8 h9 h=>AbW h1 h3 h4 h5 h6 h7 h8 h9 h) fun h1 _ h3 h4 h5 h6 h7 h8 h9 h=>AbV h1 h3 h4 h5 h6 h7 h8 h9 h,AD8⟩
noncomputable abbrev oCl0:Orc:=AH SCl KV
theorem Zb:OrcOk Tryz.prog oCl0:=AK AE_ A9
noncomputable def SCl1:List (FuncId×ASpec):=(36,BY Tryz.prog oCl0 Tryz.f36 300)::(50,BY Tryz.prog oCl0 Tryz.f50 300)::(49,BY Tryz.prog oCl0 Tryz.f49 300)::(51,BY Tryz.prog oCl0 Tryz.f51 300)::SCl
theorem AE':AX Tryz.prog SCl1:=⟨Bj Zb AB Tryz.func36 (by kernel_rfl) (by kernel_rfl) 300,Bj Zb AB Tryz.func50 (by kernel_rfl) (by kernel_rfl) 300,Bj Zb AB Tryz.func49 (by kernel_rfl) (by kernel_rfl) 300,Bj Zb AB Tryz.func51 (by kernel_rfl) (by kernel_rfl) 300,AE_⟩
noncomputable abbrev IZ:Orc:=AH SCl1 KV
def M_:ByteArray:=⟨List.toArray [66,76,83,95,83,73,71,95,66,76,83,49,50,51,56,49,71,50,95,88,77,68,58,83,72,65,45,50,53,54,95,83,83,87,85,95,82,79,95,80,79,80,95]⟩
def oS:ByteArray:=⟨List.toArray [66,76,83,95,80,79,80,95,66,76,83,49,50,51,56,49,71,50,95,88,77,68,58,83,72,65,45,50,53,54,95,83,83,87,85,95,82,79,95,80,79,80,95]⟩
theorem AFA:M9 M_=true:=by rw [oQ];kernel_rfl
theorem Zc:M9 oS=true:=by rw [oQ];kernel_rfl
noncomputable def RX (n0 m0 n1 m1:Nat) (x0 x1:List Int) (p:List Bool):ASt:=Af Tryz.f8 [AI 0 0 n0 m0,AI 1 0 n1 m1] (Ct x0 x1) 2 p
def oT:List Bool:=[false,true,false,true,false,false]
noncomputable def Zd (n0 n1:Nat) (r:List (Bool×Bool)):List (Bool×Bool):=(true,true)::(false,false)::tt 3 ((AJ .i64 n0,true)::(decide ((300:Int)<n0),false)::tt 3 ((AJ .i64 n1,true)::(decide ((300:Int)<n1),false)::(true,true)::(false,false)::r))
noncomputable def GL (n m:Nat) (xs:List Int) (b:Bool) (r:List (Bool×Bool)):List (Bool×Bool):=(Nat.ble n xs.length,true)::(Nat.ble n m,true)::(AJ .i64 n,true)::(Bm n (AT (AA xs 0 n)),b)::r
noncomputable def RY (n1:Nat) (x1:List Int) (Q:P2) (s:ByteArray) (b:Bool) (r:List (Bool×Bool)):List (Bool×Bool):=(Nat.ble (0+n1) x1.length,true)::(Nat.ble n1 4398046511104,true)::(M9 s,true)::(BQ Q,b)::r
noncomputable def AFB (Q:P2):List (Bool×Bool):=(Nat.ble (0+96) (GD true Q).length,true)::(Nat.ble (0+96) (Fu true Q).length,true)::(true,true)::(true,true)::(Hn (AA (GD true Q) 0 96) (AA (Fu true Q) 0 96),true)::[]
theorem AFC (Q:P2):AQ (AFB Q):=⟨by rw [AUO];rfl,by rw [AUQ];rfl,rfl,rfl,AUS true Q,trivial⟩
section
variable (n0 m0 n1 m1:Nat) (x0 x1:List Int)
noncomputable def NA:P2:=RW (AA x0 0 n0) (AA x1 0 n1) M_
theorem AbX:AM Tryz.prog IZ Tryz.f8 800 2 [] (RX n0 m0 n1 m1 x0 x1 [false,true,true])=some ((true,true)::(false,false)::tt 3 ((AJ .i64 n0,true)::(decide ((300:Int)<n0),true)::[]),[],.val false [.b true],[]):=by kernel_rfl
theorem AbY:AM Tryz.prog IZ Tryz.f8 800 2 [] (RX n0 m0 n1 m1 x0 x1 [false,true,false,true,true])=some ((true,true)::(false,false)::tt 3 ((AJ .i64 n0,true)::(decide ((300:Int)<n0),false)::tt 3 ((AJ .i64 n1,true)::(decide ((300:Int)<n1),true)::[])),[],.val false [.b true],[]):=by kernel_rfl
theorem AbZ:AM Tryz.prog IZ Tryz.f8 800 2 [] (RX n0 m0 n1 m1 x0 x1 (oT++[true,true,true]))=some (Zd n0 n1 (GL n0 m0 x0 false (GL n0 m0 x0 false (tt 5 []))),[],.val false [.b true],[]):=by kernel_rfl
theorem Aba:AM Tryz.prog IZ Tryz.f8 800 2 [] (RX n0 m0 n1 m1 x0 x1 (oT++[false,true,false,true,true]))=some (Zd n0 n1 (GL n0 m0 x0 true (RY n1 x1 (NA n0 n1 x0 x1) M_ false (GL n0 m0 x0 true (RY n1 x1 (NA n0 n1 x0 x1) M_ false (tt 5 []))))),[],.val false [.b true],[]):=by kernel_rfl
theorem Abb:AM Tryz.prog IZ Tryz.f8 800 2 [] (RX n0 m0 n1 m1 x0 x1 (oT++[false,false,false,false,true]))=some (Zd n0 n1 (GL n0 m0 x0 true (RY n1 x1 (NA n0 n1 x0 x1) M_ true (GL n0 m0 x0 true (RY n1 x1 (NA n0 n1 x0 x1) M_ true (AFB (NA n0 n1 x0 x1)))))),[],.val false [.b true],[]):=by kernel_rfl
end
section
variable {n0 m0 n1 m1:Nat} {x0 x1:List Int}
theorem Uz {v:AV} {c:List (Bool×Bool)} {p:List Bool} (h:AM Tryz.prog IZ Tryz.f8 800 2 [] (RX n0 m0 n1 m1 x0 x1 p)=some (c,[],v,[])) (hc:AQ c):Ad Tryz.prog 8 [AI 0 0 n0 m0,AI 1 0 n1 m1] (Ct x0 x1) 2 [] v [] :=
 A2 AE' A9 Tryz.func8 (by kernel_rfl) (by kernel_rfl) h (by kernel_rfl) hc
theorem Abc (a0:n0≤x0.length) (c0:AJ .i64 (n0:Int)=true) (e0:n0≤m0) (a1:n1≤x1.length) (c1:AJ .i64 (n1:Int)=true):Ad Tryz.prog 8 [AI 0 0 n0 m0,AI 1 0 n1 m1] (Ct x0 x1) 2 [] (BB true) []:=by
 cases d0:decide ((300:Int)<(n0:Int)) with
 | true=>exact Kz (Uz (AbX n0 m0 n1 m1 x0 x1) ⟨rfl,rfl,Ac 3 ⟨c0,d0,trivial⟩⟩)
 | false =>
 cases d1:decide ((300:Int)<(n1:Int)) with
 | true=>exact Kz (Uz (AbY n0 m0 n1 m1 x0 x1) ⟨rfl,rfl,Ac 3 ⟨c0,d0,Ac 3 ⟨c1,d1,trivial⟩⟩⟩)
 | false =>
 have k1:n1≤300:=by have:¬ (300:Int)<(n1:Int):=of_decide_eq_false d1;omega
 have b0:Nat.ble n0 x0.length=true:=Nat.ble_eq_true_of_le a0
 have b0':Nat.ble n0 m0=true:=Nat.ble_eq_true_of_le e0
 have b1:Nat.ble (0+n1) x1.length=true:=Nat.ble_eq_true_of_le (by omega)
 have y1:Nat.ble n1 4398046511104=true:=Nat.ble_eq_true_of_le (by omega)
 have hf:∀ {r},AQ r→AQ (Zd n0 n1 r):=fun h=>⟨rfl,rfl,Ac 3 ⟨c0,d0,Ac 3 ⟨c1,d1,rfl,rfl,h⟩⟩⟩
 cases hk:Bm n0 (AT (AA x0 0 n0)) with
 | false =>
  have kc:∀ {r},AQ r→AQ (GL n0 m0 x0 false r):=fun h=>⟨b0,b0',c0,hk,h⟩
  exact Kz (Uz (AbZ n0 m0 n1 m1 x0 x1) (hf (kc (kc (Ac 5 trivial)))))
 | true =>
  have kc:∀ {r},AQ r→AQ (GL n0 m0 x0 true r):=fun h=>⟨b0,b0',c0,hk,h⟩
  cases hi:BQ (NA n0 n1 x0 x1) with
  | false =>
   have mc:∀ {r},AQ r→AQ (RY n1 x1 (NA n0 n1 x0 x1) M_ false r):=fun h=>⟨b1,y1,AFA,hi,h⟩
   exact Kz (Uz (Aba n0 m0 n1 m1 x0 x1) (hf (kc (mc (kc (mc (Ac 5 trivial)))))))
  | true =>
   have mc:∀ {r},AQ r→AQ (RY n1 x1 (NA n0 n1 x0 x1) M_ true r):=fun h=>⟨b1,y1,AFA,hi,h⟩
   exact Kz (Uz (Abb n0 m0 n1 m1 x0 x1) (hf (kc (mc (kc (mc (AFC _)))))))
end
theorem blsSigns_walk:Vm Tryz.prog 8 Tryz.f8:=yN fun H enc us W base ds ps hv hA=>by
 have hp:Tryz.f8.params.toList=[28,28]:=by kernel_rfl
 have hp':Tryz.f8.params=#[28,28]:=by kernel_rfl
 rw [hp] at hA
 rw [hp'] at hv
 obtain ⟨v1,us1,d1,ds1,p1,q1,rfl,rfl,t1,hA⟩:=dK hA
 obtain ⟨v2,us2,d2,ds2,p2,q2,rfl,rfl,t2,hA⟩:=dK hA
 obtain rfl:=args0 hA rfl
 obtain ⟨L0,z0,n0,m0,y0,a0,b0,c0,r0,A0⟩:=iZ (hv 0 _ v1 rfl rfl) t1 (ArgsOk.nil W)
 obtain ⟨L1,z1,n1,m1,y1,a1,b1,c1,r1,A1⟩:=iZ (hv 1 _ v2 rfl rfl) t2 A0
 refine ⟨_,_,[AI 0 0 n0 m0,AI 1 0 n1 m1],A1,⟨v1,_,RZ (yL _ L1) r0,⟨v2,_,r1,rfl,rfl⟩,rfl⟩,?_⟩
 exact Abc a0 c0 b0 a1 c1
noncomputable def U0 (n0 m0:Nat) (x0:List Int) (p:List Bool):ASt:=Af Tryz.f9 [AI 0 0 n0 m0] (Au x0) 1 p
noncomputable def oU (n:Nat) (xs:List Int) (b:Bool) (r:List (Bool×Bool)):List (Bool×Bool):=(Nat.ble n xs.length,true)::(AJ .i64 n,true)::(Bm n (AT (AA xs 0 n)),b)::r
noncomputable def Ze (l:List Int) (Q:P2) (b:Bool) (r:List (Bool×Bool)):List (Bool×Bool):=(Nat.ble (0+48) l.length,true)::(true,true)::(M9 oS,true)::(BQ Q,b)::r
noncomputable def AFD (Q Q':P2):List (Bool×Bool):=(Nat.ble (0+96) (GD true Q).length,true)::(Nat.ble (0+96) (Fu true Q').length,true)::(true,true)::(true,true)::(Hn (AA (GD true Q) 0 96) (AA (Fu true Q') 0 96),true)::[]
theorem Abd (Q:P2):AQ (AFD Q Q):=AFC Q
section
variable (n0 m0:Nat) (x0:List Int)
noncomputable def JO:List Int:=DZ true (BH (AT (AA x0 0 n0)) G1B)
noncomputable def LI:List Int:=HK true (BH (AT (AA x0 0 n0)) G1B)
noncomputable def JP (l:List Int):P2:=RW (AA x0 0 n0) (AA l 0 48) oS
theorem Abe:AM Tryz.prog IZ Tryz.f9 800 1 [] (U0 n0 m0 x0 [true])=some ((AJ .i64 n0,true)::(decide ((300:Int)<n0),true)::[],[],.val false [.b true],[]):=by kernel_rfl
theorem Abf:AM Tryz.prog IZ Tryz.f9 800 1 [] (U0 n0 m0 x0 [false,true,true,true])=some ((AJ .i64 n0,true)::(decide ((300:Int)<n0),false)::GL n0 m0 x0 false (oU n0 x0 false (tt 5 [])),[],.val false [.b true],[]):=by kernel_rfl
theorem Abg:AM Tryz.prog IZ Tryz.f9 800 1 [] (U0 n0 m0 x0 [false,false,false,true,false,false,true,true])=some ((AJ .i64 n0,true)::(decide ((300:Int)<n0),false)::GL n0 m0 x0 true (GL n0 m0 x0 true (Ze (JO n0 x0) (JP n0 x0 (JO n0 x0)) false (oU n0 x0 true (GL n0 m0 x0 true (Ze (LI n0 x0) (JP n0 x0 (LI n0 x0)) false (tt 5 [])))))),[],.val false [.b true],[]):=by kernel_rfl
theorem Abh:AM Tryz.prog IZ Tryz.f9 800 1 [] (U0 n0 m0 x0 [false,false,false,false,false,false,false,true])=some ((AJ .i64 n0,true)::(decide ((300:Int)<n0),false)::GL n0 m0 x0 true (GL n0 m0 x0 true (Ze (JO n0 x0) (JP n0 x0 (JO n0 x0)) true (oU n0 x0 true (GL n0 m0 x0 true (Ze (LI n0 x0) (JP n0 x0 (LI n0 x0)) true (AFD (JP n0 x0 (JO n0 x0)) (JP n0 x0 (LI n0 x0)))))))),[],.val false [.b true],[]):=by kernel_rfl
end
section
variable {n0 m0:Nat} {x0:List Int}
theorem Zf {v:AV} {c:List (Bool×Bool)} {p:List Bool} (h:AM Tryz.prog IZ Tryz.f9 800 1 [] (U0 n0 m0 x0 p)=some (c,[],v,[])) (hc:AQ c):Ad Tryz.prog 9 [AI 0 0 n0 m0] (Au x0) 1 [] v [] :=
 A2 AE' A9 Tryz.func9 (by kernel_rfl) (by kernel_rfl) h (by kernel_rfl) hc
theorem Abi (a0:n0≤x0.length) (c0:AJ .i64 (n0:Int)=true) (e0:n0≤m0):Ad Tryz.prog 9 [AI 0 0 n0 m0] (Au x0) 1 [] (BB true) []:=by
 cases d0:decide ((300:Int)<(n0:Int)) with
 | true=>exact Kz (Zf (Abe n0 m0 x0) ⟨c0,d0,trivial⟩)
 | false =>
 have b0:Nat.ble n0 x0.length=true:=Nat.ble_eq_true_of_le a0
 have b0':Nat.ble n0 m0=true:=Nat.ble_eq_true_of_le e0
 have l1:Nat.ble (0+48) (JO n0 x0).length=true:=by unfold JO;rw [AUN];rfl
 have l2:Nat.ble (0+48) (LI n0 x0).length=true:=by unfold LI;rw [AUP];rfl
 have eW:AA (JO n0 x0) 0 48=AA (LI n0 x0) 0 48:=of_decide_eq_true (AUR true (BH (AT (AA x0 0 n0)) G1B))
 have eQ:JP n0 x0 (LI n0 x0)=JP n0 x0 (JO n0 x0):=by unfold JP;rw [eW]
 cases hk:Bm n0 (AT (AA x0 0 n0)) with
 | false=>exact Kz (Zf (Abf n0 m0 x0) ⟨c0,d0,b0,b0',c0,hk,b0,c0,hk,Ac 5 trivial⟩)
 | true =>
  cases hi:BQ (JP n0 x0 (JO n0 x0)) with
  | false =>
   have hr:=Abg n0 m0 x0
   rw [eQ] at hr
   exact Kz (Zf hr ⟨c0,d0,b0,b0',c0,hk,b0,b0',c0,hk,l1,rfl,Zc,hi,b0,c0,hk,b0,b0',c0,hk,l2,rfl,Zc,hi,Ac 5 trivial⟩)
  | true =>
   have hr:=Abh n0 m0 x0
   rw [eQ] at hr
   exact Kz (Zf hr ⟨c0,d0,b0,b0',c0,hk,b0,b0',c0,hk,l1,rfl,Zc,hi,b0,c0,hk,b0,b0',c0,hk,l2,rfl,Zc,hi,Abd _⟩)
end
theorem blsProves_walk:Vm Tryz.prog 9 Tryz.f9:=yN fun H enc us W base ds ps hv hA=>by
 have hp:Tryz.f9.params.toList=[28]:=by kernel_rfl
 have hp':Tryz.f9.params=#[28]:=by kernel_rfl
 rw [hp] at hA
 rw [hp'] at hv
 obtain ⟨v1,us1,d1,ds1,p1,q1,rfl,rfl,t1,hA⟩:=dK hA
 obtain rfl:=args0 hA rfl
 obtain ⟨L0,z0,n0,m0,y0,a0,b0,c0,r0,A0⟩:=iZ (hv 0 _ v1 rfl rfl) t1 (ArgsOk.nil W)
 refine ⟨_,_,[AI 0 0 n0 m0],A0,⟨v1,_,r0,rfl,rfl⟩,?_⟩
 exact Abi a0 c0 b0
end Go.Proofs.YtjlcdlekmpjjnaaGreat
