/- Part 3 of the proof: Fi, Fj, Fk, Fl, Fm, Fn, Fo, Fp, La, Lc, Fq, Na, Nb, Nc, Nd, Nf, Fr, Ga, Gb, Gc, Gd, Ge, Gf, Gg, Gh, Gi, Gj, Gk, Gl, Gm, Gn, Go, Gp, Gq, Gr, Gs, Gt, Gv, Ka, Kb, Kc, Kd, Ra. -/
import Derived.Test.YtojnabmgolpodaaGreatPB
import Derived.Test.YtojnabmgolpodaaGreatRows
import Derived.KernelRfl
import Derived.ChangeSlices
namespace Go.Proofs.YtojnabmgolpodaaGreat
open Ex
set_option maxRecDepth 100000
set_option maxHeartbeats 4000000
def Dg (xs ys:List Int):Heap:=[(0,some (AU [.seq .u64 xs])),(1,some (AU [.seq .u64 ys]))]
def MS (off n m off' n' m':Nat):List AV:=[.val false [.sl 0 off n m],.val false [.sl 1 off' n' m']]
noncomputable def AC':List Item:=C3 (Aa Tryz.prog (AJ S10 K0) (some 0) 100 2 none (Ah Tryz.f122 (MS 0 0 0 0 0 0) (Dg [] []) 2 []))
noncomputable def ADA (off n m off' n' m':Nat) (i:Int):List AV:=.val false [.sl 0 off n m]::.val false [.sl 1 off' n' m']::.any::.any::.val false [.n .i64 0]::.val false [.v (.int .i64 i)]::List.replicate (Tryz.f122.ntmps-6) .any
section
variable (off n m off' n' m':Nat) (xs ys:List Int)
noncomputable def Kw (i:Int) (p:List Bool):ASt:=⟨AC',⟨ADA off n m off' n' m' i,Dg xs ys,2,p⟩⟩
def EQ (a b:Int):Int:=if b > a then b else a
theorem ADB:Aa Tryz.prog (AJ S10 K0) (some 0) 100 2 (some ([0,1,4,5],[0,1],2)) (Ah Tryz.f122 (MS off n m off' n' m') (Dg xs ys) 2 []) =
 some ([(AI .i64 n,true),(AI .i64 n',true)],[],Kw off n m off' n' m' xs ys (wI (EQ n n'-1)) []):=by kernel_rfl
def Tv (i:Int) (r:List (Bool×Bool)):List (Bool×Bool):=(decide (0≤i),true)::(Nat.ble (off+n) xs.length,true)::(AI .i64 n,true)::(decide (0≤i),true)::(Nat.ble (off'+n') ys.length,true)::(AI .i64 n',true)::(decide (0≤i),true)::r
theorem ADC (i:Int):Aa Tryz.prog (AJ S10 K0) (some 0) 100 2 (some ([0,1,4,5],[0,1],2)) (Kw off n m off' n' m' xs ys i [true,true]) =
 some (Tv off n off' n' xs ys i [(decide (BZ xs off n i=BZ ys off' n' i),true)],[],Kw off n m off' n' m' xs ys (wI (i-1)) []):=by kernel_rfl
theorem ADD (i:Int):AQ Tryz.prog (AJ S10 K0) Tryz.f122 100 2 [] (Kw off n m off' n' m' xs ys i [true,false,true]) =
 some (Tv off n off' n' xs ys i [(decide (BZ xs off n i=BZ ys off' n' i),false),(decide (BZ xs off n i<BZ ys off' n' i),true)],[],.val false [.n .i64 (-1)],[]):=by kernel_rfl
theorem ADE (i:Int):AQ Tryz.prog (AJ S10 K0) Tryz.f122 100 2 [] (Kw off n m off' n' m' xs ys i [true,false,false]) =
 some (Tv off n off' n' xs ys i [(decide (BZ xs off n i=BZ ys off' n' i),false),(decide (BZ xs off n i<BZ ys off' n' i),false)],[],.val false [.n .i64 1],[]):=by kernel_rfl
theorem ADF (i:Int):AQ Tryz.prog (AJ S10 K0) Tryz.f122 100 2 [] (Kw off n m off' n' m' xs ys i [false]) =
 some ([(decide (0≤i),false)],[],.val false [.n .i64 0],[]):=by kernel_rfl
theorem Tw (i:Int) (p:List Bool):Bp Tryz.f122.ntmps (Kw off n m off' n' m' xs ys i p).s:=AR (by kernel_rfl)
end
theorem QK {P:Program} {f:FuncId} {β0:Env} {w0:World} {W W':List Nat} {v v':AV} {H:Heap} {n:Nat} {x:ASt} (h:ASafe P f β0 w0 (A7 β0 w0 W v H) n W' x) (hv:∀ β u,AG β v u→AG β v' u):ASafe P f β0 w0 (A7 β0 w0 W v' H) n W' x:=by
 intro β a w hi hf b cs q1 q2
 obtain ⟨e',w',fr,⟨u,β',q5,q6⟩,q4⟩:=h β a w hi hf b cs q1 q2
 exact ⟨e',w',fr,⟨u,β',q5,{ q6 with val:=hv _ _ q6.val }⟩,q4⟩
theorem mL {x y Q:Nat} (h:x / Q<y / Q):x<y:=Nat.lt_of_not_le fun hle=>absurd (Nat.div_le_div_right (c:=Q) hle) (by omega)
def Fy (x y:Nat):Int:=if x<y then -1 else if y<x then 1 else 0
theorem Ys {ws:List Int} (h:∀ d∈ws,0≤d∧d<18446744073709551616) (c:Nat):AL ws / 2^(64*c)=(ws.getD c 0).toNat+18446744073709551616*(AL ws / 2^(64*(c+1))):=by
 rw [← QI ws c h,show 64*(c+1)=64*c+64 by omega,Nat.pow_add,← Nat.div_div_eq_div_mul]
 omega
theorem QL {ws:List Int} (h:∀ d∈ws,0≤d∧d<18446744073709551616) (c:Nat):0≤ws.getD c 0∧ws.getD c 0<18446744073709551616:=by
 rw [List.getD_eq_getElem?_getD]
 cases h':ws[c]? with
 | none=>simp
 | some d=>exact h d (List.mem_of_getElem? h')
theorem Tx {β:Env} {k:IntKind} {i j:Int} {u:Value} (e:i=j) (h:AG β (.val false [.n k i]) u):AG β (.val false [.v (.int k j)]) u:=by subst e;exact mK h
section
variable {off n m off' n' m':Nat} {xs ys:List Int} (hx:∀ d∈xs,0≤d∧d<18446744073709551616) (hy:∀ d∈ys,0≤d∧d<18446744073709551616) (hl:off+n≤xs.length) (hl':off'+n'≤ys.length)
 (hn:AI .i64 n=true) (hn':AI .i64 n'=true) {β0:Env} {w0:World} (hb:∀ b,2≤b→β0 b=none)
include hx hy hl hl' hn hn' hb
theorem ADG:∀ c,c≤max n n'→AL (AA xs off n) / 2^(64*c)=AL (AA ys off' n') / 2^(64*c) →
  ASafe Tryz.prog 122 β0 w0 (A7 β0 w0 [] (.val false [.v (.int .i64 (Fy (AL (AA xs off n)) (AL (AA ys off' n'))))]) []) Tryz.f122.ntmps [] (Kw off n m off' n' m' xs ys ((c:Int)-1) []):=by
 intro c
 induction c with
 | zero =>
  intro _ heq
  rw [Nat.mul_zero,Nat.pow_zero,Nat.div_one,Nat.div_one] at heq
  have h:=Aw (w0:=w0) (W:=[]) (n:=Tryz.f122.ntmps) (AN HJ AZ) AE Tryz.func122 (ADF off n m off' n' m' xs ys (((0:Nat):Int)-1)) ⟨rfl,trivial⟩ (Tw ..) hb (fun _ h=>by cases h)
  exact Af [false] (QK h fun _ _=>Tx (by unfold Fy;rw [heq];simp))
 | succ c ih =>
  intro hc heq
  have hi:((c+1:Nat):Int)-1=(c:Int):=by omega
  rw [hi]
  have bn:n≤9223372036854775807:=by simp only [AI,Bool.and_eq_true,decide_eq_true_eq] at hn;omega
  have bn':n'≤9223372036854775807:=by simp only [AI,Bool.and_eq_true,decide_eq_true_eq] at hn';omega
  have sx:=Ys (Du (off:=off) (n:=n) hx) c
  have sy:=Ys (Du (off:=off') (n:=n') hy) c
  have bx:=QL (Du (off:=off) (n:=n) hx) c
  have byy:=QL (Du (off:=off') (n:=n') hy) c
  have ex:BZ xs off n c=(AA xs off n).getD c 0:=by unfold BZ;rw [Int.toNat_natCast]
  have ey:BZ ys off' n' c=(AA ys off' n').getD c 0:=by unfold BZ;rw [Int.toNat_natCast]
  have hC:∀ r,AP r→AP (Tv off n off' n' xs ys c r):=fun r hr=>⟨by simp,Nat.ble_eq_true_of_le hl,hn,by simp,Nat.ble_eq_true_of_le hl',hn',by simp,hr⟩
  by_cases he:BZ xs off n c=BZ ys off' n' c
  ·refine Af [true,true] (Aj (AN HJ AZ) AE (ADC ..) (hC _ ⟨by simp [he],trivial⟩) (Tw ..) hb (fun _ h=>by cases h) fun _=>?_)
   rw [A4 (z:=(c:Int)-1) (by omega)]
   exact ih (by omega) (by rw [sx,sy,heq,← ex,← ey,he])
  ·by_cases hlt:BZ xs off n c<BZ ys off' n' c
   ·have h:=Aw (w0:=w0) (W:=[]) (n:=Tryz.f122.ntmps) (AN HJ AZ) AE Tryz.func122 (ADD off n m off' n' m' xs ys c) (hC _ ⟨by simp [he],by simp [hlt],trivial⟩) (Tw ..) hb (fun _ h=>by cases h)
    refine Af [true,false,true] (QK h fun _ _=>Tx ?_)
    have:AL (AA xs off n)<AL (AA ys off' n'):=mL (Q:=2^(64*c)) (by rw [sx,sy,heq];omega)
    unfold Fy;rw [if_pos this]
   ·have h:=Aw (w0:=w0) (W:=[]) (n:=Tryz.f122.ntmps) (AN HJ AZ) AE Tryz.func122 (ADE off n m off' n' m' xs ys c) (hC _ ⟨by simp [he],by simp [hlt],trivial⟩) (Tw ..) hb (fun _ h=>by cases h)
    refine Af [true,false,false] (QK h fun _ _=>Tx ?_)
    have:AL (AA ys off' n')<AL (AA xs off n):=mL (Q:=2^(64*c)) (by rw [sx,sy,heq];omega)
    unfold Fy;rw [if_neg (by omega),if_pos this]
end
theorem ADH {off n m off' n' m':Nat} {xs ys:List Int} (hx:∀ d∈xs,0≤d∧d<18446744073709551616) (hy:∀ d∈ys,0≤d∧d<18446744073709551616) (hl:off+n≤xs.length) (hl':off'+n'≤ys.length)
  (hn:AI .i64 n=true) (hn':AI .i64 n'=true):AY Tryz.prog 122 (MS off n m off' n' m') (Dg xs ys) 2 [] (.val false [.v (.int .i64 (Fy (AL (AA xs off n)) (AL (AA ys off' n'))))]) []:=by
 refine Ax (path:=[]) Tryz.func122 (by kernel_rfl) (by kernel_rfl) fun β0 w0 hb=>?_
 refine Aj (AN HJ AZ) AE (ADB off n m off' n' m' xs ys) ⟨hn,hn',trivial⟩ (AR (by kernel_rfl)) hb (fun _ h=>by cases h) fun _=>?_
 have bn:n≤9223372036854775807:=by simp only [AI,Bool.and_eq_true,decide_eq_true_eq] at hn;omega
 have bn':n'≤9223372036854775807:=by simp only [AI,Bool.and_eq_true,decide_eq_true_eq] at hn';omega
 have e:wI (EQ n n'-1)=((max n n':Nat):Int)-1:=by
  have:EQ n n'=((max n n':Nat):Int):=by unfold EQ;split<;>omega
  rw [this,A4 (by omega)]
 rw [e]
 refine ADG hx hy hl hl' hn hn' hb _ (Nat.le_refl _) ?_
 have big:∀ (zs:List Int) (of k:Nat),(∀ d∈zs,0≤d∧d<18446744073709551616)→k≤max n n'→AL (AA zs of k) / 2^(64*max n n')=0:=by
  intro zs of k hz hk
  refine Nat.div_eq_of_lt (Nat.lt_of_lt_of_le (I_ _ (Du hz)) (Nat.pow_le_pow_right (by decide) ?_))
  have:(AA zs of k).length≤k:=by unfold AA;rw [List.length_take];omega
  omega
 rw [big xs off n hx (by omega),big ys off' n' hy (by omega)]
theorem Ty {β:Env} {H:Heap} {w:World} {k t:Nat} {ty ty':Nat} {cs ds:List Ch} {o o':Bool} {xs ys:List Int} (hg:Ex.Good β H w) (hk:AB H k=some ⟨ty,cs,o⟩) (ht:AB H t=some ⟨ty',ds,o'⟩) (hxs:Ak .u64 cs=some xs) (hys:Ak .u64 ds=some ys) :
  (∀ d∈xs,0≤d∧d<18446744073709551616)∧(∀ d∈ys,0≤d∧d<18446744073709551616)∧Ex.Good (Ap β [k,t] 2) (Dg xs ys) w∧(∀ j,j<2→∃ X,β (nth [k,t] j)=some X):=by
 obtain ⟨l,g1⟩:=GQ hg hk
 obtain ⟨_,g2⟩:=Bu hxs g1
 obtain ⟨l',g1'⟩:=GQ hg ht
 obtain ⟨_,g2'⟩:=Bu hys g1'
 refine ⟨fun d hd=>C' (g2 d hd),fun d hd=>C' (g2' d hd),lW (c:=[.seq .u64 xs]) (e:=[.seq .u64 ys]) hg hk ht (fun l h=>?_) (fun l h=>?_),fun j hj=>?_⟩
 ·obtain ⟨q1,q2⟩:=Bu hxs h
  exact ⟨_,[],⟨q1,q2⟩,rfl,by simp⟩
 ·obtain ⟨q1,q2⟩:=Bu hys h
  exact ⟨_,[],⟨q1,q2⟩,rfl,by simp⟩
 ·match j,hj with
  | 0,_=>exact BH (hg.heap _ _ hk)
  | 1,_=>exact BH (hg.heap _ _ ht)
def cmpSpec:ASpec:=fun args H fr path =>
 match args with
 | [.val false [.sl k off n _],.val false [.sl t off' n' _]]=>match AB H k,AB H t with
  | some ⟨_,cs,_⟩,some ⟨_,ds,_⟩=>match Ak .u64 cs,Ak .u64 ds with
   | some xs,some ys=>some (Az [k,t] 2 fr 0 [] (.val false [.v (.int .i64 (Fy (AL (AA xs off n)) (AL (AA ys off' n'))))]) [] [(Nat.ble (off+n) xs.length,true),(Nat.ble (off'+n') ys.length,true),(AI .i64 n,true),(AI .i64 n',true)] path)
   | _,_=>none
  | _,_=>none
 | _=>none
theorem ADI:A6 Tryz.prog 122 cmpSpec:=by
 refine GO Tryz.func122 (by kernel_rfl) (by kernel_rfl) fun args H fr path r h=>?_
 unfold cmpSpec at h
 split at h
 case h_2=>cases h
 rename_i k off n m t off' n' m'
 split at h
 case h_2=>cases h
 rename_i ty cs o ty' ds o' hk ht
 split at h
 case h_2=>cases h
 rename_i xs ys hxs hys
 injection h with h
 refine ⟨[k,t],MS off n m off' n' m',Dg xs ys,2,0,[],_,[],_,path,h.symm,fun β us w ha hg hc=>?_⟩
 obtain ⟨u1,us1,r1,⟨u2,us2,r2,ha,rfl⟩,rfl⟩:=ha
 obtain ⟨g1,g1',g2,g3⟩:=Ty hg hk ht hxs hys
 exact ⟨ADH g1 g1' (Nat.le_of_ble_eq_true hc.1) (Nat.le_of_ble_eq_true hc.2.1) hc.2.2.1 hc.2.2.2.1,by kernel_rfl,⟨u1,_,r1,⟨u2,us2,r2,ha,rfl⟩,rfl⟩,g2,g3⟩
noncomputable def S11:List (FuncId×ASpec):=(122,cmpSpec)::S10
theorem QM:AM Tryz.prog S11:=⟨ADI,HJ⟩
def JA (x:Nat):List Int:=(List.range 6).map (AF x)++[]
theorem OJ {x:Nat} (h:x<RR):AL (AA (JA x) (0+0*1) (6-0))=x :=
 (show AL (AA (JA x) (0+0*1) (6-0))=Kp (AF x 0) (AF x 1) (AF x 2) (AF x 3) (AF x 4) (AF x 5) by kernel_rfl).trans (mB h)
def DB (i:Int):AV:=.val false [.v (.int .i64 i)]
def CI (b:Bool):AV:=.val false [.v (.bool b)]
theorem ADJ (x:Nat):AX Tryz.prog (AJ S11 K0) Tryz.f127 [Ao x] [] 300=some ([],DB (wI (bits .and .u64 (AF (x % pN) 0) 1))):=by kernel_rfl
def FF (x:Nat):Int:=((x % pN % 2:Nat):Int)
theorem mM (x:Nat):AF x 0=((x % 18446744073709551616:Nat):Int):=by simp only [AF,Nat.mul_zero,Nat.pow_zero,Nat.div_one]
theorem mN (v:Nat) (hv:v<18446744073709551616):bits .and .u64 (v:Int) 1=((v % 2:Nat):Int):=by
 have h:=(bits_nat .u64 64 (by decide) (fun n h0 h1=>by rw [IntKind.wrap_u64];omega) v 1 (by omega) (by decide)).1
 refine Eq.trans h ?_
 rw [Nat.and_one_is_mod]
theorem ADK (x:Nat):AW Tryz.prog 127 [Ao x] (DB (FF x)):=by
 have h:=Ac (AN QM AZ) AE Tryz.func127 (ADJ x) trivial rfl
 have e:wI (bits .and .u64 (AF (x % pN) 0) 1)=FF x:=by
  rw [mM,mN _ (by omega),A4 (by omega)]
  unfold FF;omega
 rw [e] at h
 exact h
theorem ADL (x:Nat):AX Tryz.prog (AJ S11 K0) Tryz.f71 [Ao x] [] 300=some (H9 4,CI (decide (0<Fy (AL (AA (JA (x % pN)) (0+0*1) (6-0))) (AL (AA (JA (Df x)) (0+0*1) (6-0)))))):=by kernel_rfl
def Bd (x:Nat):Bool:=decide (Df x<x % pN)
theorem mO (x:Nat):Df x<pN:=Nat.mod_lt _ Cp
theorem ADM (x:Nat):AW Tryz.prog 71 [Ao x] (CI (Bd x)):=by
 have h:=Ac (AN QM AZ) AE Tryz.func71 (ADL x) (OG _) rfl
 rw [OJ (OD x),OJ (Nat.lt_trans (mO x) (by decide))] at h
 have e:decide (0<Fy (x % pN) (Df x))=Bd x:=by
  unfold Fy Bd
  by_cases h1:x % pN<Df x
  ·rw [if_pos h1,decide_eq_false (by omega),decide_eq_false (by omega)]
  ·by_cases h2:Df x<x % pN
   ·rw [if_neg h1,if_pos h2,decide_eq_true h2];rfl
   ·rw [if_neg h1,if_neg h2,decide_eq_false h2];rfl
 rw [e] at h
 exact h
def QN:Nat:=1000602388805416848354447456433976039139220704984751971333014534031007912622709466110671907282253916009473568139947
def QC:List Ch:=[.n .u64 0xee7fbfffffffeaab,.n .u64 0x7aaffffac54ffff,.n .u64 0xd9cc34a83dac3d89,.n .u64 0xd91dd2e13ce144af,.n .u64 0x92c6e9ed90d2eb35,.n .u64 0x680447a8e5ff9a6]
theorem ADN:AX Tryz.prog (AJ S11 K0) Tryz.f124 [] [] 300=some ([],.val true QC):=by kernel_rfl
theorem ADO:AW Tryz.prog 124 [] (.val true QC):=Ac (AN QM AZ) AE Tryz.func124 ADN trivial rfl
noncomputable def S12:List (FuncId×ASpec):=(124,As fun args=>match args with | []=>some (Ao QN) | _=>none)::(127,As (I9 fun x=>DB (FF x)))::(71,As (I9 fun x=>CI (Bd x)))::S11
theorem Yt:AM Tryz.prog S12:=⟨Av Tryz.func124 (by kernel_rfl) (by kernel_rfl) (QG ADO fun u h=>Tt (by kernel_rfl) h),Av Tryz.func127 (by kernel_rfl) (by kernel_rfl) (MP fun x _=>ADK x),Av Tryz.func71 (by kernel_rfl) (by kernel_rfl) (MP fun x _=>ADM x),QM⟩
def GR (y:Nat):Nat:=if FF y=1 then Df y else y
theorem ADP (y:Nat):AX Tryz.prog (AJ S12 K0) Tryz.f126 [Ao y] [true] 300=some ([(decide (FF y=1),true)],Ao (Df y)):=by kernel_rfl
theorem ADQ (y:Nat):AX Tryz.prog (AJ S12 K0) Tryz.f126 [Ao y] [false] 300=some ([(decide (FF y=1),false)],Ao y):=by kernel_rfl
theorem ADR (y:Nat):AW Tryz.prog 126 [Ao y] (Ao (GR y)):=by
 unfold GR
 by_cases h:FF y=1
 ·rw [if_pos h];exact Ac (AN Yt AZ) AE Tryz.func126 (ADP y) ⟨by simp [h],trivial⟩ rfl
 ·rw [if_neg h];exact Ac (AN Yt AZ) AE Tryz.func126 (ADQ y) ⟨by simp [h],trivial⟩ rfl
noncomputable def S13:List (FuncId×ASpec):=(126,As (I9 fun x=>Ao (GR x)))::S12
theorem Yu:AM Tryz.prog S13:=⟨Av Tryz.func126 (by kernel_rfl) (by kernel_rfl) (MP fun x _=>ADR x),Yt⟩
noncomputable def MT (a:Nat):Nat:=Eh a (AL (AA (JA QN) (0+0*1) (6-0)))
theorem ADS (a:Nat):AX Tryz.prog (AJ S13 K0) Tryz.f74 [Ao a] [true] 300=some ([(true,true),(true,true),(!decide (Ag (MT a) (MT a)=a % pN),true)],.tup [(true,ML),(false,[.b false])]):=by kernel_rfl
theorem ADT (a:Nat):AX Tryz.prog (AJ S13 K0) Tryz.f74 [Ao a] [false] 300=some ([(true,true),(true,true),(!decide (Ag (MT a) (MT a)=a % pN),false)],.tup [(true,[.num 6 (GR (MT a))]),(false,[.b true])]):=by kernel_rfl
noncomputable def B9 (a:Nat):Bool:=decide (Ag (Eh a QN) (Eh a QN)=a % pN)
noncomputable def DC (a:Nat):Nat:=if B9 a=true then GR (Eh a QN) else 0
theorem Yv (a:Nat):MT a=Eh a QN:=by unfold MT;rw [OJ (by decide)]
noncomputable def mQ (a:Nat):AV:=.tup [(true,[.num 6 (DC a)]),(false,[.v (.bool (B9 a))])]
theorem ER {P:Program} {f:FuncId} {args:List AV} {v v':AV} (h:AW P f args v) (hv:∀ u,AG B0 v u→AG B0 v' u):AW P f args v' :=
 fun us w a=>Calls.mono (h us w a) fun _ _ ⟨u,q1,q2,q3⟩=>⟨u,q1,hv u q2,q3⟩
theorem OK {b b':Bool} {u:Value} (e:b=b') (h:BO B0 false [.b b] u):BO B0 false [.v (.bool b')] u:=by
 subst e
 obtain ⟨l1,l2,p1,p2,p3⟩:=h
 exact ⟨l1,l2,⟨p1,rfl,trivial⟩,p2,p3⟩
theorem ADU (a:Nat):AW Tryz.prog 74 [Ao a] (mQ a):=by
 by_cases h:B9 a=true
 ·have h1:=Ac (AN Yu AZ) AE Tryz.func74 (ADT a) ⟨rfl,rfl,by rw [Yv];unfold B9 at h;rw [h];rfl,trivial⟩ rfl
  refine ER h1 ?_
  rintro u ⟨us,⟨u1,l1,q1,⟨u2,l2,q2,q3,rfl⟩,rfl⟩,rfl⟩
  refine ⟨_,⟨u1,_,?_,⟨u2,l2,OK h.symm q2,q3,rfl⟩,rfl⟩,rfl⟩
  unfold DC;rw [if_pos h,← Yv];exact q1
 ·have h0:B9 a=false:=by simpa using h
  have h1:=Ac (AN Yu AZ) AE Tryz.func74 (ADS a) ⟨rfl,rfl,by rw [Yv];unfold B9 at h0;rw [h0];rfl,trivial⟩ rfl
  refine ER h1 ?_
  rintro u ⟨us,⟨u1,l1,q1,⟨u2,l2,q2,q3,rfl⟩,rfl⟩,rfl⟩
  refine ⟨_,⟨u1,_,?_,⟨u2,l2,OK h0.symm q2,q3,rfl⟩,rfl⟩,rfl⟩
  unfold DC;rw [if_neg h]
  exact Tt (by kernel_rfl) q1
noncomputable def S14:List (FuncId×ASpec):=(74,As (I9 mQ))::S13
theorem ADV:AM Tryz.prog S14:=⟨Av Tryz.func74 (by kernel_rfl) (by kernel_rfl) (MP fun x _=>ADU x),Yu⟩
noncomputable def S15:List (FuncId×ASpec):=S14
theorem ADW:AM Tryz.prog S15:=ADV
def Yw (x y c:Int):AV:=.tup [(false,[.v (.int .u64 (Bl x y c))]),(false,[.v (.int .u64 (B3 x y c))])]
def mR (x y c:Int):List AV:=[.val false [.v (.int .u64 x)],.val false [.v (.int .u64 y)],.val false [.v (.int .u64 c)]]
theorem ADX (x y c:Int):AX Tryz.prog (AJ S11 K0) Tryz.f151 (mR x y c) [] 300=some ([(BJ c,true)],Yw x y c):=by kernel_rfl
theorem ADY {x y c:Int} (h:BJ c=true):AW Tryz.prog 151 (mR x y c) (Yw x y c):=Ac (AN QM AZ) AE Tryz.func151 (ADX x y c) ⟨h,trivial⟩ rfl
def FG (sp:List AV→Option (List (Bool×Bool)×AV)):ASpec:=fun args _ _ path =>
 match TV args,sp args with
 | true,some (c,v)=>match KP v with
  | true=>some { BS v path with conds:=c }
  | false=>none
 | _,_=>none
theorem GS {P:Program} {f:FuncId} {fn:Func} {sp:List AV→Option (List (Bool×Bool)×AV)} (hfn:P.funcs[f]? = some fn) (hb:fn.body.isSome=true) (hname:(fn.name=="runtime.NumGoroutine")=false) (h:∀ args c v,sp args=some (c,v)→AP c→AW P f args v):A6 P f (FG sp):=by
 intro args H fr path r β us w hs hc ha hg hf
 unfold FG at hs
 split at hs
 ·rename_i c v hk hv
  split at hs
  ·rename_i hkv
   injection hs with hs;subst hs
   refine Ps hfn hb hname (Calls.mono (h args c v hv hc us w (X_ hk ha)) ?_)
   rintro e w' ⟨u,rfl,hu,hbl⟩
   refine ⟨u,β,rfl,?_⟩
   exact ⟨Env.le_refl _,fun _ _ h=>.inl h,fun b B n hb=>Nat.lt_of_lt_of_le (hg.lt b B n hb) hbl.size,fun b b' _ _ _ h1 _ h3=>by simp [BS] at h3;omega,HE hkv hu,fun _ _ h=>(by cases h),fun B hB _=>hbl.block B hB,hbl.size,hbl.os,hbl.tape,hbl.output⟩
  ·cases hs
 ·cases hs
def Yx:List AV→Option (List (Bool×Bool)×AV)
 | [A,B,C]=>match A' (some A),A' (some B),A' (some C) with
  | some (_,.u64,x),some (_,.u64,y),some (_,.u64,c)=>some ([(BJ c,true)],Yw x y c)
  | _,_,_=>none
 | _=>none
theorem ADZ:∀ args c v,Yx args=some (c,v)→AP c→AW Tryz.prog 151 args v:=by
 intro args cs v h hc us w ha
 unfold Yx at h
 split at h
 case h_2=>cases h
 rename_i A B C
 split at h
 case h_2=>cases h
 rename_i c1 x c2 y c3 z hx hy hz
 injection h with h;injection h with h1 h2;subst h1;subst h2
 obtain ⟨u1,us1,r1,⟨u2,us2,r2,⟨u3,us3,r3,ha,rfl⟩,rfl⟩,rfl⟩:=ha
 exact ADY hc.1 _ w ⟨u1,_,(MI hx r1).1,⟨u2,_,(MI hy r2).1,⟨u3,us3,(MI hz r3).1,ha,rfl⟩,rfl⟩,rfl⟩
noncomputable def S16:List (FuncId×ASpec):=(151,FG Yx)::S15
theorem Tz:AM Tryz.prog S16:=⟨GS Tryz.func151 (by kernel_rfl) (by kernel_rfl) ADZ,ADW⟩
noncomputable def mS:List Item:=C3 (Aa Tryz.prog (AJ S16 K0) (some 0) 100 2 none (Ah Tryz.f150 [.val false [.sl 0 0 0 0],.val false [.sl 1 0 0 0],.val false [.clo 151 []]] (Dg [] []) 2 []))
noncomputable def Yy (off n m off' n' m' L:Nat) (c:Ch) (i:Int):List AV:=.val false [.sl 0 off n m]::.val false [.sl (1) off' n' m']::.val false [.clo 151 []]::.any::.any::.any::.any::.any::.val false [.sl 2 0 L L]::.val false [c]::.any::.any::.any::.any::.any::.any::.val false [.sl 2 0 L L]::.val false [.sl 2 0 L L]::.val false [.v (.int .i64 L)]::.val false [.v (.int .i64 i)]::List.replicate (Tryz.f150.ntmps-20) .any
noncomputable def QO (off n m off' n' m':Nat) (xs xs':List Int) (L:Nat) (ys:List Int) (c:Ch) (i:Int) (p:List Bool):ASt:=⟨mS,⟨Yy off n m off' n' m' L c i,List.append (Dg xs xs') [(2,some ⟨24,[.seq .u64 ys],false⟩)],3,p⟩⟩
def ADa (off n off' n' L:Nat) (xs xs' ys:List Int) (c i:Int):List (Bool×Bool):=[(decide (i<L),true),(Nat.ble (off+n) xs.length,true),(AI .i64 n,true),(decide (0≤i),true),(Nat.ble (off'+n') (xs').length,true),(AI .i64 n',true),(decide (0≤i),true),(BJ c,true),(decide (0≤i∧i<L),true),(decide (0+i.toNat*1<ys.length),true)]
theorem ADb (off n m off' n' m':Nat) (xs xs':List Int) (L:Nat) (ys:List Int) (c i:Int) :
  Aa Tryz.prog (AJ S16 K0) (some 0) 100 2 (some ([0,1,2,8,9,16,17,18,19],[0,1,2],3)) (QO off n m off' n' m' xs xs' L ys (.v (.int .u64 c)) i [true]) =
  some (ADa off n off' n' L xs xs' ys c i,[],QO off n m off' n' m' xs xs' L (ys.set (0+i.toNat*1) (Bl (BZ xs off n i) (BZ (xs') off' n' i) c)) (.v (.int .u64 (B3 (BZ xs off n i) (BZ (xs') off' n' i) c))) (wI (i+1)) []):=by kernel_rfl
def MU (ys:List Int):Heap:=[(2,some ⟨24,[.seq .u64 ys],false⟩)]
theorem ADc (off n m off' n' m':Nat) (xs xs':List Int) (L:Nat) (ys:List Int) (c i:Int) :
  AQ Tryz.prog (AJ S16 K0) Tryz.f150 100 2 [2] (QO off n m off' n' m' xs xs' L ys (.v (.int .u64 c)) i [false]) =
  some ([(decide (i<L),false)],[],.tup [(false,[.sl 2 0 L L]),(false,[.v (.int .u64 c)])],MU ys):=by kernel_rfl
def FH:AV→AV
 | .val g cs=>.val g (cs.map nv)
 | a=>a
theorem mT {β:Env} {a:AV} {u:Value} (h:AG β a u):AG β (FH a) u:=by
 cases a with
 | val g cs=>cases g with
  | false=>exact QD h
  | true=>obtain ⟨l,q,e⟩:=h;exact ⟨l,QD q,e⟩
 | tup xs=>exact h
 | any=>exact h
theorem mU:∀ (T:List AV) (t:Nat),Al (T.map FH) t=FH (Al T t)∨Al (T.map FH) t=Al T t
 | [],_=>.inr rfl
 | _::_,0=>.inl rfl
 | _::r,t+1=>mU r t
theorem Kx {P:Program} {f:FuncId} {β0:Env} {w0:World} {R:Ending→World→Prop} {n:Nat} {W:List Nat} {todo:List Item} {T:List AV} {H:Heap} {fr:Nat} {p:List Bool} (h:ASafe P f β0 w0 R n W ⟨todo,⟨T.map FH,H,fr,p⟩⟩):ASafe P f β0 w0 R n W ⟨todo,⟨T,H,fr,p⟩⟩:=by
 intro β a w hi hf
 refine h β a w { hi with tmp:=fun t=>?_ } hf
 rcases mU T t with e | e
 ·show AG β (Al (T.map FH) t) _
  rw [e];exact mT (hi.tmp t)
 ·show AG β (Al (T.map FH) t) _
  rw [e];exact hi.tmp t
def Yz (off n m off' n' m':Nat):List AV:=[.val false [.sl 0 off n m],.val false [.sl (1) off' n' m'],.val false [.clo 151 []]]
def HK (n n':Nat):Nat:=(EQ n n').toNat
noncomputable def Y0 (off n m off' n' m':Nat):List AV:=.val false [.sl 0 off n m]::.val false [.sl (1) off' n' m']::.val false [.clo 151 []]::.any::.any::.any::.any::.any::.val false [.sl 2 0 (HK n n') (HK n n')]::.val false [.n .u64 0]::.any::.any::.any::.any::.any::.any::.val false [.sl 2 0 (HK n n') (HK n n')]::.val false [.sl 2 0 (HK n n') (HK n n')]::.val false [.v (.int .i64 (HK n n'))]::.val false [.n .i64 0]::List.replicate (Tryz.f150.ntmps-20) .any
theorem ADd (off n m off' n' m':Nat) (xs xs':List Int) :
  Aa Tryz.prog (AJ S16 K0) (some 0) 100 2 (some ([0,1,2,8,9,16,17,18,19],[0,1,2],3)) (Ah Tryz.f150 (Yz off n m off' n' m') (Dg xs xs') 2 []) =
  some ([(AI .i64 n,true),(AI .i64 n',true),(decide (0≤EQ n n'∧EQ n n'≤EQ n n'∧((8:Nat):Int)*EQ n n'≤281474976710656∧EQ n n'≤9223372036854775807),true),(AI .i64 (HK n n'),true)],[],
   ⟨mS,⟨Y0 off n m off' n' m',List.append (Dg xs xs') (MU (List.replicate (HK n n') 0)),3,[]⟩⟩):=by kernel_rfl
def HL (A B i:Nat):Nat:=(A % 2^(64*i)+B % 2^(64*i)) / 2^(64*i)
theorem ADe (A B i:Nat):HL A B i≤1:=by
 have hp:0<2^(64*i):=Nat.pow_pos (by decide)
 have h1:=Nat.mod_lt A hp
 have h2:=Nat.mod_lt B hp
 exact Nat.le_of_lt_succ (Nat.div_lt_of_lt_mul (by omega))
theorem ADf (A B Q W:Nat) (hp:0<Q):(A % (Q*W)+B % (Q*W)) / (Q*W)=(A / Q % W+B / Q % W+(A % Q+B % Q) / Q) / W∧(A+B) / Q=A / Q+B / Q+(A % Q+B % Q) / Q:=by
 constructor
 ·rw [Nat.mod_mul,Nat.mod_mul,← Nat.div_div_eq_div_mul]
  congr 1
  rw [show A % Q+Q*(A / Q % W)+(B % Q+Q*(B / Q % W))=A % Q+B % Q+Q*(A / Q % W+B / Q % W) by rw [Nat.mul_add];omega,Nat.add_mul_div_left _ _ hp]
  omega
 ·have ea:=Nat.div_add_mod A Q
  have eb:=Nat.div_add_mod B Q
  rw [show A+B=A % Q+B % Q+Q*(A / Q+B / Q) by rw [Nat.mul_add];omega,Nat.add_mul_div_left _ _ hp]
  omega
theorem ADg (A B i:Nat):A / 2^(64*i) % 18446744073709551616+B / 2^(64*i) % 18446744073709551616+HL A B i=(A+B) / 2^(64*i) % 18446744073709551616+18446744073709551616*HL A B (i+1):=by
 obtain ⟨h1,h2⟩:=ADf A B (2^(64*i)) 18446744073709551616 (Nat.pow_pos (by decide))
 have e:2^(64*(i+1))=2^(64*i)*18446744073709551616:=by rw [show 64*(i+1)=64*i+64 by omega,Nat.pow_add]
 unfold HL
 rw [e,h1,h2]
 omega
def Dh (S L i:Nat):List Int:=(List.range i).map (AF S)++List.replicate (L-i) 0
theorem ADh {S L i:Nat} (h:i≤L):(Dh S L i).length=L:=by simp [Dh];omega
theorem ADi {S L i:Nat} (h:i<L):(Dh S L i).set i (AF S i)=Dh S L (i+1):=by
 unfold Dh
 rw [List.set_append_right _ _ (by simp),List.length_map,List.length_range,Nat.sub_self,show L-i=(L-(i+1))+1 by omega,List.replicate_succ,List.set_cons_zero,List.range_succ,List.map_append,List.append_assoc]
 rfl
theorem ADj (S L:Nat):Dh S L 0=List.replicate L 0:=by simp [Dh]
theorem QP {xs:List Int} {off n:Nat} (h:∀ d∈xs,0≤d∧d<18446744073709551616) (i:Nat):BZ xs off n i=((AL (AA xs off n) / 2^(64*i) % 18446744073709551616:Nat):Int):=by
 have:=QI (AA xs off n) i (Du h)
 have hb:=QL (Du (off:=off) (n:=n) h) i
 unfold BZ
 rw [Int.toNat_natCast]
 have e:(2:Nat)^64=18446744073709551616:=rfl
 rw [e] at this
 omega
theorem ADk (A B i:Nat):Bl ((A / 2^(64*i) % 18446744073709551616:Nat):Int) ((B / 2^(64*i) % 18446744073709551616:Nat):Int) (HL A B i)=AF (A+B) i ∧
  B3 ((A / 2^(64*i) % 18446744073709551616:Nat):Int) ((B / 2^(64*i) % 18446744073709551616:Nat):Int) (HL A B i)=HL A B (i+1):=by
 have h:=ADg A B i
 unfold Bl B3 AF
 have e:(2:Nat)^64=18446744073709551616:=rfl
 rw [e]
 constructor<;>omega
theorem Y1 (n n':Nat):HK n n'=max n n':=by unfold HK EQ;split<;>omega
section
variable {off n m off' n' m':Nat} {xs xs':List Int} (hx:∀ d∈xs,0≤d∧d<18446744073709551616) (hy:∀ d∈xs',0≤d∧d<18446744073709551616) (hl:off+n≤xs.length) (hl':off'+n'≤xs'.length)
 (hn:AI .i64 n=true) (hn':AI .i64 n'=true) {β0:Env} {w0:World} (hb:∀ b,2≤b→β0 b=none)
def Ky (xs:List Int) (off n:Nat) (ys:List Int) (off' n':Nat):Nat:=AL (AA xs off n)+AL (AA ys off' n')
def GT (xs:List Int) (off n:Nat) (ys:List Int) (off' n':Nat) (i:Nat):Nat:=HL (AL (AA xs off n)) (AL (AA ys off' n')) i
include hx hy hl hl' hn hn' hb
theorem ADl:∀ r i,i+r=max n n' →
  ASafe Tryz.prog 150 β0 w0 (A7 β0 w0 [] (.tup [(false,[.sl 2 0 (max n n') (max n n')]),(false,[.v (.int .u64 (GT xs off n xs' off' n' (max n n')))])]) (MU (Dh (Ky xs off n xs' off' n') (max n n') (max n n')))) Tryz.f150.ntmps []
   (QO off n m off' n' m' xs xs' (max n n') (Dh (Ky xs off n xs' off' n') (max n n') i) (.v (.int .u64 (GT xs off n xs' off' n' i))) i []):=by
 have bn:n≤9223372036854775807:=by simp only [AI,Bool.and_eq_true,decide_eq_true_eq] at hn;omega
 have bn':n'≤9223372036854775807:=by simp only [AI,Bool.and_eq_true,decide_eq_true_eq] at hn';omega
 intro r
 induction r with
 | zero =>
  intro i hi
  obtain rfl:i=max n n':=by omega
  refine Af [false] (Aw (AN Tz AZ) AE Tryz.func150 (ADc ..) ⟨by simp,trivial⟩ (AR (by kernel_rfl)) hb (fun _ h=>by cases h))
 | succ r ih =>
  intro i hi
  have ea:=QP (off:=off) (n:=n) hx i
  have eb:=QP (off:=off') (n:=n') hy i
  obtain ⟨w1,w2⟩:=ADk (AL (AA xs off n)) (AL (AA xs' off' n')) i
  have hc1:=ADe (AL (AA xs off n)) (AL (AA xs' off' n')) i
  have hL:(Dh (Ky xs off n xs' off' n') (max n n') i).length=max n n':=ADh (by omega)
  refine Af [true] (Aj (AN Tz AZ) AE (ADb ..) ?_ (AR (by kernel_rfl)) hb (fun _ h=>by cases h) fun _=>?_)
  ·refine ⟨by simp;omega,Nat.ble_eq_true_of_le hl,hn,by simp,Nat.ble_eq_true_of_le hl',hn',by simp,?_,by simp;omega,?_,trivial⟩
   ·unfold BJ GT;simp only [decide_eq_true_eq];omega
   ·rw [hL];simp;omega
  ·rw [ea,eb]
   unfold GT
   rw [w1,w2,A4 (z:=(i:Int)+1) (by omega),show 0+(i:Int).toNat*1=i by omega]
   show ASafe _ _ _ _ _ _ _ (QO _ _ _ _ _ _ _ _ _ ((Dh (AL (AA xs off n)+AL (AA xs' off' n')) (max n n') i).set i _) _ _ _)
   rw [ADi (by omega)]
   have:=ih (i+1) (by omega)
   exact this
end
theorem ADm {off n m off' n' m':Nat} {xs xs':List Int} (hx:∀ d∈xs,0≤d∧d<18446744073709551616) (hy:∀ d∈xs',0≤d∧d<18446744073709551616) (hl:off+n≤xs.length) (hl':off'+n'≤xs'.length)
  (hn:AI .i64 n=true) (hn':AI .i64 n'=true) (hbig:n≤35184372088832∧n'≤35184372088832) :
  AY Tryz.prog 150 (Yz off n m off' n' m') (Dg xs xs') 2 [] (.tup [(false,[.sl 2 0 (max n n') (max n n')]),(false,[.v (.int .u64 (GT xs off n xs' off' n' (max n n')))])]) (MU (Dh (Ky xs off n xs' off' n') (max n n') (max n n'))):=by
 refine Ax (path:=[]) Tryz.func150 (by kernel_rfl) (by kernel_rfl) fun β0 w0 hb=>?_
 have hmI:EQ (n:Int) n'=((max n n':Nat):Int):=by unfold EQ;split<;>omega
 refine Aj (AN Tz AZ) AE (ADd off n m off' n' m' xs xs') ⟨hn,hn',?_,?_,trivial⟩ (AR (by kernel_rfl)) hb (fun _ h=>by cases h) fun _=>?_
 ·rw [hmI];simp only [decide_eq_true_eq];omega
 ·rw [Y1];simp only [AI,Bool.and_eq_true,decide_eq_true_eq];omega
 ·refine Kx ?_
  have h:=ADl (m:=m) (m':=m') (w0:=w0) hx hy hl hl' hn hn' hb (max n n') 0 (by omega)
  rw [ADj] at h
  have e0:GT xs off n xs' off' n' 0=0:=by unfold GT HL;simp [Nat.mod_one]
  rw [e0] at h
  have e1:List.map FH (Y0 off n m off' n' m')=Yy off n m off' n' m' (max n n') (.v (.int .u64 ((0:Nat):Int))) ((0:Nat):Int):=by
   unfold Y0 Yy
   rw [Y1]
   rfl
  rw [e1,Y1]
  exact h
def Y2 (k t fr off n off' n':Nat) (xs ys:List Int) (path:List Bool):R :=
 Az [k,t] 2 fr 1 [] (.tup [(false,[.sl 2 0 (max n n') (max n n')]),(false,[.v (.int .u64 (GT xs off n ys off' n' (max n n')))])]) (MU (Dh (Ky xs off n ys off' n') (max n n') (max n n')))
  [(Nat.ble (off+n) xs.length,true),(Nat.ble (off'+n') ys.length,true),(AI .i64 n,true),(AI .i64 n',true),(Nat.ble n 35184372088832,true),(Nat.ble n' 35184372088832,true)] path
def T3 (H:Heap) (fr:Nat) (path:List Bool) (k off n t off' n':Nat):Option R :=
 match AB H k,AB H t with
 | some ⟨_,cs,_⟩,some ⟨_,ds,_⟩=>match Ak .u64 cs,Ak .u64 ds with
  | some xs,some ys=>some (Y2 k t fr off n off' n' xs ys path)
  | _,_=>none
 | _,_=>none
def Y3:AV→Option FuncId
 | .val false [.clo g []]=>some g
 | .val false [.v (.func (.func g) ⟨[]⟩ ⟨[]⟩)]=>some g
 | _=>none
theorem ADn {β β':Env} {A:AV} {g:FuncId} {u:Value} (h:Y3 A=some g) (hr:AG β A u):AG β' (.val false [.clo g []]) u:=by
 unfold Y3 at h
 split at h
 ·injection h with h;subst h;exact HE rfl hr
 ·injection h with h;subst h
  obtain ⟨l1,l2,⟨h1,_⟩,h3,h4⟩:=hr
  subst h1;subst h3
  exact ⟨_,[],⟨[],rfl,rfl⟩,rfl,h4⟩
 ·cases h
def carSpec:ASpec:=fun args H fr path =>
 match args with
 | [.val false [.sl k off n _],.val false [.sl t off' n' _],F]=>match Y3 F with
  | some g=>match Nat.beq g 151 with
   | true=>T3 H fr path k off n t off' n'
   | false=>none
  | none=>none
 | _=>none
theorem ADo:A6 Tryz.prog 150 carSpec:=by
 refine GO Tryz.func150 (by kernel_rfl) (by kernel_rfl) fun args H fr path r h=>?_
 unfold carSpec at h
 split at h
 case h_2=>cases h
 rename_i k off n m t off' n' m' F
 split at h
 case h_2=>cases h
 rename_i g hF
 split at h
 case h_2=>cases h
 rename_i hgg
 unfold T3 at h
 split at h
 case h_2=>cases h
 rename_i ty cs o ty' ds o' hk ht
 split at h
 case h_2=>cases h
 rename_i xs ys hxs hys
 injection h with h
 have hg0:=Ad.1 hgg
 subst hg0
 refine ⟨[k,t],Yz off n m off' n' m',Dg xs ys,2,1,[],_,_,_,path,h.symm,fun β us w ha hg hc=>?_⟩
 obtain ⟨u1,us1,r1,⟨u2,us2,r2,⟨u3,us3,r3,ha,rfl⟩,rfl⟩,rfl⟩:=ha
 obtain ⟨g1,g1',g2,g3⟩:=Ty hg hk ht hxs hys
 have hcan:=ADm (m:=m) (m':=m') (xs':=ys) g1 g1' (Nat.le_of_ble_eq_true hc.1) (Nat.le_of_ble_eq_true hc.2.1) hc.2.2.1 hc.2.2.2.1 ⟨Nat.le_of_ble_eq_true hc.2.2.2.2.1,Nat.le_of_ble_eq_true hc.2.2.2.2.2.1⟩
 refine ⟨hcan,by kernel_rfl,⟨u1,_,r1,⟨u2,_,r2,⟨u3,us3,ADn hF r3,ha,rfl⟩,rfl⟩,rfl⟩,g2,g3⟩
noncomputable def S17:List (FuncId×ASpec):=(150,carSpec)::S16
theorem mV:AM Tryz.prog S17:=⟨ADo,Tz⟩
def Y4 (off n m off' n' m':Nat):List AV:=[.val false [.sl 0 off n m],.val false [.sl (1) off' n' m']]
theorem ADp (off n m off' n' m':Nat) (xs xs':List Int) :
 AQ Tryz.prog (AJ S17 K0) Tryz.f98 100 2 [2] (Ah Tryz.f98 (Y4 off n m off' n' m') (Dg xs xs') 2 []) =
 some ((Y2 0 0 0 off n off' n' xs xs' []).conds,[],.tup [(false,[.sl 2 0 (max n n') (max n n')]),(false,[.v (.int .u64 (GT xs off n xs' off' n' (max n n')))])],MU (Dh (Ky xs off n xs' off' n') (max n n') (max n n'))):=by kernel_rfl
theorem ADq {off n m off' n' m':Nat} {xs xs':List Int} (hc:AP (Y2 0 0 0 off n off' n' xs xs' []).conds) :
  AY Tryz.prog 98 (Y4 off n m off' n' m') (Dg xs xs') 2 [] (.tup [(false,[.sl 2 0 (max n n') (max n n')]),(false,[.v (.int .u64 (GT xs off n xs' off' n' (max n n')))])]) (MU (Dh (Ky xs off n xs' off' n') (max n n') (max n n'))):=by
 refine Ax (path:=[]) Tryz.func98 (by kernel_rfl) (by kernel_rfl) fun β0 w0 hb=>?_
 exact Aw (AN mV AZ) AE Tryz.func98 (ADp off n m off' n' m' xs xs') hc (AR (by kernel_rfl)) hb (fun _ h=>by cases h)
def addlSpec:ASpec:=fun args H fr path =>
 match args with
 | [.val false [.sl k off n _],.val false [.sl t off' n' _]]=>T3 H fr path k off n t off' n'
 | _=>none
theorem mX:A6 Tryz.prog 98 addlSpec:=by
 refine GO Tryz.func98 (by kernel_rfl) (by kernel_rfl) fun args H fr path r h=>?_
 unfold addlSpec at h
 split at h
 case h_2=>cases h
 rename_i k off n m t off' n' m'
 unfold T3 at h
 split at h
 case h_2=>cases h
 rename_i ty cs o ty' ds o' hk ht
 split at h
 case h_2=>cases h
 rename_i xs ys hxs hys
 injection h with h
 refine ⟨[k,t],Y4 off n m off' n' m',Dg xs ys,2,1,[],_,_,_,path,h.symm,fun β us w ha hg hc=>?_⟩
 obtain ⟨u1,us1,r1,⟨u2,us2,r2,ha,rfl⟩,rfl⟩:=ha
 obtain ⟨g1,g1',g2,g3⟩:=Ty hg hk ht hxs hys
 have hcan:=ADq (m:=m) (m':=m') (off:=off) (n:=n) (off':=off') (n':=n') (xs:=xs) (xs':=ys) hc
 refine ⟨hcan,by kernel_rfl,⟨u1,_,r1,⟨u2,_,r2,ha,rfl⟩,rfl⟩,g2,g3⟩
noncomputable def S18:List (FuncId×ASpec):=(98,addlSpec)::S17
theorem ADr:AM Tryz.prog S18:=⟨mX,mV⟩
def Kz (m x:Nat):Nat→Nat→Nat
 | 0,_=>1 % m
 | f+1,e=>(match e % 2 with
  | 0=>Kz m (x*x % m) f (e / 2)
  | _=>x*Kz m (x*x % m) f (e / 2) % m)
theorem Y5 (m:Nat):∀ (f x e:Nat),e<2^f→Kz m x f e=x^e % m
 | 0,x,e,h=>by
  have:e=0:=by simpa using h
  subst this;rfl
 | f+1,x,e,h=>by
  have ih:=Y5 m f (x*x % m) (e / 2) (by rw [Nat.pow_succ] at h;omega)
  have h2:(x*x % m)^(e / 2) % m=x^(2*(e / 2)) % m:=by
   rw [← Nat.pow_mod,Nat.pow_mul,Nat.pow_two]
  unfold Kz
  rcases Nat.mod_two_eq_zero_or_one e with h0 | h1
  ·rw [h0]
   show Kz m (x*x % m) f (e / 2)=_
   rw [ih,h2,show 2*(e / 2)=e by omega]
  ·rw [h1]
   show x*Kz m (x*x % m) f (e / 2) % m=_
   rw [ih,h2,Nat.mul_mod,Nat.mod_mod,← Nat.mul_mod,← Nat.pow_succ',show (2*(e / 2)).succ=e by omega]
theorem mY:(2:Nat)^384=RR:=by kernel_rfl
noncomputable def S19:List (FuncId×ASpec):=S18
theorem ADs:AM Tryz.prog S19:=ADr
end Go.Proofs.YtojnabmgolpodaaGreat
namespace Go.Proofs.YtojnabmgolpodaaGreat
open Ex
open Go.RowKit (Below)
set_option maxRecDepth 100000
set_option maxHeartbeats 4000000
theorem own:ownKnob Tryz.prog.godebug=none:=by kernel_rfl
theorem laidOut:laidOutB Tryz.prog=true:=by kernel_rfl
theorem under_bool:Tryz.prog.underlying 4=some .bool:=by kernel_rfl
theorem args0 {ts:List TypeId} {H:Type} {enc:TypeId×Value→H} {W:World} {us:List Value} {ds:List (DataW H)} {ps:List MemPlace} (hA:DataW.TrodAll enc Tryz.prog W 0 (fun _=>true) true ts us ds ps) (ht:ts=[]):us=[]:=by
 subst ht
 cases us with
 | nil=>rfl
 | cons=>cases ds<;>cases hA
theorem Y6 {H:Type} {enc:TypeId×Value→H} {W:World} {t:TypeId} {ts:List TypeId} {us:List Value} {ds:List (DataW H)} {ps:List MemPlace} (hA:DataW.TrodAll enc Tryz.prog W 0 (fun _=>true) true (t::ts) us ds ps) :
  ∃ v us' d ds' p q,us=v::us'∧ds=d::ds'∧DataW.Trod enc Tryz.prog W 0 (fun _=>true) true t v d p∧DataW.TrodAll enc Tryz.prog W 0 (fun _=>true) true ts us' ds' q:=by
 cases us with
 | nil=>cases ds<;>cases hA
 | cons v us'=>cases ds with
  | nil=>cases hA
  | cons d ds' =>
   obtain ⟨p,q,h1,h2,_⟩:=hA
   exact ⟨v,us',d,ds',p,q,rfl,rfl,h1,h2⟩
theorem len3 {α:Type} {l:List α} (h:l.length=3):∃ a b c,l=[a,b,c]:=by
 match l,h with
 | [a,b,c],_=>exact ⟨a,b,c,rfl⟩
end Go.Proofs.YtojnabmgolpodaaGreat
namespace Go.Proofs.YtojnabmgolpodaaGreat
set_option maxRecDepth 100000
set_option maxHeartbeats 4000000
theorem allHeard:Tryz.pinned.checked.prog.stopsHeard=true:=by kernel_rfl
theorem allEnter:Tryz.pinned.checked.prog.mayEnter=true:=by kernel_rfl
theorem allLifts:Tryz.pinned.checked.prog.liftsFinal=false:=by kernel_rfl
theorem allKeys:Tryz.pinned.checked.prog.plainKeys=true:=by kernel_rfl
theorem allLaid:laidOutB Tryz.pinned.checked.prog=true:=by kernel_rfl
theorem allMaps:mapsRowed Tryz.pinned.checked.prog=true:=by kernel_rfl
end Go.Proofs.YtojnabmgolpodaaGreat
namespace Go.Proofs.YtojnabmgolpodaaGreat
open Ex
set_option maxRecDepth 100000
set_option maxHeartbeats 4000000
def PL:List Int:=[0xb9feffffffffaaab,0x1eabfffeb153ffff,0x6730d2a0f6b0f624,0x64774b84f38512bf,0x4b1ba7b6434bacd7,0x1a0111ea397fe69a]
theorem ADt {x:Nat} (h:x<RR):AL (AA (JA x) 0 6)=x:=OJ h
theorem ADu {S L:Nat} (h:S<2^(64*L)):AL (AA (Dh S L L) 0 L)=S:=by
 unfold Dh AA
 rw [Nat.sub_self,List.replicate_zero,List.append_nil,List.drop_zero,List.take_of_length_le (by simp)]
 have gen:∀ (L S:Nat),S<2^(64*L)→AL ((List.range L).map (AF S))=S:=by
  intro L
  induction L with
  | zero=>intro S h;simp at h;subst h;rfl
  | succ L ih =>
   intro S h
   rw [List.range_succ_eq_map,List.map_cons,List.map_map]
   have e:(AF S ∘ Nat.succ)=AF (S / 2^64):=by
    funext i
    exact Db S i |>.symm▸rfl
   rw [e]
   simp only [AL]
   rw [ih (S / 2^64) (by rw [show 64*(L+1)=64+64*L by omega,Nat.pow_add] at h;exact Nat.div_lt_of_lt_mul h),Yl,Nat.mul_zero,Nat.pow_zero,Nat.div_one]
   omega
 exact gen L S h
theorem ADv {a:Nat} (h:a % pN≠0):Df a=pN-a % pN:=by
 have hp:=H7 a
 unfold Df
 rw [Nat.mod_eq_of_lt (by omega)]
theorem QQ:pN % 2=1:=by kernel_rfl
end Go.Proofs.YtojnabmgolpodaaGreat
namespace Go.Proofs.YtojnabmgolpodaaGreat.Num
def Prime (p:Nat):Prop:=2≤p∧∀ d,d∣p→d=1∨d=p
theorem Prime.coprime {p a:Nat} (hp:Prime p) (h:¬ p∣a):Nat.Coprime p a:=by
 rcases hp.2 (Nat.gcd p a) (Nat.gcd_dvd_left _ _) with e | e
 ·exact e
 ·exact absurd (e▸Nat.gcd_dvd_right p a) h
theorem Prime.dvd_mul {p a b:Nat} (hp:Prime p) (h:p∣a*b):p∣a∨p∣b:=by
 by_cases ha:p∣a
 ·exact .inl ha
 ·exact .inr ((hp.coprime ha).dvd_of_dvd_mul_left h)
theorem QR {a b n:Nat} (h:a % n=b % n) (hle:b≤a):n∣a-b:=by
 have h1:=Nat.div_add_mod a n
 have h2:=Nat.div_add_mod b n
 exact ⟨a / n-b / n,by rw [Nat.mul_sub];omega⟩
theorem ADw {a b n:Nat} (h:n∣a-b) (hle:b≤a):a % n=b % n:=by
 obtain ⟨k,hk⟩:=h
 have:a=b+n*k:=by omega
 rw [this,Nat.add_mul_mod_self_left]
def Ay:List Nat→Nat
 | []=>1
 | x::l=>x*Ay l
theorem ADx {l m:List Nat} (h:l.Perm m):Ay l=Ay m:=by
 induction h with
 | nil=>rfl
 | cons x _ ih=>simp [Ay,ih]
 | swap x y l=>simp only [Ay];rw [Nat.mul_left_comm]
 | trans _ _ h1 h2=>exact h1.trans h2
theorem Y7:∀ {l m:List Nat},l.Nodup→(∀ x∈l,x∈m)→m.length≤l.length→l.Perm m
 | [],m,_,_,h=>by
  have:m=[]:=List.length_eq_zero_iff.1 (by simpa using h)
  subst this;exact .refl _
 | a::l,m,hn,hs,hlen=>by
  have ham:=hs a (by simp)
  have hp:=List.perm_cons_erase ham
  have hn':=List.nodup_cons.1 hn
  refine .trans (.cons a (Y7 hn'.2 (fun x hx=>?_) ?_)) hp.symm
  ·have:x≠a:=fun e=>hn'.1 (e▸hx)
   exact (List.mem_erase_of_ne this).2 (hs x (by simp [hx]))
  ·rw [List.length_erase_of_mem ham]
   simp at hlen;omega
theorem mZ (a p:Nat):∀ l:List Nat,Ay (l.map fun x=>a*x % p) % p=a^l.length*Ay l % p
 | []=>by simp [Ay]
 | x::l=>by
  simp only [List.map_cons,Ay,List.length_cons]
  rw [Nat.mul_mod,mZ a p l,Nat.mod_mod,← Nat.mul_mod,Nat.pow_succ]
  refine congrArg (· % p) ?_
  show a*x*(a^l.length*Ay l)=a^l.length*a*(x*Ay l)
  ac_rfl
theorem Y8 {p:Nat} (hp:Prime p):∀ {l:List Nat},(∀ x∈l,¬ p∣x)→¬ p∣Ay l
 | [],_,h=>by
  have:=Nat.le_of_dvd (by decide) h
  have:=hp.1
  simp only [Ay] at *;omega
 | x::l,hx,h=>by
  rcases hp.dvd_mul h with h | h
  ·exact hx x (by simp) h
  ·exact Y8 hp (fun y hy=>hx y (by simp [hy])) h
theorem OL {p a:Nat} (hp:Prime p) (ha:¬ p∣a):a^(p-1) % p=1:=by
 have h2:=hp.1
 have hL:∀ x,x∈List.range' 1 (p-1)↔1≤x∧x<p:=by intro x;rw [List.mem_range'_1];omega
 have hnd:∀ x∈List.range' 1 (p-1),¬ p∣x:=fun x hx hd=>by
  have:=(hL x).1 hx
  have:=Nat.le_of_dvd (by omega) hd
  omega
 have hperm:((List.range' 1 (p-1)).map fun x=>a*x % p).Perm (List.range' 1 (p-1)):=by
  refine Y7 ?_ ?_ (by simp)
  ·have hq:∀ {l:List Nat},l.Nodup→(∀ x∈l,1≤x∧x<p)→(l.map fun x=>a*x % p).Nodup:=by
    intro l
    induction l with
    | nil=>intro _ _;exact List.nodup_nil
    | cons x l ih =>
     intro hn hb
     have hn':=List.nodup_cons.1 hn
     rw [List.map_cons,List.nodup_cons]
     refine ⟨fun hm=>?_,ih hn'.2 fun y hy=>hb y (by simp [hy])⟩
     obtain ⟨y,hy,he⟩:=List.mem_map.1 hm
     have b1:=hb x (by simp)
     have b2:=hb y (by simp [hy])
     have hxy:x≠y:=fun e=>hn'.1 (e▸hy)
     rcases Nat.lt_or_ge x y with hlt | hge
     ·have:=QR (a:=a*y) (b:=a*x) he (Nat.mul_le_mul_left a (by omega))
      rw [← Nat.mul_sub] at this
      rcases hp.dvd_mul this with h | h
      ·exact ha h
      ·have:=Nat.le_of_dvd (by omega) h;omega
     ·have:=QR (a:=a*x) (b:=a*y) he.symm (Nat.mul_le_mul_left a (by omega))
      rw [← Nat.mul_sub] at this
      rcases hp.dvd_mul this with h | h
      ·exact ha h
      ·have:=Nat.le_of_dvd (by omega) h;omega
   exact hq List.nodup_range' fun x hx=>(hL x).1 hx
  ·intro y hy
   obtain ⟨x,hx,rfl⟩:=List.mem_map.1 hy
   have b:=(hL x).1 hx
   refine (hL _).2 ⟨?_,Nat.mod_lt _ (by omega)⟩
   rcases Nat.eq_zero_or_pos (a*x % p) with h | h
   ·rcases hp.dvd_mul (Nat.dvd_of_mod_eq_zero h) with h | h
    ·exact absurd h ha
    ·exact absurd h (hnd x hx)
   ·exact h
 have e:=mZ a p (List.range' 1 (p-1))
 rw [ADx hperm,List.length_range'] at e
 have hpos:1≤a^(p-1):=Nat.pow_pos (Nat.pos_of_ne_zero fun h=>ha (h▸Nat.dvd_zero p))
 have hd:=QR (a:=a^(p-1)*Ay (List.range' 1 (p-1))) (b:=Ay (List.range' 1 (p-1))) e.symm (Nat.le_mul_of_pos_left _ hpos)
 have:a^(p-1)*Ay (List.range' 1 (p-1))-Ay (List.range' 1 (p-1))=(a^(p-1)-1)*Ay (List.range' 1 (p-1)):=by rw [Nat.sub_mul,Nat.one_mul]
 rw [this] at hd
 rcases hp.dvd_mul hd with h | h
 ·rw [ADw h hpos,Nat.mod_eq_of_lt (by omega)]
 ·exact absurd h (Y8 hp hnd)
theorem exists_prime_dvd:∀ n,2≤n→∃ q,Prime q∧q∣n:=by
 intro n
 induction n using Nat.strongRecOn with
 | ind n ih =>
  intro h
  by_cases hp:Prime n
  ·exact ⟨n,hp,Nat.dvd_refl n⟩
  ·have:∃ d,d∣n∧d≠1∧d≠n:=Classical.byContradiction fun hno=>hp ⟨h,fun d hd=>Classical.byContradiction fun hd2=>hno ⟨d,hd,fun e=>hd2 (.inl e),fun e=>hd2 (.inr e)⟩⟩
   obtain ⟨d,hd,h1,h2⟩:=this
   have hle:=Nat.le_of_dvd (by omega) hd
   have h0:d≠0:=fun e=>by subst e;have:=Nat.eq_zero_of_zero_dvd hd;omega
   obtain ⟨q,hq,hqd⟩:=ih d (by omega) (by omega)
   exact ⟨q,hq,Nat.dvd_trans hqd hd⟩
theorem T4 {n:Nat} (h:2≤n) (hf:∀ q,Prime q→q∣n→n<q*q):Prime n:=by
 refine ⟨h,fun d hd=>?_⟩
 obtain ⟨e,rfl⟩:=hd
 by_cases h1:d=1
 ·exact .inl h1
 ·by_cases h2:e=1
  ·subst h2;exact .inr (by simp)
  ·exfalso
   have d0:d≠0:=fun e'=>by subst e';simp at h
   have e0:e≠0:=fun e'=>by subst e';simp at h
   obtain ⟨q,hq,hqd⟩:=exists_prime_dvd d (by omega)
   obtain ⟨r,hr,hre⟩:=exists_prime_dvd e (by omega)
   have a1:=hf q hq (Nat.dvd_mul_right_of_dvd hqd e)
   have a2:=hf r hr (Nat.dvd_mul_left_of_dvd hre d)
   have b1:=Nat.le_of_dvd (by omega) hqd
   have b2:=Nat.le_of_dvd (by omega) hre
   rcases Nat.lt_or_ge d e with hlt | hge
   ·have:=Nat.mul_le_mul b1 b1
    have:=Nat.mul_le_mul_left d (Nat.le_of_lt hlt)
    omega
   ·have:=Nat.mul_le_mul b2 b2
    have:=Nat.mul_le_mul_right e hge
    omega
theorem ADy {r x m:Nat} (h:x^m % r=1 % r) (k:Nat):x^(m*k) % r=1 % r:=by
 rw [Nat.pow_mul,Nat.pow_mod,h,← Nat.pow_mod,Nat.one_pow]
theorem ADz {r x:Nat}:∀ (m n:Nat),x^m % r=1 % r→x^n % r=1 % r→x^(Nat.gcd m n) % r=1 % r:=by
 intro m n
 induction m,n using Nat.gcd.induction with
 | H0 n=>intro _ h;rwa [Nat.gcd_zero_left]
 | H1 m n hm ih =>
  intro h1 h2
  rw [Nat.gcd_rec]
  refine ih ?_ h1
  have e:=Nat.div_add_mod n m
  rw [← e,Nat.pow_add,Nat.mul_mod,ADy h1,← Nat.mul_mod,Nat.one_mul] at h2
  exact h2
theorem T5 {N q h a r:Nat} (hN:N=h*q+1) (hq:Prime q) (h1:a^(N-1) % N=1) (h2:Nat.gcd (a^h % N+N-1) N=1) (hr:Prime r) (hrN:r∣N):q∣r-1:=by
 have hr2:=hr.1
 have e1:(a^h)^q % r=1 % r:=by
  rw [← Nat.pow_mul,show h*q=N-1 by omega,← Nat.mod_mod_of_dvd _ hrN,h1]
 have hN1:1≤N:=by omega
 have e2:a^h % r≠1:=fun e=>by
  have hd:r∣a^h % N+N-1:=by
   refine Nat.dvd_of_mod_eq_zero ?_
   have:(a^h % N+N-1+1) % r=1 % r:=by
    rw [Nat.sub_add_cancel (by omega),Nat.add_mod,Nat.mod_mod_of_dvd _ hrN,e,Nat.mod_eq_zero_of_dvd hrN,Nat.add_zero]
   have:=QR this (by omega)
   exact Nat.mod_eq_zero_of_dvd (by simpa using this)
  have:=Nat.dvd_gcd hd hrN
  rw [h2] at this
  have:=Nat.le_of_dvd (by decide) this
  omega
 have hnd:¬ r∣a^h:=fun hd=>by
  have:r∣(a^h)^q:=by
   obtain ⟨k,hk⟩:=hd
   have hq2:=hq.1
   obtain ⟨j,rfl⟩:∃ j,q=j+1:=⟨q-1,by omega⟩
   exact ⟨(a^h)^j*k,by rw [Nat.pow_succ,Nat.mul_left_comm,← hk]⟩
  rw [Nat.mod_eq_zero_of_dvd this,Nat.mod_eq_of_lt (by omega)] at e1
  cases e1
 have e3:=OL hr hnd
 by_cases hd:q∣r-1
 ·exact hd
 ·exfalso
  have hc:=hq.coprime hd
  have:=ADz q (r-1) e1 (by rw [e3,Nat.mod_eq_of_lt (by omega)])
  rw [hc,Nat.pow_one,Nat.mod_eq_of_lt (a:=1) (by omega)] at this
  exact e2 this
theorem AD0 {N q h a:Nat} (hN:N=h*q+1) (hq:Prime q) (hh:h<q) (h0:0<h) (h1:a^(N-1) % N=1) (h2:Nat.gcd (a^h % N+N-1) N=1):Prime N:=by
 have hq2:=hq.1
 have hpos:1*1≤h*q:=Nat.mul_le_mul h0 (by omega)
 refine T4 (by omega) fun r hr hrN=>?_
 have:=Nat.le_of_dvd (by have:=hr.1;omega) (T5 hN hq h1 h2 hr hrN)
 have hle:q+1≤r:=by have:=hr.1;omega
 have:=Nat.mul_le_mul hle hle
 have h3:h*q≤q*q:=Nat.mul_le_mul_right q (by omega)
 rw [Nat.succ_mul,Nat.mul_succ] at this
 omega
theorem AD1 {N q h a q' h' a':Nat} (hN:N=h*q+1) (hq:Prime q) (h1:a^(N-1) % N=1) (h2:Nat.gcd (a^h % N+N-1) N=1) (hN':N=h'*q'+1) (hq':Prime q') (h1':a'^(N-1) % N=1) (h2':Nat.gcd (a'^h' % N+N-1) N=1)
  (hne:q<q') (hbig:N<(q*q'+1)*(q*q'+1)) (hN2:2≤N):Prime N:=by
 refine T4 hN2 fun r hr hrN=>?_
 have d1:=T5 hN hq h1 h2 hr hrN
 have d2:=T5 hN' hq' h1' h2' hr hrN
 have hc:Nat.Coprime q q':=hq.coprime fun hd=>by
  rcases hq'.2 q hd with e | e
  ·have:=hq.1;omega
  ·omega
 have:=Nat.le_of_dvd (by have:=hr.1;omega) (hc.mul_dvd_of_dvd_of_dvd d1 d2)
 have hle:q*q'+1≤r:=by have:=hr.1;omega
 exact Nat.lt_of_lt_of_le hbig (Nat.mul_le_mul hle hle)
def QS (n:Nat):Nat→Nat→Bool
 | 0,_=>true
 | f+1,d=>match n % d with
  | 0=>false
  | _+1=>QS n f (d+1)
theorem m6 (n:Nat):∀ (f d:Nat),QS n f d=true→∀ e,d≤e→e<d+f→¬ e∣n
 | 0,d,_,e,h1,h2=>by omega
 | f+1,d,h,e,h1,h2=>by
  unfold QS at h
  split at h
  ·cases h
  ·rename_i k hk
   rcases Nat.eq_or_lt_of_le h1 with rfl | hlt
   ·intro hd;rw [Nat.mod_eq_zero_of_dvd hd] at hk;cases hk
   ·exact m6 n f (d+1) h e (by omega) (by omega)
theorem AD2 {n f:Nat} (h2:2≤n) (h:QS n f 2=true) (hb:n<(f+2)*(f+2)):Prime n:=by
 refine T4 h2 fun q hq hd=>?_
 rcases Nat.lt_or_ge q (f+2) with hlt | hge
 ·exact absurd hd (m6 n f 2 h q hq.1 (by omega))
 ·exact Nat.lt_of_lt_of_le hb (Nat.mul_le_mul hge hge)
def K3 (m x:Nat):Nat→Nat→Nat
 | 0,_=>1 % m
 | f+1,e=>(match e % 2 with
  | 0=>K3 m (x*x % m) f (e / 2)
  | _=>x*K3 m (x*x % m) f (e / 2) % m)
theorem Y9 (m:Nat):∀ (f x e:Nat),e<2^f→K3 m x f e=x^e % m
 | 0,x,e,h=>by
  have:e=0:=by simpa using h
  subst this;rfl
 | f+1,x,e,h=>by
  have ih:=Y9 m f (x*x % m) (e / 2) (by rw [Nat.pow_succ] at h;omega)
  have h2:(x*x % m)^(e / 2) % m=x^(2*(e / 2)) % m:=by
   rw [← Nat.pow_mod,Nat.pow_mul,Nat.pow_two]
  unfold K3
  rcases Nat.mod_two_eq_zero_or_one e with h0 | h1
  ·rw [h0]
   show K3 m (x*x % m) f (e / 2)=_
   rw [ih,h2,show 2*(e / 2)=e by omega]
  ·rw [h1]
   show x*K3 m (x*x % m) f (e / 2) % m=_
   rw [ih,h2,Nat.mul_mod,Nat.mod_mod,← Nat.mul_mod,← Nat.pow_succ',show (2*(e / 2)).succ=e by omega]
def MV (N q h a f:Nat):Bool:=Nat.beq N (h*q+1)&&(Nat.ble (N-1+1) (2^f)&&(Nat.beq (K3 N a f (N-1)) 1&&Nat.beq (Nat.gcd (K3 N a f h+N-1) N) 1))
theorem T6 {N q h a f:Nat} (h0:MV N q h a f=true) (hq:0<q):N=h*q+1∧a^(N-1) % N=1∧Nat.gcd (a^h % N+N-1) N=1:=by
 unfold MV at h0
 simp only [Bool.and_eq_true] at h0
 obtain ⟨c1,c2,c3,c4⟩:=h0
 have e1:=Nat.eq_of_beq_eq_true c1
 have e2:=Nat.le_of_ble_eq_true c2
 have e3:=Nat.eq_of_beq_eq_true c3
 have e4:=Nat.eq_of_beq_eq_true c4
 have hle:h*1≤h*q:=Nat.mul_le_mul_left h hq
 rw [Y9 N f a _ (by omega)] at e3
 rw [Y9 N f a _ (by omega)] at e4
 exact ⟨e1,e3,e4⟩
end Go.Proofs.YtojnabmgolpodaaGreat.Num
namespace Go.Proofs.YtojnabmgolpodaaGreat.Num
set_option maxRecDepth 100000
set_option maxHeartbeats 4000000
theorem E3 {n f:Nat} (h:(Nat.ble 2 n&&(QS n f 2&&Nat.blt n ((f+2)*(f+2))))=true):Prime n:=by
 simp only [Bool.and_eq_true] at h
 exact AD2 (Nat.le_of_ble_eq_true h.1) h.2.1 (Nat.le_of_ble_eq_true h.2.2)
theorem GU {N q h a f:Nat} (hq:Prime q) (hb:(MV N q h a f&&(Nat.blt h q&&Nat.blt 0 h))=true):Prime N:=by
 simp only [Bool.and_eq_true] at hb
 have hq2:=hq.1
 obtain ⟨e1,e2,e3⟩:=T6 hb.1 (by omega)
 exact AD0 e1 hq (Nat.le_of_ble_eq_true hb.2.1) (Nat.le_of_ble_eq_true hb.2.2) e2 e3
theorem AD3:Prime 421987:=E3 (f:=650) (by kernel_rfl)
theorem AD4:Prime 755057:=E3 (f:=870) (by kernel_rfl)
theorem AD5:Prime 13090036741:=GU (q:=421987) (h:=31020) (a:=2) (f:=64) AD3 (by kernel_rfl)
theorem AD6 {N q h a q' h' a' f:Nat} (hq:Prime q) (hq':Prime q') (hb:(MV N q h a f&&(MV N q' h' a' f&&(Nat.blt q q'&&(Nat.blt N ((q*q'+1)*(q*q'+1))&&Nat.ble 2 N))))=true):Prime N:=by
 simp only [Bool.and_eq_true] at hb
 obtain ⟨b1,b2,b3,b4,b5⟩:=hb
 have hq2:=hq.1
 have hq2':=hq'.1
 obtain ⟨e1,e2,e3⟩:=T6 b1 (by omega)
 obtain ⟨d1,d2,d3⟩:=T6 b2 (by omega)
 exact AD1 e1 hq e2 e3 d1 hq' d2 d3 (Nat.le_of_ble_eq_true b3) (Nat.le_of_ble_eq_true b4) (Nat.le_of_ble_eq_true b5)
theorem AD7:Prime 3819663927398918131021:=AD6 (h:=(3819663927398918131021-1) / 755057) (a:=2) (h':=(3819663927398918131021-1) / 13090036741) (a':=2) (f:=128) AD4 AD5 (by kernel_rfl)
theorem AD8:Prime 1125266252156850182658904441386709967:=GU (h:=294598235223046) (a:=2) (f:=128) AD7 (by kernel_rfl)
theorem prQ:Prime 15778400344354997994418419698270088123916926905054652752758194827714659:=GU (h:=14021926201120671579994175730661374) (a:=2) (f:=256) AD8 (by kernel_rfl)
theorem prp:Prime 4002409555221667393417789825735904156556882819939007885332058136124031650490837864442687629129015664037894272559787:=GU (h:=253663835868735594330404923636534084567099854) (a:=2) (f:=384) prQ (by kernel_rfl)
theorem AD' {p x y:Nat} (hp:Prime p) (hx:x<p) (hy:y<p) (h:x*x % p=y*y % p):x=y∨x+y=p:=by
 have gen:∀ {x y:Nat},x<p→y≤x→x*x % p=y*y % p→x=y∨x+y=p:=by
  intro x y hx hle h
  have hd:=QR h (Nat.mul_le_mul hle hle)
  have e:x*x-y*y=(x+y)*(x-y):=Nat.mul_self_sub_mul_self_eq x y
  rw [e] at hd
  rcases hp.dvd_mul hd with h1 | h1
  ·rcases Nat.eq_zero_or_pos (x+y) with h0 | h0
   ·left;omega
   ·obtain ⟨k,hk⟩:=h1
    right
    have:k=1:=by
     rcases Nat.lt_or_ge k 2 with h2 | h2
     ·rcases Nat.eq_zero_or_pos k with h3 | h3
      ·subst h3;omega
      ·omega
     ·have:=Nat.mul_le_mul_left p h2;omega
    subst this;omega
  ·left
   rcases Nat.eq_zero_or_pos (x-y) with h0 | h0
   ·omega
   ·have:=Nat.le_of_dvd h0 h1;omega
 rcases Nat.lt_or_ge x y with h1 | h1
 ·rcases gen hy (Nat.le_of_lt h1) h.symm with e | e
  ·exact .inl e.symm
  ·exact .inr (by omega)
 ·exact gen hx h1 h
theorem AEA {p x:Nat} (hp:Prime p) (h2:2<p) (h:x*x % p=1):x % p=1∨x % p=p-1:=by
 have h':x % p*(x % p) % p=1*1 % p:=by rw [← Nat.mul_mod,h,Nat.mul_one,Nat.mod_eq_of_lt (by omega)]
 rcases AD' hp (Nat.mod_lt x (by omega)) (show 1<p by omega) h' with e | e
 ·exact .inl e
 ·exact .inr (by omega)
theorem m7 {p a:Nat} (hp:Prime p) (h2:2<p) (hodd:p % 2=1) (ha:¬ p∣a):a^((p-1) / 2) % p=1∨a^((p-1) / 2) % p=p-1:=by
 refine AEA hp h2 ?_
 rw [← Nat.pow_two,← Nat.pow_mul,show (p-1) / 2*2=p-1 by omega]
 exact OL hp ha
theorem AEB {p a:Nat} (h4:p % 4=3):a^((p+1) / 4) % p*(a^((p+1) / 4) % p) % p=a*(a^((p-1) / 2)) % p:=by
 rw [← Nat.mul_mod,← Nat.pow_add,← Nat.pow_succ']
 congr 2
 omega
theorem AEC {p a:Nat} (hp:0<p):a*(p-1) % p=(p-a % p) % p:=by
 have h1:(a*(p-1)+a) % p=0:=by
  have:a*(p-1)+a=a*p:=by
   have:=Nat.mul_sub a p 1
   have h2:a*1≤a*p:=Nat.mul_le_mul_left a hp
   omega
  rw [this,Nat.mul_mod_left]
 have hl:=Nat.mod_lt a hp
 have hl2:=Nat.mod_lt (a*(p-1)) hp
 have h3:(a*(p-1) % p+a % p) % p=0:=by rw [← Nat.add_mod];exact h1
 have h4:=Nat.div_add_mod (a*(p-1) % p+a % p) p
 rw [h3] at h4
 rcases Nat.eq_zero_or_pos (a % p) with h0 | h0
 ·rw [h0] at h4 ⊢
  have:(a*(p-1) % p+0) / p=0:=Nat.div_eq_of_lt (by omega)
  rw [this] at h4
  rw [Nat.sub_zero,Nat.mod_self];omega
 ·rw [Nat.mod_eq_of_lt (a:=p-a % p) (by omega)]
  have:(a*(p-1) % p+a % p) / p=1:=by
   have l1:(a*(p-1) % p+a % p) / p<2:=Nat.div_lt_of_lt_mul (by omega)
   rcases Nat.eq_zero_or_pos ((a*(p-1) % p+a % p) / p) with e | e
   ·rw [e] at h4;omega
   ·omega
  rw [this] at h4;omega
theorem AED {p a:Nat} (hp:Prime p) (h4:p % 4=3) (ha:¬ p∣a):a^((p+1) / 4) % p*(a^((p+1) / 4) % p) % p=a % p↔a^((p-1) / 2) % p=1:=by
 have h2:2<p:=by omega
 have hz:a % p≠0:=fun h=>ha (Nat.dvd_of_mod_eq_zero h)
 have hlt:=Nat.mod_lt a (show 0<p by omega)
 rw [AEB h4,Nat.mul_mod]
 rcases m7 hp h2 (by omega) ha with h | h
 ·rw [h,Nat.mul_one,Nat.mod_mod];simp
 ·rw [h,AEC (by omega),Nat.mod_mod,Nat.mod_eq_of_lt (a:=p-a % p) (by omega)]
  constructor
  ·intro h3;omega
  ·intro h3;omega
theorem AEE (p a b e:Nat):(a*b % p)^e % p=(a^e % p)*(b^e % p) % p:=by
 rw [← Nat.pow_mod,Nat.mul_pow,Nat.mul_mod]
end Go.Proofs.YtojnabmgolpodaaGreat.Num
namespace Go.Proofs.YtojnabmgolpodaaGreat.Num
section
variable {p:Nat} [NeZero p]
def CT (p:Nat) [NeZero p] (x:Nat):Fin p:=Fin.ofNat p x
theorem HM (x:Nat):(CT p x).val=x % p:=rfl
theorem T7 {x y:Nat}:CT p x=CT p y↔x % p=y % p:=by
 rw [Fin.ext_iff,HM,HM]
theorem m8 (x:Nat):CT p (x % p)=CT p x:=by rw [T7,Nat.mod_mod]
theorem m9 (x y:Nat):CT p (x+y)=CT p x+CT p y:=by
 rw [Fin.ext_iff,Fin.val_add,HM,HM,HM,← Nat.add_mod]
theorem nA (x y:Nat):CT p (x*y)=CT p x*CT p y:=by
 rw [Fin.ext_iff,Fin.val_mul,HM,HM,HM,← Nat.mul_mod]
theorem nC:CT p 0=0:=by rw [Fin.ext_iff,HM];simp
theorem AEF:CT p 1=1:=rfl
theorem nF:CT p p=0:=by rw [Fin.ext_iff,HM];simp
theorem Y_ {x y:Nat} (h:y≤x):CT p (x-y)=CT p x-CT p y:=by
 have:CT p (x-y)+CT p y=CT p x:=by rw [← m9,Nat.sub_add_cancel h]
 rw [← this];grind
theorem AEG (x:Nat):CT p (p-x % p)=- CT p x:=by
 have hp:0<p:=Nat.pos_of_ne_zero (NeZero.ne p)
 rw [Y_ (Nat.le_of_lt (Nat.mod_lt x hp)),nF,m8];grind
theorem Y' {x:Nat}:CT p x=0↔p∣x:=by
 rw [← nC,T7,Nat.zero_mod]
 exact ⟨Nat.dvd_of_mod_eq_zero,Nat.mod_eq_zero_of_dvd⟩
theorem AEH {x y:Nat} (hx:x<p) (hy:y<p) (h:CT p x=CT p y):x=y:=by
 have:=T7.1 h
 rwa [Nat.mod_eq_of_lt hx,Nat.mod_eq_of_lt hy] at this
theorem AEI (hp:Prime p) {a b:Fin p} (h:a*b=0):a=0∨b=0:=by
 have e:∀ x:Fin p,CT p x.val=x:=fun x=>by rw [Fin.ext_iff,HM,Nat.mod_eq_of_lt x.isLt]
 rw [← e a,← e b,← nA,Y'] at h
 rw [← e a,← e b,Y',Y']
 exact hp.dvd_mul h
end
end Go.Proofs.YtojnabmgolpodaaGreat.Num
namespace Go.Proofs.YtojnabmgolpodaaGreat.Num
set_option maxRecDepth 100000
set_option maxHeartbeats 4000000
theorem nG {m:Nat}:∀ {l:List Nat},(∀ q∈l,Prime q)→l.Nodup→(∀ q∈l,q∣m)→Ay l∣m
 | [],_,_,_=>Nat.one_dvd m
 | q::l,hp,hn,hd=>by
  obtain ⟨h1,h2⟩:=List.nodup_cons.1 hn
  have hq:=hp q (by simp)
  have hc:Nat.Coprime q (Ay l):=hq.coprime (Y8 hq fun x hx e=>by
   rcases (hp x (by simp [hx])).2 q e with e | e
   ·have:=hq.1;omega
   ·exact h1 (e▸hx))
  exact hc.mul_dvd_of_dvd_of_dvd (hd q (by simp)) (nG (fun x hx=>hp x (by simp [hx])) h2 fun x hx=>hd x (by simp [hx]))
def ZA (N a f:Nat):List Nat→Bool
 | []=>true
 | q::l=>MV N q ((N-1) / q) a f&&ZA N a f l
theorem nJ {N a f:Nat}:∀ {l:List Nat},ZA N a f l=true→∀ q∈l,MV N q ((N-1) / q) a f=true
 | [],_,_,h=>by cases h
 | x::l,h,q,hq=>by
  have h':=Bool.and_eq_true_iff.1 h
  rcases List.mem_cons.1 hq with rfl | hq
  ·exact h'.1
  ·exact nJ h'.2 q hq
theorem nK {N a f:Nat} {l:List Nat} (hl:∀ q∈l,Prime q) (hn:l.Nodup) (hb:(ZA N a f l&&(Nat.blt N ((Ay l+1)*(Ay l+1))&&Nat.ble 2 N))=true):Prime N:=by
 simp only [Bool.and_eq_true] at hb
 obtain ⟨b1,b2,b3⟩:=hb
 have hN2:=Nat.le_of_ble_eq_true b3
 refine T4 hN2 fun r hr hrN=>?_
 have hd:Ay l∣r-1:=nG hl hn fun q hq=>by
  have:=(hl q hq).1
  obtain ⟨e1,e2,e3⟩:=T6 (nJ b1 q hq) (by omega)
  exact T5 e1 (hl q hq) e2 e3 hr hrN
 have hr2:=hr.1
 have:=Nat.le_of_dvd (by omega) hd
 have hle:Ay l+1≤r:=by omega
 exact Nat.lt_of_lt_of_le (Nat.le_of_ble_eq_true b2) (Nat.mul_le_mul hle hle)
theorem AEJ:Prime 254760293:=E3 (f:=15962) (by kernel_rfl)
theorem AEK:Prime 52437899:=E3 (f:=7242) (by kernel_rfl)
theorem AEL:Prime 2529403:=E3 (f:=1591) (by kernel_rfl)
theorem AEM:Prime 2508409:=E3 (f:=1584) (by kernel_rfl)
theorem AEN:Prime 906349:=E3 (f:=953) (by kernel_rfl)
theorem AEO:Prime 859267:=E3 (f:=927) (by kernel_rfl)
theorem prR:Prime 0x73eda753299d7d483339d80809a1d80553bda402fffe5bfeffffffff00000001 :=
 nK (a:=2) (f:=255) (l:=[254760293,52437899,2529403,2508409,906349,859267])
  (by
   intro q hq
   simp only [List.mem_cons,List.not_mem_nil,or_false] at hq
   rcases hq with rfl | rfl | rfl | rfl | rfl | rfl
   ·exact AEJ
   ·exact AEK
   ·exact AEL
   ·exact AEM
   ·exact AEN
   ·exact AEO)
  (by decide) (by kernel_rfl)
theorem AEQ:Prime 1367711:=E3 (f:=1170) (by kernel_rfl)
theorem AER:Prime 541:=E3 (f:=30) (by kernel_rfl)
theorem AES:Prime 12192593745179 :=
 nK (a:=2) (f:=64) (l:=[1367711,541])
  (by
   intro q hq
   simp only [List.mem_cons,List.not_mem_nil,or_false] at hq
   rcases hq with rfl | rfl
   ·exact AEQ
   ·exact AER)
  (by decide) (by kernel_rfl)
theorem AET:Prime 512088937297519:=GU (q:=12192593745179) (h:=42) (a:=2) (f:=64) AES (by kernel_rfl)
theorem AEU:Prime 1857858664515398933:=GU (q:=512088937297519) (h:=3628) (a:=2) (f:=64) AET (by kernel_rfl)
theorem AEV:Prime 22294303974184787197:=GU (q:=1857858664515398933) (h:=12) (a:=2) (f:=128) AEU (by kernel_rfl)
theorem AEW:Prime 19931107752921199754119:=GU (q:=22294303974184787197) (h:=894) (a:=2) (f:=128) AEV (by kernel_rfl)
theorem AEX:Prime 81162125843606155545104998607900118769099783:=GU (q:=19931107752921199754119) (h:=4072133212551150901578) (a:=2) (f:=192) AEW (by kernel_rfl)
theorem AEY:Prime 26935696298915610574513298451669528361624243820491956655650666425177:=GU (q:=81162125843606155545104998607900118769099783) (h:=331875194481953911837672) (a:=2) (f:=256) AEX (by kernel_rfl)
theorem AEZ:Prime 4638704574076146691498289350639807119782054683906549022985642612861209609656189848749536921852444848596916990932297:=GU (q:=26935696298915610574513298451669528361624243820491956655650666425177) (h:=172214021222941014338396330402661971150362189448) (a:=2) (f:=384) AEY (by kernel_rfl)
theorem prT:Prime 402096035359507321594726366720466575392706800671181159425656785868777272553337714697862511267018014931937703598282857976535744623203249:=GU (q:=4638704574076146691498289350639807119782054683906549022985642612861209609656189848749536921852444848596916990932297) (h:=86682828996409959984) (a:=2) (f:=448) AEZ (by kernel_rfl)
end Go.Proofs.YtojnabmgolpodaaGreat.Num
namespace Go.Proofs.YtojnabmgolpodaaGreat
open Ex Num
set_option maxRecDepth 100000
set_option maxHeartbeats 4000000
theorem pN_prime:Num.Prime pN:=prp
theorem pN4:pN % 4=3:=by kernel_rfl
theorem nL:2<pN:=by decide
theorem AEc:QN=(pN+1) / 4:=by kernel_rfl
noncomputable def JB (a:Nat):Nat:=a^((pN-1) / 2) % pN
theorem nM {a:Nat}:pN∣a↔a % pN=0:=⟨Nat.mod_eq_zero_of_dvd,Nat.dvd_of_mod_eq_zero⟩
theorem nN {a:Nat} (h:a % pN≠0):B9 a=true↔JB a=1:=by
 unfold B9 Ag JB
 rw [Ku,AEc,decide_eq_true_eq]
 exact AED pN_prime pN4 fun hd=>h (nM.1 hd)
theorem AEd {a:Nat} (h:a % pN=0):B9 a=true:=by
 unfold B9 Ag
 rw [Ku,decide_eq_true_eq,Nat.pow_mod,h,Nat.zero_pow (by decide)]
 rfl
theorem nO {a:Nat} (h:a % pN≠0):JB a=1∨JB a=pN-1:=m7 pN_prime nL QQ fun hd=>h (nM.1 hd)
theorem AEe (a b:Nat):JB (Ag a b)=JB a*JB b % pN:=AEE pN a b _
theorem ZB {a:Nat} (h:a % pN≠0):B9 a=decide (JB a=1):=by
 have:=nN h
 cases hb:B9 a with
 | true=>rw [decide_eq_true (this.1 hb)]
 | false=>rw [decide_eq_false fun e=>by rw [this.2 e] at hb;cases hb]
theorem mm:(pN-1)*(pN-1) % pN=1:=by kernel_rfl
theorem m1:(pN-1)*1 % pN=pN-1:=by kernel_rfl
theorem m1':1*(pN-1) % pN=pN-1:=by kernel_rfl
theorem AEg {a b:Nat} (h:Ag a b≠0):a % pN≠0∧b % pN≠0:=by
 constructor
 ·intro e;apply h;unfold Ag;rw [Nat.mul_mod,e,Nat.zero_mul,Nat.zero_mod]
 ·intro e;apply h;unfold Ag;rw [Nat.mul_mod,e,Nat.mul_zero,Nat.zero_mod]
theorem OM (a b:Nat):Ag a b<pN:=Nat.mod_lt _ Cp
theorem AEh {a b:Nat} (h:Ag a b≠0):B9 (Ag a b)=(B9 a==B9 b):=by
 obtain ⟨ha,hb⟩:=AEg h
 rw [ZB (by rw [Nat.mod_eq_of_lt (OM a b)];exact h),ZB ha,ZB hb,AEe]
 rcases nO ha with e | e<;>rcases nO hb with e' | e'<;>rw [e,e']
 ·rfl
 ·rw [m1'];rfl
 ·rw [m1];rfl
 ·rw [mm];rfl
theorem neg_sq {v:Nat} (hl:v<pN):(pN-v)*(pN-v) % pN=v*v % pN:=by
 obtain ⟨u,hu⟩:∃ u,pN=u+v:=⟨pN-v,by omega⟩
 rw [show pN-v=u by omega]
 have e:u*u+v*pN=v*v+u*pN:=by rw [hu,Nat.mul_add,Nat.mul_add,Nat.mul_comm v u];omega
 have h1:(u*u+v*pN) % pN=u*u % pN:=Nat.add_mul_mod_self_right _ _ _
 have h2:(v*v+u*pN) % pN=v*v % pN:=Nat.add_mul_mod_self_right _ _ _
 rw [← h1,e,h2]
theorem AEi (w:Nat):Ag (GR w) (GR w)=Ag w w:=by
 unfold GR
 split
 ·unfold Ag Df
  rw [← Nat.mul_mod]
  by_cases h:w % pN=0
  ·rw [h,Nat.sub_zero,Nat.mul_mod pN,Nat.mod_self,Nat.mul_mod w,h]
  ·have e:(pN-w % pN)*(pN-w % pN) % pN=(w % pN)*(w % pN) % pN:=by
    have hl:=H7 w
    generalize w % pN=v at *
    exact neg_sq hl
   rw [e,← Nat.mul_mod]
 ·rfl
theorem AEj {w:Nat} (h:w<pN):GR w % 2=0∧GR w<pN:=by
 have ho:=QQ
 unfold GR
 split
 ·rename_i hs
  have h1:w % 2=1:=by unfold FF at hs;rw [Nat.mod_eq_of_lt h] at hs;omega
  have hz:w % pN≠0:=by rw [Nat.mod_eq_of_lt h];omega
  rw [ADv hz,Nat.mod_eq_of_lt h];omega
 ·rename_i hs
  have h1:w % 2≠1:=fun e=>by apply hs;unfold FF;rw [Nat.mod_eq_of_lt h];omega
  omega
theorem nP (a e:Nat):Eh a e<pN:=by rw [Ku];exact Nat.mod_lt _ Cp
theorem ZC {a:Nat} (h:B9 a=true):Ag (DC a) (DC a)=a % pN∧DC a % 2=0∧DC a<pN:=by
 have e:DC a=GR (Eh a QN):=by unfold DC;rw [if_pos h]
 obtain ⟨q1,q2⟩:=AEj (nP a QN)
 rw [e,AEi]
 refine ⟨?_,q1,q2⟩
 unfold B9 at h
 exact of_decide_eq_true h
end Go.Proofs.YtojnabmgolpodaaGreat
namespace Go.Proofs.YtojnabmgolpodaaGreat
open Ex
set_option maxRecDepth 100000
set_option maxHeartbeats 4000000
def lenL:List UInt8:=[0,1]++(List.replicate 2 2++(List.replicate 4 3++(List.replicate 8 4++(List.replicate 16 5++(List.replicate 32 6++(List.replicate 64 7++List.replicate 128 8))))))
def lenT:ByteArray:=⟨⟨lenL⟩⟩
def A1 (x:Int) (k:Nat):Int:=Int.fdiv x (2^k)
theorem AEk (x:Int):AX Tryz.prog (AJ S5 K0) Tryz.f339 [.val false [.v (.int .u64 x)]] [true,true,true] 100 =
 some ([(decide (4294967296≤x),true),(decide (0≤(32:Int)∧0≤x),true),(decide (65536≤(A1 x 32)),true),(decide (0≤(16:Int)∧0≤(A1 x 32)),true),(decide (256≤(A1 (A1 x 32) 16)),true),(decide (0≤(8:Int)∧0≤(A1 (A1 x 32) 16)),true),(decide (0≤AS false .u8 (A1 (A1 (A1 x 32) 16) 8)∧AS false .u8 (A1 (A1 (A1 x 32) 16) 8)<(lenT.size:Int)),true)],DB (AS false .i64 (AS true .i64 (AS true .i64 (32+16)+8)+AS false .i64 (EB lenT (AS false .u8 (A1 (A1 (A1 x 32) 16) 8)))))):=by kernel_rfl
theorem AEl (x:Int):AX Tryz.prog (AJ S5 K0) Tryz.f339 [.val false [.v (.int .u64 x)]] [true,true,false] 100 =
 some ([(decide (4294967296≤x),true),(decide (0≤(32:Int)∧0≤x),true),(decide (65536≤(A1 x 32)),true),(decide (0≤(16:Int)∧0≤(A1 x 32)),true),(decide (256≤(A1 (A1 x 32) 16)),false),(decide (0≤AS false .u8 (A1 (A1 x 32) 16)∧AS false .u8 (A1 (A1 x 32) 16)<(lenT.size:Int)),true)],DB (AS false .i64 (AS true .i64 (32+16)+AS false .i64 (EB lenT (AS false .u8 (A1 (A1 x 32) 16)))))):=by kernel_rfl
theorem AEm (x:Int):AX Tryz.prog (AJ S5 K0) Tryz.f339 [.val false [.v (.int .u64 x)]] [true,false,true] 100 =
 some ([(decide (4294967296≤x),true),(decide (0≤(32:Int)∧0≤x),true),(decide (65536≤(A1 x 32)),false),(decide (256≤(A1 x 32)),true),(decide (0≤(8:Int)∧0≤(A1 x 32)),true),(decide (0≤AS false .u8 (A1 (A1 x 32) 8)∧AS false .u8 (A1 (A1 x 32) 8)<(lenT.size:Int)),true)],DB (AS false .i64 (AS true .i64 (32+8)+AS false .i64 (EB lenT (AS false .u8 (A1 (A1 x 32) 8)))))):=by kernel_rfl
theorem AEn (x:Int):AX Tryz.prog (AJ S5 K0) Tryz.f339 [.val false [.v (.int .u64 x)]] [true,false,false] 100 =
 some ([(decide (4294967296≤x),true),(decide (0≤(32:Int)∧0≤x),true),(decide (65536≤(A1 x 32)),false),(decide (256≤(A1 x 32)),false),(decide (0≤AS false .u8 (A1 x 32)∧AS false .u8 (A1 x 32)<(lenT.size:Int)),true)],DB (AS false .i64 (32+AS false .i64 (EB lenT (AS false .u8 (A1 x 32)))))):=by kernel_rfl
theorem AEo (x:Int):AX Tryz.prog (AJ S5 K0) Tryz.f339 [.val false [.v (.int .u64 x)]] [false,true,true] 100 =
 some ([(decide (4294967296≤x),false),(decide (65536≤x),true),(decide (0≤(16:Int)∧0≤x),true),(decide (256≤(A1 x 16)),true),(decide (0≤(8:Int)∧0≤(A1 x 16)),true),(decide (0≤AS false .u8 (A1 (A1 x 16) 8)∧AS false .u8 (A1 (A1 x 16) 8)<(lenT.size:Int)),true)],DB (AS false .i64 (AS true .i64 (AS true .i64 (0+16)+8)+AS false .i64 (EB lenT (AS false .u8 (A1 (A1 x 16) 8)))))):=by kernel_rfl
theorem AEp (x:Int):AX Tryz.prog (AJ S5 K0) Tryz.f339 [.val false [.v (.int .u64 x)]] [false,true,false] 100 =
 some ([(decide (4294967296≤x),false),(decide (65536≤x),true),(decide (0≤(16:Int)∧0≤x),true),(decide (256≤(A1 x 16)),false),(decide (0≤AS false .u8 (A1 x 16)∧AS false .u8 (A1 x 16)<(lenT.size:Int)),true)],DB (AS false .i64 (AS true .i64 (0+16)+AS false .i64 (EB lenT (AS false .u8 (A1 x 16)))))):=by kernel_rfl
theorem AEq (x:Int):AX Tryz.prog (AJ S5 K0) Tryz.f339 [.val false [.v (.int .u64 x)]] [false,false,true] 100 =
 some ([(decide (4294967296≤x),false),(decide (65536≤x),false),(decide (256≤x),true),(decide (0≤(8:Int)∧0≤x),true),(decide (0≤AS false .u8 (A1 x 8)∧AS false .u8 (A1 x 8)<(lenT.size:Int)),true)],DB (AS false .i64 (AS true .i64 (0+8)+AS false .i64 (EB lenT (AS false .u8 (A1 x 8)))))):=by kernel_rfl
theorem AEr (x:Int):AX Tryz.prog (AJ S5 K0) Tryz.f339 [.val false [.v (.int .u64 x)]] [false,false,false] 100 =
 some ([(decide (4294967296≤x),false),(decide (65536≤x),false),(decide (256≤x),false),(decide (0≤AS false .u8 x∧AS false .u8 x<(lenT.size:Int)),true)],DB (AS false .i64 (0+AS false .i64 (EB lenT (AS false .u8 x))))):=by kernel_rfl
def K4 (x L top:Nat):Prop:=x<2^L∧(0<x→1≤L∧2^(L-1)≤x)∧L≤top
def Dv (v:Nat):Nat:=(lenL.getD v 0).toNat
def ZD (x L:Nat):Bool:=Nat.blt x (2^L)&&((Nat.beq x 0||(Nat.ble 1 L&&Nat.ble (2^(L-1)) x))&&Nat.ble L 8)
def ZE:Nat→Bool
 | 0=>true
 | n+1=>ZD n (Dv n)&&ZE n
theorem nQ:∀ n,ZE n=true→∀ v,v<n→ZD v (Dv v)=true
 | 0,_,v,h=>by omega
 | n+1,h,v,hv=>by
  simp only [ZE,Bool.and_eq_true] at h
  rcases Nat.lt_or_ge v n with h1 | h1
  ·exact nQ n h.2 v h1
  ·have:v=n:=by omega
   subst this;exact h.1
theorem nS {v:Nat} (h:v<256):K4 v (Dv v) 8:=by
 have:=nQ 256 (by kernel_rfl) v h
 unfold ZD at this
 simp only [Bool.and_eq_true,Bool.or_eq_true] at this
 obtain ⟨h1,h2,h3⟩:=this
 refine ⟨Nat.le_of_ble_eq_true h1,fun hp=>?_,Nat.le_of_ble_eq_true h3⟩
 rcases h2 with h2 | ⟨h2,h4⟩
 ·have:=Nat.eq_of_beq_eq_true h2;omega
 ·exact ⟨Nat.le_of_ble_eq_true h2,Nat.le_of_ble_eq_true h4⟩
theorem ZF {x L top:Nat} (k:Nat) (h:K4 (x / 2^k) L top) (hx:2^k≤x):K4 x (k+L) (k+top):=by
 obtain ⟨h1,h2,h3⟩:=h
 have hp:0<2^k:=Nat.pow_pos (by decide)
 have hq:0<x / 2^k:=Nat.div_pos hx hp
 obtain ⟨h4,h5⟩:=h2 hq
 refine ⟨?_,fun _=>⟨by omega,?_⟩,by omega⟩
 ·rw [Nat.pow_add]
  exact (Nat.div_lt_iff_lt_mul hp).1 h1 |> fun q=>by rwa [Nat.mul_comm] at q
 ·rw [show k+L-1=k+(L-1) by omega,Nat.pow_add]
  have:=(Nat.le_div_iff_mul_le hp).1 h5
  rwa [Nat.mul_comm] at this
theorem ZG {x L top top':Nat} (h:K4 x L top) (hle:top≤top'):K4 x L top':=⟨h.1,h.2.1,Nat.le_trans h.2.2 hle⟩
def K5 (x:Nat):Nat:=if 256≤x then 8+Dv (x / 2^8) else Dv x
def ON (x:Nat):Nat:=if 65536≤x then 16+K5 (x / 2^16) else K5 x
def Dw (x:Nat):Nat:=if 4294967296≤x then 32+ON (x / 2^32) else ON x
theorem nT {x:Nat} (h:x<65536):K4 x (K5 x) 16:=by
 unfold K5
 split
 ·exact ZF 8 (nS (by omega)) (by omega)
 ·exact ZG (nS (by omega)) (by decide)
theorem nU {x:Nat} (h:x<4294967296):K4 x (ON x) 32:=by
 unfold ON
 split
 ·exact ZF 16 (nT (by omega)) (by omega)
 ·exact ZG (nT (by omega)) (by decide)
theorem nV {x:Nat} (h:x<18446744073709551616):K4 x (Dw x) 64:=by
 unfold Dw
 split
 ·exact ZF 32 (nU (by omega)) (by omega)
 ·exact ZG (nU (by omega)) (by decide)
theorem JC (x k:Nat):A1 (x:Int) k=((x / 2^k:Nat):Int):=by
 unfold A1
 rw [Int.fdiv_eq_ediv_of_nonneg _ (by exact_mod_cast Nat.zero_le (2^k))]
 rw [Int.natCast_ediv,Int.natCast_pow];rfl
theorem T8 (c:Bool) {z:Int} (h:-9223372036854775808≤z∧z≤9223372036854775807):AS c .i64 z=z:=by
 rw [C_];exact A4 h
theorem nW {v:Nat} (h:v<256):AS false .u8 (v:Int)=v:=by
 rw [C_,IntKind.wrap_u8];omega
theorem AEs {v:Nat}:EB lenT (v:Int)=((Dv v:Nat):Int):=by
 unfold EB Dv lenT
 rw [Int.toNat_natCast]
theorem AEt:lenT.size=256:=by kernel_rfl
theorem AEu (v:Nat):Dv v≤255:=by
 have:=(lenL.getD v 0).toNat_lt
 unfold Dv;omega
theorem AEv (x:Nat) (hx:x<18446744073709551616):AW Tryz.prog 339 [.val false [.v (.int .u64 (x:Int))]] (DB (Dw x)):=by
 have pk:=fun (c:List (Bool×Bool)) (v:AV) (p:List Bool) (h:AX Tryz.prog (AJ S5 K0) Tryz.f339 [.val false [.v (.int .u64 (x:Int))]] p 100=some (c,v)) (hc:AP c) (hk:KP v=true)=>Ac (AN To AZ) AE Tryz.func339 h hc hk
 have fin:∀ (n v m:Nat),v<256→n≤56→n+Dv v=m→DB (AS false .i64 ((n:Int)+AS false .i64 (EB lenT (AS false .u8 (v:Int)))))=DB (m:Int):=by
  intro n v m hv hn he
  have:=AEu v
  rw [nW hv,AEs,T8 (z:=((Dv v:Nat):Int)) _ (by omega),T8 _ (by omega)]
  congr 1;omega
 have w0:∀ (z:Int),AS true .i64 z=wI z:=fun z=>C_ ..
 have cnd:∀ v:Nat,v<256→decide (0≤AS false .u8 (v:Int)∧AS false .u8 (v:Int)<(lenT.size:Int))=true:=by
  intro v hv
  rw [nW hv,AEt];simp;omega
 unfold Dw
 by_cases h1:4294967296≤x
 ·rw [if_pos h1]
  unfold ON
  have s1:=JC x 32
  generalize hy:x / 2^32=y at *
  have hyb:y<4294967296:=by omega
  by_cases h2:65536≤y
  ·rw [if_pos h2]
   unfold K5
   have s2:=JC y 16
   generalize hz:y / 2^16=z at *
   have hzb:z<65536:=by omega
   by_cases h3:256≤z
   ·rw [if_pos h3]
    have s3:=JC z 8
    have hb:z / 2^8<256:=by omega
    have r:=AEk (x:Int)
    rw [s1,s2,s3] at r
    have h:=pk _ _ _ r ⟨by simp;omega,by simp,by simp;omega,by simp,by simp;omega,by simp,cnd _ hb,trivial⟩ rfl
    have e:AS true .i64 (AS true .i64 (32+16)+8)=((56:Nat):Int):=by kernel_rfl
    rw [e,fin 56 _ (32+(16+(8+Dv (z / 2^8)))) hb (by decide) (by omega)] at h
    exact h
   ·rw [if_neg h3]
    have hb:z<256:=by omega
    have r:=AEl (x:Int)
    rw [s1,s2] at r
    have h:=pk _ _ _ r ⟨by simp;omega,by simp,by simp;omega,by simp,by simp;omega,cnd _ hb,trivial⟩ rfl
    have e:AS true .i64 (32+16)=((48:Nat):Int):=by kernel_rfl
    rw [e,fin 48 _ (32+(16+Dv z)) hb (by decide) (by omega)] at h
    exact h
  ·rw [if_neg h2]
   unfold K5
   by_cases h3:256≤y
   ·rw [if_pos h3]
    have s3:=JC y 8
    have hb:y / 2^8<256:=by omega
    have r:=AEm (x:Int)
    rw [s1,s3] at r
    have h:=pk _ _ _ r ⟨by simp;omega,by simp,by simp;omega,by simp;omega,by simp,cnd _ hb,trivial⟩ rfl
    have e:AS true .i64 (32+8)=((40:Nat):Int):=by kernel_rfl
    rw [e,fin 40 _ (32+(8+Dv (y / 2^8))) hb (by decide) (by omega)] at h
    exact h
   ·rw [if_neg h3]
    have hb:y<256:=by omega
    have r:=AEn (x:Int)
    rw [s1] at r
    have h:=pk _ _ _ r ⟨by simp;omega,by simp,by simp;omega,by simp;omega,cnd _ hb,trivial⟩ rfl
    rw [show (32:Int)=((32:Nat):Int) from rfl,fin 32 _ (32+Dv y) hb (by decide) (by omega)] at h
    exact h
 ·rw [if_neg h1]
  unfold ON
  by_cases h2:65536≤x
  ·rw [if_pos h2]
   unfold K5
   have s2:=JC x 16
   generalize hz:x / 2^16=z at *
   have hzb:z<65536:=by omega
   by_cases h3:256≤z
   ·rw [if_pos h3]
    have s3:=JC z 8
    have hb:z / 2^8<256:=by omega
    have r:=AEo (x:Int)
    rw [s2,s3] at r
    have h:=pk _ _ _ r ⟨by simp;omega,by simp;omega,by simp,by simp;omega,by simp,cnd _ hb,trivial⟩ rfl
    have e:AS true .i64 (AS true .i64 (0+16)+8)=((24:Nat):Int):=by kernel_rfl
    rw [e,fin 24 _ (16+(8+Dv (z / 2^8))) hb (by decide) (by omega)] at h
    exact h
   ·rw [if_neg h3]
    have hb:z<256:=by omega
    have r:=AEp (x:Int)
    rw [s2] at r
    have h:=pk _ _ _ r ⟨by simp;omega,by simp;omega,by simp,by simp;omega,cnd _ hb,trivial⟩ rfl
    have e:AS true .i64 (0+16)=((16:Nat):Int):=by kernel_rfl
    rw [e,fin 16 _ (16+Dv z) hb (by decide) (by omega)] at h
    exact h
  ·rw [if_neg h2]
   unfold K5
   by_cases h3:256≤x
   ·rw [if_pos h3]
    have s3:=JC x 8
    have hb:x / 2^8<256:=by omega
    have r:=AEq (x:Int)
    rw [s3] at r
    have h:=pk _ _ _ r ⟨by simp;omega,by simp;omega,by simp;omega,by simp,cnd _ hb,trivial⟩ rfl
    have e:AS true .i64 (0+8)=((8:Nat):Int):=by kernel_rfl
    rw [e,fin 8 _ (8+Dv (x / 2^8)) hb (by decide) (by omega)] at h
    exact h
   ·rw [if_neg h3]
    have hb:x<256:=by omega
    have r:=AEr (x:Int)
    have h:=pk _ _ _ r ⟨by simp;omega,by simp;omega,by simp;omega,cnd _ hb,trivial⟩ rfl
    rw [show (0:Int)=((0:Nat):Int) from rfl,fin 0 _ (Dv x) hb (by decide) (by omega)] at h
    exact h
def T9:List IntKind→List AV→Option (List Int)
 | [],[]=>some []
 | k::ks,A::r=>match A' (some A),T9 ks r with
  | some (_,k',i),some l=>match decide (k'=k) with
   | true=>some (i::l)
   | false=>none
  | _,_=>none
 | _,_=>none
def ZH:List IntKind→List Int→List AV
 | k::ks,i::is=>.val false [.v (.int k i)]::ZH ks is
 | _,_=>[]
def ZI:List IntKind→List Int→Prop
 | k::ks,i::is=>has k i∧ZI ks is
 | _,_=>True
theorem nZ:∀ {ks:List IntKind} {args:List AV} {is:List Int} {us:List Value},T9 ks args=some is→Aq B0 args us→Aq B0 (ZH ks is) us∧ZI ks is
 | [],[],is,us,h,hr=>by
  injection h with h;subst h
  exact ⟨hr,trivial⟩
 | [],_::_,_,_,h,_=>by cases h
 | _::_,[],_,_,h,_=>by cases h
 | k::ks,A::r,is,us,h,hr=>by
  unfold T9 at h
  split at h
  ·rename_i c k' i l hi hl
   split at h
   ·rename_i hk
    injection h with h;subst h
    have hk':k'=k:=by simpa using hk
    subst hk'
    obtain ⟨u,us',r1,r2,rfl⟩:=hr
    obtain ⟨q1,q2⟩:=MI hi r1
    obtain ⟨p1,p2⟩:=nZ hl r2
    exact ⟨⟨u,us',q1,p1,rfl⟩,q2,p2⟩
   ·cases h
  ·cases h
def QT (ks:List IntKind) (g:List Int→Option (List (Bool×Bool)×AV)):List AV→Option (List (Bool×Bool)×AV):=fun args=>match T9 ks args with
 | some is=>g is
 | none=>none
theorem ZJ {f:FuncId} {ks:List IntKind} {g:List Int→Option (List (Bool×Bool)×AV)} (h:∀ is c v,g is=some (c,v)→ZI ks is→AP c→AW Tryz.prog f (ZH ks is) v) :
  ∀ args c v,QT ks g args=some (c,v)→AP c→AW Tryz.prog f args v:=by
 intro args c v hs hc us w ha
 unfold QT at hs
 split at hs
 ·rename_i is his
  obtain ⟨q1,q2⟩:=nZ his ha
  exact h is c v hs q2 hc us w q1
 ·cases hs
def T_ (g:Int→List (Bool×Bool)×AV):List Int→Option (List (Bool×Bool)×AV)
 | [x]=>some (g x)
 | _=>none
noncomputable def S20:List (FuncId×ASpec):=(339,FG (QT [.u64] (T_ fun x=>([],DB (Dw x.toNat)))))::S19
theorem n5:AM Tryz.prog S20:=⟨GS Tryz.func339 (by kernel_rfl) (by kernel_rfl) (ZJ fun is c v h hh _=>by
 unfold T_ at h
 split at h
 ·injection h with h;injection h with h1 h2;subst h1;subst h2
  rename_i x
  have hb:=C' hh.1
  obtain ⟨X,rfl⟩:=Int.eq_ofNat_of_zero_le hb.1
  rw [Int.toNat_natCast]
  exact AEv X (by omega)
 ·cases h),ADs⟩
theorem AEw (x:Int):AX Tryz.prog (AJ S20 K0) Tryz.f302 [.val false [.v (.int .u64 x)]] [] 100=some ([],DB (wI (64-(Dw x.toNat:Int)))):=by kernel_rfl
theorem AEx (x:Nat) (hx:x<18446744073709551616):AW Tryz.prog 302 [.val false [.v (.int .u64 (x:Int))]] (DB (64-Dw x:Nat)):=by
 have h:=Ac (AN n5 AZ) AE Tryz.func302 (AEw x) trivial rfl
 have:=(nV hx).2.2
 rw [Int.toNat_natCast,A4 (by omega),show (64:Int)-(Dw x:Int)=((64-Dw x:Nat):Int) by omega] at h
 exact h
noncomputable def S21:List (FuncId×ASpec):=(302,FG (QT [.u64] (T_ fun x=>([],DB (64-Dw x.toNat:Nat)))))::S20
theorem E4:AM Tryz.prog S21:=⟨GS Tryz.func302 (by kernel_rfl) (by kernel_rfl) (ZJ fun is c v h hh _=>by
 unfold T_ at h
 split at h
 ·injection h with h;injection h with h1 h2;subst h1;subst h2
  rename_i x
  have hb:=C' hh.1
  obtain ⟨X,rfl⟩:=Int.eq_ofNat_of_zero_le hb.1
  rw [Int.toNat_natCast]
  exact AEx X (by omega)
 ·cases h),n5⟩
def dA (h l y:Int):List AV:=[.val false [.v (.int .u64 h)],.val false [.v (.int .u64 l)],.val false [.v (.int .u64 y)]]
noncomputable def AEy:List Item:=C3 (Aa Tryz.prog (AJ S21 K0) (some 0) 300 0 none (Ah Tryz.f242 (dA 0 0 0) [] 0 [false,false,false]))
def uV (x:Int):AV:=.val false [.v (.int .u64 x)]
noncomputable def dT1 (Y s y1 y0 u u1 u0 q r:Int):List AV:=.any::.any::uV Y::.any::.any::.any::.any::.any::uV s::uV y1::uV y0::uV u::.any::uV u1::uV u0::uV q::uV r::List.replicate (Tryz.f242.ntmps-17) .any
noncomputable def IA (Y s y1 y0 u u1 u0 q r:Int) (p:List Bool):ASt:=⟨AEy,⟨dT1 Y s y1 y0 u u1 u0 q r,[],0,p⟩⟩
noncomputable def AE0:List Item:=C3 (Aa Tryz.prog (AJ S21 K0) (some 0) 300 0 none (IA 0 0 0 0 0 0 0 0 0 [false,false]))
noncomputable def dT2 (Y s y1 y0 u0 q r v z:Int):List AV:=.any::.any::uV Y::.any::.any::.any::.any::.any::uV s::uV y1::uV y0::.any::.any::.any::uV u0::uV q::uV r::uV v::uV z::List.replicate (Tryz.f242.ntmps-19) .any
noncomputable def GV (Y s y1 y0 u0 q r v z:Int) (p:List Bool):ASt:=⟨AE0,⟨dT2 Y s y1 y0 u0 q r v z,[],0,p⟩⟩
def QU (x s:Int):Int:=mW (x*2^min s.toNat 64)
def HN (x s:Int):Int:=Int.fdiv x (2^min s.toNat 64)
def K6 (y:Int):Int:=mW ((64-Dw y.toNat:Nat):Int)
def IB (y:Int):Int:=QU y (K6 y)
def OO (h l y:Int):Int:=bits .or .u64 (QU h (K6 y)) (HN l (mW (64-K6 y)))
def QV (l y:Int):Int:=QU l (K6 y)
abbrev K1:Option (List Nat×List Nat×Nat):=some ([2,8,9,10,11,13,14,15,16],[],0)
abbrev K2:Option (List Nat×List Nat×Nat):=some ([2,8,9,10,14,15,16,17,18],[],0)
theorem AE2 (h l y:Int):Aa Tryz.prog (AJ S21 K0) (some 0) 300 0 K1 (Ah Tryz.f242 (dA h l y) [] 0 [false,false,false]) =
 some ([(decide (y=0),false),(decide (y≤h),false),(decide (h=0),false),(true,true),(decide (0≤(32:Int)∧0≤IB y),true),(true,true),(decide (0≤mW (64-K6 y)∧0≤l),true),(true,true),
  (decide (0≤(32:Int)∧0≤QV l y),true),(decide (HN (IB y) 32≠0),true)],[],
  IA (IB y) (K6 y) (HN (IB y) 32) (bits .and .u64 (IB y) 4294967295) (OO h l y) (HN (QV l y) 32) (bits .and .u64 (QV l y) 4294967295) (mW (Int.tdiv (OO h l y) (HN (IB y) 32)))
   (mW (OO h l y-mW (mW (Int.tdiv (OO h l y) (HN (IB y) 32))*HN (IB y) 32))) []):=by kernel_rfl
theorem AE3 (h l y:Int):Ey Tryz.prog (AJ S21 K0) Tryz.f242 300 0 (Ah Tryz.f242 (dA h l y) [] 0 [false,false,true]) =
 some ([(decide (y=0),false),(decide (y≤h),false),(decide (h=0),true),(decide (y≠0),true),(decide (0≤l∧0<y),true)],[],.tup [(false,[.v (.int .u64 (mW (Int.tdiv l y)))]),(false,[.v (.int .u64 (Int.tmod l y))])]):=by kernel_rfl
def IC (q r y0 u1:Int):Bool:=decide (mW (mW (4294967296*r)+u1)<mW (q*y0))
section
variable (Y s y1 y0 u u1 u0 q r v z:Int)
theorem AE4:Aa Tryz.prog (AJ S21 K0) (some 0) 300 0 K1 (IA Y s y1 y0 u u1 u0 q r [true,false]) =
 some ([(decide (4294967296≤q),true),(decide (4294967296≤mW (r+y1)),false)],[],IA Y s y1 y0 u u1 u0 (mW (q-1)) (mW (r+y1)) []):=by kernel_rfl
theorem AE5:Aa Tryz.prog (AJ S21 K0) (some 0) 300 0 K1 (IA Y s y1 y0 u u1 u0 q r [false,true,false]) =
 some ([(decide (4294967296≤q),false),(IC q r y0 u1,true),(decide (4294967296≤mW (r+y1)),false)],[],IA Y s y1 y0 u u1 u0 (mW (q-1)) (mW (r+y1)) []):=by kernel_rfl
def Dx (Y u u1 q:Int):Int:=mW (mW (mW (u*4294967296)+u1)-mW (q*Y))
theorem AE6:Aa Tryz.prog (AJ S21 K0) (some 0) 300 0 K2 (IA Y s y1 y0 u u1 u0 q r [true,true]) =
 some ([(decide (4294967296≤q),true),(decide (4294967296≤mW (r+y1)),true),(decide (y1≠0),true)],[],
  GV Y s y1 y0 u0 (mW (q-1)) (mW (Dx Y u u1 (mW (q-1))-mW (mW (Int.tdiv (Dx Y u u1 (mW (q-1))) y1)*y1))) (Dx Y u u1 (mW (q-1))) (mW (Int.tdiv (Dx Y u u1 (mW (q-1))) y1)) []):=by kernel_rfl
theorem AE7:Aa Tryz.prog (AJ S21 K0) (some 0) 300 0 K2 (IA Y s y1 y0 u u1 u0 q r [false,true,true]) =
 some ([(decide (4294967296≤q),false),(IC q r y0 u1,true),(decide (4294967296≤mW (r+y1)),true),(decide (y1≠0),true)],[],
  GV Y s y1 y0 u0 (mW (q-1)) (mW (Dx Y u u1 (mW (q-1))-mW (mW (Int.tdiv (Dx Y u u1 (mW (q-1))) y1)*y1))) (Dx Y u u1 (mW (q-1))) (mW (Int.tdiv (Dx Y u u1 (mW (q-1))) y1)) []):=by kernel_rfl
theorem n8:Aa Tryz.prog (AJ S21 K0) (some 0) 300 0 K2 (IA Y s y1 y0 u u1 u0 q r [false,false]) =
 some ([(decide (4294967296≤q),false),(IC q r y0 u1,false),(decide (y1≠0),true)],[],
  GV Y s y1 y0 u0 q (mW (Dx Y u u1 q-mW (mW (Int.tdiv (Dx Y u u1 q) y1)*y1))) (Dx Y u u1 q) (mW (Int.tdiv (Dx Y u u1 q) y1)) []):=by kernel_rfl
theorem AE8:Aa Tryz.prog (AJ S21 K0) (some 0) 300 0 K2 (GV Y s y1 y0 u0 q r v z [true,false]) =
 some ([(decide (4294967296≤z),true),(decide (4294967296≤mW (r+y1)),false)],[],GV Y s y1 y0 u0 q (mW (r+y1)) v (mW (z-1)) []):=by kernel_rfl
theorem AE9:Aa Tryz.prog (AJ S21 K0) (some 0) 300 0 K2 (GV Y s y1 y0 u0 q r v z [false,true,false]) =
 some ([(decide (4294967296≤z),false),(IC z r y0 u0,true),(decide (4294967296≤mW (r+y1)),false)],[],GV Y s y1 y0 u0 q (mW (r+y1)) v (mW (z-1)) []):=by kernel_rfl
def QW (Y s u0 q v z:Int):AV:=.tup [(false,[.v (.int .u64 (mW (mW (q*4294967296)+z)))]),(false,[.v (.int .u64 (HN (Dx Y v u0 z) s))])]
theorem AE_:Ey Tryz.prog (AJ S21 K0) Tryz.f242 300 0 (GV Y s y1 y0 u0 q r v z [true,true]) =
 some ([(decide (4294967296≤z),true),(decide (4294967296≤mW (r+y1)),true),(decide (0≤s∧0≤Dx Y v u0 (mW (z-1))),true)],[],QW Y s u0 q v (mW (z-1))):=by kernel_rfl
theorem AE':Ey Tryz.prog (AJ S21 K0) Tryz.f242 300 0 (GV Y s y1 y0 u0 q r v z [false,true,true]) =
 some ([(decide (4294967296≤z),false),(IC z r y0 u0,true),(decide (4294967296≤mW (r+y1)),true),(decide (0≤s∧0≤Dx Y v u0 (mW (z-1))),true)],[],QW Y s u0 q v (mW (z-1))):=by kernel_rfl
theorem n9:Ey Tryz.prog (AJ S21 K0) Tryz.f242 300 0 (GV Y s y1 y0 u0 q r v z [false,false]) =
 some ([(decide (4294967296≤z),false),(IC z r y0 u0,false),(decide (0≤s∧0≤Dx Y v u0 z),true)],[],QW Y s u0 q v z):=by kernel_rfl
end
theorem T' {u u1 Y q:Nat} (hu:u<Y) (hu1:u1<4294967296) (hq:4294967296≤q):(u*4294967296+u1) / Y<q:=by
 refine Nat.lt_of_lt_of_le (Nat.div_lt_of_lt_mul ?_) hq
 rw [Nat.mul_comm Y]
 omega
theorem oA {u u1 y1 y0 Y q r:Nat} (hY:Y=y1*4294967296+y0) (hu:u=q*y1+r) (h:4294967296*r+u1<q*y0):(u*4294967296+u1) / Y<q:=by
 refine Nat.div_lt_of_lt_mul ?_
 have e1:(q*y1+r)*4294967296=q*y1*4294967296+r*4294967296:=Nat.add_mul ..
 have e2:(y1*4294967296+y0)*q=q*y1*4294967296+q*y0:=by rw [Nat.add_mul,Nat.mul_comm y0 q,Nat.mul_right_comm,Nat.mul_comm y1 q]
 rw [hY,hu,e1,e2]
 omega
theorem UA {u u1 y1 y0 Y q r:Nat} (hY:Y=y1*4294967296+y0) (hpos:0<Y) (hu:u=q*y1+r) (h:q*y0≤4294967296*r+u1) (hle:(u*4294967296+u1) / Y≤q):(u*4294967296+u1) / Y=q:=by
 refine Nat.le_antisymm hle ((Nat.le_div_iff_mul_le hpos).2 ?_)
 rw [hY,hu,Nat.mul_add,← Nat.mul_assoc]
 omega
theorem oB {q y0 r u1:Nat} (hq:q≤4294967297) (hy:y0<4294967296) (hr:4294967296≤r):q*y0≤4294967296*r+u1:=by
 have:=Nat.mul_le_mul hq (show y0≤4294967295 by omega)
 omega
theorem oC {u u1 y1 y0 Y:Nat} (hY:Y=y1*4294967296+y0) (hy1:0<y1) (hu1:u1<4294967296):(u*4294967296+u1) / Y≤u / y1:=by
 refine (Nat.le_div_iff_mul_le hy1).2 ?_
 have h:=Nat.div_mul_le_self (u*4294967296+u1) Y
 generalize (u*4294967296+u1) / Y=q at *
 rw [hY,Nat.mul_add,← Nat.mul_assoc] at h
 generalize q*y1=A at *
 generalize q*y0=B at *
 omega
theorem oD {u y1 y0 Y:Nat} (hY:Y=y1*4294967296+y0) (hy0:y0<4294967296) (hy1:2147483648≤y1) (hu:u<Y):u / y1≤4294967298:=by
 have hb:u<4294967299*y1:=by omega
 have:=(Nat.div_lt_iff_lt_mul (show 0<y1 by omega)).2 hb
 omega
theorem OP {Y u u1 q:Nat} (h:q=(u*4294967296+u1) / Y) (hpos:0<Y) (hY:Y≤18446744073709551616):Dx Y u u1 q=(((u*4294967296+u1) % Y:Nat):Int):=by
 have h1:=Nat.div_add_mod (u*4294967296+u1) Y
 have h2:=Nat.mod_lt (u*4294967296+u1) hpos
 rw [← h,Nat.mul_comm] at h1
 unfold Dx
 simp only [Dt]
 have e:(q:Int)*(Y:Int)=((q*Y:Nat):Int):=by rw [Int.natCast_mul]
 rw [e]
 generalize q*Y=N at *
 generalize (u*4294967296+u1) % Y=m at *
 omega
theorem UB {q r y0 u1:Nat} (hq:q<4294967296) (hr:r<4294967296) (hy:y0<4294967296) (hu1:u1<4294967296):IC q r y0 u1=decide (4294967296*r+u1<q*y0):=by
 have hm:=Nat.mul_le_mul (show q≤4294967295 by omega) (show y0≤4294967295 by omega)
 unfold IC
 simp only [Dt]
 have e:(q:Int)*(y0:Int)=((q*y0:Nat):Int):=by rw [Int.natCast_mul]
 rw [e]
 generalize q*y0=N at *
 have e1:(4294967296*(r:Int)) % 18446744073709551616=4294967296*(r:Int):=by omega
 rw [e1]
 have e2:(4294967296*(r:Int)+u1) % 18446744073709551616=4294967296*(r:Int)+u1:=by omega
 have e3:((N:Nat):Int) % 18446744073709551616=N:=by omega
 rw [e2,e3]
 by_cases h:4294967296*r+u1<N
 ·rw [decide_eq_true h,decide_eq_true (by omega)]
 ·rw [decide_eq_false h,decide_eq_false (by omega)]
theorem oE (v y1:Nat) (hv:v<18446744073709551616) (hy1:0<y1):mW (Int.tdiv (v:Int) y1)=((v / y1:Nat):Int)∧mW ((v:Int)-mW (mW (Int.tdiv (v:Int) y1)*y1))=((v % y1:Nat):Int):=by
 have h1:=Nat.div_add_mod v y1
 have h2:=Nat.mod_lt v hy1
 have h3:=Nat.div_le_self v y1
 have e0:Int.tdiv (v:Int) y1=((v / y1:Nat):Int):=by rw [Int.tdiv_eq_ediv_of_nonneg (by omega)];rfl
 rw [e0,MR,Nat.mod_eq_of_lt (by omega)]
 refine ⟨rfl,?_⟩
 have e1:((v / y1:Nat):Int)*(y1:Int)=((v / y1*y1:Nat):Int):=by rw [Int.natCast_mul]
 rw [e1,MR,Dt,Nat.mul_comm]
 generalize y1*(v / y1)=N at *
 omega
theorem oF {q:Nat} (h:0<q) (hq:q≤18446744073709551616):mW ((q:Int)-1)=((q-1:Nat):Int):=by rw [Dt];omega
theorem oG {r y1:Nat} (hr:r<4294967296) (hy:y1<4294967296):mW ((r:Int)+y1)=((r+y1:Nat):Int):=by rw [Dt];omega
def QX (q z m s:Nat):AV:=.tup [(false,[.v (.int .u64 ((q*4294967296+z:Nat):Int))]),(false,[.v (.int .u64 ((m / 2^min s 64:Nat):Int))])]
theorem ZK (x s:Nat):HN (x:Int) (s:Int)=((x / 2^min s 64:Nat):Int):=by
 unfold HN
 rw [Int.toNat_natCast]
 exact JC x _
section
variable {Y s y1 y0 u0:Nat} (hY:Y=y1*4294967296+y0) (hy0:y0<4294967296) (hy1:2147483648≤y1) (hy1':y1<4294967296) (hu0:u0<4294967296) (w0:World)
include hY hy0 hy1 hy1' hu0
theorem AFA {v q:Nat} (hv:v<Y) (hq:q<4294967296):∀ z r,v=z*y1+r→r<4294967296→z≤4294967298→(v*4294967296+u0) / Y≤z →
  ASafe Tryz.prog 242 B0 w0 (MB w0 (QX q ((v*4294967296+u0) / Y) ((v*4294967296+u0) % Y) s)) Tryz.f242.ntmps [] (GV Y s y1 y0 u0 q r v z []):=by
 have hpos:0<Y:=by omega
 have hYle:Y≤18446744073709551616:=by omega
 have fin:∀ z:Nat,z=(v*4294967296+u0) / Y→QW Y s u0 q v z=QX q ((v*4294967296+u0) / Y) ((v*4294967296+u0) % Y) s:=by
  intro z hz
  have hlt:z<4294967296:=by rw [hz];exact T' hv hu0 (Nat.le_refl _)
  unfold QW QX
  rw [OP hz hpos hYle,ZK,← hz]
  have:mW (mW ((q:Int)*4294967296)+(z:Int))=((q*4294967296+z:Nat):Int):=by rw [Dt,Dt];omega
  rw [this]
 have pos21:∀ z:Nat,z=(v*4294967296+u0) / Y→decide (0≤(s:Int)∧0≤Dx Y v u0 z)=true:=by
  intro z hz
  rw [OP hz hpos hYle];simp only [decide_eq_true_eq];omega
 intro z
 induction z with
 | zero =>
  intro r hz hr _ hle
  have hq0:(v*4294967296+u0) / Y=0:=Nat.le_zero.1 hle
  have hdc:IC ((0:Nat):Int) r y0 u0=false:=by rw [UB (by decide) hr hy0 hu0];simp
  rw [← fin 0 hq0.symm]
  exact Af [false,false] (H5 (AN E4 AZ) AE Tryz.func242 (n9 ..) ⟨by simp,hdc,pos21 0 hq0.symm,trivial⟩ (AR (by kernel_rfl)) (fun _ _=>rfl) rfl)
 | succ z ih =>
  intro r hz hr htop hle
  have hdq:=oF (q:=z+1) (by omega) (by omega)
  have hir:=oG hr hy1'
  rw [Nat.add_sub_cancel] at hdq
  have hz':v=z*y1+(r+y1):=by rw [hz,Nat.succ_mul];omega
  have go:∀ (hlt:(v*4294967296+u0) / Y<z+1),(4294967296≤r+y1→(v*4294967296+u0) / Y=z):=fun hlt hb =>
   UA hY hpos hz' (oB (by omega) hy0 hb) (by omega)
  by_cases hbig:4294967296≤z+1
  ·have hlt:=T' hv hu0 hbig
   by_cases hb:4294967296≤r+y1
   ·have hq:=go hlt hb
    have h:=H5 (w0:=w0) (β0:=B0) (n:=Tryz.f242.ntmps) (AN E4 AZ) AE Tryz.func242 (AE_ Y s y1 y0 u0 q r v (z+1:Nat)) ⟨by simp;omega,by rw [hir];simp;omega,by rw [hdq];exact pos21 z hq.symm,trivial⟩ (AR (by kernel_rfl)) (fun _ _=>rfl) rfl
    rw [hdq,fin z hq.symm] at h
    exact Af [true,true] h
   ·refine Af [true,false] (Aj (AN E4 AZ) AE (AE8 Y s y1 y0 u0 q r v (z+1:Nat)) ⟨by simp;omega,by rw [hir];simp;omega,trivial⟩ (AR (by kernel_rfl)) (fun _ _=>rfl) (fun _ h=>by cases h) fun _=>?_)
    rw [hdq,hir]
    exact ih (r+y1) hz' (by omega) (by omega) (by omega)
  ·have hsm:z+1<4294967296:=by omega
   have hdc:=UB (u1:=u0) hsm hr hy0 hu0
   by_cases hc:4294967296*r+u0<(z+1)*y0
   ·have hlt:=oA hY hz hc
    by_cases hb:4294967296≤r+y1
    ·have hq:=go hlt hb
     have h:=H5 (w0:=w0) (β0:=B0) (n:=Tryz.f242.ntmps) (AN E4 AZ) AE Tryz.func242 (AE' Y s y1 y0 u0 q r v (z+1:Nat)) ⟨by simp;omega,by rw [hdc];exact decide_eq_true hc,by rw [hir];simp;omega,by rw [hdq];exact pos21 z hq.symm,trivial⟩ (AR (by kernel_rfl)) (fun _ _=>rfl) rfl
     rw [hdq,fin z hq.symm] at h
     exact Af [false,true,true] h
    ·refine Af [false,true,false] (Aj (AN E4 AZ) AE (AE9 Y s y1 y0 u0 q r v (z+1:Nat)) ⟨by simp;omega,by rw [hdc];exact decide_eq_true hc,by rw [hir];simp;omega,trivial⟩ (AR (by kernel_rfl)) (fun _ _=>rfl) (fun _ h=>by cases h) fun _=>?_)
     rw [hdq,hir]
     exact ih (r+y1) hz' (by omega) (by omega) (by omega)
   ·have hq:=UA hY hpos hz (by omega) hle
    rw [← fin (z+1) hq.symm]
    exact Af [false,false] (H5 (AN E4 AZ) AE Tryz.func242 (n9 ..) ⟨by simp;omega,by rw [hdc];exact decide_eq_false hc,pos21 _ hq.symm,trivial⟩ (AR (by kernel_rfl)) (fun _ _=>rfl) rfl)
theorem AFB {u u1:Nat} (hu:u<Y) (hu1:u1<4294967296) {R:Ending→World→Prop}
  (hnext:ASafe Tryz.prog 242 B0 w0 R Tryz.f242.ntmps [] (GV Y s y1 y0 u0 ((u*4294967296+u1) / Y:Nat) ((u*4294967296+u1) % Y % y1:Nat) ((u*4294967296+u1) % Y:Nat) ((u*4294967296+u1) % Y / y1:Nat) [])) :
  ∀ q r,u=q*y1+r→r<4294967296→q≤4294967298→(u*4294967296+u1) / Y≤q→ASafe Tryz.prog 242 B0 w0 R Tryz.f242.ntmps [] (IA Y s y1 y0 u u1 u0 q r []):=by
 have _h:=hu0
 have hpos:0<Y:=by omega
 have hYle:Y≤18446744073709551616:=by omega
 have hm:=Nat.mod_lt (u*4294967296+u1) hpos
 have hne:decide ((y1:Int)≠0)=true:=by simp only [decide_eq_true_eq];omega
 obtain ⟨n1,n2⟩:=oE ((u*4294967296+u1) % Y) y1 (by omega) (by omega)
 intro q
 induction q with
 | zero =>
  intro r hz hr _ hle
  have hq0:((0:Nat))=(u*4294967296+u1) / Y:=(Nat.le_zero.1 hle).symm
  have hdc:IC ((0:Nat):Int) r y0 u1=false:=by rw [UB (by decide) hr hy0 hu1];simp
  refine Af [false,false] (Aj (AN E4 AZ) AE (n8 Y s y1 y0 u u1 u0 (0:Nat) r) ⟨by simp,hdc,hne,trivial⟩ (AR (by kernel_rfl)) (fun _ _=>rfl) (fun _ h=>by cases h) fun _=>?_)
  rw [OP hq0 hpos hYle,n2,n1]
  rw [hq0]
  exact hnext
 | succ q ih =>
  intro r hz hr htop hle
  have hdq:=oF (q:=q+1) (by omega) (by omega)
  have hir:=oG hr hy1'
  rw [Nat.add_sub_cancel] at hdq
  have hz':u=q*y1+(r+y1):=by rw [hz,Nat.succ_mul];omega
  have go:∀ (hlt:(u*4294967296+u1) / Y<q+1),(4294967296≤r+y1→(u*4294967296+u1) / Y=q):=fun hlt hb =>
   UA hY hpos hz' (oB (by omega) hy0 hb) (by omega)
  by_cases hbig:4294967296≤q+1
  ·have hlt:=T' hu hu1 hbig
   by_cases hb:4294967296≤r+y1
   ·have hq:=go hlt hb
    refine Af [true,true] (Aj (AN E4 AZ) AE (AE6 Y s y1 y0 u u1 u0 (q+1:Nat) r) ⟨by simp;omega,by rw [hir];simp;omega,hne,trivial⟩ (AR (by kernel_rfl)) (fun _ _=>rfl) (fun _ h=>by cases h) fun _=>?_)
    rw [hdq,OP hq.symm hpos hYle,n2,n1]
    rw [← hq]
    exact hnext
   ·refine Af [true,false] (Aj (AN E4 AZ) AE (AE4 Y s y1 y0 u u1 u0 (q+1:Nat) r) ⟨by simp;omega,by rw [hir];simp;omega,trivial⟩ (AR (by kernel_rfl)) (fun _ _=>rfl) (fun _ h=>by cases h) fun _=>?_)
    rw [hdq,hir]
    exact ih (r+y1) hz' (by omega) (by omega) (by omega)
  ·have hsm:q+1<4294967296:=by omega
   have hdc:=UB (u1:=u1) hsm hr hy0 hu1
   by_cases hc:4294967296*r+u1<(q+1)*y0
   ·have hlt:=oA hY hz hc
    by_cases hb:4294967296≤r+y1
    ·have hq:=go hlt hb
     refine Af [false,true,true] (Aj (AN E4 AZ) AE (AE7 Y s y1 y0 u u1 u0 (q+1:Nat) r) ⟨by simp;omega,by rw [hdc];exact decide_eq_true hc,by rw [hir];simp;omega,hne,trivial⟩ (AR (by kernel_rfl)) (fun _ _=>rfl) (fun _ h=>by cases h) fun _=>?_)
     rw [hdq,OP hq.symm hpos hYle,n2,n1]
     rw [← hq]
     exact hnext
    ·refine Af [false,true,false] (Aj (AN E4 AZ) AE (AE5 Y s y1 y0 u u1 u0 (q+1:Nat) r) ⟨by simp;omega,by rw [hdc];exact decide_eq_true hc,by rw [hir];simp;omega,trivial⟩ (AR (by kernel_rfl)) (fun _ _=>rfl) (fun _ h=>by cases h) fun _=>?_)
     rw [hdq,hir]
     exact ih (r+y1) hz' (by omega) (by omega) (by omega)
   ·have hq:=UA hY hpos hz (by omega) hle
    refine Af [false,false] (Aj (AN E4 AZ) AE (n8 Y s y1 y0 u u1 u0 (q+1:Nat) r) ⟨by simp;omega,by rw [hdc];exact decide_eq_false hc,hne,trivial⟩ (AR (by kernel_rfl)) (fun _ _=>rfl) (fun _ h=>by cases h) fun _=>?_)
    rw [OP hq.symm hpos hYle,n2,n1]
    rw [← hq]
    exact hnext
end
def B_:Nat:=18446744073709551616
theorem ZL {x s:Nat} (hs:s≤64):QU (x:Int) (s:Int)=((x*2^s % B_:Nat):Int):=by
 unfold QU
 rw [Int.toNat_natCast,Nat.min_eq_left hs]
 have:(x:Int)*2^s=((x*2^s:Nat):Int):=by rw [Int.natCast_mul,Int.natCast_pow];rfl
 rw [this,MR];rfl
theorem ZM {h s B:Nat} (hA:h*2^s<B_) (hB:B<2^s) (hs:s≤64):bits .or .u64 ((h*2^s:Nat):Int) (B:Int)=((h*2^s+B:Nat):Int):=by
 have hle:2^s≤2^64:=Nat.pow_le_pow_right (by decide) hs
 have:=(bits_nat .u64 64 (by decide) (fun n h0 h1=>by rw [IntKind.wrap_u64];omega) (h*2^s) B hA (by omega)).2
 rw [this,← Nat.shiftLeft_eq,Nat.shiftLeft_add_eq_or_of_lt hB]
theorem AFC {y:Nat} (h0:0<y) (h1:y<B_):∃ s,s≤63∧64-Dw y=s∧9223372036854775808≤y*2^s∧y*2^s<B_:=by
 obtain ⟨b1,b2,b3⟩:=nV h1
 obtain ⟨b4,b5⟩:=b2 h0
 refine ⟨64-Dw y,by omega,rfl,?_,?_⟩
 ·have:=Nat.mul_le_mul_right (2^(64-Dw y)) b5
  rw [← Nat.pow_add,show Dw y-1+(64-Dw y)=63 by omega] at this
  exact this
 ·have:=Nat.mul_lt_mul_of_pos_right b1 (show 0<2^(64-Dw y) from Nat.pow_pos (by decide))
  rw [← Nat.pow_add,show Dw y+(64-Dw y)=64 by omega] at this
  exact this
theorem AFD {Y u u1 u0 b:Nat} (hpos:0<Y):(u*(b*b)+(u1*b+u0)) / Y=(u*b+u1) / Y*b+((u*b+u1) % Y*b+u0) / Y∧(u*(b*b)+(u1*b+u0)) % Y=((u*b+u1) % Y*b+u0) % Y:=by
 have e:u*(b*b)+(u1*b+u0)=(u*b+u1) % Y*b+u0+Y*((u*b+u1) / Y*b):=by
  have h1:=Nat.div_add_mod (u*b+u1) Y
  have:u*(b*b)+u1*b=(u*b+u1)*b:=by rw [Nat.add_mul,Nat.mul_assoc]
  rw [← Nat.add_assoc,this]
  conv=>lhs;rw [← h1,Nat.add_mul]
  rw [Nat.mul_assoc]
  omega
 rw [e,Nat.add_mul_div_left _ _ hpos,Nat.add_mul_mod_self_left]
 exact ⟨by omega,rfl⟩
theorem AFE {l s:Nat} (hl:l<B_) (hs:s≤63):l*2^s=l / 2^(64-s)*B_+l*2^s % B_∧l / 2^(64-s)<2^s:=by
 have e:B_=2^(64-s)*2^s:=by rw [← Nat.pow_add,show 64-s+s=64 by omega];rfl
 have hp:0<2^s:=Nat.pow_pos (by decide)
 constructor
 ·have h1:=Nat.div_add_mod (l*2^s) B_
  have h2:l*2^s / B_=l / 2^(64-s):=by rw [e,Nat.mul_div_mul_right _ _ hp]
  rw [h2,Nat.mul_comm B_] at h1
  exact h1.symm
 ·refine Nat.div_lt_of_lt_mul ?_
  rw [← e];exact hl
def UC (h l y:Nat):AV:=.tup [(false,[.v (.int .u64 (((h*B_+l) / y:Nat):Int))]),(false,[.v (.int .u64 (((h*B_+l) % y:Nat):Int))])]
theorem AFF {h l y:Nat} (hh:h<y) (hl:l<B_) (hy:y<B_):AW Tryz.prog 242 (dA h l y) (UC h l y):=by
 refine TZ (path:=[]) Tryz.func242 (by kernel_rfl) (by kernel_rfl) fun w0=>?_
 have hy0:0<y:=by omega
 by_cases hz:h=0
 ·subst hz
  have h1:=H5 (w0:=w0) (β0:=B0) (n:=Tryz.f242.ntmps) (AN E4 AZ) AE Tryz.func242 (AE3 ((0:Nat):Int) l y) ⟨by simp;omega,by simp;omega,by simp,by simp;omega,by simp;omega,trivial⟩ (AR (by kernel_rfl)) (fun _ _=>rfl) rfl
  have e1:mW (Int.tdiv (l:Int) y)=(((0*B_+l) / y:Nat):Int):=by
   rw [Int.tdiv_eq_ediv_of_nonneg (by omega),Nat.zero_mul,Nat.zero_add,← Int.natCast_ediv,MR,Nat.mod_eq_of_lt (Nat.lt_of_le_of_lt (Nat.div_le_self l y) (show l<18446744073709551616 from hl))]
  have e2:Int.tmod (l:Int) y=(((0*B_+l) % y:Nat):Int):=by
   rw [Int.tmod_eq_emod_of_nonneg (by omega),Nat.zero_mul,Nat.zero_add];rfl
  rw [e1,e2] at h1
  exact Af [false,false,true] h1
 ·obtain ⟨s,hs,hls,hY1,hY2⟩:=AFC hy0 hy
  have hp:0<2^s:=Nat.pow_pos (by decide)
  obtain ⟨lo1,lo2⟩:=AFE hl hs
  have es:K6 (y:Int)=(s:Int):=by
   unfold K6
   rw [Int.toNat_natCast,hls,MR,Nat.mod_eq_of_lt (by omega)]
  have eY:IB (y:Int)=((y*2^s:Nat):Int):=by
   unfold IB
   rw [es,ZL (by omega),Nat.mod_eq_of_lt hY2]
  have hA:h*2^s+2^s≤y*2^s:=by
   have:=Nat.mul_le_mul_right (2^s) (show h+1≤y from hh)
   rwa [Nat.add_mul,Nat.one_mul] at this
  have eu:OO (h:Int) (l:Int) (y:Int)=((h*2^s+l / 2^(64-s):Nat):Int):=by
   unfold OO
   have e64:mW (64-(s:Int))=((64-s:Nat):Int):=by rw [Dt];omega
   rw [es,e64,ZL (by omega),Nat.mod_eq_of_lt (by omega),ZK,Nat.min_eq_left (show 64-s≤64 by omega)]
   exact ZM (by omega) lo2 (by omega)
  have el:QV (l:Int) (y:Int)=((l*2^s % B_:Nat):Int):=by
   unfold QV
   rw [es,ZL (by omega)]
  generalize hYd:y*2^s=Y at *
  generalize hud:h*2^s+l / 2^(64-s)=u at *
  generalize hld:l*2^s % B_=ul at *
  have hul:ul<B_:=by rw [← hld];exact Nat.mod_lt _ (by decide)
  have hu:u<Y:=by omega
  unfold B_ at hul hY2
  have ent:=AE2 (h:Int) (l:Int) (y:Int)
  have e32:∀ x:Nat,HN (x:Int) 32=((x / 4294967296:Nat):Int):=fun x=>ZK x 32
  have eand:∀ x:Nat,x<18446744073709551616→bits .and .u64 (x:Int) 4294967295=((x % 4294967296:Nat):Int):=fun x hx=>by
   have:=P7 (x:=(x:Int)) (by omega) (by omega)
   unfold MJ at this
   rw [this];omega
  have e64:mW (64-(s:Int))=((64-s:Nat):Int):=by rw [Dt];omega
  rw [eY,eu,el,es,e32,e32,eand Y hY2,eand ul hul,e64] at ent
  obtain ⟨n1,n2⟩:=oE u (Y / 4294967296) (by omega) (by omega)
  rw [n2,n1] at ent
  have hYs:Y=Y / 4294967296*4294967296+Y % 4294967296:=by omega
  refine Af [false,false,false] (Aj (AN E4 AZ) AE ent ?_ (AR (by kernel_rfl)) (fun _ _=>rfl) (fun _ h=>by cases h) fun _=>?_)
  ·refine ⟨by simp;omega,by simp;omega,by simp;omega,rfl,by simp,rfl,by simp,rfl,by simp,?_,trivial⟩
   simp only [decide_eq_true_eq];omega
  ·have hr1:=Nat.mod_lt u (show 0<Y / 4294967296 by omega)
   have hdm:=Nat.div_add_mod u (Y / 4294967296)
   rw [Nat.mul_comm] at hdm
   refine AFB hYs (Nat.mod_lt _ (by decide)) (by omega) (by omega) (Nat.mod_lt ul (by decide)) w0 hu (by omega) ?_ (u / (Y / 4294967296)) (u % (Y / 4294967296)) hdm.symm (by omega) (oD hYs (Nat.mod_lt _ (by decide)) (by omega) hu) (oC hYs (by omega) (by omega))
   have hYpos:0<Y:=by omega
   generalize hu1:ul / 4294967296=u1 at *
   generalize hu0:ul % 4294967296=u0 at *
   have hv:=Nat.mod_lt (u*4294967296+u1) hYpos
   have hq1:(u*4294967296+u1) / Y<4294967296:=T' hu (by omega) (Nat.le_refl _)
   obtain ⟨g1,g2⟩:=AFD (u:=u) (u1:=u1) (u0:=u0) (b:=4294967296) hYpos
   have hN:u*(4294967296*4294967296)+(u1*4294967296+u0)=(h*B_+l)*2^s:=by
    rw [Nat.add_mul,lo1,← hud]
    have:u1*4294967296+u0=ul:=by omega
    rw [this]
    show (h*2^s+l / 2^(64-s))*B_+ul=h*B_*2^s+(l / 2^(64-s)*B_+ul)
    rw [Nat.add_mul,Nat.mul_right_comm h B_];omega
   rw [hN,← hYd] at g1 g2
   rw [Nat.mul_div_mul_right _ _ hp] at g1
   rw [Nat.mul_mod_mul_right] at g2
   rw [hYd] at g1 g2
   obtain ⟨v,hv'⟩:∃ v,v=(u*4294967296+u1) % Y:=⟨_,rfl⟩
   rw [← hv'] at hv g1 g2 ⊢
   have hdm2:=Nat.div_add_mod v (Y / 4294967296)
   rw [Nat.mul_comm] at hdm2
   have hr2:=Nat.mod_lt v (show 0<Y / 4294967296 by omega)
   have fin:=AFA (s:=s) (u0:=u0) hYs (Nat.mod_lt _ (by decide)) (by omega) (by omega) (by rw [← hu0];exact Nat.mod_lt _ (by decide)) w0 hv hq1 (v / (Y / 4294967296)) (v % (Y / 4294967296)) hdm2.symm (by omega) (oD hYs (Nat.mod_lt _ (by decide)) (by omega) hv) (oC hYs (by omega) (by rw [← hu0];exact Nat.mod_lt _ (by decide)))
   have eo:QX ((u*4294967296+u1) / Y) ((v*4294967296+u0) / Y) ((v*4294967296+u0) % Y) s=UC h l y:=by
    unfold QX UC
    rw [← g1,← g2,Nat.min_eq_left (show s≤64 by omega),Nat.mul_div_cancel _ hp]
   rw [eo] at fin
   exact fin
def oH:List Int→Option (List (Bool×Bool)×AV)
 | [h,l,y]=>some ([(decide (h<y),true)],UC h.toNat l.toNat y.toNat)
 | _=>none
noncomputable def S22:List (FuncId×ASpec):=(242,FG (QT [.u64,.u64,.u64] oH))::S21
theorem ID:AM Tryz.prog S22:=⟨GS Tryz.func242 (by kernel_rfl) (by kernel_rfl) (ZJ fun is c v h hh hc=>by
 unfold oH at h
 split at h
 ·rename_i h0 l0 y0
  injection h with h;injection h with h1 h2;subst h1;subst h2
  obtain ⟨q1,q2,q3,_⟩:=hh
  have b1:=C' q1
  have b2:=C' q2
  have b3:=C' q3
  obtain ⟨H,rfl⟩:=Int.eq_ofNat_of_zero_le b1.1
  obtain ⟨L,rfl⟩:=Int.eq_ofNat_of_zero_le b2.1
  obtain ⟨Y,rfl⟩:=Int.eq_ofNat_of_zero_le b3.1
  have hlt:=hc.1
  simp only [decide_eq_true_eq] at hlt
  rw [Int.toNat_natCast,Int.toNat_natCast,Int.toNat_natCast]
  exact AFF (by omega) (show L<18446744073709551616 by omega) (show Y<18446744073709551616 by omega)
 ·cases h),E4⟩
def hw (a b:Int):Int:=bits .or .u64 (Int.fdiv a (2^min (Int.toNat 1) 64)) (mW (b*2^min (Int.toNat 63) 64))
theorem MW {a b:Int} (ha:0≤a∧a<18446744073709551616) (hb:0≤b∧b<18446744073709551616):hw a b=a / 2+b % 2*9223372036854775808:=by
 obtain ⟨A,rfl⟩:=Int.eq_ofNat_of_zero_le ha.1
 obtain ⟨B,rfl⟩:=Int.eq_ofNat_of_zero_le hb.1
 unfold hw
 have e1:Int.fdiv (A:Int) (2^min (Int.toNat 1) 64)=((A / 2:Nat):Int):=JC A 1
 have e2:mW ((B:Int)*2^min (Int.toNat 63) 64)=((B % 2*2^63:Nat):Int):=by
  have:(B:Int)*2^min (Int.toNat 63) 64=((B*9223372036854775808:Nat):Int):=by rw [Int.natCast_mul];rfl
  rw [this,MR];omega
 have hlt:A / 2<2^63:=by omega
 have h:=ZM (h:=B % 2) (s:=63) (B:=A / 2) (by unfold B_;omega) hlt (by decide)
 have comm:∀ x y:Int,bits .or .u64 x y=bits .or .u64 y x:=fun x y=>by simp only [bits,BitVec.or_comm]
 rw [e1,e2,comm,h]
 omega
def oI (x:Nat) (h:Int):List Ch:=w6 (hw (AF x 0) (AF x 1)) (hw (AF x 1) (AF x 2)) (hw (AF x 2) (AF x 3)) (hw (AF x 3) (AF x 4)) (hw (AF x 4) (AF x 5)) (hw (AF x 5) h)
def E5 (x:Nat):Blk:=⟨30,[.num 6 x],false⟩
def F0 (x h:Nat):Nat:=(x+h % 2*RR) / 2
theorem AFG (x:Nat) (h:Int):AQ Tryz.prog (AJ S22 K0) Tryz.f243 300 1 [0] (Ah Tryz.f243 [.val false [.p 0 0],.val false [.v (.int .u64 h)]] [(0,some (E5 x))] 1 []) =
 some (H9 12,[0],.tup [],[(0,some ⟨30,oI x h,false⟩)]):=by kernel_rfl
theorem AFH {x h:Nat} (hx:x<RR) (hh:h<18446744073709551616) {β:Env} {l:List Value} (hr:AH β (oI x h) l):AH β [.num 6 (F0 x h)] l:=by
 have b0:=BF x 0
 have b1:=BF x 1
 have b2:=BF x 2
 have b3:=BF x 3
 have b4:=BF x 4
 have b5:=BF x 5
 have hX:=MK (x:=x) (by rw [← Dd];exact hx)
 have e0:=MW b0 b1
 have e1:=MW b1 b2
 have e2:=MW b2 b3
 have e3:=MW b3 b4
 have e4:=MW b4 b5
 have e5:=MW (b:=(h:Int)) b5 (by omega)
 have hb:∀ {a b:Int},0≤a∧a<18446744073709551616→0≤b∧b<18446744073709551616→0≤hw a b∧hw a b<18446744073709551616:=fun ha hb=>by rw [MW ha hb];omega
 have:=Ti (β:=β) (u:=.agg ⟨l⟩) (y:=F0 x h) (hb b0 b1) (hb b1 b2) (hb b2 b3) (hb b3 b4) (hb b4 b5) (hb b5 (show 0≤(h:Int)∧(h:Int)<18446744073709551616 by omega)) (by
  unfold F0 EP at *
  unfold RR
  omega) ⟨l,hr,rfl⟩
 obtain ⟨l',h1,h2⟩:=this
 injection h2 with h2;injection h2 with h2;subst h2
 exact h1
theorem AFI {x h:Nat} (hx:x<RR) (hh:h<18446744073709551616):AY Tryz.prog 243 [.val false [.p 0 0],.val false [.v (.int .u64 (h:Int))]] [(0,some (E5 x))] 1 [0] (.tup []) [(0,some (E5 (F0 x h)))]:=by
 intro β us w ha hg hf
 have:=Ax Tryz.func243 (by kernel_rfl) (args0:=[.val false [.p 0 0],.val false [.v (.int .u64 (h:Int))]]) (H0:=[(0,some (E5 x))]) (k0:=1) (path:=[]) (W:=[0]) (by kernel_rfl) (fun β0 w0 hb=>Aw (AN ID AZ) AE Tryz.func243 (AFG x h) (OG _) (AR (by kernel_rfl)) hb (fun _ h=>h)) β us w ha hg hf
 exact Calls.mono this fun e w' h=>Ts (fun _ _ hr=>AFH hx hh hr) h
def halfSpec:ASpec:=fun args H fr path =>
 match args with
 | [.val false [.p k 0],A]=>match A' (some A),AB H k with
  | some (_,.u64,h),some ⟨ty,c,false⟩=>match Nat.beq ty 30,B8 6 c with
   | true,some x=>some (Az [k] 1 fr 0 [0] (.tup []) [(0,some (E5 (F0 x h.toNat)))] [] path)
   | _,_=>none
  | _,_=>none
 | _=>none
theorem AFJ {β:Env} {H:Heap} {w:World} {k:Nat} {b:Blk} {c:List Ch} (g:Ex.Good β H w) (hk:AB H k=some b) (hc:∀ l,AH β b.cs l→AH (Ap β [k] 1) c l):Ex.Good (Ap β [k] 1) [(0,some ⟨b.ty,c,b.opn⟩)] w:=by
 refine P' (ρ:=[k]) (bs:=[⟨b.ty,c,b.opn⟩]) g (fun j d hj=>?_) fun i j d hi hr hij hj=>?_
 ·match j,hj with
  | 0,hj=>injection hj with hj;subst hj;exact ⟨b,hk,.inr ⟨rfl,rfl⟩,hc⟩
 ·match i,j,hi,hj,hij with
  | 0,0,_,_,q=>exact absurd rfl q
theorem AFK:A6 Tryz.prog 243 halfSpec:=by
 refine GO Tryz.func243 (by kernel_rfl) (by kernel_rfl) fun args H fr path r h=>?_
 unfold halfSpec at h
 split at h
 case h_2=>cases h
 rename_i k A
 split at h
 case h_2=>cases h
 rename_i c0 i ty c hA hk
 split at h
 case h_2=>cases h
 rename_i x hty hx
 injection h with h
 have hty':=Ad.1 hty
 subst hty'
 refine ⟨[k],[.val false [.p 0 0],.val false [.v (.int .u64 (i.toNat:Int))]],[(0,some (E5 x))],1,0,[0],.tup [],_,[],path,h.symm,fun β us w ha hg hc=>?_⟩
 obtain ⟨u1,us1,r1,⟨u2,us2,r2,ha,rfl⟩,rfl⟩:=ha
 obtain ⟨rfl,p1⟩:=Bt (β:=β) (u:=u2) (fun B hB=>by injection hB with hB;subst hB;exact r2) hA
 have hb:=C' p1
 obtain ⟨l,g1⟩:=GQ hg hk
 have hi:((i.toNat:Nat):Int)=i:=Int.toNat_of_nonneg hb.1
 refine ⟨AFI (by rw [Dd];exact (EO hx g1).2) (by omega),by kernel_rfl,⟨u1,_,r1,⟨_,us2,?_,ha,rfl⟩,rfl⟩,AFJ (c:=[.num 6 x]) hg hk (fun l h=>Ef hx h),fun j hj=>?_⟩
 ·rw [hi];exact Am ⟨rfl,rfl,p1⟩
 ·match j,hj with
  | 0,_=>exact BH (hg.heap _ _ hk)
noncomputable def S23:List (FuncId×ASpec):=(243,halfSpec)::S22
theorem QY:AM Tryz.prog S23:=⟨AFK,ID⟩
def UD:List AV:=[.val false [.p 0 0],.val false [.p 1 0]]
def JD (u x:Nat):Heap:=[(0,some (E5 u)),(1,some (E5 x))]
noncomputable def AFL:List Item:=C3 (Aa Tryz.prog (AJ S23 K0) (some 0) 300 2 none (Ah Tryz.f184 UD (JD 0 0) 2 []))
noncomputable def evT:List AV:=.val false [.p 0 0]::.val false [.p 1 0]::List.replicate (Tryz.f184.ntmps-2) .any
noncomputable def MX (u x:Nat) (p:List Bool):ASt:=⟨AFL,⟨evT,JD u x,2,p⟩⟩
abbrev KE:Option (List Nat×List Nat×Nat):=some ([0,1],[0,1],2)
def JE (x:Nat):Int:=bits .and .u64 (AF x 0) 1
theorem AFN (u x:Nat):Aa Tryz.prog (AJ S23 K0) (some 3) 300 2 KE (Ah Tryz.f184 UD (JD u x) 2 [])=some ([],[],MX u x []):=by kernel_rfl
theorem AFO (u x:Nat):Aa Tryz.prog (AJ S23 K0) (some 3) 300 2 KE (MX u x [true,true])=some ([(decide (JE u=0),true),(decide (JE x=0),true)],[0,1],MX (F0 u 0) (F0 x 0) []):=by kernel_rfl
theorem AFP (u x:Nat):Aa Tryz.prog (AJ S23 K0) (some 3) 300 2 KE (MX u x [true,false]) =
 some ([(decide (JE u=0),true),(decide (JE x=0),false),(BJ 0,true),(BJ (BK x pN 1),true),(BJ (BK x pN 2),true),(BJ (BK x pN 3),true),(BJ (BK x pN 4),true),(BJ (BK x pN 5),true)],[0,1],
  MX (F0 u 0) (F0 (MN x pN) (BK x pN 6).toNat) []):=by kernel_rfl
theorem AFQ (u x:Nat):AQ Tryz.prog (AJ S23 K0) Tryz.f184 300 2 [0,1] (MX u x [false])=some ([(decide (JE u=0),false)],[],.tup [],JD u x):=by kernel_rfl
def FI (x:Nat):Nat:=if x % 2=0 then x / 2 else (x+pN) / 2
def Ei:Nat→Nat→Nat→Nat×Nat
 | 0,u,x=>(u,x)
 | f+1,u,x=>if u % 2=0 then Ei f (u / 2) (FI x) else (u,x)
theorem oJ (x:Nat):JE x=((x % 2:Nat):Int):=by
 unfold JE
 rw [mM,mN _ (by omega)]
 omega
theorem ZN (x:Nat):F0 x 0=x / 2:=by unfold F0;simp
theorem AFR {x:Nat} (hx:x<RR):F0 (MN x pN) (BK x pN 6).toNat=(x+pN) / 2:=by
 obtain ⟨h1,h2⟩:=lM (y:=pN) hx (by decide)
 have:=Ed x pN 6
 unfold F0
 have h01:(BK x pN 6).toNat=0∨(BK x pN 6).toNat=1:=by omega
 rcases h01 with e | e<;>rw [e] at h1 ⊢<;>congr 1<;>omega
theorem oK {x:Nat} (h:x<RR):FI x<RR:=by
 have hp:pN<RR:=by decide
 unfold FI;split<;>omega
theorem AFS {β0:Env} {w0:World} (hb:∀ b,2≤b→β0 b=none):∀ (f u x:Nat),0<u→u≤f→u<RR→x<RR →
  ASafe Tryz.prog 184 β0 w0 (A7 β0 w0 [0,1] (.tup []) (JD (Ei f u x).1 (Ei f u x).2)) Tryz.f184.ntmps [0,1] (MX u x []):=by
 intro f
 induction f with
 | zero=>intro u x h1 h2;omega
 | succ f ih =>
  intro u x h1 h2 hu hx
  have ou:=oJ u
  have ox:=oJ x
  unfold Ei
  by_cases h:u % 2=0
  ·rw [if_pos h]
   have hd:decide (JE u=0)=true:=by rw [ou,h];rfl
   by_cases hx2:x % 2=0
   ·refine Af [true,true] (Aj (AN QY AZ) AE (AFO u x) ⟨hd,by rw [ox,hx2];rfl,trivial⟩ (AR (by kernel_rfl)) hb (fun _ h=>h) fun _=>?_)
    have e:FI x=x / 2:=if_pos hx2
    rw [ZN,ZN,← e]
    exact ih (u / 2) (FI x) (by omega) (by omega) (by omega) (oK hx)
   ·refine Af [true,false] (Aj (AN QY AZ) AE (AFP u x) ⟨hd,by rw [ox];simp only [decide_eq_false_iff_not];omega,rfl,Co (Ed _ _ _),Co (Ed _ _ _),Co (Ed _ _ _),Co (Ed _ _ _),Co (Ed _ _ _),trivial⟩ (AR (by kernel_rfl)) hb (fun _ h=>h) fun _=>?_)
    have e:FI x=(x+pN) / 2:=if_neg hx2
    rw [ZN,AFR hx,← e]
    exact ih (u / 2) (FI x) (by omega) (by omega) (by omega) (oK hx)
  ·rw [if_neg h]
   have hd:decide (JE u=0)=false:=by rw [ou];simp only [decide_eq_false_iff_not];omega
   exact Af [false] (Aw (AN QY AZ) AE Tryz.func184 (AFQ u x) ⟨hd,trivial⟩ (AR (by kernel_rfl)) hb (fun _ h=>by cases h))
theorem AFT {u x:Nat} (h0:0<u) (hu:u<RR) (hx:x<RR):AY Tryz.prog 184 UD (JD u x) 2 [0,1] (.tup []) (JD (Ei u u x).1 (Ei u u x).2) :=
 Ax (path:=[]) Tryz.func184 (by kernel_rfl) (by kernel_rfl) fun β0 w0 hb =>
  Aj (AN QY AZ) AE (AFN u x) trivial (AR (by kernel_rfl)) hb (fun _ h=>by cases h) fun _=>AFS hb u u x h0 (Nat.le_refl _) hu hx
def evSpec:ASpec:=fun args H fr path =>
 match args with
 | [.val false [.p k 0],.val false [.p t 0]]=>match AB H k,AB H t,Nat.beq k t with
  | some ⟨ty,c,false⟩,some ⟨ty',d,false⟩,false=>match Nat.beq ty 30,B8 6 c,Nat.beq ty' 30,B8 6 d with
   | true,some u,true,some x=>some (Az [k,t] 2 fr 0 [0,1] (.tup []) (JD (Ei u u x).1 (Ei u u x).2) [(decide (0<u),true)] path)
   | _,_,_,_=>none
  | _,_,_=>none
 | _=>none
theorem AFU:A6 Tryz.prog 184 evSpec:=by
 refine GO Tryz.func184 (by kernel_rfl) (by kernel_rfl) fun args H fr path r h=>?_
 unfold evSpec at h
 split at h
 case h_2=>cases h
 rename_i k t
 split at h
 case h_2=>cases h
 rename_i ty c ty' d hk ht hne
 split at h
 case h_2=>cases h
 rename_i u x hty hu hty' hx
 injection h with h
 have hty1:=Ad.1 hty
 have hty2:=Ad.1 hty'
 subst hty1;subst hty2
 have hne':k≠t:=fun e=>by subst e;rw [Ad.2 rfl] at hne;cases hne
 refine ⟨[k,t],UD,JD u x,2,0,[0,1],.tup [],_,_,path,h.symm,fun β us w ha hg hc=>?_⟩
 obtain ⟨u1,us1,r1,⟨u2,us2,r2,ha,rfl⟩,rfl⟩:=ha
 obtain ⟨l,g1⟩:=GQ hg hk
 obtain ⟨l',g2⟩:=GQ hg ht
 have h0:0<u:=by simpa using hc.1
 refine ⟨AFT h0 (by rw [Dd];exact (EO hu g1).2) (by rw [Dd];exact (EO hx g2).2),by kernel_rfl,⟨u1,_,r1,⟨u2,us2,r2,ha,rfl⟩,rfl⟩,lX (c:=[.num 6 u]) (e:=[.num 6 x]) hg hk ht hne' (fun l h=>Ef hu h) (fun l h=>Ef hx h),fun j hj=>?_⟩
 match j,hj with
 | 0,_=>exact BH (hg.heap _ _ hk)
 | 1,_=>exact BH (hg.heap _ _ ht)
noncomputable def S24:List (FuncId×ASpec):=(184,evSpec)::S23
theorem MY:AM Tryz.prog S24:=⟨AFU,QY⟩
def JF (b:Blk):Blk:=match B8 6 b.cs with
 | some x=>⟨b.ty,[.num 6 x],b.opn⟩
 | none=>b
def MZ:Heap→Heap
 | []=>[]
 | (k,some b)::r=>(k,some (JF b))::MZ r
 | (k,none)::r=>(k,none)::MZ r
theorem QZ (b:Nat):∀ H:Heap,AB (MZ H) b=(AB H b).map JF
 | []=>rfl
 | (k,some x)::r=>by
  simp only [MZ,AB]
  split
  ·rfl
  ·exact QZ b r
 | (k,none)::r=>by
  simp only [MZ,AB]
  split
  ·rfl
  ·exact QZ b r
theorem oL (b:Blk):(JF b).ty=b.ty∧(JF b).opn=b.opn:=by unfold JF;split<;>exact ⟨rfl,rfl⟩
theorem AFV {P:Program} {f:FuncId} {β0:Env} {w0:World} {R:Ending→World→Prop} {n:Nat} {W:List Nat} {todo:List Item} {T:List AV} {H:Heap} {fr:Nat} {p:List Bool} (h:ASafe P f β0 w0 R n W ⟨todo,⟨T,MZ H,fr,p⟩⟩):ASafe P f β0 w0 R n W ⟨todo,⟨T,H,fr,p⟩⟩:=by
 intro β a w hi hf
 refine h β a w { hi with good:=⟨fun b blk hb=>?_,fun b b' B n n' h1 h2 h3 h4=>?_,hi.good.lt⟩ } hf
 ·have hb':(AB H b).map JF=some blk:=by rw [← QZ];exact hb
  obtain ⟨x,hx,rfl⟩:=Option.map_eq_some_iff.1 hb'
  refine Tr (hi.good.heap b x hx) rfl (.inr (oL x)) fun l hl=>?_
  unfold JF
  split
  ·rename_i y hy;exact Ef hy hl
  ·exact hl
 ·refine hi.good.inj b b' B n n' ?_ ?_ h3 h4
  ·obtain ⟨d,hd,hr⟩:=FB h1
   have hd':(AB H b).map JF=some d:=by rw [← QZ];exact hd
   obtain ⟨x,hx,rfl⟩:=Option.map_eq_some_iff.1 hd'
   exact EN hx (by rw [← (oL x).1];exact hr)
  ·have h2':((AB H b').map JF).isSome=true:=by rw [← QZ];exact h2
   rwa [Option.isSome_map] at h2'
noncomputable def oM:List Item:=C3 (Aa Tryz.prog (AJ S24 K0) (some 0) 300 0 none (Ah Tryz.f115 [Ao 0] [] 0 [false]))
noncomputable def oO:List AV:=.any::.any::.val false [.p 1 0]::.val false [.p 2 0]::.val false [.p 3 0]::.val false [.p 4 0]::.val false [.p 5 0]::.val false [.p 6 0]::List.replicate (Tryz.f115.ntmps-8) .any
def oP (u v x y:Nat):Heap:=[(1,some (E5 0)),(2,some (E5 u)),(3,some (E5 v)),(4,some (E5 x)),(5,some (E5 y)),(6,some (E5 1))]
noncomputable def Ma (u v x y:Nat) (p:List Bool):ASt:=⟨oM,⟨oO,oP u v x y,7,p⟩⟩
abbrev KI:Option (List Nat×List Nat×Nat):=some ([2,3,4,5,6,7],[1,2,3,4,5,6],7)
def oQ (a:Nat):Heap:=[(1,some ⟨30,ML,false⟩),(2,some (E5 (a % pN))),(3,some ⟨30,Pw,false⟩),(4,some ⟨30,[.n .u64 1,.n .u64 0,.n .u64 0,.n .u64 0,.n .u64 0,.n .u64 0],false⟩),(5,some ⟨30,ML,false⟩),(6,some ⟨30,[.n .u64 1,.n .u64 0,.n .u64 0,.n .u64 0,.n .u64 0,.n .u64 0],false⟩)]
theorem AFW (a:Nat):Aa Tryz.prog (AJ S24 K0) (some 0) 300 0 KI (Ah Tryz.f115 [Ao a] [] 0 [false])=some ([(decide (a % pN=0),false)],[],⟨oM,⟨oO,oQ a,7,[]⟩⟩):=by kernel_rfl
theorem inv_zero (a:Nat):Ey Tryz.prog (AJ S24 K0) Tryz.f115 300 0 (Ah Tryz.f115 [Ao a] [] 0 [true])=some ([(decide (a % pN=0),true)],[],Ao (a % pN)):=by kernel_rfl
theorem AFX (a:Nat):MZ (oQ a)=oP (a % pN) pN 1 0:=by kernel_rfl
def E1 (u x:Nat):Nat:=(Ei u u x).1
def E2 (u x:Nat):Nat:=(Ei u u x).2
section
variable (u v x y:Nat)
def UE (r:List (Bool×Bool)):List (Bool×Bool):=(decide (0<u),true)::(decide (0<v),true)::r
def UF:Bool:=decide (0≤Fy (AL (AA (JA (E1 u x)) (0+0*1) (6-0))) (AL (AA (JA (E1 v y)) (0+0*1) (6-0))))
theorem AFY:Ey Tryz.prog (AJ S24 K0) Tryz.f115 300 0 (Ma u v x y [true])=some (UE u v [(decide (E1 u x=1),true)],[],Ao (E2 u x)):=by kernel_rfl
theorem AFZ:Ey Tryz.prog (AJ S24 K0) Tryz.f115 300 0 (Ma u v x y [false,true])=some (UE u v [(decide (E1 u x=1),false),(decide (E1 v y=1),true)],[],Ao (E2 v y)):=by kernel_rfl
theorem AFa:Aa Tryz.prog (AJ S24 K0) (some 0) 300 0 KI (Ma u v x y [false,false,true]) =
 some (UE u v ((decide (E1 u x=1),false)::(decide (E1 v y=1),false)::(H9 4++[(UF u v x y,true)])),[],Ma ((E1 u x+(RR-E1 v y)) % RR) (E1 v y) (ED (E2 u x) (E2 v y)) (E2 v y) []):=by kernel_rfl
theorem AFb:Aa Tryz.prog (AJ S24 K0) (some 0) 300 0 KI (Ma u v x y [false,false,false]) =
 some (UE u v ((decide (E1 u x=1),false)::(decide (E1 v y=1),false)::(H9 4++[(UF u v x y,false)])),[],Ma (E1 u x) ((E1 v y+(RR-E1 u x)) % RR) (E2 u x) (ED (E2 v y) (E2 u x)) []):=by kernel_rfl
end
end Go.Proofs.YtojnabmgolpodaaGreat
namespace Go.Proofs.YtojnabmgolpodaaGreat
open Ex Num
set_option maxRecDepth 100000
set_option maxHeartbeats 4000000
instance neZero_pN:NeZero pN:=⟨by decide⟩
def tf (x:Nat):Fin pN:=CT pN x
theorem K7 (x:Nat):tf (x % pN)=tf x:=m8 x
theorem Mk {x y:Nat}:tf x=tf y↔x % pN=y % pN:=T7
theorem IE (x y:Nat):tf (x+y)=tf x+tf y:=m9 x y
theorem K8 (x y:Nat):tf (x*y)=tf x*tf y:=nA x y
theorem JG (x y:Nat):tf (DH x y)=tf x+tf y:=by unfold DH;rw [K7,IE,K7,K7]
theorem EE (x y:Nat):tf (Ag x y)=tf x*tf y:=by unfold Ag;rw [K7,K8]
theorem ZO (x:Nat):tf (Df x)=- tf x:=by unfold Df;rw [K7];exact AEG x
theorem IF (x y:Nat):tf (ED x y)=tf x-tf y:=by unfold ED;rw [JG,ZO];grind
theorem tf_zero:tf 0=0:=nC
theorem F1:tf 1=1:=AEF
theorem Ml {x y:Nat} (hx:x<pN) (hy:y<pN) (h:tf x=tf y):x=y:=AEH hx hy h
theorem UG (x y:Nat):DH x y<pN:=Nat.mod_lt _ Cp
theorem JH (x y:Nat):ED x y<pN:=UG _ _
theorem UH {x:Nat}:tf x=0↔x % pN=0:=by rw [← tf_zero,Mk,Nat.zero_mod]
theorem AFc {a b:Fin pN} (h:a*b=0):a=0∨b=0:=AEI pN_prime h
noncomputable def CA (a:Nat):Nat:=Eh a (pN-2)
theorem oS (a:Nat):CA a<pN:=nP _ _
theorem oT {a:Nat} (h:a % pN=0):CA a=0:=by
 unfold CA
 rw [Ku,Nat.pow_mod,h,Nat.zero_pow (by decide)];rfl
theorem oU {a:Nat} (h:a % pN≠0):tf a*tf (CA a)=1:=by
 have ha:¬ pN∣a:=fun hd=>h (Nat.mod_eq_zero_of_dvd hd)
 have hf:=OL pN_prime ha
 rw [← K8,← F1,Mk]
 unfold CA
 rw [Ku]
 have e:pN-1=(pN-2)+1:=by have:=nL;omega
 rw [e,Nat.pow_succ] at hf
 rw [Nat.mul_mod_mod,Nat.mul_comm,hf];rfl
theorem oV {a x:Nat} (hx:x<pN) (h:tf a*tf x=1):x=CA a:=by
 have ha:a % pN≠0:=fun e=>by
  rw [UH.2 e] at h
  have:(0:Fin pN)*tf x=0:=by grind
  rw [this] at h
  have h2:tf 0=tf 1:=by rw [tf_zero,F1];exact h
  have:=Ml Cp (show 1<pN by decide) h2
  cases this
 have h2:=oU ha
 refine Ml hx (oS a) ?_
 grind
theorem AFd {A B:Fin pN} (h:A+A=B+B):A=B:=by
 have h0:(A-B)*tf 2=0:=by
  have:tf 2=1+1:=by rw [← F1,← IE]
  rw [this];grind
 rcases AFc h0 with e | e
 ·grind
 ·exfalso
  have:=Ml (show 2<pN by decide) Cp (e.trans tf_zero.symm)
  cases this
theorem AFe {x:Nat} (hx:x<pN):tf (FI x)+tf (FI x)=tf x∧FI x<pN:=by
 have hodd:=QQ
 constructor
 ·rw [← IE,Mk]
  unfold FI
  split
  ·congr 1;omega
  ·rw [show (x+pN) / 2+(x+pN) / 2=x+pN by omega,Nat.add_mod_right]
 ·unfold FI;split<;>omega
theorem ZP {a:Nat}:∀ (f u x:Nat),0<u→u≤f→x<pN→tf a*tf x=tf u→(Ei f u x).1 % 2=1∧(Ei f u x).1∣u∧(Ei f u x).2<pN∧tf a*tf (Ei f u x).2=tf (Ei f u x).1
 | 0,u,x,h1,h2,_,_=>by omega
 | f+1,u,x,h1,h2,hx,h=>by
  unfold Ei
  by_cases hu:u % 2=0
  ·rw [if_pos hu]
   obtain ⟨q1,q2⟩:=AFe hx
   have e:tf (u / 2)+tf (u / 2)=tf u:=by rw [← IE];congr 1;omega
   have q3:tf a*tf (FI x)=tf (u / 2):=AFd (by rw [e,← h,← q1];grind)
   obtain ⟨i1,i2,i3,i4⟩:=ZP (a:=a) f (u / 2) (FI x) (by omega) (by omega) q2 q3
   exact ⟨i1,Nat.dvd_trans i2 ⟨2,by omega⟩,i3,i4⟩
  ·rw [if_neg hu]
   exact ⟨by omega,Nat.dvd_refl u,hx,h⟩
theorem AFf {u v x y:Nat} (h1:E1 u x<RR) (h2:E1 v y<RR):UF u v x y=decide (E1 v y≤E1 u x):=by
 unfold UF
 rw [OJ h1,OJ h2]
 unfold Fy
 by_cases c1:E1 u x<E1 v y
 ·rw [if_pos c1,decide_eq_false (by omega),decide_eq_false (by omega)]
 ·rw [if_neg c1]
  by_cases c2:E1 v y<E1 u x
  ·rw [if_pos c2,decide_eq_true (by omega),decide_eq_true (by omega)]
  ·rw [if_neg c2,decide_eq_true (by omega),decide_eq_true (by omega)]
theorem oW {u v:Nat} (h:v≤u) (hu:u<RR):(u+(RR-v)) % RR=u-v:=by
 rw [show u+(RR-v)=(u-v)+RR by omega,Nat.add_mod_right,Nat.mod_eq_of_lt (by omega)]
theorem AFg (a:Nat) (w0:World):∀ (m u v x y:Nat),u+v≤m→0<u→0<v→u<RR→v<RR→x<pN→y<pN→Nat.Coprime u v→tf a*tf x=tf u→tf a*tf y=tf v →
  ASafe Tryz.prog 115 B0 w0 (MB w0 (Ao (CA a))) Tryz.f115.ntmps [] (Ma u v x y []):=by
 intro m
 induction m with
 | zero=>intro u v x y h1 h2;omega
 | succ m ih =>
  intro u v x y hm hu hv hur hvr hx hy hg h1 h2
  obtain ⟨a1,a2,a3,a4⟩:=ZP (a:=a) u u x hu (Nat.le_refl _) hx h1
  obtain ⟨b1,b2,b3,b4⟩:=ZP (a:=a) v v y hv (Nat.le_refl _) hy h2
  have a5:=Nat.le_of_dvd hu a2
  have b5:=Nat.le_of_dvd hv b2
  change E1 u x % 2=1 at a1
  change E1 u x∣u at a2
  change E2 u x<pN at a3
  change tf a*tf (E2 u x)=tf (E1 u x) at a4
  change E1 u x≤u at a5
  change E1 v y % 2=1 at b1
  change E1 v y∣v at b2
  change E2 v y<pN at b3
  change tf a*tf (E2 v y)=tf (E1 v y) at b4
  change E1 v y≤v at b5
  have hg':Nat.Coprime (E1 u x) (E1 v y):=(hg.coprime_dvd_left a2).coprime_dvd_right b2
  have c0:decide (0<u)=true:=decide_eq_true hu
  have c1:decide (0<v)=true:=decide_eq_true hv
  have iP:=AFf (u:=u) (v:=v) (x:=x) (y:=y) (by omega) (by omega)
  by_cases hu1:E1 u x=1
  ·have h:=H5 (w0:=w0) (β0:=B0) (n:=Tryz.f115.ntmps) (AN MY AZ) AE Tryz.func115 (AFY u v x y) ⟨c0,c1,decide_eq_true hu1,trivial⟩ (AR (by kernel_rfl)) (fun _ _=>rfl) rfl
   rw [oV (a:=a) a3 (by rw [a4,hu1,F1])] at h
   exact Af [true] h
  ·by_cases hv1:E1 v y=1
   ·have h:=H5 (w0:=w0) (β0:=B0) (n:=Tryz.f115.ntmps) (AN MY AZ) AE Tryz.func115 (AFZ u v x y) ⟨c0,c1,decide_eq_false hu1,decide_eq_true hv1,trivial⟩ (AR (by kernel_rfl)) (fun _ _=>rfl) rfl
    rw [oV (a:=a) b3 (by rw [b4,hv1,F1])] at h
    exact Af [false,true] h
   ·have hne:E1 u x≠E1 v y:=fun e=>by
     rw [← e] at hg'
     exact hu1 ((Nat.coprime_self _).1 hg')
    by_cases hle:E1 v y≤E1 u x
    ·refine Af [false,false,true] (Aj (AN MY AZ) AE (AFa u v x y) ⟨c0,c1,decide_eq_false hu1,decide_eq_false hv1,rfl,rfl,rfl,rfl,by rw [iP];exact decide_eq_true hle,trivial⟩ (AR (by kernel_rfl)) (fun _ _=>rfl) (fun _ h=>by cases h) fun _=>?_)
     rw [oW hle (by omega)]
     refine ih _ _ _ _ (by omega) (by omega) (by omega) (by omega) (by omega) (JH _ _) b3 ?_ ?_ b4
     ·exact (Nat.gcd_sub_self_left hle).trans hg'
     ·have e:tf (E1 u x-E1 v y)=tf (E1 u x)-tf (E1 v y):=Y_ hle
      rw [IF,e,← a4,← b4];grind
    ·refine Af [false,false,false] (Aj (AN MY AZ) AE (AFb u v x y) ⟨c0,c1,decide_eq_false hu1,decide_eq_false hv1,rfl,rfl,rfl,rfl,by rw [iP];exact decide_eq_false hle,trivial⟩ (AR (by kernel_rfl)) (fun _ _=>rfl) (fun _ h=>by cases h) fun _=>?_)
     rw [oW (by omega) (by omega)]
     refine ih _ _ _ _ (by omega) (by omega) (by omega) (by omega) (by omega) a3 (JH _ _) ?_ a4 ?_
     ·exact Nat.Coprime.symm ((Nat.gcd_sub_self_left (show E1 u x≤E1 v y by omega)).trans hg'.symm)
     ·have e:tf (E1 v y-E1 u x)=tf (E1 v y)-tf (E1 u x):=Y_ (by omega)
      rw [IF,e,← a4,← b4];grind
theorem oX (a:Nat):AW Tryz.prog 115 [Ao a] (Ao (CA a)):=by
 refine TZ (path:=[]) Tryz.func115 (by kernel_rfl) (by kernel_rfl) fun w0=>?_
 by_cases h:a % pN=0
 ·have h1:=H5 (w0:=w0) (β0:=B0) (n:=Tryz.f115.ntmps) (AN MY AZ) AE Tryz.func115 (inv_zero a) ⟨decide_eq_true h,trivial⟩ (AR (by kernel_rfl)) (fun _ _=>rfl) rfl
  have e:a % pN=CA a:=by rw [h,oT h]
  rw [e] at h1
  exact Af [true] h1
 ·have hp:=H7 a
  have hR:pN<RR:=by decide
  refine Af [false] (Aj (AN MY AZ) AE (AFW a) ⟨decide_eq_false h,trivial⟩ (AR (by kernel_rfl)) (fun _ _=>rfl) (fun _ h=>by cases h) fun _=>?_)
  refine AFV ?_
  rw [AFX]
  refine AFg a w0 (a % pN+pN) (a % pN) pN 1 0 (Nat.le_refl _) (by omega) Cp (by omega) hR (by decide) Cp ?_ ?_ ?_
  ·exact (pN_prime.coprime fun hd=>by have:=Nat.le_of_dvd (by omega) hd;omega).symm
  ·rw [F1,K7];grind
  ·have:tf pN=0:=nF
   rw [tf_zero,this];grind
noncomputable def S25:List (FuncId×ASpec):=(115,As (I9 fun x=>Ao (CA x)))::S24
theorem UI:AM Tryz.prog S25:=⟨Av Tryz.func115 (by kernel_rfl) (by kernel_rfl) (MP fun x _=>oX x),MY⟩
def oY:List (Nat×AV)→Nat→AV
 | [],_=>.any
 | (j,a)::r,i=>match Nat.beq i j with | true=>a | false=>oY r i
def oZ:Nat→Nat→List (Nat×AV)→List AV
 | 0,_,_=>[]
 | f+1,i,l=>oY l i::oZ f (i+1) l
def JI (n:Nat) (l:List (Nat×AV)):List AV:=oZ n 0 l
def AK (k off n m:Nat):AV:=.val false [.sl k off n m]
def iA (i:Int):AV:=.val false [.v (.int .i64 i)]
def Ar (xs:List Int):Heap:=[(0,some (AU [.seq .u8 xs]))]
def IG (f:Nat→Int) (L i:Nat):List Int:=(List.range i).map f++List.replicate (L-i) 0
theorem AFh {f:Nat→Int} {L i:Nat} (h:i≤L):(IG f L i).length=L:=by simp [IG];omega
theorem AFi {f:Nat→Int} {L i:Nat} (h:i<L):(IG f L i).set i (f i)=IG f L (i+1):=by
 unfold IG
 rw [List.set_append_right _ _ (by simp),List.length_map,List.length_range,Nat.sub_self,show L-i=(L-(i+1))+1 by omega,List.replicate_succ,List.set_cons_zero,List.range_succ,List.map_append,List.append_assoc]
 rfl
theorem AFj (f:Nat→Int) (L:Nat):IG f L 0=List.replicate L 0:=by simp [IG]
theorem AFk (f:Nat→Int) (L:Nat):IG f L L=(List.range L).map f:=by simp [IG]
def F2 (A k:Nat):Int:=((A / 256^k % 256:Nat):Int)
def BB (A n:Nat):List Int:=(List.range n).map fun i=>F2 A (n-1-i)
def AT:List Int→Nat
 | []=>0
 | d::r=>d.toNat*256^r.length+AT r
theorem Mm (k:Nat):256^k=2^(8*k):=by rw [Nat.pow_mul]
theorem o5 {n i:Nat} (hn:n≤35184372088832) (h:i<n):wI (wI ((n:Int)-1)-i)=((n-1-i:Nat):Int):=by
 rw [A4 (z:=(n:Int)-1) (by omega),A4 (by omega)];omega
theorem UJ (k:Nat):Int.tdiv (k:Int) 8=((k / 8:Nat):Int):=by rw [Int.tdiv_eq_ediv_of_nonneg (by omega)];rfl
theorem ZQ (k:Nat):Int.tmod (k:Int) 8=((k % 8:Nat):Int):=by rw [Int.tmod_eq_emod_of_nonneg (by omega)];rfl
noncomputable def AFl:List Item:=C3 (Aa Tryz.prog (AJ S25 K0) (some 0) 100 1 none (Ah Tryz.f103 [AK 0 0 0 0,iA 0] (Bm []) 1 []))
noncomputable def Qi (off m c:Nat) (n:Int) (xs:List Int) (L:Nat) (ys:List Int) (i:AV) (p:List Bool):ASt:=⟨AFl,⟨JI Tryz.f103.ntmps [(0,AK 0 off m c),(1,iA n),(5,AK 1 0 L L),(10,AK 1 0 L L),(11,AK 1 0 L L),(12,iA L),(13,i)],
 [(0,some (AU [.seq .u64 xs])),(1,some ⟨5,[.seq .u8 ys],false⟩)],2,p⟩⟩
abbrev o6:Option (List Nat×List Nat×Nat):=some ([0,1,5,10,11,12,13],[0,1],2)
def Qj (n:Int):Nat:=(EQ n 0).toNat
def UK (ys:List Int):Heap:=[(1,some ⟨5,[.seq .u8 ys],false⟩)]
def OQ (m sz:Int):Bool:=decide (0≤m∧m≤m∧sz*m≤281474976710656∧m≤9223372036854775807)
theorem AFm (off m c:Nat) (n:Int) (xs:List Int):Aa Tryz.prog (AJ S25 K0) (some 0) 100 1 o6 (Ah Tryz.f103 [AK 0 off m c,iA n] (Bm xs) 1 []) =
 some ([(OQ (EQ n 0) 1,true),(AI .i64 (Qj n),true)],[],Qi off m c n xs (Qj n) (List.replicate (Qj n) 0) (.val false [.n .i64 0]) []):=by kernel_rfl
def HO (n i:Int):Int:=wI (wI (n-1)-i)
def ZR (xs:List Int) (off m:Nat) (k:Int):Int:=AS false .u8 (Int.fdiv (BZ xs off m (wI (Int.tdiv k 8))) (2^min (wI (8*Int.tmod k 8)).toNat 64))
def o7 (off m:Nat) (n:Int) (xs:List Int) (L:Nat) (ys:List Int) (i:Int):List (Bool×Bool):=[(decide (i<L),true),(true,true),(Nat.ble (off+m) xs.length,true),(AI .i64 m,true),(decide (0≤wI (Int.tdiv (HO n i) 8)),true),
 (decide (0≤HO n i∧(0:Int)<8),true),(decide (0≤wI (8*Int.tmod (HO n i) 8)∧0≤BZ xs off m (wI (Int.tdiv (HO n i) 8))),true),(decide (0≤i∧i<L),true),(decide (0+i.toNat*1<ys.length),true)]
theorem AFn (off m c:Nat) (n:Int) (xs:List Int) (L:Nat) (ys:List Int) (i:Int):Aa Tryz.prog (AJ S25 K0) (some 0) 100 1 o6 (Qi off m c n xs L ys (iA i) [true]) =
 some (o7 off m n xs L ys i,[],Qi off m c n xs L (ys.set (0+i.toNat*1) (ZR xs off m (HO n i))) (iA (wI (i+1))) []):=by kernel_rfl
theorem AFo (off m c:Nat) (n:Int) (xs:List Int) (L:Nat) (ys:List Int) (i:Int):AQ Tryz.prog (AJ S25 K0) Tryz.f103 100 1 [1] (Qi off m c n xs L ys (iA i) [false]) =
 some ([(decide (i<L),false)],[],AK 1 0 L L,UK ys):=by kernel_rfl
theorem AFp {xs:List Int} {off m:Nat} (hx:∀ d∈xs,0≤d∧d<18446744073709551616) {k:Nat} (hk:k≤35184372088832):ZR xs off m (k:Int)=F2 (AL (AA xs off m)) k∧0≤BZ xs off m (wI (Int.tdiv (k:Int) 8)):=by
 have e1:wI (Int.tdiv (k:Int) 8)=((k / 8:Nat):Int):=by rw [UJ];exact A4 (by omega)
 have e2:wI (8*Int.tmod (k:Int) 8)=((8*(k % 8):Nat):Int):=by rw [ZQ,A4 (by omega)];omega
 unfold ZR
 rw [e1,e2,QP hx,Int.toNat_natCast,Nat.min_eq_left (by omega)]
 refine ⟨?_,by omega⟩
 generalize AL (AA xs off m)=A
 have e3:(Int.fdiv ((A / 2^(64*(k / 8)) % 18446744073709551616:Nat):Int) (2^(8*(k % 8))))=((A / 2^(64*(k / 8)) % 18446744073709551616 / 2^(8*(k % 8)):Nat):Int):=by
  rw [Int.fdiv_eq_ediv_of_nonneg _ (by exact_mod_cast Nat.zero_le (2^(8*(k % 8)))),Int.natCast_ediv,Int.natCast_pow];rfl
 rw [e3,C_,IntKind.wrap_u8]
 unfold F2
 have e4:(18446744073709551616:Nat)=2^(8*(k % 8))*2^(64-8*(k % 8)):=by rw [← Nat.pow_add,show 8*(k % 8)+(64-8*(k % 8))=64 by omega]
 have e5:A / 2^(64*(k / 8)) % 18446744073709551616 / 2^(8*(k % 8)) % 256=A / 256^k % 256:=by
  rw [e4,Nat.mod_mul_right_div_self,Nat.div_div_eq_div_mul,← Nat.pow_add,show 64*(k / 8)+8*(k % 8)=8*k by omega,Mm]
  refine Nat.mod_mod_of_dvd _ ?_
  have:64-8*(k % 8)=8+(56-8*(k % 8)):=by omega
  rw [this,Nat.pow_add]
  exact ⟨_,rfl⟩
 rw [← e5];omega
theorem AFq {off m c:Nat} {xs:List Int} (hx:∀ d∈xs,0≤d∧d<18446744073709551616) (hl:off+m≤xs.length) (hm:AI .i64 m=true) {n:Nat} (hn:n≤35184372088832) :
  AY Tryz.prog 103 [AK 0 off m c,iA n] (Bm xs) 1 [] (AK 1 0 n n) (UK (BB (AL (AA xs off m)) n)):=by
 refine Ax (path:=[]) Tryz.func103 (by kernel_rfl) (by kernel_rfl) fun β0 w0 hb=>?_
 have h0:EQ (n:Int) 0=n:=by unfold EQ;split<;>omega
 have h1:Qj (n:Int)=n:=by unfold Qj;rw [h0];omega
 refine Aj (AN UI AZ) AE (AFm off m c n xs) ⟨?_,?_,trivial⟩ (AR (by kernel_rfl)) hb (fun _ h=>by cases h) fun _=>?_
 ·rw [h0];unfold OQ;simp only [decide_eq_true_eq];omega
 ·rw [h1];simp only [AI,Bool.and_eq_true,decide_eq_true_eq];omega
 ·rw [h1]
  refine Kx ?_
  have loop:∀ r i,i+r=n→ASafe Tryz.prog 103 β0 w0 (A7 β0 w0 [] (AK 1 0 n n) (UK (BB (AL (AA xs off m)) n))) Tryz.f103.ntmps [] (Qi off m c n xs n (IG (fun i=>F2 (AL (AA xs off m)) (n-1-i)) n i) (iA i) []):=by
   intro r
   induction r with
   | zero =>
    intro i hi
    obtain rfl:i=n:=by omega
    rw [AFk]
    exact Af [false] (Aw (AN UI AZ) AE Tryz.func103 (AFo ..) ⟨by simp,trivial⟩ (AR (by kernel_rfl)) hb (fun _ h=>by cases h))
   | succ r ih =>
    intro i hi
    have ek:HO (n:Int) i=((n-1-i:Nat):Int):=o5 hn (by omega)
    have ev:=AFp (off:=off) (m:=m) hx (k:=n-1-i) (by omega)
    have ed:wI (Int.tdiv ((n-1-i:Nat):Int) 8)=(((n-1-i) / 8:Nat):Int):=by rw [UJ];exact A4 (by omega)
    refine Af [true] (Aj (AN UI AZ) AE (AFn ..) ?_ (AR (by kernel_rfl)) hb (fun _ h=>by cases h) fun _=>?_)
    ·rw [o7,ek]
     refine ⟨by simp;omega,rfl,Nat.ble_eq_true_of_le hl,hm,by rw [ed];simp only [decide_eq_true_eq];omega,by simp,?_,by simp;omega,by rw [AFh (by omega)];simp;omega,trivial⟩
     have:wI (8*Int.tmod ((n-1-i:Nat):Int) 8)=((8*((n-1-i) % 8):Nat):Int):=by rw [ZQ,A4 (by omega)];omega
     rw [this]
     simp only [decide_eq_true_eq]
     exact ⟨by omega,ev.2⟩
    ·rw [ek,ev.1,A4 (z:=(i:Int)+1) (by omega),show 0+(i:Int).toNat*1=i by omega,AFi (f:=fun i=>F2 (AL (AA xs off m)) (n-1-i)) (by omega)]
     exact ih (i+1) (by omega)
  have:=loop n 0 (by omega)
  rw [AFj] at this
  exact this
def octSpec:ASpec:=fun args H fr path =>
 match args with
 | [.val false [.sl k off m _],I]=>match A' (some I),AB H k with
  | some (_,.i64,i),some ⟨_,cs,_⟩=>match Ak .u64 cs with
   | some xs=>some (Az [k] 1 fr 1 [] (AK 1 0 i.toNat i.toNat) (UK (BB (AL (AA xs off m)) i.toNat)) [(Nat.ble (off+m) xs.length,true),(AI .i64 m,true),(decide (0≤i∧i≤35184372088832),true)] path)
   | none=>none
  | _,_=>none
 | _=>none
theorem AFr:A6 Tryz.prog 103 octSpec:=by
 refine GO Tryz.func103 (by kernel_rfl) (by kernel_rfl) fun args H fr path r h=>?_
 unfold octSpec at h
 split at h
 case h_2=>cases h
 rename_i k off m _c I
 split at h
 case h_2=>cases h
 rename_i c0 i ty cs o hI hk
 split at h
 case h_2=>cases h
 rename_i xs hxs
 injection h with h
 refine ⟨[k],[AK 0 off m _c,iA i],Bm xs,1,1,[],_,_,_,path,h.symm,fun β us w ha hg hc=>?_⟩
 obtain ⟨u1,us1,r1,⟨u2,us2,r2,ha,rfl⟩,rfl⟩:=ha
 obtain ⟨g1,g2,g3⟩:=OI hg hk hxs
 obtain ⟨rfl,p1⟩:=Bt (β:=β) (u:=u2) (fun A hA=>by injection hA with hA;subst hA;exact r2) hI
 have hi:=hc.2.2.1
 simp only [decide_eq_true_eq] at hi
 obtain ⟨n,rfl⟩:=Int.eq_ofNat_of_zero_le hi.1
 exact ⟨AFq g1 (Nat.le_of_ble_eq_true hc.1) hc.2.1 (by omega),by kernel_rfl,⟨u1,_,r1,⟨_,us2,Am ⟨rfl,rfl,p1⟩,ha,rfl⟩,rfl⟩,g2,g3⟩
noncomputable def S26:List (FuncId×ASpec):=(103,octSpec)::S25
theorem UL:AM Tryz.prog S26:=⟨AFr,UI⟩
theorem o8:∀ (a b:List Int),AT (a++b)=AT a*256^b.length+AT b
 | [],b=>by simp [AT]
 | d::r,b=>by
  simp only [List.cons_append,AT,List.length_append]
  rw [o8 r b,Nat.pow_add,Nat.add_mul,Nat.mul_assoc,Nat.add_assoc]
theorem AFs {ws:List Int} {i:Nat} (h:i<ws.length):AT (ws.take (i+1))=AT (ws.take i)*256+(ws.getD i 0).toNat:=by
 rw [List.take_succ_eq_append_getElem h,o8]
 simp [AT,List.getD_eq_getElem?_getD,h]
theorem ZS:∀ (ws:List Int),(∀ d∈ws,0≤d∧d<256)→AT ws<256^ws.length
 | [],_=>by simp [AT]
 | d::r,h=>by
  have hd:=h d (by simp)
  have ih:=ZS r fun d h'=>h d (by simp [h'])
  simp only [AT,List.length_cons,Nat.pow_succ]
  have:d.toNat+1≤256:=by omega
  have h2:=Nat.mul_le_mul_right (256^r.length) this
  rw [Nat.add_mul,Nat.one_mul] at h2
  omega
theorem AFt {M x k i:Nat} (hx:x<256) (hi:i≠k / 8):(M*256^(k+1)+x*256^k) / 2^(64*i) % 2^64=M*256^(k+1) / 2^(64*i) % 2^64:=by
 rw [Mm,Mm]
 rcases Nat.lt_or_gt_of_ne hi with h | h
 ·have e:x*2^(8*k)=2^(64*i)*(2^64*(x*2^(8*k-64*i-64))):=by
   rw [Nat.mul_left_comm (2^64),Nat.mul_left_comm (2^(64*i)),← Nat.pow_add,← Nat.pow_add];congr 2;omega
  rw [e,Nat.add_mul_div_left _ _ (Nat.pow_pos (by decide)),Nat.add_mul_mod_self_left]
 ·have e1:2^(64*i)=2^(8*k)*2^(64*i-8*k):=by rw [← Nat.pow_add];congr 1;omega
  have e2:M*2^(8*(k+1))+x*2^(8*k)=2^(8*k)*(M*256+x):=by
   rw [show 8*(k+1)=8*k+8 by omega,Nat.pow_add,Nat.mul_add,Nat.mul_comm x];congr 1;rw [Nat.mul_left_comm]
  have e3:M*2^(8*(k+1))=2^(8*k)*(M*256):=by rw [show 8*(k+1)=8*k+8 by omega,Nat.pow_add,Nat.mul_left_comm]
  have e4:2^(64*i-8*k)=256*2^(64*i-8*k-8):=by
   rw [show (256:Nat)=2^8 by rfl,← Nat.pow_add];congr 1;omega
  rw [e2,e3,e1,Nat.mul_div_mul_left _ _ (Nat.pow_pos (by decide)),Nat.mul_div_mul_left _ _ (Nat.pow_pos (by decide)),e4,← Nat.div_div_eq_div_mul,← Nat.div_div_eq_div_mul]
  congr 2;omega
theorem AFu {M x k:Nat} (hx:x<256):∃ h B,(M*256^(k+1)) / 2^(64*(k / 8)) % 2^64=h*2^(8*(k % 8)+8)∧x*2^(8*(k % 8))=B∧B<2^(8*(k % 8)+8)∧h*2^(8*(k % 8)+8)<2^64 ∧
  (M*256^(k+1)+x*256^k) / 2^(64*(k / 8)) % 2^64=h*2^(8*(k % 8)+8)+B:=by
 rw [Mm,Mm]
 have e0:2^(8*k)=2^(64*(k / 8))*2^(8*(k % 8)):=by rw [← Nat.pow_add];congr 1;omega
 have e1:2^(8*(k+1))=2^(64*(k / 8))*2^(8*(k % 8)+8):=by rw [← Nat.pow_add];congr 1;omega
 have e2:(2:Nat)^64=2^(8*(k % 8)+8)*2^(56-8*(k % 8)):=by rw [← Nat.pow_add];congr 1;omega
 have e3:2^(8*(k % 8)+8)=2^(8*(k % 8))*256:=by rw [Nat.pow_add]
 have hp:0<2^(64*(k / 8)):=Nat.pow_pos (by decide)
 have q1:M*2^(8*(k+1)) / 2^(64*(k / 8))=M*2^(8*(k % 8)+8):=by
  rw [e1,Nat.mul_left_comm,Nat.mul_div_cancel_left _ hp]
 have q2:(M*2^(8*(k+1))+x*2^(8*k)) / 2^(64*(k / 8))=M*2^(8*(k % 8)+8)+x*2^(8*(k % 8)):=by
  rw [e1,e0,Nat.mul_left_comm M,Nat.mul_left_comm x,← Nat.mul_add,Nat.mul_div_cancel_left _ hp]
 rw [q1,q2]
 have hB:x*2^(8*(k % 8))<2^(8*(k % 8)+8):=by
  rw [e3,Nat.mul_comm];exact Nat.mul_lt_mul_of_pos_left hx (Nat.pow_pos (by decide))
 have m1:M*2^(8*(k % 8)+8) % 2^64=M % 2^(56-8*(k % 8))*2^(8*(k % 8)+8):=by
  rw [e2,Nat.mul_comm M,Nat.mul_mod_mul_left,Nat.mul_comm]
 have hlt:M % 2^(56-8*(k % 8))*2^(8*(k % 8)+8)+2^(8*(k % 8)+8)≤2^64:=by
  have:=Nat.mod_lt M (show 0<2^(56-8*(k % 8)) from Nat.pow_pos (by decide))
  have h2:=Nat.mul_le_mul_right (2^(8*(k % 8)+8)) (show M % 2^(56-8*(k % 8))+1≤2^(56-8*(k % 8)) from this)
  rw [Nat.add_mul,Nat.one_mul,Nat.mul_comm (2^(56-8*(k % 8))),← e2] at h2
  exact h2
 have hp2:0<2^(8*(k % 8)+8):=Nat.pow_pos (by decide)
 refine ⟨M % 2^(56-8*(k % 8)),_,m1,rfl,hB,by omega,?_⟩
 rw [Nat.add_mod,m1]
 have:x*2^(8*(k % 8)) % 2^64=x*2^(8*(k % 8)):=Nat.mod_eq_of_lt (by omega)
 rw [this,Nat.mod_eq_of_lt (by omega)]
def UM (n:Nat):Nat:=(wI (Int.tdiv (wI ((n:Int)+7)) 8)).toNat
noncomputable def AFv:List Item:=C3 (Aa Tryz.prog (AJ S26 K0) (some 0) 100 1 none (Ah Tryz.f58 [AK 0 0 0 0] (Ar []) 1 []))
noncomputable def Qk (off n c:Nat) (xs:List Int) (L:Nat) (ys:List Int) (i:AV) (p:List Bool):ASt:=⟨AFv,⟨JI Tryz.f58.ntmps [(0,AK 0 off n c),(3,AK 1 0 L L),(11,AK 1 0 L L),(12,AK 0 off n c),(13,iA n),(14,i)],
 [(0,some (AU [.seq .u8 xs])),(1,some ⟨24,[.seq .u64 ys],false⟩)],2,p⟩⟩
abbrev o9:Option (List Nat×List Nat×Nat):=some ([0,3,11,12,13,14],[0,1],2)
theorem AFw (off n c:Nat) (xs:List Int):Aa Tryz.prog (AJ S26 K0) (some 0) 100 1 o9 (Ah Tryz.f58 [AK 0 off n c] (Ar xs) 1 []) =
 some ([(AI .i64 n,true),(true,true),(OQ (wI (Int.tdiv (wI ((n:Int)+7)) 8)) 8,true),(AI .i64 n,true)],[],Qk off n c xs (UM n) (List.replicate (UM n) 0) (.val false [.n .i64 0]) []):=by kernel_rfl
def HP (n i:Int):Int:=wI (Int.tdiv (HO n i) 8)
def ZT (xs:List Int) (off:Nat) (n:Int) (ys:List Int) (i:Int):Int :=
 bits .or .u64 (ys.getD (0+(HP n i).toNat*1) 0) (IntKind.u64.wrap (AS false .u64 (xs.getD (off+i.toNat*1) 0)*2^min (wI (8*Int.tmod (HO n i) 8)).toNat 64))
def pA (off n:Nat) (xs:List Int) (L:Nat) (ys:List Int) (i:Int):List (Bool×Bool):=[(decide (i<n),true),(decide (0≤i∧i<n),true),(decide (off+i.toNat*1<xs.length),true),(AI .i64 n,true),(true,true),
 (decide (0≤HP n i∧HP n i<L),true),(decide (0+(HP n i).toNat*1<ys.length),true),(decide (0≤HO n i∧(0:Int)<8),true),(decide (0≤wI (8*Int.tmod (HO n i) 8)),true),(decide (0≤HP n i∧HP n i<L),true),(decide (0+(HP n i).toNat*1<ys.length),true)]
theorem AFx (off n c:Nat) (xs:List Int) (L:Nat) (ys:List Int) (i:Int):Aa Tryz.prog (AJ S26 K0) (some 0) 100 1 o9 (Qk off n c xs L ys (iA i) [true]) =
 some (pA off n xs L ys i,[],Qk off n c xs L (ys.set (0+(HP n i).toNat*1) (ZT xs off n ys i)) (iA (wI (i+1))) []):=by kernel_rfl
def pB (ys:List Int):Heap:=[(1,some ⟨24,[.seq .u64 ys],false⟩)]
theorem AFy (off n c:Nat) (xs:List Int) (L:Nat) (ys:List Int) (i:Int):AQ Tryz.prog (AJ S26 K0) Tryz.f58 100 1 [1] (Qk off n c xs L ys (iA i) [false]) =
 some ([(decide (i<n),false)],[],AK 1 0 L L,pB ys):=by kernel_rfl
def Di (N L:Nat):List Int:=(List.range L).map (AF N)
theorem AFz {N N' L j:Nat} {w:Int} (hj:AF N' j=w) (ho:∀ i,i≠j→AF N' i=AF N i):(Di N L).set j w=Di N' L:=by
 unfold Di
 refine List.ext_getElem (by simp) fun i h1 h2=>?_
 rw [List.getElem_set]
 split
 ·rename_i e;subst e;simp [hj]
 ·rename_i e;simp [ho i (fun h=>e h.symm)]
theorem AF0 {N L j:Nat} (h:j<L):(Di N L).getD j 0=AF N j:=by simp [Di,List.getD_eq_getElem?_getD,h]
theorem AF1 (L:Nat):Di 0 L=List.replicate L 0:=by
 unfold Di
 refine List.ext_getElem (by simp) fun i h1 h2=>?_
 simp [AF]
theorem AF2 {N L:Nat} (h:N<2^(64*L)):AL (Di N L)=N:=by
 have:=ADu (S:=N) (L:=L) h
 unfold Dh AA at this
 rw [Nat.sub_self,List.replicate_zero,List.append_nil,List.drop_zero,List.take_of_length_le (by simp)] at this
 exact this
theorem AF3 {n:Nat} (hn:n≤35184372088832):UM n=(n+7) / 8∧wI (Int.tdiv (wI ((n:Int)+7)) 8)=(((n+7) / 8:Nat):Int):=by
 have e:wI ((n:Int)+7)=((n+7:Nat):Int):=by rw [A4 (by omega)];omega
 have e2:wI (Int.tdiv (wI ((n:Int)+7)) 8)=(((n+7) / 8:Nat):Int):=by rw [e,UJ];exact A4 (by omega)
 exact ⟨by unfold UM;rw [e2];omega,e2⟩
def pC (N L:Nat):Heap:=[(1,some ⟨24,[.num L N],false⟩)]
theorem AF4 {N L:Nat} (h:N<2^(64*L)) (β:Env) (l:List Value) (hr:AH β [.seq .u64 (Di N L)] l):AH β [.num L N] l:=by
 obtain ⟨l1,l2,⟨h1,_⟩,h2,h3⟩:=hr
 simp only [AH] at h2
 subst h2;subst h1;subst h3
 refine ⟨_,[],⟨h,rfl⟩,rfl,?_⟩
 simp [Di,words,Function.comp]
theorem AF5 {P:Program} {f:FuncId} {β0:Env} {w0:World} {R R':Ending→World→Prop} {W':List Nat} {n:Nat} {x:ASt} (h:ASafe P f β0 w0 R n W' x) (hv:∀ e w,R e w→R' e w):ASafe P f β0 w0 R' n W' x:=by
 intro β a w hi hf b cs q1 q2
 obtain ⟨e',w',fr,q5,q4⟩:=h β a w hi hf b cs q1 q2
 exact ⟨e',w',fr,hv _ _ q5,q4⟩
theorem AF6 {off n c:Nat} {xs:List Int} (hx:∀ d∈xs,0≤d∧d<256) (hl:off+n≤xs.length) (hn:n≤35184372088832) :
  AY Tryz.prog 58 [AK 0 off n c] (Ar xs) 1 [] (AK 1 0 ((n+7) / 8) ((n+7) / 8)) (pC (AT (AA xs off n)) ((n+7) / 8)):=by
 have hfin:AT (AA xs off n)<2^(64*((n+7) / 8)):=by
  have h1:=ZS (AA xs off n) (Du hx)
  have h2:(AA xs off n).length=n:=by unfold AA;rw [List.length_take,List.length_drop];omega
  rw [h2,Mm] at h1
  exact Nat.lt_of_lt_of_le h1 (Nat.pow_le_pow_right (by decide) (by omega))
 refine Ax (path:=[]) Tryz.func58 (by kernel_rfl) (by kernel_rfl) fun β0 w0 hb=>?_
 obtain ⟨l1,l2⟩:=AF3 hn
 have hw:AI .i64 (n:Int)=true:=by simp only [AI,Bool.and_eq_true,decide_eq_true_eq];omega
 refine Aj (AN UL AZ) AE (AFw off n c xs) ⟨hw,rfl,?_,hw,trivial⟩ (AR (by kernel_rfl)) hb (fun _ h=>by cases h) fun _=>?_
 ·rw [l2];unfold OQ;simp only [decide_eq_true_eq];omega
 ·rw [l1]
  refine Kx ?_
  have hlen:(AA xs off n).length=n:=by unfold AA;rw [List.length_take,List.length_drop];omega
  have hbd:∀ d∈AA xs off n,0≤d∧d<256:=Du hx
  have loop:∀ r i,i+r=n→ASafe Tryz.prog 58 β0 w0 (A7 β0 w0 [] (AK 1 0 ((n+7) / 8) ((n+7) / 8)) (pB (Di (AT (AA xs off n)) ((n+7) / 8)))) Tryz.f58.ntmps []
    (Qk off n c xs ((n+7) / 8) (Di (AT ((AA xs off n).take i)*256^(n-i)) ((n+7) / 8)) (iA i) []):=by
   intro r
   induction r with
   | zero =>
    intro i hi
    obtain rfl:i=n:=by omega
    rw [Nat.sub_self,Nat.pow_zero,Nat.mul_one,List.take_of_length_le (by omega)]
    exact Af [false] (Aw (AN UL AZ) AE Tryz.func58 (AFy ..) ⟨by simp,trivial⟩ (AR (by kernel_rfl)) hb (fun _ h=>by cases h))
   | succ r ih =>
    intro i hi
    have ek:HO (n:Int) i=((n-1-i:Nat):Int):=o5 hn (by omega)
    have ej:HP (n:Int) i=(((n-1-i) / 8:Nat):Int):=by unfold HP;rw [ek,UJ];exact A4 (by omega)
    have em:wI (8*Int.tmod ((n-1-i:Nat):Int) 8)=((8*((n-1-i) % 8):Nat):Int):=by rw [ZQ,A4 (by omega)];omega
    have hjL:(n-1-i) / 8<(n+7) / 8:=by omega
    have hlenw:∀ N,(Di N ((n+7) / 8)).length=(n+7) / 8:=fun N=>by simp [Di]
    have hwx:xs.getD (off+i) 0=(AA xs off n).getD i 0:=(Kv (by omega)).symm
    have hxb:0≤(AA xs off n).getD i 0∧(AA xs off n).getD i 0<256:=by
     rw [List.getD_eq_getElem?_getD]
     cases h':(AA xs off n)[i]? with
     | none=>simp
     | some d=>exact hbd d (List.mem_of_getElem? h')
    refine Af [true] (Aj (AN UL AZ) AE (AFx ..) ?_ (AR (by kernel_rfl)) hb (fun _ h=>by cases h) fun _=>?_)
    ·unfold pA
     rw [ej,ek,em,hlenw]
     refine ⟨by simp;omega,by simp;omega,by simp;omega,hw,rfl,by simp only [decide_eq_true_eq];omega,by simp only [decide_eq_true_eq];omega,by simp only [decide_eq_true_eq];omega,by simp only [decide_eq_true_eq];omega,by simp only [decide_eq_true_eq];omega,by simp only [decide_eq_true_eq];omega,trivial⟩
    ·have hset:((Di (AT ((AA xs off n).take i)*256^(n-i)) ((n+7) / 8)).set (0+(HP n i).toNat*1) (ZT xs off n (Di (AT ((AA xs off n).take i)*256^(n-i)) ((n+7) / 8)) i)) =
       Di (AT ((AA xs off n).take (i+1))*256^(n-(i+1))) ((n+7) / 8):=by
      have ei:0+(((n-1-i) / 8:Nat):Int).toNat*1=(n-1-i) / 8:=by omega
      have eo:off+(i:Int).toNat*1=off+i:=by omega
      unfold ZT
      rw [ej,ek,em,ei,eo,hwx,AF0 hjL]
      obtain ⟨X,hX⟩:=Int.eq_ofNat_of_zero_le hxb.1
      have hX2:X<256:=by omega
      rw [hX,C_,IntKind.wrap_u64,IntKind.wrap_u64,Int.toNat_natCast,Nat.min_eq_left (by omega)]
      have en:n-i=(n-1-i)+1:=by omega
      have en':n-(i+1)=n-1-i:=by omega
      have et:AT ((AA xs off n).take (i+1))*256^(n-(i+1))=AT ((AA xs off n).take i)*256^(n-1-i+1)+X*256^(n-1-i):=by
       rw [AFs (by omega),hX,Int.toNat_natCast,en',Nat.add_mul,Nat.mul_assoc,← Nat.pow_succ']
      rw [et,en]
      obtain ⟨hh,B,w1,w2,w3,w4,w5⟩:=AFu (M:=AT ((AA xs off n).take i)) (k:=n-1-i) hX2
      refine AFz ?_ fun j hj=>?_
      ·have hle:8*((n-1-i) % 8)+8≤64:=by omega
       have hB64:X*2^(8*((n-1-i) % 8))<2^64:=by
        rw [w2];exact Nat.lt_of_lt_of_le w3 (Nat.pow_le_pow_right (by decide) hle)
       have ex:((X:Int) % 18446744073709551616*2^(8*((n-1-i) % 8))) % 18446744073709551616=(B:Int):=by
        have a1:((X:Int) % 18446744073709551616)=(X:Int):=by omega
        have a2:((X:Int)*2^(8*((n-1-i) % 8)))=((X*2^(8*((n-1-i) % 8)):Nat):Int):=by rw [Int.natCast_mul,Int.natCast_pow];rfl
        rw [a1,a2,w2]
        rw [w2] at hB64
        have:B<18446744073709551616:=hB64
        omega
       rw [ex]
       have eo:=ZM (h:=hh) (s:=8*((n-1-i) % 8)+8) (B:=B) w4 w3 hle
       unfold AF
       rw [w5,w1]
       exact eo.symm
      ·unfold AF
       rw [AFt hX2 hj]
     rw [hset,A4 (z:=(i:Int)+1) (by omega)]
     exact ih (i+1) (by omega)
  have:=loop n 0 (by omega)
  rw [List.take_zero,show AT []=0 from rfl,Nat.zero_mul,AF1] at this
  exact AF5 this fun e w h=>Ts (AF4 hfin) h
def wrdSpec:ASpec:=fun args H fr path =>
 match args with
 | [.val false [.sl k off n _]]=>match AB H k with
  | some ⟨_,cs,_⟩=>match Ak .u8 cs with
   | some xs=>some (Az [k] 1 fr 1 [] (AK 1 0 ((n+7) / 8) ((n+7) / 8)) (pC (AT (AA xs off n)) ((n+7) / 8)) [(Nat.ble (off+n) xs.length,true),(Nat.ble n 35184372088832,true)] path)
   | none=>none
  | _=>none
 | _=>none
theorem pD {a:Int} (h:has .u8 a):0≤a∧a<256:=by
 have:=(Dq _ _).1 h
 simp only [AI,Bool.and_eq_true,decide_eq_true_eq] at this
 omega
theorem Cx {β:Env} {H:Heap} {w:World} {k:Nat} {ty:Nat} {cs:List Ch} {o:Bool} {xs:List Int} (hg:Ex.Good β H w) (hk:AB H k=some ⟨ty,cs,o⟩) (hxs:Ak .u8 cs=some xs) :
  (∀ d∈xs,0≤d∧d<256)∧Ex.Good (Ap β [k] 1) (Ar xs) w∧(∀ j,j<1→∃ X,β (nth [k] j)=some X):=by
 obtain ⟨l,g1⟩:=GQ hg hk
 obtain ⟨_,g2⟩:=Bu hxs g1
 refine ⟨fun d hd=>pD (g2 d hd),QA (c:=[.seq .u8 xs]) hg hk (fun l h=>?_),fun j hj=>?_⟩
 ·obtain ⟨q1,q2⟩:=Bu hxs h
  exact ⟨_,[],⟨q1,q2⟩,rfl,by simp⟩
 ·match j,hj with
  | 0,_=>exact BH (hg.heap _ _ hk)
theorem AF7:A6 Tryz.prog 58 wrdSpec:=by
 refine GO Tryz.func58 (by kernel_rfl) (by kernel_rfl) fun args H fr path r h=>?_
 unfold wrdSpec at h
 split at h
 case h_2=>cases h
 rename_i k off n c
 split at h
 case h_2=>cases h
 rename_i ty cs o hk
 split at h
 case h_2=>cases h
 rename_i xs hxs
 injection h with h
 refine ⟨[k],[AK 0 off n c],Ar xs,1,1,[],_,_,_,path,h.symm,fun β us w ha hg hc=>?_⟩
 obtain ⟨u1,us1,r1,ha,rfl⟩:=ha
 obtain ⟨g1,g2,g3⟩:=Cx hg hk hxs
 exact ⟨AF6 g1 (Nat.le_of_ble_eq_true hc.1) (Nat.le_of_ble_eq_true hc.2.1),by kernel_rfl,⟨u1,_,r1,ha,rfl⟩,g2,g3⟩
noncomputable def S27:List (FuncId×ASpec):=(58,wrdSpec)::S26
theorem Ql:AM Tryz.prog S27:=⟨AF7,UL⟩
def ZU (x:Nat):AV:=.val true [.seq .u8 (BB x 48)]
theorem AF8 (a:Nat):AX Tryz.prog (AJ S27 K0) Tryz.f120 [Ao a] [] 300 =
 some (H9 4,ZU (AL (AA (JA (a % pN)) 0 6))):=by kernel_rfl
theorem AF9 (a:Nat):AW Tryz.prog 120 [Ao a] (ZU (a % pN)):=by
 have h:=Ac (AN Ql AZ) AE Tryz.func120 (AF8 a) ⟨rfl,rfl,rfl,rfl,trivial⟩ rfl
 rw [ADt (OD a)] at h
 exact h
def Dy (n N:Nat):Nat:=if n=48∧N<pN then N else 0
def II (n N:Nat):Int:=if n=48 then (if N<pN then 0 else 41) else 40
def K9 (n N:Nat):AV:=.tup [(true,[.num 6 (Dy n N)]),(false,[.v (.int .i64 (II n N))])]
def pE (e:Int):AV:=.tup [(true,ML),(false,[.n .i64 e])]
theorem AF_ (off n m:Nat) (xs:List Int):AQ Tryz.prog (AJ S27 K0) Tryz.f123 300 1 [] (Ah Tryz.f123 [AK 0 off n m] (Ar xs) 1 [true]) =
 some ([(AI .i64 n,true),(!decide ((n:Int)=48),true)],[],pE 40,[]):=by kernel_rfl
theorem AF' (off m:Nat) (xs:List Int):AQ Tryz.prog (AJ S27 K0) Tryz.f123 300 1 [] (Ah Tryz.f123 [AK 0 off 48 m] (Ar xs) 1 [false,true]) =
 some ([(true,true),(false,false),(Nat.ble (off+48) xs.length,true),(true,true),(true,true),(!decide (AT (AA xs off 48) % pN=AT (AA xs off 48)),true)],[],pE 41,[]):=by kernel_rfl
theorem AGA (off m:Nat) (xs:List Int):AQ Tryz.prog (AJ S27 K0) Tryz.f123 300 1 [] (Ah Tryz.f123 [AK 0 off 48 m] (Ar xs) 1 [false,false]) =
 some ([(true,true),(false,false),(Nat.ble (off+48) xs.length,true),(true,true),(true,true),(!decide (AT (AA xs off 48) % pN=AT (AA xs off 48)),false)],[],.tup [(true,[.num 6 (AT (AA xs off 48))]),(false,[.n .i64 0])],[]):=by kernel_rfl
theorem DS {β β':Env} {g g':Bool} {a a' b b':List Ch} {u:Value} (h1:∀ v,BO β g a v→BO β' g a' v) (h2:∀ v,BO β g' b v→BO β' g' b' v) (h:AG β (.tup [(g,a),(g',b)]) u):AG β' (.tup [(g,a'),(g',b')]) u:=by
 obtain ⟨us,⟨u1,l1,q1,⟨u2,l2,q2,q3,q4⟩,q5⟩,q6⟩:=h
 exact ⟨us,⟨u1,l1,h1 _ q1,⟨u2,l2,h2 _ q2,q3,q4⟩,q5⟩,q6⟩
theorem pF {β:Env} {v:Value} (h:BO β true ML v):BO β true [.num 6 0] v:=by
 obtain ⟨l,q,rfl⟩:=h
 exact ⟨l,Ef (k:=6) (x:=0) (by kernel_rfl) q,rfl⟩
theorem ES {β:Env} {k:IntKind} {i j:Int} {v:Value} (e:i=j) (h:BO β false [.n k i] v):BO β false [.v (.int k j)] v:=Tx e h
theorem ZV {off n m:Nat} {xs:List Int} (hl:off+n≤xs.length) (hn:AI .i64 n=true) :
  AY Tryz.prog 123 [AK 0 off n m] (Ar xs) 1 [] (K9 n (AT (AA xs off n))) []:=by
 have hmod:∀ N:Nat,decide (N % pN=N)=decide (N<pN):=fun N=>by
  by_cases h:N<pN
  ·rw [decide_eq_true h,decide_eq_true (Nat.mod_eq_of_lt h)]
  ·rw [decide_eq_false h,decide_eq_false fun e=>h (by rw [← e];exact H7 N)]
 by_cases h:n=48
 ·subst h
  by_cases hN:AT (AA xs off 48)<pN
  ·refine Bq (Ax (path:=[false,false]) Tryz.func123 (by kernel_rfl) (by kernel_rfl) fun β0 w0 hb =>
    Aw (AN Ql AZ) AE Tryz.func123 (AGA off m xs) ⟨rfl,rfl,Nat.ble_eq_true_of_le hl,rfl,rfl,by rw [hmod,decide_eq_true hN];rfl,trivial⟩ (AR (by kernel_rfl)) hb (fun _ h=>by cases h)) fun β u hu=>?_
   unfold K9 Dy II
   rw [if_pos ⟨rfl,hN⟩,if_pos rfl,if_pos hN]
   exact DS (fun _ q=>q) (fun _ q=>ES rfl q) hu
  ·refine Bq (Ax (path:=[false,true]) Tryz.func123 (by kernel_rfl) (by kernel_rfl) fun β0 w0 hb =>
    Aw (AN Ql AZ) AE Tryz.func123 (AF' off m xs) ⟨rfl,rfl,Nat.ble_eq_true_of_le hl,rfl,rfl,by rw [hmod,decide_eq_false hN];rfl,trivial⟩ (AR (by kernel_rfl)) hb (fun _ h=>by cases h)) fun β u hu=>?_
   unfold K9 Dy II
   rw [if_neg (fun q=>hN q.2),if_pos rfl,if_neg hN]
   exact DS (fun _ q=>pF q) (fun _ q=>ES rfl q) hu
 ·refine Bq (Ax (path:=[true]) Tryz.func123 (by kernel_rfl) (by kernel_rfl) fun β0 w0 hb =>
   Aw (AN Ql AZ) AE Tryz.func123 (AF_ off n m xs) ⟨hn,by simp;omega,trivial⟩ (AR (by kernel_rfl)) hb (fun _ h=>by cases h)) fun β u hu=>?_
  unfold K9 Dy II
  rw [if_neg (fun q=>h q.1),if_neg h]
  exact DS (fun _ q=>pF q) (fun _ q=>ES rfl q) hu
def Qm (g:Nat→List Int→AV):ASpec:=fun args H fr path =>
 match args with
 | [.val false [.sl k off n _]]=>match AB H k with
  | some ⟨_,cs,_⟩=>match Ak .u8 cs with
   | some xs=>some (Az [k] 1 fr 0 [] (g n (AA xs off n)) [] [(Nat.ble (off+n) xs.length,true),(AI .i64 n,true)] path)
   | none=>none
  | _=>none
 | _=>none
theorem pG {f:FuncId} {fn:Func} {g:Nat→List Int→AV} (hfn:Tryz.prog.funcs[f]? = some fn) (hb:fn.body.isSome=true) (hname:(fn.name=="runtime.NumGoroutine")=false) (hk:∀ n l,Ct 1 0 [] (g n l) []=true)
  (h:∀ (off n m:Nat) (xs:List Int),(∀ d∈xs,0≤d∧d<256)→off+n≤xs.length→AI .i64 n=true→AY Tryz.prog f [AK 0 off n m] (Ar xs) 1 [] (g n (AA xs off n)) []):A6 Tryz.prog f (Qm g):=by
 refine GO hfn hb hname fun args H fr path r hs=>?_
 unfold Qm at hs
 split at hs
 case h_2=>cases hs
 rename_i k off n c
 split at hs
 case h_2=>cases hs
 rename_i ty cs o hk'
 split at hs
 case h_2=>cases hs
 rename_i xs hxs
 injection hs with hs
 refine ⟨[k],[AK 0 off n c],Ar xs,1,0,[],_,_,_,path,hs.symm,fun β us w ha hg hc=>?_⟩
 obtain ⟨u1,us1,r1,ha,rfl⟩:=ha
 obtain ⟨g1,g2,g3⟩:=Cx hg hk' hxs
 exact ⟨h off n c xs g1 (Nat.le_of_ble_eq_true hc.1) hc.2.1,hk _ _,⟨u1,_,r1,ha,rfl⟩,g2,g3⟩
noncomputable def S28:List (FuncId×ASpec):=(120,As (I9 fun x=>ZU (x % pN)))::(123,Qm fun n l=>K9 n (AT l))::S27
theorem AGB:AM Tryz.prog S28:=⟨Av Tryz.func120 (by kernel_rfl) (by kernel_rfl) (MP fun x _=>AF9 x),pG Tryz.func123 (by kernel_rfl) (by kernel_rfl) (fun _ _=>rfl) (fun _ _ _ _ _ hl hn=>ZV hl hn),Ql⟩
theorem pI:∀ (a b:List Int),BV (a++b)=BV a+((2^(64*a.length):Nat):Int)*BV b
 | [],b=>by simp [BV]
 | d::a,b=>by
  simp only [List.cons_append,BV,List.length_cons]
  rw [pI a b,show 64*(a.length+1)=64+64*a.length by omega,Nat.pow_add,Int.natCast_mul,Int.mul_add,Int.mul_assoc,← Int.add_assoc]
  rfl
theorem pJ (x k:Nat):((x % 2^(64*(k+1)):Nat):Int)=((x % 2^(64*k):Nat):Int)+((2^(64*k):Nat):Int)*AF x k:=by
 rw [show 64*(k+1)=64*k+64 by omega,Nat.pow_add,Nat.mod_mul,Int.natCast_add,Int.natCast_mul];rfl
theorem pK (k:Nat):((2^(64*(k+1)):Nat):Int)=((2^(64*k):Nat):Int)*18446744073709551616:=by
 rw [show 64*(k+1)=64*k+64 by omega,Nat.pow_add,Int.natCast_mul];rfl
theorem pL (x y:Nat):∀ k,BV ((List.range k).map (BP x y))=((x % 2^(64*k):Nat):Int)-((y % 2^(64*k):Nat):Int)+((2^(64*k):Nat):Int)*BU x y k
 | 0=>by simp [BV,BU,Nat.mod_one]
 | k+1=>by
  rw [List.range_succ,List.map_append,pI,pL x y k,pJ,pJ,pK]
  simp only [List.map_cons,List.map_nil,BV,List.length_map,List.length_range,Int.mul_zero,Int.add_zero]
  rw [MM x y k]
  generalize ((2^(64*k):Nat):Int)=Q
  simp only [Int.mul_add,Int.mul_sub,Int.mul_assoc]
  omega
theorem AGC {x y k:Nat} (hx:x<2^(64*k)) (hy:y<2^(64*k)):(((x+(2^(64*k)-y)) % 2^(64*k):Nat):Int)=BV ((List.range k).map (BP x y)):=by
 have h:=pL x y k
 rw [Nat.mod_eq_of_lt hx,Nat.mod_eq_of_lt hy] at h
 have hb:=Ee x y k
 have hs:∀ (ds:List Int),(∀ d∈ds,0≤d∧d<18446744073709551616)→0≤BV ds∧BV ds<((2^(64*ds.length):Nat):Int):=by
  intro ds
  induction ds with
  | nil=>intro _;simp [BV]
  | cons d r ih =>
   intro hd
   have h1:=hd d (by simp)
   have h2:=ih fun d h=>hd d (by simp [h])
   rw [List.length_cons,pK]
   simp only [BV]
   omega
 have hr:=hs ((List.range k).map (BP x y)) (by intro d hd;obtain ⟨i,_,rfl⟩:=List.mem_map.1 hd;exact De x y i)
 rw [List.length_map,List.length_range,h] at hr
 rw [h]
 generalize 2^(64*k)=Q at *
 have h01:BU x y k=0∨BU x y k=1:=by omega
 rcases h01 with e | e
 ·rw [e,Int.mul_zero,Int.add_zero] at hr ⊢
  have e1:x+(Q-y)=(x-y)+Q:=by omega
  rw [e1,Nat.add_mod_right,Nat.mod_eq_of_lt (by omega)];omega
 ·rw [e,Int.mul_one] at hr ⊢
  rw [Nat.mod_eq_of_lt (by omega)];omega
noncomputable def SP:List (FuncId×ASpec):=S28
theorem AGD:AM Tryz.prog SP:=AGB
theorem AGE {a q c:Int} (ha:0≤a∧a<18446744073709551616) (hq:0≤q∧q<18446744073709551616) (hc:0≤c∧c<18446744073709551616) :
  a*q+c=Bl (Ec a q) c 0+18446744073709551616*mW (H6 a q+B3 (Ec a q) c 0)∧(0≤Bl (Ec a q) c 0∧Bl (Ec a q) c 0<18446744073709551616)∧(0≤mW (H6 a q+B3 (Ec a q) c 0)∧mW (H6 a q+B3 (Ec a q) c 0)<18446744073709551616):=by
 have h:=YZ ha hq
 simp only [Dt]
 unfold Bl B3 Ec H6
 generalize a*q=z at *
 omega
noncomputable def SQ:List (FuncId×ASpec):=SP
theorem AGF:AM Tryz.prog SQ:=AGD
noncomputable def SR:List (FuncId×ASpec):=SQ
theorem AGG:AM Tryz.prog SR:=AGF
noncomputable def ST:List (FuncId×ASpec):=SR
theorem AGH:AM Tryz.prog ST:=AGG
noncomputable def SU:List (FuncId×ASpec):=ST
theorem AGI:AM Tryz.prog SU:=AGH
noncomputable def SV:List (FuncId×ASpec):=SU
theorem AGJ:AM Tryz.prog SV:=AGI
theorem ZW {n:Nat} (h:n≤1125899906842624):AI .i64 (n:Int)=true:=by
 simp only [AI,Bool.and_eq_true,decide_eq_true_eq];omega
noncomputable def SW:List (FuncId×ASpec):=SV
theorem AGK:AM Tryz.prog SW:=AGJ
def AGL:List Ch:=[.n .u64 1,.n .u64 0,.n .u64 0,.n .u64 0,.n .u64 0,.n .u64 0]
noncomputable def SX:List (FuncId×ASpec):=SW
theorem AGM:AM Tryz.prog SX:=AGK
section
variable (off n m off' n' m':Nat) (xs ys:List Int)
end
noncomputable def SY:List (FuncId×ASpec):=SX
theorem AGN:AM Tryz.prog SY:=AGM
theorem AGO:A6 Tryz.prog 123 (Qm fun n l=>K9 n (AT l)):=pG Tryz.func123 (by kernel_rfl) (by kernel_rfl) (fun _ _=>rfl) (fun _ _ _ _ _ hl hn=>ZV hl hn)
noncomputable def SZ:List (FuncId×ASpec):=(123,Fu (Qm fun n l=>K9 n (AT l)))::(125,Fu powSpec)::SY
theorem AGP:AM Tryz.prog SZ:=⟨HF AGO,HF mJ,AGN⟩
end Go.Proofs.YtojnabmgolpodaaGreat
namespace Go.Proofs.YtojnabmgolpodaaGreat
open Ex
set_option maxRecDepth 100000
set_option maxHeartbeats 4000000
theorem HQ (x n:Nat):(BB x n).length=n:=by simp [BB]
theorem pM (x n:Nat):BB x (n+1)=F2 x n::BB x n:=by
 unfold BB
 rw [List.range_succ_eq_map,List.map_cons,List.map_map]
 congr 1
 refine List.map_congr_left fun i hi=>?_
 have:i<n:=List.mem_range.1 hi
 simp only [Function.comp]
 congr 1;omega
theorem ZX:∀ (n x:Nat),AT (BB x n)=x % 256^n
 | 0,x=>by simp [BB,AT,Nat.mod_one]
 | n+1,x=>by
  rw [pM]
  simp only [AT]
  rw [HQ,ZX n x,Nat.pow_succ,Nat.mod_mul]
  unfold F2
  rw [Int.toNat_natCast,Nat.mul_comm,Nat.add_comm]
end Go.Proofs.YtojnabmgolpodaaGreat
namespace Go.Proofs.YtojnabmgolpodaaGreat
open Ex
open Go.RowKit (Below)
set_option maxRecDepth 100000
set_option maxHeartbeats 4000000
def ET (ls:List Ex.Loc):Env:=fun k=>ls[k]?
theorem AGQ (ls:List Ex.Loc) (L:Ex.Loc):Env.le (ET ls) (ET (ls++[L])):=fun b X h=>by
 have hb:b<ls.length:=by
  rcases Nat.lt_or_ge b ls.length with q | q
  ·exact q
  ·simp only [ET] at h;rw [List.getElem?_eq_none q] at h;cases h
 simp only [ET] at h ⊢
 rw [List.getElem?_append_left hb];exact h
theorem UN (ls:List Ex.Loc) (L:Ex.Loc):ET (ls++[L]) ls.length=some L:=by simp [ET]
structure ArgsOk (W:World) (ls:List Ex.Loc) (bs:List Blk):Prop where
 len:ls.length=bs.length
 blk:∀ (j:Nat) (b:Blk),bs[j]? = some b→b.ty=BN∧Da (ET ls) b j W
 lt:∀ (j B:Nat) (n:Nat×Nat),ls[j]? = some (Ex.Loc.at_ B n)→B<W.heap.size
theorem ArgsOk.nil (W:World):ArgsOk W [] []:=⟨rfl,fun j b h=>by simp at h,fun j B n h=>by simp at h⟩
theorem ArgsOk.good {W:World} {ls:List Ex.Loc} {bs:List Blk} (h:ArgsOk W ls bs):Ex.Good (ET ls) (MQ 0 bs) W:=by
 refine ⟨fun b blk hb=>?_,fun b b' B n n' h1 _ _ _=>?_,fun b B n hb=>h.lt b B n hb⟩
 ·obtain ⟨_,hj⟩:=Kq hb
  exact (h.blk b blk (by simpa using hj)).2
 ·obtain ⟨d,hd,hr⟩:=FB h1
  obtain ⟨_,hj⟩:=Kq hd
  exact absurd (h.blk b d (by simpa using hj)).1 hr
theorem ArgsOk.none {W:World} {ls:List Ex.Loc} {bs:List Blk} (h:ArgsOk W ls bs):∀ b,bs.length≤b→ET ls b=none:=fun b hb=>by
 simp only [ET]
 rw [List.getElem?_eq_none (by rw [h.len];exact hb)]
theorem ArgsOk.snoc {W:World} {ls:List Ex.Loc} {bs:List Blk} (h:ArgsOk W ls bs) {L:Ex.Loc} {b:Blk} (hb:Da (ET (ls++[L])) b ls.length W) (hr:b.ty=BN) (hl:∀ B n,L=Ex.Loc.at_ B n→B<W.heap.size):ArgsOk W (ls++[L]) (bs++[b]):=by
 refine ⟨by simp [h.len],fun j d hd=>?_,fun j B n hj=>?_⟩
 ·rcases Nat.lt_or_ge j bs.length with q | q
  ·rw [List.getElem?_append_left q] at hd
   exact ⟨(h.blk j d hd).1,SH (AGQ ls L) (h.blk j d hd).2⟩
  ·rw [List.getElem?_append_right q] at hd
   have e:j=bs.length:=by
    rcases Nat.eq_or_lt_of_le q with q' | q'
    ·exact q'.symm
    ·rw [List.getElem?_eq_none (by simp;omega)] at hd;cases hd
   subst e
   simp at hd
   subst hd
   exact ⟨hr,by rw [← h.len];exact hb⟩
 ·rcases Nat.lt_or_ge j ls.length with q | q
  ·rw [List.getElem?_append_left q] at hj;exact h.lt j B n hj
  ·rw [List.getElem?_append_right q] at hj
   have e:j-ls.length=0:=by
    rcases Nat.eq_zero_or_pos (j-ls.length) with q' | q'
    ·exact q'
    ·rw [List.getElem?_eq_none (by simp;omega)] at hj;cases hj
   rw [e] at hj
   simp at hj
   exact hl B n hj
theorem AGR {P:Program} {BT:TypeId→Bool}:∀ (d:Nat) {e:TypeId} {count off n:Nat},rowAt P BT d e count off n=true→off≤count*P.cellsOf e
 | 0,_,_,_,_,h=>by simp [rowAt] at h
 | d+1,e,count,off,n,h=>by
  by_cases hs:P.cellsOf e=0
  ·unfold rowAt at h
   simp [hs] at h
  ·unfold rowAt at h
   rw [if_neg hs] at h
   have hpos:0<P.cellsOf e:=Nat.pos_of_ne_zero hs
   have hdm:=Nat.div_add_mod off (P.cellsOf e)
   have hlt:=Nat.mod_lt off hpos
   have key:off / P.cellsOf e<count∨(off % P.cellsOf e=0∧off / P.cellsOf e≤count):=by
    simp only [Bool.or_eq_true,Bool.and_eq_true,decide_eq_true_eq,beq_iff_eq] at h
    rcases h with ⟨⟨h1,h2⟩,_⟩ | ⟨h1,_⟩
    ·exact .inr ⟨h1,by omega⟩
    ·exact .inl h1
   rcases key with q | ⟨q1,q2⟩
   ·have:=Nat.mul_le_mul_left (P.cellsOf e) (show off / P.cellsOf e+1≤count from q)
    rw [Nat.mul_add,Nat.mul_one] at this
    rw [Nat.mul_comm count]
    omega
   ·have:=Nat.mul_le_mul_left (P.cellsOf e) q2
    rw [Nat.mul_comm count]
    omega
theorem pO {P:Program}:∀ (d:Nat) {e u:TypeId} {count off n:Nat},liesAt P d e count off u n=true→off≤count*P.cellsOf e
 | 0,_,_,_,_,_,h=>by simp [liesAt] at h
 | d+1,e,u,count,off,n,h=>by
  unfold liesAt at h
  rw [Bool.or_eq_true] at h
  rcases h with h | h
  ·exact AGR _ h
  ·split at h
   ·exact pO d h
   ·cases h
theorem AGS {H:Type} {enc:TypeId×Value→H} {W:World} {base:Nat} {t e:TypeId} {k:IntKind} {v:Value} {d:DataW H} {p:List MemPlace} (hu:Tryz.prog.underlying t=some (.slice e)) (he:Tryz.prog.underlying e=some (.int k)) (hc:Tryz.prog.cellsOf e=1)
  (hv:Value.okWide Tryz.prog W .any base t v) (ht:DataW.Trod enc Tryz.prog W 0 (fun _=>true) true t v d p) :
  ∃ (L:Ex.Loc) (zs:List Int) (n m:Nat),(∀ x∈zs,has k x)∧n≤zs.length∧n≤maxLen∧(∀ B q,L=Ex.Loc.at_ B q→B<W.heap.size)∧∀ ls:List Ex.Loc,AG (ET (ls++[L])) (.val false [.sl ls.length 0 n m]) v∧Da (ET (ls++[L])) (AU [.seq k zs]) ls.length W:=by
 obtain ⟨fuel,hf⟩:=ht
 obtain ⟨a0,len0,cap0,rfl⟩:=Go.WideShapes.okWide_slice hu hv
 have hcells:(Value.slice a0 len0 cap0).cells=#[Value.slice a0 len0 cap0]:=rfl
 rw [hcells] at hf
 rcases Go.ChangeShapes.open_ints hu he hc hf with ⟨hcs,_⟩ | ⟨a,len,cap,zs,hcs,hb,hl,hm,hz,_,hcell,hwf⟩
 ·have e1:Value.slice a0 len0 cap0=.slice none 0 0:=by simpa using hcs
  rw [e1]
  refine ⟨.nil,[],0,0,by simp,by simp,Nat.zero_le _,(fun B q h=>by cases h),fun ls=>⟨?_,.inr (.inl ⟨UN _ _,.inr rfl,⟨[],[],⟨rfl,by simp⟩,rfl,rfl⟩⟩)⟩⟩
  exact Am (.inr ⟨UN _ _,rfl,rfl,rfl,rfl⟩)
 ·have e1:Value.slice a0 len0 cap0=.slice (some a) len cap:=by simpa using hcs
  rw [e1] at hv ⊢
  simp only [if_true] at hz
  have hk:Cell.ok Tryz.prog W .any base t (.slice (some a) len cap):=by
   have:=hv
   simp only [Value.okWide,hu,Cell.okWide] at this
   exact this
  simp only [Cell.ok,hu] at hk
  obtain ⟨_,_,_,hspot,row,cells,hsh,hlies⟩:=hk
  obtain ⟨c,fz,hblk,hsz⟩:∃ c fz,W.heap[a.block]? = some (.cells c row fz)∧cells=c.size:=by
   unfold World.shape? at hsh
   split at hsh
   ·rename_i c el fz hq
    injection hsh with hsh;injection hsh with h1 h2
    exact ⟨c,fz,by rw [hq,h1],h2.symm⟩
   ·cases hsh
  have hoff:a.off≤c.size:=by
   have h1:=pO _ hlies
   have h2:=Nat.div_mul_le_self cells (Tryz.prog.cellsOf row)
   omega
  have AB:∀ i,i<zs.length→c[a.off+i]? = some (.int k (zs.getD i 0)):=by
   intro i hi
   have h1:=hcell i hi
   have e2:a.add i=⟨a.block,a.off+i,none⟩:=by
    unfold Addr.add
    split
    ·rename_i h0;subst h0
     cases a;simp only at hspot;simp [hspot]
    ·rfl
   rw [e2] at h1
   simp only [World.cell?,hblk] at h1
   simpa using h1
  have hend:a.off+zs.length≤c.size:=by
   rcases Nat.eq_zero_or_pos zs.length with h0 | hp
   ·omega
   ·have:=(Array.getElem?_eq_some_iff.1 (AB (zs.length-1) (by omega))).1
    omega
  have hlist:c.toList=c.toList.take a.off++(zs.map (.int k)++c.toList.drop (a.off+zs.length)):=by
   have hmid:(c.toList.drop a.off).take zs.length=zs.map (.int k):=by
    refine List.ext_getElem? fun i=>?_
    by_cases hi:i<zs.length
    ·rw [List.getElem?_take_of_lt hi,List.getElem?_drop,Array.getElem?_toList,AB i hi,List.getElem?_map,List.getElem?_eq_getElem hi,List.getD_eq_getElem?_getD,List.getElem?_eq_getElem hi];rfl
    ·rw [List.getElem?_eq_none (by simp;omega),List.getElem?_eq_none (by simp;omega)]
   rw [← hmid,← List.drop_drop,List.take_append_drop,List.take_append_drop]
  have ea:a=⟨a.block,a.off,none⟩:=by cases a;simp only at hspot;simp [hspot]
  have hhas:∀ x∈zs,has k x:=fun x hx=>kJ (hwf x hx)
  refine ⟨.at_ a.block (c.size,a.off),zs,len,cap,hhas,by omega,Nat.le_trans hl hm,fun B q h=>?_,fun ls=>⟨?_,.inl ⟨a.block,(c.size,a.off),zs.map (.int k),c.toList.drop (a.off+zs.length),c.toList.take a.off,row,fz,UN _ _,⟨_,[],⟨rfl,hhas⟩,rfl,by simp⟩,?_,?_,fun hr=>absurd rfl hr⟩⟩⟩
  ·injection h with h1 h2
   rw [← h1]
   exact (Array.getElem?_eq_some_iff.1 hblk).1
  ·refine Am (.inl ⟨a.block,(c.size,a.off),UN _ _,?_⟩)
   rw [Nat.add_zero,← ea]
  ·rw [← hlist];exact hblk
  ·simp;omega
theorem AGT {f:FuncId} {fn:Func} (h:∀ (H:Type) (enc:TypeId×Value→H) (us:List Value) (W:World) (base:Nat) (ds:List (DataW H)) (ps:List MemPlace),(∀ (j:Nat) t v,fn.params[j]? = some t→us[j]? = some v→Value.okWide Tryz.prog W .any base t v) →
  DataW.TrodAll enc Tryz.prog W 0 (fun _=>true) true fn.params.toList us ds ps→∃ ls bs args,ArgsOk W ls bs∧Aq (ET ls) args us∧AY Tryz.prog f args (MQ 0 bs) bs.length [] (CI true) []):YI Tryz.prog f fn:=by
 intro H enc us W base ds ps hv hA _ _
 obtain ⟨ls,bs,args,ho,ha,hc⟩:=h H enc us W base ds ps hv hA
 refine (hc (ET ls) us W ha ho.good ho.none).mono ?_
 rintro e w' ⟨u,β,rfl,out⟩
 obtain ⟨l1,l2,⟨h1,_⟩,h3,h4⟩:=out.val
 simp only [AH] at h3
 subst h1;subst h3
 injection h4 with h4 _
 refine ⟨by rw [h4],⟨out.os,out.tape,out.output,out.size,fun k hk=>out.frame k hk (fun _ _ h=>by cases h)⟩⟩
end Go.Proofs.YtojnabmgolpodaaGreat
namespace Go.Proofs.YtojnabmgolpodaaGreat
open Ex Num
set_option maxRecDepth 100000
set_option maxHeartbeats 4000000
def Br:AV→Option (Nat×Nat×Nat)
 | .val false [.sl k off n _]=>some (k,off,n)
 | .val false [.sx k n _]=>some (k,0,n)
 | _=>none
theorem Dj {β:Env} {A:AV} {k off n:Nat} {u:Value} (h:Br A=some (k,off,n)) (hr:AG β A u):∃ m,AG β (AK k off n m) u:=by
 unfold Br at h
 split at h
 ·rename_i k' off' n' m
  injection h with h;injection h with h1 h;injection h with h2 h3
  subst h1;subst h2;subst h3
  exact ⟨m,hr⟩
 ·rename_i k' n' sz
  injection h with h;injection h with h1 h;injection h with h2 h3
  subst h1;subst h2;subst h3
  obtain ⟨l1,l2,h1,h2,h3⟩:=hr
  rcases h1 with ⟨B,q,cap,q1,q2,q3,q4⟩ | ⟨q1,q2,q3⟩
  ·exact ⟨cap,l1,l2,.inl ⟨B,(q,0),q1,by rw [q2]⟩,h2,h3⟩
  ·exact ⟨0,l1,l2,.inr ⟨q1,rfl,q2,rfl,q3⟩,h2,h3⟩
 ·cases h
theorem CJ {f:FuncId} {fn:Func} (hfn:Tryz.prog.funcs[f]? = some fn) (hbd:fn.body.isSome=true) (hname:(fn.name=="runtime.NumGoroutine")=false) {s:ASpec}
  (h:∀ args H fr path r,s args H fr path=some r→∃ (ρ:List Nat) (k0 nw:Nat) (W:List Nat) (val:AV) (H1:Heap) (conds:List (Bool×Bool)) (path':List Bool),
   r=Az ρ k0 fr nw W val H1 conds path'∧(∀ β us w,Aq β args us→Ex.Good β H w→AP conds→∃ args0 H0,AY Tryz.prog f args0 H0 k0 W val H1∧Ct k0 nw W val H1=true∧Aq (Ap β ρ k0) args0 us∧Ex.Good (Ap β ρ k0) H0 w∧(∀ k,k<k0→∃ X,β (nth ρ k)=some X))):A6 Tryz.prog f s:=by
 intro args H fr path r β us w hs hc ha hg hf
 obtain ⟨ρ,k0,nw,W,val,H1,conds,path',rfl,hh⟩:=h args H fr path r hs
 obtain ⟨args0,H0,hcan,hb,ha0,hg0,hdef⟩:=hh β us w ha hg hc
 refine Ps hfn hbd hname (Calls.mono (hcan (Ap β ρ k0) us w ha0 hg0 fun b hb=>?_) ?_)
 ·have:Nat.blt b k0=false:=by cases h:Nat.blt b k0 with | false=>rfl | true=>have:=A9.1 h;omega
  simp [Ap,this]
 ·rintro e w' ⟨u,β1,rfl,ho⟩
  obtain ⟨β',he⟩:=kH (conds:=conds) (path:=path') hg ho hb hf hdef
  exact ⟨u,β',rfl,he⟩
theorem BW {β:Env} {k j off n m:Nat} {ρ:List Nat} {k0:Nat} {u:Value} (hj:j<k0) (hn:nth ρ j=k) (h:AG β (AK k off n m) u):AG (Ap β ρ k0) (AK j off n m) u:=by
 obtain ⟨l1,l2,h1,h2,h3⟩:=h
 refine ⟨l1,l2,?_,h2,h3⟩
 have e:Ap β ρ k0 j=β k:=by rw [HH hj,hn]
 rcases h1 with ⟨B,q,q1,q2⟩ | ⟨q1,q2⟩
 ·exact .inl ⟨B,q,by rw [e];exact q1,q2⟩
 ·exact .inr ⟨by rw [e];exact q1,q2⟩
def UO (g:Nat→List Int→AV):ASpec:=fun args H fr path =>
 match args with
 | [S]=>match Br S with
  | some (k,off,n)=>match AB H k with
   | some ⟨_,cs,_⟩=>match Ak .u8 cs with
    | some xs=>some (Az [k] 1 fr 0 [] (g n (AA xs off n)) [] [(Nat.ble (off+n) xs.length,true),(AI .i64 n,true)] path)
    | none=>none
   | _=>none
  | none=>none
 | _=>none
theorem pP {f:FuncId} {fn:Func} {g:Nat→List Int→AV} (hfn:Tryz.prog.funcs[f]? = some fn) (hb:fn.body.isSome=true) (hname:(fn.name=="runtime.NumGoroutine")=false) (hk:∀ n l,Ct 1 0 [] (g n l) []=true)
  (h:∀ (off n m:Nat) (xs:List Int),(∀ d∈xs,0≤d∧d<256)→off+n≤xs.length→AI .i64 n=true→AY Tryz.prog f [AK 0 off n m] (Ar xs) 1 [] (g n (AA xs off n)) []):A6 Tryz.prog f (UO g):=by
 refine CJ hfn hb hname fun args H fr path r hs=>?_
 unfold UO at hs
 split at hs
 case h_2=>cases hs
 rename_i S
 split at hs
 case h_2=>cases hs
 rename_i k off n hS
 split at hs
 case h_2=>cases hs
 rename_i ty cs o hk'
 split at hs
 case h_2=>cases hs
 rename_i xs hxs
 injection hs with hs
 refine ⟨[k],1,0,[],_,_,_,path,hs.symm,fun β us w ha hg hc=>?_⟩
 obtain ⟨u1,us1,r1,ha,rfl⟩:=ha
 obtain ⟨m,r1⟩:=Dj hS r1
 obtain ⟨g1,g2,g3⟩:=Cx hg hk' hxs
 exact ⟨[AK 0 off n m],Ar xs,h off n m xs g1 (Nat.le_of_ble_eq_true hc.1) hc.2.1,hk _ _,⟨u1,_,BW (by omega) rfl r1,ha,rfl⟩,g2,g3⟩
def UP (g:Nat→List Int→AV):ASpec:=fun args H fr path =>
 match args with
 | [S]=>match Br S with
  | some (k,off,n)=>match AB H k with
   | some ⟨_,cs,_⟩=>match Ak .u64 cs with
    | some xs=>some (Az [k] 1 fr 0 [] (g n (AA xs off n)) [] [(Nat.ble (off+n) xs.length,true),(Nat.ble n 1125899906842624,true)] path)
    | none=>none
   | _=>none
  | none=>none
 | _=>none
theorem pQ {f:FuncId} {fn:Func} {g:Nat→List Int→AV} (hfn:Tryz.prog.funcs[f]? = some fn) (hb:fn.body.isSome=true) (hname:(fn.name=="runtime.NumGoroutine")=false) (hk:∀ n l,Ct 1 0 [] (g n l) []=true)
  (h:∀ (off n m:Nat) (xs:List Int),(∀ d∈xs,0≤d∧d<18446744073709551616)→off+n≤xs.length→n≤1125899906842624→AY Tryz.prog f [AK 0 off n m] (Bm xs) 1 [] (g n (AA xs off n)) []):A6 Tryz.prog f (UP g):=by
 refine CJ hfn hb hname fun args H fr path r hs=>?_
 unfold UP at hs
 split at hs
 case h_2=>cases hs
 rename_i S
 split at hs
 case h_2=>cases hs
 rename_i k off n hS
 split at hs
 case h_2=>cases hs
 rename_i ty cs o hk'
 split at hs
 case h_2=>cases hs
 rename_i xs hxs
 injection hs with hs
 refine ⟨[k],1,0,[],_,_,_,path,hs.symm,fun β us w ha hg hc=>?_⟩
 obtain ⟨u1,us1,r1,ha,rfl⟩:=ha
 obtain ⟨m,r1⟩:=Dj hS r1
 obtain ⟨g1,g2,g3⟩:=OI hg hk' hxs
 exact ⟨[AK 0 off n m],Bm xs,h off n m xs g1 (Nat.le_of_ble_eq_true hc.1) (Nat.le_of_ble_eq_true hc.2.1),hk _ _,⟨u1,_,BW (by omega) rfl r1,ha,rfl⟩,g2,g3⟩
noncomputable def powSp:ASpec:=fun args H fr path =>
 match args with
 | [.val true a,S]=>match Br S with
  | some (k,off,n)=>match B8 6 a,AB H k with
   | some x,some ⟨_,cs,_⟩=>match Ak .u64 cs with
    | some xs=>some (Az [k] 1 fr 0 [] (Ao (Eh x (AL (AA xs off n)))) [] [(Nat.ble (off+n) xs.length,true),(Nat.ble n 1125899906842624,true)] path)
    | none=>none
   | _,_=>none
  | none=>none
 | _=>none
theorem AGU {f:FuncId} {fn:Func} (hfn:Tryz.prog.funcs[f]? = some fn) (hb:fn.body.isSome=true) (hname:(fn.name=="runtime.NumGoroutine")=false)
  (h:∀ (off n m:Nat) (xs:List Int) (x:Nat),(∀ d∈xs,0≤d∧d<18446744073709551616)→off+n≤xs.length→n≤1125899906842624→AY Tryz.prog f (QJ x off n m) (Bm xs) 1 [] (Ao (Eh x (AL (AA xs off n)))) []):A6 Tryz.prog f powSp:=by
 refine CJ hfn hb hname fun args H fr path r hs=>?_
 unfold powSp at hs
 split at hs
 case h_2=>cases hs
 rename_i a S
 split at hs
 case h_2=>cases hs
 rename_i k off n hS
 split at hs
 case h_2=>cases hs
 rename_i x ty cs o hx hk'
 split at hs
 case h_2=>cases hs
 rename_i xs hxs
 injection hs with hs
 refine ⟨[k],1,0,[],_,_,_,path,hs.symm,fun β us w ha hg hc=>?_⟩
 obtain ⟨u1,us1,r1,⟨u2,us2,r2,ha,rfl⟩,rfl⟩:=ha
 obtain ⟨m,r2⟩:=Dj hS r2
 obtain ⟨g1,g2,g3⟩:=OI hg hk' hxs
 refine ⟨QJ x off n m,Bm xs,h off n m xs x g1 (Nat.le_of_ble_eq_true hc.1) (Nat.le_of_ble_eq_true hc.2.1),by kernel_rfl,⟨u1,_,?_,⟨u2,us2,BW (by omega) rfl r2,ha,rfl⟩,rfl⟩,g2,g3⟩
 obtain ⟨l,q,rfl⟩:=r1;exact ⟨l,Ef hx q,rfl⟩
noncomputable def SB:List (FuncId×ASpec):=(123,Fu (UO fun n l=>K9 n (AT l)))::(125,Fu powSp)::SZ
theorem AGV:AM Tryz.prog SB:=⟨HF (pP Tryz.func123 (by kernel_rfl) (by kernel_rfl) (fun _ _=>rfl) (fun _ _ _ _ _ hl hn=>ZV hl hn)),HF (AGU Tryz.func125 (by kernel_rfl) (by kernel_rfl) fun _ _ _ _ x hx hl hn=>mI hx hl hn x),AGP⟩
def tt:Nat→List (Bool×Bool)→List (Bool×Bool)
 | 0,r=>r
 | n+1,r=>(true,true)::tt n r
theorem Ab:∀ (n:Nat) {r:List (Bool×Bool)},AP r→AP (tt n r)
 | 0,_,h=>h
 | n+1,_,h=>⟨rfl,Ab n h⟩
theorem BA {S:List (FuncId×ASpec)} {K:List (TypeId×List (Option IntKind))} (hS:AM Tryz.prog S) (hK:I2 Tryz.prog K) {f:FuncId} {fn:Func} (hfn:Tryz.prog.funcs[f]? = some fn) (hb:fn.body.isSome=true) {args:List AV} {H H1:Heap} {fuel k0:Nat} {ks:List Nat} {path:List Bool} {conds:List (Bool×Bool)} {v:AV}
  (hlen:Nat.ble (HD args) fn.ntmps=true) (h:AQ Tryz.prog (AJ S K) fn fuel k0 ks (Ah fn args H k0 path)=some (conds,[],v,H1)) (hw:YD fn.ntmps (Ah fn args H k0 path).s=true) (hc:AP conds):AY Tryz.prog f args H k0 [] v H1 :=
 Ax (path:=path) hfn hb hlen fun _ _ h0=>Aw (AN hS hK) AE hfn h hc (AR hw) h0 (fun _ h=>by cases h)
section
variable {H:Type} {enc:TypeId×Value→H} {W:World} {base:Nat} {v:Value} {d:DataW H} {p:List MemPlace}
theorem ZY:Tryz.prog.underlying 28=some (.slice 5):=by kernel_rfl
theorem AGW:Tryz.prog.underlying 5=some (.int .u8):=by kernel_rfl
theorem AGX:Tryz.prog.cellsOf 5=1:=by kernel_rfl
theorem AGY {n:Nat} (h:n≤maxLen):AI .i64 (n:Int)=true:=by
 unfold maxLen at h
 simp only [AI,Bool.and_eq_true,decide_eq_true_eq];omega
theorem AGZ (hv:Value.okWide Tryz.prog W .any base 28 v) (ht:DataW.Trod enc Tryz.prog W 0 (fun _=>true) true 28 v d p) {ls:List Ex.Loc} {bs:List Blk} (ho:ArgsOk W ls bs) :
  ∃ (L:Ex.Loc) (zs:List Int) (n m:Nat),(∀ x∈zs,0≤x∧x<256)∧n≤zs.length∧AI .i64 (n:Int)=true∧AG (ET (ls++[L])) (AK ls.length 0 n m) v∧ArgsOk W (ls++[L]) (bs++[AU [.seq .u8 zs]]):=by
 obtain ⟨L,zs,n,m,h1,h2,h3,h4,h5⟩:=AGS ZY AGW AGX hv ht
 exact ⟨L,zs,n,m,fun x hx=>pD (h1 x hx),h2,AGY h3,(h5 ls).1,ho.snoc (h5 ls).2 rfl h4⟩
end
noncomputable def SC:List (FuncId×ASpec):=SB
theorem AGa:AM Tryz.prog SC:=AGV
noncomputable def SD:List (FuncId×ASpec):=SC
theorem AGb:AM Tryz.prog SD:=AGa
noncomputable def SE:List (FuncId×ASpec):=SD
theorem ZZ:AM Tryz.prog SE:=AGb
end Go.Proofs.YtojnabmgolpodaaGreat
namespace Go.Proofs.YtojnabmgolpodaaGreat.Rg
class CR (F:Type) extends Add F,Mul F,Neg F,Sub F,Zero F,One F where
 add_assoc:∀ a b c:F,(a+b)+c=a+(b+c)
 add_comm:∀ a b:F,a+b=b+a
 zero_add:∀ a:F,0+a=a
 neg_add:∀ a:F,-a+a=0
 mul_assoc:∀ a b c:F,(a*b)*c=a*(b*c)
 mul_comm:∀ a b:F,a*b=b*a
 one_mul:∀ a:F,1*a=a
 add_mul:∀ a b c:F,(a+b)*c=a*c+b*c
 sub_eq:∀ a b:F,a-b=a+-b
section
variable {F:Type} [CR F]
theorem add_assoc (a b c:F):(a+b)+c=a+(b+c):=CR.add_assoc a b c
theorem add_comm (a b:F):a+b=b+a:=CR.add_comm a b
theorem mul_assoc (a b c:F):(a*b)*c=a*(b*c):=CR.mul_assoc a b c
theorem mul_comm (a b:F):a*b=b*a:=CR.mul_comm a b
theorem zero_add (a:F):0+a=a:=CR.zero_add a
theorem add_zero (a:F):a+0=a:=by rw [add_comm,zero_add]
theorem neg_add (a:F):-a+a=0:=CR.neg_add a
theorem add_neg (a:F):a+-a=0:=by rw [add_comm,neg_add]
theorem one_mul (a:F):1*a=a:=CR.one_mul a
theorem mul_one (a:F):a*1=a:=by rw [mul_comm,one_mul]
theorem add_mul (a b c:F):(a+b)*c=a*c+b*c:=CR.add_mul a b c
theorem mul_add (a b c:F):a*(b+c)=a*b+a*c:=by rw [mul_comm,add_mul,mul_comm b,mul_comm c]
theorem sub_eq (a b:F):a-b=a+-b:=CR.sub_eq a b
theorem pS {a b c:F} (h:a+b=a+c):b=c:=by
 have:=congrArg (fun z=>-a+z) h
 simpa [← add_assoc,neg_add,zero_add] using this
theorem zero_mul (a:F):0*a=0:=by
 have h:0*a+0*a=0*a+0:=by rw [← add_mul,zero_add,add_zero]
 exact pS h
theorem mul_zero (a:F):a*0=0:=by rw [mul_comm,zero_mul]
theorem IJ {a b:F} (h:a+b=0):b=-a:=pS (a:=a) (by rw [h,add_neg])
theorem UQ (a b:F):-a*b=-(a*b):=IJ (by rw [← add_mul,add_neg,zero_mul])
theorem neg_neg (a:F):-(-a)=a:=(IJ (neg_add a)).symm
theorem K_:-(0:F)=0:=(IJ (zero_add 0)).symm
theorem UR (a b:F):-(a+b)=-a+-b:=(IJ (by
 rw [add_comm a b,add_assoc,← add_assoc a,add_neg,zero_add,add_neg])).symm
theorem sub_self (a:F):a-a=0:=by rw [sub_eq,add_neg]
theorem AO {a b:F}:a-b=0↔a=b:=by
 constructor
 ·intro h
  rw [sub_eq] at h
  have:=IJ ((add_comm _ _).trans h)
  rw [this,neg_neg]
 ·rintro rfl;exact sub_self a
theorem pT (a b c:F):a+(b+c)=b+(a+c):=by rw [← add_assoc,add_comm a b,add_assoc]
theorem mul_left_comm (a b c:F):a*(b*c)=b*(a*c):=by rw [← mul_assoc,mul_comm a b,mul_assoc]
def Dk:Nat→F
 | 0=>0
 | n+1=>Dk n+1
theorem Mn (a b:Nat):(Dk (a+b):F)=Dk a+Dk b:=by
 induction b with
 | zero=>simp [Dk,add_zero]
 | succ b ih=>rw [← Nat.add_assoc];simp only [Dk];rw [ih,add_assoc]
theorem US (a b:Nat):(Dk (a*b):F)=Dk a*Dk b:=by
 induction b with
 | zero=>simp [Dk,mul_zero]
 | succ b ih=>rw [Nat.mul_succ,Mn,ih];simp only [Dk];rw [mul_add,mul_one]
def int:Int→F
 | .ofNat n=>Dk n
 | .negSucc n=>-(Dk (n+1))
theorem OR (a b:Nat):(int ((a:Int)-b):F)=Dk a+-Dk b:=by
 rcases Nat.le_total b a with h | h
 ·obtain ⟨c,rfl⟩:=Nat.exists_eq_add_of_le h
  rw [show ((b+c:Nat):Int)-b=(c:Int) by omega,Mn,add_comm (Dk b) (Dk c),add_assoc,add_neg,add_zero];rfl
 ·obtain ⟨c,rfl⟩:=Nat.exists_eq_add_of_le h
  cases c with
  | zero=>rw [Nat.add_zero,add_neg,show (a:Int)-(a:Nat)=0 by omega];rfl
  | succ c =>
   rw [show (a:Int)-((a+(c+1):Nat):Int)=Int.negSucc c by omega,Mn,UR,← add_assoc,add_neg,zero_add];rfl
theorem UT (i:Int):∃ a b:Nat,i=(a:Int)-b:=by
 cases i with
 | ofNat n=>exact ⟨n,0,by simp⟩
 | negSucc n=>exact ⟨0,n+1,by omega⟩
theorem pU (i j:Int):(int (i+j):F)=int i+int j:=by
 obtain ⟨a,b,rfl⟩:=UT i
 obtain ⟨c,d,rfl⟩:=UT j
 rw [show (a:Int)-b+(c-d)=((a+c:Nat):Int)-(b+d:Nat) by omega,OR,OR,OR,Mn,Mn,UR]
 rw [add_assoc,add_assoc];congr 1
 rw [← add_assoc,← add_assoc];congr 1
 exact add_comm _ _
theorem pV (a b:F):a*-b=-(a*b):=by rw [mul_comm,UQ,mul_comm]
theorem AGc (i j:Int):(int (i*j):F)=int i*int j:=by
 obtain ⟨a,b,rfl⟩:=UT i
 obtain ⟨c,d,rfl⟩:=UT j
 rw [show ((a:Int)-b)*(c-d)=((a*c+b*d:Nat):Int)-(a*d+b*c:Nat) by
  rw [Int.natCast_add,Int.natCast_add,Int.natCast_mul,Int.natCast_mul,Int.natCast_mul,Int.natCast_mul,Int.sub_mul,Int.mul_sub,Int.mul_sub];omega]
 rw [OR,OR,OR,Mn,Mn,US,US,US,US]
 rw [add_mul,mul_add,mul_add,UQ,pV,UQ,pV,neg_neg,UR]
 rw [add_assoc,add_assoc];congr 1
 rw [add_comm (Dk b*Dk d),add_assoc]
theorem AGd (i:Int):(int (-i):F)=-int i:=by
 refine IJ ?_
 rw [← pU,Int.add_right_neg];rfl
theorem AGe:(int 0:F)=0:=rfl
theorem Qn:(int 1:F)=1:=by show Dk 0+1=_;exact zero_add 1
def pw (x:F):Nat→F
 | 0=>1
 | n+1=>pw x n*x
theorem AGf (x:F) (a b:Nat):pw x (a+b)=pw x a*pw x b:=by
 induction b with
 | zero=>simp [pw,mul_one]
 | succ b ih=>rw [← Nat.add_assoc];simp only [pw];rw [ih,mul_assoc]
end
abbrev Mon:=List Nat
abbrev Pol:=List (Mon×Int)
def OS:Mon→Mon→Mon
 | [],b=>b
 | a::ar,b=>match b with
  | []=>a::ar
  | c::bs=>(a+c)::OS ar bs
def UU:Mon→Mon→Nat
 | [],b=>match b with
  | []=>0
  | _::_=>2
 | a::ar,b=>match b with
  | []=>1
  | c::bs=>match Nat.beq a c with
   | true=>UU ar bs
   | false=>match Nat.ble a c with
    | true=>2
    | false=>1
theorem pW:∀ {a b:Mon},UU a b=0→a=b
 | [],[],_=>rfl
 | [],_::_,h=>by cases h
 | _::_,[],h=>by cases h
 | a::ar,c::bs,h=>by
  simp only [UU] at h
  cases hb:Nat.beq a c with
  | true=>rw [hb] at h;rw [Nat.eq_of_beq_eq_true hb,pW h]
  | false =>
   rw [hb] at h
   cases hl:Nat.ble a c<;>rw [hl] at h<;>cases h
def UV (m:Mon) (c:Int) (p:Pol):Pol:=match c with
 | .ofNat 0=>p
 | _=>(m,c)::p
def K':Nat→Pol→Pol→Pol
 | 0,p,q=>p++q
 | n+1,p,q=>match p with
  | []=>q
  | (a,c)::p'=>match q with
   | []=>p
   | (b,d)::q'=>match UU a b with
    | 0=>UV a (c+d) (K' n p' q')
    | 1=>(a,c)::K' n p' q
    | _=>(b,d)::K' n p q'
def len:Pol→Nat
 | []=>0
 | _::r=>len r+1
def LA (p q:Pol):Pol:=K' (len p+len q) p q
def Qo (m:Mon) (c:Int):Pol→Pol
 | []=>[]
 | (a,d)::r=>(OS m a,c*d)::Qo m c r
def OT:Pol→Pol→Pol
 | [],_=>[]
 | (a,c)::r,q=>LA (Qo a c q) (OT r q)
def OU:Pol→Pol
 | []=>[]
 | (a,c)::r=>(a,-c)::OU r
section
variable {F:Type} [CR F]
def FJ:List F→Mon→F
 | [],_=>1
 | x::xs,m=>match m with
  | []=>1
  | e::es=>pw x e*FJ xs es
def BQ (xs:List F):Pol→F
 | []=>0
 | (m,c)::r=>int c*FJ xs m+BQ xs r
theorem Qp (xs:List F):FJ xs []=1:=by cases xs<;>rfl
theorem pZ:∀ (xs:List F) (a b:Mon),FJ xs (OS a b)=FJ xs a*FJ xs b
 | [],a,b=>by simp [FJ,one_mul]
 | x::xs,[],b=>by simp [OS,Qp,one_mul]
 | x::xs,a::ar,[]=>by simp [OS,Qp,mul_one]
 | x::xs,a::ar,c::bs=>by
  simp only [OS,FJ]
  rw [AGf,pZ xs ar bs,mul_assoc,mul_assoc];congr 1;rw [mul_left_comm]
theorem p7 (xs:List F) (m:Mon) (c:Int) (p:Pol):BQ xs (UV m c p)=int c*FJ xs m+BQ xs p:=by
 unfold UV
 split
 ·show _=int 0*_+_
  rw [AGe,zero_mul,zero_add]
 ·rfl
theorem p8 (xs:List F):∀ p q:Pol,BQ xs (p++q)=BQ xs p+BQ xs q
 | [],q=>by simp [BQ,zero_add]
 | (m,c)::p,q=>by simp only [List.cons_append,BQ];rw [p8 xs p q,add_assoc]
theorem UW (xs:List F):∀ (n:Nat) (p q:Pol),BQ xs (K' n p q)=BQ xs p+BQ xs q
 | 0,p,q=>p8 xs p q
 | n+1,[],q=>by simp [K',BQ,zero_add]
 | n+1,(a,c)::p',[]=>by simp [K',BQ,add_zero]
 | n+1,(a,c)::p',(b,d)::q'=>by
  simp only [K']
  split
  ·rename_i h
   rw [p7,UW xs n p' q',pW h]
   simp only [BQ]
   rw [pU,add_mul,add_assoc,add_assoc];congr 1
   rw [pT]
  ·simp only [BQ];rw [UW xs n p' _];simp only [BQ];rw [add_assoc]
  ·simp only [BQ];rw [UW xs n _ q'];simp only [BQ];rw [pT]
theorem Za (xs:List F) (p q:Pol):BQ xs (LA p q)=BQ xs p+BQ xs q:=UW xs _ p q
theorem p9 (xs:List F) (m:Mon) (c:Int):∀ p:Pol,BQ xs (Qo m c p)=int c*FJ xs m*BQ xs p
 | []=>by simp [Qo,BQ,mul_zero]
 | (a,d)::r=>by
  simp only [Qo,BQ]
  rw [p9 xs m c r,pZ,AGc,mul_add];congr 1
  rw [mul_assoc,mul_assoc];congr 1;rw [mul_left_comm]
theorem Zb (xs:List F):∀ p q:Pol,BQ xs (OT p q)=BQ xs p*BQ xs q
 | [],q=>by simp [OT,BQ,zero_mul]
 | (a,c)::r,q=>by simp only [OT,BQ];rw [Za,p9,Zb xs r q,add_mul]
theorem Zc (xs:List F):∀ p:Pol,BQ xs (OU p)=- BQ xs p
 | []=>by simp [OU,BQ,K_]
 | (a,c)::r=>by simp only [OU,BQ];rw [Zc xs r,AGd,UQ,UR]
end
inductive E where
 | v (i:Nat)
 | c (k:Int)
 | add (a b:E)
 | sub (a b:E)
 | mul (a b:E)
 | neg (a:E)
 | pw (a:E) (n:Nat)
def Qq:Nat→Mon
 | 0=>[1]
 | i+1=>0::Qq i
def Qr (p:Pol):Nat→Pol
 | 0=>[([],1)]
 | n+1=>OT (Qr p n) p
def E.pol:E→Pol
 | .v i=>[(Qq i,1)]
 | .c k=>UV [] k []
 | .add a b=>LA a.pol b.pol
 | .sub a b=>LA a.pol (OU b.pol)
 | .mul a b=>OT a.pol b.pol
 | .neg a=>OU a.pol
 | .pw a n=>Qr a.pol n
def nth {F:Type} [One F]:List F→Nat→F
 | [],_=>1
 | x::_,0=>x
 | _::xs,i+1=>nth xs i
section
variable {F:Type} [CR F]
def E.den (xs:List F):E→F
 | .v i=>nth xs i
 | .c k=>int k
 | .add a b=>a.den xs+b.den xs
 | .sub a b=>a.den xs-b.den xs
 | .mul a b=>a.den xs*b.den xs
 | .neg a=>- a.den xs
 | .pw a n=>Rg.pw (a.den xs) n
theorem qA:∀ (xs:List F) (i:Nat),FJ xs (Qq i)=nth xs i
 | [],i=>by simp [FJ,nth]
 | x::xs,0=>by simp [Qq,FJ,Qp,nth,Rg.pw,one_mul,mul_one]
 | x::xs,i+1=>by simp only [Qq,FJ,nth,Rg.pw];rw [one_mul,qA xs i]
theorem AGg (xs:List F) (p:Pol) (n:Nat):BQ xs (Qr p n)=Rg.pw (BQ xs p) n:=by
 induction n with
 | zero=>simp [Qr,BQ,Rg.pw,Qp,Qn,mul_one,add_zero]
 | succ n ih=>simp only [Qr,Rg.pw];rw [Zb,ih]
theorem E.pol_den (xs:List F):∀ e:E,BQ xs e.pol=e.den xs
 | .v i=>by simp only [E.pol,BQ,E.den];rw [qA,Qn,one_mul,add_zero]
 | .c k=>by simp only [E.pol,E.den];rw [p7];simp [BQ,Qp,mul_one,add_zero]
 | .add a b=>by simp only [E.pol,E.den];rw [Za,a.pol_den xs,b.pol_den xs]
 | .sub a b=>by simp only [E.pol,E.den];rw [Za,Zc,a.pol_den xs,b.pol_den xs,sub_eq]
 | .mul a b=>by simp only [E.pol,E.den];rw [Zb,a.pol_den xs,b.pol_den xs]
 | .neg a=>by simp only [E.pol,E.den];rw [Zc,a.pol_den xs]
 | .pw a n=>by simp only [E.pol,E.den];rw [AGg,a.pol_den xs]
def Mo:List (E×E)→E
 | []=>.c 0
 | (k,r)::l=>.add (.mul k r) (Mo l)
def Zd:Pol→Bool
 | []=>true
 | _::_=>false
def Ze (xs:List F):List (E×E)→Prop
 | []=>True
 | (_,r)::l=>r.den xs=0∧Ze xs l
theorem qB (xs:List F):∀ l:List (E×E),Ze xs l→(Mo l).den xs=0
 | [],_=>rfl
 | (k,r)::l,⟨h1,h2⟩=>by simp only [Mo,E.den];rw [h1,mul_zero,qB xs l h2,add_zero]
theorem A5 (xs:List F) (g:E) (l:List (E×E)) (hz:Ze xs l) (h:Zd (E.pol (.sub g (Mo l)))=true):g.den xs=0:=by
 have e:(E.pol (.sub g (Mo l)))=[]:=by
  cases hp:E.pol (.sub g (Mo l)) with
  | nil=>rfl
  | cons a b=>rw [hp] at h;cases h
 have:=E.pol_den xs (.sub g (Mo l))
 rw [e] at this
 simp only [BQ,E.den] at this
 rw [qB xs l hz] at this
 exact AO.1 this.symm
theorem AGh (xs:List F) (a b:E) (h:Zd (E.pol (.sub a b))=true):a.den xs=b.den xs:=by
 have e:(E.pol (.sub a b))=[]:=by
  cases hp:E.pol (.sub a b) with
  | nil=>rfl
  | cons a b=>rw [hp] at h;cases h
 have:=E.pol_den xs (.sub a b)
 rw [e] at this
 exact AO.1 this.symm
end
end Go.Proofs.YtojnabmgolpodaaGreat.Rg
