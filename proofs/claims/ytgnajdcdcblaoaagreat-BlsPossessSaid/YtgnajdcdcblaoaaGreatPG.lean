/- Part 7 of the proof. -/
import Derived.Test.YtgnajdcdcblaoaaGreatPF
import Derived.Test.YtgnajdcdcblaoaaGreatPB
import Derived.Test.YtgnajdcdcblaoaaGreatPE
set_option maxRecDepth 100000
set_option maxHeartbeats 4000000
open Go.Proofs.Tryz renaming prog→dn
namespace Go.Proofs.YtgnajdcdcblaoaaGreat
open Ex Num Rg
open Sh (R av rd mo en mo_en)
noncomputable section
def vM (r:R FP6):R FP6:=en ((mo r:FP6)*vv)
theorem Ain (r:R FP6):zL r=vM r:=by
 obtain ⟨a,b,c⟩:=r;refine ju ?_ (ju ?_ ?_)<;>simp only [zL,mx,re]
 ·exact gh (en (α:=FP2)) (ring [mo a,mo b,mo c,xi] (a:=mo c*xi) (b:=mo a*0+xi*(mo b*0+mo c*1)) dk)
 ·exact gh (en (α:=FP2)) (ring [mo a,mo b,mo c,xi] (a:=mo a) (b:=mo a*1+mo b*0+xi*(mo c*0)) dk)
 ·exact gh (en (α:=FP2)) (ring [mo a,mo b,mo c,xi] (a:=mo b) (b:=mo a*0+mo b*1+mo c*0) dk)
def SDc:dt:=(229,AZ (C_ FP6 FP6 fun r s=>va FP6 (ad FP6 r s)))::(231,AZ (C_ FP6 FP6 fun r s=>va FP6 (su FP6 r s)))::(125,AZ (C_ FP6 FP6 fun r s=>va FP6 (ad FP6 r s)))::(253,AZ (BR FP6 fun r=>va FP6 (re FP6 r)))::(254,AZ (BR FP6 fun r=>va FP6 (ng FP6 r)))::(267,AZ (BR FP6 fun r=>va FP6 (re FP6 r)))::(268,AZ (BR FP6 fun r=>va FP6 (ng FP6 r)))::(230,AZ (BR FP6 fun r=>va FP6 (vM r)))::(287,AZ (C_ FP6 FP2 fun r k=>va FP6 (MV r k)))::(284,AZ (C_ FP6 FP2 fun r k=>va FP6 (MV r k)))::(227,AZ (C_ FP6 FP6 fun r s=>va FP6 (mu FP6 r s)))::(126,AZ (C_ FP6 FP6 fun r s=>va FP6 (mu FP6 r s)))::SCf0
theorem AJ2:AT dn SDc:=⟨Aa Tryz.func229 dk dk (DI fun r s=>AN Jv AB Tryz.func229 (AiZ r s) trivial rfl),Aa Tryz.func231 dk dk (DI fun r s=>AN Jv AB Tryz.func231 (Aia r s) trivial rfl),Aa Tryz.func125 dk dk (DI fun r s=>AN Jv AB Tryz.func125 (Aib r s) trivial rfl),Aa Tryz.func253 dk dk (BW fun r=>AN Jv AB Tryz.func253 (Aic r) trivial rfl),Aa Tryz.func254 dk dk (BW fun r=>AN Jv AB Tryz.func254 (Aid r) trivial rfl),Aa Tryz.func267 dk dk (BW fun r=>AN Jv AB Tryz.func267 (Aie r) trivial rfl),Aa Tryz.func268 dk dk (BW fun r=>AN Jv AB Tryz.func268 (Aif r) trivial rfl),Aa Tryz.func230 dk dk (BW fun r=>by rw [← Ain];exact AN Jv AB Tryz.func230 (Aig r) trivial rfl),Aa Tryz.func287 dk dk (DI fun r s=>AN Jv AB Tryz.func287 (Aih r s) trivial rfl),Aa Tryz.func284 dk dk (DI fun r s=>AN Jv AB Tryz.func284 (Aii r s) trivial rfl),Aa Tryz.func227 dk dk (DI fun r s=>by rw [← Ail];exact AN Jv AB Tryz.func227 (Aij r s) (Ad 5 ⟨rfl,Ad 5 ⟨rfl,Ad 5 ⟨rfl,trivial⟩⟩⟩) rfl),Aa Tryz.func126 dk dk (DI fun r s=>by rw [← Aim];exact AN Jv AB Tryz.func126 (Aik r s) trivial rfl),gR⟩
end
noncomputable section
def SDd0:dt:=(274,A5 dn oCf0 Tryz.f274 300)::SDc
theorem Aio:AT dn SDd0:=⟨A7 LE AB Tryz.func274 dk dk 300,AJ2⟩
abbrev oDd0:Orc:=AG SDd0 KV
theorem zP:OrcOk dn oDd0:=AH Aio BJ
def iJ (r:R FP6):R FP2:=su FP2 (mu FP2 r.1 r.1) (mx (mu FP2 r.2.1 r.2.2))
def iK (r:R FP6):R FP2:=su FP2 (mx (mu FP2 r.2.2 r.2.2)) (mu FP2 r.1 r.2.1)
def iL (r:R FP6):R FP2:=su FP2 (mu FP2 r.2.1 r.2.1) (mu FP2 r.1 r.2.2)
def N9 (r:R FP6):R FP6:=(iJ r,iK r,iL r)
def iM (r:R FP6):R FP2:=Rx (mu FP2 r.1 (iJ r)) (mx (Rx (mu FP2 r.2.2 (iK r)) (mu FP2 r.2.1 (iL r))))
def zQ:R FP6:=(BZ,oR,BZ)
section
variable (r:R FP6)
theorem Aip:AK dn oDd0 Tryz.f269 [va FP6 r] [true,true,false,true,true,false] 600=some (tt 5 ((false,false)::tt 5 ((false,false)::[])),va FP6 (MV (N9 r) (iv FP2 (iM r)))):=dk
theorem Aiq:AK dn oDd0 Tryz.f255 [va FP6 r] [] 600=some ([],va FP6 (MV (N9 r) (iv FP2 (mu FP6 r (N9 r)).1))):=dk
theorem Air:AK dn oDd0 Tryz.f127 [va FP6 r] [] 600=some ([],va FP6 (mu FP6 r zQ)):=dk
end
theorem iN (r:R FP6):N9 r=en (mo r:FP6).adj:=by
 obtain ⟨a,b,c⟩:=r;refine ju ?_ (ju ?_ ?_)<;>simp only [N9,iJ,iK,iL,mx,su,mu,mo_en]
 ·exact gh (en (α:=FP2)) (ring [mo a,mo b,mo c,xi] (a:=mo a*mo a-mo b*mo c*xi) (b:=mo a*mo a-xi*(mo b*mo c)) dk)
 ·exact gh (en (α:=FP2)) (ring [mo a,mo b,mo c,xi] (a:=mo c*mo c*xi-mo a*mo b) (b:=xi*(mo c*mo c)-mo a*mo b) dk)
 ·rfl
theorem Ais (r:R FP6):iM r=en (mo r:FP6).nrm:=by
 have e:=iN r;have e1:iJ r=en (mo r:FP6).adj.a:=gh Prod.fst e
 have e2:iK r=en (mo r:FP6).adj.b:=gh (fun z=>z.2.1) e
 have e3:iL r=en (mo r:FP6).adj.c:=gh (fun z=>z.2.2) e
 obtain ⟨a,b,c⟩:=r;simp only [iM,e1,e2,e3,Rx,mx,ad,mu,mo_en,Pp];show en (_:FP2)=en (mo a*(mo (a,b,c):FP6).adj.a+xi*(mo c*(mo (a,b,c):FP6).adj.b+mo b*(mo (a,b,c):FP6).adj.c):FP2);generalize (mo (a,b,c):FP6).adj=q at *
 exact gh (en (α:=FP2)) (ring [mo a,mo b,mo c,q.a,q.b,q.c,xi] (a:=0+mo a*q.a+(0+mo c*q.b+mo b*q.c)*xi) (b:=mo a*q.a+xi*(mo c*q.b+mo b*q.c)) dk)
theorem AJ3 (x:FP6):MV (en x.adj) (iv FP2 (en x.nrm))=iv FP6 (en x):=by
 simp only [MV,iv,mu,mo_en];show _=en (rP x);exact ju (by rw [show (en x.adj:R FP6).1=(en x.adj.a:R FP2) from rfl,mo_en];rfl) (ju (by rw [show (en x.adj:R FP6).2.1=(en x.adj.b:R FP2) from rfl,mo_en];rfl) (by rw [show (en x.adj:R FP6).2.2=(en x.adj.c:R FP2) from rfl,mo_en];rfl))
theorem AJ4 (r:R FP6):iv FP6 (en (mo r:FP6))=iv FP6 r:=by unfold iv;rw [mo_en]
theorem Ait (r:R FP6):MV (N9 r) (iv FP2 (iM r))=iv FP6 r:=by rw [iN,Ais,AJ3,AJ4]
theorem Aiu (r:R FP6):MV (N9 r) (iv FP2 (mu FP6 r (N9 r)).1)=iv FP6 r:=by
 have e:(mu FP6 r (N9 r)).1=en (mo r:FP6).nrm:=by
  rw [iN];unfold mu;rw [mo_en,Kx.mul_adj];rfl
 rw [e,iN,AJ3,AJ4]
theorem Aiv:(mo zQ:FP6)=vv:=Kx.ext Pp YJ Pp
theorem e6v (r:R FP6):mu FP6 r zQ=vM r:=by unfold mu vM;rw [Aiv]
def SDd:dt:=(269,AZ (BR FP6 fun r=>va FP6 (iv FP6 r)))::(255,AZ (BR FP6 fun r=>va FP6 (iv FP6 r)))::(127,AZ (BR FP6 fun r=>va FP6 (vM r)))::SDc
theorem zS:AT dn SDd:=⟨Aa Tryz.func269 dk dk (BW fun r=>by rw [← Ait];exact AN zP AB Tryz.func269 (Aip r) (Ad 5 ⟨rfl,Ad 5 ⟨rfl,trivial⟩⟩) rfl),Aa Tryz.func255 dk dk (BW fun r=>by rw [← Aiu];exact AN zP AB Tryz.func255 (Aiq r) trivial rfl),Aa Tryz.func127 dk dk (BW fun r=>by rw [← e6v];exact AN zP AB Tryz.func127 (Air r) trivial rfl),AJ2⟩
abbrev oDd:Orc:=AG SDd KV
theorem Aix:OrcOk dn oDd:=AH zS BJ
end
noncomputable section
def SDe0:dt:=(228,A5 dn oDd Tryz.f228 300)::SDd
theorem Aiy:AT dn SDe0:=⟨A7 Aix AB Tryz.func228 dk dk 300,zS⟩
abbrev oDe0:Orc:=AG SDe0 KV
theorem YO:OrcOk dn oDe0:=AH Aiy BJ
def zT (r s:R FP12):R FP12:=(ad FP6 (mu FP6 r.1 s.1) (vM (mu FP6 r.2 s.2)),su FP6 (mu FP6 (ad FP6 r.1 r.2) (ad FP6 s.1 s.2)) (ad FP6 (mu FP6 r.1 s.1) (mu FP6 r.2 s.2)))
def zU (r s:R FP12):R FP12:=(ad FP6 (mu FP6 r.1 s.1) (vM (mu FP6 r.2 s.2)),ad FP6 (mu FP6 r.1 s.2) (mu FP6 r.2 s.1))
def AJ5 (r:R FP12):R FP12:=(re FP6 r.1,ng FP6 r.2)
def o12:R FP12:=((oR,BZ,BZ),(BZ,BZ,BZ))
section
variable (r s:R FP12)
theorem Aiz:AK dn oDe0 Tryz.f270 [va FP12 r] [] 300=some ([],va FP12 (re FP12 r)):=dk
theorem Ai0:AK dn oDe0 Tryz.f159 [va FP12 r,va FP12 s] [] 300=some ([],va FP12 (zT r s)):=dk
theorem Ai1:AK dn oDe0 Tryz.f223 [va FP12 r] [] 300=some ([],va FP12 (AJ5 r)):=dk
theorem Ai2:AK dn oDe0 Tryz.f57 [va FP12 r,va FP12 s] [] 300=some ([],va FP12 (zU r s)):=dk
theorem Ai3:AK dn oDe0 Tryz.f196 [va FP12 r] [] 300=some ([],va FP12 (AJ5 r)):=dk
end
theorem Ai4 (r s:R FP12):zT r s=mu FP12 r s:=by
 obtain ⟨a,b⟩:=r;obtain ⟨c,d⟩:=s;refine ju ?_ ?_<;>simp only [zT,vM,ad,su,mu,mo_en]
 ·exact gh (en (α:=FP6)) (ring [mo a,mo b,mo c,mo d,vv] (a:=mo a*mo c+mo b*mo d*vv) (b:=mo a*mo c+vv*(mo b*mo d)) dk)
 ·exact gh (en (α:=FP6)) (ring [mo a,mo b,mo c,mo d,vv] (a:=(mo a+mo b)*(mo c+mo d)-(mo a*mo c+mo b*mo d)) (b:=mo a*mo d+mo b*mo c) dk)
theorem Ai5 (r s:R FP12):zU r s=mu FP12 r s:=by
 obtain ⟨a,b⟩:=r;obtain ⟨c,d⟩:=s;refine ju ?_ ?_<;>simp only [zU,vM,ad,mu,mo_en]
 ·exact gh (en (α:=FP6)) (ring [mo a,mo b,mo c,mo d,vv] (a:=mo a*mo c+mo b*mo d*vv) (b:=mo a*mo c+vv*(mo b*mo d)) dk)
 ·rfl
def MW (r:R FP12):R FP12:=en (Qx.conj (mo r:FP12))
def SDe1:dt:=(159,AZ (C_ FP12 FP12 fun r s=>va FP12 (mu FP12 r s)))::(57,AZ (C_ FP12 FP12 fun r s=>va FP12 (mu FP12 r s)))::(270,AZ (BR FP12 fun r=>va FP12 (re FP12 r)))::(223,AZ (BR FP12 fun r=>va FP12 (MW r)))::(196,AZ (BR FP12 fun r=>va FP12 (MW r)))::SDd
theorem AJ6:AT dn SDe1:=⟨Aa Tryz.func159 dk dk (DI fun r s=>by rw [← Ai4];exact AN YO AB Tryz.func159 (Ai0 r s) trivial rfl),Aa Tryz.func57 dk dk (DI fun r s=>by rw [← Ai5];exact AN YO AB Tryz.func57 (Ai2 r s) trivial rfl),Aa Tryz.func270 dk dk (BW fun r=>AN YO AB Tryz.func270 (Aiz r) trivial rfl),Aa Tryz.func223 dk dk (BW fun r=>AN YO AB Tryz.func223 (Ai1 r) trivial rfl),Aa Tryz.func196 dk dk (BW fun r=>AN YO AB Tryz.func196 (Ai3 r) trivial rfl),zS⟩
abbrev oDe1:Orc:=AG SDe1 KV
theorem AJ7:OrcOk dn oDe1:=AH AJ6 BJ
def iO (r:R FP12):R FP12:=(mu FP6 r.1 (iv FP6 (su FP6 (mu FP6 r.1 r.1) (vM (mu FP6 r.2 r.2)))),ng FP6 (mu FP6 r.2 (iv FP6 (su FP6 (mu FP6 r.1 r.1) (vM (mu FP6 r.2 r.2))))))
def zV (r:R FP12):R FP12:=(mu FP6 (MW r).1 (iv FP6 (mu FP12 r (MW r)).1),mu FP6 (MW r).2 (iv FP6 (mu FP12 r (MW r)).1))
section
variable (r:R FP12)
theorem Ai6:AK dn oDe1 Tryz.f224 [va FP12 r] [] 300=some ([],va FP12 (iO r)):=dk
theorem Ai7:AK dn oDe1 Tryz.f197 [va FP12 r] [] 300=some ([],va FP12 (zV r)):=dk
end
end
noncomputable section
theorem Ai8 (x:FP12):(FD.inv x:FP12)=Ty x:=rfl
theorem Ai9 (x:FP12):(en x:R FP12)=(en x.a,en x.b):=rfl
theorem Ai_ (x:FP12):(Ty x).a=x.a*FD.inv x.nrm:=dk
theorem Ai' (x:FP12):(Ty x).b=-x.b*FD.inv x.nrm:=dk
theorem AJ8 (x:FP12):(en (FD.inv x):R FP12)=(en (x.a*FD.inv x.nrm),en (-x.b*FD.inv x.nrm)):=by
 rw [← Ai_,← Ai',Ai8];exact Ai9 _
theorem zW (a b:R FP6):(mo ((a,b):R FP12):FP12).a=mo a:=rfl
theorem zX (a b:R FP6):(mo ((a,b):R FP12):FP12).b=mo b:=rfl
theorem AjA (x y:FP6):x*x-y*y*vv=x*x-vv*(y*y):=ring [x,y,vv] (a:=x*x-y*y*vv) (b:=x*x-vv*(y*y)) dk
theorem AjB (x:FP12):x.nrm=x.a*x.a-vv*(x.b*x.b):=dk
theorem n12 (a b:R FP6):(mo a:FP6)*mo a-mo b*mo b*vv=(mo ((a,b):R FP12):FP12).nrm:=by rw [AjA,AjB,zW,zX]
theorem AjD (x i:FP6):-(x*i)=-x*i:=ring [x,i] (a:=-(x*i)) (b:=-x*i) dk
theorem AjE (r:R FP12):iO r=iv FP12 r:=by
 obtain ⟨a,b⟩:=r;have e:iO (a,b)=(en (mo a*FD.inv (mo ((a,b):R FP12):FP12).nrm),en (-(mo b*FD.inv (mo ((a,b):R FP12):FP12).nrm))):=by
  simp only [iO,vM,su,ng,iv,mu,mo_en,n12]
 rw [e,AjD];have h:=AJ8 (mo ((a,b):R FP12))
 rw [zW,zX] at h;exact h.symm
theorem AjF (a b:R FP6):(MW (a,b)).1=en (mo a:FP6):=rfl
theorem AjG (a b:R FP6):(MW (a,b)).2=en (-mo b:FP6):=rfl
theorem AjH (x:FP6) (y:FP6):(en (⟨x,y⟩:FP12):R FP12).1=en x:=rfl
theorem AjI (r:R FP12):(mu FP12 r (MW r)).1=en (mo r:FP12).nrm:=by
 unfold mu MW;rw [mo_en,Qx.mul_conj];exact AjH _ _
theorem AjJ (r:R FP12):zV r=iv FP12 r:=by
 unfold zV;rw [AjI];obtain ⟨a,b⟩:=r;have h:=AJ8 (mo ((a,b):R FP12))
 rw [zW,zX] at h;rw [AjF,AjG];unfold mu iv;rw [mo_en,mo_en,mo_en,mo_en];exact h.symm
def SDf:dt:=(224,AZ (BR FP12 fun r=>va FP12 (iv FP12 r)))::(197,AZ (BR FP12 fun r=>va FP12 (iv FP12 r)))::SDe1
theorem zY:AT dn SDf:=⟨Aa Tryz.func224 dk dk (BW fun r=>by rw [← AjE];exact AN AJ7 AB Tryz.func224 (Ai6 r) trivial rfl),Aa Tryz.func197 dk dk (BW fun r=>by rw [← AjJ];exact AN AJ7 AB Tryz.func197 (Ai7 r) trivial rfl),AJ6⟩
abbrev oDf:Orc:=AG SDf KV
theorem AJ9:OrcOk dn oDf:=AH zY BJ
end
noncomputable section
def SDg0:dt:=(288,A5 dn oDf Tryz.f288 300)::(289,A5 dn oDf Tryz.f289 300)::SDf
theorem AjK:AT dn SDg0:=⟨A7 AJ9 AB Tryz.func288 dk dk 300,A7 AJ9 AB Tryz.func289 dk dk 300,zY⟩
abbrev oDg0:Orc:=AG SDg0 KV
theorem AJ_:OrcOk dn oDg0:=AH AjK BJ
def AJ':R FP2:=((1:Nat),(0:Nat))
def AKA:R FP2:=((3850754370037169011952147076051364057158807420970682438676050522613628423219637725072182697113062777891589506424760:Nat),(151655185184498381465642749684540099398075398968325446656007613510403227271200139370504932015952886146304766135027:Nat))
def AKB:R FP2:=((0:Nat),(4002409555221667392624310435006688643935503118305586438271171395842971157480381377015405980053539358417135540939436:Nat))
def AKC:R FP2:=((1028732146235106349975324479215795277384839936929757896155643118032610843298655225875571310552543014690878354869257:Nat),(1028732146235106349975324479215795277384839936929757896155643118032610843298655225875571310552543014690878354869257:Nat))
def AKD:R FP2:=((4002409555221667392624310435006688643935503118305586438271171395842971157480381377015405980053539358417135540939437:Nat),(0:Nat))
def AKE:R FP2:=((877076961050607968509681729531255177986764537961432449499635504522207616027455086505066378536590128544573588734230:Nat),(3125332594171059424908108096204648978570118281977575435832422631601824034463382777937621250592425535493320683825557:Nat))
def zZ (r:R FP12):R FP12:=((mu FP2 (cj r.1.1) AJ',mu FP2 (cj r.1.2.1) AKB,mu FP2 (cj r.1.2.2) AKD),(mu FP2 (cj r.2.1) AKA,mu FP2 (cj r.2.2.1) AKC,mu FP2 (cj r.2.2.2) AKE))
end
noncomputable section
def z4 (l:R FP2) (q:R P2) (x y:Nat):R FP12:=((su FP2 (mu FP2 l q.1) q.2.1,ng FP2 (sc l x),BZ),(BZ,((re FP y:R FP),(0:Nat)),BZ))
def AKF:List Ch:=[.n .u64 0,.n .u64 0,.n .u64 0,.n .u64 0,.n .u64 0,.n .u64 0]
def z5 (l:R FP2) (q:R P2) (x y:Nat):List Ch:=Bh (av (su FP2 (mu FP2 l q.1) q.2.1)) (Bh (av (ng FP2 (sc l x))) (Bh RB (Bh RB (Bh (av (re FP y:R FP)) (Bh AKF RB)))))
theorem AjL (l:R FP2) (q:R P2) (x y:Nat) (i:Bool):AK dn oDg0 Tryz.f266 [va FP2 l,va P2 q,Bj x y i] [] 600=some ([],.val true (z5 l q x y)):=dk
theorem AjM (l:R FP2) (q:R P2) (x y:Nat) (i:Bool):AK dn oDg0 Tryz.f252 [va FP2 l,va P2 q,Bj x y i] [] 600=some ([],.val true (z5 l q x y)):=dk
theorem AKG (l:R FP2) (q:R P2) (x y:Nat):(rd (z5 l q x y):Option (R FP12))=some (z4 l q x y):=dk
end
noncomputable section
def Pv (l:R FP2) (q:R P2) (p:R (Pt FP)):R FP12:=z4 l q p.1 p.2.1
def SDi:dt:=(266,AZ (T' FP2 P2 (Pt FP) fun l q p=>va FP12 (Pv l q p)))::(252,AZ (T' FP2 P2 (Pt FP) fun l q p=>va FP12 (Pv l q p)))::SDf
theorem AKH:AT dn SDi:=⟨Aa Tryz.func266 dk dk (b9 fun l q p=>EK (α:=FP12) (AN AJ_ AB Tryz.func266 (AjL l q p.1 p.2.1 p.2.2) trivial rfl) (AKG l q p.1 p.2.1)),Aa Tryz.func252 dk dk (b9 fun l q p=>EK (α:=FP12) (AN AJ_ AB Tryz.func252 (AjM l q p.1 p.2.1 p.2.2) trivial rfl) (AKG l q p.1 p.2.1)),zY⟩
abbrev oDi:Orc:=AG SDi KV
theorem z7:OrcOk dn oDi:=AH AKH BJ
end
noncomputable section
def SDj0:dt:=(220,A5 dn oDi Tryz.f220 300)::(54,A5 dn oDi Tryz.f54 300)::(249,A5 dn oDi Tryz.f249 300)::SDi
theorem AKI:AT dn SDj0:=⟨A7 z7 AB Tryz.func220 dk dk 300,A7 z7 AB Tryz.func54 dk dk 300,A7 z7 AB Tryz.func249 dk dk 300,AKH⟩
abbrev oDj0:Orc:=AG SDj0 KV
theorem II:OrcOk dn oDj0:=AH AKI BJ
def G5:List Ch:=.n .u64 1::List.replicate 71 (.n .u64 0)
theorem z8:(rd G5:Option (R FP12))=some o12:=dk
noncomputable abbrev Ry:Func:=Tryz.f222
noncomputable abbrev Rz:Func:=Tryz.f195
def YP (t q:R P2):AV:=.tup [(true,av (en (Rg.add (mo (re P2 t):P2) (mo (re P2 q))):R P2)),(true,G5)]
def VH (t q:R P2):AV:=.tup [(true,av (en (Rg.add (mo t:P2) (mo q)):R P2)),(true,G5)]
section
variable (t q:R P2) (p:R (Pt FP))
theorem AjN:AK dn oDj0 Ry [va P2 t,va P2 q,va (Pt FP) p] dw 600=some ([(p.2.2,true)],YP t q):=dk
theorem AjO:AK dn oDj0 Ry [va P2 t,va P2 q,va (Pt FP) p] dz 600=some ([(p.2.2,false),((re P2 t).2.2,true)],YP t q):=dk
theorem AjP:AK dn oDj0 Ry [va P2 t,va P2 q,va (Pt FP) p] e_ 600=some ([(p.2.2,false),((re P2 t).2.2,false),((re P2 q).2.2,true)],YP t q):=dk
theorem AjQ:AK dn oDj0 Rz [va P2 t,va P2 q,va (Pt FP) p] dw 600=some ([(p.2.2,true)],VH t q):=dk
theorem AjR:AK dn oDj0 Rz [va P2 t,va P2 q,va (Pt FP) p] dz 600=some ([(p.2.2,false),(t.2.2,true)],VH t q):=dk
theorem AjS:AK dn oDj0 Rz [va P2 t,va P2 q,va (Pt FP) p] e_ 600=some ([(p.2.2,false),(t.2.2,false),(q.2.2,true)],VH t q):=dk
end
end
noncomputable section
def AjT:List Ch:=List.replicate 36 (.n .u64 0)
def VI (x:R FP2) (a:R FP):List Ch:=Bh (av x) (Bh (av (ng FP a)) (Bh AKF (Bh RB AjT)))
def z9 (x:R FP2) (a:R FP):R FP12:=((x,((ng FP a:R FP),(0:Nat)),BZ),(BZ,BZ,BZ))
theorem AAA (x:R FP2) (a:R FP):(rd (VI x a):Option (R FP12))=some (z9 x a):=dk
def iQ (x y:R FP2):R FP2:=mu FP2 (ad FP2 (ad FP2 (mu FP2 (re FP2 x) (re FP2 x)) (mu FP2 (re FP2 x) (re FP2 x))) (mu FP2 (re FP2 x) (re FP2 x))) (iv FP2 (ad FP2 (re FP2 y) (re FP2 y)))
def stL (l x y x':R FP2) (p:R (Pt FP)):AV:=.tup [(true,Bh (av (aX l (re FP2 x) (re FP2 x'))) (Bh (av (aY l (re FP2 x) (re FP2 y) (aX l (re FP2 x) (re FP2 x')))) [.b false])),(true,av (Pv l (re P2 (x,y,false)) p))]
section
variable (x y x' y':R FP2) (a b:R FP)
theorem AjU:AK dn oDj0 Ry [va P2 (x,y,false),va P2 (x',y',false),va (Pt FP) (a,b,false)] eg 600=some ([(false,false),(false,false),(false,false),(!e2 (re FP2 x) (re FP2 x'),true)],stL (sC x y x' y') x y x' (a,b,false)):=dk
theorem AjV:AK dn oDj0 Ry [va P2 (x,y,false),va P2 (x',y',false),va (Pt FP) (a,b,false)] fe 600=some ([(false,false),(false,false),(false,false),(!e2 (re FP2 x) (re FP2 x'),false),(!e2 (re FP2 y) (re FP2 y'),true)],.tup [(true,CE true),(true,VI (re FP2 x) a)]):=dk
theorem AjW:AK dn oDj0 Ry [va P2 (x,y,false),va P2 (x',y',false),va (Pt FP) (a,b,false)] [false,false,false,false,false,true] 600=some ([(false,false),(false,false),(false,false),(!e2 (re FP2 x) (re FP2 x'),false),(!e2 (re FP2 y) (re FP2 y'),false),(e2 (re FP2 y) BZ,true)],.tup [(true,CE true),(true,VI (re FP2 x) a)]):=dk
theorem AjX:AK dn oDj0 Ry [va P2 (x,y,false),va P2 (x',y',false),va (Pt FP) (a,b,false)] [false,false,false,false,false,false] 600=some ([(false,false),(false,false),(false,false),(!e2 (re FP2 x) (re FP2 x'),false),(!e2 (re FP2 y) (re FP2 y'),false),(e2 (re FP2 y) BZ,false)],stL (iQ x y) x y x' (a,b,false)):=dk
end
end
noncomputable section
def srS (x y x' y':R FP2):List Ch:=av (en (Rg.add (mo ((x,y,false):R P2):P2) (mo ((x',y',false):R P2))):R P2)
def srV (x y x' y':R FP2) (l:R FP12):AV:=.tup [(true,srS x y x' y'),(true,av l)]
section
variable (x y x' y':R FP2) (a b:R FP)
theorem AjY:AK dn oDj0 Rz [va P2 (x,y,false),va P2 (x',y',false),va (Pt FP) (a,b,false)] ef 600=some ([(false,false),(false,false),(false,false),(e2 (re FP2 x) (re FP2 x'),false)],srV x y x' y' (Pv (sC x y x' y') (x,y,false) (a,b,false))):=dk
theorem AjZ:AK dn oDj0 Rz [va P2 (x,y,false),va P2 (x',y',false),va (Pt FP) (a,b,false)] [false,false,false,true,true] 600=some ([(false,false),(false,false),(false,false),(e2 (re FP2 x) (re FP2 x'),true),(!e2 (re FP2 y) (re FP2 y'),true)],.tup [(true,srS x y x' y'),(true,VI (re FP2 x) a)]):=dk
theorem Aja:AK dn oDj0 Rz [va P2 (x,y,false),va P2 (x',y',false),va (Pt FP) (a,b,false)] [false,false,false,true,false,true] 600=some ([(false,false),(false,false),(false,false),(e2 (re FP2 x) (re FP2 x'),true),(!e2 (re FP2 y) (re FP2 y'),false),(e2 (re FP2 y) (kk 0),true)],.tup [(true,srS x y x' y'),(true,VI (re FP2 x) a)]):=dk
theorem Ajb:AK dn oDj0 Rz [va P2 (x,y,false),va P2 (x',y',false),va (Pt FP) (a,b,false)] [false,false,false,true,false,false] 600=some ([(false,false),(false,false),(false,false),(e2 (re FP2 x) (re FP2 x'),true),(!e2 (re FP2 y) (re FP2 y'),false),(e2 (re FP2 y) (kk 0),false)],srV x y x' y' (Pv (sT x y) (x,y,false) (a,b,false))):=dk
end
end
noncomputable section
theorem AKK {F:FuncId} {args:List AV} {α β:Type} [Sh α] [Sh β] {c1 c2:List Ch} {r1:R α} {r2:R β} (h:AS dn F args (.tup [(true,c1),(true,c2)])) (h1:rd c1=some r1) (h2:rd c2=some r2):AS dn F args (.tup [(true,av r1),(true,av r2)]) :=
 CW h fun _ hu=>by
  obtain ⟨us,⟨u1,l1,⟨q1,p1,rfl⟩,⟨u2,l2,⟨q2,p2,rfl⟩,hn,rfl⟩,rfl⟩,rfl⟩:=hu;exact ⟨_,⟨_,_,⟨q1,Sh.rd_ok h1 p1,rfl⟩,⟨_,_,⟨q2,Sh.rd_ok h2 p2,rfl⟩,hn,rfl⟩,rfl⟩,rfl⟩
def MX (l x y:FP2) (a b:FP):FP12:=⟨⟨l*x-y,-(Qx.sc l a),0⟩,⟨0,⟨b,0⟩,0⟩⟩
def N_ (x:FP2) (a:FP):FP12:=⟨⟨x,⟨-a,0⟩,0⟩,⟨0,0,0⟩⟩
def YQ (x y x' y':FP2):FP2:=(y'-y)*FD.inv (x'-x)
def R0 (x y:FP2):FP2:=(x*x+x*x+x*x)*FD.inv (y+y)
def Px (x y x' y':FP2) (a b:FP):FP12:=if x=x' then (if y=y'∧y≠0 then MX (R0 x y) x y a b else N_ x a) else MX (YQ x y x' y') x y a b
def Hm (T Q:P2) (p:Pt FP):FP12:=match p with
 | .inf=>1
 | .pt a b=>match T with
  | .inf=>1
  | .pt x y=>match Q with
   | .inf=>1
   | .pt x' y'=>Px x y x' y' a b
theorem Ajc (r:R FP12):(rd (av r):Option (R FP12))=some r:=dk
def Py (t q:R P2) (p:R (Pt FP)):AV:=.tup [(true,av (en (Rg.add (mo t) (mo q)):R P2)),(true,av (en (Hm (mo t) (mo q) (mo p)):R FP12))]
theorem AAD (l x y:R FP2) (a b:R FP):Pv l (x,y,false) (a,b,false)=en (MX (mo l) (mo x) (mo y) (mo a) (mo b)):=by
 unfold Pv z4 MX su mu ng sc re;simp only [mo_en];rfl
theorem AAE (x:R FP2) (a:R FP):z9 (re FP2 x) a=en (N_ (mo x) (mo a)):=by
 unfold z9 N_ ng re;rfl
theorem R1:o12=en (1:FP12):=dk
theorem AAF {F:FuncId} {args:List AV} {β:Type} [Sh β] {c1 c2:List Ch} {r2:R β} (h:AS dn F args (.tup [(true,c1),(true,c2)])) (h2:rd c2=some r2):AS dn F args (.tup [(true,c1),(true,av r2)]) :=
 CW h fun _ hu=>by
  obtain ⟨us,⟨u1,l1,⟨q1,p1,rfl⟩,⟨u2,l2,⟨q2,p2,rfl⟩,hn,rfl⟩,rfl⟩,rfl⟩:=hu;exact ⟨_,⟨_,_,⟨q1,p1,rfl⟩,⟨_,_,⟨q2,Sh.rd_ok h2 p2,rfl⟩,hn,rfl⟩,rfl⟩,rfl⟩
section
variable {F:FuncId} {t q:R P2} {p:R (Pt FP)}
theorem VJ (h:AS dn F [va P2 t,va P2 q,va (Pt FP) p] (VH t q)) (hv:Hm (mo t) (mo q) (mo p)=1):AS dn F [va P2 t,va P2 q,va (Pt FP) p] (Py t q p):=by
 unfold Py;rw [hv,← R1];exact AAF h z8
end
theorem Ajd (t q:R P2):YP t q=VH t q:=by unfold YP VH re;rw [mo_en,mo_en]
theorem AKL (Q:P2) (p:Pt FP):Hm .inf Q p=1:=by cases p<;>rfl
theorem AKM (T:P2) (p:Pt FP):Hm T .inf p=1:=by cases p<;>cases T<;>rfl
section
variable {F:FuncId} {x y x' y':R FP2} {a b:R FP}
theorem IJ (a b:R FP2):e2 (re FP2 a) (re FP2 b)=decide ((mo a:FP2)=mo b):=d8 _ _
theorem iR (a:R FP2):e2 (re FP2 a) (kk 0)=decide ((mo a:FP2)=0):=by rw [kk0];exact d8 _ _
end
section
variable {F:FuncId} {args:List AV} {l x y x' y':R FP2} {a b:R FP}
theorem AKN (h:AS dn F args (stL l x y x' (a,b,false))) :
  AS dn F args (.tup [(true,av (en (HQ (mo x:FP2) (mo y) (mo x') (mo l)):R P2)),(true,av (en (MX (mo l) (mo x) (mo y) (mo a) (mo b)):R FP12))]):=by
 have h1:=AHW l (re FP2 x) (re FP2 y) (re FP2 x')
 have h2:=AAD l (re FP2 x) (re FP2 y) a b
 have e:∀ z:R FP2,(mo (re FP2 z):FP2)=mo z:=fun z=>mo_en _
 rw [e,e,e] at h1;rw [e,e] at h2;rw [← h1,← h2];exact AKK (α:=P2) (β:=FP12) (r1:=aP l (re FP2 x) (re FP2 y) (re FP2 x')) (r2:=Pv l (re FP2 x,re FP2 y,false) (a,b,false)) h dk (Ajc _)
theorem AKO (h:AS dn F args (.tup [(true,CE true),(true,VI (re FP2 x) a)])):AS dn F args (.tup [(true,av (en (.inf:P2):R P2)),(true,av (en (N_ (mo x) (mo a)):R FP12))]):=by
 rw [← AAE];exact AKK (α:=P2) (β:=FP12) (r1:=(en (.inf:P2):R P2)) h dk (AAA _ _)
end
theorem Aje (x y x' y':R FP2) (a b:R FP):Py (x,y,false) (x',y',false) (a,b,false)=.tup [(true,av (en (Rg.add (.pt (mo x:FP2) (mo y)) (.pt (mo x') (mo y'))):R P2)),(true,av (en (Px (mo x) (mo y) (mo x') (mo y') (mo a) (mo b)):R FP12))]:=rfl
theorem AKP {F:FuncId} {x y x' y':R FP2} {a b:R FP}
  (hc:decide ((mo x:FP2)=mo x')=false→AS dn F [va P2 (x,y,false),va P2 (x',y',false),va (Pt FP) (a,b,false)] (.tup [(true,av (en (Rg.add (.pt (mo x:FP2) (mo y)) (.pt (mo x') (mo y'))):R P2)),(true,av (en (MX (YQ (mo x) (mo y) (mo x') (mo y')) (mo x) (mo y) (mo a) (mo b)):R FP12))]))
  (hu:decide ((mo x:FP2)=mo x')=true→decide ((mo y:FP2)=mo y')=false→AS dn F [va P2 (x,y,false),va P2 (x',y',false),va (Pt FP) (a,b,false)] (.tup [(true,av (en (Rg.add (.pt (mo x:FP2) (mo y)) (.pt (mo x') (mo y'))):R P2)),(true,av (en (N_ (mo x) (mo a)):R FP12))]))
  (hz:decide ((mo x:FP2)=mo x')=true→decide ((mo y:FP2)=mo y')=true→decide ((mo y:FP2)=0)=true→AS dn F [va P2 (x,y,false),va P2 (x',y',false),va (Pt FP) (a,b,false)] (.tup [(true,av (en (Rg.add (.pt (mo x:FP2) (mo y)) (.pt (mo x') (mo y'))):R P2)),(true,av (en (N_ (mo x) (mo a)):R FP12))]))
  (ht:decide ((mo x:FP2)=mo x')=true→decide ((mo y:FP2)=mo y')=true→decide ((mo y:FP2)=0)=false→AS dn F [va P2 (x,y,false),va P2 (x',y',false),va (Pt FP) (a,b,false)] (.tup [(true,av (en (Rg.add (.pt (mo x:FP2) (mo y)) (.pt (mo x') (mo y'))):R P2)),(true,av (en (MX (R0 (mo x) (mo y)) (mo x) (mo y) (mo a) (mo b)):R FP12))])) :
  AS dn F [va P2 (x,y,false),va P2 (x',y',false),va (Pt FP) (a,b,false)] (Py (x,y,false) (x',y',false) (a,b,false)):=by
 rw [Aje];unfold Px;by_cases hx:(mo x:FP2)=mo x'
 ·rw [fw hx];by_cases hy:(mo y:FP2)=mo y'
  ·by_cases h0:(mo y:FP2)=0
   ·rw [fv (fun h=>h.2 h0)]
    exact hz (fu hx) (fu hy) (fu h0)
   ·rw [fw ⟨hy,h0⟩];exact ht (fu hx) (fu hy) (ga h0)
  ·rw [fv (fun h=>hy h.1)]
   exact hu (fu hx) (ga hy)
 ·rw [fv hx];exact hc (ga hx)
theorem Ajf {x y x' y':FP2} (h:decide (x=x')=false):Rg.add (.pt x y) (.pt x' y')=HQ x y x' (YQ x y x' y'):=by rw [KW,fv (l_ h)];rfl
theorem Ajg {x y x' y':FP2} (h:decide (x=x')=true) (h':decide (y=y')=false):Rg.add (.pt x y) (.pt x' y')=.inf:=by rw [KW,fw (gv h),fv fun q=>l_ h' q.1]
theorem Ajh {x y x' y':FP2} (h:decide (x=x')=true) (h':decide (y=0)=true):Rg.add (.pt x y) (.pt x' y')=.inf:=by rw [KW,fw (gv h),fv fun q=>q.2 (gv h')]
theorem Aji {x y x' y':FP2} (h:decide (x=x')=true) (h':decide (y=y')=true) (h0:decide (y=0)=false):Rg.add (.pt x y) (.pt x' y')=HQ x y x' (R0 x y):=by rw [KW,fw (gv h),fw ⟨gv h',l_ h0⟩];rfl
theorem Ajj (x y:R FP2):(mo (iQ x y):FP2)=R0 (mo x) (mo y):=by
 unfold iQ mu ad iv re R0;simp only [mo_en]
theorem AKQ:BZ=kk 0:=dk
theorem Ajk (t q:R P2) (p:R (Pt FP)):AS dn 222 [va P2 t,va P2 q,va (Pt FP) p] (Py t q p):=by
 have h1:=AjN t q p;have h2:=AjO t q p;have h3:=AjP t q p;obtain ⟨x,y,i⟩:=t;obtain ⟨x',y',i'⟩:=q;obtain ⟨a,b,i''⟩:=p;rw [Ajd] at h1 h2 h3;cases i'' with
 | true=>exact VJ (AN II AB Tryz.func222 h1 ⟨rfl,trivial⟩ rfl) rfl
 | false=>cases i with
  | true=>exact VJ (AN II AB Tryz.func222 h2 ⟨rfl,rfl,trivial⟩ rfl) (AKL _ _)
  | false=>cases i' with
   | true=>exact VJ (AN II AB Tryz.func222 h3 ⟨rfl,rfl,rfl,trivial⟩ rfl) (AKM _ _)
   | false =>
    refine AKP (fun hx=>?_) (fun hx hy=>?_) (fun hx hy h0=>?_) fun hx hy h0=>?_
    ·rw [Ajf hx,show YQ (mo x) (mo y) (mo x') (mo y')=mo (sC x y x' y') from (vG ..).symm]
     exact AKN (AN II AB Tryz.func222 (AjU x y x' y' a b) ⟨rfl,rfl,rfl,by rw [IJ,hx];rfl,trivial⟩ rfl)
    ·rw [Ajg hx hy];exact AKO (AN II AB Tryz.func222 (AjV x y x' y' a b) ⟨rfl,rfl,rfl,by rw [IJ,hx];rfl,by rw [IJ,hy];rfl,trivial⟩ rfl)
    ·rw [Ajh hx h0];exact AKO (AN II AB Tryz.func222 (AjW x y x' y' a b) ⟨rfl,rfl,rfl,by rw [IJ,hx];rfl,by rw [IJ,hy];rfl,by rw [AKQ,iR,h0],trivial⟩ rfl)
    ·rw [Aji hx hy h0,show R0 (mo x) (mo y)=mo (iQ x y) from (Ajj ..).symm]
     exact AKN (AN II AB Tryz.func222 (AjX x y x' y' a b) ⟨rfl,rfl,rfl,by rw [IJ,hx];rfl,by rw [IJ,hy];rfl,by rw [AKQ,iR,h0],trivial⟩ rfl)
theorem Ajl (t q:R P2) (p:R (Pt FP)):AS dn 195 [va P2 t,va P2 q,va (Pt FP) p] (Py t q p):=by
 have h1:=AjQ t q p;have h2:=AjR t q p;have h3:=AjS t q p;obtain ⟨x,y,i⟩:=t;obtain ⟨x',y',i'⟩:=q;obtain ⟨a,b,i''⟩:=p;cases i'' with
 | true=>exact VJ (AN II AB Tryz.func195 h1 ⟨rfl,trivial⟩ rfl) rfl
 | false=>cases i with
  | true=>exact VJ (AN II AB Tryz.func195 h2 ⟨rfl,rfl,trivial⟩ rfl) (AKL _ _)
  | false=>cases i' with
   | true=>exact VJ (AN II AB Tryz.func195 h3 ⟨rfl,rfl,rfl,trivial⟩ rfl) (AKM _ _)
   | false =>
    refine AKP (fun hx=>?_) (fun hx hy=>?_) (fun hx hy h0=>?_) fun hx hy h0=>?_
    ·rw [show YQ (mo x) (mo y) (mo x') (mo y')=mo (sC x y x' y') from (vG ..).symm,← AAD]
     exact AN II AB Tryz.func195 (AjY x y x' y' a b) ⟨rfl,rfl,rfl,by rw [IJ,hx],trivial⟩ rfl
    ·rw [← AAE];exact AAF (AN II AB Tryz.func195 (AjZ x y x' y' a b) ⟨rfl,rfl,rfl,by rw [IJ,hx],by rw [IJ,hy];rfl,trivial⟩ rfl) (AAA _ _)
    ·rw [← AAE];exact AAF (AN II AB Tryz.func195 (Aja x y x' y' a b) ⟨rfl,rfl,rfl,by rw [IJ,hx],by rw [IJ,hy];rfl,by rw [iR,h0],trivial⟩ rfl) (AAA _ _)
    ·rw [show R0 (mo x) (mo y)=mo (sT x y) from (AHX ..).symm,← AAD]
     exact AN II AB Tryz.func195 (Ajb x y x' y' a b) ⟨rfl,rfl,rfl,by rw [IJ,hx],by rw [IJ,hy];rfl,by rw [iR,h0],trivial⟩ rfl
def SDm:dt:=(222,AZ (T' P2 P2 (Pt FP) Py))::(195,AZ (T' P2 P2 (Pt FP) Py))::SDj0
theorem iS:AT dn SDm:=⟨Aa Tryz.func222 dk dk (b9 Ajk),Aa Tryz.func195 dk dk (b9 Ajl),AKI⟩
abbrev oDm:Orc:=AG SDm KV
theorem YR:OrcOk dn oDm:=AH iS BJ
end
noncomputable def SDn0:dt:=(221,A5 dn oDm Tryz.f221 300)::SDm
theorem AKR:AT dn SDn0:=⟨A7 YR AB Tryz.func221 dk dk 300,iS⟩
noncomputable abbrev oDn0:Orc:=AG SDn0 KV
theorem iT:OrcOk dn oDn0:=AH AKR BJ
noncomputable abbrev mlF:Func:=Tryz.f157
noncomputable def R2 (p:R (Pt FP)) (q:R P2) (b:List Bool):ASt:=Ah mlF [va (Pt FP) p,va P2 q] [] 0 b
noncomputable def mlX (p:R (Pt FP)) (q:R P2):=AW dn oDn0 (some 0) 100 0 none (R2 p q ef)
noncomputable def Ajn:List Item:=Bv (mlX ((0:Nat),(0:Nat),false) (en (.pt 0 0:P2)))
noncomputable def R3 (p:R (Pt FP)) (q:R P2) (f:List Ch) (t:R P2) (i:AV) (b:List Bool):ASt:=⟨Ajn,⟨DT mlF.ntmps [(2,.val false [.p 0 0]),(3,.val false [.p 1 0]),(4,.val false [.p 2 0]),(6,.val false [.p 4 0]),(7,.val false [.p 5 0]),(8,.val false [.clo 221 [(5,0),(0,0),(4,0)]]),(9,i)],
 [(0,some ⟨42,av p,false⟩),(1,some ⟨70,av q,false⟩),(2,some ⟨83,List.replicate 72 (.n .u64 0),false⟩),(4,some ⟨83,f,false⟩),(5,some ⟨70,av t,false⟩)],6,b⟩⟩
abbrev mlK:Option (List Nat×List Nat×Nat):=some ([2,3,4,6,7,8,9],[0,1,2,4,5],6)
noncomputable def mlC (p:R (Pt FP)) (q:R P2):dr:=[(!A6 (mo p:Pt FP),false),(!A9 (mo q),false),(p.2.2,false),(q.2.2,false)]
theorem Ajo (p:R (Pt FP)) (q:R P2):AW dn oDn0 (some 0) 100 0 mlK (R2 p q ef)=some (mlC p q,[],R3 p q G5 (re P2 q) (.val false [.n .i64 62]) []):=dk
noncomputable def YS (p:R (Pt FP)) (f:R FP12) (t:R P2):R FP12:=mu FP12 (mu FP12 f f) (en (Hm (mo t) (mo t) (mo p)))
noncomputable def VK (t:R P2):R P2:=en (Rg.add (mo t) (mo t))
noncomputable def iU (p:R (Pt FP)) (q:R P2) (f:R FP12) (t:R P2):R FP12:=mu FP12 (YS p f t) (en (Hm (mo (VK t)) (mo q) (mo p)))
noncomputable def iV (q t:R P2):R P2:=en (Rg.add (mo (VK t)) (mo q))
noncomputable def iW (i:Int):Bool:=decide (bits .and .u64 (Int.fdiv 15132376222941642752 (2^min (Int.toNat i) (IntKind.bits .u64))) 1=0)
noncomputable def mlQ (i:Int) (b:Bool):dr:=[(decide (0≤i),true),(decide (0≤i∧(0:Int)≤15132376222941642752),true),(iW i,b)]
section
variable (p:R (Pt FP)) (q:R P2) (f:R FP12) (t:R P2) (i:Int)
theorem Ajp:AW dn oDn0 (some 0) 100 0 mlK (R3 p q (av f) t (iA i) dx)=some (mlQ i true,[],R3 p q (av (YS p f t)) (VK t) (iA (wI (i-1))) []):=dk
theorem Ajq:AW dn oDn0 (some 0) 100 0 mlK (R3 p q (av f) t (iA i) ee)=some (mlQ i false,[],R3 p q (av (iU p q f t)) (iV q t) (iA (wI (i-1))) []):=dk
noncomputable def YT (x:R FP12) (e:Int):AV:=.tup [(true,av x),(false,[.n .i64 e])]
noncomputable def Hn (f:R FP12):R FP12:=en (Qx.conj (mo f))
theorem Ajr:AR dn oDn0 mlF 100 0 [] (R3 p q (av f) t (iA i) du)=some ([(decide (0≤i),false)],[],YT (Hn f) 0,[]):=dk
end
def Ajs:Nat:=15132376222941642752
def OA (c:Nat):Bool:=decide (Ajs / 2^c % 2=0)
theorem Ajt:(List.range 63).all (fun c=>iW (c:Int)==OA c)=true:=dk
theorem Aju {c:Nat} (h:c<63):iW (c:Int)=OA c:=beq_iff_eq.1 (jz.1 Ajt c (jl.2 h))
noncomputable section
def GN (p:Pt FP) (q:P2):Nat→FP12→P2→FP12
 | 0,f,_=>f
 | c+1,f,t=>match OA c with
  | true=>GN p q c (f*f*Hm t t p) (Rg.add t t)
  | false=>GN p q c (f*f*Hm t t p*Hm (Rg.add t t) q p) (Rg.add (Rg.add t t) q)
theorem AAI (p:R (Pt FP)) (f:FP12) (t:P2):YS p (en f) (en t)=en (f*f*Hm t t (mo p)):=by unfold YS mu;simp only [mo_en]
theorem iX (t:P2):VK (en t)=en (Rg.add t t):=by unfold VK;rw [mo_en]
theorem AKT (p:R (Pt FP)) (q:R P2) (f:FP12) (t:P2):iU p q (en f) (en t)=en (f*f*Hm t t (mo p)*Hm (Rg.add t t) (mo q) (mo p)):=by
 unfold iU;rw [AAI,iX];unfold mu;simp only [mo_en]
theorem AKU (q:R P2) (t:P2):iV q (en t)=en (Rg.add (Rg.add t t) (mo q)):=by
 unfold iV;rw [iX,mo_en]
section
variable {β0:Env} {w0:World} (hb:∀ b,0≤b→β0 b=none) (p:R (Pt FP)) (q:R P2)
include hb in
theorem AKV:∀ (c:Nat) (f:FP12) (t:P2),c≤63→ASafe dn 157 β0 w0 (A4 β0 w0 [] (YT (en (Qx.conj (GN (mo p) (mo q) c f t))) 0) []) mlF.ntmps [] (R3 p q (av (en f:R FP12)) (en t) (iA ((c:Int)-1)) [])
 | 0,f,t,_=>by
  have h:=Av (w0:=w0) (W:=[]) (n:=mlF.ntmps) iT AB Tryz.func157 (Ajr p q (en f) (en t) (((0:Nat):Int)-1)) ⟨rfl,trivial⟩ (AQ dk) hb ft
  have e:Hn (en f)=en (Qx.conj f):=by unfold Hn;rw [mo_en]
  rw [e] at h;exact Ae du h
 | c+1,f,t,hc=>by
  have hi:((c+1:Nat):Int)-1=(c:Int):=dl
  have hn:wI ((c:Int)-1)=(c:Int)-1:=Ao dl
  have hB:=Aju (c:=c) dl
  have hq:∀ b,iW (c:Int)=b→AM (mlQ c b):=fun b h=>⟨fu dl,fu dl,h,trivial⟩
  rw [hi];have ih:=fun f t=>AKV c f t dl
  unfold GN;cases hm:OA c with
  | true =>
   refine Ae dx (Ag iT AB (Ajp p q (en f) (en t) c) (hq _ (hB.trans hm)) (AQ dk) hb ft fun _=>?_)
   rw [hn,AAI,iX];exact ih _ _
  | false =>
   refine Ae ee (Ag iT AB (Ajq p q (en f) (en t) c) (hq _ (hB.trans hm)) (AQ dk) hb ft fun _=>?_)
   rw [hn,AKT,AKU];exact ih _ _
end
end
noncomputable section
def G6 (P:Pt FP) (Q:P2):Bool:=A6 P&&A9 Q
def LI (P:Pt FP) (Q:P2):Bool:=EJ P||EJ Q
def DD (P:Pt FP) (Q:P2):FP12:=match G6 P Q with
 | false=>0
 | true=>match LI P Q with
  | true=>1
  | false=>Qx.conj (GN P Q 63 1 Q)
def iY (P:Pt FP) (Q:P2):Int:=match G6 P Q with
 | false=>120
 | true=>0
def OB:List Ch:=List.replicate 72 (.n .u64 0)
theorem AKW:(rd OB:Option (R FP12))=some (en (0:FP12)):=dk
def VL (P:Pt FP) (Q:P2):AV:=.tup [(true,av (en (DD P Q):R FP12)),(false,[.n .i64 (iY P Q)])]
section
variable (p:R (Pt FP)) (q:R P2)
theorem Ajv:AR dn oDn0 mlF 300 0 [] (R2 p q dx)=some ([(!A6 (mo p:Pt FP),true)],[],.tup [(true,OB),(false,[.n .i64 120])],[]):=dk
theorem Ajw:AR dn oDn0 mlF 300 0 [] (R2 p q dz)=some ([(!A6 (mo p:Pt FP),false),(!A9 (mo q),true)],[],.tup [(true,OB),(false,[.n .i64 120])],[]):=dk
theorem Ajx:AR dn oDn0 mlF 300 0 [] (R2 p q e_)=some ([(!A6 (mo p:Pt FP),false),(!A9 (mo q),false),(p.2.2,true)],[],.tup [(true,G5),(false,[.n .i64 0])],[]):=dk
theorem Ajy:AR dn oDn0 mlF 300 0 [] (R2 p q eg)=some ([(!A6 (mo p:Pt FP),false),(!A9 (mo q),false),(p.2.2,false),(q.2.2,true)],[],.tup [(true,G5),(false,[.n .i64 0])],[]):=dk
end
theorem AAJ {F:FuncId} {args:List AV} {e:Int} {c:List Ch} {r:R FP12} (h:Ac dn F args [] 0 [] (.tup [(true,c),(false,[.n .i64 e])]) []) (hr:rd c=some r):Ac dn F args [] 0 [] (.tup [(true,av r),(false,[.n .i64 e])]) [] :=
 BA h fun _ _ hu=>by
  obtain ⟨us,⟨u1,l1,⟨q1,p1,rfl⟩,q2,rfl⟩,rfl⟩:=hu;exact ⟨_,⟨_,_,⟨q1,Sh.rd_ok hr p1,rfl⟩,q2,rfl⟩,rfl⟩
theorem iZ {p:R (Pt FP)} {q:R P2} {v:AV} {c:dr} {b:List Bool} (h:AR dn oDn0 mlF 300 0 [] (R2 p q b)=some (c,[],v,[])) (hc:AM c):Ac dn 157 [va (Pt FP) p,va P2 q] [] 0 [] v [] :=
 BV AKR BJ Tryz.func157 dk dk h dk hc
theorem Ajz (p:R (Pt FP)):EJ (mo p:Pt FP)=p.2.2:=by obtain ⟨a,b,i⟩:=p;cases i<;>rfl
theorem Aj0 (q:R P2):EJ (mo q)=q.2.2:=by obtain ⟨a,b,i⟩:=q;cases i<;>rfl
theorem AKX {F:FuncId} {p:R (Pt FP)} {q:R P2} (k1:A6 (mo p:Pt FP)=false→Ac dn F [va (Pt FP) p,va P2 q] [] 0 [] (.tup [(true,OB),(false,[.n .i64 120])]) [])
  (k2:A6 (mo p:Pt FP)=true→A9 (mo q)=false→Ac dn F [va (Pt FP) p,va P2 q] [] 0 [] (.tup [(true,OB),(false,[.n .i64 120])]) [])
  (k3:A6 (mo p:Pt FP)=true→A9 (mo q)=true→p.2.2=true→Ac dn F [va (Pt FP) p,va P2 q] [] 0 [] (.tup [(true,G5),(false,[.n .i64 0])]) [])
  (k4:A6 (mo p:Pt FP)=true→A9 (mo q)=true→p.2.2=false→q.2.2=true→Ac dn F [va (Pt FP) p,va P2 q] [] 0 [] (.tup [(true,G5),(false,[.n .i64 0])]) [])
  (k5:A6 (mo p:Pt FP)=true→A9 (mo q)=true→p.2.2=false→q.2.2=false→Ac dn F [va (Pt FP) p,va P2 q] [] 0 [] (YT (en (Qx.conj (GN (mo p) (mo q) 63 1 (mo q)))) 0) []) :
  Ac dn F [va (Pt FP) p,va P2 q] [] 0 [] (VL (mo p) (mo q)) []:=by
 have e1:=Ajz p;have e2:=Aj0 q;unfold VL DD iY;cases h1:A6 (mo p:Pt FP) with
 | false =>
  have hB:G6 (mo p) (mo q)=false:=by unfold G6;rw [h1];rfl
  rw [hB];exact AAJ (k1 h1) AKW
 | true=>cases h2:A9 (mo q) with
  | false =>
   have hB:G6 (mo p) (mo q)=false:=by unfold G6;rw [h1,h2];rfl
   rw [hB];exact AAJ (k2 h1 h2) AKW
  | true =>
   have hB:G6 (mo p) (mo q)=true:=by unfold G6;rw [h1,h2];rfl
   have fin:LI (mo p) (mo q)=true→Ac dn F [va (Pt FP) p,va P2 q] [] 0 [] (.tup [(true,G5),(false,[.n .i64 0])]) []→Ac dn F [va (Pt FP) p,va P2 q] [] 0 [] (.tup [(true,av (en (match LI (mo p) (mo q) with | true=>1 | false=>Qx.conj (GN (mo p) (mo q) 63 1 (mo q)):FP12):R FP12)),(false,[.n .i64 0])]) []:=fun hI h=>by
    rw [hI];show Ac _ _ _ _ _ _ (.tup [(true,av (en (1:FP12):R FP12)),(false,[.n .i64 0])]) _;rw [← R1];exact AAJ h z8
   rw [hB];cases i1:p.2.2 with
   | true=>exact fin (by unfold LI;rw [e1,i1];rfl) (k3 h1 h2 i1)
   | false=>cases i2:q.2.2 with
    | true=>exact fin (by unfold LI;rw [e1,e2,i1,i2];rfl) (k4 h1 h2 i1 i2)
    | false =>
     have hI:LI (mo p) (mo q)=false:=by unfold LI;rw [e1,e2,i1,i2];rfl
     rw [hI];exact k5 h1 h2 i1 i2
theorem AAK (β:Env) (l:List Value) (h:AO β G5 l):AO β (av (en (1:FP12):R FP12)) l:=by rw [← R1];exact Sh.rd_ok z8 h
theorem Aj1 (p:R (Pt FP)) (q:R P2):Ac dn 157 [va (Pt FP) p,va P2 q] [] 0 [] (VL (mo p) (mo q)) []:=by
 refine AKX (fun h1=>iZ (Ajv p q) ⟨by rw [h1];rfl,trivial⟩) (fun h1 h2=>iZ (Ajw p q) ⟨by rw [h1];rfl,by rw [h2];rfl,trivial⟩) (fun h1 h2 i1=>iZ (Ajx p q) ⟨by rw [h1];rfl,by rw [h2];rfl,i1,trivial⟩)
  (fun h1 h2 i1 i2=>iZ (Ajy p q) ⟨by rw [h1];rfl,by rw [h2];rfl,i1,i2,trivial⟩) fun h1 h2 i1 i2=>?_
 refine Ay (path:=[]) Tryz.func157 dk dk fun β0 w0 hb=>?_
 refine Ae ef (Ag iT AB (Ajo p q) ⟨by rw [h1];rfl,by rw [h2];rfl,i1,i2,trivial⟩ (AQ dk) hb ft fun _=>?_)
 refine Hv (NE ?_ (AKV hb p q 63 1 (mo q) (gd _)))
 exact ⟨rfl,rfl,rfl,fun β l h=>h,rfl,rfl,rfl,fun β l h=>h,rfl,rfl,rfl,fun β l h=>h,rfl,rfl,rfl,AAK,rfl,rfl,rfl,fun β l h=>h,trivial⟩
def i7 (α β:Type) [Sh α] [Sh β] (g:R α→R β→AV):ASpec:=fun args _ fr path=>match args with
 | [.val true a,.val true b]=>match (rd a:Option (R α)),(rd b:Option (R β)) with
  | some r,some s=>some (BI [] 0 fr 0 [] (g r s) [] [] path)
  | _,_=>none
 | _=>none
theorem AKY {α β:Type} [Sh α] [Sh β] {f:FuncId} {fn:Func} {g:R α→R β→AV} (hfn:dn.funcs[f]? = some fn) (hb:fn.body.isSome=true) (hname:(fn.name=="runtime.NumGoroutine")=false) (hk:∀ r s,D5 0 0 [] (g r s) []=true)
  (h:∀ r s,Ac dn f [va α r,va β s] [] 0 [] (g r s) []):A' dn f (i7 α β g):=by
 refine DC hfn hb hname fun args H0 fr path r hs=>?_
 unfold i7 at hs;split at hs;case h_2=>cases hs
 split at hs;case h_2=>cases hs
 rename_i x y hx hy;injection hs with hs;refine ⟨[],0,0,[],_,_,_,_,hs.symm,fun β us w ha hgd hc=>?_⟩
 obtain ⟨u1,us1,r1,⟨u2,us2,r2,ha,rfl⟩,rfl⟩:=ha;exact ⟨_,[],h x y,hk _ _,⟨u1,_,FG hx r1,⟨u2,us2,FG hy r2,ha,rfl⟩,rfl⟩,AI3,fun k hk=>by omega⟩
end
noncomputable abbrev rlF:Func:=Tryz.f123
noncomputable def R5 (p:R (Pt FP)) (q:R P2) (b:List Bool):ASt:=Ah rlF [va (Pt FP) p,va P2 q] [] 0 b
noncomputable def Aj2:List Item:=Bv (AW dn oDm (some 0) 100 0 none (R5 ((0:Nat),(0:Nat),false) (en (.pt 0 0:P2)) ef))
noncomputable def R6 (p:R (Pt FP)) (q:R P2) (f:List Ch) (t:R P2) (i:AV) (b:List Bool):ASt:=⟨Aj2,⟨DT rlF.ntmps [(2,.val false [.p 0 0]),(3,.val false [.p 1 0]),(4,.val false [.p 2 0]),(8,.val false [.p 4 0]),(9,.val false [.p 5 0]),(10,i)],
 [(0,some ⟨42,av p,false⟩),(1,some ⟨70,av q,false⟩),(2,some ⟨83,List.replicate 72 (.n .u64 0),false⟩),(4,some ⟨83,f,false⟩),(5,some ⟨70,av t,false⟩)],6,b⟩⟩
abbrev AAL:Option (List Nat×List Nat×Nat):=some ([2,3,4,8,9,10],[0,1,2,4,5],6)
theorem Aj3 (p:R (Pt FP)) (q:R P2):AW dn oDm (some 0) 100 0 AAL (R5 p q ef)=some (mlC p q,[],R6 p q G5 (re P2 q) (.val false [.n .i64 62]) []):=dk
noncomputable def i9 (i:Int):Bool:=decide (bits .and .u64 (Int.fdiv 15132376222941642752 (2^min (Int.toNat (AU false .u64 i)) (IntKind.bits .u64))) 1=1)
noncomputable def rlQ (i:Int) (b:Bool):dr:=[(decide (0≤i),true),(decide (0≤AU false .u64 i∧(0:Int)≤15132376222941642752),true),(i9 i,b)]
section
variable (p:R (Pt FP)) (q:R P2) (f:R FP12) (t:R P2) (i:Int)
theorem Aj4:AW dn oDm (some 0) 100 0 AAL (R6 p q (av f) t (iA i) ee)=some (rlQ i false,[],R6 p q (av (YS p f t)) (VK t) (iA (wI (i-1))) []):=dk
theorem Aj5:AW dn oDm (some 0) 100 0 AAL (R6 p q (av f) t (iA i) dx)=some (rlQ i true,[],R6 p q (av (iU p q f t)) (iV q t) (iA (wI (i-1))) []):=dk
theorem Aj6:AR dn oDm rlF 100 0 [] (R6 p q (av f) t (iA i) du)=some ([(decide (0≤i),false)],[],YT (Hn f) 0,[]):=dk
theorem Aj7:AR dn oDm rlF 300 0 [] (R5 p q dx)=some ([(!A6 (mo p:Pt FP),true)],[],.tup [(true,OB),(false,[.n .i64 120])],[]):=dk
theorem Aj8:AR dn oDm rlF 300 0 [] (R5 p q dz)=some ([(!A6 (mo p:Pt FP),false),(!A9 (mo q),true)],[],.tup [(true,OB),(false,[.n .i64 120])],[]):=dk
theorem Aj9:AR dn oDm rlF 300 0 [] (R5 p q e_)=some ([(!A6 (mo p:Pt FP),false),(!A9 (mo q),false),(p.2.2,true)],[],.tup [(true,G5),(false,[.n .i64 0])],[]):=dk
theorem Aj_:AR dn oDm rlF 300 0 [] (R5 p q eg)=some ([(!A6 (mo p:Pt FP),false),(!A9 (mo q),false),(p.2.2,false),(q.2.2,true)],[],.tup [(true,G5),(false,[.n .i64 0])],[]):=dk
end
theorem Aj':(List.range 63).all (fun c=>i9 (c:Int)==!OA c)=true:=dk
theorem AkA:(List.range 63).all (fun c=>decide (0≤AU false .u64 (c:Int)∧(0:Int)≤15132376222941642752))=true:=dk
section
variable {β0:Env} {w0:World} (hb:∀ b,0≤b→β0 b=none) (p:R (Pt FP)) (q:R P2)
include hb in
theorem AKZ:∀ (c:Nat) (f:FP12) (t:P2),c≤63→ASafe dn 123 β0 w0 (A4 β0 w0 [] (YT (en (Qx.conj (GN (mo p) (mo q) c f t))) 0) []) rlF.ntmps [] (R6 p q (av (en f:R FP12)) (en t) (iA ((c:Int)-1)) [])
 | 0,f,t,_=>by
  have h:=Av (w0:=w0) (W:=[]) (n:=rlF.ntmps) YR AB Tryz.func123 (Aj6 p q (en f) (en t) (((0:Nat):Int)-1)) ⟨rfl,trivial⟩ (AQ dk) hb ft
  have e:Hn (en f)=en (Qx.conj f):=by unfold Hn;rw [mo_en]
  rw [e] at h;exact Ae du h
 | c+1,f,t,hc=>by
  have hi:((c+1:Nat):Int)-1=(c:Int):=dl
  have hn:wI ((c:Int)-1)=(c:Int)-1:=Ao dl
  have hB:i9 (c:Int)=!OA c:=beq_iff_eq.1 (jz.1 Aj' c (jl.2 dl))
  have hw:=jz.1 AkA c (jl.2 dl)
  have hq:∀ b,i9 (c:Int)=b→AM (rlQ c b):=fun b h=>⟨fu dl,hw,h,trivial⟩
  rw [hi];have ih:=fun f t=>AKZ c f t dl
  unfold GN;cases hm:OA c with
  | true =>
   refine Ae ee (Ag YR AB (Aj4 p q (en f) (en t) c) (hq _ (by rw [hB,hm];rfl)) (AQ dk) hb ft fun _=>?_)
   rw [hn,AAI,iX];exact ih _ _
  | false =>
   refine Ae dx (Ag YR AB (Aj5 p q (en f) (en t) c) (hq _ (by rw [hB,hm];rfl)) (AQ dk) hb ft fun _=>?_)
   rw [hn,AKT,AKU];exact ih _ _
end
theorem jA {p:R (Pt FP)} {q:R P2} {v:AV} {c:dr} {b:List Bool} (h:AR dn oDm rlF 300 0 [] (R5 p q b)=some (c,[],v,[])) (hc:AM c):Ac dn 123 [va (Pt FP) p,va P2 q] [] 0 [] v [] :=
 BV iS BJ Tryz.func123 dk dk h dk hc
theorem AkB (p:R (Pt FP)) (q:R P2):Ac dn 123 [va (Pt FP) p,va P2 q] [] 0 [] (VL (mo p) (mo q)) []:=by
 refine AKX (fun h1=>jA (Aj7 p q) ⟨by rw [h1];rfl,trivial⟩) (fun h1 h2=>jA (Aj8 p q) ⟨by rw [h1];rfl,by rw [h2];rfl,trivial⟩) (fun h1 h2 i1=>jA (Aj9 p q) ⟨by rw [h1];rfl,by rw [h2];rfl,i1,trivial⟩)
  (fun h1 h2 i1 i2=>jA (Aj_ p q) ⟨by rw [h1];rfl,by rw [h2];rfl,i1,i2,trivial⟩) fun h1 h2 i1 i2=>?_
 refine Ay (path:=[]) Tryz.func123 dk dk fun β0 w0 hb=>?_
 refine Ae ef (Ag YR AB (Aj3 p q) ⟨by rw [h1];rfl,by rw [h2];rfl,i1,i2,trivial⟩ (AQ dk) hb ft fun _=>?_)
 refine Hv (NE ?_ (AKZ hb p q 63 1 (mo q) (gd _)))
 exact ⟨rfl,rfl,rfl,fun β l h=>h,rfl,rfl,rfl,fun β l h=>h,rfl,rfl,rfl,fun β l h=>h,rfl,rfl,rfl,AAK,rfl,rfl,rfl,fun β l h=>h,trivial⟩
theorem AKa:∃ f:Pt FP→P2→FP12,∀ P Q,f P Q=DD P Q:=⟨_,fun _ _=>rfl⟩
noncomputable def lpO:Pt FP→P2→FP12:=Classical.choose AKa
theorem AKb (P:Pt FP) (Q:P2):lpO P Q=DD P Q:=ij AKa P Q
theorem AKc:∃ f:Pt FP→P2→Int,∀ P Q,f P Q=iY P Q:=⟨_,fun _ _=>rfl⟩
noncomputable def lpN:Pt FP→P2→Int:=Classical.choose AKc
theorem AkC (P:Pt FP) (Q:P2):lpN P Q=iY P Q:=ij AKc P Q
noncomputable def jB (p:R (Pt FP)) (q:R P2):AV:=.tup [(true,av (en (lpO (mo p) (mo q)):R FP12)),(false,[.v (.int .i64 (lpN (mo p) (mo q)))])]
theorem AKe {F:FuncId} {p:R (Pt FP)} {q:R P2} (h:Ac dn F [va (Pt FP) p,va P2 q] [] 0 [] (VL (mo p) (mo q)) []):Ac dn F [va (Pt FP) p,va P2 q] [] 0 [] (jB p q) []:=by
 unfold VL at h;unfold jB;rw [AKb,AkC];refine BA h fun _ _ hu=>?_
 obtain ⟨us,⟨u1,l1,q1,⟨u2,l2,q2,hn,rfl⟩,rfl⟩,rfl⟩:=hu;obtain ⟨he,hb⟩:=Aw q2;exact ⟨_,⟨_,_,q1,⟨_,_,Aq ⟨he,rfl,hb⟩,hn,rfl⟩,rfl⟩,rfl⟩
noncomputable def SDq:dt:=(157,i7 (Pt FP) P2 jB)::(123,i7 (Pt FP) P2 jB)::SDm
theorem AAO:AT dn SDq:=⟨AKY Tryz.func157 dk dk (fun _ _=>by kernel_rfl) fun p q=>AKe (Aj1 p q),AKY Tryz.func123 dk dk (fun _ _=>by kernel_rfl) fun p q=>AKe (AkB p q),iS⟩
noncomputable abbrev oDq:Orc:=AG SDq KV
theorem AAP:OrcOk dn oDq:=AH AAO BJ
noncomputable section
def SDr0:dt:=(288,A5 dn oDq Tryz.f288 300)::(289,A5 dn oDq Tryz.f289 300)::(256,A5 dn oDq Tryz.f256 300)::SDq
theorem AkD:AT dn SDr0:=⟨A7 AAP AB Tryz.func288 dk dk 300,A7 AAP AB Tryz.func289 dk dk 300,A7 AAP AB Tryz.func256 dk dk 300,AAO⟩
noncomputable abbrev oDr0:Orc:=AG SDr0 KV
theorem AKf:OrcOk dn oDr0:=AH AkD BJ
theorem AkE (r:R FP12):AK dn oDr0 Tryz.f272 [va FP12 r] [] 600=some ([],va FP12 (zZ r)):=dk
def sxL:dp:=[0x49aa7ffffffff1c7,0x51caaaa72e35555,0xe688231ad3c82906,0xe613e1eb7deb831f,0xc849bf3b5e1f223,0x45582fc5eeaa66f]
def xiR:R FP2:=((1:Nat),(1:Nat))
def jF:R FP2:=en (UM (mo xiR:FP2) (AI (AA sxL 0 6)))
def I3 (k:Nat):R FP2:=match k with
 | 0=>oR
 | k+1=>mu FP2 (I3 k) jF
def frR (r:R FP12):R FP12:=((mu FP2 (cj r.1.1) (I3 0),mu FP2 (cj r.1.2.1) (I3 2),mu FP2 (cj r.1.2.2) (I3 4)),(mu FP2 (cj r.2.1) (I3 1),mu FP2 (cj r.2.2.1) (I3 3),mu FP2 (cj r.2.2.2) (I3 5)))
theorem AkF (r:R FP12):AK dn oDr0 Tryz.f198 [va FP12 r] [] 2000=some (tt 2 [],va FP12 (frR r)):=dk
theorem AkG (g:FP2) (x:FP12):(Rg.qM (Rg.kM Qx.conj (g*g)) ⟨g,0,0⟩ x:FP12)=⟨⟨Qx.conj x.a.a,Qx.conj x.a.b*(g*g),Qx.conj x.a.c*(g*g*g*g)⟩,⟨Qx.conj x.b.a*g,Qx.conj x.b.b*(g*g*g),Qx.conj x.b.c*(g*g*g*g*g)⟩⟩:=by
 refine Qx.ext (Kx.ext rfl rfl ?_) (Kx.ext ?_ ?_ ?_)
 ·exact ring [Qx.conj x.a.c,g] (a:=Qx.conj x.a.c*(g*g*(g*g))) (b:=Qx.conj x.a.c*(g*g*g*g)) dk
 ·exact ring [Qx.conj x.b.a,Qx.conj x.b.b,Qx.conj x.b.c,g,xi] (a:=Qx.conj x.b.a*g+xi*(Qx.conj x.b.b*(g*g)*0+Qx.conj x.b.c*(g*g*(g*g))*0)) (b:=Qx.conj x.b.a*g) dk
 ·exact ring [Qx.conj x.b.a,Qx.conj x.b.b,Qx.conj x.b.c,g,xi] (a:=Qx.conj x.b.a*0+Qx.conj x.b.b*(g*g)*g+xi*(Qx.conj x.b.c*(g*g*(g*g))*0)) (b:=Qx.conj x.b.b*(g*g*g)) dk
 ·exact ring [Qx.conj x.b.a,Qx.conj x.b.b,Qx.conj x.b.c,g,xi] (a:=Qx.conj x.b.a*0+Qx.conj x.b.b*(g*g)*0+Qx.conj x.b.c*(g*g*(g*g))*g) (b:=Qx.conj x.b.c*(g*g*g*g*g)) dk
theorem AKi:∃ g:FP2,g=Bu:=⟨_,rfl⟩
def jG:FP2:=Classical.choose AKi
theorem AAR:jG=Bu:=ij AKi
def YU (g:FP2) (x:FP12):FP12:=⟨⟨Qx.conj x.a.a*1,Qx.conj x.a.b*(1*g*g),Qx.conj x.a.c*(1*g*g*g*g)⟩,⟨Qx.conj x.b.a*(1*g),Qx.conj x.b.b*(1*g*g*g),Qx.conj x.b.c*(1*g*g*g*g*g)⟩⟩
theorem AkH (g:FP2) (x:FP12):YU g x=Rg.qM (Rg.kM Qx.conj (g*g)) ⟨g,0,0⟩ x:=by
 rw [AkG];unfold YU;simp only [Rg.one_mul,Rg.mul_one]
theorem AKj (x:FP12):YU jG x=f12 x:=by rw [AkH,AAR];rfl
theorem AkI (r:R FP12) (h:(mo jF:FP2)=jG):frR r=en (f12 (mo r)):=by
 rw [← AKj,← h];unfold frR YU I3 I3 I3 I3 I3 I3 mu cj;simp only [mo_en,YJ];rfl
theorem AkJ:(mo xiR:FP2)=xi:=Qx.ext DS DS
theorem AkK:(mo jF:FP2)=jG:=by
 unfold jF;rw [mo_en,dW,AkJ,show AI (AA sxL 0 6)=(pN-1) / 6 from by kernel_rfl,Agj,AAR]
theorem AkL:(mo AKA:FP2)=Bu:=Ut dk
theorem AkM:(mo AKB:FP2)=Bu*Bu:=Ut dk
theorem AkN:(mo AKC:FP2)=Bu*Bu*Bu:=Ut dk
theorem AkO:(mo AKD:FP2)=Bu*Bu*Bu*Bu:=Ut dk
theorem AkP:(mo AKE:FP2)=Bu*Bu*Bu*Bu*Bu:=Ut dk
theorem AkQ:(mo AJ':FP2)=1:=YJ
theorem AkR (r:R FP12):zZ r=en (f12 (mo r)):=by
 rw [← AKj];unfold zZ YU mu cj;rw [AkQ,AkL,AkM,AkN,AkO,AkP,← AAR];simp only [mo_en,Rg.one_mul];rfl
theorem AKk:∃ f:FP12→FP12,∀ x,f x=f12 x:=⟨_,fun _=>rfl⟩
def fbO:FP12→FP12:=Classical.choose AKk
theorem AAT (x:FP12):fbO x=f12 x:=ij AKk x
def VM (r:R FP12):AV:=va FP12 (en (fbO (mo r)))
theorem AkS (r:R FP12):AS dn 272 [va FP12 r] (VM r):=by
 unfold VM;rw [AAT,← AkR];exact AN AKf AB Tryz.func272 (AkE r) trivial rfl
theorem AkT (r:R FP12):AS dn 198 [va FP12 r] (VM r):=by
 unfold VM;rw [AAT,← AkI r AkK];exact AN AKf AB Tryz.func198 (AkF r) (Ad 2 trivial) rfl
def SDr:dt:=(272,AZ (BR FP12 VM))::(198,AZ (BR FP12 VM))::SDq
theorem AKl:AT dn SDr:=⟨Aa Tryz.func272 dk dk (BW AkS),Aa Tryz.func198 dk dk (BW AkT),AAO⟩
noncomputable abbrev oDr:Orc:=AG SDr KV
theorem Jw:OrcOk dn oDr:=AH AKl BJ
end
noncomputable section
def ppE (r:R FP12) (off n m:Nat) (xs:dp):ASt:=Ah Tryz.f80 [va FP12 r,AP 0 off n m] (A8 xs) 1 []
def prE (r:R FP12) (off n m:Nat) (xs:dp):ASt:=Ah Tryz.f199 [va FP12 r,AP 0 off n m] (A8 xs) 1 []
def AkU:List Item:=Bv (AW dn oDr (some 0) 100 1 none (ppE (en (0:FP12)) 0 0 0 []))
def AkV:List Item:=Bv (AW dn oDr (some 0) 100 1 none (prE (en (0:FP12)) 0 0 0 []))
def Jx (r:R FP12) (off n m:Nat) (xs:dp) (bg:Bool) (v:List Ch) (L i:AV) (p:List Bool):ASt:=⟨AkU,⟨DT Tryz.f80.ntmps [(1,AP 0 off n m),(2,.val false [.p 1 0]),(4,.val false [.p 2 0]),(5,.val false [.p 3 0]),(6,.val false [.b bg]),(15,L),(16,i)],
 [(0,some (Am [.seq .u64 xs])),(1,some ⟨83,av r,false⟩),(2,some ⟨83,OB,false⟩),(3,some ⟨83,v,false⟩)],4,p⟩⟩
def Jy (r:R FP12) (off n m:Nat) (xs:dp) (bg:Bool) (v:List Ch) (i:AV) (p:List Bool):ASt:=⟨AkV,⟨DT Tryz.f199.ntmps [(1,AP 0 off n m),(2,.val false [.p 1 0]),(4,.val false [.p 2 0]),(5,.val false [.p 4 0]),(6,.val false [.b bg]),(7,i)],
 [(0,some (Am [.seq .u64 xs])),(1,some ⟨83,av r,false⟩),(2,some ⟨83,OB,false⟩),(4,some ⟨83,v,false⟩)],5,p⟩⟩
abbrev YV:Option (List Nat×List Nat×Nat):=some ([1,2,4,5,6,15,16],[0,1,2,3],4)
abbrev YW:Option (List Nat×List Nat×Nat):=some ([1,2,4,5,6,7],[0,1,2,4],5)
theorem AkW (r:R FP12) (off n m:Nat) (xs:dp):AW dn oDr (some 0) 100 1 YV (ppE r off n m xs)=some ([(AJ .i64 n,true)],[],Jx r off n m xs false G5 (iA (wI (64*(n:Int)))) (.val false [.n .i64 0]) []):=dk
theorem AkX (r:R FP12) (off n m:Nat) (xs:dp):AW dn oDr (some 0) 100 1 YW (prE r off n m xs)=some ([(AJ .i64 n,true)],[],Jy r off n m xs false G5 (iA (wI (wI (64*(n:Int))-1))) []):=dk
def MY (n:Nat) (i:Int):Int:=wI (wI (wI (64*(n:Int))-1)-i)
def VN (off n:Nat) (xs:dp) (L i:Int) (bit:Bool):dr:=[(decide (i<L),true),(AJ .i64 n,true),(true,true),(decide (0≤wI (Int.tdiv (MY n i) 64)∧wI (Int.tdiv (MY n i) 64)<n),true),(decide (off+(wI (Int.tdiv (MY n i) 64)).toNat*1<xs.length),true),
 (decide (0≤MY n i∧(0:Int)<64),true),(decide (0≤Int.tmod (MY n i) 64∧0≤CG xs off (MY n i)),true),(decide (Ij (CG xs off (MY n i)) (Int.tmod (MY n i) 64)=1),bit)]
section
variable (r v:R FP12) (off n m:Nat) (xs:dp) (L i:Int)
theorem AkY:AW dn oDr (some 0) 100 1 YV (Jx r off n m xs false (av v) (iA L) (iA i) ee)=some (VN off n xs L i false,[],Jx r off n m xs false (av v) (iA L) (iA (wI (i+1))) []):=dk
theorem AkZ:AW dn oDr (some 0) 100 1 YV (Jx r off n m xs false (av v) (iA L) (iA i) dx)=some (VN off n xs L i true,[],Jx r off n m xs true (av (mu FP12 v r)) (iA L) (iA (wI (i+1))) []):=dk
theorem Aka:AW dn oDr (some 0) 100 1 YV (Jx r off n m xs true (av v) (iA L) (iA i) ee)=some (VN off n xs L i false,[],Jx r off n m xs true (av (mu FP12 v v)) (iA L) (iA (wI (i+1))) []):=dk
theorem Akb:AW dn oDr (some 0) 100 1 YV (Jx r off n m xs true (av v) (iA L) (iA i) dx)=some (VN off n xs L i true,[],Jx r off n m xs true (av (mu FP12 (mu FP12 v v) r)) (iA L) (iA (wI (i+1))) []):=dk
theorem Akc (b:Bool):AR dn oDr Tryz.f80 100 1 [] (Jx r off n m xs b (av v) (iA L) (iA i) du)=some ([(decide (i<L),false)],[],va FP12 v,[]):=dk
theorem Akd:AW dn oDr (some 0) 100 1 YW (Jy r off n m xs false (av v) (iA i) ee)=some (KU off n xs i false,[],Jy r off n m xs false (av v) (iA (wI (i-1))) []):=dk
theorem Ake:AW dn oDr (some 0) 100 1 YW (Jy r off n m xs false (av v) (iA i) dx)=some (KU off n xs i true,[],Jy r off n m xs true (av (mu FP12 v r)) (iA (wI (i-1))) []):=dk
theorem Akf:AW dn oDr (some 0) 100 1 YW (Jy r off n m xs true (av v) (iA i) ee)=some (KU off n xs i false,[],Jy r off n m xs true (av (mu FP12 v v)) (iA (wI (i-1))) []):=dk
theorem Akg:AW dn oDr (some 0) 100 1 YW (Jy r off n m xs true (av v) (iA i) dx)=some (KU off n xs i true,[],Jy r off n m xs true (av (mu FP12 (mu FP12 v v) r)) (iA (wI (i-1))) []):=dk
theorem Akh (b:Bool):AR dn oDr Tryz.f199 100 1 [] (Jy r off n m xs b (av v) (iA i) du)=some ([(decide (0≤i),false)],[],va FP12 v,[]):=dk
end
end
noncomputable section
theorem Aki (a:FP12) (k:Nat):pw a k*pw a k=pw a (k+k):=(Qu a k k).symm
def I4 (E c:Nat):Bool:=!decide (E / 2^c=0)
def Cx (x:FP12) (E c:Nat):R FP12:=en (pw x (E / 2^c))
theorem AKo (x:FP12) (E c:Nat):mu FP12 (Cx x E c) (Cx x E c)=en (pw x (2*(E / 2^c))):=by unfold Cx mu;rw [mo_en,Aki,my]
theorem AKp (x:R FP12) (k:Nat):mu FP12 (en (pw (mo x) k)) x=en (pw (mo x) (k+1)):=by unfold mu;rw [mo_en];rfl
def pvM (S:Bool→R FP12→Prop) (x v:R FP12) (b:Bool) (bit:Nat):Prop:=match b with
 | false=>match bit with
  | 0=>S false v
  | _=>S true (mu FP12 v x)
 | true=>match bit with
  | 0=>S true (mu FP12 v v)
  | _=>S true (mu FP12 (mu FP12 v v) x)
theorem AKq {S:Bool→R FP12→Prop} {x:R FP12} {E c:Nat} (h:∀ b,b=I4 E c→S b (Cx (mo x) E c)) (bit:Nat) (hb:E / 2^c % 2=bit):pvM S x (Cx (mo x) E (c+1)) (I4 E (c+1)) bit:=by
 have hd:=cI E c;have hbit:bit=0∨bit=1:=dl
 cases hz:I4 E (c+1) with
 | false =>
  have h0:E / 2^(c+1)=0:=by
   have:decide (E / 2^(c+1)=0)=true:=by unfold I4 at hz;cases hq:decide (E / 2^(c+1)=0)<;>rw [hq] at hz<;>first | rfl | cases hz
   exact gv this
  rcases hbit with e | e
  ·subst e;have e1:E / 2^c=0:=dl
   have e2:Cx (mo x) E (c+1)=Cx (mo x) E c:=by unfold Cx;rw [h0,e1]
   show S false (Cx (mo x) E (c+1));rw [e2];exact h false (by unfold I4;rw [fu e1];rfl)
  ·subst e;have e1:E / 2^c=1:=dl
   have e2:mu FP12 (Cx (mo x) E (c+1)) x=Cx (mo x) E c:=by unfold Cx;rw [h0,e1,AKp]
   show S true (mu FP12 (Cx (mo x) E (c+1)) x);rw [e2];exact h true (by unfold I4;rw [ga dl];rfl)
 | true =>
  have h0:E / 2^(c+1)≠0:=by
   have:decide (E / 2^(c+1)=0)=false:=by unfold I4 at hz;cases hq:decide (E / 2^(c+1)=0)<;>rw [hq] at hz<;>first | rfl | cases hz
   exact l_ this
  have hn:true=I4 E c:=by unfold I4;rw [ga dl];rfl
  rcases hbit with e | e
  ·subst e;have e1:mu FP12 (Cx (mo x) E (c+1)) (Cx (mo x) E (c+1))=Cx (mo x) E c:=by rw [AKo,show 2*(E / 2^(c+1))=E / 2^c by omega];rfl
   show S true (mu FP12 (Cx (mo x) E (c+1)) (Cx (mo x) E (c+1)));rw [e1];exact h true hn
  ·subst e;have e1:mu FP12 (mu FP12 (Cx (mo x) E (c+1)) (Cx (mo x) E (c+1))) x=Cx (mo x) E c:=by rw [AKo,AKp,show 2*(E / 2^(c+1))+1=E / 2^c by omega];rfl
   show S true (mu FP12 (mu FP12 (Cx (mo x) E (c+1)) (Cx (mo x) E (c+1))) x);rw [e1];exact h true hn
section
variable {β0:Env} {w0:World} (hb:∀ b,1≤b→β0 b=none) (x:R FP12) {off n:Nat} (m:Nat) {xs:dp} (hall:∀ d∈xs,0≤d∧d<18446744073709551616) (hlen:off+n≤xs.length) (hn:n≤1125899906842624)
include hb hall hlen hn in
theorem AKr:∀ c b,c≤64*n→b=I4 (AI (AA xs off n)) c→ASafe dn 199 β0 w0 (A4 β0 w0 [] (ve (pw (mo x:FP12) (AI (AA xs off n)))) []) Tryz.f199.ntmps [] (Jy x off n m xs b (av (Cx (mo x) (AI (AA xs off n)) c)) (iA ((c:Int)-1)) [])
 | 0,b,_,_=>by
  have h:=Av (w0:=w0) (W:=[]) (n:=Tryz.f199.ntmps) Jw AB Tryz.func199 (Akh x (Cx (mo x) (AI (AA xs off n)) 0) off n m xs (((0:Nat):Int)-1) b) ⟨rfl,trivial⟩ (AQ dk) hb ft
  have e:Cx (mo x) (AI (AA xs off n)) 0=en (pw (mo x:FP12) (AI (AA xs off n))):=by unfold Cx;rw [ia,ig]
  rw [e] at h ⊢;exact Ae du h
 | c+1,b,hc,hbz=>by
  have hi:((c+1:Nat):Int)-1=(c:Int):=dl
  obtain ⟨hw,hjn,hv0,hr0,hbit⟩:=XT (off:=off) hall hn (c:=c) dl
  obtain ⟨hq1,hq2⟩:=W2 xs off c;rw [← hq1] at hbit;have hnext:wI ((c:Int)-1)=(c:Int)-1:=Ao dl
  have hconds:∀ bit,decide (KT xs off c=1)=bit→AM (KU off n xs c bit):=by
   intro bit hbt;refine ⟨by simp,rfl,?_,?_,by simp,by simp only [gc];rw [hq2];exact ⟨hr0,hv0⟩,hbt,trivial⟩
   ·rw [hw];simp;omega
   ·rw [hw];simp;omega
  rw [hi];have ih:=AKq (S:=fun b v=>ASafe dn 199 β0 w0 (A4 β0 w0 [] (ve (pw (mo x:FP12) (AI (AA xs off n)))) []) Tryz.f199.ntmps [] (Jy x off n m xs b (av v) (iA ((c:Int)-1)) [])) (x:=x) (fun b h=>AKr c b dl h)
  rcases ke (AI (AA xs off n) / 2^c) with h0 | h1
  ·have hk:=hconds false (by rw [hbit,h0];rfl)
   have ih:=ih 0 h0;rw [← hbz] at ih;cases b with
   | false=>exact Ae [true,false] (Ag Jw AB (Akd ..) hk (AQ dk) hb ft fun _=>by rw [hnext];exact ih)
   | true=>exact Ae [true,false] (Ag Jw AB (Akf ..) hk (AQ dk) hb ft fun _=>by rw [hnext];exact ih)
  ·have hk:=hconds true (by rw [hbit,h1];rfl)
   have ih:=ih 1 h1;rw [← hbz] at ih;cases b with
   | false=>exact Ae [true,true] (Ag Jw AB (Ake ..) hk (AQ dk) hb ft fun _=>by rw [hnext];exact ih)
   | true=>exact Ae [true,true] (Ag Jw AB (Akg ..) hk (AQ dk) hb ft fun _=>by rw [hnext];exact ih)
include hb hall hlen hn in
theorem AKs:∀ c b,c≤64*n→b=I4 (AI (AA xs off n)) c→ASafe dn 80 β0 w0 (A4 β0 w0 [] (ve (pw (mo x:FP12) (AI (AA xs off n)))) []) Tryz.f80.ntmps [] (Jx x off n m xs b (av (Cx (mo x) (AI (AA xs off n)) c)) (iA (64*(n:Int))) (iA (64*(n:Int)-c)) [])
 | 0,b,_,_=>by
  have h:=Av (w0:=w0) (W:=[]) (n:=Tryz.f80.ntmps) Jw AB Tryz.func80 (Akc x (Cx (mo x) (AI (AA xs off n)) 0) off n m xs (64*(n:Int)) (64*(n:Int)-((0:Nat):Int)) b) ⟨ga dl,trivial⟩ (AQ dk) hb ft
  have e:Cx (mo x) (AI (AA xs off n)) 0=en (pw (mo x:FP12) (AI (AA xs off n))):=by unfold Cx;rw [ia,ig]
  rw [e] at h ⊢;exact Ae du h
 | c+1,b,hc,hbz=>by
  obtain ⟨hw,hjn,hv0,hr0,hbit⟩:=XT (off:=off) hall hn (c:=c) dl
  have hk:MY n (64*(n:Int)-((c+1:Nat):Int))=(c:Int):=by
   unfold MY;rw [Ao (z:=64*(n:Int)) dl,Ao (z:=64*(n:Int)-1) dl,Ao dl];omega
  have hnext:wI (64*(n:Int)-((c+1:Nat):Int)+1)=64*(n:Int)-(c:Int):=by rw [Ao dl];omega
  have hconds:∀ bit,decide (Ij (CG xs off c) (Int.tmod c 64)=1)=bit→AM (VN off n xs (64*(n:Int)) (64*(n:Int)-((c+1:Nat):Int)) bit):=by
   intro bit hbt;unfold VN;rw [hk];refine ⟨fu dl,Lx hn,rfl,?_,?_,by simp,by simp only [gc];exact ⟨hr0,hv0⟩,hbt,trivial⟩
   ·rw [hw];simp;omega
   ·rw [hw];simp;omega
  have ih:=AKq (S:=fun b v=>ASafe dn 80 β0 w0 (A4 β0 w0 [] (ve (pw (mo x:FP12) (AI (AA xs off n)))) []) Tryz.f80.ntmps [] (Jx x off n m xs b (av v) (iA (64*(n:Int))) (iA (64*(n:Int)-c)) [])) (x:=x) (fun b h=>AKs c b dl h)
  rcases ke (AI (AA xs off n) / 2^c) with h0 | h1
  ·have hk:=hconds false (by rw [hbit,h0];rfl)
   have ih:=ih 0 h0;rw [← hbz] at ih;cases b with
   | false=>exact Ae [true,false] (Ag Jw AB (AkY ..) hk (AQ dk) hb ft fun _=>by rw [hnext];exact ih)
   | true=>exact Ae [true,false] (Ag Jw AB (Aka ..) hk (AQ dk) hb ft fun _=>by rw [hnext];exact ih)
  ·have hk:=hconds true (by rw [hbit,h1];rfl)
   have ih:=ih 1 h1;rw [← hbz] at ih;cases b with
   | false=>exact Ae [true,true] (Ag Jw AB (AkZ ..) hk (AQ dk) hb ft fun _=>by rw [hnext];exact ih)
   | true=>exact Ae [true,true] (Ag Jw AB (Akb ..) hk (AQ dk) hb ft fun _=>by rw [hnext];exact ih)
end
theorem AKt {E n:Nat} (h:E<2^(64*n)):false=I4 E (64*n):=by unfold I4;rw [jf h,fu rfl];rfl
theorem Akk (x:FP12) {E n:Nat} (h:E<2^(64*n)):Cx x E (64*n)=en (1:FP12):=by unfold Cx;rw [jf h];rfl
theorem AKu {x:FP12} {E n:Nat} (h:E<2^(64*n)) (β:Env) (l:List Value) (hl:AO β G5 l):AO β (av (Cx x E (64*n))) l:=by rw [Akk x h];exact AAK β l hl
theorem Akl {off n m:Nat} {xs:dp} (hall:∀ d∈xs,0≤d∧d<18446744073709551616) (hlen:off+n≤xs.length) (hn:n≤1125899906842624) (x:R FP12) :
  Ac dn 199 [va FP12 x,AP 0 off n m] (A8 xs) 1 [] (ve (pw (mo x:FP12) (AI (AA xs off n)))) []:=by
 refine Ay (path:=[]) Tryz.func199 dk dk fun β0 w0 hb=>?_
 refine Ag Jw AB (AkX x off n m xs) ⟨Lx hn,trivial⟩ (AQ dk) hb ft fun _=>?_
 have hl:=XU hall hlen;have e3:wI (wI (64*(n:Int))-1)=((64*n:Nat):Int)-1:=by
  rw [Ao (z:=64*(n:Int)) dl,Ao dl];omega
 rw [e3];refine NE ?_ (AKr hb x m hall hlen hn (64*n) false (gd _) (AKt hl))
 exact ⟨rfl,rfl,rfl,fun β l h=>h,rfl,rfl,rfl,fun β l h=>h,rfl,rfl,rfl,fun β l h=>h,rfl,rfl,rfl,AKu hl,trivial⟩
theorem Akm {off n m:Nat} {xs:dp} (hall:∀ d∈xs,0≤d∧d<18446744073709551616) (hlen:off+n≤xs.length) (hn:n≤1125899906842624) (x:R FP12) :
  Ac dn 80 [va FP12 x,AP 0 off n m] (A8 xs) 1 [] (ve (pw (mo x:FP12) (AI (AA xs off n)))) []:=by
 refine Ay (path:=[]) Tryz.func80 dk dk fun β0 w0 hb=>?_
 refine Ag Jw AB (AkW x off n m xs) ⟨Lx hn,trivial⟩ (AQ dk) hb ft fun _=>?_
 have hl:=XU hall hlen;have h:=AKs (w0:=w0) hb x m hall hlen hn (64*n) false (gd _) (AKt hl)
 have e3:64*(n:Int)-((64*n:Nat):Int)=0:=dl
 rw [e3] at h;rw [Ao (z:=64*(n:Int)) dl];refine Hv (NE ?_ h)
 exact ⟨rfl,rfl,rfl,fun β l h=>h,rfl,rfl,rfl,fun β l h=>h,rfl,rfl,rfl,fun β l h=>h,rfl,rfl,rfl,AKu hl,trivial⟩
theorem AKv:∃ f:FP12→Nat→FP12,∀ a k,f a k=pw a k:=⟨_,fun _ _=>rfl⟩
def YX:FP12→Nat→FP12:=Classical.choose AKv
theorem YY (a:FP12) (k:Nat):YX a k=pw a k:=ij AKv a k
def SDt:dt:=(80,DP (Xj FP12 fun r l=>ve (YX (mo r:FP12) (AI l))))::(199,Xj FP12 fun r l=>ve (YX (mo r:FP12) (AI l)))::SDr
theorem AKw:AT dn SDt:=⟨D6 (u6 Tryz.func80 dk dk (fun _ _=>by kernel_rfl) fun _ _ _ _ r hx hl hn=>by rw [YY];exact Akm hx hl hn r),u6 Tryz.func199 dk dk (fun _ _=>by kernel_rfl) fun _ _ _ _ r hx hl hn=>by rw [YY];exact Akl hx hl hn r,AKl⟩
noncomputable abbrev oDt:Orc:=AG SDt KV
theorem YZ:OrcOk dn oDt:=AH AKw BJ
end
noncomputable section
def SDu0:dt:=(271,A5 dn oDt Tryz.f271 300)::(156,A5 dn oDt Tryz.f156 300)::(226,A5 dn oDt Tryz.f226 300)::(200,A5 dn oDt Tryz.f200 300)::(54,A5 dn oDt Tryz.f54 300)::SDt
theorem AKx:AT dn SDu0:=⟨A7 YZ AB Tryz.func271 dk dk 300,A7 YZ AB Tryz.func156 dk dk 300,A7 YZ AB Tryz.func226 dk dk 300,A7 YZ AB Tryz.func200 dk dk 300,A7 YZ AB Tryz.func54 dk dk 300,AKw⟩
noncomputable abbrev oDu0:Orc:=AG SDu0 KV
theorem Akn:OrcOk dn oDu0:=AH AKx BJ
def SDu1:dt:=(225,A5 dn oDu0 Tryz.f225 300)::SDu0
theorem AKy:AT dn SDu1:=⟨A7 Akn AB Tryz.func225 dk dk 300,AKx⟩
noncomputable abbrev oDu1:Orc:=AG SDu1 KV
theorem AKz:OrcOk dn oDu1:=AH AKy BJ
def Jz (r:R FP12):R FP12:=en (fbO (mo r))
def J0 (r:R FP12) (l:dp):R FP12:=en (YX (mo r) (AI (AA l 0 l.length)))
def eeL:dp:=[0x8c00aaab0000aaab,0x396c8c005555e156]
def xxL:dp:=[0xd201000000010000]
def rg (f:R FP12):R FP12:=mu FP12 (Hn f) (iv FP12 f)
def rh (g:R FP12):R FP12:=mu FP12 (Jz (Jz g)) g
def rbb (a:R FP12):R FP12:=mu FP12 (Hn (J0 a xxL)) (Jz a)
def rcc (b:R FP12):R FP12:=mu FP12 (mu FP12 (Hn (J0 (Hn (J0 b xxL)) xxL)) (Jz (Jz b))) (Hn b)
def AAU (f:R FP12):R FP12:=mu FP12 (rcc (rbb (J0 (rh (rg f)) eeL))) (rh (rg f))
theorem Ako (r:R FP12):AK dn oDu1 Tryz.f124 [va FP12 r] [] 2000=some (tt 8 [],va FP12 (AAU r)):=dk
def pg (f:R FP12):R FP12:=mu FP12 (mu FP12 o12 (Hn f)) (iv FP12 f)
def ph (g:R FP12):R FP12:=mu FP12 (mu FP12 o12 (Jz (Jz (re FP12 g)))) g
def pbb (a:R FP12):R FP12:=mu FP12 (mu FP12 o12 (Hn (J0 a xxL))) (Jz (re FP12 a))
def pcc (b:R FP12):R FP12:=mu FP12 (mu FP12 (mu FP12 o12 (J0 (J0 b xxL) xxL)) (Jz (Jz (re FP12 b)))) (Hn b)
def AAV (f:R FP12):R FP12:=mu FP12 (mu FP12 o12 (pcc (pbb (J0 (ph (pg f)) eeL)))) (ph (pg f))
def Akp:List Bool:=[true,true,false,true,true,false,true,true,false,true,true,true,false,true,true,false]
theorem Akq (r:R FP12):AK dn oDu1 Tryz.f158 [va FP12 r] Akp 2000=some (tt 5 ((false,false)::tt 5 ((false,false)::tt 9 ((false,false)::tt 11 ((false,false)::tt 5 ((false,false)::[]))))),va FP12 (AAV r)):=dk
end
noncomputable section
section
variable (a b:R FP12)
theorem AK4:(mo (mu FP12 a b):FP12)=mo a*mo b:=mo_en _
theorem AK5:(mo (Hn a):FP12)=Qx.conj (mo a):=mo_en _
theorem AK6:(mo (iv FP12 a):FP12)=FD.inv (mo a):=mo_en _
theorem Akr:(mo (re FP12 a):FP12)=mo a:=mo_en _
theorem AK7:(mo (Jz a):FP12)=f12 (mo a):=by unfold Jz;rw [mo_en,AAT]
theorem Aks:AI (AA eeL 0 eeL.length)=EE:=by rw [Agn];kernel_rfl
theorem Akt:AI (AA xxL 0 xxL.length)=XX:=by rw [Agm];kernel_rfl
theorem AK8:(mo (J0 a eeL):FP12)=pw (mo a) EE:=by unfold J0;rw [mo_en,YY,Aks]
theorem AK9:(mo (J0 a xxL):FP12)=pw (mo a) XX:=by unfold J0;rw [mo_en,YY,Akt]
theorem Aku:(mo o12:FP12)=1:=by rw [R1];exact mo_en _
theorem AK_:mu FP12 a b=en (mo a*mo b:FP12):=rfl
end
theorem Akv (x:FP12) (k:Nat):Qx.conj (pw (Qx.conj x) k)=pw x k:=by
 rw [(Qx.conj_rh (β:=vv)).mh.pwc,Qx.conj_conj]
theorem Akw (f:R FP12):AAU f=en (finF (mo f)):=by
 unfold AAU;rw [AK_];refine gh en ?_
 simp only [rcc,rbb,rh,rg,AK4,AK5,AK6,AK7,AK8,AK9,Akv,finF,RN]
theorem Akx (f:R FP12):AAV f=en (finF (mo f)):=by
 unfold AAV;rw [AK_];refine gh en ?_
 simp only [pcc,pbb,ph,pg,AK4,AK5,AK6,AK7,AK8,AK9,Akr,Aku,Rg.one_mul,finF,RN]
theorem AK':∃ f:FP12→FP12,∀ x,f x=finF x:=⟨_,fun _=>rfl⟩
def fiO:FP12→FP12:=Classical.choose AK'
theorem AAX (x:FP12):fiO x=finF x:=ij AK' x
def VO (r:R FP12):AV:=va FP12 (en (fiO (mo r)))
theorem Aky (r:R FP12):AS dn 158 [va FP12 r] (VO r):=by
 unfold VO;rw [AAX,← Akx];exact AN AKz AB Tryz.func158 (Akq r) (Ad 5 ⟨rfl,Ad 5 ⟨rfl,Ad 9 ⟨rfl,Ad 11 ⟨rfl,Ad 5 ⟨rfl,trivial⟩⟩⟩⟩⟩) rfl
theorem Akz (r:R FP12):AS dn 124 [va FP12 r] (VO r):=by
 unfold VO;rw [AAX,← Akw];exact AN AKz AB Tryz.func124 (Ako r) (Ad 8 trivial) rfl
def SDv:dt:=(158,AZ (BR FP12 VO))::(124,AZ (BR FP12 VO))::SDu1
theorem Ak0:AT dn SDv:=⟨Aa Tryz.func158 dk dk (BW Aky),Aa Tryz.func124 dk dk (BW Akz),AKy⟩
end
noncomputable section
noncomputable def SEa0:dt:=SDv++(SCj++SCl1)
theorem ALA:AT dn SEa0:=Jr Ak0 (Jr Ah1 Ah4)
noncomputable abbrev oEa0:Orc:=AG SEa0 KV
theorem AAY:OrcOk dn oEa0:=AH ALA BJ
noncomputable def SEa1:dt:=(79,A5 dn oEa0 Tryz.f79 2000)::(56,A5 dn oEa0 Tryz.f56 2000)::(77,A5 dn oEa0 Tryz.f77 300)::SEa0
theorem Ak1:AT dn SEa1:=⟨A7 AAY AB Tryz.func79 dk dk 2000,A7 AAY AB Tryz.func56 dk dk 2000,A7 AAY AB Tryz.func77 dk dk 300,ALA⟩
def KW12:List (TypeId×List (Option IntKind)):=(83,List.replicate 72 (some .u64))::KV
theorem OC:Lb dn KW12:=⟨⟨dk,dk,dk⟩,BJ⟩
end
noncomputable section
noncomputable def SEb0:dt:=SWe++(SEa1++SVg)
theorem jH:AT dn SEb0:=Jr Adc (Jr Ak1 eV)
noncomputable abbrev oEb0:Orc:=AG SEb0 KW12
theorem AAZ:OrcOk dn oEb0:=AH jH OC
noncomputable def SEb1:dt:=(32,A5 dn oEb0 Tryz.f32 900)::(30,A5 dn oEb0 Tryz.f30 300)::(12,A5 dn oEb0 Tryz.f12 300)::SEb0
theorem Ak2:AT dn SEb1:=⟨A7 AAZ AB Tryz.func32 dk dk 900,A7 AAZ AB Tryz.func30 dk dk 300,A7 AAZ AB Tryz.func12 dk dk 300,jH⟩
noncomputable abbrev oEb1:Orc:=AG SEb1 KW12
theorem ALB:OrcOk dn oEb1:=AH Ak2 OC
end
noncomputable section
theorem ALC (l x y:FP2) (a b:FP):MX l x y a (-b)=Qx.conj (MX l x y a b):=Qx.ext rfl (Kx.ext (GU (F:=FP2)).symm (Qx.ext rfl (GU (F:=FP)).symm) (GU (F:=FP2)).symm)
theorem Ak3 (x:FP2) (a:FP):Qx.conj (N_ x a)=N_ x a:=Qx.ext rfl (GU (F:=FP6))
theorem ALD (T Q:P2) (p:Pt FP):Hm T Q (Rg.neg p)=Qx.conj (Hm T Q p):=by
 have h1:(1:FP12)=Qx.conj 1:=(Qx.conj_rh.one).symm
 cases p with
 | inf=>exact h1
 | pt a b=>cases T with
  | inf=>exact h1
  | pt x y=>cases Q with
   | inf=>exact h1
   | pt x' y' =>
    show Px x y x' y' a (-b)=Qx.conj (Px x y x' y' a b);unfold Px;split
    ·split
     ·exact ALC ..
     ·exact (Ak3 ..).symm
    ·exact ALC ..
theorem AAa (p:Pt FP) (q:P2):∀ (c:Nat) (f:FP12) (t:P2),GN (Rg.neg p) q c (Qx.conj f) t=Qx.conj (GN p q c f t)
 | 0,_,_=>rfl
 | c+1,f,t=>by
  unfold GN;cases OA c with
  | true =>
   simp only [ALD,← Qx.conj_rh.mul];exact AAa p q c _ _
  | false =>
   simp only [ALD,← Qx.conj_rh.mul];exact AAa p q c _ _
theorem Ak4 (p:Pt FP):A6 (Rg.neg p)=A6 p:=by
 cases p with
 | inf=>rfl
 | pt a b =>
  have e:(-b)*(-b)=b*b:=ring [b] dk
  simp only [A6,Rg.neg,e]
theorem Ak5 (p:Pt FP) (q:P2):DD (Rg.neg p) q=Qx.conj (DD p q):=by
 have hI:LI (Rg.neg p) q=LI p q:=by cases p<;>rfl
 have hB:G6 (Rg.neg p) q=G6 p q:=by unfold G6;rw [Ak4]
 unfold DD;rw [hI,hB];cases G6 p q with
 | false=>exact (Qx.conj_rh.zero).symm
 | true=>cases LI p q with
  | true=>exact (Qx.conj_rh.one).symm
  | false =>
   have:=AAa p q 63 1 q
   rw [Qx.conj_rh.one] at this;show Qx.conj (GN (Rg.neg p) q 63 1 q)=Qx.conj (Qx.conj (GN p q 63 1 q));rw [this]
theorem AAb {T Q:P2} {a b:FP} (ha:a≠0) (hb:b≠0):Hm T Q (.pt a b)≠0:=by
 have h1:(1:FP12)≠0:=FD.one_ne
 have hl:∀ l x y:FP2,MX l x y a b≠0:=fun l x y e=>hb (gh (fun z:FP12=>z.b.b.a) e)
 have hu:∀ x:FP2,N_ x a≠0:=fun x e=>by
  have:-a=0:=gh (fun z:FP12=>z.a.b.a) e
  exact ha (by rw [← Rg.neg_neg a,this,GU])
 cases T with
 | inf=>exact h1
 | pt x y=>cases Q with
  | inf=>exact h1
  | pt x' y' =>
   show Px x y x' y' a b≠0;unfold Px;split
   ·split
    ·exact hl _ _ _
    ·exact hu _
   ·exact hl _ _ _
theorem AAc {a b:FP} (ha:a≠0) (hb:b≠0) (q:P2):∀ (c:Nat) (f:FP12) (t:P2),f≠0→GN (.pt a b) q c f t≠0
 | 0,_,_,h=>h
 | c+1,f,t,h=>by
  unfold GN;cases OA c with
  | true=>exact AAc ha hb q c _ _ (Cz (Cz h h) (AAb ha hb))
  | false=>exact AAc ha hb q c _ _ (Cz (Cz (Cz h h) (AAb ha hb)) (AAb ha hb))
theorem Ak6 {a b:FP} (ha:a≠0) (hb:b≠0) {q:P2} (h:G6 (.pt a b) q=true):DD (.pt a b) q≠0:=by
 unfold DD;rw [h];have h1:(1:FP12)≠0:=FD.one_ne
 cases LI (.pt a b) q with
 | true=>exact h1
 | false =>
  intro e;refine AAc ha hb q 63 1 q h1 ?_
  have:Qx.conj (Qx.conj (GN (.pt a b) q 63 1 q))=Qx.conj 0:=gh Qx.conj e
  rwa [Qx.conj_conj,Qx.conj_rh.zero] at this
theorem Ak7 {a b:FP} (ha:a≠0) (hb:b≠0) {q:P2} (h:G6 (.pt a b) q=true) (A:FP12):A*finF (DD (Rg.neg (.pt a b)) q)=1↔A=finF (DD (.pt a b) q):=by
 have e:=Ago (Ak6 ha hb h)
 rw [Ak5];constructor
 ·intro h;have:A*finF (Qx.conj (DD (.pt a b) q))*finF (DD (.pt a b) q)=finF (DD (.pt a b) q):=by rw [h,Rg.one_mul]
  rw [mul_assoc,mul_comm (finF (Qx.conj _)),e,mul_one] at this;exact this
 ·rintro rfl
  exact e
end
abbrev Rw:Type:=Nat×Nat×Nat×dp
def rowAt (H:Heap) (c:Ch):Option Rw:=match H8 (.val false [c]) with
 | some (k,n,m)=>match AF H k with
  | some ⟨_,cs,_⟩=>match Az .u8 cs with
   | some xs=>some (k,n,m,xs)
   | none=>none
  | none=>none
 | none=>none
def Pz (H:Heap):List Ch→Option (List Rw)
 | []=>some []
 | c::r=>match rowAt H c,Pz H r with
  | some x,some l=>some (x::l)
  | _,_=>none
def C6 (r:Rw):Bool:=Nat.ble r.2.1 r.2.2.2.length&&(Nat.ble r.2.1 r.2.2.1&&(AJ .i64 (r.2.1:Int)&&Nat.ble r.2.1 4398046511104))
def E5:List Rw→Bool
 | []=>true
 | r::l=>C6 r&&E5 l
def Ar (r:Rw):dp:=AA r.2.2.2 0 r.2.1
def EA:List Rw→List (dp)
 | []=>[]
 | r::l=>Ar r::EA l
def I5 (j:Nat):List Rw→List Ch
 | []=>[]
 | r::l=>.sl j 0 r.2.1 r.2.2.1::I5 (j+1) l
def IK:List Rw→List Blk
 | []=>[]
 | r::l=>Am [.seq .u8 r.2.2.2]::IK l
def DX:List Rw→List Nat
 | []=>[]
 | r::l=>r.1::DX l
def J1:List Rw→Nat
 | []=>0
 | _::l=>J1 l+1
theorem jI:∀ l:List Rw,J1 l=l.length
 | []=>rfl
 | _::l=>by rw [J1,jI l];rfl
def P0 (H:Heap) (A:AV):Option (Nat×Nat×List Rw):=match DB A with
 | some (K,0,n)=>match AF H K with
  | some ⟨_,cs,_⟩=>match Pz H cs with
   | some rs=>some (K,n,rs)
   | none=>none
  | none=>none
 | _=>none
theorem jJ {r:Rw} (h:C6 r=true):r.2.1≤r.2.2.2.length∧r.2.1≤r.2.2.1∧AJ .i64 (r.2.1:Int)=true∧r.2.1≤4398046511104:=by
 unfold C6 at h;obtain ⟨h1,h⟩:=gk.1 h;obtain ⟨h2,h⟩:=gk.1 h;obtain ⟨h3,h4⟩:=gk.1 h;exact ⟨f_ h1,f_ h2,h3,f_ h4⟩
theorem VP {k n m:Nat} {xs:dp} (h1:n≤xs.length) (h2:n≤m) (h3:AJ .i64 (n:Int)=true) (h4:n≤4398046511104):C6 (k,n,m,xs)=true:=by
 unfold C6;simp only [gb h1,gb h2,h3,gb h4];rfl
theorem Yg:∀ {l:List Rw} {r:Rw},E5 l=true→r∈l→C6 r=true
 | x::l,r,h,hr=>by
  obtain ⟨h1,h2⟩:=gk.1 h;rcases gr.1 hr with rfl | hr
  ·exact h1
  ·exact Yg h2 hr
def VQ (β:Env) (w:World) (r:Rw):Prop:=(∃ X,β r.1=some X)∧∀ (β':Env) (j:Nat),β' j=β r.1→DN β' (Am [.seq .u8 r.2.2.2]) j w
theorem VR {β β':Env} {k j n m:Nat} {l:List Value} (e:β' j=β k) (h:BF β (.sl k 0 n m) l):BF β' (.sl j 0 n m) l:=by
 rcases h with ⟨B,q,q1,q2⟩ | ⟨q1,q2⟩ | ⟨q1,q2⟩
 ·exact .inl ⟨B,q,by rw [e];exact q1,q2⟩
 ·exact .inr (.inl ⟨by rw [e];exact q1,q2⟩)
 ·exact .inr (.inr ⟨by rw [e];exact q1,q2⟩)
theorem Ak8 {β:Env} {c:Ch} {x:Nat×Nat×Nat} (h:H8 (.val false [c])=some x) {l:List Value} (hr:BF β c l):∃ u,l=[u]:=by
 unfold H8 at h;split at h
 ·rename_i he;injection he with _ he;injection he with he _;subst he;rcases hr with ⟨B,q,_,e⟩ | ⟨_,_,_,_,e⟩ | ⟨_,_,_,_,_,_,e⟩<;>exact ⟨_,e⟩
 ·rename_i he;injection he with _ he;injection he with he _;subst he;rcases hr with ⟨B,q,cap,_,e,_⟩ | ⟨_,_,e⟩<;>exact ⟨_,e⟩
 ·cases h
theorem jK {β:Env} {H:Heap} {w:World} {c:Ch} {r:Rw} {l:List Value} (hg:Ex.Good β H w) (h:rowAt H c=some r) (hb:C6 r=true) (hr:BF β c l) :
  ∃ m,C6 (r.1,r.2.1,m,r.2.2.2)=true∧BF β (.sl r.1 0 r.2.1 m) l∧VQ β w (r.1,r.2.1,m,r.2.2.2):=by
 obtain ⟨b1,b2,b3,b4⟩:=jJ hb;unfold rowAt at h;split at h;case h_2=>cases h
 rename_i k n m hS;split at h;case h_2=>cases h
 rename_i ty cs o hk;split at h;case h_2=>cases h
 rename_i xs hx;injection h with h;subst h;obtain ⟨u,rfl⟩:=Ak8 hS hr;obtain ⟨m',hm',r1⟩:=JY hS b2 (Aq hr)
 refine ⟨m',VP b1 hm' b3 b4,Aw r1,CC (hg.heap _ _ hk),fun β' j e=>?_⟩
 refine TV (hg.heap _ _ hk) e (.inl ⟨rfl,rfl,nofun⟩) fun l h=>?_
 obtain ⟨q1,q2⟩:=C8 hx h;exact ⟨_,[],⟨q1,q2⟩,rfl,by simp⟩
theorem ALE {β:Env} {H:Heap} {w:World} (hg:Ex.Good β H w):∀ {cs:List Ch} {rs:List Rw} {l:List Value},Pz H cs=some rs→E5 rs=true→AO β cs l →
  ∃ rs':List Rw,E5 rs'=true∧EA rs'=EA rs∧DX rs'=DX rs∧(∀ r∈rs',VQ β w r)∧∀ (β':Env) (j:Nat),(∀ i r,rs'[i]? = some r→β' (j+i)=β r.1)→AO β' (I5 j rs') l
 | [],rs,l,h,_,hr=>by
  injection h with h;subst h;exact ⟨[],rfl,rfl,rfl,ft,fun _ _ _=>hr⟩
 | c::cs,rs,l,h,hb,⟨l1,l2,h1,h2,h3⟩=>by
  simp only [Pz] at h;split at h;case h_2=>cases h
  rename_i x rl hx hrl;injection h with h;subst h;obtain ⟨b1,b2⟩:=gk.1 hb;obtain ⟨m,m1,m2,m3⟩:=jK hg hx b1 h1;obtain ⟨rs',r1,r2,r3,r4,r5⟩:=ALE hg hrl b2 h2;refine ⟨(x.1,x.2.1,m,x.2.2.2)::rs',gk.2 ⟨m1,r1⟩,?_,?_,fun r hr=>?_,fun β' j hj=>?_⟩
  ·show Ar _::_=Ar _::_;rw [r2];rfl
  ·show _::_=_::_;rw [r3]
  ·rcases gr.1 hr with rfl | hr
   ·exact m3
   ·exact r4 r hr
  ·refine ⟨l1,l2,VR (hj 0 _ rfl) m2,r5 β' (j+1) fun i r hi=>?_,h3⟩
   rw [show j+1+i=j+(i+1) by omega]
   exact hj (i+1) r hi
theorem ALF {H:Heap}:∀ {cs:List Ch} {rs:List Rw},Pz H cs=some rs→Hp cs=true
 | [],_,_=>rfl
 | c::cs,rs,h=>by
  simp only [Pz] at h;split at h;case h_2=>cases h
  rename_i x rl hx hrl;have ih:=ALF hrl;unfold rowAt at hx;split at hx;case h_2=>cases hx
  rename_i k n m hS;unfold H8 at hS;split at hS
  ·rename_i he;injection he with _ he;injection he with he _;subst he;exact ih
  ·rename_i he;injection he with _ he;injection he with he _;subst he;exact ih
  ·cases hS
theorem ALG {β:Env} {K:Nat} {b:Blk} {w:World} (h:DN β b K w) (hw:Hp b.cs=true):∃ l,AO β b.cs l∧∀ (β':Env) (cs':List Ch) (K':Nat),β' K'=β K→AO β' cs' l→DN β' (Am cs') K' w:=by
 rcases h with ⟨B,n,l,t,pre,ty',fz,q1,q2,q3,q4,_⟩ | ⟨X,q1,q2,q3⟩ | ⟨B,l,es,q,q1,q2,q3,q4⟩
 ·exact ⟨l,q2,fun β' cs' j he hr=>.inl ⟨B,n,l,t,pre,ty',fz,he.trans q1,hr,q3,q4,fun h=>absurd rfl h⟩⟩
 ·refine ⟨[],q3,fun β' cs' j he hr=>.inr (.inl ⟨X,he.trans q1,?_,hr⟩)⟩
  cases X with
  | at_=>exact q2
  | nil=>exact Or.inr rfl
  | emp=>exact ⟨rfl,rfl⟩
 ·exact absurd (ni ..) (Ys hw q3)
theorem ALH:∀ {fs:List Rw} {i:Nat} {d:Blk},(IK fs)[i]? = some d→∃ r,fs[i]? = some r∧d=Am [.seq .u8 r.2.2.2]
 | [],_,_,h=>by simp [IK] at h
 | r::fs,0,d,h=>⟨r,rfl,by simpa [IK] using h.symm⟩
 | r::fs,i+1,d,h=>by
  obtain ⟨x,h1,h2⟩:=ALH (fs:=fs) (i:=i) (by simpa [IK] using h)
  exact ⟨x,by simpa using h1,h2⟩
theorem jL:∀ fs:List Rw,(IK fs).length=fs.length
 | []=>rfl
 | _::fs=>by rw [IK,ii,jL fs,ii]
theorem AAd (b:List Nat) (i:Nat):∀ a:List Nat,Ex.nth (a++b) (a.length+i)=Ex.nth b i
 | []=>by rw [lh,List.length_nil,gz]
 | x::a=>by
  rw [kx,ii,show a.length+1+i=(a.length+i)+1 by omega]
  exact AAd b i a
theorem ALI (b:List Nat):∀ (a:List Nat) (i:Nat),i<a.length→Ex.nth (a++b) i=Ex.nth a i
 | [],_,h=>by simp at h
 | _::_,0,_=>rfl
 | _::a,i+1,h=>ALI b a i (by simpa using h)
theorem AAe:∀ {fs:List Rw} {i:Nat} {r:Rw},fs[i]? = some r→Ex.nth (DX fs) i=r.1
 | [],_,_,h=>by simp at h
 | x::fs,0,r,h=>by injection h with h;subst h;rfl
 | x::fs,i+1,r,h=>AAe (fs:=fs) (by simpa using h)
section
variable {β:Env} {H:Heap} {w:World} {hs:List Nat} {hb:List Blk} {fs:List Rw}
theorem ALJ (hl:hb.length=hs.length) {i:Nat} {r:Rw} (h:fs[i]? = some r):A3 β (hs++DX fs) (hb++IK fs).length (hs.length+i)=β r.1:=by
 have hi:i<fs.length:=by
  rcases gt i fs.length with q | q
  ·exact q
  ·rw [jw q] at h;cases h
 rw [Ed (by rw [ib,jL,hl];omega),AAd,AAe h]
theorem Ak9 (g:Ex.Good β H w) (hl:hb.length=hs.length) (hv:∀ r∈fs,VQ β w r) (hh:∀ j d,hb[j]? = some d→d.ty=Bf∧DN (A3 β (hs++DX fs) (hb++IK fs).length) d j w) :
  Ex.Good (A3 β (hs++DX fs) (hb++IK fs).length) (M2 0 (hb++IK fs)) w:=by
 refine MS g fun j d hj=>?_
 rcases gt j hb.length with q | q
 ·rw [li q] at hj;exact hh j d hj
 ·rw [ow q] at hj;obtain ⟨r,h1,rfl⟩:=ALH hj;refine ⟨rfl,(hv r (lg h1)).2 _ j ?_⟩
  have:=ALJ (β:=β) hl h1
  rwa [show hs.length+(j-hb.length)=j by omega] at this
theorem Ak_ (hl:hb.length=hs.length) (hv:∀ r∈fs,VQ β w r) (hh:∀ j,j<hs.length→∃ X,β (Ex.nth hs j)=some X):∀ k,k<(hb++IK fs).length→∃ X,β (Ex.nth (hs++DX fs) k)=some X:=by
 intro k hk;rw [ib,jL] at hk;rcases gt k hs.length with q | q
 ·rw [ALI _ _ _ q];exact hh k q
 ·have hi:k-hs.length<fs.length:=dl
  have e:fs[k-hs.length]? = some fs[k-hs.length]:=kn hi
  have:=AAd (DX fs) (k-hs.length) hs
  rw [show hs.length+(k-hs.length)=k by omega] at this
  rw [this,AAe e];exact (hv _ (lg e)).1
end
theorem ALK {β:Env} {H:Heap} {w:World} {A:AV} {K n:Nat} {rs:List Rw} {u:Value} (hg:Ex.Good β H w) (h:P0 H A=some (K,n,rs)) (hb:E5 rs=true) (hr:AL β A u) :
  ∃ (M:Nat) (rs':List Rw),E5 rs'=true∧EA rs'=EA rs∧DX rs'=DX rs∧(∀ r∈rs',VQ β w r)∧(∃ X,β K=some X)∧(∀ (β':Env) (j:Nat),β' j=β K→AL β' (AP j 0 n M) u) ∧
   ∀ (β':Env) (j K':Nat),β' K'=β K→(∀ i r,rs'[i]? = some r→β' (j+i)=β r.1)→DN β' (Am (I5 j rs')) K' w:=by
 unfold P0 at h;split at h;case h_2=>cases h
 rename_i K' n' hS;split at h;case h_2=>cases h
 rename_i ty cs o hk;split at h;case h_2=>cases h
 rename_i rl hrl;injection h with h;injection h with e1 h;injection h with e2 e3;subst e1;subst e2;subst e3;obtain ⟨M,r1⟩:=EU hS hr;obtain ⟨l,l1,l2⟩:=ALG (hg.heap _ _ hk) (ALF hrl)
 obtain ⟨rs',q1,q2,q3,q4,q5⟩:=ALE hg hrl hb l1;refine ⟨M,rs',q1,q2,q3,q4,CC (hg.heap _ _ hk),fun β' j e=>?_,fun β' j K2 e he=>l2 β' _ K2 e (q5 β' j he)⟩
 obtain ⟨x1,x2,y1,y2,y3⟩:=r1;exact ⟨x1,x2,VR e y1,y2,y3⟩
theorem ALL {a b:List Rw} (h:EA a=EA b):a.length=b.length:=by
 have e:∀ l:List Rw,(EA l).length=l.length:=by
  intro l;induction l with
  | nil=>rfl
  | cons x l ih=>rw [EA,ii,ih,ii]
 rw [← e a,← e b,h]
def jM:Ch→Option Nat
 | .sl _ _ n _=>some n
 | .sx _ n _=>some n
 | .v (.slice _ n _)=>some n
 | _=>none
def VS:List Ch→Option (List Nat)
 | []=>some []
 | c::r=>match jM c,VS r with
  | some n,some l=>some (n::l)
  | _,_=>none
def G7:List Nat→Bool
 | []=>true
 | n::r=>Nat.ble n 300&&G7 r
def LJ:List Nat→Bool
 | []=>true
 | n::r=>AJ .i64 (n:Int)&&LJ r
def ES (x:Option Addr×Nat×Nat):Ch:=.v (.slice x.1 x.2.1 x.2.2)
noncomputable def J3:Orc:=AG [] KV
noncomputable def J4 (n M:Nat) (cs:List Ch) (p:List Bool):ASt:=Ah Tryz.f8 [AP 0 0 n M] [(0,some (Am cs))] 1 p
theorem Ak' {β:Env} {c:Ch} {n:Nat} {l:List Value} (h:jM c=some n) (hr:BF β c l):∃ (oa:Option Addr) (m:Nat),l=[.slice oa n m]:=by
 unfold jM at h;split at h
 ·injection h with h;subst h;rcases hr with ⟨B,q,_,e⟩ | ⟨_,_,rfl,_,e⟩ | ⟨_,_,rfl,_,a,m,e⟩<;>exact ⟨_,_,e⟩
 ·injection h with h;subst h;rcases hr with ⟨B,q,cap,_,e,_⟩ | ⟨_,rfl,e⟩<;>exact ⟨_,_,e⟩
 ·injection h with h;subst h;exact ⟨_,_,hr.1⟩
 ·cases h
def Yi (xs:List (Option Addr×Nat×Nat)):List Nat:=xs.map (·.2.1)
theorem ALM {β:Env}:∀ {cs:List Ch} {ns:List Nat} {l:List Value},VS cs=some ns→AO β cs l→∃ xs:List (Option Addr×Nat×Nat),Yi xs=ns∧∀ β':Env,AO β' (xs.map ES) l
 | [],ns,l,h,hr=>by injection h with h;subst h;exact ⟨[],rfl,fun _=>hr⟩
 | c::cs,ns,l,h,⟨l1,l2,h1,h2,h3⟩=>by
  simp only [VS] at h;split at h;case h_2=>cases h
  rename_i n r hn hr;injection h with h;subst h;obtain ⟨oa,m,rfl⟩:=Ak' hn h1;obtain ⟨xs,e,hx⟩:=ALM hr h2;exact ⟨(oa,n,m)::xs,by rw [← e];rfl,fun β'=>⟨_,l2,⟨rfl,rfl,trivial⟩,hx β',h3⟩⟩
theorem ALN:∀ {cs:List Ch} {ns:List Nat},VS cs=some ns→Hp cs=true
 | [],_,_=>rfl
 | c::cs,ns,h=>by
  simp only [VS] at h;split at h;case h_2=>cases h
  rename_i n r hn hr;have ih:=ALN hr;unfold jM at hn;split at hn
  ·exact ih
  ·exact ih
  ·exact ih
  ·cases hn
def fewSp:ASpec:=fun args H fr path=>match args,path with
 | [A],true::rest=>match DB A with
  | some (K,0,n)=>some (BI [K] 1 fr 0 [] (.val false [.b false]) [] [(AJ .i64 (n:Int),true),(decide ((3:Int)<n),true)] rest)
  | _=>none
 | [A],false::rest=>match DB A with
  | some (K,0,n)=>match AF H K with
   | some ⟨_,cs,_⟩=>match VS cs with
    | some ns=>some (BI [K] 1 fr 0 [] (Au (G7 ns)) [] [(Nat.beq n ns.length&&Nat.ble n 3,true),(LJ ns,true)] rest)
    | none=>none
   | none=>none
  | _=>none
 | _,_=>none
section
variable (n M:Nat) (x y z:Option Addr×Nat×Nat)
def G8 (x:Option Addr×Nat×Nat) (b:Bool) (r:dr):dr:=tt 3 ((AJ .i64 (x.2.1:Int),true)::(decide ((300:Int)<(x.2.1:Int)),b)::r)
def jN:dr:=[(true,true),(false,false)]
theorem AlA:AR dn J3 Tryz.f8 300 1 [] (Ah Tryz.f8 [AP 0 0 n M] [] 1 dw)=some ([(AJ .i64 (n:Int),true),(decide ((3:Int)<n),true)],[],.val false [.b false],[]):=dk
theorem AlB:AR dn J3 Tryz.f8 300 1 [] (J4 0 M [] d_)=some ((true,true)::(false,false)::jN,[],.val false [.b true],[]):=dk
theorem AlC:AR dn J3 Tryz.f8 300 1 [] (J4 1 M [ES x] ew)=some ((true,true)::(false,false)::G8 x true [],[],.val false [.b false],[]):=dk
theorem AlD:AR dn J3 Tryz.f8 300 1 [] (J4 1 M [ES x] [false,true,false,false])=some ((true,true)::(false,false)::G8 x false jN,[],.val false [.b true],[]):=dk
theorem AlE:AR dn J3 Tryz.f8 300 1 [] (J4 2 M [ES x,ES y] ew)=some ((true,true)::(false,false)::G8 x true [],[],.val false [.b false],[]):=dk
theorem AlF:AR dn J3 Tryz.f8 300 1 [] (J4 2 M [ES x,ES y] [false,true,false,true,true])=some ((true,true)::(false,false)::G8 x false (G8 y true []),[],.val false [.b false],[]):=dk
theorem AlG:AR dn J3 Tryz.f8 300 1 [] (J4 2 M [ES x,ES y] [false,true,false,true,false,false])=some ((true,true)::(false,false)::G8 x false (G8 y false jN),[],.val false [.b true],[]):=dk
theorem AlH:AR dn J3 Tryz.f8 300 1 [] (J4 3 M [ES x,ES y,ES z] ew)=some ((true,true)::(false,false)::G8 x true [],[],.val false [.b false],[]):=dk
theorem AlI:AR dn J3 Tryz.f8 300 1 [] (J4 3 M [ES x,ES y,ES z] [false,true,false,true,true])=some ((true,true)::(false,false)::G8 x false (G8 y true []),[],.val false [.b false],[]):=dk
theorem AlJ:AR dn J3 Tryz.f8 300 1 [] (J4 3 M [ES x,ES y,ES z] [false,true,false,true,false,true,true])=some ((true,true)::(false,false)::G8 x false (G8 y false (G8 z true [])),[],.val false [.b false],[]):=dk
theorem AlK:AR dn J3 Tryz.f8 300 1 [] (J4 3 M [ES x,ES y,ES z] [false,true,false,true,false,true,false,false])=some ((true,true)::(false,false)::G8 x false (G8 y false (G8 z false jN)),[],.val false [.b true],[]):=dk
end
theorem P1 {β:Env} {b:Bool} {u:Value} (h:AL β (.val false [.b b]) u):AL β (Au b) u:=by
 obtain ⟨l1,l2,h1,h3,h4⟩:=h;exact ⟨l1,l2,⟨h1,rfl,trivial⟩,h3,h4⟩
theorem MZ {n M:Nat} {cs:List Ch} {p:List Bool} {c:dr} {b:Bool} (h:AR dn J3 Tryz.f8 300 1 [] (J4 n M cs p)=some (c,[],.val false [.b b],[])) (hc:AM c) (hw:V' Tryz.f8.ntmps (J4 n M cs p).s=true) :
  Ac dn 8 [AP 0 0 n M] [(0,some (Am cs))] 1 [] (Au b) [] :=
 BA (BV (S:=[]) trivial BJ Tryz.func8 dk dk h hw hc) fun _ _ q=>P1 q
theorem VT {n:Nat} (h:¬ n≤300):decide ((300:Int)<(n:Int))=true:=fu dl
theorem Ma {n:Nat} (h:n≤300):decide ((300:Int)<(n:Int))=false:=ga dl
theorem VU {n:Nat} {r:List Nat} (h:¬ n≤300):G7 (n::r)=false:=by
 have:Nat.ble n 300=false:=by cases e:Nat.ble n 300 with | false=>rfl | true=>exact absurd (f_ e) h
 show (Nat.ble n 300&&_)=false;rw [this];rfl
theorem VV {n:Nat} {r:List Nat} (h:n≤300):G7 (n::r)=G7 r:=by
 show (Nat.ble n 300&&_)=_;rw [gb h];rfl
theorem AlL (M:Nat):∀ {xs:List (Option Addr×Nat×Nat)},xs.length≤3→LJ (Yi xs)=true→Ac dn 8 [AP 0 0 xs.length M] [(0,some (Am (xs.map ES)))] 1 [] (Au (G7 (Yi xs))) []
 | [],_,_=>MZ (AlB M) ⟨rfl,rfl,rfl,rfl,trivial⟩ dk
 | [x],_,h=>by
  obtain ⟨h0,_⟩:=gk.1 h;show Ac _ _ _ _ _ _ (Au (G7 [x.2.1])) _;by_cases d0:x.2.1≤300
  ·rw [VV d0];exact MZ (AlD M x) ⟨rfl,rfl,Ad 3 ⟨h0,Ma d0,rfl,rfl,trivial⟩⟩ dk
  ·rw [VU d0];exact MZ (AlC M x) ⟨rfl,rfl,Ad 3 ⟨h0,VT d0,trivial⟩⟩ dk
 | [x,y],_,h=>by
  obtain ⟨h0,h⟩:=gk.1 h;obtain ⟨h1,_⟩:=gk.1 h;show Ac _ _ _ _ _ _ (Au (G7 [x.2.1,y.2.1])) _;by_cases d0:x.2.1≤300
  ·rw [VV d0];by_cases d1:y.2.1≤300
   ·rw [VV d1];exact MZ (AlG M x y) ⟨rfl,rfl,Ad 3 ⟨h0,Ma d0,Ad 3 ⟨h1,Ma d1,rfl,rfl,trivial⟩⟩⟩ dk
   ·rw [VU d1];exact MZ (AlF M x y) ⟨rfl,rfl,Ad 3 ⟨h0,Ma d0,Ad 3 ⟨h1,VT d1,trivial⟩⟩⟩ dk
  ·rw [VU d0];exact MZ (AlE M x y) ⟨rfl,rfl,Ad 3 ⟨h0,VT d0,trivial⟩⟩ dk
 | [x,y,z],_,h=>by
  obtain ⟨h0,h⟩:=gk.1 h;obtain ⟨h1,h⟩:=gk.1 h;obtain ⟨h2,_⟩:=gk.1 h;show Ac _ _ _ _ _ _ (Au (G7 [x.2.1,y.2.1,z.2.1])) _;by_cases d0:x.2.1≤300
  ·rw [VV d0];by_cases d1:y.2.1≤300
   ·rw [VV d1];by_cases d2:z.2.1≤300
    ·rw [VV d2];exact MZ (AlK M x y z) ⟨rfl,rfl,Ad 3 ⟨h0,Ma d0,Ad 3 ⟨h1,Ma d1,Ad 3 ⟨h2,Ma d2,rfl,rfl,trivial⟩⟩⟩⟩ dk
    ·rw [VU d2];exact MZ (AlJ M x y z) ⟨rfl,rfl,Ad 3 ⟨h0,Ma d0,Ad 3 ⟨h1,Ma d1,Ad 3 ⟨h2,VT d2,trivial⟩⟩⟩⟩ dk
   ·rw [VU d1];exact MZ (AlI M x y z) ⟨rfl,rfl,Ad 3 ⟨h0,Ma d0,Ad 3 ⟨h1,VT d1,trivial⟩⟩⟩ dk
  ·rw [VU d0];exact MZ (AlH M x y z) ⟨rfl,rfl,Ad 3 ⟨h0,VT d0,trivial⟩⟩ dk
 | _::_::_::_::_,hl,_=>absurd hl (by simp)
theorem AlM {n M:Nat} (h:AJ .i64 (n:Int)=true) (d:decide ((3:Int)<n)=true):Ac dn 8 [AP 0 0 n M] [] 1 [] (.val false [.b false]) [] :=
 BV (S:=[]) trivial BJ Tryz.func8 dk dk (AlA n M) dk ⟨h,d,trivial⟩
theorem AlN (xs:List (Option Addr×Nat×Nat)):(Yi xs).length=xs.length:=by unfold Yi;rw [jk]
theorem AlO:A' dn 8 fewSp:=by
 refine DC Tryz.func8 dk dk fun args H fr path r hs=>?_
 unfold fewSp at hs;split at hs;case h_3=>cases hs
 ·rename_i A rest;split at hs;case h_2=>cases hs
  rename_i K n hS;injection hs with hs;refine ⟨[K],1,0,[],_,_,_,_,hs.symm,fun β us w ha hg hc=>?_⟩
  obtain ⟨u1,us1,r1,ha,rfl⟩:=ha;obtain ⟨M,r1⟩:=EU hS r1;refine ⟨_,[],AlM hc.1 hc.2.1,dk,⟨u1,_,CJ dl rfl r1,ha,rfl⟩,⟨fun _ _ h=>by (cases h),fun _ _ _ _ _ h=>by (cases h),fun j B n hj=>?_⟩,fun j hj=>?_⟩
  ·unfold A3 at hj;split at hj
   ·exact hg.lt _ _ _ hj
   ·cases hj
  ·obtain ⟨l1,l2,h1,_⟩:=r1;match j,hj with
   | 0,_=>rcases h1 with ⟨_,_,q,_⟩ | ⟨q,_⟩ | ⟨q,_⟩<;>exact ⟨_,q⟩
 ·rename_i A rest;split at hs;case h_2=>cases hs
  rename_i K n hS;split at hs;case h_2=>cases hs
  rename_i ty cs o hk;split at hs;case h_2=>cases hs
  rename_i ns hns;injection hs with hs;refine ⟨[K],1,0,[],_,_,_,_,hs.symm,fun β us w ha hg hc=>?_⟩
  obtain ⟨u1,us1,r1,ha,rfl⟩:=ha;obtain ⟨M,r1⟩:=EU hS r1;obtain ⟨c1,c2,_⟩:=hc;obtain ⟨c1,c3⟩:=gk.1 c1;obtain ⟨l,q1,q2⟩:=ALG (hg.heap _ _ hk) (ALN hns)
  obtain ⟨xs,rfl,q3⟩:=ALM hns q1;have hn:n=xs.length:=(An.1 c1).trans (AlN xs)
  subst hn;refine ⟨_,_,AlL M (f_ c3) c2,dk,⟨u1,_,CJ dl rfl r1,ha,rfl⟩,MS (bs:=[Am (xs.map ES)]) hg fun j d hj=>?_,fun j hj=>?_⟩
  ·match j,hj with
   | 0,hj=>injection hj with hj;subst hj;exact ⟨rfl,q2 _ _ 0 (Ed (by show 0<1;decide)) (q3 _)⟩
  ·match j,hj with
   | 0,_=>exact CC (hg.heap _ _ hk)
def jO (k0:Nat):Heap→Bool
 | []=>true
 | (k,_)::r=>match Nat.ble k0 k with | true=>jO k0 r | false=>false
def Yj (s:ASpec) (args:List AV) (H:Heap) (k0:Nat) (path:List Bool):Option (dr×AV):=match s args H k0 path with
 | some r=>match jO k0 r.upd,r.path with
  | true,[]=>some (r.conds,r.val)
  | _,_=>none
 | none=>none
theorem ALO {k0:Nat}:∀ {H:Heap} {k:Nat} {y:Option Blk},jO k0 H=true→(k,y)∈H→k0≤k
 | [],_,_,_,h=>by cases h
 | (j,z)::r,k,y,h,hm=>by
  simp only [jO] at h;split at h
  ·rename_i hj;rcases gr.1 hm with e | hm
   ·injection e with e1 e2;subst e1;exact f_ hj
   ·exact ALO h hm
  ·cases h
theorem ALP {P:Program} {f:FuncId} {fn:Func} {s:ASpec} (hs:A' P f s) (hfn:P.funcs[f]? = some fn) (hb:fn.body.isSome=true) (hname:(fn.name=="runtime.NumGoroutine")=false) {args:List AV} {H:Heap} {k0:Nat} {path:List Bool} {c:dr} {v:AV}
  (h:Yj s args H k0 path=some (c,v)) (hc:AM c):Ac P f args H k0 [] v []:=by
 intro β us w ha hg hf;unfold Yj at h;split at h;case h_2=>cases h
 rename_i r hr;split at h;case h_2=>cases h
 rename_i hu hp;injection h with h;injection h with e1 e2;subst e1;subst e2;have key:=hs args H k0 path r β us w hr hc ha hg fun b h1 _=>hf b h1
 unfold Mn at key;have h1:fn.name≠"runtime.NumGoroutine":=by simpa using hname
 have h2:¬ fn.body=none:=by cases hq:fn.body<;>simp [hq] at hb ⊢
 have e:(callFunc f ⟨us⟩).run P w=.ok (.enter f ⟨us⟩) w:=by simp [callFunc,hfn,h1,h2]
 rw [e] at key;refine Calls.mono key ?_
 rintro e w' ⟨u,β',rfl,he⟩
 have no:∀ k y m B,(k,y)∈r.upd→β k≠some (.at_ B m):=fun k y m B hk hk2=>by
  rw [hf k (ALO hu hk)] at hk2;cases hk2
 refine ⟨u,β',rfl,he.val,⟨fun _ _ h=>by (cases h),fun _ _ _ _ _ h=>by (cases h),he.lt⟩,fun b X hb=>(he.new b X hb).imp id fun ⟨_,_,h3⟩ B m e=>(h3 B m e).imp id fun ⟨k,m',q1,q2⟩=>?_,he.ext,fun B hB _=>he.frame B hB fun k y n hk=>no k y n B hk,he.size,he.os,he.tape,he.output⟩
 exact absurd q2 (no k _ m' B q1)
noncomputable def jP (args:List AV) (H:Heap) (k0:Nat) (p:List Bool):=Yj (nT dn oEb1 Tryz.f26 900) args H k0 p
def jQ (r s:R FP12):Bool:=dq r.1.1.1 s.1.1.1&&(dq r.1.1.2 s.1.1.2&&(dq r.1.2.1.1 s.1.2.1.1&&(dq r.1.2.1.2 s.1.2.1.2&&(dq r.1.2.2.1 s.1.2.2.1&&(dq r.1.2.2.2 s.1.2.2.2&&(dq r.2.1.1 s.2.1.1&&(dq r.2.1.2 s.2.1.2&&(dq r.2.2.1.1 s.2.2.1.1&&(dq r.2.2.1.2 s.2.2.1.2&&(dq r.2.2.2.1 s.2.2.2.1&&dq r.2.2.2.2 s.2.2.2.2))))))))))
def LK (p:Pt FP):Pt FP:=Aj (DV p) (B8 p) (BE p)
noncomputable def DE (x:dp):Pt FP:=(EQ true x).1
noncomputable def DF (x:dp):Bool:=decide ((EQ true x).2=0)
noncomputable def P3 (x:dp):P2:=(GE true x).1
noncomputable def G9 (x:dp):Bool:=decide ((GE true x).2=0)
noncomputable def OD (s:ByteArray) (x:dp):P2:=Ru x (AA (LW s) 0 s.size)
abbrev Cnd:=dr
def E6 (q:Rw) (r:Cnd):Cnd:=(Nat.ble q.2.1 q.2.2.2.length,true)::(Nat.ble q.2.1 q.2.2.1,true)::(AJ .i64 (q.2.1:Int),true)::r
def IL (r:Cnd):Cnd:=(true,true)::(false,false)::r
noncomputable def keC (q:Rw) (r:Cnd):Cnd:=tt 3 (E6 q ((!DF (Ar q),false)::(BE (DE (Ar q)),false)::r))
def jS (q:Rw):Bool×Bool:=(Nat.ble (0+q.2.1) q.2.2.2.length,true)
def hhD (s:ByteArray) (q:Rw) (r:Cnd):Cnd:=jS q::(Nat.ble s.size (LW s).length,true)::(Nat.ble q.2.1 4398046511104,true)::(Nat.ble 1 s.size,true)::(Nat.ble s.size 255,true)::(Nat.ble s.size s.size,true)::r
noncomputable def iiC (p:Pt FP) (h:P2) (r:Cnd):Cnd:=(!BM (LK p),false)::(true,true)::(!CK (mo (en h)),false)::r
def bt:Nat→Nat→List Bool
 | 0,_=>[]
 | k+1,n=>Nat.beq (n % 2) 1::bt k (n / 2)
noncomputable def VW (p:Pt FP) (q:P2):R FP12:=en (lpO (mo ((DV p,B8 p,BE p):R (Pt FP))) (mo (en q)))
noncomputable def Yk (r:R FP12):R FP12:=en (fiO (mo r))
noncomputable def jT (a:R FP12):List (Pt FP×P2)→R FP12
 | []=>a
 | (p,h)::r=>jT (mu FP12 (mu FP12 o12 a) (VW p h)) r
noncomputable def jU (a:R FP12):List (Pt FP×P2)→R FP12
 | []=>a
 | (p,h)::r=>jU (mu FP12 a (Yk (VW p h))) r
noncomputable def jV (l:List (Pt FP×P2)) (s:P2):R FP12:=Yk (mu FP12 (mu FP12 o12 (jT o12 l)) (VW (Rg.neg (LK G1B)) s))
noncomputable def vqV (l:List (Pt FP×P2)) (s:P2):Bool:=jQ (jV l s) (en (YX (mo (jV l s)) (AI [])))
noncomputable def vqW (l:List (Pt FP×P2)) (s:P2):Bool:=jQ (jU o12 l) (Yk (VW G1B s))
def OE (k:Nat) (sg:Rw) (M M1:Nat) (s:ByteArray):List AV:=[AP 0 0 k M,AP 1 0 k M1,AP 2 0 sg.2.1 sg.2.2.1,.val false [.v (.string s)]]
def OF (rs1 rs2:List Rw) (sg:Rw):Heap:=M2 0 ([Am (I5 3 rs1),Am (I5 (3+J1 rs1) rs2)]++IK (sg::(rs1++rs2)))
noncomputable def VX (k:Nat) (rs1:List Rw) (sg:Rw) (rs2:List Rw) (M M1:Nat) (s:ByteArray) (p:List Bool):=jP (OE k sg M M1 s) (OF rs1 rs2 sg) (3+2*k) p
noncomputable def reC (s:ByteArray) (q h:Rw) (r:Cnd):Cnd:=tt 3 (E6 q ((DF (Ar q),true)::(!!BE (DE (Ar q)),false)::(true,true)::E6 q ((true,true)::hhD s h ((!BM (LK (DE (Ar q))),false)::(!CK (mo (en (OD s (Ar h)))),false)::r))))
noncomputable def VY (k:Nat) (rs1:List Rw) (sg:Rw) (rs2:List Rw) (M M1:Nat) (s:ByteArray) (p:List Bool):=Yj (A5 dn oEb1 Tryz.f27 900) (OE k sg M M1 s) (OF rs1 rs2 sg) (3+2*k) p
section
variable (M M1:Nat) (g:Rw) (s:ByteArray) (r0 q0:Rw)
theorem AlP:VX 1 [r0] g [q0] M M1 s (bt 4 12)=some (IL (tt 2 ((false,false)::tt 3 (E6 r0 ((!DF (Ar r0),true)::[])))),.val false [.b false]):=dk
theorem AlQ:VX 1 [r0] g [q0] M M1 s (bt 5 20)=some (IL (tt 2 ((false,false)::tt 3 (E6 r0 ((!DF (Ar r0),false)::(BE (DE (Ar r0)),true)::[])))),.val false [.b false]):=dk
theorem AlR:VX 1 [r0] g [q0] M M1 s (bt 7 68)=some (IL (tt 2 ((false,false)::(keC r0 (IL (E6 g ((!G9 (Ar g),true)::[])))))),.val false [.b false]):=dk
theorem AlS:VX 1 [r0] g [q0] M M1 s (bt 24 3328132)=some (IL (tt 2 ((false,false)::(keC r0 (IL (E6 g ((!G9 (Ar g),false)::tt 3 (jS q0::hhD s q0 (jS q0::IL ((false,false)::tt 6 ((false,false)::IL (tt 3 (iiC (DE (Ar r0)) (OD s (Ar q0)) (tt 6 ((false,false)::tt 2 (iiC (Rg.neg (LK G1B)) (P3 (Ar g)) (tt 6 ((false,false)::(false,false)::tt 2 ([])))))))))))))))))),Au (vqV [(DE (Ar r0),OD s (Ar q0))] (P3 (Ar g)))):=dk
end
theorem ALR (a b:FP12):jQ (en a) (en b)=decide (a=b):=by
 have h:jQ (en a) (en b)=(dq a.a.a.a.val b.a.a.a.val&&(dq a.a.a.b.val b.a.a.b.val&&(dq a.a.b.a.val b.a.b.a.val&&(dq a.a.b.b.val b.a.b.b.val&&(dq a.a.c.a.val b.a.c.a.val&&(dq a.a.c.b.val b.a.c.b.val&&(dq a.b.a.a.val b.b.a.a.val&&(dq a.b.a.b.val b.b.a.b.val&&(dq a.b.b.a.val b.b.b.a.val&&(dq a.b.b.b.val b.b.b.b.val&&(dq a.b.c.a.val b.b.c.a.val&&dq a.b.c.b.val b.b.c.b.val))))))))))):=rfl
 rw [h];simp only [MA];by_cases e:a=b
 ·subst e;simp
 ·rw [ga e];refine Bool.eq_false_iff.2 fun q=>?_
  simp only [gi,gc] at q;obtain ⟨e1,e2,e3,e4,e5,e6,e7,e8,e9,e10,e11,e12⟩:=q;exact e (Qx.ext (Kx.ext (Qx.ext e1 e2) (Qx.ext e3 e4) (Qx.ext e5 e6)) (Kx.ext (Qx.ext e7 e8) (Qx.ext e9 e10) (Qx.ext e11 e12)))
theorem AlT (p:Pt FP):(mo ((DV p,B8 p,BE p):R (Pt FP)):Pt FP)=p:=by
 cases p with
 | inf=>rfl
 | pt a b =>
  show sW (tf a.val) (tf b.val) false=.pt a b;rw [B7,B7];rfl
theorem Yl (p:Pt FP):LK p=p:=by
 cases p with
 | inf=>rfl
 | pt a b =>
  show Pt.pt (tf a.val) (tf b.val)=.pt a b;rw [B7,B7]
theorem jW (p:Pt FP) (q:P2):VW p q=en (DD p q):=by
 unfold VW;rw [AlT,mo_en,AKb]
theorem AAk (x:FP12):Yk (en x)=en (finF x):=by
 unfold Yk;rw [mo_en,AAX]
noncomputable def R9 (a:FP12):List (Pt FP×P2)→FP12
 | []=>a
 | (p,h)::r=>R9 (a*DD p h) r
noncomputable def I6 (a:FP12):List (Pt FP×P2)→FP12
 | []=>a
 | (p,h)::r=>I6 (a*finF (DD p h)) r
theorem ALS:∀ (l:List (Pt FP×P2)) (a:FP12),jT (en a) l=en (R9 a l)
 | [],_=>rfl
 | (p,h)::r,a=>by
  unfold jT R9;rw [jW];have e:mu FP12 (mu FP12 o12 (en a)) (en (DD p h))=en (a*DD p h):=by
   rw [R1];unfold mu;simp only [mo_en,Rg.one_mul]
  rw [e];exact ALS r _
theorem ALT:∀ (l:List (Pt FP×P2)) (a:FP12),jU (en a) l=en (I6 a l)
 | [],_=>rfl
 | (p,h)::r,a=>by
  unfold jU I6;rw [jW,AAk];have e:mu FP12 (en a) (en (finF (DD p h)))=en (a*finF (DD p h)):=by unfold mu;simp only [mo_en]
  rw [e];exact ALT r _
theorem ALU:∀ (l:List (Pt FP×P2)) (a:FP12),finF (R9 a l)=I6 (finF a) l
 | [],_=>rfl
 | (p,h)::r,a=>by
  unfold R9 I6;rw [ALU r,finF_mh.mul]
theorem AlU (l:List (Pt FP×P2)) (s:P2):jV l s=en (I6 1 l*finF (DD (Rg.neg G1B) s)):=by
 unfold jV;rw [Yl,R1,ALS,jW];have e:mu FP12 (mu FP12 (en (1:FP12)) (en (R9 1 l))) (en (DD (Rg.neg G1B) s))=en (R9 1 l*DD (Rg.neg G1B) s):=by unfold mu;simp only [mo_en,Rg.one_mul]
 rw [e,AAk,finF_mh.mul,ALU,finF_mh.one]
theorem ALV {n:Nat} (h:Nat.beq (tf n).val 0=false):(tf n:FP)≠0:=fun e=>by
 have e1:(tf n).val=0:=gh Fin.val e
 rw [e1] at h;cases h
theorem AlV:(tf gX:FP)≠0:=ALV dk
theorem AlW:(tf gY:FP)≠0:=ALV dk
theorem AlX (l:List (Pt FP×P2)) (s:P2):vqW l s=decide (I6 1 l=finF (DD G1B s)):=by
 unfold vqW;rw [R1,ALT,jW,AAk,ALR]
theorem AlY:A6 G1B=true:=(gk.1 XZ).1
theorem AlZ {s:P2} (h:CK s=true):G6 G1B s=true:=by
 unfold G6;rw [AlY,(gk.1 h).1];rfl
theorem Ala (l:List (Pt FP×P2)) {s:P2} (h:CK s=true):vqV l s=decide (I6 1 l=finF (DD G1B s)):=by
 unfold vqV;rw [AlU,mo_en,YY,ALR];have e:∀ x:FP12,pw x (AI [])=1:=fun _=>rfl
 rw [e];have hG:G1B=.pt (tf gX) (tf gY):=rfl
 have hB:=AlZ h;rw [hG] at hB ⊢;have:=Ak7 AlV AlW hB (I6 1 l)
 by_cases q:I6 1 l=finF (DD (.pt (tf gX) (tf gY)) s)
 ·rw [fu q,fu (this.2 q)]
 ·rw [ga q,ga fun h=>q (this.1 h)]
noncomputable def OG:List (dp)→Bool
 | []=>true
 | x::r=>(DF x&&!BE (DE x))&&OG r
noncomputable def VZ (t:ByteArray):List (dp)→List (dp)→List (Pt FP×P2)
 | x::r,y::q=>(DE x,OD t y)::VZ t r q
 | _,_=>[]
noncomputable def jY (L1 L2:List (dp)) (s:dp) (t:ByteArray):Bool:=match L1 with
 | []=>false
 | _=>decide (L1.length=L2.length)&&(G9 s&&(OG L1&&decide (I6 1 (VZ t L1 L2)=finF (DD G1B (P3 s)))))
theorem ALW:∃ f:List (dp)→List (dp)→dp→ByteArray→Bool,∀ a b s t,f a b s t=jY a b s t:=⟨_,fun _ _ _ _=>rfl⟩
noncomputable def J5:List (dp)→List (dp)→dp→ByteArray→Bool:=Classical.choose ALW
theorem ALX (a b:List (dp)) (s:dp) (t:ByteArray):J5 a b s t=jY a b s t:=ij ALW a b s t
section
variable (M M1:Nat) (g:Rw) (s:ByteArray) (r0 q0:Rw)
theorem Alb:VY 1 [r0] g [q0] M M1 s (bt 3 4)=some (IL (tt 2 ((false,false)::E6 g ((!G9 (Ar g),true)::[]))),.val false [.b false]):=dk
theorem Alc:VY 1 [r0] g [q0] M M1 s (bt 5 8)=some (IL (tt 2 ((false,false)::E6 g ((!G9 (Ar g),false)::tt 3 (E6 r0 ((DF (Ar r0),false)::[]))))),.val false [.b false]):=dk
theorem Ald:VY 1 [r0] g [q0] M M1 s (bt 6 56)=some (IL (tt 2 ((false,false)::E6 g ((!G9 (Ar g),false)::tt 3 (E6 r0 ((DF (Ar r0),true)::(!!BE (DE (Ar r0)),true)::[]))))),.val false [.b false]):=dk
theorem Ale:VY 1 [r0] g [q0] M M1 s (bt 11 24)=some (IL (tt 2 ((false,false)::E6 g ((!G9 (Ar g),false)::reC s r0 q0 ((((IL ((!BM (LK G1B),false)::(!CK (mo (en (P3 (Ar g)))),false)::[])))))))),Au (vqW [(DE (Ar r0),OD s (Ar q0))] (P3 (Ar g)))):=dk
end
section
variable {r:Cnd} {q h g:Rw} {s:ByteArray} {p:Pt FP} {t:P2}
theorem Ho (hb:C6 q=true) (hr:AM r):AM (E6 q r):=by
 obtain ⟨b1,b2,b3,b4⟩:=jJ hb;exact ⟨gb b1,gb b2,b3,hr⟩
theorem I7 (hr:AM r):AM (IL r):=⟨rfl,rfl,hr⟩
theorem ALY (hb:C6 q=true) (h1:(!DF (Ar q))=false) (h2:BE (DE (Ar q))=false) (hr:AM r):AM (keC q r):=Ad 3 (Ho hb ⟨h1,h2,hr⟩)
theorem ALZ (hb:C6 q=true) (hr:AM r):AM (jS q::r):=by
 obtain ⟨b1,_⟩:=jJ hb;exact ⟨gb dl,hr⟩
theorem ALa (hb:C6 q=true) (ht:G4 s=true) (hr:AM r):AM (hhD s q r):=by
 obtain ⟨b1,b2,b3,b4⟩:=jJ hb;obtain ⟨t1,t2,t3⟩:=Ah2 ht;exact ⟨gb dl,gb dl,gb b4,gb t1,gb t2,gb (gd _),hr⟩
theorem ALb (h1:BM p=true) (h2:CK t=true) (hr:AM r):AM (iiC p t r):=by
 refine ⟨?_,rfl,?_,hr⟩
 ·show (!BM (LK p))=false;rw [Yl,h1];rfl
 ·show (!CK (mo (en t)))=false;rw [mo_en,h2];rfl
theorem ALc (s:ByteArray) (x:dp):CK (OD s x)=true:=by
 obtain ⟨h1,h2⟩:=AiW x (AA (LW s) 0 s.size)
 unfold CK OD;rw [(KZ _).2 h1,h2];rfl
theorem Alf:BM (Rg.neg (LK G1B))=true:=by rw [Yl];exact (AZm _).trans XZ
theorem Alg (hb:C6 q=true) (hb':C6 h=true) (ht:G4 s=true) (h1:DF (Ar q)=true) (h2:(!!BE (DE (Ar q)))=false) (h3:BM (DE (Ar q))=true) (hr:AM r):AM (reC s q h r):=by
 refine Ad 3 (Ho hb ⟨h1,h2,rfl,Ho hb ⟨rfl,ALa hb' ht ⟨?_,?_,hr⟩⟩⟩)
 ·show (!BM (LK _))=false;rw [Yl,h3];rfl
 ·show (!CK (mo (en _)))=false;rw [mo_en,ALc];rfl
theorem Alh (h2:CK t=true) (hr:AM r):AM ((!BM (LK G1B),false)::(!CK (mo (en t)),false)::r):=by
 refine ⟨?_,?_,hr⟩
 ·show (!BM (LK _))=false;rw [Yl,XZ];rfl
 ·show (!CK (mo (en t)))=false;rw [mo_en,h2];rfl
end
def IM (r:Rw):Prop:=∀ d∈Ar r,0≤d∧d<256
theorem ALd {r:Rw} (hb:IM r) (h:DF (Ar r)=true):BM (DE (Ar r))=true:=(AYx hb (gv h)).1
theorem ALe {r:Rw} (hb:IM r) (h:G9 (Ar r)=true):CK (P3 (Ar r))=true:=(AZh hb (gv h)).1
theorem jZ {args:List AV} {H:Heap} {k0:Nat} {p:List Bool} {c:Cnd} {v:AV} (h:jP args H k0 p=some (c,v)) (hc:AM c):Ac dn 26 args H k0 [] v [] :=
 ALP (ANg ALB AB Tryz.func26 dk dk 900) Tryz.func26 dk dk h hc
noncomputable def rvR (args:List AV) (H:Heap) (k0:Nat) (p:List Bool):=Yj (A5 dn oEb1 Tryz.f27 900) args H k0 p
theorem j4 {args:List AV} {H:Heap} {k0:Nat} {p:List Bool} {c:Cnd} {v:AV} (h:rvR args H k0 p=some (c,v)) (hc:AM c):Ac dn 27 args H k0 [] v [] :=
 ALP (A7 ALB AB Tryz.func27 dk dk 900) Tryz.func27 dk dk h hc
section
variable {M M1:Nat} {g:Rw} {s:ByteArray} {p:List Bool} {c:Cnd} {v:AV} {b:Bool}
theorem AAm {k:Nat} {l1 l2:List Rw} (h:VX k l1 g l2 M M1 s p=some (c,.val false [.b false])) (hc:AM c) (hv:b=false):Ac dn 26 (OE k g M M1 s) (OF l1 l2 g) (3+2*k) [] (Au b) []:=by
 subst hv;exact BA (jZ h hc) fun _ _ q=>P1 q
theorem Ali {k:Nat} {l1 l2:List Rw} {b':Bool} (h:VX k l1 g l2 M M1 s p=some (c,Au b')) (hc:AM c) (hv:b=b'):Ac dn 26 (OE k g M M1 s) (OF l1 l2 g) (3+2*k) [] (Au b) []:=by
 subst hv;exact jZ h hc
theorem AAn {k:Nat} {l1 l2:List Rw} (h:VY k l1 g l2 M M1 s p=some (c,.val false [.b false])) (hc:AM c) (hv:b=false):Ac dn 27 (OE k g M M1 s) (OF l1 l2 g) (3+2*k) [] (Au b) []:=by
 subst hv;exact BA (j4 h hc) fun _ _ q=>P1 q
theorem Alj {k:Nat} {l1 l2:List Rw} {b':Bool} (h:VY k l1 g l2 M M1 s p=some (c,Au b')) (hc:AM c) (hv:b=b'):Ac dn 27 (OE k g M M1 s) (OF l1 l2 g) (3+2*k) [] (Au b) []:=by
 subst hv;exact j4 h hc
end
theorem ALf {x:dp} {l:List (dp)} (h:DF x=false):OG (x::l)=false:=by
 show ((DF x&&_)&&_)=false;rw [h];rfl
theorem ALg {x:dp} {l:List (dp)} (h:BE (DE x)=true):OG (x::l)=false:=by
 show ((DF x&&!BE (DE x))&&_)=false;rw [h];cases DF x<;>rfl
theorem ALh {x:dp} {l:List (dp)} (h1:DF x=true) (h2:BE (DE x)=false):OG (x::l)=OG l:=by
 show ((DF x&&!BE (DE x))&&_)=_;rw [h1,h2];rfl
theorem ALi:OG []=true:=rfl
theorem ALj (x:dp) (r L2:List (dp)) (s:dp) (t:ByteArray):jY (x::r) L2 s t=(decide ((x::r).length=L2.length)&&(G9 s&&(OG (x::r)&&decide (I6 1 (VZ t (x::r) L2)=finF (DD G1B (P3 s)))))):=rfl
theorem Alk (t:ByteArray) (x y:dp) (r q:List (dp)):VZ t (x::r) (y::q)=(DE x,OD t y)::VZ t r q:=rfl
theorem All (t:ByteArray):VZ t [] []=[]:=rfl
theorem j5 (a b:Bool):(a&&(false&&b))=false:=by cases a<;>rfl
theorem ALk (b:Bool):(true&&(true&&b))=b:=rfl
theorem P4 {g:dp} {s:ByteArray} (x0 y0:dp):J5 [x0] [y0] g s=(G9 g&&(OG [x0]&&decide (I6 1 [(DE x0,OD s y0)]=finF (DD G1B (P3 g))))):=by
 have e:decide (([x0]:List (dp)).length=([y0]:List (dp)).length)=true:=fu rfl
 rw [ALX,ALj,e,jc,Alk,All]
theorem Alm (M M1:Nat) {g:Rw} {s:ByteArray} {r0 q0:Rw} (br0:C6 r0=true) (yr0:IM r0) (bq0:C6 q0=true) (_yq0:IM q0) (bg:C6 g=true) (yg:IM g) (ht:G4 s=true):Ac dn 26 (OE 1 g M M1 s) (OF [r0] [q0] g) (3+2*1) [] (Au (J5 [Ar r0] [Ar q0] (Ar g) s)) []:=by
 cases k0:DF (Ar r0) with
 | false =>
  have n0:(!DF (Ar r0))=true:=by rw [k0];rfl
  exact AAm (AlP ..) (I7 (Ad 2 ⟨rfl,(Ad 3 (Ho br0 ⟨n0,trivial⟩))⟩)) (by rw [P4,ALf k0];exact j5 _ _)
 | true =>
  have n0:(!DF (Ar r0))=false:=by rw [k0];rfl
  cases i0:BE (DE (Ar r0)) with
  | true =>
   have j0:(!!BE (DE (Ar r0)))=true:=by rw [i0];rfl
   exact AAm (AlQ ..) (I7 (Ad 2 ⟨rfl,(Ad 3 (Ho br0 ⟨n0,⟨i0,trivial⟩⟩))⟩)) (by rw [P4,ALg i0];exact j5 _ _)
  | false =>
   have j0:(!!BE (DE (Ar r0)))=false:=by rw [i0];rfl
   cases m0:G9 (Ar g) with
   | false =>
    have m1:(!G9 (Ar g))=true:=by rw [m0];rfl
    exact AAm (AlR ..) (I7 (Ad 2 ⟨rfl,(ALY br0 n0 i0 (I7 (Ho bg ⟨m1,trivial⟩)))⟩)) (by rw [P4,m0];rfl)
   | true =>
    have m1:(!G9 (Ar g))=false:=by rw [m0];rfl
    have m2:=ALe yg m0;exact Ali (AlS ..) (I7 (Ad 2 ⟨rfl,(ALY br0 n0 i0 (I7 (Ho bg ⟨m1,(Ad 3 (ALZ bq0 (ALa bq0 ht (ALZ bq0 (I7 ⟨rfl,(Ad 6 ⟨rfl,(I7 (Ad 3 (ALb (ALd yr0 k0) (ALc _ _) (Ad 6 ⟨rfl,(Ad 2 (ALb Alf m2 (Ad 6 ⟨rfl,⟨rfl,(Ad 2 trivial)⟩⟩)))⟩))))⟩)⟩)))))⟩)))⟩)) (by rw [Ala _ m2,P4,m0,ALh k0 i0,ALi];exact ALk _)
theorem Aln (M M1:Nat) {g:Rw} {s:ByteArray} {r0 q0:Rw} (br0:C6 r0=true) (yr0:IM r0) (bq0:C6 q0=true) (_yq0:IM q0) (bg:C6 g=true) (yg:IM g) (ht:G4 s=true):Ac dn 27 (OE 1 g M M1 s) (OF [r0] [q0] g) (3+2*1) [] (Au (J5 [Ar r0] [Ar q0] (Ar g) s)) []:=by
 cases m0:G9 (Ar g) with
 | false =>
  have m1:(!G9 (Ar g))=true:=by rw [m0];rfl
  exact AAn (Alb ..) (I7 (Ad 2 ⟨rfl,(Ho bg ⟨m1,trivial⟩)⟩)) (by rw [P4,m0];rfl)
 | true =>
  have m1:(!G9 (Ar g))=false:=by rw [m0];rfl
  have m2:=ALe yg m0;cases k0:DF (Ar r0) with
  | false =>
   have n0:(!DF (Ar r0))=true:=by rw [k0];rfl
   exact AAn (Alc ..) (I7 (Ad 2 ⟨rfl,(Ho bg ⟨m1,(Ad 3 (Ho br0 ⟨k0,trivial⟩))⟩)⟩)) (by rw [P4,ALf k0];exact j5 _ _)
  | true =>
   have n0:(!DF (Ar r0))=false:=by rw [k0];rfl
   cases i0:BE (DE (Ar r0)) with
   | true =>
    have j0:(!!BE (DE (Ar r0)))=true:=by rw [i0];rfl
    exact AAn (Ald ..) (I7 (Ad 2 ⟨rfl,(Ho bg ⟨m1,(Ad 3 (Ho br0 ⟨k0,⟨j0,trivial⟩⟩))⟩)⟩)) (by rw [P4,ALg i0];exact j5 _ _)
   | false =>
    have j0:(!!BE (DE (Ar r0)))=false:=by rw [i0];rfl
    exact Alj (Ale ..) (I7 (Ad 2 ⟨rfl,(Ho bg ⟨m1,(Alg br0 bq0 ht k0 j0 (ALd yr0 k0) (I7 (Alh m2 trivial)))⟩)⟩)) (by rw [AlX,P4,m0,ALh k0 i0,ALi];exact ALk _)
theorem ALl {β:Env} {H:Heap} {w:World} {c:Ch} {r:Rw} (hg:Ex.Good β H w) (h:rowAt H c=some r):IM r:=by
 unfold rowAt at h;split at h;case h_2=>cases h
 rename_i k n m hS;split at h;case h_2=>cases h
 rename_i ty cs o hk;split at h;case h_2=>cases h
 rename_i xs hx;injection h with h;subst h;obtain ⟨g1,_,_⟩:=ED hg hk hx;exact C3 g1
def AAo (L:List (dp)):Prop:=∀ x∈L,∀ d∈x,0≤d∧d<256
theorem ALm {β:Env} {H:Heap} {w:World} (hg:Ex.Good β H w):∀ {cs:List Ch} {rs:List Rw},Pz H cs=some rs→AAo (EA rs)
 | [],rs,h=>by injection h with h;subst h;intro x hx;cases hx
 | c::cs,rs,h=>by
  simp only [Pz] at h;split at h;case h_2=>cases h
  rename_i x rl hx hrl;injection h with h;subst h;intro y hy;rcases gr.1 hy with rfl | hy
  ·exact ALl hg hx
  ·exact ALm hg hrl y hy
theorem ALn {β:Env} {H:Heap} {w:World} {A:AV} {K n:Nat} {rs:List Rw} (hg:Ex.Good β H w) (h:P0 H A=some (K,n,rs)):AAo (EA rs):=by
 unfold P0 at h;split at h;case h_2=>cases h
 split at h;case h_2=>cases h
 split at h;case h_2=>cases h
 rename_i rl hrl;injection h with h;injection h with e1 h;injection h with e2 e3;subst e3;exact ALm hg hrl
theorem ALo {rs:List Rw} (h:AAo (EA rs)):∀ r∈rs,IM r:=by
 induction rs with
 | nil=>intro r hr;cases hr
 | cons x l ih =>
  intro r hr;rcases gr.1 hr with rfl | hr
  ·exact h _ (ni ..)
  ·exact ih (fun y hy=>h y (k_ _ hy)) r hr
def AAp (F:FuncId):Prop:=∀ (M M1:Nat) (g:Rw) (s:ByteArray) (l1 l2:List Rw),1≤l1.length→l1.length≤1→l2.length=l1.length→E5 l1=true→E5 l2=true→C6 g=true→(∀ r∈l1,IM r)→(∀ r∈l2,IM r)→IM g→G4 s=true →
 Ac dn F (OE l1.length g M M1 s) (OF l1 l2 g) (3+2*l1.length) [] (Au (J5 (EA l1) (EA l2) (Ar g) s)) []
theorem Alo:AAp 26
 | M,M1,g,s,[r0],[q0],_,_,_,b1,b2,bg,y1,y2,yg,ht=>Alm M M1 (Yg b1 (by simp)) (y1 _ (by simp)) (Yg b2 (by simp)) (y2 _ (by simp)) bg yg ht
theorem Alp:AAp 27
 | M,M1,g,s,[r0],[q0],_,_,_,b1,b2,bg,y1,y2,yg,ht=>Aln M M1 (Yg b1 (by simp)) (y1 _ (by simp)) (Yg b2 (by simp)) (y2 _ (by simp)) bg yg ht
section
variable (n M n' M1 g gm:Nat) (s:ByteArray)
def Ym:List AV:=[AP 0 0 n M,AP 1 0 n' M1,AP 2 0 g gm,.val false [.v (.string s)]]
def noC:Cnd:=[(AJ .i64 (n:Int),true),(decide ((n:Int)=0),false),(AJ .i64 (n:Int),true),(AJ .i64 (n':Int),true),(!decide ((n:Int)=(n':Int)),true)]
theorem Alq:jP (Ym n M n' M1 g gm s) [] 3 dw=some ([(AJ .i64 (n:Int),true),(decide ((n:Int)=0),true)],.val false [.b false]):=dk
theorem Alr:jP (Ym n M n' M1 g gm s) [] 3 dz=some (noC n n',.val false [.b false]):=dk
theorem Als:rvR (Ym n M n' M1 g gm s) [] 3 dw=some ([(AJ .i64 (n:Int),true),(decide ((n:Int)=0),true)],.val false [.b false]):=dk
theorem Alt:rvR (Ym n M n' M1 g gm s) [] 3 dz=some (noC n n',.val false [.b false]):=dk
end
def AAq (F:FuncId):Prop:=∀ (n M n' M1 g gm:Nat) (s:ByteArray),AJ .i64 (n:Int)=true→AJ .i64 (n':Int)=true→(n=0∨n≠n')→Ac dn F (Ym n M n' M1 g gm s) [] 3 [] (Au false) []
theorem Alu:AAq 26:=fun n M n' M1 g gm s h h' hn=>by
 by_cases h0:n=0
 ·exact BA (jZ (Alq n M n' M1 g gm s) ⟨h,fu dl,trivial⟩) fun _ _ q=>P1 q
 ·exact BA (jZ (Alr n M n' M1 g gm s) ⟨h,ga dl,h,h',by rw [ga dl];rfl,trivial⟩) fun _ _ q=>P1 q
theorem Alv:AAq 27:=fun n M n' M1 g gm s h h' hn=>by
 by_cases h0:n=0
 ·exact BA (j4 (Als n M n' M1 g gm s) ⟨h,fu dl,trivial⟩) fun _ _ q=>P1 q
 ·exact BA (j4 (Alt n M n' M1 g gm s) ⟨h,ga dl,h,h',by rw [ga dl];rfl,trivial⟩) fun _ _ q=>P1 q
theorem AAr:∀ l:List Rw,(EA l).length=l.length
 | []=>rfl
 | _::l=>by rw [EA,ii,AAr l,ii]
theorem Alw {l1 l2:List Rw} {g:dp} {s:ByteArray} (h:l1.length=0∨l1.length≠l2.length):J5 (EA l1) (EA l2) g s=false:=by
 rw [ALX];cases l1 with
 | nil=>rfl
 | cons x l =>
  have e:decide ((Ar x::EA l).length=(EA l2).length)=false:=ga fun e=>by
   rw [ii,AAr,AAr] at e;rcases h with h | h
   ·simp at h
   ·exact h (by rw [ii];exact e)
  show jY (Ar x::EA l) _ _ _=false;rw [ALj,e,kr]
noncomputable def alSp:ASpec:=fun args H fr path=>match args with
 | [P,Q,.val false [c],.val false [.v (.string t)]]=>match P0 H P,P0 H Q,rowAt H c with
  | some (K1,n1,l1),some (K2,n2,l2),some g=>match Nat.beq n1 (J1 l1)&&Nat.beq n2 (J1 l2),Nat.beq n1 n2&&(Nat.ble 1 n1&&Nat.ble n1 1) with
   | true,true=>some (BI ([K1,K2]++DX (g::(l1++l2))) (3+2*n1) fr 0 [] (Au (J5 (EA l1) (EA l2) (Ar g) t)) [] [(E5 (g::(l1++l2))&&G4 t,true)] path)
   | true,false=>some (BI [K1,K2,g.1] 3 fr 0 [] (Au (J5 (EA l1) (EA l2) (Ar g) t)) [] [(AJ .i64 (n1:Int)&&(AJ .i64 (n2:Int)&&(Nat.beq n1 0||!Nat.beq n1 n2)),true),(C6 g,true)] path)
   | _,_=>none
  | _,_,_=>none
 | _=>none
theorem ALq:∀ {a b:List Rw},E5 (a++b)=true→E5 a=true∧E5 b=true
 | [],_,h=>⟨rfl,h⟩
 | x::a,b,h=>by
  obtain ⟨h1,h2⟩:=gk.1 h;obtain ⟨h3,h4⟩:=ALq h2;exact ⟨gk.2 ⟨h1,h3⟩,h4⟩
theorem AAs:∀ a b:List Rw,DX (a++b)=DX a++DX b
 | [],_=>rfl
 | x::a,b=>by rw [kx,DX,AAs a b];rfl
theorem ALr {F:FuncId} {fn:Func} (hfn:dn.funcs[F]? = some fn) (hb:fn.body.isSome=true) (hname:(fn.name=="runtime.NumGoroutine")=false) (h1:AAp F) (h2:AAq F):A' dn F alSp:=by
 refine DC hfn hb hname fun args H fr path r hs=>?_
 unfold alSp at hs;split at hs;case h_2=>cases hs
 rename_i P Q c t;split at hs;case h_2=>cases hs
 rename_i K1 n1 l1 K2 n2 l2 g hP hQ hG;split at hs;case h_3=>cases hs
 ·rename_i hn hk;injection hs with hs;refine ⟨[K1,K2]++DX (g::(l1++l2)),3+2*n1,0,[],_,_,_,_,hs.symm,fun β us w ha hg hc=>?_⟩
  obtain ⟨u1,us1,a1,⟨u2,us2,a2,⟨u3,us3,a3,⟨u4,us4,a4,ha,rfl⟩,rfl⟩,rfl⟩,rfl⟩:=ha;obtain ⟨c1,ct⟩:=gk.1 hc.1;obtain ⟨cg,c1⟩:=gk.1 c1;obtain ⟨cb1,cb2⟩:=ALq c1;obtain ⟨e1,e2⟩:=gk.1 hn;obtain ⟨e3,e4⟩:=gk.1 hk;obtain ⟨e4,e5⟩:=gk.1 e4;have e1:=An.1 e1;have e2:=An.1 e2;have e3:=An.1 e3;have e4:=f_ e4;have e5:=f_ e5;rw [jI] at e1 e2;obtain ⟨M,r1,q1,q2,q3,q4,q5,q6,q7⟩:=ALK hg hP cb1 a1;obtain ⟨M1,r2,p1,p2,p3,p4,p5,p6,p7⟩:=ALK hg hQ cb2 a2;obtain ⟨m,g1,g2,g3⟩:=jK hg hG cg (Aw a3)
  have L1:=ALL q2;have L2:=ALL p2;have hl1:r1.length=n1:=by rw [L1,e1]
  have hl2:r2.length=n1:=by rw [L2,← e2,e3]
  subst hl1;obtain ⟨gg,hgg⟩:∃ gg:Rw,gg=(g.1,g.2.1,m,g.2.2.2):=⟨_,rfl⟩
  have hw:Ar gg=Ar g:=by rw [hgg];rfl
  have hk1:gg.1=g.1:=by rw [hgg]
  rw [← hgg] at g1 g3;have hK:DX (g::(l1++l2))=DX (gg::(r1++r2)):=by rw [DX,DX,AAs,AAs,q3,p3,hk1]
  have hfs:∀ r∈gg::(r1++r2),VQ β w r:=fun r hr=>by
   rcases gr.1 hr with rfl | hr
   ·exact g3
   ·rcases gl.1 hr with hr | hr
    ·exact q4 r hr
    ·exact p4 r hr
  have hlen:([Am (I5 3 r1),Am (I5 (3+J1 r1) r2)]++IK (gg::(r1++r2))).length=3+2*r1.length:=by
   rw [ib,jL];simp only [ii,ib,List.length_nil,hl2];omega
  have env:∀ i r,(gg::(r1++r2))[i]? = some r→A3 β ([K1,K2]++DX (gg::(r1++r2))) (3+2*r1.length) (2+i)=β r.1:=fun i r hi=>by
   have:=ALJ (β:=β) (hs:=[K1,K2]) (hb:=[Am (I5 3 r1),Am (I5 (3+J1 r1) r2)]) rfl hi
   rwa [hlen] at this
  have ev1:∀ i r,r1[i]? = some r→A3 β ([K1,K2]++DX (gg::(r1++r2))) (3+2*r1.length) (3+i)=β r.1:=fun i r hi=>by
   have hlt:i<r1.length:=by
    rcases gt i r1.length with q | q
    ·exact q
    ·rw [jw q] at hi;cases hi
   have:=env (i+1) r (by rw [List.getElem?_cons_succ,li hlt];exact hi)
   rwa [show 2+(i+1)=3+i by omega] at this
  have JR:∀ i r,r2[i]? = some r→A3 β ([K1,K2]++DX (gg::(r1++r2))) (3+2*r1.length) (3+J1 r1+i)=β r.1:=fun i r hi=>by
   have:=env (r1.length+i+1) r (by rw [List.getElem?_cons_succ,ow dl,show r1.length+i-r1.length=i by omega];exact hi)
   rwa [show 2+(r1.length+i+1)=3+J1 r1+i by rw [jI];omega] at this
  have k0:A3 β ([K1,K2]++DX (gg::(r1++r2))) (3+2*r1.length) 0=β K1:=Ed dl
  have k1:A3 β ([K1,K2]++DX (gg::(r1++r2))) (3+2*r1.length) 1=β K2:=Ed dl
  have kg:A3 β ([K1,K2]++DX (gg::(r1++r2))) (3+2*r1.length) 2=β gg.1:=env 0 gg rfl
  have p6':∀ (β':Env) (j:Nat),β' j=β K2→AL β' (AP j 0 r1.length M1) u2:=by rw [e3];exact p6
  have can:=h1 M M1 gg t r1 r2 e4 e5 hl2 q1 p1 g1 (ALo (by rw [q2];exact ALn hg hP)) (ALo (by rw [p2];exact ALn hg hQ)) (by unfold IM;rw [hw];exact ALl hg hG) ct
  rw [q2,p2,hw] at can;rw [hK];refine ⟨_,_,can,dk,⟨u1,_,q6 _ 0 k0,⟨u2,_,p6' _ 1 k1,⟨u3,_,?_,⟨u4,_,LZ rfl a4,ha,rfl⟩,rfl⟩,rfl⟩,rfl⟩,?_,?_⟩
  ·exact Aq (VR (k:=gg.1) kg (by rw [hgg];exact g2))
  ·have:=Ak9 (hs:=[K1,K2]) (hb:=[Am (I5 3 r1),Am (I5 (3+J1 r1) r2)]) hg rfl hfs fun j d hj=>?_
   ·rw [hlen] at this;exact this
   ·rw [hlen];match j,hj with
    | 0,hj=>injection hj with hj;subst hj;exact ⟨rfl,q7 _ 3 0 k0 ev1⟩
    | 1,hj=>injection hj with hj;subst hj;exact ⟨rfl,p7 _ _ 1 k1 JR⟩
  ·have:=Ak_ (hs:=[K1,K2]) (hb:=[Am (I5 3 r1),Am (I5 (3+J1 r1) r2)]) rfl hfs fun j hj=>?_
   ·rw [hlen] at this;exact this
   ·match j,hj with
    | 0,_=>exact q5
    | 1,_=>exact p5
 ·rename_i hn hk;injection hs with hs;refine ⟨[K1,K2,g.1],3,0,[],_,_,_,_,hs.symm,fun β us w ha hg hc=>?_⟩
  obtain ⟨u1,us1,a1,⟨u2,us2,a2,⟨u3,us3,a3,⟨u4,us4,a4,ha,rfl⟩,rfl⟩,rfl⟩,rfl⟩:=ha;obtain ⟨c1,cg,_⟩:=hc;obtain ⟨b1,c1⟩:=gk.1 c1;obtain ⟨b2,c1⟩:=gk.1 c1;obtain ⟨e1,e2⟩:=gk.1 hn;have e1:=An.1 e1;have e2:=An.1 e2;rw [jI] at e1 e2;have hno:n1=0∨n1≠n2:=by
   rcases Bool.or_eq_true_iff.1 c1 with q | q
   ·exact .inl (An.1 q)
   ·exact .inr fun e=>by rw [An.2 e] at q;cases q
  obtain ⟨m,g1,g2,g3⟩:=jK hg hG cg (Aw a3)
  have rowsK:∀ {A:AV} {K n:Nat} {l:List Rw} {u:Value},P0 H A=some (K,n,l)→AL β A u→(∃ X,β K=some X)∧∃ M,∀ (β':Env) (j:Nat),β' j=β K→AL β' (AP j 0 n M) u:=by
   intro A K n l u hA hr;unfold P0 at hA;split at hA;case h_2=>cases hA
   rename_i K' n' hS;split at hA;case h_2=>cases hA
   rename_i ty cs o hk';split at hA;case h_2=>cases hA
   injection hA with hA;injection hA with f1 hA;injection hA with f2 f3;subst f1;subst f2;obtain ⟨M,x1,x2,y1,y2,y3⟩:=EU hS hr;exact ⟨CC (hg.heap _ _ hk'),M,fun β' j e=>⟨x1,x2,VR e y1,y2,y3⟩⟩
  obtain ⟨d1,M,v1⟩:=rowsK hP a1;obtain ⟨d2,M1,v2⟩:=rowsK hQ a2;have can:=h2 n1 M n2 M1 g.2.1 m t b1 b2 hno;rw [Alw (l1:=l1) (l2:=l2) (by rw [← e1,← e2];exact hno)]
  refine ⟨_,_,can,dk,⟨u1,_,v1 _ 0 (Ed dl),⟨u2,_,v2 _ 1 (Ed dl),⟨u3,_,Aq (VR (Ed dl) g2),⟨u4,_,LZ rfl a4,ha,rfl⟩,rfl⟩,rfl⟩,rfl⟩,⟨fun _ _ h=>by (cases h),fun _ _ _ _ _ h=>by (cases h),fun j B n hj=>?_⟩,fun j hj=>?_⟩
  ·unfold A3 at hj;split at hj
   ·exact hg.lt _ _ _ hj
   ·cases hj
  ·match j,hj with
   | 0,_=>exact d1
   | 1,_=>exact d2
   | 2,_=>exact g3.1
section
variable (n m:Nat) (xs:dp)
noncomputable def R_ (f:Func) (p:List Bool):ASt:=Ah f [AP 0 0 n m] [(0,some (Am [.seq .u8 xs]))] 1 p
theorem Alx:AR dn oEb0 Tryz.f11 300 1 [] (R_ n m xs Tryz.f11 du)=some (E6 (0,n,m,xs) ((DF (AA xs 0 n),false)::[]),[],.val false [.b false],[]):=dk
theorem Aly:AR dn oEb0 Tryz.f11 300 1 [] (R_ n m xs Tryz.f11 dw)=some (E6 (0,n,m,xs) ((DF (AA xs 0 n),true)::[]),[],Au (!BE (DE (AA xs 0 n))),[]):=dk
theorem Alz:AR dn oEb0 Tryz.f12 300 1 [] (R_ n m xs Tryz.f12 du)=some (E6 (0,n,m,xs) ((DF (AA xs 0 n),false)::[]),[],.val false [.b false],[]):=dk
theorem Al0:AR dn oEb0 Tryz.f12 300 1 [] (R_ n m xs Tryz.f12 dw)=some (E6 (0,n,m,xs) ((DF (AA xs 0 n),true)::[]),[],Au (!BE (DE (AA xs 0 n))),[]):=dk
end
noncomputable def Vi (x:dp):Bool:=DF x&&!BE (DE x)
theorem ALs {F:FuncId} {fn:Func} (hfn:dn.funcs[F]? = some fn) (hb:fn.body.isSome=true) (hl:Nat.ble 1 fn.ntmps=true) {n m:Nat} {xs:dp} (hw:∀ p,V' fn.ntmps (R_ n m xs fn p).s=true)
  (h1:AR dn oEb0 fn 300 1 [] (R_ n m xs fn du)=some (E6 (0,n,m,xs) ((DF (AA xs 0 n),false)::[]),[],.val false [.b false],[]))
  (h2:AR dn oEb0 fn 300 1 [] (R_ n m xs fn dw)=some (E6 (0,n,m,xs) ((DF (AA xs 0 n),true)::[]),[],Au (!BE (DE (AA xs 0 n))),[]))
  (hB:C6 (0,n,m,xs)=true):Ac dn F [AP 0 0 n m] [(0,some (Am [.seq .u8 xs]))] 1 [] (Au (Vi (AA xs 0 n))) []:=by
 unfold Vi;cases k:DF (AA xs 0 n) with
 | false=>exact BA (BV jH OC hfn hb hl h1 (hw _) (Ho hB ⟨k,trivial⟩)) fun _ _ q=>P1 q
 | true=>exact BV jH OC hfn hb hl h2 (hw _) (Ho hB ⟨k,trivial⟩)
noncomputable def kvSp:ASpec:=fun args H fr path=>match args with
 | [.val false [c]]=>match rowAt H c with
  | some g=>some (BI [g.1] 1 fr 0 [] (Au (Vi (Ar g))) [] [(C6 g,true)] path)
  | none=>none
 | _=>none
theorem ALt {F:FuncId} {fn:Func} (hfn:dn.funcs[F]? = some fn) (hb:fn.body.isSome=true) (hname:(fn.name=="runtime.NumGoroutine")=false)
  (h:∀ {n m:Nat} {xs:dp},C6 (0,n,m,xs)=true→Ac dn F [AP 0 0 n m] [(0,some (Am [.seq .u8 xs]))] 1 [] (Au (Vi (AA xs 0 n))) []):A' dn F kvSp:=by
 refine DC hfn hb hname fun args H fr path r hs=>?_
 unfold kvSp at hs;split at hs;case h_2=>cases hs
 rename_i c;split at hs;case h_2=>cases hs
 rename_i g hG;injection hs with hs;refine ⟨[g.1],1,0,[],_,_,_,_,hs.symm,fun β us w ha hg hc=>?_⟩
 obtain ⟨u1,us1,a1,ha,rfl⟩:=ha;obtain ⟨m,g1,g2,g3⟩:=jK hg hG hc.1 (Aw a1)
 refine ⟨_,_,h (n:=g.2.1) (m:=m) (xs:=g.2.2.2) g1,dk,⟨u1,_,Aq (VR (Ed dl) g2),ha,rfl⟩,MS (bs:=[Am [.seq .u8 g.2.2.2]]) hg fun j d hj=>?_,fun j hj=>?_⟩
 ·match j,hj with
  | 0,hj=>injection hj with hj;subst hj;exact ⟨rfl,g3.2 _ 0 (Ed (by show 0<1;decide))⟩
 ·match j,hj with
  | 0,_=>exact g3.1
noncomputable def SEm0:dt:=(26,alSp)::(27,alSp)::(11,kvSp)::(12,kvSp)::(8,fewSp)::SVg
theorem ALu:AT dn SEm0:=⟨ALr Tryz.func26 dk dk Alo Alu,ALr Tryz.func27 dk dk Alp Alv,ALt Tryz.func11 dk dk fun h=>ALs Tryz.func11 dk dk (fun _=>by kernel_rfl) (Alx ..) (Aly ..) h,ALt Tryz.func12 dk dk fun h=>ALs Tryz.func12 dk dk (fun _=>by kernel_rfl) (Alz ..) (Al0 ..) h,AlO,eV⟩
noncomputable abbrev oEm0:Orc:=AG SEm0 KW12
theorem j6:OrcOk dn oEm0:=AH ALu OC
noncomputable def SEm:dt:=(9,A5 dn oEm0 Tryz.f9 300)::(15,A5 dn oEm0 Tryz.f15 300)::(10,A5 dn oEm0 Tryz.f10 300)::(16,A5 dn oEm0 Tryz.f16 300)::SEm0
theorem j7:AT dn SEm:=⟨A7 j6 AB Tryz.func9 dk dk 300,A7 j6 AB Tryz.func15 dk dk 300,A7 j6 AB Tryz.func10 dk dk 300,A7 j6 AB Tryz.func16 dk dk 300,ALu⟩
noncomputable abbrev j8:Orc:=AG SEm KW12
noncomputable def hp3 (x0 x1 x2:dp):Heap:=[(0,some (Am [.seq .u8 x0])),(1,some (Am [.seq .u8 x1])),(2,some (Am [.seq .u8 x2]))]
noncomputable def vfS (r0 r1 r2:Rw) (p:List Bool):ASt:=Ah Tryz.f3 [AP 0 0 r0.2.1 r0.2.2.1,AP 1 0 r1.2.1 r1.2.2.1,AP 2 0 r2.2.1 r2.2.2.1] (hp3 r0.2.2.2 r1.2.2.2 r2.2.2.2) 3 p
noncomputable def psS (r0 r1:Rw) (p:List Bool):ASt:=Ah Tryz.f5 [AP 0 0 r0.2.1 r0.2.2.1,AP 1 0 r1.2.1 r1.2.2.1] (xeH r0.2.2.2 r1.2.2.2) 2 p
section
variable (r0 r1 r2:Rw)
theorem Al1:AR dn j8 Tryz.f3 600 3 [] (vfS r0 r1 r2 dz)=some ([(true,true),(LJ [r0.2.1,r1.2.1,r2.2.1],true),(!G7 [r0.2.1,r1.2.1,r2.2.1],true)],[],.val false [.b true],[]):=dk
theorem Al2:AR dn j8 Tryz.f3 600 3 [] (vfS r0 r1 r2 e_)=some ([(true,true),(LJ [r0.2.1,r1.2.1,r2.2.1],true),(!G7 [r0.2.1,r1.2.1,r2.2.1],false),(E5 [r2,r0,r1]&&G4 VD,true),(E5 [r2,r0,r1]&&G4 VD,true),(J5 [Ar r0] [Ar r1] (Ar r2) VD==J5 [Ar r0] [Ar r1] (Ar r2) VD,true),(C6 r0,true),(C6 r0,true)],[],Au (Vi (Ar r0)==Vi (Ar r0)),[]):=dk
theorem Al3:AR dn j8 Tryz.f5 600 2 [] (psS r0 r1 dz)=some ([(true,true),(LJ [r0.2.1,r1.2.1],true),(!G7 [r0.2.1,r1.2.1],true)],[],.val false [.b true],[]):=dk
theorem Al4:AR dn j8 Tryz.f5 600 2 [] (psS r0 r1 d_)=some ([(true,true),(LJ [r0.2.1,r1.2.1],true),(!G7 [r0.2.1,r1.2.1],false),(E5 [r1,r0,r0]&&G4 VE,true),(E5 [r1,r0,r0]&&G4 VE,true)],[],Au (J5 [Ar r0] [Ar r0] (Ar r1) VE==J5 [Ar r0] [Ar r0] (Ar r1) VE),[]):=dk
end
theorem Yn {n:Nat} {l:List Nat} (h:G7 l=true) (hn:n∈l):n≤300:=by
 induction l with
 | nil=>cases hn
 | cons x l ih =>
  obtain ⟨h1,h2⟩:=gk.1 h;rcases gr.1 hn with rfl | hn
  ·exact f_ h1
  ·exact ih h2 hn
section
variable {r0 r1 r2:Rw} (b0:r0.2.1≤r0.2.2.2.length) (c0:AJ .i64 (r0.2.1:Int)=true) (e0:r0.2.1≤r0.2.2.1) (b1:r1.2.1≤r1.2.2.2.length) (c1:AJ .i64 (r1.2.1:Int)=true) (e1:r1.2.1≤r1.2.2.1)
include b0 c0 e0 b1 c1 e1
theorem Al5 (b2:r2.2.1≤r2.2.2.2.length) (c2:AJ .i64 (r2.2.1:Int)=true) (e2:r2.2.1≤r2.2.2.1):Ac dn 3 [AP 0 0 r0.2.1 r0.2.2.1,AP 1 0 r1.2.1 r1.2.2.1,AP 2 0 r2.2.1 r2.2.2.1] (hp3 r0.2.2.2 r1.2.2.2 r2.2.2.2) 3 [] (Au true) []:=by
 have hL:LJ [r0.2.1,r1.2.1,r2.2.1]=true:=by simp only [LJ,c0,c1,c2];rfl
 cases d:G7 [r0.2.1,r1.2.1,r2.2.1] with
 | false=>exact AH_ (BV j7 OC Tryz.func3 dk dk (Al1 r0 r1 r2) dk ⟨rfl,hL,by rw [d];rfl,trivial⟩)
 | true =>
  have l0:=Yn d (n:=r0.2.1) (by simp)
  have l1:=Yn d (n:=r1.2.1) (by simp)
  have l2:=Yn d (n:=r2.2.1) (by simp)
  have B0:C6 r0=true:=VP (k:=r0.1) b0 e0 c0 (ji l0 dm)
  have B1:C6 r1=true:=VP (k:=r1.1) b1 e1 c1 (ji l1 dm)
  have B2:C6 r2=true:=VP (k:=r2.1) b2 e2 c2 (ji l2 dm)
  have BB:(E5 [r2,r0,r1]&&G4 VD)=true:=by simp only [E5,B0,B1,B2,Ah5];rfl
  exact AEX (BV j7 OC Tryz.func3 dk dk (Al2 r0 r1 r2) dk ⟨rfl,hL,by rw [d];rfl,BB,BB,beq_self_eq_true _,B0,B0,trivial⟩) (beq_self_eq_true _)
theorem Al6:Ac dn 5 [AP 0 0 r0.2.1 r0.2.2.1,AP 1 0 r1.2.1 r1.2.2.1] (xeH r0.2.2.2 r1.2.2.2) 2 [] (Au true) []:=by
 have hL:LJ [r0.2.1,r1.2.1]=true:=by simp only [LJ,c0,c1];rfl
 cases d:G7 [r0.2.1,r1.2.1] with
 | false=>exact AH_ (BV j7 OC Tryz.func5 dk dk (Al3 r0 r1) dk ⟨rfl,hL,by rw [d];rfl,trivial⟩)
 | true =>
  have l0:=Yn d (n:=r0.2.1) (by simp)
  have l1:=Yn d (n:=r1.2.1) (by simp)
  have B0:C6 r0=true:=VP (k:=r0.1) b0 e0 c0 (ji l0 dm)
  have B1:C6 r1=true:=VP (k:=r1.1) b1 e1 c1 (ji l1 dm)
  have BB:(E5 [r1,r0,r0]&&G4 VE)=true:=by simp only [E5,B0,B1,Ah6];rfl
  exact AEX (BV j7 OC Tryz.func5 dk dk (Al4 r0 r1) dk ⟨rfl,hL,by rw [d];rfl,BB,BB,trivial⟩) (beq_self_eq_true _)
end
theorem blsVerifies_walk:ZV dn 3 Tryz.f3:=AEW fun H enc us W base ds ps hv hA=>by
 have hp:Tryz.f3.params.toList=[22,22,22]:=dk
 have hp':Tryz.f3.params=#[22,22,22]:=dk
 rw [hp] at hA;rw [hp'] at hv;obtain ⟨v1,us1,d1,ds1,p1,q1,rfl,rfl,t1,hA⟩:=WZ hA;obtain ⟨v2,us2,d2,ds2,p2,q2,rfl,rfl,t2,hA⟩:=WZ hA;obtain ⟨v3,us3,d3,ds3,p3,q3,rfl,rfl,t3,hA⟩:=WZ hA;obtain rfl:=args0 hA rfl
 obtain ⟨L0,z0,n0,m0,y0,a0,b0,c0,s0,A0⟩:=Xf (hv 0 _ v1 rfl rfl) t1 (ArgsOk.nil W)
 obtain ⟨L1,z1,n1,m1,y1,a1,b1,c1,s1,A1⟩:=Xf (hv 1 _ v2 rfl rfl) t2 A0
 obtain ⟨L2,z2,n2,m2,y2,a2,b2,c2,s2,A2⟩:=Xf (hv 2 _ v3 rfl rfl) t3 A1
 refine ⟨_,_,[AP 0 0 n0 m0,AP 1 0 n1 m1,AP 2 0 n2 m2],A2,⟨v1,_,G_ (W5 _ L2) (G_ (W5 _ L1) s0),⟨v2,_,G_ (W5 _ L2) s1,⟨v3,_,s2,rfl,rfl⟩,rfl⟩,rfl⟩,?_⟩
 exact Al5 (r0:=(0,n0,m0,z0)) (r1:=(1,n1,m1,z1)) (r2:=(2,n2,m2,z2)) a0 c0 b0 a1 c1 b1 a2 c2 b2
theorem blsPossess_walk:ZV dn 5 Tryz.f5:=AEW fun H enc us W base ds ps hv hA=>by
 have hp:Tryz.f5.params.toList=[22,22]:=dk
 have hp':Tryz.f5.params=#[22,22]:=dk
 rw [hp] at hA;rw [hp'] at hv;obtain ⟨v1,us1,d1,ds1,p1,q1,rfl,rfl,t1,hA⟩:=WZ hA;obtain ⟨v2,us2,d2,ds2,p2,q2,rfl,rfl,t2,hA⟩:=WZ hA;obtain rfl:=args0 hA rfl
 obtain ⟨L0,z0,n0,m0,y0,a0,b0,c0,s0,A0⟩:=Xf (hv 0 _ v1 rfl rfl) t1 (ArgsOk.nil W)
 obtain ⟨L1,z1,n1,m1,y1,a1,b1,c1,s1,A1⟩:=Xf (hv 1 _ v2 rfl rfl) t2 A0
 refine ⟨_,_,[AP 0 0 n0 m0,AP 1 0 n1 m1],A1,⟨v1,_,G_ (W5 _ L1) s0,⟨v2,_,s1,rfl,rfl⟩,rfl⟩,?_⟩
 exact Al6 (r0:=(0,n0,m0,z0)) (r1:=(1,n1,m1,z1)) a0 c0 b0 a1 c1 b1
end Go.Proofs.YtgnajdcdcblaoaaGreat
