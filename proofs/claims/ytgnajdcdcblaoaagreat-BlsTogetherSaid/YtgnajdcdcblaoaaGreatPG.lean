/- Part 7 of the proof. -/
import Derived.Test.YtgnajdcdcblaoaaGreatPF
import Derived.Test.YtgnajdcdcblaoaaGreatPB
import Derived.Test.YtgnajdcdcblaoaaGreatPE
set_option maxRecDepth 100000
set_option maxHeartbeats 4000000
open Go.Proofs.Tryz renaming prog→dm
open Go.Proofs.Tryz
namespace Go.Proofs.YtgnajdcdcblaoaaGreat
open Ex Num Rg
open Sh (R av rd mo en mo_en)
noncomputable section
def SDe0:dr:=(228,BF dm oDd f228 300)::SDd
theorem Ajk:AW dm SDe0:=⟨BK Ajj AB func228 dj dj 300,AAw⟩
abbrev oDe0:gr:=AH SDe0 KV
theorem ZG:gp dm oDe0:=AJ Ajk BS
def AAx (r s:R gk):R gk:=(ad gl (mu gl r.1 s.1) (vM (mu gl r.2 s.2)),su gl (mu gl (ad gl r.1 r.2) (ad gl s.1 s.2)) (ad gl (mu gl r.1 s.1) (mu gl r.2 s.2)))
def AAy (r s:R gk):R gk:=(ad gl (mu gl r.1 s.1) (vM (mu gl r.2 s.2)),ad gl (mu gl r.1 s.2) (mu gl r.2 s.1))
def AK6 (r:R gk):R gk:=(re gl r.1,ng gl r.2)
def o12:R gk:=((oR,Br,Br),(Br,Br,Br))
section
variable (r s:R gk)
theorem Ajl:AM dm oDe0 f270 [va gk r] [] 300=some ([],va gk (re gk r)):=dj
theorem Ajm:AM dm oDe0 f159 [va gk r,va gk s] [] 300=some ([],va gk (AAx r s)):=dj
theorem Ajn:AM dm oDe0 f223 [va gk r] [] 300=some ([],va gk (AK6 r)):=dj
theorem Ajo:AM dm oDe0 f57 [va gk r,va gk s] [] 300=some ([],va gk (AAy r s)):=dj
theorem Ajp:AM dm oDe0 f196 [va gk r] [] 300=some ([],va gk (AK6 r)):=dj
end
theorem Ajq (r s:R gk):AAx r s=mu gk r s:=by
 obtain ⟨a,b⟩:=r;obtain ⟨c,d⟩:=s;refine ml ?_ ?_<;>simp only [AAx,vM,ad,su,mu,mo_en]
 ·exact jl (en (α:=gl)) (ring [mo a,mo b,mo c,mo d,vv] (a:=mo a*mo c+mo b*mo d*vv) (b:=mo a*mo c+vv*(mo b*mo d)) dj)
 ·exact jl (en (α:=gl)) (ring [mo a,mo b,mo c,mo d,vv] (a:=(mo a+mo b)*(mo c+mo d)-(mo a*mo c+mo b*mo d)) (b:=mo a*mo d+mo b*mo c) dj)
theorem Ajr (r s:R gk):AAy r s=mu gk r s:=by
 obtain ⟨a,b⟩:=r;obtain ⟨c,d⟩:=s;refine ml ?_ ?_<;>simp only [AAy,vM,ad,mu,mo_en]
 ·exact jl (en (α:=gl)) (ring [mo a,mo b,mo c,mo d,vv] (a:=mo a*mo c+mo b*mo d*vv) (b:=mo a*mo c+vv*(mo b*mo d)) dj)
 ·rfl
def NL (r:R gk):R gk:=en (Qx.conj (mo r:gk))
def SDe1:dr:=(159,Ac (DW gk gk fun r s=>va gk (mu gk r s)))::(57,Ac (DW gk gk fun r s=>va gk (mu gk r s)))::(270,Ac (Bi gk fun r=>va gk (re gk r)))::(223,Ac (Bi gk fun r=>va gk (NL r)))::(196,Ac (Bi gk fun r=>va gk (NL r)))::SDd
theorem AK7:AW dm SDe1:=⟨Ad func159 dj dj (Dy fun r s=>by rw [← Ajq];exact AP ZG AB func159 (Ajm r s) trivial rfl),Ad func57 dj dj (Dy fun r s=>by rw [← Ajr];exact AP ZG AB func57 (Ajo r s) trivial rfl),Ad func270 dj dj (Bm fun r=>AP ZG AB func270 (Ajl r) trivial rfl),Ad func223 dj dj (Bm fun r=>AP ZG AB func223 (Ajn r) trivial rfl),Ad func196 dj dj (Bm fun r=>AP ZG AB func196 (Ajp r) trivial rfl),AAw⟩
abbrev oDe1:gr:=AH SDe1 KV
theorem AK8:gp dm oDe1:=AJ AK7 BS
def k6 (r:R gk):R gk:=(mu gl r.1 (iv gl (su gl (mu gl r.1 r.1) (vM (mu gl r.2 r.2)))),ng gl (mu gl r.2 (iv gl (su gl (mu gl r.1 r.1) (vM (mu gl r.2 r.2))))))
def AAz (r:R gk):R gk:=(mu gl (NL r).1 (iv gl (mu gk r (NL r)).1),mu gl (NL r).2 (iv gl (mu gk r (NL r)).1))
section
variable (r:R gk)
theorem Ajs:AM dm oDe1 f224 [va gk r] [] 300=some ([],va gk (k6 r)):=dj
theorem Ajt:AM dm oDe1 f197 [va gk r] [] 300=some ([],va gk (AAz r)):=dj
end
end
noncomputable section
theorem Aju (x:gk):(FD.inv x:gk)=Us x:=rfl
theorem Ajv (x:gk):(en x:R gk)=(en x.a,en x.b):=rfl
theorem Ajw (x:gk):(Us x).a=x.a*FD.inv x.nrm:=dj
theorem Ajx (x:gk):(Us x).b=-x.b*FD.inv x.nrm:=dj
theorem AK9 (x:gk):(en (FD.inv x):R gk)=(en (x.a*FD.inv x.nrm),en (-x.b*FD.inv x.nrm)):=by
 rw [← Ajw,← Ajx,Aju];exact Ajv _
theorem AA0 (a b:R gl):(mo ((a,b):R gk):gk).a=mo a:=rfl
theorem AA1 (a b:R gl):(mo ((a,b):R gk):gk).b=mo b:=rfl
theorem Ajy (x y:gl):x*x-y*y*vv=x*x-vv*(y*y):=ring [x,y,vv] (a:=x*x-y*y*vv) (b:=x*x-vv*(y*y)) dj
theorem Ajz (x:gk):x.nrm=x.a*x.a-vv*(x.b*x.b):=dj
theorem n12 (a b:R gl):(mo a:gl)*mo a-mo b*mo b*vv=(mo ((a,b):R gk):gk).nrm:=by rw [Ajy,Ajz,AA0,AA1]
theorem Aj1 (x i:gl):-(x*i)=-x*i:=ring [x,i] (a:=-(x*i)) (b:=-x*i) dj
theorem Aj2 (r:R gk):k6 r=iv gk r:=by
 obtain ⟨a,b⟩:=r;have e:k6 (a,b)=(en (mo a*FD.inv (mo ((a,b):R gk):gk).nrm),en (-(mo b*FD.inv (mo ((a,b):R gk):gk).nrm))):=by
  simp only [k6,vM,su,ng,iv,mu,mo_en,n12]
 rw [e,Aj1];have h:=AK9 (mo ((a,b):R gk))
 rw [AA0,AA1] at h;exact h.symm
theorem Aj3 (a b:R gl):(NL (a,b)).1=en (mo a:gl):=rfl
theorem Aj4 (a b:R gl):(NL (a,b)).2=en (-mo b:gl):=rfl
theorem Aj5 (x:gl) (y:gl):(en (⟨x,y⟩:gk):R gk).1=en x:=rfl
theorem Aj6 (r:R gk):(mu gk r (NL r)).1=en (mo r:gk).nrm:=by
 unfold mu NL;rw [mo_en,Qx.mul_conj];exact Aj5 _ _
theorem Aj7 (r:R gk):AAz r=iv gk r:=by
 unfold AAz;rw [Aj6];obtain ⟨a,b⟩:=r;have h:=AK9 (mo ((a,b):R gk))
 rw [AA0,AA1] at h;rw [Aj3,Aj4];unfold mu iv;rw [mo_en,mo_en,mo_en,mo_en];exact h.symm
def SDf:dr:=(224,Ac (Bi gk fun r=>va gk (iv gk r)))::(197,Ac (Bi gk fun r=>va gk (iv gk r)))::SDe1
theorem AA2:AW dm SDf:=⟨Ad func224 dj dj (Bm fun r=>by rw [← Aj2];exact AP AK8 AB func224 (Ajs r) trivial rfl),Ad func197 dj dj (Bm fun r=>by rw [← Aj7];exact AP AK8 AB func197 (Ajt r) trivial rfl),AK7⟩
abbrev oDf:gr:=AH SDf KV
theorem AK_:gp dm oDf:=AJ AA2 BS
end
noncomputable section
def SDg0:dr:=(288,BF dm oDf f288 300)::(289,BF dm oDf f289 300)::SDf
theorem Aj8:AW dm SDg0:=⟨BK AK_ AB func288 dj dj 300,BK AK_ AB func289 dj dj 300,AA2⟩
abbrev oDg0:gr:=AH SDg0 KV
theorem AK':gp dm oDg0:=AJ Aj8 BS
def ALA:R gj:=((1:Nat),(0:Nat))
def ALB:R gj:=((3850754370037169011952147076051364057158807420970682438676050522613628423219637725072182697113062777891589506424760:Nat),(151655185184498381465642749684540099398075398968325446656007613510403227271200139370504932015952886146304766135027:Nat))
def ALC:R gj:=((0:Nat),(4002409555221667392624310435006688643935503118305586438271171395842971157480381377015405980053539358417135540939436:Nat))
def ALD:R gj:=((1028732146235106349975324479215795277384839936929757896155643118032610843298655225875571310552543014690878354869257:Nat),(1028732146235106349975324479215795277384839936929757896155643118032610843298655225875571310552543014690878354869257:Nat))
def ALE:R gj:=((4002409555221667392624310435006688643935503118305586438271171395842971157480381377015405980053539358417135540939437:Nat),(0:Nat))
def ALF:R gj:=((877076961050607968509681729531255177986764537961432449499635504522207616027455086505066378536590128544573588734230:Nat),(3125332594171059424908108096204648978570118281977575435832422631601824034463382777937621250592425535493320683825557:Nat))
def fbR (r:R gk):R gk:=((mu gj (cj r.1.1) ALA,mu gj (cj r.1.2.1) ALC,mu gj (cj r.1.2.2) ALE),(mu gj (cj r.2.1) ALB,mu gj (cj r.2.2.1) ALD,mu gj (cj r.2.2.2) ALF))
end
noncomputable section
def liR (l:R gj) (q:R P2) (x y:Nat):R gk:=((su gj (mu gj l q.1) q.2.1,ng gj (sc l x),Br),(Br,((re FP y:R FP),(0:Nat)),Br))
def ALG:List Ch:=[.n .u64 0,.n .u64 0,.n .u64 0,.n .u64 0,.n .u64 0,.n .u64 0]
def liC (l:R gj) (q:R P2) (x y:Nat):List Ch:=Bw (av (su gj (mu gj l q.1) q.2.1)) (Bw (av (ng gj (sc l x))) (Bw R_ (Bw R_ (Bw (av (re FP y:R FP)) (Bw ALG R_)))))
theorem Aj9 (l:R gj) (q:R P2) (x y:Nat) (i:Bool):AM dm oDg0 f266 [va gj l,va P2 q,By x y i] [] 600=some ([],.val true (liC l q x y)):=dj
theorem Aj_ (l:R gj) (q:R P2) (x y:Nat) (i:Bool):AM dm oDg0 f252 [va gj l,va P2 q,By x y i] [] 600=some ([],.val true (liC l q x y)):=dj
theorem ALH (l:R gj) (q:R P2) (x y:Nat):(rd (liC l q x y):Option (R gk))=some (liR l q x y):=dj
end
noncomputable section
def Ql (l:R gj) (q:R P2) (p:R (Pt FP)):R gk:=liR l q p.1 p.2.1
def SDi:dr:=(266,Ac (U2 gj P2 (Pt FP) fun l q p=>va gk (Ql l q p)))::(252,Ac (U2 gj P2 (Pt FP) fun l q p=>va gk (Ql l q p)))::SDf
theorem ALI:AW dm SDi:=⟨Ad func266 dj dj (eM fun l q p=>E5 (α:=gk) (AP AK' AB func266 (Aj9 l q p.1 p.2.1 p.2.2) trivial rfl) (ALH l q p.1 p.2.1)),Ad func252 dj dj (eM fun l q p=>E5 (α:=gk) (AP AK' AB func252 (Aj_ l q p.1 p.2.1 p.2.2) trivial rfl) (ALH l q p.1 p.2.1)),AA2⟩
abbrev oDi:gr:=AH SDi KV
theorem AA6:gp dm oDi:=AJ ALI BS
end
noncomputable section
def SDj0:dr:=(220,BF dm oDi f220 300)::(54,BF dm oDi f54 300)::(249,BF dm oDi f249 300)::SDi
theorem ALJ:AW dm SDj0:=⟨BK AA6 AB func220 dj dj 300,BK AA6 AB func54 dj dj 300,BK AA6 AB func249 dj dj 300,ALI⟩
abbrev oDj0:gr:=AH SDj0 KV
theorem Ix:gp dm oDj0:=AJ ALJ BS
def Hh:List Ch:=.n .u64 1::List.replicate 71 (.n .u64 0)
theorem AA7:(rd Hh:Option (R gk))=some o12:=dj
noncomputable abbrev TV:Func:=f222
noncomputable abbrev TW:Func:=f195
def ZH (t q:R P2):AV:=.tup [(true,av (en (Rg.add (mo (re P2 t):P2) (mo (re P2 q))):R P2)),(true,Hh)]
def V' (t q:R P2):AV:=.tup [(true,av (en (Rg.add (mo t:P2) (mo q)):R P2)),(true,Hh)]
section
variable (t q:R P2) (p:R (Pt FP))
theorem Aj':AM dm oDj0 TV [va P2 t,va P2 q,va (Pt FP) p] du 600=some ([(p.2.2,true)],ZH t q):=dj
theorem AkA:AM dm oDj0 TV [va P2 t,va P2 q,va (Pt FP) p] dx 600=some ([(p.2.2,false),((re P2 t).2.2,true)],ZH t q):=dj
theorem AkB:AM dm oDj0 TV [va P2 t,va P2 q,va (Pt FP) p] ep 600=some ([(p.2.2,false),((re P2 t).2.2,false),((re P2 q).2.2,true)],ZH t q):=dj
theorem AkC:AM dm oDj0 TW [va P2 t,va P2 q,va (Pt FP) p] du 600=some ([(p.2.2,true)],V' t q):=dj
theorem AkD:AM dm oDj0 TW [va P2 t,va P2 q,va (Pt FP) p] dx 600=some ([(p.2.2,false),(t.2.2,true)],V' t q):=dj
theorem AkE:AM dm oDj0 TW [va P2 t,va P2 q,va (Pt FP) p] ep 600=some ([(p.2.2,false),(t.2.2,false),(q.2.2,true)],V' t q):=dj
end
end
noncomputable section
def AkF:List Ch:=List.replicate 36 (.n .u64 0)
def WA (x:R gj) (a:R FP):List Ch:=Bw (av x) (Bw (av (ng FP a)) (Bw ALG (Bw R_ AkF)))
def AA8 (x:R gj) (a:R FP):R gk:=((x,((ng FP a:R FP),(0:Nat)),Br),(Br,Br,Br))
theorem AA9 (x:R gj) (a:R FP):(rd (WA x a):Option (R gk))=some (AA8 x a):=dj
def k7 (x y:R gj):R gj:=mu gj (ad gj (ad gj (mu gj (re gj x) (re gj x)) (mu gj (re gj x) (re gj x))) (mu gj (re gj x) (re gj x))) (iv gj (ad gj (re gj y) (re gj y)))
def stL (l x y x':R gj) (p:R (Pt FP)):AV:=.tup [(true,Bw (av (aX l (re gj x) (re gj x'))) (Bw (av (aY l (re gj x) (re gj y) (aX l (re gj x) (re gj x')))) [.b false])),(true,av (Ql l (re P2 (x,y,false)) p))]
section
variable (x y x' y':R gj) (a b:R FP)
theorem AkG:AM dm oDj0 TV [va P2 (x,y,false),va P2 (x',y',false),va (Pt FP) (a,b,false)] ef 600=some ([(false,false),(false,false),(false,false),(!e2 (re gj x) (re gj x'),true)],stL (sC x y x' y') x y x' (a,b,false)):=dj
theorem AkH:AM dm oDj0 TV [va P2 (x,y,false),va P2 (x',y',false),va (Pt FP) (a,b,false)] fa 600=some ([(false,false),(false,false),(false,false),(!e2 (re gj x) (re gj x'),false),(!e2 (re gj y) (re gj y'),true)],.tup [(true,CW true),(true,WA (re gj x) a)]):=dj
theorem AkI:AM dm oDj0 TV [va P2 (x,y,false),va P2 (x',y',false),va (Pt FP) (a,b,false)] [false,false,false,false,false,true] 600=some ([(false,false),(false,false),(false,false),(!e2 (re gj x) (re gj x'),false),(!e2 (re gj y) (re gj y'),false),(e2 (re gj y) Br,true)],.tup [(true,CW true),(true,WA (re gj x) a)]):=dj
theorem AkJ:AM dm oDj0 TV [va P2 (x,y,false),va P2 (x',y',false),va (Pt FP) (a,b,false)] [false,false,false,false,false,false] 600=some ([(false,false),(false,false),(false,false),(!e2 (re gj x) (re gj x'),false),(!e2 (re gj y) (re gj y'),false),(e2 (re gj y) Br,false)],stL (k7 x y) x y x' (a,b,false)):=dj
end
end
noncomputable section
def srS (x y x' y':R gj):List Ch:=av (en (Rg.add (mo ((x,y,false):R P2):P2) (mo ((x',y',false):R P2))):R P2)
def srV (x y x' y':R gj) (l:R gk):AV:=.tup [(true,srS x y x' y'),(true,av l)]
section
variable (x y x' y':R gj) (a b:R FP)
theorem AkK:AM dm oDj0 TW [va P2 (x,y,false),va P2 (x',y',false),va (Pt FP) (a,b,false)] ee 600=some ([(false,false),(false,false),(false,false),(e2 (re gj x) (re gj x'),false)],srV x y x' y' (Ql (sC x y x' y') (x,y,false) (a,b,false))):=dj
theorem AkL:AM dm oDj0 TW [va P2 (x,y,false),va P2 (x',y',false),va (Pt FP) (a,b,false)] [false,false,false,true,true] 600=some ([(false,false),(false,false),(false,false),(e2 (re gj x) (re gj x'),true),(!e2 (re gj y) (re gj y'),true)],.tup [(true,srS x y x' y'),(true,WA (re gj x) a)]):=dj
theorem AkM:AM dm oDj0 TW [va P2 (x,y,false),va P2 (x',y',false),va (Pt FP) (a,b,false)] [false,false,false,true,false,true] 600=some ([(false,false),(false,false),(false,false),(e2 (re gj x) (re gj x'),true),(!e2 (re gj y) (re gj y'),false),(e2 (re gj y) (kk 0),true)],.tup [(true,srS x y x' y'),(true,WA (re gj x) a)]):=dj
theorem AkN:AM dm oDj0 TW [va P2 (x,y,false),va P2 (x',y',false),va (Pt FP) (a,b,false)] [false,false,false,true,false,false] 600=some ([(false,false),(false,false),(false,false),(e2 (re gj x) (re gj x'),true),(!e2 (re gj y) (re gj y'),false),(e2 (re gj y) (kk 0),false)],srV x y x' y' (Ql (sT x y) (x,y,false) (a,b,false))):=dj
end
end
noncomputable section
theorem ALL {F:FuncId} {args:List AV} {α β:Type} [Sh α] [Sh β] {c1 c2:List Ch} {r1:R α} {r2:R β} (h:AU dm F args (.tup [(true,c1),(true,c2)])) (h1:rd c1=some r1) (h2:rd c2=some r2):AU dm F args (.tup [(true,av r1),(true,av r2)]) :=
 C3 h fun _ hu=>by
  obtain ⟨us,⟨u1,l1,⟨q1,p1,rfl⟩,⟨u2,l2,⟨q2,p2,rfl⟩,hn,rfl⟩,rfl⟩,rfl⟩:=hu;exact ⟨_,⟨_,_,⟨q1,Sh.rd_ok h1 p1,rfl⟩,⟨_,_,⟨q2,Sh.rd_ok h2 p2,rfl⟩,hn,rfl⟩,rfl⟩,rfl⟩
def NM (l x y:gj) (a b:FP):gk:=⟨⟨l*x-y,-(Qx.sc l a),0⟩,⟨0,⟨b,0⟩,0⟩⟩
def O3 (x:gj) (a:FP):gk:=⟨⟨x,⟨-a,0⟩,0⟩,⟨0,0,0⟩⟩
def ZI (x y x' y':gj):gj:=(y'-y)*FD.inv (x'-x)
def TX (x y:gj):gj:=(x*x+x*x+x*x)*FD.inv (y+y)
def Qm (x y x' y':gj) (a b:FP):gk:=if x=x' then (if y=y'∧y≠0 then NM (TX x y) x y a b else O3 x a) else NM (ZI x y x' y') x y a b
def IJ (T Q:P2) (p:Pt FP):gk:=match p with
 | .inf=>1
 | .pt a b=>match T with
  | .inf=>1
  | .pt x y=>match Q with
   | .inf=>1
   | .pt x' y'=>Qm x y x' y' a b
theorem AkO (r:R gk):(rd (av r):Option (R gk))=some r:=dj
def Qn (t q:R P2) (p:R (Pt FP)):AV:=.tup [(true,av (en (Rg.add (mo t) (mo q)):R P2)),(true,av (en (IJ (mo t) (mo q) (mo p)):R gk))]
theorem ABA (l x y:R gj) (a b:R FP):Ql l (x,y,false) (a,b,false)=en (NM (mo l) (mo x) (mo y) (mo a) (mo b)):=by
 unfold Ql liR NM su mu ng sc re;simp only [mo_en];rfl
theorem ABB (x:R gj) (a:R FP):AA8 (re gj x) a=en (O3 (mo x) (mo a)):=by
 unfold AA8 O3 ng re;rfl
theorem TY:o12=en (1:gk):=dj
theorem ABC {F:FuncId} {args:List AV} {β:Type} [Sh β] {c1 c2:List Ch} {r2:R β} (h:AU dm F args (.tup [(true,c1),(true,c2)])) (h2:rd c2=some r2):AU dm F args (.tup [(true,c1),(true,av r2)]) :=
 C3 h fun _ hu=>by
  obtain ⟨us,⟨u1,l1,⟨q1,p1,rfl⟩,⟨u2,l2,⟨q2,p2,rfl⟩,hn,rfl⟩,rfl⟩,rfl⟩:=hu;exact ⟨_,⟨_,_,⟨q1,p1,rfl⟩,⟨_,_,⟨q2,Sh.rd_ok h2 p2,rfl⟩,hn,rfl⟩,rfl⟩,rfl⟩
section
variable {F:FuncId} {t q:R P2} {p:R (Pt FP)}
theorem WB (h:AU dm F [va P2 t,va P2 q,va (Pt FP) p] (V' t q)) (hv:IJ (mo t) (mo q) (mo p)=1):AU dm F [va P2 t,va P2 q,va (Pt FP) p] (Qn t q p):=by
 unfold Qn;rw [hv,← TY];exact ABC h AA7
end
theorem AkP (t q:R P2):ZH t q=V' t q:=by unfold ZH V' re;rw [mo_en,mo_en]
theorem ALM (Q:P2) (p:Pt FP):IJ .inf Q p=1:=by cases p<;>rfl
theorem ALN (T:P2) (p:Pt FP):IJ T .inf p=1:=by cases p<;>cases T<;>rfl
section
variable {F:FuncId} {x y x' y':R gj} {a b:R FP}
theorem Iy (a b:R gj):e2 (re gj a) (re gj b)=decide ((mo a:gj)=mo b):=gR _ _
theorem k8 (a:R gj):e2 (re gj a) (kk 0)=decide ((mo a:gj)=0):=by rw [kk0];exact gR _ _
end
section
variable {F:FuncId} {args:List AV} {l x y x' y':R gj} {a b:R FP}
theorem ALO (h:AU dm F args (stL l x y x' (a,b,false))) :
  AU dm F args (.tup [(true,av (en (H6 (mo x:gj) (mo y) (mo x') (mo l)):R P2)),(true,av (en (NM (mo l) (mo x) (mo y) (mo a) (mo b)):R gk))]):=by
 have h1:=AIU l (re gj x) (re gj y) (re gj x')
 have h2:=ABA l (re gj x) (re gj y) a b
 have e:∀ z:R gj,(mo (re gj z):gj)=mo z:=fun z=>mo_en _
 rw [e,e,e] at h1;rw [e,e] at h2;rw [← h1,← h2];exact ALL (α:=P2) (β:=gk) (r1:=aP l (re gj x) (re gj y) (re gj x')) (r2:=Ql l (re gj x,re gj y,false) (a,b,false)) h dj (AkO _)
theorem ALP (h:AU dm F args (.tup [(true,CW true),(true,WA (re gj x) a)])):AU dm F args (.tup [(true,av (en (.inf:P2):R P2)),(true,av (en (O3 (mo x) (mo a)):R gk))]):=by
 rw [← ABB];exact ALL (α:=P2) (β:=gk) (r1:=(en (.inf:P2):R P2)) h dj (AA9 _ _)
end
theorem AkQ (x y x' y':R gj) (a b:R FP):Qn (x,y,false) (x',y',false) (a,b,false)=.tup [(true,av (en (Rg.add (.pt (mo x:gj) (mo y)) (.pt (mo x') (mo y'))):R P2)),(true,av (en (Qm (mo x) (mo y) (mo x') (mo y') (mo a) (mo b)):R gk))]:=rfl
theorem ALQ {F:FuncId} {x y x' y':R gj} {a b:R FP}
  (hc:decide ((mo x:gj)=mo x')=false→AU dm F [va P2 (x,y,false),va P2 (x',y',false),va (Pt FP) (a,b,false)] (.tup [(true,av (en (Rg.add (.pt (mo x:gj) (mo y)) (.pt (mo x') (mo y'))):R P2)),(true,av (en (NM (ZI (mo x) (mo y) (mo x') (mo y')) (mo x) (mo y) (mo a) (mo b)):R gk))]))
  (hu:decide ((mo x:gj)=mo x')=true→decide ((mo y:gj)=mo y')=false→AU dm F [va P2 (x,y,false),va P2 (x',y',false),va (Pt FP) (a,b,false)] (.tup [(true,av (en (Rg.add (.pt (mo x:gj) (mo y)) (.pt (mo x') (mo y'))):R P2)),(true,av (en (O3 (mo x) (mo a)):R gk))]))
  (hz:decide ((mo x:gj)=mo x')=true→decide ((mo y:gj)=mo y')=true→decide ((mo y:gj)=0)=true→AU dm F [va P2 (x,y,false),va P2 (x',y',false),va (Pt FP) (a,b,false)] (.tup [(true,av (en (Rg.add (.pt (mo x:gj) (mo y)) (.pt (mo x') (mo y'))):R P2)),(true,av (en (O3 (mo x) (mo a)):R gk))]))
  (ht:decide ((mo x:gj)=mo x')=true→decide ((mo y:gj)=mo y')=true→decide ((mo y:gj)=0)=false→AU dm F [va P2 (x,y,false),va P2 (x',y',false),va (Pt FP) (a,b,false)] (.tup [(true,av (en (Rg.add (.pt (mo x:gj) (mo y)) (.pt (mo x') (mo y'))):R P2)),(true,av (en (NM (TX (mo x) (mo y)) (mo x) (mo y) (mo a) (mo b)):R gk))])) :
  AU dm F [va P2 (x,y,false),va P2 (x',y',false),va (Pt FP) (a,b,false)] (Qn (x,y,false) (x',y',false) (a,b,false)):=by
 rw [AkQ];unfold Qm;by_cases hx:(mo x:gj)=mo x'
 ·rw [je hx];by_cases hy:(mo y:gj)=mo y'
  ·by_cases h0:(mo y:gj)=0
   ·rw [jd (fun h=>h.2 h0)]
    exact hz (jc hx) (jc hy) (jc h0)
   ·rw [je ⟨hy,h0⟩];exact ht (jc hx) (jc hy) (jg h0)
  ·rw [jd (fun h=>hy h.1)]
   exact hu (jc hx) (jg hy)
 ·rw [jd hx];exact hc (jg hx)
theorem AkR {x y x' y':gj} (h:decide (x=x')=false):Rg.add (.pt x y) (.pt x' y')=H6 x y x' (ZI x y x' y'):=by rw [LQ,jd (pf h)];rfl
theorem AkS {x y x' y':gj} (h:decide (x=x')=true) (h':decide (y=y')=false):Rg.add (.pt x y) (.pt x' y')=.inf:=by rw [LQ,je (jx h),jd fun q=>pf h' q.1]
theorem AkT {x y x' y':gj} (h:decide (x=x')=true) (h':decide (y=0)=true):Rg.add (.pt x y) (.pt x' y')=.inf:=by rw [LQ,je (jx h),jd fun q=>q.2 (jx h')]
theorem AkU {x y x' y':gj} (h:decide (x=x')=true) (h':decide (y=y')=true) (h0:decide (y=0)=false):Rg.add (.pt x y) (.pt x' y')=H6 x y x' (TX x y):=by rw [LQ,je (jx h),je ⟨jx h',pf h0⟩];rfl
theorem AkV (x y:R gj):(mo (k7 x y):gj)=TX (mo x) (mo y):=by
 unfold k7 mu ad iv re TX;simp only [mo_en]
theorem ALR:Br=kk 0:=dj
theorem AkW (t q:R P2) (p:R (Pt FP)):AU dm 222 [va P2 t,va P2 q,va (Pt FP) p] (Qn t q p):=by
 have h1:=Aj' t q p;have h2:=AkA t q p;have h3:=AkB t q p;obtain ⟨x,y,i⟩:=t;obtain ⟨x',y',i'⟩:=q;obtain ⟨a,b,i''⟩:=p;rw [AkP] at h1 h2 h3;cases i'' with
 | true=>exact WB (AP Ix AB func222 h1 ⟨rfl,trivial⟩ rfl) rfl
 | false=>cases i with
  | true=>exact WB (AP Ix AB func222 h2 ⟨rfl,rfl,trivial⟩ rfl) (ALM _ _)
  | false=>cases i' with
   | true=>exact WB (AP Ix AB func222 h3 ⟨rfl,rfl,rfl,trivial⟩ rfl) (ALN _ _)
   | false =>
    refine ALQ (fun hx=>?_) (fun hx hy=>?_) (fun hx hy h0=>?_) fun hx hy h0=>?_
    ·rw [AkR hx,show ZI (mo x) (mo y) (mo x') (mo y')=mo (sC x y x' y') from (xP ..).symm]
     exact ALO (AP Ix AB func222 (AkG x y x' y' a b) ⟨rfl,rfl,rfl,by rw [Iy,hx];rfl,trivial⟩ rfl)
    ·rw [AkS hx hy];exact ALP (AP Ix AB func222 (AkH x y x' y' a b) ⟨rfl,rfl,rfl,by rw [Iy,hx];rfl,by rw [Iy,hy];rfl,trivial⟩ rfl)
    ·rw [AkT hx h0];exact ALP (AP Ix AB func222 (AkI x y x' y' a b) ⟨rfl,rfl,rfl,by rw [Iy,hx];rfl,by rw [Iy,hy];rfl,by rw [ALR,k8,h0],trivial⟩ rfl)
    ·rw [AkU hx hy h0,show TX (mo x) (mo y)=mo (k7 x y) from (AkV ..).symm]
     exact ALO (AP Ix AB func222 (AkJ x y x' y' a b) ⟨rfl,rfl,rfl,by rw [Iy,hx];rfl,by rw [Iy,hy];rfl,by rw [ALR,k8,h0],trivial⟩ rfl)
theorem AkX (t q:R P2) (p:R (Pt FP)):AU dm 195 [va P2 t,va P2 q,va (Pt FP) p] (Qn t q p):=by
 have h1:=AkC t q p;have h2:=AkD t q p;have h3:=AkE t q p;obtain ⟨x,y,i⟩:=t;obtain ⟨x',y',i'⟩:=q;obtain ⟨a,b,i''⟩:=p;cases i'' with
 | true=>exact WB (AP Ix AB func195 h1 ⟨rfl,trivial⟩ rfl) rfl
 | false=>cases i with
  | true=>exact WB (AP Ix AB func195 h2 ⟨rfl,rfl,trivial⟩ rfl) (ALM _ _)
  | false=>cases i' with
   | true=>exact WB (AP Ix AB func195 h3 ⟨rfl,rfl,rfl,trivial⟩ rfl) (ALN _ _)
   | false =>
    refine ALQ (fun hx=>?_) (fun hx hy=>?_) (fun hx hy h0=>?_) fun hx hy h0=>?_
    ·rw [show ZI (mo x) (mo y) (mo x') (mo y')=mo (sC x y x' y') from (xP ..).symm,← ABA]
     exact AP Ix AB func195 (AkK x y x' y' a b) ⟨rfl,rfl,rfl,by rw [Iy,hx],trivial⟩ rfl
    ·rw [← ABB];exact ABC (AP Ix AB func195 (AkL x y x' y' a b) ⟨rfl,rfl,rfl,by rw [Iy,hx],by rw [Iy,hy];rfl,trivial⟩ rfl) (AA9 _ _)
    ·rw [← ABB];exact ABC (AP Ix AB func195 (AkM x y x' y' a b) ⟨rfl,rfl,rfl,by rw [Iy,hx],by rw [Iy,hy];rfl,by rw [k8,h0],trivial⟩ rfl) (AA9 _ _)
    ·rw [show TX (mo x) (mo y)=mo (sT x y) from (AIV ..).symm,← ABA]
     exact AP Ix AB func195 (AkN x y x' y' a b) ⟨rfl,rfl,rfl,by rw [Iy,hx],by rw [Iy,hy];rfl,by rw [k8,h0],trivial⟩ rfl
def SDm:dr:=(222,Ac (U2 P2 P2 (Pt FP) Qn))::(195,Ac (U2 P2 P2 (Pt FP) Qn))::SDj0
theorem k9:AW dm SDm:=⟨Ad func222 dj dj (eM AkW),Ad func195 dj dj (eM AkX),ALJ⟩
abbrev oDm:gr:=AH SDm KV
theorem ZJ:gp dm oDm:=AJ k9 BS
end
noncomputable def SDn0:dr:=(221,BF dm oDm f221 300)::SDm
theorem ALS:AW dm SDn0:=⟨BK ZJ AB func221 dj dj 300,k9⟩
noncomputable abbrev oDn0:gr:=AH SDn0 KV
theorem lB:gp dm oDn0:=AJ ALS BS
noncomputable abbrev mlF:Func:=f157
noncomputable def TZ (p:R (Pt FP)) (q:R P2) (b:List Bool):gq:=Aj mlF [va (Pt FP) p,va P2 q] [] 0 b
noncomputable def mlX (p:R (Pt FP)) (q:R P2):=AY dm oDn0 (some 0) 100 0 none (TZ p q ee)
noncomputable def AkZ:List Item:=CB (mlX ((0:Nat),(0:Nat),false) (en (.pt 0 0:P2)))
noncomputable def Ta (p:R (Pt FP)) (q:R P2) (f:List Ch) (t:R P2) (i:AV) (b:List Bool):gq:=⟨AkZ,⟨EC mlF.ntmps [(2,.val false [.p 0 0]),(3,.val false [.p 1 0]),(4,.val false [.p 2 0]),(6,.val false [.p 4 0]),(7,.val false [.p 5 0]),(8,.val false [.clo 221 [(5,0),(0,0),(4,0)]]),(9,i)],
 [(0,some ⟨42,av p,false⟩),(1,some ⟨70,av q,false⟩),(2,some ⟨83,List.replicate 72 (.n .u64 0),false⟩),(4,some ⟨83,f,false⟩),(5,some ⟨70,av t,false⟩)],6,b⟩⟩
abbrev mlK:Option (List Nat×List Nat×Nat):=some ([2,3,4,6,7,8,9],[0,1,2,4,5],6)
noncomputable def mlC (p:R (Pt FP)) (q:R P2):dp:=[(!BE (mo p:Pt FP),false),(!BH (mo q),false),(p.2.2,false),(q.2.2,false)]
theorem Aka (p:R (Pt FP)) (q:R P2):AY dm oDn0 (some 0) 100 0 mlK (TZ p q ee)=some (mlC p q,[],Ta p q Hh (re P2 q) (.val false [.n .i64 62]) []):=dj
noncomputable def ZK (p:R (Pt FP)) (f:R gk) (t:R P2):R gk:=mu gk (mu gk f f) (en (IJ (mo t) (mo t) (mo p)))
noncomputable def WC (t:R P2):R P2:=en (Rg.add (mo t) (mo t))
noncomputable def lC (p:R (Pt FP)) (q:R P2) (f:R gk) (t:R P2):R gk:=mu gk (ZK p f t) (en (IJ (mo (WC t)) (mo q) (mo p)))
noncomputable def lD (q t:R P2):R P2:=en (Rg.add (mo (WC t)) (mo q))
noncomputable def lE (i:Int):Bool:=decide (bits .and .u64 (Int.fdiv 15132376222941642752 (2^min (Int.toNat i) (IntKind.bits .u64))) 1=0)
noncomputable def mlQ (i:Int) (b:Bool):dp:=[(decide (0≤i),true),(decide (0≤i∧(0:Int)≤15132376222941642752),true),(lE i,b)]
section
variable (p:R (Pt FP)) (q:R P2) (f:R gk) (t:R P2) (i:Int)
theorem Akb:AY dm oDn0 (some 0) 100 0 mlK (Ta p q (av f) t (iA i) dw)=some (mlQ i true,[],Ta p q (av (ZK p f t)) (WC t) (iA (wI (i-1))) []):=dj
theorem Akc:AY dm oDn0 (some 0) 100 0 mlK (Ta p q (av f) t (iA i) d_)=some (mlQ i false,[],Ta p q (av (lC p q f t)) (lD q t) (iA (wI (i-1))) []):=dj
noncomputable def ZL (x:R gk) (e:Int):AV:=.tup [(true,av x),(false,[.n .i64 e])]
noncomputable def IK (f:R gk):R gk:=en (Qx.conj (mo f))
theorem Akd:AT dm oDn0 mlF 100 0 [] (Ta p q (av f) t (iA i) dt)=some ([(decide (0≤i),false)],[],ZL (IK f) 0,[]):=dj
end
def Ake:Nat:=15132376222941642752
def O4 (c:Nat):Bool:=decide (Ake / 2^c % 2=0)
theorem Akf:(List.range 63).all (fun c=>lE (c:Int)==O4 c)=true:=dj
theorem Akg {c:Nat} (h:c<63):lE (c:Int)=O4 c:=beq_iff_eq.1 (mw.1 Akf c (lz.2 h))
noncomputable section
def HE (p:Pt FP) (q:P2):Nat→gk→P2→gk
 | 0,f,_=>f
 | c+1,f,t=>match O4 c with
  | true=>HE p q c (f*f*IJ t t p) (Rg.add t t)
  | false=>HE p q c (f*f*IJ t t p*IJ (Rg.add t t) q p) (Rg.add (Rg.add t t) q)
theorem ABF (p:R (Pt FP)) (f:gk) (t:P2):ZK p (en f) (en t)=en (f*f*IJ t t (mo p)):=by unfold ZK mu;simp only [mo_en]
theorem lF (t:P2):WC (en t)=en (Rg.add t t):=by unfold WC;rw [mo_en]
theorem ALU (p:R (Pt FP)) (q:R P2) (f:gk) (t:P2):lC p q (en f) (en t)=en (f*f*IJ t t (mo p)*IJ (Rg.add t t) (mo q) (mo p)):=by
 unfold lC;rw [ABF,lF];unfold mu;simp only [mo_en]
theorem ALV (q:R P2) (t:P2):lD q (en t)=en (Rg.add (Rg.add t t) (mo q)):=by
 unfold lD;rw [lF,mo_en]
section
variable {β0:Env} {w0:World} (hb:∀ b,0≤b→β0 b=none) (p:R (Pt FP)) (q:R P2)
include hb in
theorem ALW:∀ (c:Nat) (f:gk) (t:P2),c≤63→gn dm 157 β0 w0 (A_ β0 w0 [] (ZL (en (Qx.conj (HE (mo p) (mo q) c f t))) 0) []) mlF.ntmps [] (Ta p q (av (en f:R gk)) (en t) (iA ((c:Int)-1)) [])
 | 0,f,t,_=>by
  have h:=Ay (w0:=w0) (W:=[]) (n:=mlF.ntmps) lB AB func157 (Akd p q (en f) (en t) (((0:Nat):Int)-1)) ⟨rfl,trivial⟩ (AS dj) hb jb
  have e:IK (en f)=en (Qx.conj f):=by unfold IK;rw [mo_en]
  rw [e] at h;exact Af dt h
 | c+1,f,t,hc=>by
  have hi:((c+1:Nat):Int)-1=(c:Int):=dk
  have hn:wI ((c:Int)-1)=(c:Int)-1:=Au dk
  have hB:=Akg (c:=c) dk
  have hq:∀ b,lE (c:Int)=b→AO (mlQ c b):=fun b h=>⟨jc dk,jc dk,h,trivial⟩
  rw [hi];have ih:=fun f t=>ALW c f t dk
  unfold HE;cases hm:O4 c with
  | true =>
   refine Af dw (Ai lB AB (Akb p q (en f) (en t) c) (hq _ (hB.trans hm)) (AS dj) hb jb fun _=>?_)
   rw [hn,ABF,lF];exact ih _ _
  | false =>
   refine Af d_ (Ai lB AB (Akc p q (en f) (en t) c) (hq _ (hB.trans hm)) (AS dj) hb jb fun _=>?_)
   rw [hn,ALU,ALV];exact ih _ _
end
end
noncomputable section
def Hj (P:Pt FP) (Q:P2):Bool:=BE P&&BH Q
def L_ (P:Pt FP) (Q:P2):Bool:=E4 P||E4 Q
def DQ (P:Pt FP) (Q:P2):gk:=match Hj P Q with
 | false=>0
 | true=>match L_ P Q with
  | true=>1
  | false=>Qx.conj (HE P Q 63 1 Q)
def lG (P:Pt FP) (Q:P2):Int:=match Hj P Q with
 | false=>120
 | true=>0
def O5:List Ch:=List.replicate 72 (.n .u64 0)
theorem ALX:(rd O5:Option (R gk))=some (en (0:gk)):=dj
def WD (P:Pt FP) (Q:P2):AV:=.tup [(true,av (en (DQ P Q):R gk)),(false,[.n .i64 (lG P Q)])]
section
variable (p:R (Pt FP)) (q:R P2)
theorem Akh:AT dm oDn0 mlF 300 0 [] (TZ p q dw)=some ([(!BE (mo p:Pt FP),true)],[],.tup [(true,O5),(false,[.n .i64 120])],[]):=dj
theorem Aki:AT dm oDn0 mlF 300 0 [] (TZ p q dx)=some ([(!BE (mo p:Pt FP),false),(!BH (mo q),true)],[],.tup [(true,O5),(false,[.n .i64 120])],[]):=dj
theorem Akj:AT dm oDn0 mlF 300 0 [] (TZ p q ep)=some ([(!BE (mo p:Pt FP),false),(!BH (mo q),false),(p.2.2,true)],[],.tup [(true,Hh),(false,[.n .i64 0])],[]):=dj
theorem Akk:AT dm oDn0 mlF 300 0 [] (TZ p q ef)=some ([(!BE (mo p:Pt FP),false),(!BH (mo q),false),(p.2.2,false),(q.2.2,true)],[],.tup [(true,Hh),(false,[.n .i64 0])],[]):=dj
end
theorem ABG {F:FuncId} {args:List AV} {e:Int} {c:List Ch} {r:R gk} (h:Ab dm F args [] 0 [] (.tup [(true,c),(false,[.n .i64 e])]) []) (hr:rd c=some r):Ab dm F args [] 0 [] (.tup [(true,av r),(false,[.n .i64 e])]) [] :=
 BL h fun _ _ hu=>by
  obtain ⟨us,⟨u1,l1,⟨q1,p1,rfl⟩,q2,rfl⟩,rfl⟩:=hu;exact ⟨_,⟨_,_,⟨q1,Sh.rd_ok hr p1,rfl⟩,q2,rfl⟩,rfl⟩
theorem lH {p:R (Pt FP)} {q:R P2} {v:AV} {c:dp} {b:List Bool} (h:AT dm oDn0 mlF 300 0 [] (TZ p q b)=some (c,[],v,[])) (hc:AO c):Ab dm 157 [va (Pt FP) p,va P2 q] [] 0 [] v [] :=
 Bs ALS BS func157 dj dj h dj hc
theorem Akl (p:R (Pt FP)):E4 (mo p:Pt FP)=p.2.2:=by obtain ⟨a,b,i⟩:=p;cases i<;>rfl
theorem Akm (q:R P2):E4 (mo q)=q.2.2:=by obtain ⟨a,b,i⟩:=q;cases i<;>rfl
theorem ALY {F:FuncId} {p:R (Pt FP)} {q:R P2} (k1:BE (mo p:Pt FP)=false→Ab dm F [va (Pt FP) p,va P2 q] [] 0 [] (.tup [(true,O5),(false,[.n .i64 120])]) [])
  (k2:BE (mo p:Pt FP)=true→BH (mo q)=false→Ab dm F [va (Pt FP) p,va P2 q] [] 0 [] (.tup [(true,O5),(false,[.n .i64 120])]) [])
  (k3:BE (mo p:Pt FP)=true→BH (mo q)=true→p.2.2=true→Ab dm F [va (Pt FP) p,va P2 q] [] 0 [] (.tup [(true,Hh),(false,[.n .i64 0])]) [])
  (k4:BE (mo p:Pt FP)=true→BH (mo q)=true→p.2.2=false→q.2.2=true→Ab dm F [va (Pt FP) p,va P2 q] [] 0 [] (.tup [(true,Hh),(false,[.n .i64 0])]) [])
  (k5:BE (mo p:Pt FP)=true→BH (mo q)=true→p.2.2=false→q.2.2=false→Ab dm F [va (Pt FP) p,va P2 q] [] 0 [] (ZL (en (Qx.conj (HE (mo p) (mo q) 63 1 (mo q)))) 0) []) :
  Ab dm F [va (Pt FP) p,va P2 q] [] 0 [] (WD (mo p) (mo q)) []:=by
 have e1:=Akl p;have e2:=Akm q;unfold WD DQ lG;cases h1:BE (mo p:Pt FP) with
 | false =>
  have hB:Hj (mo p) (mo q)=false:=by unfold Hj;rw [h1];rfl
  rw [hB];exact ABG (k1 h1) ALX
 | true=>cases h2:BH (mo q) with
  | false =>
   have hB:Hj (mo p) (mo q)=false:=by unfold Hj;rw [h1,h2];rfl
   rw [hB];exact ABG (k2 h1 h2) ALX
  | true =>
   have hB:Hj (mo p) (mo q)=true:=by unfold Hj;rw [h1,h2];rfl
   have fin:L_ (mo p) (mo q)=true→Ab dm F [va (Pt FP) p,va P2 q] [] 0 [] (.tup [(true,Hh),(false,[.n .i64 0])]) []→Ab dm F [va (Pt FP) p,va P2 q] [] 0 [] (.tup [(true,av (en (match L_ (mo p) (mo q) with | true=>1 | false=>Qx.conj (HE (mo p) (mo q) 63 1 (mo q)):gk):R gk)),(false,[.n .i64 0])]) []:=fun hI h=>by
    rw [hI];show Ab _ _ _ _ _ _ (.tup [(true,av (en (1:gk):R gk)),(false,[.n .i64 0])]) _;rw [← TY];exact ABG h AA7
   rw [hB];cases i1:p.2.2 with
   | true=>exact fin (by unfold L_;rw [e1,i1];rfl) (k3 h1 h2 i1)
   | false=>cases i2:q.2.2 with
    | true=>exact fin (by unfold L_;rw [e1,e2,i1,i2];rfl) (k4 h1 h2 i1 i2)
    | false =>
     have hI:L_ (mo p) (mo q)=false:=by unfold L_;rw [e1,e2,i1,i2];rfl
     rw [hI];exact k5 h1 h2 i1 i2
theorem ABH (β:Env) (l:List Value) (h:AQ β Hh l):AQ β (av (en (1:gk):R gk)) l:=by rw [← TY];exact Sh.rd_ok AA7 h
theorem Akn (p:R (Pt FP)) (q:R P2):Ab dm 157 [va (Pt FP) p,va P2 q] [] 0 [] (WD (mo p) (mo q)) []:=by
 refine ALY (fun h1=>lH (Akh p q) ⟨by rw [h1];rfl,trivial⟩) (fun h1 h2=>lH (Aki p q) ⟨by rw [h1];rfl,by rw [h2];rfl,trivial⟩) (fun h1 h2 i1=>lH (Akj p q) ⟨by rw [h1];rfl,by rw [h2];rfl,i1,trivial⟩)
  (fun h1 h2 i1 i2=>lH (Akk p q) ⟨by rw [h1];rfl,by rw [h2];rfl,i1,i2,trivial⟩) fun h1 h2 i1 i2=>?_
 refine A7 (gv:=[]) func157 dj dj fun β0 w0 hb=>?_
 refine Af ee (Ai lB AB (Aka p q) ⟨by rw [h1];rfl,by rw [h2];rfl,i1,i2,trivial⟩ (AS dj) hb jb fun _=>?_)
 refine IY (N2 ?_ (ALW hb p q 63 1 (mo q) (jj _)))
 exact ⟨rfl,rfl,rfl,fun β l h=>h,rfl,rfl,rfl,fun β l h=>h,rfl,rfl,rfl,fun β l h=>h,rfl,rfl,rfl,ABH,rfl,rfl,rfl,fun β l h=>h,trivial⟩
def lI (α β:Type) [Sh α] [Sh β] (g:R α→R β→AV):ASpec:=fun args _ fr gv=>match args with
 | [.val true a,.val true b]=>match (rd a:Option (R α)),(rd b:Option (R β)) with
  | some r,some s=>some (BR [] 0 fr 0 [] (g r s) [] [] gv)
  | _,_=>none
 | _=>none
theorem ALZ {α β:Type} [Sh α] [Sh β] {f:FuncId} {fn:Func} {g:R α→R β→AV} (ip:dm.funcs[f]? = some fn) (hb:fn.body.isSome=true) (h_:fo fn) (hk:∀ r s,EU 0 0 [] (g r s) []=true)
  (h:∀ r s,Ab dm f [va α r,va β s] [] 0 [] (g r s) []):BJ dm f (lI α β g):=by
 refine Da ip hb h_ fun args H0 fr gv r hs=>?_
 unfold lI at hs;split at hs;case h_2=>cases hs
 split at hs;case h_2=>cases hs
 rename_i x y hx hy;injection hs with hs;refine ⟨[],0,0,[],_,_,_,_,hs.symm,fun β us w ha hgd hc=>?_⟩
 obtain ⟨u1,iu,r1,⟨u2,iw,r2,ha,rfl⟩,rfl⟩:=ha;exact ⟨_,[],h x y,hk _ _,⟨u1,_,F_ hx r1,⟨u2,iw,F_ hy r2,ha,rfl⟩,rfl⟩,AJ4,fun k hk=>by omega⟩
end
noncomputable abbrev rlF:Func:=f123
noncomputable def Td (p:R (Pt FP)) (q:R P2) (b:List Bool):gq:=Aj rlF [va (Pt FP) p,va P2 q] [] 0 b
noncomputable def Ako:List Item:=CB (AY dm oDm (some 0) 100 0 none (Td ((0:Nat),(0:Nat),false) (en (.pt 0 0:P2)) ee))
noncomputable def Te (p:R (Pt FP)) (q:R P2) (f:List Ch) (t:R P2) (i:AV) (b:List Bool):gq:=⟨Ako,⟨EC rlF.ntmps [(2,.val false [.p 0 0]),(3,.val false [.p 1 0]),(4,.val false [.p 2 0]),(8,.val false [.p 4 0]),(9,.val false [.p 5 0]),(10,i)],
 [(0,some ⟨42,av p,false⟩),(1,some ⟨70,av q,false⟩),(2,some ⟨83,List.replicate 72 (.n .u64 0),false⟩),(4,some ⟨83,f,false⟩),(5,some ⟨70,av t,false⟩)],6,b⟩⟩
abbrev ABI:Option (List Nat×List Nat×Nat):=some ([2,3,4,8,9,10],[0,1,2,4,5],6)
theorem Akp (p:R (Pt FP)) (q:R P2):AY dm oDm (some 0) 100 0 ABI (Td p q ee)=some (mlC p q,[],Te p q Hh (re P2 q) (.val false [.n .i64 62]) []):=dj
noncomputable def lJ (i:Int):Bool:=decide (bits .and .u64 (Int.fdiv 15132376222941642752 (2^min (Int.toNat (AX false .u64 i)) (IntKind.bits .u64))) 1=1)
noncomputable def rlQ (i:Int) (b:Bool):dp:=[(decide (0≤i),true),(decide (0≤AX false .u64 i∧(0:Int)≤15132376222941642752),true),(lJ i,b)]
section
variable (p:R (Pt FP)) (q:R P2) (f:R gk) (t:R P2) (i:Int)
theorem Akq:AY dm oDm (some 0) 100 0 ABI (Te p q (av f) t (iA i) d_)=some (rlQ i false,[],Te p q (av (ZK p f t)) (WC t) (iA (wI (i-1))) []):=dj
theorem Akr:AY dm oDm (some 0) 100 0 ABI (Te p q (av f) t (iA i) dw)=some (rlQ i true,[],Te p q (av (lC p q f t)) (lD q t) (iA (wI (i-1))) []):=dj
theorem Aks:AT dm oDm rlF 100 0 [] (Te p q (av f) t (iA i) dt)=some ([(decide (0≤i),false)],[],ZL (IK f) 0,[]):=dj
theorem Akt:AT dm oDm rlF 300 0 [] (Td p q dw)=some ([(!BE (mo p:Pt FP),true)],[],.tup [(true,O5),(false,[.n .i64 120])],[]):=dj
theorem Aku:AT dm oDm rlF 300 0 [] (Td p q dx)=some ([(!BE (mo p:Pt FP),false),(!BH (mo q),true)],[],.tup [(true,O5),(false,[.n .i64 120])],[]):=dj
theorem Akv:AT dm oDm rlF 300 0 [] (Td p q ep)=some ([(!BE (mo p:Pt FP),false),(!BH (mo q),false),(p.2.2,true)],[],.tup [(true,Hh),(false,[.n .i64 0])],[]):=dj
theorem Akw:AT dm oDm rlF 300 0 [] (Td p q ef)=some ([(!BE (mo p:Pt FP),false),(!BH (mo q),false),(p.2.2,false),(q.2.2,true)],[],.tup [(true,Hh),(false,[.n .i64 0])],[]):=dj
end
theorem Akx:(List.range 63).all (fun c=>lJ (c:Int)==!O4 c)=true:=dj
theorem Aky:(List.range 63).all (fun c=>decide (0≤AX false .u64 (c:Int)∧(0:Int)≤15132376222941642752))=true:=dj
section
variable {β0:Env} {w0:World} (hb:∀ b,0≤b→β0 b=none) (p:R (Pt FP)) (q:R P2)
include hb in
theorem ALa:∀ (c:Nat) (f:gk) (t:P2),c≤63→gn dm 123 β0 w0 (A_ β0 w0 [] (ZL (en (Qx.conj (HE (mo p) (mo q) c f t))) 0) []) rlF.ntmps [] (Te p q (av (en f:R gk)) (en t) (iA ((c:Int)-1)) [])
 | 0,f,t,_=>by
  have h:=Ay (w0:=w0) (W:=[]) (n:=rlF.ntmps) ZJ AB func123 (Aks p q (en f) (en t) (((0:Nat):Int)-1)) ⟨rfl,trivial⟩ (AS dj) hb jb
  have e:IK (en f)=en (Qx.conj f):=by unfold IK;rw [mo_en]
  rw [e] at h;exact Af dt h
 | c+1,f,t,hc=>by
  have hi:((c+1:Nat):Int)-1=(c:Int):=dk
  have hn:wI ((c:Int)-1)=(c:Int)-1:=Au dk
  have hB:lJ (c:Int)=!O4 c:=beq_iff_eq.1 (mw.1 Akx c (lz.2 dk))
  have hw:=mw.1 Aky c (lz.2 dk)
  have hq:∀ b,lJ (c:Int)=b→AO (rlQ c b):=fun b h=>⟨jc dk,hw,h,trivial⟩
  rw [hi];have ih:=fun f t=>ALa c f t dk
  unfold HE;cases hm:O4 c with
  | true =>
   refine Af d_ (Ai ZJ AB (Akq p q (en f) (en t) c) (hq _ (by rw [hB,hm];rfl)) (AS dj) hb jb fun _=>?_)
   rw [hn,ABF,lF];exact ih _ _
  | false =>
   refine Af dw (Ai ZJ AB (Akr p q (en f) (en t) c) (hq _ (by rw [hB,hm];rfl)) (AS dj) hb jb fun _=>?_)
   rw [hn,ALU,ALV];exact ih _ _
end
theorem lK {p:R (Pt FP)} {q:R P2} {v:AV} {c:dp} {b:List Bool} (h:AT dm oDm rlF 300 0 [] (Td p q b)=some (c,[],v,[])) (hc:AO c):Ab dm 123 [va (Pt FP) p,va P2 q] [] 0 [] v [] :=
 Bs k9 BS func123 dj dj h dj hc
theorem Akz (p:R (Pt FP)) (q:R P2):Ab dm 123 [va (Pt FP) p,va P2 q] [] 0 [] (WD (mo p) (mo q)) []:=by
 refine ALY (fun h1=>lK (Akt p q) ⟨by rw [h1];rfl,trivial⟩) (fun h1 h2=>lK (Aku p q) ⟨by rw [h1];rfl,by rw [h2];rfl,trivial⟩) (fun h1 h2 i1=>lK (Akv p q) ⟨by rw [h1];rfl,by rw [h2];rfl,i1,trivial⟩)
  (fun h1 h2 i1 i2=>lK (Akw p q) ⟨by rw [h1];rfl,by rw [h2];rfl,i1,i2,trivial⟩) fun h1 h2 i1 i2=>?_
 refine A7 (gv:=[]) func123 dj dj fun β0 w0 hb=>?_
 refine Af ee (Ai ZJ AB (Akp p q) ⟨by rw [h1];rfl,by rw [h2];rfl,i1,i2,trivial⟩ (AS dj) hb jb fun _=>?_)
 refine IY (N2 ?_ (ALa hb p q 63 1 (mo q) (jj _)))
 exact ⟨rfl,rfl,rfl,fun β l h=>h,rfl,rfl,rfl,fun β l h=>h,rfl,rfl,rfl,fun β l h=>h,rfl,rfl,rfl,ABH,rfl,rfl,rfl,fun β l h=>h,trivial⟩
theorem ALb:∃ f:Pt FP→P2→gk,∀ P Q,f P Q=DQ P Q:=⟨_,fun _ _=>rfl⟩
noncomputable def lpO:Pt FP→P2→gk:=Classical.choose ALb
theorem ALc (P:Pt FP) (Q:P2):lpO P Q=DQ P Q:=kq ALb P Q
theorem ALd:∃ f:Pt FP→P2→Int,∀ P Q,f P Q=lG P Q:=⟨_,fun _ _=>rfl⟩
noncomputable def lpN:Pt FP→P2→Int:=Classical.choose ALd
theorem Ak0 (P:Pt FP) (Q:P2):lpN P Q=lG P Q:=kq ALd P Q
noncomputable def lL (p:R (Pt FP)) (q:R P2):AV:=.tup [(true,av (en (lpO (mo p) (mo q)):R gk)),(false,[.v (.int .i64 (lpN (mo p) (mo q)))])]
theorem ALf {F:FuncId} {p:R (Pt FP)} {q:R P2} (h:Ab dm F [va (Pt FP) p,va P2 q] [] 0 [] (WD (mo p) (mo q)) []):Ab dm F [va (Pt FP) p,va P2 q] [] 0 [] (lL p q) []:=by
 unfold WD at h;unfold lL;rw [ALc,Ak0];refine BL h fun _ _ hu=>?_
 obtain ⟨us,⟨u1,l1,q1,⟨u2,l2,q2,hn,rfl⟩,rfl⟩,rfl⟩:=hu;obtain ⟨he,hb⟩:=Az q2;exact ⟨_,⟨_,_,q1,⟨_,_,Aw ⟨he,rfl,hb⟩,hn,rfl⟩,rfl⟩,rfl⟩
noncomputable def SDq:dr:=(157,lI (Pt FP) P2 lL)::(123,lI (Pt FP) P2 lL)::SDm
theorem ABL:AW dm SDq:=⟨ALZ func157 dj dj (fun _ _=>by kernel_rfl) fun p q=>ALf (Akn p q),ALZ func123 dj dj (fun _ _=>by kernel_rfl) fun p q=>ALf (Akz p q),k9⟩
noncomputable abbrev oDq:gr:=AH SDq KV
theorem ABM:gp dm oDq:=AJ ABL BS
noncomputable section
def SDr0:dr:=(288,BF dm oDq f288 300)::(289,BF dm oDq f289 300)::(256,BF dm oDq f256 300)::SDq
theorem Ak1:AW dm SDr0:=⟨BK ABM AB func288 dj dj 300,BK ABM AB func289 dj dj 300,BK ABM AB func256 dj dj 300,ABL⟩
noncomputable abbrev oDr0:gr:=AH SDr0 KV
theorem ALg:gp dm oDr0:=AJ Ak1 BS
theorem Ak2 (r:R gk):AM dm oDr0 f272 [va gk r] [] 600=some ([],va gk (fbR r)):=dj
def sxL:dn:=[0x49aa7ffffffff1c7,0x51caaaa72e35555,0xe688231ad3c82906,0xe613e1eb7deb831f,0xc849bf3b5e1f223,0x45582fc5eeaa66f]
def xiR:R gj:=((1:Nat),(1:Nat))
def lM:R gj:=en (VD (mo xiR:gj) (AK (AA sxL 0 6)))
def Jj (k:Nat):R gj:=match k with
 | 0=>oR
 | k+1=>mu gj (Jj k) lM
def frR (r:R gk):R gk:=((mu gj (cj r.1.1) (Jj 0),mu gj (cj r.1.2.1) (Jj 2),mu gj (cj r.1.2.2) (Jj 4)),(mu gj (cj r.2.1) (Jj 1),mu gj (cj r.2.2.1) (Jj 3),mu gj (cj r.2.2.2) (Jj 5)))
theorem Ak3 (r:R gk):AM dm oDr0 f198 [va gk r] [] 2000=some (tt 2 [],va gk (frR r)):=dj
theorem Ak4 (g:gj) (x:gk):(Rg.qM (Rg.kM Qx.conj (g*g)) ⟨g,0,0⟩ x:gk)=⟨⟨Qx.conj x.a.a,Qx.conj x.a.b*(g*g),Qx.conj x.a.c*(g*g*g*g)⟩,⟨Qx.conj x.b.a*g,Qx.conj x.b.b*(g*g*g),Qx.conj x.b.c*(g*g*g*g*g)⟩⟩:=by
 refine Qx.ext (Kx.ext rfl rfl ?_) (Kx.ext ?_ ?_ ?_)
 ·exact ring [Qx.conj x.a.c,g] (a:=Qx.conj x.a.c*(g*g*(g*g))) (b:=Qx.conj x.a.c*(g*g*g*g)) dj
 ·exact ring [Qx.conj x.b.a,Qx.conj x.b.b,Qx.conj x.b.c,g,xi] (a:=Qx.conj x.b.a*g+xi*(Qx.conj x.b.b*(g*g)*0+Qx.conj x.b.c*(g*g*(g*g))*0)) (b:=Qx.conj x.b.a*g) dj
 ·exact ring [Qx.conj x.b.a,Qx.conj x.b.b,Qx.conj x.b.c,g,xi] (a:=Qx.conj x.b.a*0+Qx.conj x.b.b*(g*g)*g+xi*(Qx.conj x.b.c*(g*g*(g*g))*0)) (b:=Qx.conj x.b.b*(g*g*g)) dj
 ·exact ring [Qx.conj x.b.a,Qx.conj x.b.b,Qx.conj x.b.c,g,xi] (a:=Qx.conj x.b.a*0+Qx.conj x.b.b*(g*g)*0+Qx.conj x.b.c*(g*g*(g*g))*g) (b:=Qx.conj x.b.c*(g*g*g*g*g)) dj
theorem ALj:∃ g:gj,g=CA:=⟨_,rfl⟩
def lN:gj:=Classical.choose ALj
theorem ABO:lN=CA:=kq ALj
def ZM (g:gj) (x:gk):gk:=⟨⟨Qx.conj x.a.a*1,Qx.conj x.a.b*(1*g*g),Qx.conj x.a.c*(1*g*g*g*g)⟩,⟨Qx.conj x.b.a*(1*g),Qx.conj x.b.b*(1*g*g*g),Qx.conj x.b.c*(1*g*g*g*g*g)⟩⟩
theorem Ak5 (g:gj) (x:gk):ZM g x=Rg.qM (Rg.kM Qx.conj (g*g)) ⟨g,0,0⟩ x:=by
 rw [Ak4];unfold ZM;simp only [Rg.one_mul,Rg.mul_one]
theorem ALk (x:gk):ZM lN x=gh x:=by rw [Ak5,ABO];rfl
theorem Ak6 (r:R gk) (h:(mo lM:gj)=lN):frR r=en (gh (mo r)):=by
 rw [← ALk,← h];unfold frR ZM Jj Jj Jj Jj Jj Jj mu cj;simp only [mo_en,ZA];rfl
theorem Ak7:(mo xiR:gj)=xi:=Qx.ext EB EB
theorem Ak8:(mo lM:gj)=lN:=by
 unfold lM;rw [mo_en,gN,Ak7,show AK (AA sxL 0 6)=(pN-1) / 6 from by kernel_rfl,AhW,ABO]
theorem Ak9:(mo ALB:gj)=CA:=Vn dj
theorem Ak_:(mo ALC:gj)=CA*CA:=Vn dj
theorem Ak':(mo ALD:gj)=CA*CA*CA:=Vn dj
theorem AlA:(mo ALE:gj)=CA*CA*CA*CA:=Vn dj
theorem AlB:(mo ALF:gj)=CA*CA*CA*CA*CA:=Vn dj
theorem AlC:(mo ALA:gj)=1:=ZA
theorem AlD (r:R gk):fbR r=en (gh (mo r)):=by
 rw [← ALk];unfold fbR ZM mu cj;rw [AlC,Ak9,Ak_,Ak',AlA,AlB,← ABO];simp only [mo_en,Rg.one_mul];rfl
theorem ALl:∃ f:gk→gk,∀ x,f x=gh x:=⟨_,fun _=>rfl⟩
def fbO:gk→gk:=Classical.choose ALl
theorem ABQ (x:gk):fbO x=gh x:=kq ALl x
def WE (r:R gk):AV:=va gk (en (fbO (mo r)))
theorem AlE (r:R gk):AU dm 272 [va gk r] (WE r):=by
 unfold WE;rw [ABQ,← AlD];exact AP ALg AB func272 (Ak2 r) trivial rfl
theorem AlF (r:R gk):AU dm 198 [va gk r] (WE r):=by
 unfold WE;rw [ABQ,← Ak6 r Ak8];exact AP ALg AB func198 (Ak3 r) (AI 2 trivial) rfl
def SDr:dr:=(272,Ac (Bi gk WE))::(198,Ac (Bi gk WE))::SDq
theorem ALm:AW dm SDr:=⟨Ad func272 dj dj (Bm AlE),Ad func198 dj dj (Bm AlF),ABL⟩
noncomputable abbrev oDr:gr:=AH SDr KV
theorem Ke:gp dm oDr:=AJ ALm BS
end
noncomputable section
def ppE (r:R gk) (gu n m:Nat) (xs:dn):gq:=Aj f80 [va gk r,AR 0 gu n m] (BG xs) 1 []
def prE (r:R gk) (gu n m:Nat) (xs:dn):gq:=Aj f199 [va gk r,AR 0 gu n m] (BG xs) 1 []
def AlG:List Item:=CB (AY dm oDr (some 0) 100 1 none (ppE (en (0:gk)) 0 0 0 []))
def AlH:List Item:=CB (AY dm oDr (some 0) 100 1 none (prE (en (0:gk)) 0 0 0 []))
def Ko (r:R gk) (gu n m:Nat) (xs:dn) (bg:Bool) (v:List Ch) (L i:AV) (p:List Bool):gq:=⟨AlG,⟨EC f80.ntmps [(1,AR 0 gu n m),(2,.val false [.p 1 0]),(4,.val false [.p 2 0]),(5,.val false [.p 3 0]),(6,.val false [.b bg]),(15,L),(16,i)],
 [(0,some (Ak [.seq .u64 xs])),(1,some ⟨83,av r,false⟩),(2,some ⟨83,O5,false⟩),(3,some ⟨83,v,false⟩)],4,p⟩⟩
def Kp (r:R gk) (gu n m:Nat) (xs:dn) (bg:Bool) (v:List Ch) (i:AV) (p:List Bool):gq:=⟨AlH,⟨EC f199.ntmps [(1,AR 0 gu n m),(2,.val false [.p 1 0]),(4,.val false [.p 2 0]),(5,.val false [.p 4 0]),(6,.val false [.b bg]),(7,i)],
 [(0,some (Ak [.seq .u64 xs])),(1,some ⟨83,av r,false⟩),(2,some ⟨83,O5,false⟩),(4,some ⟨83,v,false⟩)],5,p⟩⟩
abbrev ZN:Option (List Nat×List Nat×Nat):=some ([1,2,4,5,6,15,16],[0,1,2,3],4)
abbrev ZO:Option (List Nat×List Nat×Nat):=some ([1,2,4,5,6,7],[0,1,2,4],5)
theorem AlI (r:R gk) (gu n m:Nat) (xs:dn):AY dm oDr (some 0) 100 1 ZN (ppE r gu n m xs)=some ([(AL .i64 n,true)],[],Ko r gu n m xs false Hh (iA (wI (64*(n:Int)))) (.val false [.n .i64 0]) []):=dj
theorem AlJ (r:R gk) (gu n m:Nat) (xs:dn):AY dm oDr (some 0) 100 1 ZO (prE r gu n m xs)=some ([(AL .i64 n,true)],[],Kp r gu n m xs false Hh (iA (wI (wI (64*(n:Int))-1))) []):=dj
def NN (n:Nat) (i:Int):Int:=wI (wI (wI (64*(n:Int))-1)-i)
def WF (gu n:Nat) (xs:dn) (L i:Int) (bit:Bool):dp:=[(decide (i<L),true),(AL .i64 n,true),(true,true),(decide (0≤wI (Int.tdiv (NN n i) 64)∧wI (Int.tdiv (NN n i) 64)<n),true),(decide (gu+(wI (Int.tdiv (NN n i) 64)).toNat*1<xs.length),true),
 (decide (0≤NN n i∧(0:Int)<64),true),(decide (0≤Int.tmod (NN n i) 64∧0≤CY xs gu (NN n i)),true),(decide (JG (CY xs gu (NN n i)) (Int.tmod (NN n i) 64)=1),bit)]
section
variable (r v:R gk) (gu n m:Nat) (xs:dn) (L i:Int)
theorem AlK:AY dm oDr (some 0) 100 1 ZN (Ko r gu n m xs false (av v) (iA L) (iA i) d_)=some (WF gu n xs L i false,[],Ko r gu n m xs false (av v) (iA L) (iA (wI (i+1))) []):=dj
theorem AlL:AY dm oDr (some 0) 100 1 ZN (Ko r gu n m xs false (av v) (iA L) (iA i) dw)=some (WF gu n xs L i true,[],Ko r gu n m xs true (av (mu gk v r)) (iA L) (iA (wI (i+1))) []):=dj
theorem AlM:AY dm oDr (some 0) 100 1 ZN (Ko r gu n m xs true (av v) (iA L) (iA i) d_)=some (WF gu n xs L i false,[],Ko r gu n m xs true (av (mu gk v v)) (iA L) (iA (wI (i+1))) []):=dj
theorem AlN:AY dm oDr (some 0) 100 1 ZN (Ko r gu n m xs true (av v) (iA L) (iA i) dw)=some (WF gu n xs L i true,[],Ko r gu n m xs true (av (mu gk (mu gk v v) r)) (iA L) (iA (wI (i+1))) []):=dj
theorem AlO (b:Bool):AT dm oDr f80 100 1 [] (Ko r gu n m xs b (av v) (iA L) (iA i) dt)=some ([(decide (i<L),false)],[],va gk v,[]):=dj
theorem AlP:AY dm oDr (some 0) 100 1 ZO (Kp r gu n m xs false (av v) (iA i) d_)=some (LO gu n xs i false,[],Kp r gu n m xs false (av v) (iA (wI (i-1))) []):=dj
theorem AlQ:AY dm oDr (some 0) 100 1 ZO (Kp r gu n m xs false (av v) (iA i) dw)=some (LO gu n xs i true,[],Kp r gu n m xs true (av (mu gk v r)) (iA (wI (i-1))) []):=dj
theorem AlR:AY dm oDr (some 0) 100 1 ZO (Kp r gu n m xs true (av v) (iA i) d_)=some (LO gu n xs i false,[],Kp r gu n m xs true (av (mu gk v v)) (iA (wI (i-1))) []):=dj
theorem AlS:AY dm oDr (some 0) 100 1 ZO (Kp r gu n m xs true (av v) (iA i) dw)=some (LO gu n xs i true,[],Kp r gu n m xs true (av (mu gk (mu gk v v) r)) (iA (wI (i-1))) []):=dj
theorem AlT (b:Bool):AT dm oDr f199 100 1 [] (Kp r gu n m xs b (av v) (iA i) dt)=some ([(decide (0≤i),false)],[],va gk v,[]):=dj
end
end
noncomputable section
theorem AlU (a:gk) (k:Nat):pw a k*pw a k=pw a (k+k):=(Rn a k k).symm
def Jn (E c:Nat):Bool:=!decide (E / 2^c=0)
def DF (x:gk) (E c:Nat):R gk:=en (pw x (E / 2^c))
theorem ALp (x:gk) (E c:Nat):mu gk (DF x E c) (DF x E c)=en (pw x (2*(E / 2^c))):=by unfold DF mu;rw [mo_en,AlU,qf]
theorem ALq (x:R gk) (k:Nat):mu gk (en (pw (mo x) k)) x=en (pw (mo x) (k+1)):=by unfold mu;rw [mo_en];rfl
def pvM (S:Bool→R gk→Prop) (x v:R gk) (b:Bool) (bit:Nat):Prop:=match b with
 | false=>match bit with
  | 0=>S false v
  | _=>S true (mu gk v x)
 | true=>match bit with
  | 0=>S true (mu gk v v)
  | _=>S true (mu gk (mu gk v v) x)
theorem ALr {S:Bool→R gk→Prop} {x:R gk} {E c:Nat} (h:∀ b,b=Jn E c→S b (DF (mo x) E c)) (bit:Nat) (hb:E / 2^c % 2=bit):pvM S x (DF (mo x) E (c+1)) (Jn E (c+1)) bit:=by
 have hd:=fA E c;have hbit:bit=0∨bit=1:=dk
 cases hz:Jn E (c+1) with
 | false =>
  have h0:E / 2^(c+1)=0:=by
   have:decide (E / 2^(c+1)=0)=true:=by unfold Jn at hz;cases hq:decide (E / 2^(c+1)=0)<;>rw [hq] at hz<;>first | rfl | cases hz
   exact jx this
  rcases hbit with e | e
  ·subst e;have e1:E / 2^c=0:=dk
   have e2:DF (mo x) E (c+1)=DF (mo x) E c:=by unfold DF;rw [h0,e1]
   show S false (DF (mo x) E (c+1));rw [e2];exact h false (by unfold Jn;rw [jc e1];rfl)
  ·subst e;have e1:E / 2^c=1:=dk
   have e2:mu gk (DF (mo x) E (c+1)) x=DF (mo x) E c:=by unfold DF;rw [h0,e1,ALq]
   show S true (mu gk (DF (mo x) E (c+1)) x);rw [e2];exact h true (by unfold Jn;rw [jg dk];rfl)
 | true =>
  have h0:E / 2^(c+1)≠0:=by
   have:decide (E / 2^(c+1)=0)=false:=by unfold Jn at hz;cases hq:decide (E / 2^(c+1)=0)<;>rw [hq] at hz<;>first | rfl | cases hz
   exact pf this
  have hn:true=Jn E c:=by unfold Jn;rw [jg dk];rfl
  rcases hbit with e | e
  ·subst e;have e1:mu gk (DF (mo x) E (c+1)) (DF (mo x) E (c+1))=DF (mo x) E c:=by rw [ALp,show 2*(E / 2^(c+1))=E / 2^c by omega];rfl
   show S true (mu gk (DF (mo x) E (c+1)) (DF (mo x) E (c+1)));rw [e1];exact h true hn
  ·subst e;have e1:mu gk (mu gk (DF (mo x) E (c+1)) (DF (mo x) E (c+1))) x=DF (mo x) E c:=by rw [ALp,ALq,show 2*(E / 2^(c+1))+1=E / 2^c by omega];rfl
   show S true (mu gk (mu gk (DF (mo x) E (c+1)) (DF (mo x) E (c+1))) x);rw [e1];exact h true hn
section
variable {β0:Env} {w0:World} (hb:∀ b,1≤b→β0 b=none) (x:R gk) {gu n:Nat} (m:Nat) {xs:dn} (g_:∀ d∈xs,0≤d∧d<18446744073709551616) (gx:gu+n≤xs.length) (hn:n≤1125899906842624)
include hb g_ gx hn in
theorem ALs:∀ c b,c≤64*n→b=Jn (AK (AA xs gu n)) c→gn dm 199 β0 w0 (A_ β0 w0 [] (ve (pw (mo x:gk) (AK (AA xs gu n)))) []) f199.ntmps [] (Kp x gu n m xs b (av (DF (mo x) (AK (AA xs gu n)) c)) (iA ((c:Int)-1)) [])
 | 0,b,_,_=>by
  have h:=Ay (w0:=w0) (W:=[]) (n:=f199.ntmps) Ke AB func199 (AlT x (DF (mo x) (AK (AA xs gu n)) 0) gu n m xs (((0:Nat):Int)-1) b) ⟨rfl,trivial⟩ (AS dj) hb jb
  have e:DF (mo x) (AK (AA xs gu n)) 0=en (pw (mo x:gk) (AK (AA xs gu n))):=by unfold DF;rw [kf,ko]
  rw [e] at h ⊢;exact Af dt h
 | c+1,b,hc,hbz=>by
  have hi:((c+1:Nat):Int)-1=(c:Int):=dk
  obtain ⟨hw,hjn,hv0,hr0,hbit⟩:=YF (gu:=gu) g_ hn (c:=c) dk
  obtain ⟨hq1,hq2⟩:=Xp xs gu c;rw [← hq1] at hbit;have ij:wI ((c:Int)-1)=(c:Int)-1:=Au dk
  have ib:∀ bit,decide (LN xs gu c=1)=bit→AO (LO gu n xs c bit):=by
   intro bit hbt;refine ⟨by simp,rfl,?_,?_,by simp,by simp only [ji];rw [hq2];exact ⟨hr0,hv0⟩,hbt,trivial⟩
   ·rw [hw];simp;omega
   ·rw [hw];simp;omega
  rw [hi];have ih:=ALr (S:=fun b v=>gn dm 199 β0 w0 (A_ β0 w0 [] (ve (pw (mo x:gk) (AK (AA xs gu n)))) []) f199.ntmps [] (Kp x gu n m xs b (av v) (iA ((c:Int)-1)) [])) (x:=x) (fun b h=>ALs c b dk h)
  rcases nf (AK (AA xs gu n) / 2^c) with h0 | h1
  ·have hk:=ib false (by rw [hbit,h0];rfl)
   have ih:=ih 0 h0;rw [← hbz] at ih;cases b with
   | false=>exact Af [true,false] (Ai Ke AB (AlP ..) hk (AS dj) hb jb fun _=>by rw [ij];exact ih)
   | true=>exact Af [true,false] (Ai Ke AB (AlR ..) hk (AS dj) hb jb fun _=>by rw [ij];exact ih)
  ·have hk:=ib true (by rw [hbit,h1];rfl)
   have ih:=ih 1 h1;rw [← hbz] at ih;cases b with
   | false=>exact Af [true,true] (Ai Ke AB (AlQ ..) hk (AS dj) hb jb fun _=>by rw [ij];exact ih)
   | true=>exact Af [true,true] (Ai Ke AB (AlS ..) hk (AS dj) hb jb fun _=>by rw [ij];exact ih)
include hb g_ gx hn in
theorem ALt:∀ c b,c≤64*n→b=Jn (AK (AA xs gu n)) c→gn dm 80 β0 w0 (A_ β0 w0 [] (ve (pw (mo x:gk) (AK (AA xs gu n)))) []) f80.ntmps [] (Ko x gu n m xs b (av (DF (mo x) (AK (AA xs gu n)) c)) (iA (64*(n:Int))) (iA (64*(n:Int)-c)) [])
 | 0,b,_,_=>by
  have h:=Ay (w0:=w0) (W:=[]) (n:=f80.ntmps) Ke AB func80 (AlO x (DF (mo x) (AK (AA xs gu n)) 0) gu n m xs (64*(n:Int)) (64*(n:Int)-((0:Nat):Int)) b) ⟨jg dk,trivial⟩ (AS dj) hb jb
  have e:DF (mo x) (AK (AA xs gu n)) 0=en (pw (mo x:gk) (AK (AA xs gu n))):=by unfold DF;rw [kf,ko]
  rw [e] at h ⊢;exact Af dt h
 | c+1,b,hc,hbz=>by
  obtain ⟨hw,hjn,hv0,hr0,hbit⟩:=YF (gu:=gu) g_ hn (c:=c) dk
  have hk:NN n (64*(n:Int)-((c+1:Nat):Int))=(c:Int):=by
   unfold NN;rw [Au (z:=64*(n:Int)) dk,Au (z:=64*(n:Int)-1) dk,Au dk];omega
  have ij:wI (64*(n:Int)-((c+1:Nat):Int)+1)=64*(n:Int)-(c:Int):=by rw [Au dk];omega
  have ib:∀ bit,decide (JG (CY xs gu c) (Int.tmod c 64)=1)=bit→AO (WF gu n xs (64*(n:Int)) (64*(n:Int)-((c+1:Nat):Int)) bit):=by
   intro bit hbt;unfold WF;rw [hk];refine ⟨jc dk,Mr hn,rfl,?_,?_,by simp,by simp only [ji];exact ⟨hr0,hv0⟩,hbt,trivial⟩
   ·rw [hw];simp;omega
   ·rw [hw];simp;omega
  have ih:=ALr (S:=fun b v=>gn dm 80 β0 w0 (A_ β0 w0 [] (ve (pw (mo x:gk) (AK (AA xs gu n)))) []) f80.ntmps [] (Ko x gu n m xs b (av v) (iA (64*(n:Int))) (iA (64*(n:Int)-c)) [])) (x:=x) (fun b h=>ALt c b dk h)
  rcases nf (AK (AA xs gu n) / 2^c) with h0 | h1
  ·have hk:=ib false (by rw [hbit,h0];rfl)
   have ih:=ih 0 h0;rw [← hbz] at ih;cases b with
   | false=>exact Af [true,false] (Ai Ke AB (AlK ..) hk (AS dj) hb jb fun _=>by rw [ij];exact ih)
   | true=>exact Af [true,false] (Ai Ke AB (AlM ..) hk (AS dj) hb jb fun _=>by rw [ij];exact ih)
  ·have hk:=ib true (by rw [hbit,h1];rfl)
   have ih:=ih 1 h1;rw [← hbz] at ih;cases b with
   | false=>exact Af [true,true] (Ai Ke AB (AlL ..) hk (AS dj) hb jb fun _=>by rw [ij];exact ih)
   | true=>exact Af [true,true] (Ai Ke AB (AlN ..) hk (AS dj) hb jb fun _=>by rw [ij];exact ih)
end
theorem ALu {E n:Nat} (h:E<2^(64*n)):false=Jn E (64*n):=by unfold Jn;rw [lm h,jc rfl];rfl
theorem AlW (x:gk) {E n:Nat} (h:E<2^(64*n)):DF x E (64*n)=en (1:gk):=by unfold DF;rw [lm h];rfl
theorem ALv {x:gk} {E n:Nat} (h:E<2^(64*n)) (β:Env) (l:List Value) (hl:AQ β Hh l):AQ β (av (DF x E (64*n))) l:=by rw [AlW x h];exact ABH β l hl
theorem AlX {gu n m:Nat} {xs:dn} (g_:∀ d∈xs,0≤d∧d<18446744073709551616) (gx:gu+n≤xs.length) (hn:n≤1125899906842624) (x:R gk) :
  Ab dm 199 [va gk x,AR 0 gu n m] (BG xs) 1 [] (ve (pw (mo x:gk) (AK (AA xs gu n)))) []:=by
 refine A7 (gv:=[]) func199 dj dj fun β0 w0 hb=>?_
 refine Ai Ke AB (AlJ x gu n m xs) ⟨Mr hn,trivial⟩ (AS dj) hb jb fun _=>?_
 have hl:=YG g_ gx;have e3:wI (wI (64*(n:Int))-1)=((64*n:Nat):Int)-1:=by
  rw [Au (z:=64*(n:Int)) dk,Au dk];omega
 rw [e3];refine N2 ?_ (ALs hb x m g_ gx hn (64*n) false (jj _) (ALu hl))
 exact ⟨rfl,rfl,rfl,fun β l h=>h,rfl,rfl,rfl,fun β l h=>h,rfl,rfl,rfl,fun β l h=>h,rfl,rfl,rfl,ALv hl,trivial⟩
theorem AlY {gu n m:Nat} {xs:dn} (g_:∀ d∈xs,0≤d∧d<18446744073709551616) (gx:gu+n≤xs.length) (hn:n≤1125899906842624) (x:R gk) :
  Ab dm 80 [va gk x,AR 0 gu n m] (BG xs) 1 [] (ve (pw (mo x:gk) (AK (AA xs gu n)))) []:=by
 refine A7 (gv:=[]) func80 dj dj fun β0 w0 hb=>?_
 refine Ai Ke AB (AlI x gu n m xs) ⟨Mr hn,trivial⟩ (AS dj) hb jb fun _=>?_
 have hl:=YG g_ gx;have h:=ALt (w0:=w0) hb x m g_ gx hn (64*n) false (jj _) (ALu hl)
 have e3:64*(n:Int)-((64*n:Nat):Int)=0:=dk
 rw [e3] at h;rw [Au (z:=64*(n:Int)) dk];refine IY (N2 ?_ h)
 exact ⟨rfl,rfl,rfl,fun β l h=>h,rfl,rfl,rfl,fun β l h=>h,rfl,rfl,rfl,fun β l h=>h,rfl,rfl,rfl,ALv hl,trivial⟩
theorem ALw:∃ f:gk→Nat→gk,∀ a k,f a k=pw a k:=⟨_,fun _ _=>rfl⟩
def ZP:gk→Nat→gk:=Classical.choose ALw
theorem ZQ (a:gk) (k:Nat):ZP a k=pw a k:=kq ALw a k
def SDt:dr:=(80,D9 (YT gk fun r l=>ve (ZP (mo r:gk) (AK l))))::(199,YT gk fun r l=>ve (ZP (mo r:gk) (AK l)))::SDr
theorem ALx:AW dm SDt:=⟨EV (xF func80 dj dj (fun _ _=>by kernel_rfl) fun _ _ _ _ r hx hl hn=>by rw [ZQ];exact AlY hx hl hn r),xF func199 dj dj (fun _ _=>by kernel_rfl) fun _ _ _ _ r hx hl hn=>by rw [ZQ];exact AlX hx hl hn r,ALm⟩
noncomputable abbrev oDt:gr:=AH SDt KV
theorem ZR:gp dm oDt:=AJ ALx BS
end
noncomputable section
def SDu0:dr:=(271,BF dm oDt f271 300)::(156,BF dm oDt f156 300)::(226,BF dm oDt f226 300)::(200,BF dm oDt f200 300)::(54,BF dm oDt f54 300)::SDt
theorem ALy:AW dm SDu0:=⟨BK ZR AB func271 dj dj 300,BK ZR AB func156 dj dj 300,BK ZR AB func226 dj dj 300,BK ZR AB func200 dj dj 300,BK ZR AB func54 dj dj 300,ALx⟩
noncomputable abbrev oDu0:gr:=AH SDu0 KV
theorem AlZ:gp dm oDu0:=AJ ALy BS
def SDu1:dr:=(225,BF dm oDu0 f225 300)::SDu0
theorem ALz:AW dm SDu1:=⟨BK AlZ AB func225 dj dj 300,ALy⟩
noncomputable abbrev oDu1:gr:=AH SDu1 KV
theorem AL0:gp dm oDu1:=AJ ALz BS
def Kq (r:R gk):R gk:=en (fbO (mo r))
def Kr (r:R gk) (l:dn):R gk:=en (ZP (mo r) (AK (AA l 0 l.length)))
def eeL:dn:=[0x8c00aaab0000aaab,0x396c8c005555e156]
def xxL:dn:=[0xd201000000010000]
def rg (f:R gk):R gk:=mu gk (IK f) (iv gk f)
def rh (g:R gk):R gk:=mu gk (Kq (Kq g)) g
def rbb (a:R gk):R gk:=mu gk (IK (Kr a xxL)) (Kq a)
def rcc (b:R gk):R gk:=mu gk (mu gk (IK (Kr (IK (Kr b xxL)) xxL)) (Kq (Kq b))) (IK b)
def ABR (f:R gk):R gk:=mu gk (rcc (rbb (Kr (rh (rg f)) eeL))) (rh (rg f))
theorem Ala (r:R gk):AM dm oDu1 f124 [va gk r] [] 2000=some (tt 8 [],va gk (ABR r)):=dj
def pg (f:R gk):R gk:=mu gk (mu gk o12 (IK f)) (iv gk f)
def ph (g:R gk):R gk:=mu gk (mu gk o12 (Kq (Kq (re gk g)))) g
def pbb (a:R gk):R gk:=mu gk (mu gk o12 (IK (Kr a xxL))) (Kq (re gk a))
def pcc (b:R gk):R gk:=mu gk (mu gk (mu gk o12 (Kr (Kr b xxL) xxL)) (Kq (Kq (re gk b)))) (IK b)
def ABS (f:R gk):R gk:=mu gk (mu gk o12 (pcc (pbb (Kr (ph (pg f)) eeL)))) (ph (pg f))
def Alb:List Bool:=[true,true,false,true,true,false,true,true,false,true,true,true,false,true,true,false]
theorem Alc (r:R gk):AM dm oDu1 f158 [va gk r] Alb 2000=some (tt 5 ((false,false)::tt 5 ((false,false)::tt 9 ((false,false)::tt 11 ((false,false)::tt 5 ((false,false)::[]))))),va gk (ABS r)):=dj
end
noncomputable section
section
variable (a b:R gk)
theorem AL5:(mo (mu gk a b):gk)=mo a*mo b:=mo_en _
theorem AL6:(mo (IK a):gk)=Qx.conj (mo a):=mo_en _
theorem AL7:(mo (iv gk a):gk)=FD.inv (mo a):=mo_en _
theorem Ald:(mo (re gk a):gk)=mo a:=mo_en _
theorem AL8:(mo (Kq a):gk)=gh (mo a):=by unfold Kq;rw [mo_en,ABQ]
theorem Ale:AK (AA eeL 0 eeL.length)=EE:=by rw [Aha];kernel_rfl
theorem Alf:AK (AA xxL 0 xxL.length)=XX:=by rw [AhZ];kernel_rfl
theorem AL9:(mo (Kr a eeL):gk)=pw (mo a) EE:=by unfold Kr;rw [mo_en,ZQ,Ale]
theorem AL_:(mo (Kr a xxL):gk)=pw (mo a) XX:=by unfold Kr;rw [mo_en,ZQ,Alf]
theorem Alg:(mo o12:gk)=1:=by rw [TY];exact mo_en _
theorem AL':mu gk a b=en (mo a*mo b:gk):=rfl
end
theorem Alh (x:gk) (k:Nat):Qx.conj (pw (Qx.conj x) k)=pw x k:=by
 rw [(Qx.conj_rh (β:=vv)).mh.pwc,Qx.conj_conj]
theorem Ali (f:R gk):ABR f=en (finF (mo f)):=by
 unfold ABR;rw [AL'];refine jl en ?_
 simp only [rcc,rbb,rh,rg,AL5,AL6,AL7,AL8,AL9,AL_,Alh,finF,SM]
theorem Alj (f:R gk):ABS f=en (finF (mo f)):=by
 unfold ABS;rw [AL'];refine jl en ?_
 simp only [pcc,pbb,ph,pg,AL5,AL6,AL7,AL8,AL9,AL_,Ald,Alg,Rg.one_mul,finF,SM]
theorem AMA:∃ f:gk→gk,∀ x,f x=finF x:=⟨_,fun _=>rfl⟩
def fiO:gk→gk:=Classical.choose AMA
theorem ABU (x:gk):fiO x=finF x:=kq AMA x
def WG (r:R gk):AV:=va gk (en (fiO (mo r)))
theorem Alk (r:R gk):AU dm 158 [va gk r] (WG r):=by
 unfold WG;rw [ABU,← Alj];exact AP AL0 AB func158 (Alc r) (AI 5 ⟨rfl,AI 5 ⟨rfl,AI 9 ⟨rfl,AI 11 ⟨rfl,AI 5 ⟨rfl,trivial⟩⟩⟩⟩⟩) rfl
theorem All (r:R gk):AU dm 124 [va gk r] (WG r):=by
 unfold WG;rw [ABU,← Ali];exact AP AL0 AB func124 (Ala r) (AI 8 trivial) rfl
def SDv:dr:=(158,Ac (Bi gk WG))::(124,Ac (Bi gk WG))::SDu1
theorem Alm:AW dm SDv:=⟨Ad func158 dj dj (Bm Alk),Ad func124 dj dj (Bm All),ALz⟩
end
noncomputable section
noncomputable def SEa0:dr:=SDv++(SCj++SCl1)
theorem AMB:AW dm SEa0:=KU Alm (KU Aio Air)
noncomputable abbrev oEa0:gr:=AH SEa0 KV
theorem ABV:gp dm oEa0:=AJ AMB BS
noncomputable def SEa1:dr:=(79,BF dm oEa0 f79 2000)::(56,BF dm oEa0 f56 2000)::(77,BF dm oEa0 f77 300)::SEa0
theorem Aln:AW dm SEa1:=⟨BK ABV AB func79 dj dj 2000,BK ABV AB func56 dj dj 2000,BK ABV AB func77 dj dj 300,AMB⟩
def KW12:List (TypeId×List (Option IntKind)):=(83,List.replicate 72 (some .u64))::KV
theorem WH:MT dm KW12:=⟨⟨dj,dj,dj⟩,BS⟩
end
noncomputable section
noncomputable def SEb0:dr:=SWe++(SEa1++SVg)
theorem lO:AW dm SEb0:=KU AeO (KU Aln iC)
noncomputable abbrev oEb0:gr:=AH SEb0 KW12
theorem ABW:gp dm oEb0:=AJ lO WH
noncomputable def SEb1:dr:=(32,BF dm oEb0 f32 900)::(30,BF dm oEb0 f30 300)::(12,BF dm oEb0 f12 300)::SEb0
theorem Alo:AW dm SEb1:=⟨BK ABW AB func32 dj dj 900,BK ABW AB func30 dj dj 300,BK ABW AB func12 dj dj 300,lO⟩
noncomputable abbrev oEb1:gr:=AH SEb1 KW12
theorem AMC:gp dm oEb1:=AJ Alo WH
end
noncomputable section
theorem AMD (l x y:gj) (a b:FP):NM l x y a (-b)=Qx.conj (NM l x y a b):=Qx.ext rfl (Kx.ext (HL (F:=gj)).symm (Qx.ext rfl (HL (F:=FP)).symm) (HL (F:=gj)).symm)
theorem Alp (x:gj) (a:FP):Qx.conj (O3 x a)=O3 x a:=Qx.ext rfl (HL (F:=gl))
theorem AME (T Q:P2) (p:Pt FP):IJ T Q (Rg.neg p)=Qx.conj (IJ T Q p):=by
 have h1:(1:gk)=Qx.conj 1:=(Qx.conj_rh.one).symm
 cases p with
 | inf=>exact h1
 | pt a b=>cases T with
  | inf=>exact h1
  | pt x y=>cases Q with
   | inf=>exact h1
   | pt x' y' =>
    show Qm x y x' y' a (-b)=Qx.conj (Qm x y x' y' a b);unfold Qm;split
    ·split
     ·exact AMD ..
     ·exact (Alp ..).symm
    ·exact AMD ..
theorem ABX (p:Pt FP) (q:P2):∀ (c:Nat) (f:gk) (t:P2),HE (Rg.neg p) q c (Qx.conj f) t=Qx.conj (HE p q c f t)
 | 0,_,_=>rfl
 | c+1,f,t=>by
  unfold HE;cases O4 c with
  | true =>
   simp only [AME,← Qx.conj_rh.mul];exact ABX p q c _ _
  | false =>
   simp only [AME,← Qx.conj_rh.mul];exact ABX p q c _ _
theorem Alq (p:Pt FP):BE (Rg.neg p)=BE p:=by
 cases p with
 | inf=>rfl
 | pt a b =>
  have e:(-b)*(-b)=b*b:=ring [b] dj
  simp only [BE,Rg.neg,e]
theorem Alr (p:Pt FP) (q:P2):DQ (Rg.neg p) q=Qx.conj (DQ p q):=by
 have hI:L_ (Rg.neg p) q=L_ p q:=by cases p<;>rfl
 have hB:Hj (Rg.neg p) q=Hj p q:=by unfold Hj;rw [Alq]
 unfold DQ;rw [hI,hB];cases Hj p q with
 | false=>exact (Qx.conj_rh.zero).symm
 | true=>cases L_ p q with
  | true=>exact (Qx.conj_rh.one).symm
  | false =>
   have:=ABX p q 63 1 q
   rw [Qx.conj_rh.one] at this;show Qx.conj (HE (Rg.neg p) q 63 1 q)=Qx.conj (Qx.conj (HE p q 63 1 q));rw [this]
theorem ABY {T Q:P2} {a b:FP} (ha:a≠0) (hb:b≠0):IJ T Q (.pt a b)≠0:=by
 have h1:(1:gk)≠0:=FD.one_ne
 have hl:∀ l x y:gj,NM l x y a b≠0:=fun l x y e=>hb (jl (fun z:gk=>z.b.b.a) e)
 have hu:∀ x:gj,O3 x a≠0:=fun x e=>by
  have:-a=0:=jl (fun z:gk=>z.a.b.a) e
  exact ha (by rw [← Rg.neg_neg a,this,HL])
 cases T with
 | inf=>exact h1
 | pt x y=>cases Q with
  | inf=>exact h1
  | pt x' y' =>
   show Qm x y x' y' a b≠0;unfold Qm;split
   ·split
    ·exact hl _ _ _
    ·exact hu _
   ·exact hl _ _ _
theorem ABZ {a b:FP} (ha:a≠0) (hb:b≠0) (q:P2):∀ (c:Nat) (f:gk) (t:P2),f≠0→HE (.pt a b) q c f t≠0
 | 0,_,_,h=>h
 | c+1,f,t,h=>by
  unfold HE;cases O4 c with
  | true=>exact ABZ ha hb q c _ _ (DK (DK h h) (ABY ha hb))
  | false=>exact ABZ ha hb q c _ _ (DK (DK (DK h h) (ABY ha hb)) (ABY ha hb))
theorem Als {a b:FP} (ha:a≠0) (hb:b≠0) {q:P2} (h:Hj (.pt a b) q=true):DQ (.pt a b) q≠0:=by
 unfold DQ;rw [h];have h1:(1:gk)≠0:=FD.one_ne
 cases L_ (.pt a b) q with
 | true=>exact h1
 | false =>
  intro e;refine ABZ ha hb q 63 1 q h1 ?_
  have:Qx.conj (Qx.conj (HE (.pt a b) q 63 1 q))=Qx.conj 0:=jl Qx.conj e
  rwa [Qx.conj_conj,Qx.conj_rh.zero] at this
theorem Alt {a b:FP} (ha:a≠0) (hb:b≠0) {q:P2} (h:Hj (.pt a b) q=true) (A:gk):A*finF (DQ (Rg.neg (.pt a b)) q)=1↔A=finF (DQ (.pt a b) q):=by
 have e:=Ahb (Als ha hb h)
 rw [Alr];constructor
 ·intro h;have:A*finF (Qx.conj (DQ (.pt a b) q))*finF (DQ (.pt a b) q)=finF (DQ (.pt a b) q):=by rw [h,Rg.one_mul]
  rw [mul_assoc,mul_comm (finF (Qx.conj _)),e,mul_one] at this;exact this
 ·rintro rfl
  exact e
end
abbrev Rw:Type:=Nat×Nat×Nat×dn
def rowAt (H:Heap) (c:Ch):Option Rw:=match Im (.val false [c]) with
 | some (k,n,m)=>match AG H k with
  | some ⟨_,cs,_⟩=>match A8 .u8 cs with
   | some xs=>some (k,n,m,xs)
   | none=>none
  | none=>none
 | none=>none
def Qo (H:Heap):List Ch→Option (List Rw)
 | []=>some []
 | c::r=>match rowAt H c,Qo H r with
  | some x,some l=>some (x::l)
  | _,_=>none
def Bn (r:Rw):Bool:=Nat.ble r.2.1 r.2.2.2.length&&(Nat.ble r.2.1 r.2.2.1&&(AL .i64 (r.2.1:Int)&&Nat.ble r.2.1 4398046511104))
def FU:List Rw→Bool
 | []=>true
 | r::l=>Bn r&&FU l
def AE (r:Rw):dn:=AA r.2.2.2 0 r.2.1
def EH:List Rw→List (dn)
 | []=>[]
 | r::l=>AE r::EH l
def D1 (j:Nat):List Rw→List Ch
 | []=>[]
 | r::l=>.sl j 0 r.2.1 r.2.2.1::D1 (j+1) l
def DR:List Rw→List gt
 | []=>[]
 | r::l=>Ak [.seq .u8 r.2.2.2]::DR l
def EI:List Rw→List Nat
 | []=>[]
 | r::l=>r.1::EI l
def BU:List Rw→Nat
 | []=>0
 | _::l=>BU l+1
theorem NO:∀ l:List Rw,BU l=l.length
 | []=>rfl
 | _::l=>by rw [BU,NO l];rfl
def Qp (H:Heap) (A:AV):Option (Nat×Nat×List Rw):=match DZ A with
 | some (K,0,n)=>match AG H K with
  | some ⟨_,cs,_⟩=>match Qo H cs with
   | some rs=>some (K,n,rs)
   | none=>none
  | none=>none
 | _=>none
theorem lP {r:Rw} (h:Bn r=true):r.2.1≤r.2.2.2.length∧r.2.1≤r.2.2.1∧AL .i64 (r.2.1:Int)=true∧r.2.1≤4398046511104:=by
 unfold Bn at h;obtain ⟨h1,h⟩:=jo.1 h;obtain ⟨h2,h⟩:=jo.1 h;obtain ⟨h3,h4⟩:=jo.1 h;exact ⟨jf h1,jf h2,h3,jf h4⟩
theorem ABa {k n m:Nat} {xs:dn} (h1:n≤xs.length) (h2:n≤m) (h3:AL .i64 (n:Int)=true) (h4:n≤4398046511104):Bn (k,n,m,xs)=true:=by
 unfold Bn;simp only [jh h1,jh h2,h3,jh h4];rfl
theorem Ed:∀ {l:List Rw} {r:Rw},FU l=true→r∈l→Bn r=true
 | x::l,r,h,hr=>by
  obtain ⟨h1,h2⟩:=jo.1 h;rcases ju.1 hr with rfl | hr
  ·exact h1
  ·exact Ed h2 hr
def WI (β:Env) (w:World) (r:Rw):Prop:=(∃ X,β r.1=some X)∧∀ (β':Env) (j:Nat),β' j=β r.1→DS β' (Ak [.seq .u8 r.2.2.2]) j w
theorem WJ {β β':Env} {k j n m:Nat} {l:List Value} (e:β' j=β k) (h:BM β (.sl k 0 n m) l):BM β' (.sl j 0 n m) l:=by
 rcases h with ⟨B,q,q1,q2⟩ | ⟨q1,q2⟩ | ⟨q1,q2⟩
 ·exact .inl ⟨B,q,by rw [e];exact q1,q2⟩
 ·exact .inr (.inl ⟨by rw [e];exact q1,q2⟩)
 ·exact .inr (.inr ⟨by rw [e];exact q1,q2⟩)
theorem Alu {β:Env} {c:Ch} {x:Nat×Nat×Nat} (h:Im (.val false [c])=some x) {l:List Value} (hr:BM β c l):∃ u,l=[u]:=by
 unfold Im at h;split at h
 ·rename_i he;injection he with _ he;injection he with he _;subst he;rcases hr with ⟨B,q,_,e⟩ | ⟨_,_,_,_,e⟩ | ⟨_,_,_,_,_,_,e⟩<;>exact ⟨_,e⟩
 ·rename_i he;injection he with _ he;injection he with he _;subst he;rcases hr with ⟨B,q,cap,_,e,_⟩ | ⟨_,_,e⟩<;>exact ⟨_,e⟩
 ·cases h
theorem lR {β:Env} {H:Heap} {w:World} {c:Ch} {r:Rw} {l:List Value} (hg:Ex.Good β H w) (h:rowAt H c=some r) (hb:Bn r=true) (hr:BM β c l) :
  ∃ m,Bn (r.1,r.2.1,m,r.2.2.2)=true∧BM β (.sl r.1 0 r.2.1 m) l∧WI β w (r.1,r.2.1,m,r.2.2.2):=by
 obtain ⟨b1,b2,b3,b4⟩:=lP hb;unfold rowAt at h;split at h;case h_2=>cases h
 rename_i k n m hS;split at h;case h_2=>cases h
 rename_i ty cs o hk;split at h;case h_2=>cases h
 rename_i xs hx;injection h with h;subst h;obtain ⟨u,rfl⟩:=Alu hS hr;obtain ⟨m',hm',r1⟩:=KM hS b2 (Aw hr)
 refine ⟨m',ABa b1 hm' b3 b4,Az r1,CS (hg.heap _ _ hk),fun β' j e=>?_⟩
 refine UJ (hg.heap _ _ hk) e (.inl ⟨rfl,rfl,nofun⟩) fun l h=>?_
 obtain ⟨q1,q2⟩:=DU hx h;exact ⟨_,[],⟨q1,q2⟩,rfl,by simp⟩
theorem AMF {β:Env} {H:Heap} {w:World} (hg:Ex.Good β H w):∀ {cs:List Ch} {rs:List Rw} {l:List Value},Qo H cs=some rs→FU rs=true→AQ β cs l →
  ∃ rs':List Rw,FU rs'=true∧EH rs'=EH rs∧EI rs'=EI rs∧(∀ r∈rs',WI β w r)∧∀ (β':Env) (j:Nat),(∀ i r,rs'[i]? = some r→β' (j+i)=β r.1)→AQ β' (D1 j rs') l
 | [],rs,l,h,_,hr=>by
  injection h with h;subst h;exact ⟨[],rfl,rfl,rfl,jb,fun _ _ _=>hr⟩
 | c::cs,rs,l,h,hb,⟨l1,l2,h1,h2,h3⟩=>by
  simp only [Qo] at h;split at h;case h_2=>cases h
  rename_i x rl hx hrl;injection h with h;subst h;obtain ⟨b1,b2⟩:=jo.1 hb;obtain ⟨m,m1,m2,m3⟩:=lR hg hx b1 h1;obtain ⟨rs',r1,r2,r3,r4,r5⟩:=AMF hg hrl b2 h2;refine ⟨(x.1,x.2.1,m,x.2.2.2)::rs',jo.2 ⟨m1,r1⟩,?_,?_,fun r hr=>?_,fun β' j hj=>?_⟩
  ·show AE _::_=AE _::_;rw [r2];rfl
  ·show _::_=_::_;rw [r3]
  ·rcases ju.1 hr with rfl | hr
   ·exact m3
   ·exact r4 r hr
  ·refine ⟨l1,l2,WJ (hj 0 _ rfl) m2,r5 β' (j+1) fun i r hi=>?_,h3⟩
   rw [show j+1+i=j+(i+1) by omega]
   exact hj (i+1) r hi
theorem AMG {H:Heap}:∀ {cs:List Ch} {rs:List Rw},Qo H cs=some rs→IS cs=true
 | [],_,_=>rfl
 | c::cs,rs,h=>by
  simp only [Qo] at h;split at h;case h_2=>cases h
  rename_i x rl hx hrl;have ih:=AMG hrl;unfold rowAt at hx;split at hx;case h_2=>cases hx
  rename_i k n m hS;unfold Im at hS;split at hS
  ·rename_i he;injection he with _ he;injection he with he _;subst he;exact ih
  ·rename_i he;injection he with _ he;injection he with he _;subst he;exact ih
  ·cases hS
theorem AMH {β:Env} {K:Nat} {b:gt} {w:World} (h:DS β b K w) (hw:IS b.cs=true):∃ l,AQ β b.cs l∧∀ (β':Env) (cs':List Ch) (K':Nat),β' K'=β K→AQ β' cs' l→DS β' (Ak cs') K' w:=by
 rcases h with ⟨B,n,l,t,pre,ty',fz,q1,q2,q3,q4,_⟩ | ⟨X,q1,q2,q3⟩ | ⟨B,l,es,q,q1,q2,q3,q4⟩
 ·exact ⟨l,q2,fun β' cs' j he hr=>.inl ⟨B,n,l,t,pre,ty',fz,he.trans q1,hr,q3,q4,fun h=>absurd rfl h⟩⟩
 ·refine ⟨[],q3,fun β' cs' j he hr=>.inr (.inl ⟨X,he.trans q1,?_,hr⟩)⟩
  cases X with
  | at_=>exact q2
  | nil=>exact Or.inr rfl
  | emp=>exact ⟨rfl,rfl⟩
 ·exact absurd (qg ..) (Zi hw q3)
theorem AMI:∀ {fs:List Rw} {i:Nat} {d:gt},(DR fs)[i]? = some d→∃ r,fs[i]? = some r∧d=Ak [.seq .u8 r.2.2.2]
 | [],_,_,h=>by simp [DR] at h
 | r::fs,0,d,h=>⟨r,rfl,by simpa [DR] using h.symm⟩
 | r::fs,i+1,d,h=>by
  obtain ⟨x,h1,h2⟩:=AMI (fs:=fs) (i:=i) (by simpa [DR] using h)
  exact ⟨x,by simpa using h1,h2⟩
theorem WK:∀ fs:List Rw,(DR fs).length=fs.length
 | []=>rfl
 | _::fs=>by rw [DR,kp,WK fs,kp]
theorem ABb (b:List Nat) (i:Nat):∀ a:List Nat,Ex.nth (a++b) (a.length+i)=Ex.nth b i
 | []=>by rw [nm,List.length_nil,ka]
 | x::a=>by
  rw [nh,kp,show a.length+1+i=(a.length+i)+1 by omega]
  exact ABb b i a
theorem AMJ (b:List Nat):∀ (a:List Nat) (i:Nat),i<a.length→Ex.nth (a++b) i=Ex.nth a i
 | [],_,h=>by simp at h
 | _::_,0,_=>rfl
 | _::a,i+1,h=>AMJ b a i (by simpa using h)
theorem ABc:∀ {fs:List Rw} {i:Nat} {r:Rw},fs[i]? = some r→Ex.nth (EI fs) i=r.1
 | [],_,_,h=>by simp at h
 | x::fs,0,r,h=>by injection h with h;subst h;rfl
 | x::fs,i+1,r,h=>ABc (fs:=fs) (by simpa using h)
section
variable {β:Env} {H:Heap} {w:World} {hs:List Nat} {hb:List gt} {fs:List Rw}
theorem AMK (hl:hb.length=hs.length) {i:Nat} {r:Rw} (h:fs[i]? = some r):A9 β (hs++EI fs) (hb++DR fs).length (hs.length+i)=β r.1:=by
 have hi:i<fs.length:=by
  rcases jv i fs.length with q | q
  ·exact q
  ·rw [ma q] at h;cases h
 rw [FK (by rw [kc,WK,hl];omega),ABb,ABc h]
theorem Alv (g:Ex.Good β H w) (hl:hb.length=hs.length) (hv:∀ r∈fs,WI β w r) (hh:∀ j d,hb[j]? = some d→d.ty=Bu∧DS (A9 β (hs++EI fs) (hb++DR fs).length) d j w) :
  Ex.Good (A9 β (hs++EI fs) (hb++DR fs).length) (LF 0 (hb++DR fs)) w:=by
 refine NH g fun j d hj=>?_
 rcases jv j hb.length with q | q
 ·rw [nr q] at hj;exact hh j d hj
 ·rw [qv q] at hj;obtain ⟨r,h1,rfl⟩:=AMI hj;refine ⟨rfl,(hv r (ol h1)).2 _ j ?_⟩
  have:=AMK (β:=β) hl h1
  rwa [show hs.length+(j-hb.length)=j by omega] at this
theorem Alw (hl:hb.length=hs.length) (hv:∀ r∈fs,WI β w r) (hh:∀ j,j<hs.length→∃ X,β (Ex.nth hs j)=some X):∀ k,k<(hb++DR fs).length→∃ X,β (Ex.nth (hs++EI fs) k)=some X:=by
 intro k hk;rw [kc,WK] at hk;rcases jv k hs.length with q | q
 ·rw [AMJ _ _ _ q];exact hh k q
 ·have hi:k-hs.length<fs.length:=dk
  have e:fs[k-hs.length]? = some fs[k-hs.length]:=mq hi
  have:=ABb (EI fs) (k-hs.length) hs
  rw [show hs.length+(k-hs.length)=k by omega] at this
  rw [this,ABc e];exact (hv _ (ol e)).1
end
theorem AML {β:Env} {H:Heap} {w:World} {A:AV} {K n:Nat} {rs:List Rw} {u:Value} (hg:Ex.Good β H w) (h:Qp H A=some (K,n,rs)) (hb:FU rs=true) (hr:AN β A u) :
  ∃ (M:Nat) (rs':List Rw),FU rs'=true∧EH rs'=EH rs∧EI rs'=EI rs∧(∀ r∈rs',WI β w r)∧(∃ X,β K=some X)∧(∀ (β':Env) (j:Nat),β' j=β K→AN β' (AR j 0 n M) u) ∧
   ∀ (β':Env) (j K':Nat),β' K'=β K→(∀ i r,rs'[i]? = some r→β' (j+i)=β r.1)→DS β' (Ak (D1 j rs')) K' w:=by
 unfold Qp at h;split at h;case h_2=>cases h
 rename_i K' n' hS;split at h;case h_2=>cases h
 rename_i ty cs o hk;split at h;case h_2=>cases h
 rename_i rl hrl;injection h with h;injection h with e1 h;injection h with e2 e3;subst e1;subst e2;subst e3;obtain ⟨M,r1⟩:=FE hS hr;obtain ⟨l,l1,l2⟩:=AMH (hg.heap _ _ hk) (AMG hrl)
 obtain ⟨rs',q1,q2,q3,q4,q5⟩:=AMF hg hrl hb l1;refine ⟨M,rs',q1,q2,q3,q4,CS (hg.heap _ _ hk),fun β' j e=>?_,fun β' j K2 e he=>l2 β' _ K2 e (q5 β' j he)⟩
 obtain ⟨x1,x2,y1,y2,y3⟩:=r1;exact ⟨x1,x2,WJ e y1,y2,y3⟩
theorem AMM {a b:List Rw} (h:EH a=EH b):a.length=b.length:=by
 have e:∀ l:List Rw,(EH l).length=l.length:=by
  intro l;induction l with
  | nil=>rfl
  | cons x l ih=>rw [EH,kp,ih,kp]
 rw [← e a,← e b,h]
def lS:Ch→Option Nat
 | .sl _ _ n _=>some n
 | .sx _ n _=>some n
 | .v (.slice _ n _)=>some n
 | _=>none
def WL:List Ch→Option (List Nat)
 | []=>some []
 | c::r=>match lS c,WL r with
  | some n,some l=>some (n::l)
  | _,_=>none
def Iz:List Nat→Bool
 | []=>true
 | n::r=>Nat.ble n 300&&Iz r
def WM:List Nat→Bool
 | []=>true
 | n::r=>AL .i64 (n:Int)&&WM r
def FB (x:Option Addr×Nat×Nat):Ch:=.v (.slice x.1 x.2.1 x.2.2)
noncomputable def Ks:gr:=AH [] KV
noncomputable def Kt (n M:Nat) (cs:List Ch) (p:List Bool):gq:=Aj f8 [AR 0 0 n M] [(0,some (Ak cs))] 1 p
theorem Alx {β:Env} {c:Ch} {n:Nat} {l:List Value} (h:lS c=some n) (hr:BM β c l):∃ (oa:Option Addr) (m:Nat),l=[.slice oa n m]:=by
 unfold lS at h;split at h
 ·injection h with h;subst h;rcases hr with ⟨B,q,_,e⟩ | ⟨_,_,rfl,_,e⟩ | ⟨_,_,rfl,_,a,m,e⟩<;>exact ⟨_,_,e⟩
 ·injection h with h;subst h;rcases hr with ⟨B,q,cap,_,e,_⟩ | ⟨_,rfl,e⟩<;>exact ⟨_,_,e⟩
 ·injection h with h;subst h;exact ⟨_,_,hr.1⟩
 ·cases h
def ZS (xs:List (Option Addr×Nat×Nat)):List Nat:=xs.map (·.2.1)
theorem AMN {β:Env}:∀ {cs:List Ch} {ns:List Nat} {l:List Value},WL cs=some ns→AQ β cs l→∃ xs:List (Option Addr×Nat×Nat),ZS xs=ns∧∀ β':Env,AQ β' (xs.map FB) l
 | [],ns,l,h,hr=>by injection h with h;subst h;exact ⟨[],rfl,fun _=>hr⟩
 | c::cs,ns,l,h,⟨l1,l2,h1,h2,h3⟩=>by
  simp only [WL] at h;split at h;case h_2=>cases h
  rename_i n r hn hr;injection h with h;subst h;obtain ⟨oa,m,rfl⟩:=Alx hn h1;obtain ⟨xs,e,hx⟩:=AMN hr h2;exact ⟨(oa,n,m)::xs,by rw [← e];rfl,fun β'=>⟨_,l2,⟨rfl,rfl,trivial⟩,hx β',h3⟩⟩
theorem AMO:∀ {cs:List Ch} {ns:List Nat},WL cs=some ns→IS cs=true
 | [],_,_=>rfl
 | c::cs,ns,h=>by
  simp only [WL] at h;split at h;case h_2=>cases h
  rename_i n r hn hr;have ih:=AMO hr;unfold lS at hn;split at hn
  ·exact ih
  ·exact ih
  ·exact ih
  ·cases hn
def fewSp:ASpec:=fun args H fr gv=>match args,gv with
 | [A],true::gy=>match DZ A with
  | some (K,0,n)=>some (BR [K] 1 fr 0 [] (.val false [.b false]) [] [(AL .i64 (n:Int),true),(decide ((3:Int)<n),true)] gy)
  | _=>none
 | [A],false::gy=>match DZ A with
  | some (K,0,n)=>match AG H K with
   | some ⟨_,cs,_⟩=>match WL cs with
    | some ns=>some (BR [K] 1 fr 0 [] (Av (Iz ns)) [] [(Nat.beq n ns.length&&Nat.ble n 3,true),(WM ns,true)] gy)
    | none=>none
   | none=>none
  | _=>none
 | _,_=>none
section
variable (n M:Nat) (x y z:Option Addr×Nat×Nat)
def Hk (x:Option Addr×Nat×Nat) (b:Bool) (r:dp):dp:=tt 3 ((AL .i64 (x.2.1:Int),true)::(decide ((300:Int)<(x.2.1:Int)),b)::r)
def lU:dp:=[(true,true),(false,false)]
theorem Aly:AT dm Ks f8 300 1 [] (Aj f8 [AR 0 0 n M] [] 1 du)=some ([(AL .i64 (n:Int),true),(decide ((3:Int)<n),true)],[],.val false [.b false],[]):=dj
theorem Alz:AT dm Ks f8 300 1 [] (Kt 0 M [] dz)=some ((true,true)::(false,false)::lU,[],.val false [.b true],[]):=dj
theorem Al0:AT dm Ks f8 300 1 [] (Kt 1 M [FB x] e_)=some ((true,true)::(false,false)::Hk x true [],[],.val false [.b false],[]):=dj
theorem Al1:AT dm Ks f8 300 1 [] (Kt 1 M [FB x] [false,true,false,false])=some ((true,true)::(false,false)::Hk x false lU,[],.val false [.b true],[]):=dj
theorem Al2:AT dm Ks f8 300 1 [] (Kt 2 M [FB x,FB y] e_)=some ((true,true)::(false,false)::Hk x true [],[],.val false [.b false],[]):=dj
theorem Al3:AT dm Ks f8 300 1 [] (Kt 2 M [FB x,FB y] [false,true,false,true,true])=some ((true,true)::(false,false)::Hk x false (Hk y true []),[],.val false [.b false],[]):=dj
theorem Al4:AT dm Ks f8 300 1 [] (Kt 2 M [FB x,FB y] [false,true,false,true,false,false])=some ((true,true)::(false,false)::Hk x false (Hk y false lU),[],.val false [.b true],[]):=dj
theorem Al5:AT dm Ks f8 300 1 [] (Kt 3 M [FB x,FB y,FB z] e_)=some ((true,true)::(false,false)::Hk x true [],[],.val false [.b false],[]):=dj
theorem Al6:AT dm Ks f8 300 1 [] (Kt 3 M [FB x,FB y,FB z] [false,true,false,true,true])=some ((true,true)::(false,false)::Hk x false (Hk y true []),[],.val false [.b false],[]):=dj
theorem Al7:AT dm Ks f8 300 1 [] (Kt 3 M [FB x,FB y,FB z] [false,true,false,true,false,true,true])=some ((true,true)::(false,false)::Hk x false (Hk y false (Hk z true [])),[],.val false [.b false],[]):=dj
theorem Al8:AT dm Ks f8 300 1 [] (Kt 3 M [FB x,FB y,FB z] [false,true,false,true,false,true,false,false])=some ((true,true)::(false,false)::Hk x false (Hk y false (Hk z false lU)),[],.val false [.b true],[]):=dj
end
theorem Qq {β:Env} {b:Bool} {u:Value} (h:AN β (.val false [.b b]) u):AN β (Av b) u:=by
 obtain ⟨l1,l2,h1,h3,h4⟩:=h;exact ⟨l1,l2,⟨h1,rfl,trivial⟩,h3,h4⟩
theorem NP {n M:Nat} {cs:List Ch} {p:List Bool} {c:dp} {b:Bool} (h:AT dm Ks f8 300 1 [] (Kt n M cs p)=some (c,[],.val false [.b b],[])) (hc:AO c) (hw:Nh f8.ntmps (Kt n M cs p).s=true) :
  Ab dm 8 [AR 0 0 n M] [(0,some (Ak cs))] 1 [] (Av b) [] :=
 BL (Bs (S:=[]) trivial BS func8 dj dj h hw hc) fun _ _ q=>Qq q
theorem Tf {n:Nat} (h:¬ n≤300):decide ((300:Int)<(n:Int))=true:=jc dk
theorem Ku {n:Nat} (h:n≤300):decide ((300:Int)<(n:Int))=false:=jg dk
theorem WN {n:Nat} {r:List Nat} (h:¬ n≤300):Iz (n::r)=false:=by
 have:Nat.ble n 300=false:=by cases e:Nat.ble n 300 with | false=>rfl | true=>exact absurd (jf e) h
 show (Nat.ble n 300&&_)=false;rw [this];rfl
theorem WO {n:Nat} {r:List Nat} (h:n≤300):Iz (n::r)=Iz r:=by
 show (Nat.ble n 300&&_)=_;rw [jh h];rfl
theorem Al9 (M:Nat):∀ {xs:List (Option Addr×Nat×Nat)},xs.length≤3→WM (ZS xs)=true→Ab dm 8 [AR 0 0 xs.length M] [(0,some (Ak (xs.map FB)))] 1 [] (Av (Iz (ZS xs))) []
 | [],_,_=>NP (Alz M) ⟨rfl,rfl,rfl,rfl,trivial⟩ dj
 | [x],_,h=>by
  obtain ⟨h0,_⟩:=jo.1 h;show Ab _ _ _ _ _ _ (Av (Iz [x.2.1])) _;by_cases d0:x.2.1≤300
  ·rw [WO d0];exact NP (Al1 M x) ⟨rfl,rfl,AI 3 ⟨h0,Ku d0,rfl,rfl,trivial⟩⟩ dj
  ·rw [WN d0];exact NP (Al0 M x) ⟨rfl,rfl,AI 3 ⟨h0,Tf d0,trivial⟩⟩ dj
 | [x,y],_,h=>by
  obtain ⟨h0,h⟩:=jo.1 h;obtain ⟨h1,_⟩:=jo.1 h;show Ab _ _ _ _ _ _ (Av (Iz [x.2.1,y.2.1])) _;by_cases d0:x.2.1≤300
  ·rw [WO d0];by_cases d1:y.2.1≤300
   ·rw [WO d1];exact NP (Al4 M x y) ⟨rfl,rfl,AI 3 ⟨h0,Ku d0,AI 3 ⟨h1,Ku d1,rfl,rfl,trivial⟩⟩⟩ dj
   ·rw [WN d1];exact NP (Al3 M x y) ⟨rfl,rfl,AI 3 ⟨h0,Ku d0,AI 3 ⟨h1,Tf d1,trivial⟩⟩⟩ dj
  ·rw [WN d0];exact NP (Al2 M x y) ⟨rfl,rfl,AI 3 ⟨h0,Tf d0,trivial⟩⟩ dj
 | [x,y,z],_,h=>by
  obtain ⟨h0,h⟩:=jo.1 h;obtain ⟨h1,h⟩:=jo.1 h;obtain ⟨h2,_⟩:=jo.1 h;show Ab _ _ _ _ _ _ (Av (Iz [x.2.1,y.2.1,z.2.1])) _;by_cases d0:x.2.1≤300
  ·rw [WO d0];by_cases d1:y.2.1≤300
   ·rw [WO d1];by_cases d2:z.2.1≤300
    ·rw [WO d2];exact NP (Al8 M x y z) ⟨rfl,rfl,AI 3 ⟨h0,Ku d0,AI 3 ⟨h1,Ku d1,AI 3 ⟨h2,Ku d2,rfl,rfl,trivial⟩⟩⟩⟩ dj
    ·rw [WN d2];exact NP (Al7 M x y z) ⟨rfl,rfl,AI 3 ⟨h0,Ku d0,AI 3 ⟨h1,Ku d1,AI 3 ⟨h2,Tf d2,trivial⟩⟩⟩⟩ dj
   ·rw [WN d1];exact NP (Al6 M x y z) ⟨rfl,rfl,AI 3 ⟨h0,Ku d0,AI 3 ⟨h1,Tf d1,trivial⟩⟩⟩ dj
  ·rw [WN d0];exact NP (Al5 M x y z) ⟨rfl,rfl,AI 3 ⟨h0,Tf d0,trivial⟩⟩ dj
 | _::_::_::_::_,hl,_=>absurd hl (by simp)
theorem Al_ {n M:Nat} (h:AL .i64 (n:Int)=true) (d:decide ((3:Int)<n)=true):Ab dm 8 [AR 0 0 n M] [] 1 [] (.val false [.b false]) [] :=
 Bs (S:=[]) trivial BS func8 dj dj (Aly n M) dj ⟨h,d,trivial⟩
theorem Al' (xs:List (Option Addr×Nat×Nat)):(ZS xs).length=xs.length:=by unfold ZS;rw [lh]
theorem AmA:BJ dm 8 fewSp:=by
 refine Da func8 dj dj fun args H fr gv r hs=>?_
 unfold fewSp at hs;split at hs;case h_3=>cases hs
 ·rename_i A gy;split at hs;case h_2=>cases hs
  rename_i K n hS;injection hs with hs;refine ⟨[K],1,0,[],_,_,_,_,hs.symm,fun β us w ha hg hc=>?_⟩
  obtain ⟨u1,iu,r1,ha,rfl⟩:=ha;obtain ⟨M,r1⟩:=FE hS r1;refine ⟨_,[],Al_ hc.1 hc.2.1,dj,⟨u1,_,Cp dk rfl r1,ha,rfl⟩,⟨fun _ _ h=>by (cases h),fun _ _ _ _ _ h=>by (cases h),fun j B n hj=>?_⟩,fun j hj=>?_⟩
  ·unfold A9 at hj;split at hj
   ·exact hg.lt _ _ _ hj
   ·cases hj
  ·obtain ⟨l1,l2,h1,_⟩:=r1;match j,hj with
   | 0,_=>rcases h1 with ⟨_,_,q,_⟩ | ⟨q,_⟩ | ⟨q,_⟩<;>exact ⟨_,q⟩
 ·rename_i A gy;split at hs;case h_2=>cases hs
  rename_i K n hS;split at hs;case h_2=>cases hs
  rename_i ty cs o hk;split at hs;case h_2=>cases hs
  rename_i ns hns;injection hs with hs;refine ⟨[K],1,0,[],_,_,_,_,hs.symm,fun β us w ha hg hc=>?_⟩
  obtain ⟨u1,iu,r1,ha,rfl⟩:=ha;obtain ⟨M,r1⟩:=FE hS r1;obtain ⟨c1,c2,_⟩:=hc;obtain ⟨c1,c3⟩:=jo.1 c1;obtain ⟨l,q1,q2⟩:=AMH (hg.heap _ _ hk) (AMO hns)
  obtain ⟨xs,rfl,q3⟩:=AMN hns q1;have hn:n=xs.length:=(Ar.1 c1).trans (Al' xs)
  subst hn;refine ⟨_,_,Al9 M (jf c3) c2,dj,⟨u1,_,Cp dk rfl r1,ha,rfl⟩,NH (bs:=[Ak (xs.map FB)]) hg fun j d hj=>?_,fun j hj=>?_⟩
  ·match j,hj with
   | 0,hj=>injection hj with hj;subst hj;exact ⟨rfl,q2 _ _ 0 (FK (by show 0<1;decide)) (q3 _)⟩
  ·match j,hj with
   | 0,_=>exact CS (hg.heap _ _ hk)
def lV (k0:Nat):Heap→Bool
 | []=>true
 | (k,_)::r=>match Nat.ble k0 k with | true=>lV k0 r | false=>false
def ZT (s:ASpec) (args:List AV) (H:Heap) (k0:Nat) (gv:List Bool):Option (dp×AV):=match s args H k0 gv with
 | some r=>match lV k0 r.upd,r.gv with
  | true,[]=>some (r.conds,r.val)
  | _,_=>none
 | none=>none
theorem AMP {k0:Nat}:∀ {H:Heap} {k:Nat} {y:Option gt},lV k0 H=true→(k,y)∈H→k0≤k
 | [],_,_,_,h=>by cases h
 | (j,z)::r,k,y,h,hm=>by
  simp only [lV] at h;split at h
  ·rename_i hj;rcases ju.1 hm with e | hm
   ·injection e with e1 e2;subst e1;exact jf hj
   ·exact AMP h hm
  ·cases h
theorem AMQ {P:Program} {f:FuncId} {fn:Func} {s:ASpec} (hs:BJ P f s) (ip:P.funcs[f]? = some fn) (hb:fn.body.isSome=true) (h_:fo fn) {args:List AV} {H:Heap} {k0:Nat} {gv:List Bool} {c:dp} {v:AV}
  (h:ZT s args H k0 gv=some (c,v)) (hc:AO c):Ab P f args H k0 [] v []:=by
 intro β us w ha hg hf;unfold ZT at h;split at h;case h_2=>cases h
 rename_i r hr;split at h;case h_2=>cases h
 rename_i hu hp;injection h with h;injection h with e1 e2;subst e1;subst e2;have key:=hs args H k0 gv r β us w hr hc ha hg fun b h1 _=>hf b h1
 unfold NU at key;have h1:fn.name≠"runtime.NumGoroutine":=by simpa using h_
 have h2:¬ fn.body=none:=by cases hq:fn.body<;>simp [hq] at hb ⊢
 have e:(callFunc f ⟨us⟩).run P w=.ok (.enter f ⟨us⟩) w:=by simp [callFunc,ip,h1,h2]
 rw [e] at key;refine Calls.mono key ?_
 rintro e w' ⟨u,β',rfl,he⟩
 have no:∀ k y m B,(k,y)∈r.upd→β k≠some (.at_ B m):=fun k y m B hk hk2=>by
  rw [hf k (AMP hu hk)] at hk2;cases hk2
 refine ⟨u,β',rfl,he.val,⟨fun _ _ h=>by (cases h),fun _ _ _ _ _ h=>by (cases h),he.lt⟩,fun b X hb=>(he.new b X hb).imp id fun ⟨_,_,h3⟩ B m e=>(h3 B m e).imp id fun ⟨k,m',q1,q2⟩=>?_,he.ext,fun B hB _=>he.frame B hB fun k y n hk=>no k y n B hk,he.size,he.os,he.tape,he.output⟩
 exact absurd q2 (no k _ m' B q1)
noncomputable def lW (args:List AV) (H:Heap) (k0:Nat) (p:List Bool):=ZT (pV dm oEb1 f26 900) args H k0 p
def lX (r s:R gk):Bool:=dq r.1.1.1 s.1.1.1&&(dq r.1.1.2 s.1.1.2&&(dq r.1.2.1.1 s.1.2.1.1&&(dq r.1.2.1.2 s.1.2.1.2&&(dq r.1.2.2.1 s.1.2.2.1&&(dq r.1.2.2.2 s.1.2.2.2&&(dq r.2.1.1 s.2.1.1&&(dq r.2.1.2 s.2.1.2&&(dq r.2.2.1.1 s.2.2.1.1&&(dq r.2.2.1.2 s.2.2.1.2&&(dq r.2.2.2.1 s.2.2.2.1&&dq r.2.2.2.2 s.2.2.2.2))))))))))
def Fu (p:Pt FP):Pt FP:=An (EF p) (CM p) (Aq p)
noncomputable def Am (x:dn):Pt FP:=(E' true x).1
noncomputable def A6 (x:dn):Bool:=decide ((E' true x).2=0)
noncomputable def D6 (x:dn):P2:=(G7 true x).1
noncomputable def Bq (x:dn):Bool:=decide ((G7 true x).2=0)
noncomputable def BZ (s:ByteArray) (x:dn):P2:=TS x (AA (MP s) 0 s.size)
abbrev Cnd:=dp
def BN (q:Rw) (r:Cnd):Cnd:=(Nat.ble q.2.1 q.2.2.2.length,true)::(Nat.ble q.2.1 q.2.2.1,true)::(AL .i64 (q.2.1:Int),true)::r
def A' (r:Cnd):Cnd:=(true,true)::(false,false)::r
noncomputable def C_ (q:Rw) (r:Cnd):Cnd:=tt 3 (BN q ((!A6 (AE q),false)::(Aq (Am (AE q)),false)::r))
def C5 (q:Rw):Bool×Bool:=(Nat.ble (0+q.2.1) q.2.2.2.length,true)
def Hl (s:ByteArray) (q:Rw) (r:Cnd):Cnd:=C5 q::(Nat.ble s.size (MP s).length,true)::(Nat.ble q.2.1 4398046511104,true)::(Nat.ble 1 s.size,true)::(Nat.ble s.size 255,true)::(Nat.ble s.size s.size,true)::r
noncomputable def D2 (p:Pt FP) (h:P2) (r:Cnd):Cnd:=(!BT (Fu p),false)::(true,true)::(!CT (mo (en h)),false)::r
def bt:Nat→Nat→List Bool
 | 0,_=>[]
 | k+1,n=>Nat.beq (n % 2) 1::bt k (n / 2)
noncomputable def WP (p:Pt FP) (q:P2):R gk:=en (lpO (mo ((EF p,CM p,Aq p):R (Pt FP))) (mo (en q)))
noncomputable def ZU (r:R gk):R gk:=en (fiO (mo r))
noncomputable def lY (a:R gk):List (Pt FP×P2)→R gk
 | []=>a
 | (p,h)::r=>lY (mu gk (mu gk o12 a) (WP p h)) r
noncomputable def l5 (a:R gk):List (Pt FP×P2)→R gk
 | []=>a
 | (p,h)::r=>l5 (mu gk a (ZU (WP p h))) r
noncomputable def l6 (l:List (Pt FP×P2)) (s:P2):R gk:=ZU (mu gk (mu gk o12 (lY o12 l)) (WP (Rg.neg (Fu G1B)) s))
noncomputable def NQ (l:List (Pt FP×P2)) (s:P2):Bool:=lX (l6 l s) (en (ZP (mo (l6 l s)) (AK [])))
noncomputable def ZV (l:List (Pt FP×P2)) (s:P2):Bool:=lX (l5 o12 l) (ZU (WP G1B s))
def Jo (k:Nat) (sg:Rw) (M M1:Nat) (s:ByteArray):List AV:=[AR 0 0 k M,AR 1 0 k M1,AR 2 0 sg.2.1 sg.2.2.1,.val false [.v (.string s)]]
def Jp (rs1 rs2:List Rw) (sg:Rw):Heap:=LF 0 ([Ak (D1 3 rs1),Ak (D1 (3+BU rs1) rs2)]++DR (sg::(rs1++rs2)))
noncomputable def Er (k:Nat) (rs1:List Rw) (sg:Rw) (rs2:List Rw) (M M1:Nat) (s:ByteArray) (p:List Bool):=lW (Jo k sg M M1 s) (Jp rs1 rs2 sg) (3+2*k) p
noncomputable def IL (s:ByteArray) (q h:Rw) (r:Cnd):Cnd:=tt 3 (BN q ((A6 (AE q),true)::(!!Aq (Am (AE q)),false)::(true,true)::BN q ((true,true)::Hl s h ((!BT (Fu (Am (AE q))),false)::(!CT (mo (en (BZ s (AE h)))),false)::r))))
noncomputable def Fv (k:Nat) (rs1:List Rw) (sg:Rw) (rs2:List Rw) (M M1:Nat) (s:ByteArray) (p:List Bool):=ZT (BF dm oEb1 f27 900) (Jo k sg M M1 s) (Jp rs1 rs2 sg) (3+2*k) p
section
variable (M M1:Nat) (g:Rw) (s:ByteArray) (r0 q0:Rw)
theorem AmB:Er 1 [r0] g [q0] M M1 s (bt 4 12)=some (A' (tt 2 ((false,false)::tt 3 (BN r0 ((!A6 (AE r0),true)::[])))),.val false [.b false]):=dj
theorem AmC:Er 1 [r0] g [q0] M M1 s (bt 5 20)=some (A' (tt 2 ((false,false)::tt 3 (BN r0 ((!A6 (AE r0),false)::(Aq (Am (AE r0)),true)::[])))),.val false [.b false]):=dj
theorem AmD:Er 1 [r0] g [q0] M M1 s (bt 7 68)=some (A' (tt 2 ((false,false)::(C_ r0 (A' (BN g ((!Bq (AE g),true)::[])))))),.val false [.b false]):=dj
theorem AmE:Er 1 [r0] g [q0] M M1 s (bt 24 3328132)=some (A' (tt 2 ((false,false)::(C_ r0 (A' (BN g ((!Bq (AE g),false)::tt 3 (C5 q0::Hl s q0 (C5 q0::A' ((false,false)::tt 6 ((false,false)::A' (tt 3 (D2 (Am (AE r0)) (BZ s (AE q0)) (tt 6 ((false,false)::tt 2 (D2 (Rg.neg (Fu G1B)) (D6 (AE g)) (tt 6 ((false,false)::(false,false)::tt 2 ([])))))))))))))))))),Av (NQ [(Am (AE r0),BZ s (AE q0))] (D6 (AE g)))):=dj
end
section
variable (M M1:Nat) (g:Rw) (s:ByteArray) (r0 r1 q0 q1:Rw)
theorem AmF:Er 2 [r0,r1] g [q0,q1] M M1 s (bt 4 12)=some (A' (tt 2 ((false,false)::tt 3 (BN r0 ((!A6 (AE r0),true)::[])))),.val false [.b false]):=dj
theorem AmG:Er 2 [r0,r1] g [q0,q1] M M1 s (bt 5 20)=some (A' (tt 2 ((false,false)::tt 3 (BN r0 ((!A6 (AE r0),false)::(Aq (Am (AE r0)),true)::[])))),.val false [.b false]):=dj
theorem AmH:Er 2 [r0,r1] g [q0,q1] M M1 s (bt 7 100)=some (A' (tt 2 ((false,false)::(C_ r0 (tt 3 (BN r1 ((!A6 (AE r1),true)::[])))))),.val false [.b false]):=dj
theorem AmI:Er 2 [r0,r1] g [q0,q1] M M1 s (bt 8 164)=some (A' (tt 2 ((false,false)::(C_ r0 (tt 3 (BN r1 ((!A6 (AE r1),false)::(Aq (Am (AE r1)),true)::[])))))),.val false [.b false]):=dj
theorem AmJ:Er 2 [r0,r1] g [q0,q1] M M1 s (bt 10 548)=some (A' (tt 2 ((false,false)::(C_ r0 ((C_ r1 (A' (BN g ((!Bq (AE g),true)::[])))))))),.val false [.b false]):=dj
theorem AmK:Er 2 [r0,r1] g [q0,q1] M M1 s (bt 35 6817389604)=some (A' (tt 2 ((false,false)::(C_ r0 ((C_ r1 (A' (BN g ((!Bq (AE g),false)::tt 3 (C5 q0::Hl s q0 (C5 q0::tt 3 (C5 q1::(BO (AE q1)==BO (AE q0),true)::A' ((false,false)::tt 6 ((false,false)::A' (tt 3 (D2 (Am (AE r0)) (BZ s (AE q0)) (tt 6 ((false,false)::tt 2 (D2 (Am (AE r1)) (BZ s (AE q0)) (tt 6 ((false,false)::tt 2 (D2 (Rg.neg (Fu G1B)) (D6 (AE g)) (tt 6 ((false,false)::(false,false)::tt 2 ([])))))))))))))))))))))))),Av (NQ [(Am (AE r0),BZ s (AE q0)),(Am (AE r1),BZ s (AE q0))] (D6 (AE g)))):=dj
theorem AmL:Er 2 [r0,r1] g [q0,q1] M M1 s (bt 36 13634767908)=some (A' (tt 2 ((false,false)::(C_ r0 ((C_ r1 (A' (BN g ((!Bq (AE g),false)::tt 3 (C5 q0::Hl s q0 (C5 q0::tt 3 (C5 q1::(BO (AE q1)==BO (AE q0),false)::Hl s q1 (C5 q1::(BO (AE q1)==BO (AE q0),false)::A' ((false,false)::tt 6 ((false,false)::A' (tt 3 (D2 (Am (AE r0)) (BZ s (AE q0)) (tt 6 ((false,false)::tt 2 (D2 (Am (AE r1)) (BZ s (AE q1)) (tt 6 ((false,false)::tt 2 (D2 (Rg.neg (Fu G1B)) (D6 (AE g)) (tt 6 ((false,false)::(false,false)::tt 2 ([]))))))))))))))))))))))))),Av (NQ [(Am (AE r0),BZ s (AE q0)),(Am (AE r1),BZ s (AE q1))] (D6 (AE g)))):=dj
end
section
variable (M M1:Nat) (g:Rw) (s:ByteArray) (r0 r1 r2 q0 q1 q2:Rw)
theorem AmM:Er 3 [r0,r1,r2] g [q0,q1,q2] M M1 s (bt 4 12)=some (A' (tt 2 ((false,false)::tt 3 (BN r0 ((!A6 (AE r0),true)::[])))),.val false [.b false]):=dj
theorem AmN:Er 3 [r0,r1,r2] g [q0,q1,q2] M M1 s (bt 5 20)=some (A' (tt 2 ((false,false)::tt 3 (BN r0 ((!A6 (AE r0),false)::(Aq (Am (AE r0)),true)::[])))),.val false [.b false]):=dj
theorem AmO:Er 3 [r0,r1,r2] g [q0,q1,q2] M M1 s (bt 7 100)=some (A' (tt 2 ((false,false)::(C_ r0 (tt 3 (BN r1 ((!A6 (AE r1),true)::[])))))),.val false [.b false]):=dj
theorem AmP:Er 3 [r0,r1,r2] g [q0,q1,q2] M M1 s (bt 8 164)=some (A' (tt 2 ((false,false)::(C_ r0 (tt 3 (BN r1 ((!A6 (AE r1),false)::(Aq (Am (AE r1)),true)::[])))))),.val false [.b false]):=dj
theorem AmQ:Er 3 [r0,r1,r2] g [q0,q1,q2] M M1 s (bt 10 804)=some (A' (tt 2 ((false,false)::(C_ r0 ((C_ r1 (tt 3 (BN r2 ((!A6 (AE r2),true)::[])))))))),.val false [.b false]):=dj
theorem AmR:Er 3 [r0,r1,r2] g [q0,q1,q2] M M1 s (bt 11 1316)=some (A' (tt 2 ((false,false)::(C_ r0 ((C_ r1 (tt 3 (BN r2 ((!A6 (AE r2),false)::(Aq (Am (AE r2)),true)::[])))))))),.val false [.b false]):=dj
theorem AmS:Er 3 [r0,r1,r2] g [q0,q1,q2] M M1 s (bt 13 4388)=some (A' (tt 2 ((false,false)::(C_ r0 ((C_ r1 ((C_ r2 (A' (BN g ((!Bq (AE g),true)::[])))))))))),.val false [.b false]):=dj
theorem AmT:Er 3 [r0,r1,r2] g [q0,q1,q2] M M1 s (bt 46 13962051838244)=some (A' (tt 2 ((false,false)::(C_ r0 ((C_ r1 ((C_ r2 (A' (BN g ((!Bq (AE g),false)::tt 3 (C5 q0::Hl s q0 (C5 q0::tt 3 (C5 q1::(BO (AE q1)==BO (AE q0),true)::tt 3 (C5 q2::(BO (AE q2)==BO (AE q0),true)::A' ((false,false)::tt 6 ((false,false)::A' (tt 3 (D2 (Am (AE r0)) (BZ s (AE q0)) (tt 6 ((false,false)::tt 2 (D2 (Am (AE r1)) (BZ s (AE q0)) (tt 6 ((false,false)::tt 2 (D2 (Am (AE r2)) (BZ s (AE q0)) (tt 6 ((false,false)::tt 2 (D2 (Rg.neg (Fu G1B)) (D6 (AE g)) (tt 6 ((false,false)::(false,false)::tt 2 ([])))))))))))))))))))))))))))))),Av (NQ [(Am (AE r0),BZ s (AE q0)),(Am (AE r1),BZ s (AE q0)),(Am (AE r2),BZ s (AE q0))] (D6 (AE g)))):=dj
theorem AmU:Er 3 [r0,r1,r2] g [q0,q1,q2] M M1 s (bt 47 27924103291172)=some (A' (tt 2 ((false,false)::(C_ r0 ((C_ r1 ((C_ r2 (A' (BN g ((!Bq (AE g),false)::tt 3 (C5 q0::Hl s q0 (C5 q0::tt 3 (C5 q1::(BO (AE q1)==BO (AE q0),true)::tt 3 (C5 q2::(BO (AE q2)==BO (AE q0),false)::Hl s q2 (C5 q2::(BO (AE q2)==BO (AE q0),false)::A' ((false,false)::tt 6 ((false,false)::A' (tt 3 (D2 (Am (AE r0)) (BZ s (AE q0)) (tt 6 ((false,false)::tt 2 (D2 (Am (AE r1)) (BZ s (AE q0)) (tt 6 ((false,false)::tt 2 (D2 (Am (AE r2)) (BZ s (AE q2)) (tt 6 ((false,false)::tt 2 (D2 (Rg.neg (Fu G1B)) (D6 (AE g)) (tt 6 ((false,false)::(false,false)::tt 2 ([]))))))))))))))))))))))))))))))),Av (NQ [(Am (AE r0),BZ s (AE q0)),(Am (AE r1),BZ s (AE q0)),(Am (AE r2),BZ s (AE q2))] (D6 (AE g)))):=dj
theorem AmV:Er 3 [r0,r1,r2] g [q0,q1,q2] M M1 s (bt 47 27924103586084)=some (A' (tt 2 ((false,false)::(C_ r0 ((C_ r1 ((C_ r2 (A' (BN g ((!Bq (AE g),false)::tt 3 (C5 q0::Hl s q0 (C5 q0::tt 3 (C5 q1::(BO (AE q1)==BO (AE q0),false)::Hl s q1 (C5 q1::(BO (AE q1)==BO (AE q0),false)::tt 3 (C5 q2::(BO (AE q2)==BO (AE q0),true)::A' ((false,false)::tt 6 ((false,false)::A' (tt 3 (D2 (Am (AE r0)) (BZ s (AE q0)) (tt 6 ((false,false)::tt 2 (D2 (Am (AE r1)) (BZ s (AE q1)) (tt 6 ((false,false)::tt 2 (D2 (Am (AE r2)) (BZ s (AE q0)) (tt 6 ((false,false)::tt 2 (D2 (Rg.neg (Fu G1B)) (D6 (AE g)) (tt 6 ((false,false)::(false,false)::tt 2 ([]))))))))))))))))))))))))))))))),Av (NQ [(Am (AE r0),BZ s (AE q0)),(Am (AE r1),BZ s (AE q1)),(Am (AE r2),BZ s (AE q0))] (D6 (AE g)))):=dj
theorem AmW:Er 3 [r0,r1,r2] g [q0,q1,q2] M M1 s (bt 48 55848207016228)=some (A' (tt 2 ((false,false)::(C_ r0 ((C_ r1 ((C_ r2 (A' (BN g ((!Bq (AE g),false)::tt 3 (C5 q0::Hl s q0 (C5 q0::tt 3 (C5 q1::(BO (AE q1)==BO (AE q0),false)::Hl s q1 (C5 q1::(BO (AE q1)==BO (AE q0),false)::tt 3 (C5 q2::(BO (AE q2)==BO (AE q0),false)::(BO (AE q2)==BO (AE q1),true)::A' ((false,false)::tt 6 ((false,false)::A' (tt 3 (D2 (Am (AE r0)) (BZ s (AE q0)) (tt 6 ((false,false)::tt 2 (D2 (Am (AE r1)) (BZ s (AE q1)) (tt 6 ((false,false)::tt 2 (D2 (Am (AE r2)) (BZ s (AE q1)) (tt 6 ((false,false)::tt 2 (D2 (Rg.neg (Fu G1B)) (D6 (AE g)) (tt 6 ((false,false)::(false,false)::tt 2 ([]))))))))))))))))))))))))))))))),Av (NQ [(Am (AE r0),BZ s (AE q0)),(Am (AE r1),BZ s (AE q1)),(Am (AE r2),BZ s (AE q1))] (D6 (AE g)))):=dj
theorem AmX:Er 3 [r0,r1,r2] g [q0,q1,q2] M M1 s (bt 50 223392825499940)=some (A' (tt 2 ((false,false)::(C_ r0 ((C_ r1 ((C_ r2 (A' (BN g ((!Bq (AE g),false)::tt 3 (C5 q0::Hl s q0 (C5 q0::tt 3 (C5 q1::(BO (AE q1)==BO (AE q0),false)::Hl s q1 (C5 q1::(BO (AE q1)==BO (AE q0),false)::tt 3 (C5 q2::(BO (AE q2)==BO (AE q0),false)::(BO (AE q2)==BO (AE q1),false)::Hl s q2 (C5 q2::(BO (AE q2)==BO (AE q0),false)::(BO (AE q2)==BO (AE q1),false)::A' ((false,false)::tt 6 ((false,false)::A' (tt 3 (D2 (Am (AE r0)) (BZ s (AE q0)) (tt 6 ((false,false)::tt 2 (D2 (Am (AE r1)) (BZ s (AE q1)) (tt 6 ((false,false)::tt 2 (D2 (Am (AE r2)) (BZ s (AE q2)) (tt 6 ((false,false)::tt 2 (D2 (Rg.neg (Fu G1B)) (D6 (AE g)) (tt 6 ((false,false)::(false,false)::tt 2 ([])))))))))))))))))))))))))))))))),Av (NQ [(Am (AE r0),BZ s (AE q0)),(Am (AE r1),BZ s (AE q1)),(Am (AE r2),BZ s (AE q2))] (D6 (AE g)))):=dj
end
theorem AMR (a b:gk):lX (en a) (en b)=decide (a=b):=by
 have h:lX (en a) (en b)=(dq a.a.a.a.val b.a.a.a.val&&(dq a.a.a.b.val b.a.a.b.val&&(dq a.a.b.a.val b.a.b.a.val&&(dq a.a.b.b.val b.a.b.b.val&&(dq a.a.c.a.val b.a.c.a.val&&(dq a.a.c.b.val b.a.c.b.val&&(dq a.b.a.a.val b.b.a.a.val&&(dq a.b.a.b.val b.b.a.b.val&&(dq a.b.b.a.val b.b.b.a.val&&(dq a.b.b.b.val b.b.b.b.val&&(dq a.b.c.a.val b.b.c.a.val&&dq a.b.c.b.val b.b.c.b.val))))))))))):=rfl
 rw [h];simp only [M0];by_cases e:a=b
 ·subst e;simp
 ·rw [jg e];refine Bool.eq_false_iff.2 fun q=>?_
  simp only [jm,ji] at q;obtain ⟨e1,e2,e3,e4,e5,e6,e7,e8,e9,e10,e11,e12⟩:=q;exact e (Qx.ext (Kx.ext (Qx.ext e1 e2) (Qx.ext e3 e4) (Qx.ext e5 e6)) (Kx.ext (Qx.ext e7 e8) (Qx.ext e9 e10) (Qx.ext e11 e12)))
theorem AmY (p:Pt FP):(mo ((EF p,CM p,Aq p):R (Pt FP)):Pt FP)=p:=by
 cases p with
 | inf=>rfl
 | pt a b =>
  show vK (tf a.val) (tf b.val) false=.pt a b;rw [CL,CL];rfl
theorem ZW (p:Pt FP):Fu p=p:=by
 cases p with
 | inf=>rfl
 | pt a b =>
  show Pt.pt (tf a.val) (tf b.val)=.pt a b;rw [CL,CL]
theorem l7 (p:Pt FP) (q:P2):WP p q=en (DQ p q):=by
 unfold WP;rw [AmY,mo_en,ALc]
theorem ABd (x:gk):ZU (en x)=en (finF x):=by
 unfold ZU;rw [mo_en,ABU]
noncomputable def Tg (a:gk):List (Pt FP×P2)→gk
 | []=>a
 | (p,h)::r=>Tg (a*DQ p h) r
noncomputable def IM (a:gk):List (Pt FP×P2)→gk
 | []=>a
 | (p,h)::r=>IM (a*finF (DQ p h)) r
theorem AMS:∀ (l:List (Pt FP×P2)) (a:gk),lY (en a) l=en (Tg a l)
 | [],_=>rfl
 | (p,h)::r,a=>by
  unfold lY Tg;rw [l7];have e:mu gk (mu gk o12 (en a)) (en (DQ p h))=en (a*DQ p h):=by
   rw [TY];unfold mu;simp only [mo_en,Rg.one_mul]
  rw [e];exact AMS r _
theorem AMT:∀ (l:List (Pt FP×P2)) (a:gk),l5 (en a) l=en (IM a l)
 | [],_=>rfl
 | (p,h)::r,a=>by
  unfold l5 IM;rw [l7,ABd];have e:mu gk (en a) (en (finF (DQ p h)))=en (a*finF (DQ p h)):=by unfold mu;simp only [mo_en]
  rw [e];exact AMT r _
theorem AMU:∀ (l:List (Pt FP×P2)) (a:gk),finF (Tg a l)=IM (finF a) l
 | [],_=>rfl
 | (p,h)::r,a=>by
  unfold Tg IM;rw [AMU r,finF_mh.mul]
theorem AmZ (l:List (Pt FP×P2)) (s:P2):l6 l s=en (IM 1 l*finF (DQ (Rg.neg G1B) s)):=by
 unfold l6;rw [ZW,TY,AMS,l7];have e:mu gk (mu gk (en (1:gk)) (en (Tg 1 l))) (en (DQ (Rg.neg G1B) s))=en (Tg 1 l*DQ (Rg.neg G1B) s):=by unfold mu;simp only [mo_en,Rg.one_mul]
 rw [e,ABd,finF_mh.mul,AMU,finF_mh.one]
theorem AMV {n:Nat} (h:Nat.beq (tf n).val 0=false):(tf n:FP)≠0:=fun e=>by
 have e1:(tf n).val=0:=jl Fin.val e
 rw [e1] at h;cases h
theorem Ama:(tf gX:FP)≠0:=AMV dj
theorem Amb:(tf gY:FP)≠0:=AMV dj
theorem ABe (l:List (Pt FP×P2)) (s:P2):ZV l s=decide (IM 1 l=finF (DQ G1B s)):=by
 unfold ZV;rw [TY,AMT,l7,ABd,AMR]
theorem Amc:BE G1B=true:=(jo.1 YK).1
theorem Amd {s:P2} (h:CT s=true):Hj G1B s=true:=by
 unfold Hj;rw [Amc,(jo.1 h).1];rfl
theorem Qr (l:List (Pt FP×P2)) {s:P2} (h:CT s=true):NQ l s=decide (IM 1 l=finF (DQ G1B s)):=by
 unfold NQ;rw [AmZ,mo_en,ZQ,AMR];have e:∀ x:gk,pw x (AK [])=1:=fun _=>rfl
 rw [e];have hG:G1B=.pt (tf gX) (tf gY):=rfl
 have hB:=Amd h;rw [hG] at hB ⊢;have:=Alt Ama Amb hB (IM 1 l)
 by_cases q:IM 1 l=finF (DQ (.pt (tf gX) (tf gY)) s)
 ·rw [jc q,jc (this.2 q)]
 ·rw [jg q,jg fun h=>q (this.1 h)]
noncomputable def MA:List (dn)→Bool
 | []=>true
 | x::r=>(A6 x&&!Aq (Am x))&&MA r
noncomputable def WQ (t:ByteArray):List (dn)→List (dn)→List (Pt FP×P2)
 | x::r,y::q=>(Am x,BZ t y)::WQ t r q
 | _,_=>[]
noncomputable def l9 (L1 L2:List (dn)) (s:dn) (t:ByteArray):Bool:=match L1 with
 | []=>false
 | _=>decide (L1.length=L2.length)&&(Bq s&&(MA L1&&decide (IM 1 (WQ t L1 L2)=finF (DQ G1B (D6 s)))))
theorem AMW:∃ f:List (dn)→List (dn)→dn→ByteArray→Bool,∀ a b s t,f a b s t=l9 a b s t:=⟨_,fun _ _ _ _=>rfl⟩
noncomputable def IN:List (dn)→List (dn)→dn→ByteArray→Bool:=Classical.choose AMW
theorem mA (a b:List (dn)) (s:dn) (t:ByteArray):IN a b s t=l9 a b s t:=kq AMW a b s t
section
variable (M M1:Nat) (g:Rw) (s:ByteArray) (r0 q0:Rw)
theorem Ame:Fv 1 [r0] g [q0] M M1 s (bt 3 4)=some (A' (tt 2 ((false,false)::BN g ((!Bq (AE g),true)::[]))),.val false [.b false]):=dj
theorem Amf:Fv 1 [r0] g [q0] M M1 s (bt 5 8)=some (A' (tt 2 ((false,false)::BN g ((!Bq (AE g),false)::tt 3 (BN r0 ((A6 (AE r0),false)::[]))))),.val false [.b false]):=dj
theorem Amg:Fv 1 [r0] g [q0] M M1 s (bt 6 56)=some (A' (tt 2 ((false,false)::BN g ((!Bq (AE g),false)::tt 3 (BN r0 ((A6 (AE r0),true)::(!!Aq (Am (AE r0)),true)::[]))))),.val false [.b false]):=dj
theorem Amh:Fv 1 [r0] g [q0] M M1 s (bt 11 24)=some (A' (tt 2 ((false,false)::BN g ((!Bq (AE g),false)::IL s r0 q0 ((((A' ((!BT (Fu G1B),false)::(!CT (mo (en (D6 (AE g)))),false)::[])))))))),Av (ZV [(Am (AE r0),BZ s (AE q0))] (D6 (AE g)))):=dj
end
section
variable (M M1:Nat) (g:Rw) (s:ByteArray) (r0 r1 q0 q1:Rw)
theorem Ami:Fv 2 [r0,r1] g [q0,q1] M M1 s (bt 3 4)=some (A' (tt 2 ((false,false)::BN g ((!Bq (AE g),true)::[]))),.val false [.b false]):=dj
theorem Amj:Fv 2 [r0,r1] g [q0,q1] M M1 s (bt 5 8)=some (A' (tt 2 ((false,false)::BN g ((!Bq (AE g),false)::tt 3 (BN r0 ((A6 (AE r0),false)::[]))))),.val false [.b false]):=dj
theorem Amk:Fv 2 [r0,r1] g [q0,q1] M M1 s (bt 6 56)=some (A' (tt 2 ((false,false)::BN g ((!Bq (AE g),false)::tt 3 (BN r0 ((A6 (AE r0),true)::(!!Aq (Am (AE r0)),true)::[]))))),.val false [.b false]):=dj
theorem Aml:Fv 2 [r0,r1] g [q0,q1] M M1 s (bt 10 280)=some (A' (tt 2 ((false,false)::BN g ((!Bq (AE g),false)::IL s r0 q0 ((((tt 3 (BN r1 ((A6 (AE r1),false)::[]))))))))),.val false [.b false]):=dj
theorem Amm:Fv 2 [r0,r1] g [q0,q1] M M1 s (bt 11 1816)=some (A' (tt 2 ((false,false)::BN g ((!Bq (AE g),false)::IL s r0 q0 ((((tt 3 (BN r1 ((A6 (AE r1),true)::(!!Aq (Am (AE r1)),true)::[]))))))))),.val false [.b false]):=dj
theorem Amn:Fv 2 [r0,r1] g [q0,q1] M M1 s (bt 16 792)=some (A' (tt 2 ((false,false)::BN g ((!Bq (AE g),false)::IL s r0 q0 ((((IL s r1 q1 ((((A' ((!BT (Fu G1B),false)::(!CT (mo (en (D6 (AE g)))),false)::[])))))))))))),Av (ZV [(Am (AE r0),BZ s (AE q0)),(Am (AE r1),BZ s (AE q1))] (D6 (AE g)))):=dj
end
section
variable (M M1:Nat) (g:Rw) (s:ByteArray) (r0 r1 r2 q0 q1 q2:Rw)
theorem Amo:Fv 3 [r0,r1,r2] g [q0,q1,q2] M M1 s (bt 3 4)=some (A' (tt 2 ((false,false)::BN g ((!Bq (AE g),true)::[]))),.val false [.b false]):=dj
theorem Amp:Fv 3 [r0,r1,r2] g [q0,q1,q2] M M1 s (bt 5 8)=some (A' (tt 2 ((false,false)::BN g ((!Bq (AE g),false)::tt 3 (BN r0 ((A6 (AE r0),false)::[]))))),.val false [.b false]):=dj
theorem Amq:Fv 3 [r0,r1,r2] g [q0,q1,q2] M M1 s (bt 6 56)=some (A' (tt 2 ((false,false)::BN g ((!Bq (AE g),false)::tt 3 (BN r0 ((A6 (AE r0),true)::(!!Aq (Am (AE r0)),true)::[]))))),.val false [.b false]):=dj
theorem Amr:Fv 3 [r0,r1,r2] g [q0,q1,q2] M M1 s (bt 10 280)=some (A' (tt 2 ((false,false)::BN g ((!Bq (AE g),false)::IL s r0 q0 ((((tt 3 (BN r1 ((A6 (AE r1),false)::[]))))))))),.val false [.b false]):=dj
theorem Ams:Fv 3 [r0,r1,r2] g [q0,q1,q2] M M1 s (bt 11 1816)=some (A' (tt 2 ((false,false)::BN g ((!Bq (AE g),false)::IL s r0 q0 ((((tt 3 (BN r1 ((A6 (AE r1),true)::(!!Aq (Am (AE r1)),true)::[]))))))))),.val false [.b false]):=dj
theorem Amt:Fv 3 [r0,r1,r2] g [q0,q1,q2] M M1 s (bt 15 8984)=some (A' (tt 2 ((false,false)::BN g ((!Bq (AE g),false)::IL s r0 q0 ((((IL s r1 q1 ((((tt 3 (BN r2 ((A6 (AE r2),false)::[]))))))))))))),.val false [.b false]):=dj
theorem Amu:Fv 3 [r0,r1,r2] g [q0,q1,q2] M M1 s (bt 16 58136)=some (A' (tt 2 ((false,false)::BN g ((!Bq (AE g),false)::IL s r0 q0 ((((IL s r1 q1 ((((tt 3 (BN r2 ((A6 (AE r2),true)::(!!Aq (Am (AE r2)),true)::[]))))))))))))),.val false [.b false]):=dj
theorem Amv:Fv 3 [r0,r1,r2] g [q0,q1,q2] M M1 s (bt 21 25368)=some (A' (tt 2 ((false,false)::BN g ((!Bq (AE g),false)::IL s r0 q0 ((((IL s r1 q1 ((((IL s r2 q2 ((((A' ((!BT (Fu G1B),false)::(!CT (mo (en (D6 (AE g)))),false)::[])))))))))))))))),Av (ZV [(Am (AE r0),BZ s (AE q0)),(Am (AE r1),BZ s (AE q1)),(Am (AE r2),BZ s (AE q2))] (D6 (AE g)))):=dj
end
section
variable {r:Cnd} {q h g:Rw} {s:ByteArray} {p:Pt FP} {t:P2}
theorem BX (hb:Bn q=true) (hr:AO r):AO (BN q r):=by
 obtain ⟨b1,b2,b3,b4⟩:=lP hb;exact ⟨jh b1,jh b2,b3,hr⟩
theorem BA (hr:AO r):AO (A' r):=⟨rfl,rfl,hr⟩
theorem DG (hb:Bn q=true) (h1:(!A6 (AE q))=false) (h2:Aq (Am (AE q))=false) (hr:AO r):AO (C_ q r):=AI 3 (BX hb ⟨h1,h2,hr⟩)
theorem DH (hb:Bn q=true) (hr:AO r):AO (C5 q::r):=by
 obtain ⟨b1,_⟩:=lP hb;exact ⟨jh dk,hr⟩
theorem IP (hb:Bn q=true) (ht:Hg s=true) (hr:AO r):AO (Hl s q r):=by
 obtain ⟨b1,b2,b3,b4⟩:=lP hb;obtain ⟨t1,t2,t3⟩:=Aip ht;exact ⟨jh dk,jh dk,jh b4,jh t1,jh t2,jh (jj _),hr⟩
theorem D7 (h1:BT p=true) (h2:CT t=true) (hr:AO r):AO (D2 p t r):=by
 refine ⟨?_,rfl,?_,hr⟩
 ·show (!BT (Fu p))=false;rw [ZW,h1];rfl
 ·show (!CT (mo (en t)))=false;rw [mo_en,h2];rfl
theorem FV (s:ByteArray) (x:dn):CT (BZ s x)=true:=by
 obtain ⟨h1,h2⟩:=AjI x (AA (MP s) 0 s.size)
 unfold CT BZ;rw [(LU _).2 h1,h2];rfl
theorem Qs:BT (Rg.neg (Fu G1B))=true:=by rw [ZW];exact (AaX _).trans YK
theorem I0 (hb:Bn q=true) (hb':Bn h=true) (ht:Hg s=true) (h1:A6 (AE q)=true) (h2:(!!Aq (Am (AE q)))=false) (h3:BT (Am (AE q))=true) (hr:AO r):AO (IL s q h r):=by
 refine AI 3 (BX hb ⟨h1,h2,rfl,BX hb ⟨rfl,IP hb' ht ⟨?_,?_,hr⟩⟩⟩)
 ·show (!BT (Fu _))=false;rw [ZW,h3];rfl
 ·show (!CT (mo (en _)))=false;rw [mo_en,FV];rfl
theorem ABf (h2:CT t=true) (hr:AO r):AO ((!BT (Fu G1B),false)::(!CT (mo (en t)),false)::r):=by
 refine ⟨?_,?_,hr⟩
 ·show (!BT (Fu _))=false;rw [ZW,YK];rfl
 ·show (!CT (mo (en t)))=false;rw [mo_en,h2];rfl
end
def CU (r:Rw):Prop:=∀ d∈AE r,0≤d∧d<256
theorem DI {r:Rw} (hb:CU r) (h:A6 (AE r)=true):BT (Am (AE r))=true:=(AZi hb (jx h)).1
theorem WR {r:Rw} (hb:CU r) (h:Bq (AE r)=true):CT (D6 (AE r))=true:=(AaS hb (jx h)).1
theorem mB {args:List AV} {H:Heap} {k0:Nat} {p:List Bool} {c:Cnd} {v:AV} (h:lW args H k0 p=some (c,v)) (hc:AO c):Ab dm 26 args H k0 [] v [] :=
 AMQ (AOS AMC AB func26 dj dj 900) func26 dj dj h hc
noncomputable def rvR (args:List AV) (H:Heap) (k0:Nat) (p:List Bool):=ZT (BF dm oEb1 f27 900) args H k0 p
theorem mC {args:List AV} {H:Heap} {k0:Nat} {p:List Bool} {c:Cnd} {v:AV} (h:rvR args H k0 p=some (c,v)) (hc:AO c):Ab dm 27 args H k0 [] v [] :=
 AMQ (BK AMC AB func27 dj dj 900) func27 dj dj h hc
section
variable {M M1:Nat} {g:Rw} {s:ByteArray} {p:List Bool} {c:Cnd} {v:AV} {b:Bool}
theorem IQ {k:Nat} {l1 l2:List Rw} (h:Er k l1 g l2 M M1 s p=some (c,.val false [.b false])) (hc:AO c) (hv:b=false):Ab dm 26 (Jo k g M M1 s) (Jp l1 l2 g) (3+2*k) [] (Av b) []:=by
 subst hv;exact BL (mB h hc) fun _ _ q=>Qq q
theorem Qt {k:Nat} {l1 l2:List Rw} {b':Bool} (h:Er k l1 g l2 M M1 s p=some (c,Av b')) (hc:AO c) (hv:b=b'):Ab dm 26 (Jo k g M M1 s) (Jp l1 l2 g) (3+2*k) [] (Av b) []:=by
 subst hv;exact mB h hc
theorem IR {k:Nat} {l1 l2:List Rw} (h:Fv k l1 g l2 M M1 s p=some (c,.val false [.b false])) (hc:AO c) (hv:b=false):Ab dm 27 (Jo k g M M1 s) (Jp l1 l2 g) (3+2*k) [] (Av b) []:=by
 subst hv;exact BL (mC h hc) fun _ _ q=>Qq q
theorem ABh {k:Nat} {l1 l2:List Rw} {b':Bool} (h:Fv k l1 g l2 M M1 s p=some (c,Av b')) (hc:AO c) (hv:b=b'):Ab dm 27 (Jo k g M M1 s) (Jp l1 l2 g) (3+2*k) [] (Av b) []:=by
 subst hv;exact mC h hc
end
theorem AMX:∀ (xs:dn) (a:ByteArray),(xs.foldl (fun r n=>r.push (UInt8.ofNat n.toNat)) a).data.toList=a.data.toList++xs.map fun n=>UInt8.ofNat n.toNat
 | [],a=>by simp
 | x::xs,a=>by
  rw [List.foldl_cons,AMX xs];simp [ByteArray.push]
theorem Amw {xs ys:dn} (hx:∀ d∈xs,0≤d∧d<256) (hy:∀ d∈ys,0≤d∧d<256) (h:BO xs=BO ys):xs=ys:=by
 have e:xs.map (fun n=>UInt8.ofNat n.toNat)=ys.map fun n=>UInt8.ofNat n.toNat:=by
  have:=jl (fun b:ByteArray=>b.data.toList) h
  simpa [BO,AMX] using this
 clear h;induction xs generalizing ys with
 | nil=>cases ys with
  | nil=>rfl
  | cons y ys=>cases e
 | cons x xs ih=>cases ys with
  | nil=>cases e
  | cons y ys =>
   injection e with e1 e2;have h1:=hx x (by simp)
   have h2:=hy y (by simp)
   have e3:x=y:=by
    have:=jl UInt8.toNat e1
    simp only [UInt8.toNat_ofNat'] at this;omega
   rw [e3,ih (fun d hd=>hx d (by simp [hd])) (fun d hd=>hy d (by simp [hd])) e2]
theorem Amx {a b:ByteArray} (h:(a==b)=true):a=b:=by
 have h:ByteArray.beq a b=true:=h
 unfold ByteArray.beq at h;cases a;cases b;simpa using h
theorem ZX {q q':Rw} (h1:CU q) (h2:CU q') (h:(BO (AE q)==BO (AE q'))=true):AE q=AE q':=Amw h1 h2 (Amx h)
theorem Kv {x:dn} {l:List (dn)} (h:A6 x=false):MA (x::l)=false:=by
 show ((A6 x&&_)&&_)=false;rw [h];rfl
theorem Kw {x:dn} {l:List (dn)} (h:Aq (Am x)=true):MA (x::l)=false:=by
 show ((A6 x&&!Aq (Am x))&&_)=false;rw [h];cases A6 x<;>rfl
theorem CJ {x:dn} {l:List (dn)} (h1:A6 x=true) (h2:Aq (Am x)=false):MA (x::l)=MA l:=by
 show ((A6 x&&!Aq (Am x))&&_)=_;rw [h1,h2];rfl
theorem MB:MA []=true:=rfl
theorem mD (x:dn) (r L2:List (dn)) (s:dn) (t:ByteArray):l9 (x::r) L2 s t=(decide ((x::r).length=L2.length)&&(Bq s&&(MA (x::r)&&decide (IM 1 (WQ t (x::r) L2)=finF (DQ G1B (D6 s)))))):=rfl
theorem WS (t:ByteArray) (x y:dn) (r q:List (dn)):WQ t (x::r) (y::q)=(Am x,BZ t y)::WQ t r q:=rfl
theorem ABi (t:ByteArray):WQ t [] []=[]:=rfl
theorem Ez (a b:Bool):(a&&(false&&b))=false:=by cases a<;>rfl
theorem MC (b:Bool):(true&&(true&&b))=b:=rfl
theorem Qu {g:dn} {s:ByteArray} (x0 y0:dn):IN [x0] [y0] g s=(Bq g&&(MA [x0]&&decide (IM 1 [(Am x0,BZ s y0)]=finF (DQ G1B (D6 g))))):=by
 have e:decide (([x0]:List (dn)).length=([y0]:List (dn)).length)=true:=jc rfl
 rw [mA,mD,e,ld,WS,ABi]
theorem Jq {g:dn} {s:ByteArray} (x0 x1 y0 y1:dn):IN [x0,x1] [y0,y1] g s=(Bq g&&(MA [x0,x1]&&decide (IM 1 [(Am x0,BZ s y0),(Am x1,BZ s y1)]=finF (DQ G1B (D6 g))))):=by
 have e:decide (([x0,x1]:List (dn)).length=([y0,y1]:List (dn)).length)=true:=jc rfl
 rw [mA,mD,e,ld,WS,WS,ABi]
theorem Fw {g:dn} {s:ByteArray} (x0 x1 x2 y0 y1 y2:dn):IN [x0,x1,x2] [y0,y1,y2] g s=(Bq g&&(MA [x0,x1,x2]&&decide (IM 1 [(Am x0,BZ s y0),(Am x1,BZ s y1),(Am x2,BZ s y2)]=finF (DQ G1B (D6 g))))):=by
 have e:decide (([x0,x1,x2]:List (dn)).length=([y0,y1,y2]:List (dn)).length)=true:=jc rfl
 rw [mA,mD,e,ld,WS,WS,WS,ABi]
theorem Amy (M M1:Nat) {g:Rw} {s:ByteArray} {r0 q0:Rw} (br0:Bn r0=true) (yr0:CU r0) (bq0:Bn q0=true) (_yq0:CU q0) (bg:Bn g=true) (yg:CU g) (ht:Hg s=true):Ab dm 26 (Jo 1 g M M1 s) (Jp [r0] [q0] g) (3+2*1) [] (Av (IN [AE r0] [AE q0] (AE g) s)) []:=by
 cases k0:A6 (AE r0) with
 | false =>
  have n0:(!A6 (AE r0))=true:=by rw [k0];rfl
  exact IQ (AmB ..) (BA (AI 2 ⟨rfl,(AI 3 (BX br0 ⟨n0,trivial⟩))⟩)) (by rw [Qu,Kv k0];exact Ez _ _)
 | true =>
  have n0:(!A6 (AE r0))=false:=by rw [k0];rfl
  cases i0:Aq (Am (AE r0)) with
  | true =>
   have j0:(!!Aq (Am (AE r0)))=true:=by rw [i0];rfl
   exact IQ (AmC ..) (BA (AI 2 ⟨rfl,(AI 3 (BX br0 ⟨n0,⟨i0,trivial⟩⟩))⟩)) (by rw [Qu,Kw i0];exact Ez _ _)
  | false =>
   have j0:(!!Aq (Am (AE r0)))=false:=by rw [i0];rfl
   cases m0:Bq (AE g) with
   | false =>
    have m1:(!Bq (AE g))=true:=by rw [m0];rfl
    exact IQ (AmD ..) (BA (AI 2 ⟨rfl,(DG br0 n0 i0 (BA (BX bg ⟨m1,trivial⟩)))⟩)) (by rw [Qu,m0];rfl)
   | true =>
    have m1:(!Bq (AE g))=false:=by rw [m0];rfl
    have m2:=WR yg m0;exact Qt (AmE ..) (BA (AI 2 ⟨rfl,(DG br0 n0 i0 (BA (BX bg ⟨m1,(AI 3 (DH bq0 (IP bq0 ht (DH bq0 (BA ⟨rfl,(AI 6 ⟨rfl,(BA (AI 3 (D7 (DI yr0 k0) (FV _ _) (AI 6 ⟨rfl,(AI 2 (D7 Qs m2 (AI 6 ⟨rfl,⟨rfl,(AI 2 trivial)⟩⟩)))⟩))))⟩)⟩)))))⟩)))⟩)) (by rw [Qr _ m2,Qu,m0,CJ k0 i0,MB];exact MC _)
theorem Amz (M M1:Nat) {g:Rw} {s:ByteArray} {r0 r1 q0 q1:Rw} (br0:Bn r0=true) (yr0:CU r0) (br1:Bn r1=true) (yr1:CU r1) (bq0:Bn q0=true) (yq0:CU q0) (bq1:Bn q1=true) (yq1:CU q1) (bg:Bn g=true) (yg:CU g) (ht:Hg s=true):Ab dm 26 (Jo 2 g M M1 s) (Jp [r0,r1] [q0,q1] g) (3+2*2) [] (Av (IN [AE r0,AE r1] [AE q0,AE q1] (AE g) s)) []:=by
 cases k0:A6 (AE r0) with
 | false =>
  have n0:(!A6 (AE r0))=true:=by rw [k0];rfl
  exact IQ (AmF ..) (BA (AI 2 ⟨rfl,(AI 3 (BX br0 ⟨n0,trivial⟩))⟩)) (by rw [Jq,Kv k0];exact Ez _ _)
 | true =>
  have n0:(!A6 (AE r0))=false:=by rw [k0];rfl
  cases i0:Aq (Am (AE r0)) with
  | true =>
   have j0:(!!Aq (Am (AE r0)))=true:=by rw [i0];rfl
   exact IQ (AmG ..) (BA (AI 2 ⟨rfl,(AI 3 (BX br0 ⟨n0,⟨i0,trivial⟩⟩))⟩)) (by rw [Jq,Kw i0];exact Ez _ _)
  | false =>
   have j0:(!!Aq (Am (AE r0)))=false:=by rw [i0];rfl
   cases k1:A6 (AE r1) with
   | false =>
    have n1:(!A6 (AE r1))=true:=by rw [k1];rfl
    exact IQ (AmH ..) (BA (AI 2 ⟨rfl,(DG br0 n0 i0 (AI 3 (BX br1 ⟨n1,trivial⟩)))⟩)) (by rw [Jq,CJ k0 i0,Kv k1];exact Ez _ _)
   | true =>
    have n1:(!A6 (AE r1))=false:=by rw [k1];rfl
    cases i1:Aq (Am (AE r1)) with
    | true =>
     have j1:(!!Aq (Am (AE r1)))=true:=by rw [i1];rfl
     exact IQ (AmI ..) (BA (AI 2 ⟨rfl,(DG br0 n0 i0 (AI 3 (BX br1 ⟨n1,⟨i1,trivial⟩⟩)))⟩)) (by rw [Jq,CJ k0 i0,Kw i1];exact Ez _ _)
    | false =>
     have j1:(!!Aq (Am (AE r1)))=false:=by rw [i1];rfl
     cases m0:Bq (AE g) with
     | false =>
      have m1:(!Bq (AE g))=true:=by rw [m0];rfl
      exact IQ (AmJ ..) (BA (AI 2 ⟨rfl,(DG br0 n0 i0 (DG br1 n1 i1 (BA (BX bg ⟨m1,trivial⟩))))⟩)) (by rw [Jq,m0];rfl)
     | true =>
      have m1:(!Bq (AE g))=false:=by rw [m0];rfl
      have m2:=WR yg m0;cases e10:(BO (AE q1)==BO (AE q0)) with
      | true =>
       have Ee10:=ZX yq1 yq0 e10;exact Qt (AmK ..) (BA (AI 2 ⟨rfl,(DG br0 n0 i0 (DG br1 n1 i1 (BA (BX bg ⟨m1,(AI 3 (DH bq0 (IP bq0 ht (DH bq0 (AI 3 (DH bq1 ⟨e10,(BA ⟨rfl,(AI 6 ⟨rfl,(BA (AI 3 (D7 (DI yr0 k0) (FV _ _) (AI 6 ⟨rfl,(AI 2 (D7 (DI yr1 k1) (FV _ _) (AI 6 ⟨rfl,(AI 2 (D7 Qs m2 (AI 6 ⟨rfl,⟨rfl,(AI 2 trivial)⟩⟩)))⟩)))⟩))))⟩)⟩)⟩))))))⟩))))⟩)) (by rw [Qr _ m2,Jq,m0,CJ k0 i0,CJ k1 i1,MB,Ee10];exact MC _)
      | false =>
       exact Qt (AmL ..) (BA (AI 2 ⟨rfl,(DG br0 n0 i0 (DG br1 n1 i1 (BA (BX bg ⟨m1,(AI 3 (DH bq0 (IP bq0 ht (DH bq0 (AI 3 (DH bq1 ⟨e10,(IP bq1 ht (DH bq1 ⟨e10,(BA ⟨rfl,(AI 6 ⟨rfl,(BA (AI 3 (D7 (DI yr0 k0) (FV _ _) (AI 6 ⟨rfl,(AI 2 (D7 (DI yr1 k1) (FV _ _) (AI 6 ⟨rfl,(AI 2 (D7 Qs m2 (AI 6 ⟨rfl,⟨rfl,(AI 2 trivial)⟩⟩)))⟩)))⟩))))⟩)⟩)⟩))⟩))))))⟩))))⟩)) (by rw [Qr _ m2,Jq,m0,CJ k0 i0,CJ k1 i1,MB];exact MC _)
theorem Am0 (M M1:Nat) {g:Rw} {s:ByteArray} {r0 r1 r2 q0 q1 q2:Rw} (br0:Bn r0=true) (yr0:CU r0) (br1:Bn r1=true) (yr1:CU r1) (br2:Bn r2=true) (yr2:CU r2) (bq0:Bn q0=true) (yq0:CU q0) (bq1:Bn q1=true) (yq1:CU q1) (bq2:Bn q2=true) (yq2:CU q2) (bg:Bn g=true) (yg:CU g) (ht:Hg s=true):Ab dm 26 (Jo 3 g M M1 s) (Jp [r0,r1,r2] [q0,q1,q2] g) (3+2*3) [] (Av (IN [AE r0,AE r1,AE r2] [AE q0,AE q1,AE q2] (AE g) s)) []:=by
 cases k0:A6 (AE r0) with
 | false =>
  have n0:(!A6 (AE r0))=true:=by rw [k0];rfl
  exact IQ (AmM ..) (BA (AI 2 ⟨rfl,(AI 3 (BX br0 ⟨n0,trivial⟩))⟩)) (by rw [Fw,Kv k0];exact Ez _ _)
 | true =>
  have n0:(!A6 (AE r0))=false:=by rw [k0];rfl
  cases i0:Aq (Am (AE r0)) with
  | true =>
   have j0:(!!Aq (Am (AE r0)))=true:=by rw [i0];rfl
   exact IQ (AmN ..) (BA (AI 2 ⟨rfl,(AI 3 (BX br0 ⟨n0,⟨i0,trivial⟩⟩))⟩)) (by rw [Fw,Kw i0];exact Ez _ _)
  | false =>
   have j0:(!!Aq (Am (AE r0)))=false:=by rw [i0];rfl
   cases k1:A6 (AE r1) with
   | false =>
    have n1:(!A6 (AE r1))=true:=by rw [k1];rfl
    exact IQ (AmO ..) (BA (AI 2 ⟨rfl,(DG br0 n0 i0 (AI 3 (BX br1 ⟨n1,trivial⟩)))⟩)) (by rw [Fw,CJ k0 i0,Kv k1];exact Ez _ _)
   | true =>
    have n1:(!A6 (AE r1))=false:=by rw [k1];rfl
    cases i1:Aq (Am (AE r1)) with
    | true =>
     have j1:(!!Aq (Am (AE r1)))=true:=by rw [i1];rfl
     exact IQ (AmP ..) (BA (AI 2 ⟨rfl,(DG br0 n0 i0 (AI 3 (BX br1 ⟨n1,⟨i1,trivial⟩⟩)))⟩)) (by rw [Fw,CJ k0 i0,Kw i1];exact Ez _ _)
    | false =>
     have j1:(!!Aq (Am (AE r1)))=false:=by rw [i1];rfl
     cases k2:A6 (AE r2) with
     | false =>
      have n2:(!A6 (AE r2))=true:=by rw [k2];rfl
      exact IQ (AmQ ..) (BA (AI 2 ⟨rfl,(DG br0 n0 i0 (DG br1 n1 i1 (AI 3 (BX br2 ⟨n2,trivial⟩))))⟩)) (by rw [Fw,CJ k0 i0,CJ k1 i1,Kv k2];exact Ez _ _)
     | true =>
      have n2:(!A6 (AE r2))=false:=by rw [k2];rfl
      cases i2:Aq (Am (AE r2)) with
      | true =>
       have j2:(!!Aq (Am (AE r2)))=true:=by rw [i2];rfl
       exact IQ (AmR ..) (BA (AI 2 ⟨rfl,(DG br0 n0 i0 (DG br1 n1 i1 (AI 3 (BX br2 ⟨n2,⟨i2,trivial⟩⟩))))⟩)) (by rw [Fw,CJ k0 i0,CJ k1 i1,Kw i2];exact Ez _ _)
      | false =>
       have j2:(!!Aq (Am (AE r2)))=false:=by rw [i2];rfl
       cases m0:Bq (AE g) with
       | false =>
        have m1:(!Bq (AE g))=true:=by rw [m0];rfl
        exact IQ (AmS ..) (BA (AI 2 ⟨rfl,(DG br0 n0 i0 (DG br1 n1 i1 (DG br2 n2 i2 (BA (BX bg ⟨m1,trivial⟩)))))⟩)) (by rw [Fw,m0];rfl)
       | true =>
        have m1:(!Bq (AE g))=false:=by rw [m0];rfl
        have m2:=WR yg m0;cases e10:(BO (AE q1)==BO (AE q0)) with
        | true =>
         have Ee10:=ZX yq1 yq0 e10;cases e20:(BO (AE q2)==BO (AE q0)) with
         | true =>
          have Ee20:=ZX yq2 yq0 e20;exact Qt (AmT ..) (BA (AI 2 ⟨rfl,(DG br0 n0 i0 (DG br1 n1 i1 (DG br2 n2 i2 (BA (BX bg ⟨m1,(AI 3 (DH bq0 (IP bq0 ht (DH bq0 (AI 3 (DH bq1 ⟨e10,(AI 3 (DH bq2 ⟨e20,(BA ⟨rfl,(AI 6 ⟨rfl,(BA (AI 3 (D7 (DI yr0 k0) (FV _ _) (AI 6 ⟨rfl,(AI 2 (D7 (DI yr1 k1) (FV _ _) (AI 6 ⟨rfl,(AI 2 (D7 (DI yr2 k2) (FV _ _) (AI 6 ⟨rfl,(AI 2 (D7 Qs m2 (AI 6 ⟨rfl,⟨rfl,(AI 2 trivial)⟩⟩)))⟩)))⟩)))⟩))))⟩)⟩)⟩))⟩))))))⟩)))))⟩)) (by rw [Qr _ m2,Fw,m0,CJ k0 i0,CJ k1 i1,CJ k2 i2,MB,Ee10,Ee20];exact MC _)
         | false =>
          exact Qt (AmU ..) (BA (AI 2 ⟨rfl,(DG br0 n0 i0 (DG br1 n1 i1 (DG br2 n2 i2 (BA (BX bg ⟨m1,(AI 3 (DH bq0 (IP bq0 ht (DH bq0 (AI 3 (DH bq1 ⟨e10,(AI 3 (DH bq2 ⟨e20,(IP bq2 ht (DH bq2 ⟨e20,(BA ⟨rfl,(AI 6 ⟨rfl,(BA (AI 3 (D7 (DI yr0 k0) (FV _ _) (AI 6 ⟨rfl,(AI 2 (D7 (DI yr1 k1) (FV _ _) (AI 6 ⟨rfl,(AI 2 (D7 (DI yr2 k2) (FV _ _) (AI 6 ⟨rfl,(AI 2 (D7 Qs m2 (AI 6 ⟨rfl,⟨rfl,(AI 2 trivial)⟩⟩)))⟩)))⟩)))⟩))))⟩)⟩)⟩))⟩))⟩))))))⟩)))))⟩)) (by rw [Qr _ m2,Fw,m0,CJ k0 i0,CJ k1 i1,CJ k2 i2,MB,Ee10];exact MC _)
        | false =>
         cases e20:(BO (AE q2)==BO (AE q0)) with
         | true =>
          have Ee20:=ZX yq2 yq0 e20;exact Qt (AmV ..) (BA (AI 2 ⟨rfl,(DG br0 n0 i0 (DG br1 n1 i1 (DG br2 n2 i2 (BA (BX bg ⟨m1,(AI 3 (DH bq0 (IP bq0 ht (DH bq0 (AI 3 (DH bq1 ⟨e10,(IP bq1 ht (DH bq1 ⟨e10,(AI 3 (DH bq2 ⟨e20,(BA ⟨rfl,(AI 6 ⟨rfl,(BA (AI 3 (D7 (DI yr0 k0) (FV _ _) (AI 6 ⟨rfl,(AI 2 (D7 (DI yr1 k1) (FV _ _) (AI 6 ⟨rfl,(AI 2 (D7 (DI yr2 k2) (FV _ _) (AI 6 ⟨rfl,(AI 2 (D7 Qs m2 (AI 6 ⟨rfl,⟨rfl,(AI 2 trivial)⟩⟩)))⟩)))⟩)))⟩))))⟩)⟩)⟩))⟩))⟩))))))⟩)))))⟩)) (by rw [Qr _ m2,Fw,m0,CJ k0 i0,CJ k1 i1,CJ k2 i2,MB,Ee20];exact MC _)
         | false =>
          cases e21:(BO (AE q2)==BO (AE q1)) with
          | true =>
           have Ee21:=ZX yq2 yq1 e21;exact Qt (AmW ..) (BA (AI 2 ⟨rfl,(DG br0 n0 i0 (DG br1 n1 i1 (DG br2 n2 i2 (BA (BX bg ⟨m1,(AI 3 (DH bq0 (IP bq0 ht (DH bq0 (AI 3 (DH bq1 ⟨e10,(IP bq1 ht (DH bq1 ⟨e10,(AI 3 (DH bq2 ⟨e20,⟨e21,(BA ⟨rfl,(AI 6 ⟨rfl,(BA (AI 3 (D7 (DI yr0 k0) (FV _ _) (AI 6 ⟨rfl,(AI 2 (D7 (DI yr1 k1) (FV _ _) (AI 6 ⟨rfl,(AI 2 (D7 (DI yr2 k2) (FV _ _) (AI 6 ⟨rfl,(AI 2 (D7 Qs m2 (AI 6 ⟨rfl,⟨rfl,(AI 2 trivial)⟩⟩)))⟩)))⟩)))⟩))))⟩)⟩)⟩⟩))⟩))⟩))))))⟩)))))⟩)) (by rw [Qr _ m2,Fw,m0,CJ k0 i0,CJ k1 i1,CJ k2 i2,MB,Ee21];exact MC _)
          | false =>
           exact Qt (AmX ..) (BA (AI 2 ⟨rfl,(DG br0 n0 i0 (DG br1 n1 i1 (DG br2 n2 i2 (BA (BX bg ⟨m1,(AI 3 (DH bq0 (IP bq0 ht (DH bq0 (AI 3 (DH bq1 ⟨e10,(IP bq1 ht (DH bq1 ⟨e10,(AI 3 (DH bq2 ⟨e20,⟨e21,(IP bq2 ht (DH bq2 ⟨e20,⟨e21,(BA ⟨rfl,(AI 6 ⟨rfl,(BA (AI 3 (D7 (DI yr0 k0) (FV _ _) (AI 6 ⟨rfl,(AI 2 (D7 (DI yr1 k1) (FV _ _) (AI 6 ⟨rfl,(AI 2 (D7 (DI yr2 k2) (FV _ _) (AI 6 ⟨rfl,(AI 2 (D7 Qs m2 (AI 6 ⟨rfl,⟨rfl,(AI 2 trivial)⟩⟩)))⟩)))⟩)))⟩))))⟩)⟩)⟩⟩))⟩⟩))⟩))⟩))))))⟩)))))⟩)) (by rw [Qr _ m2,Fw,m0,CJ k0 i0,CJ k1 i1,CJ k2 i2,MB];exact MC _)
theorem Am1 (M M1:Nat) {g:Rw} {s:ByteArray} {r0 q0:Rw} (br0:Bn r0=true) (yr0:CU r0) (bq0:Bn q0=true) (_yq0:CU q0) (bg:Bn g=true) (yg:CU g) (ht:Hg s=true):Ab dm 27 (Jo 1 g M M1 s) (Jp [r0] [q0] g) (3+2*1) [] (Av (IN [AE r0] [AE q0] (AE g) s)) []:=by
 cases m0:Bq (AE g) with
 | false =>
  have m1:(!Bq (AE g))=true:=by rw [m0];rfl
  exact IR (Ame ..) (BA (AI 2 ⟨rfl,(BX bg ⟨m1,trivial⟩)⟩)) (by rw [Qu,m0];rfl)
 | true =>
  have m1:(!Bq (AE g))=false:=by rw [m0];rfl
  have m2:=WR yg m0;cases k0:A6 (AE r0) with
  | false =>
   have n0:(!A6 (AE r0))=true:=by rw [k0];rfl
   exact IR (Amf ..) (BA (AI 2 ⟨rfl,(BX bg ⟨m1,(AI 3 (BX br0 ⟨k0,trivial⟩))⟩)⟩)) (by rw [Qu,Kv k0];exact Ez _ _)
  | true =>
   have n0:(!A6 (AE r0))=false:=by rw [k0];rfl
   cases i0:Aq (Am (AE r0)) with
   | true =>
    have j0:(!!Aq (Am (AE r0)))=true:=by rw [i0];rfl
    exact IR (Amg ..) (BA (AI 2 ⟨rfl,(BX bg ⟨m1,(AI 3 (BX br0 ⟨k0,⟨j0,trivial⟩⟩))⟩)⟩)) (by rw [Qu,Kw i0];exact Ez _ _)
   | false =>
    have j0:(!!Aq (Am (AE r0)))=false:=by rw [i0];rfl
    exact ABh (Amh ..) (BA (AI 2 ⟨rfl,(BX bg ⟨m1,(I0 br0 bq0 ht k0 j0 (DI yr0 k0) (BA (ABf m2 trivial)))⟩)⟩)) (by rw [ABe,Qu,m0,CJ k0 i0,MB];exact MC _)
theorem Am2 (M M1:Nat) {g:Rw} {s:ByteArray} {r0 r1 q0 q1:Rw} (br0:Bn r0=true) (yr0:CU r0) (br1:Bn r1=true) (yr1:CU r1) (bq0:Bn q0=true) (_yq0:CU q0) (bq1:Bn q1=true) (_yq1:CU q1) (bg:Bn g=true) (yg:CU g) (ht:Hg s=true):Ab dm 27 (Jo 2 g M M1 s) (Jp [r0,r1] [q0,q1] g) (3+2*2) [] (Av (IN [AE r0,AE r1] [AE q0,AE q1] (AE g) s)) []:=by
 cases m0:Bq (AE g) with
 | false =>
  have m1:(!Bq (AE g))=true:=by rw [m0];rfl
  exact IR (Ami ..) (BA (AI 2 ⟨rfl,(BX bg ⟨m1,trivial⟩)⟩)) (by rw [Jq,m0];rfl)
 | true =>
  have m1:(!Bq (AE g))=false:=by rw [m0];rfl
  have m2:=WR yg m0;cases k0:A6 (AE r0) with
  | false =>
   have n0:(!A6 (AE r0))=true:=by rw [k0];rfl
   exact IR (Amj ..) (BA (AI 2 ⟨rfl,(BX bg ⟨m1,(AI 3 (BX br0 ⟨k0,trivial⟩))⟩)⟩)) (by rw [Jq,Kv k0];exact Ez _ _)
  | true =>
   have n0:(!A6 (AE r0))=false:=by rw [k0];rfl
   cases i0:Aq (Am (AE r0)) with
   | true =>
    have j0:(!!Aq (Am (AE r0)))=true:=by rw [i0];rfl
    exact IR (Amk ..) (BA (AI 2 ⟨rfl,(BX bg ⟨m1,(AI 3 (BX br0 ⟨k0,⟨j0,trivial⟩⟩))⟩)⟩)) (by rw [Jq,Kw i0];exact Ez _ _)
   | false =>
    have j0:(!!Aq (Am (AE r0)))=false:=by rw [i0];rfl
    cases k1:A6 (AE r1) with
    | false =>
     have n1:(!A6 (AE r1))=true:=by rw [k1];rfl
     exact IR (Aml ..) (BA (AI 2 ⟨rfl,(BX bg ⟨m1,(I0 br0 bq0 ht k0 j0 (DI yr0 k0) (AI 3 (BX br1 ⟨k1,trivial⟩)))⟩)⟩)) (by rw [Jq,CJ k0 i0,Kv k1];exact Ez _ _)
    | true =>
     have n1:(!A6 (AE r1))=false:=by rw [k1];rfl
     cases i1:Aq (Am (AE r1)) with
     | true =>
      have j1:(!!Aq (Am (AE r1)))=true:=by rw [i1];rfl
      exact IR (Amm ..) (BA (AI 2 ⟨rfl,(BX bg ⟨m1,(I0 br0 bq0 ht k0 j0 (DI yr0 k0) (AI 3 (BX br1 ⟨k1,⟨j1,trivial⟩⟩)))⟩)⟩)) (by rw [Jq,CJ k0 i0,Kw i1];exact Ez _ _)
     | false =>
      have j1:(!!Aq (Am (AE r1)))=false:=by rw [i1];rfl
      exact ABh (Amn ..) (BA (AI 2 ⟨rfl,(BX bg ⟨m1,(I0 br0 bq0 ht k0 j0 (DI yr0 k0) (I0 br1 bq1 ht k1 j1 (DI yr1 k1) (BA (ABf m2 trivial))))⟩)⟩)) (by rw [ABe,Jq,m0,CJ k0 i0,CJ k1 i1,MB];exact MC _)
theorem Am3 (M M1:Nat) {g:Rw} {s:ByteArray} {r0 r1 r2 q0 q1 q2:Rw} (br0:Bn r0=true) (yr0:CU r0) (br1:Bn r1=true) (yr1:CU r1) (br2:Bn r2=true) (yr2:CU r2) (bq0:Bn q0=true) (_yq0:CU q0) (bq1:Bn q1=true) (_yq1:CU q1) (bq2:Bn q2=true) (_yq2:CU q2) (bg:Bn g=true) (yg:CU g) (ht:Hg s=true):Ab dm 27 (Jo 3 g M M1 s) (Jp [r0,r1,r2] [q0,q1,q2] g) (3+2*3) [] (Av (IN [AE r0,AE r1,AE r2] [AE q0,AE q1,AE q2] (AE g) s)) []:=by
 cases m0:Bq (AE g) with
 | false =>
  have m1:(!Bq (AE g))=true:=by rw [m0];rfl
  exact IR (Amo ..) (BA (AI 2 ⟨rfl,(BX bg ⟨m1,trivial⟩)⟩)) (by rw [Fw,m0];rfl)
 | true =>
  have m1:(!Bq (AE g))=false:=by rw [m0];rfl
  have m2:=WR yg m0;cases k0:A6 (AE r0) with
  | false =>
   have n0:(!A6 (AE r0))=true:=by rw [k0];rfl
   exact IR (Amp ..) (BA (AI 2 ⟨rfl,(BX bg ⟨m1,(AI 3 (BX br0 ⟨k0,trivial⟩))⟩)⟩)) (by rw [Fw,Kv k0];exact Ez _ _)
  | true =>
   have n0:(!A6 (AE r0))=false:=by rw [k0];rfl
   cases i0:Aq (Am (AE r0)) with
   | true =>
    have j0:(!!Aq (Am (AE r0)))=true:=by rw [i0];rfl
    exact IR (Amq ..) (BA (AI 2 ⟨rfl,(BX bg ⟨m1,(AI 3 (BX br0 ⟨k0,⟨j0,trivial⟩⟩))⟩)⟩)) (by rw [Fw,Kw i0];exact Ez _ _)
   | false =>
    have j0:(!!Aq (Am (AE r0)))=false:=by rw [i0];rfl
    cases k1:A6 (AE r1) with
    | false =>
     have n1:(!A6 (AE r1))=true:=by rw [k1];rfl
     exact IR (Amr ..) (BA (AI 2 ⟨rfl,(BX bg ⟨m1,(I0 br0 bq0 ht k0 j0 (DI yr0 k0) (AI 3 (BX br1 ⟨k1,trivial⟩)))⟩)⟩)) (by rw [Fw,CJ k0 i0,Kv k1];exact Ez _ _)
    | true =>
     have n1:(!A6 (AE r1))=false:=by rw [k1];rfl
     cases i1:Aq (Am (AE r1)) with
     | true =>
      have j1:(!!Aq (Am (AE r1)))=true:=by rw [i1];rfl
      exact IR (Ams ..) (BA (AI 2 ⟨rfl,(BX bg ⟨m1,(I0 br0 bq0 ht k0 j0 (DI yr0 k0) (AI 3 (BX br1 ⟨k1,⟨j1,trivial⟩⟩)))⟩)⟩)) (by rw [Fw,CJ k0 i0,Kw i1];exact Ez _ _)
     | false =>
      have j1:(!!Aq (Am (AE r1)))=false:=by rw [i1];rfl
      cases k2:A6 (AE r2) with
      | false =>
       have n2:(!A6 (AE r2))=true:=by rw [k2];rfl
       exact IR (Amt ..) (BA (AI 2 ⟨rfl,(BX bg ⟨m1,(I0 br0 bq0 ht k0 j0 (DI yr0 k0) (I0 br1 bq1 ht k1 j1 (DI yr1 k1) (AI 3 (BX br2 ⟨k2,trivial⟩))))⟩)⟩)) (by rw [Fw,CJ k0 i0,CJ k1 i1,Kv k2];exact Ez _ _)
      | true =>
       have n2:(!A6 (AE r2))=false:=by rw [k2];rfl
       cases i2:Aq (Am (AE r2)) with
       | true =>
        have j2:(!!Aq (Am (AE r2)))=true:=by rw [i2];rfl
        exact IR (Amu ..) (BA (AI 2 ⟨rfl,(BX bg ⟨m1,(I0 br0 bq0 ht k0 j0 (DI yr0 k0) (I0 br1 bq1 ht k1 j1 (DI yr1 k1) (AI 3 (BX br2 ⟨k2,⟨j2,trivial⟩⟩))))⟩)⟩)) (by rw [Fw,CJ k0 i0,CJ k1 i1,Kw i2];exact Ez _ _)
       | false =>
        have j2:(!!Aq (Am (AE r2)))=false:=by rw [i2];rfl
        exact ABh (Amv ..) (BA (AI 2 ⟨rfl,(BX bg ⟨m1,(I0 br0 bq0 ht k0 j0 (DI yr0 k0) (I0 br1 bq1 ht k1 j1 (DI yr1 k1) (I0 br2 bq2 ht k2 j2 (DI yr2 k2) (BA (ABf m2 trivial)))))⟩)⟩)) (by rw [ABe,Fw,m0,CJ k0 i0,CJ k1 i1,CJ k2 i2,MB];exact MC _)
theorem AMY {β:Env} {H:Heap} {w:World} {c:Ch} {r:Rw} (hg:Ex.Good β H w) (h:rowAt H c=some r):CU r:=by
 unfold rowAt at h;split at h;case h_2=>cases h
 rename_i k n m hS;split at h;case h_2=>cases h
 rename_i ty cs o hk;split at h;case h_2=>cases h
 rename_i xs hx;injection h with h;subst h;obtain ⟨g1,_,_⟩:=Eu hg hk hx;exact DM g1
def ABj (L:List (dn)):Prop:=∀ x∈L,∀ d∈x,0≤d∧d<256
theorem AMZ {β:Env} {H:Heap} {w:World} (hg:Ex.Good β H w):∀ {cs:List Ch} {rs:List Rw},Qo H cs=some rs→ABj (EH rs)
 | [],rs,h=>by injection h with h;subst h;intro x hx;cases hx
 | c::cs,rs,h=>by
  simp only [Qo] at h;split at h;case h_2=>cases h
  rename_i x rl hx hrl;injection h with h;subst h;intro y hy;rcases ju.1 hy with rfl | hy
  ·exact AMY hg hx
  ·exact AMZ hg hrl y hy
theorem AMa {β:Env} {H:Heap} {w:World} {A:AV} {K n:Nat} {rs:List Rw} (hg:Ex.Good β H w) (h:Qp H A=some (K,n,rs)):ABj (EH rs):=by
 unfold Qp at h;split at h;case h_2=>cases h
 split at h;case h_2=>cases h
 split at h;case h_2=>cases h
 rename_i rl hrl;injection h with h;injection h with e1 h;injection h with e2 e3;subst e3;exact AMZ hg hrl
theorem AMb {rs:List Rw} (h:ABj (EH rs)):∀ r∈rs,CU r:=by
 induction rs with
 | nil=>intro r hr;cases hr
 | cons x l ih =>
  intro r hr;rcases ju.1 hr with rfl | hr
  ·exact h _ (qg ..)
  ·exact ih (fun y hy=>h y (nx _ hy)) r hr
def ABk (F:FuncId):Prop:=∀ (M M1:Nat) (g:Rw) (s:ByteArray) (l1 l2:List Rw),1≤l1.length→l1.length≤3→l2.length=l1.length→FU l1=true→FU l2=true→Bn g=true→(∀ r∈l1,CU r)→(∀ r∈l2,CU r)→CU g→Hg s=true →
 Ab dm F (Jo l1.length g M M1 s) (Jp l1 l2 g) (3+2*l1.length) [] (Av (IN (EH l1) (EH l2) (AE g) s)) []
theorem Am4:ABk 26
 | M,M1,g,s,[r0],[q0],_,_,_,b1,b2,bg,y1,y2,yg,ht=>Amy M M1 (Ed b1 (by simp)) (y1 _ (by simp)) (Ed b2 (by simp)) (y2 _ (by simp)) bg yg ht
 | M,M1,g,s,[r0,r1],[q0,q1],_,_,_,b1,b2,bg,y1,y2,yg,ht=>Amz M M1 (Ed b1 (by simp)) (y1 _ (by simp)) (Ed b1 (by simp)) (y1 _ (by simp)) (Ed b2 (by simp)) (y2 _ (by simp)) (Ed b2 (by simp)) (y2 _ (by simp)) bg yg ht
 | M,M1,g,s,[r0,r1,r2],[q0,q1,q2],_,_,_,b1,b2,bg,y1,y2,yg,ht=>Am0 M M1 (Ed b1 (by simp)) (y1 _ (by simp)) (Ed b1 (by simp)) (y1 _ (by simp)) (Ed b1 (by simp)) (y1 _ (by simp)) (Ed b2 (by simp)) (y2 _ (by simp)) (Ed b2 (by simp)) (y2 _ (by simp)) (Ed b2 (by simp)) (y2 _ (by simp)) bg yg ht
theorem Am5:ABk 27
 | M,M1,g,s,[r0],[q0],_,_,_,b1,b2,bg,y1,y2,yg,ht=>Am1 M M1 (Ed b1 (by simp)) (y1 _ (by simp)) (Ed b2 (by simp)) (y2 _ (by simp)) bg yg ht
 | M,M1,g,s,[r0,r1],[q0,q1],_,_,_,b1,b2,bg,y1,y2,yg,ht=>Am2 M M1 (Ed b1 (by simp)) (y1 _ (by simp)) (Ed b1 (by simp)) (y1 _ (by simp)) (Ed b2 (by simp)) (y2 _ (by simp)) (Ed b2 (by simp)) (y2 _ (by simp)) bg yg ht
 | M,M1,g,s,[r0,r1,r2],[q0,q1,q2],_,_,_,b1,b2,bg,y1,y2,yg,ht=>Am3 M M1 (Ed b1 (by simp)) (y1 _ (by simp)) (Ed b1 (by simp)) (y1 _ (by simp)) (Ed b1 (by simp)) (y1 _ (by simp)) (Ed b2 (by simp)) (y2 _ (by simp)) (Ed b2 (by simp)) (y2 _ (by simp)) (Ed b2 (by simp)) (y2 _ (by simp)) bg yg ht
section
variable (n M n' M1 g gm:Nat) (s:ByteArray)
def ZY:List AV:=[AR 0 0 n M,AR 1 0 n' M1,AR 2 0 g gm,.val false [.v (.string s)]]
def noC:Cnd:=[(AL .i64 (n:Int),true),(decide ((n:Int)=0),false),(AL .i64 (n:Int),true),(AL .i64 (n':Int),true),(!decide ((n:Int)=(n':Int)),true)]
theorem Am6:lW (ZY n M n' M1 g gm s) [] 3 du=some ([(AL .i64 (n:Int),true),(decide ((n:Int)=0),true)],.val false [.b false]):=dj
theorem Am7:lW (ZY n M n' M1 g gm s) [] 3 dx=some (noC n n',.val false [.b false]):=dj
theorem Am8:rvR (ZY n M n' M1 g gm s) [] 3 du=some ([(AL .i64 (n:Int),true),(decide ((n:Int)=0),true)],.val false [.b false]):=dj
theorem Am9:rvR (ZY n M n' M1 g gm s) [] 3 dx=some (noC n n',.val false [.b false]):=dj
end
def ABl (F:FuncId):Prop:=∀ (n M n' M1 g gm:Nat) (s:ByteArray),AL .i64 (n:Int)=true→AL .i64 (n':Int)=true→(n=0∨n≠n')→Ab dm F (ZY n M n' M1 g gm s) [] 3 [] (Av false) []
theorem Am_:ABl 26:=fun n M n' M1 g gm s h h' hn=>by
 by_cases h0:n=0
 ·exact BL (mB (Am6 n M n' M1 g gm s) ⟨h,jc dk,trivial⟩) fun _ _ q=>Qq q
 ·exact BL (mB (Am7 n M n' M1 g gm s) ⟨h,jg dk,h,h',by rw [jg dk];rfl,trivial⟩) fun _ _ q=>Qq q
theorem Am':ABl 27:=fun n M n' M1 g gm s h h' hn=>by
 by_cases h0:n=0
 ·exact BL (mC (Am8 n M n' M1 g gm s) ⟨h,jc dk,trivial⟩) fun _ _ q=>Qq q
 ·exact BL (mC (Am9 n M n' M1 g gm s) ⟨h,jg dk,h,h',by rw [jg dk];rfl,trivial⟩) fun _ _ q=>Qq q
theorem ABm:∀ l:List Rw,(EH l).length=l.length
 | []=>rfl
 | _::l=>by rw [EH,kp,ABm l,kp]
theorem AnA {l1 l2:List Rw} {g:dn} {s:ByteArray} (h:l1.length=0∨l1.length≠l2.length):IN (EH l1) (EH l2) g s=false:=by
 rw [mA];cases l1 with
 | nil=>rfl
 | cons x l =>
  have e:decide ((AE x::EH l).length=(EH l2).length)=false:=jg fun e=>by
   rw [kp,ABm,ABm] at e;rcases h with h | h
   ·simp at h
   ·exact h (by rw [kp];exact e)
  show l9 (AE x::EH l) _ _ _=false;rw [mD,e,n_]
noncomputable def alSp:ASpec:=fun args H fr gv=>match args with
 | [P,Q,.val false [c],.val false [.v (.string t)]]=>match Qp H P,Qp H Q,rowAt H c with
  | some (K1,n1,l1),some (K2,n2,l2),some g=>match Nat.beq n1 (BU l1)&&Nat.beq n2 (BU l2),Nat.beq n1 n2&&(Nat.ble 1 n1&&Nat.ble n1 3) with
   | true,true=>some (BR ([K1,K2]++EI (g::(l1++l2))) (3+2*n1) fr 0 [] (Av (IN (EH l1) (EH l2) (AE g) t)) [] [(FU (g::(l1++l2))&&Hg t,true)] gv)
   | true,false=>some (BR [K1,K2,g.1] 3 fr 0 [] (Av (IN (EH l1) (EH l2) (AE g) t)) [] [(AL .i64 (n1:Int)&&(AL .i64 (n2:Int)&&(Nat.beq n1 0||!Nat.beq n1 n2)),true),(Bn g,true)] gv)
   | _,_=>none
  | _,_,_=>none
 | _=>none
theorem AMd:∀ {a b:List Rw},FU (a++b)=true→FU a=true∧FU b=true
 | [],_,h=>⟨rfl,h⟩
 | x::a,b,h=>by
  obtain ⟨h1,h2⟩:=jo.1 h;obtain ⟨h3,h4⟩:=AMd h2;exact ⟨jo.2 ⟨h1,h3⟩,h4⟩
theorem ABn:∀ a b:List Rw,EI (a++b)=EI a++EI b
 | [],_=>rfl
 | x::a,b=>by rw [nh,EI,ABn a b];rfl
theorem AMe {F:FuncId} {fn:Func} (ip:dm.funcs[F]? = some fn) (hb:fn.body.isSome=true) (h_:fo fn) (h1:ABk F) (h2:ABl F):BJ dm F alSp:=by
 refine Da ip hb h_ fun args H fr gv r hs=>?_
 unfold alSp at hs;split at hs;case h_2=>cases hs
 rename_i P Q c t;split at hs;case h_2=>cases hs
 rename_i K1 n1 l1 K2 n2 l2 g hP hQ hG;split at hs;case h_3=>cases hs
 ·rename_i hn hk;injection hs with hs;refine ⟨[K1,K2]++EI (g::(l1++l2)),3+2*n1,0,[],_,_,_,_,hs.symm,fun β us w ha hg hc=>?_⟩
  obtain ⟨u1,iu,a1,⟨u2,iw,a2,⟨u3,us3,a3,⟨u4,us4,a4,ha,rfl⟩,rfl⟩,rfl⟩,rfl⟩:=ha;obtain ⟨c1,ct⟩:=jo.1 hc.1;obtain ⟨cg,c1⟩:=jo.1 c1;obtain ⟨cb1,cb2⟩:=AMd c1;obtain ⟨e1,e2⟩:=jo.1 hn;obtain ⟨e3,e4⟩:=jo.1 hk;obtain ⟨e4,e5⟩:=jo.1 e4;have e1:=Ar.1 e1;have e2:=Ar.1 e2;have e3:=Ar.1 e3;have e4:=jf e4;have e5:=jf e5;rw [NO] at e1 e2;obtain ⟨M,r1,q1,q2,q3,q4,q5,q6,q7⟩:=AML hg hP cb1 a1;obtain ⟨M1,r2,p1,p2,p3,p4,p5,p6,p7⟩:=AML hg hQ cb2 a2;obtain ⟨m,g1,g2,g3⟩:=lR hg hG cg (Az a3)
  have L1:=AMM q2;have L2:=AMM p2;have hl1:r1.length=n1:=by rw [L1,e1]
  have hl2:r2.length=n1:=by rw [L2,← e2,e3]
  subst hl1;obtain ⟨gg,hgg⟩:∃ gg:Rw,gg=(g.1,g.2.1,m,g.2.2.2):=⟨_,rfl⟩
  have hw:AE gg=AE g:=by rw [hgg];rfl
  have hk1:gg.1=g.1:=by rw [hgg]
  rw [← hgg] at g1 g3;have hK:EI (g::(l1++l2))=EI (gg::(r1++r2)):=by rw [EI,EI,ABn,ABn,q3,p3,hk1]
  have hfs:∀ r∈gg::(r1++r2),WI β w r:=fun r hr=>by
   rcases ju.1 hr with rfl | hr
   ·exact g3
   ·rcases jp.1 hr with hr | hr
    ·exact q4 r hr
    ·exact p4 r hr
  have gx:([Ak (D1 3 r1),Ak (D1 (3+BU r1) r2)]++DR (gg::(r1++r2))).length=3+2*r1.length:=by
   rw [kc,WK];simp only [kp,kc,List.length_nil,hl2];omega
  have env:∀ i r,(gg::(r1++r2))[i]? = some r→A9 β ([K1,K2]++EI (gg::(r1++r2))) (3+2*r1.length) (2+i)=β r.1:=fun i r hi=>by
   have:=AMK (β:=β) (hs:=[K1,K2]) (hb:=[Ak (D1 3 r1),Ak (D1 (3+BU r1) r2)]) rfl hi
   rwa [gx] at this
  have ev1:∀ i r,r1[i]? = some r→A9 β ([K1,K2]++EI (gg::(r1++r2))) (3+2*r1.length) (3+i)=β r.1:=fun i r hi=>by
   have ik:i<r1.length:=by
    rcases jv i r1.length with q | q
    ·exact q
    ·rw [ma q] at hi;cases hi
   have:=env (i+1) r (by rw [List.getElem?_cons_succ,nr ik];exact hi)
   rwa [show 2+(i+1)=3+i by omega] at this
  have KB:∀ i r,r2[i]? = some r→A9 β ([K1,K2]++EI (gg::(r1++r2))) (3+2*r1.length) (3+BU r1+i)=β r.1:=fun i r hi=>by
   have:=env (r1.length+i+1) r (by rw [List.getElem?_cons_succ,qv dk,show r1.length+i-r1.length=i by omega];exact hi)
   rwa [show 2+(r1.length+i+1)=3+BU r1+i by rw [NO];omega] at this
  have k0:A9 β ([K1,K2]++EI (gg::(r1++r2))) (3+2*r1.length) 0=β K1:=FK dk
  have k1:A9 β ([K1,K2]++EI (gg::(r1++r2))) (3+2*r1.length) 1=β K2:=FK dk
  have kg:A9 β ([K1,K2]++EI (gg::(r1++r2))) (3+2*r1.length) 2=β gg.1:=env 0 gg rfl
  have p6':∀ (β':Env) (j:Nat),β' j=β K2→AN β' (AR j 0 r1.length M1) u2:=by rw [e3];exact p6
  have can:=h1 M M1 gg t r1 r2 e4 e5 hl2 q1 p1 g1 (AMb (by rw [q2];exact AMa hg hP)) (AMb (by rw [p2];exact AMa hg hQ)) (by unfold CU;rw [hw];exact AMY hg hG) ct
  rw [q2,p2,hw] at can;rw [hK];refine ⟨_,_,can,dj,⟨u1,_,q6 _ 0 k0,⟨u2,_,p6' _ 1 k1,⟨u3,_,?_,⟨u4,_,MS rfl a4,ha,rfl⟩,rfl⟩,rfl⟩,rfl⟩,?_,?_⟩
  ·exact Aw (WJ (k:=gg.1) kg (by rw [hgg];exact g2))
  ·have:=Alv (hs:=[K1,K2]) (hb:=[Ak (D1 3 r1),Ak (D1 (3+BU r1) r2)]) hg rfl hfs fun j d hj=>?_
   ·rw [gx] at this;exact this
   ·rw [gx];match j,hj with
    | 0,hj=>injection hj with hj;subst hj;exact ⟨rfl,q7 _ 3 0 k0 ev1⟩
    | 1,hj=>injection hj with hj;subst hj;exact ⟨rfl,p7 _ _ 1 k1 KB⟩
  ·have:=Alw (hs:=[K1,K2]) (hb:=[Ak (D1 3 r1),Ak (D1 (3+BU r1) r2)]) rfl hfs fun j hj=>?_
   ·rw [gx] at this;exact this
   ·match j,hj with
    | 0,_=>exact q5
    | 1,_=>exact p5
 ·rename_i hn hk;injection hs with hs;refine ⟨[K1,K2,g.1],3,0,[],_,_,_,_,hs.symm,fun β us w ha hg hc=>?_⟩
  obtain ⟨u1,iu,a1,⟨u2,iw,a2,⟨u3,us3,a3,⟨u4,us4,a4,ha,rfl⟩,rfl⟩,rfl⟩,rfl⟩:=ha;obtain ⟨c1,cg,_⟩:=hc;obtain ⟨b1,c1⟩:=jo.1 c1;obtain ⟨b2,c1⟩:=jo.1 c1;obtain ⟨e1,e2⟩:=jo.1 hn;have e1:=Ar.1 e1;have e2:=Ar.1 e2;rw [NO] at e1 e2;have iz:n1=0∨n1≠n2:=by
   rcases Bool.or_eq_true_iff.1 c1 with q | q
   ·exact .inl (Ar.1 q)
   ·exact .inr fun e=>by rw [Ar.2 e] at q;cases q
  obtain ⟨m,g1,g2,g3⟩:=lR hg hG cg (Az a3)
  have rowsK:∀ {A:AV} {K n:Nat} {l:List Rw} {u:Value},Qp H A=some (K,n,l)→AN β A u→(∃ X,β K=some X)∧∃ M,∀ (β':Env) (j:Nat),β' j=β K→AN β' (AR j 0 n M) u:=by
   intro A K n l u hA hr;unfold Qp at hA;split at hA;case h_2=>cases hA
   rename_i K' n' hS;split at hA;case h_2=>cases hA
   rename_i ty cs o hk';split at hA;case h_2=>cases hA
   injection hA with hA;injection hA with f1 hA;injection hA with f2 f3;subst f1;subst f2;obtain ⟨M,x1,x2,y1,y2,y3⟩:=FE hS hr;exact ⟨CS (hg.heap _ _ hk'),M,fun β' j e=>⟨x1,x2,WJ e y1,y2,y3⟩⟩
  obtain ⟨d1,M,v1⟩:=rowsK hP a1;obtain ⟨d2,M1,v2⟩:=rowsK hQ a2;have can:=h2 n1 M n2 M1 g.2.1 m t b1 b2 iz;rw [AnA (l1:=l1) (l2:=l2) (by rw [← e1,← e2];exact iz)]
  refine ⟨_,_,can,dj,⟨u1,_,v1 _ 0 (FK dk),⟨u2,_,v2 _ 1 (FK dk),⟨u3,_,Aw (WJ (FK dk) g2),⟨u4,_,MS rfl a4,ha,rfl⟩,rfl⟩,rfl⟩,rfl⟩,⟨fun _ _ h=>by (cases h),fun _ _ _ _ _ h=>by (cases h),fun j B n hj=>?_⟩,fun j hj=>?_⟩
  ·unfold A9 at hj;split at hj
   ·exact hg.lt _ _ _ hj
   ·cases hj
  ·match j,hj with
   | 0,_=>exact d1
   | 1,_=>exact d2
   | 2,_=>exact g3.1
section
variable (n m:Nat) (xs:dn)
noncomputable def Th (f:Func) (p:List Bool):gq:=Aj f [AR 0 0 n m] [(0,some (Ak [.seq .u8 xs]))] 1 p
theorem AnB:AT dm oEb0 f11 300 1 [] (Th n m xs f11 dt)=some (BN (0,n,m,xs) ((A6 (AA xs 0 n),false)::[]),[],.val false [.b false],[]):=dj
theorem AnC:AT dm oEb0 f11 300 1 [] (Th n m xs f11 du)=some (BN (0,n,m,xs) ((A6 (AA xs 0 n),true)::[]),[],Av (!Aq (Am (AA xs 0 n))),[]):=dj
theorem AnD:AT dm oEb0 f12 300 1 [] (Th n m xs f12 dt)=some (BN (0,n,m,xs) ((A6 (AA xs 0 n),false)::[]),[],.val false [.b false],[]):=dj
theorem AnE:AT dm oEb0 f12 300 1 [] (Th n m xs f12 du)=some (BN (0,n,m,xs) ((A6 (AA xs 0 n),true)::[]),[],Av (!Aq (Am (AA xs 0 n))),[]):=dj
end
noncomputable def mF (x:dn):Bool:=A6 x&&!Aq (Am x)
theorem AMf {F:FuncId} {fn:Func} (ip:dm.funcs[F]? = some fn) (hb:fn.body.isSome=true) (hl:Nat.ble 1 fn.ntmps=true) {n m:Nat} {xs:dn} (hw:∀ p,Nh fn.ntmps (Th n m xs fn p).s=true)
  (h1:AT dm oEb0 fn 300 1 [] (Th n m xs fn dt)=some (BN (0,n,m,xs) ((A6 (AA xs 0 n),false)::[]),[],.val false [.b false],[]))
  (h2:AT dm oEb0 fn 300 1 [] (Th n m xs fn du)=some (BN (0,n,m,xs) ((A6 (AA xs 0 n),true)::[]),[],Av (!Aq (Am (AA xs 0 n))),[]))
  (hB:Bn (0,n,m,xs)=true):Ab dm F [AR 0 0 n m] [(0,some (Ak [.seq .u8 xs]))] 1 [] (Av (mF (AA xs 0 n))) []:=by
 unfold mF;cases k:A6 (AA xs 0 n) with
 | false=>exact BL (Bs lO WH ip hb hl h1 (hw _) (BX hB ⟨k,trivial⟩)) fun _ _ q=>Qq q
 | true=>exact Bs lO WH ip hb hl h2 (hw _) (BX hB ⟨k,trivial⟩)
noncomputable def kvSp:ASpec:=fun args H fr gv=>match args with
 | [.val false [c]]=>match rowAt H c with
  | some g=>some (BR [g.1] 1 fr 0 [] (Av (mF (AE g))) [] [(Bn g,true)] gv)
  | none=>none
 | _=>none
theorem AMg {F:FuncId} {fn:Func} (ip:dm.funcs[F]? = some fn) (hb:fn.body.isSome=true) (h_:fo fn)
  (h:∀ {n m:Nat} {xs:dn},Bn (0,n,m,xs)=true→Ab dm F [AR 0 0 n m] [(0,some (Ak [.seq .u8 xs]))] 1 [] (Av (mF (AA xs 0 n))) []):BJ dm F kvSp:=by
 refine Da ip hb h_ fun args H fr gv r hs=>?_
 unfold kvSp at hs;split at hs;case h_2=>cases hs
 rename_i c;split at hs;case h_2=>cases hs
 rename_i g hG;injection hs with hs;refine ⟨[g.1],1,0,[],_,_,_,_,hs.symm,fun β us w ha hg hc=>?_⟩
 obtain ⟨u1,iu,a1,ha,rfl⟩:=ha;obtain ⟨m,g1,g2,g3⟩:=lR hg hG hc.1 (Az a1)
 refine ⟨_,_,h (n:=g.2.1) (m:=m) (xs:=g.2.2.2) g1,dj,⟨u1,_,Aw (WJ (FK dk) g2),ha,rfl⟩,NH (bs:=[Ak [.seq .u8 g.2.2.2]]) hg fun j d hj=>?_,fun j hj=>?_⟩
 ·match j,hj with
  | 0,hj=>injection hj with hj;subst hj;exact ⟨rfl,g3.2 _ 0 (FK (by show 0<1;decide))⟩
 ·match j,hj with
  | 0,_=>exact g3.1
noncomputable def SEm0:dr:=(26,alSp)::(27,alSp)::(11,kvSp)::(12,kvSp)::(8,fewSp)::SVg
theorem AMh:AW dm SEm0:=⟨AMe func26 dj dj Am4 Am_,AMe func27 dj dj Am5 Am',AMg func11 dj dj fun h=>AMf func11 dj dj (fun _=>by kernel_rfl) (AnB ..) (AnC ..) h,AMg func12 dj dj fun h=>AMf func12 dj dj (fun _=>by kernel_rfl) (AnD ..) (AnE ..) h,AmA,iC⟩
noncomputable abbrev oEm0:gr:=AH SEm0 KW12
theorem AMi:gp dm oEm0:=AJ AMh WH
noncomputable def SEm:dr:=(13,BF dm oEm0 f13 300)::(14,BF dm oEm0 f14 300)::SEm0
theorem AnF:AW dm SEm:=⟨BK AMi AB func13 dj dj 300,BK AMi AB func14 dj dj 300,AMh⟩
noncomputable abbrev ZZ:gr:=AH SEm KW12
def Za (W:World) (cs:List Value):Prop:=∃ (n m:Nat) (zs:dn) (L:Ex.Loc),n≤zs.length∧n≤m∧AL .i64 (n:Int)=true∧(∀ B q,L=Ex.Loc.at_ B q→B<W.heap.size)∧∀ ls:List Ex.Loc,AQ (DN (ls++[L])) [.sl ls.length 0 n m] cs∧DS (DN (ls++[L])) (Ak [.seq .u8 zs]) ls.length W
section
variable {H:Type} {enc:TypeId×Value→H} {W:World}
theorem AMj {L:Ex.Loc} {cs:List Value} (hL:L=.nil∧cs=[.slice none 0 0]∨L=.emp∧∃ a m,cs=[.slice (some a) 0 m]):Za W cs:=by
 refine ⟨0,0,[],L,jj _,jj _,rfl,fun B q h=>?_,fun ls=>⟨?_,.inr (.inl ⟨L,JN _ _,?_,⟨[],[],⟨rfl,by simp⟩,rfl,rfl⟩⟩)⟩⟩
 ·rcases hL with ⟨rfl,_⟩ | ⟨rfl,_⟩<;>cases h
 ·rcases hL with ⟨rfl,rfl⟩ | ⟨rfl,a,m,rfl⟩
  ·exact ⟨_,[],.inr (.inl ⟨JN _ _,rfl,rfl,rfl,rfl⟩),rfl,rfl⟩
  ·exact ⟨_,[],.inr (.inr ⟨JN _ _,rfl,rfl,rfl,a,m,rfl⟩),rfl,rfl⟩
 ·rcases hL with ⟨rfl,_⟩ | ⟨rfl,_⟩
  ·exact Or.inr rfl
  ·exact ⟨rfl,rfl⟩
theorem AMk {cs:List Value} {ia:Nat} {y:DataW H×List MemPlace} (ht:DataW.trod enc dm W 0 (fun _=>true) true ia 22 cs=some y):Za W cs:=by
 rcases Go.ChangeShapes.open_ints Xu tW tY ht with ⟨rfl,_⟩ | ⟨a,len,cap,zs,rfl,hb,hl,hm,hz,_,hcell,i_⟩
 ·exact AMj (L:=.nil) (.inl ⟨rfl,rfl⟩)
 ·by_cases h0:len=0
  ·subst h0;exact AMj (L:=.emp) (.inr ⟨rfl,a,cap,rfl⟩)
  obtain ⟨oa,n,m,e,h1,h2,h3⟩:=AeQ ht;injection e with e _;injection e with e1 e2 e3;subst e1;subst e2;subst e3;obtain ⟨L,zs',q1,q2,q3,q4⟩:=h3 dk;exact ⟨len,cap,zs',L,q2,h1,h2,q3,fun ls=>⟨⟨_,[],(q4 ls).1,rfl,rfl⟩,(q4 ls).2⟩⟩
end
def Ti (r:Rw):Prop:=r.2.1≤r.2.2.2.length∧r.2.1≤r.2.2.1∧AL .i64 (r.2.1:Int)=true
theorem ABo {W:World}:∀ (css:List (List Value)),(∀ cs∈css,Za W cs)→∀ (ls:List Ex.Loc) (bs:List gt),ArgsOk W ls bs→∃ (ls':List Ex.Loc) (rs:List Rw),rs.length=css.length∧ls'.length=css.length∧(∀ r∈rs,Ti r)∧ArgsOk W (ls++ls') (bs++DR rs)∧∀ ls2,AQ (DN (ls++ls'++ls2)) (D1 ls.length rs) css.flatten
 | [],_,ls,bs,A=>⟨[],[],rfl,rfl,fun _ h=>by (cases h),by simpa [DR] using A,fun _=>rfl⟩
 | cs::css,h,ls,bs,A=>by
  obtain ⟨n,m,zs,L,h1,h2,h3,h4,h5⟩:=h cs (by simp)
  obtain ⟨ls',rs,q1,q2,q3,q4,q5⟩:=ABo css (fun c hc=>h c (by simp [hc])) (ls++[L]) (bs++[Ak [.seq .u8 zs]]) (A.snoc (h5 ls).2 rfl h4)
  refine ⟨L::ls',(0,n,m,zs)::rs,by simp [q1],by simp [q2],fun r hr=>?_,by simpa [DR] using q4,fun ls2=>?_⟩
  ·rcases ju.1 hr with rfl | hr
   ·exact ⟨h1,h2,h3⟩
   ·exact q3 r hr
  ·obtain ⟨l1,l2,x1,x2,x3⟩:=(h5 ls).1
   simp only [AQ] at x2;subst x2;rw [ku] at x3;subst x3;have e1:ls++L::ls'++ls2=ls++[L]++(ls'++ls2):=by simp
   have e2:ls++L::ls'++ls2=ls++[L]++ls'++ls2:=by simp
   refine ⟨_,css.flatten,ABu (by rw [e1];exact Om _ _) x1,?_,by simp⟩
   have:=q5 ls2
   rw [kc] at this;rw [e2];exact this
def O6:List Rw→List Nat
 | []=>[]
 | r::l=>r.2.1::O6 l
def tzH (rs1 rs2:List Rw) (g:Rw):Heap:=LF 0 (DR (rs1++(rs2++[g]))++[Ak (D1 0 rs1),Ak (D1 (BU rs1) rs2)])
def Zb (rs1 rs2:List Rw) (g:Rw) (M M1:Nat):List AV:=[AR (BU rs1+BU rs2+1) 0 (BU rs1) M,AR (BU rs1+BU rs2+2) 0 (BU rs2) M1,AR (BU rs1+BU rs2) 0 g.2.1 g.2.2.1]
noncomputable abbrev tzF:Func:=f4
noncomputable def Zc (rs1 rs2:List Rw) (g:Rw) (M M1:Nat) (p:List Bool):=AT dm ZZ tzF 600 (BU rs1+BU rs2+3) [] (Aj tzF (Zb rs1 rs2 g M M1) (tzH rs1 rs2 g) (BU rs1+BU rs2+3) p)
abbrev MD (rs:List Rw) (b:Bool) (r:Cnd):Cnd:=(true,true)::(WM (O6 rs),true)::(!Iz (O6 rs),b)::r
abbrev tzQ (g:Rw) (b:Bool) (r:Cnd):Cnd:=(AL .i64 (g.2.1:Int),true)::(decide ((300:Int)<(g.2.1:Int)),b)::r
noncomputable abbrev mG (rs1 rs2:List Rw) (g:Rw):Bool:=IN (EH rs1) (EH rs2) (AE g) ZF
def WT:AV:=.val false [.b true]
theorem AnG:∀ (rs1 rs2:List Rw) (g:Rw) (M M1:Nat),rs1.length≤3→rs2.length≤3→Zc rs1 rs2 g M M1 dx=some (MD rs1 true [],[],WT,[])
 | [],[],_,_,_,_,_=>dj
 | [],[b0],_,_,_,_,_=>dj
 | [],[b0,b1],_,_,_,_,_=>dj
 | [],[b0,b1,b2],_,_,_,_,_=>dj
 | [a0],[],_,_,_,_,_=>dj
 | [a0],[b0],_,_,_,_,_=>dj
 | [a0],[b0,b1],_,_,_,_,_=>dj
 | [a0],[b0,b1,b2],_,_,_,_,_=>dj
 | [a0,a1],[],_,_,_,_,_=>dj
 | [a0,a1],[b0],_,_,_,_,_=>dj
 | [a0,a1],[b0,b1],_,_,_,_,_=>dj
 | [a0,a1],[b0,b1,b2],_,_,_,_,_=>dj
 | [a0,a1,a2],[],_,_,_,_,_=>dj
 | [a0,a1,a2],[b0],_,_,_,_,_=>dj
 | [a0,a1,a2],[b0,b1],_,_,_,_,_=>dj
 | [a0,a1,a2],[b0,b1,b2],_,_,_,_,_=>dj
 | _::_::_::_::_,_,_,_,_,h,_=>absurd h (by simp)
 | _,_::_::_::_::_,_,_,_,_,h=>absurd h (by simp)
theorem AnH:∀ (rs1 rs2:List Rw) (g:Rw) (M M1:Nat),rs1.length≤3→rs2.length≤3→Zc rs1 rs2 g M M1 ef=some (MD rs1 false (MD rs2 true []),[],WT,[])
 | [],[],_,_,_,_,_=>dj
 | [],[b0],_,_,_,_,_=>dj
 | [],[b0,b1],_,_,_,_,_=>dj
 | [],[b0,b1,b2],_,_,_,_,_=>dj
 | [a0],[],_,_,_,_,_=>dj
 | [a0],[b0],_,_,_,_,_=>dj
 | [a0],[b0,b1],_,_,_,_,_=>dj
 | [a0],[b0,b1,b2],_,_,_,_,_=>dj
 | [a0,a1],[],_,_,_,_,_=>dj
 | [a0,a1],[b0],_,_,_,_,_=>dj
 | [a0,a1],[b0,b1],_,_,_,_,_=>dj
 | [a0,a1],[b0,b1,b2],_,_,_,_,_=>dj
 | [a0,a1,a2],[],_,_,_,_,_=>dj
 | [a0,a1,a2],[b0],_,_,_,_,_=>dj
 | [a0,a1,a2],[b0,b1],_,_,_,_,_=>dj
 | [a0,a1,a2],[b0,b1,b2],_,_,_,_,_=>dj
 | _::_::_::_::_,_,_,_,_,h,_=>absurd h (by simp)
 | _,_::_::_::_::_,_,_,_,_,h=>absurd h (by simp)
theorem AnI:∀ (rs1 rs2:List Rw) (g:Rw) (M M1:Nat),rs1.length≤3→rs2.length≤3→Zc rs1 rs2 g M M1 fa=some (MD rs1 false (MD rs2 false (tzQ g true [])),[],WT,[])
 | [],[],_,_,_,_,_=>dj
 | [],[b0],_,_,_,_,_=>dj
 | [],[b0,b1],_,_,_,_,_=>dj
 | [],[b0,b1,b2],_,_,_,_,_=>dj
 | [a0],[],_,_,_,_,_=>dj
 | [a0],[b0],_,_,_,_,_=>dj
 | [a0],[b0,b1],_,_,_,_,_=>dj
 | [a0],[b0,b1,b2],_,_,_,_,_=>dj
 | [a0,a1],[],_,_,_,_,_=>dj
 | [a0,a1],[b0],_,_,_,_,_=>dj
 | [a0,a1],[b0,b1],_,_,_,_,_=>dj
 | [a0,a1],[b0,b1,b2],_,_,_,_,_=>dj
 | [a0,a1,a2],[],_,_,_,_,_=>dj
 | [a0,a1,a2],[b0],_,_,_,_,_=>dj
 | [a0,a1,a2],[b0,b1],_,_,_,_,_=>dj
 | [a0,a1,a2],[b0,b1,b2],_,_,_,_,_=>dj
 | _::_::_::_::_,_,_,_,_,h,_=>absurd h (by simp)
 | _,_::_::_::_::_,_,_,_,_,h=>absurd h (by simp)
theorem AnJ:∀ (rs1 rs2:List Rw) (g:Rw) (M M1:Nat),1≤rs1.length→rs1.length≤3→rs2.length=rs1.length→Zc rs1 rs2 g M M1 eq=some (MD rs1 false (MD rs2 false (tzQ g false ((FU (g::(rs1++rs2))&&Hg ZF,true)::(FU (g::(rs1++rs2))&&Hg ZF,true)::[]))),[],Av (mG rs1 rs2 g==mG rs1 rs2 g),[])
 | [a0],[b0],_,_,_,_,_,_=>dj
 | [a0,a1],[b0,b1],_,_,_,_,_,_=>dj
 | [a0,a1,a2],[b0,b1,b2],_,_,_,_,_,_=>dj
theorem AnK:∀ (rs1 rs2:List Rw) (g:Rw) (M M1:Nat),rs1.length≤3→rs2.length≤3→(rs1.length=0∨rs1.length≠rs2.length)→Zc rs1 rs2 g M M1 eq=some (MD rs1 false (MD rs2 false (tzQ g false ((true,true)::(Bn g,true)::(true,true)::(Bn g,true)::[]))),[],Av (mG rs1 rs2 g==mG rs1 rs2 g),[])
 | [],[],_,_,_,_,_,_=>dj
 | [],[b0],_,_,_,_,_,_=>dj
 | [],[b0,b1],_,_,_,_,_,_=>dj
 | [],[b0,b1,b2],_,_,_,_,_,_=>dj
 | [a0],[],_,_,_,_,_,_=>dj
 | [_a0],[_b0],_,_,_,_,_,h=>absurd h (by simp)
 | [a0],[b0,b1],_,_,_,_,_,_=>dj
 | [a0],[b0,b1,b2],_,_,_,_,_,_=>dj
 | [a0,a1],[],_,_,_,_,_,_=>dj
 | [a0,a1],[b0],_,_,_,_,_,_=>dj
 | [_a0,_a1],[_b0,_b1],_,_,_,_,_,h=>absurd h (by simp)
 | [a0,a1],[b0,b1,b2],_,_,_,_,_,_=>dj
 | [a0,a1,a2],[],_,_,_,_,_,_=>dj
 | [a0,a1,a2],[b0],_,_,_,_,_,_=>dj
 | [a0,a1,a2],[b0,b1],_,_,_,_,_,_=>dj
 | [_a0,_a1,_a2],[_b0,_b1,_b2],_,_,_,_,_,h=>absurd h (by simp)
 | _::_::_::_::_,_,_,_,_,h,_,_=>absurd h (by simp)
 | _,_::_::_::_::_,_,_,_,_,h,_=>absurd h (by simp)
theorem AnL (n M n' M1:Nat) (g:Rw):AT dm ZZ tzF 600 3 [] (Aj tzF [AR 1 0 n M,AR 2 0 n' M1,AR 0 0 g.2.1 g.2.2.1] [(0,some (Ak [.seq .u8 g.2.2.2])),(1,some (Ak [])),(2,some (Ak []))] 3 du)=some ([(AL .i64 (n:Int),true),(decide ((3:Int)<n),true)],[],WT,[]):=dj
def Zd (rs:List Rw) (g:Rw):Heap:=LF 0 (DR rs++[Ak [.seq .u8 g.2.2.2],Ak (D1 0 rs),Ak []])
def WU (rs:List Rw) (n' M M1:Nat) (g:Rw):List AV:=[AR (BU rs+1) 0 (BU rs) M,AR (BU rs+2) 0 n' M1,AR (BU rs) 0 g.2.1 g.2.2.1]
noncomputable def tzC (rs:List Rw) (n' M M1:Nat) (g:Rw):=AT dm ZZ tzF 600 (BU rs+3) [] (Aj tzF (WU rs n' M M1 g) (Zd rs g) (BU rs+3) ep)
theorem AnN:∀ (rs:List Rw) (n' M M1:Nat) (g:Rw),rs.length≤3→Nh tzF.ntmps (Aj tzF (WU rs n' M M1 g) (Zd rs g) (BU rs+3) dx).s=true
 | [],_,_,_,_,_=>dj
 | [_],_,_,_,_,_=>dj
 | [_,_],_,_,_,_,_=>dj
 | [_,_,_],_,_,_,_,_=>dj
 | _::_::_::_::_,_,_,_,_,h=>absurd h (by simp)
theorem AnO:∀ (rs:List Rw) (n' M M1:Nat) (g:Rw),rs.length≤3→AT dm ZZ tzF 600 (BU rs+3) [] (Aj tzF (WU rs n' M M1 g) (Zd rs g) (BU rs+3) dx)=some (MD rs true [],[],WT,[])
 | [],_,_,_,_,_=>dj
 | [_],_,_,_,_,_=>dj
 | [_,_],_,_,_,_,_=>dj
 | [_,_,_],_,_,_,_,_=>dj
 | _::_::_::_::_,_,_,_,_,h=>absurd h (by simp)
theorem AnP:∀ (rs:List Rw) (n' M M1:Nat) (g:Rw),rs.length≤3→Nh tzF.ntmps (Aj tzF (WU rs n' M M1 g) (Zd rs g) (BU rs+3) ep).s=true
 | [],_,_,_,_,_=>dj
 | [_],_,_,_,_,_=>dj
 | [_,_],_,_,_,_,_=>dj
 | [_,_,_],_,_,_,_,_=>dj
 | _::_::_::_::_,_,_,_,_,h=>absurd h (by simp)
theorem AnQ:∀ (rs:List Rw) (n' M M1:Nat) (g:Rw),rs.length≤3→tzC rs n' M M1 g=some (MD rs false [(AL .i64 (n':Int),true),(decide ((3:Int)<n'),true)],[],WT,[])
 | [],_,_,_,_,_=>dj
 | [a0],_,_,_,_,_=>dj
 | [a0,a1],_,_,_,_,_=>dj
 | [a0,a1,a2],_,_,_,_,_=>dj
 | _::_::_::_::_,_,_,_,_,h=>absurd h (by simp)
theorem mH:∀ {l:List Rw},(∀ r∈l,Ti r)→WM (O6 l)=true
 | [],_=>rfl
 | x::l,h=>by
  show (AL _ _&&WM (O6 l))=true;rw [(h x (by simp)).2.2,mH fun r hr=>h r (by simp [hr])];rfl
theorem ABr:∀ {l:List Rw},(∀ r∈l,Ti r)→Iz (O6 l)=true→FU l=true
 | [],_,_=>rfl
 | x::l,h,hf=>by
  obtain ⟨h1,h2⟩:=jo.1 hf;obtain ⟨a1,a2,a3⟩:=h x (by simp)
  show (Bn x&&FU l)=true;rw [show Bn x=true from ABa (k:=x.1) a1 a2 a3 (mb (jf h1) dl),ABr (fun r hr=>h r (by simp [hr])) h2];rfl
theorem Qv {args:List AV} {H:Heap} {k0:Nat} {p:List Bool} {c:Cnd} {v:AV} (hl:Nat.ble (F2 args) tzF.ntmps=true) (h:AT dm ZZ tzF 600 k0 [] (Aj tzF args H k0 p)=some (c,[],v,[])) (hw:Nh tzF.ntmps (Aj tzF args H k0 p).s=true) (hc:AO c):Ab dm 4 args H k0 [] v [] :=
 Bs AnF WH func4 dj hl h hw hc
theorem AnR (rs1 rs2:List Rw) (g:Rw) (M M1:Nat):Nat.ble (F2 (Zb rs1 rs2 g M M1)) tzF.ntmps=true:=dj
theorem AnS:∀ (rs1 rs2:List Rw) (g:Rw) (M M1:Nat) (p:List Bool),rs1.length≤3→rs2.length≤3→Nh tzF.ntmps (Aj tzF (Zb rs1 rs2 g M M1) (tzH rs1 rs2 g) (BU rs1+BU rs2+3) p).s=true
 | [],[],_,_,_,_,_,_=>dj
 | [],[b0],_,_,_,_,_,_=>dj
 | [],[b0,b1],_,_,_,_,_,_=>dj
 | [],[b0,b1,b2],_,_,_,_,_,_=>dj
 | [a0],[],_,_,_,_,_,_=>dj
 | [a0],[b0],_,_,_,_,_,_=>dj
 | [a0],[b0,b1],_,_,_,_,_,_=>dj
 | [a0],[b0,b1,b2],_,_,_,_,_,_=>dj
 | [a0,a1],[],_,_,_,_,_,_=>dj
 | [a0,a1],[b0],_,_,_,_,_,_=>dj
 | [a0,a1],[b0,b1],_,_,_,_,_,_=>dj
 | [a0,a1],[b0,b1,b2],_,_,_,_,_,_=>dj
 | [a0,a1,a2],[],_,_,_,_,_,_=>dj
 | [a0,a1,a2],[b0],_,_,_,_,_,_=>dj
 | [a0,a1,a2],[b0,b1],_,_,_,_,_,_=>dj
 | [a0,a1,a2],[b0,b1,b2],_,_,_,_,_,_=>dj
 | _::_::_::_::_,_,_,_,_,_,h,_=>absurd h (by simp)
 | _,_::_::_::_::_,_,_,_,_,_,h=>absurd h (by simp)
theorem AnT {rs1 rs2:List Rw} {g:Rw} {M M1:Nat} (h1:rs1.length≤3) (h2:rs2.length≤3) (f1:∀ r∈rs1,Ti r) (f2:∀ r∈rs2,Ti r) (fg:Ti g) :
  Ab dm 4 (Zb rs1 rs2 g M M1) (tzH rs1 rs2 g) (BU rs1+BU rs2+3) [] (Av true) []:=by
 have hL1:=mH f1;have hL2:=mH f2;obtain ⟨a1,a2,a3⟩:=fg;have lw:=AnR rs1 rs2 g M M1;have ww:=fun p=>AnS rs1 rs2 g M M1 p h1 h2
 cases d1:Iz (O6 rs1) with
 | false=>exact VJ (Qv lw (AnG rs1 rs2 g M M1 h1 h2) (ww _) ⟨rfl,hL1,by rw [d1];rfl,trivial⟩)
 | true =>
  cases d2:Iz (O6 rs2) with
  | false=>exact VJ (Qv lw (AnH rs1 rs2 g M M1 h1 h2) (ww _) ⟨rfl,hL1,by rw [d1];rfl,rfl,hL2,by rw [d2];rfl,trivial⟩)
  | true =>
   by_cases d3:g.2.1≤300
   ·have B1:=ABr f1 d1;have B2:=ABr f2 d2;have Bg:Bn g=true:=ABa (k:=g.1) a1 a2 a3 (mb d3 dl)
    by_cases e:rs1.length=0∨rs1.length≠rs2.length
    ·exact AFV (Qv lw (AnK rs1 rs2 g M M1 h1 h2 e) (ww _) ⟨rfl,hL1,by rw [d1];rfl,rfl,hL2,by rw [d2];rfl,a3,Ku d3,rfl,Bg,rfl,Bg,trivial⟩) (beq_self_eq_true _)
    ·have BB:(FU (g::(rs1++rs2))&&Hg ZF)=true:=by
      have:∀ {a b:List Rw},FU a=true→FU b=true→FU (a++b)=true:=by
       intro a b ha hb;induction a with
       | nil=>exact hb
       | cons x a ih =>
        obtain ⟨q1,q2⟩:=jo.1 ha;exact jo.2 ⟨q1,ih q2⟩
      rw [Ais,show FU (g::(rs1++rs2))=true from jo.2 ⟨Bg,this B1 B2⟩];rfl
     exact AFV (Qv lw (AnJ rs1 rs2 g M M1 dk h1 dk) (ww _) ⟨rfl,hL1,by rw [d1];rfl,rfl,hL2,by rw [d2];rfl,a3,Ku d3,BB,BB,trivial⟩) (beq_self_eq_true _)
   ·exact VJ (Qv lw (AnI rs1 rs2 g M M1 h1 h2) (ww _) ⟨rfl,hL1,by rw [d1];rfl,rfl,hL2,by rw [d2];rfl,a3,Tf d3,trivial⟩)
theorem AnU {rs:List Rw} {n' M M1:Nat} {g:Rw} (h1:rs.length≤3) (f1:∀ r∈rs,Ti r) (hn:AL .i64 (n':Int)=true) (h3:3<n'):Ab dm 4 (WU rs n' M M1 g) (Zd rs g) (BU rs+3) [] (Av true) []:=by
 have hL1:=mH f1;cases d1:Iz (O6 rs) with
 | false=>exact VJ (Qv dj (AnO rs n' M M1 g h1) (AnN rs n' M M1 g h1) ⟨rfl,hL1,by rw [d1];rfl,trivial⟩)
 | true=>exact VJ (Qv dj (AnQ rs n' M M1 g h1) (AnP rs n' M M1 g h1) ⟨rfl,hL1,by rw [d1];rfl,hn,jc dk,trivial⟩)
theorem AMl:∀ a b:List Rw,DR (a++b)=DR a++DR b
 | [],_=>rfl
 | x::a,b=>by rw [nh,DR,AMl a b];rfl
theorem blsTogether_walk:pD dm 4 f4:=ATQ fun H enc us W base ds ps hv hA=>by
 have hp:f4.params.toList=[25,25,22]:=dj
 have hp':f4.params=#[25,25,22]:=dj
 rw [hp] at hA;rw [hp'] at hv;obtain ⟨v1,iu,d1,ds1,p1,q1,rfl,rfl,t1,hA⟩:=rG hA;obtain ⟨v2,iw,d2,ds2,p2,q2,rfl,rfl,t2,hA⟩:=rG hA;obtain ⟨v3,us3,d3,ds3,p3,q3,rfl,rfl,t3,hA⟩:=rG hA;obtain rfl:=ic hA rfl
 obtain ⟨LK,n,M,css,hcl,hnM,hnm,ik,hce,hK⟩:=AI_ (e:=22) (c:=1) dj dj (hv 0 _ v1 rfl rfl) t1
 obtain ⟨LP,n',M',cps,hcl',hnM',hnm',hlt',hce',hP⟩:=AI_ (e:=22) (c:=1) dj dj (hv 1 _ v2 rfl rfl) t2
 have hK:AI' W LK n M v1 css:=hK
 have hP:AI' W LP n' M' v2 cps:=hP
 have hw:∀ cs∈css,Za W cs:=fun cs h=>by
  obtain ⟨_,_,_,ht⟩:=hce cs h;exact AMk ht
 have hw':∀ cs∈cps,Za W cs:=fun cs h=>by
  obtain ⟨_,_,_,ht⟩:=hce' cs h;exact AMk ht
 have A0:ArgsOk W [] []:=ArgsOk.nil W
 by_cases h3:3<n
 ·obtain ⟨Lg,zg,ng,mg,yg,ag,bg,cg,rg,Ag⟩:=wQ (hv 2 _ v3 rfl rfl) t3 A0
  have A1:=Ag.snoc ((hK _).2 [] [] _ rfl yG) rfl ik
  have A2:=A1.snoc ((hP _).2 [] [] _ rfl yG) rfl hlt'
  refine ⟨_,_,[AR 1 0 n M,AR 2 0 n' M',AR 0 0 ng mg],A2,⟨v1,_,Fx (Om _ [LP]) (hK [Lg]).1,⟨v2,_,(hP [Lg,LK]).1,⟨v3,_,Fx (Om [Lg] [LK,LP]) rg,rfl,rfl⟩,rfl⟩,rfl⟩,?_⟩
  exact VJ (Qv dj (AnL n M n' M' (0,ng,mg,zg)) dj ⟨cW hnm,jc dk,trivial⟩)
 obtain ⟨ls1,rs1,l1,l1',f1,A1,e1⟩:=ABo css hw [] [] A0
 rw [nm,nm] at A1;have kn:n=BU rs1:=by rw [NO,l1,hcl]
 have k1:ls1.length=BU rs1:=by rw [l1',NO,l1]
 have hr1:rs1.length≤3:=dk
 by_cases h3':3<n'
 ·obtain ⟨Lg,zg,ng,mg,yg,ag,bg,cg,rg,Ag⟩:=wQ (hv 2 _ v3 rfl rfl) t3 A1
  have A2:=Ag.snoc ((hK (ls1++[Lg])).2 (D1 0 rs1) css.flatten [] (by simp) (by simpa using e1 [Lg,LK])) rfl ik
  have A3:=A2.snoc ((hP _).2 [] [] _ rfl yG) rfl hlt'
  refine ⟨_,_,WU rs1 n' M M' (0,ng,mg,zg),A3,⟨v1,_,?_,⟨v2,_,?_,⟨v3,_,?_,rfl,rfl⟩,rfl⟩,rfl⟩,?_⟩
  ·have:=Fx (Om (ls1++[Lg]++[LK]) [LP]) (hK (ls1++[Lg])).1
   rwa [show (ls1++[Lg]).length=BU rs1+1 by simp [k1],kn] at this
  ·have:=(hP (ls1++[Lg]++[LK])).1
   rwa [show (ls1++[Lg]++[LK]).length=BU rs1+2 by simp [k1]] at this
  ·have:=Fx (Om (ls1++[Lg]++[LK]) [LP]) (Fx (Om (ls1++[Lg]) [LK]) rg)
   rwa [k1] at this
  ·have hb:DR rs1++[Ak [.seq .u8 zg]]++[Ak (D1 0 rs1)]++[Ak []]=DR rs1++[Ak [.seq .u8 zg],Ak (D1 0 rs1),Ak []]:=by simp
   rw [hb,show (DR rs1++[Ak [.seq .u8 zg],Ak (D1 0 rs1),Ak []]).length=BU rs1+3 by rw [kc,WK,NO];rfl]
   exact AnU hr1 f1 (cW hnm') h3'
 obtain ⟨ls2,rs2,l2,l2',f2,A2,e2⟩:=ABo cps hw' ls1 (DR rs1) A1
 have kn':n'=BU rs2:=by rw [NO,l2,hcl']
 have k2:ls2.length=BU rs2:=by rw [l2',NO,l2]
 obtain ⟨Lg,zg,ng,mg,yg,ag,bg,cg,rg,Ag⟩:=wQ (hv 2 _ v3 rfl rfl) t3 A2
 have A3:=Ag.snoc ((hK (ls1++ls2++[Lg])).2 (D1 0 rs1) css.flatten [] (by simp) (by simpa using e1 (ls2++[Lg,LK]))) rfl ik
 have A4:=A3.snoc ((hP (ls1++ls2++[Lg]++[LK])).2 (D1 (BU rs1) rs2) cps.flatten [] (by simp) (by rw [← k1];simpa using e2 [Lg,LK,LP])) rfl hlt'
 refine ⟨_,_,Zb rs1 rs2 (0,ng,mg,zg) M M',A4,⟨v1,_,?_,⟨v2,_,?_,⟨v3,_,?_,rfl,rfl⟩,rfl⟩,rfl⟩,?_⟩
 ·have:=Fx (Om (ls1++ls2++[Lg]++[LK]) [LP]) (hK (ls1++ls2++[Lg])).1
  rwa [show (ls1++ls2++[Lg]).length=BU rs1+BU rs2+1 by simp [k1,k2];omega,kn] at this
 ·have:=(hP (ls1++ls2++[Lg]++[LK])).1
  rwa [show (ls1++ls2++[Lg]++[LK]).length=BU rs1+BU rs2+2 by simp [k1,k2];omega,kn'] at this
 ·have:=Fx (Om (ls1++ls2++[Lg]++[LK]) [LP]) (Fx (Om (ls1++ls2++[Lg]) [LK]) rg)
  rwa [show (ls1++ls2).length=BU rs1+BU rs2 by simp [k1,k2]] at this
 ·have hb:DR rs1++DR rs2++[Ak [.seq .u8 zg]]++[Ak (D1 0 rs1)]++[Ak (D1 (BU rs1) rs2)]=DR (rs1++(rs2++[(0,ng,mg,zg)]))++[Ak (D1 0 rs1),Ak (D1 (BU rs1) rs2)]:=by
   simp only [AMl,DR,nq,nh,nm]
  rw [hb,show (DR (rs1++(rs2++[(0,ng,mg,zg)]))++[Ak (D1 0 rs1),Ak (D1 (BU rs1) rs2)]).length=BU rs1+BU rs2+3 by simp only [kc,WK,NO,kp,List.length_nil];omega]
  exact AnT hr1 dk f1 f2 ⟨ag,bg,cg⟩
end Go.Proofs.YtgnajdcdcblaoaaGreat
