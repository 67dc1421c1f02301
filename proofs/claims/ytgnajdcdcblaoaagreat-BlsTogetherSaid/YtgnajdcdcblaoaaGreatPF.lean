/- Part 6 of the proof. -/
import Derived.Test.YtgnajdcdcblaoaaGreatPE
import Derived.Test.YtgnajdcdcblaoaaGreatPD
import Derived.Test.YtgnajdcdcblaoaaGreatPB
set_option maxRecDepth 100000
set_option maxHeartbeats 4000000
open Go.Proofs.Tryz renaming prog→dm
open Go.Proofs.Tryz
namespace Go.Proofs.YtgnajdcdcblaoaaGreat
open Ex Num Rg
open Sh (R av rd mo en mo_en)
def Ad7:dn:=List.take (Int.toNat 31) (List.drop 0 (List.replicate (Int.toNat 31) 0))++[1]
def Ol:Nat:=Ao (AA Ad7 0 (Int.toNat 31+1))
def iB:Nat:=Ao (AA (List.replicate (Int.toNat 32) 0) 0 (Int.toNat 32))
theorem yE:Ol=1:=dj
theorem Ad8:iB=0:=dj
noncomputable def AI5:dp:=tt 7 ((G_ (Int.toNat 32) iB,false)::tt 9 ((G_ (Int.toNat 31+1) Ol,true)::(BT (An (EF G1B) (CM G1B) (Aq G1B)),true)::(Nat.ble (0+48) (FN true (smul Ol G1B)).length,true)::(Nat.ble (0+48) (FN true (An (EF G1B) (CM G1B) (Aq G1B))).length,true) ::
 tt 2 ((P1 (AA (FN true (smul Ol G1B)) 0 48) (AA (FN true (An (EF G1B) (CM G1B) (Aq G1B))) 0 48),true)::tt 2 ((Nat.ble 48 (FN true (smul Ol G1B)).length,true)::tt 2 ((decide ((E' true (AA (FN true (smul Ol G1B)) 0 48)).2=0),true)::(!Aq (E' true (AA (FN true (smul Ol G1B)) 0 48)).1,true)::tt 3 [(false,false)])))))
theorem Ad9:AM dm oVf f7 [] [true,true,true,false,false,true,true,true,true,false] 1000=some (AI5,.val false [.b true]):=dj
theorem Ad_ (s i b:Bool) (B:dn):(EY s i b B).length=B.length:=by
 cases B with
 | nil=>cases s<;>cases i<;>cases b<;>rfl
 | cons f t=>rw [wG];rfl
theorem AI6 (s:Bool) (p:Pt FP):(FN s p).length=96:=by rw [fL,Ad_,fO,fM];rfl
theorem Ad':G_ (Int.toNat 32) iB=false:=by
 cases h:G_ (Int.toNat 32) iB with
 | false=>rfl
 | true=>exact absurd Ad8 (x9.1 h).2.2
theorem AeA:1<rN:=by rw [rN_eq];exact Bf.1 dj
theorem AeB:G_ (Int.toNat 31+1) Ol=true:=x9.2 ⟨rfl,by rw [yE];exact AeA,by rw [yE];decide⟩
theorem AeC (l:dn):P1 l l=true:=jc rfl
theorem AeD:AU dm 7 [] (.val false [.b true]):=by
 have r:=Ad9;have e1:smul Ol G1B=G1B:=by rw [yE];rfl
 have hd:E' true (AA (FN true G1B) 0 48)=(G1B,0):=AZh YK true
 unfold AI5 at r;rw [Uu,e1,hd] at r;have hb:Nat.ble 48 (FN true G1B).length=true:=by rw [AI6];rfl
 have hb':Nat.ble (0+48) (FN true G1B).length=true:=by rw [AI6];rfl
 exact AP Ad6 AB func7 r (AI 7 ⟨Ad',AI 9 ⟨AeB,YK,hb',hb',AI 2 ⟨AeC _,AI 2 ⟨hb,AI 2 ⟨jc rfl,rfl,AI 3 ⟨rfl,trivial⟩⟩⟩⟩⟩⟩) rfl
noncomputable def SVw:dr:=(7,Ac AVc)::SVf
theorem AI7:AW dm SVw:=⟨Ad func7 dj dj (RS AeD fun u h=>h),AI4⟩
noncomputable abbrev oVw:gr:=AH SVw KV
theorem AeE:gp dm oVw:=AJ AI7 BS
noncomputable def SVg:dr:=(8,BF dm oVw f8 300)::SVw
theorem iC:AW dm SVg:=⟨BK AeE AB func8 dj dj 300,AI7⟩
theorem VJ {f:FuncId} {args:List AV} {H:Heap} {k0:Nat} (h:Ab dm f args H k0 [] (.val false [.b true]) []):Ab dm f args H k0 [] (Av true) [] :=
 BL h fun _ _ ⟨l1,l2,h1,h3,h4⟩=>⟨l1,l2,⟨h1,rfl,trivial⟩,h3,h4⟩
open Ex Num Rg
open Ex Num
theorem yF (a:Addr) (x y:Nat):(a.add x).add y=a.add (x+y):=by
 unfold Addr.add;by_cases hx:x=0
 ·subst hx;simp
 ·by_cases hy:y=0
  ·subst hy;simp [hx]
  ·simp [hx,hy,Nat.add_assoc]
theorem AI8 {W:World} {c:Nat}:∀ (css:List (List Value)) (a:Addr),(∀ cs∈css,cs.length=c)→(∀ i,i<css.length→∀ k,k<c→W.cell? ((a.add (i*c)).add k)=(css.getD i [])[k]?)→∀ j,j<css.flatten.length→W.cell? (a.add j)=css.flatten[j]?
 | [],a,_,_,j,hj=>by simp at hj
 | cs::r,a,hl,h,j,hj=>by
  have hc:cs.length=c:=hl cs (qg ..)
  rw [List.flatten_cons] at hj ⊢;by_cases q:j<c
  ·have:=h 0 (by simp) j q
   rw [pe,yF,ka] at this;rw [this,nr dk];rfl
  ·have ih:=AI8 r (a.add c) (fun x hx=>hl x (nx _ hx)) (fun i hi k hk=>by
    have:=h (i+1) (by simpa using hi) k hk
    rw [yF a c,show c+i*c=(i+1)*c by rw [qs];omega,this];rfl) (j-c) (by rw [kc] at hj;omega)
   rw [yF,show c+(j-c)=j by omega] at ih
   rw [ih,qv dk,hc]
theorem AI9 {W:World} {a:Addr} {c:Array Value} {row:TypeId} {fz:Nat×Nat} (hblk:W.heap[a.block]? = some (.cells c row fz)) (hs:a.spot=none) (ho:a.off≤c.size) {l:List Value} (h:∀ j,j<l.length→W.cell? (a.add j)=l[j]?) :
  c.toList=c.toList.take a.off++(l++c.toList.drop (a.off+l.length))∧a.off+l.length≤c.size:=by
 have AG:∀ i,i<l.length→c[a.off+i]? = l[i]?:=by
  intro i hi;have h1:=h i hi;have e2:a.add i=⟨a.block,a.off+i,none⟩:=by
   unfold Addr.add;split
   ·rename_i h0;subst h0;cases a;simp only at hs;simp [hs]
   ·rfl
  rw [e2] at h1;simp only [World.cell?,hblk] at h1;simpa using h1
 have hend:a.off+l.length≤c.size:=by
  rcases lk l.length with h0 | hp
  ·omega
  ·have:=AG (l.length-1) dk
   rw [mq dk] at this;have:=(qw.1 this).1
   omega
 refine ⟨?_,hend⟩
 have hmid:(c.toList.drop a.off).take l.length=l:=by
  refine sn fun i=>?_
  by_cases hi:i<l.length
  ·rw [qz hi,qk,qu,AG i hi]
  ·rw [ma (by simp;omega),ma dk]
 conv=>lhs;rw [← my a.off c.toList,← my l.length (c.toList.drop a.off),hmid,ni]
section
variable {H:Type} {enc:TypeId×Value→H} {W:World} {base:Nat}
theorem AI_ {t e:TypeId} {c:Nat} {v:Value} {d:DataW H} {p:List MemPlace} (hu:dm.underlying t=some (.slice e)) (hc:dm.cellsOf e=c)
  (hv:Value.okWide dm W .any base t v) (ht:DataW.Trod enc dm W 0 (fun _=>true) true t v d p) :
  ∃ (L:Ex.Loc) (n m:Nat) (css:List (List Value)),css.length=n∧n≤m∧n≤maxLen∧(∀ B q,L=Ex.Loc.at_ B q→B<W.heap.size)∧(∀ cs∈css,cs.length=c∧∃ (ia:Nat) (y:DataW H×List MemPlace),DataW.trod enc dm W 0 (fun _=>true) true ia e cs=some y) ∧
   ∀ ls:List Ex.Loc,AN (DN (ls++[L])) (.val false [.sl ls.length 0 n m]) v∧∀ chs l r,css.flatten=l++r→AQ (DN (ls++[L])) chs l→DS (DN (ls++[L])) (Ak chs) ls.length W:=by
 obtain ⟨ia,hf⟩:=ht;obtain ⟨a0,len0,cap0,rfl⟩:=Go.WideShapes.okWide_slice hu hv;have hcells:(Value.slice a0 len0 cap0).cells=#[Value.slice a0 len0 cap0]:=rfl
 rw [hcells] at hf;rcases DataW.trod_slice hu hf with ⟨hcs,_⟩ | ⟨a,len,cap,elems,gy,k,_,hcs,_,hb,hl,hm,gx,hel,_,_⟩
 ·have e1:Value.slice a0 len0 cap0=.slice none 0 0:=by simpa using hcs
  rw [e1];refine ⟨.nil,0,0,[],rfl,jj _,qi _,(fun B q h=>by cases h),(fun cs h=>by cases h),fun ls=>⟨?_,fun chs l r e h=>.inr (.inl ⟨.nil,JN _ _,Or.inr rfl,by rw [(List.append_eq_nil_iff.1 e.symm).1] at h;exact h⟩)⟩⟩
  exact Aw (.inr (.inl ⟨JN _ _,rfl,rfl,rfl,rfl⟩))
 ·have e1:Value.slice a0 len0 cap0=.slice (some a) len cap:=by simpa using hcs
  rw [e1] at hv ⊢;have hk:Cell.ok dm W .any base t (.slice (some a) len cap):=by
   have:=hv
   simp only [Value.okWide,hu,Cell.okWide] at this;exact this
  simp only [Cell.ok,hu] at hk;obtain ⟨_,_,_,hspot,row,cells,hsh,hlies⟩:=hk;obtain ⟨C,fz,hblk,hsz⟩:∃ C fz,W.heap[a.block]? = some (.cells C row fz)∧cells=C.size:=by
   unfold World.shape? at hsh
   split at hsh
   ·rename_i C el fz hq;injection hsh with hsh;injection hsh with h1 h2;exact ⟨C,fz,by rw [hq,h1],h2.symm⟩
   ·cases hsh
  have hoff:a.off≤C.size:=by
   have h1:=tQ _ hlies;have h2:=qj cells (dm.cellsOf row)
   omega
  have hex:∀ i,i<len→∃ cs y,W.cells? 0 (a.add (i*dm.cellsOf e)) (dm.cellsOf e)=some cs∧DataW.trod enc dm W 0 (fun _=>true) true k e cs=some y:=fun i hi=>by
   have h:=hel i hi;rw [mq dk,Option.bind_eq_some_iff] at h;obtain ⟨cs,h1,h2⟩:=h;exact ⟨cs,_,h1,h2⟩
  obtain ⟨css,hcl,hce⟩:∃ css:List (List Value),css.length=len∧∀ i,i<len→W.cells? 0 (a.add (i*c)) c=some (css.getD i [])∧∃ y,DataW.trod enc dm W 0 (fun _=>true) true k e (css.getD i [])=some y:=by
   rw [hc] at hex;refine ⟨(List.range len).map fun i=>if h:i<len then Classical.choose (hex i h) else [],by simp,fun i hi=>?_⟩
   have e:((List.range len).map fun i=>if h:i<len then Classical.choose (hex i h) else []).getD i []=Classical.choose (hex i hi):=by
    rw [j_,pm,List.getElem?_range hi];simp [hi]
   rw [e];obtain ⟨y,h1,h2⟩:=kq (hex i hi)
   exact ⟨h1,y,h2⟩
  have hmem:∀ cs∈css,∃ i,i<len∧css.getD i []=cs:=fun cs hcs=>by
   obtain ⟨i,hi⟩:=List.getElem?_of_mem hcs
   have ik:=(tw.1 hi).1
   exact ⟨i,dk,by rw [j_,hi];rfl⟩
  have g_:∀ cs∈css,cs.length=c:=fun cs hcs=>by
   obtain ⟨i,hi,e⟩:=hmem cs hcs;rw [← e];exact (World.cells?_some (hce i hi).1).2.1
  have hcell:=AI8 (W:=W) css a g_ fun i hi q hq=>(World.cells?_some (hce i dk).1).2.2 q hq
  obtain ⟨hlist,hend⟩:=AI9 hblk hspot hoff hcell;have ea:a=⟨a.block,a.off,none⟩:=by cases a;simp only at hspot;simp [hspot]
  refine ⟨.at_ a.block (C.size,a.off),len,cap,css,hcl,hl,mb hl hm,fun B q h=>?_,fun cs hcs=>⟨g_ cs hcs,?_⟩,fun ls=>⟨?_,fun chs l r e h=>.inl ⟨a.block,(C.size,a.off),l,r++C.toList.drop (a.off+css.flatten.length),C.toList.take a.off,row,fz,JN _ _,h,?_,?_,fun hr=>absurd rfl hr⟩⟩⟩
  ·injection h with h1 h2;rw [← h1];exact (qw.1 hblk).1
  ·obtain ⟨i,hi,e⟩:=hmem cs hcs;obtain ⟨y,hy⟩:=(hce i hi).2
   exact ⟨k,y,by rw [← e];exact hy⟩
  ·refine Aw (.inl ⟨a.block,(C.size,a.off),JN _ _,?_⟩)
   rw [nl,← ea]
  ·rw [← nq l r,← e,← hlist];exact hblk
  ·simp;omega
end
open Ex Num Rg
theorem Om (ls r:List Ex.Loc):Env.le (DN ls) (DN (ls++r)):=fun b X h=>by
 have hb:b<ls.length:=by
  rcases jv b ls.length with q | q
  ·exact q
  ·simp only [DN] at h;rw [ma q] at h;cases h
 simp only [DN] at h ⊢;rw [nr hb];exact h
def AI' (W:World) (L:Ex.Loc) (n m:Nat) (v:Value) (css:List (List Value)):Prop:=∀ ls:List Ex.Loc,AN (DN (ls++[L])) (.val false [.sl ls.length 0 n m]) v∧∀ chs l r,css.flatten=l++r→AQ (DN (ls++[L])) chs l→DS (DN (ls++[L])) (Ak chs) ls.length W
theorem yG {β:Env}:AQ β [] []:=rfl
open Ex Num Rg
open Sh (R av rd mo en mo_en)
theorem KU {P:Program}:∀ {S T:dr},AW P S→AW P T→AW P (S++T)
 | [],_,_,h=>h
 | _::_,_,h,h'=>⟨h.1,KU h.2 h'⟩
def Oo (oa:Option Addr) (m:Nat):List AV:=[.val false [.v (.slice oa 0 m)],.val false [.b true]]
noncomputable def SWr:dr:=(59,BF dm (AH [] KV) f59 300)::(65,BF dm (AH [] KV) f65 300)::[]
theorem AeF:AW dm SWr:=⟨BK (AJ (L:=[]) trivial BS) AB func59 dj dj 300,BK (AJ (L:=[]) trivial BS) AB func65 dj dj 300,trivial⟩
noncomputable abbrev oWr:gr:=AH SWr KV
theorem iD:gp dm oWr:=AJ AeF BS
def yH (e:Int):AV:=.tup [(true,G2 false),(false,[.n .i64 e])]
section
variable (oa:Option Addr) (m:Nat)
theorem AeG:AM dm oWr f45 (Oo oa m) dw 300=some (tt 2 [],HV 200):=dj
theorem AeH:AM dm oWr f53 (Oo oa m) dw 300=some (tt 2 [],HV 200):=dj
theorem AeI:AM dm oWr f28 (Oo oa m) dw 300=some (tt 2 [],yH 200):=dj
theorem AeJ:AM dm oWr f29 (Oo oa m) dw 300=some (tt 2 [],yH 200):=dj
theorem AeK:AU dm 45 (Oo oa m) (GV (.pt 0 0,200)):=C3 (AP iD AB func45 (AeG oa m) (AI 2 trivial) rfl) fun _ q=>P_ q
theorem AeL:AU dm 53 (Oo oa m) (GV (.pt 0 0,200)):=C3 (AP iD AB func53 (AeH oa m) (AI 2 trivial) rfl) fun _ q=>P_ q
theorem AJA {β:Env} {e:Int} {u:Value} (h:AN β (yH e) u):AN β (FQ (.pt 0 0,e)) u:=C7 (fun _ q=>(H9 (x:=0) (y:=0) (i:=false) dj q).1) (fun _ q=>EX rfl q) h
theorem AeM:AU dm 28 (Oo oa m) (FQ (.pt 0 0,200)):=C3 (AP iD AB func28 (AeI oa m) (AI 2 trivial) rfl) fun _ q=>AJA q
theorem AeN:AU dm 29 (Oo oa m) (FQ (.pt 0 0,200)):=C3 (AP iD AB func29 (AeJ oa m) (AI 2 trivial) rfl) fun _ q=>AJA q
end
def Ys (v:AV):List AV→Option AV
 | [.val false [.v (.slice _ 0 _)],.val false [.b true]]=>some v
 | _=>none
theorem iE {f:FuncId} {v:AV} (h:∀ oa m,AU dm f (Oo oa m) v):∀ args r,Ys v args=some r→AU dm f args r:=by
 intro args r hs;unfold Ys at hs;split at hs;case h_2=>cases hs
 injection hs with hs;subst hs;exact h _ _
def VK (v:AV) (s:ASpec):ASpec:=fun args H fr gv=>match Ys v args with
 | some _=>Ac (Ys v) args H fr gv
 | none=>s args H fr gv
theorem iF {f:FuncId} {v:AV} {s:ASpec} (h1:BJ dm f s) (h2:BJ dm f (Ac (Ys v))):BJ dm f (VK v s):=by
 intro args H fr gv r β us w hs;unfold VK at hs;split at hs
 ·exact h2 args H fr gv r β us w hs
 ·exact h1 args H fr gv r β us w hs
noncomputable def SWe:dr:=(45,VK (GV (.pt 0 0,200)) (D9 (Li fun s L=>GV (G7 s L))))::(53,VK (GV (.pt 0 0,200)) (D9 (Li fun s L=>GV (G7 s L))))::(28,VK (FQ (.pt 0 0,200)) (D9 (Li fun s L=>FQ (E' s L))))::(29,VK (FQ (.pt 0 0,200)) (D9 (Li fun s L=>FQ (E' s L))))::[]
theorem AeO:AW dm SWe:=⟨iF (EV (OP func45 dj dj (fun _ _=>by kernel_rfl) fun _ _ _ hl hm hn=>AHw hl hm hn true rfl)) (Ad func45 dj dj (iE AeK)),iF (EV (OP func53 dj dj (fun _ _=>by kernel_rfl) fun _ _ _ hl hm hn=>AIR hl hm hn true rfl)) (Ad func53 dj dj (iE AeL)),iF (EV (OP func28 dj dj (fun _ _=>by kernel_rfl) fun _ _ _ hl hm hn=>wL hl hm hn true rfl)) (Ad func28 dj dj (iE AeM)),iF (EV (OP func29 dj dj (fun _ _=>by kernel_rfl) fun _ _ _ hl hm hn=>AIP hl hm hn true rfl)) (Ad func29 dj dj (iE AeN)),trivial⟩
def AeP (W:World) (cs:List Value):Prop:=∃ oa n m,cs=[.slice oa n m]∧n≤m∧AL .i64 (n:Int)=true∧(0<n→∃ (L:Ex.Loc) (zs:dn),(∀ x∈zs,0≤x∧x<256)∧n≤zs.length∧(∀ B q,L=Ex.Loc.at_ B q→B<W.heap.size)∧∀ (ls:List Ex.Loc),BM (DN (ls++[L])) (.sl ls.length 0 n m) [.slice oa n m]∧DS (DN (ls++[L])) (Ak [.seq .u8 zs]) ls.length W)
section
variable {H:Type} {enc:TypeId×Value→H} {W:World} {base:Nat}
theorem AeQ {cs:List Value} {ia:Nat} {y:DataW H×List MemPlace} (ht:DataW.trod enc dm W 0 (fun _=>true) true ia 22 cs=some y) :
  AeP W cs:=by
 rcases Go.ChangeShapes.open_ints Xu tW tY ht with ⟨rfl,_⟩ | ⟨a,len,cap,zs,rfl,hb,hl,hm,hz,_,hcell,i_⟩
 ·exact ⟨none,0,0,rfl,jj _,rfl,fun h=>by cases h⟩
 ·simp only [if_true] at hz;refine ⟨some a,len,cap,rfl,hl,cW (mb hl hm),fun hl1=>?_⟩
  have h0:=hcell 0 dk;have e0:a.add 0=a:=rfl
  rw [e0] at h0;obtain ⟨C,row,fz,hblk⟩:∃ C row fz,W.heap[a.block]? = some (.cells C row fz):=by
   unfold World.cell? at h0
   split at h0
   ·exact ⟨_,_,_,by assumption⟩
   ·cases h0
  have hs:a.spot=none:=by
   simp only [World.cell?,hblk] at h0;cases hq:a.spot with
   | none=>rfl
   | some _=>rw [hq] at h0;cases h0
  have hget0:C[a.off]? = some (.int .u8 (zs.getD 0 0)):=by
   simp only [World.cell?,hblk,hs] at h0;simpa using h0
  have hoff:a.off≤C.size:=Nat.le_of_lt (qw.1 hget0).1
  obtain ⟨hlist,hend⟩:=AI9 (l:=zs.map (.int .u8)) hblk hs hoff fun j hj=>by
   rw [lh] at hj;rw [hcell j hj,pm,mq hj,j_,mq hj];rfl
  rw [lh] at hlist hend;have ea:a=⟨a.block,a.off,none⟩:=by cases a;simp only at hs;simp [hs]
  have hhas:∀ x∈zs,has .u8 x:=fun x hx=>ACy (i_ x hx)
  refine ⟨.at_ a.block (C.size,a.off),zs,fun x hx=>sP (hhas x hx),dk,fun B q h=>?_,fun ls=>⟨.inl ⟨a.block,(C.size,a.off),JN _ _,?_⟩,.inl ⟨a.block,(C.size,a.off),zs.map (.int .u8),C.toList.drop (a.off+zs.length),C.toList.take a.off,row,fz,JN _ _,⟨_,[],⟨rfl,hhas⟩,rfl,by simp⟩,?_,?_,fun hr=>absurd rfl hr⟩⟩⟩
  ·injection h with h1 h2;rw [← h1];exact (qw.1 hblk).1
  ·rw [nl,← ea]
  ·rw [← hlist];exact hblk
  ·simp;omega
end
open Ex Num
theorem FS (a b:Nat) (ha:a<4294967296) (hb:b<4294967296):bits .and .u32 (a:Int) (b:Int)=((a &&& b:Nat):Int)∧bits .or .u32 (a:Int) (b:Int)=((a ||| b:Nat):Int)∧bits .xor .u32 (a:Int) (b:Int)=((a ^^^ b:Nat):Int):=by
 have ha':a % 2^IntKind.u32.bits=a:=jk ha
 have hb':b % 2^IntKind.u32.bits=b:=jk hb
 have h1:(a &&& b)<4294967296:=qb (n:=32) _ hb
 have h2:(a ||| b)<4294967296:=Nat.or_lt_two_pow (n:=32) ha hb
 have h3:(a ^^^ b)<4294967296:=sj (n:=32) ha hb
 refine ⟨?_,?_,?_⟩
 ·simp only [bits,BitVec.ofInt_natCast,BitVec.toNat_and,BitVec.toNat_ofNat,ha',hb',IntKind.wrap_u32];omega
 ·simp only [bits,BitVec.ofInt_natCast,BitVec.toNat_or,BitVec.toNat_ofNat,ha',hb',IntKind.wrap_u32];omega
 ·simp only [bits,BitVec.ofInt_natCast,BitVec.toNat_xor,BitVec.toNat_ofNat,ha',hb',IntKind.wrap_u32];omega
def rr (x n:Nat):Nat:=x / 2^n ||| x*2^(32-n) % 4294967296
theorem M9 {x:Nat} (h:x<4294967296) (n:Nat):rr x n<4294967296:=Nat.or_lt_two_pow (n:=32) (pr (qn _ _) h) (jw _ dl)
def Oq (x j:Int):Int:=AX false .u32 (x*2^min j.toNat IntKind.u32.bits)
def M_ (x j:Int):Int:=Int.fdiv x (2^min j.toNat IntKind.u32.bits)
theorem VL (x j:Nat) (hj:j≤32):Oq (x:Int) (j:Int)=((x*2^j % 4294967296:Nat):Int):=by
 unfold Oq;rw [DT,IntKind.wrap_u32,jn,mc (show j≤IntKind.u32.bits from hj)]
 have:(x:Int)*2^j=((x*2^j:Nat):Int):=by rw [kz,p_];rfl
 rw [this];omega
theorem Yt (x j:Nat) (hj:j≤32):M_ (x:Int) (j:Int)=((x / 2^j:Nat):Int):=by
 unfold M_;rw [jn,mc (show j≤IntKind.u32.bits from hj),qm _ (by exact_mod_cast qi (2^j)),ri,p_]
 rfl
def VM (k:Int):Int:=bits .and .u64 (AX false .u64 k) 31
def Yu (k:Int):Int:=AX false .u64 (32-VM k)
def IB (x k:Int):Int:=((rr x.toNat (-k).toNat:Nat):Int)
theorem AJB {n:Nat} (h0:0<n) (h:n<32):VM (-(n:Int))=((32-n:Nat):Int)∧Yu (-(n:Int))=(n:Int):=by
 have h1:VM (-(n:Int))=((32-n:Nat):Int):=by
  unfold VM;have e:AX false .u64 (-(n:Int))=((18446744073709551616-n:Nat):Int):=by rw [DT,IntKind.wrap_u64];omega
  rw [e,show (31:Int)=((31:Nat):Int) from rfl,(bits_nat .u64 64 (jj _) (fun z a b=>by rw [IntKind.wrap_u64];omega) _ 31 dk dl).1]
  rw [show (31:Nat)=2^5-1 from rfl,Nat.and_two_pow_sub_one_eq_mod]
  omega
 refine ⟨h1,?_⟩
 unfold Yu;rw [h1,DT,IntKind.wrap_u64];omega
theorem AeR (x k:Int):AM dm (AH [] KV) f165 [.val false [.v (.int .u32 x)],.val false [.v (.int .i64 k)]] [] 300=some ((true,true)::(decide (0≤AX (true&&false) IntKind.u64 (32-bits BinOp.and IntKind.u64 (AX false IntKind.u64 k) (31))∧0≤x),true)::[],.val false [.v (.int .u32 (bits .or .u32 (Oq x (VM k)) (M_ x (Yu k))))]):=dj
theorem NA {A:AV} {c:Bool} {k:IntKind} {x:Int} {β:Env} {u:Value} (h:Bv (some A)=some (c,k,x)) (hr:AN β A u):has k x∧∀ β':Env,AN β' (.val false [.v (.int k x)]) u:=by
 obtain ⟨rfl,p⟩:=DJ (β:=β) (u:=u) (fun B hB=>by injection hB with hB;subst hB;exact hr) h
 exact ⟨p,fun β'=>Aw ⟨rfl,rfl,p⟩⟩
theorem iG {x:Int} (h:has .u32 x):0≤x∧x<4294967296:=by
 rw [Fy] at h;simp only [AL,jm,ji] at h;omega
theorem AeS {x:Int} (h0:0≤x) (h1:x<4294967296) {k:Int} (h2:-32<k) (h3:k<0):bits .or .u32 (Oq x (VM k)) (M_ x (Yu k))=IB x k:=by
 obtain ⟨a,rfl⟩:=ki h0;obtain ⟨n,rfl⟩:∃ n:Nat,k=-(n:Int):=⟨(-k).toNat,dk⟩
 obtain ⟨e1,e2⟩:=AJB (n:=n) dk dk
 rw [e1,e2,VL _ _ dk,Yt _ _ dk,(FS _ _ (jw _ dl) (pr (qn _ _) dk)).2.1,Nat.or_comm];unfold IB rr;rw [Int.neg_neg,jn,jn]
def yI:List AV→Option (dp×AV)
 | [X,K]=>match Bv (some X),Bv (some K) with
  | some (_,.u32,x),some (_,.i64,k)=>some ([(decide (-32<k∧k<0),true)],.val false [.v (.int .u32 (IB x k))])
  | _,_=>none
 | _=>none
theorem AeT:∀ args c v,yI args=some (c,v)→AO c→AU dm 165 args v:=by
 intro args c v hs hc us w ha;unfold yI at hs;split at hs;case h_2=>cases hs
 rename_i X K;split at hs;case h_2=>cases hs
 rename_i c1 x c2 k hX hK;injection hs with hs;injection hs with hs1 hs2;subst hs1;subst hs2;have hk:-32<k∧k<0:=jx hc.1
 obtain ⟨u1,iu,r1,⟨u2,iw,r2,ha,rfl⟩,rfl⟩:=ha;obtain ⟨p1,q1⟩:=NA hX r1;obtain ⟨p2,q2⟩:=NA hK r2;obtain ⟨b1,b2⟩:=iG p1;have h:=AeR x k;rw [AeS b1 b2 hk.1 hk.2] at h;obtain ⟨n,hn⟩:∃ n:Nat,k=-(n:Int):=⟨(-k).toNat,dk⟩
 have hm:(0:Int)≤Yu k:=by rw [hn,(AJB (n:=n) dk dk).2];omega
 exact AP (AJ (L:=[]) trivial BS) AB func165 h ⟨rfl,jc ⟨hm,b1⟩,trivial⟩ rfl _ w ⟨u1,_,q1 _,⟨u2,_,q2 _,ha,rfl⟩,rfl⟩
noncomputable def SSa0:dr:=(165,FY yI)::[]
theorem AJC:AW dm SSa0:=⟨GS func165 dj dj AeT,trivial⟩
noncomputable abbrev oS0:gr:=AH SSa0 KV
theorem yJ:gp dm oS0:=AJ AJC BS
def Ot (a b c x:Nat):Nat:=rr x a ^^^ rr x b ^^^ rr x c
def Ou (a b c x:Nat):Nat:=rr x a ^^^ rr x b ^^^ x / 2^c
theorem AeU (x a b c:Int):AM dm oS0 f164 [.val false [.v (.int .u32 x)],.val false [.v (.int .i64 a)],.val false [.v (.int .i64 b)],.val false [.v (.int .i64 c)]] [] 300=some ((decide (-32<AX false IntKind.i64 (0-a)∧AX false IntKind.i64 (0-a)<0),true)::(decide (-32<AX false IntKind.i64 (0-b)∧AX false IntKind.i64 (0-b)<0),true)::(decide (-32<AX false IntKind.i64 (0-c)∧AX false IntKind.i64 (0-c)<0),true)::[],.val false [.v (.int .u32 (bits .xor .u32 (bits .xor .u32 (IB x (AX false .i64 (0-a))) (IB x (AX false .i64 (0-b)))) (IB x (AX false .i64 (0-c)))))]):=dj
theorem AeV (x a b c:Int):AM dm oS0 f233 [.val false [.v (.int .u32 x)],.val false [.v (.int .i64 a)],.val false [.v (.int .i64 b)],.val false [.v (.int .i64 c)]] [] 300=some ((decide (-32<AX false IntKind.i64 (0-a)∧AX false IntKind.i64 (0-a)<0),true)::(decide (-32<AX false IntKind.i64 (0-b)∧AX false IntKind.i64 (0-b)<0),true)::(decide (0≤c∧0≤x),true)::[],.val false [.v (.int .u32 (bits .xor .u32 (bits .xor .u32 (IB x (AX false .i64 (0-a))) (IB x (AX false .i64 (0-b)))) (M_ x c)))]):=dj
theorem AeW (x n:Int):AM dm oS0 f291 [.val false [.v (.int .u32 x)],.val false [.v (.int .u64 n)]] [] 300=some ((decide (0≤n∧0≤x),true)::(decide (0≤AX (true&&false) IntKind.u64 (32-n)),true)::[],.val false [.v (.int .u32 (bits .or .u32 (M_ x n) (Oq x (AX false .u64 (32-n)))))]):=dj
theorem AJD {a:Int} (h0:0<a) (h1:a<32):AX false .i64 (0-a)=-a:=by rw [DT,IntKind.wrap_i64];omega
theorem Yv {x a:Int} (h0:0<a) (h1:a<32):IB x (AX false .i64 (0-a))=((rr x.toNat a.toNat:Nat):Int):=by
 rw [AJD h0 h1];unfold IB;rw [Int.neg_neg]
def Iu (a:Int):Bool:=decide (0<a∧a<32)
theorem Yw {a:Int} (h:Iu a=true):decide (-32<AX false .i64 (0-a)∧AX false .i64 (0-a)<0)=true:=by
 have h:=jx h;rw [AJD h.1 h.2];exact jc ⟨dk,dk⟩
def iH (f:Nat→Nat→Nat→Nat→Nat):List AV→Option (dp×AV)
 | [X,A,B,C]=>match Bv (some X),Bv (some A),Bv (some B),Bv (some C) with
  | some (_,.u32,x),some (_,.i64,a),some (_,.i64,b),some (_,.i64,c)=>some ([(Iu a,true),(Iu b,true),(Iu c,true)],.val false [.v (.int .u32 (f a.toNat b.toNat c.toNat x.toNat:Nat))])
  | _,_,_,_=>none
 | _=>none
theorem AJE {F:FuncId} {f:Nat→Nat→Nat→Nat→Nat} (h:∀ x a b c:Int,0≤x→x<4294967296→Iu a=true→Iu b=true→Iu c=true→AU dm F [.val false [.v (.int .u32 x)],.val false [.v (.int .i64 a)],.val false [.v (.int .i64 b)],.val false [.v (.int .i64 c)]] (.val false [.v (.int .u32 (f a.toNat b.toNat c.toNat x.toNat:Nat))])) :
  ∀ args c v,iH f args=some (c,v)→AO c→AU dm F args v:=by
 intro args c v hs hc us w ha;unfold iH at hs;split at hs;case h_2=>cases hs
 rename_i X A B C;split at hs;case h_2=>cases hs
 rename_i c1 x c2 a c3 b c4 d hX hA hB hC;injection hs with hs;injection hs with hs1 hs2;subst hs1;subst hs2;obtain ⟨k1,k2,k3,_⟩:=hc;obtain ⟨u1,iu,r1,⟨u2,iw,r2,⟨u3,us3,r3,⟨u4,us4,r4,ha,rfl⟩,rfl⟩,rfl⟩,rfl⟩:=ha;obtain ⟨p1,q1⟩:=NA hX r1;obtain ⟨_,q2⟩:=NA hA r2;obtain ⟨_,q3⟩:=NA hB r3;obtain ⟨_,q4⟩:=NA hC r4;obtain ⟨b1,b2⟩:=iG p1;exact h x a b d b1 b2 k1 k2 k3 _ w ⟨u1,_,q1 _,⟨u2,_,q2 _,⟨u3,_,q3 _,⟨u4,_,q4 _,ha,rfl⟩,rfl⟩,rfl⟩,rfl⟩
theorem iI {a b c:Nat} (h1:a<4294967296) (h2:b<4294967296) (h3:c<4294967296):bits .xor .u32 (bits .xor .u32 (a:Int) (b:Int)) (c:Int)=((a ^^^ b ^^^ c:Nat):Int):=by
 rw [(FS _ _ h1 h2).2.2,(FS _ _ (sj (n:=32) h1 h2) h3).2.2]
theorem AeX (x a b c:Int) (h0:0≤x) (h1:x<4294967296) (ha:Iu a=true) (hb:Iu b=true) (hc:Iu c=true):AU dm 164 [.val false [.v (.int .u32 x)],.val false [.v (.int .i64 a)],.val false [.v (.int .i64 b)],.val false [.v (.int .i64 c)]] (.val false [.v (.int .u32 (Ot a.toNat b.toNat c.toNat x.toNat:Nat))]):=by
 have h:=AeU x a b c;have la:=jx ha;have lb:=jx hb;have lc:=jx hc;have lx:x.toNat<4294967296:=dk
 have e:bits .xor .u32 (bits .xor .u32 (IB x (AX false .i64 (0-a))) (IB x (AX false .i64 (0-b)))) (IB x (AX false .i64 (0-c)))=(Ot a.toNat b.toNat c.toNat x.toNat:Nat):=by
  rw [Yv la.1 la.2,Yv lb.1 lb.2,Yv lc.1 lc.2,iI (M9 lx _) (M9 lx _) (M9 lx _)];rfl
 rw [e] at h;exact AP yJ AB func164 h ⟨Yw ha,Yw hb,Yw hc,trivial⟩ rfl
theorem AeY (x a b c:Int) (h0:0≤x) (h1:x<4294967296) (ha:Iu a=true) (hb:Iu b=true) (hc:Iu c=true):AU dm 233 [.val false [.v (.int .u32 x)],.val false [.v (.int .i64 a)],.val false [.v (.int .i64 b)],.val false [.v (.int .i64 c)]] (.val false [.v (.int .u32 (Ou a.toNat b.toNat c.toNat x.toNat:Nat))]):=by
 have h:=AeV x a b c;have la:=jx ha;have lb:=jx hb;have lc:=jx hc;have lx:x.toNat<4294967296:=dk
 have e:bits .xor .u32 (bits .xor .u32 (IB x (AX false .i64 (0-a))) (IB x (AX false .i64 (0-b)))) (M_ x c)=(Ou a.toNat b.toNat c.toNat x.toNat:Nat):=by
  have es:M_ x c=((x.toNat / 2^c.toNat:Nat):Int):=by
   have:=Yt x.toNat c.toNat dk
   rw [ud h0,ud dk] at this;exact this
  rw [Yv la.1 la.2,Yv lb.1 lb.2,es,iI (M9 lx _) (M9 lx _) (pr (qn _ _) lx)];rfl
 rw [e] at h;exact AP yJ AB func233 h ⟨Yw ha,Yw hb,jc ⟨dk,h0⟩,trivial⟩ rfl
def yK:List AV→Option (dp×AV)
 | [X,K]=>match Bv (some X),Bv (some K) with
  | some (_,.u32,x),some (_,.u64,k)=>some ([(Iu k,true)],.val false [.v (.int .u32 (rr x.toNat k.toNat:Nat))])
  | _,_=>none
 | _=>none
theorem AeZ:∀ args c v,yK args=some (c,v)→AO c→AU dm 291 args v:=by
 intro args c v hs hc us w ha;unfold yK at hs;split at hs;case h_2=>cases hs
 rename_i X K;split at hs;case h_2=>cases hs
 rename_i c1 x c2 k hX hK;injection hs with hs;injection hs with hs1 hs2;subst hs1;subst hs2;have hk:=jx hc.1;obtain ⟨u1,iu,r1,⟨u2,iw,r2,ha,rfl⟩,rfl⟩:=ha;obtain ⟨p1,q1⟩:=NA hX r1;obtain ⟨_,q2⟩:=NA hK r2;obtain ⟨b1,b2⟩:=iG p1;have h:=AeW x k;obtain ⟨y,rfl⟩:=ki b1;obtain ⟨n,rfl⟩:=ki (Int.le_of_lt hk.1)
 have e1:AX false .u64 (32-(n:Int))=((32-n:Nat):Int):=by rw [DT,IntKind.wrap_u64];omega
 rw [e1,VL _ _ dk,Yt _ _ dk,(FS _ _ (pr (qn _ _) dk) (jw _ dl)).2.1] at h;exact AP yJ AB func291 h ⟨jc ⟨dk,dk⟩,jc (by show (0:Int)≤AX false .u64 (32-(n:Int));rw [e1];omega),trivial⟩ rfl _ w ⟨u1,_,q1 _,⟨u2,_,q2 _,ha,rfl⟩,rfl⟩
noncomputable def SSa:dr:=(164,FY (iH Ot))::(233,FY (iH Ou))::(291,FY yK)::SSa0
theorem AJF:AW dm SSa:=⟨GS func164 dj dj (AJE AeX),GS func233 dj dj (AJE AeY),GS func291 dj dj AeZ,AJC⟩
def iJ (s:Nat→Int) (k w:Int):Int:=AX false .u32 (AX false .u32 (AX false .u32 (AX false .u32 (s 7+(Ot 6 11 25 (s 4).toNat:Nat))+bits .xor .u32 (s 6) (bits .and .u32 (s 4) (bits .xor .u32 (s 5) (s 6))))+k)+w)
def yL (s:Nat→Int):Int:=AX false .u32 ((Ot 2 13 22 (s 0).toNat:Nat)+bits .or .u32 (bits .and .u32 (s 0) (s 1)) (bits .and .u32 (s 2) (bits .or .u32 (s 0) (s 1))))
def yM (s:Nat→Int) (k w:Int):Nat→Int
 | 0=>AX false .u32 (iJ s k w+yL s)
 | 1=>s 0
 | 2=>s 1
 | 3=>s 2
 | 4=>AX false .u32 (s 3+iJ s k w)
 | 5=>s 4
 | 6=>s 5
 | _=>s 6
def w8 (s:Nat→Int):List Ch:=[.v (.int .u32 (s 0)),.v (.int .u32 (s 1)),.v (.int .u32 (s 2)),.v (.int .u32 (s 3)),.v (.int .u32 (s 4)),.v (.int .u32 (s 5)),.v (.int .u32 (s 6)),.v (.int .u32 (s 7))]
noncomputable def Aea:ASpec:=fun _ _ fr gv=>some (BR [] 0 fr 0 [] (.val true [.seq .u32 (List.replicate 64 0)]) [] [] gv)
noncomputable def Aeb:Option (dp×List Nat×gq):=AY dm (AH ((163,Aea)::SSa) KV) (some 0) 100 1 none (Aj f87 [.val true [.seq .u32 (List.replicate 8 0)],.val true [.seq .u8 (List.replicate 64 0)]] [] 0 [])
noncomputable def Aec:List Item:=CB Aeb
noncomputable def VN (hs ks ws:dn) (s:Nat→Int) (t:AV) (p:List Bool):gq:=⟨Aec,⟨EC f87.ntmps [(2,.val false [.p 0 0]),(4,.val false [.p 2 0]),(5,.val false [.p 3 0]),(6,.val false [.p 4 0]),(7,.val false [.v (.func (.func 164) #[] #[])]),(8,.val false [.p 5 0]),(20,t)],
 [(0,some ⟨109,[.seq .u32 hs],false⟩),(2,some ⟨109,List.replicate 8 (.n .u32 0),false⟩),(3,some ⟨160,[.seq .u32 ks],false⟩),(4,some ⟨160,[.seq .u32 ws],false⟩),(5,some ⟨109,w8 s,false⟩)],6,p⟩⟩
abbrev yN:Option (List Nat×List Nat×Nat):=some ([2,4,5,6,7,8,20],[0,2,3,4,5],6)
def shC (ks ws:dn) (t:Int):dp:=(decide (t<64),true)::tt 3 ((decide (0≤t∧t<64),true)::(decide (0+t.toNat*1<ks.length),true)::(decide (0≤t∧t<64),true)::(decide (0+t.toNat*1<ws.length),true)::tt 5 [])
theorem Aed (hs ks ws:dn) (s:Nat→Int) (t:Int):AY dm (AH SSa KV) (some 0) 100 1 yN (VN hs ks ws s (iA t) du) =
 some (shC ks ws t,[],VN hs ks ws (yM s (ks.getD (0+t.toNat*1) 0) (ws.getD (0+t.toNat*1) 0)) (iA (wI (t+1))) []):=dj
def iK (x y z:Nat):Nat:=z ^^^ (x &&& (y ^^^ z))
def iL (x y z:Nat):Nat:=(x &&& y) ||| (z &&& (x ||| y))
def VO (s:Nat→Nat) (k w:Nat):Nat:=(s 7+Ot 6 11 25 (s 4)+iK (s 4) (s 5) (s 6)+k+w) % 4294967296
def Yx (s:Nat→Nat):Nat:=(Ot 2 13 22 (s 0)+iL (s 0) (s 1) (s 2)) % 4294967296
def TA (s:Nat→Nat) (k w:Nat):Nat→Nat
 | 0=>(VO s k w+Yx s) % 4294967296
 | 1=>s 0
 | 2=>s 1
 | 3=>s 2
 | 4=>(s 3+VO s k w) % 4294967296
 | 5=>s 4
 | 6=>s 5
 | _=>s 6
theorem Yy (x:Nat):AX false .u32 (x:Int)=((x % 4294967296:Nat):Int):=by rw [DT,IntKind.wrap_u32];omega
theorem Ey (x y:Nat):AX false .u32 ((x:Int)+(y:Int))=(((x+y) % 4294967296:Nat):Int):=by rw [DT,IntKind.wrap_u32];omega
theorem AJH {s:Nat→Nat} (hs:∀ i,s i<4294967296) (k w:Nat):iJ (fun i=>(s i:Int)) k w=(VO s k w:Nat):=by
 unfold iJ VO iK;have h:=fun i=>hs i
 rw [(FS _ _ (hs 5) (hs 6)).2.2,(FS _ _ (hs 4) (sj (n:=32) (hs 5) (hs 6))).1,(FS _ _ (hs 6) (qb (n:=32) _ (sj (n:=32) (hs 5) (hs 6)))).2.2,jn,Ey,Ey,Ey,Ey];congr 1
 omega
theorem Aee {s:Nat→Nat} (hs:∀ i,s i<4294967296):yL (fun i=>(s i:Int))=(Yx s:Nat):=by
 unfold yL Yx iL;rw [(FS _ _ (hs 0) (hs 1)).1,(FS _ _ (hs 0) (hs 1)).2.1,(FS _ _ (hs 2) (Nat.or_lt_two_pow (n:=32) (hs 0) (hs 1))).1,(FS _ _ (qb (n:=32) _ (hs 1)) (qb (n:=32) _ (Nat.or_lt_two_pow (n:=32) (hs 0) (hs 1)))).2.1,jn,Ey]
theorem Aef {s:Nat→Nat} (hs:∀ i,s i<4294967296) (k w:Nat):yM (fun i=>(s i:Int)) k w=fun i=>(TA s k w i:Int):=by
 funext i
 unfold yM TA;split
 ·rw [AJH hs,Aee hs,Ey]
 ·rfl
 ·rfl
 ·rfl
 ·rw [AJH hs,Ey]
 ·rfl
 ·rfl
 ·rfl
theorem Aeg {s:Nat→Nat} (hs:∀ i,s i<4294967296) (k w:Nat) (i:Nat):TA s k w i<4294967296:=by
 unfold TA;split
 all_goals first | exact jw _ dl | exact hs _
def KW (s:Nat→Nat) (K W:Nat→Nat):Nat→Nat→Nat
 | 0=>s
 | t+1=>TA (KW s K W t) (K t) (W t)
theorem yO {s:Nat→Nat} (hs:∀ i,s i<4294967296) (K W:Nat→Nat):∀ t i,KW s K W t i<4294967296
 | 0,i=>hs i
 | t+1,i=>Aeg (yO hs K W t) _ _ i
theorem Aeh {x y z:Nat} (hz:z<4294967296):(x &&& y) ^^^ ((4294967295 ^^^ x) &&& z)=iK x y z:=by
 unfold iK;refine Nat.eq_of_testBit_eq fun i=>?_
 have e:(4294967295:Nat).testBit i=decide (i<32):=Nat.testBit_two_pow_sub_one 32 i
 simp only [Nat.testBit_xor,Nat.testBit_and,e];by_cases h:i<32
 ·rw [jc h];cases x.testBit i<;>cases y.testBit i<;>cases z.testBit i<;>rfl
 ·rw [Nat.testBit_lt_two_pow (kr hz (oy (n:=2) dl (by omega:32≤i)))]
  cases x.testBit i<;>cases y.testBit i<;>simp
theorem Aei (x y z:Nat):(x &&& y) ^^^ (x &&& z) ^^^ (y &&& z)=iL x y z:=by
 unfold iL;refine Nat.eq_of_testBit_eq fun i=>?_
 simp only [Nat.testBit_xor,Nat.testBit_and,Nat.testBit_or];cases x.testBit i<;>cases y.testBit i<;>cases z.testBit i<;>rfl
def Iv (k:Nat) (cs:List Ch):Heap→Heap
 | []=>[]
 | (j,b)::r=>match Nat.beq j k with
  | true=>(j,match b with | some ⟨ty,_,o⟩=>some ⟨ty,cs,o⟩ | none=>none)::r
  | false=>(j,b)::Iv k cs r
theorem yP {k:Nat} {cs cs':List Ch} {ty:TypeId} {o:Bool}:∀ {H:Heap},AG H k=some ⟨ty,cs,o⟩→∀ b x,AG (Iv k cs' H) b=some x→AG H b=some x∨(b=k∧x=⟨ty,cs',o⟩)
 | [],h,_,_,_=>by cases h
 | (j,z)::r,h,b,x,hx=>by
  simp only [AG] at h ⊢;unfold Iv at hx;cases e:Nat.beq j k with
  | true =>
   rw [e] at h hx;have hz:z=some ⟨ty,cs,o⟩:=h
   subst hz;simp only [AG] at hx;cases e':Nat.beq j b with
   | true =>
    rw [e'] at hx;injection hx with hx;exact .inr ⟨(Ar.1 e').symm.trans (Ar.1 e),hx.symm⟩
   | false=>rw [e'] at hx;exact .inl hx
  | false =>
   rw [e] at h hx;simp only [AG] at hx;cases e':Nat.beq j b with
   | true=>rw [e'] at hx;exact .inl hx
   | false=>rw [e'] at hx;exact yP (H:=r) h b x hx
theorem Aej {β:Env} {H:Heap} {k:Nat} {ty:TypeId} {cs cs':List Ch} {o:Bool} {w:World} (hk:AG H k=some ⟨ty,cs,o⟩) (h:∀ β l,AQ β cs l→AQ β cs' l) (g:Ex.Good β H w):Ex.Good β (Iv k cs' H) w:=by
 have hs:∀ b x,AG (Iv k cs' H) b=some x→∃ y,AG H b=some y∧y.ty=x.ty:=fun b x hb=>by
  rcases yP hk b x hb with e | ⟨rfl,rfl⟩
  ·exact ⟨x,e,rfl⟩
  ·exact ⟨_,hk,rfl⟩
 refine ⟨fun b blk hb=>?_,fun b b' B n n' h1 h2 h3 h4=>?_,g.lt⟩
 ·rcases yP hk b blk hb with e | ⟨rfl,rfl⟩
  ·exact g.heap b blk e
  ·exact AF3 h (g.heap b _ hk)
 ·obtain ⟨x,hx,hr⟩:=GZ h1;obtain ⟨y,hy,e⟩:=hs b x hx;obtain ⟨x',hx'⟩:=lj.1 h2;obtain ⟨y',hy',_⟩:=hs b' x' hx';exact g.inj b b' B n n' (GJ hy (by rw [e];exact hr)) (by rw [hy'];rfl) h3 h4
theorem AJI {P:Program} {f:FuncId} {β0:Env} {w0:World} {R:Ending→World→Prop} {n:Fz} {W:List Nat} {todo:List Item} {T:List AV} {H H':Heap} {k:Nat} {ty:TypeId} {cs cs':List Ch} {o:Bool} {fr:Nat} {p:List Bool} (hk:AG H k=some ⟨ty,cs,o⟩) (h:∀ β l,AQ β cs l→AQ β cs' l) (e:Iv k cs' H=H')
  (hs:gn P f β0 w0 R n W ⟨todo,⟨T,H',fr,p⟩⟩):gn P f β0 w0 R n W ⟨todo,⟨T,H,fr,p⟩⟩ :=
 fun β a w hi hf=>hs β a w { hi with good:=e▸Aej hk h hi.good } hf
theorem iM {k:IntKind} {cs:List Ch} {xs:dn} (h:A8 k cs=some xs) (β:Env) (l:List Value) (hr:AQ β cs l):AQ β [.seq k xs] l:=by
 obtain ⟨q1,q2⟩:=DU h hr;exact ⟨_,[],⟨q1,q2⟩,rfl,by simp⟩
def kL:dn:=[1116352408,1899447441,3049323471,3921009573,961987163,1508970993,2453635748,2870763221,3624381080,310598401,607225278,1426881987,1925078388,2162078206,2614888103,3248222580,3835390401,4022224774,264347078,604807628,770255983,1249150122,1555081692,1996064986,2554220882,2821834349,2952996808,3210313671,3336571891,3584528711,113926993,338241895,666307205,773529912,1294757372,1396182291,1695183700,1986661051,2177026350,2456956037,2730485921,2820302411,3259730800,3345764771,3516065817,3600352804,4094571909,275423344,430227734,506948616,659060556,883997877,958139571,1322822218,1537002063,1747873779,1955562222,2024104815,2227730452,2361852424,2428436474,2756734187,3204031479,3329325298]
noncomputable abbrev oSa:gr:=AH SSa KV
theorem Lt:gp dm oSa:=AJ AJF BS
noncomputable def kX (t:Int):gq:=It (GM dm oSa 5 0 (Aj f292 [iA t] [] 0 []))
noncomputable def kCs:List Ch:=match AG (kX 0).s.H 0 with | some b=>b.cs | none=>[]
noncomputable def kH:Heap:=[(0,some ⟨160,[.seq .u32 kL],false⟩)]
theorem Aek (t:Int):GM dm oSa 5 0 (Aj f292 [iA t] [] 0 [])=some ([],[],kX t):=dj
theorem Ael (t:Int):AG (kX t).s.H 0=some ⟨160,kCs,false⟩:=dj
theorem Aem (t:Int):Iv 0 [.seq .u32 kL] (kX t).s.H=kH:=dj
theorem Aen:A8 .u32 kCs=some kL:=dj
def yQ (t:Int):AV:=.val false [.v (.int .u32 (kL.getD (0+t.toNat*1) 0))]
theorem Aeo (t:Int):AT dm oSa f292 100 0 [] ⟨(kX t).todo,⟨(kX t).s.T,kH,(kX t).s.fr,(kX t).s.gv⟩⟩=some ([(decide (0≤t∧t<64),true),(decide (0+t.toNat*1<kL.length),true)],[],yQ t,[]):=dj
theorem Aep {t:Int} (h:0≤t∧t<64):Ab dm 292 [iA t] [] 0 [] (yQ t) []:=by
 refine A7 (gv:=[]) func292 dj dj fun β0 w0 hb=>?_
 refine RF Lt AB (Aek t) trivial (AS dj) hb jb fun hw=>?_
 refine AJI (Ael t) (iM Aen) (Aem t) ?_
 exact Ay Lt AB func292 (Aeo t) ⟨jc h,jc (by show 0+t.toNat*1<64;omega),trivial⟩ (AS dj) hb jb
def kSp:ASpec:=fun args _ fr gv=>match args with
 | [X]=>match Bv (some X) with
  | some (_,.i64,t)=>some (BR [] 0 fr 0 [] (yQ t) [] [(decide (0≤t∧t<64),true)] gv)
  | _=>none
 | _=>none
theorem Aeq:BJ dm 292 kSp:=by
 refine Da func292 dj dj fun args H fr gv r hs=>?_
 unfold kSp at hs;split at hs;case h_2=>cases hs
 rename_i X;split at hs;case h_2=>cases hs
 rename_i c t hX;injection hs with hs;refine ⟨[],0,0,[],_,_,_,gv,hs.symm,fun β us w ha hg hc=>?_⟩
 obtain ⟨u1,iu,r1,ha,rfl⟩:=ha;exact ⟨[iA t],[],Aep (jx hc.1),dj,⟨u1,_,(NA hX r1).2 _,ha,rfl⟩,⟨(fun _ _ h=>by cases h),(fun _ _ _ _ _ h=>by cases h),(fun b B n h=>by
  have e:Nat.blt b 0=false:=by cases q:Nat.blt b 0 with | false=>rfl | true=>exact absurd (Bf.1 q) (oi b)
  simp [A9,e] at h)⟩,fun k h=>by cases h⟩
def NB (b:Nat→Nat) (t:Nat):Nat:=((b (4*t)*256+b (4*t+1))*256+b (4*t+2))*256+b (4*t+3)
def VP (l:List Nat) (n:Nat):Nat:=(Ou 17 19 10 (l.getD (n+14) 0)+l.getD (n+9) 0+Ou 7 18 3 (l.getD (n+1) 0)+l.getD n 0) % 4294967296
def GW (b:Nat→Nat):Nat→List Nat
 | 0=>(List.range 16).map (NB b)
 | n+1=>GW b n++[VP (GW b n) n]
theorem Yz (b:Nat→Nat):∀ n,(GW b n).length=n+16
 | 0=>rfl
 | n+1=>by rw [GW,kc,Yz b n];rfl
theorem Aer {b:Nat→Nat} (hb:∀ i,b i<256) (t:Nat):NB b t<4294967296:=by
 unfold NB;have h0:=hb (4*t)
 have h1:=hb (4*t+1)
 have h2:=hb (4*t+2)
 have h3:=hb (4*t+3)
 omega
theorem AJK {b:Nat→Nat} (hb:∀ i,b i<256):∀ n,∀ x∈GW b n,x<4294967296
 | 0,x,h=>by
  obtain ⟨t,_,rfl⟩:=lv.1 h;exact Aer hb t
 | n+1,x,h=>by
  rcases jp.1 h with h | h
  ·exact AJK hb n x h
  ·rw [lg] at h;subst h;exact jw _ dl
def HX (b:Nat→Nat) (t:Nat):Nat:=(GW b 48).getD t 0
def kN (t:Nat):Nat:=(kL.getD t 0).toNat
def TB (h b:Nat→Nat) (i:Nat):Nat:=(KW h kN (HX b) 64 i+h i) % 4294967296
def Y0:Nat→Nat
 | 0=>0x6a09e667
 | 1=>0xbb67ae85
 | 2=>0x3c6ef372
 | 3=>0xa54ff53a
 | 4=>0x510e527f
 | 5=>0x9b05688c
 | 6=>0x1f83d9ab
 | _=>0x5be0cd19
def Ax (n:Nat):Nat:=(n+72) / 64*64
def DP (xs:dn):dn:=xs++128::(List.replicate (Ax xs.length-xs.length-9) 0++Co (8*xs.length) 8)
theorem Ov (n:Nat):n+9≤Ax n:=by unfold Ax;omega
theorem AJL (xs:dn):(DP xs).length=Ax xs.length:=by
 unfold DP;have:=Ov xs.length
 simp only [kc,kp,od,Co,lh,ow];omega
def TC:dp→Bool
 | []=>true
 | (a,b)::r=>match a,b with
  | true,true=>TC r
  | false,false=>TC r
  | _,_=>false
theorem VQ:∀ {c:dp},TC c=true→AO c
 | [],_=>trivial
 | (true,true)::_,h=>⟨rfl,VQ h⟩
 | (false,false)::_,h=>⟨rfl,VQ h⟩
 | (true,false)::_,h=>by cases h
 | (false,true)::_,h=>by cases h
def cdO (x:Option (dp×List Nat×gq)):dp:=match x with | some (c,_,_)=>c | none=>[]
def kyO (x:Option (dp×List Nat×gq)):List Nat:=match x with | some (_,k,_)=>k | none=>[]
def isO (x:Option (dp×List Nat×gq)):Bool:=match x with | some _=>true | none=>false
theorem Aes {x:Option (dp×List Nat×gq)} (h:isO x=true):x=some (cdO x,kyO x,It x):=by
 cases x with
 | none=>cases h
 | some v=>rfl
theorem TD {P:Program} {f:FuncId} {β0:Env} {w0:World} {R:Ending→World→Prop} {n:Fz} {W:List Nat} {x:gq} {k:Nat} {ty:TypeId} {cs cs':List Ch} {o:Bool} (hk:AG x.s.H k=some ⟨ty,cs,o⟩) (h:∀ β l,AQ β cs l→AQ β cs' l)
  (hs:gn P f β0 w0 R n W ⟨x.todo,⟨x.s.T,Iv k cs' x.s.H,x.s.fr,x.s.gv⟩⟩):gn P f β0 w0 R n W x:=AJI (H':=Iv k cs' x.s.H) hk h rfl hs
structure Runs (x:Option (dp×List Nat×gq)):Prop where
 isO:isO x=true
 ky:kyO x=[]
 cd:TC (cdO x)=true
theorem Aet {P:Program} {O:gr} {f:FuncId} {β0:Env} {w0:World} {R:Ending→World→Prop} {n:Fz} {W:List Nat} (hO:gp P O) (hm:P.follows .mixedOrders=true) {m k0:Nat} {x:gq}
  (h:Runs (GM P O m k0 x)) (i_:Be n x.s) (h0:∀ b,k0≤b→β0 b=none) (hs:Be n (It (GM P O m k0 x)).s→gn P f β0 w0 R n W (It (GM P O m k0 x))):gn P f β0 w0 R n W x:=by
 obtain ⟨h1,h2,h3⟩:=h;generalize e:GM P O m k0 x=y at *
 refine RF hO hm (e.trans (Aes h1)) (VQ h3) i_ h0 (fun k hk=>?_) hs
 rw [h2] at hk;cases hk
def Bp (f:Nat→Int):dn:=(List.range 64).map f
def l8 (f:Nat→Int):dn:=(List.range 8).map f
theorem iN {xs:dn} {n:Nat} (h:xs.length=n):xs=(List.range n).map fun i=>xs.getD i 0:=by
 subst h;refine rj (by simp) fun i h1 h2=>?_
 simp [List.getD_eq_getElem?_getD,h1]
def ws5:List Bool:=[true,true,true,true,false]
def yS:Nat→List Bool
 | 0=>[]
 | n+1=>ws5++yS n
noncomputable def wsA (f:Nat→Int):gq:=Aj f163 [.val false [.p 0 0]] [(0,some (Ak [.seq .u8 (Bp f)]))] 1 (yS 16)
noncomputable def wsO (f:Nat→Int):=GM dm oSa 1186 1 (wsA f)
noncomputable def Ow (f:Nat→Int):gq:=It (wsO f)
noncomputable def Aev:List Item:=CB (AY dm oSa (some 0) 100 1 none (Ow fun _=>0))
noncomputable def wsH (ws:dn):Heap:=[(1,some ⟨160,[.seq .u32 ws],false⟩)]
noncomputable def NC (ws:dn) (t:AV) (p:List Bool):gq:=⟨Aev,⟨EC f163.ntmps [(2,.val false [.p 1 0]),(6,.val false [.v (.func (.func 233) #[] #[])]),(7,t)],wsH ws,2,p⟩⟩
noncomputable def AJQ (f:Nat→Int):List Ch:=match AG (Ow f).s.H 1 with | some b=>b.cs | none=>[]
def sB (s b:Int):Int:=bits .or .u32 (Oq s 8) (AX false .u32 b)
def wE (f:Nat→Int) (t:Nat):Int:=sB (sB (sB (sB 0 (f (4*t))) (f (4*t+1))) (f (4*t+2))) (f (4*t+3))
theorem Aex (f:Nat→Int):Runs (wsO f):=⟨dj,dj,dj⟩
theorem Aey (f:Nat→Int):AG (Ow f).s.H 1=some ⟨160,AJQ f,false⟩:=dj
theorem Aez (f:Nat→Int):A8 .u32 (AJQ f)=some ((List.range 16).map (wE f)++List.replicate 48 0):=dj
theorem Ae0 (f:Nat→Int) (L:dn):AY dm oSa (some 0) 100 1 (some ([2,6,7],[1],2)) ⟨(Ow f).todo,⟨(Ow f).s.T,Iv 1 [.seq .u32 L] (Ow f).s.H,(Ow f).s.fr,(Ow f).s.gv⟩⟩=some ([],[],NC L (.val false [.n .i64 16]) []):=dj
def gI (ws:dn) (d:Int):Int:=ws.getD (0+d.toNat*1) 0
def yT (ws:dn) (t:Int):Int:=AX false .u32 (AX false .u32 (AX false .u32 ((Ou 17 19 10 (gI ws (wI (t-2))).toNat:Nat)+gI ws (wI (t-7)))+(Ou 7 18 3 (gI ws (wI (t-15))).toNat:Nat))+gI ws (wI (t-16)))
def G' (d:Int) (n:Nat) (r:dp):dp:=(decide (0≤d∧d<64),true)::(decide (0+d.toNat*1<n),true)::r
def wsC (ws:dn) (t:Int):dp:=(decide (t<64),true)::G' (wI (t-2)) ws.length (tt 3 (G' (wI (t-7)) ws.length (G' (wI (t-15)) ws.length (tt 3 (G' (wI (t-16)) ws.length (G' t ws.length []))))))
theorem Ae1 (ws:dn) (t:Int):AY dm oSa (some 0) 200 1 (some ([2,6,7],[1],2)) (NC ws (iA t) du)=some (wsC ws t,[],NC (ws.set (0+t.toNat*1) (yT ws t)) (iA (wI (t+1))) []):=dj
theorem Ae2 (f:Nat→Int) (t:Int):AT dm oSa f163 100 1 [] (NC (Bp f) (iA t) dt)=some ([(decide (t<64),false)],[],.val true [.seq .u32 (Bp f)],[]):=dj
theorem iO {s b:Nat} (hs:s<16777216) (hb:b<256):sB (s:Int) (b:Int)=((s*256+b:Nat):Int):=by
 unfold sB;rw [show (8:Int)=((8:Nat):Int) from rfl,VL s 8 dl,Yy,jk (show s*2^8<4294967296 by omega),jk (show b<4294967296 by omega),(FS _ _ dk dk).2.1]
 have:=Nat.shiftLeft_add_eq_or_of_lt (i:=8) hb s
 rw [Nat.shiftLeft_eq] at this;rw [← this]
theorem Ae3 {b:Nat→Nat} (hb:∀ i,b i<256) (t:Nat):wE (fun i=>(b i:Int)) t=(NB b t:Nat):=by
 unfold wE NB;have h0:=hb (4*t)
 have h1:=hb (4*t+1)
 have h2:=hb (4*t+2)
 have h3:=hb (4*t+3)
 rw [show (0:Int)=((0:Nat):Int) from rfl,iO dl h0,iO dk h1,iO dk h2,iO dk h3,pe,ka]
def HA (b:Nat→Nat) (n:Nat):dn:=(GW b n).map (fun x:Nat=>(x:Int))++List.replicate (48-n) 0
theorem yU (b:Nat→Nat) {n:Nat} (h:n≤48):(HA b n).length=64:=by
 unfold HA;rw [kc,lh,Yz,od];omega
theorem AJS (b:Nat→Nat) {n i:Nat} (h:i<n+16):(HA b n).getD i 0=((GW b n).getD i 0:Nat):=by
 unfold HA;have hl:i<(GW b n).length:=by rw [Yz];exact h
 simp [List.getD_eq_getElem?_getD,List.getElem?_append_left,hl]
theorem AJT (b:Nat→Nat) {n:Nat} (h:n<48):(HA b n).set (n+16) (VP (GW b n) n:Nat)=HA b (n+1):=by
 unfold HA;rw [sh _ _ (by rw [lh,Yz];exact jj _),lh,Yz,oh,show 48-n=(48-(n+1))+1 by omega,ru,List.set_cons_zero,GW,oq,nq]
 rfl
theorem AJU (b:Nat→Nat):HA b 48=Bp fun t=>(HX b t:Int):=by
 rw [iN (yU b (jj 48))];refine nb fun i hi=>?_
 rw [AJS b (by rw [lz] at hi;omega)]
 rfl
theorem Ae4 {b:Nat→Nat} (hb:∀ i,b i<256):(List.range 16).map (wE fun i=>(b i:Int))++List.replicate 48 0=HA b 0:=by
 unfold HA;rw [GW,ny];congr 1
 exact nb fun t _=>Ae3 hb t
theorem HY {n k:Nat} (h:n<64) (hk:k≤16):wI (((n+16:Nat):Int)-(k:Int))=((n+16-k:Nat):Int):=by rw [Au dk];omega
theorem ND (b:Nat→Nat) {n i:Nat} (h:i<n+16):gI (HA b n) (i:Int)=((GW b n).getD i 0:Nat):=by
 unfold gI;rw [jn,ka,kb,AJS b h]
theorem Ae5 (b:Nat→Nat) {n:Nat} (h:n<48):yT (HA b n) ((n+16:Nat):Int)=(VP (GW b n) n:Nat):=by
 unfold yT VP;rw [show (2:Int)=((2:Nat):Int) from rfl,show (7:Int)=((7:Nat):Int) from rfl,show (15:Int)=((15:Nat):Int) from rfl,show (16:Int)=((16:Nat):Int) from rfl,HY dk dl,HY dk dl,HY dk dl,HY dk dl,ND b dk,ND b dk,ND b dk,ND b dk]
 rw [jn,jn,Ey,Ey,Ey,show n+16-2=n+14 by omega,show n+16-7=n+9 by omega,show n+16-15=n+1 by omega,show n+16-16=n by omega]
 congr 1
 omega
theorem HZ {d n:Nat} {r:dp} (hd:d<64) (hn:d<n) (h:AO r):AO (G' (d:Int) n r) :=
 ⟨jc ⟨dk,dk⟩,jc dk,h⟩
theorem Ae6 (L:dn):(NC L (.val false [.n .i64 16]) []).s.T.map Gy=(NC L (iA 16) []).s.T:=dj
theorem Ae7 {β0:Env} {w0:World} {R:Ending→World→Prop} {n:Nat} {W:List Nat} {L:dn} (h:gn dm 163 β0 w0 R n W (NC L (iA 16) [])):gn dm 163 β0 w0 R n W (NC L (.val false [.n .i64 16]) []):=by
 refine IY (T:=(NC L (.val false [.n .i64 16]) []).s.T) ?_
 rw [Ae6];exact h
theorem Ae8 {b:Nat→Nat} (hb:∀ i,b i<256) {β0:Env} {w0:World} (h0:∀ b,1≤b→β0 b=none):gn dm 163 β0 w0 (A_ β0 w0 [] (.val true [.seq .u32 (Bp fun t=>(HX b t:Int))]) []) f163.ntmps [] (Ow fun i=>(b i:Int)):=by
 refine TD (Aey _) (iM (Aez _)) ?_
 rw [Ae4 hb];refine Ai Lt AB (Ae0 _ _) trivial (AS dj) h0 jb fun _=>?_
 refine Ae7 ?_
 have loop:∀ r n,n+r=48→gn dm 163 β0 w0 (A_ β0 w0 [] (.val true [.seq .u32 (Bp fun t=>(HX b t:Int))]) []) f163.ntmps [] (NC (HA b n) (iA ((n+16:Nat):Int)) []):=by
  intro r;induction r with
  | zero =>
   intro n hn;obtain rfl:n=48:=dk
   rw [AJU];exact Af dt (Ay Lt AB func163 (Ae2 _ _) ⟨dl,trivial⟩ (AS dj) h0 jb)
  | succ r ih =>
   intro n hn;refine Af du (Ai Lt AB (Ae1 _ _) ?_ (AS dj) h0 jb fun _=>?_)
   ·have hl:=yU b (show n≤48 by omega)
    unfold wsC;rw [hl,show (2:Int)=((2:Nat):Int) from rfl,show (7:Int)=((7:Nat):Int) from rfl,show (15:Int)=((15:Nat):Int) from rfl,show (16:Int)=((16:Nat):Int) from rfl,HY dk dl,HY dk dl,HY dk dl,HY dk dl]
    exact ⟨jc dk,HZ dk dk (AI 3 (HZ dk dk (HZ dk dk (AI 3 (HZ dk dk (HZ dk dk trivial))))))⟩
   ·rw [Ae5 b dk,show 0+((n+16:Nat):Int).toNat*1=n+16 by omega,AJT b dk,Au (z:=((n+16:Nat):Int)+1) dk]
    have:=ih (n+1) dk
    rw [show ((n+1+16:Nat):Int)=((n+16:Nat):Int)+1 by omega] at this
    exact this
 have:=loop 48 0 rfl
 rw [show ((0+16:Nat):Int)=16 from rfl] at this
 exact this
theorem Ae9 {b:Nat→Nat} (hb:∀ i,b i<256) {β0:Env} {w0:World} (h0:∀ b,1≤b→β0 b=none):gn dm 163 β0 w0 (A_ β0 w0 [] (.val true [.seq .u32 (Bp fun t=>(HX b t:Int))]) []) f163.ntmps [] (wsA fun i=>(b i:Int)) :=
 Aet Lt AB (Aex fun i=>(b i:Int)) (AS dj) h0 fun _=>Ae8 hb h0
theorem Ae_ {b:Nat→Nat} (hb:∀ i,b i<256):Ab dm 163 [.val false [.p 0 0]] [(0,some (Ak [.seq .u8 (Bp fun i=>(b i:Int))]))] 1 [] (.val true [.seq .u32 (Bp fun t=>(HX b t:Int))]) [] :=
 A7 (gv:=yS 16) func163 dj dj fun _ _ h0=>Ae9 hb h0
def bN (xs:dn) (i:Nat):Nat:=(xs.getD i 0).toNat % 256
theorem AJV (xs:dn) (i:Nat):bN xs i<256:=jw _ dl
theorem yV {xs:dn} {P:Int→Prop} (h:∀ d∈xs,P d) (h0:P 0) (i:Nat):P (xs.getD i 0):=by
 rw [j_];cases e:xs[i]? with
 | none=>exact h0
 | some d=>exact h d (ol e)
theorem Ae' {xs:dn} (h:∀ d∈xs,0≤d∧d<256) (i:Nat):(bN xs i:Int)=xs.getD i 0:=by
 have:=yV (P:=fun d=>0≤d∧d<256) h ⟨dl,dl⟩ i
 unfold bN;omega
theorem yW {xs:dn} (h:∀ d∈xs,0≤d∧d<256) (hl:xs.length=64):xs=Bp fun i=>(bN xs i:Int):=by
 conv=>lhs;rw [iN hl]
 exact nb fun i _=>(Ae' h i).symm
def wdsSp:ASpec:=fun args H fr gv=>match args with
 | [.val false [.p k 0]]=>match AG H k with
  | some ⟨_,cs,_⟩=>match A8 .u8 cs with
   | some xs=>some (BR [k] 1 fr 0 [] (.val true [.seq .u32 (Bp fun t=>(HX (bN xs) t:Int))]) [] [(Nat.beq xs.length 64,true)] gv)
   | none=>none
  | none=>none
 | _=>none
theorem AfA {β:Env} {j k:Nat} {ρ:List Nat} {k0:Nat} {u:Value} (hj:j<k0) (hn:nth ρ j=k) (h:AN β (.val false [.p k 0]) u):AN (A9 β ρ k0) (.val false [.p j 0]) u:=by
 obtain ⟨l1,l2,⟨B,q,q1,q2⟩,h2,h3⟩:=h;have e:A9 β ρ k0 j=β k:=by rw [FK hj,hn]
 exact ⟨l1,l2,⟨B,q,by rw [e];exact q1,q2⟩,h2,h3⟩
theorem AfB:BJ dm 163 wdsSp:=by
 refine Da func163 dj dj fun args H fr gv r hs=>?_
 unfold wdsSp at hs;split at hs;case h_2=>cases hs
 rename_i k;split at hs;case h_2=>cases hs
 rename_i ty cs o hk;split at hs;case h_2=>cases hs
 rename_i xs iy;injection hs with hs;refine ⟨[k],1,0,[],_,_,_,gv,hs.symm,fun β us w ha hg hc=>?_⟩
 obtain ⟨u1,iu,r1,ha,rfl⟩:=ha;obtain ⟨g1,g2,g3⟩:=Eu hg hk iy;have hl:=Ar.1 hc.1;refine ⟨[.val false [.p 0 0]],A5 xs,?_,dj,⟨u1,_,AfA dk rfl r1,ha,rfl⟩,g2,g3⟩
 have:=Ae_ (AJV xs)
 rw [← yW g1 hl] at this;exact this
noncomputable def SSg:dr:=(163,wdsSp)::SSa
theorem AfC:AW dm SSg:=⟨AfB,AJF⟩
noncomputable def AfD:List Item:=CB (AY dm oSa (some 0) 100 0 none (Aj f290 [.val true [.seq .u8 (Bp fun _=>0)]] [] 0 []))
noncomputable def QH (f:Nat→Int) (ws:dn) (t:AV) (p:List Bool):gq:=⟨AfD,⟨EC f290.ntmps [(1,.val false [.p 0 0]),(2,.val false [.p 1 0]),(3,.val false [.p 2 0]),(4,t)],[(0,some ⟨112,[.seq .u8 (Bp f)],false⟩),(1,some ⟨160,List.replicate 64 (.n .u32 0),false⟩),(2,some ⟨160,[.seq .u32 ws],false⟩)],3,p⟩⟩
abbrev iQ:Option (List Nat×List Nat×Nat):=some ([1,2,3,4],[0,1,2],3)
noncomputable def QI (f:Nat→Int):gq:=It (AY dm oSa (some 0) 100 0 iQ (Aj f290 [.val true [.seq .u8 (Bp f)]] [] 0 []))
theorem AfE (f:Nat→Int):AY dm oSa (some 0) 100 0 iQ (Aj f290 [.val true [.seq .u8 (Bp f)]] [] 0 [])=some ([],[],QI f):=dj
theorem AfF (f:Nat→Int):AG (QI f).s.H 2=some ⟨160,List.replicate 64 (.n .u32 0),false⟩:=dj
theorem AfG {f:Nat→Int} {L:dn}:(⟨(QI f).todo,⟨(QI f).s.T.map Gy,Iv 2 [.seq .u32 L] (QI f).s.H,(QI f).s.fr,(QI f).s.gv⟩⟩:gq)=QH f L (iA 0) []:=dj
def yX (f:Nat→Int) (t:Int):Int:=AX false .u32 (AX false .u32 (AX false .u32 (Oq (AX false .u32 (gI (Bp f) (wI (4*t)))) 24+Oq (AX false .u32 (gI (Bp f) (wI (wI (4*t)+1)))) 16)+Oq (AX false .u32 (gI (Bp f) (wI (wI (4*t)+2)))) 8)+AX false .u32 (gI (Bp f) (wI (wI (4*t)+3))))
theorem AfH (f:Nat→Int) (ws:dn) (t:Int):AY dm oSa (some 0) 200 0 iQ (QH f ws (iA t) dw) =
 some ((decide (t<64),true)::(decide (t<16),true)::G' (wI (4*t)) (Bp f).length ((true,true)::G' (wI (wI (4*t)+1)) (Bp f).length ((true,true)::G' (wI (wI (4*t)+2)) (Bp f).length ((true,true)::G' (wI (wI (4*t)+3)) (Bp f).length (G' t ws.length [])))),[],QH f (ws.set (0+t.toNat*1) (yX f t)) (iA (wI (t+1))) []):=dj
def iR (x:Int) (a b c:Nat):Int:=bits .xor .u32 (bits .xor .u32 (rr x.toNat a:Nat) (rr x.toNat b:Nat)) (M_ x c)
def yY (ws:dn) (t:Int):Int:=AX false .u32 (AX false .u32 (AX false .u32 (iR (gI ws (wI (t-2))) 17 19 10+gI ws (wI (t-7)))+iR (gI ws (wI (t-15))) 7 18 3)+gI ws (wI (t-16)))
theorem AfI (f:Nat→Int) (ws:dn) (t:Int):AY dm oSa (some 0) 200 0 iQ (QH f ws (iA t) d_) =
 some ((decide (t<64),true)::(decide (t<16),false)::G' (wI (t-15)) ws.length (G' (wI (t-2)) ws.length (tt 2 ((decide ((0:Int)≤3∧0≤gI ws (wI (t-15))),true)::tt 2 ((decide ((0:Int)≤10∧0≤gI ws (wI (t-2))),true)::G' (wI (t-7)) ws.length (G' (wI (t-16)) ws.length (G' t ws.length [])))))),[],QH f (ws.set (0+t.toNat*1) (yY ws t)) (iA (wI (t+1))) []):=dj
theorem AfJ (f g:Nat→Int) (t:Int):FH dm oSa f290 100 0 (QH f (Bp g) (iA t) dt)=some ([(decide (t<64),false)],[],.val true [.seq .u32 (Bp g)]):=dj
theorem Y1 (f:Nat→Int) {i:Nat} (h:i<64):gI (Bp f) (i:Int)=f i:=by
 unfold gI Bp;rw [jn,ka,kb];simp [List.getD_eq_getElem?_getD,h]
theorem QJ {t j:Nat} (h:t<16):wI (4*(t:Int))=((4*t:Nat):Int)∧wI (((4*t:Nat):Int)+(j:Int))=wI (((4*t+j:Nat):Int)):=by
 refine ⟨by rw [Au dk];omega,by congr 1⟩
theorem VR {n:Nat} (h:n<64):wI ((n:Nat):Int)=n:=Au dk
theorem AfK {b:Nat→Nat} (hb:∀ i,b i<256) {t:Nat} (h:t<16):yX (fun i=>(b i:Int)) (t:Int)=(NB b t:Nat):=by
 unfold yX NB;have h0:=hb (4*t)
 have h1:=hb (4*t+1)
 have h2:=hb (4*t+2)
 have h3:=hb (4*t+3)
 rw [(QJ (j:=0) h).1,show (1:Int)=((1:Nat):Int) from rfl,show (2:Int)=((2:Nat):Int) from rfl,show (3:Int)=((3:Nat):Int) from rfl,(QJ (j:=1) h).2,(QJ (j:=2) h).2,(QJ (j:=3) h).2,VR dk,VR dk,VR dk]
 rw [Y1 _ dk,Y1 _ dk,Y1 _ dk,Y1 _ dk,Yy,Yy,Yy,Yy,show (24:Int)=((24:Nat):Int) from rfl,show (16:Int)=((16:Nat):Int) from rfl,show (8:Int)=((8:Nat):Int) from rfl,VL _ _ dl,VL _ _ dl,VL _ _ dl,Ey,Ey,Ey]
 congr 1
 omega
theorem AJW {x:Nat} (hx:x<4294967296) (a b c:Nat) (hc:c≤32):iR (x:Int) a b c=(Ou a b c x:Nat):=by
 unfold iR Ou;rw [jn,Yt _ _ hc,iI (M9 hx _) (M9 hx _) (pr (qn _ _) hx)]
theorem AJX {b:Nat→Nat} (hb:∀ i,b i<256) (n i:Nat):(GW b n).getD i 0<4294967296:=by
 rw [j_];cases e:(GW b n)[i]? with
 | none=>exact (by decide:(0:Nat)<4294967296)
 | some d=>exact AJK hb n d (ol e)
theorem AfL {b:Nat→Nat} (hb:∀ i,b i<256) {n:Nat} (h:n<48):yY (HA b n) ((n+16:Nat):Int)=(VP (GW b n) n:Nat):=by
 unfold yY VP;rw [show (2:Int)=((2:Nat):Int) from rfl,show (7:Int)=((7:Nat):Int) from rfl,show (15:Int)=((15:Nat):Int) from rfl,show (16:Int)=((16:Nat):Int) from rfl,HY dk dl,HY dk dl,HY dk dl,HY dk dl,ND b dk,ND b dk,ND b dk,ND b dk]
 rw [AJW (AJX hb _ _) _ _ _ dl,AJW (AJX hb _ _) _ _ _ dl,Ey,Ey,Ey,show n+16-2=n+14 by omega,show n+16-7=n+9 by omega,show n+16-15=n+1 by omega,show n+16-16=n by omega]
 congr 1
 omega
theorem AfM {b:Nat→Nat}:JM (fun i=>(NB b i:Int)) 64 16=HA b 0:=by
 unfold JM HA;rw [GW,ny];rfl
theorem AfN {b:Nat→Nat} (hb:∀ i,b i<256) (w0:World):gn dm 290 CE w0 (Hp w0 (.val true [.seq .u32 (Bp fun t=>(HX b t:Int))])) f290.ntmps [] (QI fun i=>(b i:Int)):=by
 refine TD (AfF _) (iM (k:=.u32) (xs:=List.replicate 64 0) dj) ?_
 refine IY ?_
 rw [AfG];have loop2:∀ r n,n+r=48→gn dm 290 CE w0 (Hp w0 (.val true [.seq .u32 (Bp fun t=>(HX b t:Int))])) f290.ntmps [] (QH (fun i=>(b i:Int)) (HA b n) (iA ((n+16:Nat):Int)) []):=by
  intro r;induction r with
  | zero =>
   intro n hn;obtain rfl:n=48:=dk
   rw [AJU];exact Af dt (IU Lt AB func290 (AfJ _ _ _) ⟨dl,trivial⟩ (AS dj) (fun _ _=>rfl) rfl)
  | succ r ih =>
   intro n hn;refine Af d_ (Ai Lt AB (AfI _ _ _) ?_ (AS dj) (fun _ _=>rfl) jb fun _=>?_)
   ·have hl:=yU b (show n≤48 by omega)
    rw [hl,show (2:Int)=((2:Nat):Int) from rfl,show (7:Int)=((7:Nat):Int) from rfl,show (15:Int)=((15:Nat):Int) from rfl,show (16:Int)=((16:Nat):Int) from rfl,HY dk dl,HY dk dl,HY dk dl,HY dk dl,ND b dk,ND b dk]
    exact ⟨jc dk,jg dk,HZ dk dk (HZ dk dk (AI 2 ⟨jc ⟨dl,dk⟩,AI 2 ⟨jc ⟨dl,dk⟩,HZ dk dk (HZ dk dk (HZ dk dk trivial))⟩⟩))⟩
   ·rw [AfL hb dk,show 0+((n+16:Nat):Int).toNat*1=n+16 by omega,AJT b dk,Au (z:=((n+16:Nat):Int)+1) dk]
    have:=ih (n+1) dk
    rw [show ((n+1+16:Nat):Int)=((n+16:Nat):Int)+1 by omega] at this
    exact this
 have loop1:∀ r i,i+r=16→gn dm 290 CE w0 (Hp w0 (.val true [.seq .u32 (Bp fun t=>(HX b t:Int))])) f290.ntmps [] (QH (fun i=>(b i:Int)) (JM (fun i=>(NB b i:Int)) 64 i) (iA (i:Int)) []):=by
  intro r;induction r with
  | zero =>
   intro i hi;obtain rfl:i=16:=dk
   rw [AfM];exact loop2 48 0 rfl
  | succ r ih =>
   intro i hi;refine Af dw (Ai Lt AB (AfH _ _ _) ?_ (AS dj) (fun _ _=>rfl) jb fun _=>?_)
   ·rw [AEa dk,(QJ (j:=0) (show i<16 by omega)).1,show (1:Int)=((1:Nat):Int) from rfl,show (2:Int)=((2:Nat):Int) from rfl,show (3:Int)=((3:Nat):Int) from rfl,(QJ (j:=1) (show i<16 by omega)).2,(QJ (j:=2) (show i<16 by omega)).2,(QJ (j:=3) (show i<16 by omega)).2,VR dk,VR dk,VR dk,show (Bp fun i=>(b i:Int)).length=64 from rfl]
    exact ⟨jc dk,jc dk,HZ dk dk ⟨rfl,HZ dk dk ⟨rfl,HZ dk dk ⟨rfl,HZ dk dk (HZ dk dk trivial)⟩⟩⟩⟩
   ·rw [AfK hb dk,show 0+((i:Nat):Int).toNat*1=i by omega,AEb (f:=fun i=>(NB b i:Int)) dk,Au (z:=(i:Int)+1) dk]
    exact ih (i+1) dk
 have:=loop1 16 0 rfl
 rw [AEc] at this;exact this
theorem AfO {b:Nat→Nat} (hb:∀ i,b i<256):AU dm 290 [.val true [.seq .u8 (Bp fun i=>(b i:Int))]] (.val true [.seq .u32 (Bp fun t=>(HX b t:Int))]) :=
 Ni (gv:=[]) func290 dj dj fun w0=>Ai Lt AB (AfE _) trivial (AS dj) (fun _ _=>rfl) jb fun _=>AfN hb w0
theorem VS {A:List Ch} {k:IntKind} {xs:dn} {β:Env} {u:Value} (h:A8 k A=some xs) (hr:AN β (.val true A) u):(∀ x∈xs,has k x)∧∀ β':Env,AN β' (.val true [.seq k xs]) u:=by
 obtain ⟨l,hl,rfl⟩:=hr;obtain ⟨rfl,q⟩:=DU h hl;exact ⟨q,fun β'=>⟨_,PB q,rfl⟩⟩
theorem AJY {x:Int} (h:has .u8 x):0≤x∧x<256:=by
 rw [Fy] at h;simp only [AL,jm,ji] at h;omega
def yZ:List AV→Option (dp×AV)
 | [.val true cs]=>match A8 .u8 cs with
  | some xs=>some ([(Nat.beq xs.length 64,true)],.val true [.seq .u32 (Bp fun t=>(HX (bN xs) t:Int))])
  | none=>none
 | _=>none
theorem AfP:∀ args c v,yZ args=some (c,v)→AO c→AU dm 290 args v:=by
 intro args c v hs hc us w ha;unfold yZ at hs;split at hs;case h_2=>cases hs
 rename_i cs;split at hs;case h_2=>cases hs
 rename_i xs hx;injection hs with hs;injection hs with hs1 hs2;subst hs1;subst hs2;obtain ⟨u1,iu,r1,ha,rfl⟩:=ha;obtain ⟨p1,q1⟩:=VS hx r1;have hb:=fun d hd=>AJY (p1 d hd)
 have h:=AfO (AJV xs)
 rw [← yW hb (Ar.1 hc.1)] at h;exact h _ w ⟨u1,_,q1 _,ha,rfl⟩
noncomputable def SSi:dr:=(290,FY yZ)::(292,kSp)::SSg
theorem AJZ:AW dm SSi:=⟨GS func290 dj dj AfP,Aeq,AfC⟩
noncomputable abbrev oSi:gr:=AH SSi KV
theorem NE:gp dm oSi:=AJ AJZ BS
def iS (x:Option (dp×List Nat×AV)):AV:=match x with | some (_,_,v)=>v | none=>.any
def cvO (x:Option (dp×List Nat×AV)):dp:=match x with | some (c,_,_)=>c | none=>[]
def kvO (x:Option (dp×List Nat×AV)):List Nat:=match x with | some (_,k,_)=>k | none=>[]
def ivO (x:Option (dp×List Nat×AV)):Bool:=match x with | some _=>true | none=>false
structure Rets (x:Option (dp×List Nat×AV)):Prop where
 isO:ivO x=true
 ky:kvO x=[]
 cd:TC (cvO x)=true
 nk:PK (iS x)=true
theorem AJa {P:Program} {O:gr} {f:FuncId} {fn:Func} {β0:Env} {w0:World} {n:Fz} (hO:gp P O) (hm:P.follows .mixedOrders=true) (ip:P.funcs[f]? = some fn) {ia k0:Nat} {x:gq}
  (h:Rets (FH P O fn ia k0 x)) (i_:Be n x.s) (h0:∀ b,k0≤b→β0 b=none) (hD:n.D=[]:=by rfl):gn P f β0 w0 (Hp w0 (iS (FH P O fn ia k0 x))) n [] x:=by
 obtain ⟨h1,h2,h3,h4⟩:=h;generalize e:FH P O fn ia k0 x=y at *
 cases y with
 | none=>cases h1
 | some v =>
  obtain ⟨c,k,v⟩:=v;have hk:k=[]:=h2
  subst hk;exact IU hO hm ip e (VQ h3) i_ h0 h4 hD
theorem AJb (f:Nat→Int) (β:Env) (l:List Value) (h:AQ β [.seq .u32 (l8 f)] l):AQ β (w8 f) l:=by
 obtain ⟨l1,l2,⟨rfl,hx⟩,h2,rfl⟩:=h;simp only [AQ] at h2;subst h2;have hm:∀ i,i<8→okV (.int .u32 (f i)):=fun i hi=>⟨rfl,hx _ (lv.2 ⟨i,lz.2 hi,rfl⟩)⟩
 exact ⟨[_],_,⟨rfl,hm 0 dl⟩,⟨[_],_,⟨rfl,hm 1 dl⟩,⟨[_],_,⟨rfl,hm 2 dl⟩,⟨[_],_,⟨rfl,hm 3 dl⟩,⟨[_],_,⟨rfl,hm 4 dl⟩,⟨[_],_,⟨rfl,hm 5 dl⟩,⟨[_],_,⟨rfl,hm 6 dl⟩,⟨[_],_,⟨rfl,hm 7 dl⟩,rfl,rfl⟩,rfl⟩,rfl⟩,rfl⟩,rfl⟩,rfl⟩,rfl⟩,rfl⟩
def scW (b:Nat→Int):Nat→Int:=fun t=>(HX (bN (Bp b)) t:Int)
def BY (f:Nat→Nat):Nat→Int:=fun i=>(f i:Int)
noncomputable def AJd (h b:Nat→Int):gq:=Aj f87 [.val true [.seq .u32 (l8 h)],.val true [.seq .u8 (Bp b)]] [] 0 []
noncomputable def QK (h b:Nat→Int):gq:=It (AY dm oSi (some 0) 100 0 yN (AJd h b))
noncomputable def AJe:List Ch:=match AG (QK (fun _=>0) fun _=>0).s.H 3 with | some b=>b.cs | none=>[]
theorem AfT (h b:Nat→Int):AY dm oSi (some 0) 100 0 yN (AJd h b)=some ([(true,true)],[],QK h b):=dj
theorem AfU (h b:Nat→Int):AG (QK h b).s.H 3=some ⟨160,AJe,false⟩:=dj
theorem AfV:A8 .u32 AJe=some kL:=dj
noncomputable def TE (h b:Nat→Int):gq:=⟨(QK h b).todo,⟨(QK h b).s.T,Iv 3 [.seq .u32 kL] (QK h b).s.H,(QK h b).s.fr,(QK h b).s.gv⟩⟩
theorem AfW (h b:Nat→Int):AG (TE h b).s.H 5=some ⟨109,[.seq .u32 (l8 h)],false⟩:=dj
theorem AfX (h b:Nat→Int):(⟨(TE h b).todo,⟨(TE h b).s.T.map Gy,Iv 5 (w8 h) (TE h b).s.H,(TE h b).s.fr,(TE h b).s.gv⟩⟩:gq)=VN (l8 h) kL (Bp (scW b)) h (iA 0) []:=dj
theorem AfY (h ws s:Nat→Int):Rets (FH dm oSi f87 400 0 (VN (l8 h) kL (Bp ws) s (iA 64) dt)):=⟨dj,dj,dj,dj⟩
theorem AfZ (h ws s:Nat→Int):iS (FH dm oSi f87 400 0 (VN (l8 h) kL (Bp ws) s (iA 64) dt))=.val true (w8 fun i=>AX false .u32 (s i+h i)):=dj
theorem AJf {t:Nat} (h:t<64):kL.getD (0+(t:Int).toNat*1) 0=(kN t:Nat):=by
 have:=yV (xs:=kL) (P:=fun d=>0≤d) dl dl t
 rw [show 0+(t:Int).toNat*1=t by omega]
 unfold kN;omega
theorem AJg (f:Nat→Int) {t:Nat} (h:t<64):(Bp f).getD (0+(t:Int).toNat*1) 0=f t:=Y1 f h
theorem Afa {h:Nat→Nat} (hh:∀ i,h i<4294967296) (W:Nat→Nat) (w0:World):∀ r t,t+r=64 →
  gn dm 87 CE w0 (Hp w0 (.val true (w8 fun i=>AX false .u32 (KW h kN W 64 i+h i)))) f87.ntmps [] (VN (l8 (BY h)) kL (Bp (BY W)) (BY (KW h kN W t)) (iA (t:Int)) []):=by
 intro r;induction r with
 | zero =>
  intro t ht;obtain rfl:t=64:=dk
  have:=AJa (P:=dm) (n:=f87.ntmps) (β0:=CE) (w0:=w0) NE AB func87 (AfY (BY h) (BY W) (BY (KW h kN W 64))) (AS dj) (fun _ _=>rfl)
  rw [AfZ] at this;exact Af dt this
 | succ r ih =>
  intro t ht;refine Af du (Ai Lt AB (Aed _ _ _ _ _) ?_ (AS dj) (fun _ _=>rfl) jb fun _=>?_)
  ·unfold shC;exact ⟨jc dk,AI 3 ⟨jc ⟨dk,dk⟩,jc (by show 0+(t:Int).toNat*1<64;omega),jc ⟨dk,dk⟩,jc (by show 0+(t:Int).toNat*1<64;omega),AI 5 trivial⟩⟩
  ·rw [AJf dk,AJg _ dk];have e:=Aef (yO hh kN W t) (kN t) (W t)
   unfold BY;rw [e,Au (z:=(t:Int)+1) dk];exact ih (t+1) dk
theorem Afb {h:Nat→Nat} (hh:∀ i,h i<4294967296) (b:Nat→Int):AU dm 87 [.val true [.seq .u32 (l8 (BY h))],.val true [.seq .u8 (Bp b)]] (.val true (w8 fun i=>AX false .u32 (KW h kN (HX (bN (Bp b))) 64 i+h i))) :=
 Ni (gv:=[]) func87 dj dj fun w0=>Ai NE AB (AfT (BY h) b) ⟨rfl,trivial⟩ (AS dj) (fun _ _=>rfl) jb fun _ =>
  TD (AfU _ _) (iM AfV) (show gn _ _ _ _ _ _ _ (TE (BY h) b) from TD (AfW _ _) (AJb _) (IY (by
   rw [AfX];exact Afa hh _ w0 64 0 rfl)))
noncomputable def AJh (h b:Nat→Int):gq:=Aj f279 [.val true [.seq .u32 (l8 h)],.val true [.seq .u8 (Bp b)]] [] 0 []
abbrev y8:Option (List Nat×List Nat×Nat):=some ([2,4,5,6,7],[0,2,3,4],5)
noncomputable def QM (h b:Nat→Int):gq:=It (AY dm oSi (some 0) 100 0 y8 (AJh h b))
noncomputable def Afc:List Item:=(QM (fun _=>0) fun _=>0).todo
noncomputable def VT (h ws s:Nat→Int) (t:AV) (p:List Bool):gq:=⟨Afc,⟨EC f279.ntmps [(2,.val false [.p 0 0]),(4,.val false [.p 2 0]),(5,.val false [.p 3 0]),(6,.val false [.p 4 0]),(7,t)],
 [(0,some ⟨109,[.seq .u32 (l8 h)],false⟩),(2,some ⟨109,List.replicate 8 (.n .u32 0),false⟩),(3,some ⟨160,[.seq .u32 (Bp ws)],false⟩),(4,some ⟨109,w8 s,false⟩)],5,p⟩⟩
theorem Afd (h b:Nat→Int):AY dm oSi (some 0) 100 0 y8 (AJh h b)=some ([(true,true)],[],QM h b):=dj
theorem Afe (h b:Nat→Int):AG (QM h b).s.H 4=some ⟨109,[.seq .u32 (l8 h)],false⟩:=dj
theorem Aff (h b:Nat→Int):(⟨(QM h b).todo,⟨(QM h b).s.T.map Gy,Iv 4 (w8 h) (QM h b).s.H,(QM h b).s.fr,(QM h b).s.gv⟩⟩:gq)=VT h (scW b) h (iA 0) []:=dj
def iT (a b c:Nat) (x:Int):Int:=bits .xor .u32 (bits .xor .u32 (rr x.toNat a:Nat) (rr x.toNat b:Nat)) (rr x.toNat c:Nat)
def VU (s:Nat→Int) (k w:Int):Int:=AX false .u32 (AX false .u32 (AX false .u32 (AX false .u32 (s 7+iT 6 11 25 (s 4))+bits .xor .u32 (bits .and .u32 (s 4) (s 5)) (bits .and .u32 (bits .xor .u32 4294967295 (s 4)) (s 6)))+k)+w)
def iU (s:Nat→Int):Int:=AX false .u32 (iT 2 13 22 (s 0)+bits .xor .u32 (bits .xor .u32 (bits .and .u32 (s 0) (s 1)) (bits .and .u32 (s 0) (s 2))) (bits .and .u32 (s 1) (s 2)))
def y9 (s:Nat→Int) (k w:Int):Nat→Int
 | 0=>AX false .u32 (VU s k w+iU s)
 | 1=>s 0
 | 2=>s 1
 | 3=>s 2
 | 4=>AX false .u32 (s 3+VU s k w)
 | 5=>s 4
 | 6=>s 5
 | _=>s 6
theorem Afg (h ws s:Nat→Int) (t:Int):AY dm oSi (some 0) 100 0 y8 (VT h ws s (iA t) du) =
 some ((decide (t<64),true)::tt 3 ((decide (0≤t∧t<64),true)::G' t (Bp ws).length (tt 3 [])),[],VT h ws (y9 s (kL.getD (0+t.toNat*1) 0) ((Bp ws).getD (0+t.toNat*1) 0)) (iA (wI (t+1))) []):=dj
theorem Afh (h ws s:Nat→Int):Rets (FH dm oSi f279 400 0 (VT h ws s (iA 64) dt)):=⟨dj,dj,dj,dj⟩
theorem Afi (h ws s:Nat→Int):iS (FH dm oSi f279 400 0 (VT h ws s (iA 64) dt))=.val true (w8 fun i=>AX false .u32 (h i+s i)):=dj
theorem AJi {x:Nat} (hx:x<4294967296) (a b c:Nat):iT a b c (x:Int)=(Ot a b c x:Nat):=by
 unfold iT Ot;rw [jn,iI (M9 hx _) (M9 hx _) (M9 hx _)]
theorem Afj {s:Nat→Nat} (hs:∀ i,s i<4294967296) (k w:Nat):VU (BY s) k w=(VO s k w:Nat):=by
 unfold VU VO BY;have h5:(s 4 &&& s 5)<4294967296:=qb (n:=32) _ (hs 5)
 have h6:((4294967295 ^^^ s 4) &&& s 6)<4294967296:=qb (n:=32) _ (hs 6)
 have h7:(4294967295 ^^^ s 4)<4294967296:=sj (n:=32) dl (hs 4)
 rw [show (4294967295:Int)=((4294967295:Nat):Int) from rfl,AJi (hs 4),(FS _ _ dl (hs 4)).2.2,(FS _ _ (hs 4) (hs 5)).1,(FS _ _ h7 (hs 6)).1,(FS _ _ h5 h6).2.2,Aeh (hs 6),Ey,Ey,Ey,Ey]
 congr 1
 omega
theorem Afk {s:Nat→Nat} (hs:∀ i,s i<4294967296):iU (BY s)=(Yx s:Nat):=by
 unfold iU Yx BY;have a1:(s 0 &&& s 1)<4294967296:=qb (n:=32) _ (hs 1)
 have a2:(s 0 &&& s 2)<4294967296:=qb (n:=32) _ (hs 2)
 have a3:(s 1 &&& s 2)<4294967296:=qb (n:=32) _ (hs 2)
 rw [AJi (hs 0),(FS _ _ (hs 0) (hs 1)).1,(FS _ _ (hs 0) (hs 2)).1,(FS _ _ (hs 1) (hs 2)).1,(FS _ _ a1 a2).2.2,(FS _ _ (sj (n:=32) a1 a2) a3).2.2,Aei,Ey]
theorem Afl {s:Nat→Nat} (hs:∀ i,s i<4294967296) (k w:Nat):y9 (BY s) k w=BY (TA s k w):=by
 funext i
 have e1:=Afj hs k w;have e2:=Afk hs;show y9 (BY s) k w i=((TA s k w i:Nat):Int);match i with
 | 0 =>
  show AX false .u32 (VU (BY s) k w+iU (BY s))=_;rw [e1,e2,Ey];rfl
 | 1=>rfl
 | 2=>rfl
 | 3=>rfl
 | 4 =>
  show AX false .u32 (BY s 3+VU (BY s) k w)=_;rw [e1];exact Ey _ _
 | 5=>rfl
 | 6=>rfl
 | _+7=>rfl
theorem Afm {h:Nat→Nat} (hh:∀ i,h i<4294967296) (W:Nat→Nat) (w0:World):∀ r t,t+r=64 →
  gn dm 279 CE w0 (Hp w0 (.val true (w8 fun i=>AX false .u32 (h i+KW h kN W 64 i)))) f279.ntmps [] (VT (BY h) (BY W) (BY (KW h kN W t)) (iA (t:Int)) []):=by
 intro r;induction r with
 | zero =>
  intro t ht;obtain rfl:t=64:=dk
  have:=AJa (P:=dm) (n:=f279.ntmps) (β0:=CE) (w0:=w0) NE AB func279 (Afh (BY h) (BY W) (BY (KW h kN W 64))) (AS dj) (fun _ _=>rfl)
  rw [Afi] at this;exact Af dt this
 | succ r ih =>
  intro t ht;refine Af du (Ai NE AB (Afg _ _ _ _) ?_ (AS dj) (fun _ _=>rfl) jb fun _=>?_)
  ·exact ⟨jc dk,AI 3 ⟨jc ⟨dk,dk⟩,HZ dk (by show t<64;omega) (AI 3 trivial)⟩⟩
  ·rw [AJf dk,AJg _ dk,Au (z:=(t:Int)+1) dk];have e:=Afl (yO hh kN W t) (kN t) (W t)
   rw [show BY W t=((W t:Nat):Int) from rfl,e]
   exact ih (t+1) dk
theorem Afn {h:Nat→Nat} (hh:∀ i,h i<4294967296) (b:Nat→Int):AU dm 279 [.val true [.seq .u32 (l8 (BY h))],.val true [.seq .u8 (Bp b)]] (.val true (w8 fun i=>AX false .u32 (h i+KW h kN (HX (bN (Bp b))) 64 i))) :=
 Ni (gv:=[]) func279 dj dj fun w0=>Ai NE AB (Afd (BY h) b) ⟨rfl,trivial⟩ (AS dj) (fun _ _=>rfl) jb fun _ =>
  TD (Afe _ _) (AJb _) (IY (by
   rw [Aff];exact Afm hh _ w0 64 0 rfl))
def wN (xs:dn) (i:Nat):Nat:=(xs.getD i 0).toNat % 4294967296
theorem Afo (xs:dn) (i:Nat):wN xs i<4294967296:=jw _ dl
theorem Afp {xs:dn} (h:∀ d∈xs,0≤d∧d<4294967296) (hl:xs.length=8):xs=l8 (BY (wN xs)):=by
 conv=>lhs;rw [iN hl]
 refine nb fun i _=>?_
 have:=yV (P:=fun d=>0≤d∧d<4294967296) h ⟨dl,dl⟩ i
 unfold BY wN;omega
def iV:List AV→Option (dp×AV)
 | [.val true hs,.val true bs]=>match A8 .u32 hs,A8 .u8 bs with
  | some xs,some ys=>some ([(Nat.beq xs.length 8,true),(Nat.beq ys.length 64,true)],.val true [.seq .u32 (l8 (BY (TB (wN xs) (bN ys))))])
  | _,_=>none
 | _=>none
theorem Afq (f:Nat→Int):A8 .u32 (w8 f)=some (l8 f):=dj
theorem AJj {F:FuncId} (h:∀ (h:Nat→Nat) (b:Nat→Int),(∀ i,h i<4294967296)→AU dm F [.val true [.seq .u32 (l8 (BY h))],.val true [.seq .u8 (Bp b)]] (.val true (w8 (BY (TB h (bN (Bp b))))))):∀ args c v,iV args=some (c,v)→AO c→AU dm F args v:=by
 intro args c v hs hc us w ha;unfold iV at hs;split at hs;case h_2=>cases hs
 rename_i hs' bs';split at hs;case h_2=>cases hs
 rename_i xs ys hx hy;injection hs with hs;injection hs with hs1 hs2;subst hs1;subst hs2;obtain ⟨u1,iu,r1,⟨u2,iw,r2,ha,rfl⟩,rfl⟩:=ha;obtain ⟨p1,q1⟩:=VS hx r1;obtain ⟨p2,q2⟩:=VS hy r2;have e1:=Afp (fun d hd=>iG (p1 d hd)) (Ar.1 hc.1)
 have e2:=yW (fun d hd=>AJY (p2 d hd)) (Ar.1 hc.2.1)
 have q:=h (wN xs) (fun i=>(bN ys i:Int)) (Afo xs)
 rw [← e2,← e1] at q;refine C3 q (fun u hu=>(VS (Afq _) hu).2 _) _ w ⟨u1,_,q1 _,⟨u2,_,q2 _,ha,rfl⟩,rfl⟩
noncomputable def SSj:dr:=(87,FY iV)::(279,FY iV)::SSi
theorem AJk (f g:Nat→Nat):(fun i=>AX false .u32 ((f i:Int)+(g i:Int)))=BY fun i=>(f i+g i) % 4294967296:=by
 funext i
 rw [Ey];rfl
theorem Afr:AW dm SSj:=⟨GS func87 dj dj (AJj fun h b hh=>by
  have:=Afb hh b
  rw [AJk] at this;exact this),GS func279 dj dj (AJj fun h b hh=>by
  have:=Afn hh b
  rw [AJk,show (fun i=>(h i+KW h kN (HX (bN (Bp b))) 64 i) % 4294967296)=TB h (bN (Bp b)) from funext fun i=>by unfold TB;rw [Nat.add_comm]] at this
  exact this),AJZ⟩
def VV (k:Nat):Heap→Heap
 | []=>[]
 | (j,b)::r=>match Nat.beq j k with
  | true=>(j,match b with | some ⟨ty,cs,_⟩=>some ⟨ty,cs,true⟩ | none=>none)::r
  | false=>(j,b)::VV k r
theorem zA {k:Nat} {cs:List Ch} {ty:TypeId} {o:Bool}:∀ {H:Heap},AG H k=some ⟨ty,cs,o⟩→∀ b x,AG (VV k H) b=some x→AG H b=some x∨(b=k∧x=⟨ty,cs,true⟩)
 | [],h,_,_,_=>by cases h
 | (j,z)::r,h,b,x,hx=>by
  simp only [AG] at h ⊢;unfold VV at hx;cases e:Nat.beq j k with
  | true =>
   rw [e] at h hx;have hz:z=some ⟨ty,cs,o⟩:=h
   subst hz;simp only [AG] at hx;cases e':Nat.beq j b with
   | true =>
    rw [e'] at hx;injection hx with hx;exact .inr ⟨(Ar.1 e').symm.trans (Ar.1 e),hx.symm⟩
   | false=>rw [e'] at hx;exact .inl hx
  | false =>
   rw [e] at h hx;simp only [AG] at hx;cases e':Nat.beq j b with
   | true=>rw [e'] at hx;exact .inl hx
   | false=>rw [e'] at hx;exact zA (H:=r) h b x hx
theorem Afs {β:Env} {ty:TypeId} {cs:List Ch} {o:Bool} {k:Nat} {w:World} (hty:ty≠Bu) (hr:DS β ⟨ty,cs,o⟩ k w):DS β ⟨ty,cs,true⟩ k w:=by
 rcases hr with ⟨B,n,l,t,pre,ty',fz,q1,q2,q3,q4,q5⟩ | ⟨X,q1,q2,q3⟩ | ⟨B,l,es,q,q1,q2,q3,q4⟩
 ·exact .inl ⟨B,n,l,t,pre,ty',fz,q1,q2,q3,q4,fun h=>by
   obtain ⟨a1,a2,a3,a4,a5⟩:=q5 h;exact ⟨a1,a2,a3,(fun h=>by cases h),a5⟩⟩
 ·exact .inr (.inl ⟨X,q1,by cases X with | at_=>exact q2 | nil=>exact Or.inl rfl | emp=>exact absurd q2.2 hty,q3⟩)
 ·exact .inr (.inr ⟨B,l,es,q,q1,q2,q3,q4⟩)
theorem Aft {P:Program} {f:FuncId} {β0:Env} {w0:World} {R:Ending→World→Prop} {n:Fz} {W:List Nat} {x:gq} {k:Nat} {ty:TypeId} {cs:List Ch} {o:Bool} (hty:ty≠Bu) (hk:AG x.s.H k=some ⟨ty,cs,o⟩)
  (hs:gn P f β0 w0 R n W ⟨x.todo,⟨x.s.T,VV k x.s.H,x.s.fr,x.s.gv⟩⟩):gn P f β0 w0 R n W x:=by
 intro β a w hi hf;refine hs β a w { hi with good:=?_ } hf
 have g:=hi.good;have hh:∀ b y,AG (VV k x.s.H) b=some y→∃ z,AG x.s.H b=some z∧z.ty=y.ty:=fun b y hb=>by
  rcases zA hk b y hb with e | ⟨rfl,rfl⟩
  ·exact ⟨y,e,rfl⟩
  ·exact ⟨_,hk,rfl⟩
 refine ⟨fun b blk hb=>?_,fun b b' B n n' h1 h2 h3 h4=>?_,g.lt⟩
 ·rcases zA hk b blk hb with e | ⟨rfl,rfl⟩
  ·exact g.heap b blk e
  ·exact Afs hty (g.heap b _ hk)
 ·obtain ⟨y,hy,hr⟩:=GZ h1;obtain ⟨z,hz,e⟩:=hh b y hy;obtain ⟨y',hy'⟩:=lj.1 h2;obtain ⟨z',hz',_⟩:=hh b' y' hy';exact g.inj b b' B n n' (GJ hz (by rw [e];exact hr)) (by rw [hz'];rfl) h3 h4
def VW (n:Nat):Int:=wI (wI (Int.tdiv (wI (wI ((n:Int)+9)+63)) 64)*64)
def Ox (n:Nat):Nat:=(VW n).toNat
def Y2 (n:Nat):dn:=List.replicate (Ox n) 0
def Y3 (gu n:Nat) (xs:dn):dn:=(Y2 n).take 0++((xs.drop gu).take (Nat.min n (Ox n))++(Y2 n).drop (0+Nat.min n (Ox n)*1))
def zB (gu n:Nat) (xs:dn):dn:=(Y3 gu n xs).set (0+(n:Int).toNat*1) 128
noncomputable def pdT:List Item:=CB (AY dm oSi (some 0) 100 1 none (Aj f85 [AR 0 0 0 0] (A5 []) 1 []))
noncomputable def Y4 (N:Int) (L:Nat) (ys:dn) (i k:AV) (p:List Bool):gq:=⟨pdT,⟨EC f85.ntmps [(3,iA N),(4,AR 1 0 L L),(5,i),(6,k)],[(1,some ⟨5,[.seq .u8 ys],false⟩)],2,p⟩⟩
def VX (k:Int):AV:=.val false [.v (.int .u64 k)]
abbrev pdK:Option (List Nat×List Nat×Nat):=some ([3,4,5,6],[1],2)
theorem Afv (gu n m:Nat) (xs:dn):AY dm oSi (some 0) 400 1 pdK (Aj f85 [AR 0 gu n m] (A5 xs) 1 []) =
 some ((AL .i64 n,true)::(true,true)::(Pk (VW n) 1,true)::(Nat.ble (gu+Nat.min n (Ox n)) xs.length,true)::(Nat.ble (0+Nat.min n (Ox n)*1) (Y2 n).length,true)::(AL .i64 n,true)::(decide ((0:Int)≤n∧(n:Int)<Ox n),true)::(decide (0+(n:Int).toNat*1<(Y3 gu n xs).length),true)::(AL .i64 n,true)::[],[],
  Y4 (VW n) (Ox n) (zB gu n xs) (.val false [.n .i64 0]) (VX (AX false .u64 (8*AX false .u64 n))) []):=dj
def VY (N i:Int):Int:=wI (wI (N-1)-i)
theorem Afw (N:Int) (L:Nat) (ys:dn) (i k:Int):AY dm oSi (some 0) 400 1 pdK (Y4 N L ys (iA i) (VX k) du) =
 some ((decide (i<8),true)::(decide (0≤VY N i∧VY N i<L),true)::(decide (0+(VY N i).toNat*1<ys.length),true)::(decide ((0:Int)≤8∧0≤k),true)::[],[],Y4 N L (ys.set (0+(VY N i).toNat*1) (AX false .u8 k)) (iA (wI (i+1))) (VX (Int.fdiv k (2^min (8:Int).toNat IntKind.u64.bits))) []):=dj
theorem Afx (N:Int) (L:Nat) (ys:dn) (i k:Int):AT dm oSi f85 400 1 [1] (Y4 N L ys (iA i) (VX k) dt)=some ([(decide (i<8),false)],[],AR 1 0 L L,[(1,some ⟨5,[.seq .u8 ys],false⟩)]):=dj
theorem AJm {n:Nat} (h:n≤35184372088832):VW n=(Ax n:Nat)∧Ox n=Ax n:=by
 have e1:wI (wI ((n:Int)+9)+63)=((n+72:Nat):Int):=by rw [Au (z:=(n:Int)+9) dk,Au dk];omega
 have e2:Int.tdiv ((n+72:Nat):Int) 64=(((n+72) / 64:Nat):Int):=by rw [pv dk];rfl
 have e3:VW n=(Ax n:Nat):=by
  unfold VW Ax;rw [e1,e2,Au (z:=(((n+72) / 64:Nat):Int)) dk,Au dk];rfl
 exact ⟨e3,by unfold Ox;rw [e3];rfl⟩
def Lx (xs:dn) (i:Nat):dn:=xs++128::(List.replicate (Ax xs.length-xs.length-9) 0++(List.replicate (8-i) 0++(Co (8*xs.length) 8).drop (8-i)))
theorem Afy (xs:dn):Lx xs 0=xs++128::List.replicate (Ax xs.length-xs.length-1) 0:=by
 unfold Lx;have:=Ov xs.length
 rw [qr (by rw [J5];exact jj _),ku,List.replicate_append_replicate]
 congr 3
 omega
theorem Afz (xs:dn):Lx xs 8=DP xs:=by
 unfold Lx DP;rw [oh,List.replicate_zero,pn,nm]
theorem Af0 (xs:dn) {i:Nat} (h:i≤8):(Lx xs i).length=Ax xs.length:=by
 have:=Ov xs.length
 unfold Lx;simp only [kc,kp,od,kv,J5];omega
theorem Af1 (xs:dn) {i:Nat} (h:i<8):(Lx xs i).set (Ax xs.length-1-i) (F8 (8*xs.length) i)=Lx xs (i+1):=by
 have hp:=Ov xs.length;unfold Lx;rw [sh _ _ dk,show Ax xs.length-1-i-xs.length=(Ax xs.length-xs.length-9+(7-i))+1 by omega,List.set_cons_succ,sh _ _ (by simp),od,te,show 8-i=(7-i)+1 by omega,List.replicate_succ',nq,sh _ _ (by simp),od,oh,show 8-(i+1)=7-i by omega]
 have e:(Co (8*xs.length) 8).drop (7-i)=F8 (8*xs.length) i::(Co (8*xs.length) 8).drop (7-i+1):=by
  rw [List.drop_eq_getElem_cons (by rw [J5];omega)]
  congr 1
  simp only [Co,List.getElem_map,List.getElem_range];congr 1;omega
 rw [e];rfl
theorem Af2 {gu n:Nat} {xs:dn} (hl:gu+n≤xs.length) (hn:n≤35184372088832):Y3 gu n xs=AA xs gu n++List.replicate (Ax n-n) 0∧zB gu n xs=Lx (AA xs gu n) 0:=by
 have hp:=Ov n;have hw:(AA xs gu n).length=n:=by unfold AA;rw [ke,kv];omega
 have e:Y3 gu n xs=AA xs gu n++List.replicate (Ax n-n) 0:=by
  unfold Y3 Y2;rw [(AJm hn).2,show Nat.min n (Ax n)=n from mc dk,List.take_zero,nm,ka,kb,List.drop_replicate]
  rfl
 refine ⟨e,?_⟩
 unfold zB;rw [e,Afy,hw,show 0+(n:Int).toNat*1=n by omega,sh _ _ dk,hw,oh,show Ax n-n=(Ax n-n-1)+1 by omega,ru,List.set_cons_zero]
 rfl
theorem Af3 {gu n m:Nat} {xs:dn} (hl:gu+n≤xs.length) (hn:n≤35184372088832):Ab dm 85 [AR 0 gu n m] (A5 xs) 1 [] (AR 1 0 (Ax n) (Ax n)) [(1,some ⟨5,[.seq .u8 (DP (AA xs gu n))],false⟩)]:=by
 have hp:=Ov n;have hw:(AA xs gu n).length=n:=by unfold AA;rw [ke,kv];omega
 have hN:Ax n≤n+72:=by unfold Ax;omega
 obtain ⟨e1,e2⟩:=AJm hn;obtain ⟨e3,e4⟩:=Af2 (gu:=gu) (n:=n) hl hn
 refine A7 (gv:=[]) func85 dj dj fun β0 w0 h0=>?_
 refine Ai NE AB (Afv gu n m xs) ?_ (AS dj) h0 jb fun _=>?_
 ·have hh:AL .i64 n=true:=by simp only [AL,jm,ji];omega
  refine ⟨hh,rfl,?_,jh ?_,jh ?_,hh,jc ⟨dk,dk⟩,jc ?_,hh,trivial⟩
  ·rw [e1];unfold Pk;exact jc ⟨dk,dk,dk,dk⟩
  ·rw [e2,show Nat.min n (Ax n)=n from mc dk];exact hl
  ·unfold Y2;rw [e2,show Nat.min n (Ax n)=n from mc dk,od];omega
  ·rw [e3,kc,hw,od];omega
 ·rw [e4,e1,e2,show AX false .u64 (8*AX false .u64 (n:Int))=((8*n:Nat):Int) by rw [DT,DT,IntKind.wrap_u64,IntKind.wrap_u64];omega]
  have loop:∀ r i,i+r=8→gn dm 85 β0 w0 (A_ β0 w0 [] (AR 1 0 (Ax n) (Ax n)) [(1,some ⟨5,[.seq .u8 (DP (AA xs gu n))],false⟩)]) f85.ntmps [] (Y4 (Ax n:Nat) (Ax n) (Lx (AA xs gu n) i) (iA (i:Int)) (VX ((8*n / 256^i:Nat):Int)) []):=by
   intro r;induction r with
   | zero =>
    intro i hi;obtain rfl:i=8:=dk
    rw [Afz];exact Af dt (Ay NE AB func85 (Afx ..) ⟨dl,trivial⟩ (AS dj) h0 jb)
   | succ r ih =>
    intro i hi;have ej:VY (Ax n:Nat) i=((Ax n-1-i:Nat):Int):=by unfold VY;rw [Au (z:=((Ax n:Nat):Int)-1) dk,Au dk];omega
    refine Af du (Ai NE AB (Afw ..) ?_ (AS dj) h0 jb fun _=>?_)
    ·rw [ej,Af0 _ dk,hw];exact ⟨jc dk,jc ⟨dk,dk⟩,jc dk,jc ⟨dl,Int.natCast_nonneg _⟩,trivial⟩
    ·have ek:Int.fdiv ((8*n / 256^i:Nat):Int) (2^min (8:Int).toNat IntKind.u64.bits)=((8*n / 256^(i+1):Nat):Int):=by
      rw [show min (8:Int).toNat IntKind.u64.bits=8 from rfl,qm _ dl,kt,← kw]
      rfl
     have ev:AX false .u8 ((8*n / 256^i:Nat):Int)=F8 (8*n) i:=by rw [DT,IntKind.wrap_u8];unfold F8;omega
     have es:=Af1 (AA xs gu n) (show i<8 by omega)
     rw [hw] at es;rw [ej,ek,ev,show 0+((Ax n-1-i:Nat):Int).toNat*1=Ax n-1-i by omega,es,Au (z:=(i:Int)+1) dk]
     exact ih (i+1) dk
  have:=loop 8 0 rfl
  rw [kf,ko] at this;exact IY this
def pdSp:ASpec:=fun args H fr gv=>match args with
 | [S]=>match DZ S with
  | some (k,gu,n)=>match AG H k with
   | some ⟨_,cs,_⟩=>match A8 .u8 cs with
    | some xs=>some (BR [k] 1 fr 1 [] (AR 1 0 (Ax n) (Ax n)) [(1,some ⟨5,[.seq .u8 (DP (AA xs gu n))],false⟩)] [(Nat.ble (gu+n) xs.length,true),(Nat.ble n 35184372088832,true)] gv)
    | none=>none
   | none=>none
  | none=>none
 | _=>none
theorem Af4:BJ dm 85 pdSp:=by
 refine Da func85 dj dj fun args H fr gv r hs=>?_
 unfold pdSp at hs;split at hs;case h_2=>cases hs
 rename_i S;split at hs;case h_2=>cases hs
 rename_i k gu n hS;split at hs;case h_2=>cases hs
 rename_i ty cs o hk;split at hs;case h_2=>cases hs
 rename_i xs iy;injection hs with hs;refine ⟨[k],1,1,[],_,_,_,gv,hs.symm,fun β us w ha hg hc=>?_⟩
 obtain ⟨u1,iu,r1,ha,rfl⟩:=ha;obtain ⟨m,r1⟩:=FE hS r1;obtain ⟨g1,g2,g3⟩:=Eu hg hk iy;exact ⟨[AR 0 gu n m],A5 xs,Af3 (jf hc.1) (jf hc.2.1),dj,⟨u1,_,Cp dk rfl r1,ha,rfl⟩,g2,g3⟩
noncomputable def SSk:dr:=(85,pdSp)::SSj
theorem Af5:AW dm SSk:=⟨Af4,Afr⟩
def iW:AV:=.val true [.n .u32 1779033703,.n .u32 3144134277,.n .u32 1013904242,.n .u32 2773480762,.n .u32 1359893119,.n .u32 2600822924,.n .u32 528734635,.n .u32 1541459225]
theorem Af6:AM dm oSi f86 [] [] 100=some ([],iW):=dj
theorem Af7:AM dm oSi f278 [] [] 100=some ([],iW):=dj
noncomputable def bgV:AV:=.val true [.seq .u32 (l8 (BY Y0))]
theorem Af8 {β β':Env} {u:Value} (h:AN β iW u):AN β' bgV u:=(VS (k:=.u32) (xs:=l8 (BY Y0)) dj h).2 _
noncomputable def iX:List AV→Option AV
 | []=>some bgV
 | _=>none
theorem AJo {F:FuncId} (h:AU dm F [] iW):∀ args v,iX args=some v→AU dm F args v:=by
 intro args v hs;unfold iX at hs;split at hs;case h_2=>cases hs
 injection hs with hs;subst hs;exact C3 h fun u hu=>Af8 hu
noncomputable def SSl:dr:=(86,Ac iX)::(278,Ac iX)::SSk
theorem AJp:AW dm SSl:=⟨Ad func86 dj dj (AJo (AP NE AB func86 Af6 trivial rfl)),Ad func278 dj dj (AJo (AP NE AB func278 Af7 trivial rfl)),Af5⟩
noncomputable abbrev oSl:gr:=AH SSl KV
theorem Oy:gp dm oSl:=AJ AJp BS
def NF (p:dn):Nat→Nat→Nat
 | 0=>Y0
 | k+1=>TB (wN (l8 (BY (NF p k)))) (bN ((p.drop (64*k)).take 64))
def iY (xs:dn) (i:Nat):Nat:=NF (DP xs) (Ax xs.length / 64) (i / 4) / 2^(24-8*(i % 4)) % 256
theorem Af9 (xs:dn) (i:Nat):iY xs i<256:=jw _ dl
def IC (xs:dn):dn:=(List.range 32).map fun i=>(iY xs i:Int)
theorem Y5 (xs:dn):(IC xs).length=32:=rfl
theorem Af_ (xs:dn):∀ d∈IC xs,0≤d∧d<256:=by
 intro d hd;obtain ⟨i,_,rfl⟩:=lv.1 hd;have:=Af9 xs i
 omega
def NG (x:Option (dp×List Nat×AV×Heap)):AV:=match x with | some (_,_,v,_)=>v | none=>.any
def VZ (x:Option (dp×List Nat×AV×Heap)):Heap:=match x with | some (_,_,_,h)=>h | none=>[]
def o4B (x:Option (dp×List Nat×AV×Heap)):Bool:=match x with | some (c,[],_,_)=>TC c | _=>false
structure Outr (x:Option (dp×List Nat×AV×Heap)):Prop where
 ok:o4B x=true
theorem AgA {P:Program} {O:gr} {f:FuncId} {fn:Func} {β0:Env} {w0:World} {n:Fz} {W:List Nat} (hO:gp P O) (hm:P.follows .mixedOrders=true) (ip:P.funcs[f]? = some fn) {ia k0:Nat} {ks:List Nat} {x:gq}
  (h:Outr (AT P O fn ia k0 ks x)) (i_:Be n x.s) (h0:∀ b,k0≤b→β0 b=none) (hD:n.D=[]:=by rfl):gn P f β0 w0 (A_ β0 w0 W (NG (AT P O fn ia k0 ks x)) (VZ (AT P O fn ia k0 ks x))) n W x:=by
 obtain ⟨h1⟩:=h;generalize e:AT P O fn ia k0 ks x=y at *
 cases y with
 | none=>cases h1
 | some v =>
  obtain ⟨c,k,v,H⟩:=v;cases k with
  | nil=>exact Ay hO hm ip e (VQ h1) i_ h0 jb hD
  | cons=>cases h1
theorem AJq {β0:Env} {w0:World} {W:List Nat} {v v':AV} {H:Heap} (h:∀ β u,AN β v u→AN β v' u) {e:Ending} {w:World} (ho:A_ β0 w0 W v H e w):A_ β0 w0 W v' H e w:=by
 obtain ⟨u,β,q,o⟩:=ho;exact ⟨u,β,q,{ o with val:=h _ _ o.val }⟩
noncomputable def smE (gu n m:Nat) (xs:dn):gq:=Aj f35 [AR 0 gu n m] (A5 xs) 1 []
abbrev iZ:Option (List Nat×List Nat×Nat):=some ([2,3,4],[1,2,3],4)
noncomputable def QO (gu n m:Nat) (xs:dn):gq:=It (AY dm oSl (some 0) 100 1 iZ (smE gu n m xs))
noncomputable def smT:List Item:=(QO 0 0 0 []).todo
noncomputable def QP (gu L:Nat) (P:dn) (s:Nat→Int) (p:List Bool):gq:=⟨smT,⟨EC f35.ntmps [(2,.val false [.p 1 0]),(3,AR 2 gu L L),(4,.val false [.p 3 0])],[(1,some ⟨54,List.replicate 32 (.n .u8 0),false⟩),(2,some ⟨5,[.seq .u8 P],true⟩),(3,some ⟨109,[.seq .u32 (l8 s)],false⟩)],4,p⟩⟩
theorem AgC (gu n m:Nat) (xs:dn):AY dm oSl (some 0) 100 1 iZ (smE gu n m xs)=some ((Nat.ble (gu+n) xs.length,true)::(Nat.ble n 35184372088832,true)::[],[],QO gu n m xs):=dj
theorem AgD (gu n m:Nat) (xs:dn):AG (QO gu n m xs).s.H 2=some ⟨5,[.seq .u8 (DP (AA xs gu n))],false⟩:=dj
theorem AgE (gu n m:Nat) (xs:dn):(⟨(QO gu n m xs).todo,⟨(QO gu n m xs).s.T,VV 2 (QO gu n m xs).s.H,(QO gu n m xs).s.fr,(QO gu n m xs).s.gv⟩⟩:gq)=QP 0 (Ax n) (DP (AA xs gu n)) (BY Y0) []:=dj
def zC (gu L:Nat) (P:dn) (b:Bool):dp:=(AL .i64 L,true)::(decide ((0:Int)<L),true)::(decide ((0:Int)≤64∧(64:Int)≤L),true)::(true,true)::(true,true)::(Nat.ble (gu+64) P.length,true)::(true,true)::(Nat.beq ((P.drop gu).take 64).length 64,true)::(decide ((0:Int)≤64∧(64:Int)≤L),true)::(Nat.beq L (64:Int).toNat,b)::[]
def zD (s:Nat→Int) (P:dn) (gu:Nat):Nat→Int:=BY (TB (wN (l8 s)) (bN ((P.drop gu).take 64)))
theorem AgF (gu L:Nat) (P:dn) (s:Nat→Int):AY dm oSl (some 0) 100 1 iZ (QP gu L P s d_)=some (zC gu L P false,[],QP (gu+(64:Int).toNat*1) (L-(64:Int).toNat) P (zD s P gu) []):=dj
theorem AgG (gu L:Nat) (P:dn) (s:Nat→Int):AY dm oSl (some 0) 100 1 iZ (QP gu L P s dw)=some (zC gu L P true,[],QP gu (L-(64:Int).toNat) P (zD s P gu) []):=dj
noncomputable def TF (gu:Nat) (P:dn) (s:Nat→Nat):=AT dm oSl f35 1000 1 [] (QP gu 0 P (BY s) dt)
theorem AgH (gu:Nat) (P:dn) (s:Nat→Nat):Outr (TF gu P s):=⟨dj⟩
def zE (s:Nat→Int):dn:=(List.range 32).map fun i=>AX false .u8 (M_ (s (i / 4)) ((24-8*(i % 4):Nat):Int))
def i7:AV→List Ch
 | .val true cs=>cs
 | _=>[]
theorem AgI (gu:Nat) (P:dn) (s:Nat→Nat):NG (TF gu P s)=.val true (i7 (NG (TF gu P s))):=dj
theorem AgJ (gu:Nat) (P:dn) (s:Nat→Nat):A8 .u8 (i7 (NG (TF gu P s)))=some (zE (BY s)):=dj
theorem AgK (gu:Nat) (P:dn) (s:Nat→Nat):VZ (TF gu P s)=[]:=dj
theorem AJs (s:Nat→Nat):zE (BY s)=(List.range 32).map fun i=>((s (i / 4) / 2^(24-8*(i % 4)) % 256:Nat):Int):=by
 refine nb fun i _=>?_
 unfold BY;rw [Yt _ _ dk,DT,IntKind.wrap_u8];omega
theorem AJt {A:AV} {cs:List Ch} {k:IntKind} {xs:dn} (h1:A=.val true cs) (h2:A8 k cs=some xs) (β:Env) (u:Value) (hr:AN β A u):AN β (.val true [.seq k xs]) u:=by
 subst h1;exact (VS h2 hr).2 _
theorem AJu {P:Program} {f:FuncId} {β0:Env} {w0:World} {R R':Ending→World→Prop} {W:List Nat} {n:Fz} {x:gq} (h:gn P f β0 w0 R n W x) (hv:∀ e w,R e w→R' e w):gn P f β0 w0 R' n W x:=by
 intro β a w hi hf b cs q1 q2;obtain ⟨e',w',fr,q5,q4⟩:=h β a w hi hf b cs q1 q2;exact ⟨e',w',fr,hv _ _ q5,q4⟩
theorem AgL {β0:Env} {w0:World} (h0:∀ b,1≤b→β0 b=none) (gu:Nat) (P:dn) (s:Nat→Nat) :
  gn dm 35 β0 w0 (A_ β0 w0 [] (.val true [.seq .u8 ((List.range 32).map fun i=>((s (i / 4) / 2^(24-8*(i % 4)) % 256:Nat):Int))]) []) f35.ntmps [] (QP gu 0 P (BY s) dt):=by
 have:=AgA (P:=dm) (n:=f35.ntmps) (β0:=β0) (w0:=w0) (W:=[]) Oy AB func35 (AgH gu P s) (AS dj) h0
 refine AJu this fun e w ho=>?_
 have ho:A_ β0 w0 [] (NG (TF gu P s)) (VZ (TF gu P s)) e w:=ho
 rw [AgK] at ho;rw [← AJs s];exact AJq (AJt (AgI gu P s) (AgJ gu P s)) ho
theorem AJv {gu L:Nat} {P:dn} {b:Bool} (h1:64≤L) (h2:gu+L≤P.length) (h3:L≤281474976710656) (hb:Nat.beq L 64=b):AO (zC gu L P b):=by
 refine ⟨?_,jc dk,jc ⟨dl,dk⟩,rfl,rfl,jh dk,rfl,Ar.2 ?_,jc ⟨dl,dk⟩,hb,trivial⟩
 ·simp only [AL,jm,ji];omega
 ·rw [ke,kv];omega
theorem AgM {gu n m:Nat} {xs:dn} (hl:gu+n≤xs.length) (hn:n≤35184372088832):Ab dm 35 [AR 0 gu n m] (A5 xs) 1 [] (.val true [.seq .u8 (IC (AA xs gu n))]) []:=by
 have hw:(AA xs gu n).length=n:=by unfold AA;rw [ke,kv];omega
 have hK:Ax n=64*(Ax n / 64):=by unfold Ax;omega
 have hp:=Ov n;have hN:Ax n≤n+72:=by unfold Ax;omega
 have gx:=AJL (AA xs gu n)
 rw [hw] at gx;refine A7 (gv:=[]) func35 dj dj fun β0 w0 h0=>?_
 refine Ai Oy AB (AgC gu n m xs) ⟨jh hl,jh hn,trivial⟩ (AS dj) h0 jb fun _=>?_
 refine Aft dl (AgD gu n m xs) ?_
 rw [AgE];have loop:∀ r k,1≤r→k+r=Ax n / 64→gn dm 35 β0 w0 (A_ β0 w0 [] (.val true [.seq .u8 (IC (AA xs gu n))]) []) f35.ntmps [] (QP (64*k) (Ax n-64*k) (DP (AA xs gu n)) (BY (NF (DP (AA xs gu n)) k)) []):=by
  intro r;induction r with
  | zero=>intro k h;omega
  | succ r ih =>
   intro k _ hk;cases r with
   | zero =>
    refine Af dw (Ai Oy AB (AgG ..) (AJv dk dk dk (Ar.2 dk)) (AS dj) h0 jb fun _=>?_)
    rw [show Ax n-64*k-(64:Int).toNat=0 by rw [show (64:Int).toNat=64 from rfl];omega]
    have e:zD (BY (NF (DP (AA xs gu n)) k)) (DP (AA xs gu n)) (64*k)=BY (NF (DP (AA xs gu n)) (Ax n / 64)):=by rw [← hk];rfl
    rw [e];have:=AgL h0 (64*k) (DP (AA xs gu n)) (NF (DP (AA xs gu n)) (Ax n / 64)) (w0:=w0)
    unfold IC iY;rw [hw];exact Af dt this
   | succ r =>
    refine Af d_ (Ai Oy AB (AgF ..) (AJv dk dk dk ?_) (AS dj) h0 jb fun _=>?_)
    ·cases q:Nat.beq (Ax n-64*k) 64 with
     | false=>rfl
     | true=>have:=Ar.1 q;omega
    ·have:=ih (k+1) dk dk
     rw [show 64*(k+1)=64*k+(64:Int).toNat*1 by rw [show (64:Int).toNat=64 from rfl];omega,show Ax n-(64*k+(64:Int).toNat*1)=Ax n-64*k-(64:Int).toNat by rw [show (64:Int).toNat=64 from rfl];omega] at this
     exact this
 have:=loop (Ax n / 64) 0 dk dk
 exact this
def sumSp:ASpec:=fun args H fr gv=>match args with
 | [S]=>match DZ S with
  | some (k,gu,n)=>match AG H k with
   | some ⟨_,cs,_⟩=>match A8 .u8 cs with
    | some xs=>some (BR [k] 1 fr 0 [] (.val true [.seq .u8 (IC (AA xs gu n))]) [] [(Nat.ble (gu+n) xs.length,true),(Nat.ble n 35184372088832,true)] gv)
    | none=>none
   | none=>none
  | none=>none
 | _=>none
theorem AJw {F:FuncId} {fn:Func} (ip:dm.funcs[F]? = some fn) (hb:fn.body.isSome=true) (h_:fo fn) (hcan:∀ {gu n m:Nat} {xs:dn},(∀ d∈xs,0≤d∧d<256)→gu+n≤xs.length→n≤35184372088832→Ab dm F [AR 0 gu n m] (A5 xs) 1 [] (.val true [.seq .u8 (IC (AA xs gu n))]) []):BJ dm F sumSp:=by
 refine Da ip hb h_ fun args H fr gv r hs=>?_
 unfold sumSp at hs;split at hs;case h_2=>cases hs
 rename_i S;split at hs;case h_2=>cases hs
 rename_i k gu n hS;split at hs;case h_2=>cases hs
 rename_i ty cs o hk;split at hs;case h_2=>cases hs
 rename_i xs iy;injection hs with hs;refine ⟨[k],1,0,[],_,_,_,gv,hs.symm,fun β us w ha hg hc=>?_⟩
 obtain ⟨u1,iu,r1,ha,rfl⟩:=ha;obtain ⟨m,r1⟩:=FE hS r1;obtain ⟨g1,g2,g3⟩:=Eu hg hk iy;exact ⟨[AR 0 gu n m],A5 xs,hcan g1 (jf hc.1) (jf hc.2.1),rfl,⟨u1,_,Cp dk rfl r1,ha,rfl⟩,g2,g3⟩
noncomputable def SSm:dr:=(35,sumSp)::SSl
theorem AgN:AW dm SSm:=⟨AJw func35 dj dj fun _=>AgM,AJp⟩
noncomputable def AJx (gu n m:Nat) (xs:dn):gq:=Aj f277 [AR 0 gu n m] (A5 xs) 1 []
noncomputable def zG:List Item:=CB (AY dm oSl (some 0) 100 1 none (AJx 0 0 0 []))
noncomputable def zH (gu n m:Nat) (s:AV):List AV:=EC f277.ntmps [(0,AR 0 gu n m),(3,s)]
def zI (xs ys:dn):Heap:=[(0,some (Ak [.seq .u8 xs])),(1,some ⟨5,[.seq .u8 ys],true⟩)]
noncomputable def i9 (gu n m:Nat) (xs ys:dn) (L:Nat) (p:List Bool):gq:=⟨zG,⟨zH gu n m (.val false [.sx 1 L 1]),zI xs ys,2,p⟩⟩
noncomputable def AJy:List Item:=CB (AY dm oSl (some 0) 100 1 none (i9 0 0 0 [] [] 0 dt))
noncomputable def AJz (s i:AV) (k:Int):List AV:=EC f277.ntmps [(3,s),(4,VX k),(5,i)]
def QQ (ys:dn):Heap:=[(1,some ⟨5,[.seq .u8 ys],true⟩)]
noncomputable def Y6 (ys:dn) (L:Nat) (k:Int) (i:AV) (p:List Bool):gq:=⟨AJy,⟨AJz (.val false [.sx 1 L 1]) i k,QQ ys,2,p⟩⟩
def EQ (L:Nat):Bool:=decide (1≤1∧2*L*1≤281474976710656)
theorem AgO (gu n m:Nat) (xs:dn):AY dm oSl (some 0) 100 1 (some ([0,3],[0,4],5)) (AJx gu n m xs) =
 some ((true,true)::(Nat.ble (gu+n) xs.length,true)::(EQ (0+n),true)::(Nat.ble (0+n) ([]++(xs.drop gu).take n).length,true)::(EQ (0+n+1),true)::[],[],⟨zG,⟨LB (EN 1 [4]) (zH gu n m (.val false [.sx 1 (0+n+1) 1])),JC (EN 1 [4]) (zI xs (([]++(xs.drop gu).take n).take (0+n)++[128])),5,[]⟩⟩):=dj
theorem AgP (gu n m:Nat) (xs ys:dn) (L:Nat):AY dm oSl (some 0) 100 1 (some ([0,3],[0,3],4)) (i9 gu n m xs ys L du) =
 some ((AL .i64 L,true)::(true,true)::(!decide (Int.tmod (L:Int) 64=56),true)::(Nat.ble L ys.length,true)::(EQ (L+1),true)::[],[],⟨zG,⟨LB (EN 1 [3]) (zH gu n m (.val false [.sx 1 (L+1) 1])),JC (EN 1 [3]) (zI xs (ys.take L++[0])),4,[]⟩⟩):=dj
theorem AgQ (gu n m:Nat) (xs ys:dn) (L:Nat):AY dm oSl (some 0) 100 1 (some ([3,4,5],[1],2)) (i9 gu n m xs ys L dt) =
 some ((AL .i64 L,true)::(true,true)::(!decide (Int.tmod (L:Int) 64=56),false)::(AL .i64 n,true)::[],[],Y6 ys L (AX false .u64 (8*AX false .u64 n)) (.val false [.n .i64 7]) []):=dj
def zJ (k i:Int):Int:=AX false .u8 (Int.fdiv k (2^min (AX false .u64 (wI (8*i))).toNat IntKind.u64.bits))
theorem AgR (ys:dn) (L:Nat) (k i:Int):AY dm oSl (some 0) 100 1 (some ([3,4,5],[3],4)) (Y6 ys L k (iA i) du) =
 some ((decide (0≤i),true)::(decide (0≤AX false .u64 (wI (8*i))∧0≤k),true)::(Nat.ble L ys.length,true)::(EQ (L+1),true)::[],[],⟨AJy,⟨LB (EN 1 [3]) (AJz (.val false [.sx 1 (L+1) 1]) (iA (wI (i-1))) k),JC (EN 1 [3]) (QQ (ys.take L++[zJ k i])),4,[]⟩⟩):=dj
theorem AgS (ys:dn) (L:Nat) (k i:Int):AT dm oSl f277 100 1 [1] (Y6 ys L k (iA i) dt)=some ([(decide (0≤i),false)],[],.val false [.sx 1 L 1],QQ ys):=dj
def L0 (xs:dn) (j:Nat):dn:=xs++128::List.replicate j 0
theorem zK (xs:dn) (j:Nat):(L0 xs j).length=xs.length+1+j:=by unfold L0;simp;omega
theorem AgT (xs:dn) (j:Nat):L0 xs j++[0]=L0 xs (j+1):=by
 unfold L0;rw [List.replicate_succ',nq];rfl
theorem AgU (xs:dn) {c:Nat} (h:c<8) (A:Nat):xs++(Co A 8).take c++[F8 A (7-c)]=xs++(Co A 8).take (c+1):=by
 rw [nq,List.take_succ_eq_append_getElem (by rw [J5];exact h)]
 congr 2
 simp only [Co,List.getElem_map,List.getElem_range]
theorem EZ {L:Nat} (h:L≤140737488355328):EQ L=true:=jc ⟨jj _,dk⟩
theorem AgV {gu n m:Nat} {xs:dn} (hl:gu+n≤xs.length) (hn:n≤35184372088832):Ab dm 277 [AR 0 gu n m] (A5 xs) 1 [] (.val false [.sx 1 (Ax n) 1]) (QQ (DP (AA xs gu n))):=by
 have hw:(AA xs gu n).length=n:=by unfold AA;rw [ke,kv];omega
 have hp:=Ov n;have hN:Ax n≤n+72:=by unfold Ax;omega
 have hh:∀ L:Nat,L≤70368744177664→AL .i64 L=true:=fun L h=>by simp only [AL,jm,ji];omega
 refine A7 (gv:=[]) func277 dj dj fun β0 w0 h0=>?_
 have h0':∀ b,1≤b→β0 b=none:=h0
 have loop2:∀ r c,c+r=8→gn dm 277 β0 w0 (A_ β0 w0 [] (.val false [.sx 1 (Ax n) 1]) (QQ (DP (AA xs gu n)))) f277.ntmps [] (Y6 (L0 (AA xs gu n) (Ax n-n-9)++(Co (8*n) 8).take c) (Ax n-8+c) ((8*n:Nat):Int) (iA (7-(c:Int))) []):=by
  intro r;induction r with
  | zero =>
   intro c hc;obtain rfl:c=8:=dk
   have e:L0 (AA xs gu n) (Ax n-n-9)++(Co (8*n) 8).take 8=DP (AA xs gu n):=by
    unfold L0 DP;rw [hw,nu (by rw [J5];exact jj _),nq];rfl
   rw [e,show Ax n-8+8=Ax n by omega]
   exact Af dt (Ay Oy AB func277 (AgS ..) ⟨dl,trivial⟩ (AS dj) h0 jb)
  | succ r ih =>
   intro c hc;have ei:(7:Int)-(c:Int)=((7-c:Nat):Int):=dk
   have e8:AX false .u64 (wI (8*((7-c:Nat):Int)))=((8*(7-c):Nat):Int):=by rw [Au dk,DT,IntKind.wrap_u64];omega
   have gx:(L0 (AA xs gu n) (Ax n-n-9)++(Co (8*n) 8).take c).length=Ax n-8+c:=by
    rw [kc,zK,hw,ke,J5];omega
   refine Af du (Ai Oy AB (AgR ..) ?_ (AS dj) h0 jb fun _=>?_)
   ·rw [ei,e8,gx];exact ⟨jc dk,jc ⟨dk,dk⟩,jh (jj _),EZ dk,trivial⟩
   ·refine PM (m:=2) dj h0 ?_
    have ev:zJ ((8*n:Nat):Int) (7-(c:Int))=F8 (8*n) (7-c):=by
     unfold zJ F8;rw [ei,e8,jn,show min (8*(7-c)) IntKind.u64.bits=8*(7-c) from mc (by show 8*(7-c)≤64;omega),qm _ (by exact_mod_cast qi (2^(8*(7-c)))),DT,IntKind.wrap_u8,Nz]
     have:((8*n:Nat):Int) / (2^(8*(7-c)))=((8*n / 2^(8*(7-c)):Nat):Int):=by rw [ri,p_];rfl
     rw [this];omega
    rw [ev,nu (by rw [gx];exact jj _),AgU _ dk,Au (z:=(7:Int)-(c:Int)-1) dk]
    have:=ih (c+1) dk
    rw [show (7:Int)-((c+1:Nat):Int)=7-(c:Int)-1 by omega] at this
    exact this
 have mid:gn dm 277 β0 w0 (A_ β0 w0 [] (.val false [.sx 1 (Ax n) 1]) (QQ (DP (AA xs gu n)))) f277.ntmps [] (Y6 (L0 (AA xs gu n) (Ax n-n-9)) (Ax n-8) ((8*n:Nat):Int) (.val false [.n .i64 7]) []):=by
  have:=loop2 8 0 rfl
  rw [List.take_zero,ku] at this;exact IY this
 have loop1:∀ r j,n+1+j+r=Ax n-8→gn dm 277 β0 w0 (A_ β0 w0 [] (.val false [.sx 1 (Ax n) 1]) (QQ (DP (AA xs gu n)))) f277.ntmps [] (i9 gu n m xs (L0 (AA xs gu n) j) (n+1+j) []):=by
  intro r;induction r with
  | zero =>
   intro j hj;have ht:Int.tmod ((n+1+j:Nat):Int) 64=56:=by
    rw [oe dk];unfold Ax at hj;omega
   refine Af dt (Ai Oy AB (AgQ ..) ⟨hh _ dk,rfl,by rw [jc ht];rfl,hh _ dk,trivial⟩ (AS dj) h0 jb fun _=>?_)
   rw [show AX false .u64 (8*AX false .u64 (n:Int))=((8*n:Nat):Int) by rw [DT,DT,IntKind.wrap_u64,IntKind.wrap_u64];omega,show j=Ax n-n-9 by omega,show n+1+(Ax n-n-9)=Ax n-8 by omega]
   exact mid
  | succ r ih =>
   intro j hj;have ht:Int.tmod ((n+1+j:Nat):Int) 64≠56:=by
    rw [oe dk];unfold Ax at hj;omega
   refine Af du (Ai Oy AB (AgP ..) ⟨hh _ dk,rfl,by rw [jg ht];rfl,jh (by rw [zK,hw];exact jj _),EZ dk,trivial⟩ (AS dj) h0 jb fun _=>?_)
   refine PM (m:=2) dj h0 ?_
   rw [nu (by rw [zK,hw];exact jj _),AgT]
   exact ih (j+1) dk
 refine Ai Oy AB (AgO gu n m xs) ⟨rfl,jh hl,EZ dk,jh ?_,EZ dk,trivial⟩ (AS dj) h0 jb fun _=>?_
 ·rw [nm,ke,kv];omega
 ·refine PM (m:=2) dj h0 ?_
  rw [nm,nu (l:=(xs.drop gu).take n) (by rw [ke];omega),ka]
  exact loop1 (Ax n-8-(n+1)) 0 dk
def rpadSp:ASpec:=fun args H fr gv=>match args with
 | [S]=>match DZ S with
  | some (k,gu,n)=>match AG H k with
   | some ⟨_,cs,_⟩=>match A8 .u8 cs with
    | some xs=>some (BR [k] 1 fr 1 [] (.val false [.sx 1 (Ax n) 1]) (QQ (DP (AA xs gu n))) [(Nat.ble (gu+n) xs.length,true),(Nat.ble n 35184372088832,true)] gv)
    | none=>none
   | none=>none
  | none=>none
 | _=>none
theorem AgW:BJ dm 277 rpadSp:=by
 refine Da func277 dj dj fun args H fr gv r hs=>?_
 unfold rpadSp at hs;split at hs;case h_2=>cases hs
 rename_i S;split at hs;case h_2=>cases hs
 rename_i k gu n hS;split at hs;case h_2=>cases hs
 rename_i ty cs o hk;split at hs;case h_2=>cases hs
 rename_i xs iy;injection hs with hs;refine ⟨[k],1,1,[],_,_,_,gv,hs.symm,fun β us w ha hg hc=>?_⟩
 obtain ⟨u1,iu,r1,ha,rfl⟩:=ha;obtain ⟨m,r1⟩:=FE hS r1;obtain ⟨g1,g2,g3⟩:=Eu hg hk iy;exact ⟨[AR 0 gu n m],A5 xs,AgV (jf hc.1) (jf hc.2.1),dj,⟨u1,_,Cp dk rfl r1,ha,rfl⟩,g2,g3⟩
noncomputable def SSn:dr:=(277,rpadSp)::SSm
theorem AJ0:AW dm SSn:=⟨AgW,AgN⟩
noncomputable abbrev oSn:gr:=AH SSn KV
theorem zL:gp dm oSn:=AJ AJ0 BS
noncomputable def AJ1 (gu n m:Nat) (xs:dn):gq:=Aj f245 [AR 0 gu n m] (A5 xs) 1 []
abbrev zM:Option (List Nat×List Nat×Nat):=some ([2,3,4,5],[1,2,3],4)
noncomputable def QR (gu n m:Nat) (xs:dn):gq:=It (AY dm oSn (some 0) 100 1 zM (AJ1 gu n m xs))
noncomputable def AgX:List Item:=(QR 0 0 0 []).todo
noncomputable def Vi (N:Nat) (P:dn) (s:Nat→Int) (i:Int) (p:List Bool):gq:=⟨AgX,⟨EC f245.ntmps [(2,.val false [.p 1 0]),(3,.val false [.sx 2 N 1]),(4,.val false [.p 3 0]),(5,iA i)],[(1,some ⟨54,List.replicate 32 (.n .u8 0),false⟩),(2,some ⟨5,[.seq .u8 P],true⟩),(3,some ⟨109,[.seq .u32 (l8 s)],false⟩)],4,p⟩⟩
theorem AgY (gu n m:Nat) (xs:dn):AY dm oSn (some 0) 100 1 zM (AJ1 gu n m xs)=some ((Nat.ble (gu+n) xs.length,true)::(Nat.ble n 35184372088832,true)::[],[],QR gu n m xs):=dj
theorem AgZ (gu n m:Nat) (xs:dn):(⟨(QR gu n m xs).todo,⟨(QR gu n m xs).s.T.map Gy,(QR gu n m xs).s.H,(QR gu n m xs).s.fr,(QR gu n m xs).s.gv⟩⟩:gq)=Vi (Ax n) (DP (AA xs gu n)) (BY Y0) 0 []:=dj
def QS (i:Int) (j:Nat):Int:=wI (i+(j:Int))
def jA (N len:Nat) (i:Int):Nat→Nat→dp
 | 0,_=>[(true,true),(true,true)]
 | f+1,j=>(decide (0≤QS i j∧QS i j<N),true)::(decide (0+(QS i j).toNat*1<len),true)::jA N len i f (j+1)
def zO (P:dn) (i:Int):dn:=(List.range 64).map fun j=>P.getD (0+(QS i j).toNat*1) 0
def zP (s:Nat→Int) (P:dn) (i:Int):Nat→Int:=BY (TB (wN (l8 s)) (bN (zO P i)))
theorem Aga (N:Nat) (P:dn) (s:Nat→Int) (i:Int):AY dm oSn (some 4) 3000 1 zM (Vi N P s i du)=some ((AL .i64 N,true)::(decide (wI (i+64)≤N),true)::jA N P.length i 64 0,[],Vi N P (zP s P i) (wI (i+64)) []):=dj
noncomputable def TG (N:Nat) (P:dn) (s:Nat→Nat) (i:Int):=AT dm oSn f245 1000 1 [] (Vi N P (BY s) i dt)
def jB:dp→dp
 | _::_::r=>r
 | _=>[]
def zQ (x:Option (dp×List Nat×AV×Heap)):dp:=match x with | some (c,_,_,_)=>c | none=>[]
def o4K (x:Option (dp×List Nat×AV×Heap)):List Nat:=match x with | some (_,k,_,_)=>k | none=>[0]
def o4I (x:Option (dp×List Nat×AV×Heap)):Bool:=match x with | some _=>true | none=>false
structure Outc (x:Option (dp×List Nat×AV×Heap)) (a b:Bool×Bool):Prop where
 io:o4I x=true
 ky:o4K x=[]
 co:zQ x=a::b::jB (zQ x)
 cd:TC (jB (zQ x))=true
theorem Agd {P:Program} {O:gr} {f:FuncId} {fn:Func} {β0:Env} {w0:World} {n:Fz} {W:List Nat} (hO:gp P O) (hm:P.follows .mixedOrders=true) (ip:P.funcs[f]? = some fn) {ia k0:Nat} {ks:List Nat} {x:gq} {a b:Bool×Bool}
  (h:Outc (AT P O fn ia k0 ks x) a b) (ha:a.1=a.2) (hb:b.1=b.2) (i_:Be n x.s) (h0:∀ b,k0≤b→β0 b=none) (hD:n.D=[]:=by rfl):gn P f β0 w0 (A_ β0 w0 W (NG (AT P O fn ia k0 ks x)) (VZ (AT P O fn ia k0 ks x))) n W x:=by
 obtain ⟨h1,h2,h3,h4⟩:=h;generalize e:AT P O fn ia k0 ks x=y at *
 cases y with
 | none=>cases h1
 | some v =>
  obtain ⟨c',k,v,H⟩:=v;have h2:k=[]:=h2
  have h3':c'=a::b::jB c':=h3
  subst h2;refine Ay hO hm ip e ?_ i_ h0 jb hD
  have h5:AO (a::b::jB c'):=⟨ha,hb,VQ h4⟩
  rwa [← h3'] at h5
theorem Age {P:Program} {f:FuncId} {β0:Env} {w0:World} {R:Ending→World→Prop} {n:Nat} {W:List Nat} {x:gq} (h:gn P f β0 w0 R n W ⟨x.todo,⟨x.s.T.map Gy,x.s.H,x.s.fr,x.s.gv⟩⟩):gn P f β0 w0 R n W x:=IY (T:=x.s.T) h
theorem Agf (N:Nat) (P:dn) (s:Nat→Nat) (i:Int):Outc (TG N P s i) (AL .i64 N,true) (decide (wI (i+64)≤N),false):=⟨dj,dj,dj,dj⟩
theorem Agg (N:Nat) (P:dn) (s:Nat→Nat) (i:Int):NG (TG N P s i)=.val true (i7 (NG (TG N P s i))):=dj
theorem Agh (N:Nat) (P:dn) (s:Nat→Nat) (i:Int):A8 .u8 (i7 (NG (TG N P s i)))=some (zE (BY s)):=dj
theorem Agi (N:Nat) (P:dn) (s:Nat→Nat) (i:Int):VZ (TG N P s i)=[]:=dj
theorem Agj {β0:Env} {w0:World} (h0:∀ b,1≤b→β0 b=none) {N:Nat} (P:dn) (s:Nat→Nat) {i:Int} (hN:AL .i64 N=true) (hi:decide (wI (i+64)≤N)=false) :
  gn dm 245 β0 w0 (A_ β0 w0 [] (.val true [.seq .u8 ((List.range 32).map fun i=>((s (i / 4) / 2^(24-8*(i % 4)) % 256:Nat):Int))]) []) f245.ntmps [] (Vi N P (BY s) i dt):=by
 have:=Agd (P:=dm) (n:=f245.ntmps) (β0:=β0) (w0:=w0) (W:=[]) zL AB func245 (Agf N P s i) hN hi (AS dj) h0
 refine AJu this fun e w ho=>?_
 have ho:A_ β0 w0 [] (NG (TG N P s i)) (VZ (TG N P s i)) e w:=ho
 rw [Agi] at ho;rw [← AJs s];exact AJq (AJt (Agg N P s i) (Agh N P s i)) ho
theorem AJ2 {N len:Nat} {i:Nat} (hN:N≤281474976710656) (hl:N≤len):∀ f j,i+j+f≤N→AO (jA N len (i:Int) f j)
 | 0,_,_=>⟨rfl,rfl,trivial⟩
 | f+1,j,h=>by
  have e:QS (i:Int) j=((i+j:Nat):Int):=by unfold QS;rw [Au dk];omega
  rw [jA,e];exact ⟨jc ⟨dk,dk⟩,jc dk,AJ2 hN hl f (j+1) dk⟩
theorem Agk {P:dn} {i:Nat} (h:i+64≤P.length) (hP:P.length≤281474976710656):zO P (i:Int)=(P.drop i).take 64:=by
 unfold zO;refine rj (by simp;omega) fun k h1 h2=>?_
 have hk:k<64:=by simpa using h1
 have e:QS (i:Int) k=((i+k:Nat):Int):=by unfold QS;rw [Au dk];omega
 rw [List.getElem_map,List.getElem_range,e,List.getElem_take,List.getElem_drop,show 0+((i+k:Nat):Int).toNat*1=i+k by omega]
 simp [List.getD_eq_getElem?_getD,show i+k<P.length by omega]
theorem Agl {gu n m:Nat} {xs:dn} (hl:gu+n≤xs.length) (hn:n≤35184372088832):Ab dm 245 [AR 0 gu n m] (A5 xs) 1 [] (.val true [.seq .u8 (IC (AA xs gu n))]) []:=by
 have hw:(AA xs gu n).length=n:=by unfold AA;rw [ke,kv];omega
 have hK:Ax n=64*(Ax n / 64):=by unfold Ax;omega
 have hp:=Ov n;have hN:Ax n≤n+72:=by unfold Ax;omega
 have gx:=AJL (AA xs gu n)
 rw [hw] at gx;have hh:AL .i64 (Ax n)=true:=by simp only [AL,jm,ji];omega
 refine A7 (gv:=[]) func245 dj dj fun β0 w0 h0=>?_
 refine Ai zL AB (AgY gu n m xs) ⟨jh hl,jh hn,trivial⟩ (AS dj) h0 jb fun _=>?_
 refine Age (x:=QR gu n m xs) ?_
 rw [AgZ];have loop:∀ r k,k+r=Ax n / 64→gn dm 245 β0 w0 (A_ β0 w0 [] (.val true [.seq .u8 (IC (AA xs gu n))]) []) f245.ntmps [] (Vi (Ax n) (DP (AA xs gu n)) (BY (NF (DP (AA xs gu n)) k)) ((64*k:Nat):Int) []):=by
  intro r;induction r with
  | zero =>
   intro k hk;have:=Agj (N:=Ax n) (i:=((64*k:Nat):Int)) h0 (DP (AA xs gu n)) (NF (DP (AA xs gu n)) (Ax n / 64)) (w0:=w0) hh (by rw [Au dk];exact jg dk)
   unfold IC iY;rw [hw,show k=Ax n / 64 by omega] at *
   exact Af dt this
  | succ r ih =>
   intro k hk;refine Af du (Ai zL AB (Aga ..) ⟨hh,by rw [Au dk];exact jc dk,AJ2 dk dk 64 0 dk⟩ (AS dj) h0 jb fun _=>?_)
   have e:zP (BY (NF (DP (AA xs gu n)) k)) (DP (AA xs gu n)) ((64*k:Nat):Int)=BY (NF (DP (AA xs gu n)) (k+1)):=by
    unfold zP;rw [Agk dk dk];rfl
   rw [e,Au (z:=((64*k:Nat):Int)+64) dk];have:=ih (k+1) dk
   rw [show ((64*(k+1):Nat):Int)=((64*k:Nat):Int)+64 by omega] at this
   exact this
 exact loop (Ax n / 64) 0 dk
noncomputable def SSo:dr:=(245,sumSp)::SSn
theorem AJ3:AW dm SSo:=⟨AJw func245 dj dj fun _=>Agl,AJ0⟩
noncomputable abbrev oSo:gr:=AH SSo KV
theorem Vj:gp dm oSo:=AJ AJ3 BS
noncomputable abbrev grF:Func:=f89
def Vk:AV:=.val false [.v (.slice none 0 0)]
noncomputable def zS (i:Int) (p:List Bool):gq:=Aj grF [Vk,iA i] [] 0 p
def QT (i:Int):Int:=wI (i-wI ((0:Int)-0))
def zT (i:Int):Heap:=[(0,some ⟨5,[.seq .u8 (List.replicate i.toNat 0)],true⟩)]
theorem Agm (i:Int):AT dm oSo grF 200 0 [0] (zS i dx)=some ((decide (i<0),false)::(true,true)::(decide (0<QT i),true)::(true,true)::(decide (0≤QT i∧QT i≤9223372036854775807),true)::(EQ (0+(QT i).toNat),true)::(true,true)::(true,true)::[],[],.val false [.sx 0 0 1],zT (QT i)):=dj
noncomputable def Vl (i:Int):gq:=It (GM dm oSo 14 0 (zS i dz))
theorem Agn (i:Int):GM dm oSo 14 0 (zS i dz)=some ((decide (i<0),false)::(true,true)::(decide (0<QT i),false)::[],[],Vl i):=dj
theorem Ago (i:Int):AT dm oSo grF 200 0 [0] ⟨(Vl i).todo,⟨UB 0 1 [0] 0 (Vl i).s.T,[]++[(0,some ⟨5,[.seq .u8 []],true⟩)],0+1,[]⟩⟩=some ([],[],.val false [.sx 0 0 1],[(0,some ⟨5,[.seq .u8 []],true⟩)]):=dj
theorem Agp (i:Int):Vl i=⟨(Vl i).todo,⟨(Vl i).s.T,[],0,[]⟩⟩:=dj
theorem Agq {i:Nat} (h:i≤35184372088832):QT (i:Int)=i:=by
 unfold QT;rw [show wI ((0:Int)-0)=0 from rfl,Au dk];omega
theorem Agr {i:Nat} (h:i≤35184372088832):Ab dm 89 [Vk,iA i] [] 0 [] (.val false [.sx 0 0 1]) (zT i):=by
 have e:=Agq h;rcases lk i with h0 | h0
 ·subst h0;refine A7 (gv:=dz) func89 dj dj fun β0 w0 hb=>?_
  refine RF Vj AB (Agn ((0:Nat):Int)) ⟨dl,rfl,by rw [e];decide,trivial⟩ (AS dj) hb jb fun _=>?_
  rw [Agp];refine pF (ts:=[0]) (sz:=1) (ty:=5) (kd:=.u8) rfl (hb 0 (jj _)) ?_
  exact Ay Vj AB func89 (Ago _) trivial (AS dj) hb jb
 ·refine A7 (gv:=dx) func89 dj dj fun β0 w0 hb=>?_
  have:=Ay (P:=dm) (n:=grF.ntmps) (β0:=β0) (w0:=w0) (W:=[]) Vj AB func89 (Agm (i:Int)) ⟨jg dk,rfl,jc (by rw [e];omega),rfl,jc (by rw [e];omega),by rw [e];exact EZ dk,rfl,rfl,trivial⟩ (AS dj) hb jb
  rw [e] at this;exact this
def grSp:ASpec:=fun args _ fr gv=>match args with
 | [.val false [.v (.slice none 0 0)],I]=>match Bv (some I) with
  | some (_,.i64,i)=>some (BR [] 0 fr 1 [] (.val false [.sx 0 0 1]) (zT i) [(decide (0≤i∧i≤35184372088832),true)] gv)
  | _=>none
 | _=>none
theorem AJ4 {β:Env} {w:World}:Ex.Good (A9 β [] 0) [] w:=⟨(fun _ _ h=>by cases h),(fun _ _ _ _ _ h=>by cases h),(fun b B n h=>by
 have e:Nat.blt b 0=false:=by cases q:Nat.blt b 0 with | false=>rfl | true=>exact absurd (Bf.1 q) (oi b)
 simp [A9,e] at h)⟩
theorem Ags:BJ dm 89 grSp:=by
 refine Da func89 dj dj fun args H fr gv r hs=>?_
 unfold grSp at hs;split at hs;case h_2=>cases hs
 rename_i I;split at hs;case h_2=>cases hs
 rename_i c i hI;injection hs with hs;refine ⟨[],0,1,[],_,_,_,gv,hs.symm,fun β us w ha hg hc=>?_⟩
 obtain ⟨u1,iu,r1,⟨u2,iw,r2,ha,rfl⟩,rfl⟩:=ha;have hi:=jx hc.1;obtain ⟨n,rfl⟩:=ki hi.1;exact ⟨[Vk,iA n],[],Agr dk,dj,⟨u1,_,MS rfl r1,⟨u2,_,(NA hI r2).2 _,ha,rfl⟩,rfl⟩,AJ4,fun k h=>by cases h⟩
noncomputable def SSp:dr:=(89,grSp)::SSo
theorem AJ5:AW dm SSp:=⟨Ags,AJ3⟩
noncomputable abbrev oSp:gr:=AH SSp KV
theorem jF:gp dm oSp:=AJ AJ5 BS
abbrev fk:List Bool:=[true,false,true,false,true,false,false,true,true,true,false]
abbrev fl:List Bool:=[true,false,true,false,true,false,true,false,false,true,true,true,true,false]
open Ex Num
set_option maxRecDepth 100000
set_option maxHeartbeats 4000000
noncomputable abbrev ccF:Func:=f37
def KX (k:Nat) (ys:dn):Heap:=[(k,some ⟨5,[.seq .u8 ys],true⟩)]
theorem HB {xs:dn} {gu n:Nat} (h:gu+n≤xs.length):(AA xs gu n).length=n:=by unfold AA;rw [ke,kv];omega
theorem GC {l:dn} {n:Nat} (h:l.length=n):l.take n=l:=nu dk
theorem L3 {a b:dn} {n m:Nat} (h:a.length=n) (k:b.length=m):(a++b).length=n+m:=by rw [kc,h,k]
theorem HC {L:Nat} (h:L≤35184372088832):AL .i64 L=true:=by simp only [AL,jm,ji];omega
theorem jG (n:Nat):decide ((n:Int)<0)=false:=jg dk
theorem TH {a b:Nat} (h:a+b≤35184372088832):wI ((a:Int)+(b:Int))=((a+b:Nat):Int):=by rw [Au dk];omega
noncomputable def zU (o1 n1 m1 o2 n2 m2:Nat) (x1 x2:dn):Heap:=[(0,some (Ak [.sl 1 o1 n1 m1,.sl 2 o2 n2 m2])),(1,some (Ak [.seq .u8 x1])),(2,some (Ak [.seq .u8 x2]))]
noncomputable def Agt (o1 n1 m1 o2 n2 m2:Nat) (x1 x2:dn):gq:=Aj ccF [AR 0 0 2 2] (zU o1 n1 m1 o2 n2 m2 x1 x2) 3 [true,false,true,false,false,true,true,false]
def jH (n1 n2:Nat):Int:=wI (wI (0+(n1:Int))+(n2:Int))
def AJ6 (o1 n1 o2 n2:Nat) (x1 x2:dn):dn:=(AA x1 o1 n1).take (0+n1)++AA x2 o2 n2
theorem Agu (o1 n1 m1 o2 n2 m2:Nat) (x1 x2:dn):AT dm oSp ccF 400 3 [5] (Agt o1 n1 m1 o2 n2 m2 x1 x2)=some (tt 3 ((AL .i64 n1,true)::(decide (wI (0+(n1:Int))<0),false)::tt 2 ((AL .i64 n2,true)::(decide (wI (wI (0+(n1:Int))+(n2:Int))<0),false)::(false,false)::(decide (0≤jH n1 n2∧jH n1 n2≤35184372088832),true)::tt 4 ((Nat.ble (o1+n1) x1.length,true)::(EQ (0+n1),true)::tt 2 ((Nat.ble (0+n1) (AA x1 o1 n1).length,true)::(Nat.ble (o2+n2) x2.length,true)::(EQ (0+n1+n2),true)::(false,false)::[])))),[],.val false [.sx 5 (0+n1+n2) 1],KX 5 (AJ6 o1 n1 o2 n2 x1 x2)):=dj
theorem Agv {o1 n1 m1 o2 n2 m2:Nat} {x1 x2:dn} (h1:o1+n1≤x1.length) (h2:o2+n2≤x2.length) (hn:n1+n2≤35184372088832):Ab dm 37 [AR 0 0 2 2] (zU o1 n1 m1 o2 n2 m2 x1 x2) 3 [] (.val false [.sx 5 (n1+n2) 1]) (KX 5 (AA x1 o1 n1++AA x2 o2 n2)):=by
 have w1:=HB h1;have w2:=HB h2;have e1:wI (0+(n1:Int))=(n1:Nat):=by rw [Au dk];omega
 have e2:=TH (a:=n1) (b:=n2) dk
 have eA:jH n1 n2=((n1+n2:Nat):Int):=by unfold jH;rw [e1,e2]
 have l1:=w1;have l2:=L3 l1 w2;have q2:(AA x1 o1 n1).take (0+n1)++AA x2 o2 n2=AA x1 o1 n1++AA x2 o2 n2:=by rw [show 0+n1=n1 by omega,GC l1]
 have eY:AJ6 o1 n1 o2 n2 x1 x2=AA x1 o1 n1++AA x2 o2 n2:=q2
 have eL:0+n1+n2=n1+n2:=dk
 refine A7 (gv:=[true,false,true,false,false,true,true,false]) func37 dj dj fun β0 w0 hb=>?_
 have:=Ay (P:=dm) (n:=ccF.ntmps) (β0:=β0) (w0:=w0) (W:=[]) jF AB func37 (Agu o1 n1 m1 o2 n2 m2 x1 x2) ?_ (AS dj) hb jb
 ·rw [eY,eL] at this;exact this
 ·rw [eA];simp only [e1,e2,jG];exact AI 3 ⟨HC dk,rfl,AI 2 ⟨HC dk,rfl,rfl,jc ⟨dk,dk⟩,AI 4 ⟨jh h1,EZ dk,AI 2 ⟨jh (by rw [w1];omega),jh h2,EZ dk,rfl,trivial⟩⟩⟩⟩
noncomputable def zV (o1 n1 m1 o2 n2 m2 o3 n3 m3:Nat) (x1 x2 x3:dn):Heap:=[(0,some (Ak [.sl 1 o1 n1 m1,.sl 2 o2 n2 m2,.sl 3 o3 n3 m3])),(1,some (Ak [.seq .u8 x1])),(2,some (Ak [.seq .u8 x2])),(3,some (Ak [.seq .u8 x3]))]
noncomputable def Agw (o1 n1 m1 o2 n2 m2 o3 n3 m3:Nat) (x1 x2 x3:dn):gq:=Aj ccF [AR 0 0 3 3] (zV o1 n1 m1 o2 n2 m2 o3 n3 m3 x1 x2 x3) 4 fk
def jI (n1 n2 n3:Nat):Int:=wI (wI (wI (0+(n1:Int))+(n2:Int))+(n3:Int))
def AJ7 (o1 n1 o2 n2 o3 n3:Nat) (x1 x2 x3:dn):dn:=((AA x1 o1 n1).take (0+n1)++AA x2 o2 n2).take (0+n1+n2)++AA x3 o3 n3
theorem Agx (o1 n1 m1 o2 n2 m2 o3 n3 m3:Nat) (x1 x2 x3:dn):AT dm oSp ccF 400 4 [7] (Agw o1 n1 m1 o2 n2 m2 o3 n3 m3 x1 x2 x3)=some (tt 3 ((AL .i64 n1,true)::(decide (wI (0+(n1:Int))<0),false)::tt 2 ((AL .i64 n2,true)::(decide (wI (wI (0+(n1:Int))+(n2:Int))<0),false)::tt 2 ((AL .i64 n3,true)::(decide (wI (wI (wI (0+(n1:Int))+(n2:Int))+(n3:Int))<0),false)::(false,false)::(decide (0≤jI n1 n2 n3∧jI n1 n2 n3≤35184372088832),true)::tt 4 ((Nat.ble (o1+n1) x1.length,true)::(EQ (0+n1),true)::tt 2 ((Nat.ble (0+n1) (AA x1 o1 n1).length,true)::(Nat.ble (o2+n2) x2.length,true)::(EQ (0+n1+n2),true)::tt 2 ((Nat.ble (0+n1+n2) ((AA x1 o1 n1).take (0+n1)++AA x2 o2 n2).length,true)::(Nat.ble (o3+n3) x3.length,true)::(EQ (0+n1+n2+n3),true)::(false,false)::[])))))),[],.val false [.sx 7 (0+n1+n2+n3) 1],KX 7 (AJ7 o1 n1 o2 n2 o3 n3 x1 x2 x3)):=dj
theorem Agy {o1 n1 m1 o2 n2 m2 o3 n3 m3:Nat} {x1 x2 x3:dn} (h1:o1+n1≤x1.length) (h2:o2+n2≤x2.length) (h3:o3+n3≤x3.length) (hn:n1+n2+n3≤35184372088832):Ab dm 37 [AR 0 0 3 3] (zV o1 n1 m1 o2 n2 m2 o3 n3 m3 x1 x2 x3) 4 [] (.val false [.sx 7 (n1+n2+n3) 1]) (KX 7 (AA x1 o1 n1++AA x2 o2 n2++AA x3 o3 n3)):=by
 have w1:=HB h1;have w2:=HB h2;have w3:=HB h3;have e1:wI (0+(n1:Int))=(n1:Nat):=by rw [Au dk];omega
 have e2:=TH (a:=n1) (b:=n2) dk
 have e3:=TH (a:=n1+n2) (b:=n3) dk
 have eA:jI n1 n2 n3=((n1+n2+n3:Nat):Int):=by unfold jI;rw [e1,e2,e3]
 have l1:=w1;have l2:=L3 l1 w2;have l3:=L3 l2 w3;have q2:(AA x1 o1 n1).take (0+n1)++AA x2 o2 n2=AA x1 o1 n1++AA x2 o2 n2:=by rw [show 0+n1=n1 by omega,GC l1]
 have q3:((AA x1 o1 n1).take (0+n1)++AA x2 o2 n2).take (0+n1+n2)++AA x3 o3 n3=AA x1 o1 n1++AA x2 o2 n2++AA x3 o3 n3:=by rw [q2,show 0+n1+n2=n1+n2 by omega,GC l2]
 have eY:AJ7 o1 n1 o2 n2 o3 n3 x1 x2 x3=AA x1 o1 n1++AA x2 o2 n2++AA x3 o3 n3:=q3
 have eL:0+n1+n2+n3=n1+n2+n3:=dk
 refine A7 (gv:=fk) func37 dj dj fun β0 w0 hb=>?_
 have:=Ay (P:=dm) (n:=ccF.ntmps) (β0:=β0) (w0:=w0) (W:=[]) jF AB func37 (Agx o1 n1 m1 o2 n2 m2 o3 n3 m3 x1 x2 x3) ?_ (AS dj) hb jb
 ·rw [eY,eL] at this;exact this
 ·rw [eA];simp only [e1,e2,e3,jG];exact AI 3 ⟨HC dk,rfl,AI 2 ⟨HC dk,rfl,AI 2 ⟨HC dk,rfl,rfl,jc ⟨dk,dk⟩,AI 4 ⟨jh h1,EZ dk,AI 2 ⟨jh (by rw [w1];omega),jh h2,EZ dk,AI 2 ⟨jh (by rw [q2,l2];omega),jh h3,EZ dk,rfl,trivial⟩⟩⟩⟩⟩⟩
noncomputable def zW (o1 n1 m1 o2 n2 m2 o3 n3 m3 o4 n4 m4:Nat) (x1 x2 x3 x4:dn):Heap:=[(0,some (Ak [.sl 1 o1 n1 m1,.sl 2 o2 n2 m2,.sl 3 o3 n3 m3,.sl 4 o4 n4 m4])),(1,some (Ak [.seq .u8 x1])),(2,some (Ak [.seq .u8 x2])),(3,some (Ak [.seq .u8 x3])),(4,some (Ak [.seq .u8 x4]))]
noncomputable def Agz (o1 n1 m1 o2 n2 m2 o3 n3 m3 o4 n4 m4:Nat) (x1 x2 x3 x4:dn):gq:=Aj ccF [AR 0 0 4 4] (zW o1 n1 m1 o2 n2 m2 o3 n3 m3 o4 n4 m4 x1 x2 x3 x4) 5 fl
def jJ (n1 n2 n3 n4:Nat):Int:=wI (wI (wI (wI (0+(n1:Int))+(n2:Int))+(n3:Int))+(n4:Int))
def AJ8 (o1 n1 o2 n2 o3 n3 o4 n4:Nat) (x1 x2 x3 x4:dn):dn:=(((AA x1 o1 n1).take (0+n1)++AA x2 o2 n2).take (0+n1+n2)++AA x3 o3 n3).take (0+n1+n2+n3)++AA x4 o4 n4
theorem Ag0 (o1 n1 m1 o2 n2 m2 o3 n3 m3 o4 n4 m4:Nat) (x1 x2 x3 x4:dn):AT dm oSp ccF 400 5 [9] (Agz o1 n1 m1 o2 n2 m2 o3 n3 m3 o4 n4 m4 x1 x2 x3 x4)=some (tt 3 ((AL .i64 n1,true)::(decide (wI (0+(n1:Int))<0),false)::tt 2 ((AL .i64 n2,true)::(decide (wI (wI (0+(n1:Int))+(n2:Int))<0),false)::tt 2 ((AL .i64 n3,true)::(decide (wI (wI (wI (0+(n1:Int))+(n2:Int))+(n3:Int))<0),false)::tt 2 ((AL .i64 n4,true)::(decide (wI (wI (wI (wI (0+(n1:Int))+(n2:Int))+(n3:Int))+(n4:Int))<0),false)::(false,false)::(decide (0≤jJ n1 n2 n3 n4∧jJ n1 n2 n3 n4≤35184372088832),true)::tt 4 ((Nat.ble (o1+n1) x1.length,true)::(EQ (0+n1),true)::tt 2 ((Nat.ble (0+n1) (AA x1 o1 n1).length,true)::(Nat.ble (o2+n2) x2.length,true)::(EQ (0+n1+n2),true)::tt 2 ((Nat.ble (0+n1+n2) ((AA x1 o1 n1).take (0+n1)++AA x2 o2 n2).length,true)::(Nat.ble (o3+n3) x3.length,true)::(EQ (0+n1+n2+n3),true)::tt 2 ((Nat.ble (0+n1+n2+n3) (((AA x1 o1 n1).take (0+n1)++AA x2 o2 n2).take (0+n1+n2)++AA x3 o3 n3).length,true)::(Nat.ble (o4+n4) x4.length,true)::(EQ (0+n1+n2+n3+n4),true)::(false,false)::[])))))))),[],.val false [.sx 9 (0+n1+n2+n3+n4) 1],KX 9 (AJ8 o1 n1 o2 n2 o3 n3 o4 n4 x1 x2 x3 x4)):=dj
theorem Ag1 {o1 n1 m1 o2 n2 m2 o3 n3 m3 o4 n4 m4:Nat} {x1 x2 x3 x4:dn} (h1:o1+n1≤x1.length) (h2:o2+n2≤x2.length) (h3:o3+n3≤x3.length) (h4:o4+n4≤x4.length) (hn:n1+n2+n3+n4≤35184372088832):Ab dm 37 [AR 0 0 4 4] (zW o1 n1 m1 o2 n2 m2 o3 n3 m3 o4 n4 m4 x1 x2 x3 x4) 5 [] (.val false [.sx 9 (n1+n2+n3+n4) 1]) (KX 9 (AA x1 o1 n1++AA x2 o2 n2++AA x3 o3 n3++AA x4 o4 n4)):=by
 have w1:=HB h1;have w2:=HB h2;have w3:=HB h3;have w4:=HB h4;have e1:wI (0+(n1:Int))=(n1:Nat):=by rw [Au dk];omega
 have e2:=TH (a:=n1) (b:=n2) dk
 have e3:=TH (a:=n1+n2) (b:=n3) dk
 have e4:=TH (a:=n1+n2+n3) (b:=n4) dk
 have eA:jJ n1 n2 n3 n4=((n1+n2+n3+n4:Nat):Int):=by unfold jJ;rw [e1,e2,e3,e4]
 have l1:=w1;have l2:=L3 l1 w2;have l3:=L3 l2 w3;have l4:=L3 l3 w4;have q2:(AA x1 o1 n1).take (0+n1)++AA x2 o2 n2=AA x1 o1 n1++AA x2 o2 n2:=by rw [show 0+n1=n1 by omega,GC l1]
 have q3:((AA x1 o1 n1).take (0+n1)++AA x2 o2 n2).take (0+n1+n2)++AA x3 o3 n3=AA x1 o1 n1++AA x2 o2 n2++AA x3 o3 n3:=by rw [q2,show 0+n1+n2=n1+n2 by omega,GC l2]
 have q4:(((AA x1 o1 n1).take (0+n1)++AA x2 o2 n2).take (0+n1+n2)++AA x3 o3 n3).take (0+n1+n2+n3)++AA x4 o4 n4=AA x1 o1 n1++AA x2 o2 n2++AA x3 o3 n3++AA x4 o4 n4:=by rw [q3,show 0+n1+n2+n3=n1+n2+n3 by omega,GC l3]
 have eY:AJ8 o1 n1 o2 n2 o3 n3 o4 n4 x1 x2 x3 x4=AA x1 o1 n1++AA x2 o2 n2++AA x3 o3 n3++AA x4 o4 n4:=q4
 have eL:0+n1+n2+n3+n4=n1+n2+n3+n4:=dk
 refine A7 (gv:=fl) func37 dj dj fun β0 w0 hb=>?_
 have:=Ay (P:=dm) (n:=ccF.ntmps) (β0:=β0) (w0:=w0) (W:=[]) jF AB func37 (Ag0 o1 n1 m1 o2 n2 m2 o3 n3 m3 o4 n4 m4 x1 x2 x3 x4) ?_ (AS dj) hb jb
 ·rw [eY,eL] at this;exact this
 ·rw [eA];simp only [e1,e2,e3,e4,jG];exact AI 3 ⟨HC dk,rfl,AI 2 ⟨HC dk,rfl,AI 2 ⟨HC dk,rfl,AI 2 ⟨HC dk,rfl,rfl,jc ⟨dk,dk⟩,AI 4 ⟨jh h1,EZ dk,AI 2 ⟨jh (by rw [w1];omega),jh h2,EZ dk,AI 2 ⟨jh (by rw [q2,l2];omega),jh h3,EZ dk,AI 2 ⟨jh (by rw [q3,l3];omega),jh h4,EZ dk,rfl,trivial⟩⟩⟩⟩⟩⟩⟩⟩
noncomputable def zX (o1 n1 m1 o2 n2 m2:Nat) (x1 x2:dn):Heap:=[(0,some (Ak [.v (.slice none 0 0),.sl 1 o1 n1 m1,.sl 2 o2 n2 m2])),(1,some (Ak [.seq .u8 x1])),(2,some (Ak [.seq .u8 x2]))]
noncomputable def Ag2 (o1 n1 m1 o2 n2 m2:Nat) (x1 x2:dn):gq:=Aj ccF [AR 0 0 3 3] (zX o1 n1 m1 o2 n2 m2 x1 x2) 3 fk
def jK (n1 n2:Nat):Int:=wI (wI (wI (0+0)+(n1:Int))+(n2:Int))
def AJ9 (o1 n1 o2 n2:Nat) (x1 x2:dn):dn:=(AA x1 o1 n1).take (0+n1)++AA x2 o2 n2
theorem Ag3 (o1 n1 m1 o2 n2 m2:Nat) (x1 x2:dn):AT dm oSp ccF 400 3 [6] (Ag2 o1 n1 m1 o2 n2 m2 x1 x2)=some (tt 4 ((false,false)::tt 2 ((AL .i64 n1,true)::(decide (wI (wI (0+0)+(n1:Int))<0),false)::tt 2 ((AL .i64 n2,true)::(decide (wI (wI (wI (0+0)+(n1:Int))+(n2:Int))<0),false)::(false,false)::(decide (0≤jK n1 n2∧jK n1 n2≤35184372088832),true)::tt 9 ((Nat.ble (o1+n1) x1.length,true)::(EQ (0+n1),true)::tt 2 ((Nat.ble (0+n1) (AA x1 o1 n1).length,true)::(Nat.ble (o2+n2) x2.length,true)::(EQ (0+n1+n2),true)::(false,false)::[]))))),[],.val false [.sx 6 (0+n1+n2) 1],KX 6 (AJ9 o1 n1 o2 n2 x1 x2)):=dj
theorem Ag4 {o1 n1 m1 o2 n2 m2:Nat} {x1 x2:dn} (h1:o1+n1≤x1.length) (h2:o2+n2≤x2.length) (hn:n1+n2≤35184372088832):Ab dm 37 [AR 0 0 3 3] (zX o1 n1 m1 o2 n2 m2 x1 x2) 3 [] (.val false [.sx 6 (n1+n2) 1]) (KX 6 (AA x1 o1 n1++AA x2 o2 n2)):=by
 have w1:=HB h1;have w2:=HB h2;have e0:wI ((0:Int)+0)=0:=rfl
 have e1:wI (0+(n1:Int))=(n1:Nat):=by rw [Au dk];omega
 have e2:=TH (a:=n1) (b:=n2) dk
 have eA:jK n1 n2=((n1+n2:Nat):Int):=by unfold jK;rw [e0,e1,e2]
 have l1:=w1;have l2:=L3 l1 w2;have q2:(AA x1 o1 n1).take (0+n1)++AA x2 o2 n2=AA x1 o1 n1++AA x2 o2 n2:=by rw [show 0+n1=n1 by omega,GC l1]
 have eY:AJ9 o1 n1 o2 n2 x1 x2=AA x1 o1 n1++AA x2 o2 n2:=q2
 have eL:0+n1+n2=n1+n2:=dk
 refine A7 (gv:=fk) func37 dj dj fun β0 w0 hb=>?_
 have:=Ay (P:=dm) (n:=ccF.ntmps) (β0:=β0) (w0:=w0) (W:=[]) jF AB func37 (Ag3 o1 n1 m1 o2 n2 m2 x1 x2) ?_ (AS dj) hb jb
 ·rw [eY,eL] at this;exact this
 ·rw [eA];simp only [e0,e1,e2,jG];exact AI 4 ⟨rfl,AI 2 ⟨HC dk,rfl,AI 2 ⟨HC dk,rfl,rfl,jc ⟨dk,dk⟩,AI 9 ⟨jh h1,EZ dk,AI 2 ⟨jh (by rw [w1];omega),jh h2,EZ dk,rfl,trivial⟩⟩⟩⟩⟩
open Ex Num
theorem NH {β:Env} {H:Heap} {w:World} {ρ:List Nat} {bs:List gt} (g:Ex.Good β H w) (h:∀ j d,bs[j]? = some d→d.ty=Bu∧DS (A9 β ρ bs.length) d j w):Ex.Good (A9 β ρ bs.length) (LF 0 bs) w:=by
 refine ⟨fun j blk hj=>?_,fun i j B n n' h1 _ _ _=>?_,fun j B n hj=>?_⟩
 ·obtain ⟨_,hj⟩:=PV hj;rw [pc] at hj;exact (h j blk hj).2
 ·obtain ⟨d,hd,hr⟩:=GZ h1;obtain ⟨_,hd⟩:=PV hd;rw [pc] at hd;exact absurd (h i d hd).1 hr
 ·unfold A9 at hj;split at hj
  ·exact g.lt _ _ _ hj
  ·cases hj
theorem L4 {β:Env} {C:Ch} {k gu n:Nat} {l:List Value} (h:DZ (.val false [C])=some (k,gu,n)) (hr:BM β C l):∃ m,BM β (.sl k gu n m) l:=by
 have h1:∃ u,l=[u]:=by
  unfold DZ at h;split at h
  ·rename_i he;injection he with _ he;injection he with he _;subst he;rcases hr with ⟨B,q,_,e⟩ | ⟨_,_,_,_,e⟩ | ⟨_,_,_,_,_,_,e⟩<;>exact ⟨_,e⟩
  ·rename_i he;injection he with _ he;injection he with he _;subst he;rcases hr with ⟨B,q,cap,_,e,_⟩ | ⟨_,_,e⟩<;>exact ⟨_,e⟩
  ·cases h
 obtain ⟨u,rfl⟩:=h1;obtain ⟨m,hm⟩:=FE (u:=u) h (Aw hr)
 exact ⟨m,Az hm⟩
theorem L5 {β:Env} {k j gu n m:Nat} {ρ:List Nat} {k0:Nat} {l:List Value} (hj:j<k0) (hn:nth ρ j=k) (h:BM β (.sl k gu n m) l):BM (A9 β ρ k0) (.sl j gu n m) l:=by
 have e:A9 β ρ k0 j=β k:=by rw [FK hj,hn]
 rcases h with ⟨B,q,q1,q2⟩ | ⟨q1,q2⟩ | ⟨q1,q2⟩
 ·exact .inl ⟨B,q,by rw [e];exact q1,q2⟩
 ·exact .inr (.inl ⟨by rw [e];exact q1,q2⟩)
 ·exact .inr (.inr ⟨by rw [e];exact q1,q2⟩)
theorem ID {β:Env} {H:Heap} {w:World} {k j ty:Nat} {cs:List Ch} {o:Bool} {xs:dn} {ρ:List Nat} {k0:Nat} (hg:Ex.Good β H w) (hk:AG H k=some ⟨ty,cs,o⟩) (hx:A8 .u8 cs=some xs) (hj:j<k0) (hn:nth ρ j=k):DS (A9 β ρ k0) (Ak [.seq .u8 xs]) j w:=by
 refine UJ (hg.heap _ _ hk) (by rw [FK hj,hn]) (.inl ⟨rfl,rfl,nofun⟩) fun l h=>?_
 obtain ⟨q1,q2⟩:=DU hx h;exact ⟨_,[],⟨q1,q2⟩,rfl,by simp⟩
theorem jL {β:Env} {H:Heap} {w:World} {k ty:Nat} {c:Ch} {cs:List Ch} {o:Bool} (hg:Ex.Good β H w) (hk:AG H k=some ⟨ty,c::cs,o⟩) (hz:FF c=1) (hw:IS [c]=true):∃ l,AQ β (c::cs) l∧∀ (β':Env) (cs':List Ch) (j:Nat),β' j=β k→AQ β' cs' l→DS β' (Ak cs') j w:=by
 rcases hg.heap _ _ hk with ⟨B,n,l,t,pre,ty',fz,q1,q2,q3,q4,_⟩ | ⟨_,_,_,q3⟩ | ⟨B,l,es,q,q1,q2,⟨l1,l2,q3,q5,q6⟩,q4⟩
 ·exact ⟨l,q2,fun β' cs' j he hr=>.inl ⟨B,n,l,t,pre,ty',fz,he.trans q1,hr,q3,q4,fun h=>absurd rfl h⟩⟩
 ·have:=Tj q3
  simp only [ME,hz,List.length_nil] at this;omega
 ·exfalso
  have h1:=Qy q3;rw [hz] at h1;match l1,h1,q6 with
  | [x],_,q6 =>
   injection q6 with q6 _;subst q6;exact Zi hw ⟨_,[],q3,rfl,rfl⟩ (qg ..)
def JX (H:Heap) (c:Ch):Option (Nat×Nat×Nat×dn):=match DZ (.val false [c]) with
 | some (k,gu,n)=>match AG H k with
  | some ⟨_,cs,_⟩=>match A8 .u8 cs with
   | some xs=>some (k,gu,n,xs)
   | none=>none
  | none=>none
 | none=>none
theorem L6 {H:Heap} {c:Ch} {k gu n:Nat} {xs:dn} (h:JX H c=some (k,gu,n,xs)):DZ (.val false [c])=some (k,gu,n)∧∃ ty cs o,AG H k=some ⟨ty,cs,o⟩∧A8 .u8 cs=some xs:=by
 unfold JX at h;split at h;case h_2=>cases h
 rename_i k' gw n' h1;split at h;case h_2=>cases h
 rename_i ty cs o h2;split at h;case h_2=>cases h
 rename_i xs' h3;injection h with h;injection h with e1 h;injection h with e2 h;injection h with e3 e4;subst e1;subst e2;subst e3;subst e4;exact ⟨h1,ty,cs,o,h2,h3⟩
theorem zY {c:Ch} {x:Nat×Nat×Nat} (h:DZ (.val false [c])=some x):FF c=1:=by
 unfold DZ at h;split at h
 ·rename_i he;injection he with _ he;injection he with he _;subst he;rfl
 ·rename_i he;injection he with _ he;injection he with he _;subst he;rfl
 ·cases h
theorem zZ {c:Ch} {x:Nat×Nat×Nat} (h:DZ (.val false [c])=some x):IS [c]=true:=by
 unfold DZ at h;split at h
 ·rename_i he;injection he with _ he;injection he with he _;subst he;rfl
 ·rename_i he;injection he with _ he;injection he with he _;subst he;rfl
 ·cases h
def z4 (H:Heap) (k fr:Nat) (gv:List Bool) (c1 c2:Ch):Option R:=match JX H c1,JX H c2 with
 | some (k1,o1,n1,x1),some (k2,o2,n2,x2)=>some (BR [k,k1,k2] 3 fr 3 [] (.val false [.sx 5 (n1+n2) 1]) (KX 5 (AA x1 o1 n1++AA x2 o2 n2)) [(Nat.ble (o1+n1) x1.length,true),(Nat.ble (o2+n2) x2.length,true),(Nat.ble (n1+n2) 35184372088832,true)] gv)
 | _,_=>none
def z5 (H:Heap) (k fr:Nat) (gv:List Bool) (c1 c2 c3:Ch):Option R:=match JX H c1,JX H c2,JX H c3 with
 | some (k1,o1,n1,x1),some (k2,o2,n2,x2),some (k3,o3,n3,x3)=>some (BR [k,k1,k2,k3] 4 fr 4 [] (.val false [.sx 7 (n1+n2+n3) 1]) (KX 7 (AA x1 o1 n1++AA x2 o2 n2++AA x3 o3 n3)) [(Nat.ble (o1+n1) x1.length,true),(Nat.ble (o2+n2) x2.length,true),(Nat.ble (o3+n3) x3.length,true),(Nat.ble (n1+n2+n3) 35184372088832,true)] gv)
 | _,_,_=>none
def z7 (H:Heap) (k fr:Nat) (gv:List Bool) (c1 c2 c3 c4:Ch):Option R:=match JX H c1,JX H c2,JX H c3,JX H c4 with
 | some (k1,o1,n1,x1),some (k2,o2,n2,x2),some (k3,o3,n3,x3),some (k4,o4,n4,x4)=>some (BR [k,k1,k2,k3,k4] 5 fr 5 [] (.val false [.sx 9 (n1+n2+n3+n4) 1]) (KX 9 (AA x1 o1 n1++AA x2 o2 n2++AA x3 o3 n3++AA x4 o4 n4)) [(Nat.ble (o1+n1) x1.length,true),(Nat.ble (o2+n2) x2.length,true),(Nat.ble (o3+n3) x3.length,true),(Nat.ble (o4+n4) x4.length,true),(Nat.ble (n1+n2+n3+n4) 35184372088832,true)] gv)
 | _,_,_,_=>none
def z8 (H:Heap) (k fr:Nat) (gv:List Bool) (c2 c3:Ch):Option R:=match JX H c2,JX H c3 with
 | some (k1,o1,n1,x1),some (k2,o2,n2,x2)=>some (BR [k,k1,k2] 3 fr 4 [] (.val false [.sx 6 (n1+n2) 1]) (KX 6 (AA x1 o1 n1++AA x2 o2 n2)) [(Nat.ble (o1+n1) x1.length,true),(Nat.ble (o2+n2) x2.length,true),(Nat.ble (n1+n2) 35184372088832,true)] gv)
 | _,_=>none
def ccSp:ASpec:=fun args H fr gv=>match args with
 | [.val false [.sl k 0 n m]]=>match AG H k,Nat.beq m n with
  | some ⟨_,cs,_⟩,true=>match cs with
   | [c1,c2]=>match Nat.beq n 2 with
    | true=>z4 H k fr gv c1 c2
    | false=>none
   | [c1,c2,c3]=>match Nat.beq n 3,c1 with
    | true,.v (.slice none 0 0)=>z8 H k fr gv c2 c3
    | true,c1=>z5 H k fr gv c1 c2 c3
    | _,_=>none
   | [c1,c2,c3,c4]=>match Nat.beq n 4 with
    | true=>z7 H k fr gv c1 c2 c3 c4
    | false=>none
   | _=>none
  | _,_=>none
 | _=>none
theorem Ag5 {H:Heap} {k fr ty:Nat} {gv:List Bool} {c1 c2:Ch} {o:Bool} {r:R} (hk:AG H k=some ⟨ty,[c1,c2],o⟩) (hs:z4 H k fr gv c1 c2=some r) :
  ∃ (ρ:List Nat) (k0 nw:Nat) (W:List Nat) (val:AV) (H1:Heap) (conds:dp) (path':List Bool),
   r=BR ρ k0 fr nw W val H1 conds path'∧(∀ β us w,BI β [AR k 0 2 2] us→Ex.Good β H w→AO conds→∃ ic H0,Ab dm 37 ic H0 k0 W val H1∧EU k0 nw W val H1=true∧BI (A9 β ρ k0) ic us∧Ex.Good (A9 β ρ k0) H0 w∧(∀ k,k<k0→∃ X,β (nth ρ k)=some X)):=by
 unfold z4 at hs;split at hs;case h_2=>cases hs
 rename_i k1 o1 n1 x1 k2 o2 n2 x2 a1 a2;injection hs with hs;obtain ⟨s1,ty1,cs1,p1,g1,t1⟩:=L6 a1;obtain ⟨s2,ty2,cs2,p2,g2,t2⟩:=L6 a2;refine ⟨[k,k1,k2],3,3,[],_,_,_,gv,hs.symm,fun β us w ha hg hc=>?_⟩
 obtain ⟨b1,b2,hS,_⟩:=hc;obtain ⟨u1,iu,r1,ha,rfl⟩:=ha;obtain ⟨l,hl,hv⟩:=jL hg hk (zY s1) (zZ s1)
 obtain ⟨v1,l1,d1,f1,rfl⟩:=hl;obtain ⟨v2,l2,d2,f2,rfl⟩:=f1;obtain ⟨m1,d1⟩:=L4 s1 d1;obtain ⟨m2,d2⟩:=L4 s2 d2;refine ⟨[AR 0 0 2 2],zU o1 n1 m1 o2 n2 m2 x1 x2,Agv (jf b1) (jf b2) (jf hS),rfl,⟨u1,_,Cp dk rfl r1,ha,rfl⟩,NH (bs:=[Ak [.sl 1 o1 n1 m1,.sl 2 o2 n2 m2],Ak [.seq .u8 x1],Ak [.seq .u8 x2]]) hg fun j d hj=>?_,fun j hj=>?_⟩
 ·match j,hj with
  | 0,hj=>injection hj with hj;subst hj;exact ⟨rfl,hv _ _ _ (FK (by show 0<3;decide)) ⟨_,_,L5 (by show 1<3;decide) rfl d1,⟨_,_,L5 (by show 2<3;decide) rfl d2,f2,rfl⟩,rfl⟩⟩
  | 1,hj=>injection hj with hj;subst hj;exact ⟨rfl,ID hg g1 t1 (by show 1<3;decide) rfl⟩
  | 2,hj=>injection hj with hj;subst hj;exact ⟨rfl,ID hg g2 t2 (by show 2<3;decide) rfl⟩
 ·match j,hj with
  | 0,_=>exact CS (hg.heap _ _ hk)
  | 1,_=>exact CS (hg.heap _ _ g1)
  | 2,_=>exact CS (hg.heap _ _ g2)
theorem Ag6 {H:Heap} {k fr ty:Nat} {gv:List Bool} {c1 c2 c3:Ch} {o:Bool} {r:R} (hk:AG H k=some ⟨ty,[c1,c2,c3],o⟩) (hs:z5 H k fr gv c1 c2 c3=some r) :
  ∃ (ρ:List Nat) (k0 nw:Nat) (W:List Nat) (val:AV) (H1:Heap) (conds:dp) (path':List Bool),
   r=BR ρ k0 fr nw W val H1 conds path'∧(∀ β us w,BI β [AR k 0 3 3] us→Ex.Good β H w→AO conds→∃ ic H0,Ab dm 37 ic H0 k0 W val H1∧EU k0 nw W val H1=true∧BI (A9 β ρ k0) ic us∧Ex.Good (A9 β ρ k0) H0 w∧(∀ k,k<k0→∃ X,β (nth ρ k)=some X)):=by
 unfold z5 at hs;split at hs;case h_2=>cases hs
 rename_i k1 o1 n1 x1 k2 o2 n2 x2 k3 o3 n3 x3 a1 a2 a3;injection hs with hs;obtain ⟨s1,ty1,cs1,p1,g1,t1⟩:=L6 a1;obtain ⟨s2,ty2,cs2,p2,g2,t2⟩:=L6 a2;obtain ⟨s3,ty3,cs3,p3,g3,t3⟩:=L6 a3;refine ⟨[k,k1,k2,k3],4,4,[],_,_,_,gv,hs.symm,fun β us w ha hg hc=>?_⟩
 obtain ⟨b1,b2,b3,hS,_⟩:=hc;obtain ⟨u1,iu,r1,ha,rfl⟩:=ha;obtain ⟨l,hl,hv⟩:=jL hg hk (zY s1) (zZ s1)
 obtain ⟨v1,l1,d1,f1,rfl⟩:=hl;obtain ⟨v2,l2,d2,f2,rfl⟩:=f1;obtain ⟨v3,l3,d3,f3,rfl⟩:=f2;obtain ⟨m1,d1⟩:=L4 s1 d1;obtain ⟨m2,d2⟩:=L4 s2 d2;obtain ⟨m3,d3⟩:=L4 s3 d3;refine ⟨[AR 0 0 3 3],zV o1 n1 m1 o2 n2 m2 o3 n3 m3 x1 x2 x3,Agy (jf b1) (jf b2) (jf b3) (jf hS),rfl,⟨u1,_,Cp dk rfl r1,ha,rfl⟩,NH (bs:=[Ak [.sl 1 o1 n1 m1,.sl 2 o2 n2 m2,.sl 3 o3 n3 m3],Ak [.seq .u8 x1],Ak [.seq .u8 x2],Ak [.seq .u8 x3]]) hg fun j d hj=>?_,fun j hj=>?_⟩
 ·match j,hj with
  | 0,hj=>injection hj with hj;subst hj;exact ⟨rfl,hv _ _ _ (FK (by show 0<4;decide)) ⟨_,_,L5 (by show 1<4;decide) rfl d1,⟨_,_,L5 (by show 2<4;decide) rfl d2,⟨_,_,L5 (by show 3<4;decide) rfl d3,f3,rfl⟩,rfl⟩,rfl⟩⟩
  | 1,hj=>injection hj with hj;subst hj;exact ⟨rfl,ID hg g1 t1 (by show 1<4;decide) rfl⟩
  | 2,hj=>injection hj with hj;subst hj;exact ⟨rfl,ID hg g2 t2 (by show 2<4;decide) rfl⟩
  | 3,hj=>injection hj with hj;subst hj;exact ⟨rfl,ID hg g3 t3 (by show 3<4;decide) rfl⟩
 ·match j,hj with
  | 0,_=>exact CS (hg.heap _ _ hk)
  | 1,_=>exact CS (hg.heap _ _ g1)
  | 2,_=>exact CS (hg.heap _ _ g2)
  | 3,_=>exact CS (hg.heap _ _ g3)
theorem Ag7 {H:Heap} {k fr ty:Nat} {gv:List Bool} {c1 c2 c3 c4:Ch} {o:Bool} {r:R} (hk:AG H k=some ⟨ty,[c1,c2,c3,c4],o⟩) (hs:z7 H k fr gv c1 c2 c3 c4=some r) :
  ∃ (ρ:List Nat) (k0 nw:Nat) (W:List Nat) (val:AV) (H1:Heap) (conds:dp) (path':List Bool),
   r=BR ρ k0 fr nw W val H1 conds path'∧(∀ β us w,BI β [AR k 0 4 4] us→Ex.Good β H w→AO conds→∃ ic H0,Ab dm 37 ic H0 k0 W val H1∧EU k0 nw W val H1=true∧BI (A9 β ρ k0) ic us∧Ex.Good (A9 β ρ k0) H0 w∧(∀ k,k<k0→∃ X,β (nth ρ k)=some X)):=by
 unfold z7 at hs;split at hs;case h_2=>cases hs
 rename_i k1 o1 n1 x1 k2 o2 n2 x2 k3 o3 n3 x3 k4 o4 n4 x4 a1 a2 a3 a4;injection hs with hs;obtain ⟨s1,ty1,cs1,p1,g1,t1⟩:=L6 a1;obtain ⟨s2,ty2,cs2,p2,g2,t2⟩:=L6 a2;obtain ⟨s3,ty3,cs3,p3,g3,t3⟩:=L6 a3;obtain ⟨s4,ty4,cs4,p4,g4,t4⟩:=L6 a4;refine ⟨[k,k1,k2,k3,k4],5,5,[],_,_,_,gv,hs.symm,fun β us w ha hg hc=>?_⟩
 obtain ⟨b1,b2,b3,b4,hS,_⟩:=hc;obtain ⟨u1,iu,r1,ha,rfl⟩:=ha;obtain ⟨l,hl,hv⟩:=jL hg hk (zY s1) (zZ s1)
 obtain ⟨v1,l1,d1,f1,rfl⟩:=hl;obtain ⟨v2,l2,d2,f2,rfl⟩:=f1;obtain ⟨v3,l3,d3,f3,rfl⟩:=f2;obtain ⟨v4,l4,d4,f4,rfl⟩:=f3;obtain ⟨m1,d1⟩:=L4 s1 d1;obtain ⟨m2,d2⟩:=L4 s2 d2;obtain ⟨m3,d3⟩:=L4 s3 d3;obtain ⟨m4,d4⟩:=L4 s4 d4;refine ⟨[AR 0 0 4 4],zW o1 n1 m1 o2 n2 m2 o3 n3 m3 o4 n4 m4 x1 x2 x3 x4,Ag1 (jf b1) (jf b2) (jf b3) (jf b4) (jf hS),rfl,⟨u1,_,Cp dk rfl r1,ha,rfl⟩,NH (bs:=[Ak [.sl 1 o1 n1 m1,.sl 2 o2 n2 m2,.sl 3 o3 n3 m3,.sl 4 o4 n4 m4],Ak [.seq .u8 x1],Ak [.seq .u8 x2],Ak [.seq .u8 x3],Ak [.seq .u8 x4]]) hg fun j d hj=>?_,fun j hj=>?_⟩
 ·match j,hj with
  | 0,hj=>injection hj with hj;subst hj;exact ⟨rfl,hv _ _ _ (FK (by show 0<5;decide)) ⟨_,_,L5 (by show 1<5;decide) rfl d1,⟨_,_,L5 (by show 2<5;decide) rfl d2,⟨_,_,L5 (by show 3<5;decide) rfl d3,⟨_,_,L5 (by show 4<5;decide) rfl d4,f4,rfl⟩,rfl⟩,rfl⟩,rfl⟩⟩
  | 1,hj=>injection hj with hj;subst hj;exact ⟨rfl,ID hg g1 t1 (by show 1<5;decide) rfl⟩
  | 2,hj=>injection hj with hj;subst hj;exact ⟨rfl,ID hg g2 t2 (by show 2<5;decide) rfl⟩
  | 3,hj=>injection hj with hj;subst hj;exact ⟨rfl,ID hg g3 t3 (by show 3<5;decide) rfl⟩
  | 4,hj=>injection hj with hj;subst hj;exact ⟨rfl,ID hg g4 t4 (by show 4<5;decide) rfl⟩
 ·match j,hj with
  | 0,_=>exact CS (hg.heap _ _ hk)
  | 1,_=>exact CS (hg.heap _ _ g1)
  | 2,_=>exact CS (hg.heap _ _ g2)
  | 3,_=>exact CS (hg.heap _ _ g3)
  | 4,_=>exact CS (hg.heap _ _ g4)
theorem Ag8 {H:Heap} {k fr ty:Nat} {gv:List Bool} {c2 c3:Ch} {o:Bool} {r:R} (hk:AG H k=some ⟨ty,[.v (.slice none 0 0),c2,c3],o⟩) (hs:z8 H k fr gv c2 c3=some r) :
  ∃ (ρ:List Nat) (k0 nw:Nat) (W:List Nat) (val:AV) (H1:Heap) (conds:dp) (path':List Bool),
   r=BR ρ k0 fr nw W val H1 conds path'∧(∀ β us w,BI β [AR k 0 3 3] us→Ex.Good β H w→AO conds→∃ ic H0,Ab dm 37 ic H0 k0 W val H1∧EU k0 nw W val H1=true∧BI (A9 β ρ k0) ic us∧Ex.Good (A9 β ρ k0) H0 w∧(∀ k,k<k0→∃ X,β (nth ρ k)=some X)):=by
 unfold z8 at hs;split at hs;case h_2=>cases hs
 rename_i k1 o1 n1 x1 k2 o2 n2 x2 a1 a2;injection hs with hs;obtain ⟨s1,ty1,cs1,p1,g1,t1⟩:=L6 a1;obtain ⟨s2,ty2,cs2,p2,g2,t2⟩:=L6 a2;refine ⟨[k,k1,k2],3,4,[],_,_,_,gv,hs.symm,fun β us w ha hg hc=>?_⟩
 obtain ⟨b1,b2,hS,_⟩:=hc;obtain ⟨u1,iu,r1,ha,rfl⟩:=ha;obtain ⟨l,hl,hv⟩:=jL hg hk rfl rfl;obtain ⟨v1,l1,d1,f1,rfl⟩:=hl;obtain ⟨v2,l2,d2,f2,rfl⟩:=f1;obtain ⟨v3,l3,d3,f3,rfl⟩:=f2;obtain ⟨m1,d2⟩:=L4 s1 d2;obtain ⟨m2,d3⟩:=L4 s2 d3;refine ⟨[AR 0 0 3 3],zX o1 n1 m1 o2 n2 m2 x1 x2,Ag4 (jf b1) (jf b2) (jf hS),rfl,⟨u1,_,Cp dk rfl r1,ha,rfl⟩,NH (bs:=[Ak [.v (.slice none 0 0),.sl 1 o1 n1 m1,.sl 2 o2 n2 m2],Ak [.seq .u8 x1],Ak [.seq .u8 x2]]) hg fun j d hj=>?_,fun j hj=>?_⟩
 ·match j,hj with
  | 0,hj=>injection hj with hj;subst hj;exact ⟨rfl,hv _ _ _ (FK (by show 0<3;decide)) ⟨_,_,d1,⟨_,_,L5 (by show 1<3;decide) rfl d2,⟨_,_,L5 (by show 2<3;decide) rfl d3,f3,rfl⟩,rfl⟩,rfl⟩⟩
  | 1,hj=>injection hj with hj;subst hj;exact ⟨rfl,ID hg g1 t1 (by show 1<3;decide) rfl⟩
  | 2,hj=>injection hj with hj;subst hj;exact ⟨rfl,ID hg g2 t2 (by show 2<3;decide) rfl⟩
 ·match j,hj with
  | 0,_=>exact CS (hg.heap _ _ hk)
  | 1,_=>exact CS (hg.heap _ _ g1)
  | 2,_=>exact CS (hg.heap _ _ g2)
theorem Ag9:BJ dm 37 ccSp:=by
 refine Da func37 dj dj fun args H fr gv r hs=>?_
 unfold ccSp at hs;split at hs;case h_2=>cases hs
 rename_i k n m;split at hs;case h_2=>cases hs
 rename_i ty cs o hk hm;obtain rfl:=Ar.1 hm
 split at hs
 ·split at hs;case h_2=>cases hs
  rename_i hn;obtain rfl:=Ar.1 hn
  exact Ag5 hk hs
 ·split at hs
  ·rename_i hn;obtain rfl:=Ar.1 hn
   exact Ag8 hk hs
  ·rename_i hn _;obtain rfl:=Ar.1 hn
   exact Ag6 hk hs
  ·cases hs
 ·split at hs;case h_2=>cases hs
  rename_i hn;obtain rfl:=Ar.1 hn
  exact Ag7 hk hs
 ·cases hs
noncomputable def SSr:dr:=(37,ccSp)::SSp
theorem Ag_:AW dm SSr:=⟨Ag9,AJ5⟩
noncomputable def SSs0:dr:=SSr
theorem Ag':AW dm SSs0:=Ag_
noncomputable def SSs:dr:=SSs0
theorem AhA:AW dm SSs:=Ag'
theorem QU {l:dn} {n:Nat} (h:l.length=n):AA l 0 n=l:=by unfold AA;rw [pn];exact GC h
noncomputable def SSt0:dr:=SSs
theorem AhB:AW dm SSt0:=AhA
noncomputable def SSt:dr:=SSt0
theorem AhC:AW dm SSt:=AhB
noncomputable def SSu:dr:=SSt
theorem AhD:AW dm SSu:=AhC
noncomputable def SSv:dr:=SSu
theorem AhE:AW dm SSv:=AhD
noncomputable def SSw0:dr:=SSv
theorem AhF:AW dm SSw0:=AhE
noncomputable def SSw:dr:=SSw0
theorem AhG:AW dm SSw:=AhF
noncomputable def SSx0:dr:=SSw++SVb3
theorem AhH:AW dm SSx0:=KU AhG g5
def jM (gu n:Nat) (xs:dn):dn:=List.map (AF (Ao (AA xs gu n))) (List.range ((n+7) / 8))++[]
theorem AhI {gu n:Nat} {xs:dn} (hx:∀ d∈xs,0≤d∧d<256) (hl:gu+n≤xs.length):AK (AA (jM gu n xs) 0 ((n+7) / 8))=Ao (AA xs gu n):=by
 have e:jM gu n xs=ED (Ao (AA xs gu n)) ((n+7) / 8):=by unfold jM ED;rw [ku]
 rw [e,QU (by simp [ED]),AEo]
 have h:=UT (AA xs gu n) (DM hx)
 rw [HB hl,Nz] at h;exact kr h (oy dl dk)
noncomputable def SSx:dr:=SSx0
theorem AhJ:AW dm SSx:=AhH
noncomputable def SSy:dr:=SSx
theorem jN:AW dm SSy:=AhJ
noncomputable abbrev oSy:gr:=AH SSy KV
theorem AhK:gp dm oSy:=AJ jN BS
def z9 (val:Nat→dn→Nat→dn→AV) (hp:Nat→dn→Nat→dn→Heap) (nw:Nat) (cs:dn→dn→dp):ASpec:=fun args H fr gv=>match args with
 | [S,T]=>match DZ S,DZ T with
  | some (k,o,n),some (t,p,m)=>match AG H k,AG H t with
   | some ⟨_,ds,_⟩,some ⟨_,es,_⟩=>match A8 .u64 ds,A8 .u64 es with
    | some xs,some ys=>some (BR [k,t] 2 fr nw [] (val n (AA xs o n) m (AA ys p m)) (hp n (AA xs o n) m (AA ys p m)) ((Nat.ble (o+n) xs.length,true)::(Nat.ble (p+m) ys.length,true)::(Nat.ble n 17592186044415,true)::(Nat.ble m 17592186044415,true)::cs (AA xs o n) (AA ys p m)) gv)
    | _,_=>none
   | _,_=>none
  | _,_=>none
 | _=>none
theorem AhL {f:FuncId} {fn:Func} {val:Nat→dn→Nat→dn→AV} {hp:Nat→dn→Nat→dn→Heap} {nw:Nat} {cs:dn→dn→dp} (ip:dm.funcs[f]? = some fn) (hb:fn.body.isSome=true) (h_:fo fn)
  (hk:∀ n a m b,EU 2 nw [] (val n a m b) (hp n a m b)=true)
  (h:∀ (gu n m gw n' m':Nat) (xs ys:dn),(∀ d∈xs,0≤d∧d<18446744073709551616)→(∀ d∈ys,0≤d∧d<18446744073709551616)→gu+n≤xs.length→gw+n'≤ys.length→n≤17592186044415→n'≤17592186044415→AO (cs (AA xs gu n) (AA ys gw n')) →
   Ab dm f (J0 gu n m gw n' m') (Gx xs ys) 2 [] (val n (AA xs gu n) n' (AA ys gw n')) (hp n (AA xs gu n) n' (AA ys gw n'))):BJ dm f (z9 val hp nw cs):=by
 refine Da ip hb h_ fun args H fr gv r hs=>?_
 unfold z9 at hs;split at hs;case h_2=>cases hs
 rename_i S T;split at hs;case h_2=>cases hs
 rename_i k o n t p m hS hT;split at hs;case h_2=>cases hs
 rename_i ty ds op ty' es op' hk' ht';split at hs;case h_2=>cases hs
 rename_i xs ys hx hy;injection hs with hs;refine ⟨[k,t],2,nw,[],_,_,_,gv,hs.symm,fun β us w ha hg hc=>?_⟩
 obtain ⟨u1,iu,r1,⟨u2,iw,r2,ha,rfl⟩,rfl⟩:=ha;obtain ⟨m1,r1⟩:=FE hS r1;obtain ⟨m2,r2⟩:=FE hT r2;obtain ⟨g1,g1',g2,g3⟩:=bK hg hk' ht' hx hy;obtain ⟨c1,c2,c3,c4,c5⟩:=hc;exact ⟨_,_,h o n m1 p m m2 xs ys g1 g1' (jf c1) (jf c2) (jf c3) (jf c4) c5,hk _ _ _ _,⟨u1,_,Cp dk rfl r1,⟨u2,_,Cp dk rfl r2,ha,rfl⟩,rfl⟩,g2,g3⟩
def AhM:ASpec:=z9 (fun _ a _ b=>.val false [.v (.int .i64 (Et (AK a) (AK b)))]) (fun _ _ _ _=>[]) 0 (fun _ _=>[])
noncomputable def SYb0:dr:=(146,D9 AhM)::SSy
theorem AhN:AW dm SYb0:=⟨EV (AhL func146 dj dj (fun _ _ _ _=>by kernel_rfl) fun _ _ _ _ _ _ _ _ hx hy hl hl' hn hn' _=>AFL hx hy hl hl' (HC dk) (HC dk)),jN⟩
noncomputable def SYb:dr:=SYb0
theorem AhO:AW dm SYb:=AhN
open Ex Num Rg
open Sh (R av rd mo en mo_en)
noncomputable def SYd0:dr:=(SYb++(SVg++(SQt++SQg)))
theorem AhP:AW dm SYd0:=KU AhO (KU iC (KU AIX AIS))
noncomputable def SYd1:dr:=SYd0
theorem AhQ:AW dm SYd1:=AhP
noncomputable def SYd2:dr:=SYd1
theorem AJ_:AW dm SYd2:=AhQ
noncomputable def SYe:dr:=SYd2
theorem AhR:AW dm SYe:=AJ_
noncomputable def SYf0:dr:=SYe
theorem AhS:AW dm SYf0:=AhR
noncomputable def SYf1:dr:=SYf0
theorem AhT:AW dm SYf1:=AhS
noncomputable def SYf:dr:=SYf1
theorem AhU:AW dm SYf:=AhT
end Go.Proofs.YtgnajdcdcblaoaaGreat
namespace Go.Proofs.YtgnajdcdcblaoaaGreat.Rg
open FD (inv)
section
variable {F:Type} [FD F]
variable {c f:F→F} (hc:MH c) (hf:MH f)
theorem MH.pwc {φ:F→F} (h:MH φ) (x:F):∀ n,φ (Rg.pw x n)=Rg.pw (φ x) n
 | 0=>h.one
 | n+1=>by show φ (Rg.pw x n*x)=Rg.pw (φ x) n*φ x;rw [h.mul,MH.pwc h x n]
include hc hf in
end
end Go.Proofs.YtgnajdcdcblaoaaGreat.Rg
namespace Go.Proofs.YtgnajdcdcblaoaaGreat
abbrev gd:Nat:=0x1904d3bf02bb0667c231beb4202c0d1f0fd603fd3cbd5f4f7b2443d784bab9c4f67ea53d63e7813d8d0775ed92235fb8
abbrev ge:Nat:=0xfc3e2b36c4e03288e9e902231f9fb854a14787b6c7b36fec0c8ec971f63c5f282d5ac14d6c7ec22cf78a126ddc4af3
open Ex Num Rg
open Sh (R av rd mo en mo_en)
set_option maxRecDepth 100000
set_option maxHeartbeats 4000000
set_option synthInstance.maxSize 100000
set_option synthInstance.maxHeartbeats 400000
set_option maxHeartbeats 1000000
noncomputable section
def CA:gj:=⟨tf gd,tf ge⟩
def Vm (r:R gj) (k:R gj→Bool):Bool:=KF r.1 fun x=>KF r.2 fun y=>k (x,y)
theorem AJ' (r:R gj) (k:R gj→Bool):Vm r k=k r:=by unfold Vm;rw [LW,LW];rfl
def jO (a:R gj) (k:R gj→Bool) (N i:Nat):R gj→Bool:=Nat.rec k (fun i ih r=>Vm (mu gj r r) fun s=>cond (Nat.beq (N / 2^i % 2) 1) (Vm (mu gj s a) ih) (ih s)) i
theorem AhV {a:R gj} {k:R gj→Bool} {N:Nat}:∀ (i:Nat) (r:R gj),(mo r:gj)=pw (mo a) (N / 2^i)→jO a k N i r=true→∃ s:R gj,(mo s:gj)=pw (mo a) N∧k s=true:=by
 intro i;induction i with
 | zero =>
  intro r hr h;rw [kf,ko] at hr;exact ⟨r,hr,h⟩
 | succ i ih =>
  intro r hr h;have h':Vm (mu gj r r) (fun s=>cond (Nat.beq (N / 2^i % 2) 1) (Vm (mu gj s a) (jO a k N i)) (jO a k N i s))=true:=h
  rw [AJ',AJ'] at h';have hdiv:N / 2^i=N / 2^(i+1)+N / 2^(i+1)+N / 2^i % 2:=by
   rw [kt,← kw];omega
  have hs:(mo (mu gj r r):gj)=pw (mo a) (N / 2^(i+1)+N / 2^(i+1)):=by unfold mu;rw [mo_en,hr,← Rn]
  cases hb:Nat.beq (N / 2^i % 2) 1 with
  | true =>
   rw [hb] at h';refine ih _ ?_ h'
   rw [hdiv,mn hb,LS,← hs];unfold mu;rw [mo_en]
  | false =>
   rw [hb] at h';have h1:N / 2^i % 2=0:=by
    have:=Nat.ne_of_beq_eq_false hb
    omega
   refine ih _ ?_ h'
   rw [hs,hdiv,h1];rfl
theorem AhW:pw xi ((pN-1) / 6)=CA:=by
 have h:jO ((1:Nat),(1:Nat)) (fun s=>Nat.beq s.1 gd&&Nat.beq s.2 ge) ((pN-1) / 6) 379 ((1:Nat),(0:Nat))=true:=dj
 have ea:(mo (((1:Nat),(1:Nat)):R gj):gj)=xi:=Qx.ext EB EB
 obtain ⟨s,h1,h2⟩:=AhV 379 ((1:Nat),(0:Nat)) (by
  have e:(pN-1) / 6 / 2^379=0:=dj
  rw [e];exact Qx.ext EB tf_zero) h
 rw [ea] at h1;obtain ⟨q1,q2⟩:=jo.1 h2;rw [← h1];exact Qx.ext (jl tf (mn q1)) (jl tf (mn q2))
def gg:gj:=CA*CA
def gi:gl→gl:=Rg.kM Qx.conj gg
def g6:gl:=⟨CA,0,0⟩
def gh:gk→gk:=Rg.qM gi g6
theorem Vn {x y:gj} (h:decide (x=y)=true):x=y:=jx h
theorem AhX:Qx.conj xi=xi*(gg*(gg*gg)):=Vn dj
theorem AhY:RH gi:=Ace Qx.conj_rh AhX
theorem f12_rh:RH gh:=by
 refine Acf AhY ?_
 refine Kx.ext ?_ ?_ ?_
 ·show Qx.conj 0=0*(CA*CA+xi*(0*0+0*0))+xi*(1*(CA*0+0*0+0*CA)+0*(CA*0+0*CA+xi*(0*0)));rw [Qx.conj_rh.zero];exact ring [CA,xi] (a:=0) dj
 ·show Qx.conj 1*gg=0*(CA*0+0*CA+xi*(0*0))+1*(CA*CA+xi*(0*0+0*0))+xi*(0*(CA*0+0*0+0*CA));rw [Qx.conj_rh.one];unfold gg;exact ring [CA,xi] (a:=1*(CA*CA)) dj
 ·show Qx.conj 0*(gg*gg)=0*(CA*0+0*0+0*CA)+1*(CA*0+0*CA+xi*(0*0))+0*(CA*CA+xi*(0*0+0*0));rw [Qx.conj_rh.zero];exact ring [CA,gg,xi] (a:=0*(gg*gg)) dj
theorem AKA:∃ n:Nat,n=0xd201000000010000:=⟨_,rfl⟩
def XX:Nat:=Classical.choose AKA
theorem AhZ:XX=0xd201000000010000:=kq AKA
theorem AKB:∃ n:Nat,n=0x396c8c005555e1568c00aaab0000aaab:=⟨_,rfl⟩
def EE:Nat:=Classical.choose AKB
theorem Aha:EE=0x396c8c005555e1568c00aaab0000aaab:=kq AKB
def finF (x:gk):gk:=SM Qx.conj gh EE XX x
theorem finF_mh:MH finF:=AIY Qx.conj_rh.mh f12_rh.mh EE XX
theorem Ahb {x:gk} (hx:x≠0):finF x*finF (Qx.conj x)=1:=Acj Qx.conj_rh.mh f12_rh.mh Qx.conj_conj EE XX hx
end
open Ex Num
theorem AAA {β:Env} {k n m:Nat} {u:Value} (h:AN β (AR k 0 n m) u) (hn:1≤n):β k≠some .emp:=fun e=>by
 obtain ⟨l1,l2,h1,h2,h3⟩:=h;rcases h1 with ⟨B,q,q1,_⟩ | ⟨q1,_⟩ | ⟨_,_,q,_⟩
 ·rw [e] at q1;cases q1
 ·rw [e] at q1;cases q1
 ·omega
def Vo (c:List Ch):gt:=⟨Bu,c,true⟩
theorem AAB {β:Env} {H:Heap} {w:World} {k j ty:Nat} {cs:List Ch} {o:Bool} {xs:dn} {ρ:List Nat} {k0:Nat} (hg:Ex.Good β H w) (hk:AG H k=some ⟨ty,cs,o⟩) (hx:A8 .u8 cs=some xs) (iq:β k≠some .emp) (hj:j<k0) (hn:nth ρ j=k):DS (A9 β ρ k0) (Vo [.seq .u8 xs]) j w:=by
 have e:A9 β ρ k0 j=β k:=by rw [FK hj,hn]
 rcases ID hg hk hx hj hn with ⟨B,n,l,t,pre,ty',fz,q1,q2,q3,q4,q5⟩ | ⟨X,q1,q2,q3⟩ | ⟨_,_,_,_,_,h,_⟩
 ·exact .inl ⟨B,n,l,t,pre,ty',fz,q1,q2,q3,q4,fun h=>absurd rfl h⟩
 ·refine .inr (.inl ⟨X,q1,?_,q3⟩)
  cases X with
  | at_=>exact q2
  | nil=>exact Or.inl rfl
  | emp=>exact absurd (e.symm.trans q1) iq
 ·exact absurd h (show ¬ Jr≤Bu by decide)
noncomputable abbrev xeF:Func:=f214
noncomputable def SXa0:dr:=(259,BF dm oSy f259 300)::SSy
theorem Ahc:AW dm SXa0:=⟨BK AhK AB func259 dj dj 300,jN⟩
noncomputable abbrev oXa0:gr:=AH SXa0 KV
theorem AAC:gp dm oXa0:=AJ Ahc BS
noncomputable def JY (xs ds:dn):Heap:=[(0,some (Ak [.seq .u8 xs])),(1,some (Vo [.seq .u8 ds]))]
noncomputable def xeE (o n m n' m':Nat) (xs ds:dn) (p:List Bool):gq:=Aj xeF [AR 0 o n m,AR 1 0 n' m',.val false [.n .i64 256]] (JY xs ds) 2 p
noncomputable def AAD:List Item:=CB (AY dm oXa0 (some 4) 300 2 none (xeE 0 0 0 0 0 [] [] dz))
noncomputable def xeT (L:Nat) (s i:AV):List AV:=EC xeF.ntmps [(2,.val false [.n .i64 256]),(8,.val false [.sx 2 L 1]),(9,.val false [.p 3 0]),(10,s),(11,.val false [.p 4 0]),(12,i)]
def Oz (f:Nat→Int):dn:=(List.range 32).map f
noncomputable def Vp (xs ds tg F:dn) (b:gt):Heap:=[(0,some (Ak [.seq .u8 xs])),(1,some (Vo [.seq .u8 ds])),(2,some ⟨5,[.seq .u8 tg],true⟩),(3,some ⟨54,[.seq .u8 F],false⟩),(4,some b)]
noncomputable def jP (g:dn):gt:=⟨54,[.seq .u8 g],false⟩
noncomputable def Y7 (xs ds tg:dn) (L:Nat) (f g:Nat→Int) (ys:dn) (M:Nat) (i:Int) (p:List Bool):gq:=⟨AAD,⟨xeT L (.val false [.sx 5 M 1]) (iA i),Vp xs ds tg (Oz f) (jP (Oz g))++[(5,some ⟨5,[.seq .u8 ys],true⟩)],6,p⟩⟩
section
variable (xs ds tg:dn) (L:Nat) (f g:Nat→Int) (ys:dn) (M:Nat) (i:Int)
def Vq:dn:=Oz fun k=>bits .xor .u8 (g k) (f k)
def QV:dn:=AA (Vq f g) (0+0*1) (32-0)++AA [AX false .u8 i] 0 1++AA tg 0 L
def Vr:dn:=IC (AA (QV tg L f g i) 0 (32-0+1+L))
noncomputable def xeN (z:dn):gq:=⟨AAD,⟨LB (EN 2 [2,3,4,13]) (xeT L (.val false [.sx 5 (M+(32-0)) 1]) (iA (wI (i+1)))),JC (EN 2 [2,3,4,13]) (Vp xs ds tg (Oz f) (jP z)++[(5,some ⟨5,[.seq .u8 (ys.take M++List.take (32-0) (List.drop (0+0*1) z))],true⟩)]),14,[]⟩⟩
theorem Ahe:AY dm oXa0 (some 4) 600 2 (some ([2,8,9,10,11,12],[0,1,2,3,4,13],14)) (Y7 xs ds tg L f g ys M i du) =
 some ((AL .i64 M,true)::(decide ((M:Int)<256),true)::tt 98 ((Nat.ble (0+L) tg.length,true)::(Nat.ble (32-0+1+L) 35184372088832,true)::(Nat.ble (0+(32-0+1+L)) (QV tg L f g i).length,true)::(Nat.ble (32-0+1+L) 35184372088832,true)::(Nat.ble M ys.length,true)::(true,true)::(EQ (M+(32-0)),true)::[]),[],xeN xs ds tg L f ys M i (Vr tg L f g i)):=dj
def TI:Heap:=[(5,some ⟨5,[.seq .u8 ys],true⟩)]
theorem Ahf:AT dm oXa0 xeF 300 2 [5] (Y7 xs ds tg L f g ys M i dt)=some ([(AL .i64 M,true),(decide ((M:Int)<256),false),(decide ((0:Int)≤256∧(256:Int)≤M),true),(true,true)],[],.tup [(false,[.sl 5 0 256 256]),(false,[.n .i64 0])],TI ys):=dj
end
section
variable (o n m n' m':Nat) (xs ds:dn)
def IE:Nat:=Int.toNat (n':Int)-0
def Y8:dn:=List.take (IE n') (List.drop 0 ds)++[AX false .u8 n']
def Y9:dn:=AA (List.replicate 64 0) 0 64++AA xs o n++AA [1,0,0] 0 3++AA (Y8 n' ds) 0 (IE n'+1)
def AKD:gt:=⟨54,List.replicate 32 (.n .u8 0),false⟩
theorem Ahg:AY dm oXa0 (some 4) 300 2 (some ([2,8,9,10,11,12],[0,1,3,13,14],15)) (xeE o n m n' m' xs ds dz) =
 some ((AL .i64 n',true)::(decide ((n':Int)<1),false)::(AL .i64 n',true)::(decide ((255:Int)<n'),false)::(AL .i64 n',true)::(AL .i64 n',true)::(decide ((0:Int)≤n'∧(n':Int)≤m'),true)::(decide ((0:Int)≤n'∧(n':Int)≤Int.toNat (n':Int)),true)::(true,true)::(AL .i64 n',true)::(Nat.ble (0+IE n') ds.length,true) ::
  (Nat.beq (IE n') (IE n')&&Nat.blt 0 1,true)::(EQ (IE n'+1),true)::(true,true)::(true,true)::(Nat.ble (o+n) xs.length,true)::(true,true)::(Nat.ble (0+(IE n'+1)) (Y8 n' ds).length,true)::(Nat.ble (64+n+3+(IE n'+1)) 35184372088832,true)::(Nat.ble (0+(64+n+3+(IE n'+1))) (Y9 o n n' xs ds).length,true)::(Nat.ble (64+n+3+(IE n'+1)) 35184372088832,true)::[],[],
  ⟨AAD,⟨LB (EN 2 [3,13,14]) (xeT (IE n'+1) Vk (.val false [.n .i64 1])),JC (EN 2 [3,13,14]) (Vp xs ds (Y8 n' ds) (IC (AA (Y9 o n n' xs ds) 0 (64+n+3+(IE n'+1)))) AKD),15,[]⟩⟩):=dj
end
def HD (d:dn):dn:=d++[(d.length:Int)]
def Vs (x t:dn):dn:=IC (List.replicate 64 0++x++[1,0,0]++t)
def TJ (F l:dn):dn:=Vq (fun k=>F.getD k 0) fun k=>l.getD k 0
def xd (F t:dn):Nat→dn
 | 0=>List.replicate 32 0
 | i+1=>IC (TJ F (xd F t i)++[((i+1:Nat):Int)]++t)
def IF (F t:dn):Nat→dn
 | 0=>[]
 | i+1=>IF F t i++xd F t (i+1)
theorem AKE:∃ f:dn→dn→dn,∀ x d,f x d=IF (Vs x (HD d)) (HD d) 8:=⟨_,fun _ _=>rfl⟩
noncomputable def KY:dn→dn→dn:=Classical.choose AKE
theorem jQ (x d:dn):KY x d=IF (Vs x (HD d)) (HD d) 8:=kq AKE x d
theorem TK (F t:dn):∀ i,(xd F t i).length=32
 | 0=>od
 | _+1=>Y5 _
theorem Vt (F t:dn):∀ i,(IF F t i).length=32*i
 | 0=>rfl
 | i+1=>by
  show (IF F t i++xd F t (i+1)).length=_;rw [kc,Vt F t i,TK];omega
theorem Vu {l:dn} (h:l.length=32):Oz (fun k=>l.getD k 0)=l:=(iN h).symm
theorem AAF (f g:Nat→Int):(Vq f g).length=32:=by unfold Vq Oz;rw [lh,ow]
theorem AAG {i:Nat} (h:i<256):AX false .u8 (i:Int)=(i:Int):=by rw [DT,IntKind.wrap_u8];omega
theorem AAH {F l t:dn} {L i:Nat} (ht:t.length=L) (hi:i<256):QV t L (fun k=>F.getD k 0) (fun k=>l.getD k 0) (i:Int)=TJ F l++[(i:Int)]++t:=by
 unfold QV TJ;rw [show 0+0*1=0 from rfl,show 32-0=32 from rfl,QU (AAF _ _),QU ht,AAG hi]
 rfl
theorem AKF {F l t:dn} {L i:Nat} (ht:t.length=L) (hi:i<256):(QV t L (fun k=>F.getD k 0) (fun k=>l.getD k 0) (i:Int)).length=32-0+1+L:=by
 rw [AAH ht hi,kc,kc,ht];unfold TJ;rw [AAF];rfl
theorem Ahh {xs ds t F:dn} {L:Nat} (_hF:F.length=32) (ht:t.length=L) (hL:L≤1000) {β0:Env} {w0:World} (hb:∀ b,2≤b→β0 b=none):∀ r i:Nat,i+r=8 →
  gn dm 214 β0 w0 (A_ β0 w0 [] (.tup [(false,[.sl 5 0 256 256]),(false,[.n .i64 0])]) (TI (IF F t 8))) xeF.ntmps []
   (Y7 xs ds t L (fun k=>F.getD k 0) (fun k=>(xd F t i).getD k 0) (IF F t i) (32*i) ((i+1:Nat):Int) []):=by
 intro r;induction r with
 | zero =>
  intro i hi;obtain rfl:i=8:=dk
  exact Af dt (Ay AAC AB func214 (Ahf ..) ⟨dl,dl,dl,rfl,trivial⟩ (AS dj) hb jb)
 | succ r ih =>
  intro i hi;refine Af du (Ai AAC AB (Ahe ..) ⟨HC dk,jc dk,AI 98 ⟨jh dk,jh dk,?_,jh dk,?_,rfl,EZ dk,trivial⟩⟩ (AS dj) hb jb fun _=>?_)
  ·rw [AKF ht dk];exact jh dk
  ·rw [Vt];exact jh dk
  ·have ez:Vr t L (fun k=>F.getD k 0) (fun k=>(xd F t i).getD k 0) ((i+1:Nat):Int)=xd F t (i+1):=by
    unfold Vr;rw [QU (AKF ht dk),AAH ht dk];rfl
   rw [ez];refine PM (m:=6) dj hb ?_
   have e1:(IF F t i).take (32*i)++List.take (32-0) (List.drop (0+0*1) (xd F t (i+1)))=IF F t (i+1):=by
    rw [GC (Vt F t i),show 0+0*1=0 from rfl,show 32-0=32 from rfl,pn,GC (TK F t (i+1))]
    rfl
   have next:=ih (i+1) dk
   unfold Y7 at next;rw [Vu (TK F t (i+1))] at next;rw [e1,Au (z:=((i+1:Nat):Int)+1) dk];exact next
def TL (ts:List Nat):Nat→List AV→List AV
 | _,[]=>[]
 | i,x::r=>(match E0 i ts with | true=>Gy x | false=>x)::TL ts (i+1) r
theorem AKG (ts:List Nat):∀ (T:List AV) (i t:Nat),Ap (TL ts i T) t=Gy (Ap T t)∨Ap (TL ts i T) t=Ap T t
 | [],_,_=>.inr rfl
 | x::r,i,0=>by
  simp only [TL,Ap];split
  ·exact .inl rfl
  ·exact .inr rfl
 | _::r,i,t+1=>AKG ts r (i+1) t
theorem AKH {P:Program} {f:FuncId} {β0:Env} {w0:World} {R:Ending→World→Prop} {n:Fz} {W:List Nat} {todo:List Item} {T:List AV} {H:Heap} {fr:Nat} {p:List Bool} (ts:List Nat) (h:gn P f β0 w0 R n W ⟨todo,⟨TL ts 0 T,H,fr,p⟩⟩):gn P f β0 w0 R n W ⟨todo,⟨T,H,fr,p⟩⟩:=by
 intro β a w hi hf;refine h β a w { hi with tmp:=fun t=>?_ } hf
 rcases AKG ts T 0 t with e | e
 ·show AN β (Ap (TL ts 0 T) t) _;rw [e];exact ADn (hi.tmp t)
 ·show AN β (Ap (TL ts 0 T) t) _;rw [e];exact hi.tmp t
theorem AKI (β:Env) (l:List Value) (h:AQ β (List.replicate 32 (.n .u8 0)) l):AQ β [.seq .u8 (List.replicate 32 0)] l:=by
 have e:A8 .u8 (List.replicate 32 (.n .u8 0))=some (List.replicate 32 0):=dj
 obtain ⟨h1,h2⟩:=DU e h;exact ⟨_,[],⟨h1,h2⟩,rfl,by simp⟩
theorem Ahi {o n m n' m':Nat} {xs ds:dn} (h1:o+n≤xs.length) (h2:n'≤ds.length) (hn:n≤4398046511104) (hn1:1≤n') (hn':n'≤255) (hm:n'≤m') :
  Ab dm 214 [AR 0 o n m,AR 1 0 n' m',.val false [.n .i64 256]] (JY xs ds) 2 [] (.tup [(false,[.sl 5 0 256 256]),(false,[.n .i64 0])]) (TI (KY (AA xs o n) (AA ds 0 n'))):=by
 have hd:(AA ds 0 n').length=n':=HB dk
 have eL:IE n'=n':=by unfold IE;omega
 have eG:Y8 n' ds=HD (AA ds 0 n'):=by
  unfold Y8 HD;rw [eL,hd,AAG dk];rfl
 have lT:(HD (AA ds 0 n')).length=n'+1:=L3 hd rfl
 have eQ:Y9 o n n' xs ds=List.replicate 64 0++AA xs o n++[1,0,0]++HD (AA ds 0 n'):=by
  unfold Y9;rw [eL,eG,QU lT];rfl
 have lQ:(Y9 o n n' xs ds).length=64+n+3+(IE n'+1):=by
  rw [eQ,kc,kc,kc,lT,HB h1,od,eL];rfl
 refine A7 (gv:=dz) func214 dj dj fun β0 w0 hb=>?_
 refine Ai AAC AB (Ahg o n m n' m' xs ds) ?_ (AS dj) hb jb fun _=>?_
 ·have hh:AL .i64 (n':Int)=true:=HC dk
  rw [lQ,eG,lT,eL];exact ⟨hh,jg dk,hh,jg dk,hh,hh,jc dk,jc dk,rfl,hh,jh dk,by rw [Nat.beq_refl];rfl,EZ dk,rfl,rfl,jh h1,rfl,jh dk,jh dk,jh dk,jh dk,trivial⟩
 ·refine PM (m:=5) dj hb ?_
  refine pF (ts:=[10]) (sz:=1) (ty:=5) (kd:=.u8) rfl (hb 5 dl) (AKH [12] ?_)
  refine TD (k:=4) (ty:=54) (o:=false) (cs':=[.seq .u8 (List.replicate 32 0)]) rfl AKI ?_
  rw [QU lQ,eQ,eG,eL,jQ];have next:=Ahh (xs:=xs) (ds:=ds) (F:=Vs (AA xs o n) (HD (AA ds 0 n'))) (w0:=w0) (Y5 _) lT dk hb 8 0 rfl
  unfold Y7 at next;rw [Vu (l:=Vs (AA xs o n) (HD (AA ds 0 n'))) (Y5 _),Vu (TK _ _ 0)] at next;exact next
def xeV:AV:=.tup [(false,[.sl 5 0 256 256]),(false,[.n .i64 0])]
noncomputable def AAI (v:AV) (K nw:Nat):ASpec:=fun args H fr gv=>match args with
 | [S,T,.val false [.n .i64 256]]=>match DZ S,Im T with
  | some (k,o,n),some (t,n',m')=>match AG H k,AG H t with
   | some ⟨_,cs,_⟩,some ⟨_,es,_⟩=>match A8 .u8 cs,A8 .u8 es with
    | some xs,some ds=>some (BR [k,t] 2 fr nw [] v [(K,some ⟨5,[.seq .u8 (KY (AA xs o n) (AA ds 0 n'))],true⟩)] [(Nat.ble (o+n) xs.length,true),(Nat.ble n' ds.length,true),(Nat.ble n 4398046511104,true),(Nat.ble 1 n',true),(Nat.ble n' 255,true),(Nat.ble n' m',true)] gv)
    | _,_=>none
   | _,_=>none
  | _,_=>none
 | _=>none
theorem Ahk {F:FuncId} {fn:Func} {v:AV} {K nw:Nat} (ip:dm.funcs[F]? = some fn) (hb:fn.body.isSome=true) (h_:fo fn) (hk:∀ l,EU 2 nw [] v [(K,some ⟨5,[.seq .u8 l],true⟩)]=true)
  (h:∀ {o n m n' m':Nat} {xs ds:dn},(∀ d∈xs,0≤d∧d<256)→(∀ d∈ds,0≤d∧d<256)→o+n≤xs.length→n'≤ds.length→n≤4398046511104→1≤n'→n'≤255→n'≤m'→Ab dm F [AR 0 o n m,AR 1 0 n' m',.val false [.n .i64 256]] (JY xs ds) 2 [] v [(K,some ⟨5,[.seq .u8 (KY (AA xs o n) (AA ds 0 n'))],true⟩)]):BJ dm F (AAI v K nw):=by
 refine Da ip hb h_ fun args H fr gv r hs=>?_
 unfold AAI at hs;split at hs;case h_2=>cases hs
 rename_i S T;split at hs;case h_2=>cases hs
 rename_i k o n t n' m' hS hT;split at hs;case h_2=>cases hs
 rename_i ty cs op ty' es op' hk' ht';split at hs;case h_2=>cases hs
 rename_i xs ds hx hd;injection hs with hs;refine ⟨[k,t],2,nw,[],_,_,_,gv,hs.symm,fun β us w ha hg hc=>?_⟩
 obtain ⟨u1,iu,r1,⟨u2,iw,r2,⟨u3,us3,r3,ha,rfl⟩,rfl⟩,rfl⟩:=ha;obtain ⟨c1,c2,c3,c4,c5,c6,_⟩:=hc;obtain ⟨m,r1⟩:=FE hS r1;obtain ⟨m2,hm2,r2⟩:=KM hT (jf c6) r2
 obtain ⟨g1,_,_⟩:=Eu hg hk' hx;obtain ⟨g2,_,_⟩:=Eu hg ht' hd;refine ⟨_,_,h (o:=o) (n:=n) (m:=m) (n':=n') (m':=m2) g1 g2 (jf c1) (jf c2) (jf c3) (jf c4) (jf c5) hm2,hk _,⟨u1,_,Cp dk rfl r1,⟨u2,_,Cp dk rfl r2,⟨u3,_,MS rfl r3,ha,rfl⟩,rfl⟩,rfl⟩,NH (bs:=[Ak [.seq .u8 xs],Vo [.seq .u8 ds]]) hg fun j d hj=>?_,fun j hj=>?_⟩
 ·match j,hj with
  | 0,hj=>injection hj with hj;subst hj;exact ⟨rfl,ID hg hk' hx (by show 0<2;decide) rfl⟩
  | 1,hj=>injection hj with hj;subst hj;exact ⟨rfl,AAB hg ht' hd (AAA r2 (jf c4)) (by show 1<2;decide) rfl⟩
 ·match j,hj with
  | 0,_=>exact CS (hg.heap _ _ hk')
  | 1,_=>exact CS (hg.heap _ _ ht')
noncomputable def SCb0:dr:=(214,AAI xeV 5 4)::(SIe++SSy)
theorem Ahl:AW dm SCb0:=⟨Ahk func214 dj dj (fun _=>rfl) fun _ _ h1 h2 h3 h4 h5 h6=>Ahi h1 h2 h3 h4 h5 h6,KU AGK jN⟩
noncomputable abbrev oCb0:gr:=AH SCb0 KV
theorem Ahm:gp dm oCb0:=AJ Ahl BS
noncomputable abbrev fdsF:Func:=f154
section
variable (o n m n' m':Nat) (xs ds:dn)
noncomputable def Ahn (p:List Bool):gq:=Aj fdsF [AR 0 o n m,AR 1 0 n' m',.val false [.n .i64 2]] (JY xs ds) 2 p
noncomputable def FT:dn:=KY (AA xs o n) (AA ds 0 n')
noncomputable def GX (Z:dn) (j:Nat):Nat:=AK (AA (jM (64*j) 64 Z) 0 ((64+7) / 8)) % pN
noncomputable def jS (K:Nat) (a b c d:Nat):Heap:=[(K,some ⟨68,[.num 6 a,.num 6 b,.num 6 c,.num 6 d],true⟩)]
noncomputable def Aho (Z:dn):dp:=(Nat.ble (o+n) xs.length,true)::(Nat.ble n' ds.length,true)::(Nat.ble n 4398046511104,true)::(Nat.ble 1 n',true)::(Nat.ble n' 255,true)::(Nat.ble n' m',true)::tt 4 ((Nat.ble 64 Z.length,true)::tt 5 ((false,false)::(Nat.ble 128 Z.length,true)::tt 5 ((false,false)::tt 4 ((Nat.ble 192 Z.length,true)::tt 5 ((false,false)::(Nat.ble 256 Z.length,true)::tt 7 ((false,false)::[]))))))
theorem Ahp:AT dm oCb0 fdsF 300 2 [13] (Ahn o n m n' m' xs ds fj) =
 some (Aho o n n' m' xs ds (FT o n n' xs ds),[],.tup [(false,[.sx 13 2 12]),(false,[.n .i64 0])],jS 13 (GX (FT o n n' xs ds) 0) (GX (FT o n n' xs ds) 1) (GX (FT o n n' xs ds) 2) (GX (FT o n n' xs ds) 3)):=dj
end
theorem AAJ (x d:dn):(KY x d).length=256:=by rw [jQ,Vt]
theorem AKJ (F t:dn):∀ i,∀ d∈IF F t i,0≤d∧d<256
 | 0,_,h=>by cases h
 | i+1,d,h=>by
  rcases jp.1 (show d∈IF F t i++xd F t (i+1) from h) with h | h
  ·exact AKJ F t i d h
  ·exact Af_ _ d h
theorem Ahq (x d:dn):∀ z∈KY x d,0≤z∧z<256:=by rw [jQ];exact AKJ _ _ 8
theorem AKK:∃ f:dn→dn→Nat→Nat,∀ x d j,f x d j=Ao (AA (KY x d) (64*j) 64) % pN:=⟨_,fun _ _ _=>rfl⟩
noncomputable def QW:dn→dn→Nat→Nat:=Classical.choose AKK
theorem Ahr (x d:dn) (j:Nat):QW x d j=Ao (AA (KY x d) (64*j) 64) % pN:=kq AKK x d j
noncomputable def Vv (x d:dn):gt:=⟨68,[.num 6 (QW x d 0),.num 6 (QW x d 1),.num 6 (QW x d 2),.num 6 (QW x d 3)],true⟩
theorem QX (x d:dn) {j:Nat} (hj:j<4):GX (KY x d) j=QW x d j:=by
 unfold GX;rw [AhI (Ahq x d) (by rw [AAJ];omega),Ahr]
theorem Ahs {o n m n' m':Nat} {xs ds:dn} (h1:o+n≤xs.length) (h2:n'≤ds.length) (hn:n≤4398046511104) (hn1:1≤n') (hn':n'≤255) (hm:n'≤m') :
  Ab dm 154 [AR 0 o n m,AR 1 0 n' m',.val false [.n .i64 2]] (JY xs ds) 2 [] (.tup [(false,[.sx 13 2 12]),(false,[.n .i64 0])]) [(13,some (Vv (AA xs o n) (AA ds 0 n')))]:=by
 refine A7 (gv:=fj) func154 dj dj fun β0 w0 hb=>?_
 have lZ:(FT o n n' xs ds).length=256:=AAJ _ _
 have b64:∀ k,k≤256→Nat.ble k (FT o n n' xs ds).length=true:=fun k hk=>jh (by rw [lZ];exact hk)
 have:=Ay (P:=dm) (n:=fdsF.ntmps) (β0:=β0) (w0:=w0) (W:=[]) Ahm AB func154 (Ahp o n m n' m' xs ds) ⟨jh h1,jh h2,jh hn,jh hn1,jh hn',jh hm,AI 4 ⟨b64 64 dl,AI 5 ⟨rfl,b64 128 dl,AI 5 ⟨rfl,AI 4 ⟨b64 192 dl,AI 5 ⟨rfl,b64 256 dl,AI 7 ⟨rfl,trivial⟩⟩⟩⟩⟩⟩⟩ (AS dj) hb jb
 have e:jS 13 (GX (FT o n n' xs ds) 0) (GX (FT o n n' xs ds) 1) (GX (FT o n n' xs ds) 2) (GX (FT o n n' xs ds) 3)=[(13,some (Vv (AA xs o n) (AA ds 0 n')))]:=by
  unfold FT;rw [QX _ _ dl,QX _ _ dl,QX _ _ dl,QX _ _ dl];rfl
 rw [e] at this;exact this
noncomputable def Y_ (c:Int) (v:AV) (K nw:Nat) (g:dn→dn→gt):ASpec:=fun args H fr gv=>match args with
 | [S,T,.val false [.n .i64 z]]=>match decide (z=c) with
  | true=>match DZ S,Im T with
   | some (k,o,n),some (t,n',m')=>match AG H k,AG H t with
    | some ⟨_,cs,_⟩,some ⟨_,es,_⟩=>match A8 .u8 cs,A8 .u8 es with
     | some xs,some ds=>some (BR [k,t] 2 fr nw [] v [(K,some (g (AA xs o n) (AA ds 0 n')))] [(Nat.ble (o+n) xs.length,true),(Nat.ble n' ds.length,true),(Nat.ble n 4398046511104,true),(Nat.ble 1 n',true),(Nat.ble n' 255,true),(Nat.ble n' m',true)] gv)
     | _,_=>none
    | _,_=>none
   | _,_=>none
  | false=>none
 | _=>none
theorem AAK {c:Int} {F:FuncId} {fn:Func} {v:AV} {K nw:Nat} {g:dn→dn→gt} (ip:dm.funcs[F]? = some fn) (hb:fn.body.isSome=true) (h_:fo fn) (hk:∀ l d,EU 2 nw [] v [(K,some (g l d))]=true)
  (h:∀ {o n m n' m':Nat} {xs ds:dn},(∀ d∈xs,0≤d∧d<256)→(∀ d∈ds,0≤d∧d<256)→o+n≤xs.length→n'≤ds.length→n≤4398046511104→1≤n'→n'≤255→n'≤m'→Ab dm F [AR 0 o n m,AR 1 0 n' m',.val false [.n .i64 c]] (JY xs ds) 2 [] v [(K,some (g (AA xs o n) (AA ds 0 n')))]):BJ dm F (Y_ c v K nw g):=by
 refine Da ip hb h_ fun args H fr gv r hs=>?_
 unfold Y_ at hs;split at hs;case h_2=>cases hs
 rename_i S T z;split at hs;case h_2=>cases hs
 rename_i hz;obtain rfl:z=c:=jx hz
 split at hs;case h_2=>cases hs
 rename_i k o n t n' m' hS hT;split at hs;case h_2=>cases hs
 rename_i ty cs op ty' es op' hk' ht';split at hs;case h_2=>cases hs
 rename_i xs ds hx hd;injection hs with hs;refine ⟨[k,t],2,nw,[],_,_,_,gv,hs.symm,fun β us w ha hg hc=>?_⟩
 obtain ⟨u1,iu,r1,⟨u2,iw,r2,⟨u3,us3,r3,ha,rfl⟩,rfl⟩,rfl⟩:=ha;obtain ⟨c1,c2,c3,c4,c5,c6,_⟩:=hc;obtain ⟨m,r1⟩:=FE hS r1;obtain ⟨m2,hm2,r2⟩:=KM hT (jf c6) r2
 obtain ⟨g1,_,_⟩:=Eu hg hk' hx;obtain ⟨g2,_,_⟩:=Eu hg ht' hd;refine ⟨_,_,h (o:=o) (n:=n) (m:=m) (n':=n') (m':=m2) g1 g2 (jf c1) (jf c2) (jf c3) (jf c4) (jf c5) hm2,hk _ _,⟨u1,_,Cp dk rfl r1,⟨u2,_,Cp dk rfl r2,⟨u3,_,MS rfl r3,ha,rfl⟩,rfl⟩,rfl⟩,NH (bs:=[Ak [.seq .u8 xs],Vo [.seq .u8 ds]]) hg fun j d hj=>?_,fun j hj=>?_⟩
 ·match j,hj with
  | 0,hj=>injection hj with hj;subst hj;exact ⟨rfl,ID hg hk' hx (by show 0<2;decide) rfl⟩
  | 1,hj=>injection hj with hj;subst hj;exact ⟨rfl,AAB hg ht' hd (AAA r2 (jf c4)) (by show 1<2;decide) rfl⟩
 ·match j,hj with
  | 0,_=>exact CS (hg.heap _ _ hk')
  | 1,_=>exact CS (hg.heap _ _ ht')
def fdV (K:Nat):AV:=.tup [(false,[.sx K 2 12]),(false,[.n .i64 0])]
noncomputable def SCc:dr:=[(154,Y_ 2 (fdV 13) 13 12 Vv)]
theorem Aht:AW dm SCc:=⟨AAK func154 dj dj (fun _ _=>rfl) fun _ _ h1 h2 h3 h4 h5 h6=>Ahs h1 h2 h3 h4 h5 h6,trivial⟩
noncomputable abbrev rxF:Func:=f187
noncomputable def rxE (o n m n' m':Nat) (xs ds:dn) (p:List Bool):gq:=Aj rxF [AR 0 o n m,AR 1 0 n' m',.val false [.n .i64 256]] (JY xs ds) 2 p
noncomputable def AAM:List Item:=CB (AY dm oSo (some 4) 300 2 none (rxE 0 0 0 0 0 [] [] dz))
noncomputable def rxT (L:Nat) (s i:AV):List AV:=EC rxF.ntmps [(2,.val false [.n .i64 256]),(8,.val false [.sx 2 L 1]),(10,.val false [.p 3 0]),(11,s),(12,.val false [.p 4 0]),(13,i)]
noncomputable def Y' (xs ds tg:dn) (L:Nat) (f g:Nat→Int) (ys:dn) (M:Nat) (i:Int) (p:List Bool):gq:=⟨AAM,⟨rxT L (.val false [.sx 5 M 1]) (iA i),Vp xs ds tg (Oz f) (jP (Oz g))++TI ys,6,p⟩⟩
theorem Ahu (a b:Int):bits .xor .u8 a b=bits .xor .u8 b a:=by simp only [bits];rw [BitVec.xor_comm]
theorem Ahv (f g:Nat→Int):Vq f g=Vq g f:=nb fun _ _=>Ahu _ _
section
variable (xs ds tg:dn) (L:Nat) (f g:Nat→Int) (ys:dn) (M:Nat) (i:Int)
noncomputable def rxN (z:dn):gq:=⟨AAM,⟨LB (EN 2 [2,3,4,73]) (rxT L (.val false [.sx 5 (M+(32-0)) 1]) (iA (wI (i+1)))),JC (EN 2 [2,3,4,73]) (Vp xs ds tg (Oz f) (jP z)++[(5,some ⟨5,[.seq .u8 (ys.take M++List.take (32-0) (List.drop (0+0*1) z))],true⟩)]),74,[]⟩⟩
theorem Ahx:AY dm oSo (some 4) 600 2 (some ([2,8,10,11,12,13],[0,1,2,3,4,73],74)) (Y' xs ds tg L f g ys M i du) =
 some ((AL .i64 M,true)::(decide ((M:Int)<256),true)::tt 130 ((Nat.ble L tg.length,true)::(EQ (33+L),true)::(Nat.ble (0+(33+L)) (QV tg L g f i).length,true)::(Nat.ble (33+L) 35184372088832,true)::(Nat.ble M ys.length,true)::(true,true)::(EQ (M+(32-0)),true)::[]),[],rxN xs ds tg L f ys M i (Vr tg L g f i)):=dj
theorem Ahy:AT dm oSo rxF 300 2 [5] (Y' xs ds tg L f g ys M i dt)=some ([(AL .i64 M,true),(decide ((M:Int)<256),false),(decide ((0:Int)≤256∧(256:Int)≤M),true)],[],.tup [(false,[.sx 5 256 1]),(false,[.n .i64 0])],TI ys):=dj
end
section
variable (o n m n' m':Nat) (xs ds:dn)
def Vw:dn:=List.take (0+n') (List.take n' (List.drop 0 ds))++[AX false .u8 n']
def jT:dn:=List.take 64 (List.drop 0 (List.replicate 64 0))++List.take n (List.drop o xs)
def Vx:dn:=List.take (64+n) (jT o n xs)++[1,0,0]
def Vy:dn:=List.take (64+n+3) (Vx o n xs)++List.take (0+n'+1) (Vw n' ds)
theorem Ahz:AY dm oSo (some 4) 300 2 (some ([2,8,10,11,12,13],[0,1,5,11,12],13)) (rxE o n m n' m' xs ds dz) =
 some ((AL .i64 n',true)::(decide ((n':Int)<1),false)::(AL .i64 n',true)::(decide ((255:Int)<n'),false)::(true,true)::(Nat.ble (0+n') ds.length,true)::(EQ (0+n'),true)::(AL .i64 n',true)::(Nat.ble (0+n') (List.take n' (List.drop 0 ds)).length,true)::(EQ (0+n'+1),true)::(true,true)::(true,true)::(true,true)::(Nat.ble (o+n) xs.length,true)::(EQ (64+n),true)::(Nat.ble (64+n) (jT o n xs).length,true)::(EQ (64+n+3),true)::(Nat.ble (64+n+3) (Vx o n xs).length,true)::(Nat.ble (0+n'+1) (Vw n' ds).length,true)::(EQ (64+n+3+(0+n'+1)),true)::(Nat.ble (0+(64+n+3+(0+n'+1))) (Vy o n n' xs ds).length,true)::(Nat.ble (64+n+3+(0+n'+1)) 35184372088832,true)::[],[],
  ⟨AAM,⟨LB (EN 2 [5,11,12]) (rxT (0+n'+1) Vk (.val false [.n .i64 1])),JC (EN 2 [5,11,12]) (Vp xs ds (Vw n' ds) (IC (AA (Vy o n n' xs ds) 0 (64+n+3+(0+n'+1)))) AKD),13,[]⟩⟩):=dj
end
theorem Ah0 {xs ds t F:dn} {L:Nat} (_hF:F.length=32) (ht:t.length=L) (hL:L≤1000) {β0:Env} {w0:World} (hb:∀ b,2≤b→β0 b=none):∀ r i:Nat,i+r=8 →
  gn dm 187 β0 w0 (A_ β0 w0 [] (.tup [(false,[.sx 5 256 1]),(false,[.n .i64 0])]) (TI (IF F t 8))) rxF.ntmps []
   (Y' xs ds t L (fun k=>F.getD k 0) (fun k=>(xd F t i).getD k 0) (IF F t i) (32*i) ((i+1:Nat):Int) []):=by
 intro r;induction r with
 | zero =>
  intro i hi;obtain rfl:i=8:=dk
  exact Af dt (Ay Vj AB func187 (Ahy ..) ⟨dl,dl,dl,trivial⟩ (AS dj) hb jb)
 | succ r ih =>
  intro i hi;have eA:QV t L (fun k=>(xd F t i).getD k 0) (fun k=>F.getD k 0) ((i+1:Nat):Int)=TJ F (xd F t i)++[((i+1:Nat):Int)]++t:=by
   rw [← AAH ht dk];unfold QV;rw [Ahv]
  have lA:(TJ F (xd F t i)++[((i+1:Nat):Int)]++t).length=33+L:=by
   rw [kc,kc,ht];unfold TJ;rw [AAF];rfl
  refine Af du (Ai Vj AB (Ahx ..) ⟨HC dk,jc dk,AI 130 ⟨jh dk,EZ dk,?_,jh dk,?_,rfl,EZ dk,trivial⟩⟩ (AS dj) hb jb fun _=>?_)
  ·rw [eA,lA];exact jh dk
  ·rw [Vt];exact jh dk
  ·have ez:Vr t L (fun k=>(xd F t i).getD k 0) (fun k=>F.getD k 0) ((i+1:Nat):Int)=xd F t (i+1):=by
    unfold Vr;rw [eA,QU (by rw [lA])]
    rfl
   rw [ez];refine PM (m:=6) dj hb ?_
   have e1:(IF F t i).take (32*i)++List.take (32-0) (List.drop (0+0*1) (xd F t (i+1)))=IF F t (i+1):=by
    rw [GC (Vt F t i),show 0+0*1=0 from rfl,show 32-0=32 from rfl,pn,GC (TK F t (i+1))]
    rfl
   have next:=ih (i+1) dk
   unfold Y' at next;rw [Vu (TK F t (i+1))] at next;rw [e1,Au (z:=((i+1:Nat):Int)+1) dk];exact next
theorem Ah1 {o n m n' m':Nat} {xs ds:dn} (h1:o+n≤xs.length) (h2:n'≤ds.length) (hn:n≤4398046511104) (hn1:1≤n') (hn':n'≤255) :
  Ab dm 187 [AR 0 o n m,AR 1 0 n' m',.val false [.n .i64 256]] (JY xs ds) 2 [] (.tup [(false,[.sx 5 256 1]),(false,[.n .i64 0])]) (TI (KY (AA xs o n) (AA ds 0 n'))):=by
 have hd:(AA ds 0 n').length=n':=HB dk
 have l0:(List.take n' (List.drop 0 ds)).length=n':=HB (gu:=0) dk
 have eG:Vw n' ds=HD (AA ds 0 n'):=by
  unfold Vw HD;rw [hd,AAG dk,ka,GC l0];rfl
 have lT:(HD (AA ds 0 n')).length=n'+1:=L3 hd rfl
 have e1:jT o n xs=List.replicate 64 0++AA xs o n:=rfl
 have l1:(jT o n xs).length=64+n:=by rw [e1,kc,od,HB h1]
 have e2:Vx o n xs=List.replicate 64 0++AA xs o n++[1,0,0]:=by unfold Vx;rw [GC l1,e1]
 have l2:(Vx o n xs).length=64+n+3:=by unfold Vx;rw [GC l1];exact L3 l1 rfl
 have lx:(Vw n' ds).length=0+n'+1:=by rw [eG,lT];omega
 have e3:Vy o n n' xs ds=List.replicate 64 0++AA xs o n++[1,0,0]++HD (AA ds 0 n'):=by unfold Vy;rw [GC l2,GC lx,e2,eG]
 have l3:(Vy o n n' xs ds).length=64+n+3+(0+n'+1):=by unfold Vy;rw [GC l2,GC lx];exact L3 l2 lx
 refine A7 (gv:=dz) func187 dj dj fun β0 w0 hb=>?_
 refine Ai Vj AB (Ahz o n m n' m' xs ds) ?_ (AS dj) hb jb fun _=>?_
 ·have hh:AL .i64 (n':Int)=true:=HC dk
  rw [l3,lx,l2,l1,l0];exact ⟨hh,jg dk,hh,jg dk,rfl,jh dk,EZ dk,hh,jh dk,EZ dk,rfl,rfl,rfl,jh h1,EZ dk,jh dk,EZ dk,jh dk,jh dk,EZ dk,jh dk,jh dk,trivial⟩
 ·refine PM (m:=5) dj hb ?_
  refine pF (ts:=[11]) (sz:=1) (ty:=5) (kd:=.u8) rfl (hb 5 dl) (AKH [13] ?_)
  refine TD (k:=4) (ty:=54) (o:=false) (cs':=[.seq .u8 (List.replicate 32 0)]) rfl AKI ?_
  rw [QU l3,e3,eG,jQ];have next:=Ah0 (xs:=xs) (ds:=ds) (F:=Vs (AA xs o n) (HD (AA ds 0 n'))) (w0:=w0) (Y5 _) (show (HD (AA ds 0 n')).length=0+n'+1 by rw [lT];omega) dk hb 8 0 rfl
  unfold Y' at next;rw [Vu (l:=Vs (AA xs o n) (HD (AA ds 0 n'))) (Y5 _),Vu (TK _ _ 0)] at next;exact next
def Vz (m:Nat):Nat→Nat→List AV→List AV
 | _,_,[]=>[]
 | t,i,x::r=>(match Nat.beq i t,x with
  | true,.val false [.sx k len _]=>.val false [.sl k 0 len m]
  | _,y=>y)::Vz m t (i+1) r
theorem AKM (m t:Nat):∀ (T:List AV) (i j:Nat),Ap (Vz m t i T) j=Ap T j∨∃ k len sz,i+j=t∧Ap T j=.val false [.sx k len sz]∧Ap (Vz m t i T) j=.val false [.sl k 0 len m]
 | [],_,_=>.inl rfl
 | x::r,i,0=>by
  simp only [Vz,Ap];split
  ·rename_i k len sz h;exact .inr ⟨_,_,_,Ar.1 h,rfl,rfl⟩
  ·exact .inl rfl
 | x::r,i,j+1=>by
  rcases AKM m t r (i+1) j with h | ⟨k,len,sz,h1,h2,h3⟩
  ·exact .inl h
  ·exact .inr ⟨k,len,sz,dk,h2,h3⟩
theorem Ah2 {P:Program} {f:FuncId} {β0:Env} {w0:World} {R:Ending→World→Prop} {n:Fz} {W:List Nat} {todo:List Item} {T:List AV} {H:Heap} {fr:Nat} {p:List Bool} {t k len sz:Nat} (ht:Ap T t=.val false [.sx k len sz])
  (h:∀ m,len≤m→gn P f β0 w0 R n W ⟨todo,⟨Vz m t 0 T,H,fr,p⟩⟩):gn P f β0 w0 R n W ⟨todo,⟨T,H,fr,p⟩⟩:=by
 intro β a w hi hf;have r:=hi.tmp t;change AN β (Ap T t) _ at r
 rw [ht] at r;have key:∃ m,len≤m∧AN β (.val false [.sl k 0 len m]) (a.tmps.getD t undef):=by
  obtain ⟨l1,l2,h1,h2,h3⟩:=r;rcases h1 with ⟨B,q,cap,q1,q2,q3,q4⟩ | ⟨q1,q2,q3⟩
  ·exact ⟨cap,q3,l1,l2,.inl ⟨B,(q,0),q1,by rw [q2]⟩,h2,h3⟩
  ·exact ⟨0,dk,l1,l2,.inr (.inl ⟨q1,rfl,q2,rfl,q3⟩),h2,h3⟩
 obtain ⟨m,hm,r⟩:=key;refine h m hm β a w { hi with tmp:=fun j=>?_ } hf
 show AN β (Ap (Vz m t 0 T) j) _;rcases AKM m t T 0 j with e | ⟨k',len',sz',e1,e2,e3⟩
 ·rw [e];exact hi.tmp j
 ·have e1:j=t:=dk
  subst e1;rw [ht] at e2;injection e2 with _ e2;injection e2 with e2;injection e2 with x1 x2 x3;subst x1;subst x2;rw [e3];exact r
def rxV:AV:=.tup [(false,[.sx 5 256 1]),(false,[.n .i64 0])]
noncomputable def SCe0:dr:=(187,Y_ 256 rxV 5 4 fun x d=>⟨5,[.seq .u8 (KY x d)],true⟩)::SYd2
theorem Ah4:AW dm SCe0:=⟨AAK func187 dj dj (fun _ _=>rfl) fun _ _ h1 h2 h3 h4 h5 _=>Ah1 h1 h2 h3 h4 h5,AJ_⟩
noncomputable abbrev oCe0:gr:=AH SCe0 KV
theorem AKN:gp dm oCe0:=AJ Ah4 BS
noncomputable abbrev fdrF:Func:=f121
noncomputable def AKO (o n m n' m':Nat) (xs ds:dn) (p:List Bool):gq:=Aj fdrF [AR 0 o n m,AR 1 0 n' m',.val false [.n .i64 2]] (JY xs ds) 2 p
noncomputable def AKP:List Item:=CB (AY dm oCe0 (some 0) 300 2 none (AKO 0 0 0 0 0 [] [] []))
noncomputable def AKQ (s:AV):List AV:=EC fdrF.ntmps [(2,.val false [.n .i64 2]),(9,s),(11,Vk),(12,.val false [.n .i64 0])]
noncomputable def Ah5 (Z:dn) (s:AV) (p:List Bool):gq:=⟨AKP,⟨AKQ s,[(2,some ⟨5,[.seq .u8 Z],true⟩)],3,p⟩⟩
section
variable (o n m n' m':Nat) (xs ds:dn)
theorem Ah6:AY dm oCe0 (some 0) 300 2 (some ([2,9,11,12],[5],6)) (AKO o n m n' m' xs ds []) =
 some ([(Nat.ble (o+n) xs.length,true),(Nat.ble n' ds.length,true),(Nat.ble n 4398046511104,true),(Nat.ble 1 n',true),(Nat.ble n' 255,true),(Nat.ble n' m',true)],[],⟨AKP,⟨LB (EN 2 [5]) (AKQ (.val false [.sx 2 256 1])),JC (EN 2 [5]) [(2,some ⟨5,[.seq .u8 (FT o n n' xs ds)],true⟩)],6,[]⟩⟩):=dj
theorem Ah7 (Z:dn):AT dm oCe0 fdrF 300 2 [14] (Ah5 Z (AR 2 0 256 m) ee) =
 some ((decide ((0:Int)≤64∧(64:Int)≤m),true)::(true,true)::(Nat.beq m 0,false)::(Nat.ble 64 Z.length,true)::tt 3 ((decide ((0:Int)≤128∧(128:Int)≤m),true)::(true,true)::(Nat.beq m 64,false)::(Nat.ble 128 Z.length,true)::tt 4 ((decide ((0:Int)≤192∧(192:Int)≤m),true)::(true,true)::(Nat.beq m 128,false)::(Nat.ble 192 Z.length,true)::tt 3 ((decide ((0:Int)≤256∧(256:Int)≤m),true)::(true,true)::(Nat.beq m 192,false)::(Nat.ble 256 Z.length,true)::tt 4 []))),[],
  .tup [(false,[.sx 14 2 12]),(false,[.n .i64 0])],jS 14 (GX Z 0) (GX Z 1) (GX Z 2) (GX Z 3)):=dj
end
theorem Ah8 {o n m n' m':Nat} {xs ds:dn} (h1:o+n≤xs.length) (h2:n'≤ds.length) (hn:n≤4398046511104) (hn1:1≤n') (hn':n'≤255) (hm:n'≤m') :
  Ab dm 121 [AR 0 o n m,AR 1 0 n' m',.val false [.n .i64 2]] (JY xs ds) 2 [] (fdV 14) [(14,some (Vv (AA xs o n) (AA ds 0 n')))]:=by
 refine A7 (gv:=[]) func121 dj dj fun β0 w0 hb=>?_
 refine Ai AKN AB (Ah6 o n m n' m' xs ds) ⟨jh h1,jh h2,jh hn,jh hn1,jh hn',jh hm,trivial⟩ (AS dj) hb jb fun _=>?_
 refine PM (m:=3) dj hb ?_
 refine Ah2 (t:=9) (k:=2) (len:=256) (sz:=1) dj fun c hc=>?_
 have lZ:(FT o n n' xs ds).length=256:=AAJ _ _
 have b64:∀ k,k≤256→Nat.ble k (FT o n n' xs ds).length=true:=fun k hk=>jh (by rw [lZ];exact hk)
 have bc:∀ k,k<256→Nat.beq c k=false:=fun k hk=>GH dk
 have:=Ay (P:=dm) (n:=fdrF.ntmps) (β0:=β0) (w0:=w0) (W:=[]) AKN AB func121 (Ah7 c (FT o n n' xs ds)) ⟨jc dk,rfl,bc 0 dl,b64 64 dl,AI 3 ⟨jc dk,rfl,bc 64 dl,b64 128 dl,AI 4 ⟨jc dk,rfl,bc 128 dl,b64 192 dl,AI 3 ⟨jc dk,rfl,bc 192 dl,b64 256 dl,AI 4 trivial⟩⟩⟩⟩ (AS dj) hb jb
 have e:jS 14 (GX (FT o n n' xs ds) 0) (GX (FT o n n' xs ds) 1) (GX (FT o n n' xs ds) 2) (GX (FT o n n' xs ds) 3)=[(14,some (Vv (AA xs o n) (AA ds 0 n')))]:=by
  unfold FT;rw [QX _ _ dl,QX _ _ dl,QX _ _ dl,QX _ _ dl];rfl
 rw [e] at this;exact Af ee this
noncomputable def SCe:dr:=(121,Y_ 2 (fdV 14) 14 13 Vv)::SCc
theorem Ah9:AW dm SCe:=⟨AAK func121 dj dj (fun _ _=>rfl) fun _ _ h1 h2 h3 h4 h5 h6=>Ah8 h1 h2 h3 h4 h5 h6,Aht⟩
open Ex Num Rg
open Sh (R av rd mo en mo_en)
noncomputable def SCf0:dr:=(174,Ac (Bi gj fun r=>DY (B_ (mo r))))::(SVg++(SQt++SQg))
theorem jU:AW dm SCf0:=⟨Ad func174 dj dj (Bm AHm),KU iC (KU AIX AIS)⟩
noncomputable abbrev oCf0:gr:=AH SCf0 KV
theorem L7:gp dm oCf0:=AJ jU BS
noncomputable def SCf1:dr:=(260,BF dm oCf0 f260 3000)::(263,BF dm oCf0 f263 100)::(262,BF dm oCf0 f262 100)::(261,BF dm oCf0 f261 100)::(281,BF dm oCf0 f281 100)::(280,BF dm oCf0 f280 100)::(248,BF dm oCf0 f248 100)::SCf0
theorem AAO:AW dm SCf1:=⟨BK L7 AB func260 dj dj 3000,BK L7 AB func263 dj dj 100,BK L7 AB func262 dj dj 100,BK L7 AB func261 dj dj 100,BK L7 AB func281 dj dj 100,BK L7 AB func280 dj dj 100,BK L7 AB func248 dj dj 100,jU⟩
noncomputable abbrev oCf1:gr:=AH SCf1 KV
theorem AKR:gp dm oCf1:=AJ AAO BS
noncomputable section
def aR:R gj:=((0:Nat),(240:Nat))
def bR:R gj:=((1012:Nat),(1012:Nat))
def zR:R gj:=ng gj ((2:Nat),(1:Nat))
def oR:R gj:=((1:Nat),(0:Nat))
def Br:R gj:=((0:Nat),(0:Nat))
def aF:gj:=mo aR
def bF:gj:=mo bR
def zF:gj:=mo zR
theorem ZA:(mo oR:gj)=1:=Qx.ext EB rfl
theorem QY:(mo Br:gj)=0:=rfl
def Cx (x:gj):gj:=x*x*x+aF*x+bF
def sdP (r:R gj):R gj:=ad gj (mu gj (ad gj (mu gj (ad gj (mu gj (ad gj (mu gj Br r) oR) r) Br) r) aR) r) bR
def sdR (r:R gj):R gj:=ad gj (ad gj (mu gj (mu gj r r) r) (mu gj aR r)) bR
theorem Ah_ (r:R gj):AM dm oCf1 f247 [va gj r] [] 300=some ([],va gj (sdR r)):=dj
theorem Ah' (r:R gj):AM dm oCf1 f265 [va gj r] [true,true,true,true,false] 300=some (tt 9 ((false,false)::[]),va gj (sdP r)):=dj
theorem AiA (r:R gj):sdR r=en (Cx (mo r)):=by simp only [sdR,ad,mu,mo_en];rfl
theorem AiB (x a b:gj):(((0*x+1)*x+0)*x+a)*x+b=x*x*x+a*x+b:=ring [x,a,b] (a:=(((0*x+1)*x+0)*x+a)*x+b) (b:=x*x*x+a*x+b) dj
theorem AiC (r:R gj):sdP r=en (Cx (mo r)):=by
 simp only [sdP,ad,mu,mo_en,ZA,QY];exact jl en (AiB _ _ _)
def SCf2:dr:=(265,Ac (Bi gj fun r=>va gj (en (Cx (mo r)))))::(247,Ac (Bi gj fun r=>va gj (en (Cx (mo r)))))::SCf1
theorem AKS:AW dm SCf2:=⟨Ad func265 dj dj (Bm fun r=>by rw [← AiC];exact AP AKR AB func265 (Ah' r) (AI 9 ⟨rfl,trivial⟩) rfl),Ad func247 dj dj (Bm fun r=>by rw [← AiA];exact AP AKR AB func247 (Ah_ r) trivial rfl),AAO⟩
abbrev oCf2:gr:=AH SCf2 KV
theorem AKT:gp dm oCf2:=AJ AKS BS
def SCf3:dr:=(264,BF dm oCf2 f264 300)::(246,BF dm oCf2 f246 300)::SCf2
theorem AiD:AW dm SCf3:=⟨BK AKT AB func264 dj dj 300,BK AKT AB func246 dj dj 300,AKS⟩
abbrev oCf3:gr:=AH SCf3 KV
theorem jV:gp dm oCf3:=AJ AiD BS
def wR (r:R gj):R gj:=mu gj zR (mu gj r r)
def tR (r:R gj):R gj:=ad gj (mu gj (wR r) (wR r)) (wR r)
def IG (r:R gj):Bool→R gj
 | true=>mu gj bR (iv gj (mu gj zR aR))
 | false=>mu gj (ng gj (mu gj bR (iv gj aR))) (ad gj oR (iv gj (tR r)))
def QZ (r:R gj) (b:Bool):R gj:=mu gj (wR r) (IG r b)
def L8 (x:R gj):R gj:=en (E6 (mo (en (Cx (mo x)):R gj)))
def V0 (x:R gj):Bool:=Cs (mo (en (Cx (mo x)):R gj))
def ZB (r y:R gj):Bool:=!decide (B_ (mo y)=B_ (mo r))
def V1 (y:R gj):Bool→R gj
 | true=>ng gj y
 | false=>y
def V2 (x y:R gj):AV:=.tup [(true,av x),(true,av y)]
end
theorem AiE (r:R gj):∀ b c:Bool,AM dm oCf3 f218 [va gj r] [b,c,true] 300=some ([(CN (tR r) Br,b),(ZB r (L8 (IG r b)),c),(V0 (IG r b),true)],V2 (IG r b) (V1 (L8 (IG r b)) c))
 | true,true=>dj
 | true,false=>dj
 | false,true=>dj
 | false,false=>dj
theorem AiF (r:R gj):∀ b c d:Bool,AM dm oCf3 f218 [va gj r] [b,c,false,d] 300=some ([(CN (tR r) Br,b),(ZB r (L8 (IG r b)),c),(V0 (IG r b),false),(ZB r (L8 (QZ r b)),d)],V2 (QZ r b) (V1 (L8 (QZ r b)) d))
 | true,true,true=>dj
 | true,false,true=>dj
 | false,true,true=>dj
 | false,false,true=>dj
 | true,true,false=>dj
 | true,false,false=>dj
 | false,true,false=>dj
 | false,false,false=>dj
noncomputable def jW (r y:R gj):Bool:=!decide (B_ (mo r)=B_ (mo y))
theorem AiG (r:R gj):∀ b d:Bool,AM dm oCf3 f190 [va gj r] [b,false,d] 300=some ([(CN (tR r) Br,b),(!V0 (IG r b),false),(jW r (L8 (IG r b)),d)],V2 (IG r b) (V1 (L8 (IG r b)) d))
 | true,true=>dj
 | true,false=>dj
 | false,true=>dj
 | false,false=>dj
theorem AiH (r:R gj):∀ b d:Bool,AM dm oCf3 f190 [va gj r] [b,true,d] 300=some ([(CN (tR r) Br,b),(!V0 (IG r b),true),(jW r (L8 (QZ r b)),d)],V2 (QZ r b) (V1 (L8 (QZ r b)) d))
 | true,true=>dj
 | true,false=>dj
 | false,true=>dj
 | false,false=>dj
noncomputable section
def wF (u:gj):gj:=zF*(u*u)
def tF (u:gj):gj:=wF u*wF u+wF u
def NI (u:gj):Bool→gj
 | true=>bF*FD.inv (zF*aF)
 | false=>-(bF*FD.inv aF)*(1+FD.inv (tF u))
def GD (u:gj):Bool:=decide (tF u=0)
def II (u:gj):gj:=NI u (GD u)
def Iw (u:gj):gj:=match Cs (Cx (II u)) with
 | true=>II u
 | false=>wF u*II u
def jY (u y:gj):gj:=match (!decide (B_ y=B_ u)) with
 | true=>-y
 | false=>y
def Qi (u:gj):gj:=jY u (E6 (Cx (Iw u)))
theorem AiI (r:R gj):tR r=en (tF (mo r)):=by simp only [tR,wR,ad,mu,mo_en];rfl
theorem jZ (r:R gj):CN (tR r) Br=GD (mo r):=by rw [AiI,show Br=en (0:gj) from rfl,Rz];rfl
theorem AAR (r:R gj):∀ b,IG r b=en (NI (mo r) b)
 | true=>by simp only [IG,iv,mu,mo_en];rfl
 | false=>by simp only [IG,tR,wR,iv,ad,ng,mu,mo_en,ZA];rfl
theorem AKU (r:R gj) (b:Bool):QZ r b=en (wF (mo r)*NI (mo r) b):=by unfold QZ;rw [AAR];simp only [wR,mu,mo_en];rfl
theorem O0 (x:gj):L8 (en x)=en (E6 (Cx x)):=by unfold L8;rw [mo_en,mo_en]
theorem j4 (x:gj):V0 (en x)=Cs (Cx x):=by unfold V0;rw [mo_en,mo_en]
theorem AAS (r:R gj) (y:gj):ZB r (en y)=!decide (B_ y=B_ (mo r)):=by unfold ZB;rw [mo_en]
theorem AKV (r:R gj) (y:gj):jW r (en y)=!decide (B_ y=B_ (mo r)):=by unfold jW;rw [mo_en];exact jl _ (decide_eq_decide.2 ⟨Eq.symm,Eq.symm⟩)
theorem j5 (r:R gj) (y:gj):V1 (en y) (!decide (B_ y=B_ (mo r)))=en (jY (mo r) y):=by
 unfold jY V1;cases (!decide (B_ y=B_ (mo r))) with
 | true=>exact (show ng gj (en y)=en (-y) by unfold ng;rw [mo_en])
 | false=>rfl
def V3 (u:gj):AV:=V2 (en (Iw u)) (en (Qi u))
theorem AiJ (r:R gj):AU dm 218 [va gj r] (V3 (mo r)):=by
 have e1:=AAR r (GD (mo r))
 have e2:=AKU r (GD (mo r))
 unfold V3 Qi Iw II;cases hi:Cs (Cx (NI (mo r) (GD (mo r)))) with
 | true =>
  have h:=AP jV AB func218 (AiE r (GD (mo r)) (!decide (B_ (E6 (Cx (NI (mo r) (GD (mo r)))))=B_ (mo r)))) ⟨jZ r,by rw [e1,O0,AAS],by rw [e1,j4];exact hi,trivial⟩ rfl
  rw [e1,O0,j5] at h;exact h
 | false =>
  have h:=AP jV AB func218 (AiF r (GD (mo r)) (!decide (B_ (E6 (Cx (NI (mo r) (GD (mo r)))))=B_ (mo r))) (!decide (B_ (E6 (Cx (wF (mo r)*NI (mo r) (GD (mo r)))))=B_ (mo r)))) ⟨jZ r,by rw [e1,O0,AAS],by rw [e1,j4];exact hi,by rw [e2,O0,AAS],trivial⟩ rfl
  rw [e2,O0,j5] at h;exact h
theorem AiK (r:R gj):AU dm 190 [va gj r] (V3 (mo r)):=by
 have e1:=AAR r (GD (mo r))
 have e2:=AKU r (GD (mo r))
 unfold V3 Qi Iw II;cases hi:Cs (Cx (NI (mo r) (GD (mo r)))) with
 | true =>
  have h:=AP jV AB func190 (AiG r (GD (mo r)) (!decide (B_ (E6 (Cx (NI (mo r) (GD (mo r)))))=B_ (mo r)))) ⟨jZ r,by rw [e1,j4,hi];rfl,by rw [e1,O0,AKV],trivial⟩ rfl
  rw [e1,O0,j5] at h;exact h
 | false =>
  have h:=AP jV AB func190 (AiH r (GD (mo r)) (!decide (B_ (E6 (Cx (wF (mo r)*NI (mo r) (GD (mo r)))))=B_ (mo r)))) ⟨jZ r,by rw [e1,j4,hi];rfl,by rw [e2,O0,AKV],trivial⟩ rfl
  rw [e2,O0,j5] at h;exact h
theorem AKW:∃ f:gj→gj×gj,∀ u,f u=(Iw u,Qi u):=⟨_,fun _=>rfl⟩
def L9:gj→gj×gj:=Classical.choose AKW
theorem AKX (u:gj):L9 u=(Iw u,Qi u):=kq AKW u
def j6 (u:gj):AV:=V2 (en (L9 u).1) (en (L9 u).2)
theorem AKY (u:gj):j6 u=V3 u:=by unfold j6 V3;rw [AKX]
def SCf:dr:=(218,Ac (Bi gj fun r=>j6 (mo r)))::(190,Ac (Bi gj fun r=>j6 (mo r)))::SCf1
theorem AAT:AW dm SCf:=⟨Ad func218 dj dj (Bm fun r=>by rw [AKY];exact AiJ r),Ad func190 dj dj (Bm fun r=>by rw [AKY];exact AiK r),AAO⟩
abbrev oCf:gr:=AH SCf KV
theorem AKZ:gp dm oCf:=AJ AAT BS
end
noncomputable section
def SCg0:dr:=(282,BF dm oCf f282 300)::(283,BF dm oCf f283 300)::SCf
theorem AKa:AW dm SCg0:=⟨BK AKZ AB func282 dj dj 300,BK AKZ AB func283 dj dj 300,AAT⟩
abbrev oCg0:gr:=AH SCg0 KV
theorem AiL:gp dm oCg0:=AJ AKa BS
def SCg1:dr:=(251,BF dm oCg0 f251 600)::SCg0
theorem AiM:AW dm SCg1:=⟨BK AiL AB func251 dj dj 600,AKa⟩
abbrev oCg1:gr:=AH SCg1 KV
theorem V4:gp dm oCg1:=AJ AiM BS
def j7:R gj:=((0:Nat),(4002409555221667393417789825735904156556882819939007885332058136124031650490837864442687629129015664037894272559715:Nat))
def j8:R gj:=((12:Nat),(4002409555221667393417789825735904156556882819939007885332058136124031650490837864442687629129015664037894272559775:Nat))
def j9:R gj:=((1:Nat),(0:Nat))
def i4a:R gj:=((4002409555221667393417789825735904156556882819939007885332058136124031650490837864442687629129015664037894272559355:Nat),(4002409555221667393417789825735904156556882819939007885332058136124031650490837864442687629129015664037894272559355:Nat))
def i4b:R gj:=((0:Nat),(4002409555221667393417789825735904156556882819939007885332058136124031650490837864442687629129015664037894272559571:Nat))
def i4c:R gj:=((18:Nat),(4002409555221667393417789825735904156556882819939007885332058136124031650490837864442687629129015664037894272559769:Nat))
def i4d:R gj:=((1:Nat),(0:Nat))
def i1a:R gj:=((889424345604814976315064405719089812568196182208668418962679585805340366775741747653930584250892369786198727235542:Nat),(889424345604814976315064405719089812568196182208668418962679585805340366775741747653930584250892369786198727235542:Nat))
def i1b:R gj:=((0:Nat),(2668273036814444928945193217157269437704588546626005256888038757416021100327225242961791752752677109358596181706522:Nat))
def i1c:R gj:=((2668273036814444928945193217157269437704588546626005256888038757416021100327225242961791752752677109358596181706526:Nat),(1334136518407222464472596608578634718852294273313002628444019378708010550163612621480895876376338554679298090853261:Nat))
def i1d:R gj:=((3557697382419259905260257622876359250272784728834673675850718343221361467102966990615722337003569479144794908942033:Nat),(0:Nat))
def i3a:R gj:=((3261222600550988246488569487636662646083386001431784202863158481286248011511053074731078808919938689216061999863558:Nat),(3261222600550988246488569487636662646083386001431784202863158481286248011511053074731078808919938689216061999863558:Nat))
def i3b:R gj:=((0:Nat),(889424345604814976315064405719089812568196182208668418962679585805340366775741747653930584250892369786198727235518:Nat))
def i3c:R gj:=((2668273036814444928945193217157269437704588546626005256888038757416021100327225242961791752752677109358596181706524:Nat),(1334136518407222464472596608578634718852294273313002628444019378708010550163612621480895876376338554679298090853263:Nat))
def i3d:R gj:=((2816510427748580758331037284777117739799287910327449993381818688383577828123182200904113516794492504322962636245776:Nat),(0:Nat))
def V5 (r a b c d:R gj):R gj:=ad gj (mu gj (ad gj (mu gj (ad gj (mu gj (ad gj (mu gj Br r) d) r) c) r) b) r) a
def pl3 (r a b c:R gj):R gj:=ad gj (mu gj (ad gj (mu gj (ad gj (mu gj Br r) c) r) b) r) a
def TM (r:R gj) (p2:R gj):R gj:=mu gj (V5 r i1a i1b i1c i1d) (iv gj p2)
def TN (r s:R gj) (p4:R gj):R gj:=mu gj s (mu gj (V5 r i3a i3b i3c i3d) (iv gj p4))
def TO (x y:R gj):AV:=.val true (Bw (av x) (Bw (av y) [.b false]))
def V6 (r:R gj):R gj:=pl3 r j7 j8 j9
def Qj (r:R gj):R gj:=V5 r i4a i4b i4c i4d
def V7 (r:R gj):R gj:=V5 r j7 j8 j9 Br
end
section
variable (r s:R gj)
theorem AiN:AM dm oCg1 f217 [va gj r,va gj s] [true,true,true,false,true,true,true,true,false,true] 600=some (tt 7 ((false,false)::tt 9 ((false,false)::(CN (V6 r) Br,true)::[])),.val true (CW true)):=dj
theorem AiO:AM dm oCg1 f217 [va gj r,va gj s] [true,true,true,false,true,true,true,true,false,false,true] 600=some (tt 7 ((false,false)::tt 9 ((false,false)::(CN (V6 r) Br,false)::(CN (Qj r) Br,true)::[])),.val true (CW true)):=dj
theorem AiP:AM dm oCg1 f217 [va gj r,va gj s] [true,true,true,false,true,true,true,true,false,false,false,true,true,true,true,false,true,true,true,true,false] 600=some (tt 7 ((false,false)::tt 9 ((false,false)::(CN (V6 r) Br,false)::(CN (Qj r) Br,false)::tt 9 ((false,false)::tt 9 ((false,false)::[])))),TO (TM r (V6 r)) (TN r s (Qj r))):=dj
theorem AiQ:AM dm oCg1 f192 [va gj r,va gj s] du 600=some ([(CN (V7 r) Br,true)],.val true (CW true)):=dj
theorem AiR:AM dm oCg1 f192 [va gj r,va gj s] dx 600=some ([(CN (V7 r) Br,false),(CN (Qj r) Br,true)],.val true (CW true)):=dj
theorem AiS:AM dm oCg1 f192 [va gj r,va gj s] dz 600=some ([(CN (V7 r) Br,false),(CN (Qj r) Br,false)],TO (TM r (V7 r)) (TN r s (Qj r))):=dj
end
noncomputable section
def TP (x a b c d:gj):gj:=(((0*x+d)*x+c)*x+b)*x+a
def FA (k:Nat) (x:gj):gj:=match k with
 | 1=>TP x (mo i1a) (mo i1b) (mo i1c) (mo i1d)
 | 2=>TP x (mo j7) (mo j8) (mo j9) 0
 | 3=>TP x (mo i3a) (mo i3b) (mo i3c) (mo i3d)
 | _=>TP x (mo i4a) (mo i4b) (mo i4c) (mo i4d)
def ZC (p1 p2 p3 p4 y:gj):P2:=match decide (p2=0) with
 | true=>.inf
 | false=>match decide (p4=0) with
  | true=>.inf
  | false=>.pt (p1*FD.inv p2) (y*(p3*FD.inv p4))
def Qk (x y:gj):P2:=ZC (FA 1 x) (FA 2 x) (FA 3 x) (FA 4 x) y
theorem kC (r a b c d:R gj):V5 r a b c d=en (TP (mo r) (mo a) (mo b) (mo c) (mo d)):=by simp only [V5,ad,mu,mo_en,QY];rfl
theorem AiT (x a b c:gj):((0*x+c)*x+b)*x+a=TP x a b c 0:=ring [x,a,b,c] (a:=((0*x+c)*x+b)*x+a) (b:=(((0*x+0)*x+c)*x+b)*x+a) dj
theorem AiU (r:R gj):V6 r=en (FA 2 (mo r)):=by
 simp only [V6,pl3,ad,mu,mo_en,QY];exact jl en (AiT _ _ _ _)
theorem AiV (r:R gj):V7 r=en (FA 2 (mo r)):=by unfold V7;rw [kC];rfl
theorem AKc (r:R gj):Qj r=en (FA 4 (mo r)):=by unfold Qj;rw [kC];rfl
theorem AiW (r:R gj) (p:gj):TM r (en p)=en (FA 1 (mo r)*FD.inv p):=by unfold TM iv mu;rw [kC,mo_en,mo_en,mo_en];rfl
theorem AiX (r s:R gj) (p:gj):TN r s (en p)=en (mo s*(FA 3 (mo r)*FD.inv p)):=by unfold TN iv mu;rw [kC,mo_en,mo_en,mo_en,mo_en];rfl
theorem AiY:Br=en (0:gj):=rfl
theorem AiZ {F:FuncId} {args:List AV} (X Y:gj) (h:AU dm F args (TO (en X) (en Y))):AU dm F args (ve (.pt X Y:P2)):=E5 (α:=P2) (r:=(en (.pt X Y:P2):R P2)) h dj
theorem Aia {F:FuncId} {r s:R gj} {p1 p2 p3 p4:gj}
  (h1:decide (p2=0)=true→AU dm F [va gj r,va gj s] (.val true (CW true))) (h2:decide (p2=0)=false→decide (p4=0)=true→AU dm F [va gj r,va gj s] (.val true (CW true)))
  (h3:decide (p2=0)=false→decide (p4=0)=false→AU dm F [va gj r,va gj s] (TO (en (p1*FD.inv p2)) (en (mo s*(p3*FD.inv p4))))):AU dm F [va gj r,va gj s] (ve (ZC p1 p2 p3 p4 (mo s))):=by
 have z:AU dm F [va gj r,va gj s] (.val true (CW true))→AU dm F [va gj r,va gj s] (ve (.inf:P2)):=fun h=>E5 (α:=P2) (r:=(en (.inf:P2):R P2)) h dj
 unfold ZC;cases q2:decide (p2=0) with
 | true=>exact z (h1 q2)
 | false =>
  cases q4:decide (p4=0) with
  | true=>exact z (h2 q2 q4)
  | false=>exact AiZ _ _ (h3 q2 q4)
theorem AKd {p:R gj} {x:gj} (e:p=en x):CN p Br=decide (x=0):=by rw [e,AiY,Rz]
theorem Aib {x y x' y':R gj} (e1:x=x') (e2:y=y'):TO x y=TO x' y':=by rw [e1,e2]
theorem AKe {F:FuncId} {r s:R gj} {p2 p4:R gj} (e2:p2=en (FA 2 (mo r))) (e4:p4=en (FA 4 (mo r)))
  (h1:CN p2 Br=true→AU dm F [va gj r,va gj s] (.val true (CW true))) (h2:CN p2 Br=false→CN p4 Br=true→AU dm F [va gj r,va gj s] (.val true (CW true)))
  (h3:CN p2 Br=false→CN p4 Br=false→AU dm F [va gj r,va gj s] (TO (TM r p2) (TN r s p4))):AU dm F [va gj r,va gj s] (ve (Qk (mo r) (mo s))):=by
 have f2:=AKd e2;have f4:=AKd e4;have ex:TM r p2=en (FA 1 (mo r)*FD.inv (FA 2 (mo r))):=(jl (TM r) e2).trans (AiW r _)
 have ey:TN r s p4=en (mo s*(FA 3 (mo r)*FD.inv (FA 4 (mo r)))):=(jl (TN r s) e4).trans (AiX r s _)
 unfold Qk;generalize FA 1 (mo r)=q1 at *
 generalize FA 2 (mo r)=q2 at *
 generalize FA 3 (mo r)=q3 at *
 generalize FA 4 (mo r)=q4 at *
 exact Aia (fun h=>h1 (f2.trans h)) (fun h h'=>h2 (f2.trans h) (f4.trans h')) fun h h'=>(Aib ex ey)▸h3 (f2.trans h) (f4.trans h')
theorem Aic (r s:R gj):AU dm 217 [va gj r,va gj s] (ve (Qk (mo r) (mo s))) :=
 AKe (AiU r) (AKc r) (fun h=>AP V4 AB func217 (AiN r s) (AI 7 ⟨rfl,AI 9 ⟨rfl,h,trivial⟩⟩) rfl) (fun h h'=>AP V4 AB func217 (AiO r s) (AI 7 ⟨rfl,AI 9 ⟨rfl,h,h',trivial⟩⟩) rfl)
  fun h h'=>AP V4 AB func217 (AiP r s) (AI 7 ⟨rfl,AI 9 ⟨rfl,h,h',AI 9 ⟨rfl,AI 9 ⟨rfl,trivial⟩⟩⟩⟩) rfl
theorem Aid (r s:R gj):AU dm 192 [va gj r,va gj s] (ve (Qk (mo r) (mo s))) :=
 AKe (AiV r) (AKc r) (fun h=>AP V4 AB func192 (AiQ r s) ⟨h,trivial⟩ rfl) (fun h h'=>AP V4 AB func192 (AiR r s) ⟨h,h',trivial⟩ rfl)
  fun h h'=>AP V4 AB func192 (AiS r s) ⟨h,h',trivial⟩ rfl
theorem AKf:∃ f:gj→gj→P2,∀ x y,f x y=Qk x y:=⟨_,fun _ _=>rfl⟩
def TQ:gj→gj→P2:=Classical.choose AKf
theorem AAg (x y:gj):TQ x y=Qk x y:=kq AKf x y
def SCg:dr:=(217,Ac (DW gj gj fun r s=>ve (TQ (mo r) (mo s))))::(192,Ac (DW gj gj fun r s=>ve (TQ (mo r) (mo s))))::SCf
theorem AKg:AW dm SCg:=⟨Ad func217 dj dj (Dy fun r s=>by rw [AAg];exact Aic r s),Ad func192 dj dj (Dy fun r s=>by rw [AAg];exact Aid r s),AAT⟩
abbrev oCg:gr:=AH SCg KV
theorem AKh:gp dm oCg:=AJ AKg BS
end
noncomputable section
def hcL:dn:=[16717924791090763089,6451771550755190452,16813287336095381155,3368952460600638490,7891079509683868336,3646841576362204053,11062809923385098209,9863631852917151592,6362576984766887208,848540440590185907]
theorem AKi:∃ n,n=AK hcL:=⟨_,rfl⟩
def O1:Nat:=Classical.choose AKi
theorem AAh:O1=AK hcL:=kq AKi
theorem Aie (r:R P2):AM dm oCg f219 [va P2 r] [] 300=some ([(true,true),(true,true)],KD (E8 (AK hcL) (mo r)) (FZ (mo r))):=dj
theorem Aif (r:R P2):AM dm oCg f193 [va P2 r] [] 300=some ([(true,true),(true,true)],KD (E8 (AK hcL) (mo r)) (FZ (mo r))):=dj
def SCi0:dr:=(219,Ac (Bi P2 fun r=>KD (E8 O1 (mo r)) (FZ (mo r))))::(193,Ac (Bi P2 fun r=>KD (E8 O1 (mo r)) (FZ (mo r))))::SCg
theorem AKj:AW dm SCi0:=⟨Ad func219 dj dj (Bm fun r=>by rw [AAh];exact AP AKh AB func219 (Aie r) ⟨rfl,rfl,trivial⟩ rfl),Ad func193 dj dj (Bm fun r=>by rw [AAh];exact AP AKh AB func193 (Aif r) ⟨rfl,rfl,trivial⟩ rfl),AKg⟩
abbrev oCi0:gr:=AH SCi0 KV
theorem Aig:gp dm oCi0:=AJ AKj BS
def SCi1:dr:=(216,BF dm oCi0 f216 300)::SCi0
theorem Aih:AW dm SCi1:=⟨BK Aig AB func216 dj dj 300,AKj⟩
abbrev oCi1:gr:=AH SCi1 KV
theorem AKk:gp dm oCi1:=AJ Aih BS
def siR (r:R gj):P2:=TQ (mo (en (L9 (mo r)).1:R gj)) (mo (en (L9 (mo r)).2:R gj))
def ZD (r s:R gj):P2:=E8 O1 (mo (en (Rg.add (mo (en (siR r):R P2):P2) (mo (en (siR s):R P2))):R P2))
theorem Aii (r s:R gj):AM dm oCi1 f155 [va gj r,va gj s] [] 300=some ([],ve (ZD r s)):=dj
theorem Aij (r s:R gj):AM dm oCi1 f122 [va gj r,va gj s] [] 300=some ([],ve (ZD r s)):=dj
def kD (u v:gj):P2:=E8 O1 (Rg.add (TQ (L9 u).1 (L9 u).2) (TQ (L9 v).1 (L9 v).2))
theorem Aik (r s:R gj):ZD r s=kD (mo r) (mo s):=by unfold ZD siR kD;simp only [mo_en]
theorem AKl:∃ f:gj→gj→P2,∀ x y,f x y=kD x y:=⟨_,fun _ _=>rfl⟩
def TR:gj→gj→P2:=Classical.choose AKl
theorem AKm (x y:gj):TR x y=kD x y:=kq AKl x y
theorem AKn (r s:R gj):ve (TR (mo r) (mo s))=ve (ZD r s):=by rw [AKm,Aik]
def SCi2:dr:=(155,Ac (DW gj gj fun r s=>ve (TR (mo r) (mo s))))::(122,Ac (DW gj gj fun r s=>ve (TR (mo r) (mo s))))::SCe
theorem Ail:AW dm SCi2:=⟨Ad func155 dj dj (Dy fun r s=>by rw [AKn];exact AP AKk AB func155 (Aii r s) trivial rfl),Ad func122 dj dj (Dy fun r s=>by rw [AKn];exact AP AKk AB func122 (Aij r s) trivial rfl),Ah9⟩
abbrev AAj:gr:=AH SCi2 KV
end
noncomputable def kE (g:dn→dn→AV):ASpec:=fun args H fr gv=>match args with
 | [S,T]=>match DZ S,Im T with
  | some (k,o,n),some (t,n',m')=>match AG H k,AG H t with
   | some ⟨_,cs,_⟩,some ⟨_,es,_⟩=>match A8 .u8 cs,A8 .u8 es with
    | some xs,some ds=>some (BR [k,t] 2 fr 0 [] (g (AA xs o n) (AA ds 0 n')) [] [(Nat.ble (o+n) xs.length,true),(Nat.ble n' ds.length,true),(Nat.ble n 4398046511104,true),(Nat.ble 1 n',true),(Nat.ble n' 255,true),(Nat.ble n' m',true)] gv)
    | _,_=>none
   | _,_=>none
  | _,_=>none
 | _=>none
theorem AKo {F:FuncId} {fn:Func} {g:dn→dn→AV} (ip:dm.funcs[F]? = some fn) (hb:fn.body.isSome=true) (h_:fo fn) (hk:∀ l d,EU 2 0 [] (g l d) []=true)
  (h:∀ {o n m n' m':Nat} {xs ds:dn},(∀ d∈xs,0≤d∧d<256)→(∀ d∈ds,0≤d∧d<256)→o+n≤xs.length→n'≤ds.length→n≤4398046511104→1≤n'→n'≤255→n'≤m'→Ab dm F [AR 0 o n m,AR 1 0 n' m'] (JY xs ds) 2 [] (g (AA xs o n) (AA ds 0 n')) []):BJ dm F (kE g):=by
 refine Da ip hb h_ fun args H fr gv r hs=>?_
 unfold kE at hs;split at hs;case h_2=>cases hs
 rename_i S T;split at hs;case h_2=>cases hs
 rename_i k o n t n' m' hS hT;split at hs;case h_2=>cases hs
 rename_i ty cs op ty' es op' hk' ht';split at hs;case h_2=>cases hs
 rename_i xs ds hx hd;injection hs with hs;refine ⟨[k,t],2,0,[],_,_,_,gv,hs.symm,fun β us w ha hg hc=>?_⟩
 obtain ⟨u1,iu,r1,⟨u2,iw,r2,ha,rfl⟩,rfl⟩:=ha;obtain ⟨c1,c2,c3,c4,c5,c6,_⟩:=hc;obtain ⟨m,r1⟩:=FE hS r1;obtain ⟨m2,hm2,r2⟩:=KM hT (jf c6) r2
 obtain ⟨g1,_,_⟩:=Eu hg hk' hx;obtain ⟨g2,_,_⟩:=Eu hg ht' hd;refine ⟨_,_,h (o:=o) (n:=n) (m:=m) (n':=n') (m':=m2) g1 g2 (jf c1) (jf c2) (jf c3) (jf c4) (jf c5) hm2,hk _ _,⟨u1,_,Cp dk rfl r1,⟨u2,_,Cp dk rfl r2,ha,rfl⟩,rfl⟩,NH (bs:=[Ak [.seq .u8 xs],Vo [.seq .u8 ds]]) hg fun j d hj=>?_,fun j hj=>?_⟩
 ·match j,hj with
  | 0,hj=>injection hj with hj;subst hj;exact ⟨rfl,ID hg hk' hx (by show 0<2;decide) rfl⟩
  | 1,hj=>injection hj with hj;subst hj;exact ⟨rfl,AAB hg ht' hd (AAA r2 (jf c4)) (by show 1<2;decide) rfl⟩
 ·match j,hj with
  | 0,_=>exact CS (hg.heap _ _ hk')
  | 1,_=>exact CS (hg.heap _ _ ht')
noncomputable section
def kF (f:Func) (o n m n' m':Nat) (xs ds:dn):gq:=Aj f [AR 0 o n m,AR 1 0 n' m'] (JY xs ds) 2 []
def fdR (x d:dn) (j:Nat):R gj:=(QW x d j,QW x d (j+1))
def ZE (x d:dn):P2:=TR (mo (fdR x d 0)) (mo (fdR x d 2))
def hsC (o n n' m':Nat) (xs ds:dn):dp:=(Nat.ble (o+n) xs.length,true)::(Nat.ble n' ds.length,true)::(Nat.ble n 4398046511104,true)::(Nat.ble 1 n',true)::(Nat.ble n' 255,true)::(Nat.ble n' m',true)::tt 2 []
def V8 (p:P2):AV:=.tup [(true,av (en p:R P2)),(false,[.n .i64 0])]
section
variable (o n m n' m':Nat) (xs ds:dn)
theorem Aim:AT dm AAj f76 300 2 [] (kF f76 o n m n' m' xs ds)=some (hsC o n n' m' xs ds,[],V8 (ZE (AA xs o n) (AA ds 0 n')),[]):=dj
theorem Ain:AT dm AAj f55 300 2 [] (kF f55 o n m n' m' xs ds)=some (hsC o n n' m' xs ds,[],V8 (ZE (AA xs o n) (AA ds 0 n')),[]):=dj
end
theorem AKq:∃ f:dn→dn→P2,∀ x d,f x d=ZE x d:=⟨_,fun _ _=>rfl⟩
def TS:dn→dn→P2:=Classical.choose AKq
theorem AKr (x d:dn):TS x d=ZE x d:=kq AKq x d
theorem AKs {F:FuncId} {f:Func} (hf:dm.funcs[F]? = some f) (hb1:f.body.isSome=true) (ha:Nat.ble 2 f.ntmps=true) {o n m n' m':Nat} {xs ds:dn} (hw:Nh f.ntmps (kF f o n m n' m' xs ds).s=true)
  (hr:AT dm AAj f 300 2 [] (kF f o n m n' m' xs ds)=some (hsC o n n' m' xs ds,[],V8 (ZE (AA xs o n) (AA ds 0 n')),[]))
  (h1:o+n≤xs.length) (h2:n'≤ds.length) (hn:n≤4398046511104) (hn1:1≤n') (hn':n'≤255) (hm:n'≤m'):Ab dm F [AR 0 o n m,AR 1 0 n' m'] (JY xs ds) 2 [] (V8 (TS (AA xs o n) (AA ds 0 n'))) []:=by
 rw [AKr];refine Bs Ail BS hf hb1 ha hr hw ?_
 exact ⟨jh h1,jh h2,jh hn,jh hn1,jh hn',jh hm,AI 2 trivial⟩
def SCj:dr:=(76,kE fun x d=>V8 (TS x d))::(55,kE fun x d=>V8 (TS x d))::[]
theorem Aio:AW dm SCj:=⟨AKo func76 dj dj (fun _ _=>by kernel_rfl) fun _ _ h1 h2 h3 h4 h5 h6=>AKs func76 dj dj dj (Aim ..) h1 h2 h3 h4 h5 h6,AKo func55 dj dj (fun _ _=>by kernel_rfl) fun _ _ h1 h2 h3 h4 h5 h6=>AKs func55 dj dj dj (Ain ..) h1 h2 h3 h4 h5 h6,trivial⟩
end
open Ex Num Rg
open Go.RowKit (Below)
open Sh (R av rd mo en mo_en)
open Ex Num Rg
open Sh (R av rd mo en mo_en)
theorem AKt:∃ f:ByteArray→Bool,∀ s,f s=(Nat.ble 1 s.size&&(Nat.ble s.size 255&&Nat.beq (MP s).length s.size)):=⟨_,fun _=>rfl⟩
noncomputable def Hg:ByteArray→Bool:=Classical.choose AKt
theorem AKu (s:ByteArray):Hg s=(Nat.ble 1 s.size&&(Nat.ble s.size 255&&Nat.beq (MP s).length s.size)):=kq AKt s
theorem Aip {s:ByteArray} (h:Hg s=true):1≤s.size∧s.size≤255∧(MP s).length=s.size:=by
 rw [AKu] at h;obtain ⟨h1,h⟩:=jo.1 h;obtain ⟨h2,h3⟩:=jo.1 h;exact ⟨jf h1,jf h2,Ar.1 h3⟩
noncomputable def SCl:dr:=SYf
theorem Aiq:AW dm SCl:=AhU
noncomputable def SCl1:dr:=SCl
theorem Air:AW dm SCl1:=Aiq
def ZF:ByteArray:=⟨List.toArray [66,76,83,95,83,73,71,95,66,76,83,49,50,51,56,49,71,50,95,88,77,68,58,83,72,65,45,50,53,54,95,83,83,87,85,95,82,79,95,80,79,80,95]⟩
theorem Ais:Hg ZF=true:=by rw [AKu];kernel_rfl
noncomputable section
theorem kG {x y:FP} (h:x*y≠0):C4 (x*y)=(C4 x==C4 y):=by
 have e:(x*y).val=Ah x.val y.val:=rfl
 unfold C4;rw [e];exact AQe fun q=>h (X6.1 (e.trans q))
theorem AKv:C4 (-1:FP)=false:=by
 cases h:C4 (-1:FP) with
 | false=>rfl
 | true=>obtain ⟨y,hy⟩:=AGZ.1 h;exact absurd hy (AGW y)
theorem AKw:(1:FP)≠0:=FD.one_ne
theorem Ait {x:FP} (h:x≠0):C4 (-(x*x))=false:=by
 have e:-(x*x)=-1*(x*x):=ring [x] dj
 have h1:-(1:FP)*(x*x)≠0:=DK (fun q=>AKw (U3.1 q)) (DK h h)
 rw [e,kG h1,AKv,Mx rfl];rfl
theorem Aiu:(1+1:FP)≠0:=fun e=>by
 rw [← EB,← Gz] at e;have:=jl Fin.val e
 rw [HN dl] at this;cases this
def BQ:FP:=FD.inv (1+1)
theorem AAl:BQ+BQ=1:=by
 have:=FD.mul_inv (1+1:FP) Aiu
 rw [← this];exact ring [BQ] (a:=BQ+BQ) (b:=(1+1)*BQ) dj
theorem AKx {a:gj} {m:FP} (hm:m*m=a.nrm) (h:C4 ((a.a+m)*BQ)=true) (h0:(a.a+m)*BQ≠0):Cs a=true:=by
 have hx:=OH h;generalize Cr ((a.a+m)*BQ)=x at hx
 have hx0:x≠0:=fun e=>h0 (by rw [← hx,e,Rg.mul_zero])
 have hxi:=FD.mul_inv x hx0;have hn:=vR a;rw [← hm] at hn;have hyx:x*(a.b*BQ*FD.inv x)=a.b*BQ:=by
  have:x*(a.b*BQ*FD.inv x)=a.b*BQ*(x*FD.inv x):=ring [x,a.b,BQ,FD.inv x] dj
  rw [this,hxi,Rg.mul_one]
 generalize a.b*BQ*FD.inv x=y at hyx
 refine Ih.2 ⟨⟨x,y⟩,Qx.ext ?_ ?_⟩
 ·show x*x+-1*(y*y)=a.a;refine AZ.1 (Pp h0 ?_)
  rw [← hx];have e1:x*x*(x*x+-1*(y*y)-a.a)=(x*x)*(x*x)-(x*x)*a.a-(x*y)*(x*y):=ring [x,y,a.a] dj
  rw [e1,hyx,hx];have e2:(a.a+m)*BQ*((a.a+m)*BQ)-(a.a+m)*BQ*a.a-a.b*BQ*(a.b*BQ)=(m*m-(a.a*a.a+a.b*a.b))*(BQ*BQ)+(a.a+m)*BQ*a.a*(BQ+BQ)-(a.a+m)*BQ*a.a:=ring [a.a,a.b,m,BQ] dj
  rw [e2,← hn,AAl,Rg.mul_one];exact ring [a.a,m,BQ] (a:=(m*m-m*m)*(BQ*BQ)+(a.a+m)*BQ*a.a-(a.a+m)*BQ*a.a) (b:=0) dj
 ·show x*y+y*x=a.b;have e1:x*y+y*x=x*y+x*y:=ring [x,y] dj
  rw [e1,hyx];have e2:a.b*BQ+a.b*BQ=a.b*(BQ+BQ):=ring [a.b,BQ] dj
  rw [e2,AAl,Rg.mul_one]
theorem AAm {a:gj} (h:C4 a.nrm=true):Cs a=true:=by
 have hm:=OH h;generalize Cr a.nrm=n at hm
 have hn:=vR a;by_cases hb:a.b=0
 ·by_cases ha:a.a=0
  ·exact Ih.2 ⟨0,Qx.ext (by rw [ha];exact ring [] (a:=(0:FP)*0+-1*(0*0)) (b:=0) dj) (by rw [hb];exact ring [] (a:=(0:FP)*0+0*0) (b:=0) dj)⟩
  ·cases hi:C4 a.a with
   | true =>
    have hx:=OH hi;refine Ih.2 ⟨⟨Cr a.a,0⟩,Qx.ext ?_ ?_⟩
    ·show Cr a.a*Cr a.a+-1*(0*0)=a.a;rw [hx];exact ring [a.a] (a:=a.a+-1*(0*0)) (b:=a.a) dj
    ·show Cr a.a*0+0*Cr a.a=a.b;rw [hb];exact ring [Cr a.a] (a:=Cr a.a*0+0*Cr a.a) (b:=0) dj
   | false =>
    have e:-a.a=-1*a.a:=ring [a.a] dj
    have hi':C4 (-a.a)=true:=by rw [e,kG (by rw [← e];exact fun q=>ha (U3.1 q)),AKv,hi];rfl
    have hx:=OH hi';refine Ih.2 ⟨⟨0,Cr (-a.a)⟩,Qx.ext ?_ ?_⟩
    ·show 0*0+-1*(Cr (-a.a)*Cr (-a.a))=a.a;rw [hx];exact ring [a.a] (a:=0*0+-1*-a.a) (b:=a.a) dj
    ·show 0*Cr (-a.a)+Cr (-a.a)*0=a.b;rw [hb];exact ring [Cr (-a.a)] (a:=0*Cr (-a.a)+Cr (-a.a)*0) (b:=0) dj
 ·have hb0:a.b*BQ≠0:=DK hb fun e=>AKw (by rw [← AAl,e];exact ring [] (a:=(0:FP)+0) (b:=0) dj)
  have hp:(a.a+n)*BQ*((a.a+-n)*BQ)=-(a.b*BQ*(a.b*BQ)):=by
   have e:(a.a+n)*BQ*((a.a+-n)*BQ)=(a.a*a.a+a.b*a.b-n*n)*(BQ*BQ)-a.b*BQ*(a.b*BQ):=ring [a.a,a.b,n,BQ] dj
   rw [e,hm,hn];exact ring [a.a,a.b,BQ] (a:=(a.a*a.a+a.b*a.b-(a.a*a.a+a.b*a.b))*(BQ*BQ)-a.b*BQ*(a.b*BQ)) (b:=-(a.b*BQ*(a.b*BQ))) dj
  have iq:(a.a+n)*BQ*((a.a+-n)*BQ)≠0:=by rw [hp];exact fun q=>DK hb0 hb0 (U3.1 q)
  have hs:=kG iq;rw [hp,Ait hb0] at hs;cases hA:C4 ((a.a+n)*BQ) with
  | true=>exact AKx hm hA fun e=>iq (by rw [e,Rg.zero_mul])
  | false =>
   rw [hA] at hs;have hB:C4 ((a.a+-n)*BQ)=true:=by
    cases hB:C4 ((a.a+-n)*BQ) with
    | true=>rfl
    | false=>rw [hB] at hs;cases hs
   exact AKx (m:=-n) (by rw [← hm];exact ring [n] dj) hB fun e=>iq (by rw [e,Rg.mul_zero])
theorem Aiv {a:gj} (h:Cs a=false):a.nrm≠0:=fun e=>by
 have:Cs a=true:=AAm (by rw [e];exact Mx (y:=0) (ring [] (a:=(0:FP)*0) (b:=0) dj))
 rw [this] at h;cases h
theorem Aiw {a b:gj} (ha:Cs a=false) (hb:C4 b.nrm=false):Cs (b*a)=true:=by
 have h1:C4 a.nrm=false:=by
  cases h:C4 a.nrm with
  | false=>rfl
  | true=>rw [AAm h] at ha;cases ha
 have h2:b.nrm≠0:=fun e=>by
  rw [e,Mx (y:=0) (ring [] (a:=(0:FP)*0) (b:=0) dj)] at hb;cases hb
 refine AAm ?_
 have e:=Qx.nrm_mul b a;rw [e,kG (DK h2 (Aiv ha)),h1,hb];rfl
theorem AKy {a c:gj} (h:Cs a=true):Cs (c*c*a)=true:=by
 obtain ⟨s,hs⟩:=Ih.1 h;exact Ih.2 ⟨c*s,by rw [← hs];exact ring [c,s] dj⟩
theorem Aix (x:FP):x*x≠tf 5:=vN (YC k2 vO dl dj dl) dl x
theorem Aiy:C4 zF.nrm=false:=by
 have e:zF.nrm=tf 5:=dj
 cases h:C4 zF.nrm with
 | false=>rfl
 | true=>obtain ⟨y,hy⟩:=AGZ.1 h;exact absurd (hy.trans e) (Aix y)
def kI:gj:=⟨tf 0x1a59d4b6bbf912a32d63b43028e2deeebe8d5d97ca64b6d66f64ac7a265a9305e1a40da5edb81b4e3ac4f5c28f5bd27,tf 0x15103a07f641331bb298f5ed3ba1230aa0bcc9f87d923077324df24a0f7ffa93045d3d6f94c17ae10efa11eb851e7336⟩
def kzS:gj:=⟨tf 0x1776b5d3dd70bb2ac6e46be0849209c9c47853350da878bdc14a5042102f1f01cbc75043b8d13d709dd5ca27f92cb390,tf 0x2c094c100c4f8a157767045bc04279dd04f207fbddc4de6675911b512cddacc0061215698453b5b11125516029e4d21⟩
theorem Ai0:bF*FD.inv (zF*aF)=kI:=by
 have h:zF*aF*kI=bF:=dj
 have h0:zF*aF≠0:=pf (by kernel_rfl:decide (zF*aF=0)=false)
 exact X3 h0 h
theorem Ai1:Cs (Cx kI)=true:=Ih.2 ⟨kzS,dj⟩
theorem Ai2:aF≠0:=pf (by kernel_rfl:decide (aF=0)=false)
theorem Ai3 {w:gj} (ht:w*w+w≠0) {x:gj} (hx:x=-(bF*FD.inv aF)*(1+FD.inv (w*w+w))):Cx (w*x)=w*w*(w*Cx x):=by
 have ha:=FD.mul_inv aF Ai2;have hti:=FD.mul_inv (w*w+w) ht
 have h1:aF*x*(w*w+w)=-(bF*(w*w+w+1)):=by
  have e:aF*(-(bF*FD.inv aF)*(1+FD.inv (w*w+w)))*(w*w+w)=-(bF*(aF*FD.inv aF)*(w*w+w+(w*w+w)*FD.inv (w*w+w))):=ring [aF,bF,FD.inv aF,FD.inv (w*w+w),w] dj
  rw [hx,e,ha,hti,Rg.mul_one]
 have e:Cx (w*x)-w*w*(w*Cx x)=(1-w)*(aF*x*(w*w+w)+bF*(w*w+w+1)):=ring [w,x,aF,bF] (a:=w*x*(w*x)*(w*x)+aF*(w*x)+bF-w*w*(w*(x*x*x+aF*x+bF))) dj
 refine AZ.1 (e.trans ?_)
 rw [h1];exact ring [w,bF] (a:=(1-w)*(-(bF*(w*w+w+1))+bF*(w*w+w+1))) (b:=0) dj
theorem Ai4 (u:gj):Cs (Cx (Iw u))=true:=by
 unfold Iw;cases h:Cs (Cx (II u)) with
 | true=>exact h
 | false =>
  show Cs (Cx (wF u*II u))=true;by_cases ht:tF u=0
  ·have:II u=kI:=by
    unfold II GD;rw [jc ht];exact Ai0
   rw [this,Ai1] at h;cases h
  ·have hx:II u=-(bF*FD.inv aF)*(1+FD.inv (tF u)):=by
    unfold II GD;rw [jg ht];rfl
   rw [Ai3 (w:=wF u) ht hx];refine AKy ?_
   have e:wF u*Cx (II u)=u*u*(zF*Cx (II u)):=ring [u,zF,Cx (II u)] (a:=zF*(u*u)*Cx (II u)) dj
   rw [e];exact AKy (Aiw h Aiy)
theorem Ai5 (u:gj):Qi u*Qi u=Cx (Iw u):=by
 have h:=AGc (Ai4 u)
 unfold Qi jY;split
 ·have e:-(E6 (Cx (Iw u)))*-(E6 (Cx (Iw u)))=E6 (Cx (Iw u))*E6 (Cx (Iw u)):=ring [E6 (Cx (Iw u))] dj
  rw [e,h]
 ·exact h
end
noncomputable section
def Bt:List gj→gj→gj
 | [],_=>0
 | c::r,x=>c+x*Bt r x
def V9:List gj→List gj→List gj
 | [],q=>q
 | p,[]=>p
 | c::p,d::q=>(c+d)::V9 p q
def V_ (c:gj):List gj→List gj
 | []=>[]
 | d::q=>c*d::V_ c q
def JZ:List gj→List gj→List gj
 | [],_=>[]
 | c::p,q=>V9 (V_ c q) (0::JZ p q)
theorem AAn (x:gj):∀ p q:List gj,Bt (V9 p q) x=Bt p x+Bt q x
 | [],q=>ring [Bt q x] (a:=Bt q x) (b:=0+Bt q x) dj
 | c::p,[]=>ring [Bt (c::p) x] (a:=Bt (c::p) x) (b:=Bt (c::p) x+0) dj
 | c::p,d::q=>by
  show c+d+x*Bt (V9 p q) x=c+x*Bt p x+(d+x*Bt q x);rw [AAn x p q];exact ring [c,d,x,Bt p x,Bt q x] (a:=c+d+x*(Bt p x+Bt q x)) dj
theorem AAo (c x:gj):∀ q:List gj,Bt (V_ c q) x=c*Bt q x
 | []=>ring [c] (a:=0) (b:=c*0) dj
 | d::q=>by
  show c*d+x*Bt (V_ c q) x=c*(d+x*Bt q x);rw [AAo c x q];exact ring [c,d,x,Bt q x] (a:=c*d+x*(c*Bt q x)) dj
theorem NJ (x:gj):∀ p q:List gj,Bt (JZ p q) x=Bt p x*Bt q x
 | [],q=>ring [Bt q x] (a:=0) (b:=0*Bt q x) dj
 | c::p,q=>by
  show Bt (V9 (V_ c q) (0::JZ p q)) x=(c+x*Bt p x)*Bt q x;rw [AAn,AAo];show c*Bt q x+(0+x*Bt (JZ p q) x)=_;rw [NJ x p q];exact ring [c,x,Bt p x,Bt q x] (a:=c*Bt q x+(0+x*(Bt p x*Bt q x))) dj
theorem kJ (x a b c d:gj):TP x a b c d=Bt [a,b,c,d] x:=ring [x,a,b,c,d] (a:=(((0*x+d)*x+c)*x+b)*x+a) (b:=a+x*(b+x*(c+x*(d+x*0)))) dj
def kK:List gj:=[mo i1a,mo i1b,mo i1c,mo i1d]
def TT:List gj:=[mo j7,mo j8,mo j9,0]
def pN3:List gj:=[mo i3a,mo i3b,mo i3c,mo i3d]
def pD4:List gj:=[mo i4a,mo i4b,mo i4c,mo i4d]
def pSd:List gj:=[bF,aF,0,1]
theorem Ai6 (x:gj):Cx x=Bt pSd x:=ring [x,aF,bF] (a:=x*x*x+aF*x+bF) (b:=bF+x*(aF+x*(0+x*(1+x*0)))) dj
def kO:List gj→Bool
 | []=>true
 | d::q=>decide (d=0)&&kO q
def pz:List gj→List gj→Bool
 | [],q=>kO q
 | c::p,q=>match q with
  | []=>decide (c=0)&&pz p []
  | d::q=>decide (c=d)&&pz p q
theorem AK0 (x:gj):∀ q:List gj,kO q=true→Bt q x=0
 | [],_=>rfl
 | d::q,h=>by
  have h:=jo.1 (show (decide (d=0)&&kO q)=true from h)
  show d+x*Bt q x=0;rw [jx h.1,AK0 x q h.2];exact ring [x] (a:=0+x*0) (b:=0) dj
theorem kP (x:gj):∀ p q:List gj,pz p q=true→Bt p x=Bt q x
 | [],q,h=>(AK0 x q h).symm
 | c::p,[],h=>by
  have h:=jo.1 (show (decide (c=0)&&pz p [])=true from h)
  show c+x*Bt p x=0;rw [jx h.1,kP x p [] h.2]
  exact ring [x] (a:=0+x*0) (b:=0) dj
 | c::p,d::q,h=>by
  have h:=jo.1 (show (decide (c=d)&&pz p q)=true from h)
  show c+x*Bt p x=d+x*Bt q x;rw [jx h.1,kP x p q h.2]
theorem Ai7:pz (JZ (JZ TT TT) TT) (JZ pD4 pD4)=true:=dj
theorem Ai8:pz (JZ pSd (JZ pN3 pN3)) (V9 (JZ (JZ kK kK) kK) (V_ C2.b (JZ (JZ TT TT) TT)))=true:=dj
theorem Ai9 (x:gj):FA 1 x=Bt kK x:=kJ ..
theorem Ai_ (x:gj):FA 2 x=Bt TT x:=kJ ..
theorem Ai' (x:gj):FA 3 x=Bt pN3 x:=kJ ..
theorem AjA (x:gj):FA 4 x=Bt pD4 x:=kJ ..
theorem AjB {s b n1 d2 n3 d4 y:gj} (hd:d2*d2*d2=d4*d4) (hn:s*(n3*n3)=n1*n1*n1+b*(d2*d2*d2)) (h2:d2≠0) (h4:d4≠0) (hy:y*y=s) :
  y*(n3*FD.inv d4)*(y*(n3*FD.inv d4))=n1*FD.inv d2*(n1*FD.inv d2)*(n1*FD.inv d2)+b:=by
 have i2:=FD.mul_inv d2 h2;have i4:=FD.mul_inv d4 h4;refine JO (DK h4 h4) ?_
 have e1:d4*d4*(y*(n3*FD.inv d4)*(y*(n3*FD.inv d4)))=y*y*(n3*n3)*(d4*FD.inv d4*(d4*FD.inv d4)):=ring [y,n3,d4,FD.inv d4] dj
 have e2:d2*d2*d2*(n1*FD.inv d2*(n1*FD.inv d2)*(n1*FD.inv d2)+b)=n1*n1*n1*(d2*FD.inv d2*(d2*FD.inv d2)*(d2*FD.inv d2))+b*(d2*d2*d2):=ring [n1,d2,FD.inv d2,b] dj
 rw [e1,← hd,e2,i2,i4,hy,Rg.mul_one,Rg.mul_one,Rg.mul_one,Rg.mul_one,hn]
theorem AjC {p1 p2 p3 p4 y s:gj} (hd:p2*p2*p2=p4*p4) (hn:s*(p3*p3)=p1*p1*p1+C2.b*(p2*p2*p2)) (hy:y*y=s):On C2.b (ZC p1 p2 p3 p4 y):=by
 unfold ZC;cases h2:decide (p2=0) with
 | true=>trivial
 | false=>cases h4:decide (p4=0) with
  | true=>trivial
  | false=>exact AjB hd hn (pf h2) (pf h4) hy
theorem AjD {x y:gj} (h:y*y=Cx x):On C2.b (Qk x y):=by
 unfold Qk;rw [Ai9,Ai_,Ai',AjA];have hd:=kP x _ _ Ai7;have hn:=kP x _ _ Ai8;rw [NJ,NJ,NJ] at hd;rw [NJ,NJ,AAn,NJ,NJ,AAo,NJ,NJ,← Ai6] at hn;exact AjC hd hn h
theorem AK1 (u:gj):On C2.b (TQ (L9 u).1 (L9 u).2):=by
 rw [AAg,AKX];exact AjD (Ai5 u)
theorem rhN:rQ*AK hcL % fq=0:=dj
theorem AjF {p:P2} (hp:On C2.b p) (n:Nat) (h:oN∣n):smul n p=.inf:=by
 obtain ⟨k,rfl⟩:=h;rw [JR C2 hp,AdG hp];exact HM k
theorem AjG {p:P2} (hp:On C2.b p):On C2.b (E8 O1 p)∧smul rN (E8 O1 p)=.inf:=by
 have e:E8 O1 p=smul O1 p:=je ((LU p).2 hp)
 rw [e];refine ⟨CH C2 hp _,?_⟩
 rw [← JR C2 hp];refine AjF hp _ ?_
 rw [Yl,AAh,rN_eq];exact rf (by rw [jy];exact rhN)
theorem AjH (u v:gj):On C2.b (TR u v)∧smul rN (TR u v)=.inf:=by
 rw [AKm];exact AjG (JP C2 (AK1 u) (AK1 v))
theorem AjI (x d:dn):On C2.b (TS x d)∧smul rN (TS x d)=.inf:=by
 rw [AKr];exact AjH _ _
end
noncomputable def SDb00:dr:=(274,BF dm oCf0 f274 300)::(273,BF dm oCf0 f273 300)::(293,BF dm oCf0 f293 300)::SCf0
theorem AK2:AW dm SDb00:=⟨BK L7 AB func274 dj dj 300,BK L7 AB func273 dj dj 300,BK L7 AB func293 dj dj 300,jU⟩
noncomputable abbrev oDb00:gr:=AH SDb00 KV
theorem AjJ:gp dm oDb00:=AJ AK2 BS
noncomputable def SDb0:dr:=(286,BF dm oDb00 f286 300)::SDb00
theorem AjK:AW dm SDb0:=⟨BK AjJ AB func286 dj dj 300,AK2⟩
noncomputable abbrev oDb0:gr:=AH SDb0 KV
theorem KZ:gp dm oDb0:=AJ AjK BS
noncomputable section
def kQ (a1 a2 b1 b2 p q:R gj):R gj:=su gj (mu gj (ad gj a1 a2) (ad gj b1 b2)) (ad gj p q)
def TU (x y:R gj):R gj:=ad gj (ad gj Br x) y
section
variable (r s:R gl) (k:R gj)
theorem AjL:AM dm oDb0 f229 [va gl r,va gl s] [] 300=some ([],va gl (ad gl r s)):=dj
theorem AjM:AM dm oDb0 f231 [va gl r,va gl s] [] 300=some ([],va gl (su gl r s)):=dj
theorem AjN:AM dm oDb0 f125 [va gl r,va gl s] [] 300=some ([],va gl (ad gl r s)):=dj
theorem AjO:AM dm oDb0 f253 [va gl r] [] 300=some ([],va gl (re gl r)):=dj
theorem AjP:AM dm oDb0 f254 [va gl r] [] 300=some ([],va gl (ng gl r)):=dj
theorem AjQ:AM dm oDb0 f267 [va gl r] [] 300=some ([],va gl (re gl r)):=dj
theorem AjR:AM dm oDb0 f268 [va gl r] [] 300=some ([],va gl (ng gl r)):=dj
def vR6 (r:R gl):R gl:=(mx r.2.2,re gj r.1,re gj r.2.1)
def NK (r:R gl) (k:R gj):R gl:=(mu gj r.1 k,mu gj r.2.1 k,mu gj r.2.2 k)
theorem AjS:AM dm oDb0 f230 [va gl r] [] 300=some ([],va gl (vR6 r)):=dj
theorem AjT:AM dm oDb0 f287 [va gl r,va gj k] [] 300=some ([],va gl (NK r k)):=dj
theorem AjU:AM dm oDb0 f284 [va gl r,va gj k] [] 300=some ([],va gl (NK r k)):=dj
def AAs (r s:R gl):R gl :=
 (TU (mu gj r.1 s.1) (mx (kQ r.2.1 r.2.2 s.2.1 s.2.2 (mu gj r.2.1 s.2.1) (mu gj r.2.2 s.2.2))),
 TU (kQ r.1 r.2.1 s.1 s.2.1 (mu gj r.1 s.1) (mu gj r.2.1 s.2.1)) (mx (mu gj r.2.2 s.2.2)),
 TU (kQ r.1 r.2.2 s.1 s.2.2 (mu gj r.1 s.1) (mu gj r.2.2 s.2.2)) (mu gj r.2.1 s.2.1))
def AAt (r s:R gl):R gl :=
 (ad gj (ad gj Br (mu gj r.1 s.1)) (mx (ad gj (ad gj Br (mu gj r.2.1 s.2.2)) (mu gj r.2.2 s.2.1))),
 ad gj (ad gj (ad gj Br (mu gj r.1 s.2.1)) (mu gj r.2.1 s.1)) (mx (ad gj Br (mu gj r.2.2 s.2.2))),
 ad gj (ad gj (ad gj Br (mu gj r.1 s.2.2)) (mu gj r.2.1 s.2.1)) (mu gj r.2.2 s.1))
theorem AjV:AM dm oDb0 f227 [va gl r,va gl s] [true,true,false,true,true,false,true,true,false] 600=some (tt 5 ((false,false)::tt 5 ((false,false)::tt 5 ((false,false)::[]))),va gl (AAs r s)):=dj
theorem AjW:AM dm oDb0 f126 [va gl r,va gl s] [] 900=some ([],va gl (AAt r s)):=dj
end
theorem AjX (r s:R gl):AAs r s=mu gl r s:=by
 obtain ⟨a,b,c⟩:=r;obtain ⟨d,e,f⟩:=s;refine ml ?_ (ml ?_ ?_)<;>simp only [AAs,TU,kQ,mx,ad,su,mu,mo_en,QY]
 ·exact jl (en (α:=gj)) (ring [mo a,mo b,mo c,mo d,mo e,mo f,xi] (a:=0+mo a*mo d+((mo b+mo c)*(mo e+mo f)-(mo b*mo e+mo c*mo f))*xi) (b:=mo a*mo d+xi*(mo b*mo f+mo c*mo e)) dj)
 ·exact jl (en (α:=gj)) (ring [mo a,mo b,mo c,mo d,mo e,mo f,xi] (a:=0+((mo a+mo b)*(mo d+mo e)-(mo a*mo d+mo b*mo e))+mo c*mo f*xi) (b:=mo a*mo e+mo b*mo d+xi*(mo c*mo f)) dj)
 ·exact jl (en (α:=gj)) (ring [mo a,mo b,mo c,mo d,mo e,mo f,xi] (a:=0+((mo a+mo c)*(mo d+mo f)-(mo a*mo d+mo c*mo f))+mo b*mo e) (b:=mo a*mo f+mo b*mo e+mo c*mo d) dj)
theorem AjY (r s:R gl):AAt r s=mu gl r s:=by
 obtain ⟨a,b,c⟩:=r;obtain ⟨d,e,f⟩:=s;refine ml ?_ (ml ?_ ?_)<;>simp only [AAt,mx,ad,mu,mo_en,QY]
 ·exact jl (en (α:=gj)) (ring [mo a,mo b,mo c,mo d,mo e,mo f,xi] (a:=0+mo a*mo d+(0+mo b*mo f+mo c*mo e)*xi) (b:=mo a*mo d+xi*(mo b*mo f+mo c*mo e)) dj)
 ·exact jl (en (α:=gj)) (ring [mo a,mo b,mo c,mo d,mo e,mo f,xi] (a:=0+mo a*mo e+mo b*mo d+(0+mo c*mo f)*xi) (b:=mo a*mo e+mo b*mo d+xi*(mo c*mo f)) dj)
 ·exact jl (en (α:=gj)) (ring [mo a,mo b,mo c,mo d,mo e,mo f,xi] (a:=0+mo a*mo f+mo b*mo e+mo c*mo d) (b:=mo a*mo f+mo b*mo e+mo c*mo d) dj)
end
noncomputable section
def vM (r:R gl):R gl:=en ((mo r:gl)*vv)
theorem AjZ (r:R gl):vR6 r=vM r:=by
 obtain ⟨a,b,c⟩:=r;refine ml ?_ (ml ?_ ?_)<;>simp only [vR6,mx,re]
 ·exact jl (en (α:=gj)) (ring [mo a,mo b,mo c,xi] (a:=mo c*xi) (b:=mo a*0+xi*(mo b*0+mo c*1)) dj)
 ·exact jl (en (α:=gj)) (ring [mo a,mo b,mo c,xi] (a:=mo a) (b:=mo a*1+mo b*0+xi*(mo c*0)) dj)
 ·exact jl (en (α:=gj)) (ring [mo a,mo b,mo c,xi] (a:=mo b) (b:=mo a*0+mo b*1+mo c*0) dj)
def SDc:dr:=(229,Ac (DW gl gl fun r s=>va gl (ad gl r s)))::(231,Ac (DW gl gl fun r s=>va gl (su gl r s)))::(125,Ac (DW gl gl fun r s=>va gl (ad gl r s)))::(253,Ac (Bi gl fun r=>va gl (re gl r)))::(254,Ac (Bi gl fun r=>va gl (ng gl r)))::(267,Ac (Bi gl fun r=>va gl (re gl r)))::(268,Ac (Bi gl fun r=>va gl (ng gl r)))::(230,Ac (Bi gl fun r=>va gl (vM r)))::(287,Ac (DW gl gj fun r k=>va gl (NK r k)))::(284,Ac (DW gl gj fun r k=>va gl (NK r k)))::(227,Ac (DW gl gl fun r s=>va gl (mu gl r s)))::(126,Ac (DW gl gl fun r s=>va gl (mu gl r s)))::SCf0
theorem AK3:AW dm SDc:=⟨Ad func229 dj dj (Dy fun r s=>AP KZ AB func229 (AjL r s) trivial rfl),Ad func231 dj dj (Dy fun r s=>AP KZ AB func231 (AjM r s) trivial rfl),Ad func125 dj dj (Dy fun r s=>AP KZ AB func125 (AjN r s) trivial rfl),Ad func253 dj dj (Bm fun r=>AP KZ AB func253 (AjO r) trivial rfl),Ad func254 dj dj (Bm fun r=>AP KZ AB func254 (AjP r) trivial rfl),Ad func267 dj dj (Bm fun r=>AP KZ AB func267 (AjQ r) trivial rfl),Ad func268 dj dj (Bm fun r=>AP KZ AB func268 (AjR r) trivial rfl),Ad func230 dj dj (Bm fun r=>by rw [← AjZ];exact AP KZ AB func230 (AjS r) trivial rfl),Ad func287 dj dj (Dy fun r s=>AP KZ AB func287 (AjT r s) trivial rfl),Ad func284 dj dj (Dy fun r s=>AP KZ AB func284 (AjU r s) trivial rfl),Ad func227 dj dj (Dy fun r s=>by rw [← AjX];exact AP KZ AB func227 (AjV r s) (AI 5 ⟨rfl,AI 5 ⟨rfl,AI 5 ⟨rfl,trivial⟩⟩⟩) rfl),Ad func126 dj dj (Dy fun r s=>by rw [← AjY];exact AP KZ AB func126 (AjW r s) trivial rfl),jU⟩
end
noncomputable section
def SDd0:dr:=(274,BF dm oCf0 f274 300)::SDc
theorem Aja:AW dm SDd0:=⟨BK L7 AB func274 dj dj 300,AK3⟩
abbrev oDd0:gr:=AH SDd0 KV
theorem AAu:gp dm oDd0:=AJ Aja BS
def kR (r:R gl):R gj:=su gj (mu gj r.1 r.1) (mx (mu gj r.2.1 r.2.2))
def kU (r:R gl):R gj:=su gj (mx (mu gj r.2.2 r.2.2)) (mu gj r.1 r.2.1)
def kW (r:R gl):R gj:=su gj (mu gj r.2.1 r.2.1) (mu gj r.1 r.2.2)
def O2 (r:R gl):R gl:=(kR r,kU r,kW r)
def kY (r:R gl):R gj:=TU (mu gj r.1 (kR r)) (mx (TU (mu gj r.2.2 (kU r)) (mu gj r.2.1 (kW r))))
def kvR:R gl:=(Br,oR,Br)
section
variable (r:R gl)
theorem Ajb:AM dm oDd0 f269 [va gl r] [true,true,false,true,true,false] 600=some (tt 5 ((false,false)::tt 5 ((false,false)::[])),va gl (NK (O2 r) (iv gj (kY r)))):=dj
theorem Ajc:AM dm oDd0 f255 [va gl r] [] 600=some ([],va gl (NK (O2 r) (iv gj (mu gl r (O2 r)).1))):=dj
theorem Ajd:AM dm oDd0 f127 [va gl r] [] 600=some ([],va gl (mu gl r kvR)):=dj
end
theorem kZ (r:R gl):O2 r=en (mo r:gl).adj:=by
 obtain ⟨a,b,c⟩:=r;refine ml ?_ (ml ?_ ?_)<;>simp only [O2,kR,kU,kW,mx,su,mu,mo_en]
 ·exact jl (en (α:=gj)) (ring [mo a,mo b,mo c,xi] (a:=mo a*mo a-mo b*mo c*xi) (b:=mo a*mo a-xi*(mo b*mo c)) dj)
 ·exact jl (en (α:=gj)) (ring [mo a,mo b,mo c,xi] (a:=mo c*mo c*xi-mo a*mo b) (b:=xi*(mo c*mo c)-mo a*mo b) dj)
 ·rfl
theorem Aje (r:R gl):kY r=en (mo r:gl).nrm:=by
 have e:=kZ r;have e1:kR r=en (mo r:gl).adj.a:=jl Prod.fst e
 have e2:kU r=en (mo r:gl).adj.b:=jl (fun z=>z.2.1) e
 have e3:kW r=en (mo r:gl).adj.c:=jl (fun z=>z.2.2) e
 obtain ⟨a,b,c⟩:=r;simp only [kY,e1,e2,e3,TU,mx,ad,mu,mo_en,QY];show en (_:gj)=en (mo a*(mo (a,b,c):gl).adj.a+xi*(mo c*(mo (a,b,c):gl).adj.b+mo b*(mo (a,b,c):gl).adj.c):gj);generalize (mo (a,b,c):gl).adj=q at *
 exact jl (en (α:=gj)) (ring [mo a,mo b,mo c,q.a,q.b,q.c,xi] (a:=0+mo a*q.a+(0+mo c*q.b+mo b*q.c)*xi) (b:=mo a*q.a+xi*(mo c*q.b+mo b*q.c)) dj)
theorem AK4 (x:gl):NK (en x.adj) (iv gj (en x.nrm))=iv gl (en x):=by
 simp only [NK,iv,mu,mo_en];show _=en (uI x);exact ml (by rw [show (en x.adj:R gl).1=(en x.adj.a:R gj) from rfl,mo_en];rfl) (ml (by rw [show (en x.adj:R gl).2.1=(en x.adj.b:R gj) from rfl,mo_en];rfl) (by rw [show (en x.adj:R gl).2.2=(en x.adj.c:R gj) from rfl,mo_en];rfl))
theorem AK5 (r:R gl):iv gl (en (mo r:gl))=iv gl r:=by unfold iv;rw [mo_en]
theorem Ajf (r:R gl):NK (O2 r) (iv gj (kY r))=iv gl r:=by rw [kZ,Aje,AK4,AK5]
theorem Ajg (r:R gl):NK (O2 r) (iv gj (mu gl r (O2 r)).1)=iv gl r:=by
 have e:(mu gl r (O2 r)).1=en (mo r:gl).nrm:=by
  rw [kZ];unfold mu;rw [mo_en,Kx.mul_adj];rfl
 rw [e,kZ,AK4,AK5]
theorem Ajh:(mo kvR:gl)=vv:=Kx.ext QY ZA QY
theorem e6v (r:R gl):mu gl r kvR=vM r:=by unfold mu vM;rw [Ajh]
def SDd:dr:=(269,Ac (Bi gl fun r=>va gl (iv gl r)))::(255,Ac (Bi gl fun r=>va gl (iv gl r)))::(127,Ac (Bi gl fun r=>va gl (vM r)))::SDc
theorem AAw:AW dm SDd:=⟨Ad func269 dj dj (Bm fun r=>by rw [← Ajf];exact AP AAu AB func269 (Ajb r) (AI 5 ⟨rfl,AI 5 ⟨rfl,trivial⟩⟩) rfl),Ad func255 dj dj (Bm fun r=>by rw [← Ajg];exact AP AAu AB func255 (Ajc r) trivial rfl),Ad func127 dj dj (Bm fun r=>by rw [← e6v];exact AP AAu AB func127 (Ajd r) trivial rfl),AK3⟩
abbrev oDd:gr:=AH SDd KV
theorem Ajj:gp dm oDd:=AJ AAw BS
end
end Go.Proofs.YtgnajdcdcblaoaaGreat
