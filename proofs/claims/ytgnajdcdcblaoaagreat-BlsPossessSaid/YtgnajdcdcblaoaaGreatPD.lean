/- Part 4 of the proof. -/
import Derived.Test.YtgnajdcdcblaoaaGreatPC
import Derived.ChangeSlices
import Derived.Test.YtgnajdcdcblaoaaGreatPB
set_option maxRecDepth 100000
set_option maxHeartbeats 4000000
open Go.Proofs.Tryz renaming prog→dn
namespace Go.Proofs.YtgnajdcdcblaoaaGreat
open Ex
open Go.RowKit (Below)
def F9 (ls:List Ex.Loc):Env:=fun k=>ls[k]?
theorem W5 (ls:List Ex.Loc) (L:Ex.Loc):Env.le (F9 ls) (F9 (ls++[L])):=fun b X h=>by
 have hb:b<ls.length:=by
  rcases gt b ls.length with q | q
  ·exact q
  ·simp only [F9] at h;rw [jw q] at h;cases h
 simp only [F9] at h ⊢;rw [li hb];exact h
theorem aO (ls:List Ex.Loc) (L:Ex.Loc):F9 (ls++[L]) ls.length=some L:=by simp [F9]
structure ArgsOk (W:World) (ls:List Ex.Loc) (bs:List Blk):Prop where
 len:ls.length=bs.length
 blk:∀ (j:Nat) (b:Blk),bs[j]? = some b→b.ty=Bf∧DN (F9 ls) b j W
 lt:∀ (j B:Nat) (n:Nat×Nat),ls[j]? = some (Ex.Loc.at_ B n)→B<W.heap.size
theorem ArgsOk.nil (W:World):ArgsOk W [] []:=⟨rfl,fun j b h=>by simp at h,fun j B n h=>by simp at h⟩
theorem ArgsOk.good {W:World} {ls:List Ex.Loc} {bs:List Blk} (h:ArgsOk W ls bs):Ex.Good (F9 ls) (M2 0 bs) W:=by
 refine ⟨fun b blk hb=>?_,fun b b' B n n' h1 _ _ _=>?_,fun b B n hb=>h.lt b B n hb⟩
 ·obtain ⟨_,hj⟩:=Oq hb;exact (h.blk b blk (by simpa using hj)).2
 ·obtain ⟨d,hd,hr⟩:=F1 h1;obtain ⟨_,hj⟩:=Oq hd;exact absurd (h.blk b d (by simpa using hj)).1 hr
theorem ArgsOk.none {W:World} {ls:List Ex.Loc} {bs:List Blk} (h:ArgsOk W ls bs):∀ b,bs.length≤b→F9 ls b=none:=fun b hb=>by
 simp only [F9];rw [jw (by rw [h.len];exact hb)]
theorem ArgsOk.snoc {W:World} {ls:List Ex.Loc} {bs:List Blk} (h:ArgsOk W ls bs) {L:Ex.Loc} {b:Blk} (hb:DN (F9 (ls++[L])) b ls.length W) (hr:b.ty=Bf) (hl:∀ B n,L=Ex.Loc.at_ B n→B<W.heap.size):ArgsOk W (ls++[L]) (bs++[b]):=by
 refine ⟨by simp [h.len],fun j d hd=>?_,fun j B n hj=>?_⟩
 ·rcases gt j bs.length with q | q
  ·rw [li q] at hd;exact ⟨(h.blk j d hd).1,Yp (W5 ls L) (h.blk j d hd).2⟩
  ·rw [ow q] at hd;have e:j=bs.length:=by
    rcases Nat.eq_or_lt_of_le q with q' | q'
    ·exact q'.symm
    ·rw [jw (by simp;omega)] at hd;cases hd
   subst e;simp at hd
   subst hd;exact ⟨hr,by rw [← h.len];exact hb⟩
 ·rcases gt j ls.length with q | q
  ·rw [li q] at hj;exact h.lt j B n hj
  ·rw [ow q] at hj;have e:j-ls.length=0:=by
    rcases jh (j-ls.length) with q' | q'
    ·exact q'
    ·rw [jw (by simp;omega)] at hj;cases hj
   rw [e] at hj;simp at hj
   exact hl B n hj
theorem ASa {P:Program} {CD:TypeId→Bool}:∀ (d:Nat) {e:TypeId} {count off n:Nat},rowAt P CD d e count off n=true→off≤count*P.cellsOf e
 | 0,_,_,_,_,h=>by simp [rowAt] at h
 | d+1,e,count,off,n,h=>by
  by_cases hs:P.cellsOf e=0
  ·unfold rowAt at h;simp [hs] at h
  ·unfold rowAt at h;rw [fv hs] at h;have hpos:0<P.cellsOf e:=oy hs
   have hdm:=jo off (P.cellsOf e)
   have hlt:=gu off hpos;have key:off / P.cellsOf e<count∨(off % P.cellsOf e=0∧off / P.cellsOf e≤count):=by
    simp only [oz,gi,gc,beq_iff_eq] at h;rcases h with ⟨⟨h1,h2⟩,_⟩ | ⟨h1,_⟩
    ·exact .inr ⟨h1,dl⟩
    ·exact .inl h1
   rcases key with q | ⟨q1,q2⟩
   ·have:=j_ (P.cellsOf e) (show off / P.cellsOf e+1≤count from q)
    rw [kf,g_] at this;rw [gw count];omega
   ·have:=j_ (P.cellsOf e) q2
    rw [gw count];omega
theorem AEV {P:Program}:∀ (d:Nat) {e u:TypeId} {count off n:Nat},liesAt P d e count off u n=true→off≤count*P.cellsOf e
 | 0,_,_,_,_,_,h=>by simp [liesAt] at h
 | d+1,e,u,count,off,n,h=>by
  unfold liesAt at h;rw [oz] at h;rcases h with h | h
  ·exact ASa _ h
  ·split at h
   ·exact AEV d h
   ·cases h
theorem ASb {H:Type} {enc:TypeId×Value→H} {W:World} {base:Nat} {t e:TypeId} {k:IntKind} {v:Value} {d:DataW H} {p:List MemPlace} (hu:dn.underlying t=some (.slice e)) (he:dn.underlying e=some (.int k)) (hc:dn.cellsOf e=1)
  (hv:Value.okWide dn W .any base t v) (ht:DataW.Trod enc dn W 0 (fun _=>true) true t v d p) :
  ∃ (L:Ex.Loc) (zs:dp) (n m:Nat),(∀ x∈zs,has k x)∧n≤zs.length∧n≤maxLen∧(∀ B q,L=Ex.Loc.at_ B q→B<W.heap.size)∧∀ ls:List Ex.Loc,AL (F9 (ls++[L])) (.val false [.sl ls.length 0 n m]) v∧DN (F9 (ls++[L])) (Am [.seq k zs]) ls.length W:=by
 obtain ⟨fuel,hf⟩:=ht;obtain ⟨a0,len0,cap0,rfl⟩:=Go.WideShapes.okWide_slice hu hv;have hcells:(Value.slice a0 len0 cap0).cells=#[Value.slice a0 len0 cap0]:=rfl
 rw [hcells] at hf;rcases Go.ChangeShapes.open_ints hu he hc hf with ⟨hcs,_⟩ | ⟨a,len,cap,zs,hcs,hb,hl,hm,hz,_,hcell,hwf⟩
 ·have e1:Value.slice a0 len0 cap0=.slice none 0 0:=by simpa using hcs
  rw [e1];refine ⟨.nil,[],0,0,by simp,by simp,nq _,(fun B q h=>by cases h),fun ls=>⟨?_,.inr (.inl ⟨.nil,aO _ _,Or.inr rfl,⟨[],[],⟨rfl,by simp⟩,rfl,rfl⟩⟩)⟩⟩
  exact Aq (.inr (.inl ⟨aO _ _,rfl,rfl,rfl,rfl⟩))
 ·have e1:Value.slice a0 len0 cap0=.slice (some a) len cap:=by simpa using hcs
  rw [e1] at hv ⊢;simp only [if_true] at hz;have hk:Cell.ok dn W .any base t (.slice (some a) len cap):=by
   have:=hv
   simp only [Value.okWide,hu,Cell.okWide] at this;exact this
  simp only [Cell.ok,hu] at hk;obtain ⟨_,_,_,hspot,row,cells,hsh,hlies⟩:=hk;obtain ⟨c,fz,hblk,hsz⟩:∃ c fz,W.heap[a.block]? = some (.cells c row fz)∧cells=c.size:=by
   unfold World.shape? at hsh
   split at hsh
   ·rename_i c el fz hq;injection hsh with hsh;injection hsh with h1 h2;exact ⟨c,fz,by rw [hq,h1],h2.symm⟩
   ·cases hsh
  have hoff:a.off≤c.size:=by
   have h1:=AEV _ hlies;have h2:=nr cells (dn.cellsOf row)
   omega
  have AF:∀ i,i<zs.length→c[a.off+i]? = some (.int k (zs.getD i 0)):=by
   intro i hi;have h1:=hcell i hi;have e2:a.add i=⟨a.block,a.off+i,none⟩:=by
    unfold Addr.add;split
    ·rename_i h0;subst h0;cases a;simp only at hspot;simp [hspot]
    ·rfl
   rw [e2] at h1;simp only [World.cell?,hblk] at h1;simpa using h1
  have hend:a.off+zs.length≤c.size:=by
   rcases jh zs.length with h0 | hp
   ·omega
   ·have:=(Array.getElem?_eq_some_iff.1 (AF (zs.length-1) dl)).1
    omega
  have hlist:c.toList=c.toList.take a.off++(zs.map (.int k)++c.toList.drop (a.off+zs.length)):=by
   have hmid:(c.toList.drop a.off).take zs.length=zs.map (.int k):=by
    refine List.ext_getElem? fun i=>?_
    by_cases hi:i<zs.length
    ·rw [o_ hi,nu,ot,AF i hi,nx,kn hi,gy,kn hi];rfl
    ·rw [jw (by simp;omega),jw (by simp;omega)]
   rw [← hmid,← ki,kj,kj]
  have ea:a=⟨a.block,a.off,none⟩:=by cases a;simp only at hspot;simp [hspot]
  have hhas:∀ x∈zs,has k x:=fun x hx=>ANH (hwf x hx)
  refine ⟨.at_ a.block (c.size,a.off),zs,len,cap,hhas,dl,ji hl hm,fun B q h=>?_,fun ls=>⟨?_,.inl ⟨a.block,(c.size,a.off),zs.map (.int k),c.toList.drop (a.off+zs.length),c.toList.take a.off,row,fz,aO _ _,⟨_,[],⟨rfl,hhas⟩,rfl,by simp⟩,?_,?_,fun hr=>absurd rfl hr⟩⟩⟩
  ·injection h with h1 h2;rw [← h1];exact (Array.getElem?_eq_some_iff.1 hblk).1
  ·refine Aq (.inl ⟨a.block,(c.size,a.off),aO _ _,?_⟩)
   rw [kz,← ea]
  ·rw [← hlist];exact hblk
  ·simp;omega
theorem AEW {f:FuncId} {fn:Func} (h:∀ (H:Type) (enc:TypeId×Value→H) (us:List Value) (W:World) (base:Nat) (ds:List (DataW H)) (ps:List MemPlace),(∀ (j:Nat) t v,fn.params[j]? = some t→us[j]? = some v→Value.okWide dn W .any base t v) →
  DataW.TrodAll enc dn W 0 (fun _=>true) true fn.params.toList us ds ps→∃ ls bs args,ArgsOk W ls bs∧A_ (F9 ls) args us∧Ac dn f args (M2 0 bs) bs.length [] (Au true) []):ZV dn f fn:=by
 intro H enc us W base ds ps hv hA _ _;obtain ⟨ls,bs,args,ho,ha,hc⟩:=h H enc us W base ds ps hv hA;refine (hc (F9 ls) us W ha ho.good ho.none).mono ?_
 rintro e w' ⟨u,β,rfl,out⟩
 obtain ⟨l1,l2,⟨h1,_⟩,h3,h4⟩:=out.val;simp only [AO] at h3;subst h1;subst h3;injection h4 with h4 _;refine ⟨by rw [h4],⟨out.os,out.tape,out.output,out.size,fun k hk=>out.frame k hk (fun _ _ h=>by cases h)⟩⟩
theorem AEX {f:FuncId} {args:List AV} {H:Heap} {k0:Nat} {b:Bool} (h:Ac dn f args H k0 [] (Au b) []) (e:b=true):Ac dn f args H k0 [] (Au true) []:=by rw [← e];exact h
open Ex Num
def DB:AV→Option (Nat×Nat×Nat)
 | .val false [.sl k off n _]=>some (k,off,n)
 | .val false [.sx k n _]=>some (k,0,n)
 | _=>none
theorem EU {β:Env} {A:AV} {k off n:Nat} {u:Value} (h:DB A=some (k,off,n)) (hr:AL β A u):∃ m,AL β (AP k off n m) u:=by
 unfold DB at h;split at h
 ·rename_i k' off' n' m;injection h with h;injection h with h1 h;injection h with h2 h3;subst h1;subst h2;subst h3;exact ⟨m,hr⟩
 ·rename_i k' n' sz;injection h with h;injection h with h1 h;injection h with h2 h3;subst h1;subst h2;subst h3;obtain ⟨l1,l2,h1,h2,h3⟩:=hr;rcases h1 with ⟨B,q,cap,q1,q2,q3,q4⟩ | ⟨q1,q2,q3⟩
  ·exact ⟨cap,l1,l2,.inl ⟨B,(q,0),q1,by rw [q2]⟩,h2,h3⟩
  ·exact ⟨0,l1,l2,.inr (.inl ⟨q1,rfl,q2,rfl,q3⟩),h2,h3⟩
 ·cases h
theorem DC {f:FuncId} {fn:Func} (hfn:dn.funcs[f]? = some fn) (hbd:fn.body.isSome=true) (hname:(fn.name=="runtime.NumGoroutine")=false) {s:ASpec}
  (h:∀ args H fr path r,s args H fr path=some r→∃ (ρ:List Nat) (k0 nw:Nat) (W:List Nat) (val:AV) (H1:Heap) (conds:dr) (path':List Bool),
   r=BI ρ k0 fr nw W val H1 conds path'∧(∀ β us w,A_ β args us→Ex.Good β H w→AM conds→∃ args0 H0,Ac dn f args0 H0 k0 W val H1∧D5 k0 nw W val H1=true∧A_ (A3 β ρ k0) args0 us∧Ex.Good (A3 β ρ k0) H0 w∧(∀ k,k<k0→∃ X,β (nth ρ k)=some X))):A' dn f s:=by
 intro args H fr path r β us w hs hc ha hg hf;obtain ⟨ρ,k0,nw,W,val,H1,conds,path',rfl,hh⟩:=h args H fr path r hs;obtain ⟨args0,H0,hcan,hb,ha0,hg0,hdef⟩:=hh β us w ha hg hc;refine TF hfn hbd hname (Calls.mono (hcan (A3 β ρ k0) us w ha0 hg0 fun b hb=>?_) ?_)
 ·have:Nat.blt b k0=false:=by cases h:Nat.blt b k0 with | false=>rfl | true=>have:=BP.1 h;omega
  simp [A3,this]
 ·rintro e w' ⟨u,β1,rfl,ho⟩
  obtain ⟨β',he⟩:=ABx (conds:=conds) (path:=path') hg ho hb hf hdef
  exact ⟨u,β',rfl,he⟩
theorem CJ {β:Env} {k j off n m:Nat} {ρ:List Nat} {k0:Nat} {u:Value} (hj:j<k0) (hn:nth ρ j=k) (h:AL β (AP k off n m) u):AL (A3 β ρ k0) (AP j off n m) u:=by
 obtain ⟨l1,l2,h1,h2,h3⟩:=h;refine ⟨l1,l2,?_,h2,h3⟩
 have e:A3 β ρ k0 j=β k:=by rw [Ed hj,hn]
 rcases h1 with ⟨B,q,q1,q2⟩ | ⟨q1,q2⟩ | ⟨q1,q2⟩
 ·exact .inl ⟨B,q,by rw [e];exact q1,q2⟩
 ·exact .inr (.inl ⟨by rw [e];exact q1,q2⟩)
 ·exact .inr (.inr ⟨by rw [e];exact q1,q2⟩)
def W6 (g:Nat→dp→AV):ASpec:=fun args H fr path =>
 match args with
 | [S]=>match DB S with
  | some (k,off,n)=>match AF H k with
   | some ⟨_,cs,_⟩=>match Az .u8 cs with
    | some xs=>some (BI [k] 1 fr 0 [] (g n (AA xs off n)) [] [(Nat.ble (off+n) xs.length,true),(AJ .i64 n,true)] path)
    | none=>none
   | _=>none
  | none=>none
 | _=>none
theorem rC {f:FuncId} {fn:Func} {g:Nat→dp→AV} (hfn:dn.funcs[f]? = some fn) (hb:fn.body.isSome=true) (hname:(fn.name=="runtime.NumGoroutine")=false) (hk:∀ n l,D5 1 0 [] (g n l) []=true)
  (h:∀ (off n m:Nat) (xs:dp),(∀ d∈xs,0≤d∧d<256)→off+n≤xs.length→AJ .i64 n=true→Ac dn f [AP 0 off n m] (Ax xs) 1 [] (g n (AA xs off n)) []):A' dn f (W6 g):=by
 refine DC hfn hb hname fun args H fr path r hs=>?_
 unfold W6 at hs;split at hs;case h_2=>cases hs
 rename_i S;split at hs;case h_2=>cases hs
 rename_i k off n hS;split at hs;case h_2=>cases hs
 rename_i ty cs o hk';split at hs;case h_2=>cases hs
 rename_i xs hxs;injection hs with hs;refine ⟨[k],1,0,[],_,_,_,path,hs.symm,fun β us w ha hg hc=>?_⟩
 obtain ⟨u1,us1,r1,ha,rfl⟩:=ha;obtain ⟨m,r1⟩:=EU hS r1;obtain ⟨g1,g2,g3⟩:=ED hg hk' hxs;exact ⟨[AP 0 off n m],Ax xs,h off n m xs g1 (f_ hc.1) hc.2.1,hk _ _,⟨u1,_,CJ dl rfl r1,ha,rfl⟩,g2,g3⟩
def W7 (g:Nat→dp→AV):ASpec:=fun args H fr path =>
 match args with
 | [S]=>match DB S with
  | some (k,off,n)=>match AF H k with
   | some ⟨_,cs,_⟩=>match Az .u64 cs with
    | some xs=>some (BI [k] 1 fr 0 [] (g n (AA xs off n)) [] [(Nat.ble (off+n) xs.length,true),(Nat.ble n 1125899906842624,true)] path)
    | none=>none
   | _=>none
  | none=>none
 | _=>none
theorem rD {f:FuncId} {fn:Func} {g:Nat→dp→AV} (hfn:dn.funcs[f]? = some fn) (hb:fn.body.isSome=true) (hname:(fn.name=="runtime.NumGoroutine")=false) (hk:∀ n l,D5 1 0 [] (g n l) []=true)
  (h:∀ (off n m:Nat) (xs:dp),(∀ d∈xs,0≤d∧d<18446744073709551616)→off+n≤xs.length→n≤1125899906842624→Ac dn f [AP 0 off n m] (A8 xs) 1 [] (g n (AA xs off n)) []):A' dn f (W7 g):=by
 refine DC hfn hb hname fun args H fr path r hs=>?_
 unfold W7 at hs;split at hs;case h_2=>cases hs
 rename_i S;split at hs;case h_2=>cases hs
 rename_i k off n hS;split at hs;case h_2=>cases hs
 rename_i ty cs o hk';split at hs;case h_2=>cases hs
 rename_i xs hxs;injection hs with hs;refine ⟨[k],1,0,[],_,_,_,path,hs.symm,fun β us w ha hg hc=>?_⟩
 obtain ⟨u1,us1,r1,ha,rfl⟩:=ha;obtain ⟨m,r1⟩:=EU hS r1;obtain ⟨g1,g2,g3⟩:=Lk hg hk' hxs;exact ⟨[AP 0 off n m],A8 xs,h off n m xs g1 (f_ hc.1) (f_ hc.2.1),hk _ _,⟨u1,_,CJ dl rfl r1,ha,rfl⟩,g2,g3⟩
noncomputable def powSp:ASpec:=fun args H fr path =>
 match args with
 | [.val true a,S]=>match DB S with
  | some (k,off,n)=>match C0 6 a,AF H k with
   | some x,some ⟨_,cs,_⟩=>match Az .u64 cs with
    | some xs=>some (BI [k] 1 fr 0 [] (AY (Cu x (AI (AA xs off n)))) [] [(Nat.ble (off+n) xs.length,true),(Nat.ble n 1125899906842624,true)] path)
    | none=>none
   | _,_=>none
  | none=>none
 | _=>none
theorem AEY {f:FuncId} {fn:Func} (hfn:dn.funcs[f]? = some fn) (hb:fn.body.isSome=true) (hname:(fn.name=="runtime.NumGoroutine")=false)
  (h:∀ (off n m:Nat) (xs:dp) (x:Nat),(∀ d∈xs,0≤d∧d<18446744073709551616)→off+n≤xs.length→n≤1125899906842624→Ac dn f (M4 x off n m) (A8 xs) 1 [] (AY (Cu x (AI (AA xs off n)))) []):A' dn f powSp:=by
 refine DC hfn hb hname fun args H fr path r hs=>?_
 unfold powSp at hs;split at hs;case h_2=>cases hs
 rename_i a S;split at hs;case h_2=>cases hs
 rename_i k off n hS;split at hs;case h_2=>cases hs
 rename_i x ty cs o hx hk';split at hs;case h_2=>cases hs
 rename_i xs hxs;injection hs with hs;refine ⟨[k],1,0,[],_,_,_,path,hs.symm,fun β us w ha hg hc=>?_⟩
 obtain ⟨u1,us1,r1,⟨u2,us2,r2,ha,rfl⟩,rfl⟩:=ha;obtain ⟨m,r2⟩:=EU hS r2;obtain ⟨g1,g2,g3⟩:=Lk hg hk' hxs;refine ⟨M4 x off n m,A8 xs,h off n m xs x g1 (f_ hc.1) (f_ hc.2.1),dk,⟨u1,_,?_,⟨u2,us2,CJ dl rfl r2,ha,rfl⟩,rfl⟩,g2,g3⟩
 obtain ⟨l,q,rfl⟩:=r1;exact ⟨l,FZ hx q,rfl⟩
noncomputable def SB:dt:=(140,DP (W6 fun n l=>Hx n (Ak l)))::(128,DP (W6 fun n l=>Hx n (Ak l)))::(130,DP powSp)::(206,DP powSp)::(188,DP (W7 fun _ l=>AY (AI l % pN)))::SZ
theorem ASc:AT dn SB:=⟨D6 (rC Tryz.func140 dk dk (fun _ _=>rfl) (fun _ _ _ _ hx hl hn=>AES hx hl hn)),D6 (rC Tryz.func128 dk dk (fun _ _=>rfl) (fun _ _ _ _ _ hl hn=>pT hl hn)),D6 (AEY Tryz.func130 dk dk fun _ _ _ _ x hx hl hn=>ACj hx hl hn x),D6 (AEY Tryz.func206 dk dk fun _ _ _ _ x hx hl hn=>AEI hx hl hn x),D6 (rD Tryz.func188 dk dk (fun _ _=>rfl) (fun _ _ _ _ hx hl hn=>qV hx hl hn)),ASZ⟩
def tt:Nat→dr→dr
 | 0,r=>r
 | n+1,r=>(true,true)::tt n r
theorem Ad:∀ (n:Nat) {r:dr},AM r→AM (tt n r)
 | 0,_,h=>h
 | n+1,_,h=>⟨rfl,Ad n h⟩
theorem BV {S:dt} {K:List (TypeId×List (Option IntKind))} (hS:AT dn S) (hK:Lb dn K) {f:FuncId} {fn:Func} (hfn:dn.funcs[f]? = some fn) (hb:fn.body.isSome=true) {args:List AV} {H H1:Heap} {fuel k0:Nat} {ks:List Nat} {path:List Bool} {conds:dr} {v:AV}
  (hlen:Nat.ble (F2 args) fn.ntmps=true) (h:AR dn (AG S K) fn fuel k0 ks (Ah fn args H k0 path)=some (conds,[],v,H1)) (hw:V' fn.ntmps (Ah fn args H k0 path).s=true) (hc:AM conds):Ac dn f args H k0 [] v H1 :=
 Ay (path:=path) hfn hb hlen fun _ _ h0=>Av (AH hS hK) AB hfn h hc (AQ hw) h0 ft
section
variable {H:Type} {enc:TypeId×Value→H} {W:World} {base:Nat} {v:Value} {d:DataW H} {p:List MemPlace}
theorem rE:dn.underlying 22=some (.slice 5):=dk
theorem ASd:dn.underlying 5=some (.int .u8):=dk
theorem ASe:dn.cellsOf 5=1:=dk
theorem ASf {n:Nat} (h:n≤maxLen):AJ .i64 (n:Int)=true:=by
 unfold maxLen at h;simp only [AJ,gi,gc];omega
theorem ASg (hv:Value.okWide dn W .any base 22 v) (ht:DataW.Trod enc dn W 0 (fun _=>true) true 22 v d p) {ls:List Ex.Loc} {bs:List Blk} (ho:ArgsOk W ls bs) :
  ∃ (L:Ex.Loc) (zs:dp) (n m:Nat),(∀ x∈zs,0≤x∧x<256)∧n≤zs.length∧AJ .i64 (n:Int)=true∧AL (F9 (ls++[L])) (AP ls.length 0 n m) v∧ArgsOk W (ls++[L]) (bs++[Am [.seq .u8 zs]]):=by
 obtain ⟨L,zs,n,m,h1,h2,h3,h4,h5⟩:=ASb rE ASd ASe hv ht;exact ⟨L,zs,n,m,fun x hx=>ADr (h1 x hx),h2,ASf h3,(h5 ls).1,ho.snoc (h5 ls).2 rfl h4⟩
end
def qtH:Heap:=[(0,some ⟨38,QC,false⟩)]
theorem ASh:AR dn (AG S0 K0) Tryz.f207 100 0 [0] (Ah Tryz.f207 [] [] 0 [])=some ([],[],AP 0 0 6 6,qtH):=dk
def qtSp:ASpec:=fun args _ fr path =>
 match args with
 | []=>some (BI [] 0 fr 1 [] (AP 0 0 6 6) qtH [] path)
 | _=>none
theorem ASi:A' dn 207 qtSp:=by
 refine GQ Tryz.func207 dk dk fun args H fr path r hs=>?_
 unfold qtSp at hs;split at hs;case h_2=>cases hs
 injection hs with hs;refine ⟨[],[],[],0,1,[],_,_,_,path,hs.symm,fun β us w ha hg hc=>?_⟩
 refine ⟨BV Ht Ab Tryz.func207 dk dk ASh dk trivial,dk,ha,⟨fun b blk h=>(by cases h),fun b b' B n n' h=>(by cases h),fun b B n h=>?_⟩,fun k h=>absurd h (ld k)⟩
 unfold A3 at h;split at h
 ·exact hg.lt _ _ _ h
 ·cases h
noncomputable def SC:dt:=(207,qtSp)::SB
theorem aQ:AT dn SC:=⟨ASi,ASc⟩
def QL:dp:=[0xee7fbfffffffeaab,0x7aaffffac54ffff,0xd9cc34a83dac3d89,0xd91dd2e13ce144af,0x92c6e9ed90d2eb35,0x680447a8e5ff9a6]
theorem ASj:AI (AA QL 0 6)=QN:=dk
noncomputable def W8 (a:Nat):Nat:=Cu a (AI (AA QL 0 6))
theorem ASk (a:Nat):AK dn (AG SC K0) Tryz.f144 [AY a] [] 300=some (tt 2 [],.tup [(true,[.num 6 (W8 a)]),(false,[.v (.bool (decide (Af (W8 a) (W8 a)=a % pN)))])]):=dk
noncomputable def AEa (a:Nat):AV:=.tup [(true,[.num 6 (Cu a QN)]),(false,[.v (.bool (CL a))])]
theorem ASl (a:Nat):AS dn 144 [AY a] (AEa a):=by
 have h:=AN (AH aQ Ab) AB Tryz.func144 (ASk a) (Ad 2 trivial) rfl
 have e:W8 a=Cu a QN:=by unfold W8;rw [ASj]
 rw [e] at h;exact h
theorem ASm (a:Nat):AK dn (AG SC K0) Tryz.f145 [AY a] [] 300=some ([(decide (0≤AE (a % pN) 0∧(0:Int)<2),true)],DA (wI (Int.tmod (AE (a % pN) 0) 2))):=dk
theorem ASn (a:Nat):AS dn 145 [AY a] (DA (EI a)):=by
 have hb:=Bm (a % pN) 0
 have h:=AN (AH aQ Ab) AB Tryz.func145 (ASm a) ⟨by simp [hb.1],trivial⟩ rfl
 have e:wI (Int.tmod (AE (a % pN) 0) 2)=EI a:=by
  rw [oM,ku dl,Ao dl];unfold EI;omega
 rw [e] at h;exact h
theorem ASo (a:Nat):AK dn (AG SC K0) Tryz.f69 [AY a] [] 300=some (tt 4 [],Au (decide (0<EC (AI (AA (Im (a % pN)) (0+0*1) (6-0))) (AI (AA (Im (Ct a)) (0+0*1) (6-0)))))):=dk
theorem ASp (x:Nat):AS dn 69 [AY x] (Au (BG x)):=by
 have h:=AN (AH aQ Ab) AB Tryz.func69 (ASo x) (Ad 4 trivial) rfl
 rw [Oz (KM x),Oz (jy (Zr x) dm)] at h;have e:decide (0<EC (x % pN) (Ct x))=BG x:=by
  unfold EC BG;by_cases h1:x % pN<Ct x
  ·rw [fw h1,ga dl,ga dl]
  ·by_cases h2:Ct x<x % pN
   ·rw [fv h1,fw h2,fu h2];rfl
   ·rw [fv h1,fv h2,ga h2];rfl
 rw [e] at h;exact h
noncomputable def SD:dt:=(144,AZ (FY AEa))::(145,AZ (FY fun x=>DA (EI x)))::(69,AZ (FY fun x=>Au (BG x)))::SC
theorem aS:AT dn SD:=⟨Aa Tryz.func144 dk dk (GR fun x _=>ASl x),Aa Tryz.func145 dk dk (GR fun x _=>ASn x),Aa Tryz.func69 dk dk (GR fun x _=>ASp x),aQ⟩
theorem ASq (a:Nat):AK dn (AG SD K0) Tryz.f67 [AY a] dw 300=some ([(!CL a,true)],.tup [(true,HE),(false,[.b false])]):=dk
theorem ASr (a:Nat):AK dn (AG SD K0) Tryz.f67 [AY a] dz 300=some ([(!CL a,false),(decide (EI (Cu a QN)=1),true)],.tup [(true,[.num 6 (Ct (Cu a QN))]),(false,[.b true])]):=dk
theorem ASs (a:Nat):AK dn (AG SD K0) Tryz.f67 [AY a] d_ 300=some ([(!CL a,false),(decide (EI (Cu a QN)=1),false)],.tup [(true,[.num 6 (Cu a QN)]),(false,[.b true])]):=dk
theorem ASu (a:Nat):AS dn 67 [AY a] (Ta a):=by
 by_cases h:CL a=true
 ·have e:DQ a=HI (Cu a QN):=by unfold DQ;rw [fw h]
  unfold Ta;rw [e];by_cases hs:EI (Cu a QN)=1
  ·have e2:HI (Cu a QN)=Ct (Cu a QN):=fw hs
   rw [e2];exact CW (AN (AH aS Ab) AB Tryz.func67 (ASr a) ⟨by rw [h];rfl,fu hs,trivial⟩ rfl) fun u hu=>CZ (fun _ q=>q) (fun _ q=>In h.symm q) hu
  ·have e2:HI (Cu a QN)=Cu a QN:=fv hs
   rw [e2];exact CW (AN (AH aS Ab) AB Tryz.func67 (ASs a) ⟨by rw [h];rfl,ga hs,trivial⟩ rfl) fun u hu=>CZ (fun _ q=>q) (fun _ q=>In h.symm q) hu
 ·have h0:CL a=false:=by simpa using h
  have e:DQ a=0:=by unfold DQ;rw [fv h]
  unfold Ta;rw [e];exact CW (AN (AH aS Ab) AB Tryz.func67 (ASq a) ⟨by rw [h0];rfl,trivial⟩ rfl) fun u hu=>CZ (fun _ q=>Ws q) (fun _ q=>In h0.symm q) hu
noncomputable def SE:dt:=(67,AZ (FY Ta))::SD
theorem rF:AT dn SE:=⟨Aa Tryz.func67 dk dk (GR fun x _=>ASu x),aS⟩
end Go.Proofs.YtgnajdcdcblaoaaGreat
namespace Go.Proofs.YtgnajdcdcblaoaaGreat.Rg
class CR (F:Type) extends Add F,Mul F,Neg F,Sub F,Zero F,One F where
 add_assoc:∀ a b c:F,(a+b)+c=a+(b+c)
 add_comm:∀ a b:F,a+b=b+a
 zero_add:∀ a:F,0+a=a
 neg_add:∀ a:F,-a+a=0
 mul_assoc:∀ a b c:F,(a*b)*c=a*(b*c)
 mul_comm:∀ a b:F,a*b=b*a
 one_mul:∀ a:F,1*a=a
 add_mul:∀ a b c:F,(a+b)*c=a*c+b*c
 sub_eq:∀ a b:F,a-b=a+-b
section
variable {F:Type} [CR F]
theorem add_assoc (a b c:F):(a+b)+c=a+(b+c):=CR.add_assoc a b c
theorem add_comm (a b:F):a+b=b+a:=CR.add_comm a b
theorem mul_assoc (a b c:F):(a*b)*c=a*(b*c):=CR.mul_assoc a b c
theorem mul_comm (a b:F):a*b=b*a:=CR.mul_comm a b
theorem zero_add (a:F):0+a=a:=CR.zero_add a
theorem add_zero (a:F):a+0=a:=by rw [add_comm,zero_add]
theorem neg_add (a:F):-a+a=0:=CR.neg_add a
theorem add_neg (a:F):a+-a=0:=by rw [add_comm,neg_add]
theorem one_mul (a:F):1*a=a:=CR.one_mul a
theorem mul_one (a:F):a*1=a:=by rw [mul_comm,one_mul]
theorem add_mul (a b c:F):(a+b)*c=a*c+b*c:=CR.add_mul a b c
theorem mul_add (a b c:F):a*(b+c)=a*b+a*c:=by rw [mul_comm,add_mul,mul_comm b,mul_comm c]
theorem sub_eq (a b:F):a-b=a+-b:=CR.sub_eq a b
theorem rG {a b c:F} (h:a+b=a+c):b=c:=by
 have:=gh (fun z=>-a+z) h
 simpa [← add_assoc,neg_add,zero_add] using this
theorem zero_mul (a:F):0*a=0:=by
 have h:0*a+0*a=0*a+0:=by rw [← add_mul,zero_add,add_zero]
 exact rG h
theorem mul_zero (a:F):a*0=0:=by rw [mul_comm,zero_mul]
theorem JK {a b:F} (h:a+b=0):b=-a:=rG (a:=a) (by rw [h,add_neg])
theorem aT (a b:F):-a*b=-(a*b):=JK (by rw [← add_mul,add_neg,zero_mul])
theorem neg_neg (a:F):-(-a)=a:=(JK (neg_add a)).symm
theorem GU:-(0:F)=0:=(JK (zero_add 0)).symm
theorem W9 (a b:F):-(a+b)=-a+-b:=(JK (by
 rw [add_comm a b,add_assoc,← add_assoc a,add_neg,zero_add,add_neg])).symm
theorem sub_self (a:F):a-a=0:=by rw [sub_eq,add_neg]
theorem AX {a b:F}:a-b=0↔a=b:=by
 constructor
 ·intro h;rw [sub_eq] at h;have:=JK ((add_comm _ _).trans h)
  rw [this,neg_neg]
 ·rintro rfl;exact sub_self a
theorem AEb (a b c:F):a+(b+c)=b+(a+c):=by rw [← add_assoc,add_comm a b,add_assoc]
theorem mul_left_comm (a b c:F):a*(b*c)=b*(a*c):=by rw [← mul_assoc,mul_comm a b,mul_assoc]
def B3:Nat→F
 | 0=>0
 | n+1=>B3 n+1
theorem NG (a b:Nat):(B3 (a+b):F)=B3 a+B3 b:=by
 induction b with
 | zero=>simp [B3,add_zero]
 | succ b ih=>rw [← jx];simp only [B3];rw [ih,add_assoc]
theorem W_ (a b:Nat):(B3 (a*b):F)=B3 a*B3 b:=by
 induction b with
 | zero=>simp [B3,mul_zero]
 | succ b ih=>rw [Nat.mul_succ,NG,ih];simp only [B3];rw [mul_add,mul_one]
def int:Int→F
 | .ofNat n=>B3 n
 | .negSucc n=>-(B3 (n+1))
theorem Tn (a b:Nat):(int ((a:Int)-b):F)=B3 a+-B3 b:=by
 rcases Nat.le_total b a with h | h
 ·obtain ⟨c,rfl⟩:=Nat.exists_eq_add_of_le h;rw [show ((b+c:Nat):Int)-b=(c:Int) by omega,NG,add_comm (B3 b) (B3 c),add_assoc,add_neg,add_zero];rfl
 ·obtain ⟨c,rfl⟩:=Nat.exists_eq_add_of_le h;cases c with
  | zero=>rw [kz,add_neg,show (a:Int)-(a:Nat)=0 by omega];rfl
  | succ c =>
   rw [show (a:Int)-((a+(c+1):Nat):Int)=Int.negSucc c by omega,NG,W9,← add_assoc,add_neg,zero_add];rfl
theorem aU (i:Int):∃ a b:Nat,i=(a:Int)-b:=by
 cases i with
 | ofNat n=>exact ⟨n,0,by simp⟩
 | negSucc n=>exact ⟨0,n+1,dl⟩
theorem AEc (i j:Int):(int (i+j):F)=int i+int j:=by
 obtain ⟨a,b,rfl⟩:=aU i;obtain ⟨c,d,rfl⟩:=aU j;rw [show (a:Int)-b+(c-d)=((a+c:Nat):Int)-(b+d:Nat) by omega,Tn,Tn,Tn,NG,NG,W9]
 rw [add_assoc,add_assoc];congr 1
 rw [← add_assoc,← add_assoc];congr 1
 exact add_comm _ _
theorem AEd (a b:F):a*-b=-(a*b):=by rw [mul_comm,aT,mul_comm]
theorem ASv (i j:Int):(int (i*j):F)=int i*int j:=by
 obtain ⟨a,b,rfl⟩:=aU i;obtain ⟨c,d,rfl⟩:=aU j;rw [show ((a:Int)-b)*(c-d)=((a*c+b*d:Nat):Int)-(a*d+b*c:Nat) by
  rw [mr,mr,iy,iy,iy,iy,Int.sub_mul,Int.mul_sub,Int.mul_sub];omega]
 rw [Tn,Tn,Tn,NG,NG,W_,W_,W_,W_];rw [add_mul,mul_add,mul_add,aT,AEd,aT,AEd,neg_neg,W9];rw [add_assoc,add_assoc];congr 1
 rw [add_comm (B3 b*B3 d),add_assoc]
theorem ASw (i:Int):(int (-i):F)=-int i:=by
 refine JK ?_
 rw [← AEc,Int.add_right_neg];rfl
theorem ASx:(int 0:F)=0:=rfl
theorem XA:(int 1:F)=1:=by show B3 0+1=_;exact zero_add 1
def pw (x:F):Nat→F
 | 0=>1
 | n+1=>pw x n*x
theorem Qu (x:F) (a b:Nat):pw x (a+b)=pw x a*pw x b:=by
 induction b with
 | zero=>simp [pw,mul_one]
 | succ b ih=>rw [← jx];simp only [pw];rw [ih,mul_assoc]
theorem pw_mul (x y:F) (n:Nat):pw (x*y) n=pw x n*pw y n:=by
 induction n with
 | zero=>simp [pw,one_mul]
 | succ n ih=>simp only [pw];rw [ih,mul_assoc,mul_assoc];congr 1;rw [mul_left_comm]
theorem aV (x:F) (a b:Nat):pw x (a*b)=pw (pw x a) b:=by
 induction b with
 | zero=>rfl
 | succ b ih=>rw [Nat.mul_succ,Qu,ih];rfl
end
abbrev Mon:=List Nat
abbrev Pol:=List (Mon×Int)
def To:Mon→Mon→Mon
 | [],b=>b
 | a::ar,b=>match b with
  | []=>a::ar
  | c::bs=>(a+c)::To ar bs
def aW:Mon→Mon→Nat
 | [],b=>match b with
  | []=>0
  | _::_=>2
 | a::ar,b=>match b with
  | []=>1
  | c::bs=>match Nat.beq a c with
   | true=>aW ar bs
   | false=>match Nat.ble a c with
    | true=>2
    | false=>1
theorem AEe:∀ {a b:Mon},aW a b=0→a=b
 | [],[],_=>rfl
 | [],_::_,h=>by cases h
 | _::_,[],h=>by cases h
 | a::ar,c::bs,h=>by
  simp only [aW] at h;cases hb:Nat.beq a c with
  | true=>rw [hb] at h;rw [jv hb,AEe h]
  | false =>
   rw [hb] at h;cases hl:Nat.ble a c<;>rw [hl] at h<;>cases h
def aZ (m:Mon) (c:Int) (p:Pol):Pol:=match c with
 | .ofNat 0=>p
 | _=>(m,c)::p
def O_:Nat→Pol→Pol→Pol
 | 0,p,q=>p++q
 | n+1,p,q=>match p with
  | []=>q
  | (a,c)::p'=>match q with
   | []=>p
   | (b,d)::q'=>match aW a b with
    | 0=>aZ a (c+d) (O_ n p' q')
    | 1=>(a,c)::O_ n p' q
    | _=>(b,d)::O_ n p q'
def len:Pol→Nat
 | []=>0
 | _::r=>len r+1
def O' (p q:Pol):Pol:=O_ (len p+len q) p q
def XB (m:Mon) (c:Int):Pol→Pol
 | []=>[]
 | (a,d)::r=>(To m a,c*d)::XB m c r
def Tp:Pol→Pol→Pol
 | [],_=>[]
 | (a,c)::r,q=>O' (XB a c q) (Tp r q)
def Tq:Pol→Pol
 | []=>[]
 | (a,c)::r=>(a,-c)::Tq r
section
variable {F:Type} [CR F]
def Hy:List F→Mon→F
 | [],_=>1
 | x::xs,m=>match m with
  | []=>1
  | e::es=>pw x e*Hy xs es
def B6 (xs:List F):Pol→F
 | []=>0
 | (m,c)::r=>int c*Hy xs m+B6 xs r
theorem XC (xs:List F):Hy xs []=1:=by cases xs<;>rfl
theorem AEf:∀ (xs:List F) (a b:Mon),Hy xs (To a b)=Hy xs a*Hy xs b
 | [],a,b=>by simp [Hy,one_mul]
 | x::xs,[],b=>by simp [To,XC,one_mul]
 | x::xs,a::ar,[]=>by simp [To,XC,mul_one]
 | x::xs,a::ar,c::bs=>by
  simp only [To,Hy];rw [Qu,AEf xs ar bs,mul_assoc,mul_assoc];congr 1;rw [mul_left_comm]
theorem AEg (xs:List F) (m:Mon) (c:Int) (p:Pol):B6 xs (aZ m c p)=int c*Hy xs m+B6 xs p:=by
 unfold aZ;split
 ·show _=int 0*_+_;rw [ASx,zero_mul,zero_add]
 ·rfl
theorem AEh (xs:List F):∀ p q:Pol,B6 xs (p++q)=B6 xs p+B6 xs q
 | [],q=>by simp [B6,zero_add]
 | (m,c)::p,q=>by simp only [kx,B6];rw [AEh xs p q,add_assoc]
theorem a7 (xs:List F):∀ (n:Nat) (p q:Pol),B6 xs (O_ n p q)=B6 xs p+B6 xs q
 | 0,p,q=>AEh xs p q
 | n+1,[],q=>by simp [O_,B6,zero_add]
 | n+1,(a,c)::p',[]=>by simp [O_,B6,add_zero]
 | n+1,(a,c)::p',(b,d)::q'=>by
  simp only [O_];split
  ·rename_i h;rw [AEg,a7 xs n p' q',AEe h];simp only [B6];rw [AEc,add_mul,add_assoc,add_assoc];congr 1
   rw [AEb]
  ·simp only [B6];rw [a7 xs n p' _];simp only [B6];rw [add_assoc]
  ·simp only [B6];rw [a7 xs n _ q'];simp only [B6];rw [AEb]
theorem rH (xs:List F) (p q:Pol):B6 xs (O' p q)=B6 xs p+B6 xs q:=a7 xs _ p q
theorem AEi (xs:List F) (m:Mon) (c:Int):∀ p:Pol,B6 xs (XB m c p)=int c*Hy xs m*B6 xs p
 | []=>by simp [XB,B6,mul_zero]
 | (a,d)::r=>by
  simp only [XB,B6];rw [AEi xs m c r,AEf,ASv,mul_add];congr 1
  rw [mul_assoc,mul_assoc];congr 1;rw [mul_left_comm]
theorem rI (xs:List F):∀ p q:Pol,B6 xs (Tp p q)=B6 xs p*B6 xs q
 | [],q=>by simp [Tp,B6,zero_mul]
 | (a,c)::r,q=>by simp only [Tp,B6];rw [rH,AEi,rI xs r q,add_mul]
theorem rJ (xs:List F):∀ p:Pol,B6 xs (Tq p)=- B6 xs p
 | []=>by simp [Tq,B6,GU]
 | (a,c)::r=>by simp only [Tq,B6];rw [rJ xs r,ASw,aT,W9]
end
inductive E where
 | v (i:Nat)
 | c (k:Int)
 | add (a b:E)
 | sub (a b:E)
 | mul (a b:E)
 | neg (a:E)
 | pw (a:E) (n:Nat)
def XD:Nat→Mon
 | 0=>[1]
 | i+1=>0::XD i
def XE (p:Pol):Nat→Pol
 | 0=>[([],1)]
 | n+1=>Tp (XE p n) p
def E.pol:E→Pol
 | .v i=>[(XD i,1)]
 | .c k=>aZ [] k []
 | .add a b=>O' a.pol b.pol
 | .sub a b=>O' a.pol (Tq b.pol)
 | .mul a b=>Tp a.pol b.pol
 | .neg a=>Tq a.pol
 | .pw a n=>XE a.pol n
def nth {F:Type} [One F]:List F→Nat→F
 | [],_=>1
 | x::_,0=>x
 | _::xs,i+1=>nth xs i
section
variable {F:Type} [CR F]
def E.den (xs:List F):E→F
 | .v i=>nth xs i
 | .c k=>int k
 | .add a b=>a.den xs+b.den xs
 | .sub a b=>a.den xs-b.den xs
 | .mul a b=>a.den xs*b.den xs
 | .neg a=>- a.den xs
 | .pw a n=>Rg.pw (a.den xs) n
theorem AEj:∀ (xs:List F) (i:Nat),Hy xs (XD i)=nth xs i
 | [],i=>by simp [Hy,nth]
 | x::xs,0=>by simp [XD,Hy,XC,nth,Rg.pw,one_mul,mul_one]
 | x::xs,i+1=>by simp only [XD,Hy,nth,Rg.pw];rw [one_mul,AEj xs i]
theorem ASy (xs:List F) (p:Pol) (n:Nat):B6 xs (XE p n)=Rg.pw (B6 xs p) n:=by
 induction n with
 | zero=>simp [XE,B6,Rg.pw,XC,XA,mul_one,add_zero]
 | succ n ih=>simp only [XE,Rg.pw];rw [rI,ih]
theorem E.pol_den (xs:List F):∀ e:E,B6 xs e.pol=e.den xs
 | .v i=>by simp only [E.pol,B6,E.den];rw [AEj,XA,one_mul,add_zero]
 | .c k=>by simp only [E.pol,E.den];rw [AEg];simp [B6,XC,mul_one,add_zero]
 | .add a b=>by simp only [E.pol,E.den];rw [rH,a.pol_den xs,b.pol_den xs]
 | .sub a b=>by simp only [E.pol,E.den];rw [rH,rJ,a.pol_den xs,b.pol_den xs,sub_eq]
 | .mul a b=>by simp only [E.pol,E.den];rw [rI,a.pol_den xs,b.pol_den xs]
 | .neg a=>by simp only [E.pol,E.den];rw [rJ,a.pol_den xs]
 | .pw a n=>by simp only [E.pol,E.den];rw [ASy,a.pol_den xs]
def Qv:List (E×E)→E
 | []=>.c 0
 | (k,r)::l=>.add (.mul k r) (Qv l)
def rK:Pol→Bool
 | []=>true
 | _::_=>false
def rL (xs:List F):List (E×E)→Prop
 | []=>True
 | (_,r)::l=>r.den xs=0∧rL xs l
theorem AEk (xs:List F):∀ l:List (E×E),rL xs l→(Qv l).den xs=0
 | [],_=>rfl
 | (k,r)::l,⟨h1,h2⟩=>by simp only [Qv,E.den];rw [h1,mul_zero,AEk xs l h2,add_zero]
theorem BU (xs:List F) (g:E) (l:List (E×E)) (hz:rL xs l) (h:rK (E.pol (.sub g (Qv l)))=true):g.den xs=0:=by
 have e:(E.pol (.sub g (Qv l)))=[]:=by
  cases hp:E.pol (.sub g (Qv l)) with
  | nil=>rfl
  | cons a b=>rw [hp] at h;cases h
 have:=E.pol_den xs (.sub g (Qv l))
 rw [e] at this;simp only [B6,E.den] at this;rw [AEk xs l hz] at this;exact AX.1 this.symm
theorem ASz (xs:List F) (a b:E) (h:rK (E.pol (.sub a b))=true):a.den xs=b.den xs:=by
 have e:(E.pol (.sub a b))=[]:=by
  cases hp:E.pol (.sub a b) with
  | nil=>rfl
  | cons a b=>rw [hp] at h;cases h
 have:=E.pol_den xs (.sub a b)
 rw [e] at this;exact AX.1 this.symm
end
instance :Add E:=⟨.add⟩
instance :Sub E:=⟨.sub⟩
instance :Mul E:=⟨.mul⟩
instance :Neg E:=⟨.neg⟩
instance :HPow E Nat E:=⟨.pw⟩
def aa:E:=.v 6
def ab:E:=.v 8
def ac:E:=.v 3
def ae:E:=.v 0
def af:E:=.v 1
def ag:E:=.v 2
def ah:E:=.v 4
def aj:E:=.v 5
def ap:E:=.v 7
def aq:E:=.v 9
def ai:E:=.c 2
def ak:E:=.c (-2)
def au:E:=.c (-1)
def aw:E:=.c 0
def ax:E:=.c 1
def ay:E:=.c (-6)
def az:E:=.c 3
def a_:E:=.c (-4)
def ba:E:=.c (-10)
def bd:E:=.c 5
def bi:E:=.c 6
def bj:E:=.c 4
def bm:E:=.c (-3)
def bp:E:=.c (-8)
def bq:E:=.c (-9)
def br:E:=.c 8
def bu:E:=.c (-5)
def bv:E:=.c 9
def bw:E:=.c 7
def bz:E:=.c (-12)
def b_:E:=.c (-14)
def ce:E:=.c 10
def cf:E:=.c (-18)
def ci:E:=.c 36
def ck:E:=.c (-20)
def cl:E:=.c 40
def cm:E:=.c 12
def cn:E:=.c (-24)
def cp:E:=.c 72
def cq:E:=.c (-72)
def cr:E:=.c 216
def cu:E:=.c (-216)
def cv:E:=.c 288
def cw:E:=.c (-288)
def cx:E:=.c 24
def cy:E:=.c 48
def cz:E:=.c (-48)
def c_:E:=.c 144
def da:E:=.c (-144)
def db:E:=.c 16
def dc:E:=.c 32
def dd:E:=.c (-32)
def de:E:=.c (-16)
def df:E:=.c (-54)
def dg:E:=.c 54
def dh:E:=.c (-120)
def di:E:=.c 120
def dj:E:=.c 18
def am:Nat→Nat→Nat→E→E
 | 0,_,_,a=>a
 | f+1,n,i,a=>match n % 10 with
  | 0=>am f (n/10) (i+1) a
  | k+1=>am f (n/10) (i+1) (.mul a (.pw (.v i) (k+1)))
def ao:List (Int×Nat)→E
 | []=>.c 0
 | (c,n)::r=>.add (am 12 n 0 (.c c)) (ao r)
theorem AS0 {F:Type} [CR F] (x1 y1 x2 y2 l b:F) (hl:l*(x2-x1)=(y2-y1)) (c1:y1*y1=(x1*x1*x1+b)) (c2:y2*y2=(x2*x2*x2+b)):(x2-x1)*(x1*x2+x1*(l*l-x1-x2)+x2*(l*l-x1-x2)+(l*(y1-l*x1)+l*(y1-l*x1)))=0 :=
 AX.1 (BU [x1,y1,x2,y2,l,b] ((ag-ae)*(ae*ag+ae*(ah*ah-ae-ag)+ag*(ah*ah-ae-ag)+(ah*(af-ah*ae)+ah*(af-ah*ae)))-aw) [((-(ae*ah)+af+(ag*ah+ac)),ah*(ag-ae)-(ac-af)),
  (au,af*af-(ae*ae*ae+aj)),
  (ax,ac*ac-(ag*ag*ag+aj))] ⟨AX.2 hl,AX.2 c1,AX.2 c2,trivial⟩ dk)
theorem AS1 {F:Type} [CR F] (x y l:F) (hl:(y+y)*l=(x*x+x*x+x*x)):x*x+x*(l*l-x-x)+x*(l*l-x-x)+(l*(y-l*x)+l*(y-l*x))=0 :=
 AX.1 (BU [x,y,l] (ae*ae+ae*(ag*ag-ae-ae)+ae*(ag*ag-ae-ae)+(ag*(af-ag*ae)+ag*(af-ag*ae))-aw) [(ax,(af+af)*ag-(ae*ae+ae*ae+ae*ae))] ⟨AX.2 hl,trivial⟩ dk)
theorem AS2 {F:Type} [CR F] (x1 y1 x2 l b:F) (e2:x1*x2+x1*(l*l-x1-x2)+x2*(l*l-x1-x2)+(l*(y1-l*x1)+l*(y1-l*x1))=0) (c1:y1*y1=(x1*x1*x1+b)):x1*x2*(l*l-x1-x2)+b=(y1-l*x1)*(y1-l*x1) :=
 AX.1 (BU [x1,y1,x2,l,b] (ae*ag*(ac*ac-ae-ag)+ah-(af-ac*ae)*(af-ac*ae)) [(ae,ae*ag+ae*(ac*ac-ae-ag)+ag*(ac*ac-ae-ag)+(ac*(af-ac*ae)+ac*(af-ac*ae))-aw),
  (au,af*af-(ae*ae*ae+ah))] ⟨AX.2 e2,AX.2 c1,trivial⟩ dk)
theorem AS3 {F:Type} [CR F] (x1 y1 x2 x3 l n b:F) (h1:y1=(l*x1+n)) (e1:x1+x2+x3=(l*l)) (e2:x1*x2+x1*x3+x2*x3+(l*n+l*n)=0) (e3:x1*x2*x3+b=(n*n)):y1*y1=x1*x1*x1+b :=
 AX.1 (BU [x1,y1,x2,x3,l,n,b] (af*af-(ae*ae*ae+aa)) [((ae*ah+(af+aj)),af-(ah*ae+aj)),
  ((-ae^2),ae+ag+ac-ah*ah),
  (ae,ae*ag+ae*ac+ag*ac+(ah*aj+ah*aj)-aw),
  (au,ae*ag*ac+aa-aj*aj)] ⟨AX.2 h1,AX.2 e1,AX.2 e2,AX.2 e3,trivial⟩ dk)
theorem AEl {F:Type} [CR F] (x1 y1 x3 l n:F) (h1:y1=(l*x1+n)) (e1:x1+x1+x3=(l*l)) (e2:x1*x1+x1*x3+x1*x3+(l*n+l*n)=0):(y1+y1)*l=x1*x1+x1*x1+x1*x1 :=
 AX.1 (BU [x1,y1,x3,l,n] ((af+af)*ac-(ae*ae+ae*ae+ae*ae)) [((ai*ac),af-(ac*ae+ah)),
  ((ak*ae),ae+ae+ag-ac*ac),
  (ax,ae*ae+ae*ag+ae*ag+(ac*ah+ac*ah)-aw)] ⟨AX.2 h1,AX.2 e1,AX.2 e2,trivial⟩ dk)
theorem AS4 {F:Type} [CR F] (x1 y1 x3 y3 l n:F) (h1:y1=(l*x1+n)) (h3:y3=(l*x3+n)):l*(x1-x3)-y1=-y3 :=
 AX.1 (BU [x1,y1,x3,y3,l,n] (ah*(ae-ag)-af- -ac) [(au,af-(ah*ae+aj)),
  (ax,ac-(ah*ag+aj))] ⟨AX.2 h1,AX.2 h3,trivial⟩ dk)
theorem AS5 {F:Type} [CR F] (x1 x2 x3 l:F) (e1:x1+x2+x3=(l*l)):l*l-x1-x2=x3 :=
 AX.1 (BU [x1,x2,x3,l] (ac*ac-ae-af-ag) [(au,ae+af+ag-ac*ac)] ⟨AX.2 e1,trivial⟩ dk)
theorem Tr {F:Type} [CR F] (x1 y1 x2 y2 l n:F) (h1:y1=(l*x1+n)) (h2:y2=(l*x2+n)):(x2-x1)*l=y2-y1 :=
 AX.1 (BU [x1,y1,x2,y2,l,n] ((ag-ae)*ah-(ac-af)) [(ax,af-(ah*ae+aj)),
  (au,ac-(ah*ag+aj))] ⟨AX.2 h1,AX.2 h2,trivial⟩ dk)
theorem AS6 {F:Type} [CR F] (x1 x2 x3 k:F) (e:x1+x2+x3=k):x2+x1+x3=k :=
 AX.1 (BU [x1,x2,x3,k] (af+ae+ag-ac) [(ax,ae+af+ag-ac)] ⟨AX.2 e,trivial⟩ dk)
theorem AS7 {F:Type} [CR F] (x1 x2 x3 k:F) (e:x1+x2+x3=k):x2+x3+x1=k :=
 AX.1 (BU [x1,x2,x3,k] (af+ag+ae-ac) [(ax,ae+af+ag-ac)] ⟨AX.2 e,trivial⟩ dk)
theorem AS8 {F:Type} [CR F] (x1 x2 x3 k:F) (e:x1*x2+x1*x3+x2*x3+k=0):x2*x1+x2*x3+x1*x3+k=0 :=
 AX.1 (BU [x1,x2,x3,k] (af*ae+af*ag+ae*ag+ac-aw) [(ax,ae*af+ae*ag+af*ag+ac-aw)] ⟨AX.2 e,trivial⟩ dk)
theorem AS9 {F:Type} [CR F] (x1 x2 x3 k:F) (e:x1*x2+x1*x3+x2*x3+k=0):x2*x3+x2*x1+x3*x1+k=0 :=
 AX.1 (BU [x1,x2,x3,k] (af*ag+af*ae+ag*ae+ac-aw) [(ax,ae*af+ae*ag+af*ag+ac-aw)] ⟨AX.2 e,trivial⟩ dk)
theorem AS_ {F:Type} [CR F] (x1 x2 x3 b k:F) (e:x1*x2*x3+b=k):x2*x1*x3+b=k :=
 AX.1 (BU [x1,x2,x3,b,k] (af*ae*ag+ac-ah) [(ax,ae*af*ag+ac-ah)] ⟨AX.2 e,trivial⟩ dk)
theorem AS' {F:Type} [CR F] (x1 x2 x3 b k:F) (e:x1*x2*x3+b=k):x2*x3*x1+b=k :=
 AX.1 (BU [x1,x2,x3,b,k] (af*ag*ae+ac-ah) [(ax,ae*af*ag+ac-ah)] ⟨AX.2 e,trivial⟩ dk)
theorem rM {F:Type} [CR F] (x y l n:F) (h:y=(l*x+n)):-y=-l*x+-n :=
 AX.1 (BU [x,y,l,n] (-af-(-ag*ae+-ac)) [(au,af-(ag*ae+ac))] ⟨AX.2 h,trivial⟩ dk)
theorem neg_sq {F:Type} [CR F] (l:F) :-l*-l=l*l :=
 AX.1 (BU [l] (-ae*-ae-ae*ae) [] trivial dk)
theorem ATA {F:Type} [CR F] (l n:F) :-l*-n+-l*-n=l*n+l*n :=
 AX.1 (BU [l,n] (-ae*-af+-ae*-af-(ae*af+ae*af)) [] trivial dk)
theorem ATB {F:Type} [CR F] (y1 y2 k:F) (h1:y1*y1=k) (h2:y2*y2=k):(y1-y2)*(y1+y2)=0 :=
 AX.1 (BU [y1,y2,k] ((ae-af)*(ae+af)-aw) [(ax,ae*ae-ag),
  (au,af*af-ag)] ⟨AX.2 h1,AX.2 h2,trivial⟩ dk)
theorem a8 {F:Type} [CR F] (x y1 y2 l n:F) (h1:y1=(l*x+n)) (h2:y2=(l*x+n)):y1=y2 :=
 AX.1 (BU [x,y1,y2,l,n] (af-ag) [(ax,af-(ac*ae+ah)),
  (au,ag-(ac*ae+ah))] ⟨AX.2 h1,AX.2 h2,trivial⟩ dk)
theorem ATC {F:Type} [CR F] (x1 x2 y2 x4 l n:F) (h2:y2=(l*x2+n)) (e1:x1+x2+x4=(l*l)) (e2:x1*x2+x1*x4+x2*x4+(l*n+l*n)=0):l*y2+l*y2+l*l*(x1-x2)=x1*x1+x1*x2+x2*x2 :=
 AX.1 (BU [x1,x2,y2,x4,l,n] (ah*ag+ah*ag+ah*ah*(ae-af)-(ae*ae+ae*af+af*af)) [((ai*ah),ag-(ah*af+aj)),
  ((-ae+-af),ae+af+ac-ah*ah),
  (ax,ae*af+ae*ac+af*ac+(ah*aj+ah*aj)-aw)] ⟨AX.2 h2,AX.2 e1,AX.2 e2,trivial⟩ dk)
theorem AEm {F:Type} [CR F] (x2 y2 x3 x5 m q:F) (h2:y2=(m*x2+q)) (e1:x2+x3+x5=(m*m)) (e2:x2*x3+x2*x5+x3*x5+(m*q+m*q)=0):m*y2+m*y2+m*m*(x3-x2)=x3*x3+x3*x2+x2*x2 :=
 AX.1 (BU [x2,y2,x3,x5,m,q] (ah*af+ah*af+ah*ah*(ag-ae)-(ag*ag+ag*ae+ae*ae)) [((ai*ah),af-(ah*ae+aj)),
  ((-ae+-ag),ae+ag+ac-ah*ah),
  (ax,ae*ag+ae*ac+ag*ac+(ah*aj+ah*aj)-aw)] ⟨AX.2 h2,AX.2 e1,AX.2 e2,trivial⟩ dk)
theorem ATD {F:Type} [CR F] (x1 x2 x3 y2 l m s t:F) (r1:l*y2+l*y2+l*l*(x1-x2)=(x1*x1+x1*x2+x2*x2)) (r2:m*y2+m*y2+m*m*(x3-x2)=(x3*x3+x3*x2+x2*x2)) (hs:s*(l*l-x1-x2-x3)=(l*(x2-(l*l-x1-x2))-y2-(y2+m*(x3-x2)))) (ht:t*(m*m-x2-x3-x1)=(m*(x2-(m*m-x2-x3))-y2-(y2+l*(x1-x2)))):(l*l-x1-x2-x3)*(l*l-x1-x2-x3)*((m*m-x2-x3-x1)*(m*m-x2-x3-x1))*(s*s-(l*l-x1-x2)-x3)=(l*l-x1-x2-x3)*(l*l-x1-x2-x3)*((m*m-x2-x3-x1)*(m*m-x2-x3-x1))*(t*t-x1-(m*m-x2-x3)) :=
 AX.1 (BU [x1,x2,x3,y2,l,m,s,t] ((ah*ah-ae-af-ag)*(ah*ah-ae-af-ag)*((aj*aj-af-ag-ae)*(aj*aj-af-ag-ae))*(aa*aa-(ah*ah-ae-af)-ag)-(ah*ah-ae-af-ag)*(ah*ah-ae-af-ag)*((aj*aj-af-ag-ae)*(aj*aj-af-ag-ae))*(ap*ap-ae-(aj*aj-af-ag))) [(ao [(-10,111),(-6,110011),(3,20011),(5,200011),(-4,21),(6,20101),(4,200101),(-4,201),(4,11001),(2,310001),(-3,220001),(-1,40001),(-6,12),(-6,102),(3,20002),(3,200002),(-2,3),(-6,110110),(2,20110),(2,200110),(4,210),(4,11010),(-4,101010),(4,310010),(-1,220010),(4,130010),(1,40010),(-2,400010),(4,120),(-6,110020),(-1,20020),(1,200020),(2,30),(4,11100),(-8,101100),(-2,220100),(2,130100),(2,400100),(2,20200),(-6,200200),(4,300),(-2,211000),(-2,31000),(4,301000),(-2,330000)],ah*ac+ah*ac+ah*ah*(ae-af)-(ae*ae+ae*af+af*af)),
  (ao [(6,111),(6,110011),(-6,200101),(6,201),(-4,101001),(-2,310001),(6,110110),(-9,20110),(-3,200110),(6,210),(4,11010),(-4,101010),(-4,310010),(3,220010),(-4,130010),(-1,400010),(6,110020),(-3,20020),(3,200020),(-2,30),(8,11100),(-4,101100),(3,220100),(-2,130100),(1,400100),(-3,20200),(-3,200200),(2,300),(-4,211000),(2,121000),(2,301000),(2,330000)],aj*ac+aj*ac+aj*aj*(ag-af)-(ag*ag+ag*af+af*af)),
  (ao [(6,10111),(-6,1000111),(-4,1011),(-6,210011),(2,1020011),(-2,30011),(4,1200011),(-2,300011),(5,10021),(2,100021),(-3,1000021),(-4,1101),(-2,210101),(2,1020101),(-2,30101),(4,1200101),(2,300101),(1,10201),(-2,100201),(-3,1000201),(4,201001),(1,410001),(-2,1220001),(2,230001),(-1,1400001),(4,10012),(1,100012),(-3,1000012),(2,10102),(-1,100102),(-3,1000102),(-2,1002),(-2,210002),(1,1020002),(-1,30002),(2,1200002),(1,10003),(-1,1000003),(-4,1110),(-4,210110),(2,1020110),(-2,30110),(4,1200110),(2,10210),(-1,100210),(-3,1000210),(4,201010),(2,410010),(-2,1220010),(2,230010),(-1,1400010),(1,500010),(4,10120),(1,100120),(-3,1000120),(-2,1020),(-4,210020),(1,1020020),(-1,30020),(2,1200020),(-2,300020),(2,10030),(1,100030),(-1,1000030),(4,201100),(-2,1220100),(2,230100),(-1,1400100),(-1,500100),(-2,1200),(1,1020200),(-1,30200),(2,1200200),(2,300200),(-1,100300),(-1,1000300),(-2,401000),(1,1420000),(-1,430000)],aa*(ah*ah-ae-af-ag)-(ah*(af-(ah*ah-ae-af))-ac-(ac+aj*(ag-af)))),
  (ao [(-6,100111),(6,10000111),(4,1011),(4,120011),(-4,10020011),(-2,10200011),(2,300011),(-1,10021),(-4,100021),(3,10000021),(4,1101),(2,120101),(-4,10020101),(-2,30101),(-2,10200101),(2,300101),(1,10201),(-2,100201),(3,10000201),(-4,21001),(2,10220001),(-2,320001),(1,10040001),(1,50001),(1,10012),(-2,100012),(3,10000012),(2,10102),(-1,100102),(3,10000102),(2,1002),(-2,10020002),(-2,30002),(-1,10200002),(1,300002),(1,10003),(1,10000003),(4,1110),(6,120110),(-4,10020110),(2,30110),(-2,10200110),(2,300110),(-1,10210),(-4,100210),(3,10000210),(-4,21010),(2,10220010),(-2,320010),(-2,140010),(1,10040010),(-1,50010),(-2,10120),(-5,100120),(3,10000120),(2,1020),(4,120020),(-2,10020020),(2,30020),(-1,10200020),(1,300020),(-1,10030),(-2,100030),(1,10000030),(-4,21100),(2,10220100),(-2,320100),(-1,140100),(1,10040100),(2,1200),(2,120200),(-2,10020200),(-1,10200200),(1,300200),(-1,100300),(1,10000300),(2,41000),(-1,10240000),(1,340000)],ap*(aj*aj-af-ag-ae)-(aj*(af-(aj*aj-af-ag))-ac-(ac+ah*(ae-af))))] ⟨AX.2 r1,AX.2 r2,AX.2 hs,AX.2 ht,trivial⟩ dk)
theorem ATE {F:Type} [CR F] (x1 x2 x3 y2 l m s t:F) (r1:l*y2+l*y2+l*l*(x1-x2)=(x1*x1+x1*x2+x2*x2)) (r2:m*y2+m*y2+m*m*(x3-x2)=(x3*x3+x3*x2+x2*x2)) (hs:s*(l*l-x1-x2-x3)=(l*(x2-(l*l-x1-x2))-y2-(y2+m*(x3-x2)))) (ht:t*(m*m-x2-x3-x1)=(m*(x2-(m*m-x2-x3))-y2-(y2+l*(x1-x2)))):(l*l-x1-x2-x3)*(l*l-x1-x2-x3)*(l*l-x1-x2-x3)*(m*m-x2-x3-x1)*(s*(x3-(s*s-(l*l-x1-x2)-x3))-(y2+m*(x3-x2)))=(l*l-x1-x2-x3)*(l*l-x1-x2-x3)*(l*l-x1-x2-x3)*(m*m-x2-x3-x1)*(t*(x1-(s*s-(l*l-x1-x2)-x3))-(y2+l*(x1-x2))) :=
 AX.1 (BU [x1,x2,x3,y2,l,m,s,t] ((ah*ah-ae-af-ag)*(ah*ah-ae-af-ag)*(ah*ah-ae-af-ag)*(aj*aj-af-ag-ae)*(aa*(ag-(aa*aa-(ah*ah-ae-af)-ag))-(ac+aj*(ag-af)))-(ah*ah-ae-af-ag)*(ah*ah-ae-af-ag)*(ah*ah-ae-af-ag)*(aj*aj-af-ag-ae)*(ap*(ae-(aa*aa-(ah*ah-ae-af)-ag))-(ac+ah*(ae-af)))) [(ao [(-10,10111),(4,1011),(5,210011),(-1,120011),(9,30011),(1,300011),(-8,10021),(-4,100021),(4,1101),(3,210101),(1,120101),(7,30101),(-1,300101),(4,100201),(2,21001),(-2,201001),(-4,230001),(-2,50001),(-8,10012),(-2,100012),(-4,10102),(2,100102),(2,1002),(2,210002),(4,30002),(-2,10003),(2,1110),(6,210110),(6,120110),(8,30110),(-2,300110),(6,10210),(2,100210),(6,21010),(-4,201010),(-2,410010),(-1,320010),(-5,230010),(3,140010),(-1,50010),(2,10120),(-2,100120),(2,210020),(-4,120020),(2,30020),(2,300020),(2,10030),(-12,111100),(-2,21100),(2,410100),(1,320100),(-3,230100),(-3,140100),(-3,50100),(-6,210200),(-2,120200),(4,10300),(4,311000),(2,221000),(-4,41000),(-4,12000),(2,250000)],ah*ac+ah*ac+ah*ah*(ae-af)-(ae*ae+ae*af+af*af)),
  (ao [(8,10111),(2,100111),(-2,1011),(-1,210011),(3,120011),(-3,30011),(-1,300011),(2,10021),(2,100021),(-4,1101),(-5,210101),(-3,120101),(-3,30101),(1,300101),(2,10201),(-4,100201),(-4,111001),(2,201001),(2,230001),(-4,1110),(-10,210110),(-4,120110),(-14,30110),(-2,300110),(4,10210),(-2,100210),(-8,111010),(8,21010),(-2,201010),(1,320010),(5,230010),(-3,140010),(3,50010),(4,10120),(4,100120),(4,210020),(2,120020),(-8,30020),(-2,10030),(10,21100),(6,201100),(-1,320100),(5,230100),(3,140100),(3,50100),(-2,1200),(2,120200),(-2,30200),(2,300200),(-2,100300),(-6,221000),(4,131000),(4,102000),(-2,250000)],aj*ac+aj*ac+aj*aj*(ag-af)-(ag*ag+ag*af+af*af)),
  (ao [(-8,110111),(-6,1010111),(-1,20111),(6,1100111),(-1,200111),(6,2000111),(-6,211),(-6,11011),(2,101011),(3,1210011),(1,310011),(-3,1120011),(2,220011),(-4,2020011),(1,130011),(5,1030011),(-1,40011),(-2,2200011),(-1,1300011),(1,400011),(3,121),(-4,1010021),(-2,20021),(2,1100021),(-4,200021),(3,2000021),(4,31),(-4,11101),(4,101101),(1,1210101),(3,310101),(-3,1120101),(-4,2020101),(5,130101),(5,1030101),(-2,2200101),(-3,1300101),(-1,400101),(-4,110201),(-2,1010201),(3,20201),(4,1100201),(5,200201),(3,2000201),(-5,301),(4,211001),(2,1021001),(2,31001),(-2,1201001),(-2,301001),(2,2220001),(2,1320001),(-2,1230001),(-2,330001),(-1,240001),(1,2040001),(-2,1050001),(1,60001),(3,112),(1,110012),(-5,1010012),(-2,20012),(1,1100012),(-3,200012),(3,2000012),(6,22),(-4,110102),(-4,1010102),(-1,20102),(2,1100102),(3,2000102),(-3,202),(-4,11002),(1,1210002),(1,310002),(2,220002),(-2,2020002),(4,1030002),(-1,40002),(-1,2200002),(-1,1300002),(4,13),(1,103),(-2,1010003),(-1,20003),(-1,200003),(1,2000003),(1,4),(-2,11110),(6,101110),(2,1210110),(6,310110),(-6,1120110),(-1,220110),(-4,2020110),(4,130110),(2,1030110),(-2,2200110),(-2,1300110),(2,400110),(-5,110210),(-1,1010210),(3,20210),(5,1100210),(4,200210),(3,2000210),(-5,310),(8,211010),(-6,121010),(2,1021010),(-4,31010),(-2,1201010),(2,301010),(2,2220010),(1,1320010),(-1,420010),(-3,1230010),(-1,330010),(2,1140010),(1,240010),(1,2040010),(-2,150010),(-1,60010),(-6,110120),(-2,1010120),(-1,20120),(4,1100120),(-2,200120),(3,2000120),(-3,220),(-2,11020),(2,101020),(2,1210020),(-2,310020),(-3,1120020),(1,220020),(-2,2020020),(5,130020),(1,1030020),(2,40020),(-1,2200020),(1,130),(-1,110030),(-1,1010030),(-1,20030),(1,1100030),(-2,200030),(1,2000030),(1,40),(2,1021100),(2,31100),(-2,1201100),(-6,301100),(2,2220100),(3,1320100),(1,420100),(-1,1230100),(-3,330100),(1,1140100),(1,2040100),(-1,150100),(-1,1050100),(4,101200),(-3,1120200),(-4,220200),(-2,2020200),(3,130200),(1,1030200),(-1,2200200),(-2,1300200),(-2,400200),(3,20300),(2,1100300),(4,200300),(1,2000300),(-2,400),(2,1221000),(2,321000),(-4,231000),(-2,1041000),(2,51000),(4,22000),(-4,202000),(-1,2240000),(-1,1340000),(1,1250000),(1,350000)],aa*(ah*ah-ae-af-ag)-(ah*(af-(ah*ah-ae-af))-ac-(ac+aj*(ag-af)))),
  (ao [(6,20111),(-6,2000111),(3,211),(6,2020011),(-9,40011),(-3,121),(9,20021),(-3,2000021),(-3,31),(6,2020101),(-3,40101),(-3,20201),(-3,2000201),(3,301),(-3,2040001),(3,60001),(6,20012),(-3,2000012),(-3,22),(-3,2000102),(3,202),(3,2020002),(-3,40002),(-1,13),(1,103),(1,20003),(-1,2000003),(6,2020110),(-6,40110),(-3,2000210),(2,310),(-3,2040010),(4,60010),(6,20120),(-3,2000120),(3,2020020),(-6,40020),(-2,130),(4,20030),(-1,2000030),(-1,40),(-3,2040100),(2,60100),(3,2020200),(-2,20300),(-1,2000300),(1,400),(1,2060000),(-1,80000)],ap*(aj*aj-af-ag-ae)-(aj*(af-(aj*aj-af-ag))-ac-(ac+ah*(ae-af))))] ⟨AX.2 r1,AX.2 r2,AX.2 hs,AX.2 ht,trivial⟩ dk)
theorem spX {F:Type} [CR F] (x h m k s:F) (r2:m*k*h+m*k*h=(x*x+x*(x+(h+h))+(x+(h+h))*(x+(h+h)))) (rs:((k+m)*h+(k+m)*h)*s=((x+(h+h))*(x+(h+h))+(x+(h+h))*(x+(h+h))+(x+(h+h))*(x+(h+h)))):((k+m)*h+(k+m)*h)*((k+m)*h+(k+m)*h)*((m*m-x-(x+(h+h))-(k*k-x-(x+(h+h))))*(m*m-x-(x+(h+h))-(k*k-x-(x+(h+h))))*(s*s-(x+(h+h))-(x+(h+h))))=((k+m)*h+(k+m)*h)*((k+m)*h+(k+m)*h)*((m*(x-(m*m-x-(x+(h+h))))-(k-m)*h-(k*(x-(k*k-x-(x+(h+h))))+(k-m)*h))*(m*(x-(m*m-x-(x+(h+h))))-(k-m)*h-(k*(x-(k*k-x-(x+(h+h))))+(k-m)*h))-(m*m-x-(x+(h+h))-(k*k-x-(x+(h+h))))*(m*m-x-(x+(h+h))-(k*k-x-(x+(h+h))))*(k*k-x-(x+(h+h))+(m*m-x-(x+(h+h))))) :=
 AX.1 (BU [x,h,m,k,s] (((ac+ag)*af+(ac+ag)*af)*((ac+ag)*af+(ac+ag)*af)*((ag*ag-ae-(ae+(af+af))-(ac*ac-ae-(ae+(af+af))))*(ag*ag-ae-(ae+(af+af))-(ac*ac-ae-(ae+(af+af))))*(ah*ah-(ae+(af+af))-(ae+(af+af))))-((ac+ag)*af+(ac+ag)*af)*((ac+ag)*af+(ac+ag)*af)*((ag*(ae-(ag*ag-ae-(ae+(af+af))))-(ac-ag)*af-(ac*(ae-(ac*ac-ae-(ae+(af+af))))+(ac-ag)*af))*(ag*(ae-(ag*ag-ae-(ae+(af+af))))-(ac-ag)*af-(ac*(ae-(ac*ac-ae-(ae+(af+af))))+(ac-ag)*af))-(ag*ag-ae-(ae+(af+af))-(ac*ac-ae-(ae+(af+af))))*(ag*ag-ae-(ae+(af+af))-(ac*ac-ae-(ae+(af+af))))*(ac*ac-ae-(ae+(af+af))+(ag*ag-ae-(ae+(af+af)))))) [(ao [(36,2211),(-18,411),(-18,4011),(6,2202),(-3,402),(-3,4002),(-2,5110),(4,3310),(-2,1510),(40,2220),(-20,420),(-20,4020)],ag*ac*af+ag*ac*af-(ae*ae+ae*(ae+(af+af))+(ae+(af+af))*(ae+(af+af)))),
  (ao [(-24,2211),(12,411),(12,4011),(-6,2202),(3,402),(3,4002),(2,14110),(-4,13210),(-4,12310),(2,11410),(2,10510),(2,15010),(-24,2220),(12,420),(12,4020)],((ac+ag)*af+(ac+ag)*af)*ah-((ae+(af+af))*(ae+(af+af))+(ae+(af+af))*(ae+(af+af))+(ae+(af+af))*(ae+(af+af))))] ⟨AX.2 r2,AX.2 rs,trivial⟩ dk)
theorem spY {F:Type} [CR F] (x h m k s:F) (r2:m*k*h+m*k*h=(x*x+x*(x+(h+h))+(x+(h+h))*(x+(h+h)))) (rs:((k+m)*h+(k+m)*h)*s=((x+(h+h))*(x+(h+h))+(x+(h+h))*(x+(h+h))+(x+(h+h))*(x+(h+h)))):((k+m)*h+(k+m)*h)*((k+m)*h+(k+m)*h)*((k+m)*h+(k+m)*h)*((m*m-x-(x+(h+h))-(k*k-x-(x+(h+h))))*(s*(x+(h+h)-(s*s-(x+(h+h))-(x+(h+h))))-(k+m)*h))=((k+m)*h+(k+m)*h)*((k+m)*h+(k+m)*h)*((k+m)*h+(k+m)*h)*((m*(x-(m*m-x-(x+(h+h))))-(k-m)*h-(k*(x-(k*k-x-(x+(h+h))))+(k-m)*h))*(k*k-x-(x+(h+h))-(s*s-(x+(h+h))-(x+(h+h))))-(m*m-x-(x+(h+h))-(k*k-x-(x+(h+h))))*(k*(x-(k*k-x-(x+(h+h))))+(k-m)*h)) :=
 AX.1 (BU [x,h,m,k,s] (((ac+ag)*af+(ac+ag)*af)*((ac+ag)*af+(ac+ag)*af)*((ac+ag)*af+(ac+ag)*af)*((ag*ag-ae-(ae+(af+af))-(ac*ac-ae-(ae+(af+af))))*(ah*(ae+(af+af)-(ah*ah-(ae+(af+af))-(ae+(af+af))))-(ac+ag)*af))-((ac+ag)*af+(ac+ag)*af)*((ac+ag)*af+(ac+ag)*af)*((ac+ag)*af+(ac+ag)*af)*((ag*(ae-(ag*ag-ae-(ae+(af+af))))-(ac-ag)*af-(ac*(ae-(ac*ac-ae-(ae+(af+af))))+(ac-ag)*af))*(ac*ac-ae-(ae+(af+af))-(ah*ah-(ae+(af+af))-(ae+(af+af))))-(ag*ag-ae-(ae+(af+af))-(ac*ac-ae-(ae+(af+af))))*(ac*(ae-(ac*ac-ae-(ae+(af+af))))+(ac-ag)*af))) [(ao [(-48,3121),(48,1321),(24,421),(-24,4021),(288,231),(-288,2031),(-12,3112),(12,1312),(6,412),(-6,4012),(216,222),(-216,2022),(72,213),(-72,2013),(9,204),(-9,2004),(-4,5120),(-8,4220),(8,2420),(4,1520),(-32,3130),(32,1330),(16,430),(-16,4030),(144,240),(-144,2040)],ag*ac*af+ag*ac*af-(ae*ae+ae*(ae+(af+af))+(ae+(af+af))*(ae+(af+af)))),
  (ao [(12,12121),(-12,11221),(-12,10321),(-12,421),(12,13021),(12,4021),(-120,231),(120,2031),(6,12112),(6,3112),(-6,11212),(-6,1312),(-6,10312),(-6,412),(6,13012),(6,4012),(-120,222),(120,2022),(-54,213),(54,2013),(-9,204),(9,2004),(8,23120),(8,14120),(4,13220),(-8,21320),(-4,12320),(-8,11420),(-4,20420),(-4,10520),(4,24020),(4,15020),(8,12130),(-24,3130),(-8,11230),(24,1330),(-8,10330),(8,13030),(-48,240),(48,2040)],((ac+ag)*af+(ac+ag)*af)*ah-((ae+(af+af))*(ae+(af+af))+(ae+(af+af))*(ae+(af+af))+(ae+(af+af))*(ae+(af+af))))] ⟨AX.2 r2,AX.2 rs,trivial⟩ dk)
theorem ATH {F:Type} [CR F] (y2 y3 h m k:F) (ha:y3-y2=(m*(h+h))) (hb:y3+y2=(k*(h+h))):((int 2)*y2)=((int 2)*((k-m)*h)) :=
 AX.1 (BU [y2,y3,h,m,k] (ai*ae-ai*((ah-ac)*ag)) [(au,af-ae-ac*(ag+ag)),
  (ax,af+ae-ah*(ag+ag))] ⟨AX.2 ha,AX.2 hb,trivial⟩ dk)
theorem ATI {F:Type} [CR F] (y2 y3 h m k:F) (ha:y3-y2=(m*(h+h))) (hb:y3+y2=(k*(h+h))):((int 2)*y3)=((int 2)*((k+m)*h)) :=
 AX.1 (BU [y2,y3,h,m,k] (ai*af-ai*((ah+ac)*ag)) [(ax,af-ae-ac*(ag+ag)),
  (ax,af+ae-ah*(ag+ag))] ⟨AX.2 ha,AX.2 hb,trivial⟩ dk)
theorem ATJ {F:Type} [CR F] (d i:F) (h:((int 2)*i)=(int 1)):d*i+d*i=d :=
 AX.1 (BU [d,i] (ae*af+ae*af-ae) [(ae,ai*af-ax)] ⟨AX.2 h,trivial⟩ dk)
theorem two_mul {F:Type} [CR F] (y:F) :y+y=((int 2)*y) :=
 AX.1 (BU [y] (ae+ae-ai*ae) [] trivial dk)
theorem ATK {F:Type} [CR F] (x1 y1 l:F) :y1=l*x1+(y1-l*x1) :=
 AX.1 (BU [x1,y1,l] (af-(ag*ae+(af-ag*ae))) [] trivial dk)
theorem ATL {F:Type} [CR F] (x1 y1 x2 y2 l:F) (hl:l*(x2-x1)=(y2-y1)):y2=l*x2+(y1-l*x1) :=
 AX.1 (BU [x1,y1,x2,y2,l] (ac-(ah*ag+(af-ah*ae))) [(au,ah*(ag-ae)-(ac-af))] ⟨AX.2 hl,trivial⟩ dk)
theorem ATM {F:Type} [CR F] (x1 x2 l:F) :x1+x2+(l*l-x1-x2)=l*l :=
 AX.1 (BU [x1,x2,l] (ae+af+(ag*ag-ae-af)-ag*ag) [] trivial dk)
theorem ATN {F:Type} [CR F] (x y h m k:F) (hm:m*y+m*y+m*m*(x+(h+h)-x)=((x+(h+h))*(x+(h+h))+(x+(h+h))*x+x*x)) (hy:y=((k-m)*h)):m*k*h+m*k*h=x*x+x*(x+(h+h))+(x+(h+h))*(x+(h+h)) :=
 AX.1 (BU [x,y,h,m,k] (ac*ah*ag+ac*ah*ag-(ae*ae+ae*(ae+(ag+ag))+(ae+(ag+ag))*(ae+(ag+ag)))) [(ax,ac*af+ac*af+ac*ac*(ae+(ag+ag)-ae)-((ae+(ag+ag))*(ae+(ag+ag))+(ae+(ag+ag))*ae+ae*ae)),
  ((ak*ac),af-(ah-ac)*ag)] ⟨AX.2 hm,AX.2 hy,trivial⟩ dk)
theorem ATO {F:Type} [CR F] (a b:F) :a=b+(a-b) :=
 AX.1 (BU [a,b] (ae-(af+(ae-af))) [] trivial dk)
theorem ATP {F:Type} [CR F] (a b:F) (h:a+b=0):b=-a :=
 AX.1 (BU [a,b] (af- -ae) [(ax,ae+af-aw)] ⟨AX.2 h,trivial⟩ dk)
theorem AEn {F:Type} [CR F] (a b:F) (h:-a=(-b)):a=b :=
 AX.1 (BU [a,b] (ae-af) [(au,-ae- -af)] ⟨AX.2 h,trivial⟩ dk)
theorem Qw {F:Type} [CR F] (x1 x2 x4 l:F) (e1:x1+x2+x4=(l*l)):x4=l*l-x1-x2 :=
 AX.1 (BU [x1,x2,x4,l] (ag-(ac*ac-ae-af)) [(ax,ae+af+ag-ac*ac)] ⟨AX.2 e1,trivial⟩ dk)
theorem Qy {F:Type} [CR F] (x2 y2 x4 y4 l n:F) (h2:y2=(l*x2+n)) (h4:y4=(l*x4+n)):-y4=l*(x2-x4)-y2 :=
 AX.1 (BU [x2,y2,x4,y4,l,n] (-ac-(ah*(ae-ag)-af)) [(ax,af-(ah*ae+aj)),
  (au,ac-(ah*ag+aj))] ⟨AX.2 h2,AX.2 h4,trivial⟩ dk)
theorem AEo {F:Type} [CR F] (x1 y1 x2 y2 l n:F) (h1:y1=(l*x1+n)) (h2:y2=(l*x2+n)):y1=y2+l*(x1-x2) :=
 AX.1 (BU [x1,y1,x2,y2,l,n] (af-(ac+ah*(ae-ag))) [(ax,af-(ah*ae+aj)),
  (au,ac-(ah*ag+aj))] ⟨AX.2 h1,AX.2 h2,trivial⟩ dk)
theorem ATQ {F:Type} [CR F] (x1 x2 x3 k:F) (e:x1+x2+x3=(-k*-k)):x1=k*k-x2-x3 :=
 AX.1 (BU [x1,x2,x3,k] (ae-(ac*ac-af-ag)) [(ax,ae+af+ag- -ac*-ac)] ⟨AX.2 e,trivial⟩ dk)
theorem ATR {F:Type} [CR F] (x1 y1 x2 y2 k n:F) (h1:y1=(-k*x1+n)) (h2:y2=(-k*x2+n)):y1=k*(x2-x1)+y2 :=
 AX.1 (BU [x1,y1,x2,y2,k,n] (af-(ah*(ag-ae)+ac)) [(ax,af-(-ah*ae+aj)),
  (au,ac-(-ah*ag+aj))] ⟨AX.2 h1,AX.2 h2,trivial⟩ dk)
theorem ATS {F:Type} [CR F] (d t n x1 x5:F) (h:d*t=n):d*d*(t*t-x1-x5)=n*n-d*d*(x1+x5) :=
 AX.1 (BU [d,t,n,x1,x5] (ae*ae*(af*af-ac-ah)-(ag*ag-ae*ae*(ac+ah))) [((ae*af+ag),ae*af-ag)] ⟨AX.2 h,trivial⟩ dk)
theorem ATT {F:Type} [CR F] (d t n x1 X y1:F) (h:d*t=n):d*(t*(x1-X)-y1)=n*(x1-X)-d*y1 :=
 AX.1 (BU [d,t,n,x1,X,y1] (ae*(af*(ac-ah)-aj)-(ag*(ac-ah)-ae*aj)) [((ac+-ah),ae*af-ag)] ⟨AX.2 h,trivial⟩ dk)
theorem ATU {F:Type} [CR F] (y3 y2 d k:F) (h:d*-k=(-y3-y2)):y3+y2=k*d :=
 AX.1 (BU [y3,y2,d,k] (ae+af-ac*ag) [(ax,ag*-ac-(-ae-af))] ⟨AX.2 h,trivial⟩ dk)
class FD (F:Type) extends CR F where
 inv:F→F
 mul_inv:∀ a:F,a≠0→a*inv a=1
 inv_zero:inv 0=0
 one_ne:(1:F)≠0
 dec:DecidableEq F
instance fdDec {F:Type} [FD F]:DecidableEq F:=FD.dec
open FD (inv)
inductive Pt (F:Type) where
 | inf
 | pt (x y:F)
section
variable {F:Type} [FD F]
theorem Iq {a b c:F} (ha:a≠0) (h:a*b=a*c):b=c:=by
 have h2:inv a*(a*b)=inv a*(a*c):=by rw [h]
 rw [← mul_assoc,← mul_assoc,mul_comm (inv a) a,FD.mul_inv a ha,one_mul,one_mul] at h2;exact h2
theorem PA {a b:F} (ha:a≠0) (h:a*b=0):b=0:=Iq ha (by rw [h,mul_zero])
theorem Cz {a b:F} (ha:a≠0) (hb:b≠0):a*b≠0:=fun h=>hb (PA ha h)
theorem Ts {a b:F} (h:a≠b):a-b≠0:=fun e=>h (AX.1 e)
theorem XF {d e l:F} (hd:d≠0) (h:d*l=e):e*inv d=l:=by
 rw [← h,mul_comm d l,mul_assoc,FD.mul_inv d hd,mul_one]
theorem AEp {d e:F} (hd:d≠0):e*inv d*d=e:=by
 rw [mul_assoc,mul_comm (inv d),FD.mul_inv d hd,mul_one]
def HQ (x1 y1 x2 l:F):Pt F:=.pt (l*l-x1-x2) (l*(x1-(l*l-x1-x2))-y1)
def add:Pt F→Pt F→Pt F
 | .inf,q=>q
 | .pt x1 y1,q=>match q with
  | .inf=>.pt x1 y1
  | .pt x2 y2=>if x1=x2 then (if y1=y2∧y1≠0 then HQ x1 y1 x2 ((x1*x1+x1*x1+x1*x1)*inv (y1+y1)) else .inf) else HQ x1 y1 x2 ((y2-y1)*inv (x2-x1))
theorem KW (x1 y1 x2 y2:F):add (.pt x1 y1) (.pt x2 y2)=if x1=x2 then (if y1=y2∧y1≠0 then HQ x1 y1 x2 ((x1*x1+x1*x1+x1*x1)*inv (y1+y1)) else .inf) else HQ x1 y1 x2 ((y2-y1)*inv (x2-x1)):=rfl
def neg:Pt F→Pt F
 | .inf=>.inf
 | .pt x y=>.pt x (-y)
def On (b:F):Pt F→Prop
 | .inf=>True
 | .pt x y=>y*y=x*x*x+b
structure Ln (b x1 y1 x2 y2 x3 y3 l n:F):Prop where
 h1:y1=l*x1+n
 h2:y2=l*x2+n
 h3:y3=l*x3+n
 e1:x1+x2+x3=l*l
 e2:x1*x2+x1*x3+x2*x3+(l*n+l*n)=0
 e3:x1*x2*x3+b=n*n
section
variable {b x1 y1 x2 y2 x3 y3 l n:F}
theorem Ln.sw (h:Ln b x1 y1 x2 y2 x3 y3 l n):Ln b x2 y2 x1 y1 x3 y3 l n:=⟨h.h2,h.h1,h.h3,AS6 _ _ _ _ h.e1,AS8 _ _ _ _ h.e2,AS_ _ _ _ _ _ h.e3⟩
theorem Ln.ro (h:Ln b x1 y1 x2 y2 x3 y3 l n):Ln b x2 y2 x3 y3 x1 y1 l n:=⟨h.h2,h.h3,h.h1,AS7 _ _ _ _ h.e1,AS9 _ _ _ _ h.e2,AS' _ _ _ _ _ h.e3⟩
theorem Ln.neg (h:Ln b x1 y1 x2 y2 x3 y3 l n):Ln b x1 (-y1) x2 (-y2) x3 (-y3) (-l) (-n) :=
 ⟨rM _ _ _ _ h.h1,rM _ _ _ _ h.h2,rM _ _ _ _ h.h3,by rw [neg_sq];exact h.e1,by rw [ATA];exact h.e2,by rw [neg_sq];exact h.e3⟩
theorem Ln.on (h:Ln b x1 y1 x2 y2 x3 y3 l n):y1*y1=x1*x1*x1+b:=AS3 x1 y1 x2 x3 l n b h.h1 h.e1 h.e2 h.e3
end
structure Cv (F:Type) [FD F] where
 b:F
 two:(int 2:F)≠0
 no2:∀ x y:F,y*y=x*x*x+b→y≠0
variable (C:Cv F)
include C in
theorem Tt {y:F} (h:y≠0):y+y≠0:=by rw [two_mul];exact Cz C.two h
theorem Fu {x1 y1 x2 y2 x3 y3 l n:F} (h:Ln C.b x1 y1 x2 y2 x3 y3 l n):add (.pt x1 y1) (.pt x2 y2)=.pt x3 (-y3):=by
 have hy:=C.no2 _ _ h.on;have hsum:HQ x1 y1 x2 l=.pt x3 (-y3):=by
  unfold HQ;rw [AS5 x1 x2 x3 l h.e1,AS4 x1 y1 x3 y3 l n h.h1 h.h3]
 rw [KW];by_cases hx:x1=x2
 ·subst hx;have e:=a8 _ _ _ _ _ h.h1 h.h2;have ht:=AEl x1 y1 x3 l n h.h1 h.e1 h.e2;rw [fw rfl,fw ⟨e,hy⟩,XF (Tt C hy) ht];exact hsum
 ·rw [fv hx,XF (Ts (Ne.symm hx)) (Tr x1 y1 x2 y2 l n h.h1 h.h2)];exact hsum
theorem AEq {x1 y1 x2 y2 l:F} (c1:y1*y1=x1*x1*x1+C.b) (hl:l*(x2-x1)=y2-y1)
  (e2:x1*x2+x1*(l*l-x1-x2)+x2*(l*l-x1-x2)+(l*(y1-l*x1)+l*(y1-l*x1))=0):Ln C.b x1 y1 x2 y2 (l*l-x1-x2) (l*(l*l-x1-x2)+(y1-l*x1)) l (y1-l*x1) :=
 ⟨ATK x1 y1 l,ATL x1 y1 x2 y2 l hl,rfl,ATM x1 x2 l,e2,AS2 x1 y1 x2 l C.b e2 c1⟩
theorem NH {x1 y1 x2 y2:F} (c1:y1*y1=x1*x1*x1+C.b) (c2:y2*y2=x2*x2*x2+C.b):(x2=x1∧y2=-y1)∨∃ x3 y3 l n,Ln C.b x1 y1 x2 y2 x3 y3 l n:=by
 by_cases hx:x1=x2
 ·subst hx;by_cases hy:y1=y2
  ·subst hy;have hy0:=C.no2 _ _ c1;refine .inr ⟨_,_,(x1*x1+x1*x1+x1*x1)*inv (y1+y1),_,AEq C c1 (by rw [sub_self,sub_self,mul_zero]) ?_⟩
   refine AS1 x1 y1 _ ?_
   rw [mul_comm,AEp (Tt C hy0)]
  ·refine .inl ⟨rfl,?_⟩
   have:=ATB y1 y2 _ c1 c2
   exact ATP y1 y2 (PA (Ts hy) this)
 ·have hd:=Ts (Ne.symm hx)
  have hl:(y2-y1)*inv (x2-x1)*(x2-x1)=y2-y1:=AEp hd
  exact .inr ⟨_,_,(y2-y1)*inv (x2-x1),_,AEq C c1 hl (PA hd (AS0 x1 y1 x2 y2 _ C.b hl c1 c2))⟩
include C in
theorem a9 {y:F} (hy:y≠0) (h:y=-y):False:=by
 have h2:y+y=0:=by
  have:=Rg.add_neg y
  rw [← h] at this;exact this
 exact Tt C hy h2
theorem JL {x y:F} (c:y*y=x*x*x+C.b):add (.pt x y) (.pt x (-y))=.inf:=by
 have hy:=C.no2 _ _ c;rw [KW,fw rfl,fv]
 rintro ⟨h,_⟩
 exact a9 C hy h
theorem L3 {x y:F} (c:y*y=x*x*x+C.b):(-y)*(-y)=x*x*x+C.b:=by rw [neg_sq];exact c
theorem HR {p:Pt F} (h:On C.b p):On C.b (neg p):=by
 cases p with
 | inf=>trivial
 | pt x y=>exact L3 C h
theorem Ir {p q:Pt F} (hp:On C.b p) (hq:On C.b q):On C.b (add p q):=by
 cases p with
 | inf=>exact hq
 | pt x1 y1=>cases q with
  | inf=>exact hp
  | pt x2 y2 =>
   rcases NH C hp hq with ⟨rfl,rfl⟩ | ⟨x3,y3,l,n,h⟩
   ·rw [JL C hp];trivial
   ·rw [Fu C h];exact L3 C h.ro.ro.on
theorem HS {p q:Pt F} (hp:On C.b p) (hq:On C.b q):add p q=add q p:=by
 cases p with
 | inf=>cases q<;>rfl
 | pt x1 y1=>cases q with
  | inf=>rfl
  | pt x2 y2 =>
   rcases NH C hp hq with ⟨rfl,rfl⟩ | ⟨x3,y3,l,n,h⟩
   ·rw [JL C hp];have:=JL C (L3 C hp)
    rw [neg_neg] at this;exact this.symm
   ·rw [Fu C h,Fu C h.sw]
theorem PB (p:Pt F):add p .inf=p:=by cases p<;>rfl
theorem XG {p:Pt F} (hp:On C.b p):add p (neg p)=.inf:=by
 cases p with
 | inf=>rfl
 | pt x y=>exact JL C hp
theorem PC {p q:Pt F} (hp:On C.b p) (hq:On C.b q):add (neg p) (add p q)=q:=by
 cases p with
 | inf=>rfl
 | pt x1 y1=>cases q with
  | inf =>
   have h:=JL C (L3 C hp)
   rw [neg_neg] at h;exact h
  | pt x2 y2 =>
   rcases NH C hp hq with ⟨rfl,rfl⟩ | ⟨x3,y3,l,n,h⟩
   ·rw [JL C hp];rfl
   ·rw [Fu C h];have:=Fu C h.neg.sw.ro
    rw [neg_neg] at this;exact this
theorem rO {p q r:Pt F} (hp:On C.b p) (hq:On C.b q) (hr:On C.b r) (h:add p q=add p r):q=r:=by
 rw [← PC C hp hq,h,PC C hp hr]
theorem AEr {x1 y1 x2 y2 x3 y3 l n x5 y5 m q:F} (h1:Ln C.b x1 y1 x2 y2 x3 (-y3) l n) (h2:Ln C.b x2 y2 x3 y3 x5 y5 m q):add (.pt x3 y3) (.pt x3 y3)=add (.pt x1 y1) (.pt x5 (-y5)):=by
 have cP:=h1.on;have cQ:=h2.on;have cR:=h2.ro.on;have hyQ:=C.no2 _ _ cQ;have hyR:=C.no2 _ _ cR;have a2:add (.pt x1 y1) (.pt x2 y2)=.pt x3 y3:=by rw [Fu C h1,neg_neg]
 have a1:add (.pt x2 y2) (.pt x3 y3)=.pt x5 (-y5):=Fu C h2
 rcases NH C cR cR with ⟨_,e⟩ | ⟨x6,y6,s,n6,h6⟩
 ·exact (a9 C hyR e).elim
 rcases NH C cP (L3 C h2.ro.ro.on) with ⟨e1,e2⟩ | ⟨x7,y7,t,n7,h7⟩
 ·exfalso
  have e2:=AEn _ _ e2;subst e1;subst e2;have a3:=Fu C h2.ro.ro;rw [a2] at a3;injection a3 with _ a3;exact a9 C hyR a3
 rw [Fu C h6,Fu C h7];have ht:(x5-x1)*t=-y5-y1:=Tr x1 y1 x5 (-y5) t n7 h7.h1 h7.h2
 have hs:(y3+y3)*s=x3*x3+x3*x3+x3*x3:=AEl x3 y3 x6 s n6 h6.h1 h6.e1 h6.e2
 have hd:x5≠x1:=by
  intro e;subst e;have e3:=a8 _ _ _ _ _ h7.h1 h7.h2;rw [← e3] at a1;have a4:add (neg (.pt x2 y2)) (.pt x3 y3)=.pt x5 y1:=by
   rw [← a2,HS C (p:=.pt x5 y1) (q:=.pt x2 y2) cP cQ];exact PC C (p:=.pt x2 y2) (q:=.pt x5 y1) cQ cP
  have a5:add (.pt x3 y3) (.pt x2 y2)=add (.pt x3 y3) (neg (.pt x2 y2)):=by
   rw [HS C (p:=.pt x3 y3) (q:=.pt x2 y2) cR cQ,HS C (p:=.pt x3 y3) (q:=neg (.pt x2 y2)) cR (L3 C cQ),a1,a4]
  have a6:=rO C (p:=.pt x3 y3) (q:=.pt x2 y2) (r:=neg (.pt x2 y2)) cR cQ (L3 C cQ) a5
  injection a6 with _ a6;exact a9 C hyQ a6
 have hi:(int 2:F)*inv (int 2)=int 1:=by rw [FD.mul_inv _ C.two,XA]
 obtain ⟨h,hh⟩:∃ h:F,h+h=x3-x2:=⟨(x3-x2)*inv (int 2),ATJ _ _ hi⟩
 obtain ⟨k,rfl⟩:∃ k:F,l=-k:=⟨-l,(neg_neg l).symm⟩
 have ex3:x3=x2+(h+h):=by rw [hh];exact ATO _ _
 have hm:y3-y2=m*(h+h):=by
  have:=Tr x2 y2 x3 y3 m q h2.h1 h2.h2
  rw [hh,mul_comm];exact this.symm
 have hk:y3+y2=k*(h+h):=by
  have:=Tr x2 y2 x3 (-y3) (-k) n h1.h2 h1.h3
  rw [hh];exact ATU _ _ _ _ this
 have ey2:y2=(k-m)*h:=Iq C.two (ATH y2 y3 h m k hm hk)
 have ey3:y3=(k+m)*h:=Iq C.two (ATI y2 y3 h m k hm hk)
 have ex1:x1=k*k-x2-x3:=ATQ x1 x2 x3 k h1.e1
 have ey1:y1=k*(x2-x1)+y2:=ATR x1 y1 x2 y2 k n h1.h1 h1.h2
 have ex5:x5=m*m-x2-x3:=Qw x2 x3 x5 m h2.e1
 have ey5:-y5=m*(x2-x5)-y2:=Qy x2 y2 x5 y5 m q h2.h1 h2.h3
 have r2:=ATN x2 y2 h m k (by rw [← ex3];exact AEm x2 y2 x3 x5 m q h2.h1 h2.e1 h2.e2) ey2
 have rs:((k+m)*h+(k+m)*h)*s=(x2+(h+h))*(x2+(h+h))+(x2+(h+h))*(x2+(h+h))+(x2+(h+h))*(x2+(h+h)):=by rw [← ey3,← ex3];exact hs
 have hX:=spX x2 h m k s r2 rs;have hY:=spY x2 h m k s r2 rs;rw [← ex3,← ex1,← ex5,← ey2,← ey3,← ey5,← ey1] at hX hY;have hw:=Tt C hyR;have hD:=Ts hd;have x6e:x6=s*s-x3-x3:=Qw x3 x3 x6 s h6.e1
 have x7e:x7=t*t-x1-x5:=Qw x1 x5 x7 t h7.e1
 have hXX:x6=x7:=by
  rw [x6e,x7e];refine Iq (Cz hD hD) ?_
  rw [ATS _ _ _ x1 x5 ht];exact Iq (Cz hw hw) hX
 have y6e:-y6=s*(x3-x6)-y3:=Qy x3 y3 x6 y6 s n6 h6.h1 h6.h3
 have y7e:-y7=t*(x1-x7)-y1:=Qy x1 y1 x7 y7 t n7 h7.h1 h7.h3
 have hYY:-y6=-y7:=by
  rw [y6e,y7e,← hXX];refine Iq hD ?_
  rw [ATT _ _ _ x1 x6 y1 ht];rw [← x6e] at hY;exact Iq (Cz (Cz hw hw) hw) hY
 rw [hXX,hYY]
theorem ATV {x1 y1 x2 y2 x3 y3 x4 y4 x5 y5 x6 y6 x7 y7 l n m q s n6 t n7:F} (h1:Ln C.b x1 y1 x2 y2 x4 y4 l n) (h2:Ln C.b x2 y2 x3 y3 x5 y5 m q) (h3:Ln C.b x4 (-y4) x3 y3 x6 y6 s n6) (h4:Ln C.b x1 y1 x5 (-y5) x7 y7 t n7)
  (hd1:x4≠x3) (hd2:x5≠x1):x6=x7∧-y6=-y7:=by
 have ex4:x4=l*l-x1-x2:=Qw x1 x2 x4 l h1.e1
 have ey4:-y4=l*(x2-x4)-y2:=Qy x2 y2 x4 y4 l n h1.h2 h1.h3
 have ex5:x5=m*m-x2-x3:=Qw x2 x3 x5 m h2.e1
 have ey5:-y5=m*(x2-x5)-y2:=Qy x2 y2 x5 y5 m q h2.h1 h2.h3
 have ey3:y3=y2+m*(x3-x2):=AEo x3 y3 x2 y2 m q h2.h2 h2.h1
 have ey1:y1=y2+l*(x1-x2):=AEo x1 y1 x2 y2 l n h1.h1 h1.h2
 have hs:s*(x4-x3)=-y4-y3:=by rw [mul_comm];exact Tr x3 y3 x4 (-y4) s n6 h3.h2 h3.h1
 have ht:t*(x5-x1)=-y5-y1:=by rw [mul_comm];exact Tr x1 y1 x5 (-y5) t n7 h4.h1 h4.h2
 have r1:=ATC x1 x2 y2 x4 l n h1.h2 h1.e1 h1.e2;have r2:=AEm x2 y2 x3 x5 m q h2.h1 h2.e1 h2.e2;have hs':s*(l*l-x1-x2-x3)=l*(x2-(l*l-x1-x2))-y2-(y2+m*(x3-x2)):=by rw [← ex4,← ey4,← ey3];exact hs
 have ht':t*(m*m-x2-x3-x1)=m*(x2-(m*m-x2-x3))-y2-(y2+l*(x1-x2)):=by rw [← ex5,← ey5,← ey1];exact ht
 have hX:=ATD x1 x2 x3 y2 l m s t r1 r2 hs' ht';have hY:=ATE x1 x2 x3 y2 l m s t r1 r2 hs' ht';rw [← ex4,← ex5] at hX hY;rw [← ey3,← ey1] at hY;have hD1:=Ts hd1;have hD2:=Ts hd2;have x6e:x6=s*s-x4-x3:=Qw x4 x3 x6 s h3.e1
 have x7e:x7=t*t-x1-x5:=Qw x1 x5 x7 t h4.e1
 have hXX:x6=x7:=by rw [x6e,x7e];exact Iq (Cz (Cz hD1 hD1) (Cz hD2 hD2)) hX
 have y6e:-y6=s*(x3-x6)-y3:=Qy x3 y3 x6 y6 s n6 h3.h2 h3.h3
 have y7e:-y7=t*(x1-x7)-y1:=Qy x1 y1 x7 y7 t n7 h4.h1 h4.h3
 refine ⟨hXX,?_⟩
 rw [y6e,y7e,← hXX];rw [← x6e] at hY;exact Iq (Cz (Cz (Cz hD1 hD1) hD1) hD2) hY
theorem JM {p q r:Pt F} (hp:On C.b p) (hq:On C.b q) (hr:On C.b r):add (add p q) r=add p (add q r):=by
 cases p with
 | inf=>rfl
 | pt x1 y1=>cases q with
  | inf=>rfl
  | pt x2 y2=>cases r with
   | inf=>rw [PB,PB]
   | pt x3 y3 =>
    rcases NH C hp hq with ⟨rfl,rfl⟩ | ⟨x4,y4,l,n,h1⟩
    ·rw [JL C hp];have hn:On C.b (.pt x2 (-y1)):=hq
     have:=PC C (p:=.pt x2 (-y1)) (q:=.pt x3 y3) hn hr
     rw [show neg (.pt x2 (-y1):Pt F)=.pt x2 y1 by simp [neg,neg_neg]] at this
     exact this.symm
    rcases NH C hq hr with ⟨rfl,rfl⟩ | ⟨x5,y5,m,q,h2⟩
    ·rw [JL C hq,PB,HS C (Ir C hp hq) hr,HS C hp hq];exact PC C (p:=.pt x3 y2) (q:=.pt x1 y1) hq hp
    rw [Fu C h1,Fu C h2];have c4:=L3 C h1.ro.ro.on;have c5:=L3 C h2.ro.ro.on;rcases NH C c4 hr with ⟨e1,e2⟩ | ⟨x6,y6,s,n6,h3⟩
    ·
     rw [neg_neg] at e2;subst e1;subst e2;have a:=Fu C h1.ro;rw [Fu C h2] at a;rw [a,JL C hp];have:=JL C c4
     rw [neg_neg] at this;exact this
    rcases NH C hp c5 with ⟨e1,e2⟩ | ⟨x7,y7,t,n7,h4⟩
    ·have e2:=AEn _ _ e2;subst e1;subst e2;have a:=Fu C h2.ro.ro;rw [Fu C h1] at a;rw [a,JL C hp];have:=JL C (L3 C hr)
     rw [neg_neg] at this;exact this
    by_cases hd1:x4=x3
    ·have e3:=a8 _ _ _ _ _ (hd1▸h3.h1) h3.h2
     subst hd1;rw [e3];have h1':Ln C.b x1 y1 x2 y2 x4 (-y3) l n:=by rw [← e3,neg_neg];exact h1
     exact AEr C h1' h2
    by_cases hd2:x5=x1
    ·have e3:=a8 _ _ _ _ _ h4.h1 (hd2▸h4.h2)
     subst hd2;rw [← e3];have h2':Ln C.b x3 y3 x2 y2 x5 (-y1) m q:=by rw [e3,neg_neg];exact h2.sw
     have:=AEr C h2' h1.sw
     rw [this];exact HS C (p:=.pt x4 (-y4)) (q:=.pt x3 y3) c4 hr
    obtain ⟨e1,e2⟩:=ATV C h1 h2 h3 h4 hd1 hd2;rw [Fu C h3,Fu C h4,e1,e2]
def smul:Nat→Pt F→Pt F
 | 0,_=>.inf
 | n+1,p=>add (smul n p) p
theorem B4 {p:Pt F} (hp:On C.b p):∀ n,On C.b (smul n p)
 | 0=>trivial
 | n+1=>Ir C (B4 hp n) hp
theorem It {p:Pt F} (hp:On C.b p) (m:Nat):∀ n,smul (m+n) p=add (smul m p) (smul n p)
 | 0=>(PB _).symm
 | n+1=>by
  rw [← jx];simp only [smul];rw [It hp m n,JM C (B4 C hp m) (B4 C hp n) hp]
theorem Iu {p:Pt F} (hp:On C.b p) (m:Nat):∀ n,smul (m*n) p=smul n (smul m p)
 | 0=>rfl
 | n+1=>by
  rw [Nat.mul_succ,It C hp,Iu hp m n];rfl
theorem GV:∀ n,smul n (.inf:Pt F)=.inf
 | 0=>rfl
 | n+1=>by simp only [smul];rw [GV n];rfl
theorem ATW (p:Pt F):neg (neg p)=p:=by cases p<;>simp [neg,neg_neg]
theorem ATX {p q:Pt F} (hp:On C.b p) (hq:On C.b q):add (add p q) (neg q)=p:=by
 rw [JM C hp hq (HR C hq),XG C hq,PB]
end
theorem ATY {F:Type} [CR F] (x y i I:F) (hi:i=((y+y)*I)):(y*(i*i*i)+y*(i*i*i))*((x*x+x*x+x*x)*I)=x*(i*i)*(x*(i*i))+x*(i*i)*(x*(i*i))+x*(i*i)*(x*(i*i)) :=
 AX.1 (BU [x,y,i,I] ((af*(ag*ag*ag)+af*(ag*ag*ag))*((ae*ae+ae*ae+ae*ae)*ac)-(ae*(ag*ag)*(ae*(ag*ag))+ae*(ag*ag)*(ae*(ag*ag))+ae*(ag*ag)*(ae*(ag*ag)))) [(ao [(-3,302)],ag-(af+af)*ac)] ⟨AX.2 hi,trivial⟩ dk)
theorem AEs {F:Type} [CR F] (x y i I:F) (hi:i=((y+y)*I)):(x*x+x*x+x*x)*I*((x*x+x*x+x*x)*I)-x*(i*i)-x*(i*i)=((x*x+x*x+x*x)*(x*x+x*x+x*x)-(x*(y*y)+x*(y*y)+(x*(y*y)+x*(y*y))+(x*(y*y)+x*(y*y)+(x*(y*y)+x*(y*y)))))*(I*I) :=
 AX.1 (BU [x,y,i,I] ((ae*ae+ae*ae+ae*ae)*ac*((ae*ae+ae*ae+ae*ae)*ac)-ae*(ag*ag)-ae*(ag*ag)-((ae*ae+ae*ae+ae*ae)*(ae*ae+ae*ae+ae*ae)-(ae*(af*af)+ae*(af*af)+(ae*(af*af)+ae*(af*af))+(ae*(af*af)+ae*(af*af)+(ae*(af*af)+ae*(af*af)))))*(ac*ac)) [((ak*ag*ae+a_*ae*af*ac),ag-(af+af)*ac)] ⟨AX.2 hi,trivial⟩ dk)
theorem ATZ {F:Type} [CR F] (x y i I:F) (hi:i=((y+y)*I)):(x*x+x*x+x*x)*I*(x*(i*i)-((x*x+x*x+x*x)*I*((x*x+x*x+x*x)*I)-x*(i*i)-x*(i*i)))-y*(i*i*i)=((x*x+x*x+x*x)*(x*(y*y)+x*(y*y)+(x*(y*y)+x*(y*y))-((x*x+x*x+x*x)*(x*x+x*x+x*x)-(x*(y*y)+x*(y*y)+(x*(y*y)+x*(y*y))+(x*(y*y)+x*(y*y)+(x*(y*y)+x*(y*y))))))-(y*y*(y*y)+y*y*(y*y)+(y*y*(y*y)+y*y*(y*y))+(y*y*(y*y)+y*y*(y*y)+(y*y*(y*y)+y*y*(y*y)))))*(I*I*I) :=
 AX.1 (BU [x,y,i,I] ((ae*ae+ae*ae+ae*ae)*ac*(ae*(ag*ag)-((ae*ae+ae*ae+ae*ae)*ac*((ae*ae+ae*ae+ae*ae)*ac)-ae*(ag*ag)-ae*(ag*ag)))-af*(ag*ag*ag)-((ae*ae+ae*ae+ae*ae)*(ae*(af*af)+ae*(af*af)+(ae*(af*af)+ae*(af*af))-((ae*ae+ae*ae+ae*ae)*(ae*ae+ae*ae+ae*ae)-(ae*(af*af)+ae*(af*af)+(ae*(af*af)+ae*(af*af))+(ae*(af*af)+ae*(af*af)+(ae*(af*af)+ae*(af*af))))))-(af*af*(af*af)+af*af*(af*af)+(af*af*(af*af)+af*af*(af*af))+(af*af*(af*af)+af*af*(af*af)+(af*af*(af*af)+af*af*(af*af)))))*(ac*ac*ac)) [(ao [(18,2013),(9,1103),(-1,210),(-2,1120),(-4,2030)],ag-(af+af)*ac)] ⟨AX.2 hi,trivial⟩ dk)
theorem ATa {F:Type} [CR F] (y z i I:F) (hz:z*i=(int 1)) (hZ:(y*z+y*z)*I=(int 1)):i=(y+y)*I :=
 AX.1 (BU [y,z,i,I] (ag-(ae+ae)*ac) [((ai*ae*ac),af*ag-ax),
  ((-ag),(ae*af+ae*af)*ac-ax)] ⟨AX.2 hz,AX.2 hZ,trivial⟩ dk)
theorem ATb {F:Type} [CR F] (x a z i:F) (hz:z*i=(int 1)):(a*(z*z)-x)*(i*i)=a-x*(i*i) :=
 AX.1 (BU [x,a,z,i] ((af*(ag*ag)-ae)*(ac*ac)-(af-ae*(ac*ac))) [((af*ag*ac+af),ag*ac-ax)] ⟨AX.2 hz,trivial⟩ dk)
theorem ATc {F:Type} [CR F] (y b z i:F) (hz:z*i=(int 1)):(b*(z*z*z)-y)*(i*i*i)=b-y*(i*i*i) :=
 AX.1 (BU [y,b,z,i] ((af*(ag*ag*ag)-ae)*(ac*ac*ac)-(af-ae*(ac*ac*ac))) [((af*ag^2*ac^2+(af*ag*ac+af)),ag*ac-ax)] ⟨AX.2 hz,trivial⟩ dk)
theorem ATd {F:Type} [CR F] (z h i I:F) (hz:z*i=(int 1)) (hZ:z*h*I=(int 1)):i=h*I :=
 AX.1 (BU [z,h,i,I] (ag-af*ac) [((af*ac),ae*ag-ax),
  ((-ag),ae*af*ac-ax)] ⟨AX.2 hz,AX.2 hZ,trivial⟩ dk)
theorem ATe {F:Type} [CR F] (x y a b i I h r:F) (hi:i=(h*I)) (hh:h*(i*i)=(a-x*(i*i))) (hr:r*(i*i*i)=(b-y*(i*i*i))):(a-x*(i*i))*(r*I)=b-y*(i*i*i) :=
 AX.1 (BU [x,y,a,b,i,I,h,r] ((ag-ae*(ah*ah))*(ap*aj)-(ac-af*(ah*ah*ah))) [((-(ah^2*ap)),ah-aa*aj),
  ((-(aj*ap)),aa*(ah*ah)-(ag-ae*(ah*ah))),
  (ax,ap*(ah*ah*ah)-(ac-af*(ah*ah*ah)))] ⟨AX.2 hi,AX.2 hh,AX.2 hr,trivial⟩ dk)
theorem ATf {F:Type} [CR F] (x y a i I h r:F) (hi:i=(h*I)) (hh:h*(i*i)=(a-x*(i*i))):r*I*(r*I)-x*(i*i)-a=(r*r-h*h*h-(x*(h*h)+x*(h*h)))*(I*I) :=
 AX.1 (BU [x,y,a,i,I,h,r] (aa*ah*(aa*ah)-ae*(ac*ac)-ag-(aa*aa-aj*aj*aj-(ae*(aj*aj)+ae*(aj*aj)))*(ah*ah)) [((ak*ae*ac+ak*ae*ah*aj+(-(ac*aj)+-(ah*aj^2))),ac-aj*ah),
  (ax,aj*(ac*ac)-(ag-ae*(ac*ac)))] ⟨AX.2 hi,AX.2 hh,trivial⟩ dk)
theorem ATg {F:Type} [CR F] (x y a i I h r:F) (hi:i=(h*I)) (hh:h*(i*i)=(a-x*(i*i))):r*I*(x*(i*i)-(r*I*(r*I)-x*(i*i)-a))-y*(i*i*i)=(r*(x*(h*h)-(r*r-h*h*h-(x*(h*h)+x*(h*h))))-y*(h*h*h))*(I*I*I) :=
 AX.1 (BU [x,y,a,i,I,h,r] (aa*ah*(ae*(ac*ac)-(aa*ah*(aa*ah)-ae*(ac*ac)-ag))-af*(ac*ac*ac)-(aa*(ae*(aj*aj)-(aa*aa-aj*aj*aj-(ae*(aj*aj)+ae*(aj*aj))))-af*(aj*aj*aj))*(ah*ah*ah)) [(ao [(3,1011001),(3,1120001),(-1,111010),(-1,2010),(-1,220010),(1,1111000),(1,1220000)],ac-aj*ah),
  ((-(ah*aa)),aj*(ac*ac)-(ag-ae*(ac*ac)))] ⟨AX.2 hi,AX.2 hh,trivial⟩ dk)
end Go.Proofs.YtgnajdcdcblaoaaGreat.Rg
namespace Go.Proofs.YtgnajdcdcblaoaaGreat.Rg
open FD (inv)
structure J (F:Type) where
 x:F
 y:F
 z:F
section
variable {F:Type} [FD F]
def B5 (j:J F):Pt F:=if j.z=0 then .inf else .pt (j.x*(inv j.z*inv j.z)) (j.y*((inv j.z*inv j.z)*inv j.z))
def jE (x:F):F:=x*x+x*x+x*x
def jD (x y:F):F:=x*(y*y)+x*(y*y)+(x*(y*y)+x*(y*y))
def jC2 (y:F):F:=(y*y)*(y*y)+(y*y)*(y*y)
def bC (y:F):F:=jC2 y+jC2 y
def Tu (y:F):F:=bC y+bC y
def jX (x y:F):F:=jE x*jE x-(jD x y+jD x y)
def Bl (j:J F):J F:=⟨jX j.x j.y,jE j.x*(jD j.x j.y-jX j.x j.y)-Tu j.y,j.y*j.z+j.y*j.z⟩
def pX (x h r:F):F:=r*r-(h*h)*h-(x*(h*h)+x*(h*h))
def pY (x y h r:F):F:=r*(x*(h*h)-pX x h r)-y*((h*h)*h)
def pH (j:J F) (a:F):F:=a*(j.z*j.z)-j.x
def pR (j:J F) (b:F):F:=b*((j.z*j.z)*j.z)-j.y
def FF (j:J F) (a b:F):J F :=
 if j.z=0 then ⟨a,b,1⟩ else if pH j a=0 then (if pR j b=0 then Bl j else ⟨0,0,0⟩)
 else ⟨pX j.x (pH j a) (pR j b),pY j.x j.y (pH j a) (pR j b),j.z*pH j a⟩
theorem Tv {z:F} (h:z≠0):z*inv z=int 1:=by rw [FD.mul_inv z h,XA]
theorem Hz {j:J F} (h:j.z≠0):B5 j=.pt (j.x*(inv j.z*inv j.z)) (j.y*((inv j.z*inv j.z)*inv j.z)):=fv h
theorem F_ {j:J F} (h:j.z=0):B5 j=.inf:=fw h
theorem ATh:inv (1:F)=1:=by have:=FD.mul_inv (1:F) FD.one_ne;rwa [one_mul] at this
theorem ATi {z:F} (h:z≠0):inv z≠0:=fun e=>by
 have:=FD.mul_inv z h
 rw [e,mul_zero] at this;exact FD.one_ne this.symm
variable (C:Cv F)
theorem Qz {j:J F} (hp:On C.b (B5 j)):B5 (Bl j)=add (B5 j) (B5 j):=by
 by_cases hz:j.z=0
 ·have h2:(Bl j).z=0:=by show j.y*j.z+j.y*j.z=0;rw [hz,mul_zero,zero_add]
  rw [F_ h2,F_ hz];rfl
 ·rw [Hz hz] at hp ⊢;have hY:=C.no2 _ _ hp;have hy:j.y≠0:=fun e=>hY (by rw [e,zero_mul])
  have hZ:j.y*j.z+j.y*j.z≠0:=Tt C (Cz hy hz)
  have hi:=ATa j.y j.z (inv j.z) (inv (j.y*j.z+j.y*j.z)) (Tv hz) (Tv hZ)
  rw [Hz (j:=Bl j) hZ,KW,fw rfl,fw ⟨rfl,hY⟩,XF (Tt C hY) (ATY j.x j.y _ _ hi)];unfold HQ;rw [AEs j.x j.y _ _ hi];have h2:=ATZ j.x j.y _ _ hi;rw [AEs j.x j.y _ _ hi] at h2;rw [h2];rfl
theorem Tw {j:J F} {a b:F} (hp:On C.b (B5 j)):B5 (FF j a b)=add (B5 j) (.pt a b):=by
 unfold FF;by_cases hz:j.z=0
 ·rw [fw hz,F_ hz,Hz (j:=⟨a,b,1⟩) FD.one_ne];show Pt.pt (a*(inv 1*inv 1)) (b*((inv 1*inv 1)*inv 1))=.pt a b;rw [ATh,one_mul,one_mul,mul_one,mul_one]
 ·rw [fv hz];have eh:pH j a*(inv j.z*inv j.z)=a-j.x*(inv j.z*inv j.z):=ATb j.x a j.z _ (Tv hz)
  have er:pR j b*((inv j.z*inv j.z)*inv j.z)=b-j.y*((inv j.z*inv j.z)*inv j.z):=ATc j.y b j.z _ (Tv hz)
  have hi:=ATi hz;by_cases hh:pH j a=0
  ·have ea:a=j.x*(inv j.z*inv j.z):=AX.1 (by rw [← eh,hh,zero_mul])
   rw [fw hh];by_cases hr:pR j b=0
   ·have eb:b=j.y*((inv j.z*inv j.z)*inv j.z):=AX.1 (by rw [← er,hr,zero_mul])
    rw [fw hr,Qz C hp]
    conv=>rhs;rw [ea,eb]
    rw [Hz hz]
   ·rw [fv hr,F_ (j:=⟨0,0,0⟩) rfl,Hz hz,KW,fw ea.symm,fv]
    rintro ⟨e,_⟩
    have:b-j.y*((inv j.z*inv j.z)*inv j.z)=0:=AX.2 e.symm
    rw [← er] at this;exact Cz hr (Cz (Cz hi hi) hi) this
  ·rw [fv hh];have hax:a-j.x*(inv j.z*inv j.z)≠0:=by rw [← eh];exact Cz hh (Cz hi hi)
   have hZ:j.z*pH j a≠0:=Cz hz hh
   have hI:=ATd j.z (pH j a) (inv j.z) (inv (j.z*pH j a)) (Tv hz) (Tv hZ)
   have hl:=ATe j.x j.y a b _ _ _ _ hI eh er;rw [Hz (j:=⟨pX j.x (pH j a) (pR j b),pY j.x j.y (pH j a) (pR j b),j.z*pH j a⟩) hZ,Hz hz,KW,fv (fun e=>hax (AX.2 e.symm)),XF hax hl]
   unfold HQ;have e1:=ATf j.x j.y a (inv j.z) (inv (j.z*pH j a)) (pH j a) (pR j b) hI eh
   have e2:=ATg j.x j.y a (inv j.z) (inv (j.z*pH j a)) (pH j a) (pR j b) hI eh
   rw [e1] at e2;rw [e1,e2];rfl
end
end Go.Proofs.YtgnajdcdcblaoaaGreat.Rg
namespace Go.Proofs.YtgnajdcdcblaoaaGreat.Rg
section
variable {F:Type} [CR F]
class At (xs:List F) (x:F) (i:outParam Nat):Prop where
 h:nth xs i=x
instance atTail {xs:List F} {x y:F} {i:Nat} [a:At xs x i]:At (y::xs) x (i+1):=⟨a.h⟩
instance (priority:=high) atHead {xs:List F} {x:F}:At (x::xs) x 0:=⟨rfl⟩
class Rf (xs:List F) (t:F) (e:outParam E):Prop where
 h:e.den xs=t
instance (priority:=low) rfV {xs:List F} {x:F} {i:Nat} [a:At xs x i]:Rf xs x (.v i):=⟨a.h⟩
instance rfAdd {xs:List F} {a b:F} {e f:E} [x:Rf xs a e] [y:Rf xs b f]:Rf xs (a+b) (.add e f):=⟨by rw [E.den,x.h,y.h]⟩
instance rfSub {xs:List F} {a b:F} {e f:E} [x:Rf xs a e] [y:Rf xs b f]:Rf xs (a-b) (.sub e f):=⟨by rw [E.den,x.h,y.h]⟩
instance rfMul {xs:List F} {a b:F} {e f:E} [x:Rf xs a e] [y:Rf xs b f]:Rf xs (a*b) (.mul e f):=⟨by rw [E.den,x.h,y.h]⟩
instance rfNeg {xs:List F} {a:F} {e:E} [x:Rf xs a e]:Rf xs (-a) (.neg e):=⟨by rw [E.den,x.h]⟩
instance rfZero {xs:List F}:Rf xs 0 (.c 0):=⟨rfl⟩
instance rfOne {xs:List F}:Rf xs 1 (.c 1):=⟨XA⟩
theorem ring (xs:List F) {a b:F} {e f:E} [x:Rf xs a e] [y:Rf xs b f] (h:rK (E.pol (.sub e f))=true):a=b:=by
 rw [← x.h,← y.h];exact ASz xs e f h
end
end Go.Proofs.YtgnajdcdcblaoaaGreat.Rg
namespace Go.Proofs.YtgnajdcdcblaoaaGreat.Rg
set_option synthInstance.maxSize 100000
set_option synthInstance.maxHeartbeats 400000
structure Qx {F:Type} [CR F] (β:F) where
 a:F
 b:F
structure Kx {F:Type} [CR F] (ξ:F) where
 a:F
 b:F
 c:F
section
variable {F:Type} [CR F] {β ξ:F}
theorem Qx.ext {x y:Qx β} (h1:x.a=y.a) (h2:x.b=y.b):x=y:=by cases x;cases y;simp_all
theorem Kx.ext {x y:Kx ξ} (h1:x.a=y.a) (h2:x.b=y.b) (h3:x.c=y.c):x=y:=by cases x;cases y;simp_all
instance crQ:CR (Qx β) where
 add x y:=⟨x.a+y.a,x.b+y.b⟩
 mul x y:=⟨x.a*y.a+β*(x.b*y.b),x.a*y.b+x.b*y.a⟩
 neg x:=⟨-x.a,-x.b⟩
 sub x y:=⟨x.a-y.a,x.b-y.b⟩
 zero:=⟨0,0⟩
 one:=⟨1,0⟩
 add_assoc x y z:=Qx.ext (add_assoc _ _ _) (add_assoc _ _ _)
 add_comm x y:=Qx.ext (add_comm _ _) (add_comm _ _)
 zero_add x:=Qx.ext (zero_add _) (zero_add _)
 neg_add x:=Qx.ext (neg_add _) (neg_add _)
 mul_assoc x y z:=Qx.ext (ring [x.a,x.b,y.a,y.b,z.a,z.b,β] (a:=(x.a*y.a+β*(x.b*y.b))*z.a+β*((x.a*y.b+x.b*y.a)*z.b)) (b:=x.a*(y.a*z.a+β*(y.b*z.b))+β*(x.b*(y.a*z.b+y.b*z.a))) dk)
  (ring [x.a,x.b,y.a,y.b,z.a,z.b,β] (a:=(x.a*y.a+β*(x.b*y.b))*z.b+(x.a*y.b+x.b*y.a)*z.a) (b:=x.a*(y.a*z.b+y.b*z.a)+x.b*(y.a*z.a+β*(y.b*z.b))) dk)
 mul_comm x y:=Qx.ext (ring [x.a,x.b,y.a,y.b,β] (a:=x.a*y.a+β*(x.b*y.b)) (b:=y.a*x.a+β*(y.b*x.b)) dk) (ring [x.a,x.b,y.a,y.b] (a:=x.a*y.b+x.b*y.a) (b:=y.a*x.b+y.b*x.a) dk)
 one_mul x:=Qx.ext (ring [x.a,x.b,β] (a:=1*x.a+β*(0*x.b)) dk) (ring [x.a,x.b] (a:=1*x.b+0*x.a) dk)
 add_mul x y z:=Qx.ext (ring [x.a,x.b,y.a,y.b,z.a,z.b,β] (a:=(x.a+y.a)*z.a+β*((x.b+y.b)*z.b)) (b:=x.a*z.a+β*(x.b*z.b)+(y.a*z.a+β*(y.b*z.b))) dk)
  (ring [x.a,x.b,y.a,y.b,z.a,z.b] (a:=(x.a+y.a)*z.b+(x.b+y.b)*z.a) (b:=x.a*z.b+x.b*z.a+(y.a*z.b+y.b*z.a)) dk)
 sub_eq x y:=Qx.ext (sub_eq _ _) (sub_eq _ _)
instance crK:CR (Kx ξ) where
 add x y:=⟨x.a+y.a,x.b+y.b,x.c+y.c⟩
 mul x y:=⟨x.a*y.a+ξ*(x.b*y.c+x.c*y.b),x.a*y.b+x.b*y.a+ξ*(x.c*y.c),x.a*y.c+x.b*y.b+x.c*y.a⟩
 neg x:=⟨-x.a,-x.b,-x.c⟩
 sub x y:=⟨x.a-y.a,x.b-y.b,x.c-y.c⟩
 zero:=⟨0,0,0⟩
 one:=⟨1,0,0⟩
 add_assoc x y z:=Kx.ext (add_assoc _ _ _) (add_assoc _ _ _) (add_assoc _ _ _)
 add_comm x y:=Kx.ext (add_comm _ _) (add_comm _ _) (add_comm _ _)
 zero_add x:=Kx.ext (zero_add _) (zero_add _) (zero_add _)
 neg_add x:=Kx.ext (neg_add _) (neg_add _) (neg_add _)
 mul_assoc x y z:=Kx.ext
  (ring [x.a,x.b,x.c,y.a,y.b,y.c,z.a,z.b,z.c,ξ] (a:=(x.a*y.a+ξ*(x.b*y.c+x.c*y.b))*z.a+ξ*((x.a*y.b+x.b*y.a+ξ*(x.c*y.c))*z.c+(x.a*y.c+x.b*y.b+x.c*y.a)*z.b))
   (b:=x.a*(y.a*z.a+ξ*(y.b*z.c+y.c*z.b))+ξ*(x.b*(y.a*z.c+y.b*z.b+y.c*z.a)+x.c*(y.a*z.b+y.b*z.a+ξ*(y.c*z.c)))) dk)
  (ring [x.a,x.b,x.c,y.a,y.b,y.c,z.a,z.b,z.c,ξ] (a:=(x.a*y.a+ξ*(x.b*y.c+x.c*y.b))*z.b+(x.a*y.b+x.b*y.a+ξ*(x.c*y.c))*z.a+ξ*((x.a*y.c+x.b*y.b+x.c*y.a)*z.c))
   (b:=x.a*(y.a*z.b+y.b*z.a+ξ*(y.c*z.c))+x.b*(y.a*z.a+ξ*(y.b*z.c+y.c*z.b))+ξ*(x.c*(y.a*z.c+y.b*z.b+y.c*z.a))) dk)
  (ring [x.a,x.b,x.c,y.a,y.b,y.c,z.a,z.b,z.c,ξ] (a:=(x.a*y.a+ξ*(x.b*y.c+x.c*y.b))*z.c+(x.a*y.b+x.b*y.a+ξ*(x.c*y.c))*z.b+(x.a*y.c+x.b*y.b+x.c*y.a)*z.a)
   (b:=x.a*(y.a*z.c+y.b*z.b+y.c*z.a)+x.b*(y.a*z.b+y.b*z.a+ξ*(y.c*z.c))+x.c*(y.a*z.a+ξ*(y.b*z.c+y.c*z.b))) dk)
 mul_comm x y:=Kx.ext (ring [x.a,x.b,x.c,y.a,y.b,y.c,ξ] (a:=x.a*y.a+ξ*(x.b*y.c+x.c*y.b)) (b:=y.a*x.a+ξ*(y.b*x.c+y.c*x.b)) dk)
  (ring [x.a,x.b,x.c,y.a,y.b,y.c,ξ] (a:=x.a*y.b+x.b*y.a+ξ*(x.c*y.c)) (b:=y.a*x.b+y.b*x.a+ξ*(y.c*x.c)) dk)
  (ring [x.a,x.b,x.c,y.a,y.b,y.c] (a:=x.a*y.c+x.b*y.b+x.c*y.a) (b:=y.a*x.c+y.b*x.b+y.c*x.a) dk)
 one_mul x:=Kx.ext (ring [x.a,x.b,x.c,ξ] (a:=1*x.a+ξ*(0*x.c+0*x.b)) dk) (ring [x.a,x.b,x.c,ξ] (a:=1*x.b+0*x.a+ξ*(0*x.c)) dk) (ring [x.a,x.b,x.c] (a:=1*x.c+0*x.b+0*x.a) dk)
 add_mul x y z:=Kx.ext (ring [x.a,x.b,x.c,y.a,y.b,y.c,z.a,z.b,z.c,ξ] (a:=(x.a+y.a)*z.a+ξ*((x.b+y.b)*z.c+(x.c+y.c)*z.b)) (b:=x.a*z.a+ξ*(x.b*z.c+x.c*z.b)+(y.a*z.a+ξ*(y.b*z.c+y.c*z.b))) dk)
  (ring [x.a,x.b,x.c,y.a,y.b,y.c,z.a,z.b,z.c,ξ] (a:=(x.a+y.a)*z.b+(x.b+y.b)*z.a+ξ*((x.c+y.c)*z.c)) (b:=x.a*z.b+x.b*z.a+ξ*(x.c*z.c)+(y.a*z.b+y.b*z.a+ξ*(y.c*z.c))) dk)
  (ring [x.a,x.b,x.c,y.a,y.b,y.c,z.a,z.b,z.c] (a:=(x.a+y.a)*z.c+(x.b+y.b)*z.b+(x.c+y.c)*z.a) (b:=x.a*z.c+x.b*z.b+x.c*z.a+(y.a*z.c+y.b*z.b+y.c*z.a)) dk)
 sub_eq x y:=Kx.ext (sub_eq _ _) (sub_eq _ _) (sub_eq _ _)
def Qx.conj (x:Qx β):Qx β:=⟨x.a,-x.b⟩
def Qx.nrm (x:Qx β):F:=x.a*x.a-β*(x.b*x.b)
theorem Qx.conj_mul (x y:Qx β):(x*y).conj=x.conj*y.conj :=
 Qx.ext (ring [x.a,x.b,y.a,y.b,β] (a:=x.a*y.a+β*(x.b*y.b)) (b:=x.a*y.a+β*(-x.b*-y.b)) dk) (ring [x.a,x.b,y.a,y.b] (a:=-(x.a*y.b+x.b*y.a)) (b:=x.a*-y.b+-x.b*y.a) dk)
theorem Qx.mul_conj (x:Qx β):x*x.conj=⟨x.nrm,0⟩ :=
 Qx.ext (ring [x.a,x.b,β] (a:=x.a*x.a+β*(x.b*-x.b)) (b:=x.a*x.a-β*(x.b*x.b)) dk) (ring [x.a,x.b] (a:=x.a*-x.b+x.b*x.a) (b:=0) dk)
theorem Qx.nrm_mul (x y:Qx β):(x*y).nrm=x.nrm*y.nrm :=
 ring [x.a,x.b,y.a,y.b,β] (a:=(x.a*y.a+β*(x.b*y.b))*(x.a*y.a+β*(x.b*y.b))-β*((x.a*y.b+x.b*y.a)*(x.a*y.b+x.b*y.a))) (b:=(x.a*x.a-β*(x.b*x.b))*(y.a*y.a-β*(y.b*y.b))) dk
def Kx.adj (x:Kx ξ):Kx ξ:=⟨x.a*x.a-ξ*(x.b*x.c),ξ*(x.c*x.c)-x.a*x.b,x.b*x.b-x.a*x.c⟩
def Kx.nrm (x:Kx ξ):F:=x.a*x.adj.a+ξ*(x.c*x.adj.b+x.b*x.adj.c)
theorem Kx.mul_adj (x:Kx ξ):x*x.adj=⟨x.nrm,0,0⟩ :=
 Kx.ext (ring [x.a,x.b,x.c,ξ] (a:=x.a*(x.a*x.a-ξ*(x.b*x.c))+ξ*(x.b*(x.b*x.b-x.a*x.c)+x.c*(ξ*(x.c*x.c)-x.a*x.b))) (b:=x.a*(x.a*x.a-ξ*(x.b*x.c))+ξ*(x.c*(ξ*(x.c*x.c)-x.a*x.b)+x.b*(x.b*x.b-x.a*x.c))) dk)
  (ring [x.a,x.b,x.c,ξ] (a:=x.a*(ξ*(x.c*x.c)-x.a*x.b)+x.b*(x.a*x.a-ξ*(x.b*x.c))+ξ*(x.c*(x.b*x.b-x.a*x.c))) (b:=0) dk)
  (ring [x.a,x.b,x.c,ξ] (a:=x.a*(x.b*x.b-x.a*x.c)+x.b*(ξ*(x.c*x.c)-x.a*x.b)+x.c*(x.a*x.a-ξ*(x.b*x.c))) (b:=0) dk)
theorem Kx.nrm_mul (x y:Kx ξ):(x*y).nrm=x.nrm*y.nrm :=
 ring [x.a,x.b,x.c,y.a,y.b,y.c,ξ] (a:=(x.a*y.a+ξ*(x.b*y.c+x.c*y.b))*((x.a*y.a+ξ*(x.b*y.c+x.c*y.b))*(x.a*y.a+ξ*(x.b*y.c+x.c*y.b))-ξ*((x.a*y.b+x.b*y.a+ξ*(x.c*y.c))*(x.a*y.c+x.b*y.b+x.c*y.a))) +
  ξ*((x.a*y.c+x.b*y.b+x.c*y.a)*(ξ*((x.a*y.c+x.b*y.b+x.c*y.a)*(x.a*y.c+x.b*y.b+x.c*y.a))-(x.a*y.a+ξ*(x.b*y.c+x.c*y.b))*(x.a*y.b+x.b*y.a+ξ*(x.c*y.c))) +
   (x.a*y.b+x.b*y.a+ξ*(x.c*y.c))*((x.a*y.b+x.b*y.a+ξ*(x.c*y.c))*(x.a*y.b+x.b*y.a+ξ*(x.c*y.c))-(x.a*y.a+ξ*(x.b*y.c+x.c*y.b))*(x.a*y.c+x.b*y.b+x.c*y.a))))
  (b:=(x.a*(x.a*x.a-ξ*(x.b*x.c))+ξ*(x.c*(ξ*(x.c*x.c)-x.a*x.b)+x.b*(x.b*x.b-x.a*x.c)))*(y.a*(y.a*y.a-ξ*(y.b*y.c))+ξ*(y.c*(ξ*(y.c*y.c)-y.a*y.b)+y.b*(y.b*y.b-y.a*y.c)))) dk
end
section
variable {F:Type} [FD F] {β ξ:F}
open FD (inv)
instance decQ:DecidableEq (Qx β):=fun x y=>if h:x.a=y.a∧x.b=y.b then isTrue (Qx.ext h.1 h.2) else isFalse fun e=>h (by rw [e];exact ⟨rfl,rfl⟩)
instance decK:DecidableEq (Kx ξ):=fun x y=>if h:x.a=y.a∧x.b=y.b∧x.c=y.c then isTrue (Kx.ext h.1 h.2.1 h.2.2) else isFalse fun e=>h (by rw [e];exact ⟨rfl,rfl,rfl⟩)
theorem Tx {a b:F} (h:a*b=0):a=0∨b=0:=by
 by_cases e:a=0
 ·exact .inl e
 ·exact .inr (PA e h)
theorem Qx.nrm_ne (hβ:∀ x:F,x*x≠β) {x:Qx β} (h:x.nrm=0):x=⟨0,0⟩:=by
 by_cases hb:x.b=0
 ·have:x.a*x.a=0:=by
   have h':=h;unfold Qx.nrm at h';rw [hb,mul_zero,mul_zero,AX] at h';exact h'
  rcases Tx this with e | e<;>exact Qx.ext e hb
 ·exfalso
  refine hβ (x.a*inv x.b) ?_
  have h':=AX.1 h;have hi:=FD.mul_inv x.b hb
  calc x.a*inv x.b*(x.a*inv x.b)=(x.a*x.a)*(inv x.b*inv x.b):=ring [x.a,inv x.b] dk
   _=β*((x.b*inv x.b)*(x.b*inv x.b)):=by rw [h'];exact ring [x.b,inv x.b,β] dk
   _=β:=by rw [hi,mul_one,mul_one]
def Ty (x:Qx β):Qx β:=⟨x.a*inv x.nrm,-x.b*inv x.nrm⟩
@[reducible] def fdQ (hβ:∀ x:F,x*x≠β):FD (Qx β) where
 inv:=Ty
 mul_inv x h:=by
  have hi:=FD.mul_inv x.nrm fun e=>h (Qx.nrm_ne hβ e)
  exact Qx.ext (Eq.trans (ring [x.a,x.b,inv x.nrm,β] (a:=x.a*(x.a*inv x.nrm)+β*(x.b*(-x.b*inv x.nrm))) (b:=(x.a*x.a-β*(x.b*x.b))*inv x.nrm) dk) hi)
   (ring [x.a,x.b,inv x.nrm] (a:=x.a*(-x.b*inv x.nrm)+x.b*(x.a*inv x.nrm)) (b:=0) dk)
 inv_zero:=Qx.ext (zero_mul _) (by show -(0:F)*_=0;rw [GU,zero_mul])
 one_ne h:=FD.one_ne (F:=F) (gh Qx.a h)
 dec:=decQ
theorem AEu {a b c:F} (hξ:∀ x:F,x*x*x≠ξ) (hc:c≠0) (h1:ξ*(c*c)=a*b) (h2:c*a=b*b):False:=by
 refine hξ (b*inv c) ?_
 have hi:=FD.mul_inv c hc
 calc b*inv c*(b*inv c)*(b*inv c)=(b*b)*b*(inv c*inv c*inv c):=ring [b,inv c] dk
  _=(a*b)*(c*inv c)*(inv c*inv c):=by rw [← h2];exact ring [a,b,c,inv c] dk
  _=ξ*((c*inv c)*(c*inv c)*(c*inv c)):=by rw [← h1];exact ring [c,inv c,ξ] dk
  _=ξ:=by rw [hi,mul_one,mul_one,mul_one]
theorem Kx.smul_zero {d:F} (hd:d≠0) {y:Kx ξ} (h:(⟨d,0,0⟩:Kx ξ)*y=⟨0,0,0⟩):y=⟨0,0,0⟩:=by
 have h1:d*y.a+ξ*(0*y.c+0*y.b)=0:=gh Kx.a h
 have h2:d*y.b+0*y.a+ξ*(0*y.c)=0:=gh Kx.b h
 have h3:d*y.c+0*y.b+0*y.a=0:=gh Kx.c h
 simp only [zero_mul,add_zero,mul_zero] at h1 h2 h3;exact Kx.ext (PA hd h1) (PA hd h2) (PA hd h3)
theorem Kx.lin_zero (hξ:∀ x:F,x*x*x≠ξ) {d e:F} {y:Kx ξ} (h:(⟨d,e,0⟩:Kx ξ)*y=⟨0,0,0⟩) (hde:¬ (d=0∧e=0)):y=⟨0,0,0⟩:=by
 by_cases he:e=0
 ·subst he;exact Kx.smul_zero (fun q=>hde ⟨q,rfl⟩) h
 ·refine Kx.smul_zero (d:=d*d*d+ξ*(e*e*e)) (fun q=>?_) ?_
  ·refine hξ (-d*inv e) ?_
   have hi:=FD.mul_inv e he;have q':d*d*d=-(ξ*(e*e*e)):=JK (by rw [add_comm];exact q)
   calc -d*inv e*(-d*inv e)*(-d*inv e)=-(d*d*d)*(inv e*inv e*inv e):=ring [d,inv e] dk
    _=ξ*((e*inv e)*(e*inv e)*(e*inv e)):=by rw [q'];exact ring [e,inv e,ξ] dk
    _=ξ:=by rw [hi,mul_one,mul_one,mul_one]
  ·have e1:(⟨d*d*d+ξ*(e*e*e),0,0⟩:Kx ξ)=⟨d*d,-(d*e),e*e⟩*⟨d,e,0⟩ :=
    Kx.ext (ring [d,e,ξ] (b:=d*d*d+ξ*(-(d*e)*0+e*e*e)) dk) (ring [d,e,ξ] (a:=0) (b:=d*d*e+-(d*e)*d+ξ*(e*e*0)) dk) (ring [d,e,ξ] (a:=0) (b:=d*d*0+-(d*e)*e+e*e*d) dk)
   rw [e1,mul_assoc,h];exact mul_zero (F:=Kx ξ) _
theorem Kx.mul_zero_of (hξ:∀ x:F,x*x*x≠ξ) {x y:Kx ξ} (h:x*y=⟨0,0,0⟩) (hx:x≠⟨0,0,0⟩):y=⟨0,0,0⟩:=by
 by_cases hc:x.c=0
 ·refine Kx.lin_zero hξ (d:=x.a) (e:=x.b) ?_ fun q=>hx (Kx.ext q.1 q.2 hc)
  have e:(⟨x.a,x.b,0⟩:Kx ξ)=x:=Kx.ext rfl rfl hc.symm
  rw [e];exact h
 ·have e1:(⟨ξ*(x.c*x.c)-x.a*x.b,x.c*x.a-x.b*x.b,0⟩:Kx ξ)=⟨-x.b,x.c,0⟩*x :=
   Kx.ext (ring [x.a,x.b,x.c,ξ] (a:=ξ*(x.c*x.c)-x.a*x.b) (b:=-x.b*x.a+ξ*(x.c*x.c+0*x.b)) dk) (ring [x.a,x.b,x.c,ξ] (a:=x.c*x.a-x.b*x.b) (b:=-x.b*x.b+x.c*x.a+ξ*(0*x.c)) dk)
    (ring [x.a,x.b,x.c] (a:=0) (b:=-x.b*x.c+x.c*x.b+0*x.a) dk)
  refine Kx.lin_zero hξ (d:=ξ*(x.c*x.c)-x.a*x.b) (e:=x.c*x.a-x.b*x.b) ?_ fun q=>AEu hξ hc (AX.1 q.1) (AX.1 q.2)
  rw [e1,mul_assoc,h];exact mul_zero (F:=Kx ξ) _
theorem Kx.nrm_ne (hξ:∀ x:F,x*x*x≠ξ) {x:Kx ξ} (h:x.nrm=0):x=⟨0,0,0⟩:=by
 by_cases hx:x=⟨0,0,0⟩
 ·exact hx
 ·exfalso
  have hm:=x.mul_adj;rw [h] at hm;have ha:=Kx.mul_zero_of hξ hm hx;have h2:ξ*(x.c*x.c)-x.a*x.b=0:=gh Kx.b ha
  have h3:x.b*x.b-x.a*x.c=0:=gh Kx.c ha
  have h1:x.a*x.a-ξ*(x.b*x.c)=0:=gh Kx.a ha
  by_cases hc:x.c=0
  ·rw [hc,mul_zero,mul_zero,AX] at h1;rw [hc,mul_zero,AX] at h3;exact hx (Kx.ext ((Tx h1).elim id id) ((Tx h3).elim id id) hc)
  ·exact AEu hξ hc (AX.1 h2) (by rw [mul_comm];exact (AX.1 h3).symm)
def rP (x:Kx ξ):Kx ξ:=⟨x.adj.a*inv x.nrm,x.adj.b*inv x.nrm,x.adj.c*inv x.nrm⟩
theorem AEv (x:Kx ξ):rP x=x.adj*⟨inv x.nrm,0,0⟩ :=
 Kx.ext (ring [x.adj.a,x.adj.b,x.adj.c,inv x.nrm,ξ] (a:=x.adj.a*inv x.nrm) (b:=x.adj.a*inv x.nrm+ξ*(x.adj.b*0+x.adj.c*0)) dk) (ring [x.adj.a,x.adj.b,x.adj.c,inv x.nrm,ξ] (a:=x.adj.b*inv x.nrm) (b:=x.adj.a*0+x.adj.b*inv x.nrm+ξ*(x.adj.c*0)) dk)
  (ring [x.adj.a,x.adj.b,x.adj.c,inv x.nrm] (a:=x.adj.c*inv x.nrm) (b:=x.adj.a*0+x.adj.b*0+x.adj.c*inv x.nrm) dk)
@[reducible] def fdK (hξ:∀ x:F,x*x*x≠ξ):FD (Kx ξ) where
 inv:=rP
 mul_inv x h:=by
  have hi:=FD.mul_inv x.nrm fun e=>h (Kx.nrm_ne hξ e)
  rw [AEv,← mul_assoc,x.mul_adj];exact Kx.ext (Eq.trans (ring [x.nrm,inv x.nrm,ξ] (a:=x.nrm*inv x.nrm+ξ*(0*0+0*0)) (b:=x.nrm*inv x.nrm) dk) hi) (ring [x.nrm,inv x.nrm,ξ] (a:=x.nrm*0+0*inv x.nrm+ξ*(0*0)) (b:=0) dk) (ring [x.nrm,inv x.nrm] (a:=x.nrm*0+0*0+0*inv x.nrm) (b:=0) dk)
 inv_zero:=by
  have h0:(0:Kx ξ).adj=0:=Kx.ext (ring [ξ] (a:=0*0-ξ*(0*0)) (b:=(0:F)) dk) (ring [ξ] (a:=ξ*(0*0)-0*0) (b:=(0:F)) dk) (ring [ξ] (a:=0*0-0*0) (b:=(0:F)) dk)
  rw [AEv,h0,zero_mul]
 one_ne h:=FD.one_ne (F:=F) (gh Kx.a h)
 dec:=decK
end
end Go.Proofs.YtgnajdcdcblaoaaGreat.Rg
namespace Go.Proofs.YtgnajdcdcblaoaaGreat
open Ex Num
abbrev FP:Type:=Fin pN
theorem B7 (a:FP):tf a.val=a:=by
 rw [mi];show a.val % pN=a.val;exact ge a.isLt
theorem GW {x:Nat} (h:x<pN):(tf x).val=x:=ge h
theorem PD {x:Nat} {a:FP} (hx:x<pN) (h:tf x=a):x=a.val:=by rw [← h,GW hx]
noncomputable def NI (a:FP):FP:=tf (Bk a.val)
theorem ATk {a:FP} (h:a≠0):a*NI a=1:=by
 have hz:a.val % pN≠0:=fun e=>h (by
  have:=Z8.2 e
  rwa [B7] at this)
 have:=ADT hz
 rwa [B7] at this
theorem ATl:NI 0=0:=by
 unfold NI;have:Bk (0:FP).val=0:=ADS rfl
 rw [this];exact tf_zero
theorem ATm:(1:FP)≠0:=fun h=>by
 have:=NA (show 1<pN by decide) Cs (by rw [DS,tf_zero];exact h)
 cases this
noncomputable instance fdFP:Rg.FD FP where
 add_assoc a b c:=by grind
 add_comm a b:=by grind
 zero_add a:=by grind
 neg_add a:=by grind
 mul_assoc a b c:=by grind
 mul_comm a b:=by grind
 one_mul a:=by grind
 add_mul a b c:=by grind
 sub_eq a b:=by grind
 inv:=NI
 mul_inv a h:=ATk h
 inv_zero:=ATl
 one_ne:=ATm
 dec:=inferInstance
theorem ATn:(Rg.int 2:FP)=1+1:=by
 show (0:FP)+1+1=1+1
 grind
def rS (m:Nat):Bool:=Nat.beq (O0 pN (pN-m) 384 ((pN-1) / 3)) 1
theorem ATo:rS 4=false:=dk
theorem p3:(pN-1) / 3*3=pN-1:=dk
theorem rT:Nat.blt ((pN-1) / 3) RR=true:=dk
theorem ATp {m:Nat} (hm:m<pN) (h0:0<m) (hc:rS m=false) (x:Nat):(x^3+m) % pN≠0:=by
 intro h;have hx:x^3 % pN=pN-m:=by
  have h1:=HF (x^3)
  rw [kv,ge hm] at h;have h2:x^3 % pN+m=pN:=by
   have hd:=od h;obtain ⟨k,hk⟩:=hd;have:k=1:=by
    rcases gt k 1 with q | q
    ·rw [show k=0 by omega,je] at hk;omega
    ·rcases gt k 2 with q2 | q2
     ·omega
     ·have:=j_ pN q2
      omega
   rw [this,g_] at hk;exact hk
  omega
 have hnd:¬ pN∣x:=fun hd=>by
  obtain ⟨k,hk⟩:=hd;have:x^3 % pN=0:=by rw [hk,Nat.mul_pow,ip,gw (pN^2),iw,Nat.mul_mod_right]
  omega
 have hf:=Qk pN_prime hnd;rw [← p3,gw,mf,kq,hx,← oT pN 384 (pN-m) ((pN-1) / 3) (by rw [ACo];exact BP.1 rT)] at hf
 unfold rS at hc;rw [hf] at hc;cases hc
noncomputable def DL:FP:=tf 4
noncomputable def C1:Rg.Cv FP where
 b:=DL
 two:=by
  rw [ATn];have h2:tf 2=1+1:=by rw [← DS,← F7]
  rw [← h2];intro h;have:=NA (show 2<pN by decide) Cs (by rw [h,tf_zero])
  cases this
 no2:=fun x y h hy=>by
  subst hy;have h1:x*x*x+DL=0:=by
   rw [← h]
   grind
  have h2:tf (x.val^3+4)=0:=by
   rw [F7,ip,ip,Nat.pow_one,O6,O6,B7];exact h1
  exact ATp dm dm ATo x.val (Z8.1 h2)
open Ex Num Rg
def Bj (x y:Nat) (i:Bool):AV:=.val true [.num 6 x,.num 6 y,.v (.bool i)]
def Tz (cs:List Ch):Option (Nat×Nat×Bool):=match FO cs 6 with
 | some (a,r)=>match FO r 6 with
  | some (b,[c])=>match C0 6 a,C0 6 b,E8 (some (.val false [c])) with
   | some x,some y,some (_,i)=>some (x,y,i)
   | _,_,_=>none
  | _=>none
 | none=>none
theorem HT {β β':Env} {cs:List Ch} {x y:Nat} {i:Bool} {u:Value} (h:Tz cs=some (x,y,i)) (hr:AL β (.val true cs) u):AL β' (Bj x y i) u∧x<RR∧y<RR:=by
 unfold Tz at h;split at h;case h_2=>cases h
 rename_i a r h1;split at h;case h_2=>cases h
 rename_i b c h2;split at h;case h_2=>cases h
 rename_i x' y' c0 i' h3 h4 h5;injection h with h;injection h with e1 h;injection h with e2 e3;subst e1;subst e2;subst e3;obtain ⟨l,hl,rfl⟩:=hr;obtain ⟨q1,q2,q3⟩:=IP h1 hl;obtain ⟨r1,r2,r3⟩:=IP h2 q2;obtain ⟨ea,la⟩:=G' h3 q1;obtain ⟨eb,lb⟩:=G' h4 r1;obtain ⟨l1,l2,hc1,hc2,hc3⟩:=r2;simp only [AO] at hc2;subst hc2;have hlen:=P7 hc1;have hsz:EV c=1:=by
  unfold E8 at h5;split at h5
  ·rename_i _ _ hq;injection hq with hq;injection hq with _ hq;injection hq with hq _;rw [hq];rfl
  ·rename_i _ _ hq;injection hq with hq;injection hq with _ hq;injection hq with hq _;rw [hq];rfl
  ·cases h5
 rw [hsz] at hlen;obtain ⟨w,rfl⟩:=pq.1 hlen;have hw:w=.bool i':=J7 (β:=β) (u:=w) (fun A hA=>by injection hA with hA;subst hA;exact ⟨[w],[],hc1,rfl,rfl⟩) h5
 subst hw;rw [C9];refine ⟨⟨l,⟨_,_,⟨la,rfl⟩,⟨_,_,⟨lb,rfl⟩,⟨[.bool i'],[],⟨rfl,rfl,trivial⟩,rfl,rfl⟩,rfl⟩,?_⟩,rfl⟩,la,lb⟩
 rw [← ea,← eb,← hc3,kj,kj]
def Aj (x y:Nat) (i:Bool):Pt FP:=match i with
 | true=>.inf
 | false=>.pt (tf x) (tf y)
def DV:Pt FP→Nat
 | .inf=>0
 | .pt a _=>a.val
def B8:Pt FP→Nat
 | .inf=>0
 | .pt _ b=>b.val
def BE:Pt FP→Bool
 | .inf=>true
 | .pt _ _=>false
def GX (P:Pt FP):AV:=Bj (DV P) (B8 P) (BE P)
theorem XH (P:Pt FP):DV P<pN:=by cases P with | inf=>exact Cs | pt a b=>exact a.isLt
theorem bD (P:Pt FP):B8 P<pN:=by cases P with | inf=>exact Cs | pt a b=>exact b.isLt
theorem T3 (P:Pt FP):Aj (DV P) (B8 P) (BE P)=P:=by
 cases P with
 | inf=>rfl
 | pt a b=>show Pt.pt (tf a.val) (tf b.val)=_;rw [B7,B7]
theorem ATq (x y:Nat):GX (.pt (tf x) (tf y))=Bj (x % pN) (y % pN) false:=rfl
theorem rU {x y:Nat} {a b:FP} (hx:x<pN) (hy:y<pN) (ha:tf x=a) (hb:tf y=b):Bj x y false=GX (.pt a b):=by
 rw [← ha,← hb,ATq,ge hx,ge hy]
theorem NJ {P:Program} {f:FuncId} {args:List AV} {cs:List Ch} {x y:Nat} {i:Bool} (h:AS P f args (.val true cs)) (hc:Tz cs=some (x,y,i)):AS P f args (Bj x y i):=CW h fun _ hu=>(HT hc hu).1
def NK (g:Pt FP→AV):List AV→Option AV
 | [.val true a]=>match Tz a with
  | some (x,y,i)=>some (g (Aj x y i))
  | none=>none
 | _=>none
theorem Q0 {f:FuncId} {g:Pt FP→AV} (h:∀ x y i,AS dn f [Bj x y i] (g (Aj x y i))):∀ args v,NK g args=some v→AS dn f args v:=by
 intro args v hs us w ha;unfold NK at hs;split at hs;case h_2=>cases hs
 rename_i a;split at hs;case h_2=>cases hs
 rename_i x y i hx;injection hs with hs;subst hs;obtain ⟨u1,us1,r1,ha,rfl⟩:=ha;exact h x y i _ w ⟨u1,_,(HT hx r1).1,ha,rfl⟩
theorem ATr:AK dn (AG S0 K0) Tryz.f139 [] [] 100=some ([],.val true [.n .u64 4,.n .u64 0,.n .u64 0,.n .u64 0,.n .u64 0,.n .u64 0]):=dk
theorem ATs:AS dn 139 [] (AY 4):=CW (AN (AH Ht Ab) AB Tryz.func139 ATr trivial rfl) fun u hu=>WU dk hu
def gX:Nat:=0x17f1d3a73197d7942695638c4fa9ac0fc3688c4f9774b905a14e3a3f171bac586c55e83ff97a1aeffb3af00adb22c6bb
def gY:Nat:=0x08b3f481e3aaa0f1a09e30ed741d8ae4fcf5e095d5d00af600db18cb2c04b3edd03cc744a2888ae40caa232946c5e7e1
def gC:List Ch:=[.n .u64 0xfb3af00adb22c6bb,.n .u64 0x6c55e83ff97a1aef,.n .u64 0xa14e3a3f171bac58,.n .u64 0xc3688c4f9774b905,.n .u64 0x2695638c4fa9ac0f,.n .u64 0x17f1d3a73197d794,
 .n .u64 0xcaa232946c5e7e1,.n .u64 0xd03cc744a2888ae4,.n .u64 0xdb18cb2c04b3ed,.n .u64 0xfcf5e095d5d00af6,.n .u64 0xa09e30ed741d8ae4,.n .u64 0x8b3f481e3aaa0f1,.b false]
theorem ATt:AK dn (AG S0 K0) Tryz.f24 [] [] 100=some ([],.val true gC):=dk
def G1B:Pt FP:=.pt (tf gX) (tf gY)
theorem ATu:Nat.blt gX pN=true:=dk
theorem ATv:Nat.blt gY pN=true:=dk
theorem AEw:Bj gX gY false=GX G1B:=rU (BP.1 ATu) (BP.1 ATv) rfl rfl
theorem ATw:AS dn 24 [] (GX G1B):=by
 rw [← AEw];exact NJ (AN (AH Ht Ab) AB Tryz.func24 ATt trivial rfl) dk
def F' (i:Bool):List Ch:=[.n .u64 0,.n .u64 0,.n .u64 0,.n .u64 0,.n .u64 0,.n .u64 0,.n .u64 0,.n .u64 0,.n .u64 0,.n .u64 0,.n .u64 0,.n .u64 0,.b i]
theorem ATx (x y:Nat) (i:Bool):AK dn (AG SE K0) Tryz.f49 [Bj x y i] dw 300=some ([(i,true)],.val true (F' true)):=dk
theorem ATy (x y:Nat) (i:Bool):AK dn (AG SE K0) Tryz.f49 [Bj x y i] du 300=some ([(i,false)],.val true [.num 6 (x % pN),.num 6 (y % pN),.b false]):=dk
theorem ATz (x y:Nat) (i:Bool):AS dn 49 [Bj x y i] (GX (Aj x y i)):=by
 cases i with
 | true=>exact NJ (AN (AH rF Ab) AB Tryz.func49 (ATx x y true) ⟨rfl,trivial⟩ rfl) dk
 | false=>exact NJ (AN (AH rF Ab) AB Tryz.func49 (ATy x y false) ⟨rfl,trivial⟩ rfl) dk
noncomputable def SG0:dt:=(139,AZ fun args=>match args with | []=>some (AY 4) | _=>none)::(24,AZ fun args=>match args with | []=>some (GX G1B) | _=>none)::(49,AZ (NK GX))::SE
theorem bG:AT dn SG0:=⟨Aa Tryz.func139 dk dk (QZ ATs fun u h=>h),Aa Tryz.func24 dk dk (QZ ATw fun u h=>h),Aa Tryz.func49 dk dk (Q0 ATz),rF⟩
theorem AEx {n:Nat} (h:n<pN):tf (Bk n)=NI (tf n):=by unfold NI;rw [GW h]
theorem XI {b:FP}:b.val=0↔b=0:=by rw [mi];exact Iff.rfl
theorem AT0 (x y:Nat) (i:Bool):AK dn (AG SG0 K0) Tryz.f78 [Bj x y i] [] 300=some ([],Bj (DV (Aj x y i)) (Ct (B8 (Aj x y i))) (BE (Aj x y i))):=dk
theorem AT1 (P:Pt FP):Bj (DV P) (Ct (B8 P)) (BE P)=GX (Rg.neg P):=by
 cases P with
 | inf =>
  have:Ct 0=0:=AO6 rfl
  show Bj 0 (Ct 0) true=Bj 0 0 true;rw [this]
 | pt a b=>exact rU a.isLt (Zr _) (B7 a) (by rw [Z6];show -tf b.val=_;rw [B7])
theorem AT2 (x y:Nat) (i:Bool):AS dn 78 [Bj x y i] (GX (Rg.neg (Aj x y i))):=by
 rw [← AT1];exact AN (AH bG Ab) AB Tryz.func78 (AT0 x y i) trivial rfl
noncomputable def A6:Pt FP→Bool
 | .inf=>true
 | .pt a b=>decide (b*b=a*a*a+DL)
theorem KX (P:Pt FP):A6 P=true↔Rg.On C1.b P:=by
 cases P with
 | inf=>exact ⟨fun _=>trivial,fun _=>rfl⟩
 | pt a b=>exact decide_eq_true_iff
theorem AT3 (x y:Nat) (i:Bool):AK dn (AG SG0 K0) Tryz.f64 [Bj x y i] dw 300=some ([(i,true)],.val false [.b true]):=dk
theorem AT4 (x y:Nat) (i:Bool):AK dn (AG SG0 K0) Tryz.f64 [Bj x y i] du 300=some ([(i,false)],Au (decide (Af y y=D0 (Af (Af x x) x) 4))):=dk
theorem rV (x y:Nat):decide (Af y y=D0 (Af (Af x x) x) 4)=A6 (Aj x y false):=by
 have e:(Af y y=D0 (Af (Af x x) x) 4)↔(tf y*tf y=tf x*tf x*tf x+DL):=by
  constructor
  ·intro h;have:=gh tf h
   simpa [CH,JI,DL] using this
  ·intro h;exact NA (Ll _ _) (Z7 _ _) (by simpa [CH,JI,DL] using h)
 show _=decide (tf y*tf y=tf x*tf x*tf x+DL);by_cases h:Af y y=D0 (Af (Af x x) x) 4
 ·rw [fu h,fu (e.1 h)]
 ·rw [ga h,ga fun q=>h (e.2 q)]
theorem AT5 (x y:Nat) (i:Bool):AS dn 64 [Bj x y i] (Au (A6 (Aj x y i))):=by
 cases i with
 | true=>exact CW (AN (AH bG Ab) AB Tryz.func64 (AT3 x y true) ⟨rfl,trivial⟩ rfl) fun u hu=>In rfl hu
 | false=>rw [← rV];exact AN (AH bG Ab) AB Tryz.func64 (AT4 x y false) ⟨rfl,trivial⟩ rfl
noncomputable def SG1:dt:=(78,AZ (NK fun P=>GX (Rg.neg P)))::(64,AZ (NK fun P=>Au (A6 P)))::SG0
theorem AEy:AT dn SG1:=⟨Aa Tryz.func78 dk dk (Q0 AT2),Aa Tryz.func64 dk dk (Q0 AT5),bG⟩
def DM (x y z:Nat):AV:=.val true [.num 6 x,.num 6 y,.num 6 z]
def JN (j:J FP):AV:=DM j.x.val j.y.val j.z.val
def Bs (x y z:Nat):J FP:=⟨tf x,tf y,tf z⟩
def Q1 (cs:List Ch):Option (Nat×Nat×Nat):=match FO cs 6 with
 | some (a,r)=>match FO r 6 with
  | some (b,c)=>match C0 6 a,C0 6 b,C0 6 c with
   | some x,some y,some z=>some (x,y,z)
   | _,_,_=>none
  | _=>none
 | none=>none
theorem T4 {β β':Env} {cs:List Ch} {x y z:Nat} {u:Value} (h:Q1 cs=some (x,y,z)) (hr:AL β (.val true cs) u):AL β' (DM x y z) u:=by
 unfold Q1 at h;split at h;case h_2=>cases h
 rename_i a r h1;split at h;case h_2=>cases h
 rename_i b c h2;split at h;case h_2=>cases h
 rename_i x' y' z' h3 h4 h5;injection h with h;injection h with e1 h;injection h with e2 e3;subst e1;subst e2;subst e3;obtain ⟨l,hl,rfl⟩:=hr;obtain ⟨q1,q2,q3⟩:=IP h1 hl;obtain ⟨r1,r2,r3⟩:=IP h2 q2;obtain ⟨ea,la⟩:=G' h3 q1;obtain ⟨eb,lb⟩:=G' h4 r1;obtain ⟨ec,lc⟩:=G' h5 r2;refine ⟨l,⟨_,_,⟨la,rfl⟩,⟨_,_,⟨lb,rfl⟩,⟨_,[],⟨lc,rfl⟩,rfl,rfl⟩,rfl⟩,?_⟩,rfl⟩
 rw [← ea,← eb,← ec,iq,kj,kj]
theorem PE {x y z:Nat} {j:J FP} (hx:x<pN) (hy:y<pN) (hz:z<pN) (ex:tf x=j.x) (ey:tf y=j.y) (ez:tf z=j.z):DM x y z=JN j:=by
 unfold JN;rw [← PD hx ex,← PD hy ey,← PD hz ez]
def nE (x:Nat):Nat:=D0 (D0 (Af x x) (Af x x)) (Af x x)
def nD (x y:Nat):Nat:=D0 (D0 (Af x (Af y y)) (Af x (Af y y))) (D0 (Af x (Af y y)) (Af x (Af y y)))
def rZ (y:Nat):Nat:=D0 (Af (Af y y) (Af y y)) (Af (Af y y) (Af y y))
def r7 (y:Nat):Nat:=D0 (rZ y) (rZ y)
def nC8 (y:Nat):Nat:=D0 (r7 y) (r7 y)
def nX (x y:Nat):Nat:=EB (Af (nE x) (nE x)) (D0 (nD x y) (nD x y))
def nY (x y:Nat):Nat:=EB (Af (nE x) (EB (nD x y) (nX x y))) (nC8 y)
theorem AT6 (x y z:Nat):AK dn (AG SG1 K0) Tryz.f94 [DM x y z] [] 500=some ([],DM (nX x y) (nY x y) (D0 (Af y z) (Af y z))):=dk
theorem AE0 (x y:Nat):tf (nX x y)=jX (tf x) (tf y):=by
 unfold nX nE nD jX jE jD;simp only [HM,CH,JI]
theorem AT7 (x y:Nat):tf (nY x y)=jE (tf x)*(jD (tf x) (tf y)-jX (tf x) (tf y))-Tu (tf y):=by
 unfold nY;rw [HM,CH,HM,AE0];unfold nE nD nC8 r7 rZ jE jD Tu bC jC2;simp only [CH,JI]
theorem AT8 (x y z:Nat):AS dn 94 [DM x y z] (JN (Bl (Bs x y z))):=by
 rw [← PE (j:=Bl (Bs x y z)) (HN _ _) (HN _ _) (Z7 _ _) (AE0 x y) (AT7 x y) (by rw [JI,CH];rfl)]
 exact AN (AH AEy Ab) AB Tryz.func94 (AT6 x y z) trivial rfl
def bH (g:J FP→AV):List AV→Option AV
 | [.val true a]=>match Q1 a with
  | some (x,y,z)=>some (g (Bs x y z))
  | none=>none
 | _=>none
theorem AE1 {f:FuncId} {g:J FP→AV} (h:∀ x y z,AS dn f [DM x y z] (g (Bs x y z))):∀ args v,bH g args=some v→AS dn f args v:=by
 intro args v hs us w ha;unfold bH at hs;split at hs;case h_2=>cases hs
 rename_i a;split at hs;case h_2=>cases hs
 rename_i x y z hx;injection hs with hs;subst hs;obtain ⟨u1,us1,r1,ha,rfl⟩:=ha;exact h x y z _ w ⟨u1,_,T4 hx r1,ha,rfl⟩
noncomputable def SG2:dt:=(94,AZ (bH fun j=>JN (Bl j)))::SG1
theorem PF:AT dn SG2:=⟨Aa Tryz.func94 dk dk (AE1 AT8),AEy⟩
def nH (x z a:Nat):Nat:=EB (Af a (Af z z)) x
def nR (y z b:Nat):Nat:=EB (Af b (Af (Af z z) z)) y
def NL (x h r:Nat):Nat:=EB (EB (Af r r) (Af (Af h h) h)) (D0 (Af x (Af h h)) (Af x (Af h h)))
def T5 (x y h r:Nat):Nat:=EB (Af r (EB (Af x (Af h h)) (NL x h r))) (Af y (Af (Af h h) h))
section
variable (x y z a b:Nat) (i:Bool)
theorem AT9:AK dn (AG SG2 K0) Tryz.f95 [DM x y z,Bj a b i] dw 500=some ([(decide (z=0),true)],.val true (.num 6 a::.num 6 b::qZ)):=dk
theorem AT_:AK dn (AG SG2 K0) Tryz.f95 [DM x y z,Bj a b i] ew 500=some ([(decide (z=0),false),(decide (nH x z a=0),true),(decide (nR y z b=0),true)],JN (Bl (Bs x y z))):=dk
theorem AT':AK dn (AG SG2 K0) Tryz.f95 [DM x y z,Bj a b i] [false,true,false,true] 500=some ([(decide (z=0),false),(decide (nH x z a=0),true),(decide (nR y z b=0),false),(decide (nH x z a=0),true)],.val true (List.replicate 18 (.n .u64 0))):=dk
theorem AUA:AK dn (AG SG2 K0) Tryz.f95 [DM x y z,Bj a b i] fb 500=some ([(decide (z=0),false),(decide (nH x z a=0),false),(decide (nH x z a=0),false)],DM (NL x (nH x z a) (nR y z b)) (T5 x y (nH x z a) (nR y z b)) (Af z (nH x z a))):=dk
end
theorem AE2 (x y z a:Nat):tf (nH x z a)=pH (Bs x y z) (tf a):=by unfold nH pH Bs;simp only [HM,CH]
theorem AE3 (x y z b:Nat):tf (nR y z b)=pR (Bs x y z) (tf b):=by unfold nR pR Bs;simp only [HM,CH]
theorem L4 {n:Nat} (h:n<pN):n=0↔tf n=0:=by
 constructor
 ·rintro rfl;exact tf_zero
 ·intro e;exact NA h Cs (e.trans tf_zero.symm)
theorem bI {P:Program} {f:FuncId} {args:List AV} {cs:List Ch} {x y z:Nat} (h:AS P f args (.val true cs)) (hc:Q1 cs=some (x,y,z)):AS P f args (DM x y z):=CW h fun _ hu=>T4 hc hu
theorem AUB {x y z a b:Nat} {i:Bool} (hz:z<pN) (ha:a<pN) (hb:b<pN):AS dn 95 [DM x y z,Bj a b i] (JN (FF (Bs x y z) (tf a) (tf b))):=by
 have eh:=AE2 x y z a;have er:=AE3 x y z b;have zh:=L4 (n:=nH x z a) (HN _ _)
 have zr:=L4 (n:=nR y z b) (HN _ _)
 rw [eh] at zh;rw [er] at zr;unfold FF;by_cases h0:z=0
 ·rw [fw (show (Bs x y z).z=0 from (L4 hz).1 h0),← PE (j:=⟨tf a,tf b,1⟩) ha hb (show 1<pN by decide) rfl rfl DS]
  exact bI (AN (AH PF Ab) AB Tryz.func95 (AT9 x y z a b i) ⟨fu h0,trivial⟩ rfl) rfl
 ·rw [fv (show ¬ (Bs x y z).z=0 from fun e=>h0 ((L4 hz).2 e))]
  by_cases hh:nH x z a=0
  ·rw [fw (zh.1 hh)];by_cases hr:nR y z b=0
   ·rw [fw (zr.1 hr)];exact AN (AH PF Ab) AB Tryz.func95 (AT_ x y z a b i) ⟨ga h0,fu hh,fu hr,trivial⟩ rfl
   ·rw [fv (fun e=>hr (zr.2 e)),← PE (j:=⟨0,0,0⟩) Cs Cs Cs tf_zero tf_zero tf_zero]
    exact bI (AN (AH PF Ab) AB Tryz.func95 (AT' x y z a b i) ⟨ga h0,fu hh,ga hr,fu hh,trivial⟩ rfl) dk
  ·rw [fv (fun e=>hh (zh.2 e)),← PE (j:=⟨pX (Bs x y z).x (pH (Bs x y z) (tf a)) (pR (Bs x y z) (tf b)),pY (Bs x y z).x (Bs x y z).y (pH (Bs x y z) (tf a)) (pR (Bs x y z) (tf b)),(Bs x y z).z*pH (Bs x y z) (tf a)⟩)
    (x:=NL x (nH x z a) (nR y z b)) (y:=T5 x y (nH x z a) (nR y z b)) (z:=Af z (nH x z a)) (HN _ _) (HN _ _) (Ll _ _) ?_ ?_ ?_]
   ·exact AN (AH PF Ab) AB Tryz.func95 (AUA x y z a b i) ⟨ga h0,ga hh,ga hh,trivial⟩ rfl
   ·unfold NL pX;simp only [HM,CH,JI,eh,er];rfl
   ·unfold T5 NL pY pX;simp only [HM,CH,JI,eh,er];rfl
   ·rw [CH,eh];rfl
noncomputable def T6:List AV→Option (dr×AV)
 | [.val true a,.val true b]=>match Q1 a,Tz b with
  | some (x,y,z),some (p,q,_)=>some ([(decide (z<pN),true),(decide (p<pN),true),(decide (q<pN),true)],JN (FF (Bs x y z) (tf p) (tf q)))
  | _,_=>none
 | _=>none
theorem AUC:∀ args c v,T6 args=some (c,v)→AM c→AS dn 95 args v:=by
 intro args c v hs hc us w ha;unfold T6 at hs;split at hs;case h_2=>cases hs
 rename_i a b;split at hs;case h_2=>cases hs
 rename_i x y z p q i hx hy;injection hs with hs;injection hs with h1 h2;subst h1;subst h2;obtain ⟨u1,us1,r1,⟨u2,us2,r2,ha,rfl⟩,rfl⟩:=ha;exact AUB (gv hc.1) (gv hc.2.1) (gv hc.2.2.1) _ w ⟨u1,_,T4 hx r1,⟨u2,_,(HT hy r2).1,ha,rfl⟩,rfl⟩
def KG:List (TypeId×List (Option IntKind)):=(119,List.replicate 18 (some .u64))::K0
theorem DH:Lb dn KG:=⟨⟨dk,dk,dk⟩,Ab⟩
def z3 (x y z:Nat):Bool:=decide (x=0)&&(decide (y=0)&&decide (z=0))
theorem AUD (x y z:Nat):AK dn (AG SG2 KG) Tryz.f96 [DM x y z] dw 500=some ([(z3 x y z,true)],.val true (F' true)):=dk
theorem AUE (x y z:Nat):AK dn (AG SG2 KG) Tryz.f96 [DM x y z] dz 500=some ([(z3 x y z,false),(decide (z=0),true)],.val true (F' true)):=dk
theorem AUF (x y z:Nat):AK dn (AG SG2 KG) Tryz.f96 [DM x y z] d_ 500=some ([(z3 x y z,false),(decide (z=0),false)],.val true [.num 6 (Af x (Af (Bk z) (Bk z))),.num 6 (Af y (Af (Af (Bk z) (Bk z)) (Bk z))),.b false]):=dk
theorem AUG {x y z:Nat} (hz:z<pN):AS dn 96 [DM x y z] (GX (B5 (Bs x y z))):=by
 by_cases h0:z=0
 ·rw [F_ (j:=Bs x y z) ((L4 hz).1 h0)];cases h3:z3 x y z with
  | true=>exact NJ (AN (AH PF DH) AB Tryz.func96 (AUD x y z) ⟨h3,trivial⟩ rfl) dk
  | false=>exact NJ (AN (AH PF DH) AB Tryz.func96 (AUE x y z) ⟨h3,fu h0,trivial⟩ rfl) dk
 ·have h3:z3 x y z=false:=by unfold z3;rw [ga h0,kc,kc]
  rw [Hz (j:=Bs x y z) (fun e=>h0 ((L4 hz).2 e))]
  have ei:tf (Bk z)=FD.inv (tf z):=AEx hz
  rw [← rU (x:=Af x (Af (Bk z) (Bk z))) (y:=Af y (Af (Af (Bk z) (Bk z)) (Bk z))) (Ll _ _) (Ll _ _) (by rw [CH,CH,ei];rfl) (by rw [CH,CH,CH,ei];rfl)]
  exact NJ (AN (AH PF DH) AB Tryz.func96 (AUF x y z) ⟨h3,ga h0,trivial⟩ rfl) rfl
noncomputable def r9:List AV→Option (dr×AV)
 | [.val true a]=>match Q1 a with
  | some (x,y,z)=>some ([(decide (z<pN),true)],GX (B5 (Bs x y z)))
  | _=>none
 | _=>none
theorem AUH:∀ args c v,r9 args=some (c,v)→AM c→AS dn 96 args v:=by
 intro args c v hs hc us w ha;unfold r9 at hs;split at hs;case h_2=>cases hs
 rename_i a;split at hs;case h_2=>cases hs
 rename_i x y z hx;injection hs with hs;injection hs with h1 h2;subst h1;subst h2;obtain ⟨u1,us1,r1,ha,rfl⟩:=ha;exact AUG (gv hc.1) _ w ⟨u1,_,T4 hx r1,ha,rfl⟩
noncomputable def SG3:dt:=(95,Ez T6)::(96,Ez r9)::SG2
theorem Q2:AT dn SG3:=⟨Ft Tryz.func95 dk dk AUC,Ft Tryz.func96 dk dk AUH,PF⟩
theorem AE4 {H0:Heap} {k b:Nat} {blk blk' x:Blk} (h:AF (H0++[(k,some blk')]) b=some x):AF (H0++[(k,some blk)]) b=some x∨(x=blk'∧AF (H0++[(k,some blk)]) b=some blk):=by
 induction H0 with
 | nil =>
  simp only [lh,AF] at h ⊢;cases e:Nat.beq k b with
  | true=>rw [e] at h;injection h with h;exact .inr ⟨h.symm,rfl⟩
  | false=>rw [e] at h;cases h
 | cons y r ih =>
  obtain ⟨j,z⟩:=y;simp only [kx,AF] at h ⊢;cases e:Nat.beq j b with
  | true=>rw [e] at h;exact .inl h
  | false=>rw [e] at h;exact ih h
theorem AE5 {β:Env} {ty:TypeId} {cs cs':List Ch} {o:Bool} {k:Nat} {w:World} (h:∀ β l,AO β cs l→AO β cs' l) (hr:DN β ⟨ty,cs,o⟩ k w):DN β ⟨ty,cs',o⟩ k w:=by
 rcases hr with ⟨B,n,l,t,pre,ty',fz,q1,q2,q3⟩ | ⟨X,q1,q2,q3⟩ | ⟨B,l,es,q,q1,q2,q3,q4⟩
 ·exact .inl ⟨B,n,l,t,pre,ty',fz,q1,h _ _ q2,q3⟩
 ·exact .inr (.inl ⟨X,q1,by cases X<;>exact q2,h _ _ q3⟩)
 ·exact .inr (.inr ⟨B,l,es,q,q1,q2,h _ _ q3,q4⟩)
theorem AUI {β:Env} {H0:Heap} {k:Nat} {ty:TypeId} {cs cs':List Ch} {o:Bool} {w:World} (h:∀ β l,AO β cs l→AO β cs' l) (g:Ex.Good β (H0++[(k,some ⟨ty,cs,o⟩)]) w):Ex.Good β (H0++[(k,some ⟨ty,cs',o⟩)]) w:=by
 have hs:∀ b x,AF (H0++[(k,some ⟨ty,cs',o⟩)]) b=some x→∃ y,AF (H0++[(k,some ⟨ty,cs,o⟩)]) b=some y∧y.ty=x.ty:=fun b x hb=>by
  rcases AE4 (blk:=⟨ty,cs,o⟩) hb with e | ⟨rfl,e⟩
  ·exact ⟨x,e,rfl⟩
  ·exact ⟨_,e,rfl⟩
 refine ⟨fun b blk hb=>?_,fun b b' B n n' h1 h2 h3 h4=>?_,g.lt⟩
 ·rcases AE4 (blk:=⟨ty,cs,o⟩) hb with e | ⟨rfl,e⟩
  ·exact g.heap b blk e
  ·exact AE5 h (g.heap b _ e)
 ·obtain ⟨x,hx,hr⟩:=F1 h1;obtain ⟨y,hy,e⟩:=hs b x hx;obtain ⟨x',hx'⟩:=jd.1 h2;obtain ⟨y',hy',_⟩:=hs b' x' hx';exact g.inj b b' B n n' (FS hy (by rw [e];exact hr)) (by rw [hy'];rfl) h3 h4
theorem bJ {P:Program} {f:FuncId} {β0:Env} {w0:World} {R:Ending→World→Prop} {n:Nat} {W:List Nat} {todo:List Item} {T:List AV} {H0:Heap} {k:Nat} {ty:TypeId} {cs cs':List Ch} {o:Bool} {fr:Nat} {p:List Bool} (h:∀ β l,AO β cs l→AO β cs' l)
  (hs:ASafe P f β0 w0 R n W ⟨todo,⟨T,H0++[(k,some ⟨ty,cs',o⟩)],fr,p⟩⟩):ASafe P f β0 w0 R n W ⟨todo,⟨T,H0++[(k,some ⟨ty,cs,o⟩)],fr,p⟩⟩ :=
 fun β a w hi hf=>hs β a w { hi with good:=AUI h hi.good } hf
noncomputable def AUJ:List Item:=Bv (AW dn (AG SG3 KG) (some 0) 500 1 none (Ah Tryz.f43 [AP 0 0 0 0,Bj 0 0 false] (A8 []) 1 d_))
noncomputable def gmT (off n m:Nat) (i:Int):List AV:=.val false [.sl 0 off n m]::.any::.any::.val false [.p 1 0]::.val false [.p 2 0]::.val false [.n .i64 0]::.val false [.p 3 0]::.val false [.v (.int .i64 i)]::List.replicate (Tryz.f43.ntmps-8) .any
noncomputable def gmH (xs:dp) (P:Pt FP):Heap:=[(0,some (Am [.seq .u64 xs])),(1,some ⟨42,[.num 6 (DV P),.num 6 (B8 P),.v (.bool (BE P))],false⟩),(2,some ⟨42,F' false,false⟩)]
noncomputable def NM (off n m:Nat) (xs:dp) (P:Pt FP) (out:List Ch) (i:Int) (path:List Bool):ASt:=⟨AUJ,⟨gmT off n m i,List.append (gmH xs P) [(3,some ⟨119,out,false⟩)],4,path⟩⟩
def jC (j:J FP):List Ch:=[.num 6 j.x.val,.num 6 j.y.val,.num 6 j.z.val]
def bK:List Ch:=[.n .u64 0,.n .u64 0,.n .u64 0,.n .u64 0,.n .u64 0,.n .u64 0,.n .u64 0,.n .u64 0,.n .u64 0,.n .u64 0,.n .u64 0,.n .u64 0,.n .u64 0,.n .u64 0,.n .u64 0,.n .u64 0,.n .u64 0,.n .u64 0]
def GY (j:J FP):J FP:=Bs j.x.val j.y.val j.z.val
theorem XJ (j:J FP):GY j=j:=by
 unfold GY Bs;rw [B7,B7,B7]
noncomputable def bL (j:J FP) (P:Pt FP):J FP:=FF (GY (Bl (GY j))) (tf (DV P)) (tf (B8 P))
def L5 (x y:Nat) (i:Bool) (off n m:Nat):List AV:=[AP 0 off n m,Bj x y i]
def bM (P:Pt FP):Pt FP:=Aj (DV P) (B8 P) (BE P)
theorem AUM (x y:Nat) (i:Bool) (off n m:Nat) (xs:dp):AW dn (AG SG3 KG) (some 0) 500 1 (some ([0,3,4,5,6,7],[0,1,2,3],4)) (Ah Tryz.f43 (L5 x y i off n m) (A8 xs) 1 d_) =
 some ([(!A6 (bM (Aj x y i)),false),(BE (Aj x y i),false),(AJ .i64 n,true)],[],NM off n m xs (Aj x y i) bK (wI (wI (64*(n:Int))-1)) []):=dk
def L6 (Q:Pt FP) (e:Int):AV:=.tup [(true,[.num 6 (DV Q),.num 6 (B8 Q),.v (.bool (BE Q))]),(false,[.v (.int .i64 e)])]
def XK (Q:Pt FP) (e:Int):AV:=.tup [(true,[.num 6 (DV Q),.num 6 (B8 Q),.v (.bool (BE Q))]),(false,[.n .i64 e])]
theorem AUN (x y:Nat) (i:Bool) (off n m:Nat) (xs:dp):AR dn (AG SG3 KG) Tryz.f43 500 1 [] (Ah Tryz.f43 (L5 x y i off n m) (A8 xs) 1 dw) =
 some ([(!A6 (bM (Aj x y i)),true)],[],.tup [(true,F' false),(false,[.n .i64 120])],[]):=dk
theorem AUO (x y:Nat) (i:Bool) (off n m:Nat) (xs:dp):AR dn (AG SG3 KG) Tryz.f43 500 1 [] (Ah Tryz.f43 (L5 x y i off n m) (A8 xs) 1 dz) =
 some ([(!A6 (bM (Aj x y i)),false),(BE (Aj x y i),true)],[],XK (Aj x y i) 0,[]):=dk
def T7 (off n:Nat) (xs:dp) (i:Int) (bit:Bool) (r:dr):dr:=(decide (0≤i),true)::(true,true)::(decide (0≤wI (Int.tdiv i 64)∧wI (Int.tdiv i 64)<n),true) ::
 (decide (off+(wI (Int.tdiv i 64)).toNat*1<xs.length),true)::(decide (0≤i∧(0:Int)<64),true)::(decide (0≤Int.tmod i 64∧0≤CG xs off i),true)::(decide (Ij (CG xs off i) (Int.tmod i 64)=0),bit)::r
section
variable (off n m:Nat) (xs:dp) (P:Pt FP) (j:J FP) (i:Int)
theorem AUP:AW dn (AG SG3 KG) (some 0) 500 1 (some ([0,3,4,5,6,7],[0,1,2,3],4)) (NM off n m xs P (jC j) i dx) =
 some (T7 off n xs i true [],[],NM off n m xs P (jC (Bl (GY j))) (wI (i-1)) []):=dk
theorem AUQ:AW dn (AG SG3 KG) (some 0) 500 1 (some ([0,3,4,5,6,7],[0,1,2,3],4)) (NM off n m xs P (jC j) i ee) =
 some (T7 off n xs i false [(decide ((Bl (GY j)).z.val<pN),true),(decide (DV P<pN),true),(decide (B8 P<pN),true)],[],NM off n m xs P (jC (bL j P)) (wI (i-1)) []):=dk
theorem AUR:AR dn (AG SG3 KG) Tryz.f43 500 1 [] (NM off n m xs P (jC j) i du) =
 some ([(decide (0≤i),false),(decide (j.z.val<pN),true)],[],XK (B5 (GY j)) 0,[]):=dk
end
theorem sA (off n m:Nat) (xs:dp) (P:Pt FP) (j:J FP) (i:Int) (p:List Bool):BO Tryz.f43.ntmps (NM off n m xs P (jC j) i p).s:=AQ dk
theorem AE6 (β:Env) (l:List Value) (h:AO β bK l):AO β (jC ⟨0,0,0⟩) l:=by
 have h3:Q1 bK=some (0,0,0):=dk
 obtain ⟨l',q,e⟩:=T4 (β':=β) (u:=.agg ⟨l⟩) h3 ⟨l,h,rfl⟩
 injection e with e;injection e with e;subst e;exact q
def JO (P:Pt FP) (E c:Nat) (j:J FP):Prop:=B5 j=smul (E / 2^c) P
section
variable {off n m:Nat} {xs:dp} (hall:∀ d∈xs,0≤d∧d<18446744073709551616) (hlen:off+n≤xs.length) (hn:n≤1125899906842624) {P:Pt FP} (hP:Rg.On C1.b P) (hI:BE P=false) {β0:Env} {w0:World} (hb:∀ b,1≤b→β0 b=none)
include hall hlen hn hb hP hI
theorem AUS:∀ (c:Nat) (j:J FP),JO P (AI (AA xs off n)) c j→c≤64*n→ASafe dn 43 β0 w0 (A4 β0 w0 [] (XK (smul (AI (AA xs off n)) P) 0) []) Tryz.f43.ntmps [] (NM off n m xs P (jC j) ((c:Int)-1) []):=by
 intro c;induction c with
 | zero =>
  intro j hj _;have h:ASafe dn 43 β0 w0 (A4 β0 w0 [] (XK (B5 (GY j)) 0) []) Tryz.f43.ntmps [] (NM off n m xs P (jC j) (((0:Nat):Int)-1) du) :=
   Av (AH Q2 DH) AB Tryz.func43 (AUR ..) ⟨rfl,fu j.z.isLt,trivial⟩ (sA ..) hb ft
  unfold JO at hj;rw [XJ,hj,ia,ig] at h;exact Ae du h
 | succ c ih =>
  intro j hj hc;have hi:((c+1:Nat):Int)-1=(c:Int):=dl
  rw [hi];have hlt:∀ d∈AA xs off n,0≤d∧d<18446744073709551616:=C3 hall
  have hq:Int.tdiv (c:Int) 64=((c / 64:Nat):Int):=by rw [mj dl];rfl
  have hr:Int.tmod (c:Int) 64=((c % 64:Nat):Int):=by rw [ku dl];rfl
  have hw:wI (Int.tdiv (c:Int) 64)=((c / 64:Nat):Int):=by rw [hq];exact Ao dl
  have hjn:c / 64<n:=dl
  have hv:CG xs off c=(AA xs off n).getD (c / 64) 0:=by
   unfold CG;rw [hw,gj,g_];exact (Il hjn).symm
  have hvb:0≤CG xs off c∧CG xs off c<18446744073709551616:=by
   rw [hv,gy];cases h:(AA xs off n)[c / 64]? with
   | none=>simp
   | some d=>exact hlt d (lg h)
  have hbit:Ij (CG xs off c) (Int.tmod c 64)=((AI (AA xs off n) / 2^c % 2:Nat):Int):=by
   obtain ⟨V,hV⟩:=ic hvb.1;rw [hr,← WY _ c hlt,← hv,hV,gj];exact WW V _ dl dl
  have hnext:wI ((c:Int)-1)=(c:Int)-1:=Ao dl
  have hconds:∀ bit r,decide (Ij (CG xs off c) (Int.tmod c 64)=0)=bit→AM r→AM (T7 off n xs c bit r):=by
   intro bit r hbt hr';refine ⟨by simp,rfl,?_,?_,?_,?_,hbt,hr'⟩
   ·rw [hw];simp;omega
   ·rw [hw];simp;omega
   ·simp
   ·simp only [gc];rw [hr];exact ⟨dl,hvb.1⟩
  have hdiv:AI (AA xs off n) / 2^c=2*(AI (AA xs off n) / 2^(c+1))+AI (AA xs off n) / 2^c % 2:=by
   rw [ip,← iu];omega
  unfold JO at hj;have hoj:Rg.On C1.b (B5 j):=by rw [hj];exact B4 C1 hP _
  have htw:B5 (Bl (GY j))=smul (2*(AI (AA xs off n) / 2^(c+1))) P:=by
   rw [XJ,Qz C1 hoj,hj,← It C1 hP,my]
  rcases ke (AI (AA xs off n) / 2^c) with h0 | h1
  ·refine Ae dx (Ag (AH Q2 DH) AB (AUP ..) (hconds true [] (by rw [hbit,h0];rfl) trivial) (sA ..) hb ft fun _=>?_)
   rw [hnext];refine ih _ ?_ dl
   unfold JO;rw [htw,hdiv,h0];rfl
  ·refine Ae ee (Ag (AH Q2 DH) AB (AUQ ..) (hconds false _ (by rw [hbit,h1];rfl) ⟨fu (Bl (GY j)).z.isLt,fu (XH P),fu (bD P),trivial⟩) (sA ..) hb ft fun _=>?_)
   rw [hnext];refine ih _ ?_ dl
   unfold JO bL;rw [XJ (Bl (GY j)),Tw C1 (by rw [htw];exact B4 C1 hP _),htw,hdiv,h1]
   cases P with
   | inf=>cases hI
   | pt a b =>
    show add _ (.pt (tf a.val) (tf b.val))=_;rw [B7,B7];rfl
end
noncomputable def GZ (N:Nat) (P:Pt FP):Pt FP:=if A6 P=true then smul N P else .pt 0 0
noncomputable def Gu (P:Pt FP):Int:=if A6 P=true then 0 else 120
theorem AUT (P:Pt FP):bM P=P:=T3 P
theorem AE7 {β:Env} {Q:Pt FP} {e:Int} {u:Value} (h:AL β (XK Q e) u):AL β (L6 Q e) u:=CZ (fun _ q=>q) (fun _ q=>D8 rfl q) h
theorem AUU {off n m:Nat} {xs:dp} (hall:∀ d∈xs,0≤d∧d<18446744073709551616) (hlen:off+n≤xs.length) (hn:n≤1125899906842624) (x y:Nat) (i:Bool) :
  Ac dn 43 (L5 x y i off n m) (A8 xs) 1 [] (L6 (GZ (AI (AA xs off n)) (Aj x y i)) (Gu (Aj x y i))) []:=by
 have e1:=AUM x y i off n m xs;have e2:=AUN x y i off n m xs;have e3:=AUO x y i off n m xs;rw [AUT] at e1 e2 e3;generalize Aj x y i=P at *
 cases ho:A6 P with
 | false =>
  unfold GZ Gu;rw [fv (by rw [ho];exact gn),fv (by rw [ho];exact gn)]
  refine BA (Ay (path:=dw) Tryz.func43 dk dk fun β0 w0 hb =>
   Av (AH Q2 DH) AB Tryz.func43 e2 ⟨by rw [ho];rfl,trivial⟩ (AQ dk) hb ft) fun β u hu=>?_
  exact CZ (fun _ q=>(HT (x:=0) (y:=0) (i:=false) dk q).1) (fun _ q=>D8 rfl q) hu
 | true =>
  have hP:=(KX P).1 ho
  unfold GZ Gu;rw [fw ho,fw ho];cases hI:BE P with
  | true =>
   have hp:P=.inf:=by cases P with | inf=>rfl | pt a b=>cases hI
   have hs:smul (AI (AA xs off n)) P=P:=by rw [hp,GV]
   rw [hs];exact BA (Ay (path:=dz) Tryz.func43 dk dk fun β0 w0 hb =>
    Av (AH Q2 DH) AB Tryz.func43 e3 ⟨by rw [ho];rfl,hI,trivial⟩ (AQ dk) hb ft) fun β u hu=>AE7 hu
  | false =>
   refine BA (Ay (path:=d_) Tryz.func43 dk dk fun β0 w0 hb=>?_) fun β u hu=>AE7 hu
   refine Ag (AH Q2 DH) AB e1 ⟨by rw [ho];rfl,hI,?_,trivial⟩ (AQ dk) hb ft fun _=>?_
   ·simp only [AJ,gi,gc];omega
   ·have e4:wI (wI (64*(n:Int))-1)=((64*n:Nat):Int)-1:=by
     rw [Ao (z:=64*(n:Int)) dl,Ao dl];omega
    rw [e4];refine bJ AE6 (AUS hall hlen hn hP hI hb (64*n) ⟨0,0,0⟩ ?_ (gd _))
    unfold JO;have hl:=Ik (AA xs off n) (C3 hall)
    have hl2:AI (AA xs off n)<2^(64*n):=by
     unfold AA at hl ⊢
     rwa [h_,ir,jn dl] at hl
    rw [F_ rfl,jf hl2];rfl
def bO (g:dp→Pt FP→AV):ASpec:=fun args H fr path =>
 match args with
 | [S,.val true a]=>match DB S with
  | some (k,off,n)=>match Tz a,AF H k with
   | some (x,y,i),some ⟨_,cs,_⟩=>match Az .u64 cs with
    | some xs=>some (BI [k] 1 fr 0 [] (g (AA xs off n) (Aj x y i)) [] [(Nat.ble (off+n) xs.length,true),(Nat.ble n 1125899906842624,true)] path)
    | none=>none
   | _,_=>none
  | none=>none
 | _=>none
theorem AE8 {f:FuncId} {fn:Func} {g:dp→Pt FP→AV} (hfn:dn.funcs[f]? = some fn) (hb:fn.body.isSome=true) (hname:(fn.name=="runtime.NumGoroutine")=false) (hk:∀ l P,D5 1 0 [] (g l P) []=true)
  (h:∀ (off n m:Nat) (xs:dp) (x y:Nat) (i:Bool),(∀ d∈xs,0≤d∧d<18446744073709551616)→off+n≤xs.length→n≤1125899906842624→Ac dn f (L5 x y i off n m) (A8 xs) 1 [] (g (AA xs off n) (Aj x y i)) []):A' dn f (bO g):=by
 refine DC hfn hb hname fun args H fr path r hs=>?_
 unfold bO at hs;split at hs;case h_2=>cases hs
 rename_i S a;split at hs;case h_2=>cases hs
 rename_i k off n hS;split at hs;case h_2=>cases hs
 rename_i x y i ty cs o hx hk';split at hs;case h_2=>cases hs
 rename_i xs hxs;injection hs with hs;refine ⟨[k],1,0,[],_,_,_,path,hs.symm,fun β us w ha hg hc=>?_⟩
 obtain ⟨u1,us1,r1,⟨u2,us2,r2,ha,rfl⟩,rfl⟩:=ha;obtain ⟨m,r1⟩:=EU hS r1;obtain ⟨g1,g2,g3⟩:=Lk hg hk' hxs;exact ⟨L5 x y i off n m,A8 xs,h off n m xs x y i g1 (f_ hc.1) (f_ hc.2.1),hk _ _,⟨u1,_,CJ dl rfl r1,⟨u2,us2,(HT hx r2).1,ha,rfl⟩,rfl⟩,g2,g3⟩
noncomputable def SG4:dt:=(43,DP (bO fun l P=>L6 (GZ (AI l) P) (Gu P)))::SG3
theorem T8:AT dn SG4:=⟨D6 (AE8 Tryz.func43 dk dk (fun _ _=>by kernel_rfl) fun _ _ _ _ x y i hx hl hn=>AUU hx hl hn x y i),Q2⟩
def sF:List AV→Option AV
 | [.val false [.n .u64 i]]=>some (.val true [.n .u64 i,.n .u64 0,.n .u64 0,.n .u64 0,.n .u64 0,.n .u64 0])
 | _=>none
theorem AUV (i:Int):AK dn (AG SG4 KG) Tryz.f160 [.val false [.n .u64 i]] [] 100=some ([],.val true [.n .u64 i,.n .u64 0,.n .u64 0,.n .u64 0,.n .u64 0,.n .u64 0]):=dk
theorem AUW:∀ args v,sF args=some v→AS dn 160 args v:=by
 intro args v hs;unfold sF at hs;split at hs;case h_2=>cases hs
 rename_i i;injection hs with hs;subst hs;exact AN (AH T8 DH) AB Tryz.func160 (AUV i) trivial rfl
theorem AUX:AK dn (AG SG4 KG) Tryz.f149 [] [] 100=some ([],.val true [.n .u64 4,.n .u64 0,.n .u64 0,.n .u64 0,.n .u64 0,.n .u64 0]):=dk
theorem AUY:AS dn 149 [] (AY 4):=CW (AN (AH T8 DH) AB Tryz.func149 AUX trivial rfl) fun u hu=>WU dk hu
theorem AUZ:AK dn (AG SG4 KG) Tryz.f58 [] [] 100=some ([],.val true gC):=dk
theorem AUa:AS dn 58 [] (GX G1B):=by
 rw [← AEw];exact NJ (AN (AH T8 DH) AB Tryz.func58 AUZ trivial rfl) dk
theorem AUb (x y:Nat) (i:Bool):AK dn (AG SG4 KG) Tryz.f81 [Bj x y i] dw 300=some ([(i,true)],.val true (F' true)):=dk
theorem AUc (x y:Nat) (i:Bool):AK dn (AG SG4 KG) Tryz.f81 [Bj x y i] du 300=some ([(i,false)],.val true [.num 6 (x % pN),.num 6 (y % pN),.b false]):=dk
theorem AUd (x y:Nat) (i:Bool):AS dn 81 [Bj x y i] (GX (Aj x y i)):=by
 cases i with
 | true=>exact NJ (AN (AH T8 DH) AB Tryz.func81 (AUb x y true) ⟨rfl,trivial⟩ rfl) dk
 | false=>exact NJ (AN (AH T8 DH) AB Tryz.func81 (AUc x y false) ⟨rfl,trivial⟩ rfl) dk
noncomputable def SR0:dt:=(160,AZ sF)::(149,AZ fun args=>match args with | []=>some (AY 4) | _=>none)::(58,AZ fun args=>match args with | []=>some (GX G1B) | _=>none)::(81,AZ (NK GX))::SG4
theorem sG:AT dn SR0:=⟨Aa Tryz.func160 dk dk AUW,Aa Tryz.func149 dk dk (QZ AUY fun u h=>h),Aa Tryz.func58 dk dk (QZ AUa fun u h=>h),Aa Tryz.func81 dk dk (Q0 AUd),T8⟩
theorem AUe (x y:Nat) (i:Bool):AK dn (AG SR0 KG) Tryz.f71 [Bj x y i] dw 300=some ([(i,true)],.val false [.b true]):=dk
theorem AUf (x y:Nat) (i:Bool):AK dn (AG SR0 KG) Tryz.f71 [Bj x y i] du 300=some ([(i,false)],Au (decide (Af y y=D0 (Af (Af x x) x) 4))):=dk
theorem AUg (x y:Nat) (i:Bool):AS dn 71 [Bj x y i] (Au (A6 (Aj x y i))):=by
 cases i with
 | true=>exact CW (AN (AH sG DH) AB Tryz.func71 (AUe x y true) ⟨rfl,trivial⟩ rfl) fun u hu=>In rfl hu
 | false=>rw [← rV];exact AN (AH sG DH) AB Tryz.func71 (AUf x y false) ⟨rfl,trivial⟩ rfl
noncomputable def SR1:dt:=(71,AZ (NK fun P=>Au (A6 P)))::SR0
theorem AE9:AT dn SR1:=⟨Aa Tryz.func71 dk dk (Q0 AUg),sG⟩
theorem sH:tf 2=1+1:=by rw [← DS,← F7]
theorem AE_:tf 3=1+1+1:=by rw [← DS,← F7,← F7]
theorem sI:tf 4=1+1+(1+1):=by rw [← sH,← F7]
theorem AE':tf 8=1+1+(1+1)+(1+1+(1+1)):=by rw [← sI,← F7]
def sD (x y:Nat):Nat:=Af 4 (Af x (Af y y))
def sE (x:Nat):Nat:=Af 3 (Af x x)
def sX (x y:Nat):Nat:=EB (Af (sE x) (sE x)) (D0 (sD x y) (sD x y))
def sY (x y:Nat):Nat:=EB (Af (sE x) (EB (sD x y) (sX x y))) (Af 8 (Af (Af y y) (Af y y)))
theorem AUh (x y z:Nat):AK dn (AG SR1 KG) Tryz.f210 [DM x y z] [] 500=some ([],DM (sX x y) (sY x y) (Af 2 (Af y z))):=dk
theorem AFA (x y:Nat):tf (sD x y)=jD (tf x) (tf y):=by unfold sD jD;rw [CH,CH,CH,sI];grind
theorem AFB (x:Nat):tf (sE x)=jE (tf x):=by unfold sE jE;rw [CH,CH,AE_];grind
theorem AFC (x y:Nat):tf (sX x y)=jX (tf x) (tf y):=by unfold sX jX;rw [HM,CH,JI,AFA,AFB]
theorem AUi (y:Nat):tf (Af 8 (Af (Af y y) (Af y y)))=Tu (tf y):=by unfold Tu bC jC2;rw [CH,CH,CH,AE'];grind
theorem AUj (x y z:Nat):AS dn 210 [DM x y z] (JN (Bl (Bs x y z))):=by
 rw [← PE (j:=Bl (Bs x y z)) (x:=sX x y) (y:=sY x y) (z:=Af 2 (Af y z)) (HN _ _) (HN _ _) (Ll _ _) (AFC x y) (by unfold sY;rw [HM,CH,HM,AFC,AFA,AFB,AUi];rfl)
  (by rw [CH,CH,sH];show _=tf y*tf z+tf y*tf z;grind)]
 exact AN (AH AE9 DH) AB Tryz.func210 (AUh x y z) trivial rfl
noncomputable def SR2:dt:=(210,AZ (bH fun j=>JN (Bl j)))::SR1
theorem XL:AT dn SR2:=⟨Aa Tryz.func210 dk dk (AE1 AUj),AE9⟩
section
variable (x y z a b:Nat) (i:Bool)
theorem AUk:AK dn (AG SR2 KG) Tryz.f211 [DM x y z,Bj a b i] dw 500=some ([(decide (z=0),true)],.val true (.num 6 a::.num 6 b::qZ)):=dk
theorem AUl:AK dn (AG SR2 KG) Tryz.f211 [DM x y z,Bj a b i] ew 500=some ([(decide (z=0),false),(decide (nH x z a=0),true),(decide (nR y z b=0),true)],JN (Bl (Bs x y z))):=dk
theorem AUm:AK dn (AG SR2 KG) Tryz.f211 [DM x y z,Bj a b i] fi 500=some ([(decide (z=0),false),(decide (nH x z a=0),true),(decide (nR y z b=0),false)],.val true (List.replicate 18 (.n .u64 0))):=dk
theorem AUn:AK dn (AG SR2 KG) Tryz.f211 [DM x y z,Bj a b i] d_ 500=some ([(decide (z=0),false),(decide (nH x z a=0),false)],DM (NL x (nH x z a) (nR y z b)) (T5 x y (nH x z a) (nR y z b)) (Af z (nH x z a))):=dk
end
theorem AUo {x y z a b:Nat} {i:Bool} (hz:z<pN) (ha:a<pN) (hb:b<pN):AS dn 211 [DM x y z,Bj a b i] (JN (FF (Bs x y z) (tf a) (tf b))):=by
 have eh:=AE2 x y z a;have er:=AE3 x y z b;have zh:=L4 (n:=nH x z a) (HN _ _)
 have zr:=L4 (n:=nR y z b) (HN _ _)
 rw [eh] at zh;rw [er] at zr;unfold FF;by_cases h0:z=0
 ·rw [fw (show (Bs x y z).z=0 from (L4 hz).1 h0),← PE (j:=⟨tf a,tf b,1⟩) ha hb (show 1<pN by decide) rfl rfl DS]
  exact bI (AN (AH XL DH) AB Tryz.func211 (AUk x y z a b i) ⟨fu h0,trivial⟩ rfl) rfl
 ·rw [fv (show ¬ (Bs x y z).z=0 from fun e=>h0 ((L4 hz).2 e))]
  by_cases hh:nH x z a=0
  ·rw [fw (zh.1 hh)];by_cases hr:nR y z b=0
   ·rw [fw (zr.1 hr)];exact AN (AH XL DH) AB Tryz.func211 (AUl x y z a b i) ⟨ga h0,fu hh,fu hr,trivial⟩ rfl
   ·rw [fv (fun e=>hr (zr.2 e)),← PE (j:=⟨0,0,0⟩) Cs Cs Cs tf_zero tf_zero tf_zero]
    exact bI (AN (AH XL DH) AB Tryz.func211 (AUm x y z a b i) ⟨ga h0,fu hh,ga hr,trivial⟩ rfl) dk
  ·rw [fv (fun e=>hh (zh.2 e)),← PE (j:=⟨pX (Bs x y z).x (pH (Bs x y z) (tf a)) (pR (Bs x y z) (tf b)),pY (Bs x y z).x (Bs x y z).y (pH (Bs x y z) (tf a)) (pR (Bs x y z) (tf b)),(Bs x y z).z*pH (Bs x y z) (tf a)⟩)
    (x:=NL x (nH x z a) (nR y z b)) (y:=T5 x y (nH x z a) (nR y z b)) (z:=Af z (nH x z a)) (HN _ _) (HN _ _) (Ll _ _) ?_ ?_ ?_]
   ·exact AN (AH XL DH) AB Tryz.func211 (AUn x y z a b i) ⟨ga h0,ga hh,trivial⟩ rfl
   ·unfold NL pX;simp only [HM,CH,JI,eh,er];rfl
   ·unfold T5 NL pY pX;simp only [HM,CH,JI,eh,er];rfl
   ·rw [CH,eh];rfl
theorem AUp {f:FuncId} (h:∀ (x y z a b:Nat) (i:Bool),z<pN→a<pN→b<pN→AS dn f [DM x y z,Bj a b i] (JN (FF (Bs x y z) (tf a) (tf b)))):∀ args c v,T6 args=some (c,v)→AM c→AS dn f args v:=by
 intro args c v hs hc us w ha;unfold T6 at hs;split at hs;case h_2=>cases hs
 rename_i a b;split at hs;case h_2=>cases hs
 rename_i x y z p q i hx hy;injection hs with hs;injection hs with h1 h2;subst h1;subst h2;obtain ⟨u1,us1,r1,⟨u2,us2,r2,ha,rfl⟩,rfl⟩:=ha;exact h x y z p q i (gv hc.1) (gv hc.2.1) (gv hc.2.2.1) _ w ⟨u1,_,T4 hx r1,⟨u2,_,(HT hy r2).1,ha,rfl⟩,rfl⟩
noncomputable def SR3:dt:=(211,Ez T6)::SR2
theorem PG:AT dn SR3:=⟨Ft Tryz.func211 dk dk (AUp fun _ _ _ _ _ _=>AUo),XL⟩
noncomputable def SN:dt:=SR3
theorem AUq:AT dn SN:=PG
def AUr:List AV→Option AV
 | []=>some (.val false [.b true])
 | _=>none
noncomputable def SA12:dt:=SN
theorem AUs:AT dn SA12:=AUq
noncomputable def AUt:List Item:=Bv (AW dn (AG SR3 KG) (some 0) 500 1 none (Ah Tryz.f150 [AP 0 0 0 0,Bj 0 0 false] (A8 []) 1 d_))
noncomputable def qmT (off n m:Nat) (i:Int):List AV:=.val false [.sl 0 off n m]::.any::.any::.val false [.p 1 0]::.val false [.p 2 0]::.val false [.n .i64 0]::.any::.val false [.p 3 0]::.val false [.p 4 0]::.val false [.v (.int .i64 i)]::List.replicate (Tryz.f150.ntmps-10) .any
noncomputable def qmH (xs:dp) (x y:Nat) (b:Bool) (P:Pt FP):Heap:=[(0,some (Am [.seq .u64 xs])),(1,some ⟨42,[.num 6 x,.num 6 y,.v (.bool b)],false⟩),(2,some ⟨42,F' false,false⟩),(3,some ⟨42,[.num 6 (DV P),.num 6 (B8 P),.v (.bool (BE P))],false⟩)]
noncomputable def NN (x y:Nat) (b:Bool) (off n m:Nat) (xs:dp) (P:Pt FP) (out:List Ch) (i:Int) (path:List Bool):ASt:=⟨AUt,⟨qmT off n m i,List.append (qmH xs x y b P) [(4,some ⟨192,out,false⟩)],5,path⟩⟩
theorem AUw (x y:Nat) (i:Bool) (off n m:Nat) (xs:dp):AW dn (AG SR3 KG) (some 0) 500 1 (some ([0,3,4,5,7,8,9],[0,1,2,3,4],5)) (Ah Tryz.f150 (L5 x y i off n m) (A8 xs) 1 d_) =
 some ([(!A6 (Aj x y i),false),(i,false),(AJ .i64 n,true)],[],NN x y i off n m xs (Aj x y i) bK (wI (wI (64*(n:Int))-1)) []):=dk
theorem AUx (x y:Nat) (i:Bool) (off n m:Nat) (xs:dp):AR dn (AG SR3 KG) Tryz.f150 500 1 [] (Ah Tryz.f150 (L5 x y i off n m) (A8 xs) 1 dw) =
 some ([(!A6 (Aj x y i),true)],[],.tup [(true,F' false),(false,[.n .i64 120])],[]):=dk
theorem AUy (x y:Nat) (i:Bool) (off n m:Nat) (xs:dp):AR dn (AG SR3 KG) Tryz.f150 500 1 [] (Ah Tryz.f150 (L5 x y i off n m) (A8 xs) 1 dz) =
 some ([(!A6 (Aj x y i),false),(i,true)],[],.tup [(true,F' true),(false,[.n .i64 0])],[]):=dk
def T9 (off n:Nat) (xs:dp) (i:Int) (bit:Bool) (r:dr):dr:=(decide (0≤i),true)::(true,true)::(decide (0≤wI (Int.tdiv i 64)∧wI (Int.tdiv i 64)<n),true) ::
 (decide (off+(wI (Int.tdiv i 64)).toNat*1<xs.length),true)::(decide (0≤i∧(0:Int)<64),true)::(decide (0≤AU false .u64 (Int.tmod i 64)∧0≤CG xs off i),true)::(decide (KT xs off i=1),bit)::r
section
variable (x y:Nat) (b:Bool) (off n m:Nat) (xs:dp) (P:Pt FP) (j:J FP) (i:Int)
theorem AUz:AW dn (AG SR3 KG) (some 0) 500 1 (some ([0,3,4,5,7,8,9],[0,1,2,3,4],5)) (NN x y b off n m xs P (jC j) i ee) =
 some (T9 off n xs i false [],[],NN x y b off n m xs P (jC (Bl (GY j))) (wI (i-1)) []):=dk
theorem AU0:AW dn (AG SR3 KG) (some 0) 500 1 (some ([0,3,4,5,7,8,9],[0,1,2,3,4],5)) (NN x y b off n m xs P (jC j) i dx) =
 some (T9 off n xs i true [(decide ((Bl (GY j)).z.val<pN),true),(decide (DV P<pN),true),(decide (B8 P<pN),true)],[],NN x y b off n m xs P (jC (bL j P)) (wI (i-1)) []):=dk
theorem AU1:AR dn (AG SR3 KG) Tryz.f150 500 1 [] (NN x y b off n m xs P (jC j) i dz) =
 some ([(decide (0≤i),false),(decide (j.z.val=0),true)],[],.tup [(true,F' true),(false,[.n .i64 0])],[]):=dk
theorem AU2:AR dn (AG SR3 KG) Tryz.f150 500 1 [] (NN x y b off n m xs P (jC j) i d_) =
 some ([(decide (0≤i),false),(decide (j.z.val=0),false)],[],.tup [(true,[.num 6 (Af j.x.val (Af (Bk j.z.val) (Bk j.z.val))),.num 6 (Af j.y.val (Af (Af (Bk j.z.val) (Bk j.z.val)) (Bk j.z.val))),.b false]),(false,[.n .i64 0])],[]):=dk
end
theorem bP (x y:Nat) (b:Bool) (off n m:Nat) (xs:dp) (P:Pt FP) (j:J FP) (i:Int) (p:List Bool):BO Tryz.f150.ntmps (NN x y b off n m xs P (jC j) i p).s:=AQ dk
def sJ (Q:Pt FP):AV:=match Q with
 | .inf=>.tup [(true,F' true),(false,[.n .i64 0])]
 | .pt a b=>.tup [(true,[.num 6 a.val,.num 6 b.val,.b false]),(false,[.n .i64 0])]
section
variable {off n m:Nat} {xs:dp} (hall:∀ d∈xs,0≤d∧d<18446744073709551616) (hlen:off+n≤xs.length) (hn:n≤1125899906842624) {x y:Nat} {b:Bool} {P:Pt FP} (hP:Rg.On C1.b P) (hI:BE P=false) {β0:Env} {w0:World} (hb:∀ b,1≤b→β0 b=none)
include hall hlen hn hb hP hI
theorem AU3:∀ (c:Nat) (j:J FP),JO P (AI (AA xs off n)) c j→c≤64*n→ASafe dn 150 β0 w0 (A4 β0 w0 [] (sJ (smul (AI (AA xs off n)) P)) []) Tryz.f150.ntmps [] (NN x y b off n m xs P (jC j) ((c:Int)-1) []):=by
 intro c;induction c with
 | zero =>
  intro j hj _;unfold JO at hj;rw [ia,ig] at hj;rw [← hj];by_cases h0:j.z.val=0
  ·have hz:j.z=0:=XI.1 h0
   rw [F_ hz];exact Ae dz (Av (AH PG DH) AB Tryz.func150 (AU1 ..) ⟨rfl,fu h0,trivial⟩ (bP ..) hb ft)
  ·have hz:j.z≠0:=fun e=>h0 (XI.2 e)
   rw [Hz hz];have e:sJ (.pt (j.x*(FD.inv j.z*FD.inv j.z)) (j.y*((FD.inv j.z*FD.inv j.z)*FD.inv j.z)))=.tup [(true,[.num 6 (Af j.x.val (Af (Bk j.z.val) (Bk j.z.val))),.num 6 (Af j.y.val (Af (Af (Bk j.z.val) (Bk j.z.val)) (Bk j.z.val))),.b false]),(false,[.n .i64 0])]:=by
    have ei:tf (Bk j.z.val)=FD.inv j.z:=by rw [AEx j.z.isLt,B7];rfl
    have e1:Af j.x.val (Af (Bk j.z.val) (Bk j.z.val))=(j.x*(FD.inv j.z*FD.inv j.z):FP).val:=NA (Ll _ _) (Fin.isLt _) (by rw [CH,CH,ei,B7,B7])
    have e2:Af j.y.val (Af (Af (Bk j.z.val) (Bk j.z.val)) (Bk j.z.val))=(j.y*((FD.inv j.z*FD.inv j.z)*FD.inv j.z):FP).val:=NA (Ll _ _) (Fin.isLt _) (by rw [CH,CH,CH,ei,B7,B7])
    rw [e1,e2];rfl
   rw [e];exact Ae d_ (Av (AH PG DH) AB Tryz.func150 (AU2 ..) ⟨rfl,ga h0,trivial⟩ (bP ..) hb ft)
 | succ c ih =>
  intro j hj hc;have hi:((c+1:Nat):Int)-1=(c:Int):=dl
  rw [hi];have hlt:∀ d∈AA xs off n,0≤d∧d<18446744073709551616:=C3 hall
  have hq:Int.tdiv (c:Int) 64=((c / 64:Nat):Int):=by rw [mj dl];rfl
  have hr:Int.tmod (c:Int) 64=((c % 64:Nat):Int):=by rw [ku dl];rfl
  have hw:wI (Int.tdiv (c:Int) 64)=((c / 64:Nat):Int):=by rw [hq];exact Ao dl
  have hjn:c / 64<n:=dl
  have hv:CG xs off c=(AA xs off n).getD (c / 64) 0:=by
   unfold CG;rw [hw,gj,g_];exact (Il hjn).symm
  have hvb:0≤CG xs off c∧CG xs off c<18446744073709551616:=by
   rw [hv,gy];cases h:(AA xs off n)[c / 64]? with
   | none=>simp
   | some d=>exact hlt d (lg h)
  obtain ⟨hq1,hq2⟩:=W2 xs off c;have hbit:KT xs off c=((AI (AA xs off n) / 2^c % 2:Nat):Int):=by
   rw [hq1];obtain ⟨V,hV⟩:=ic hvb.1;rw [hr,← WY _ c hlt,← hv,hV,gj];exact WW V _ dl dl
  have hnext:wI ((c:Int)-1)=(c:Int)-1:=Ao dl
  have hconds:∀ bit r,decide (KT xs off c=1)=bit→AM r→AM (T9 off n xs c bit r):=by
   intro bit r hbt hr';refine ⟨by simp,rfl,?_,?_,?_,?_,hbt,hr'⟩
   ·rw [hw];simp;omega
   ·rw [hw];simp;omega
   ·simp
   ·simp only [gc];rw [hq2,hr];exact ⟨dl,hvb.1⟩
  have hdiv:AI (AA xs off n) / 2^c=2*(AI (AA xs off n) / 2^(c+1))+AI (AA xs off n) / 2^c % 2:=by
   rw [ip,← iu];omega
  unfold JO at hj;have hoj:Rg.On C1.b (B5 j):=by rw [hj];exact B4 C1 hP _
  have htw:B5 (Bl (GY j))=smul (2*(AI (AA xs off n) / 2^(c+1))) P:=by
   rw [XJ,Qz C1 hoj,hj,← It C1 hP,my]
  rcases ke (AI (AA xs off n) / 2^c) with h0 | h1
  ·refine Ae ee (Ag (AH PG DH) AB (AUz ..) (hconds false [] (by rw [hbit,h0];rfl) trivial) (bP ..) hb ft fun _=>?_)
   rw [hnext];refine ih _ ?_ dl
   unfold JO;rw [htw,hdiv,h0];rfl
  ·refine Ae dx (Ag (AH PG DH) AB (AU0 ..) (hconds true _ (by rw [hbit,h1];rfl) ⟨fu (Bl (GY j)).z.isLt,fu (XH P),fu (bD P),trivial⟩) (bP ..) hb ft fun _=>?_)
   rw [hnext];refine ih _ ?_ dl
   unfold JO bL;rw [XJ (Bl (GY j)),Tw C1 (by rw [htw];exact B4 C1 hP _),htw,hdiv,h1]
   cases P with
   | inf=>cases hI
   | pt a b =>
    show add _ (.pt (tf a.val) (tf b.val))=_;rw [B7,B7];rfl
end
theorem AFD {β:Env} {Q:Pt FP} {u:Value} (h:AL β (sJ Q) u):AL β (L6 Q 0) u:=by
 cases Q with
 | inf=>exact CZ (fun _ q=>(HT (x:=0) (y:=0) (i:=true) dk q).1) (fun _ q=>D8 rfl q) h
 | pt a b=>exact CZ (fun _ q=>(HT (x:=a.val) (y:=b.val) (i:=false) rfl q).1) (fun _ q=>D8 rfl q) h
theorem AU4 {off n m:Nat} {xs:dp} (hall:∀ d∈xs,0≤d∧d<18446744073709551616) (hlen:off+n≤xs.length) (hn:n≤1125899906842624) (x y:Nat) (i:Bool) :
  Ac dn 150 (L5 x y i off n m) (A8 xs) 1 [] (L6 (GZ (AI (AA xs off n)) (Aj x y i)) (Gu (Aj x y i))) []:=by
 have e1:=AUw x y i off n m xs;have e2:=AUx x y i off n m xs;have e3:=AUy x y i off n m xs;cases ho:A6 (Aj x y i) with
 | false =>
  unfold GZ Gu;rw [fv (by rw [ho];exact gn),fv (by rw [ho];exact gn)]
  refine BA (Ay (path:=dw) Tryz.func150 dk dk fun β0 w0 hb =>
   Av (AH PG DH) AB Tryz.func150 e2 ⟨by rw [ho];rfl,trivial⟩ (AQ dk) hb ft) fun β u hu=>?_
  exact CZ (fun _ q=>(HT (x:=0) (y:=0) (i:=false) dk q).1) (fun _ q=>D8 rfl q) hu
 | true =>
  have hP:=(KX _).1 ho
  unfold GZ Gu;rw [fw ho,fw ho];cases i with
  | true =>
   rw [show Aj x y true=.inf from rfl,GV]
   exact BA (Ay (path:=dz) Tryz.func150 dk dk fun β0 w0 hb =>
    Av (AH PG DH) AB Tryz.func150 e3 ⟨by rw [ho];rfl,rfl,trivial⟩ (AQ dk) hb ft) fun β u hu=>AFD (Q:=.inf) hu
  | false =>
   refine BA (Ay (path:=d_) Tryz.func150 dk dk fun β0 w0 hb=>?_) fun β u hu=>AFD hu
   refine Ag (AH PG DH) AB e1 ⟨by rw [ho];rfl,rfl,?_,trivial⟩ (AQ dk) hb ft fun _=>?_
   ·simp only [AJ,gi,gc];omega
   ·have e4:wI (wI (64*(n:Int))-1)=((64*n:Nat):Int)-1:=by
     rw [Ao (z:=64*(n:Int)) dl,Ao dl];omega
    rw [e4];refine bJ AE6 (AU3 hall hlen hn hP rfl hb (64*n) ⟨0,0,0⟩ ?_ (gd _))
    unfold JO;have hl:=Ik (AA xs off n) (C3 hall)
    have hl2:AI (AA xs off n)<2^(64*n):=by
     unfold AA at hl ⊢
     rwa [h_,ir,jn dl] at hl
    rw [F_ rfl,jf hl2];rfl
noncomputable def SR4:dt:=(150,DP (bO fun l P=>L6 (GZ (AI l) P) (Gu P)))::SA12
theorem AU5:AT dn SR4:=⟨D6 (AE8 Tryz.func150 dk dk (fun _ _=>by kernel_rfl) fun _ _ _ _ x y i hx hl hn=>AU4 hx hl hn x y i),AUs⟩
open Ex Num
noncomputable abbrev NO:Orc:=AG S22 K0
def Q3 (ls ms:dp):Heap:=[(0,some ⟨38,[.seq .u64 ls],false⟩),(1,some (Am [.seq .u64 ms]))]
def bQ (n m N M:Nat):List AV:=[.val false [.sl 0 0 N M],.val false [.sl 1 0 n m],.val false [.v (.int .i64 (n:Int))]]
noncomputable def AU6:List Item:=Bv (AW dn NO (some 0) 100 2 none (Ah Tryz.f234 (bQ 0 0 0 0) (Q3 [] []) 2 []))
noncomputable def tkT (n m N M:Nat):List AV:=.val false [.sl 0 0 N M]::.val false [.sl 1 0 n m]::.val false [.v (.int .i64 n)]::List.replicate (Tryz.f234.ntmps-3) .any
noncomputable def NP (ls ms:dp) (n m N M:Nat) (p:List Bool):ASt:=⟨AU6,⟨tkT n m N M,Q3 ls ms,2,p⟩⟩
noncomputable def AFE:List Item:=Bv (AW dn NO (some 0) 200 2 none (NP [] [] 0 0 0 0 dx))
noncomputable def XM (n m N M:Nat) (q b i c:Ch):List AV:=.val false [.sl 0 0 N M]::.val false [.sl 1 0 n m]::.val false [.v (.int .i64 n)]::.any::.any::.any::.val false [q]::.any::.val false [b]::.val false [i]::.val false [c]::List.replicate (Tryz.f234.ntmps-11) .any
noncomputable def T_ (ls ms:dp) (n m N M:Nat) (q b i c:Int) (p:List Bool):ASt:=⟨AFE,⟨XM n m N M (.v (.int .u64 q)) (.v (.int .u64 b)) (.v (.int .i64 i)) (.v (.int .u64 c)),Q3 ls ms,2,p⟩⟩
noncomputable def bS (ls ms:dp) (n m N M:Nat) (q:Ch):ASt:=⟨AFE,⟨XM n m N M q (.n .u64 0) (.n .i64 0) (.n .u64 0),Q3 ls ms,2,[]⟩⟩
abbrev kA:Option (List Nat×List Nat×Nat):=some ([0,1,2],[0,1],2)
abbrev kB:Option (List Nat×List Nat×Nat):=some ([0,1,2,6,8,9,10],[0,1],2)
def bT (x:Int):Int:=if 1 > x then 1 else x
def nI (n:Nat):Int:=wI ((n:Int)-1)
def NQ (ms:dp) (n:Nat):Int:=ms.getD (0+(nI n).toNat*1) 0
def PH (ls:dp) (n:Nat):Int:=ls.getD (0+(n:Int).toNat*1) 0
def sK (ls ms:dp) (n:Nat):Int:=(((PH ls n).toNat*CY+(ls.getD (0+(nI n).toNat*1) 0).toNat) / (mW (NQ ms n+1)).toNat:Nat)
section
variable (ls ms:dp) (n m N M:Nat) (q b i c:Int)
def XN (d:Bool) (r:dr):dr:=(Nat.ble (0+N) ls.length,true)::(Nat.ble (0+n) ms.length,true)::(AJ .i64 N,true)::(AJ .i64 n,true)::(decide (0≤EC (AI (AA ls 0 N)) (AI (AA ms 0 n))),d)::r
def bU (d:Bool) (r:dr):dr:=(decide (0≤nI n∧nI n<n),true)::(decide (0+(nI n).toNat*1<ms.length),true)::(decide (mW (NQ ms n+1)=0),d)::(decide (0≤(n:Int)∧(n:Int)<N),true)::(decide (0+(n:Int).toNat*1<ls.length),true)::r
theorem AU8:AW dn NO (some 0) 100 2 kA (Ah Tryz.f234 (bQ n m N M) (Q3 ls ms) 2 [])=some ([],[],NP ls ms n m N M []):=dk
theorem AU9:AW dn NO (some 0) 200 2 kB (NP ls ms n m N M dx)=some (XN ls ms n N true (bU ls ms n N true []),[],bS ls ms n m N M (.v (.int .u64 (bT (PH ls n))))):=dk
theorem AU_:AW dn NO (some 0) 200 2 kB (NP ls ms n m N M ep)=some (XN ls ms n N true (bU ls ms n N false [(decide (PH ls n<mW (NQ ms n+1)),true),(decide (0≤(n:Int)∧(n:Int)<N),true),(decide (0+(n:Int).toNat*1<ls.length),true),
 (decide (0≤nI n∧nI n<N),true),(decide (0+(nI n).toNat*1<ls.length),true),(decide (PH ls n<mW (NQ ms n+1)),true)]),[],bS ls ms n m N M (.v (.int .u64 (bT (sK ls ms n))))):=dk
theorem AU':AW dn NO (some 0) 200 2 kB (NP ls ms n m N M eq)=some (XN ls ms n N true (bU ls ms n N false [(decide (PH ls n<mW (NQ ms n+1)),false)]),[],bS ls ms n m N M (.n .u64 1)):=dk
theorem AVA:AR dn NO Tryz.f234 200 2 [0] (NP ls ms n m N M du)=some (XN ls ms n N false [],[],.tup [],[(0,some ⟨38,[.seq .u64 ls],false⟩)]):=dk
def sL:Int:=ls.getD (0+i.toNat*1) 0
def sM:Int:=CF (EY q (BT ms 0 n i)) c 0
theorem AVB:AW dn NO (some 0) 200 2 kB (T_ ls ms n m N M q b i c dw) =
 some ([(AJ .i64 N,true),(decide (i<N),true),(Nat.ble (0+n) ms.length,true),(AJ .i64 n,true),(decide (0≤i),true),(true,true),(decide (0≤i∧i<N),true),(decide (0+i.toNat*1<ls.length),true),(CB b,true),(decide (0≤i∧i<N),true),(decide (0+i.toNat*1<ls.length),true)],[0],
  T_ (ls.set (0+i.toNat*1) (Da (sL ls i) (sM ms n q i c) b)) ms n m N M q (Hq (sL ls i) (sM ms n q i c) b) (wI (i+1)) (mW (JB q (BT ms 0 n i)+C' (EY q (BT ms 0 n i)) c 0)) []):=dk
theorem AVC:AW dn NO (some 0) 200 2 kA (T_ ls ms n m N M q b i c du)=some ([(AJ .i64 N,true),(decide (i<N),false)],[],NP ls ms n m N M []):=dk
end
def GA (q M i:Nat):Nat:=q*(M % 2^(64*i)) / 2^(64*i)
theorem bV (i:Nat):0<2^(64*i):=jr dm
theorem AFF (i:Nat):2^(64*(i+1))=2^(64*i)*18446744073709551616:=by rw [show 64*(i+1)=64*i+64 by omega,gp]
theorem AVD {q:Nat} (hq:q<18446744073709551616) (M i:Nat):GA q M i<18446744073709551616:=by
 unfold GA;refine jb ?_
 have h1:=gu M (bV i)
 rcases jh q with rfl | h0
 ·rw [mw];exact Nat.mul_pos (bV i) dm
 ·calc q*(M % 2^(64*i))<q*2^(64*i):=Nat.mul_lt_mul_of_pos_left h1 h0
   _≤2^(64*i)*18446744073709551616:=by rw [gw];exact j_ _ dl
theorem AVE (q M Q W:Nat) (hQ:0<Q):q*(M % (Q*W)) / (Q*W)=(q*(M / Q % W)+q*(M % Q) / Q) / W∧q*M / Q % W=(q*(M / Q % W)+q*(M % Q) / Q) % W:=by
 have e1:q*(M % (Q*W))=q*(M % Q)+Q*(q*(M / Q % W)):=by rw [Nat.mod_mul,kf,jt]
 have e2:q*(M % (Q*W)) / Q=q*(M / Q % W)+q*(M % Q) / Q:=by rw [e1,qw _ _ hQ];omega
 refine ⟨by rw [← iu,e2],?_⟩
 have e3:q*M=q*(M % (Q*W))+Q*(W*(q*(M / (Q*W)))):=by
  have h:=jo M (Q*W)
  have h2:q*M=q*(Q*W*(M / (Q*W))+M % (Q*W)):=by rw [h]
  rw [h2,kf,Nat.add_comm];congr 1
  simp only [jt,iw]
 rw [e3,qw _ _ hQ,qz,e2]
theorem AVF {q:Nat} (hq:q<18446744073709551616) (M i:Nat):CF (EY q (AE M i)) (GA q M i) 0=AE (q*M) i∧mW (JB q (AE M i)+C' (EY q (AE M i)) (GA q M i) 0)=GA q M (i+1):=by
 obtain ⟨h1,h2,h3⟩:=NC (a:=(q:Int)) (q:=AE M i) (c:=GA q M i) dl (Bm M i) (by have:=AVD hq M i;omega)
 obtain ⟨g1,g2⟩:=AVE q M (2^(64*i)) 18446744073709551616 (bV i)
 have e:GA q M (i+1)=(q*(M / 2^(64*i) % 18446744073709551616)+GA q M i) / 18446744073709551616:=by unfold GA;rw [AFF];exact g1
 have e':((q*(M / 2^(64*i) % 18446744073709551616)+GA q M i:Nat):Int)=q*AE M i+GA q M i:=by rw [mr,iy];rfl
 have g2':AE (q*M) i=((q*(M / 2^(64*i) % 18446744073709551616)+GA q M i:Nat):Int) % 18446744073709551616:=by
  show ((q*M / 2^(64*i) % 2^64:Nat):Int)=_;rw [show (2:Nat)^64=18446744073709551616 from rfl,g2];rfl
 have e'':((GA q M (i+1):Nat):Int)=((q*(M / 2^(64*i) % 18446744073709551616)+GA q M i:Nat):Int) / 18446744073709551616:=by rw [e];rfl
 rw [g2',e'',e',h1];constructor<;>omega
def wl (k x:Nat):dp:=(List.range k).map (AE x)
theorem AFG (k x:Nat):(wl k x).length=k:=by simp [wl]
theorem AVG {k x:Nat}:∀ d∈wl k x,0≤d∧d<18446744073709551616:=fun d hd=>by
 obtain ⟨i,_,rfl⟩:=jj.1 hd;exact Bm x i
theorem sN:∀ {l:dp},(∀ d∈l,0≤d∧d<18446744073709551616)→((AI l:Nat):Int)=BX l
 | [],_=>rfl
 | d::r,h=>by
  have hd:=h d (by simp)
  have ih:=sN (l:=r) fun d h'=>h d (by simp [h'])
  simp only [AI,BX];omega
theorem sO {k x:Nat} (h:x<2^(64*k)):AI (wl k x)=x:=by
 have:=sN (AVG (k:=k) (x:=x))
 rw [show wl k x=(List.range k).map (AE x) from rfl,WM k x h] at this
 exact Int.ofNat.inj this
theorem AVH {l:dp} {n:Nat} (h:l.length=n):AA l 0 n=l:=by subst h;simp [AA]
theorem AFH {k x i:Nat} (h:i<k):(wl k x).getD i 0=AE x i:=by simp [wl,List.getD_eq_getElem?_getD,h]
theorem AVI {l:dp} (h:∀ d∈l,0≤d∧d<18446744073709551616):l=wl l.length (AI l):=(WN l _ h (sN h)).1
def Gw (L T N i:Nat):dp:=(List.range N).map fun j=>if j<i then Bq L T j else AE L j
theorem AVJ {L T N i:Nat} (h:i<N):(Gw L T N i).getD i 0=AE L i:=by simp [Gw,List.getD_eq_getElem?_getD,h]
theorem AVK {L T N i:Nat} (h:i<N):(Gw L T N i).set i (Bq L T i)=Gw L T N (i+1):=by
 refine List.ext_getElem? fun j=>?_
 rw [List.getElem?_set];by_cases hj:j<N
 ·by_cases e:i=j
  ·subst e;simp [Gw,h]
  ·simp only [Gw,nx,List.getElem?_range hj,Option.map_some,fv e];by_cases q:j<i
   ·rw [fw q,fw dl]
   ·rw [fv q,fv dl]
 ·have e:i≠j:=dl
  rw [fv e];simp [Gw,hj]
theorem AVL (L T N:Nat):Gw L T N 0=wl N L:=by simp [Gw,wl]
theorem AVM {L T N:Nat} (hT:T≤L) (hL:L<2^(64*N)):Gw L T N N=wl N (L-T):=by
 have e:Gw L T N N=(List.range N).map (Bq L T):=kb fun j hj=>fw (jl.1 hj)
 have h:=ADt (k:=N) hL (mg hT hL)
 have e2:(L+(2^(64*N)-T)) % 2^(64*N)=L-T:=by
  rw [show L+(2^(64*N)-T)=(L-T)+2^(64*N) by omega,ma,ge dl]
 rw [e2] at h;have:=(WN ((List.range N).map (Bq L T)) (L-T) (fun d hd=>by obtain ⟨i,_,rfl⟩:=jj.1 hd;exact Ey L T i) h).1
 rw [e,this];simp [wl]
theorem AVN {L M Q t q:Nat} (hM:M<(t+1)*Q) (hq:q≤L / Q / (t+1)):q*M≤L:=by
 calc q*M≤q*((t+1)*Q):=j_ _ dl
  _=q*(t+1)*Q:=by rw [iw]
  _≤L / Q*Q:=jp _ (ji (jp _ hq) (nr _ _))
  _≤L:=nr _ _
def XO (N x:Nat):Heap:=[(0,some ⟨38,[.seq .u64 (wl N x)],false⟩)]
section
variable {ms:dp} {n m M:Nat} (hm:∀ d∈ms,0≤d∧d<18446744073709551616) (hl:n≤ms.length) (hn:n≤1125899906842624) {V:Nat} (hV:AI (AA ms 0 n)=V) (h0:0<V) {β0:Env} {w0:World} (hb:∀ b,2≤b→β0 b=none)
include hm hl hn hV h0 hb
omit h0 in
theorem AVO {L q:Nat} (hq:q<18446744073709551616) {R:Ending→World→Prop} (hk:ASafe dn 234 β0 w0 R Tryz.f234.ntmps [0] (NP (Gw L (q*V) (n+1) (n+1)) ms n m (n+1) M [])) :
  ∀ r i,i+r=n+1→ASafe dn 234 β0 w0 R Tryz.f234.ntmps [0] (T_ (Gw L (q*V) (n+1) i) ms n m (n+1) M q (Bz L (q*V) i) i (GA q V i) []):=by
 intro r;induction r with
 | zero =>
  intro i hi;obtain rfl:i=n+1:=dl
  exact Ae du (Ag (AH Lt Ab) AB (AVC ..) ⟨by simp only [AJ,gi,gc];omega,by simp,trivial⟩ (AQ dk) hb ft fun _=>hk)
 | succ r ih =>
  intro i hi;obtain ⟨w1,w2⟩:=AVF hq V i;have ha:BT ms 0 n i=AE V i:=by rw [← hV];exact oS (off:=0) (n:=n) hm i
  have ei:0+(i:Int).toNat*1=i:=dl
  have hlen:(Gw L (q*V) (n+1) i).length=n+1:=by simp [Gw]
  refine Ae dw (Ag (AH Lt Ab) AB (AVB ..) ?_ (AQ dk) hb (fun k h=>by simpa using h) fun _=>?_)
  ·rw [ei,hlen];refine ⟨by simp only [AJ,gi,gc];omega,by simp<;>omega,gb dl,by simp only [AJ,gi,gc];omega,by simp,rfl,by simp<;>omega,by simp<;>omega,DG (FX L _ i),by simp<;>omega,by simp<;>omega,trivial⟩
  ·unfold sL sM;rw [ei,ha,w1,w2,AVJ dl,Ao (z:=(i:Int)+1) dl];show ASafe _ _ _ _ _ _ _ (T_ ((Gw L (q*V) (n+1) i).set i (Bq L (q*V) i)) _ _ _ _ _ _ (Bz L (q*V) (i+1)) _ _ _);rw [AVK dl];exact ih (i+1) dl
theorem AVP:∀ L,L<2^(64*(n+1))→ASafe dn 234 β0 w0 (A4 β0 w0 [0] (.tup []) (XO (n+1) (L % V))) Tryz.f234.ntmps [0] (NP (wl (n+1) L) ms n m (n+1) M []):=by
 intro L;induction L using Nat.strongRecOn with
 | _ L ih =>
 intro hL;have hlen:=AFG (n+1) L
 have hwin:AI (AA (wl (n+1) L) 0 (n+1))=L:=by rw [AVH hlen,sO hL]
 have hbN:AJ .i64 ((n+1:Nat):Int)=true:=by simp only [AJ,gi,gc];omega
 have hbn:AJ .i64 (n:Int)=true:=by simp only [AJ,gi,gc];omega
 have hC:∀ d r,decide (V≤L)=d→AM r→AM (XN (wl (n+1) L) ms n (n+1) d r):=by
  intro d r hd hr;refine ⟨gb dl,gb dl,hbN,hbn,?_,hr⟩
  rw [hwin,hV,← hd];unfold EC;by_cases h:V≤L
  ·rw [fv dl];split<;>simp [h]
  ·rw [fw dl];simp [h]
 by_cases hle:V≤L
 ·have n1:1≤n:=by
   rcases jh n with e | e
   ·subst e;rw [show AA ms 0 0=[] by simp [AA]] at hV;simp [AI] at hV;omega
   ·exact e
  have hnI:nI n=((n-1:Nat):Int):=by unfold nI;rw [Ao dl];omega
  have htm:NQ ms n=AE V (n-1):=by
   have:=oS (off:=0) (n:=n) hm (n-1)
   rw [hV] at this;unfold NQ;rw [hnI,gj,g_,← Il (n:=n) dl];unfold BT AA at this;rw [gj] at this;exact this
  have htl:PH (wl (n+1) L) n=AE L n:=by unfold PH;rw [gj,g_,gz,AFH dl]
  have htl2:(wl (n+1) L).getD (0+(nI n).toNat*1) 0=AE L (n-1):=by rw [hnI,gj,g_,gz,AFH dl]
  have bt:=Bm V (n-1)
  have bl:=Bm L n;have hVlt:V<2^(64*n):=by
   have:=Ik (AA ms 0 n) (C3 hm)
   rw [hV] at this;unfold AA at this
   rwa [h_,ir,jn dl] at this
  obtain ⟨k,rfl⟩:∃ k,n=k+1:=⟨n-1,dl⟩
  rw [Nat.add_sub_cancel] at *
  have tV:AE V k=((V / 2^(64*k):Nat):Int):=by
   show ((V / 2^(64*k) % 2^64:Nat):Int)=_;rw [ge];refine jb ?_
   rw [← gp];rwa [show 64*k+64=64*(k+1) by omega]
  have tL:AE L (k+1)=((L / 2^(64*(k+1)):Nat):Int):=by
   show ((L / 2^(64*(k+1)) % 2^64:Nat):Int)=_;rw [ge];refine jb ?_
   rw [← gp];rwa [show 64*(k+1)+64=64*(k+1+1) by omega]
  have tL2:((L / 2^(64*k):Nat):Int)=AE L (k+1)*18446744073709551616+AE L k:=by
   rw [tL];show _=_+((L / 2^(64*k) % 2^64:Nat):Int);rw [AFF,← iu];omega
  have hMb:V<(V / 2^(64*k)+1)*2^(64*k):=by rw [gw];exact Nat.lt_mul_div_succ V (bV k)
  have hD:∀ d r,decide (AE V k+1=18446744073709551616)=d→AM r→AM (bU (wl (k+1+1) L) ms (k+1) (k+1+1) d r):=by
   intro d r hd hr;refine ⟨by rw [hnI];simp<;>omega,by rw [hnI];simp<;>omega,?_,by simp<;>omega,by rw [hlen];simp<;>omega,hr⟩
   rw [htm,← hd,E'];by_cases h:AE V k+1=18446744073709551616
   ·simp [h]
   ·rw [ga h,ga dl]
  have fin:∀ (q:Nat),1≤q→q<18446744073709551616→q*V≤L→ASafe dn 234 β0 w0 (A4 β0 w0 [0] (.tup []) (XO (k+1+1) (L % V))) Tryz.f234.ntmps [0] (T_ (wl (k+1+1) L) ms (k+1) m (k+1+1) M q 0 0 0 []):=by
   intro q q1 q2 q3;have hpos:0<q*V:=Nat.mul_pos q1 h0
   have hh:=ih (L-q*V) dl dl
   have e:(L-q*V) % V=L % V:=by
    have:=Nat.sub_mul_mod (x:=L) (n:=V) (k:=q) (by rw [gw];exact q3)
    rwa [gw] at this
   rw [e,← AVM q3 hL] at hh;have:=AVO hm hl hn hV hb (m:=m) (M:=M) q2 hh (k+1+1) 0 dl
   rw [AVL] at this;have c0:((GA q V 0:Nat):Int)=0:=by unfold GA;simp [Nat.mod_one]
   rw [c0] at this;exact this
  have go:∀ (qc:Ch) (q:Nat),nv qc=.v (.int .u64 q)→1≤q→q<18446744073709551616→q*V≤L→ASafe dn 234 β0 w0 (A4 β0 w0 [0] (.tup []) (XO (k+1+1) (L % V))) Tryz.f234.ntmps [0] (bS (wl (k+1+1) L) ms (k+1) m (k+1+1) M qc):=by
   intro qc q hqc q1 q2 q3;refine Hv ?_
   have:=fin q q1 q2 q3
   have e:(XM (k+1) m (k+1+1) M qc (.n .u64 0) (.n .i64 0) (.n .u64 0)).map F6=XM (k+1) m (k+1+1) M (.v (.int .u64 q)) (.v (.int .u64 0)) (.v (.int .i64 0)) (.v (.int .u64 0)):=by
    unfold XM;simp only [i_,List.map_replicate,F6,List.map_nil,hqc];rfl
   rw [e];exact this
  have one:∀ q:Nat,q<18446744073709551616→q*V≤L→1≤max 1 q∧max 1 q<18446744073709551616∧max 1 q*V≤L∧bT (q:Int)=((max 1 q:Nat):Int):=by
   intro q h1 h2;refine ⟨dl,dl,?_,by unfold bT;split<;>omega⟩
   rcases jh q with rfl | hq
   ·simpa using hle
   ·rw [Nat.max_eq_right hq];exact h2
  by_cases ht:AE V k+1=18446744073709551616
  ·have hq:L / 2^(64*(k+1))*V≤L:=ji (j_ _ dl) (nr L (2^(64*(k+1))))
   obtain ⟨a1,a2,a3,a4⟩:=one (L / 2^(64*(k+1))) dl hq
   refine Ae dx (Ag (AH Lt Ab) AB (AU9 ..) (hC true _ (fu hle) (hD true _ (fu ht) trivial)) (AQ dk) hb ft fun _=>?_)
   rw [htl,tL,a4];exact go _ _ rfl a1 a2 a3
  ·have hmw:mW (NQ ms (k+1)+1)=((V / 2^(64*k)+1:Nat):Int):=by rw [htm,E',tV];omega
   by_cases hlt:AE L (k+1)<AE V k+1
   ·have hq:sK (wl (k+1+1) L) ms (k+1)=((L / 2^(64*k) / (V / 2^(64*k)+1):Nat):Int):=by
     unfold sK;rw [hmw,htl,htl2,gj];have:(AE L (k+1)).toNat*CY+(AE L k).toNat=L / 2^(64*k):=by
      have:=Bm L k
      unfold CY;omega
     rw [this]
    have hb1:L / 2^(64*k) / (V / 2^(64*k)+1)<18446744073709551616:=by
     refine jb ?_
     have:=Bm L k
     omega
    obtain ⟨a1,a2,a3,a4⟩:=one _ hb1 (AVN hMb (gd _))
    refine Ae ep (Ag (AH Lt Ab) AB (AU_ ..) (hC true _ (fu hle) (hD false _ (ga ht) ?_)) (AQ dk) hb ft fun _=>?_)
    ·have h4:PH (wl (k+1+1) L) (k+1)<mW (NQ ms (k+1)+1):=by rw [htl,hmw];omega
     refine ⟨fu h4,by simp<;>omega,by rw [hlen];simp<;>omega,by rw [hnI];simp<;>omega,by rw [hnI,hlen];simp<;>omega,fu h4,trivial⟩
    ·rw [hq,a4];exact go _ _ rfl a1 a2 a3
   ·refine Ae eq (Ag (AH Lt Ab) AB (AU' ..) (hC true _ (fu hle) (hD false _ (ga ht) ⟨ga (by rw [htl,hmw];omega),trivial⟩)) (AQ dk) hb ft fun _=>?_)
    exact go _ 1 rfl dl dl dl
 ·rw [ge dl];exact Ae du (Av (AH Lt Ab) AB Tryz.func234 (AVA ..) (hC false _ (ga hle) trivial) (AQ dk) hb ft)
end
theorem AVQ {ms:dp} {n m M:Nat} (hm:∀ d∈ms,0≤d∧d<18446744073709551616) (hl:n≤ms.length) (hn:n≤1125899906842624) (h0:0<AI (AA ms 0 n)) {ls:dp} (hls:∀ d∈ls,0≤d∧d<18446744073709551616) (hlen:ls.length=n+1) :
  Ac dn 234 (bQ n m (n+1) M) (Q3 ls ms) 2 [0] (.tup []) (XO (n+1) (AI ls % AI (AA ms 0 n))):=by
 refine Ay (path:=[]) Tryz.func234 dk dk fun β0 w0 hb=>?_
 refine Ag (AH Lt Ab) AB (AU8 ..) trivial (AQ dk) hb ft fun _=>?_
 have e:=AVI hls;rw [hlen] at e;have hlt:=Ik ls hls;rw [hlen] at hlt;have:=AVP hm hl hn rfl h0 (m:=m) (M:=M) (w0:=w0) hb (AI ls) hlt
 rw [← e] at this;exact this
def takeSpec:ASpec:=fun args H fr path =>
 match args with
 | [.val false [.sl k off N _],.val false [.sl t off' n _],I]=>match Bg (some I),AF H k,AF H t with
  | some (_,.i64,i),some ⟨ty,cs,false⟩,some ⟨_,ds,_⟩=>match Az .u64 cs,Az .u64 ds,Nat.beq k t,Nat.beq off 0&&(Nat.beq off' 0&&Nat.beq ty 38) with
   | some ls,some ms,false,true=>some (BI [k,t] 2 fr 0 [0] (.tup []) (XO N (AI ls % AI (AA ms 0 n))) [(Nat.beq N (n+1),true),(Nat.beq N ls.length,true),(Nat.ble n ms.length,true),(Nat.ble n 1125899906842624,true),(decide (i=n),true),(Nat.blt 0 (AI (AA ms 0 n)),true)] path)
   | _,_,_,_=>none
  | _,_,_=>none
 | _=>none
theorem AVR:A' dn 234 takeSpec:=by
 refine DC Tryz.func234 dk dk fun args H fr path r h=>?_
 unfold takeSpec at h;split at h;case h_2=>cases h
 rename_i k off N M t off' n m I;split at h;case h_2=>cases h
 rename_i c0 i ty cs ty' ds o' hI hk ht;split at h;case h_2=>cases h
 rename_i ls ms hls hms hkt hoff;injection h with h;simp only [gi] at hoff;obtain ⟨o1,o2,o3⟩:=hoff;obtain rfl:=An.1 o1
 obtain rfl:=An.1 o2
 obtain rfl:=An.1 o3
 refine ⟨[k,t],2,0,[0],_,_,_,path,h.symm,fun β us w ha hg hc=>?_⟩
 obtain ⟨u1,us1,r1,⟨u2,us2,r2,⟨u3,us3,r3,ha,rfl⟩,rfl⟩,rfl⟩:=ha;obtain ⟨c1,c2,c3,c4,c5,c6,_⟩:=hc;obtain rfl:=An.1 c1
 have hil:i=(n:Int):=by simpa using c5
 subst hil;obtain ⟨l1,g1⟩:=JE hg hk;obtain ⟨_,b1⟩:=C8 hls g1;obtain ⟨l2,g2⟩:=JE hg ht;obtain ⟨_,b2⟩:=C8 hms g2;obtain ⟨rfl,p1⟩:=Cy (β:=β) (u:=u3) (fun A hA=>by injection hA with hA;subst hA;exact r3) hI
 have hne:k≠t:=IR hkt
 refine ⟨bQ n m (n+1) M,Q3 ls ms,AVQ (fun d hd=>D3 (b2 d hd)) (f_ c3) (f_ c4) (BP.1 c6) (fun d hd=>D3 (b1 d hd)) (An.1 c2).symm,dk,
  ⟨u1,_,CJ dl rfl r1,⟨u2,_,CJ dl rfl r2,⟨_,us3,Aq ⟨rfl,rfl,p1⟩,ha,rfl⟩,rfl⟩,rfl⟩,?_,fun j hj=>?_⟩
 ·refine WO (ρ:=[k,t]) (bs:=[⟨38,[.seq .u64 ls],false⟩,Am [.seq .u64 ms]]) hg (fun j d hj=>?_) fun i j d hi hr hij hj=>?_
  ·match j,hj with
   | 0,hj =>
    injection hj with hj;subst hj;refine ⟨_,hk,.inr ⟨rfl,rfl⟩,fun l hl=>?_⟩
    obtain ⟨q1,q2⟩:=C8 hls hl;exact ⟨_,[],⟨q1,q2⟩,rfl,by simp⟩
   | 1,hj =>
    injection hj with hj;subst hj;refine ⟨_,ht,.inl ⟨rfl,rfl,nofun⟩,fun l hl=>?_⟩
    obtain ⟨q1,q2⟩:=C8 hms hl;exact ⟨_,[],⟨q1,q2⟩,rfl,by simp⟩
  ·match i,j,hi,hj,hij with
   | 0,1,_,_,_=>exact hne
   | 1,_,hi,_,_=>injection hi with hi;subst hi;exact absurd rfl hr
   | 0,0,_,_,q=>exact absurd rfl q
 ·match j,hj with
  | 0,_=>exact CC (hg.heap _ _ hk)
  | 1,_=>exact CC (hg.heap _ _ ht)
noncomputable def SIa:dt:=(234,takeSpec)::S22
theorem AVS:AT dn SIa:=⟨AVR,Lt⟩
noncomputable abbrev oMd:Orc:=AG SIa K0
theorem bW:OrcOk dn oMd:=AH AVS Ab
def bX (off n m N M:Nat):List AV:=[.val false [.sl 0 off N M],.val false [.sl 1 0 n m]]
noncomputable def AVT:List Item:=Bv (AW dn oMd (some 0) 100 2 none (Ah Tryz.f169 (bX 0 0 0 0 0) (F5 [] []) 2 []))
noncomputable def mdT (off n m N M:Nat) (k:Int):List AV:=.val false [.sl 0 off N M]::.val false [.sl 1 0 n m]::.any::.any::.val false [.v (.slice none 0 0)]::.val false [.n .i64 0]::.val false [.v (.int .i64 k)]::List.replicate (Tryz.f169.ntmps-7) .any
noncomputable def sP (off:Nat) (xs ms:dp) (n m N M:Nat) (k:Int) (p:List Bool):ASt:=⟨AVT,⟨mdT off n m N M k,F5 xs ms,2,p⟩⟩
noncomputable def AVV:List Item:=Bv (AW dn oMd (some 0) 100 2 none (sP 0 [] [] 0 0 0 0 0 eq))
noncomputable def AVW (off n m N M L:Nat) (k i:Int):List AV:=.val false [.sl 0 off N M]::.val false [.sl 1 0 n m]::.any::.any::.val false [.v (.slice none 0 0)]::.val false [.n .i64 0]::.val false [.v (.int .i64 k)]::.val false [.sl 2 0 L L]::.val false [.v (.int .i64 i)]::List.replicate (Tryz.f169.ntmps-9) .any
noncomputable def XP (off:Nat) (xs ms ls:dp) (n m N M L:Nat) (k i:Int) (p:List Bool):ASt:=⟨AVV,⟨AVW off n m N M L k i,[(0,some (Am [.seq .u64 xs])),(1,some (Am [.seq .u64 ms])),(2,some ⟨38,[.seq .u64 ls],false⟩)],3,p⟩⟩
def bY (L:Nat) (ls:dp) (x:Int):dp:=(List.take (0+Int.toNat 1*1) ls++(List.take (Nat.min L (L-Int.toNat 1)) (List.drop 0 ls)++List.drop (0+Int.toNat 1*1+Nat.min L (L-Int.toNat 1)*1) ls)).set (0+Int.toNat 0*1) x
def sQ (L:Nat) (ls:dp):dp:=List.take (0+Int.toNat 1*1) ls++(List.take (Nat.min L (L-Int.toNat 1)) (List.drop 0 ls)++List.drop (0+Int.toNat 1*1+Nat.min L (L-Int.toNat 1)*1) ls)
def NR (n:Nat):Int:=wI ((n:Int)+1)
section
variable (off:Nat) (xs ms ls:dp) (n m N M L:Nat) (k i:Int)
theorem AVX:AW dn oMd (some 0) 100 2 (some ([0,1,4,5,6],[0,1],2)) (Ah Tryz.f169 (bX off n m N M) (F5 xs ms) 2 [])=some ([(AJ .i64 n,true)],[],sP off xs ms n m N M n []):=dk
theorem AVY:AW dn oMd (some 0) 100 2 (some ([0,1,4,5,6,7,8],[0,1,2],3)) (sP off xs ms n m N M k eq) =
 some ([(decide (0<k),true),(decide (0≤wI (k-1)∧wI (k-1)<n),true),(decide (0+(wI (k-1)).toNat*1<ms.length),true),(decide (ms.getD (0+(wI (k-1)).toNat*1) 0=0),false),(decide (k=0),false),(AJ .i64 n,true),
  (decide (0≤NR n∧NR n≤NR n∧((8:Nat):Int)*NR n≤281474976710656∧NR n≤9223372036854775807),true),(AJ .i64 N,true)],[],
  XP off xs ms (List.replicate (NR n).toNat 0) n m N M (NR n).toNat k (wI ((N:Int)-1)) []):=dk
theorem AVZ:AW dn oMd (some 0) 100 2 (some ([0,1,4,5,6,7,8],[0,1,2],3)) (XP off xs ms ls n m N M L k i ee) =
 some ([(decide (0≤i),true),(decide ((0:Int)≤1∧1≤(L:Int)),true),(Nat.beq L (Int.toNat 1),false),(Nat.ble (0+Nat.min L (L-Int.toNat 1)) ls.length,true),(Nat.ble (0+Int.toNat 1*1+Nat.min L (L-Int.toNat 1)*1) ls.length,true),
  (decide (0≤i∧i<N),true),(decide (off+i.toNat*1<xs.length),true),(decide ((0:Int)≤0∧0<(L:Int)),true),(decide (0+Int.toNat 0*1<(sQ L ls).length),true),(decide (0≤k∧k≤m),true),(true,true),
  (Nat.beq L (k.toNat-0+1),true),(Nat.beq L (bY L ls (xs.getD (off+i.toNat*1) 0)).length,true),(Nat.ble (k.toNat-0) ms.length,true),(Nat.ble (k.toNat-0) 1125899906842624,true),(decide (k=((k.toNat-0:Nat):Int)),true),(Nat.blt 0 (AI (AA ms 0 (k.toNat-0))),true)],[],
  XP off xs ms (wl L (AI (bY L ls (xs.getD (off+i.toNat*1) 0)) % AI (AA ms 0 (k.toNat-0)))) n m N M L k (wI (i-1)) []):=dk
def sR (n L:Nat):AV:=.tup [(false,[.sl 2 0 ((n:Int).toNat-0) (L-0)]),(false,[.n .i64 0])]
def sS (L x:Nat):Heap:=[(2,some ⟨38,[.seq .u64 (wl L x)],false⟩)]
theorem AVa:AR dn oMd Tryz.f169 100 2 [2] (XP off xs ms ls n m N M L k i du) =
 some ([(decide (0≤i),false),(AJ .i64 n,true),(decide (0≤(n:Int)∧(n:Int)≤L),true),(true,true)],[],sR n L,[(2,some ⟨38,[.seq .u64 ls],false⟩)]):=dk
end
theorem AFI {n:Nat} {ls:dp} (h:ls.length=n+1) (x:Int):bY (n+1) ls x=x::ls.take n:=by
 obtain ⟨a,r,rfl⟩:∃ a r,ls=a::r:=by cases ls with | nil=>simp at h | cons a r=>exact ⟨a,r,rfl⟩
 have e1:Int.toNat 1=1:=rfl
 have e0:Int.toNat 0=0:=rfl
 have e2:Nat.min (n+1) (n+1-1)=n:=Nat.min_eq_right dl
 unfold bY;rw [e1,e0,e2];have e3:List.drop (0+1*1+n*1) (a::r)=[]:=nl (by simp at h ⊢;omega)
 rw [e3];simp
theorem sU (n X:Nat):(wl (n+1) X).take n=wl n X:=by
 unfold wl;rw [← oh,p_,List.take_left' (by simp)]
theorem AVb {n:Nat} {ls:dp} (h:ls.length=n+1):0<(sQ (n+1) ls).length:=by
 unfold sQ;rw [ib,h_,h];have e1:Int.toNat 1=1:=rfl
 rw [e1];omega
theorem AVc (n:Nat):wl n 0=List.replicate n 0:=by
 unfold wl;refine List.ext_getElem? fun i=>?_
 by_cases h:i<n
 ·simp [h,AE]
 ·simp [h]
theorem AVd {xs ms:dp} {off n m N M:Nat} (hx:∀ d∈xs,0≤d∧d<18446744073709551616) (hm:∀ d∈ms,0≤d∧d<18446744073709551616) (hl:off+N≤xs.length) (hN:AJ .i64 N=true) (hl':n+1≤ms.length) (hn:n+1≤1099511627776) (hnm:n+1≤m) (ht:ms.getD n 0≠0) :
  Ac dn 169 (bX off (n+1) m N M) (F5 xs ms) 2 [] (.tup [(false,[.sl 2 0 (n+1) (n+1+1)]),(false,[.n .i64 0])]) (sS (n+1+1) (AI (AA xs off N) % AI (AA ms 0 (n+1)))):=by
 have bN:N≤9223372036854775807:=by simp only [AJ,gi,gc] at hN;omega
 have hbn:AJ .i64 ((n+1:Nat):Int)=true:=by simp only [AJ,gi,gc];omega
 have hV0:0<AI (AA ms 0 (n+1)):=by
  have:=WX (AA ms 0 (n+1)) n (C3 hm)
  rw [show (AA ms 0 (n+1)).getD n 0=ms.getD n 0 from by unfold AA;rw [Il dl,gz]] at this
  have hb:=M5 hm n;rcases jh (AI (AA ms 0 (n+1))) with e | e
  ·rw [e,Nat.zero_div,lv] at this;omega
  ·exact e
 have hVlt:AI (AA ms 0 (n+1))<2^(64*(n+1)):=by
  have:=Ik (AA ms 0 (n+1)) (C3 hm)
  unfold AA at this ⊢
  rwa [h_,ir,jn dl] at this
 refine Ay (path:=[]) Tryz.func169 dk dk fun β0 w0 hb=>?_
 refine Ag bW AB (AVX ..) ⟨hbn,trivial⟩ (AQ dk) hb ft fun _=>?_
 have e1:wI (((n+1:Nat):Int)-1)=(n:Int):=by rw [Ao dl];omega
 have e2:NR (n+1)=((n+1+1:Nat):Int):=by unfold NR;rw [Ao dl];omega
 refine Ae eq (Ag bW AB (AVY ..) ?_ (AQ dk) hb ft fun _=>?_)
 ·rw [e1,e2];refine ⟨by simp<;>omega,by simp<;>omega,by simp<;>omega,?_,by simp<;>omega,hbn,by simp only [gc];omega,hN,trivial⟩
  rw [gj,g_,gz];exact ga ht
 rw [e2,gj,← AVc];generalize hA:AI (AA xs off N)=A
 have hNw:(AA xs off N).length=N:=by unfold AA;rw [h_,ir];omega
 have hA2:A<2^(64*N):=by rw [← hA];have:=Ik (AA xs off N) (C3 hx);rwa [hNw] at this
 generalize hV:AI (AA ms 0 (n+1))=V at *
 have loop:∀ c,c≤N→ASafe dn 169 β0 w0 (A4 β0 w0 [] (.tup [(false,[.sl 2 0 (n+1) (n+1+1)]),(false,[.n .i64 0])]) (sS (n+1+1) (A % V))) Tryz.f169.ntmps [] (XP off xs ms (wl (n+1+1) (A / 2^(64*c) % V)) (n+1) m N M (n+1+1) ((n+1:Nat):Int) ((c:Int)-1) []):=by
  intro c;induction c with
  | zero =>
   intro _;rw [je,ia,ig];have h:=Av (w0:=w0) (W:=[]) (n:=Tryz.f169.ntmps) bW AB Tryz.func169 (AVa off xs ms (wl (n+1+1) (A % V)) (n+1) m N M (n+1+1) ((n+1:Nat):Int) (((0:Nat):Int)-1)) ⟨rfl,hbn,by simp<;>omega,rfl,trivial⟩ (AQ dk) hb ft
   have e:sR (n+1) (n+1+1)=.tup [(false,[.sl 2 0 (n+1) (n+1+1)]),(false,[.n .i64 0])]:=by unfold sR;rw [gj];rfl
   rw [e] at h;exact Ae du h
  | succ c ih =>
   intro hc;have hi:((c+1:Nat):Int)-1=(c:Int):=dl
   rw [hi];have hlen:=AFG (n+1+1) (A / 2^(64*(c+1)) % V)
   have hk:((n+1:Nat):Int).toNat-0=n+1:=dl
   have t1:Int.toNat 1=1:=rfl
   refine Ae ee (Ag bW AB (AVZ ..) ?_ (AQ dk) hb (fun k h=>by cases h) fun _=>?_)
   ·rw [hk,hV,AFI hlen,hlen,t1];have e5:Nat.min (n+1+1) (n+1+1-1)=n+1:=Nat.min_eq_right dl
    rw [e5];refine ⟨by simp,by simp<;>omega,FQ dl,gb dl,gb dl,by simp<;>omega,by simp<;>omega,by simp<;>omega,fu (AVb hlen),by simp<;>omega,rfl,An.2 rfl,An.2 ?_,gb dl,gb dl,by simp,BP.2 hV0,trivial⟩
    rw [ii,h_,hlen];omega
   ·rw [hk,hV,AFI hlen,sU,Ao (z:=(c:Int)-1) dl];have hs:=TZ (C3 (off:=off) (n:=N) hx) c
    rw [hA,show (AA xs off N).getD c 0=xs.getD (off+(c:Int).toNat*1) 0 from by unfold AA;rw [Il dl,gj,g_]] at hs
    have e6:AI (xs.getD (off+(c:Int).toNat*1) 0::wl (n+1) (A / 2^(64*(c+1)) % V)) % V=A / 2^(64*c) % V:=by
     simp only [AI];rw [sO (jy (gu _ hV0) hVlt),hs]
     conv=>lhs;rw [kv,ie,ka,← ie,← kv]
    rw [e6];exact ih dl
 have:=loop N (gd _)
 rw [jf hA2,lv] at this;rw [Ao (z:=(N:Int)-1) dl];exact this
def modSpec:ASpec:=fun args H fr path =>
 match args with
 | [S,.val false [.sl t off' n m]]=>match DB S with
  | some (k,off,N)=>match AF H k,AF H t with
   | some ⟨_,cs,_⟩,some ⟨_,ds,_⟩=>match Az .u64 cs,Az .u64 ds,Nat.beq off' 0 with
    | some xs,some ms,true=>some (BI [k,t] 2 fr 1 [] (.tup [(false,[.sl 2 0 n (n+1)]),(false,[.n .i64 0])]) (sS (n+1) (AI (AA xs off N) % AI (AA ms 0 n)))
      [(Nat.ble (off+N) xs.length,true),(AJ .i64 N,true),(Nat.ble n ms.length,true),(Nat.ble n 1099511627776,true),(Nat.ble n m,true),(Nat.blt 0 n,true),(decide (ms.getD (n-1) 0=0),false)] path)
    | _,_,_=>none
   | _,_=>none
  | none=>none
 | _=>none
theorem AVe:A' dn 169 modSpec:=by
 refine DC Tryz.func169 dk dk fun args H fr path r h=>?_
 unfold modSpec at h;split at h;case h_2=>cases h
 rename_i S t off' n m;split at h;case h_2=>cases h
 rename_i k off N hS;split at h;case h_2=>cases h
 rename_i ty cs o ty' ds o' hk ht;split at h;case h_2=>cases h
 rename_i xs ms hxs hms hoff;obtain rfl:=An.1 hoff
 injection h with h;refine ⟨[k,t],2,1,[],_,_,_,path,h.symm,fun β us w ha hg hc=>?_⟩
 obtain ⟨u1,us1,r1,⟨u2,us2,r2,ha,rfl⟩,rfl⟩:=ha;obtain ⟨M,r1⟩:=EU hS r1;obtain ⟨c1,c2,c3,c4,c5,c6,c7,_⟩:=hc;obtain ⟨j,rfl⟩:∃ j,n=j+1:=⟨n-1,by have:=BP.1 c6;omega⟩
 obtain ⟨g1,g1',g2,g3⟩:=Zp hg hk ht hxs hms;exact ⟨bX off (j+1) m N M,F5 xs ms,AVd g1 g1' (f_ c1) c2 (f_ c3) (f_ c4) (f_ c5) (l_ c7),dk,
  ⟨u1,_,CJ dl rfl r1,⟨u2,_,CJ dl rfl r2,ha,rfl⟩,rfl⟩,g2,g3⟩
noncomputable def SId:dt:=(169,modSpec)::SR4
theorem AFJ:AT dn SId:=⟨AVe,AU5⟩
theorem AFK {β β':Env} {k x:Nat} (h:x<2^(64*k)) {l:List Value} (hr:AO β [.seq .u64 (wl k x)] l):AO β' [.num k x] l:=by
 obtain ⟨l1,l2,⟨h1,_⟩,h2,h3⟩:=hr;simp only [AO] at h2;subst h1;subst h2;rw [iq] at h3;have:l=words k x:=by
  rw [h3];unfold wl words;rw [kp];rfl
 rw [this];exact WJ h
def AFL (l:dp):dp:=(wl 7 (AI l % AI (AA PL 0 6))).take 6
theorem AVf (off n m:Nat) (xs:dp):AR dn (AG SId K0) Tryz.f215 300 1 [] (Ah Tryz.f215 [AP 0 off n m] (A8 xs) 1 []) =
 some ([(Nat.ble (off+n) xs.length,true),(AJ .i64 n,true),(true,true),(true,true),(true,true),(true,true),(false,false),(true,true)],[],.val true [.seq .u64 (AFL (AA xs off n))],[]):=dk
theorem AVg:AI (AA PL 0 6)=pN:=dk
theorem AVh {off n m:Nat} {xs:dp} (hl:off+n≤xs.length) (hn:n≤1125899906842624):Ac dn 215 [AP 0 off n m] (A8 xs) 1 [] (AY (AI (AA xs off n) % pN)) []:=by
 refine BA (BV AFJ Ab Tryz.func215 dk dk (AVf off n m xs) dk ⟨gb hl,Lx hn,rfl,rfl,rfl,rfl,rfl,rfl,trivial⟩) fun β u hu=>?_
 obtain ⟨l,q,rfl⟩:=hu;refine ⟨l,AFK (β:=β) (k:=6) ?_ ?_,rfl⟩
 ·rw [← C9];exact jy (gu _ Cs) dm
 ·unfold AFL at q;rw [sU,AVg] at q;exact q
noncomputable def SIe:dt:=(215,DP (W7 fun _ l=>AY (AI l % pN)))::SId
theorem AFM:AT dn SIe:=⟨D6 (rD Tryz.func215 dk dk (fun _ _=>rfl) fun _ _ _ _ _ hl hn=>AVh hl hn),AFJ⟩
end Go.Proofs.YtgnajdcdcblaoaaGreat
namespace Go.Proofs.YtgnajdcdcblaoaaGreat.Rg
def ch:Nat→Nat→Nat
 | _,0=>1
 | 0,_+1=>0
 | n+1,k+1=>ch n k+ch n (k+1)
theorem bZ:∀ {n k:Nat},n<k→ch n k=0
 | 0,_+1,_=>rfl
 | n+1,k+1,h=>by simp only [ch];rw [bZ (by omega:n<k),bZ (by omega:n<k+1)]
theorem AFN:∀ n,ch n n=1
 | 0=>rfl
 | n+1=>by simp only [ch];rw [AFN n,bZ (Nat.lt_succ_self n)]
theorem b8:∀ n k,(k+1)*ch (n+1) (k+1)=(n+1)*ch n k
 | 0,0=>rfl
 | 0,k+1=>by simp [ch]
 | n+1,0=>by
  have h:=b8 n 0;simp only [ch,g_,gz,mb] at h ⊢;omega
 | n+1,k+1=>by
  have h1:=b8 n k;have h2:=b8 n (k+1)
  have e1:ch (n+1+1) (k+1+1)=ch (n+1) (k+1)+ch (n+1) (k+1+1):=rfl
  have e2:ch (n+1) (k+1)=ch n k+ch n (k+1):=rfl
  rw [e1,kf,h2,show k+1+1=(k+1)+1 from rfl,iz (k+1) 1,h1,mb,iz (n+1) 1,mb]
  conv=>rhs;rw [e2,kf]
  omega
theorem AVi {p k:Nat} (hp:Num.Prime p) (h0:0<k) (h1:k<p):p∣ch p k:=by
 obtain ⟨q,rfl⟩:∃ q,p=q+1:=⟨p-1,dl⟩
 obtain ⟨j,rfl⟩:∃ j,k=j+1:=⟨k-1,dl⟩
 have h:=b8 q j;have hd:q+1∣(j+1)*ch (q+1) (j+1):=⟨_,h⟩
 rcases hp.dvd_mul hd with e | e
 ·exact absurd (jm dl e) dl
 ·exact e
section
variable {F:Type} [CR F]
def bE (x y:F):Nat→(Nat→Nat)→F
 | 0,f=>B3 (f 0)
 | n+1,f=>B3 (f 0)*pw y (n+1)+x*bE x y n fun k=>f (k+1)
theorem KY (x:F) (n:Nat):pw x (n+1)=pw x n*x:=rfl
theorem AVj:(B3 0:F)=0:=rfl
theorem AFO (x y:F):∀ (n:Nat) (d f:Nat→Nat),(∀ k,d (k+1)=f k)→f (n+1)=0→bE x y (n+1) (fun k=>d k+f k)=B3 (d 0)*pw y (n+1)+(x+y)*bE x y n f
 | 0,d,f,h1,h2=>by
  simp only [bE,pw];rw [h1 0,h2,NG,kz];exact ring [B3 (d 0),B3 (f 0),x,y] dk
 | n+1,d,f,h1,h2=>by
  have ih:=AFO x y n (fun k=>d (k+1)) (fun k=>f (k+1)) (fun k=>h1 (k+1)) h2
  simp only [bE] at ih ⊢;rw [ih,h1 0,NG,KY y (n+1)];generalize pw y (n+1)=Y
  exact ring [B3 (d 0),B3 (f 0),x,y,Y,bE x y n fun k=>f (k+1)] dk
theorem AFP (x y:F):∀ n,pw (x+y) n=bE x y n (ch n)
 | 0=>(zero_add 1).symm
 | n+1=>by
  have h:=AFO x y n (fun k=>match k with | 0=>0 | k+1=>ch n k) (ch n) (fun _=>rfl) (bZ (Nat.lt_succ_self n))
  have e:(fun k=>(match k with | 0=>0 | k+1=>ch n k)+ch n k)=ch (n+1):=by
   funext k
   cases k with
   | zero=>cases n<;>rfl
   | succ k=>rfl
  rw [e] at h;rw [h,KY,AFP x y n,AVj,zero_mul,zero_add,mul_comm]
theorem AFQ (x y:F):∀ (n:Nat) (f:Nat→Nat),(∀ k,k<n→(B3 (f k):F)=0)→bE x y n f=B3 (f n)*pw x n
 | 0,f,_=>(mul_one _).symm
 | n+1,f,h=>by
  simp only [bE];rw [AFQ x y n _ fun k hk=>h (k+1) dl,h 0 dl,KY x n,zero_mul,zero_add]
  generalize pw x n=X
  exact ring [B3 (f (n+1)),x,X] dk
theorem AVk {p m:Nat} (h0:(B3 p:F)=0) (h:p∣m):(B3 m:F)=0:=by
 obtain ⟨c,rfl⟩:=h;rw [W_,h0,zero_mul]
theorem AVl {p:Nat} (hp:Num.Prime p) (h0:(B3 p:F)=0) (x y:F):pw (x+y) p=pw x p+pw y p:=by
 have h2:=hp.1;obtain ⟨q,rfl⟩:∃ q,p=q+1:=⟨p-1,dl⟩
 rw [AFP];simp only [bE];rw [AFQ x y q _ fun k hk=>AVk h0 (AVi hp dl dl),AFN,KY x q]
 have e:(B3 (ch (q+1) 0):F)=1:=by show (0:F)+1=1;exact zero_add 1
 have e1:(B3 1:F)=1:=zero_add 1
 rw [e,e1];generalize pw y (q+1)=Y
 generalize pw x q=X
 exact ring [x,X,Y] dk
end
end Go.Proofs.YtgnajdcdcblaoaaGreat.Rg
namespace Go.Proofs.YtgnajdcdcblaoaaGreat
open Ex Num Rg
class Sh (α:Type) where
 R:Type
 n:Nat
 av:R→List Ch
 rd:List Ch→Option R
 mo:R→α
 en:α→R
 mo_en:∀ x,mo (en x)=x
 rd_ok:∀ {β β':Env} {cs:List Ch} {l:List Value} {r:R},rd cs=some r→AO β cs l→AO β' (av r) l
open Sh (R av rd mo en mo_en)
def Bh {α:Type}:List α→List α→List α
 | [],l=>l
 | x::r,l=>x::Bh r l
theorem AFR {α:Type}:∀ a b:List α,Bh a b=a++b
 | [],_=>rfl
 | x::r,b=>by simp [Bh,AFR r b]
def NS {A B:Type} (n:Nat) (f:List Ch→Option A) (g:List Ch→Option B) (cs:List Ch):Option (A×B):=match FO cs n with
 | some (a,r)=>match f a,g r with
  | some x,some y=>some (x,y)
  | _,_=>none
 | none=>none
theorem Q4 {A B:Type} {n:Nat} {f:List Ch→Option A} {g:List Ch→Option B} {p:A→List Ch} {q:B→List Ch} {β β':Env} (hf:∀ {cs l r},f cs=some r→AO β cs l→AO β' (p r) l) (hg:∀ {cs l r},g cs=some r→AO β cs l→AO β' (q r) l)
  {cs:List Ch} {l:List Value} {r:A×B} (h:NS n f g cs=some r) (hl:AO β cs l):AO β' (Bh (p r.1) (q r.2)) l:=by
 unfold NS at h;split at h;case h_2=>cases h
 rename_i a t h1;split at h;case h_2=>cases h
 rename_i x y h2 h3;injection h with h;subst h;obtain ⟨q1,q2,_⟩:=IP h1 hl;rw [AFR,← kj n l];exact OH (hf h2 q1) (hg h3 q2)
instance shFP:Sh FP where
 R:=Nat
 n:=6
 av x:=[.num 6 x]
 rd:=C0 6
 mo:=tf
 en:=Fin.val
 mo_en:=B7
 rd_ok:=FZ
def sV (cs:List Ch):Option Bool:=match cs with
 | [.b x]=>some x
 | [.v (.bool x)]=>some x
 | _=>none
instance shB:Sh Bool where
 R:=Bool
 n:=1
 av x:=[.v (.bool x)]
 rd:=sV
 mo x:=x
 en x:=x
 mo_en _:=rfl
 rd_ok {β β' cs l r} h hl:=by
  unfold sV at h;split at h
  ·injection h with h;subst h;obtain ⟨l1,l2,h1,h2,h3⟩:=hl;exact ⟨l1,l2,⟨h1,rfl,trivial⟩,h2,h3⟩
  ·injection h with h;subst h;obtain ⟨l1,l2,h1,h2,h3⟩:=hl;exact ⟨l1,l2,h1,h2,h3⟩
  ·cases h
section
variable {F:Type} [Sh F]
instance shQ [CR F] {β:F}:Sh (Qx β) where
 R:=R F×R F
 n:=Sh.n F+Sh.n F
 av r:=Bh (av r.1) (av r.2)
 rd:=NS (Sh.n F) rd rd
 mo r:=⟨mo r.1,mo r.2⟩
 en x:=(en x.a,en x.b)
 mo_en _:=Qx.ext (mo_en _) (mo_en _)
 rd_ok:=Q4 Sh.rd_ok Sh.rd_ok
instance shK [CR F] {ξ:F}:Sh (Kx ξ) where
 R:=R F×R F×R F
 n:=Sh.n F+(Sh.n F+Sh.n F)
 av r:=Bh (av r.1) (Bh (av r.2.1) (av r.2.2))
 rd:=NS (Sh.n F) rd (NS (Sh.n F) rd rd)
 mo r:=⟨mo r.1,mo r.2.1,mo r.2.2⟩
 en x:=(en x.a,en x.b,en x.c)
 mo_en _:=Kx.ext (mo_en _) (mo_en _) (mo_en _)
 rd_ok:=Q4 (q:=fun r:R F×R F=>Bh (av r.1) (av r.2)) Sh.rd_ok (Q4 Sh.rd_ok Sh.rd_ok)
instance shJ:Sh (J F) where
 R:=R F×R F×R F
 n:=Sh.n F+(Sh.n F+Sh.n F)
 av r:=Bh (av r.1) (Bh (av r.2.1) (av r.2.2))
 rd:=NS (Sh.n F) rd (NS (Sh.n F) rd rd)
 mo r:=⟨mo r.1,mo r.2.1,mo r.2.2⟩
 en x:=(en x.x,en x.y,en x.z)
 mo_en x:=by cases x;simp only [mo_en]
 rd_ok:=Q4 (q:=fun r:R F×R F=>Bh (av r.1) (av r.2)) Sh.rd_ok (Q4 Sh.rd_ok Sh.rd_ok)
def sW (x y:F) (i:Bool):Pt F:=match i with
 | true=>.inf
 | false=>.pt x y
def L7 [Zero F]:Pt F→F
 | .inf=>0
 | .pt x _=>x
def JP [Zero F]:Pt F→F
 | .inf=>0
 | .pt _ y=>y
def EJ:Pt F→Bool
 | .inf=>true
 | .pt _ _=>false
instance shP [Zero F]:Sh (Pt F) where
 R:=R F×R F×Bool
 n:=Sh.n F+(Sh.n F+1)
 av r:=Bh (av r.1) (Bh (av r.2.1) (av (α:=Bool) r.2.2))
 rd:=NS (Sh.n F) rd (NS (Sh.n F) rd sV)
 mo r:=sW (mo r.1) (mo r.2.1) r.2.2
 en p:=(en (L7 p),en (JP p),EJ p)
 mo_en p:=by cases p<;>simp only [L7,JP,EJ,sW,mo_en]
 rd_ok:=Q4 (q:=fun r:R F×Bool=>Bh (av r.1) (av (α:=Bool) r.2)) Sh.rd_ok (Q4 Sh.rd_ok shB.rd_ok)
end
def va (α:Type) [Sh α] (r:R α):AV:=.val true (av r)
def ve {α:Type} [Sh α] (x:α):AV:=va α (en x)
section
variable (α β γ:Type) [Sh α] [Sh β] [Sh γ]
def ad [Add α] (r s:R α):R α:=en (mo r+mo s:α)
def su [Sub α] (r s:R α):R α:=en (mo r-mo s:α)
def mu [Mul α] (r s:R α):R α:=en (mo r*mo s:α)
def ng [Neg α] (r:R α):R α:=en (- mo r:α)
def iv [FD α] (r:R α):R α:=en (FD.inv (mo r:α))
def re (r:R α):R α:=en (mo r:α)
def BR (g:R α→AV):List AV→Option AV
 | [.val true a]=>match rd a with
  | some r=>some (g r)
  | none=>none
 | _=>none
def C_ (g:R α→R β→AV):List AV→Option AV
 | [.val true a,.val true b]=>match rd a,rd b with
  | some r,some s=>some (g r s)
  | _,_=>none
 | _=>none
def T' (g:R α→R β→R γ→AV):List AV→Option AV
 | [.val true a,.val true b,.val true c]=>match rd a,rd b,rd c with
  | some r,some s,some t=>some (g r s t)
  | _,_,_=>none
 | _=>none
end
section
variable {α β γ:Type} [Sh α] [Sh β] [Sh γ] {P:Program} {f:FuncId}
theorem FG {b b':Env} {a:List Ch} {r:R α} {u:Value} (h:rd a=some r) (hr:AL b (.val true a) u):AL b' (va α r) u:=by
 obtain ⟨l,hl,rfl⟩:=hr;exact ⟨l,Sh.rd_ok h hl,rfl⟩
theorem EK {args:List AV} {cs:List Ch} {r:R α} (h:AS P f args (.val true cs)) (hc:rd cs=some r):AS P f args (va α r):=CW h fun _ hu=>FG hc hu
theorem BW {g:R α→AV} (h:∀ r,AS P f [va α r] (g r)):∀ args v,BR α g args=some v→AS P f args v:=by
 intro args v hs us w ha;unfold BR at hs;split at hs;case h_2=>cases hs
 split at hs;case h_2=>cases hs
 rename_i r h1;injection hs with hs;subst hs;obtain ⟨u1,us1,r1,ha,rfl⟩:=ha;exact h r _ w ⟨u1,_,FG h1 r1,ha,rfl⟩
theorem DI {g:R α→R β→AV} (h:∀ r s,AS P f [va α r,va β s] (g r s)):∀ args v,C_ α β g args=some v→AS P f args v:=by
 intro args v hs us w ha;unfold C_ at hs;split at hs;case h_2=>cases hs
 split at hs;case h_2=>cases hs
 rename_i r s h1 h2;injection hs with hs;subst hs;obtain ⟨u1,us1,r1,⟨u2,us2,r2,ha,rfl⟩,rfl⟩:=ha;exact h r s _ w ⟨u1,_,FG h1 r1,⟨u2,_,FG h2 r2,ha,rfl⟩,rfl⟩
theorem b9 {g:R α→R β→R γ→AV} (h:∀ r s t,AS P f [va α r,va β s,va γ t] (g r s t)):∀ args v,T' α β γ g args=some v→AS P f args v:=by
 intro args v hs us w ha;unfold T' at hs;split at hs;case h_2=>cases hs
 split at hs;case h_2=>cases hs
 rename_i r s t h1 h2 h3;injection hs with hs;subst hs;obtain ⟨u1,us1,r1,⟨u2,us2,r2,⟨u3,us3,r3,ha,rfl⟩,rfl⟩,rfl⟩:=ha;exact h r s t _ w ⟨u1,_,FG h1 r1,⟨u2,_,FG h2 r2,⟨u3,_,FG h3 r3,ha,rfl⟩,rfl⟩,rfl⟩
end
open Ex Num Rg
open Sh (R av rd mo en mo_en)
theorem adN (x y:Nat):D0 x y=ad FP x y:=PD (Z7 x y) (JI x y)
theorem suN (x y:Nat):EB x y=su FP x y:=PD (HN x y) (HM x y)
theorem muN (x y:Nat):Af x y=mu FP x y:=PD (Ll x y) (CH x y)
theorem ngN (x:Nat):Ct x=ng FP x:=PD (Zr x) (Z6 x)
theorem AVm (x:Nat):tf (Bk x)=NI (tf x):=by
 have e:Bk x=Bk (x % pN):=by
  unfold Bk;rw [KO,KO];exact kq x (pN-2) pN
 rw [e];unfold NI;exact gh (fun y=>tf (Bk y)) (show x % pN=(tf x).val from rfl)
theorem AVn (x:R FP):iv FP x=(NI (tf x)).val:=rfl
theorem ivN (x:Nat):Bk x=iv FP x:=(PD (ADR x) (AVm x)).trans (AVn x).symm
theorem AVo (x:Nat):Zg [AY x]=some (AY (x % pN)):=dk
theorem AVp (r:R FP):AS dn 110 [va FP r] (va FP (re FP r)):=ACN _ _ (AVo r)
noncomputable def SH1:dt:=(110,AZ (BR FP fun r=>va FP (re FP r)))::(61,AZ (C_ FP FP fun r s=>va FP (ad FP r s)))::(74,AZ (C_ FP FP fun r s=>va FP (su FP r s)))::(63,AZ (BR FP fun r=>va FP (ng FP r)))::(62,AZ (C_ FP FP fun r s=>va FP (mu FP r s)))::(75,AZ (BR FP fun r=>va FP (iv FP r)))::(141,AZ (FY fun r=>va FP (re FP r)))::(68,AZ (C_ FP FP fun r s=>va FP (ad FP r s)))::(83,AZ (C_ FP FP fun r s=>va FP (su FP r s)))::(70,AZ (BR FP fun r=>va FP (ng FP r)))::(66,AZ (C_ FP FP fun r s=>va FP (mu FP r s)))::(161,AZ (BR FP fun r=>va FP (iv FP r)))::SIe
theorem sZ:AT dn SH1:=⟨Aa Tryz.func110 dk dk (BW AVp),Aa Tryz.func61 dk dk (DI fun r s=>by rw [← adN];exact ACP r s),Aa Tryz.func74 dk dk (DI fun r s=>by rw [← suN];exact ACS r s),Aa Tryz.func63 dk dk (BW fun r=>by rw [← ngN];exact ACQ r),Aa Tryz.func62 dk dk (DI fun r s=>by rw [← muN];exact ACf r s),Aa Tryz.func75 dk dk (BW fun r=>by rw [← ivN];exact ADW r),Aa Tryz.func141 dk dk (GR fun r h=>AD2 h),Aa Tryz.func68 dk dk (DI fun r s=>by rw [← adN];exact AD8 r s),Aa Tryz.func83 dk dk (DI fun r s=>by rw [← suN];exact AD_ r s),Aa Tryz.func70 dk dk (BW fun r=>by rw [← ngN];exact AD9 r),Aa Tryz.func66 dk dk (DI fun r s=>by rw [← muN];exact AEE r s),Aa Tryz.func161 dk dk (BW fun r=>by rw [← ivN];exact AEQ r),AFM⟩
theorem XQ {k m:Nat} (hk:(pN-1) / k*k=pN-1) (hlt:Nat.blt ((pN-1) / k) RR=true) (h0:0<m) (hc:Nat.beq (O0 pN m 384 ((pN-1) / k)) 1=false) (hk0:0<k) (x:Nat):x^k % pN≠m:=by
 intro h;have hnd:¬ pN∣x:=fun hd=>by
  have:x^k % pN=0:=by
   obtain ⟨c,hcc⟩:=hd;obtain ⟨j,rfl⟩:∃ j,k=j+1:=⟨k-1,dl⟩
   rw [hcc,ip,gw,iw,Nat.mul_mod_right]
  omega
 have hf:=Qk pN_prime hnd;rw [← hk,gw,mf,kq,h,← oT pN 384 m ((pN-1) / k) (by rw [ACo];exact BP.1 hlt)] at hf
 rw [hf] at hc;cases hc
theorem AVq {a b:Nat} (h:Nat.beq (a % pN) (b % pN)=true):tf a=tf b:=Qr.2 (An.1 h)
theorem s6 {m:Nat} (h:∀ x:Nat,x^2 % pN≠m) (hm:m<pN) (x:FP):x*x≠tf m:=fun e=>by
 refine h x.val ?_
 have:tf (x.val^2)=tf m:=by rw [pe,O6,B7];exact e
 rw [Qr,ge hm] at this;exact this
theorem AFX {m:Nat} (h:∀ x:Nat,x^3 % pN≠m) (hm:m<pN) (x:FP):x*x*x≠tf m:=fun e=>by
 refine h x.val ?_
 have:tf (x.val^3)=tf m:=by rw [ip,pe,O6,O6,B7];exact e
 rw [Qr,ge hm] at this;exact this
theorem k2:(pN-1) / 2*2=pN-1:=dk
theorem s7:Nat.blt ((pN-1) / 2) RR=true:=dk
theorem AVr:Nat.blt (pN-1) pN=true:=dk
theorem AVs:Nat.blt 0 (pN-1)=true:=dk
theorem AVt:tf (pN-1)=-1:=by
 have h:tf (pN-1)+1=0:=by rw [← DS,← F7,Z8];kernel_rfl
 exact JK (by rw [Rg.add_comm];exact h)
theorem AFY (x:FP):x*x≠-1:=by
 rw [← AVt];exact s6 (XQ k2 s7 (BP.1 AVs) dk dm) (BP.1 AVr) x
theorem AVu (x:FP):x*x≠tf 2:=s6 (XQ k2 s7 dm dk dm) dm x
theorem AVv (x:FP):x*x*x≠tf 2:=AFX (XQ p3 rT dm dk dm) dm x
theorem AVw (x:FP):x*x*x≠tf 32:=AFX (XQ p3 rT dm dk dm) dm x
abbrev FP2:Type:=Qx (-1:FP)
noncomputable instance fdFP2:FD FP2:=fdQ AFY
noncomputable def xi:FP2:=⟨1,1⟩
theorem AFZ:(xi:FP2).nrm=tf 2:=by
 show (1:FP)*1 - -1*(1*1)=tf 2;rw [show tf 2=(1:FP)+1 from by rw [← DS,← F7]]
 exact ring (F:=FP) [] dk
theorem AVx (x:FP2):x*x*x≠xi:=fun e=>AVv x.nrm (((Qx.nrm_mul (x*x) x).trans (by rw [Qx.nrm_mul])).symm.trans ((gh Qx.nrm e).trans AFZ))
theorem AVy (x:FP2):x*x≠xi:=fun e=>AVu x.nrm ((Qx.nrm_mul x x).symm.trans ((gh Qx.nrm e).trans AFZ))
abbrev FP6:Type:=Kx xi
noncomputable instance fdFP6:FD FP6:=fdK AVx
noncomputable def vv:FP6:=⟨0,1,0⟩
theorem AVz:(vv:FP6).nrm=xi:=by
 show (0:FP2)*(0*0-xi*(1*0))+xi*(0*(xi*(0*0)-0*1)+1*(1*1-0*0))=xi;exact ring [xi] dk
theorem AV0 (x:FP6):x*x≠vv:=fun e=>AVy x.nrm ((Kx.nrm_mul x x).symm.trans ((gh Kx.nrm e).trans AVz))
abbrev FP12:Type:=Qx vv
noncomputable instance fdFP12:FD FP12:=fdQ AV0
noncomputable def JQ:FP2:=⟨DL,DL⟩
theorem AV1:DL*DL - -1*(DL*DL)=tf 32:=by
 have e:DL*DL=tf 16:=(O6 4 4).symm
 have e2:tf 16+tf 16=tf 32:=(F7 16 16).symm
 rw [e,← e2];exact ring [tf 16] dk
noncomputable def C2:Cv FP2 where
 b:=JQ
 two:=fun h=>C1.two (by
  have:=gh Qx.a h
  exact this)
 no2:=fun x y h hy=>by
  subst hy;have h1:x*x*x=-JQ:=JK (by rw [Rg.add_comm,← h];exact mul_zero 0)
  refine AVw x.nrm ?_
  rw [← Qx.nrm_mul,← Qx.nrm_mul,h1,← AV1];show -DL*-DL - -1*(-DL*-DL)=_;exact ring [DL] dk
theorem AFa:∀ n,(B3 n:FP)=tf n
 | 0=>tf_zero.symm
 | n+1=>by rw [F7,DS,← AFa n];rfl
theorem AV2:(B3 pN:FP)=0:=by rw [AFa];exact oY
noncomputable def CX (x:FP):Bool:=CL x.val
noncomputable def CM (x:FP):FP:=tf (DQ x.val)
def NT (x:FP):Bool:=Nat.beq (x.val % 2) 1
theorem NU {x:FP} (h:CX x=true):CM x*CM x=x:=by
 obtain ⟨h1,_,_⟩:=o9 h;unfold CM;rw [← CH,h1,O5,B7]
theorem L8 {x y:FP} (h:y*y=x):CX x=true:=by
 unfold CX;by_cases h0:x.val % pN=0
 ·exact APo h0
 ·refine (AC0 h0).2 ?_
  have hx:x.val=y.val*y.val % pN:=by rw [← h];rfl
  unfold M6;rw [hx,← kq,← pe,← mf,gw 2,k2];refine Qk pN_prime fun hd=>h0 ?_
  obtain ⟨c,hc⟩:=hd;rw [hx,hc,ka,iw,Nat.mul_mod_right]
theorem AFb {x:FP}:CX x=true↔∃ y,y*y=x:=⟨fun h=>⟨_,NU h⟩,fun ⟨_,h⟩=>L8 h⟩
theorem cA {x y:FP} (h:x*x=y*y):x=y∨x=-y:=by
 have e:(x-y)*(x+y)=0:=by
  have:(x-y)*(x+y)=x*x-y*y:=ring [x,y] dk
  rw [this,h,sub_self]
 rcases Tx e with e | e
 ·exact .inl (AX.1 e)
 ·exact .inr (JK (by rw [Rg.add_comm];exact e))
theorem AV3 {x:FP} (h:x≠0):(-x).val=pN-x.val:=by
 have hx:x.val≠0:=fun e=>h (XI.1 e)
 have h1:tf (pN-x.val)=-x:=by
  have:=Z6 x.val
  rw [B7] at this;unfold Ct at this;rw [ge x.isLt,O5] at this;exact this
 rw [← h1,GW (by have:=x.isLt;omega)]
theorem AFc {x:FP} (h:x≠0):NT (-x)=!NT x:=by
 have hx:x.val≠0:=fun e=>h (XI.1 e)
 unfold NT;rw [AV3 h];have:=x.isLt
 have ho:=Wb;have:(pN-x.val) % 2=(1+x.val % 2) % 2:=dl
 rw [this];rcases ke x.val with e | e<;>rw [e]<;>rfl
noncomputable def Co (a:FP2):Bool:=if a.a=0 then NT a.b else NT a.a
theorem UA {x:FP}:-x=0↔x=0:=⟨fun h=>by rw [← neg_neg x,h,GU],fun h=>by rw [h,GU]⟩
theorem cB {a:FP2} (h:a≠0):Co (-a)=!Co a:=by
 unfold Co;show (if -a.a=0 then NT (-a.b) else NT (-a.a))=_
 by_cases h1:a.a=0
 ·rw [fw (UA.2 h1),fw h1];exact AFc fun e=>h (Qx.ext h1 e)
 ·rw [fv fun e=>h1 (UA.1 e),fv h1]
  exact AFc h1
theorem AFd {x y:FP2} (h:x*x=y*y):x=y∨x=-y:=by
 have e:(x-y)*(x+y)=0:=by
  have:(x-y)*(x+y)=x*x-y*y:=ring [x,y] dk
  rw [this,h,sub_self]
 rcases Tx e with e | e
 ·exact .inl (AX.1 e)
 ·exact .inr (JK (by rw [Rg.add_comm];exact e))
noncomputable def CN (a:FP2):Bool:=@decide (∃ s:FP2,s*s=a) (Classical.propDecidable _)
theorem H3 {a:FP2}:CN a=true↔∃ s:FP2,s*s=a:=@decide_eq_true_iff _ (Classical.propDecidable _)
theorem cC (a:FP2):∃ x:FP2,(CN a=true→x*x=a∧Co x=false)∧(CN a=false→x=0):=by
 cases h:CN a with
 | false=>exact ⟨0,(fun e=>by cases e),fun _=>rfl⟩
 | true =>
  obtain ⟨s,hs⟩:=H3.1 h;cases hg:Co s with
  | false=>exact ⟨s,fun _=>⟨hs,hg⟩,(fun e=>by cases e)⟩
  | true =>
   refine ⟨-s,fun _=>⟨?_,?_⟩,(fun e=>by cases e)⟩
   ·rw [← hs];exact ring [s] dk
   ·rw [cB,hg];rfl
    intro e;rw [e] at hg;have:Co 0=false:=fw rfl
    rw [this] at hg;cases hg
noncomputable def EL (a:FP2):FP2:=Classical.choose (cC a)
theorem AFe {a:FP2} (h:CN a=true):EL a*EL a=a:=((ij (cC a)).1 h).1
theorem AV4 {a:FP2} (h:CN a=true):Co (EL a)=false:=((ij (cC a)).1 h).2
theorem AV5 {a:FP2} (h:CN a=false):EL a=0:=(ij (cC a)).2 h
theorem AV6 {a s:FP2} (h:s*s=a) (hg:Co s=false):EL a=s:=by
 have hi:=H3.2 ⟨s,h⟩
 rcases AFd ((AFe hi).trans h.symm) with e | e
 ·exact e
 ·by_cases h0:s=0
  ·rw [e,h0,GU]
  ·have:=AV4 hi
   rw [e,cB h0,hg] at this;cases this
theorem AFf:∀ (x:FP) (n:Nat),(pw x n).val=x.val^n % pN
 | x,0=>(ge (by decide:1<pN)).symm
 | x,n+1=>by
  show ((pw x n).val*x.val) % pN=_;rw [AFf x n,mn,← ip]
theorem AFg (x:FP):pw x pN=x:=by
 rw [mi,AFf,← KO,show Cu x.val pN=x.val % pN from ?_]
 ·exact ge x.isLt
 ·rw [KO];have e:pN=(pN-1)+1:=by have:=o7;omega
  by_cases h:x.val % pN=0
  ·rw [kq,h,Nat.zero_pow Cs,lv]
  ·have hf:=Qk pN_prime (a:=x.val) fun hd=>h (nf hd)
   rw [show x.val^pN=x.val^(pN-1)*x.val by rw [← ip,Nat.succ_eq_add_one,← e],ie,hf,mb,ka]
def L9 (x:FP):FP2:=⟨x,0⟩
theorem AV7 (x y:FP):L9 (x*y)=L9 x*L9 y:=Qx.ext (ring [x,y] (a:=x*y) (b:=x*y+-1*(0*0)) dk) (ring [x,y] (a:=0) (b:=x*0+0*y) dk)
theorem s8 (x:FP):∀ n,pw (L9 x) n=L9 (pw x n)
 | 0=>rfl
 | n+1=>by simp only [pw];rw [s8 x n,← AV7]
theorem AFh:∀ n,(B3 n:FP2)=L9 (B3 n)
 | 0=>rfl
 | n+1=>by
  show B3 n+1=_;rw [AFh n];exact Qx.ext rfl (add_zero _)
theorem AV8:(B3 pN:FP2)=0:=by rw [AFh,AV2];rfl
def uu:FP2:=⟨0,1⟩
theorem AFi:uu*uu=-1:=Qx.ext (ring (F:=FP) [] (a:=0*0+-1*(1*1)) (b:=-1) dk) (ring (F:=FP) [] (a:=0*1+1*0) (b:=-0) dk)
theorem AV9:pw uu pN=-uu:=by
 have e:pN=2*(2*((pN-3) / 4)+1)+1:=dk
 refine (gh (pw uu) e).trans ?_
 rw [KY,aV,show pw uu 2=-1 from by show 1*uu*uu=-1;rw [Rg.one_mul,AFi],KY,aV,show pw (-1:FP2) 2=1 from ring (F:=FP2) [] (a:=1*-1*-1) dk]
 have one:∀ n,pw (1:FP2) n=1:=by
  intro n;induction n with
  | zero=>rfl
  | succ n ih=>rw [KY,ih,Rg.one_mul]
 rw [one];exact ring [uu] dk
theorem AFj (a:FP2):pw a pN=Qx.conj a:=by
 have e:a=L9 a.a+L9 a.b*uu:=Qx.ext (ring [a.a,a.b] (a:=a.a) (b:=a.a+(a.b*0+-1*(0*1))) dk) (ring [a.a,a.b] (a:=a.b) (b:=0+(a.b*1+0*0)) dk)
 have h:=AVl pN_prime AV8 (L9 a.a) (L9 a.b*uu)
 rw [← e,Rg.pw_mul,s8,s8,AFg,AFg,AV9] at h;rw [h];exact Qx.ext (ring [a.a,a.b] (a:=a.a+(a.b*-0+-1*(0*-1))) (b:=a.a) dk) (ring [a.a,a.b] (a:=0+(a.b*-1+0*-0)) (b:=-a.b) dk)
theorem AV_:Co 0=false:=fw rfl
theorem AFk {a s:FP2} (h:s*s=a) (hg:Co s=false):s=EL a∧CN a=true:=⟨(AV6 h hg).symm,H3.2 ⟨s,h⟩⟩
noncomputable def JR (x:FP2):FP2:=if Co x=true then -x else x
theorem AFl (x:FP2):Co (JR x)=false:=by
 unfold JR;by_cases h:Co x=true
 ·rw [fw h,cB (fun e=>by rw [e,AV_] at h;cases h),h];rfl
 ·rw [fv h];cases hq:Co x with | false=>rfl | true=>exact absurd hq h
theorem s9 (x:FP2):JR x*JR x=x*x:=by
 unfold JR;split
 ·exact ring [x] dk
 ·rfl
noncomputable def Cw (h:FP) (a:FP2) (n:FP):FP:=CM ((a.a+n)*h)
noncomputable def L_ (h:FP) (a:FP2) (n:FP):FP:=if Cw h a n=0 then CM (-a.a) else a.b*h*FD.inv (Cw h a n)
noncomputable def Iv (h:FP) (a:FP2) (n:FP):FP2:=JR ⟨Cw h a n,L_ h a n⟩
noncomputable def FH (h:FP) (a:FP2) (n:FP):Bool:=(if Cw h a n=0 then CX (-a.a) else CX ((a.a+n)*h))&&decide (Iv h a n*Iv h a n=a)
theorem AV' {h:FP} {a:FP2} {n:FP} (ht:FH h a n=true):Iv h a n=EL a∧CN a=true:=by
 unfold FH at ht;exact AFk (gv (gk.1 ht).2) (AFl _)
theorem AWA {x:FP} (h:x*x=0):x=0:=(Tx h).elim id id
theorem AFm {h:FP} (hh:h+h=1) {a s:FP2} (hs:s*s=a) {n:FP} (hn:n=s.a*s.a+s.b*s.b):FH h a n=true:=by
 have ea:a.a=s.a*s.a-s.b*s.b:=by rw [← hs];exact ring [s.a,s.b] (a:=s.a*s.a+-1*(s.b*s.b)) dk
 have eb:a.b=s.a*s.b+s.b*s.a:=by rw [← hs];rfl
 have h1:(a.a+n)*h=s.a*s.a:=by
  rw [ea,hn];exact (ring [s.a,s.b,h] (a:=(s.a*s.a-s.b*s.b+(s.a*s.a+s.b*s.b))*h) (b:=s.a*s.a*(h+h)) dk).trans (by rw [hh,Rg.mul_one])
 have hi:CX ((a.a+n)*h)=true:=L8 h1.symm
 have hx:=NU hi;rw [h1] at hx;have hX:Cw h a n*Cw h a n=s.a*s.a:=by unfold Cw;rw [h1];exact hx
 have fin:∀ y,(Cw h a n=s.a∧y=s.b)∨(Cw h a n=-s.a∧y=-s.b)∨(Cw h a n=s.a∧s.a=0∧y=-s.b)→(⟨Cw h a n,y⟩:FP2)*⟨Cw h a n,y⟩=a:=by
  intro y hy;rcases hy with ⟨e1,e2⟩ | ⟨e1,e2⟩ | ⟨e1,e0,e2⟩
  ·rw [e1,e2];exact hs
  ·rw [e1,e2];have e:(⟨-s.a,-s.b⟩:FP2)=-s:=rfl
   rw [e,← hs];exact ring [s] dk
  ·rw [e1,e2];have e:(⟨s.a,-s.b⟩:FP2)=-s:=Qx.ext (by show s.a=-s.a;rw [e0,GU]) rfl
   rw [e,← hs];exact ring [s] dk
 unfold FH;by_cases h0:Cw h a n=0
 ·have s0:s.a=0:=by
   rw [h0,mul_zero] at hX;exact AWA hX.symm
  have e2:s.b*s.b=-a.a:=by rw [ea,s0];exact ring [s.b] dk
  rw [fw h0,L8 e2];refine gk.2 ⟨rfl,fu ?_⟩
  unfold Iv;rw [s9];refine fin _ ?_
  unfold L_;rw [fw h0];rcases cA ((NU (L8 e2)).trans e2.symm) with e | e
  ·exact .inl ⟨by rw [h0,s0],e⟩
  ·exact .inr (.inr ⟨by rw [h0,s0],s0,e⟩)
 ·rw [fv h0,hi];refine gk.2 ⟨rfl,fu ?_⟩
  unfold Iv;rw [s9];refine fin _ ?_
  have hy:L_ h a n=s.a*s.b*FD.inv (Cw h a n):=by
   unfold L_;rw [fv h0,eb];congr 1
   exact (ring [s.a,s.b,h] (a:=(s.a*s.b+s.b*s.a)*h) (b:=s.a*s.b*(h+h)) dk).trans (by rw [hh,Rg.mul_one])
  have hv:=FD.mul_inv (Cw h a n) h0
  rcases cA hX with e | e
  ·refine .inl ⟨e,?_⟩
   rw [hy]
   calc s.a*s.b*FD.inv (Cw h a n)=s.b*(s.a*FD.inv (Cw h a n)):=ring [s.a,s.b,FD.inv (Cw h a n)] dk
    _=s.b:=by rw [← e,hv,Rg.mul_one]
  ·refine .inr (.inl ⟨e,?_⟩)
   rw [hy]
   calc s.a*s.b*FD.inv (Cw h a n)=-s.b*(-s.a*FD.inv (Cw h a n)):=ring [s.a,s.b,FD.inv (Cw h a n)] dk
    _=-s.b:=by rw [← e,hv,Rg.mul_one]
theorem AFn {a s:FP2} (hs:s*s=a):(s.a*s.a+s.b*s.b)*(s.a*s.a+s.b*s.b)=a.a*a.a+a.b*a.b:=by
 rw [← hs];exact ring [s.a,s.b] (b:=(s.a*s.a+-1*(s.b*s.b))*(s.a*s.a+-1*(s.b*s.b))+(s.a*s.b+s.b*s.a)*(s.a*s.b+s.b*s.a)) dk
noncomputable def FI (a:FP2):FP:=a.a*a.a+a.b*a.b
theorem AWB {a:FP2} (h:CX (FI a)=false):CN a=false:=by
 cases hi:CN a with
 | false=>rfl
 | true =>
  obtain ⟨s,hs⟩:=H3.1 hi;have:=L8 (AFn hs)
  unfold FI at h;rw [this] at h;cases h
theorem AWC {h:FP} (hh:h+h=1) {a:FP2} (hi:CX (FI a)=true) (h1:FH h a (CM (FI a))=false) (h2:FH h a (-CM (FI a))=false):CN a=false:=by
 cases hq:CN a with
 | false=>rfl
 | true =>
  obtain ⟨s,hs⟩:=H3.1 hq;rcases cA ((NU hi).trans (AFn hs).symm) with e | e
  ·rw [AFm hh hs e] at h1;cases h1
  ·rw [AFm hh hs (n:=-CM (FI a)) (by rw [e];exact neg_neg _)] at h2;cases h2
noncomputable def NV (a:FP2):FP2:=pw a ((pN-3) / 4)
noncomputable def EM (a:FP2):FP2:=NV a*a
noncomputable def Cp (a:FP2):FP2:=NV a*EM a
noncomputable def GB (a:FP2):FP2:=if Cp a=-1 then EM a*uu else pw (1+Cp a) ((pN-1) / 2)*EM a
theorem AWD {n:Nat} (h:0<n):pw (0:FP2) n=0:=by
 obtain ⟨m,rfl⟩:∃ m,n=m+1:=⟨n-1,dl⟩
 rw [KY,mul_zero]
theorem e4:(pN-3) / 4*4+3=pN:=dk
theorem e2':(pN-1) / 2*2+1=pN:=dk
theorem AWF:Nat.blt 0 ((pN-3) / 4)=true:=dk
theorem AWG {s c:FP2} (hs:s≠0) (h:c*s=Qx.conj s):c*Qx.conj c=1:=by
 have h2:Qx.conj c*Qx.conj s=s:=by
  rw [← Qx.conj_mul,h];exact Qx.ext rfl (neg_neg _)
 have hcs:Qx.conj s≠0:=fun e=>hs (by
  have h1:s.a=0:=gh Qx.a e
  have h2:-s.b=0:=gh Qx.b e
  exact Qx.ext h1 (UA.1 h2))
 have e:(s*Qx.conj s)*(c*Qx.conj c)=(s*Qx.conj s)*1:=by
  calc (s*Qx.conj s)*(c*Qx.conj c)=(c*s)*(Qx.conj c*Qx.conj s):=ring [s,c,Qx.conj s,Qx.conj c] dk
   _=(s*Qx.conj s)*1:=by rw [h,h2,Rg.mul_one,Rg.mul_comm]
 exact Iq (Cz hs hcs) e
theorem AWH {a:FP2} (hi:CN a=true):GB a*GB a=a:=by
 obtain ⟨s,hs⟩:=H3.1 hi;generalize hE:(pN-3) / 4=E
 have hp:E*4+3=pN:=by rw [← hE];exact e4
 by_cases h0:s=0
 ·have ha:a=0:=by rw [← hs,h0,mul_zero]
  have hb:NV a=0:=by unfold NV;rw [ha];exact AWD (BP.1 AWF)
  have hx:EM a=0:=by unfold EM;rw [hb,zero_mul]
  unfold GB;rw [hx];split
  ·rw [zero_mul,zero_mul,ha]
  ·rw [mul_zero,mul_zero,ha]
 ·have hB:NV a=pw s (2*E):=by unfold NV;rw [hE,← hs,aV];congr 1;show s*s=1*s*s;rw [Rg.one_mul]
  have hC:Cp a*s=Qx.conj s:=by
   refine Eq.trans ?_ ((gh (pw s) (show 2*E+(2*E+2+1)=pN by omega)).trans (AFj s))
   rw [Qu,KY];unfold Cp EM;rw [hB,← hs];rw [Qu,show pw s 2=s*s from by show 1*s*s=_;rw [Rg.one_mul]]
   generalize pw s (2*E)=Z
   exact ring [s,Z] dk
  have hXX:EM a*EM a=a*Cp a:=by unfold Cp EM;exact ring [NV a,a] dk
  have hcc:=AWG h0 hC;unfold GB;split
  ·rename_i hc
   calc EM a*uu*(EM a*uu)=EM a*EM a*(uu*uu):=ring [EM a,uu] dk
    _=a:=by rw [hXX,hc,AFi];exact ring [a] dk
  ·rename_i hc;generalize hH:(pN-1) / 2=H
   have hp2:H*2+1=pN:=by rw [← hH];exact e2'
   generalize hd:pw (1+Cp a) H=d
   have h1c:1+Cp a≠0:=fun e=>hc (JK e)
   have hdd:d*d*(1+Cp a)=1+Qx.conj (Cp a):=by
    have hf:=AFj (1+Cp a)
    have hf':=(gh (pw (1+Cp a)) hp2).trans hf
    rw [KY,aV,hd] at hf';have e1:pw d 2=d*d:=by show 1*d*d=_;rw [Rg.one_mul]
    rw [e1] at hf';rw [hf'];exact Qx.ext rfl (ring [(Cp a).b] (a:=-(0+(Cp a).b)) (b:=0+-(Cp a).b) dk)
   have key:d*d*Cp a=1:=by
    refine Iq h1c ?_
    calc (1+Cp a)*(d*d*Cp a)=(d*d*(1+Cp a))*Cp a:=ring [d,Cp a] dk
     _=Cp a+Cp a*Qx.conj (Cp a):=by rw [hdd];exact ring [Cp a,Qx.conj (Cp a)] dk
     _=(1+Cp a)*1:=by rw [hcc];exact ring [Cp a] dk
   calc d*EM a*(d*EM a)=d*d*(EM a*EM a):=ring [d,EM a] dk
    _=a*(d*d*Cp a):=by rw [hXX];exact ring [d,a,Cp a] dk
    _=a:=by rw [key,Rg.mul_one]
theorem AWI {a:FP2} (h:GB a*GB a=a):JR (GB a)=EL a∧CN a=true:=AFk ((s9 _).trans h) (AFl _)
theorem AWJ {a:FP2} (h:GB a*GB a≠a):CN a=false:=by
 cases hi:CN a with
 | false=>rfl
 | true=>exact absurd (AWH hi) h
def Qx.sc {F:Type} [CR F] {β:F} (x:Qx β) (k:F):Qx β:=⟨x.a*k,x.b*k⟩
noncomputable def cj (r:R FP2):R FP2:=en (Qx.conj (mo r:FP2))
noncomputable def sc (r:R FP2) (k:R FP):R FP2:=en (Qx.sc (mo r:FP2) (mo k))
noncomputable def mx (r:R FP2):R FP2:=en ((mo r:FP2)*xi)
def KH:List (TypeId×List (Option IntKind)):=(68,List.replicate 12 (some .u64))::(70,List.replicate 24 (some .u64)++[none])::(203,List.replicate 36 (some .u64))::KG
theorem CO:Lb dn KH:=⟨⟨dk,dk,dk⟩,⟨dk,dk,dk⟩,⟨dk,dk,dk⟩,DH⟩
theorem AWK (r s:R FP2):(su FP (mu FP r.1 s.1) (mu FP r.2 s.2),su FP (mu FP (ad FP r.1 r.2) (ad FP s.1 s.2)) (ad FP (mu FP r.1 s.1) (mu FP r.2 s.2)))=mu FP2 r s:=by
 refine ju ?_ ?_<;>simp only [su,mu,ad,mo_en]
 ·exact gh (en (α:=FP)) (ring [tf r.1,tf r.2,tf s.1,tf s.2] (a:=tf r.1*tf s.1-tf r.2*tf s.2) (b:=tf r.1*tf s.1+-1*(tf r.2*tf s.2)) dk)
 ·exact gh (en (α:=FP)) (ring [tf r.1,tf r.2,tf s.1,tf s.2] (a:=(tf r.1+tf r.2)*(tf s.1+tf s.2)-(tf r.1*tf s.1+tf r.2*tf s.2)) (b:=tf r.1*tf s.2+tf r.2*tf s.1) dk)
theorem AWL (r s:R FP2):(su FP (mu FP r.1 s.1) (mu FP r.2 s.2),ad FP (mu FP r.1 s.2) (mu FP r.2 s.1))=mu FP2 r s:=by
 refine ju ?_ ?_<;>simp only [su,mu,ad,mo_en]
 ·exact gh (en (α:=FP)) (ring [tf r.1,tf r.2,tf s.1,tf s.2] (a:=tf r.1*tf s.1-tf r.2*tf s.2) (b:=tf r.1*tf s.1+-1*(tf r.2*tf s.2)) dk)
 ·rfl
theorem AWM (r:R FP2):(su FP r.1 r.2,ad FP r.1 r.2)=mx r:=by
 refine ju ?_ ?_<;>simp only [su,ad,mx]
 ·exact gh (en (α:=FP)) (ring [tf r.1,tf r.2] (a:=tf r.1-tf r.2) (b:=tf r.1*1+-1*(tf r.2*1)) dk)
 ·exact gh (en (α:=FP)) (ring [tf r.1,tf r.2] (a:=tf r.1+tf r.2) (b:=tf r.1*1+tf r.2*1) dk)
theorem tA (x:FP2):x.nrm=x.a*x.a+x.b*x.b:=ring [x.a,x.b] (a:=x.a*x.a - -1*(x.b*x.b)) dk
theorem AWN (r:R FP2):sc (cj r) (iv FP (ad FP (mu FP r.1 r.1) (mu FP r.2 r.2)))=iv FP2 r:=by
 simp only [sc,cj,iv,mu,ad,mo_en];have e:=tA (mo r:FP2)
 show en (Qx.sc (Qx.conj (mo r:FP2)) (FD.inv ((mo r:FP2).a*(mo r:FP2).a+(mo r:FP2).b*(mo r:FP2).b)))=en (Ty (mo r:FP2));rw [← e];rfl
theorem AWO (r:R FP2):sc (cj r) (iv FP (mu FP2 r (cj r)).1)=iv FP2 r:=by
 simp only [sc,cj,iv,mu,mo_en,Qx.mul_conj];show en (Qx.sc (Qx.conj (mo r:FP2)) (FD.inv (mo (en (mo r:FP2).nrm):FP)))=en (Ty (mo r:FP2));rw [mo_en];rfl
noncomputable abbrev oH1:Orc:=AG SH1 KH
theorem H4:OrcOk dn oH1:=AH sZ CO
section
variable (r s:R FP2) (k:R FP)
theorem AWP:AK dn oH1 Tryz.f171 [va FP2 r] [] 300=some ([],va FP2 (re FP2 r)):=dk
theorem AWQ:AK dn oH1 Tryz.f99 [va FP2 r,va FP2 s] [] 300=some ([],va FP2 (ad FP2 r s)):=dk
theorem AWR:AK dn oH1 Tryz.f106 [va FP2 r,va FP2 s] [] 300=some ([],va FP2 (su FP2 r s)):=dk
theorem AWS:AK dn oH1 Tryz.f102 [va FP2 r] [] 300=some ([],va FP2 (ng FP2 r)):=dk
theorem AWT:AK dn oH1 Tryz.f181 [va FP2 r] [] 300=some ([],va FP2 (cj r)):=dk
theorem AWU:AK dn oH1 Tryz.f180 [va FP2 r,va FP k] [] 300=some ([],va FP2 (sc r k)):=dk
theorem AWV:AK dn oH1 Tryz.f275 [va FP2 r] [] 300=some ([],va FP2 (su FP r.1 r.2,ad FP r.1 r.2)):=dk
theorem AWW:AK dn oH1 Tryz.f183 [va FP2 r] [] 300=some ([],va FP2 (re FP2 r)):=dk
theorem AWX:AK dn oH1 Tryz.f116 [va FP2 r,va FP2 s] [] 300=some ([],va FP2 (ad FP2 r s)):=dk
theorem AWY:AK dn oH1 Tryz.f118 [va FP2 r] [] 300=some ([],va FP2 (ng FP2 r)):=dk
theorem AWZ:AK dn oH1 Tryz.f257 [va FP2 r] [] 300=some ([],va FP2 (cj r)):=dk
theorem AWa:AK dn oH1 Tryz.f276 [va FP2 r,va FP k] [] 300=some ([],va FP2 (sc r k)):=dk
theorem AWb:AK dn oH1 Tryz.f114 [va FP2 r,va FP2 s] [] 300=some ([],va FP2 (su FP (mu FP r.1 s.1) (mu FP r.2 s.2),ad FP (mu FP r.1 s.2) (mu FP r.2 s.1))):=dk
noncomputable abbrev AFo:Orc:=AG ((175,A5 dn oH1 Tryz.f175 300)::SH1) KH
theorem AWc:OrcOk dn AFo:=AH ⟨A7 H4 AB Tryz.func175 dk dk 300,sZ⟩ CO
theorem AWd:AK dn AFo Tryz.f100 [va FP2 r,va FP2 s] [] 300=some ([],va FP2 (su FP (mu FP r.1 s.1) (mu FP r.2 s.2),su FP (mu FP (ad FP r.1 r.2) (ad FP s.1 s.2)) (ad FP (mu FP r.1 s.1) (mu FP r.2 s.2)))):=dk
end
noncomputable def SH2:dt:=(171,AZ (BR FP2 fun r=>va FP2 (re FP2 r)))::(99,AZ (C_ FP2 FP2 fun r s=>va FP2 (ad FP2 r s)))::(106,AZ (C_ FP2 FP2 fun r s=>va FP2 (su FP2 r s)))::(102,AZ (BR FP2 fun r=>va FP2 (ng FP2 r)))::(181,AZ (BR FP2 fun r=>va FP2 (cj r)))::(180,AZ (C_ FP2 FP fun r k=>va FP2 (sc r k)))::(275,AZ (BR FP2 fun r=>va FP2 (mx r)))::(100,AZ (C_ FP2 FP2 fun r s=>va FP2 (mu FP2 r s)))::(183,AZ (BR FP2 fun r=>va FP2 (re FP2 r)))::(116,AZ (C_ FP2 FP2 fun r s=>va FP2 (ad FP2 r s)))::(118,AZ (BR FP2 fun r=>va FP2 (ng FP2 r)))::(257,AZ (BR FP2 fun r=>va FP2 (cj r)))::(276,AZ (C_ FP2 FP fun r k=>va FP2 (sc r k)))::(114,AZ (C_ FP2 FP2 fun r s=>va FP2 (mu FP2 r s)))::SH1
theorem AFp:AT dn SH2:=⟨Aa Tryz.func171 dk dk (BW fun r=>AN H4 AB Tryz.func171 (AWP r) trivial rfl),Aa Tryz.func99 dk dk (DI fun r s=>AN H4 AB Tryz.func99 (AWQ r s) trivial rfl),Aa Tryz.func106 dk dk (DI fun r s=>AN H4 AB Tryz.func106 (AWR r s) trivial rfl),Aa Tryz.func102 dk dk (BW fun r=>AN H4 AB Tryz.func102 (AWS r) trivial rfl),Aa Tryz.func181 dk dk (BW fun r=>AN H4 AB Tryz.func181 (AWT r) trivial rfl),Aa Tryz.func180 dk dk (DI fun r s=>AN H4 AB Tryz.func180 (AWU r s) trivial rfl),Aa Tryz.func275 dk dk (BW fun r=>by rw [← AWM];exact AN H4 AB Tryz.func275 (AWV r) trivial rfl),Aa Tryz.func100 dk dk (DI fun r s=>by rw [← AWK];exact AN AWc AB Tryz.func100 (AWd r s) trivial rfl),Aa Tryz.func183 dk dk (BW fun r=>AN H4 AB Tryz.func183 (AWW r) trivial rfl),Aa Tryz.func116 dk dk (DI fun r s=>AN H4 AB Tryz.func116 (AWX r s) trivial rfl),Aa Tryz.func118 dk dk (BW fun r=>AN H4 AB Tryz.func118 (AWY r) trivial rfl),Aa Tryz.func257 dk dk (BW fun r=>AN H4 AB Tryz.func257 (AWZ r) trivial rfl),Aa Tryz.func276 dk dk (DI fun r s=>AN H4 AB Tryz.func276 (AWa r s) trivial rfl),Aa Tryz.func114 dk dk (DI fun r s=>by rw [← AWL];exact AN H4 AB Tryz.func114 (AWb r s) trivial rfl),sZ⟩
noncomputable abbrev oH2:Orc:=AG SH2 KH
theorem cD:OrcOk dn oH2:=AH AFp CO
section
variable (r s:R FP2)
theorem AWe:AK dn oH2 Tryz.f107 [va FP2 r] [] 300=some ([],va FP2 (sc (cj r) (iv FP (ad FP (mu FP r.1 r.1) (mu FP r.2 r.2))))):=dk
theorem AWf:AK dn oH2 Tryz.f250 [va FP2 r,va FP2 s] [] 300=some ([],va FP2 (ad FP2 r (ng FP2 s))):=dk
theorem AWg:AK dn oH2 Tryz.f201 [va FP2 r] [] 300=some ([],va FP2 (mu FP2 r ((1:Nat),(1:Nat)))):=dk
theorem AWh:AK dn oH2 Tryz.f244 [va FP2 r] [] 300=some ([],va FP2 (sc (cj r) (iv FP (mu FP2 r (cj r)).1))):=dk
end
theorem AWi (r s:R FP2):ad FP2 r (ng FP2 s)=su FP2 r s:=by simp only [ad,ng,su,mo_en,sub_eq]
theorem AWj (r:R FP2):mu FP2 r ((1:Nat),(1:Nat))=mx r:=by
 unfold mu mx;exact gh (fun x=>en ((mo r:FP2)*x)) (Qx.ext DS DS)
noncomputable def SH3:dt:=(107,AZ (BR FP2 fun r=>va FP2 (iv FP2 r)))::(250,AZ (C_ FP2 FP2 fun r s=>va FP2 (su FP2 r s)))::(201,AZ (BR FP2 fun r=>va FP2 (mx r)))::(244,AZ (BR FP2 fun r=>va FP2 (iv FP2 r)))::SH2
theorem AFq:AT dn SH3:=⟨Aa Tryz.func107 dk dk (BW fun r=>by rw [← AWN];exact AN cD AB Tryz.func107 (AWe r) trivial rfl),Aa Tryz.func250 dk dk (DI fun r s=>by rw [← AWi];exact AN cD AB Tryz.func250 (AWf r s) trivial rfl),Aa Tryz.func201 dk dk (BW fun r=>by rw [← AWj];exact AN cD AB Tryz.func201 (AWg r) trivial rfl),Aa Tryz.func244 dk dk (BW fun r=>by rw [← AWO];exact AN cD AB Tryz.func244 (AWh r) trivial rfl),AFp⟩
noncomputable abbrev oH3:Orc:=AG SH3 KH
theorem tB:OrcOk dn oH3:=AH AFq CO
abbrev eg:List Bool:=[false,false,false,true]
abbrev fa:List Bool:=[false,false,false,false,false]
abbrev fe:List Bool:=[false,false,false,false,true]
open Ex Num Rg
open Sh (R av rd mo en mo_en)
set_option maxRecDepth 100000
set_option maxHeartbeats 4000000
abbrev P2:Type:=Pt FP2
def dq (x y:Nat):Bool:=decide (x=y)
def B9 (r s:R FP2):Bool:=dq r.1 s.1&&dq r.2 s.2
theorem MA (x y:FP):dq x.val y.val=decide (x=y):=by
 unfold dq;by_cases h:x=y
 ·rw [fu h,fu (gh Fin.val h)]
 ·rw [ga h,ga fun e=>h (Fin.ext e)]
theorem Q5 (x y:FP2):B9 (en x) (en y)=decide (x=y):=by
 show (dq x.a.val y.a.val&&dq x.b.val y.b.val)=_;rw [MA,MA];by_cases h:x=y
 ·subst h;rw [fu rfl,fu rfl,fu rfl];rfl
 ·rw [ga h];by_cases h1:x.a=y.a
  ·rw [ga fun h2=>h (Qx.ext h1 h2),kc]
  ·rw [ga h1,kr]
def CP (r:R FP2):Bool:=dq r.1 0&&dq r.2 0
theorem NW (x:FP2):CP (en x)=decide (x=0):=Q5 x 0
def AFr:List Ch:=[.n .u64 4,.n .u64 0,.n .u64 0,.n .u64 0,.n .u64 0,.n .u64 0,.n .u64 4,.n .u64 0,.n .u64 0,.n .u64 0,.n .u64 0,.n .u64 0]
theorem AWk:AK dn oH3 Tryz.f176 [] [] 100=some ([],.val true AFr):=dk
def CE (i:Bool):List Ch:=List.replicate 24 (.n .u64 0)++[.b i]
def ev (α:Type) [Sh α] (x:AV):List AV→Option AV | []=>some x | _=>none
section
variable (r s:R P2)
theorem AWl:AK dn oH3 Tryz.f105 [va P2 r] dw 300=some ([(r.2.2,true)],.val true (CE true)):=dk
theorem AWm:AK dn oH3 Tryz.f105 [va P2 r] du 300=some ([(r.2.2,false)],.val true (Bh (av (re FP2 r.1)) (Bh (av (re FP2 r.2.1)) [.b false]))):=dk
end
theorem AWn (r:R P2):AS dn 105 [va P2 r] (ve (mo r:P2)):=by
 have h1:=AWl r;have h2:=AWm r;obtain ⟨x,y,i⟩:=r;cases i with
 | true=>exact EK (α:=P2) (r:=(en (.inf:P2):R P2)) (AN tB AB Tryz.func105 h1 ⟨rfl,trivial⟩ rfl) dk
 | false=>exact EK (α:=P2) (r:=((re FP2 x,re FP2 y,false):R P2)) (AN tB AB Tryz.func105 h2 ⟨rfl,trivial⟩ rfl) dk
noncomputable def SJ0:dt:=(176,AZ (ev FP2 (ve JQ)))::(105,AZ (BR P2 fun r=>ve (mo r:P2)))::SH3
theorem cE {α:Type} [Sh α] {P:Program} {f:FuncId} {x:AV} (h:AS P f [] x):∀ args v,ev α x args=some v→AS P f args v:=by
 intro args v hs;unfold ev at hs;split at hs
 ·injection hs with hs;subst hs;exact h
 ·cases hs
theorem AWo:AS dn 176 [] (ve JQ):=EK (α:=FP2) (r:=(en JQ:R FP2)) (AN tB AB Tryz.func176 AWk trivial rfl) dk
theorem AFs:AT dn SJ0:=⟨Aa Tryz.func176 dk dk (cE AWo),Aa Tryz.func105 dk dk (BW AWn),AFq⟩
noncomputable abbrev oJ0:Orc:=AG SJ0 KH
theorem PI:OrcOk dn oJ0:=AH AFs CO
noncomputable def rX (p:P2):R FP2:=(en p).1
noncomputable def rY (p:P2):R FP2:=(en p).2.1
noncomputable def XR (x y:R FP2):Bool:=B9 (mu FP2 y y) (ad FP2 (mu FP2 (mu FP2 x x) x) (en JQ))
noncomputable def A9 (p:P2):Bool:=match p with
 | .inf=>true
 | .pt x y=>decide (y*y=x*x*x+JQ)
theorem KZ (p:P2):A9 p=true↔Rg.On C2.b p:=by
 cases p with
 | inf=>exact ⟨fun _=>trivial,fun _=>rfl⟩
 | pt a b=>exact decide_eq_true_iff
theorem AFt (x y:R FP2):XR x y=A9 (.pt (mo x) (mo y)):=by
 unfold XR mu ad A9;rw [Q5];simp only [mo_en]
section
variable (r:R P2)
theorem AWp:AK dn oJ0 Tryz.f103 [va P2 r] dw 300=some ([(r.2.2,true)],.val false [.b true]):=dk
theorem AWq:AK dn oJ0 Tryz.f103 [va P2 r] du 300=some ([(r.2.2,false)],Au (XR r.1 r.2.1)):=dk
end
theorem AWr (r:R P2):AS dn 103 [va P2 r] (Au (A9 (mo r))):=by
 have h1:=AWp r;have h2:=AWq r;obtain ⟨x,y,i⟩:=r;cases i with
 | true=>exact CW (AN PI AB Tryz.func103 h1 ⟨rfl,trivial⟩ rfl) fun u hu=>In rfl hu
 | false =>
  rw [show A9 (mo ((x,y,false):R P2))=A9 (.pt (mo x) (mo y)) from rfl,← AFt]
  exact AN PI AB Tryz.func103 h2 ⟨rfl,trivial⟩ rfl
noncomputable def cF (px py qx qy:R FP2):R FP2:=mu FP2 (su FP2 qy py) (iv FP2 (su FP2 qx px))
noncomputable def cG (px py:R FP2):R FP2:=mu FP2 (ad FP2 (ad FP2 (mu FP2 px px) (mu FP2 px px)) (mu FP2 px px)) (iv FP2 (ad FP2 py py))
noncomputable def XS (l px qx:R FP2):R FP2:=su FP2 (su FP2 (mu FP2 l l) px) qx
noncomputable def tC (l px py x:R FP2):R FP2:=su FP2 (mu FP2 l (su FP2 px x)) py
noncomputable def tD (l:R FP2) (p q:P2):List Ch:=Bh (av (XS l (rX p) (rX q))) (Bh (av (tC l (rX p) (rY p) (XS l (rX p) (rX q)))) [.b false])
section
variable (r s:R P2)
noncomputable def cH (p q:P2) (d:Bool) (l:dr):dr:=(EJ p,false)::(EJ q,false)::(!B9 (rX p) (rX q),d)::l
theorem AWs:AK dn oJ0 Tryz.f46 [va P2 r,va P2 s] dw 300=some ([(EJ (mo r:P2),true)],ve (mo s:P2)):=dk
theorem AWt:AK dn oJ0 Tryz.f46 [va P2 r,va P2 s] dz 300=some ([(EJ (mo r:P2),false),(EJ (mo s:P2),true)],ve (mo r:P2)):=dk
theorem AWu:AK dn oJ0 Tryz.f46 [va P2 r,va P2 s] e_ 300=some (cH (mo r) (mo s) true [],.val true (tD (cF (rX (mo r)) (rY (mo r)) (rX (mo s)) (rY (mo s))) (mo r) (mo s))):=dk
theorem AWv:AK dn oJ0 Tryz.f46 [va P2 r,va P2 s] eg 300=some (cH (mo r) (mo s) false [(!B9 (rY (mo r)) (rY (mo s)),true)],.val true (CE true)):=dk
theorem AWw:AK dn oJ0 Tryz.f46 [va P2 r,va P2 s] fe 300=some (cH (mo r) (mo s) false [(!B9 (rY (mo r)) (rY (mo s)),false),(CP (rY (mo r)),true)],.val true (CE true)):=dk
theorem AWx:AK dn oJ0 Tryz.f46 [va P2 r,va P2 s] fa 300=some (cH (mo r) (mo s) false [(!B9 (rY (mo r)) (rY (mo s)),false),(CP (rY (mo r)),false)],.val true (tD (cG (rX (mo r)) (rY (mo r))) (mo r) (mo s))):=dk
end
theorem AFu (x y:R FP2):(rd (Bh (av x) (Bh (av y) [.b false])):Option (R P2))=some ((x,y,false):R P2):=dk
theorem AFv (a b c d L:FP2):rd (tD (en L) (.pt a b) (.pt c d))=some (en (HQ a b c L):R P2):=by
 have e:(en (HQ a b c L):R P2)=(XS (en L) (en a) (en c),tC (en L) (en a) (en b) (XS (en L) (en a) (en c)),false):=by
  unfold XS tC su mu;simp only [mo_en];rfl
 rw [e];exact AFu _ _
theorem AWy (a b c d:FP2):cF (en a) (en b) (en c) (en d)=en ((d-b)*FD.inv (c-a)):=by unfold cF mu su iv;simp only [mo_en]
theorem AWz (a b:FP2):cG (en a) (en b)=en ((a*a+a*a+a*a)*FD.inv (b+b)):=by unfold cG mu ad iv;simp only [mo_en]
theorem AW0 (r s:R P2):AS dn 46 [va P2 r,va P2 s] (ve (Rg.add (mo r:P2) (mo s))):=by
 have r1:=AWs r s;have r2:=AWt r s;have r3:=AWu r s;have r4:=AWv r s;have r5:=AWw r s;have r6:=AWx r s;generalize (mo r:P2)=p at *
 generalize (mo s:P2)=q at *
 have zz:rd (CE true)=some (en (.inf:P2):R P2):=dk
 cases p with
 | inf=>exact AN PI AB Tryz.func46 r1 ⟨rfl,trivial⟩ rfl
 | pt a b=>cases q with
  | inf=>exact AN PI AB Tryz.func46 r2 ⟨rfl,rfl,trivial⟩ rfl
  | pt c d =>
   have eX:B9 (rX (.pt a b)) (rX (.pt c d))=decide (a=c):=Q5 a c
   have eY:B9 (rY (.pt a b)) (rY (.pt c d))=decide (b=d):=Q5 b d
   have eZ:CP (rY (.pt a b))=decide (b=0):=NW b
   rw [KW];by_cases hx:a=c
   ·rw [fw hx];by_cases hy:b=d
    ·by_cases h0:b=0
     ·rw [fv (fun h=>h.2 h0)]
      exact EK (AN PI AB Tryz.func46 r5 ⟨rfl,rfl,by rw [eX,fu hx];rfl,by rw [eY,fu hy];rfl,by rw [eZ,fu h0],trivial⟩ rfl) zz
     ·rw [fw ⟨hy,h0⟩];rw [show cG (rX (.pt a b)) (rY (.pt a b))=_ from AWz a b] at r6
      exact EK (AN PI AB Tryz.func46 r6 ⟨rfl,rfl,by rw [eX,fu hx];rfl,by rw [eY,fu hy];rfl,by rw [eZ,ga h0],trivial⟩ rfl) (AFv a b c d _)
    ·rw [fv (fun h=>hy h.1)]
     exact EK (AN PI AB Tryz.func46 r4 ⟨rfl,rfl,by rw [eX,fu hx];rfl,by rw [eY,ga hy];rfl,trivial⟩ rfl) zz
   ·rw [fv hx];rw [show cF (rX (.pt a b)) (rY (.pt a b)) (rX (.pt c d)) (rY (.pt c d))=_ from AWy a b c d] at r3
    exact EK (AN PI AB Tryz.func46 r3 ⟨rfl,rfl,by rw [eX,ga hx];rfl,trivial⟩ rfl) (AFv a b c d _)
noncomputable def SJ1:dt:=(103,AZ (BR P2 fun r=>Au (A9 (mo r))))::(46,AZ (C_ P2 P2 fun r s=>ve (Rg.add (mo r:P2) (mo s))))::SJ0
theorem AFw:AT dn SJ1:=⟨Aa Tryz.func103 dk dk (BW AWr),Aa Tryz.func46 dk dk (DI AW0),AFs⟩
open Ex Num Rg
open Sh (R av rd mo en mo_en)
abbrev J2:Type:=J FP2
noncomputable abbrev oJ1:Orc:=AG SJ1 KH
theorem AW1:OrcOk dn oJ1:=AH AFw CO
def lq (x y:Nat):Bool:=decide (x<y)
def CQ (r:R FP2):Bool:=lq r.1 pN&&lq r.2 pN
theorem Ke {r:R FP2} (h:CQ r=true):en (mo r:FP2)=r:=by
 obtain ⟨h1,h2⟩:=gk.1 h;exact ju (GW (gv h1)) (GW (gv h2))
theorem JS (x:FP2):CQ (en x)=true:=gk.2 ⟨fu x.a.isLt,fu x.b.isLt⟩
noncomputable def qE (x:R FP2):R FP2:=ad FP2 (ad FP2 (mu FP2 x x) (mu FP2 x x)) (mu FP2 x x)
noncomputable def qD (x y:R FP2):R FP2:=ad FP2 (ad FP2 (mu FP2 x (mu FP2 y y)) (mu FP2 x (mu FP2 y y))) (ad FP2 (mu FP2 x (mu FP2 y y)) (mu FP2 x (mu FP2 y y)))
noncomputable def tE (y:R FP2):R FP2:=ad FP2 (mu FP2 (mu FP2 y y) (mu FP2 y y)) (mu FP2 (mu FP2 y y) (mu FP2 y y))
noncomputable def tG (y:R FP2):R FP2:=ad FP2 (tE y) (tE y)
noncomputable def qC8 (y:R FP2):R FP2:=ad FP2 (tG y) (tG y)
noncomputable def qX (x y:R FP2):R FP2:=su FP2 (mu FP2 (qE x) (qE x)) (ad FP2 (qD x y) (qD x y))
noncomputable def qY (x y:R FP2):R FP2:=su FP2 (mu FP2 (qE x) (su FP2 (qD x y) (qX x y))) (qC8 y)
noncomputable def qT (r:R J2):R J2:=(qX r.1 r.2.1,qY r.1 r.2.1,ad FP2 (mu FP2 r.2.1 r.2.2) (mu FP2 r.2.1 r.2.2))
theorem AW2 (r:R J2):AK dn oJ1 Tryz.f235 [va J2 r] [] 500=some ([],va J2 (qT r)):=dk
theorem AW3 (r:R J2):qT r=en (Bl (mo r:J2)):=by
 unfold qT qY qX qC8 tG tE qD qE su mu ad;simp only [mo_en];rfl
theorem AW4 (r:R J2):AS dn 235 [va J2 r] (ve (Bl (mo r:J2))):=by
 unfold ve;rw [← AW3];exact AN AW1 AB Tryz.func235 (AW2 r) trivial rfl
noncomputable def SJ2:dt:=(235,AZ (BR J2 fun r=>ve (Bl (mo r:J2))))::SJ1
theorem AFy:AT dn SJ2:=⟨Aa Tryz.func235 dk dk (BW AW4),AFw⟩
noncomputable abbrev oJ2:Orc:=AG SJ2 KH
theorem Q6:OrcOk dn oJ2:=AH AFy CO
noncomputable def qH (x z a:R FP2):R FP2:=su FP2 (mu FP2 a (mu FP2 z z)) x
noncomputable def qR (y z b:R FP2):R FP2:=su FP2 (mu FP2 b (mu FP2 (mu FP2 z z) z)) y
noncomputable def Q7 (x h r:R FP2):R FP2:=su FP2 (su FP2 (mu FP2 r r) (mu FP2 (mu FP2 h h) h)) (ad FP2 (mu FP2 x (mu FP2 h h)) (mu FP2 x (mu FP2 h h)))
noncomputable def UB (x y h r:R FP2):R FP2:=su FP2 (mu FP2 r (su FP2 (mu FP2 x (mu FP2 h h)) (Q7 x h r))) (mu FP2 y (mu FP2 (mu FP2 h h) h))
section
variable (p:R J2) (q:R P2)
def UC:List Ch:=List.replicate 36 (.n .u64 0)
theorem AW5:AK dn oJ2 Tryz.f236 [va J2 p,va P2 q] dw 500=some ([(CP p.2.2,true)],.val true (Bh (av q.1) (Bh (av q.2.1) (.n .u64 1::List.replicate 11 (.n .u64 0))))):=dk
theorem AW6:AK dn oJ2 Tryz.f236 [va J2 p,va P2 q] ew 500=some ([(CP p.2.2,false),(CP (qH p.1 p.2.2 q.1),true),(CP (qR p.2.1 p.2.2 q.2.1),true)],ve (Bl (mo p:J2))):=dk
theorem AW7:AK dn oJ2 Tryz.f236 [va J2 p,va P2 q] [false,true,false,true] 500=some ([(CP p.2.2,false),(CP (qH p.1 p.2.2 q.1),true),(CP (qR p.2.1 p.2.2 q.2.1),false),(CP (qH p.1 p.2.2 q.1),true)],.val true UC):=dk
theorem AW8:AK dn oJ2 Tryz.f236 [va J2 p,va P2 q] fb 500=some ([(CP p.2.2,false),(CP (qH p.1 p.2.2 q.1),false),(CP (qH p.1 p.2.2 q.1),false)],
 va J2 (Q7 p.1 (qH p.1 p.2.2 q.1) (qR p.2.1 p.2.2 q.2.1),UB p.1 p.2.1 (qH p.1 p.2.2 q.1) (qR p.2.1 p.2.2 q.2.1),mu FP2 p.2.2 (qH p.1 p.2.2 q.1))):=dk
end
theorem AFz (x y:R FP2):(rd (Bh (av x) (Bh (av y) (.n .u64 1::List.replicate 11 (.n .u64 0)))):Option (R J2))=some ((x,y,en (1:FP2)):R J2):=dk
theorem AW9 {p:R J2} {q:R P2} (hz:CQ p.2.2=true) (hx:CQ q.1=true) (hy:CQ q.2.1=true):AS dn 236 [va J2 p,va P2 q] (ve (FF (mo p:J2) (mo q.1) (mo q.2.1))):=by
 have ez:CP p.2.2=decide ((mo p:J2).z=0):=by
  conv=>lhs;rw [← Ke hz]
  exact NW _
 have eh:qH p.1 p.2.2 q.1=en (pH (mo p:J2) (mo q.1)):=by unfold qH su mu;simp only [mo_en];rfl
 have er:qR p.2.1 p.2.2 q.2.1=en (pR (mo p:J2) (mo q.2.1)):=by unfold qR su mu;simp only [mo_en];rfl
 have zh:CP (qH p.1 p.2.2 q.1)=decide (pH (mo p:J2) (mo q.1)=0):=by rw [eh];exact NW _
 have zr:CP (qR p.2.1 p.2.2 q.2.1)=decide (pR (mo p:J2) (mo q.2.1)=0):=by rw [er];exact NW _
 have r1:=AW5 p q;have r2:=AW6 p q;have r3:=AW7 p q;have r4:=AW8 p q;rw [zh,ez] at r2;rw [zh,ez,zr] at r3;rw [zr] at r2;rw [zh,ez,eh,er] at r4;rw [ez] at r1;unfold FF;by_cases h0:(mo p:J2).z=0
 ·rw [fw h0];refine EK (α:=J2) (r:=(en (⟨mo q.1,mo q.2.1,1⟩:J2):R J2)) (AN Q6 AB Tryz.func236 r1 ⟨fu h0,trivial⟩ rfl) ?_
  have e:(en (⟨mo q.1,mo q.2.1,1⟩:J2):R J2)=(q.1,q.2.1,en (1:FP2)):=by
   show ((en (mo q.1:FP2),en (mo q.2.1:FP2),en (1:FP2)):R J2)=_;rw [Ke hx,Ke hy]
  rw [e];exact AFz _ _
 ·rw [fv h0];by_cases hh:pH (mo p:J2) (mo q.1)=0
  ·rw [fw hh];by_cases hr:pR (mo p:J2) (mo q.2.1)=0
   ·rw [fw hr];exact AN Q6 AB Tryz.func236 r2 ⟨ga h0,fu hh,fu hr,trivial⟩ rfl
   ·rw [fv hr];exact EK (α:=J2) (r:=(en (⟨0,0,0⟩:J2):R J2)) (AN Q6 AB Tryz.func236 r3 ⟨ga h0,fu hh,ga hr,fu hh,trivial⟩ rfl) dk
  ·rw [fv hh];have e:((Q7 p.1 (en (pH (mo p:J2) (mo q.1))) (en (pR (mo p:J2) (mo q.2.1))),UB p.1 p.2.1 (en (pH (mo p:J2) (mo q.1))) (en (pR (mo p:J2) (mo q.2.1))),mu FP2 p.2.2 (en (pH (mo p:J2) (mo q.1)))):R J2) =
     en (⟨pX (mo p:J2).x (pH (mo p:J2) (mo q.1)) (pR (mo p:J2) (mo q.2.1)),pY (mo p:J2).x (mo p:J2).y (pH (mo p:J2) (mo q.1)) (pR (mo p:J2) (mo q.2.1)),(mo p:J2).z*pH (mo p:J2) (mo q.1)⟩:J2):=by
    unfold UB Q7 su mu ad;simp only [mo_en];rfl
   rw [e] at r4;exact AN Q6 AB Tryz.func236 r4 ⟨ga h0,ga hh,ga hh,trivial⟩ rfl
noncomputable def UD:List AV→Option (dr×AV)
 | [.val true a,.val true b]=>match (rd a:Option (R J2)),(rd b:Option (R P2)) with
  | some p,some q=>some ([(CQ p.2.2,true),(CQ q.1,true),(CQ q.2.1,true)],ve (FF (mo p:J2) (mo q.1) (mo q.2.1)))
  | _,_=>none
 | _=>none
theorem AW_:∀ args c v,UD args=some (c,v)→AM c→AS dn 236 args v:=by
 intro args c v hs hc us w ha;unfold UD at hs;split at hs;case h_2=>cases hs
 split at hs;case h_2=>cases hs
 rename_i p q hx hy;injection hs with hs;injection hs with h1 h2;subst h1;subst h2;obtain ⟨u1,us1,r1,⟨u2,us2,r2,ha,rfl⟩,rfl⟩:=ha;exact AW9 hc.1 hc.2.1 hc.2.2.1 _ w ⟨u1,_,FG hx r1,⟨u2,_,FG hy r2,ha,rfl⟩,rfl⟩
def z6 (r:R J2):Bool:=dq r.1.1 0&&(dq r.1.2 0&&(dq r.2.1.1 0&&(dq r.2.1.2 0&&CP r.2.2)))
section
variable (r:R J2)
theorem AW':AK dn oJ2 Tryz.f237 [va J2 r] dw 500=some ([(z6 r,true)],.val true (CE true)):=dk
theorem AXA:AK dn oJ2 Tryz.f237 [va J2 r] dz 500=some ([(z6 r,false),(CP r.2.2,true)],.val true (CE true)):=dk
noncomputable def qI (r:R J2):R FP2:=mu FP2 (iv FP2 r.2.2) (iv FP2 r.2.2)
theorem AXB:AK dn oJ2 Tryz.f237 [va J2 r] d_ 500=some ([(z6 r,false),(CP r.2.2,false)],.val true (Bh (av (mu FP2 r.1 (qI r))) (Bh (av (mu FP2 r.2.1 (mu FP2 (qI r) (iv FP2 r.2.2)))) [.b false]))):=dk
end
theorem AXC {r:R J2} (hz:CQ r.2.2=true):AS dn 237 [va J2 r] (ve (B5 (mo r:J2))):=by
 have ez:CP r.2.2=decide ((mo r:J2).z=0):=by
  conv=>lhs;rw [← Ke hz]
  exact NW _
 have zz:rd (CE true)=some (en (.inf:P2):R P2):=dk
 by_cases h0:(mo r:J2).z=0
 ·rw [F_ h0];cases h3:z6 r with
  | true=>exact EK (AN Q6 AB Tryz.func237 (AW' r) ⟨h3,trivial⟩ rfl) zz
  | false=>exact EK (AN Q6 AB Tryz.func237 (AXA r) ⟨h3,by rw [ez];exact fu h0,trivial⟩ rfl) zz
 ·have h3:z6 r=false:=by unfold z6;rw [ez,ga h0];simp
  rw [Hz h0];refine EK (AN Q6 AB Tryz.func237 (AXB r) ⟨h3,by rw [ez];exact ga h0,trivial⟩ rfl) ?_
  have e:(en (.pt ((mo r:J2).x*(FD.inv (mo r:J2).z*FD.inv (mo r:J2).z)) ((mo r:J2).y*((FD.inv (mo r:J2).z*FD.inv (mo r:J2).z)*FD.inv (mo r:J2).z)):P2):R P2)=(mu FP2 r.1 (qI r),mu FP2 r.2.1 (mu FP2 (qI r) (iv FP2 r.2.2)),false):=by
   unfold qI mu iv;simp only [mo_en];rfl
  rw [e];exact AFu _ _
noncomputable def tH:List AV→Option (dr×AV)
 | [.val true a]=>match (rd a:Option (R J2)) with
  | some p=>some ([(CQ p.2.2,true)],ve (B5 (mo p:J2)))
  | _=>none
 | _=>none
theorem AXD:∀ args c v,tH args=some (c,v)→AM c→AS dn 237 args v:=by
 intro args c v hs hc us w ha;unfold tH at hs;split at hs;case h_2=>cases hs
 split at hs;case h_2=>cases hs
 rename_i p hx;injection hs with hs;injection hs with h1 h2;subst h1;subst h2;obtain ⟨u1,us1,r1,ha,rfl⟩:=ha;exact AXC hc.1 _ w ⟨u1,_,FG hx r1,ha,rfl⟩
noncomputable def SJ3:dt:=(236,Ez UD)::(237,Ez tH)::SJ2
theorem AF0:AT dn SJ3:=⟨Ft Tryz.func236 dk dk AW_,Ft Tryz.func237 dk dk AXD,AFy⟩
noncomputable abbrev oJ3:Orc:=AG SJ3 KH
theorem UE:OrcOk dn oJ3:=AH AF0 CO
noncomputable section
theorem XT {off n:Nat} {xs:dp} (hall:∀ d∈xs,0≤d∧d<18446744073709551616) (hn:n≤1125899906842624) {c:Nat} (hc:c<64*n) :
  wI (Int.tdiv (c:Int) 64)=((c / 64:Nat):Int)∧c / 64<n∧0≤CG xs off c∧0≤Int.tmod (c:Int) 64∧Ij (CG xs off c) (Int.tmod c 64)=((AI (AA xs off n) / 2^c % 2:Nat):Int):=by
 have hq:Int.tdiv (c:Int) 64=((c / 64:Nat):Int):=by rw [mj dl];rfl
 have hr:Int.tmod (c:Int) 64=((c % 64:Nat):Int):=by rw [ku dl];rfl
 have hw:wI (Int.tdiv (c:Int) 64)=((c / 64:Nat):Int):=by rw [hq];exact Ao dl
 have hjn:c / 64<n:=dl
 have hlt:∀ d∈AA xs off n,0≤d∧d<18446744073709551616:=C3 hall
 have hv:CG xs off c=(AA xs off n).getD (c / 64) 0:=by
  unfold CG;rw [hw,gj,g_];exact (Il hjn).symm
 have hvb:0≤CG xs off c∧CG xs off c<18446744073709551616:=by rw [hv];exact M5 hlt _
 refine ⟨hw,hjn,hvb.1,by rw [hr];omega,?_⟩
 obtain ⟨V,hV⟩:=ic hvb.1;rw [hr,← WY _ c hlt,← hv,hV,gj];exact WW V _ dl dl
theorem XU {off n:Nat} {xs:dp} (hall:∀ d∈xs,0≤d∧d<18446744073709551616) (hlen:off+n≤xs.length):AI (AA xs off n)<2^(64*n):=by
 have hl:=Ik (AA xs off n) (C3 hall)
 unfold AA at hl ⊢
 rwa [h_,ir,jn dl] at hl
theorem cI (E c:Nat):E / 2^c=2*(E / 2^(c+1))+E / 2^c % 2:=by rw [ip,← iu];omega
noncomputable def AXE:List Item:=Bv (AW dn oJ3 (some 0) 500 1 none (Ah Tryz.f178 [AP 0 0 0 0,ve (.pt 0 0:P2)] (A8 []) 1 d_))
noncomputable def hmT (off n m:Nat) (i:Int):List AV:=.val false [.sl 0 off n m]::.any::.any::.val false [.p 1 0]::.val false [.p 2 0]::.val false [.n .i64 0]::.val false [.p 3 0]::.val false [.v (.int .i64 i)]::List.replicate (Tryz.f178.ntmps-8) .any
def hmH (xs:dp) (p:P2):Heap:=[(0,some (Am [.seq .u64 xs])),(1,some ⟨70,av (en p:R P2),false⟩),(2,some ⟨70,CE false,false⟩)]
noncomputable def NX (off n m:Nat) (xs:dp) (p:P2) (out:List Ch) (i:Int) (path:List Bool):ASt:=⟨AXE,⟨hmT off n m i,List.append (hmH xs p) [(3,some ⟨203,out,false⟩)],4,path⟩⟩
def jC2 (j:J2):List Ch:=av (en j:R J2)
def jR (j:J2):J2:=mo (en j:R J2)
def cJ (j:J2) (p:P2):J2:=FF (mo (en (Bl (jR j)):R J2)) (mo (rX p)) (mo (rY p))
def PJ (r:R P2) (off n m:Nat):List AV:=[AP 0 off n m,va P2 r]
def cK (p:P2):P2:=mo (en p:R P2)
abbrev kM:Option (List Nat×List Nat×Nat):=some ([0,3,4,5,6,7],[0,1,2,3],4)
theorem AXH (r:R P2) (off n m:Nat) (xs:dp):AW dn oJ3 (some 0) 500 1 kM (Ah Tryz.f178 (PJ r off n m) (A8 xs) 1 d_) =
 some ([(!A9 (cK (mo r)),false),(EJ (mo r:P2),false),(AJ .i64 n,true)],[],NX off n m xs (mo r) UC (wI (wI (64*(n:Int))-1)) []):=dk
def JT (q:P2) (e:Int):AV:=.tup [(true,av (en q:R P2)),(false,[.v (.int .i64 e)])]
def XV (q:P2) (e:Int):AV:=.tup [(true,av (en q:R P2)),(false,[.n .i64 e])]
theorem AXI (r:R P2) (off n m:Nat) (xs:dp):AR dn oJ3 Tryz.f178 500 1 [] (Ah Tryz.f178 (PJ r off n m) (A8 xs) 1 dw) =
 some ([(!A9 (cK (mo r)),true)],[],.tup [(true,CE false),(false,[.n .i64 120])],[]):=dk
theorem AXJ (r:R P2) (off n m:Nat) (xs:dp):AR dn oJ3 Tryz.f178 500 1 [] (Ah Tryz.f178 (PJ r off n m) (A8 xs) 1 dz) =
 some ([(!A9 (cK (mo r)),false),(EJ (mo r:P2),true)],[],XV (mo r) 0,[]):=dk
section
variable (off n m:Nat) (xs:dp) (p:P2) (j:J2) (i:Int)
theorem AXK:AW dn oJ3 (some 0) 500 1 kM (NX off n m xs p (jC2 j) i dx)=some (T7 off n xs i true [],[],NX off n m xs p (jC2 (Bl (jR j))) (wI (i-1)) []):=dk
theorem AXL:AW dn oJ3 (some 0) 500 1 kM (NX off n m xs p (jC2 j) i ee) =
 some (T7 off n xs i false [(CQ (en (Bl (jR j))).2.2,true),(CQ (rX p),true),(CQ (rY p),true)],[],NX off n m xs p (jC2 (cJ j p)) (wI (i-1)) []):=dk
theorem AXM:AR dn oJ3 Tryz.f178 500 1 [] (NX off n m xs p (jC2 j) i du)=some ([(decide (0≤i),false),(CQ (en j).2.2,true)],[],XV (B5 (jR j)) 0,[]):=dk
end
theorem tI (off n m:Nat) (xs:dp) (p:P2) (j:J2) (i:Int) (q:List Bool):BO Tryz.f178.ntmps (NX off n m xs p (jC2 j) i q).s:=AQ dk
theorem AF1 (β:Env) (l:List Value) (h:AO β UC l):AO β (jC2 ⟨0,0,0⟩) l:=Sh.rd_ok (r:=(en (⟨0,0,0⟩:J2):R J2)) (by kernel_rfl:rd UC=some (en (⟨0,0,0⟩:J2):R J2)) h
section
variable {off n m:Nat} {xs:dp} (hall:∀ d∈xs,0≤d∧d<18446744073709551616) (hlen:off+n≤xs.length) (hn:n≤1125899906842624) {p:P2} (hP:Rg.On C2.b p) (hI:EJ p=false) {β0:Env} {w0:World} (hb:∀ b,1≤b→β0 b=none)
include hall hlen hn hb hP hI
theorem AXN:∀ (c:Nat) (j:J2),B5 j=smul (AI (AA xs off n) / 2^c) p→c≤64*n→ASafe dn 178 β0 w0 (A4 β0 w0 [] (XV (smul (AI (AA xs off n)) p) 0) []) Tryz.f178.ntmps [] (NX off n m xs p (jC2 j) ((c:Int)-1) []):=by
 intro c;induction c with
 | zero =>
  intro j hj _;have h:ASafe dn 178 β0 w0 (A4 β0 w0 [] (XV (B5 (jR j)) 0) []) Tryz.f178.ntmps [] (NX off n m xs p (jC2 j) (((0:Nat):Int)-1) du) :=
   Av UE AB Tryz.func178 (AXM ..) ⟨rfl,JS j.z,trivial⟩ (tI ..) hb ft
  unfold jR at h;rw [mo_en,hj,ia,ig] at h;exact Ae du h
 | succ c ih =>
  intro j hj hc;have hi:((c+1:Nat):Int)-1=(c:Int):=dl
  rw [hi];obtain ⟨hw,hjn,hv0,hr0,hbit⟩:=XT (off:=off) hall hn (c:=c) dl
  have hnext:wI ((c:Int)-1)=(c:Int)-1:=Ao dl
  have hconds:∀ bit r,decide (Ij (CG xs off c) (Int.tmod c 64)=0)=bit→AM r→AM (T7 off n xs c bit r):=by
   intro bit r hbt hr';refine ⟨by simp,rfl,?_,?_,by simp,by simp only [gc];exact ⟨hr0,hv0⟩,hbt,hr'⟩
   ·rw [hw];simp;omega
   ·rw [hw];simp;omega
  have hoj:Rg.On C2.b (B5 j):=by rw [hj];exact B4 C2 hP _
  have ejR:jR j=j:=mo_en j
  have htw:B5 (Bl (jR j))=smul (2*(AI (AA xs off n) / 2^(c+1))) p:=by
   rw [ejR,Qz C2 hoj,hj,← It C2 hP,my]
  have hd:=cI (AI (AA xs off n)) c
  rcases ke (AI (AA xs off n) / 2^c) with h0 | h1
  ·refine Ae dx (Ag UE AB (AXK ..) (hconds true [] (by rw [hbit,h0];rfl) trivial) (tI ..) hb ft fun _=>?_)
   rw [hnext];refine ih _ ?_ dl
   rw [htw,hd,h0];rfl
  ·refine Ae ee (Ag UE AB (AXL ..) (hconds false _ (by rw [hbit,h1];rfl) ⟨JS (Bl (jR j)).z,JS (L7 p),JS (JP p),trivial⟩) (tI ..) hb ft fun _=>?_)
   rw [hnext];refine ih _ ?_ dl
   unfold cJ;rw [mo_en,Tw C2 (by rw [htw];exact B4 C2 hP _),htw,hd,h1]
   cases p with
   | inf=>cases hI
   | pt a b =>
    show add _ (.pt (mo (en a)) (mo (en b)))=_;rw [mo_en,mo_en];rfl
end
def EN (N:Nat) (p:P2):P2:=if A9 p=true then smul N p else .pt 0 0
def E0 (p:P2):Int:=if A9 p=true then 0 else 120
theorem AF2 {β:Env} {q:P2} {e:Int} {u:Value} (h:AL β (XV q e) u):AL β (JT q e) u:=CZ (fun _ q=>q) (fun _ q=>D8 rfl q) h
theorem AXO {off n m:Nat} {xs:dp} (hall:∀ d∈xs,0≤d∧d<18446744073709551616) (hlen:off+n≤xs.length) (hn:n≤1125899906842624) (r:R P2) :
  Ac dn 178 (PJ r off n m) (A8 xs) 1 [] (JT (EN (AI (AA xs off n)) (mo r)) (E0 (mo r))) []:=by
 have e1:=AXH r off n m xs;have e2:=AXI r off n m xs;have e3:=AXJ r off n m xs;unfold cK at e1 e2 e3;rw [mo_en] at e1 e2 e3;generalize (mo r:P2)=p at *
 cases ho:A9 p with
 | false =>
  unfold EN E0;rw [fv (by rw [ho];exact gn),fv (by rw [ho];exact gn)]
  refine BA (Ay (path:=dw) Tryz.func178 dk dk fun β0 w0 hb =>
   Av UE AB Tryz.func178 e2 ⟨by rw [ho];rfl,trivial⟩ (AQ dk) hb ft) fun β u hu=>?_
  exact CZ (fun _ q=>FG (r:=(en (.pt 0 0:P2):R P2)) dk q) (fun _ q=>D8 rfl q) hu
 | true =>
  have hP:=(KZ p).1 ho
  unfold EN E0;rw [fw ho,fw ho];cases hI:EJ p with
  | true =>
   have hp:p=.inf:=by cases p with | inf=>rfl | pt a b=>cases hI
   have hs:smul (AI (AA xs off n)) p=p:=by rw [hp,GV]
   rw [hs];exact BA (Ay (path:=dz) Tryz.func178 dk dk fun β0 w0 hb =>
    Av UE AB Tryz.func178 e3 ⟨by rw [ho];rfl,hI,trivial⟩ (AQ dk) hb ft) fun β u hu=>AF2 hu
  | false =>
   refine BA (Ay (path:=d_) Tryz.func178 dk dk fun β0 w0 hb=>?_) fun β u hu=>AF2 hu
   refine Ag UE AB e1 ⟨by rw [ho];rfl,hI,Lx hn,trivial⟩ (AQ dk) hb ft fun _=>?_
   have e4:wI (wI (64*(n:Int))-1)=((64*n:Nat):Int)-1:=by
    rw [Ao (z:=64*(n:Int)) dl,Ao dl];omega
   rw [e4];refine bJ AF1 (AXN hall hlen hn hP hI hb (64*n) ⟨0,0,0⟩ ?_ (gd _))
   rw [F_ rfl,jf (XU hall hlen)];rfl
def cL (α:Type) [Sh α] (g:dp→R α→AV):ASpec:=fun args H fr path =>
 match args with
 | [S,.val true a]=>match DB S with
  | some (k,off,n)=>match (rd a:Option (R α)),AF H k with
   | some r,some ⟨_,cs,_⟩=>match Az .u64 cs with
    | some xs=>some (BI [k] 1 fr 0 [] (g (AA xs off n) r) [] [(Nat.ble (off+n) xs.length,true),(Nat.ble n 1125899906842624,true)] path)
    | none=>none
   | _,_=>none
  | none=>none
 | _=>none
theorem AF3 {α:Type} [Sh α] {f:FuncId} {fn:Func} {g:dp→R α→AV} (hfn:dn.funcs[f]? = some fn) (hb:fn.body.isSome=true) (hname:(fn.name=="runtime.NumGoroutine")=false) (hk:∀ l r,D5 1 0 [] (g l r) []=true)
  (h:∀ (off n m:Nat) (xs:dp) (r:R α),(∀ d∈xs,0≤d∧d<18446744073709551616)→off+n≤xs.length→n≤1125899906842624→Ac dn f [AP 0 off n m,va α r] (A8 xs) 1 [] (g (AA xs off n) r) []):A' dn f (cL α g):=by
 refine DC hfn hb hname fun args H fr path r hs=>?_
 unfold cL at hs;split at hs;case h_2=>cases hs
 rename_i S a;split at hs;case h_2=>cases hs
 rename_i k off n hS;split at hs;case h_2=>cases hs
 rename_i q ty cs o hx hk';split at hs;case h_2=>cases hs
 rename_i xs hxs;injection hs with hs;refine ⟨[k],1,0,[],_,_,_,path,hs.symm,fun β us w ha hg hc=>?_⟩
 obtain ⟨u1,us1,r1,⟨u2,us2,r2,ha,rfl⟩,rfl⟩:=ha;obtain ⟨m,r1⟩:=EU hS r1;obtain ⟨g1,g2,g3⟩:=Lk hg hk' hxs;exact ⟨[AP 0 off n m,va α q],A8 xs,h off n m xs q g1 (f_ hc.1) (f_ hc.2.1),hk _ _,⟨u1,_,CJ dl rfl r1,⟨u2,us2,FG hx r2,ha,rfl⟩,rfl⟩,g2,g3⟩
def SJ4:dt:=(178,DP (cL P2 fun l r=>JT (EN (AI l) (mo r)) (E0 (mo r))))::SJ3
theorem AXP:AT dn SJ4:=⟨D6 (AF3 Tryz.func178 dk dk (fun _ _=>by kernel_rfl) fun _ _ _ _ r hx hl hn=>AXO hx hl hn r),AF0⟩
end
end Go.Proofs.YtgnajdcdcblaoaaGreat
