/- Part 4 of the proof. -/
import Derived.Test.YtgnajdcdcblaoaaGreatPC
import Derived.ChangeSlices
import Derived.Test.YtgnajdcdcblaoaaGreatPB
set_option maxRecDepth 100000
set_option maxHeartbeats 4000000
open Go.Proofs.Tryz renaming prog→dm
open Go.Proofs.Tryz
namespace Go.Proofs.YtgnajdcdcblaoaaGreat
open Ex
open Go.RowKit (Below)
def DN (ls:List Ex.Loc):Env:=fun k=>ls[k]?
theorem ATN (ls:List Ex.Loc) (L:Ex.Loc):Env.le (DN ls) (DN (ls++[L])):=fun b X h=>by
 have hb:b<ls.length:=by
  rcases jv b ls.length with q | q
  ·exact q
  ·simp only [DN] at h;rw [ma q] at h;cases h
 simp only [DN] at h ⊢;rw [nr hb];exact h
theorem JN (ls:List Ex.Loc) (L:Ex.Loc):DN (ls++[L]) ls.length=some L:=by simp [DN]
structure ArgsOk (W:World) (ls:List Ex.Loc) (bs:List gt):Prop where
 len:ls.length=bs.length
 blk:∀ (j:Nat) (b:gt),bs[j]? = some b→b.ty=Bu∧DS (DN ls) b j W
 lt:∀ (j B:Nat) (n:Nat×Nat),ls[j]? = some (Ex.Loc.at_ B n)→B<W.heap.size
theorem ArgsOk.nil (W:World):ArgsOk W [] []:=⟨rfl,fun j b h=>by simp at h,fun j B n h=>by simp at h⟩
theorem ArgsOk.good {W:World} {ls:List Ex.Loc} {bs:List gt} (h:ArgsOk W ls bs):Ex.Good (DN ls) (LF 0 bs) W:=by
 refine ⟨fun b blk hb=>?_,fun b b' B n n' h1 _ _ _=>?_,fun b B n hb=>h.lt b B n hb⟩
 ·obtain ⟨_,hj⟩:=PV hb;exact (h.blk b blk (by simpa using hj)).2
 ·obtain ⟨d,hd,hr⟩:=GZ h1;obtain ⟨_,hj⟩:=PV hd;exact absurd (h.blk b d (by simpa using hj)).1 hr
theorem ArgsOk.none {W:World} {ls:List Ex.Loc} {bs:List gt} (h:ArgsOk W ls bs):∀ b,bs.length≤b→DN ls b=none:=fun b hb=>by
 simp only [DN];rw [ma (by rw [h.len];exact hb)]
theorem ArgsOk.snoc {W:World} {ls:List Ex.Loc} {bs:List gt} (h:ArgsOk W ls bs) {L:Ex.Loc} {b:gt} (hb:DS (DN (ls++[L])) b ls.length W) (hr:b.ty=Bu) (hl:∀ B n,L=Ex.Loc.at_ B n→B<W.heap.size):ArgsOk W (ls++[L]) (bs++[b]):=by
 refine ⟨by simp [h.len],fun j d hd=>?_,fun j B n hj=>?_⟩
 ·rcases jv j bs.length with q | q
  ·rw [nr q] at hd;exact ⟨(h.blk j d hd).1,Zf (ATN ls L) (h.blk j d hd).2⟩
  ·rw [qv q] at hd;have e:j=bs.length:=by
    rcases Nat.eq_or_lt_of_le q with q' | q'
    ·exact q'.symm
    ·rw [ma (by simp;omega)] at hd;cases hd
   subst e;simp at hd
   subst hd;exact ⟨hr,by rw [← h.len];exact hb⟩
 ·rcases jv j ls.length with q | q
  ·rw [nr q] at hj;exact h.lt j B n hj
  ·rw [qv q] at hj;have e:j-ls.length=0:=by
    rcases lk (j-ls.length) with q' | q'
    ·exact q'
    ·rw [ma (by simp;omega)] at hj;cases hj
   rw [e] at hj;simp at hj
   exact hl B n hj
theorem ATO {P:Program} {CV:TypeId→Bool}:∀ (d:Nat) {e:TypeId} {count gu n:Nat},rowAt P CV d e count gu n=true→gu≤count*P.cellsOf e
 | 0,_,_,_,_,h=>by simp [rowAt] at h
 | d+1,e,count,gu,n,h=>by
  by_cases hs:P.cellsOf e=0
  ·unfold rowAt at h;simp [hs] at h
  ·unfold rowAt at h;rw [jd hs] at h;have ie:0<P.cellsOf e:=rv hs
   have hdm:=md gu (P.cellsOf e)
   have ik:=jw gu ie;have key:gu / P.cellsOf e<count∨(gu % P.cellsOf e=0∧gu / P.cellsOf e≤count):=by
    simp only [rx,jm,ji,beq_iff_eq] at h;rcases h with ⟨⟨h1,h2⟩,_⟩ | ⟨h1,_⟩
    ·exact .inr ⟨h1,dk⟩
    ·exact .inl h1
   rcases key with q | ⟨q1,q2⟩
   ·have:=mz (P.cellsOf e) (show gu / P.cellsOf e+1≤count from q)
    rw [nj,kb] at this;rw [jy count];omega
   ·have:=mz (P.cellsOf e) q2
    rw [jy count];omega
theorem tQ {P:Program}:∀ (d:Nat) {e u:TypeId} {count gu n:Nat},liesAt P d e count gu u n=true→gu≤count*P.cellsOf e
 | 0,_,_,_,_,_,h=>by simp [liesAt] at h
 | d+1,e,u,count,gu,n,h=>by
  unfold liesAt at h;rw [rx] at h;rcases h with h | h
  ·exact ATO _ h
  ·split at h
   ·exact tQ d h
   ·cases h
theorem ATP {H:Type} {enc:TypeId×Value→H} {W:World} {base:Nat} {t e:TypeId} {k:IntKind} {v:Value} {d:DataW H} {p:List MemPlace} (hu:dm.underlying t=some (.slice e)) (he:dm.underlying e=some (.int k)) (hc:dm.cellsOf e=1)
  (hv:Value.okWide dm W .any base t v) (ht:DataW.Trod enc dm W 0 (fun _=>true) true t v d p) :
  ∃ (L:Ex.Loc) (zs:dn) (n m:Nat),(∀ x∈zs,has k x)∧n≤zs.length∧n≤maxLen∧(∀ B q,L=Ex.Loc.at_ B q→B<W.heap.size)∧∀ ls:List Ex.Loc,AN (DN (ls++[L])) (.val false [.sl ls.length 0 n m]) v∧DS (DN (ls++[L])) (Ak [.seq k zs]) ls.length W:=by
 obtain ⟨ia,hf⟩:=ht;obtain ⟨a0,len0,cap0,rfl⟩:=Go.WideShapes.okWide_slice hu hv;have hcells:(Value.slice a0 len0 cap0).cells=#[Value.slice a0 len0 cap0]:=rfl
 rw [hcells] at hf;rcases Go.ChangeShapes.open_ints hu he hc hf with ⟨hcs,_⟩ | ⟨a,len,cap,zs,hcs,hb,hl,hm,hz,_,hcell,i_⟩
 ·have e1:Value.slice a0 len0 cap0=.slice none 0 0:=by simpa using hcs
  rw [e1];refine ⟨.nil,[],0,0,by simp,by simp,qi _,(fun B q h=>by cases h),fun ls=>⟨?_,.inr (.inl ⟨.nil,JN _ _,Or.inr rfl,⟨[],[],⟨rfl,by simp⟩,rfl,rfl⟩⟩)⟩⟩
  exact Aw (.inr (.inl ⟨JN _ _,rfl,rfl,rfl,rfl⟩))
 ·have e1:Value.slice a0 len0 cap0=.slice (some a) len cap:=by simpa using hcs
  rw [e1] at hv ⊢;simp only [if_true] at hz;have hk:Cell.ok dm W .any base t (.slice (some a) len cap):=by
   have:=hv
   simp only [Value.okWide,hu,Cell.okWide] at this;exact this
  simp only [Cell.ok,hu] at hk;obtain ⟨_,_,_,hspot,row,cells,hsh,hlies⟩:=hk;obtain ⟨c,fz,hblk,hsz⟩:∃ c fz,W.heap[a.block]? = some (.cells c row fz)∧cells=c.size:=by
   unfold World.shape? at hsh
   split at hsh
   ·rename_i c el fz hq;injection hsh with hsh;injection hsh with h1 h2;exact ⟨c,fz,by rw [hq,h1],h2.symm⟩
   ·cases hsh
  have hoff:a.off≤c.size:=by
   have h1:=tQ _ hlies;have h2:=qj cells (dm.cellsOf row)
   omega
  have AG:∀ i,i<zs.length→c[a.off+i]? = some (.int k (zs.getD i 0)):=by
   intro i hi;have h1:=hcell i hi;have e2:a.add i=⟨a.block,a.off+i,none⟩:=by
    unfold Addr.add;split
    ·rename_i h0;subst h0;cases a;simp only at hspot;simp [hspot]
    ·rfl
   rw [e2] at h1;simp only [World.cell?,hblk] at h1;simpa using h1
  have hend:a.off+zs.length≤c.size:=by
   rcases lk zs.length with h0 | hp
   ·omega
   ·have:=(qw.1 (AG (zs.length-1) dk)).1
    omega
  have hlist:c.toList=c.toList.take a.off++(zs.map (.int k)++c.toList.drop (a.off+zs.length)):=by
   have hmid:(c.toList.drop a.off).take zs.length=zs.map (.int k):=by
    refine sn fun i=>?_
    by_cases hi:i<zs.length
    ·rw [qz hi,qk,qu,AG i hi,pm,mq hi,j_,mq hi];rfl
    ·rw [ma (by simp;omega),ma (by simp;omega)]
   rw [← hmid,← ni,my,my]
  have ea:a=⟨a.block,a.off,none⟩:=by cases a;simp only at hspot;simp [hspot]
  have hhas:∀ x∈zs,has k x:=fun x hx=>ACy (i_ x hx)
  refine ⟨.at_ a.block (c.size,a.off),zs,len,cap,hhas,dk,mb hl hm,fun B q h=>?_,fun ls=>⟨?_,.inl ⟨a.block,(c.size,a.off),zs.map (.int k),c.toList.drop (a.off+zs.length),c.toList.take a.off,row,fz,JN _ _,⟨_,[],⟨rfl,hhas⟩,rfl,by simp⟩,?_,?_,fun hr=>absurd rfl hr⟩⟩⟩
  ·injection h with h1 h2;rw [← h1];exact (qw.1 hblk).1
  ·refine Aw (.inl ⟨a.block,(c.size,a.off),JN _ _,?_⟩)
   rw [nl,← ea]
  ·rw [← hlist];exact hblk
  ·simp;omega
theorem ATQ {f:FuncId} {fn:Func} (h:∀ (H:Type) (enc:TypeId×Value→H) (us:List Value) (W:World) (base:Nat) (ds:List (DataW H)) (ps:List MemPlace),(∀ (j:Nat) t v,fn.params[j]? = some t→us[j]? = some v→Value.okWide dm W .any base t v) →
  DataW.TrodAll enc dm W 0 (fun _=>true) true fn.params.toList us ds ps→∃ ls bs args,ArgsOk W ls bs∧BI (DN ls) args us∧Ab dm f args (LF 0 bs) bs.length [] (Av true) []):pD dm f fn:=by
 intro H enc us W base ds ps hv hA _ _;obtain ⟨ls,bs,args,ho,ha,hc⟩:=h H enc us W base ds ps hv hA;refine (hc (DN ls) us W ha ho.good ho.none).mono ?_
 rintro e w' ⟨u,β,rfl,out⟩
 obtain ⟨l1,l2,⟨h1,_⟩,h3,h4⟩:=out.val;simp only [AQ] at h3;subst h1;subst h3;injection h4 with h4 _;refine ⟨by rw [h4],⟨out.os,out.tape,out.output,out.size,fun k hk=>out.frame k hk (fun _ _ h=>by cases h)⟩⟩
theorem AFV {f:FuncId} {args:List AV} {H:Heap} {k0:Nat} {b:Bool} (h:Ab dm f args H k0 [] (Av b) []) (e:b=true):Ab dm f args H k0 [] (Av true) []:=by rw [← e];exact h
open Ex Num
def DZ:AV→Option (Nat×Nat×Nat)
 | .val false [.sl k gu n _]=>some (k,gu,n)
 | .val false [.sx k n _]=>some (k,0,n)
 | _=>none
theorem FE {β:Env} {A:AV} {k gu n:Nat} {u:Value} (h:DZ A=some (k,gu,n)) (hr:AN β A u):∃ m,AN β (AR k gu n m) u:=by
 unfold DZ at h;split at h
 ·rename_i k' gw n' m;injection h with h;injection h with h1 h;injection h with h2 h3;subst h1;subst h2;subst h3;exact ⟨m,hr⟩
 ·rename_i k' n' sz;injection h with h;injection h with h1 h;injection h with h2 h3;subst h1;subst h2;subst h3;obtain ⟨l1,l2,h1,h2,h3⟩:=hr;rcases h1 with ⟨B,q,cap,q1,q2,q3,q4⟩ | ⟨q1,q2,q3⟩
  ·exact ⟨cap,l1,l2,.inl ⟨B,(q,0),q1,by rw [q2]⟩,h2,h3⟩
  ·exact ⟨0,l1,l2,.inr (.inl ⟨q1,rfl,q2,rfl,q3⟩),h2,h3⟩
 ·cases h
theorem Da {f:FuncId} {fn:Func} (ip:dm.funcs[f]? = some fn) (hbd:fn.body.isSome=true) (h_:fo fn) {s:ASpec}
  (h:∀ args H fr gv r,s args H fr gv=some r→∃ (ρ:List Nat) (k0 nw:Nat) (W:List Nat) (val:AV) (H1:Heap) (conds:dp) (path':List Bool),
   r=BR ρ k0 fr nw W val H1 conds path'∧(∀ β us w,BI β args us→Ex.Good β H w→AO conds→∃ ic H0,Ab dm f ic H0 k0 W val H1∧EU k0 nw W val H1=true∧BI (A9 β ρ k0) ic us∧Ex.Good (A9 β ρ k0) H0 w∧(∀ k,k<k0→∃ X,β (nth ρ k)=some X))):BJ dm f s:=by
 intro args H fr gv r β us w hs hc ha hg hf;obtain ⟨ρ,k0,nw,W,val,H1,conds,path',rfl,hh⟩:=h args H fr gv r hs;obtain ⟨ic,H0,hcan,hb,ha0,hg0,hdef⟩:=hh β us w ha hg hc;refine T5 ip hbd h_ (Calls.mono (hcan (A9 β ρ k0) us w ha0 hg0 fun b hb=>?_) ?_)
 ·have:Nat.blt b k0=false:=by cases h:Nat.blt b k0 with | false=>rfl | true=>have:=Bf.1 h;omega
  simp [A9,this]
 ·rintro e w' ⟨u,β1,rfl,ho⟩
  obtain ⟨β',he⟩:=ACx (conds:=conds) (gv:=path') hg ho hb hf hdef
  exact ⟨u,β',rfl,he⟩
theorem Cp {β:Env} {k j gu n m:Nat} {ρ:List Nat} {k0:Nat} {u:Value} (hj:j<k0) (hn:nth ρ j=k) (h:AN β (AR k gu n m) u):AN (A9 β ρ k0) (AR j gu n m) u:=by
 obtain ⟨l1,l2,h1,h2,h3⟩:=h;refine ⟨l1,l2,?_,h2,h3⟩
 have e:A9 β ρ k0 j=β k:=by rw [FK hj,hn]
 rcases h1 with ⟨B,q,q1,q2⟩ | ⟨q1,q2⟩ | ⟨q1,q2⟩
 ·exact .inl ⟨B,q,by rw [e];exact q1,q2⟩
 ·exact .inr (.inl ⟨by rw [e];exact q1,q2⟩)
 ·exact .inr (.inr ⟨by rw [e];exact q1,q2⟩)
def Xs (g:Nat→dn→AV):ASpec:=fun args H fr gv =>
 match args with
 | [S]=>match DZ S with
  | some (k,gu,n)=>match AG H k with
   | some ⟨_,cs,_⟩=>match A8 .u8 cs with
    | some xs=>some (BR [k] 1 fr 0 [] (g n (AA xs gu n)) [] [(Nat.ble (gu+n) xs.length,true),(AL .i64 n,true)] gv)
    | none=>none
   | _=>none
  | none=>none
 | _=>none
theorem tS {f:FuncId} {fn:Func} {g:Nat→dn→AV} (ip:dm.funcs[f]? = some fn) (hb:fn.body.isSome=true) (h_:fo fn) (hk:∀ n l,EU 1 0 [] (g n l) []=true)
  (h:∀ (gu n m:Nat) (xs:dn),(∀ d∈xs,0≤d∧d<256)→gu+n≤xs.length→AL .i64 n=true→Ab dm f [AR 0 gu n m] (A5 xs) 1 [] (g n (AA xs gu n)) []):BJ dm f (Xs g):=by
 refine Da ip hb h_ fun args H fr gv r hs=>?_
 unfold Xs at hs;split at hs;case h_2=>cases hs
 rename_i S;split at hs;case h_2=>cases hs
 rename_i k gu n hS;split at hs;case h_2=>cases hs
 rename_i ty cs o hk';split at hs;case h_2=>cases hs
 rename_i xs iy;injection hs with hs;refine ⟨[k],1,0,[],_,_,_,gv,hs.symm,fun β us w ha hg hc=>?_⟩
 obtain ⟨u1,iu,r1,ha,rfl⟩:=ha;obtain ⟨m,r1⟩:=FE hS r1;obtain ⟨g1,g2,g3⟩:=Eu hg hk' iy;exact ⟨[AR 0 gu n m],A5 xs,h gu n m xs g1 (jf hc.1) hc.2.1,hk _ _,⟨u1,_,Cp dk rfl r1,ha,rfl⟩,g2,g3⟩
def Xt (g:Nat→dn→AV):ASpec:=fun args H fr gv =>
 match args with
 | [S]=>match DZ S with
  | some (k,gu,n)=>match AG H k with
   | some ⟨_,cs,_⟩=>match A8 .u64 cs with
    | some xs=>some (BR [k] 1 fr 0 [] (g n (AA xs gu n)) [] [(Nat.ble (gu+n) xs.length,true),(Nat.ble n 1125899906842624,true)] gv)
    | none=>none
   | _=>none
  | none=>none
 | _=>none
theorem tU {f:FuncId} {fn:Func} {g:Nat→dn→AV} (ip:dm.funcs[f]? = some fn) (hb:fn.body.isSome=true) (h_:fo fn) (hk:∀ n l,EU 1 0 [] (g n l) []=true)
  (h:∀ (gu n m:Nat) (xs:dn),(∀ d∈xs,0≤d∧d<18446744073709551616)→gu+n≤xs.length→n≤1125899906842624→Ab dm f [AR 0 gu n m] (BG xs) 1 [] (g n (AA xs gu n)) []):BJ dm f (Xt g):=by
 refine Da ip hb h_ fun args H fr gv r hs=>?_
 unfold Xt at hs;split at hs;case h_2=>cases hs
 rename_i S;split at hs;case h_2=>cases hs
 rename_i k gu n hS;split at hs;case h_2=>cases hs
 rename_i ty cs o hk';split at hs;case h_2=>cases hs
 rename_i xs iy;injection hs with hs;refine ⟨[k],1,0,[],_,_,_,gv,hs.symm,fun β us w ha hg hc=>?_⟩
 obtain ⟨u1,iu,r1,ha,rfl⟩:=ha;obtain ⟨m,r1⟩:=FE hS r1;obtain ⟨g1,g2,g3⟩:=Ml hg hk' iy;exact ⟨[AR 0 gu n m],BG xs,h gu n m xs g1 (jf hc.1) (jf hc.2.1),hk _ _,⟨u1,_,Cp dk rfl r1,ha,rfl⟩,g2,g3⟩
noncomputable def powSp:ASpec:=fun args H fr gv =>
 match args with
 | [.val true a,S]=>match DZ S with
  | some (k,gu,n)=>match DL 6 a,AG H k with
   | some x,some ⟨_,cs,_⟩=>match A8 .u64 cs with
    | some xs=>some (BR [k] 1 fr 0 [] (Aa (DD x (AK (AA xs gu n)))) [] [(Nat.ble (gu+n) xs.length,true),(Nat.ble n 1125899906842624,true)] gv)
    | none=>none
   | _,_=>none
  | none=>none
 | _=>none
theorem AFW {f:FuncId} {fn:Func} (ip:dm.funcs[f]? = some fn) (hb:fn.body.isSome=true) (h_:fo fn)
  (h:∀ (gu n m:Nat) (xs:dn) (x:Nat),(∀ d∈xs,0≤d∧d<18446744073709551616)→gu+n≤xs.length→n≤1125899906842624→Ab dm f (Nr x gu n m) (BG xs) 1 [] (Aa (DD x (AK (AA xs gu n)))) []):BJ dm f powSp:=by
 refine Da ip hb h_ fun args H fr gv r hs=>?_
 unfold powSp at hs;split at hs;case h_2=>cases hs
 rename_i a S;split at hs;case h_2=>cases hs
 rename_i k gu n hS;split at hs;case h_2=>cases hs
 rename_i x ty cs o hx hk';split at hs;case h_2=>cases hs
 rename_i xs iy;injection hs with hs;refine ⟨[k],1,0,[],_,_,_,gv,hs.symm,fun β us w ha hg hc=>?_⟩
 obtain ⟨u1,iu,r1,⟨u2,iw,r2,ha,rfl⟩,rfl⟩:=ha;obtain ⟨m,r2⟩:=FE hS r2;obtain ⟨g1,g2,g3⟩:=Ml hg hk' iy;refine ⟨Nr x gu n m,BG xs,h gu n m xs x g1 (jf hc.1) (jf hc.2.1),dj,⟨u1,_,?_,⟨u2,iw,Cp dk rfl r2,ha,rfl⟩,rfl⟩,g2,g3⟩
 obtain ⟨l,q,rfl⟩:=r1;exact ⟨l,GQ hx q,rfl⟩
noncomputable def SB:dr:=(140,D9 (Xs fun n l=>Ie n (Ao l)))::(128,D9 (Xs fun n l=>Ie n (Ao l)))::(130,D9 powSp)::(206,D9 powSp)::(188,D9 (Xt fun _ l=>Aa (AK l % pN)))::SZ
theorem ATR:AW dm SB:=⟨EV (tS func140 dj dj (fun _ _=>rfl) (fun _ _ _ _ hx hl hn=>AFS hx hl hn)),EV (tS func128 dj dj (fun _ _=>rfl) (fun _ _ _ _ _ hl hn=>sR hl hn)),EV (AFW func130 dj dj fun _ _ _ _ x hx hl hn=>ADk hx hl hn x),EV (AFW func206 dj dj fun _ _ _ _ x hx hl hn=>AFI hx hl hn x),EV (tU func188 dj dj (fun _ _=>rfl) (fun _ _ _ _ hx hl hn=>tK hx hl hn)),ATM⟩
def tt:Nat→dp→dp
 | 0,r=>r
 | n+1,r=>(true,true)::tt n r
theorem AI:∀ (n:Nat) {r:dp},AO r→AO (tt n r)
 | 0,_,h=>h
 | n+1,_,h=>⟨rfl,AI n h⟩
theorem Bs {S:dr} {K:List (TypeId×List (Option IntKind))} (hS:AW dm S) (hK:MT dm K) {f:FuncId} {fn:Func} (ip:dm.funcs[f]? = some fn) (hb:fn.body.isSome=true) {args:List AV} {H H1:Heap} {ia k0:Nat} {ks:List Nat} {gv:List Bool} {conds:dp} {v:AV}
  (gx:Nat.ble (F2 args) fn.ntmps=true) (h:AT dm (AH S K) fn ia k0 ks (Aj fn args H k0 gv)=some (conds,[],v,H1)) (hw:Nh fn.ntmps (Aj fn args H k0 gv).s=true) (hc:AO conds):Ab dm f args H k0 [] v H1 :=
 A7 (gv:=gv) ip hb gx fun _ _ h0=>Ay (AJ hS hK) AB ip h hc (AS hw) h0 jb
section
variable {H:Type} {enc:TypeId×Value→H} {W:World} {base:Nat} {v:Value} {d:DataW H} {p:List MemPlace}
theorem Xu:dm.underlying 22=some (.slice 5):=dj
theorem tW:dm.underlying 5=some (.int .u8):=dj
theorem tY:dm.cellsOf 5=1:=dj
theorem cW {n:Nat} (h:n≤maxLen):AL .i64 (n:Int)=true:=by
 unfold maxLen at h;simp only [AL,jm,ji];omega
theorem ATS (hv:Value.okWide dm W .any base 22 v) (ht:DataW.Trod enc dm W 0 (fun _=>true) true 22 v d p) {ls:List Ex.Loc} {bs:List gt} (ho:ArgsOk W ls bs) :
  ∃ (L:Ex.Loc) (zs:dn) (n m:Nat),(∀ x∈zs,0≤x∧x<256)∧n≤zs.length∧AL .i64 (n:Int)=true∧AN (DN (ls++[L])) (AR ls.length 0 n m) v∧ArgsOk W (ls++[L]) (bs++[Ak [.seq .u8 zs]]):=by
 obtain ⟨L,zs,n,m,h1,h2,h3,h4,h5⟩:=ATP Xu tW tY hv ht;exact ⟨L,zs,n,m,fun x hx=>sP (h1 x hx),h2,cW h3,(h5 ls).1,ho.snoc (h5 ls).2 rfl h4⟩
end
def qtH:Heap:=[(0,some ⟨38,QC,false⟩)]
theorem ATT:AT dm (AH S0 K0) f207 100 0 [0] (Aj f207 [] [] 0 [])=some ([],[],AR 0 0 6 6,qtH):=dj
def qtSp:ASpec:=fun args _ fr gv =>
 match args with
 | []=>some (BR [] 0 fr 1 [] (AR 0 0 6 6) qtH [] gv)
 | _=>none
theorem ATU:BJ dm 207 qtSp:=by
 refine HH func207 dj dj fun args H fr gv r hs=>?_
 unfold qtSp at hs;split at hs;case h_2=>cases hs
 injection hs with hs;refine ⟨[],[],[],0,1,[],_,_,_,gv,hs.symm,fun β us w ha hg hc=>?_⟩
 refine ⟨Bs IW Ae func207 dj dj ATT dj trivial,dj,ha,⟨fun b blk h=>(by cases h),fun b b' B n n' h=>(by cases h),fun b B n h=>?_⟩,fun k h=>absurd h (oi k)⟩
 unfold A9 at h;split at h
 ·exact hg.lt _ _ _ h
 ·cases h
noncomputable def SC:dr:=(207,qtSp)::SB
theorem cX:AW dm SC:=⟨ATU,ATR⟩
def QL:dn:=[0xee7fbfffffffeaab,0x7aaffffac54ffff,0xd9cc34a83dac3d89,0xd91dd2e13ce144af,0x92c6e9ed90d2eb35,0x680447a8e5ff9a6]
theorem ATV:AK (AA QL 0 6)=QN:=dj
noncomputable def Xv (a:Nat):Nat:=DD a (AK (AA QL 0 6))
theorem ATW (a:Nat):AM dm (AH SC K0) f144 [Aa a] [] 300=some (tt 2 [],.tup [(true,[.num 6 (Xv a)]),(false,[.v (.bool (decide (Ah (Xv a) (Xv a)=a % pN)))])]):=dj
noncomputable def AFY (a:Nat):AV:=.tup [(true,[.num 6 (DD a QN)]),(false,[.v (.bool (Cq a))])]
theorem ATX (a:Nat):AU dm 144 [Aa a] (AFY a):=by
 have h:=AP (AJ cX Ae) AB func144 (ATW a) (AI 2 trivial) rfl
 have e:Xv a=DD a QN:=by unfold Xv;rw [ATV]
 rw [e] at h;exact h
theorem ATY (a:Nat):AM dm (AH SC K0) f145 [Aa a] [] 300=some ([(decide (0≤AF (a % pN) 0∧(0:Int)<2),true)],DY (wI (Int.tmod (AF (a % pN) 0) 2))):=dj
theorem ATZ (a:Nat):AU dm 145 [Aa a] (DY (E3 a)):=by
 have hb:=B3 (a % pN) 0
 have h:=AP (AJ cX Ae) AB func145 (ATY a) ⟨by simp [hb.1],trivial⟩ rfl
 have e:wI (Int.tmod (AF (a % pN) 0) 2)=E3 a:=by
  rw [rA,oe dk,Au dk];unfold E3;omega
 rw [e] at h;exact h
theorem ATa (a:Nat):AM dm (AH SC K0) f69 [Aa a] [] 300=some (tt 4 [],Av (decide (0<Et (AK (AA (JJ (a % pN)) (0+0*1) (6-0))) (AK (AA (JJ (DC a)) (0+0*1) (6-0)))))):=dj
theorem ATb (x:Nat):AU dm 69 [Aa x] (Av (BP x)):=by
 have h:=AP (AJ cX Ae) AB func69 (ATa x) (AI 4 trivial) rfl
 rw [Pc (LE x),Pc (mv (bM x) dl)] at h;have e:decide (0<Et (x % pN) (DC x))=BP x:=by
  unfold Et BP;by_cases h1:x % pN<DC x
  ·rw [je h1,jg dk,jg dk]
  ·by_cases h2:DC x<x % pN
   ·rw [jd h1,je h2,jc h2];rfl
   ·rw [jd h1,jd h2,jg h2];rfl
 rw [e] at h;exact h
noncomputable def SD:dr:=(144,Ac (GP AFY))::(145,Ac (GP fun x=>DY (E3 x)))::(69,Ac (GP fun x=>Av (BP x)))::SC
theorem cY:AW dm SD:=⟨Ad func144 dj dj (HI fun x _=>ATX x),Ad func145 dj dj (HI fun x _=>ATZ x),Ad func69 dj dj (HI fun x _=>ATb x),cX⟩
theorem ATc (a:Nat):AM dm (AH SD K0) f67 [Aa a] du 300=some ([(!Cq a,true)],.tup [(true,Hr),(false,[.b false])]):=dj
theorem ATd (a:Nat):AM dm (AH SD K0) f67 [Aa a] dx 300=some ([(!Cq a,false),(decide (E3 (DD a QN)=1),true)],.tup [(true,[.num 6 (DC (DD a QN))]),(false,[.b true])]):=dj
theorem ATe (a:Nat):AM dm (AH SD K0) f67 [Aa a] dz 300=some ([(!Cq a,false),(decide (E3 (DD a QN)=1),false)],.tup [(true,[.num 6 (DD a QN)]),(false,[.b true])]):=dj
theorem ATf (a:Nat):AU dm 67 [Aa a] (UO a):=by
 by_cases h:Cq a=true
 ·have e:D_ a=Hv (DD a QN):=by unfold D_;rw [je h]
  unfold UO;rw [e];by_cases hs:E3 (DD a QN)=1
  ·have e2:Hv (DD a QN)=DC (DD a QN):=je hs
   rw [e2];exact C3 (AP (AJ cY Ae) AB func67 (ATd a) ⟨by rw [h];rfl,jc hs,trivial⟩ rfl) fun u hu=>C7 (fun _ q=>q) (fun _ q=>JK h.symm q) hu
  ·have e2:Hv (DD a QN)=DD a QN:=jd hs
   rw [e2];exact C3 (AP (AJ cY Ae) AB func67 (ATe a) ⟨by rw [h];rfl,jg hs,trivial⟩ rfl) fun u hu=>C7 (fun _ q=>q) (fun _ q=>JK h.symm q) hu
 ·have h0:Cq a=false:=by simpa using h
  have e:D_ a=0:=by unfold D_;rw [jd h]
  unfold UO;rw [e];exact C3 (AP (AJ cY Ae) AB func67 (ATc a) ⟨by rw [h0];rfl,trivial⟩ rfl) fun u hu=>C7 (fun _ q=>Xg q) (fun _ q=>JK h0.symm q) hu
noncomputable def SE:dr:=(67,Ac (GP UO))::SD
theorem tZ:AW dm SE:=⟨Ad func67 dj dj (HI fun x _=>ATf x),cY⟩
end Go.Proofs.YtgnajdcdcblaoaaGreat
namespace Go.Proofs.YtgnajdcdcblaoaaGreat.Rg
class CR (F:Type) extends Add F,Mul F,Neg F,Sub F,Zero F,One F where
 add_assoc:∀ a b c:F,(a+b)+c=a+(b+c)
 add_comm:∀ a b:F,a+b=b+a
 zero_add:∀ a:F,0+a=a
 neg_add:∀ a:F,-a+a=0
 mul_assoc:∀ a b c:F,(a*b)*c=a*(b*c)
 mul_comm:∀ a b:F,a*b=b*a
 one_mul:∀ a:F,1*a=a
 add_mul:∀ a b c:F,(a+b)*c=a*c+b*c
 sub_eq:∀ a b:F,a-b=a+-b
section
variable {F:Type} [CR F]
theorem add_assoc (a b c:F):(a+b)+c=a+(b+c):=CR.add_assoc a b c
theorem add_comm (a b:F):a+b=b+a:=CR.add_comm a b
theorem mul_assoc (a b c:F):(a*b)*c=a*(b*c):=CR.mul_assoc a b c
theorem mul_comm (a b:F):a*b=b*a:=CR.mul_comm a b
theorem zero_add (a:F):0+a=a:=CR.zero_add a
theorem add_zero (a:F):a+0=a:=by rw [add_comm,zero_add]
theorem neg_add (a:F):-a+a=0:=CR.neg_add a
theorem add_neg (a:F):a+-a=0:=by rw [add_comm,neg_add]
theorem one_mul (a:F):1*a=a:=CR.one_mul a
theorem mul_one (a:F):a*1=a:=by rw [mul_comm,one_mul]
theorem add_mul (a b c:F):(a+b)*c=a*c+b*c:=CR.add_mul a b c
theorem mul_add (a b c:F):a*(b+c)=a*b+a*c:=by rw [mul_comm,add_mul,mul_comm b,mul_comm c]
theorem sub_eq (a b:F):a-b=a+-b:=CR.sub_eq a b
theorem uA {a b c:F} (h:a+b=a+c):b=c:=by
 have:=jl (fun z=>-a+z) h
 simpa [← add_assoc,neg_add,zero_add] using this
theorem zero_mul (a:F):0*a=0:=by
 have h:0*a+0*a=0*a+0:=by rw [← add_mul,zero_add,add_zero]
 exact uA h
theorem mul_zero (a:F):a*0=0:=by rw [mul_comm,zero_mul]
theorem J6 {a b:F} (h:a+b=0):b=-a:=uA (a:=a) (by rw [h,add_neg])
theorem cZ (a b:F):-a*b=-(a*b):=J6 (by rw [← add_mul,add_neg,zero_mul])
theorem neg_neg (a:F):-(-a)=a:=(J6 (neg_add a)).symm
theorem HL:-(0:F)=0:=(J6 (zero_add 0)).symm
theorem Xw (a b:F):-(a+b)=-a+-b:=(J6 (by
 rw [add_comm a b,add_assoc,← add_assoc a,add_neg,zero_add,add_neg])).symm
theorem sub_self (a:F):a-a=0:=by rw [sub_eq,add_neg]
theorem AZ {a b:F}:a-b=0↔a=b:=by
 constructor
 ·intro h;rw [sub_eq] at h;have:=J6 ((add_comm _ _).trans h)
  rw [this,neg_neg]
 ·rintro rfl;exact sub_self a
theorem AFZ (a b c:F):a+(b+c)=b+(a+c):=by rw [← add_assoc,add_comm a b,add_assoc]
theorem mul_left_comm (a b c:F):a*(b*c)=b*(a*c):=by rw [← mul_assoc,mul_comm a b,mul_assoc]
def CG:Nat→F
 | 0=>0
 | n+1=>CG n+1
theorem N4 (a b:Nat):(CG (a+b):F)=CG a+CG b:=by
 induction b with
 | zero=>simp [CG,add_zero]
 | succ b ih=>rw [← mr];simp only [CG];rw [ih,add_assoc]
theorem Xx (a b:Nat):(CG (a*b):F)=CG a*CG b:=by
 induction b with
 | zero=>simp [CG,mul_zero]
 | succ b ih=>rw [Nat.mul_succ,N4,ih];simp only [CG];rw [mul_add,mul_one]
def int:Int→F
 | .ofNat n=>CG n
 | .negSucc n=>-(CG (n+1))
theorem Ug (a b:Nat):(int ((a:Int)-b):F)=CG a+-CG b:=by
 rcases Nat.le_total b a with h | h
 ·obtain ⟨c,rfl⟩:=Nat.exists_eq_add_of_le h;rw [show ((b+c:Nat):Int)-b=(c:Int) by omega,N4,add_comm (CG b) (CG c),add_assoc,add_neg,add_zero];rfl
 ·obtain ⟨c,rfl⟩:=Nat.exists_eq_add_of_le h;cases c with
  | zero=>rw [nl,add_neg,show (a:Int)-(a:Nat)=0 by omega];rfl
  | succ c =>
   rw [show (a:Int)-((a+(c+1):Nat):Int)=Int.negSucc c by omega,N4,Xw,← add_assoc,add_neg,zero_add];rfl
theorem c8 (i:Int):∃ a b:Nat,i=(a:Int)-b:=by
 cases i with
 | ofNat n=>exact ⟨n,0,by simp⟩
 | negSucc n=>exact ⟨0,n+1,dk⟩
theorem AFa (i j:Int):(int (i+j):F)=int i+int j:=by
 obtain ⟨a,b,rfl⟩:=c8 i;obtain ⟨c,d,rfl⟩:=c8 j;rw [show (a:Int)-b+(c-d)=((a+c:Nat):Int)-(b+d:Nat) by omega,Ug,Ug,Ug,N4,N4,Xw]
 rw [add_assoc,add_assoc];congr 1
 rw [← add_assoc,← add_assoc];congr 1
 exact add_comm _ _
theorem AFb (a b:F):a*-b=-(a*b):=by rw [mul_comm,cZ,mul_comm]
theorem ATg (i j:Int):(int (i*j):F)=int i*int j:=by
 obtain ⟨a,b,rfl⟩:=c8 i;obtain ⟨c,d,rfl⟩:=c8 j;rw [show ((a:Int)-b)*(c-d)=((a*c+b*d:Nat):Int)-(a*d+b*c:Nat) by
  rw [qd,qd,kz,kz,kz,kz,Int.sub_mul,Int.mul_sub,Int.mul_sub];omega]
 rw [Ug,Ug,Ug,N4,N4,Xx,Xx,Xx,Xx];rw [add_mul,mul_add,mul_add,cZ,AFb,cZ,AFb,neg_neg,Xw];rw [add_assoc,add_assoc];congr 1
 rw [add_comm (CG b*CG d),add_assoc]
theorem ATh (i:Int):(int (-i):F)=-int i:=by
 refine J6 ?_
 rw [← AFa,Int.add_right_neg];rfl
theorem ATi:(int 0:F)=0:=rfl
theorem Xy:(int 1:F)=1:=by show CG 0+1=_;exact zero_add 1
def pw (x:F):Nat→F
 | 0=>1
 | n+1=>pw x n*x
theorem Rn (x:F) (a b:Nat):pw x (a+b)=pw x a*pw x b:=by
 induction b with
 | zero=>simp [pw,mul_one]
 | succ b ih=>rw [← mr];simp only [pw];rw [ih,mul_assoc]
theorem pw_mul (x y:F) (n:Nat):pw (x*y) n=pw x n*pw y n:=by
 induction n with
 | zero=>simp [pw,one_mul]
 | succ n ih=>simp only [pw];rw [ih,mul_assoc,mul_assoc];congr 1;rw [mul_left_comm]
theorem c9 (x:F) (a b:Nat):pw x (a*b)=pw (pw x a) b:=by
 induction b with
 | zero=>rfl
 | succ b ih=>rw [Nat.mul_succ,Rn,ih];rfl
end
abbrev Mon:=List Nat
abbrev Pol:=List (Mon×Int)
def Uh:Mon→Mon→Mon
 | [],b=>b
 | a::ar,b=>match b with
  | []=>a::ar
  | c::bs=>(a+c)::Uh ar bs
def dB:Mon→Mon→Nat
 | [],b=>match b with
  | []=>0
  | _::_=>2
 | a::ar,b=>match b with
  | []=>1
  | c::bs=>match Nat.beq a c with
   | true=>dB ar bs
   | false=>match Nat.ble a c with
    | true=>2
    | false=>1
theorem AFc:∀ {a b:Mon},dB a b=0→a=b
 | [],[],_=>rfl
 | [],_::_,h=>by cases h
 | _::_,[],h=>by cases h
 | a::ar,c::bs,h=>by
  simp only [dB] at h;cases hb:Nat.beq a c with
  | true=>rw [hb] at h;rw [mn hb,AFc h]
  | false =>
   rw [hb] at h;cases hl:Nat.ble a c<;>rw [hl] at h<;>cases h
def dC (m:Mon) (c:Int) (p:Pol):Pol:=match c with
 | .ofNat 0=>p
 | _=>(m,c)::p
def Pn:Nat→Pol→Pol→Pol
 | 0,p,q=>p++q
 | n+1,p,q=>match p with
  | []=>q
  | (a,c)::p'=>match q with
   | []=>p
   | (b,d)::q'=>match dB a b with
    | 0=>dC a (c+d) (Pn n p' q')
    | 1=>(a,c)::Pn n p' q
    | _=>(b,d)::Pn n p q'
def len:Pol→Nat
 | []=>0
 | _::r=>len r+1
def Po (p q:Pol):Pol:=Pn (len p+len q) p q
def Xz (m:Mon) (c:Int):Pol→Pol
 | []=>[]
 | (a,d)::r=>(Uh m a,c*d)::Xz m c r
def Uj:Pol→Pol→Pol
 | [],_=>[]
 | (a,c)::r,q=>Po (Xz a c q) (Uj r q)
def Uk:Pol→Pol
 | []=>[]
 | (a,c)::r=>(a,-c)::Uk r
section
variable {F:Type} [CR F]
def If:List F→Mon→F
 | [],_=>1
 | x::xs,m=>match m with
  | []=>1
  | e::es=>pw x e*If xs es
def CK (xs:List F):Pol→F
 | []=>0
 | (m,c)::r=>int c*If xs m+CK xs r
theorem X0 (xs:List F):If xs []=1:=by cases xs<;>rfl
theorem AFd:∀ (xs:List F) (a b:Mon),If xs (Uh a b)=If xs a*If xs b
 | [],a,b=>by simp [If,one_mul]
 | x::xs,[],b=>by simp [Uh,X0,one_mul]
 | x::xs,a::ar,[]=>by simp [Uh,X0,mul_one]
 | x::xs,a::ar,c::bs=>by
  simp only [Uh,If];rw [Rn,AFd xs ar bs,mul_assoc,mul_assoc];congr 1;rw [mul_left_comm]
theorem AFe (xs:List F) (m:Mon) (c:Int) (p:Pol):CK xs (dC m c p)=int c*If xs m+CK xs p:=by
 unfold dC;split
 ·show _=int 0*_+_;rw [ATi,zero_mul,zero_add]
 ·rfl
theorem AFf (xs:List F):∀ p q:Pol,CK xs (p++q)=CK xs p+CK xs q
 | [],q=>by simp [CK,zero_add]
 | (m,c)::p,q=>by simp only [nh,CK];rw [AFf xs p q,add_assoc]
theorem dD (xs:List F):∀ (n:Nat) (p q:Pol),CK xs (Pn n p q)=CK xs p+CK xs q
 | 0,p,q=>AFf xs p q
 | n+1,[],q=>by simp [Pn,CK,zero_add]
 | n+1,(a,c)::p',[]=>by simp [Pn,CK,add_zero]
 | n+1,(a,c)::p',(b,d)::q'=>by
  simp only [Pn];split
  ·rename_i h;rw [AFe,dD xs n p' q',AFc h];simp only [CK];rw [AFa,add_mul,add_assoc,add_assoc];congr 1
   rw [AFZ]
  ·simp only [CK];rw [dD xs n p' _];simp only [CK];rw [add_assoc]
  ·simp only [CK];rw [dD xs n _ q'];simp only [CK];rw [AFZ]
theorem uB (xs:List F) (p q:Pol):CK xs (Po p q)=CK xs p+CK xs q:=dD xs _ p q
theorem AFg (xs:List F) (m:Mon) (c:Int):∀ p:Pol,CK xs (Xz m c p)=int c*If xs m*CK xs p
 | []=>by simp [Xz,CK,mul_zero]
 | (a,d)::r=>by
  simp only [Xz,CK];rw [AFg xs m c r,AFd,ATg,mul_add];congr 1
  rw [mul_assoc,mul_assoc];congr 1;rw [mul_left_comm]
theorem uC (xs:List F):∀ p q:Pol,CK xs (Uj p q)=CK xs p*CK xs q
 | [],q=>by simp [Uj,CK,zero_mul]
 | (a,c)::r,q=>by simp only [Uj,CK];rw [uB,AFg,uC xs r q,add_mul]
theorem uD (xs:List F):∀ p:Pol,CK xs (Uk p)=- CK xs p
 | []=>by simp [Uk,CK,HL]
 | (a,c)::r=>by simp only [Uk,CK];rw [uD xs r,ATh,cZ,Xw]
end
inductive E where
 | v (i:Nat)
 | c (k:Int)
 | add (a b:E)
 | sub (a b:E)
 | mul (a b:E)
 | neg (a:E)
 | pw (a:E) (n:Nat)
def X1:Nat→Mon
 | 0=>[1]
 | i+1=>0::X1 i
def X2 (p:Pol):Nat→Pol
 | 0=>[([],1)]
 | n+1=>Uj (X2 p n) p
def E.pol:E→Pol
 | .v i=>[(X1 i,1)]
 | .c k=>dC [] k []
 | .add a b=>Po a.pol b.pol
 | .sub a b=>Po a.pol (Uk b.pol)
 | .mul a b=>Uj a.pol b.pol
 | .neg a=>Uk a.pol
 | .pw a n=>X2 a.pol n
def Ro {F:Type} [One F]:List F→Nat→F
 | [],_=>1
 | x::_,0=>x
 | _::xs,i+1=>Ro xs i
section
variable {F:Type} [CR F]
def E.den (xs:List F):E→F
 | .v i=>Ro xs i
 | .c k=>int k
 | .add a b=>a.den xs+b.den xs
 | .sub a b=>a.den xs-b.den xs
 | .mul a b=>a.den xs*b.den xs
 | .neg a=>- a.den xs
 | .pw a n=>Rg.pw (a.den xs) n
theorem AFh:∀ (xs:List F) (i:Nat),If xs (X1 i)=Ro xs i
 | [],i=>by simp [If,Ro]
 | x::xs,0=>by simp [X1,If,X0,Ro,Rg.pw,one_mul,mul_one]
 | x::xs,i+1=>by simp only [X1,If,Ro,Rg.pw];rw [one_mul,AFh xs i]
theorem ATj (xs:List F) (p:Pol) (n:Nat):CK xs (X2 p n)=Rg.pw (CK xs p) n:=by
 induction n with
 | zero=>simp [X2,CK,Rg.pw,X0,Xy,mul_one,add_zero]
 | succ n ih=>simp only [X2,Rg.pw];rw [uC,ih]
theorem E.pol_den (xs:List F):∀ e:E,CK xs e.pol=e.den xs
 | .v i=>by simp only [E.pol,CK,E.den];rw [AFh,Xy,one_mul,add_zero]
 | .c k=>by simp only [E.pol,E.den];rw [AFe];simp [CK,X0,mul_one,add_zero]
 | .add a b=>by simp only [E.pol,E.den];rw [uB,a.pol_den xs,b.pol_den xs]
 | .sub a b=>by simp only [E.pol,E.den];rw [uB,uD,a.pol_den xs,b.pol_den xs,sub_eq]
 | .mul a b=>by simp only [E.pol,E.den];rw [uC,a.pol_den xs,b.pol_den xs]
 | .neg a=>by simp only [E.pol,E.den];rw [uD,a.pol_den xs]
 | .pw a n=>by simp only [E.pol,E.den];rw [ATj,a.pol_den xs]
def Rp:List (E×E)→E
 | []=>.c 0
 | (k,r)::l=>.add (.mul k r) (Rp l)
def uE:Pol→Bool
 | []=>true
 | _::_=>false
def uF (xs:List F):List (E×E)→Prop
 | []=>True
 | (_,r)::l=>r.den xs=0∧uF xs l
theorem AFi (xs:List F):∀ l:List (E×E),uF xs l→(Rp l).den xs=0
 | [],_=>rfl
 | (k,r)::l,⟨h1,h2⟩=>by simp only [Rp,E.den];rw [h1,mul_zero,AFi xs l h2,add_zero]
theorem Bl (xs:List F) (g:E) (l:List (E×E)) (hz:uF xs l) (h:uE (E.pol (.sub g (Rp l)))=true):g.den xs=0:=by
 have e:(E.pol (.sub g (Rp l)))=[]:=by
  cases hp:E.pol (.sub g (Rp l)) with
  | nil=>rfl
  | cons a b=>rw [hp] at h;cases h
 have:=E.pol_den xs (.sub g (Rp l))
 rw [e] at this;simp only [CK,E.den] at this;rw [AFi xs l hz] at this;exact AZ.1 this.symm
theorem ATk (xs:List F) (a b:E) (h:uE (E.pol (.sub a b))=true):a.den xs=b.den xs:=by
 have e:(E.pol (.sub a b))=[]:=by
  cases hp:E.pol (.sub a b) with
  | nil=>rfl
  | cons a b=>rw [hp] at h;cases h
 have:=E.pol_den xs (.sub a b)
 rw [e] at this;exact AZ.1 this.symm
end
instance :Add E:=⟨.add⟩
instance :Sub E:=⟨.sub⟩
instance :Mul E:=⟨.mul⟩
instance :Neg E:=⟨.neg⟩
instance :HPow E Nat E:=⟨.pw⟩
def ab:E:=.v 0
def ac:E:=.v 2
def ae:E:=.v 4
def af:E:=.v 1
def ah:E:=.v 3
def am:E:=.v 5
def ap:E:=.v 6
def aw:E:=.v 7
def aa:E:=.c 0
def ak:E:=.c (-1)
def ao:E:=.c 1
def aq:E:=.c 2
def au:E:=.c (-2)
def ax:E:=.c (-6)
def ay:E:=.c 3
def az:E:=.c (-4)
def a_:E:=.c (-10)
def ba:E:=.c 5
def bd:E:=.c 6
def bi:E:=.c 4
def bj:E:=.c (-3)
def bm:E:=.c (-8)
def bp:E:=.c (-9)
def bq:E:=.c 8
def br:E:=.c (-5)
def bu:E:=.c 9
def bv:E:=.c 7
def bw:E:=.c (-12)
def bz:E:=.c (-14)
def b_:E:=.c 10
def ce:E:=.c (-18)
def cf:E:=.c 36
def ci:E:=.c (-20)
def ck:E:=.c 40
def cl:E:=.c 12
def cm:E:=.c (-24)
def cn:E:=.c 72
def cp:E:=.c (-72)
def cq:E:=.c 216
def cr:E:=.c (-216)
def cu:E:=.c 288
def cv:E:=.c (-288)
def cw:E:=.c 24
def cx:E:=.c 48
def cy:E:=.c (-48)
def cz:E:=.c 144
def c_:E:=.c (-144)
def da:E:=.c 16
def db:E:=.c 32
def dc:E:=.c (-32)
def dd:E:=.c (-16)
def de:E:=.c (-54)
def df:E:=.c 54
def dg:E:=.c (-120)
def dh:E:=.c 120
def di:E:=.c 18
def ai:Nat→Nat→Nat→E→E
 | 0,_,_,a=>a
 | f+1,n,i,a=>match n % 10 with
  | 0=>ai f (n/10) (i+1) a
  | k+1=>ai f (n/10) (i+1) (.mul a (.pw (.v i) (k+1)))
def aj:List (Int×Nat)→E
 | []=>.c 0
 | (c,n)::r=>.add (ai 12 n 0 (.c c)) (aj r)
theorem ATl {F:Type} [CR F] (x1 y1 x2 y2 l b:F) (hl:l*(x2-x1)=(y2-y1)) (c1:y1*y1=(x1*x1*x1+b)) (c2:y2*y2=(x2*x2*x2+b)):(x2-x1)*(x1*x2+x1*(l*l-x1-x2)+x2*(l*l-x1-x2)+(l*(y1-l*x1)+l*(y1-l*x1)))=0 :=
 AZ.1 (Bl [x1,y1,x2,y2,l,b] ((ac-ab)*(ab*ac+ab*(ae*ae-ab-ac)+ac*(ae*ae-ab-ac)+(ae*(af-ae*ab)+ae*(af-ae*ab)))-aa) [((-(ab*ae)+af+(ac*ae+ah)),ae*(ac-ab)-(ah-af)),
  (ak,af*af-(ab*ab*ab+am)),
  (ao,ah*ah-(ac*ac*ac+am))] ⟨AZ.2 hl,AZ.2 c1,AZ.2 c2,trivial⟩ dj)
theorem ATm {F:Type} [CR F] (x y l:F) (hl:(y+y)*l=(x*x+x*x+x*x)):x*x+x*(l*l-x-x)+x*(l*l-x-x)+(l*(y-l*x)+l*(y-l*x))=0 :=
 AZ.1 (Bl [x,y,l] (ab*ab+ab*(ac*ac-ab-ab)+ab*(ac*ac-ab-ab)+(ac*(af-ac*ab)+ac*(af-ac*ab))-aa) [(ao,(af+af)*ac-(ab*ab+ab*ab+ab*ab))] ⟨AZ.2 hl,trivial⟩ dj)
theorem ATn {F:Type} [CR F] (x1 y1 x2 l b:F) (e2:x1*x2+x1*(l*l-x1-x2)+x2*(l*l-x1-x2)+(l*(y1-l*x1)+l*(y1-l*x1))=0) (c1:y1*y1=(x1*x1*x1+b)):x1*x2*(l*l-x1-x2)+b=(y1-l*x1)*(y1-l*x1) :=
 AZ.1 (Bl [x1,y1,x2,l,b] (ab*ac*(ah*ah-ab-ac)+ae-(af-ah*ab)*(af-ah*ab)) [(ab,ab*ac+ab*(ah*ah-ab-ac)+ac*(ah*ah-ab-ac)+(ah*(af-ah*ab)+ah*(af-ah*ab))-aa),
  (ak,af*af-(ab*ab*ab+ae))] ⟨AZ.2 e2,AZ.2 c1,trivial⟩ dj)
theorem ATo {F:Type} [CR F] (x1 y1 x2 x3 l n b:F) (h1:y1=(l*x1+n)) (e1:x1+x2+x3=(l*l)) (e2:x1*x2+x1*x3+x2*x3+(l*n+l*n)=0) (e3:x1*x2*x3+b=(n*n)):y1*y1=x1*x1*x1+b :=
 AZ.1 (Bl [x1,y1,x2,x3,l,n,b] (af*af-(ab*ab*ab+ap)) [((ab*ae+(af+am)),af-(ae*ab+am)),
  ((-ab^2),ab+ac+ah-ae*ae),
  (ab,ab*ac+ab*ah+ac*ah+(ae*am+ae*am)-aa),
  (ak,ab*ac*ah+ap-am*am)] ⟨AZ.2 h1,AZ.2 e1,AZ.2 e2,AZ.2 e3,trivial⟩ dj)
theorem AFj {F:Type} [CR F] (x1 y1 x3 l n:F) (h1:y1=(l*x1+n)) (e1:x1+x1+x3=(l*l)) (e2:x1*x1+x1*x3+x1*x3+(l*n+l*n)=0):(y1+y1)*l=x1*x1+x1*x1+x1*x1 :=
 AZ.1 (Bl [x1,y1,x3,l,n] ((af+af)*ah-(ab*ab+ab*ab+ab*ab)) [((aq*ah),af-(ah*ab+ae)),
  ((au*ab),ab+ab+ac-ah*ah),
  (ao,ab*ab+ab*ac+ab*ac+(ah*ae+ah*ae)-aa)] ⟨AZ.2 h1,AZ.2 e1,AZ.2 e2,trivial⟩ dj)
theorem ATp {F:Type} [CR F] (x1 y1 x3 y3 l n:F) (h1:y1=(l*x1+n)) (h3:y3=(l*x3+n)):l*(x1-x3)-y1=-y3 :=
 AZ.1 (Bl [x1,y1,x3,y3,l,n] (ae*(ab-ac)-af- -ah) [(ak,af-(ae*ab+am)),
  (ao,ah-(ae*ac+am))] ⟨AZ.2 h1,AZ.2 h3,trivial⟩ dj)
theorem ATq {F:Type} [CR F] (x1 x2 x3 l:F) (e1:x1+x2+x3=(l*l)):l*l-x1-x2=x3 :=
 AZ.1 (Bl [x1,x2,x3,l] (ah*ah-ab-af-ac) [(ak,ab+af+ac-ah*ah)] ⟨AZ.2 e1,trivial⟩ dj)
theorem Ul {F:Type} [CR F] (x1 y1 x2 y2 l n:F) (h1:y1=(l*x1+n)) (h2:y2=(l*x2+n)):(x2-x1)*l=y2-y1 :=
 AZ.1 (Bl [x1,y1,x2,y2,l,n] ((ac-ab)*ae-(ah-af)) [(ao,af-(ae*ab+am)),
  (ak,ah-(ae*ac+am))] ⟨AZ.2 h1,AZ.2 h2,trivial⟩ dj)
theorem ATr {F:Type} [CR F] (x1 x2 x3 k:F) (e:x1+x2+x3=k):x2+x1+x3=k :=
 AZ.1 (Bl [x1,x2,x3,k] (af+ab+ac-ah) [(ao,ab+af+ac-ah)] ⟨AZ.2 e,trivial⟩ dj)
theorem ATs {F:Type} [CR F] (x1 x2 x3 k:F) (e:x1+x2+x3=k):x2+x3+x1=k :=
 AZ.1 (Bl [x1,x2,x3,k] (af+ac+ab-ah) [(ao,ab+af+ac-ah)] ⟨AZ.2 e,trivial⟩ dj)
theorem ATt {F:Type} [CR F] (x1 x2 x3 k:F) (e:x1*x2+x1*x3+x2*x3+k=0):x2*x1+x2*x3+x1*x3+k=0 :=
 AZ.1 (Bl [x1,x2,x3,k] (af*ab+af*ac+ab*ac+ah-aa) [(ao,ab*af+ab*ac+af*ac+ah-aa)] ⟨AZ.2 e,trivial⟩ dj)
theorem ATu {F:Type} [CR F] (x1 x2 x3 k:F) (e:x1*x2+x1*x3+x2*x3+k=0):x2*x3+x2*x1+x3*x1+k=0 :=
 AZ.1 (Bl [x1,x2,x3,k] (af*ac+af*ab+ac*ab+ah-aa) [(ao,ab*af+ab*ac+af*ac+ah-aa)] ⟨AZ.2 e,trivial⟩ dj)
theorem ATv {F:Type} [CR F] (x1 x2 x3 b k:F) (e:x1*x2*x3+b=k):x2*x1*x3+b=k :=
 AZ.1 (Bl [x1,x2,x3,b,k] (af*ab*ac+ah-ae) [(ao,ab*af*ac+ah-ae)] ⟨AZ.2 e,trivial⟩ dj)
theorem ATw {F:Type} [CR F] (x1 x2 x3 b k:F) (e:x1*x2*x3+b=k):x2*x3*x1+b=k :=
 AZ.1 (Bl [x1,x2,x3,b,k] (af*ac*ab+ah-ae) [(ao,ab*af*ac+ah-ae)] ⟨AZ.2 e,trivial⟩ dj)
theorem uG {F:Type} [CR F] (x y l n:F) (h:y=(l*x+n)):-y=-l*x+-n :=
 AZ.1 (Bl [x,y,l,n] (-af-(-ac*ab+-ah)) [(ak,af-(ac*ab+ah))] ⟨AZ.2 h,trivial⟩ dj)
theorem neg_sq {F:Type} [CR F] (l:F) :-l*-l=l*l :=
 AZ.1 (Bl [l] (-ab*-ab-ab*ab) [] trivial dj)
theorem ATx {F:Type} [CR F] (l n:F) :-l*-n+-l*-n=l*n+l*n :=
 AZ.1 (Bl [l,n] (-ab*-af+-ab*-af-(ab*af+ab*af)) [] trivial dj)
theorem ATy {F:Type} [CR F] (y1 y2 k:F) (h1:y1*y1=k) (h2:y2*y2=k):(y1-y2)*(y1+y2)=0 :=
 AZ.1 (Bl [y1,y2,k] ((ab-af)*(ab+af)-aa) [(ao,ab*ab-ac),
  (ak,af*af-ac)] ⟨AZ.2 h1,AZ.2 h2,trivial⟩ dj)
theorem dF {F:Type} [CR F] (x y1 y2 l n:F) (h1:y1=(l*x+n)) (h2:y2=(l*x+n)):y1=y2 :=
 AZ.1 (Bl [x,y1,y2,l,n] (af-ac) [(ao,af-(ah*ab+ae)),
  (ak,ac-(ah*ab+ae))] ⟨AZ.2 h1,AZ.2 h2,trivial⟩ dj)
theorem ATz {F:Type} [CR F] (x1 x2 y2 x4 l n:F) (h2:y2=(l*x2+n)) (e1:x1+x2+x4=(l*l)) (e2:x1*x2+x1*x4+x2*x4+(l*n+l*n)=0):l*y2+l*y2+l*l*(x1-x2)=x1*x1+x1*x2+x2*x2 :=
 AZ.1 (Bl [x1,x2,y2,x4,l,n] (ae*ac+ae*ac+ae*ae*(ab-af)-(ab*ab+ab*af+af*af)) [((aq*ae),ac-(ae*af+am)),
  ((-ab+-af),ab+af+ah-ae*ae),
  (ao,ab*af+ab*ah+af*ah+(ae*am+ae*am)-aa)] ⟨AZ.2 h2,AZ.2 e1,AZ.2 e2,trivial⟩ dj)
theorem AFk {F:Type} [CR F] (x2 y2 x3 x5 m q:F) (h2:y2=(m*x2+q)) (e1:x2+x3+x5=(m*m)) (e2:x2*x3+x2*x5+x3*x5+(m*q+m*q)=0):m*y2+m*y2+m*m*(x3-x2)=x3*x3+x3*x2+x2*x2 :=
 AZ.1 (Bl [x2,y2,x3,x5,m,q] (ae*af+ae*af+ae*ae*(ac-ab)-(ac*ac+ac*ab+ab*ab)) [((aq*ae),af-(ae*ab+am)),
  ((-ab+-ac),ab+ac+ah-ae*ae),
  (ao,ab*ac+ab*ah+ac*ah+(ae*am+ae*am)-aa)] ⟨AZ.2 h2,AZ.2 e1,AZ.2 e2,trivial⟩ dj)
theorem AT0 {F:Type} [CR F] (x1 x2 x3 y2 l m s t:F) (r1:l*y2+l*y2+l*l*(x1-x2)=(x1*x1+x1*x2+x2*x2)) (r2:m*y2+m*y2+m*m*(x3-x2)=(x3*x3+x3*x2+x2*x2)) (hs:s*(l*l-x1-x2-x3)=(l*(x2-(l*l-x1-x2))-y2-(y2+m*(x3-x2)))) (ht:t*(m*m-x2-x3-x1)=(m*(x2-(m*m-x2-x3))-y2-(y2+l*(x1-x2)))):(l*l-x1-x2-x3)*(l*l-x1-x2-x3)*((m*m-x2-x3-x1)*(m*m-x2-x3-x1))*(s*s-(l*l-x1-x2)-x3)=(l*l-x1-x2-x3)*(l*l-x1-x2-x3)*((m*m-x2-x3-x1)*(m*m-x2-x3-x1))*(t*t-x1-(m*m-x2-x3)) :=
 AZ.1 (Bl [x1,x2,x3,y2,l,m,s,t] ((ae*ae-ab-af-ac)*(ae*ae-ab-af-ac)*((am*am-af-ac-ab)*(am*am-af-ac-ab))*(ap*ap-(ae*ae-ab-af)-ac)-(ae*ae-ab-af-ac)*(ae*ae-ab-af-ac)*((am*am-af-ac-ab)*(am*am-af-ac-ab))*(aw*aw-ab-(am*am-af-ac))) [(aj [(-10,111),(-6,110011),(3,20011),(5,200011),(-4,21),(6,20101),(4,200101),(-4,201),(4,11001),(2,310001),(-3,220001),(-1,40001),(-6,12),(-6,102),(3,20002),(3,200002),(-2,3),(-6,110110),(2,20110),(2,200110),(4,210),(4,11010),(-4,101010),(4,310010),(-1,220010),(4,130010),(1,40010),(-2,400010),(4,120),(-6,110020),(-1,20020),(1,200020),(2,30),(4,11100),(-8,101100),(-2,220100),(2,130100),(2,400100),(2,20200),(-6,200200),(4,300),(-2,211000),(-2,31000),(4,301000),(-2,330000)],ae*ah+ae*ah+ae*ae*(ab-af)-(ab*ab+ab*af+af*af)),
  (aj [(6,111),(6,110011),(-6,200101),(6,201),(-4,101001),(-2,310001),(6,110110),(-9,20110),(-3,200110),(6,210),(4,11010),(-4,101010),(-4,310010),(3,220010),(-4,130010),(-1,400010),(6,110020),(-3,20020),(3,200020),(-2,30),(8,11100),(-4,101100),(3,220100),(-2,130100),(1,400100),(-3,20200),(-3,200200),(2,300),(-4,211000),(2,121000),(2,301000),(2,330000)],am*ah+am*ah+am*am*(ac-af)-(ac*ac+ac*af+af*af)),
  (aj [(6,10111),(-6,1000111),(-4,1011),(-6,210011),(2,1020011),(-2,30011),(4,1200011),(-2,300011),(5,10021),(2,100021),(-3,1000021),(-4,1101),(-2,210101),(2,1020101),(-2,30101),(4,1200101),(2,300101),(1,10201),(-2,100201),(-3,1000201),(4,201001),(1,410001),(-2,1220001),(2,230001),(-1,1400001),(4,10012),(1,100012),(-3,1000012),(2,10102),(-1,100102),(-3,1000102),(-2,1002),(-2,210002),(1,1020002),(-1,30002),(2,1200002),(1,10003),(-1,1000003),(-4,1110),(-4,210110),(2,1020110),(-2,30110),(4,1200110),(2,10210),(-1,100210),(-3,1000210),(4,201010),(2,410010),(-2,1220010),(2,230010),(-1,1400010),(1,500010),(4,10120),(1,100120),(-3,1000120),(-2,1020),(-4,210020),(1,1020020),(-1,30020),(2,1200020),(-2,300020),(2,10030),(1,100030),(-1,1000030),(4,201100),(-2,1220100),(2,230100),(-1,1400100),(-1,500100),(-2,1200),(1,1020200),(-1,30200),(2,1200200),(2,300200),(-1,100300),(-1,1000300),(-2,401000),(1,1420000),(-1,430000)],ap*(ae*ae-ab-af-ac)-(ae*(af-(ae*ae-ab-af))-ah-(ah+am*(ac-af)))),
  (aj [(-6,100111),(6,10000111),(4,1011),(4,120011),(-4,10020011),(-2,10200011),(2,300011),(-1,10021),(-4,100021),(3,10000021),(4,1101),(2,120101),(-4,10020101),(-2,30101),(-2,10200101),(2,300101),(1,10201),(-2,100201),(3,10000201),(-4,21001),(2,10220001),(-2,320001),(1,10040001),(1,50001),(1,10012),(-2,100012),(3,10000012),(2,10102),(-1,100102),(3,10000102),(2,1002),(-2,10020002),(-2,30002),(-1,10200002),(1,300002),(1,10003),(1,10000003),(4,1110),(6,120110),(-4,10020110),(2,30110),(-2,10200110),(2,300110),(-1,10210),(-4,100210),(3,10000210),(-4,21010),(2,10220010),(-2,320010),(-2,140010),(1,10040010),(-1,50010),(-2,10120),(-5,100120),(3,10000120),(2,1020),(4,120020),(-2,10020020),(2,30020),(-1,10200020),(1,300020),(-1,10030),(-2,100030),(1,10000030),(-4,21100),(2,10220100),(-2,320100),(-1,140100),(1,10040100),(2,1200),(2,120200),(-2,10020200),(-1,10200200),(1,300200),(-1,100300),(1,10000300),(2,41000),(-1,10240000),(1,340000)],aw*(am*am-af-ac-ab)-(am*(af-(am*am-af-ac))-ah-(ah+ae*(ab-af))))] ⟨AZ.2 r1,AZ.2 r2,AZ.2 hs,AZ.2 ht,trivial⟩ dj)
theorem AT1 {F:Type} [CR F] (x1 x2 x3 y2 l m s t:F) (r1:l*y2+l*y2+l*l*(x1-x2)=(x1*x1+x1*x2+x2*x2)) (r2:m*y2+m*y2+m*m*(x3-x2)=(x3*x3+x3*x2+x2*x2)) (hs:s*(l*l-x1-x2-x3)=(l*(x2-(l*l-x1-x2))-y2-(y2+m*(x3-x2)))) (ht:t*(m*m-x2-x3-x1)=(m*(x2-(m*m-x2-x3))-y2-(y2+l*(x1-x2)))):(l*l-x1-x2-x3)*(l*l-x1-x2-x3)*(l*l-x1-x2-x3)*(m*m-x2-x3-x1)*(s*(x3-(s*s-(l*l-x1-x2)-x3))-(y2+m*(x3-x2)))=(l*l-x1-x2-x3)*(l*l-x1-x2-x3)*(l*l-x1-x2-x3)*(m*m-x2-x3-x1)*(t*(x1-(s*s-(l*l-x1-x2)-x3))-(y2+l*(x1-x2))) :=
 AZ.1 (Bl [x1,x2,x3,y2,l,m,s,t] ((ae*ae-ab-af-ac)*(ae*ae-ab-af-ac)*(ae*ae-ab-af-ac)*(am*am-af-ac-ab)*(ap*(ac-(ap*ap-(ae*ae-ab-af)-ac))-(ah+am*(ac-af)))-(ae*ae-ab-af-ac)*(ae*ae-ab-af-ac)*(ae*ae-ab-af-ac)*(am*am-af-ac-ab)*(aw*(ab-(ap*ap-(ae*ae-ab-af)-ac))-(ah+ae*(ab-af)))) [(aj [(-10,10111),(4,1011),(5,210011),(-1,120011),(9,30011),(1,300011),(-8,10021),(-4,100021),(4,1101),(3,210101),(1,120101),(7,30101),(-1,300101),(4,100201),(2,21001),(-2,201001),(-4,230001),(-2,50001),(-8,10012),(-2,100012),(-4,10102),(2,100102),(2,1002),(2,210002),(4,30002),(-2,10003),(2,1110),(6,210110),(6,120110),(8,30110),(-2,300110),(6,10210),(2,100210),(6,21010),(-4,201010),(-2,410010),(-1,320010),(-5,230010),(3,140010),(-1,50010),(2,10120),(-2,100120),(2,210020),(-4,120020),(2,30020),(2,300020),(2,10030),(-12,111100),(-2,21100),(2,410100),(1,320100),(-3,230100),(-3,140100),(-3,50100),(-6,210200),(-2,120200),(4,10300),(4,311000),(2,221000),(-4,41000),(-4,12000),(2,250000)],ae*ah+ae*ah+ae*ae*(ab-af)-(ab*ab+ab*af+af*af)),
  (aj [(8,10111),(2,100111),(-2,1011),(-1,210011),(3,120011),(-3,30011),(-1,300011),(2,10021),(2,100021),(-4,1101),(-5,210101),(-3,120101),(-3,30101),(1,300101),(2,10201),(-4,100201),(-4,111001),(2,201001),(2,230001),(-4,1110),(-10,210110),(-4,120110),(-14,30110),(-2,300110),(4,10210),(-2,100210),(-8,111010),(8,21010),(-2,201010),(1,320010),(5,230010),(-3,140010),(3,50010),(4,10120),(4,100120),(4,210020),(2,120020),(-8,30020),(-2,10030),(10,21100),(6,201100),(-1,320100),(5,230100),(3,140100),(3,50100),(-2,1200),(2,120200),(-2,30200),(2,300200),(-2,100300),(-6,221000),(4,131000),(4,102000),(-2,250000)],am*ah+am*ah+am*am*(ac-af)-(ac*ac+ac*af+af*af)),
  (aj [(-8,110111),(-6,1010111),(-1,20111),(6,1100111),(-1,200111),(6,2000111),(-6,211),(-6,11011),(2,101011),(3,1210011),(1,310011),(-3,1120011),(2,220011),(-4,2020011),(1,130011),(5,1030011),(-1,40011),(-2,2200011),(-1,1300011),(1,400011),(3,121),(-4,1010021),(-2,20021),(2,1100021),(-4,200021),(3,2000021),(4,31),(-4,11101),(4,101101),(1,1210101),(3,310101),(-3,1120101),(-4,2020101),(5,130101),(5,1030101),(-2,2200101),(-3,1300101),(-1,400101),(-4,110201),(-2,1010201),(3,20201),(4,1100201),(5,200201),(3,2000201),(-5,301),(4,211001),(2,1021001),(2,31001),(-2,1201001),(-2,301001),(2,2220001),(2,1320001),(-2,1230001),(-2,330001),(-1,240001),(1,2040001),(-2,1050001),(1,60001),(3,112),(1,110012),(-5,1010012),(-2,20012),(1,1100012),(-3,200012),(3,2000012),(6,22),(-4,110102),(-4,1010102),(-1,20102),(2,1100102),(3,2000102),(-3,202),(-4,11002),(1,1210002),(1,310002),(2,220002),(-2,2020002),(4,1030002),(-1,40002),(-1,2200002),(-1,1300002),(4,13),(1,103),(-2,1010003),(-1,20003),(-1,200003),(1,2000003),(1,4),(-2,11110),(6,101110),(2,1210110),(6,310110),(-6,1120110),(-1,220110),(-4,2020110),(4,130110),(2,1030110),(-2,2200110),(-2,1300110),(2,400110),(-5,110210),(-1,1010210),(3,20210),(5,1100210),(4,200210),(3,2000210),(-5,310),(8,211010),(-6,121010),(2,1021010),(-4,31010),(-2,1201010),(2,301010),(2,2220010),(1,1320010),(-1,420010),(-3,1230010),(-1,330010),(2,1140010),(1,240010),(1,2040010),(-2,150010),(-1,60010),(-6,110120),(-2,1010120),(-1,20120),(4,1100120),(-2,200120),(3,2000120),(-3,220),(-2,11020),(2,101020),(2,1210020),(-2,310020),(-3,1120020),(1,220020),(-2,2020020),(5,130020),(1,1030020),(2,40020),(-1,2200020),(1,130),(-1,110030),(-1,1010030),(-1,20030),(1,1100030),(-2,200030),(1,2000030),(1,40),(2,1021100),(2,31100),(-2,1201100),(-6,301100),(2,2220100),(3,1320100),(1,420100),(-1,1230100),(-3,330100),(1,1140100),(1,2040100),(-1,150100),(-1,1050100),(4,101200),(-3,1120200),(-4,220200),(-2,2020200),(3,130200),(1,1030200),(-1,2200200),(-2,1300200),(-2,400200),(3,20300),(2,1100300),(4,200300),(1,2000300),(-2,400),(2,1221000),(2,321000),(-4,231000),(-2,1041000),(2,51000),(4,22000),(-4,202000),(-1,2240000),(-1,1340000),(1,1250000),(1,350000)],ap*(ae*ae-ab-af-ac)-(ae*(af-(ae*ae-ab-af))-ah-(ah+am*(ac-af)))),
  (aj [(6,20111),(-6,2000111),(3,211),(6,2020011),(-9,40011),(-3,121),(9,20021),(-3,2000021),(-3,31),(6,2020101),(-3,40101),(-3,20201),(-3,2000201),(3,301),(-3,2040001),(3,60001),(6,20012),(-3,2000012),(-3,22),(-3,2000102),(3,202),(3,2020002),(-3,40002),(-1,13),(1,103),(1,20003),(-1,2000003),(6,2020110),(-6,40110),(-3,2000210),(2,310),(-3,2040010),(4,60010),(6,20120),(-3,2000120),(3,2020020),(-6,40020),(-2,130),(4,20030),(-1,2000030),(-1,40),(-3,2040100),(2,60100),(3,2020200),(-2,20300),(-1,2000300),(1,400),(1,2060000),(-1,80000)],aw*(am*am-af-ac-ab)-(am*(af-(am*am-af-ac))-ah-(ah+ae*(ab-af))))] ⟨AZ.2 r1,AZ.2 r2,AZ.2 hs,AZ.2 ht,trivial⟩ dj)
theorem spX {F:Type} [CR F] (x h m k s:F) (r2:m*k*h+m*k*h=(x*x+x*(x+(h+h))+(x+(h+h))*(x+(h+h)))) (rs:((k+m)*h+(k+m)*h)*s=((x+(h+h))*(x+(h+h))+(x+(h+h))*(x+(h+h))+(x+(h+h))*(x+(h+h)))):((k+m)*h+(k+m)*h)*((k+m)*h+(k+m)*h)*((m*m-x-(x+(h+h))-(k*k-x-(x+(h+h))))*(m*m-x-(x+(h+h))-(k*k-x-(x+(h+h))))*(s*s-(x+(h+h))-(x+(h+h))))=((k+m)*h+(k+m)*h)*((k+m)*h+(k+m)*h)*((m*(x-(m*m-x-(x+(h+h))))-(k-m)*h-(k*(x-(k*k-x-(x+(h+h))))+(k-m)*h))*(m*(x-(m*m-x-(x+(h+h))))-(k-m)*h-(k*(x-(k*k-x-(x+(h+h))))+(k-m)*h))-(m*m-x-(x+(h+h))-(k*k-x-(x+(h+h))))*(m*m-x-(x+(h+h))-(k*k-x-(x+(h+h))))*(k*k-x-(x+(h+h))+(m*m-x-(x+(h+h))))) :=
 AZ.1 (Bl [x,h,m,k,s] (((ah+ac)*af+(ah+ac)*af)*((ah+ac)*af+(ah+ac)*af)*((ac*ac-ab-(ab+(af+af))-(ah*ah-ab-(ab+(af+af))))*(ac*ac-ab-(ab+(af+af))-(ah*ah-ab-(ab+(af+af))))*(ae*ae-(ab+(af+af))-(ab+(af+af))))-((ah+ac)*af+(ah+ac)*af)*((ah+ac)*af+(ah+ac)*af)*((ac*(ab-(ac*ac-ab-(ab+(af+af))))-(ah-ac)*af-(ah*(ab-(ah*ah-ab-(ab+(af+af))))+(ah-ac)*af))*(ac*(ab-(ac*ac-ab-(ab+(af+af))))-(ah-ac)*af-(ah*(ab-(ah*ah-ab-(ab+(af+af))))+(ah-ac)*af))-(ac*ac-ab-(ab+(af+af))-(ah*ah-ab-(ab+(af+af))))*(ac*ac-ab-(ab+(af+af))-(ah*ah-ab-(ab+(af+af))))*(ah*ah-ab-(ab+(af+af))+(ac*ac-ab-(ab+(af+af)))))) [(aj [(36,2211),(-18,411),(-18,4011),(6,2202),(-3,402),(-3,4002),(-2,5110),(4,3310),(-2,1510),(40,2220),(-20,420),(-20,4020)],ac*ah*af+ac*ah*af-(ab*ab+ab*(ab+(af+af))+(ab+(af+af))*(ab+(af+af)))),
  (aj [(-24,2211),(12,411),(12,4011),(-6,2202),(3,402),(3,4002),(2,14110),(-4,13210),(-4,12310),(2,11410),(2,10510),(2,15010),(-24,2220),(12,420),(12,4020)],((ah+ac)*af+(ah+ac)*af)*ae-((ab+(af+af))*(ab+(af+af))+(ab+(af+af))*(ab+(af+af))+(ab+(af+af))*(ab+(af+af))))] ⟨AZ.2 r2,AZ.2 rs,trivial⟩ dj)
theorem spY {F:Type} [CR F] (x h m k s:F) (r2:m*k*h+m*k*h=(x*x+x*(x+(h+h))+(x+(h+h))*(x+(h+h)))) (rs:((k+m)*h+(k+m)*h)*s=((x+(h+h))*(x+(h+h))+(x+(h+h))*(x+(h+h))+(x+(h+h))*(x+(h+h)))):((k+m)*h+(k+m)*h)*((k+m)*h+(k+m)*h)*((k+m)*h+(k+m)*h)*((m*m-x-(x+(h+h))-(k*k-x-(x+(h+h))))*(s*(x+(h+h)-(s*s-(x+(h+h))-(x+(h+h))))-(k+m)*h))=((k+m)*h+(k+m)*h)*((k+m)*h+(k+m)*h)*((k+m)*h+(k+m)*h)*((m*(x-(m*m-x-(x+(h+h))))-(k-m)*h-(k*(x-(k*k-x-(x+(h+h))))+(k-m)*h))*(k*k-x-(x+(h+h))-(s*s-(x+(h+h))-(x+(h+h))))-(m*m-x-(x+(h+h))-(k*k-x-(x+(h+h))))*(k*(x-(k*k-x-(x+(h+h))))+(k-m)*h)) :=
 AZ.1 (Bl [x,h,m,k,s] (((ah+ac)*af+(ah+ac)*af)*((ah+ac)*af+(ah+ac)*af)*((ah+ac)*af+(ah+ac)*af)*((ac*ac-ab-(ab+(af+af))-(ah*ah-ab-(ab+(af+af))))*(ae*(ab+(af+af)-(ae*ae-(ab+(af+af))-(ab+(af+af))))-(ah+ac)*af))-((ah+ac)*af+(ah+ac)*af)*((ah+ac)*af+(ah+ac)*af)*((ah+ac)*af+(ah+ac)*af)*((ac*(ab-(ac*ac-ab-(ab+(af+af))))-(ah-ac)*af-(ah*(ab-(ah*ah-ab-(ab+(af+af))))+(ah-ac)*af))*(ah*ah-ab-(ab+(af+af))-(ae*ae-(ab+(af+af))-(ab+(af+af))))-(ac*ac-ab-(ab+(af+af))-(ah*ah-ab-(ab+(af+af))))*(ah*(ab-(ah*ah-ab-(ab+(af+af))))+(ah-ac)*af))) [(aj [(-48,3121),(48,1321),(24,421),(-24,4021),(288,231),(-288,2031),(-12,3112),(12,1312),(6,412),(-6,4012),(216,222),(-216,2022),(72,213),(-72,2013),(9,204),(-9,2004),(-4,5120),(-8,4220),(8,2420),(4,1520),(-32,3130),(32,1330),(16,430),(-16,4030),(144,240),(-144,2040)],ac*ah*af+ac*ah*af-(ab*ab+ab*(ab+(af+af))+(ab+(af+af))*(ab+(af+af)))),
  (aj [(12,12121),(-12,11221),(-12,10321),(-12,421),(12,13021),(12,4021),(-120,231),(120,2031),(6,12112),(6,3112),(-6,11212),(-6,1312),(-6,10312),(-6,412),(6,13012),(6,4012),(-120,222),(120,2022),(-54,213),(54,2013),(-9,204),(9,2004),(8,23120),(8,14120),(4,13220),(-8,21320),(-4,12320),(-8,11420),(-4,20420),(-4,10520),(4,24020),(4,15020),(8,12130),(-24,3130),(-8,11230),(24,1330),(-8,10330),(8,13030),(-48,240),(48,2040)],((ah+ac)*af+(ah+ac)*af)*ae-((ab+(af+af))*(ab+(af+af))+(ab+(af+af))*(ab+(af+af))+(ab+(af+af))*(ab+(af+af))))] ⟨AZ.2 r2,AZ.2 rs,trivial⟩ dj)
theorem AT4 {F:Type} [CR F] (y2 y3 h m k:F) (ha:y3-y2=(m*(h+h))) (hb:y3+y2=(k*(h+h))):((int 2)*y2)=((int 2)*((k-m)*h)) :=
 AZ.1 (Bl [y2,y3,h,m,k] (aq*ab-aq*((ae-ah)*ac)) [(ak,af-ab-ah*(ac+ac)),
  (ao,af+ab-ae*(ac+ac))] ⟨AZ.2 ha,AZ.2 hb,trivial⟩ dj)
theorem AT5 {F:Type} [CR F] (y2 y3 h m k:F) (ha:y3-y2=(m*(h+h))) (hb:y3+y2=(k*(h+h))):((int 2)*y3)=((int 2)*((k+m)*h)) :=
 AZ.1 (Bl [y2,y3,h,m,k] (aq*af-aq*((ae+ah)*ac)) [(ao,af-ab-ah*(ac+ac)),
  (ao,af+ab-ae*(ac+ac))] ⟨AZ.2 ha,AZ.2 hb,trivial⟩ dj)
theorem AT6 {F:Type} [CR F] (d i:F) (h:((int 2)*i)=(int 1)):d*i+d*i=d :=
 AZ.1 (Bl [d,i] (ab*af+ab*af-ab) [(ab,aq*af-ao)] ⟨AZ.2 h,trivial⟩ dj)
theorem two_mul {F:Type} [CR F] (y:F) :y+y=((int 2)*y) :=
 AZ.1 (Bl [y] (ab+ab-aq*ab) [] trivial dj)
theorem AT7 {F:Type} [CR F] (x1 y1 l:F) :y1=l*x1+(y1-l*x1) :=
 AZ.1 (Bl [x1,y1,l] (af-(ac*ab+(af-ac*ab))) [] trivial dj)
theorem AT8 {F:Type} [CR F] (x1 y1 x2 y2 l:F) (hl:l*(x2-x1)=(y2-y1)):y2=l*x2+(y1-l*x1) :=
 AZ.1 (Bl [x1,y1,x2,y2,l] (ah-(ae*ac+(af-ae*ab))) [(ak,ae*(ac-ab)-(ah-af))] ⟨AZ.2 hl,trivial⟩ dj)
theorem AT9 {F:Type} [CR F] (x1 x2 l:F) :x1+x2+(l*l-x1-x2)=l*l :=
 AZ.1 (Bl [x1,x2,l] (ab+af+(ac*ac-ab-af)-ac*ac) [] trivial dj)
theorem AT_ {F:Type} [CR F] (x y h m k:F) (hm:m*y+m*y+m*m*(x+(h+h)-x)=((x+(h+h))*(x+(h+h))+(x+(h+h))*x+x*x)) (hy:y=((k-m)*h)):m*k*h+m*k*h=x*x+x*(x+(h+h))+(x+(h+h))*(x+(h+h)) :=
 AZ.1 (Bl [x,y,h,m,k] (ah*ae*ac+ah*ae*ac-(ab*ab+ab*(ab+(ac+ac))+(ab+(ac+ac))*(ab+(ac+ac)))) [(ao,ah*af+ah*af+ah*ah*(ab+(ac+ac)-ab)-((ab+(ac+ac))*(ab+(ac+ac))+(ab+(ac+ac))*ab+ab*ab)),
  ((au*ah),af-(ae-ah)*ac)] ⟨AZ.2 hm,AZ.2 hy,trivial⟩ dj)
theorem AT' {F:Type} [CR F] (a b:F) :a=b+(a-b) :=
 AZ.1 (Bl [a,b] (ab-(af+(ab-af))) [] trivial dj)
theorem AUA {F:Type} [CR F] (a b:F) (h:a+b=0):b=-a :=
 AZ.1 (Bl [a,b] (af- -ab) [(ao,ab+af-aa)] ⟨AZ.2 h,trivial⟩ dj)
theorem AFl {F:Type} [CR F] (a b:F) (h:-a=(-b)):a=b :=
 AZ.1 (Bl [a,b] (ab-af) [(ak,-ab- -af)] ⟨AZ.2 h,trivial⟩ dj)
theorem Rq {F:Type} [CR F] (x1 x2 x4 l:F) (e1:x1+x2+x4=(l*l)):x4=l*l-x1-x2 :=
 AZ.1 (Bl [x1,x2,x4,l] (ac-(ah*ah-ab-af)) [(ao,ab+af+ac-ah*ah)] ⟨AZ.2 e1,trivial⟩ dj)
theorem Rr {F:Type} [CR F] (x2 y2 x4 y4 l n:F) (h2:y2=(l*x2+n)) (h4:y4=(l*x4+n)):-y4=l*(x2-x4)-y2 :=
 AZ.1 (Bl [x2,y2,x4,y4,l,n] (-ah-(ae*(ab-ac)-af)) [(ao,af-(ae*ab+am)),
  (ak,ah-(ae*ac+am))] ⟨AZ.2 h2,AZ.2 h4,trivial⟩ dj)
theorem AFm {F:Type} [CR F] (x1 y1 x2 y2 l n:F) (h1:y1=(l*x1+n)) (h2:y2=(l*x2+n)):y1=y2+l*(x1-x2) :=
 AZ.1 (Bl [x1,y1,x2,y2,l,n] (af-(ah+ae*(ab-ac))) [(ao,af-(ae*ab+am)),
  (ak,ah-(ae*ac+am))] ⟨AZ.2 h1,AZ.2 h2,trivial⟩ dj)
theorem AUB {F:Type} [CR F] (x1 x2 x3 k:F) (e:x1+x2+x3=(-k*-k)):x1=k*k-x2-x3 :=
 AZ.1 (Bl [x1,x2,x3,k] (ab-(ah*ah-af-ac)) [(ao,ab+af+ac- -ah*-ah)] ⟨AZ.2 e,trivial⟩ dj)
theorem AUC {F:Type} [CR F] (x1 y1 x2 y2 k n:F) (h1:y1=(-k*x1+n)) (h2:y2=(-k*x2+n)):y1=k*(x2-x1)+y2 :=
 AZ.1 (Bl [x1,y1,x2,y2,k,n] (af-(ae*(ac-ab)+ah)) [(ao,af-(-ae*ab+am)),
  (ak,ah-(-ae*ac+am))] ⟨AZ.2 h1,AZ.2 h2,trivial⟩ dj)
theorem AUD {F:Type} [CR F] (d t n x1 x5:F) (h:d*t=n):d*d*(t*t-x1-x5)=n*n-d*d*(x1+x5) :=
 AZ.1 (Bl [d,t,n,x1,x5] (ab*ab*(af*af-ah-ae)-(ac*ac-ab*ab*(ah+ae))) [((ab*af+ac),ab*af-ac)] ⟨AZ.2 h,trivial⟩ dj)
theorem AUE {F:Type} [CR F] (d t n x1 X y1:F) (h:d*t=n):d*(t*(x1-X)-y1)=n*(x1-X)-d*y1 :=
 AZ.1 (Bl [d,t,n,x1,X,y1] (ab*(af*(ah-ae)-am)-(ac*(ah-ae)-ab*am)) [((ah+-ae),ab*af-ac)] ⟨AZ.2 h,trivial⟩ dj)
theorem AUF {F:Type} [CR F] (y3 y2 d k:F) (h:d*-k=(-y3-y2)):y3+y2=k*d :=
 AZ.1 (Bl [y3,y2,d,k] (ab+af-ah*ac) [(ao,ac*-ah-(-ab-af))] ⟨AZ.2 h,trivial⟩ dj)
class FD (F:Type) extends CR F where
 inv:F→F
 mul_inv:∀ a:F,a≠0→a*inv a=1
 inv_zero:inv 0=0
 one_ne:(1:F)≠0
 dec:DecidableEq F
instance fdDec {F:Type} [FD F]:DecidableEq F:=FD.dec
open FD (inv)
inductive Pt (F:Type) where
 | inf
 | pt (x y:F)
section
variable {F:Type} [FD F]
theorem JO {a b c:F} (ha:a≠0) (h:a*b=a*c):b=c:=by
 have h2:inv a*(a*b)=inv a*(a*c):=by rw [h]
 rw [← mul_assoc,← mul_assoc,mul_comm (inv a) a,FD.mul_inv a ha,one_mul,one_mul] at h2;exact h2
theorem Pp {a b:F} (ha:a≠0) (h:a*b=0):b=0:=JO ha (by rw [h,mul_zero])
theorem DK {a b:F} (ha:a≠0) (hb:b≠0):a*b≠0:=fun h=>hb (Pp ha h)
theorem Um {a b:F} (h:a≠b):a-b≠0:=fun e=>h (AZ.1 e)
theorem X3 {d e l:F} (hd:d≠0) (h:d*l=e):e*inv d=l:=by
 rw [← h,mul_comm d l,mul_assoc,FD.mul_inv d hd,mul_one]
theorem AFn {d e:F} (hd:d≠0):e*inv d*d=e:=by
 rw [mul_assoc,mul_comm (inv d),FD.mul_inv d hd,mul_one]
def H6 (x1 y1 x2 l:F):Pt F:=.pt (l*l-x1-x2) (l*(x1-(l*l-x1-x2))-y1)
def add:Pt F→Pt F→Pt F
 | .inf,q=>q
 | .pt x1 y1,q=>match q with
  | .inf=>.pt x1 y1
  | .pt x2 y2=>if x1=x2 then (if y1=y2∧y1≠0 then H6 x1 y1 x2 ((x1*x1+x1*x1+x1*x1)*inv (y1+y1)) else .inf) else H6 x1 y1 x2 ((y2-y1)*inv (x2-x1))
theorem LQ (x1 y1 x2 y2:F):add (.pt x1 y1) (.pt x2 y2)=if x1=x2 then (if y1=y2∧y1≠0 then H6 x1 y1 x2 ((x1*x1+x1*x1+x1*x1)*inv (y1+y1)) else .inf) else H6 x1 y1 x2 ((y2-y1)*inv (x2-x1)):=rfl
def neg:Pt F→Pt F
 | .inf=>.inf
 | .pt x y=>.pt x (-y)
def On (b:F):Pt F→Prop
 | .inf=>True
 | .pt x y=>y*y=x*x*x+b
structure Ln (b x1 y1 x2 y2 x3 y3 l n:F):Prop where
 h1:y1=l*x1+n
 h2:y2=l*x2+n
 h3:y3=l*x3+n
 e1:x1+x2+x3=l*l
 e2:x1*x2+x1*x3+x2*x3+(l*n+l*n)=0
 e3:x1*x2*x3+b=n*n
section
variable {b x1 y1 x2 y2 x3 y3 l n:F}
theorem Ln.sw (h:Ln b x1 y1 x2 y2 x3 y3 l n):Ln b x2 y2 x1 y1 x3 y3 l n:=⟨h.h2,h.h1,h.h3,ATr _ _ _ _ h.e1,ATt _ _ _ _ h.e2,ATv _ _ _ _ _ h.e3⟩
theorem Ln.ro (h:Ln b x1 y1 x2 y2 x3 y3 l n):Ln b x2 y2 x3 y3 x1 y1 l n:=⟨h.h2,h.h3,h.h1,ATs _ _ _ _ h.e1,ATu _ _ _ _ h.e2,ATw _ _ _ _ _ h.e3⟩
theorem Ln.neg (h:Ln b x1 y1 x2 y2 x3 y3 l n):Ln b x1 (-y1) x2 (-y2) x3 (-y3) (-l) (-n) :=
 ⟨uG _ _ _ _ h.h1,uG _ _ _ _ h.h2,uG _ _ _ _ h.h3,by rw [neg_sq];exact h.e1,by rw [ATx];exact h.e2,by rw [neg_sq];exact h.e3⟩
theorem Ln.on (h:Ln b x1 y1 x2 y2 x3 y3 l n):y1*y1=x1*x1*x1+b:=ATo x1 y1 x2 x3 l n b h.h1 h.e1 h.e2 h.e3
end
structure Cv (F:Type) [FD F] where
 b:F
 two:(int 2:F)≠0
 no2:∀ x y:F,y*y=x*x*x+b→y≠0
variable (C:Cv F)
include C in
theorem Un {y:F} (h:y≠0):y+y≠0:=by rw [two_mul];exact DK C.two h
theorem GT {x1 y1 x2 y2 x3 y3 l n:F} (h:Ln C.b x1 y1 x2 y2 x3 y3 l n):add (.pt x1 y1) (.pt x2 y2)=.pt x3 (-y3):=by
 have hy:=C.no2 _ _ h.on;have hsum:H6 x1 y1 x2 l=.pt x3 (-y3):=by
  unfold H6;rw [ATq x1 x2 x3 l h.e1,ATp x1 y1 x3 y3 l n h.h1 h.h3]
 rw [LQ];by_cases hx:x1=x2
 ·subst hx;have e:=dF _ _ _ _ _ h.h1 h.h2;have ht:=AFj x1 y1 x3 l n h.h1 h.e1 h.e2;rw [je rfl,je ⟨e,hy⟩,X3 (Un C hy) ht];exact hsum
 ·rw [jd hx,X3 (Um (Ne.symm hx)) (Ul x1 y1 x2 y2 l n h.h1 h.h2)];exact hsum
theorem AFo {x1 y1 x2 y2 l:F} (c1:y1*y1=x1*x1*x1+C.b) (hl:l*(x2-x1)=y2-y1)
  (e2:x1*x2+x1*(l*l-x1-x2)+x2*(l*l-x1-x2)+(l*(y1-l*x1)+l*(y1-l*x1))=0):Ln C.b x1 y1 x2 y2 (l*l-x1-x2) (l*(l*l-x1-x2)+(y1-l*x1)) l (y1-l*x1) :=
 ⟨AT7 x1 y1 l,AT8 x1 y1 x2 y2 l hl,rfl,AT9 x1 x2 l,e2,ATn x1 y1 x2 l C.b e2 c1⟩
theorem N5 {x1 y1 x2 y2:F} (c1:y1*y1=x1*x1*x1+C.b) (c2:y2*y2=x2*x2*x2+C.b):(x2=x1∧y2=-y1)∨∃ x3 y3 l n,Ln C.b x1 y1 x2 y2 x3 y3 l n:=by
 by_cases hx:x1=x2
 ·subst hx;by_cases hy:y1=y2
  ·subst hy;have hy0:=C.no2 _ _ c1;refine .inr ⟨_,_,(x1*x1+x1*x1+x1*x1)*inv (y1+y1),_,AFo C c1 (by rw [sub_self,sub_self,mul_zero]) ?_⟩
   refine ATm x1 y1 _ ?_
   rw [mul_comm,AFn (Un C hy0)]
  ·refine .inl ⟨rfl,?_⟩
   have:=ATy y1 y2 _ c1 c2
   exact AUA y1 y2 (Pp (Um hy) this)
 ·have hd:=Um (Ne.symm hx)
  have hl:(y2-y1)*inv (x2-x1)*(x2-x1)=y2-y1:=AFn hd
  exact .inr ⟨_,_,(y2-y1)*inv (x2-x1),_,AFo C c1 hl (Pp hd (ATl x1 y1 x2 y2 _ C.b hl c1 c2))⟩
include C in
theorem dG {y:F} (hy:y≠0) (h:y=-y):False:=by
 have h2:y+y=0:=by
  have:=Rg.add_neg y
  rw [← h] at this;exact this
 exact Un C hy h2
theorem J7 {x y:F} (c:y*y=x*x*x+C.b):add (.pt x y) (.pt x (-y))=.inf:=by
 have hy:=C.no2 _ _ c;rw [LQ,je rfl,jd]
 rintro ⟨h,_⟩
 exact dG C hy h
theorem Ms {x y:F} (c:y*y=x*x*x+C.b):(-y)*(-y)=x*x*x+C.b:=by rw [neg_sq];exact c
theorem H7 {p:Pt F} (h:On C.b p):On C.b (neg p):=by
 cases p with
 | inf=>trivial
 | pt x y=>exact Ms C h
theorem JP {p q:Pt F} (hp:On C.b p) (hq:On C.b q):On C.b (add p q):=by
 cases p with
 | inf=>exact hq
 | pt x1 y1=>cases q with
  | inf=>exact hp
  | pt x2 y2 =>
   rcases N5 C hp hq with ⟨rfl,rfl⟩ | ⟨x3,y3,l,n,h⟩
   ·rw [J7 C hp];trivial
   ·rw [GT C h];exact Ms C h.ro.ro.on
theorem H8 {p q:Pt F} (hp:On C.b p) (hq:On C.b q):add p q=add q p:=by
 cases p with
 | inf=>cases q<;>rfl
 | pt x1 y1=>cases q with
  | inf=>rfl
  | pt x2 y2 =>
   rcases N5 C hp hq with ⟨rfl,rfl⟩ | ⟨x3,y3,l,n,h⟩
   ·rw [J7 C hp];have:=J7 C (Ms C hp)
    rw [neg_neg] at this;exact this.symm
   ·rw [GT C h,GT C h.sw]
theorem Pq (p:Pt F):add p .inf=p:=by cases p<;>rfl
theorem X4 {p:Pt F} (hp:On C.b p):add p (neg p)=.inf:=by
 cases p with
 | inf=>rfl
 | pt x y=>exact J7 C hp
theorem Pr {p q:Pt F} (hp:On C.b p) (hq:On C.b q):add (neg p) (add p q)=q:=by
 cases p with
 | inf=>rfl
 | pt x1 y1=>cases q with
  | inf =>
   have h:=J7 C (Ms C hp)
   rw [neg_neg] at h;exact h
  | pt x2 y2 =>
   rcases N5 C hp hq with ⟨rfl,rfl⟩ | ⟨x3,y3,l,n,h⟩
   ·rw [J7 C hp];rfl
   ·rw [GT C h];have:=GT C h.neg.sw.ro
    rw [neg_neg] at this;exact this
theorem uH {p q r:Pt F} (hp:On C.b p) (hq:On C.b q) (hr:On C.b r) (h:add p q=add p r):q=r:=by
 rw [← Pr C hp hq,h,Pr C hp hr]
theorem AFp {x1 y1 x2 y2 x3 y3 l n x5 y5 m q:F} (h1:Ln C.b x1 y1 x2 y2 x3 (-y3) l n) (h2:Ln C.b x2 y2 x3 y3 x5 y5 m q):add (.pt x3 y3) (.pt x3 y3)=add (.pt x1 y1) (.pt x5 (-y5)):=by
 have cP:=h1.on;have cQ:=h2.on;have cR:=h2.ro.on;have hyQ:=C.no2 _ _ cQ;have hyR:=C.no2 _ _ cR;have a2:add (.pt x1 y1) (.pt x2 y2)=.pt x3 y3:=by rw [GT C h1,neg_neg]
 have a1:add (.pt x2 y2) (.pt x3 y3)=.pt x5 (-y5):=GT C h2
 rcases N5 C cR cR with ⟨_,e⟩ | ⟨x6,y6,s,n6,h6⟩
 ·exact (dG C hyR e).elim
 rcases N5 C cP (Ms C h2.ro.ro.on) with ⟨e1,e2⟩ | ⟨x7,y7,t,n7,h7⟩
 ·exfalso
  have e2:=AFl _ _ e2;subst e1;subst e2;have a3:=GT C h2.ro.ro;rw [a2] at a3;injection a3 with _ a3;exact dG C hyR a3
 rw [GT C h6,GT C h7];have ht:(x5-x1)*t=-y5-y1:=Ul x1 y1 x5 (-y5) t n7 h7.h1 h7.h2
 have hs:(y3+y3)*s=x3*x3+x3*x3+x3*x3:=AFj x3 y3 x6 s n6 h6.h1 h6.e1 h6.e2
 have hd:x5≠x1:=by
  intro e;subst e;have e3:=dF _ _ _ _ _ h7.h1 h7.h2;rw [← e3] at a1;have a4:add (neg (.pt x2 y2)) (.pt x3 y3)=.pt x5 y1:=by
   rw [← a2,H8 C (p:=.pt x5 y1) (q:=.pt x2 y2) cP cQ];exact Pr C (p:=.pt x2 y2) (q:=.pt x5 y1) cQ cP
  have a5:add (.pt x3 y3) (.pt x2 y2)=add (.pt x3 y3) (neg (.pt x2 y2)):=by
   rw [H8 C (p:=.pt x3 y3) (q:=.pt x2 y2) cR cQ,H8 C (p:=.pt x3 y3) (q:=neg (.pt x2 y2)) cR (Ms C cQ),a1,a4]
  have a6:=uH C (p:=.pt x3 y3) (q:=.pt x2 y2) (r:=neg (.pt x2 y2)) cR cQ (Ms C cQ) a5
  injection a6 with _ a6;exact dG C hyQ a6
 have hi:(int 2:F)*inv (int 2)=int 1:=by rw [FD.mul_inv _ C.two,Xy]
 obtain ⟨h,hh⟩:∃ h:F,h+h=x3-x2:=⟨(x3-x2)*inv (int 2),AT6 _ _ hi⟩
 obtain ⟨k,rfl⟩:∃ k:F,l=-k:=⟨-l,(neg_neg l).symm⟩
 have ex3:x3=x2+(h+h):=by rw [hh];exact AT' _ _
 have hm:y3-y2=m*(h+h):=by
  have:=Ul x2 y2 x3 y3 m q h2.h1 h2.h2
  rw [hh,mul_comm];exact this.symm
 have hk:y3+y2=k*(h+h):=by
  have:=Ul x2 y2 x3 (-y3) (-k) n h1.h2 h1.h3
  rw [hh];exact AUF _ _ _ _ this
 have ey2:y2=(k-m)*h:=JO C.two (AT4 y2 y3 h m k hm hk)
 have ey3:y3=(k+m)*h:=JO C.two (AT5 y2 y3 h m k hm hk)
 have ex1:x1=k*k-x2-x3:=AUB x1 x2 x3 k h1.e1
 have ey1:y1=k*(x2-x1)+y2:=AUC x1 y1 x2 y2 k n h1.h1 h1.h2
 have ex5:x5=m*m-x2-x3:=Rq x2 x3 x5 m h2.e1
 have ey5:-y5=m*(x2-x5)-y2:=Rr x2 y2 x5 y5 m q h2.h1 h2.h3
 have r2:=AT_ x2 y2 h m k (by rw [← ex3];exact AFk x2 y2 x3 x5 m q h2.h1 h2.e1 h2.e2) ey2
 have rs:((k+m)*h+(k+m)*h)*s=(x2+(h+h))*(x2+(h+h))+(x2+(h+h))*(x2+(h+h))+(x2+(h+h))*(x2+(h+h)):=by rw [← ey3,← ex3];exact hs
 have hX:=spX x2 h m k s r2 rs;have hY:=spY x2 h m k s r2 rs;rw [← ex3,← ex1,← ex5,← ey2,← ey3,← ey5,← ey1] at hX hY;have hw:=Un C hyR;have hD:=Um hd;have x6e:x6=s*s-x3-x3:=Rq x3 x3 x6 s h6.e1
 have x7e:x7=t*t-x1-x5:=Rq x1 x5 x7 t h7.e1
 have hXX:x6=x7:=by
  rw [x6e,x7e];refine JO (DK hD hD) ?_
  rw [AUD _ _ _ x1 x5 ht];exact JO (DK hw hw) hX
 have y6e:-y6=s*(x3-x6)-y3:=Rr x3 y3 x6 y6 s n6 h6.h1 h6.h3
 have y7e:-y7=t*(x1-x7)-y1:=Rr x1 y1 x7 y7 t n7 h7.h1 h7.h3
 have hYY:-y6=-y7:=by
  rw [y6e,y7e,← hXX];refine JO hD ?_
  rw [AUE _ _ _ x1 x6 y1 ht];rw [← x6e] at hY;exact JO (DK (DK hw hw) hw) hY
 rw [hXX,hYY]
theorem AUG {x1 y1 x2 y2 x3 y3 x4 y4 x5 y5 x6 y6 x7 y7 l n m q s n6 t n7:F} (h1:Ln C.b x1 y1 x2 y2 x4 y4 l n) (h2:Ln C.b x2 y2 x3 y3 x5 y5 m q) (h3:Ln C.b x4 (-y4) x3 y3 x6 y6 s n6) (h4:Ln C.b x1 y1 x5 (-y5) x7 y7 t n7)
  (hd1:x4≠x3) (hd2:x5≠x1):x6=x7∧-y6=-y7:=by
 have ex4:x4=l*l-x1-x2:=Rq x1 x2 x4 l h1.e1
 have ey4:-y4=l*(x2-x4)-y2:=Rr x2 y2 x4 y4 l n h1.h2 h1.h3
 have ex5:x5=m*m-x2-x3:=Rq x2 x3 x5 m h2.e1
 have ey5:-y5=m*(x2-x5)-y2:=Rr x2 y2 x5 y5 m q h2.h1 h2.h3
 have ey3:y3=y2+m*(x3-x2):=AFm x3 y3 x2 y2 m q h2.h2 h2.h1
 have ey1:y1=y2+l*(x1-x2):=AFm x1 y1 x2 y2 l n h1.h1 h1.h2
 have hs:s*(x4-x3)=-y4-y3:=by rw [mul_comm];exact Ul x3 y3 x4 (-y4) s n6 h3.h2 h3.h1
 have ht:t*(x5-x1)=-y5-y1:=by rw [mul_comm];exact Ul x1 y1 x5 (-y5) t n7 h4.h1 h4.h2
 have r1:=ATz x1 x2 y2 x4 l n h1.h2 h1.e1 h1.e2;have r2:=AFk x2 y2 x3 x5 m q h2.h1 h2.e1 h2.e2;have hs':s*(l*l-x1-x2-x3)=l*(x2-(l*l-x1-x2))-y2-(y2+m*(x3-x2)):=by rw [← ex4,← ey4,← ey3];exact hs
 have ht':t*(m*m-x2-x3-x1)=m*(x2-(m*m-x2-x3))-y2-(y2+l*(x1-x2)):=by rw [← ex5,← ey5,← ey1];exact ht
 have hX:=AT0 x1 x2 x3 y2 l m s t r1 r2 hs' ht';have hY:=AT1 x1 x2 x3 y2 l m s t r1 r2 hs' ht';rw [← ex4,← ex5] at hX hY;rw [← ey3,← ey1] at hY;have hD1:=Um hd1;have hD2:=Um hd2;have x6e:x6=s*s-x4-x3:=Rq x4 x3 x6 s h3.e1
 have x7e:x7=t*t-x1-x5:=Rq x1 x5 x7 t h4.e1
 have hXX:x6=x7:=by rw [x6e,x7e];exact JO (DK (DK hD1 hD1) (DK hD2 hD2)) hX
 have y6e:-y6=s*(x3-x6)-y3:=Rr x3 y3 x6 y6 s n6 h3.h2 h3.h3
 have y7e:-y7=t*(x1-x7)-y1:=Rr x1 y1 x7 y7 t n7 h4.h1 h4.h3
 refine ⟨hXX,?_⟩
 rw [y6e,y7e,← hXX];rw [← x6e] at hY;exact JO (DK (DK (DK hD1 hD1) hD1) hD2) hY
theorem J8 {p q r:Pt F} (hp:On C.b p) (hq:On C.b q) (hr:On C.b r):add (add p q) r=add p (add q r):=by
 cases p with
 | inf=>rfl
 | pt x1 y1=>cases q with
  | inf=>rfl
  | pt x2 y2=>cases r with
   | inf=>rw [Pq,Pq]
   | pt x3 y3 =>
    rcases N5 C hp hq with ⟨rfl,rfl⟩ | ⟨x4,y4,l,n,h1⟩
    ·rw [J7 C hp];have hn:On C.b (.pt x2 (-y1)):=hq
     have:=Pr C (p:=.pt x2 (-y1)) (q:=.pt x3 y3) hn hr
     rw [show neg (.pt x2 (-y1):Pt F)=.pt x2 y1 by simp [neg,neg_neg]] at this
     exact this.symm
    rcases N5 C hq hr with ⟨rfl,rfl⟩ | ⟨x5,y5,m,q,h2⟩
    ·rw [J7 C hq,Pq,H8 C (JP C hp hq) hr,H8 C hp hq];exact Pr C (p:=.pt x3 y2) (q:=.pt x1 y1) hq hp
    rw [GT C h1,GT C h2];have c4:=Ms C h1.ro.ro.on;have c5:=Ms C h2.ro.ro.on;rcases N5 C c4 hr with ⟨e1,e2⟩ | ⟨x6,y6,s,n6,h3⟩
    ·
     rw [neg_neg] at e2;subst e1;subst e2;have a:=GT C h1.ro;rw [GT C h2] at a;rw [a,J7 C hp];have:=J7 C c4
     rw [neg_neg] at this;exact this
    rcases N5 C hp c5 with ⟨e1,e2⟩ | ⟨x7,y7,t,n7,h4⟩
    ·have e2:=AFl _ _ e2;subst e1;subst e2;have a:=GT C h2.ro.ro;rw [GT C h1] at a;rw [a,J7 C hp];have:=J7 C (Ms C hr)
     rw [neg_neg] at this;exact this
    by_cases hd1:x4=x3
    ·have e3:=dF _ _ _ _ _ (hd1▸h3.h1) h3.h2
     subst hd1;rw [e3];have h1':Ln C.b x1 y1 x2 y2 x4 (-y3) l n:=by rw [← e3,neg_neg];exact h1
     exact AFp C h1' h2
    by_cases hd2:x5=x1
    ·have e3:=dF _ _ _ _ _ h4.h1 (hd2▸h4.h2)
     subst hd2;rw [← e3];have h2':Ln C.b x3 y3 x2 y2 x5 (-y1) m q:=by rw [e3,neg_neg];exact h2.sw
     have:=AFp C h2' h1.sw
     rw [this];exact H8 C (p:=.pt x4 (-y4)) (q:=.pt x3 y3) c4 hr
    obtain ⟨e1,e2⟩:=AUG C h1 h2 h3 h4 hd1 hd2;rw [GT C h3,GT C h4,e1,e2]
def smul:Nat→Pt F→Pt F
 | 0,_=>.inf
 | n+1,p=>add (smul n p) p
theorem CH {p:Pt F} (hp:On C.b p):∀ n,On C.b (smul n p)
 | 0=>trivial
 | n+1=>JP C (CH hp n) hp
theorem JQ {p:Pt F} (hp:On C.b p) (m:Nat):∀ n,smul (m+n) p=add (smul m p) (smul n p)
 | 0=>(Pq _).symm
 | n+1=>by
  rw [← mr];simp only [smul];rw [JQ hp m n,J8 C (CH C hp m) (CH C hp n) hp]
theorem JR {p:Pt F} (hp:On C.b p) (m:Nat):∀ n,smul (m*n) p=smul n (smul m p)
 | 0=>rfl
 | n+1=>by
  rw [Nat.mul_succ,JQ C hp,JR hp m n];rfl
theorem HM:∀ n,smul n (.inf:Pt F)=.inf
 | 0=>rfl
 | n+1=>by simp only [smul];rw [HM n];rfl
theorem AUH (p:Pt F):neg (neg p)=p:=by cases p<;>simp [neg,neg_neg]
theorem AUI {p q:Pt F} (hp:On C.b p) (hq:On C.b q):add (add p q) (neg q)=p:=by
 rw [J8 C hp hq (H7 C hq),X4 C hq,Pq]
end
theorem AUJ {F:Type} [CR F] (x y i I:F) (hi:i=((y+y)*I)):(y*(i*i*i)+y*(i*i*i))*((x*x+x*x+x*x)*I)=x*(i*i)*(x*(i*i))+x*(i*i)*(x*(i*i))+x*(i*i)*(x*(i*i)) :=
 AZ.1 (Bl [x,y,i,I] ((af*(ac*ac*ac)+af*(ac*ac*ac))*((ab*ab+ab*ab+ab*ab)*ah)-(ab*(ac*ac)*(ab*(ac*ac))+ab*(ac*ac)*(ab*(ac*ac))+ab*(ac*ac)*(ab*(ac*ac)))) [(aj [(-3,302)],ac-(af+af)*ah)] ⟨AZ.2 hi,trivial⟩ dj)
theorem AFq {F:Type} [CR F] (x y i I:F) (hi:i=((y+y)*I)):(x*x+x*x+x*x)*I*((x*x+x*x+x*x)*I)-x*(i*i)-x*(i*i)=((x*x+x*x+x*x)*(x*x+x*x+x*x)-(x*(y*y)+x*(y*y)+(x*(y*y)+x*(y*y))+(x*(y*y)+x*(y*y)+(x*(y*y)+x*(y*y)))))*(I*I) :=
 AZ.1 (Bl [x,y,i,I] ((ab*ab+ab*ab+ab*ab)*ah*((ab*ab+ab*ab+ab*ab)*ah)-ab*(ac*ac)-ab*(ac*ac)-((ab*ab+ab*ab+ab*ab)*(ab*ab+ab*ab+ab*ab)-(ab*(af*af)+ab*(af*af)+(ab*(af*af)+ab*(af*af))+(ab*(af*af)+ab*(af*af)+(ab*(af*af)+ab*(af*af)))))*(ah*ah)) [((au*ac*ab+az*ab*af*ah),ac-(af+af)*ah)] ⟨AZ.2 hi,trivial⟩ dj)
theorem AUK {F:Type} [CR F] (x y i I:F) (hi:i=((y+y)*I)):(x*x+x*x+x*x)*I*(x*(i*i)-((x*x+x*x+x*x)*I*((x*x+x*x+x*x)*I)-x*(i*i)-x*(i*i)))-y*(i*i*i)=((x*x+x*x+x*x)*(x*(y*y)+x*(y*y)+(x*(y*y)+x*(y*y))-((x*x+x*x+x*x)*(x*x+x*x+x*x)-(x*(y*y)+x*(y*y)+(x*(y*y)+x*(y*y))+(x*(y*y)+x*(y*y)+(x*(y*y)+x*(y*y))))))-(y*y*(y*y)+y*y*(y*y)+(y*y*(y*y)+y*y*(y*y))+(y*y*(y*y)+y*y*(y*y)+(y*y*(y*y)+y*y*(y*y)))))*(I*I*I) :=
 AZ.1 (Bl [x,y,i,I] ((ab*ab+ab*ab+ab*ab)*ah*(ab*(ac*ac)-((ab*ab+ab*ab+ab*ab)*ah*((ab*ab+ab*ab+ab*ab)*ah)-ab*(ac*ac)-ab*(ac*ac)))-af*(ac*ac*ac)-((ab*ab+ab*ab+ab*ab)*(ab*(af*af)+ab*(af*af)+(ab*(af*af)+ab*(af*af))-((ab*ab+ab*ab+ab*ab)*(ab*ab+ab*ab+ab*ab)-(ab*(af*af)+ab*(af*af)+(ab*(af*af)+ab*(af*af))+(ab*(af*af)+ab*(af*af)+(ab*(af*af)+ab*(af*af))))))-(af*af*(af*af)+af*af*(af*af)+(af*af*(af*af)+af*af*(af*af))+(af*af*(af*af)+af*af*(af*af)+(af*af*(af*af)+af*af*(af*af)))))*(ah*ah*ah)) [(aj [(18,2013),(9,1103),(-1,210),(-2,1120),(-4,2030)],ac-(af+af)*ah)] ⟨AZ.2 hi,trivial⟩ dj)
theorem AUL {F:Type} [CR F] (y z i I:F) (hz:z*i=(int 1)) (hZ:(y*z+y*z)*I=(int 1)):i=(y+y)*I :=
 AZ.1 (Bl [y,z,i,I] (ac-(ab+ab)*ah) [((aq*ab*ah),af*ac-ao),
  ((-ac),(ab*af+ab*af)*ah-ao)] ⟨AZ.2 hz,AZ.2 hZ,trivial⟩ dj)
theorem AUM {F:Type} [CR F] (x a z i:F) (hz:z*i=(int 1)):(a*(z*z)-x)*(i*i)=a-x*(i*i) :=
 AZ.1 (Bl [x,a,z,i] ((af*(ac*ac)-ab)*(ah*ah)-(af-ab*(ah*ah))) [((af*ac*ah+af),ac*ah-ao)] ⟨AZ.2 hz,trivial⟩ dj)
theorem AUN {F:Type} [CR F] (y b z i:F) (hz:z*i=(int 1)):(b*(z*z*z)-y)*(i*i*i)=b-y*(i*i*i) :=
 AZ.1 (Bl [y,b,z,i] ((af*(ac*ac*ac)-ab)*(ah*ah*ah)-(af-ab*(ah*ah*ah))) [((af*ac^2*ah^2+(af*ac*ah+af)),ac*ah-ao)] ⟨AZ.2 hz,trivial⟩ dj)
theorem AUO {F:Type} [CR F] (z h i I:F) (hz:z*i=(int 1)) (hZ:z*h*I=(int 1)):i=h*I :=
 AZ.1 (Bl [z,h,i,I] (ac-af*ah) [((af*ah),ab*ac-ao),
  ((-ac),ab*af*ah-ao)] ⟨AZ.2 hz,AZ.2 hZ,trivial⟩ dj)
theorem AUP {F:Type} [CR F] (x y a b i I h r:F) (hi:i=(h*I)) (hh:h*(i*i)=(a-x*(i*i))) (hr:r*(i*i*i)=(b-y*(i*i*i))):(a-x*(i*i))*(r*I)=b-y*(i*i*i) :=
 AZ.1 (Bl [x,y,a,b,i,I,h,r] ((ac-ab*(ae*ae))*(aw*am)-(ah-af*(ae*ae*ae))) [((-(ae^2*aw)),ae-ap*am),
  ((-(am*aw)),ap*(ae*ae)-(ac-ab*(ae*ae))),
  (ao,aw*(ae*ae*ae)-(ah-af*(ae*ae*ae)))] ⟨AZ.2 hi,AZ.2 hh,AZ.2 hr,trivial⟩ dj)
theorem AUQ {F:Type} [CR F] (x y a i I h r:F) (hi:i=(h*I)) (hh:h*(i*i)=(a-x*(i*i))):r*I*(r*I)-x*(i*i)-a=(r*r-h*h*h-(x*(h*h)+x*(h*h)))*(I*I) :=
 AZ.1 (Bl [x,y,a,i,I,h,r] (ap*ae*(ap*ae)-ab*(ah*ah)-ac-(ap*ap-am*am*am-(ab*(am*am)+ab*(am*am)))*(ae*ae)) [((au*ab*ah+au*ab*ae*am+(-(ah*am)+-(ae*am^2))),ah-am*ae),
  (ao,am*(ah*ah)-(ac-ab*(ah*ah)))] ⟨AZ.2 hi,AZ.2 hh,trivial⟩ dj)
theorem AUR {F:Type} [CR F] (x y a i I h r:F) (hi:i=(h*I)) (hh:h*(i*i)=(a-x*(i*i))):r*I*(x*(i*i)-(r*I*(r*I)-x*(i*i)-a))-y*(i*i*i)=(r*(x*(h*h)-(r*r-h*h*h-(x*(h*h)+x*(h*h))))-y*(h*h*h))*(I*I*I) :=
 AZ.1 (Bl [x,y,a,i,I,h,r] (ap*ae*(ab*(ah*ah)-(ap*ae*(ap*ae)-ab*(ah*ah)-ac))-af*(ah*ah*ah)-(ap*(ab*(am*am)-(ap*ap-am*am*am-(ab*(am*am)+ab*(am*am))))-af*(am*am*am))*(ae*ae*ae)) [(aj [(3,1011001),(3,1120001),(-1,111010),(-1,2010),(-1,220010),(1,1111000),(1,1220000)],ah-am*ae),
  ((-(ae*ap)),am*(ah*ah)-(ac-ab*(ah*ah)))] ⟨AZ.2 hi,AZ.2 hh,trivial⟩ dj)
end Go.Proofs.YtgnajdcdcblaoaaGreat.Rg
namespace Go.Proofs.YtgnajdcdcblaoaaGreat.Rg
open FD (inv)
structure J (F:Type) where
 x:F
 y:F
 z:F
section
variable {F:Type} [FD F]
def CI (j:J F):Pt F:=if j.z=0 then .inf else .pt (j.x*(inv j.z*inv j.z)) (j.y*((inv j.z*inv j.z)*inv j.z))
def jE (x:F):F:=x*x+x*x+x*x
def jD (x y:F):F:=x*(y*y)+x*(y*y)+(x*(y*y)+x*(y*y))
def jC2 (y:F):F:=(y*y)*(y*y)+(y*y)*(y*y)
def dH (y:F):F:=jC2 y+jC2 y
def Uo (y:F):F:=dH y+dH y
def jX (x y:F):F:=jE x*jE x-(jD x y+jD x y)
def B0 (j:J F):J F:=⟨jX j.x j.y,jE j.x*(jD j.x j.y-jX j.x j.y)-Uo j.y,j.y*j.z+j.y*j.z⟩
def pX (x h r:F):F:=r*r-(h*h)*h-(x*(h*h)+x*(h*h))
def pY (x y h r:F):F:=r*(x*(h*h)-pX x h r)-y*((h*h)*h)
def pH (j:J F) (a:F):F:=a*(j.z*j.z)-j.x
def pR (j:J F) (b:F):F:=b*((j.z*j.z)*j.z)-j.y
def F9 (j:J F) (a b:F):J F :=
 if j.z=0 then ⟨a,b,1⟩ else if pH j a=0 then (if pR j b=0 then B0 j else ⟨0,0,0⟩)
 else ⟨pX j.x (pH j a) (pR j b),pY j.x j.y (pH j a) (pR j b),j.z*pH j a⟩
theorem Up {z:F} (h:z≠0):z*inv z=int 1:=by rw [FD.mul_inv z h,Xy]
theorem Ig {j:J F} (h:j.z≠0):CI j=.pt (j.x*(inv j.z*inv j.z)) (j.y*((inv j.z*inv j.z)*inv j.z)):=jd h
theorem G1 {j:J F} (h:j.z=0):CI j=.inf:=je h
theorem AUS:inv (1:F)=1:=by have:=FD.mul_inv (1:F) FD.one_ne;rwa [one_mul] at this
theorem AUT {z:F} (h:z≠0):inv z≠0:=fun e=>by
 have:=FD.mul_inv z h
 rw [e,mul_zero] at this;exact FD.one_ne this.symm
variable (C:Cv F)
theorem Rs {j:J F} (hp:On C.b (CI j)):CI (B0 j)=add (CI j) (CI j):=by
 by_cases hz:j.z=0
 ·have h2:(B0 j).z=0:=by show j.y*j.z+j.y*j.z=0;rw [hz,mul_zero,zero_add]
  rw [G1 h2,G1 hz];rfl
 ·rw [Ig hz] at hp ⊢;have hY:=C.no2 _ _ hp;have hy:j.y≠0:=fun e=>hY (by rw [e,zero_mul])
  have hZ:j.y*j.z+j.y*j.z≠0:=Un C (DK hy hz)
  have hi:=AUL j.y j.z (inv j.z) (inv (j.y*j.z+j.y*j.z)) (Up hz) (Up hZ)
  rw [Ig (j:=B0 j) hZ,LQ,je rfl,je ⟨rfl,hY⟩,X3 (Un C hY) (AUJ j.x j.y _ _ hi)];unfold H6;rw [AFq j.x j.y _ _ hi];have h2:=AUK j.x j.y _ _ hi;rw [AFq j.x j.y _ _ hi] at h2;rw [h2];rfl
theorem Uq {j:J F} {a b:F} (hp:On C.b (CI j)):CI (F9 j a b)=add (CI j) (.pt a b):=by
 unfold F9;by_cases hz:j.z=0
 ·rw [je hz,G1 hz,Ig (j:=⟨a,b,1⟩) FD.one_ne];show Pt.pt (a*(inv 1*inv 1)) (b*((inv 1*inv 1)*inv 1))=.pt a b;rw [AUS,one_mul,one_mul,mul_one,mul_one]
 ·rw [jd hz];have eh:pH j a*(inv j.z*inv j.z)=a-j.x*(inv j.z*inv j.z):=AUM j.x a j.z _ (Up hz)
  have er:pR j b*((inv j.z*inv j.z)*inv j.z)=b-j.y*((inv j.z*inv j.z)*inv j.z):=AUN j.y b j.z _ (Up hz)
  have hi:=AUT hz;by_cases hh:pH j a=0
  ·have ea:a=j.x*(inv j.z*inv j.z):=AZ.1 (by rw [← eh,hh,zero_mul])
   rw [je hh];by_cases hr:pR j b=0
   ·have eb:b=j.y*((inv j.z*inv j.z)*inv j.z):=AZ.1 (by rw [← er,hr,zero_mul])
    rw [je hr,Rs C hp]
    conv=>rhs;rw [ea,eb]
    rw [Ig hz]
   ·rw [jd hr,G1 (j:=⟨0,0,0⟩) rfl,Ig hz,LQ,je ea.symm,jd]
    rintro ⟨e,_⟩
    have:b-j.y*((inv j.z*inv j.z)*inv j.z)=0:=AZ.2 e.symm
    rw [← er] at this;exact DK hr (DK (DK hi hi) hi) this
  ·rw [jd hh];have hax:a-j.x*(inv j.z*inv j.z)≠0:=by rw [← eh];exact DK hh (DK hi hi)
   have hZ:j.z*pH j a≠0:=DK hz hh
   have hI:=AUO j.z (pH j a) (inv j.z) (inv (j.z*pH j a)) (Up hz) (Up hZ)
   have hl:=AUP j.x j.y a b _ _ _ _ hI eh er;rw [Ig (j:=⟨pX j.x (pH j a) (pR j b),pY j.x j.y (pH j a) (pR j b),j.z*pH j a⟩) hZ,Ig hz,LQ,jd (fun e=>hax (AZ.2 e.symm)),X3 hax hl]
   unfold H6;have e1:=AUQ j.x j.y a (inv j.z) (inv (j.z*pH j a)) (pH j a) (pR j b) hI eh
   have e2:=AUR j.x j.y a (inv j.z) (inv (j.z*pH j a)) (pH j a) (pR j b) hI eh
   rw [e1] at e2;rw [e1,e2];rfl
end
end Go.Proofs.YtgnajdcdcblaoaaGreat.Rg
namespace Go.Proofs.YtgnajdcdcblaoaaGreat.Rg
section
variable {F:Type} [CR F]
class At (xs:List F) (x:F) (i:outParam Nat):Prop where
 h:Ro xs i=x
instance atTail {xs:List F} {x y:F} {i:Nat} [a:At xs x i]:At (y::xs) x (i+1):=⟨a.h⟩
instance (priority:=high) atHead {xs:List F} {x:F}:At (x::xs) x 0:=⟨rfl⟩
class Rf (xs:List F) (t:F) (e:outParam E):Prop where
 h:e.den xs=t
instance (priority:=low) rfV {xs:List F} {x:F} {i:Nat} [a:At xs x i]:Rf xs x (.v i):=⟨a.h⟩
instance rfAdd {xs:List F} {a b:F} {e f:E} [x:Rf xs a e] [y:Rf xs b f]:Rf xs (a+b) (.add e f):=⟨by rw [E.den,x.h,y.h]⟩
instance rfSub {xs:List F} {a b:F} {e f:E} [x:Rf xs a e] [y:Rf xs b f]:Rf xs (a-b) (.sub e f):=⟨by rw [E.den,x.h,y.h]⟩
instance rfMul {xs:List F} {a b:F} {e f:E} [x:Rf xs a e] [y:Rf xs b f]:Rf xs (a*b) (.mul e f):=⟨by rw [E.den,x.h,y.h]⟩
instance rfNeg {xs:List F} {a:F} {e:E} [x:Rf xs a e]:Rf xs (-a) (.neg e):=⟨by rw [E.den,x.h]⟩
instance rfZero {xs:List F}:Rf xs 0 (.c 0):=⟨rfl⟩
instance rfOne {xs:List F}:Rf xs 1 (.c 1):=⟨Xy⟩
theorem ring (xs:List F) {a b:F} {e f:E} [x:Rf xs a e] [y:Rf xs b f] (h:uE (E.pol (.sub e f))=true):a=b:=by
 rw [← x.h,← y.h];exact ATk xs e f h
end
end Go.Proofs.YtgnajdcdcblaoaaGreat.Rg
namespace Go.Proofs.YtgnajdcdcblaoaaGreat.Rg
set_option synthInstance.maxSize 100000
set_option synthInstance.maxHeartbeats 400000
structure Qx {F:Type} [CR F] (β:F) where
 a:F
 b:F
structure Kx {F:Type} [CR F] (ξ:F) where
 a:F
 b:F
 c:F
section
variable {F:Type} [CR F] {β ξ:F}
theorem Qx.ext {x y:Qx β} (h1:x.a=y.a) (h2:x.b=y.b):x=y:=by cases x;cases y;simp_all
theorem Kx.ext {x y:Kx ξ} (h1:x.a=y.a) (h2:x.b=y.b) (h3:x.c=y.c):x=y:=by cases x;cases y;simp_all
instance crQ:CR (Qx β) where
 add x y:=⟨x.a+y.a,x.b+y.b⟩
 mul x y:=⟨x.a*y.a+β*(x.b*y.b),x.a*y.b+x.b*y.a⟩
 neg x:=⟨-x.a,-x.b⟩
 sub x y:=⟨x.a-y.a,x.b-y.b⟩
 zero:=⟨0,0⟩
 one:=⟨1,0⟩
 add_assoc x y z:=Qx.ext (add_assoc _ _ _) (add_assoc _ _ _)
 add_comm x y:=Qx.ext (add_comm _ _) (add_comm _ _)
 zero_add x:=Qx.ext (zero_add _) (zero_add _)
 neg_add x:=Qx.ext (neg_add _) (neg_add _)
 mul_assoc x y z:=Qx.ext (ring [x.a,x.b,y.a,y.b,z.a,z.b,β] (a:=(x.a*y.a+β*(x.b*y.b))*z.a+β*((x.a*y.b+x.b*y.a)*z.b)) (b:=x.a*(y.a*z.a+β*(y.b*z.b))+β*(x.b*(y.a*z.b+y.b*z.a))) dj)
  (ring [x.a,x.b,y.a,y.b,z.a,z.b,β] (a:=(x.a*y.a+β*(x.b*y.b))*z.b+(x.a*y.b+x.b*y.a)*z.a) (b:=x.a*(y.a*z.b+y.b*z.a)+x.b*(y.a*z.a+β*(y.b*z.b))) dj)
 mul_comm x y:=Qx.ext (ring [x.a,x.b,y.a,y.b,β] (a:=x.a*y.a+β*(x.b*y.b)) (b:=y.a*x.a+β*(y.b*x.b)) dj) (ring [x.a,x.b,y.a,y.b] (a:=x.a*y.b+x.b*y.a) (b:=y.a*x.b+y.b*x.a) dj)
 one_mul x:=Qx.ext (ring [x.a,x.b,β] (a:=1*x.a+β*(0*x.b)) dj) (ring [x.a,x.b] (a:=1*x.b+0*x.a) dj)
 add_mul x y z:=Qx.ext (ring [x.a,x.b,y.a,y.b,z.a,z.b,β] (a:=(x.a+y.a)*z.a+β*((x.b+y.b)*z.b)) (b:=x.a*z.a+β*(x.b*z.b)+(y.a*z.a+β*(y.b*z.b))) dj)
  (ring [x.a,x.b,y.a,y.b,z.a,z.b] (a:=(x.a+y.a)*z.b+(x.b+y.b)*z.a) (b:=x.a*z.b+x.b*z.a+(y.a*z.b+y.b*z.a)) dj)
 sub_eq x y:=Qx.ext (sub_eq _ _) (sub_eq _ _)
instance crK:CR (Kx ξ) where
 add x y:=⟨x.a+y.a,x.b+y.b,x.c+y.c⟩
 mul x y:=⟨x.a*y.a+ξ*(x.b*y.c+x.c*y.b),x.a*y.b+x.b*y.a+ξ*(x.c*y.c),x.a*y.c+x.b*y.b+x.c*y.a⟩
 neg x:=⟨-x.a,-x.b,-x.c⟩
 sub x y:=⟨x.a-y.a,x.b-y.b,x.c-y.c⟩
 zero:=⟨0,0,0⟩
 one:=⟨1,0,0⟩
 add_assoc x y z:=Kx.ext (add_assoc _ _ _) (add_assoc _ _ _) (add_assoc _ _ _)
 add_comm x y:=Kx.ext (add_comm _ _) (add_comm _ _) (add_comm _ _)
 zero_add x:=Kx.ext (zero_add _) (zero_add _) (zero_add _)
 neg_add x:=Kx.ext (neg_add _) (neg_add _) (neg_add _)
 mul_assoc x y z:=Kx.ext
  (ring [x.a,x.b,x.c,y.a,y.b,y.c,z.a,z.b,z.c,ξ] (a:=(x.a*y.a+ξ*(x.b*y.c+x.c*y.b))*z.a+ξ*((x.a*y.b+x.b*y.a+ξ*(x.c*y.c))*z.c+(x.a*y.c+x.b*y.b+x.c*y.a)*z.b))
   (b:=x.a*(y.a*z.a+ξ*(y.b*z.c+y.c*z.b))+ξ*(x.b*(y.a*z.c+y.b*z.b+y.c*z.a)+x.c*(y.a*z.b+y.b*z.a+ξ*(y.c*z.c)))) dj)
  (ring [x.a,x.b,x.c,y.a,y.b,y.c,z.a,z.b,z.c,ξ] (a:=(x.a*y.a+ξ*(x.b*y.c+x.c*y.b))*z.b+(x.a*y.b+x.b*y.a+ξ*(x.c*y.c))*z.a+ξ*((x.a*y.c+x.b*y.b+x.c*y.a)*z.c))
   (b:=x.a*(y.a*z.b+y.b*z.a+ξ*(y.c*z.c))+x.b*(y.a*z.a+ξ*(y.b*z.c+y.c*z.b))+ξ*(x.c*(y.a*z.c+y.b*z.b+y.c*z.a))) dj)
  (ring [x.a,x.b,x.c,y.a,y.b,y.c,z.a,z.b,z.c,ξ] (a:=(x.a*y.a+ξ*(x.b*y.c+x.c*y.b))*z.c+(x.a*y.b+x.b*y.a+ξ*(x.c*y.c))*z.b+(x.a*y.c+x.b*y.b+x.c*y.a)*z.a)
   (b:=x.a*(y.a*z.c+y.b*z.b+y.c*z.a)+x.b*(y.a*z.b+y.b*z.a+ξ*(y.c*z.c))+x.c*(y.a*z.a+ξ*(y.b*z.c+y.c*z.b))) dj)
 mul_comm x y:=Kx.ext (ring [x.a,x.b,x.c,y.a,y.b,y.c,ξ] (a:=x.a*y.a+ξ*(x.b*y.c+x.c*y.b)) (b:=y.a*x.a+ξ*(y.b*x.c+y.c*x.b)) dj)
  (ring [x.a,x.b,x.c,y.a,y.b,y.c,ξ] (a:=x.a*y.b+x.b*y.a+ξ*(x.c*y.c)) (b:=y.a*x.b+y.b*x.a+ξ*(y.c*x.c)) dj)
  (ring [x.a,x.b,x.c,y.a,y.b,y.c] (a:=x.a*y.c+x.b*y.b+x.c*y.a) (b:=y.a*x.c+y.b*x.b+y.c*x.a) dj)
 one_mul x:=Kx.ext (ring [x.a,x.b,x.c,ξ] (a:=1*x.a+ξ*(0*x.c+0*x.b)) dj) (ring [x.a,x.b,x.c,ξ] (a:=1*x.b+0*x.a+ξ*(0*x.c)) dj) (ring [x.a,x.b,x.c] (a:=1*x.c+0*x.b+0*x.a) dj)
 add_mul x y z:=Kx.ext (ring [x.a,x.b,x.c,y.a,y.b,y.c,z.a,z.b,z.c,ξ] (a:=(x.a+y.a)*z.a+ξ*((x.b+y.b)*z.c+(x.c+y.c)*z.b)) (b:=x.a*z.a+ξ*(x.b*z.c+x.c*z.b)+(y.a*z.a+ξ*(y.b*z.c+y.c*z.b))) dj)
  (ring [x.a,x.b,x.c,y.a,y.b,y.c,z.a,z.b,z.c,ξ] (a:=(x.a+y.a)*z.b+(x.b+y.b)*z.a+ξ*((x.c+y.c)*z.c)) (b:=x.a*z.b+x.b*z.a+ξ*(x.c*z.c)+(y.a*z.b+y.b*z.a+ξ*(y.c*z.c))) dj)
  (ring [x.a,x.b,x.c,y.a,y.b,y.c,z.a,z.b,z.c] (a:=(x.a+y.a)*z.c+(x.b+y.b)*z.b+(x.c+y.c)*z.a) (b:=x.a*z.c+x.b*z.b+x.c*z.a+(y.a*z.c+y.b*z.b+y.c*z.a)) dj)
 sub_eq x y:=Kx.ext (sub_eq _ _) (sub_eq _ _) (sub_eq _ _)
def Qx.conj (x:Qx β):Qx β:=⟨x.a,-x.b⟩
def Qx.nrm (x:Qx β):F:=x.a*x.a-β*(x.b*x.b)
theorem Qx.conj_mul (x y:Qx β):(x*y).conj=x.conj*y.conj :=
 Qx.ext (ring [x.a,x.b,y.a,y.b,β] (a:=x.a*y.a+β*(x.b*y.b)) (b:=x.a*y.a+β*(-x.b*-y.b)) dj) (ring [x.a,x.b,y.a,y.b] (a:=-(x.a*y.b+x.b*y.a)) (b:=x.a*-y.b+-x.b*y.a) dj)
theorem Qx.mul_conj (x:Qx β):x*x.conj=⟨x.nrm,0⟩ :=
 Qx.ext (ring [x.a,x.b,β] (a:=x.a*x.a+β*(x.b*-x.b)) (b:=x.a*x.a-β*(x.b*x.b)) dj) (ring [x.a,x.b] (a:=x.a*-x.b+x.b*x.a) (b:=0) dj)
theorem Qx.nrm_mul (x y:Qx β):(x*y).nrm=x.nrm*y.nrm :=
 ring [x.a,x.b,y.a,y.b,β] (a:=(x.a*y.a+β*(x.b*y.b))*(x.a*y.a+β*(x.b*y.b))-β*((x.a*y.b+x.b*y.a)*(x.a*y.b+x.b*y.a))) (b:=(x.a*x.a-β*(x.b*x.b))*(y.a*y.a-β*(y.b*y.b))) dj
def Kx.adj (x:Kx ξ):Kx ξ:=⟨x.a*x.a-ξ*(x.b*x.c),ξ*(x.c*x.c)-x.a*x.b,x.b*x.b-x.a*x.c⟩
def Kx.nrm (x:Kx ξ):F:=x.a*x.adj.a+ξ*(x.c*x.adj.b+x.b*x.adj.c)
theorem Kx.mul_adj (x:Kx ξ):x*x.adj=⟨x.nrm,0,0⟩ :=
 Kx.ext (ring [x.a,x.b,x.c,ξ] (a:=x.a*(x.a*x.a-ξ*(x.b*x.c))+ξ*(x.b*(x.b*x.b-x.a*x.c)+x.c*(ξ*(x.c*x.c)-x.a*x.b))) (b:=x.a*(x.a*x.a-ξ*(x.b*x.c))+ξ*(x.c*(ξ*(x.c*x.c)-x.a*x.b)+x.b*(x.b*x.b-x.a*x.c))) dj)
  (ring [x.a,x.b,x.c,ξ] (a:=x.a*(ξ*(x.c*x.c)-x.a*x.b)+x.b*(x.a*x.a-ξ*(x.b*x.c))+ξ*(x.c*(x.b*x.b-x.a*x.c))) (b:=0) dj)
  (ring [x.a,x.b,x.c,ξ] (a:=x.a*(x.b*x.b-x.a*x.c)+x.b*(ξ*(x.c*x.c)-x.a*x.b)+x.c*(x.a*x.a-ξ*(x.b*x.c))) (b:=0) dj)
theorem Kx.nrm_mul (x y:Kx ξ):(x*y).nrm=x.nrm*y.nrm :=
 ring [x.a,x.b,x.c,y.a,y.b,y.c,ξ] (a:=(x.a*y.a+ξ*(x.b*y.c+x.c*y.b))*((x.a*y.a+ξ*(x.b*y.c+x.c*y.b))*(x.a*y.a+ξ*(x.b*y.c+x.c*y.b))-ξ*((x.a*y.b+x.b*y.a+ξ*(x.c*y.c))*(x.a*y.c+x.b*y.b+x.c*y.a))) +
  ξ*((x.a*y.c+x.b*y.b+x.c*y.a)*(ξ*((x.a*y.c+x.b*y.b+x.c*y.a)*(x.a*y.c+x.b*y.b+x.c*y.a))-(x.a*y.a+ξ*(x.b*y.c+x.c*y.b))*(x.a*y.b+x.b*y.a+ξ*(x.c*y.c))) +
   (x.a*y.b+x.b*y.a+ξ*(x.c*y.c))*((x.a*y.b+x.b*y.a+ξ*(x.c*y.c))*(x.a*y.b+x.b*y.a+ξ*(x.c*y.c))-(x.a*y.a+ξ*(x.b*y.c+x.c*y.b))*(x.a*y.c+x.b*y.b+x.c*y.a))))
  (b:=(x.a*(x.a*x.a-ξ*(x.b*x.c))+ξ*(x.c*(ξ*(x.c*x.c)-x.a*x.b)+x.b*(x.b*x.b-x.a*x.c)))*(y.a*(y.a*y.a-ξ*(y.b*y.c))+ξ*(y.c*(ξ*(y.c*y.c)-y.a*y.b)+y.b*(y.b*y.b-y.a*y.c)))) dj
end
section
variable {F:Type} [FD F] {β ξ:F}
open FD (inv)
instance decQ:DecidableEq (Qx β):=fun x y=>if h:x.a=y.a∧x.b=y.b then isTrue (Qx.ext h.1 h.2) else isFalse fun e=>h (by rw [e];exact ⟨rfl,rfl⟩)
instance decK:DecidableEq (Kx ξ):=fun x y=>if h:x.a=y.a∧x.b=y.b∧x.c=y.c then isTrue (Kx.ext h.1 h.2.1 h.2.2) else isFalse fun e=>h (by rw [e];exact ⟨rfl,rfl,rfl⟩)
theorem Ur {a b:F} (h:a*b=0):a=0∨b=0:=by
 by_cases e:a=0
 ·exact .inl e
 ·exact .inr (Pp e h)
theorem Qx.nrm_ne (hβ:∀ x:F,x*x≠β) {x:Qx β} (h:x.nrm=0):x=⟨0,0⟩:=by
 by_cases hb:x.b=0
 ·have:x.a*x.a=0:=by
   have h':=h;unfold Qx.nrm at h';rw [hb,mul_zero,mul_zero,AZ] at h';exact h'
  rcases Ur this with e | e<;>exact Qx.ext e hb
 ·exfalso
  refine hβ (x.a*inv x.b) ?_
  have h':=AZ.1 h;have hi:=FD.mul_inv x.b hb
  calc x.a*inv x.b*(x.a*inv x.b)=(x.a*x.a)*(inv x.b*inv x.b):=ring [x.a,inv x.b] dj
   _=β*((x.b*inv x.b)*(x.b*inv x.b)):=by rw [h'];exact ring [x.b,inv x.b,β] dj
   _=β:=by rw [hi,mul_one,mul_one]
def Us (x:Qx β):Qx β:=⟨x.a*inv x.nrm,-x.b*inv x.nrm⟩
@[reducible] def fdQ (hβ:∀ x:F,x*x≠β):FD (Qx β) where
 inv:=Us
 mul_inv x h:=by
  have hi:=FD.mul_inv x.nrm fun e=>h (Qx.nrm_ne hβ e)
  exact Qx.ext (Eq.trans (ring [x.a,x.b,inv x.nrm,β] (a:=x.a*(x.a*inv x.nrm)+β*(x.b*(-x.b*inv x.nrm))) (b:=(x.a*x.a-β*(x.b*x.b))*inv x.nrm) dj) hi)
   (ring [x.a,x.b,inv x.nrm] (a:=x.a*(-x.b*inv x.nrm)+x.b*(x.a*inv x.nrm)) (b:=0) dj)
 inv_zero:=Qx.ext (zero_mul _) (by show -(0:F)*_=0;rw [HL,zero_mul])
 one_ne h:=FD.one_ne (F:=F) (jl Qx.a h)
 dec:=decQ
theorem AFs {a b c:F} (hξ:∀ x:F,x*x*x≠ξ) (hc:c≠0) (h1:ξ*(c*c)=a*b) (h2:c*a=b*b):False:=by
 refine hξ (b*inv c) ?_
 have hi:=FD.mul_inv c hc
 calc b*inv c*(b*inv c)*(b*inv c)=(b*b)*b*(inv c*inv c*inv c):=ring [b,inv c] dj
  _=(a*b)*(c*inv c)*(inv c*inv c):=by rw [← h2];exact ring [a,b,c,inv c] dj
  _=ξ*((c*inv c)*(c*inv c)*(c*inv c)):=by rw [← h1];exact ring [c,inv c,ξ] dj
  _=ξ:=by rw [hi,mul_one,mul_one,mul_one]
theorem Kx.smul_zero {d:F} (hd:d≠0) {y:Kx ξ} (h:(⟨d,0,0⟩:Kx ξ)*y=⟨0,0,0⟩):y=⟨0,0,0⟩:=by
 have h1:d*y.a+ξ*(0*y.c+0*y.b)=0:=jl Kx.a h
 have h2:d*y.b+0*y.a+ξ*(0*y.c)=0:=jl Kx.b h
 have h3:d*y.c+0*y.b+0*y.a=0:=jl Kx.c h
 simp only [zero_mul,add_zero,mul_zero] at h1 h2 h3;exact Kx.ext (Pp hd h1) (Pp hd h2) (Pp hd h3)
theorem Kx.lin_zero (hξ:∀ x:F,x*x*x≠ξ) {d e:F} {y:Kx ξ} (h:(⟨d,e,0⟩:Kx ξ)*y=⟨0,0,0⟩) (hde:¬ (d=0∧e=0)):y=⟨0,0,0⟩:=by
 by_cases he:e=0
 ·subst he;exact Kx.smul_zero (fun q=>hde ⟨q,rfl⟩) h
 ·refine Kx.smul_zero (d:=d*d*d+ξ*(e*e*e)) (fun q=>?_) ?_
  ·refine hξ (-d*inv e) ?_
   have hi:=FD.mul_inv e he;have q':d*d*d=-(ξ*(e*e*e)):=J6 (by rw [add_comm];exact q)
   calc -d*inv e*(-d*inv e)*(-d*inv e)=-(d*d*d)*(inv e*inv e*inv e):=ring [d,inv e] dj
    _=ξ*((e*inv e)*(e*inv e)*(e*inv e)):=by rw [q'];exact ring [e,inv e,ξ] dj
    _=ξ:=by rw [hi,mul_one,mul_one,mul_one]
  ·have e1:(⟨d*d*d+ξ*(e*e*e),0,0⟩:Kx ξ)=⟨d*d,-(d*e),e*e⟩*⟨d,e,0⟩ :=
    Kx.ext (ring [d,e,ξ] (b:=d*d*d+ξ*(-(d*e)*0+e*e*e)) dj) (ring [d,e,ξ] (a:=0) (b:=d*d*e+-(d*e)*d+ξ*(e*e*0)) dj) (ring [d,e,ξ] (a:=0) (b:=d*d*0+-(d*e)*e+e*e*d) dj)
   rw [e1,mul_assoc,h];exact mul_zero (F:=Kx ξ) _
theorem Kx.mul_zero_of (hξ:∀ x:F,x*x*x≠ξ) {x y:Kx ξ} (h:x*y=⟨0,0,0⟩) (hx:x≠⟨0,0,0⟩):y=⟨0,0,0⟩:=by
 by_cases hc:x.c=0
 ·refine Kx.lin_zero hξ (d:=x.a) (e:=x.b) ?_ fun q=>hx (Kx.ext q.1 q.2 hc)
  have e:(⟨x.a,x.b,0⟩:Kx ξ)=x:=Kx.ext rfl rfl hc.symm
  rw [e];exact h
 ·have e1:(⟨ξ*(x.c*x.c)-x.a*x.b,x.c*x.a-x.b*x.b,0⟩:Kx ξ)=⟨-x.b,x.c,0⟩*x :=
   Kx.ext (ring [x.a,x.b,x.c,ξ] (a:=ξ*(x.c*x.c)-x.a*x.b) (b:=-x.b*x.a+ξ*(x.c*x.c+0*x.b)) dj) (ring [x.a,x.b,x.c,ξ] (a:=x.c*x.a-x.b*x.b) (b:=-x.b*x.b+x.c*x.a+ξ*(0*x.c)) dj)
    (ring [x.a,x.b,x.c] (a:=0) (b:=-x.b*x.c+x.c*x.b+0*x.a) dj)
  refine Kx.lin_zero hξ (d:=ξ*(x.c*x.c)-x.a*x.b) (e:=x.c*x.a-x.b*x.b) ?_ fun q=>AFs hξ hc (AZ.1 q.1) (AZ.1 q.2)
  rw [e1,mul_assoc,h];exact mul_zero (F:=Kx ξ) _
theorem Kx.nrm_ne (hξ:∀ x:F,x*x*x≠ξ) {x:Kx ξ} (h:x.nrm=0):x=⟨0,0,0⟩:=by
 by_cases hx:x=⟨0,0,0⟩
 ·exact hx
 ·exfalso
  have hm:=x.mul_adj;rw [h] at hm;have ha:=Kx.mul_zero_of hξ hm hx;have h2:ξ*(x.c*x.c)-x.a*x.b=0:=jl Kx.b ha
  have h3:x.b*x.b-x.a*x.c=0:=jl Kx.c ha
  have h1:x.a*x.a-ξ*(x.b*x.c)=0:=jl Kx.a ha
  by_cases hc:x.c=0
  ·rw [hc,mul_zero,mul_zero,AZ] at h1;rw [hc,mul_zero,AZ] at h3;exact hx (Kx.ext ((Ur h1).elim id id) ((Ur h3).elim id id) hc)
  ·exact AFs hξ hc (AZ.1 h2) (by rw [mul_comm];exact (AZ.1 h3).symm)
def uI (x:Kx ξ):Kx ξ:=⟨x.adj.a*inv x.nrm,x.adj.b*inv x.nrm,x.adj.c*inv x.nrm⟩
theorem AFt (x:Kx ξ):uI x=x.adj*⟨inv x.nrm,0,0⟩ :=
 Kx.ext (ring [x.adj.a,x.adj.b,x.adj.c,inv x.nrm,ξ] (a:=x.adj.a*inv x.nrm) (b:=x.adj.a*inv x.nrm+ξ*(x.adj.b*0+x.adj.c*0)) dj) (ring [x.adj.a,x.adj.b,x.adj.c,inv x.nrm,ξ] (a:=x.adj.b*inv x.nrm) (b:=x.adj.a*0+x.adj.b*inv x.nrm+ξ*(x.adj.c*0)) dj)
  (ring [x.adj.a,x.adj.b,x.adj.c,inv x.nrm] (a:=x.adj.c*inv x.nrm) (b:=x.adj.a*0+x.adj.b*0+x.adj.c*inv x.nrm) dj)
@[reducible] def fdK (hξ:∀ x:F,x*x*x≠ξ):FD (Kx ξ) where
 inv:=uI
 mul_inv x h:=by
  have hi:=FD.mul_inv x.nrm fun e=>h (Kx.nrm_ne hξ e)
  rw [AFt,← mul_assoc,x.mul_adj];exact Kx.ext (Eq.trans (ring [x.nrm,inv x.nrm,ξ] (a:=x.nrm*inv x.nrm+ξ*(0*0+0*0)) (b:=x.nrm*inv x.nrm) dj) hi) (ring [x.nrm,inv x.nrm,ξ] (a:=x.nrm*0+0*inv x.nrm+ξ*(0*0)) (b:=0) dj) (ring [x.nrm,inv x.nrm] (a:=x.nrm*0+0*0+0*inv x.nrm) (b:=0) dj)
 inv_zero:=by
  have h0:(0:Kx ξ).adj=0:=Kx.ext (ring [ξ] (a:=0*0-ξ*(0*0)) (b:=(0:F)) dj) (ring [ξ] (a:=ξ*(0*0)-0*0) (b:=(0:F)) dj) (ring [ξ] (a:=0*0-0*0) (b:=(0:F)) dj)
  rw [AFt,h0,zero_mul]
 one_ne h:=FD.one_ne (F:=F) (jl Kx.a h)
 dec:=decK
end
end Go.Proofs.YtgnajdcdcblaoaaGreat.Rg
namespace Go.Proofs.YtgnajdcdcblaoaaGreat
open Ex Num
abbrev FP:Type:=Fin pN
theorem CL (a:FP):tf a.val=a:=by
 rw [pu];show a.val % pN=a.val;exact jk a.isLt
theorem HN {x:Nat} (h:x<pN):(tf x).val=x:=jk h
theorem Ps {x:Nat} {a:FP} (hx:x<pN) (h:tf x=a):x=a.val:=by rw [← h,HN hx]
noncomputable def N6 (a:FP):FP:=tf (Bz a.val)
theorem AUV {a:FP} (h:a≠0):a*N6 a=1:=by
 have hz:a.val % pN≠0:=fun e=>h (by
  have:=cD.2 e
  rwa [CL] at this)
 have:=AEU hz
 rwa [CL] at this
theorem AUW:N6 0=0:=by
 unfold N6;have:Bz (0:FP).val=0:=AET rfl
 rw [this];exact tf_zero
theorem AUX:(1:FP)≠0:=fun h=>by
 have:=Ny (show 1<pN by decide) DB (by rw [EB,tf_zero];exact h)
 cases this
noncomputable instance fdFP:Rg.FD FP where
 add_assoc a b c:=by grind
 add_comm a b:=by grind
 zero_add a:=by grind
 neg_add a:=by grind
 mul_assoc a b c:=by grind
 mul_comm a b:=by grind
 one_mul a:=by grind
 add_mul a b c:=by grind
 sub_eq a b:=by grind
 inv:=N6
 mul_inv a h:=AUV h
 inv_zero:=AUW
 one_ne:=AUX
 dec:=inferInstance
theorem AUY:(Rg.int 2:FP)=1+1:=by
 show (0:FP)+1+1=1+1
 grind
def uJ (m:Nat):Bool:=Nat.beq (Pd pN (pN-m) 384 ((pN-1) / 3)) 1
theorem AUZ:uJ 4=false:=dj
theorem p3:(pN-1) / 3*3=pN-1:=dj
theorem uK:Nat.blt ((pN-1) / 3) RR=true:=dj
theorem AUa {m:Nat} (hm:m<pN) (h0:0<m) (hc:uJ m=false) (x:Nat):(x^3+m) % pN≠0:=by
 intro h;have hx:x^3 % pN=pN-m:=by
  have h1:=Hs (x^3)
  rw [og,jk hm] at h;have h2:x^3 % pN+m=pN:=by
   have hd:=rf h;obtain ⟨k,hk⟩:=hd;have:k=1:=by
    rcases jv k 1 with q | q
    ·rw [show k=0 by omega,ll] at hk;omega
    ·rcases jv k 2 with q2 | q2
     ·omega
     ·have:=mz pN q2
      omega
   rw [this,kb] at hk;exact hk
  omega
 have hnd:¬ pN∣x:=fun hd=>by
  obtain ⟨k,hk⟩:=hd;have:x^3 % pN=0:=by rw [hk,Nat.mul_pow,kt,jy (pN^2),kx,Nat.mul_mod_right]
  omega
 have hf:=RV pN_prime hnd;rw [← p3,jy,pq,nz,hx,← rF pN 384 (pN-m) ((pN-1) / 3) (by rw [ADp];exact Bf.1 uK)] at hf
 unfold uJ at hc;rw [hf] at hc;cases hc
noncomputable def D4:FP:=tf 4
noncomputable def C1:Rg.Cv FP where
 b:=D4
 two:=by
  rw [AUY];have h2:tf 2=1+1:=by rw [← EB,← Gz]
  rw [← h2];intro h;have:=Ny (show 2<pN by decide) DB (by rw [h,tf_zero])
  cases this
 no2:=fun x y h hy=>by
  subst hy;have h1:x*x*x+D4=0:=by
   rw [← h]
   grind
  have h2:tf (x.val^3+4)=0:=by
   rw [Gz,kt,kt,Nat.pow_one,Pj,Pj,CL];exact h1
  exact AUa dl dl AUZ x.val (cD.1 h2)
open Ex Num Rg
def By (x y:Nat) (i:Bool):AV:=.val true [.num 6 x,.num 6 y,.v (.bool i)]
def Ut (cs:List Ch):Option (Nat×Nat×Bool):=match GG cs 6 with
 | some (a,r)=>match GG r 6 with
  | some (b,[c])=>match DL 6 a,DL 6 b,F0 (some (.val false [c])) with
   | some x,some y,some (_,i)=>some (x,y,i)
   | _,_,_=>none
  | _=>none
 | none=>none
theorem H9 {β β':Env} {cs:List Ch} {x y:Nat} {i:Bool} {u:Value} (h:Ut cs=some (x,y,i)) (hr:AN β (.val true cs) u):AN β' (By x y i) u∧x<RR∧y<RR:=by
 unfold Ut at h;split at h;case h_2=>cases h
 rename_i a r h1;split at h;case h_2=>cases h
 rename_i b c h2;split at h;case h_2=>cases h
 rename_i x' y' c0 i' h3 h4 h5;injection h with h;injection h with e1 h;injection h with e2 e3;subst e1;subst e2;subst e3;obtain ⟨l,hl,rfl⟩:=hr;obtain ⟨q1,q2,q3⟩:=I2 h1 hl;obtain ⟨r1,r2,r3⟩:=I2 h2 q2;obtain ⟨ea,la⟩:=Hm h3 q1;obtain ⟨eb,lb⟩:=Hm h4 r1;obtain ⟨l1,l2,hc1,hc2,hc3⟩:=r2;simp only [AQ] at hc2;subst hc2;have gx:=Qy hc1;have hsz:FF c=1:=by
  unfold F0 at h5;split at h5
  ·rename_i _ _ hq;injection hq with hq;injection hq with _ hq;injection hq with hq _;rw [hq];rfl
  ·rename_i _ _ hq;injection hq with hq;injection hq with _ hq;injection hq with hq _;rw [hq];rfl
  ·cases h5
 rw [hsz] at gx;obtain ⟨w,rfl⟩:=sm.1 gx;have hw:w=.bool i':=Kz (β:=β) (u:=w) (fun A hA=>by injection hA with hA;subst hA;exact ⟨[w],[],hc1,rfl,rfl⟩) h5
 subst hw;rw [DV];refine ⟨⟨l,⟨_,_,⟨la,rfl⟩,⟨_,_,⟨lb,rfl⟩,⟨[.bool i'],[],⟨rfl,rfl,trivial⟩,rfl,rfl⟩,rfl⟩,?_⟩,rfl⟩,la,lb⟩
 rw [← ea,← eb,← hc3,my,my]
def An (x y:Nat) (i:Bool):Pt FP:=match i with
 | true=>.inf
 | false=>.pt (tf x) (tf y)
def EF:Pt FP→Nat
 | .inf=>0
 | .pt a _=>a.val
def CM:Pt FP→Nat
 | .inf=>0
 | .pt _ b=>b.val
def Aq:Pt FP→Bool
 | .inf=>true
 | .pt _ _=>false
def HO (P:Pt FP):AV:=By (EF P) (CM P) (Aq P)
theorem X5 (P:Pt FP):EF P<pN:=by cases P with | inf=>exact DB | pt a b=>exact a.isLt
theorem dI (P:Pt FP):CM P<pN:=by cases P with | inf=>exact DB | pt a b=>exact b.isLt
theorem Uu (P:Pt FP):An (EF P) (CM P) (Aq P)=P:=by
 cases P with
 | inf=>rfl
 | pt a b=>show Pt.pt (tf a.val) (tf b.val)=_;rw [CL,CL]
theorem AUb (x y:Nat):HO (.pt (tf x) (tf y))=By (x % pN) (y % pN) false:=rfl
theorem uL {x y:Nat} {a b:FP} (hx:x<pN) (hy:y<pN) (ha:tf x=a) (hb:tf y=b):By x y false=HO (.pt a b):=by
 rw [← ha,← hb,AUb,jk hx,jk hy]
theorem N7 {P:Program} {f:FuncId} {args:List AV} {cs:List Ch} {x y:Nat} {i:Bool} (h:AU P f args (.val true cs)) (hc:Ut cs=some (x,y,i)):AU P f args (By x y i):=C3 h fun _ hu=>(H9 hc hu).1
def N8 (g:Pt FP→AV):List AV→Option AV
 | [.val true a]=>match Ut a with
  | some (x,y,i)=>some (g (An x y i))
  | none=>none
 | _=>none
theorem Rt {f:FuncId} {g:Pt FP→AV} (h:∀ x y i,AU dm f [By x y i] (g (An x y i))):∀ args v,N8 g args=some v→AU dm f args v:=by
 intro args v hs us w ha;unfold N8 at hs;split at hs;case h_2=>cases hs
 rename_i a;split at hs;case h_2=>cases hs
 rename_i x y i hx;injection hs with hs;subst hs;obtain ⟨u1,iu,r1,ha,rfl⟩:=ha;exact h x y i _ w ⟨u1,_,(H9 hx r1).1,ha,rfl⟩
theorem AUc:AM dm (AH S0 K0) f139 [] [] 100=some ([],.val true [.n .u64 4,.n .u64 0,.n .u64 0,.n .u64 0,.n .u64 0,.n .u64 0]):=dj
theorem AUd:AU dm 139 [] (Aa 4):=C3 (AP (AJ IW Ae) AB func139 AUc trivial rfl) fun u hu=>XL dj hu
def gX:Nat:=0x17f1d3a73197d7942695638c4fa9ac0fc3688c4f9774b905a14e3a3f171bac586c55e83ff97a1aeffb3af00adb22c6bb
def gY:Nat:=0x08b3f481e3aaa0f1a09e30ed741d8ae4fcf5e095d5d00af600db18cb2c04b3edd03cc744a2888ae40caa232946c5e7e1
def gC:List Ch:=[.n .u64 0xfb3af00adb22c6bb,.n .u64 0x6c55e83ff97a1aef,.n .u64 0xa14e3a3f171bac58,.n .u64 0xc3688c4f9774b905,.n .u64 0x2695638c4fa9ac0f,.n .u64 0x17f1d3a73197d794,
 .n .u64 0xcaa232946c5e7e1,.n .u64 0xd03cc744a2888ae4,.n .u64 0xdb18cb2c04b3ed,.n .u64 0xfcf5e095d5d00af6,.n .u64 0xa09e30ed741d8ae4,.n .u64 0x8b3f481e3aaa0f1,.b false]
theorem AUe:AM dm (AH S0 K0) f24 [] [] 100=some ([],.val true gC):=dj
def G1B:Pt FP:=.pt (tf gX) (tf gY)
theorem AUf:Nat.blt gX pN=true:=dj
theorem AUg:Nat.blt gY pN=true:=dj
theorem AFu:By gX gY false=HO G1B:=uL (Bf.1 AUf) (Bf.1 AUg) rfl rfl
theorem AUh:AU dm 24 [] (HO G1B):=by
 rw [← AFu];exact N7 (AP (AJ IW Ae) AB func24 AUe trivial rfl) dj
def G2 (i:Bool):List Ch:=[.n .u64 0,.n .u64 0,.n .u64 0,.n .u64 0,.n .u64 0,.n .u64 0,.n .u64 0,.n .u64 0,.n .u64 0,.n .u64 0,.n .u64 0,.n .u64 0,.b i]
theorem AUi (x y:Nat) (i:Bool):AM dm (AH SE K0) f49 [By x y i] du 300=some ([(i,true)],.val true (G2 true)):=dj
theorem AUj (x y:Nat) (i:Bool):AM dm (AH SE K0) f49 [By x y i] dt 300=some ([(i,false)],.val true [.num 6 (x % pN),.num 6 (y % pN),.b false]):=dj
theorem AUk (x y:Nat) (i:Bool):AU dm 49 [By x y i] (HO (An x y i)):=by
 cases i with
 | true=>exact N7 (AP (AJ tZ Ae) AB func49 (AUi x y true) ⟨rfl,trivial⟩ rfl) dj
 | false=>exact N7 (AP (AJ tZ Ae) AB func49 (AUj x y false) ⟨rfl,trivial⟩ rfl) dj
noncomputable def SG0:dr:=(139,Ac fun args=>match args with | []=>some (Aa 4) | _=>none)::(24,Ac fun args=>match args with | []=>some (HO G1B) | _=>none)::(49,Ac (N8 HO))::SE
theorem dJ:AW dm SG0:=⟨Ad func139 dj dj (RS AUd fun u h=>h),Ad func24 dj dj (RS AUh fun u h=>h),Ad func49 dj dj (Rt AUk),tZ⟩
theorem AFv {n:Nat} (h:n<pN):tf (Bz n)=N6 (tf n):=by unfold N6;rw [HN h]
theorem X6 {b:FP}:b.val=0↔b=0:=by rw [pu];exact Iff.rfl
theorem AUl (x y:Nat) (i:Bool):AM dm (AH SG0 K0) f78 [By x y i] [] 300=some ([],By (EF (An x y i)) (DC (CM (An x y i))) (Aq (An x y i))):=dj
theorem AUm (P:Pt FP):By (EF P) (DC (CM P)) (Aq P)=HO (Rg.neg P):=by
 cases P with
 | inf =>
  have:DC 0=0:=APs rfl
  show By 0 (DC 0) true=By 0 0 true;rw [this]
 | pt a b=>exact uL a.isLt (bM _) (CL a) (by rw [cB];show -tf b.val=_;rw [CL])
theorem AUn (x y:Nat) (i:Bool):AU dm 78 [By x y i] (HO (Rg.neg (An x y i))):=by
 rw [← AUm];exact AP (AJ dJ Ae) AB func78 (AUl x y i) trivial rfl
noncomputable def BE:Pt FP→Bool
 | .inf=>true
 | .pt a b=>decide (b*b=a*a*a+D4)
theorem LR (P:Pt FP):BE P=true↔Rg.On C1.b P:=by
 cases P with
 | inf=>exact ⟨fun _=>trivial,fun _=>rfl⟩
 | pt a b=>exact decide_eq_true_iff
theorem AUo (x y:Nat) (i:Bool):AM dm (AH SG0 K0) f64 [By x y i] du 300=some ([(i,true)],.val false [.b true]):=dj
theorem AUp (x y:Nat) (i:Bool):AM dm (AH SG0 K0) f64 [By x y i] dt 300=some ([(i,false)],Av (decide (Ah y y=EP (Ah (Ah x x) x) 4))):=dj
theorem uN (x y:Nat):decide (Ah y y=EP (Ah (Ah x x) x) 4)=BE (An x y false):=by
 have e:(Ah y y=EP (Ah (Ah x x) x) 4)↔(tf y*tf y=tf x*tf x*tf x+D4):=by
  constructor
  ·intro h;have:=jl tf h
   simpa [CZ,J4,D4] using this
  ·intro h;exact Ny (Mm _ _) (cC _ _) (by simpa [CZ,J4,D4] using h)
 show _=decide (tf y*tf y=tf x*tf x*tf x+D4);by_cases h:Ah y y=EP (Ah (Ah x x) x) 4
 ·rw [jc h,jc (e.1 h)]
 ·rw [jg h,jg fun q=>h (e.2 q)]
theorem AUq (x y:Nat) (i:Bool):AU dm 64 [By x y i] (Av (BE (An x y i))):=by
 cases i with
 | true=>exact C3 (AP (AJ dJ Ae) AB func64 (AUo x y true) ⟨rfl,trivial⟩ rfl) fun u hu=>JK rfl hu
 | false=>rw [← uN];exact AP (AJ dJ Ae) AB func64 (AUp x y false) ⟨rfl,trivial⟩ rfl
noncomputable def SG1:dr:=(78,Ac (N8 fun P=>HO (Rg.neg P)))::(64,Ac (N8 fun P=>Av (BE P)))::SG0
theorem AFw:AW dm SG1:=⟨Ad func78 dj dj (Rt AUn),Ad func64 dj dj (Rt AUq),dJ⟩
def D5 (x y z:Nat):AV:=.val true [.num 6 x,.num 6 y,.num 6 z]
def J9 (j:J FP):AV:=D5 j.x.val j.y.val j.z.val
def B9 (x y z:Nat):J FP:=⟨tf x,tf y,tf z⟩
def Ru (cs:List Ch):Option (Nat×Nat×Nat):=match GG cs 6 with
 | some (a,r)=>match GG r 6 with
  | some (b,c)=>match DL 6 a,DL 6 b,DL 6 c with
   | some x,some y,some z=>some (x,y,z)
   | _,_,_=>none
  | _=>none
 | none=>none
theorem Uv {β β':Env} {cs:List Ch} {x y z:Nat} {u:Value} (h:Ru cs=some (x,y,z)) (hr:AN β (.val true cs) u):AN β' (D5 x y z) u:=by
 unfold Ru at h;split at h;case h_2=>cases h
 rename_i a r h1;split at h;case h_2=>cases h
 rename_i b c h2;split at h;case h_2=>cases h
 rename_i x' y' z' h3 h4 h5;injection h with h;injection h with e1 h;injection h with e2 e3;subst e1;subst e2;subst e3;obtain ⟨l,hl,rfl⟩:=hr;obtain ⟨q1,q2,q3⟩:=I2 h1 hl;obtain ⟨r1,r2,r3⟩:=I2 h2 q2;obtain ⟨ea,la⟩:=Hm h3 q1;obtain ⟨eb,lb⟩:=Hm h4 r1;obtain ⟨ec,lc⟩:=Hm h5 r2;refine ⟨l,⟨_,_,⟨la,rfl⟩,⟨_,_,⟨lb,rfl⟩,⟨_,[],⟨lc,rfl⟩,rfl,rfl⟩,rfl⟩,?_⟩,rfl⟩
 rw [← ea,← eb,← ec,ku,my,my]
theorem Pu {x y z:Nat} {j:J FP} (hx:x<pN) (hy:y<pN) (hz:z<pN) (ex:tf x=j.x) (ey:tf y=j.y) (ez:tf z=j.z):D5 x y z=J9 j:=by
 unfold J9;rw [← Ps hx ex,← Ps hy ey,← Ps hz ez]
def nE (x:Nat):Nat:=EP (EP (Ah x x) (Ah x x)) (Ah x x)
def nD (x y:Nat):Nat:=EP (EP (Ah x (Ah y y)) (Ah x (Ah y y))) (EP (Ah x (Ah y y)) (Ah x (Ah y y)))
def uO (y:Nat):Nat:=EP (Ah (Ah y y) (Ah y y)) (Ah (Ah y y) (Ah y y))
def uP (y:Nat):Nat:=EP (uO y) (uO y)
def nC8 (y:Nat):Nat:=EP (uP y) (uP y)
def nX (x y:Nat):Nat:=Es (Ah (nE x) (nE x)) (EP (nD x y) (nD x y))
def nY (x y:Nat):Nat:=Es (Ah (nE x) (Es (nD x y) (nX x y))) (nC8 y)
theorem AUr (x y z:Nat):AM dm (AH SG1 K0) f94 [D5 x y z] [] 500=some ([],D5 (nX x y) (nY x y) (EP (Ah y z) (Ah y z))):=dj
theorem AFy (x y:Nat):tf (nX x y)=jX (tf x) (tf y):=by
 unfold nX nE nD jX jE jD;simp only [Hz,CZ,J4]
theorem AUs (x y:Nat):tf (nY x y)=jE (tf x)*(jD (tf x) (tf y)-jX (tf x) (tf y))-Uo (tf y):=by
 unfold nY;rw [Hz,CZ,Hz,AFy];unfold nE nD nC8 uP uO jE jD Uo dH jC2;simp only [CZ,J4]
theorem AUt (x y z:Nat):AU dm 94 [D5 x y z] (J9 (B0 (B9 x y z))):=by
 rw [← Pu (j:=B0 (B9 x y z)) (H3 _ _) (H3 _ _) (cC _ _) (AFy x y) (AUs x y) (by rw [J4,CZ];rfl)]
 exact AP (AJ AFw Ae) AB func94 (AUr x y z) trivial rfl
def dK (g:J FP→AV):List AV→Option AV
 | [.val true a]=>match Ru a with
  | some (x,y,z)=>some (g (B9 x y z))
  | none=>none
 | _=>none
theorem AFz {f:FuncId} {g:J FP→AV} (h:∀ x y z,AU dm f [D5 x y z] (g (B9 x y z))):∀ args v,dK g args=some v→AU dm f args v:=by
 intro args v hs us w ha;unfold dK at hs;split at hs;case h_2=>cases hs
 rename_i a;split at hs;case h_2=>cases hs
 rename_i x y z hx;injection hs with hs;subst hs;obtain ⟨u1,iu,r1,ha,rfl⟩:=ha;exact h x y z _ w ⟨u1,_,Uv hx r1,ha,rfl⟩
noncomputable def SG2:dr:=(94,Ac (dK fun j=>J9 (B0 j)))::SG1
theorem Pv:AW dm SG2:=⟨Ad func94 dj dj (AFz AUt),AFw⟩
def nH (x z a:Nat):Nat:=Es (Ah a (Ah z z)) x
def nR (y z b:Nat):Nat:=Es (Ah b (Ah (Ah z z) z)) y
def N9 (x h r:Nat):Nat:=Es (Es (Ah r r) (Ah (Ah h h) h)) (EP (Ah x (Ah h h)) (Ah x (Ah h h)))
def Uw (x y h r:Nat):Nat:=Es (Ah r (Es (Ah x (Ah h h)) (N9 x h r))) (Ah y (Ah (Ah h h) h))
section
variable (x y z a b:Nat) (i:Bool)
theorem AUu:AM dm (AH SG2 K0) f95 [D5 x y z,By a b i] du 500=some ([(decide (z=0),true)],.val true (.num 6 a::.num 6 b::tN)):=dj
theorem AUv:AM dm (AH SG2 K0) f95 [D5 x y z,By a b i] e_ 500=some ([(decide (z=0),false),(decide (nH x z a=0),true),(decide (nR y z b=0),true)],J9 (B0 (B9 x y z))):=dj
theorem AUw:AM dm (AH SG2 K0) f95 [D5 x y z,By a b i] [false,true,false,true] 500=some ([(decide (z=0),false),(decide (nH x z a=0),true),(decide (nR y z b=0),false),(decide (nH x z a=0),true)],.val true (List.replicate 18 (.n .u64 0))):=dj
theorem AUx:AM dm (AH SG2 K0) f95 [D5 x y z,By a b i] fb 500=some ([(decide (z=0),false),(decide (nH x z a=0),false),(decide (nH x z a=0),false)],D5 (N9 x (nH x z a) (nR y z b)) (Uw x y (nH x z a) (nR y z b)) (Ah z (nH x z a))):=dj
end
theorem AF0 (x y z a:Nat):tf (nH x z a)=pH (B9 x y z) (tf a):=by unfold nH pH B9;simp only [Hz,CZ]
theorem AF1 (x y z b:Nat):tf (nR y z b)=pR (B9 x y z) (tf b):=by unfold nR pR B9;simp only [Hz,CZ]
theorem Mt {n:Nat} (h:n<pN):n=0↔tf n=0:=by
 constructor
 ·rintro rfl;exact tf_zero
 ·intro e;exact Ny h DB (e.trans tf_zero.symm)
theorem dL {P:Program} {f:FuncId} {args:List AV} {cs:List Ch} {x y z:Nat} (h:AU P f args (.val true cs)) (hc:Ru cs=some (x,y,z)):AU P f args (D5 x y z):=C3 h fun _ hu=>Uv hc hu
theorem AUy {x y z a b:Nat} {i:Bool} (hz:z<pN) (ha:a<pN) (hb:b<pN):AU dm 95 [D5 x y z,By a b i] (J9 (F9 (B9 x y z) (tf a) (tf b))):=by
 have eh:=AF0 x y z a;have er:=AF1 x y z b;have zh:=Mt (n:=nH x z a) (H3 _ _)
 have zr:=Mt (n:=nR y z b) (H3 _ _)
 rw [eh] at zh;rw [er] at zr;unfold F9;by_cases h0:z=0
 ·rw [je (show (B9 x y z).z=0 from (Mt hz).1 h0),← Pu (j:=⟨tf a,tf b,1⟩) ha hb (show 1<pN by decide) rfl rfl EB]
  exact dL (AP (AJ Pv Ae) AB func95 (AUu x y z a b i) ⟨jc h0,trivial⟩ rfl) rfl
 ·rw [jd (show ¬ (B9 x y z).z=0 from fun e=>h0 ((Mt hz).2 e))]
  by_cases hh:nH x z a=0
  ·rw [je (zh.1 hh)];by_cases hr:nR y z b=0
   ·rw [je (zr.1 hr)];exact AP (AJ Pv Ae) AB func95 (AUv x y z a b i) ⟨jg h0,jc hh,jc hr,trivial⟩ rfl
   ·rw [jd (fun e=>hr (zr.2 e)),← Pu (j:=⟨0,0,0⟩) DB DB DB tf_zero tf_zero tf_zero]
    exact dL (AP (AJ Pv Ae) AB func95 (AUw x y z a b i) ⟨jg h0,jc hh,jg hr,jc hh,trivial⟩ rfl) dj
  ·rw [jd (fun e=>hh (zh.2 e)),← Pu (j:=⟨pX (B9 x y z).x (pH (B9 x y z) (tf a)) (pR (B9 x y z) (tf b)),pY (B9 x y z).x (B9 x y z).y (pH (B9 x y z) (tf a)) (pR (B9 x y z) (tf b)),(B9 x y z).z*pH (B9 x y z) (tf a)⟩)
    (x:=N9 x (nH x z a) (nR y z b)) (y:=Uw x y (nH x z a) (nR y z b)) (z:=Ah z (nH x z a)) (H3 _ _) (H3 _ _) (Mm _ _) ?_ ?_ ?_]
   ·exact AP (AJ Pv Ae) AB func95 (AUx x y z a b i) ⟨jg h0,jg hh,jg hh,trivial⟩ rfl
   ·unfold N9 pX;simp only [Hz,CZ,J4,eh,er];rfl
   ·unfold Uw N9 pY pX;simp only [Hz,CZ,J4,eh,er];rfl
   ·rw [CZ,eh];rfl
noncomputable def Ux:List AV→Option (dp×AV)
 | [.val true a,.val true b]=>match Ru a,Ut b with
  | some (x,y,z),some (p,q,_)=>some ([(decide (z<pN),true),(decide (p<pN),true),(decide (q<pN),true)],J9 (F9 (B9 x y z) (tf p) (tf q)))
  | _,_=>none
 | _=>none
theorem AUz:∀ args c v,Ux args=some (c,v)→AO c→AU dm 95 args v:=by
 intro args c v hs hc us w ha;unfold Ux at hs;split at hs;case h_2=>cases hs
 rename_i a b;split at hs;case h_2=>cases hs
 rename_i x y z p q i hx hy;injection hs with hs;injection hs with h1 h2;subst h1;subst h2;obtain ⟨u1,iu,r1,⟨u2,iw,r2,ha,rfl⟩,rfl⟩:=ha;exact AUy (jx hc.1) (jx hc.2.1) (jx hc.2.2.1) _ w ⟨u1,_,Uv hx r1,⟨u2,_,(H9 hy r2).1,ha,rfl⟩,rfl⟩
def KG:List (TypeId×List (Option IntKind)):=(119,List.replicate 18 (some .u64))::K0
theorem Dx:MT dm KG:=⟨⟨dj,dj,dj⟩,Ae⟩
def z3 (x y z:Nat):Bool:=decide (x=0)&&(decide (y=0)&&decide (z=0))
theorem AU0 (x y z:Nat):AM dm (AH SG2 KG) f96 [D5 x y z] du 500=some ([(z3 x y z,true)],.val true (G2 true)):=dj
theorem AU1 (x y z:Nat):AM dm (AH SG2 KG) f96 [D5 x y z] dx 500=some ([(z3 x y z,false),(decide (z=0),true)],.val true (G2 true)):=dj
theorem AU2 (x y z:Nat):AM dm (AH SG2 KG) f96 [D5 x y z] dz 500=some ([(z3 x y z,false),(decide (z=0),false)],.val true [.num 6 (Ah x (Ah (Bz z) (Bz z))),.num 6 (Ah y (Ah (Ah (Bz z) (Bz z)) (Bz z))),.b false]):=dj
theorem AU3 {x y z:Nat} (hz:z<pN):AU dm 96 [D5 x y z] (HO (CI (B9 x y z))):=by
 by_cases h0:z=0
 ·rw [G1 (j:=B9 x y z) ((Mt hz).1 h0)];cases h3:z3 x y z with
  | true=>exact N7 (AP (AJ Pv Dx) AB func96 (AU0 x y z) ⟨h3,trivial⟩ rfl) dj
  | false=>exact N7 (AP (AJ Pv Dx) AB func96 (AU1 x y z) ⟨h3,jc h0,trivial⟩ rfl) dj
 ·have h3:z3 x y z=false:=by unfold z3;rw [jg h0,nc,nc]
  rw [Ig (j:=B9 x y z) (fun e=>h0 ((Mt hz).2 e))]
  have ei:tf (Bz z)=FD.inv (tf z):=AFv hz
  rw [← uL (x:=Ah x (Ah (Bz z) (Bz z))) (y:=Ah y (Ah (Ah (Bz z) (Bz z)) (Bz z))) (Mm _ _) (Mm _ _) (by rw [CZ,CZ,ei];rfl) (by rw [CZ,CZ,CZ,ei];rfl)]
  exact N7 (AP (AJ Pv Dx) AB func96 (AU2 x y z) ⟨h3,jg h0,trivial⟩ rfl) rfl
noncomputable def uQ:List AV→Option (dp×AV)
 | [.val true a]=>match Ru a with
  | some (x,y,z)=>some ([(decide (z<pN),true)],HO (CI (B9 x y z)))
  | _=>none
 | _=>none
theorem AU4:∀ args c v,uQ args=some (c,v)→AO c→AU dm 96 args v:=by
 intro args c v hs hc us w ha;unfold uQ at hs;split at hs;case h_2=>cases hs
 rename_i a;split at hs;case h_2=>cases hs
 rename_i x y z hx;injection hs with hs;injection hs with h1 h2;subst h1;subst h2;obtain ⟨u1,iu,r1,ha,rfl⟩:=ha;exact AU3 (jx hc.1) _ w ⟨u1,_,Uv hx r1,ha,rfl⟩
noncomputable def SG3:dr:=(95,FY Ux)::(96,FY uQ)::SG2
theorem Rv:AW dm SG3:=⟨GS func95 dj dj AUz,GS func96 dj dj AU4,Pv⟩
theorem AF2 {H0:Heap} {k b:Nat} {blk blk' x:gt} (h:AG (H0++[(k,some blk')]) b=some x):AG (H0++[(k,some blk)]) b=some x∨(x=blk'∧AG (H0++[(k,some blk)]) b=some blk):=by
 induction H0 with
 | nil =>
  simp only [nm,AG] at h ⊢;cases e:Nat.beq k b with
  | true=>rw [e] at h;injection h with h;exact .inr ⟨h.symm,rfl⟩
  | false=>rw [e] at h;cases h
 | cons y r ih =>
  obtain ⟨j,z⟩:=y;simp only [nh,AG] at h ⊢;cases e:Nat.beq j b with
  | true=>rw [e] at h;exact .inl h
  | false=>rw [e] at h;exact ih h
theorem AF3 {β:Env} {ty:TypeId} {cs cs':List Ch} {o:Bool} {k:Nat} {w:World} (h:∀ β l,AQ β cs l→AQ β cs' l) (hr:DS β ⟨ty,cs,o⟩ k w):DS β ⟨ty,cs',o⟩ k w:=by
 rcases hr with ⟨B,n,l,t,pre,ty',fz,q1,q2,q3⟩ | ⟨X,q1,q2,q3⟩ | ⟨B,l,es,q,q1,q2,q3,q4⟩
 ·exact .inl ⟨B,n,l,t,pre,ty',fz,q1,h _ _ q2,q3⟩
 ·exact .inr (.inl ⟨X,q1,by cases X<;>exact q2,h _ _ q3⟩)
 ·exact .inr (.inr ⟨B,l,es,q,q1,q2,h _ _ q3,q4⟩)
theorem AU5 {β:Env} {H0:Heap} {k:Nat} {ty:TypeId} {cs cs':List Ch} {o:Bool} {w:World} (h:∀ β l,AQ β cs l→AQ β cs' l) (g:Ex.Good β (H0++[(k,some ⟨ty,cs,o⟩)]) w):Ex.Good β (H0++[(k,some ⟨ty,cs',o⟩)]) w:=by
 have hs:∀ b x,AG (H0++[(k,some ⟨ty,cs',o⟩)]) b=some x→∃ y,AG (H0++[(k,some ⟨ty,cs,o⟩)]) b=some y∧y.ty=x.ty:=fun b x hb=>by
  rcases AF2 (blk:=⟨ty,cs,o⟩) hb with e | ⟨rfl,e⟩
  ·exact ⟨x,e,rfl⟩
  ·exact ⟨_,e,rfl⟩
 refine ⟨fun b blk hb=>?_,fun b b' B n n' h1 h2 h3 h4=>?_,g.lt⟩
 ·rcases AF2 (blk:=⟨ty,cs,o⟩) hb with e | ⟨rfl,e⟩
  ·exact g.heap b blk e
  ·exact AF3 h (g.heap b _ e)
 ·obtain ⟨x,hx,hr⟩:=GZ h1;obtain ⟨y,hy,e⟩:=hs b x hx;obtain ⟨x',hx'⟩:=lj.1 h2;obtain ⟨y',hy',_⟩:=hs b' x' hx';exact g.inj b b' B n n' (GJ hy (by rw [e];exact hr)) (by rw [hy'];rfl) h3 h4
theorem dM {P:Program} {f:FuncId} {β0:Env} {w0:World} {R:Ending→World→Prop} {n:Nat} {W:List Nat} {todo:List Item} {T:List AV} {H0:Heap} {k:Nat} {ty:TypeId} {cs cs':List Ch} {o:Bool} {fr:Nat} {p:List Bool} (h:∀ β l,AQ β cs l→AQ β cs' l)
  (hs:gn P f β0 w0 R n W ⟨todo,⟨T,H0++[(k,some ⟨ty,cs',o⟩)],fr,p⟩⟩):gn P f β0 w0 R n W ⟨todo,⟨T,H0++[(k,some ⟨ty,cs,o⟩)],fr,p⟩⟩ :=
 fun β a w hi hf=>hs β a w { hi with good:=AU5 h hi.good } hf
noncomputable def AU6:List Item:=CB (AY dm (AH SG3 KG) (some 0) 500 1 none (Aj f43 [AR 0 0 0 0,By 0 0 false] (BG []) 1 dz))
noncomputable def gmT (gu n m:Nat) (i:Int):List AV:=.val false [.sl 0 gu n m]::.any::.any::.val false [.p 1 0]::.val false [.p 2 0]::.val false [.n .i64 0]::.val false [.p 3 0]::.val false [.v (.int .i64 i)]::List.replicate (f43.ntmps-8) .any
noncomputable def gmH (xs:dn) (P:Pt FP):Heap:=[(0,some (Ak [.seq .u64 xs])),(1,some ⟨42,[.num 6 (EF P),.num 6 (CM P),.v (.bool (Aq P))],false⟩),(2,some ⟨42,G2 false,false⟩)]
noncomputable def N_ (gu n m:Nat) (xs:dn) (P:Pt FP) (out:List Ch) (i:Int) (gv:List Bool):gq:=⟨AU6,⟨gmT gu n m i,List.append (gmH xs P) [(3,some ⟨119,out,false⟩)],4,gv⟩⟩
def jC (j:J FP):List Ch:=[.num 6 j.x.val,.num 6 j.y.val,.num 6 j.z.val]
def dN:List Ch:=[.n .u64 0,.n .u64 0,.n .u64 0,.n .u64 0,.n .u64 0,.n .u64 0,.n .u64 0,.n .u64 0,.n .u64 0,.n .u64 0,.n .u64 0,.n .u64 0,.n .u64 0,.n .u64 0,.n .u64 0,.n .u64 0,.n .u64 0,.n .u64 0]
def HP (j:J FP):J FP:=B9 j.x.val j.y.val j.z.val
theorem X7 (j:J FP):HP j=j:=by
 unfold HP B9;rw [CL,CL,CL]
noncomputable def dO (j:J FP) (P:Pt FP):J FP:=F9 (HP (B0 (HP j))) (tf (EF P)) (tf (CM P))
def Mu (x y:Nat) (i:Bool) (gu n m:Nat):List AV:=[AR 0 gu n m,By x y i]
def dQ (P:Pt FP):Pt FP:=An (EF P) (CM P) (Aq P)
theorem AU9 (x y:Nat) (i:Bool) (gu n m:Nat) (xs:dn):AY dm (AH SG3 KG) (some 0) 500 1 (some ([0,3,4,5,6,7],[0,1,2,3],4)) (Aj f43 (Mu x y i gu n m) (BG xs) 1 dz) =
 some ([(!BE (dQ (An x y i)),false),(Aq (An x y i),false),(AL .i64 n,true)],[],N_ gu n m xs (An x y i) dN (wI (wI (64*(n:Int))-1)) []):=dj
def Mv (Q:Pt FP) (e:Int):AV:=.tup [(true,[.num 6 (EF Q),.num 6 (CM Q),.v (.bool (Aq Q))]),(false,[.v (.int .i64 e)])]
def X8 (Q:Pt FP) (e:Int):AV:=.tup [(true,[.num 6 (EF Q),.num 6 (CM Q),.v (.bool (Aq Q))]),(false,[.n .i64 e])]
theorem AU_ (x y:Nat) (i:Bool) (gu n m:Nat) (xs:dn):AT dm (AH SG3 KG) f43 500 1 [] (Aj f43 (Mu x y i gu n m) (BG xs) 1 du) =
 some ([(!BE (dQ (An x y i)),true)],[],.tup [(true,G2 false),(false,[.n .i64 120])],[]):=dj
theorem AU' (x y:Nat) (i:Bool) (gu n m:Nat) (xs:dn):AT dm (AH SG3 KG) f43 500 1 [] (Aj f43 (Mu x y i gu n m) (BG xs) 1 dx) =
 some ([(!BE (dQ (An x y i)),false),(Aq (An x y i),true)],[],X8 (An x y i) 0,[]):=dj
def Uy (gu n:Nat) (xs:dn) (i:Int) (bit:Bool) (r:dp):dp:=(decide (0≤i),true)::(true,true)::(decide (0≤wI (Int.tdiv i 64)∧wI (Int.tdiv i 64)<n),true) ::
 (decide (gu+(wI (Int.tdiv i 64)).toNat*1<xs.length),true)::(decide (0≤i∧(0:Int)<64),true)::(decide (0≤Int.tmod i 64∧0≤CY xs gu i),true)::(decide (JG (CY xs gu i) (Int.tmod i 64)=0),bit)::r
section
variable (gu n m:Nat) (xs:dn) (P:Pt FP) (j:J FP) (i:Int)
theorem AVA:AY dm (AH SG3 KG) (some 0) 500 1 (some ([0,3,4,5,6,7],[0,1,2,3],4)) (N_ gu n m xs P (jC j) i dw) =
 some (Uy gu n xs i true [],[],N_ gu n m xs P (jC (B0 (HP j))) (wI (i-1)) []):=dj
theorem AVB:AY dm (AH SG3 KG) (some 0) 500 1 (some ([0,3,4,5,6,7],[0,1,2,3],4)) (N_ gu n m xs P (jC j) i d_) =
 some (Uy gu n xs i false [(decide ((B0 (HP j)).z.val<pN),true),(decide (EF P<pN),true),(decide (CM P<pN),true)],[],N_ gu n m xs P (jC (dO j P)) (wI (i-1)) []):=dj
theorem AVC:AT dm (AH SG3 KG) f43 500 1 [] (N_ gu n m xs P (jC j) i dt) =
 some ([(decide (0≤i),false),(decide (j.z.val<pN),true)],[],X8 (CI (HP j)) 0,[]):=dj
end
theorem uR (gu n m:Nat) (xs:dn) (P:Pt FP) (j:J FP) (i:Int) (p:List Bool):Be f43.ntmps (N_ gu n m xs P (jC j) i p).s:=AS dj
theorem AF4 (β:Env) (l:List Value) (h:AQ β dN l):AQ β (jC ⟨0,0,0⟩) l:=by
 have h3:Ru dN=some (0,0,0):=dj
 obtain ⟨l',q,e⟩:=Uv (β':=β) (u:=.agg ⟨l⟩) h3 ⟨l,h,rfl⟩
 injection e with e;injection e with e;subst e;exact q
def J_ (P:Pt FP) (E c:Nat) (j:J FP):Prop:=CI j=smul (E / 2^c) P
section
variable {gu n m:Nat} {xs:dn} (g_:∀ d∈xs,0≤d∧d<18446744073709551616) (gx:gu+n≤xs.length) (hn:n≤1125899906842624) {P:Pt FP} (hP:Rg.On C1.b P) (hI:Aq P=false) {β0:Env} {w0:World} (hb:∀ b,1≤b→β0 b=none)
include g_ gx hn hb hP hI
theorem AVD:∀ (c:Nat) (j:J FP),J_ P (AK (AA xs gu n)) c j→c≤64*n→gn dm 43 β0 w0 (A_ β0 w0 [] (X8 (smul (AK (AA xs gu n)) P) 0) []) f43.ntmps [] (N_ gu n m xs P (jC j) ((c:Int)-1) []):=by
 intro c;induction c with
 | zero =>
  intro j hj _;have h:gn dm 43 β0 w0 (A_ β0 w0 [] (X8 (CI (HP j)) 0) []) f43.ntmps [] (N_ gu n m xs P (jC j) (((0:Nat):Int)-1) dt) :=
   Ay (AJ Rv Dx) AB func43 (AVC ..) ⟨rfl,jc j.z.isLt,trivial⟩ (uR ..) hb jb
  unfold J_ at hj;rw [X7,hj,kf,ko] at h;exact Af dt h
 | succ c ih =>
  intro j hj hc;have hi:((c+1:Nat):Int)-1=(c:Int):=dk
  rw [hi];have ik:∀ d∈AA xs gu n,0≤d∧d<18446744073709551616:=DM g_
  have hq:Int.tdiv (c:Int) 64=((c / 64:Nat):Int):=by rw [pv dk];rfl
  have hr:Int.tmod (c:Int) 64=((c % 64:Nat):Int):=by rw [oe dk];rfl
  have hw:wI (Int.tdiv (c:Int) 64)=((c / 64:Nat):Int):=by rw [hq];exact Au dk
  have hjn:c / 64<n:=dk
  have hv:CY xs gu c=(AA xs gu n).getD (c / 64) 0:=by
   unfold CY;rw [hw,jn,kb];exact (JI hjn).symm
  have hvb:0≤CY xs gu c∧CY xs gu c<18446744073709551616:=by
   rw [hv,j_];cases h:(AA xs gu n)[c / 64]? with
   | none=>simp
   | some d=>exact ik d (ol h)
  have hbit:JG (CY xs gu c) (Int.tmod c 64)=((AK (AA xs gu n) / 2^c % 2:Nat):Int):=by
   obtain ⟨V,hV⟩:=ki hvb.1;rw [hr,← XP _ c ik,← hv,hV,jn];exact XN V _ dk dk
  have ij:wI ((c:Int)-1)=(c:Int)-1:=Au dk
  have ib:∀ bit r,decide (JG (CY xs gu c) (Int.tmod c 64)=0)=bit→AO r→AO (Uy gu n xs c bit r):=by
   intro bit r hbt hr';refine ⟨by simp,rfl,?_,?_,?_,?_,hbt,hr'⟩
   ·rw [hw];simp;omega
   ·rw [hw];simp;omega
   ·simp
   ·simp only [ji];rw [hr];exact ⟨dk,hvb.1⟩
  have hdiv:AK (AA xs gu n) / 2^c=2*(AK (AA xs gu n) / 2^(c+1))+AK (AA xs gu n) / 2^c % 2:=by
   rw [kt,← kw];omega
  unfold J_ at hj;have hoj:Rg.On C1.b (CI j):=by rw [hj];exact CH C1 hP _
  have htw:CI (B0 (HP j))=smul (2*(AK (AA xs gu n) / 2^(c+1))) P:=by
   rw [X7,Rs C1 hoj,hj,← JQ C1 hP,qf]
  rcases nf (AK (AA xs gu n) / 2^c) with h0 | h1
  ·refine Af dw (Ai (AJ Rv Dx) AB (AVA ..) (ib true [] (by rw [hbit,h0];rfl) trivial) (uR ..) hb jb fun _=>?_)
   rw [ij];refine ih _ ?_ dk
   unfold J_;rw [htw,hdiv,h0];rfl
  ·refine Af d_ (Ai (AJ Rv Dx) AB (AVB ..) (ib false _ (by rw [hbit,h1];rfl) ⟨jc (B0 (HP j)).z.isLt,jc (X5 P),jc (dI P),trivial⟩) (uR ..) hb jb fun _=>?_)
   rw [ij];refine ih _ ?_ dk
   unfold J_ dO;rw [X7 (B0 (HP j)),Uq C1 (by rw [htw];exact CH C1 hP _),htw,hdiv,h1]
   cases P with
   | inf=>cases hI
   | pt a b =>
    show add _ (.pt (tf a.val) (tf b.val))=_;rw [CL,CL];rfl
end
noncomputable def HQ (N:Nat) (P:Pt FP):Pt FP:=if BE P=true then smul N P else .pt 0 0
noncomputable def HR (P:Pt FP):Int:=if BE P=true then 0 else 120
theorem AVE (P:Pt FP):dQ P=P:=Uu P
theorem AF5 {β:Env} {Q:Pt FP} {e:Int} {u:Value} (h:AN β (X8 Q e) u):AN β (Mv Q e) u:=C7 (fun _ q=>q) (fun _ q=>EX rfl q) h
theorem AVF {gu n m:Nat} {xs:dn} (g_:∀ d∈xs,0≤d∧d<18446744073709551616) (gx:gu+n≤xs.length) (hn:n≤1125899906842624) (x y:Nat) (i:Bool) :
  Ab dm 43 (Mu x y i gu n m) (BG xs) 1 [] (Mv (HQ (AK (AA xs gu n)) (An x y i)) (HR (An x y i))) []:=by
 have e1:=AU9 x y i gu n m xs;have e2:=AU_ x y i gu n m xs;have e3:=AU' x y i gu n m xs;rw [AVE] at e1 e2 e3;generalize An x y i=P at *
 cases ho:BE P with
 | false =>
  unfold HQ HR;rw [jd (by rw [ho];exact jq),jd (by rw [ho];exact jq)]
  refine BL (A7 (gv:=du) func43 dj dj fun β0 w0 hb =>
   Ay (AJ Rv Dx) AB func43 e2 ⟨by rw [ho];rfl,trivial⟩ (AS dj) hb jb) fun β u hu=>?_
  exact C7 (fun _ q=>(H9 (x:=0) (y:=0) (i:=false) dj q).1) (fun _ q=>EX rfl q) hu
 | true =>
  have hP:=(LR P).1 ho
  unfold HQ HR;rw [je ho,je ho];cases hI:Aq P with
  | true =>
   have hp:P=.inf:=by cases P with | inf=>rfl | pt a b=>cases hI
   have hs:smul (AK (AA xs gu n)) P=P:=by rw [hp,HM]
   rw [hs];exact BL (A7 (gv:=dx) func43 dj dj fun β0 w0 hb =>
    Ay (AJ Rv Dx) AB func43 e3 ⟨by rw [ho];rfl,hI,trivial⟩ (AS dj) hb jb) fun β u hu=>AF5 hu
  | false =>
   refine BL (A7 (gv:=dz) func43 dj dj fun β0 w0 hb=>?_) fun β u hu=>AF5 hu
   refine Ai (AJ Rv Dx) AB e1 ⟨by rw [ho];rfl,hI,?_,trivial⟩ (AS dj) hb jb fun _=>?_
   ·simp only [AL,jm,ji];omega
   ·have e4:wI (wI (64*(n:Int))-1)=((64*n:Nat):Int)-1:=by
     rw [Au (z:=64*(n:Int)) dk,Au dk];omega
    rw [e4];refine dM AF4 (AVD g_ gx hn hP hI hb (64*n) ⟨0,0,0⟩ ?_ (jj _))
    unfold J_;have hl:=JH (AA xs gu n) (DM g_)
    have hl2:AK (AA xs gu n)<2^(64*n):=by
     unfold AA at hl ⊢
     rwa [ke,kv,mc dk] at hl
    rw [G1 rfl,lm hl2];rfl
def dR (g:dn→Pt FP→AV):ASpec:=fun args H fr gv =>
 match args with
 | [S,.val true a]=>match DZ S with
  | some (k,gu,n)=>match Ut a,AG H k with
   | some (x,y,i),some ⟨_,cs,_⟩=>match A8 .u64 cs with
    | some xs=>some (BR [k] 1 fr 0 [] (g (AA xs gu n) (An x y i)) [] [(Nat.ble (gu+n) xs.length,true),(Nat.ble n 1125899906842624,true)] gv)
    | none=>none
   | _,_=>none
  | none=>none
 | _=>none
theorem AF6 {f:FuncId} {fn:Func} {g:dn→Pt FP→AV} (ip:dm.funcs[f]? = some fn) (hb:fn.body.isSome=true) (h_:fo fn) (hk:∀ l P,EU 1 0 [] (g l P) []=true)
  (h:∀ (gu n m:Nat) (xs:dn) (x y:Nat) (i:Bool),(∀ d∈xs,0≤d∧d<18446744073709551616)→gu+n≤xs.length→n≤1125899906842624→Ab dm f (Mu x y i gu n m) (BG xs) 1 [] (g (AA xs gu n) (An x y i)) []):BJ dm f (dR g):=by
 refine Da ip hb h_ fun args H fr gv r hs=>?_
 unfold dR at hs;split at hs;case h_2=>cases hs
 rename_i S a;split at hs;case h_2=>cases hs
 rename_i k gu n hS;split at hs;case h_2=>cases hs
 rename_i x y i ty cs o hx hk';split at hs;case h_2=>cases hs
 rename_i xs iy;injection hs with hs;refine ⟨[k],1,0,[],_,_,_,gv,hs.symm,fun β us w ha hg hc=>?_⟩
 obtain ⟨u1,iu,r1,⟨u2,iw,r2,ha,rfl⟩,rfl⟩:=ha;obtain ⟨m,r1⟩:=FE hS r1;obtain ⟨g1,g2,g3⟩:=Ml hg hk' iy;exact ⟨Mu x y i gu n m,BG xs,h gu n m xs x y i g1 (jf hc.1) (jf hc.2.1),hk _ _,⟨u1,_,Cp dk rfl r1,⟨u2,iw,(H9 hx r2).1,ha,rfl⟩,rfl⟩,g2,g3⟩
noncomputable def SG4:dr:=(43,D9 (dR fun l P=>Mv (HQ (AK l) P) (HR P)))::SG3
theorem Uz:AW dm SG4:=⟨EV (AF6 func43 dj dj (fun _ _=>by kernel_rfl) fun _ _ _ _ x y i hx hl hn=>AVF hx hl hn x y i),Rv⟩
def uU:List AV→Option AV
 | [.val false [.n .u64 i]]=>some (.val true [.n .u64 i,.n .u64 0,.n .u64 0,.n .u64 0,.n .u64 0,.n .u64 0])
 | _=>none
theorem AVG (i:Int):AM dm (AH SG4 KG) f160 [.val false [.n .u64 i]] [] 100=some ([],.val true [.n .u64 i,.n .u64 0,.n .u64 0,.n .u64 0,.n .u64 0,.n .u64 0]):=dj
theorem AVH:∀ args v,uU args=some v→AU dm 160 args v:=by
 intro args v hs;unfold uU at hs;split at hs;case h_2=>cases hs
 rename_i i;injection hs with hs;subst hs;exact AP (AJ Uz Dx) AB func160 (AVG i) trivial rfl
theorem AVI:AM dm (AH SG4 KG) f149 [] [] 100=some ([],.val true [.n .u64 4,.n .u64 0,.n .u64 0,.n .u64 0,.n .u64 0,.n .u64 0]):=dj
theorem AVJ:AU dm 149 [] (Aa 4):=C3 (AP (AJ Uz Dx) AB func149 AVI trivial rfl) fun u hu=>XL dj hu
theorem AVK:AM dm (AH SG4 KG) f58 [] [] 100=some ([],.val true gC):=dj
theorem AVL:AU dm 58 [] (HO G1B):=by
 rw [← AFu];exact N7 (AP (AJ Uz Dx) AB func58 AVK trivial rfl) dj
theorem AVM (x y:Nat) (i:Bool):AM dm (AH SG4 KG) f81 [By x y i] du 300=some ([(i,true)],.val true (G2 true)):=dj
theorem AVN (x y:Nat) (i:Bool):AM dm (AH SG4 KG) f81 [By x y i] dt 300=some ([(i,false)],.val true [.num 6 (x % pN),.num 6 (y % pN),.b false]):=dj
theorem AVO (x y:Nat) (i:Bool):AU dm 81 [By x y i] (HO (An x y i)):=by
 cases i with
 | true=>exact N7 (AP (AJ Uz Dx) AB func81 (AVM x y true) ⟨rfl,trivial⟩ rfl) dj
 | false=>exact N7 (AP (AJ Uz Dx) AB func81 (AVN x y false) ⟨rfl,trivial⟩ rfl) dj
noncomputable def SR0:dr:=(160,Ac uU)::(149,Ac fun args=>match args with | []=>some (Aa 4) | _=>none)::(58,Ac fun args=>match args with | []=>some (HO G1B) | _=>none)::(81,Ac (N8 HO))::SG4
theorem uW:AW dm SR0:=⟨Ad func160 dj dj AVH,Ad func149 dj dj (RS AVJ fun u h=>h),Ad func58 dj dj (RS AVL fun u h=>h),Ad func81 dj dj (Rt AVO),Uz⟩
theorem AVP (x y:Nat) (i:Bool):AM dm (AH SR0 KG) f71 [By x y i] du 300=some ([(i,true)],.val false [.b true]):=dj
theorem AVQ (x y:Nat) (i:Bool):AM dm (AH SR0 KG) f71 [By x y i] dt 300=some ([(i,false)],Av (decide (Ah y y=EP (Ah (Ah x x) x) 4))):=dj
theorem AVR (x y:Nat) (i:Bool):AU dm 71 [By x y i] (Av (BE (An x y i))):=by
 cases i with
 | true=>exact C3 (AP (AJ uW Dx) AB func71 (AVP x y true) ⟨rfl,trivial⟩ rfl) fun u hu=>JK rfl hu
 | false=>rw [← uN];exact AP (AJ uW Dx) AB func71 (AVQ x y false) ⟨rfl,trivial⟩ rfl
noncomputable def SR1:dr:=(71,Ac (N8 fun P=>Av (BE P)))::SR0
theorem AF7:AW dm SR1:=⟨Ad func71 dj dj (Rt AVR),uW⟩
theorem uZ:tf 2=1+1:=by rw [← EB,← Gz]
theorem AF8:tf 3=1+1+1:=by rw [← EB,← Gz,← Gz]
theorem u5:tf 4=1+1+(1+1):=by rw [← uZ,← Gz]
theorem AF9:tf 8=1+1+(1+1)+(1+1+(1+1)):=by rw [← u5,← Gz]
def sD (x y:Nat):Nat:=Ah 4 (Ah x (Ah y y))
def sE (x:Nat):Nat:=Ah 3 (Ah x x)
def sX (x y:Nat):Nat:=Es (Ah (sE x) (sE x)) (EP (sD x y) (sD x y))
def sY (x y:Nat):Nat:=Es (Ah (sE x) (Es (sD x y) (sX x y))) (Ah 8 (Ah (Ah y y) (Ah y y)))
theorem AVS (x y z:Nat):AM dm (AH SR1 KG) f210 [D5 x y z] [] 500=some ([],D5 (sX x y) (sY x y) (Ah 2 (Ah y z))):=dj
theorem AF_ (x y:Nat):tf (sD x y)=jD (tf x) (tf y):=by unfold sD jD;rw [CZ,CZ,CZ,u5];grind
theorem AF' (x:Nat):tf (sE x)=jE (tf x):=by unfold sE jE;rw [CZ,CZ,AF8];grind
theorem AGA (x y:Nat):tf (sX x y)=jX (tf x) (tf y):=by unfold sX jX;rw [Hz,CZ,J4,AF_,AF']
theorem AVT (y:Nat):tf (Ah 8 (Ah (Ah y y) (Ah y y)))=Uo (tf y):=by unfold Uo dH jC2;rw [CZ,CZ,CZ,AF9];grind
theorem AVU (x y z:Nat):AU dm 210 [D5 x y z] (J9 (B0 (B9 x y z))):=by
 rw [← Pu (j:=B0 (B9 x y z)) (x:=sX x y) (y:=sY x y) (z:=Ah 2 (Ah y z)) (H3 _ _) (H3 _ _) (Mm _ _) (AGA x y) (by unfold sY;rw [Hz,CZ,Hz,AGA,AF_,AF',AVT];rfl)
  (by rw [CZ,CZ,uZ];show _=tf y*tf z+tf y*tf z;grind)]
 exact AP (AJ AF7 Dx) AB func210 (AVS x y z) trivial rfl
noncomputable def SR2:dr:=(210,Ac (dK fun j=>J9 (B0 j)))::SR1
theorem X9:AW dm SR2:=⟨Ad func210 dj dj (AFz AVU),AF7⟩
section
variable (x y z a b:Nat) (i:Bool)
theorem AVV:AM dm (AH SR2 KG) f211 [D5 x y z,By a b i] du 500=some ([(decide (z=0),true)],.val true (.num 6 a::.num 6 b::tN)):=dj
theorem AVW:AM dm (AH SR2 KG) f211 [D5 x y z,By a b i] e_ 500=some ([(decide (z=0),false),(decide (nH x z a=0),true),(decide (nR y z b=0),true)],J9 (B0 (B9 x y z))):=dj
theorem AVX:AM dm (AH SR2 KG) f211 [D5 x y z,By a b i] fh 500=some ([(decide (z=0),false),(decide (nH x z a=0),true),(decide (nR y z b=0),false)],.val true (List.replicate 18 (.n .u64 0))):=dj
theorem AVY:AM dm (AH SR2 KG) f211 [D5 x y z,By a b i] dz 500=some ([(decide (z=0),false),(decide (nH x z a=0),false)],D5 (N9 x (nH x z a) (nR y z b)) (Uw x y (nH x z a) (nR y z b)) (Ah z (nH x z a))):=dj
end
theorem AVZ {x y z a b:Nat} {i:Bool} (hz:z<pN) (ha:a<pN) (hb:b<pN):AU dm 211 [D5 x y z,By a b i] (J9 (F9 (B9 x y z) (tf a) (tf b))):=by
 have eh:=AF0 x y z a;have er:=AF1 x y z b;have zh:=Mt (n:=nH x z a) (H3 _ _)
 have zr:=Mt (n:=nR y z b) (H3 _ _)
 rw [eh] at zh;rw [er] at zr;unfold F9;by_cases h0:z=0
 ·rw [je (show (B9 x y z).z=0 from (Mt hz).1 h0),← Pu (j:=⟨tf a,tf b,1⟩) ha hb (show 1<pN by decide) rfl rfl EB]
  exact dL (AP (AJ X9 Dx) AB func211 (AVV x y z a b i) ⟨jc h0,trivial⟩ rfl) rfl
 ·rw [jd (show ¬ (B9 x y z).z=0 from fun e=>h0 ((Mt hz).2 e))]
  by_cases hh:nH x z a=0
  ·rw [je (zh.1 hh)];by_cases hr:nR y z b=0
   ·rw [je (zr.1 hr)];exact AP (AJ X9 Dx) AB func211 (AVW x y z a b i) ⟨jg h0,jc hh,jc hr,trivial⟩ rfl
   ·rw [jd (fun e=>hr (zr.2 e)),← Pu (j:=⟨0,0,0⟩) DB DB DB tf_zero tf_zero tf_zero]
    exact dL (AP (AJ X9 Dx) AB func211 (AVX x y z a b i) ⟨jg h0,jc hh,jg hr,trivial⟩ rfl) dj
  ·rw [jd (fun e=>hh (zh.2 e)),← Pu (j:=⟨pX (B9 x y z).x (pH (B9 x y z) (tf a)) (pR (B9 x y z) (tf b)),pY (B9 x y z).x (B9 x y z).y (pH (B9 x y z) (tf a)) (pR (B9 x y z) (tf b)),(B9 x y z).z*pH (B9 x y z) (tf a)⟩)
    (x:=N9 x (nH x z a) (nR y z b)) (y:=Uw x y (nH x z a) (nR y z b)) (z:=Ah z (nH x z a)) (H3 _ _) (H3 _ _) (Mm _ _) ?_ ?_ ?_]
   ·exact AP (AJ X9 Dx) AB func211 (AVY x y z a b i) ⟨jg h0,jg hh,trivial⟩ rfl
   ·unfold N9 pX;simp only [Hz,CZ,J4,eh,er];rfl
   ·unfold Uw N9 pY pX;simp only [Hz,CZ,J4,eh,er];rfl
   ·rw [CZ,eh];rfl
theorem AVa {f:FuncId} (h:∀ (x y z a b:Nat) (i:Bool),z<pN→a<pN→b<pN→AU dm f [D5 x y z,By a b i] (J9 (F9 (B9 x y z) (tf a) (tf b)))):∀ args c v,Ux args=some (c,v)→AO c→AU dm f args v:=by
 intro args c v hs hc us w ha;unfold Ux at hs;split at hs;case h_2=>cases hs
 rename_i a b;split at hs;case h_2=>cases hs
 rename_i x y z p q i hx hy;injection hs with hs;injection hs with h1 h2;subst h1;subst h2;obtain ⟨u1,iu,r1,⟨u2,iw,r2,ha,rfl⟩,rfl⟩:=ha;exact h x y z p q i (jx hc.1) (jx hc.2.1) (jx hc.2.2.1) _ w ⟨u1,_,Uv hx r1,⟨u2,_,(H9 hy r2).1,ha,rfl⟩,rfl⟩
noncomputable def SR3:dr:=(211,FY Ux)::SR2
theorem Px:AW dm SR3:=⟨GS func211 dj dj (AVa fun _ _ _ _ _ _=>AVZ),X9⟩
noncomputable def SN:dr:=SR3
theorem AVb:AW dm SN:=Px
def AVc:List AV→Option AV
 | []=>some (.val false [.b true])
 | _=>none
noncomputable def SA12:dr:=SN
theorem AVd:AW dm SA12:=AVb
noncomputable def AVe:List Item:=CB (AY dm (AH SR3 KG) (some 0) 500 1 none (Aj f150 [AR 0 0 0 0,By 0 0 false] (BG []) 1 dz))
noncomputable def qmT (gu n m:Nat) (i:Int):List AV:=.val false [.sl 0 gu n m]::.any::.any::.val false [.p 1 0]::.val false [.p 2 0]::.val false [.n .i64 0]::.any::.val false [.p 3 0]::.val false [.p 4 0]::.val false [.v (.int .i64 i)]::List.replicate (f150.ntmps-10) .any
noncomputable def qmH (xs:dn) (x y:Nat) (b:Bool) (P:Pt FP):Heap:=[(0,some (Ak [.seq .u64 xs])),(1,some ⟨42,[.num 6 x,.num 6 y,.v (.bool b)],false⟩),(2,some ⟨42,G2 false,false⟩),(3,some ⟨42,[.num 6 (EF P),.num 6 (CM P),.v (.bool (Aq P))],false⟩)]
noncomputable def OA (x y:Nat) (b:Bool) (gu n m:Nat) (xs:dn) (P:Pt FP) (out:List Ch) (i:Int) (gv:List Bool):gq:=⟨AVe,⟨qmT gu n m i,List.append (qmH xs x y b P) [(4,some ⟨192,out,false⟩)],5,gv⟩⟩
theorem AVh (x y:Nat) (i:Bool) (gu n m:Nat) (xs:dn):AY dm (AH SR3 KG) (some 0) 500 1 (some ([0,3,4,5,7,8,9],[0,1,2,3,4],5)) (Aj f150 (Mu x y i gu n m) (BG xs) 1 dz) =
 some ([(!BE (An x y i),false),(i,false),(AL .i64 n,true)],[],OA x y i gu n m xs (An x y i) dN (wI (wI (64*(n:Int))-1)) []):=dj
theorem AVi (x y:Nat) (i:Bool) (gu n m:Nat) (xs:dn):AT dm (AH SR3 KG) f150 500 1 [] (Aj f150 (Mu x y i gu n m) (BG xs) 1 du) =
 some ([(!BE (An x y i),true)],[],.tup [(true,G2 false),(false,[.n .i64 120])],[]):=dj
theorem AVj (x y:Nat) (i:Bool) (gu n m:Nat) (xs:dn):AT dm (AH SR3 KG) f150 500 1 [] (Aj f150 (Mu x y i gu n m) (BG xs) 1 dx) =
 some ([(!BE (An x y i),false),(i,true)],[],.tup [(true,G2 true),(false,[.n .i64 0])],[]):=dj
def U0 (gu n:Nat) (xs:dn) (i:Int) (bit:Bool) (r:dp):dp:=(decide (0≤i),true)::(true,true)::(decide (0≤wI (Int.tdiv i 64)∧wI (Int.tdiv i 64)<n),true) ::
 (decide (gu+(wI (Int.tdiv i 64)).toNat*1<xs.length),true)::(decide (0≤i∧(0:Int)<64),true)::(decide (0≤AX false .u64 (Int.tmod i 64)∧0≤CY xs gu i),true)::(decide (LN xs gu i=1),bit)::r
section
variable (x y:Nat) (b:Bool) (gu n m:Nat) (xs:dn) (P:Pt FP) (j:J FP) (i:Int)
theorem AVk:AY dm (AH SR3 KG) (some 0) 500 1 (some ([0,3,4,5,7,8,9],[0,1,2,3,4],5)) (OA x y b gu n m xs P (jC j) i d_) =
 some (U0 gu n xs i false [],[],OA x y b gu n m xs P (jC (B0 (HP j))) (wI (i-1)) []):=dj
theorem AVl:AY dm (AH SR3 KG) (some 0) 500 1 (some ([0,3,4,5,7,8,9],[0,1,2,3,4],5)) (OA x y b gu n m xs P (jC j) i dw) =
 some (U0 gu n xs i true [(decide ((B0 (HP j)).z.val<pN),true),(decide (EF P<pN),true),(decide (CM P<pN),true)],[],OA x y b gu n m xs P (jC (dO j P)) (wI (i-1)) []):=dj
theorem AVm:AT dm (AH SR3 KG) f150 500 1 [] (OA x y b gu n m xs P (jC j) i dx) =
 some ([(decide (0≤i),false),(decide (j.z.val=0),true)],[],.tup [(true,G2 true),(false,[.n .i64 0])],[]):=dj
theorem AVn:AT dm (AH SR3 KG) f150 500 1 [] (OA x y b gu n m xs P (jC j) i dz) =
 some ([(decide (0≤i),false),(decide (j.z.val=0),false)],[],.tup [(true,[.num 6 (Ah j.x.val (Ah (Bz j.z.val) (Bz j.z.val))),.num 6 (Ah j.y.val (Ah (Ah (Bz j.z.val) (Bz j.z.val)) (Bz j.z.val))),.b false]),(false,[.n .i64 0])],[]):=dj
end
theorem dS (x y:Nat) (b:Bool) (gu n m:Nat) (xs:dn) (P:Pt FP) (j:J FP) (i:Int) (p:List Bool):Be f150.ntmps (OA x y b gu n m xs P (jC j) i p).s:=AS dj
def u6 (Q:Pt FP):AV:=match Q with
 | .inf=>.tup [(true,G2 true),(false,[.n .i64 0])]
 | .pt a b=>.tup [(true,[.num 6 a.val,.num 6 b.val,.b false]),(false,[.n .i64 0])]
section
variable {gu n m:Nat} {xs:dn} (g_:∀ d∈xs,0≤d∧d<18446744073709551616) (gx:gu+n≤xs.length) (hn:n≤1125899906842624) {x y:Nat} {b:Bool} {P:Pt FP} (hP:Rg.On C1.b P) (hI:Aq P=false) {β0:Env} {w0:World} (hb:∀ b,1≤b→β0 b=none)
include g_ gx hn hb hP hI
theorem AVo:∀ (c:Nat) (j:J FP),J_ P (AK (AA xs gu n)) c j→c≤64*n→gn dm 150 β0 w0 (A_ β0 w0 [] (u6 (smul (AK (AA xs gu n)) P)) []) f150.ntmps [] (OA x y b gu n m xs P (jC j) ((c:Int)-1) []):=by
 intro c;induction c with
 | zero =>
  intro j hj _;unfold J_ at hj;rw [kf,ko] at hj;rw [← hj];by_cases h0:j.z.val=0
  ·have hz:j.z=0:=X6.1 h0
   rw [G1 hz];exact Af dx (Ay (AJ Px Dx) AB func150 (AVm ..) ⟨rfl,jc h0,trivial⟩ (dS ..) hb jb)
  ·have hz:j.z≠0:=fun e=>h0 (X6.2 e)
   rw [Ig hz];have e:u6 (.pt (j.x*(FD.inv j.z*FD.inv j.z)) (j.y*((FD.inv j.z*FD.inv j.z)*FD.inv j.z)))=.tup [(true,[.num 6 (Ah j.x.val (Ah (Bz j.z.val) (Bz j.z.val))),.num 6 (Ah j.y.val (Ah (Ah (Bz j.z.val) (Bz j.z.val)) (Bz j.z.val))),.b false]),(false,[.n .i64 0])]:=by
    have ei:tf (Bz j.z.val)=FD.inv j.z:=by rw [AFv j.z.isLt,CL];rfl
    have e1:Ah j.x.val (Ah (Bz j.z.val) (Bz j.z.val))=(j.x*(FD.inv j.z*FD.inv j.z):FP).val:=Ny (Mm _ _) (Fin.isLt _) (by rw [CZ,CZ,ei,CL,CL])
    have e2:Ah j.y.val (Ah (Ah (Bz j.z.val) (Bz j.z.val)) (Bz j.z.val))=(j.y*((FD.inv j.z*FD.inv j.z)*FD.inv j.z):FP).val:=Ny (Mm _ _) (Fin.isLt _) (by rw [CZ,CZ,CZ,ei,CL,CL])
    rw [e1,e2];rfl
   rw [e];exact Af dz (Ay (AJ Px Dx) AB func150 (AVn ..) ⟨rfl,jg h0,trivial⟩ (dS ..) hb jb)
 | succ c ih =>
  intro j hj hc;have hi:((c+1:Nat):Int)-1=(c:Int):=dk
  rw [hi];have ik:∀ d∈AA xs gu n,0≤d∧d<18446744073709551616:=DM g_
  have hq:Int.tdiv (c:Int) 64=((c / 64:Nat):Int):=by rw [pv dk];rfl
  have hr:Int.tmod (c:Int) 64=((c % 64:Nat):Int):=by rw [oe dk];rfl
  have hw:wI (Int.tdiv (c:Int) 64)=((c / 64:Nat):Int):=by rw [hq];exact Au dk
  have hjn:c / 64<n:=dk
  have hv:CY xs gu c=(AA xs gu n).getD (c / 64) 0:=by
   unfold CY;rw [hw,jn,kb];exact (JI hjn).symm
  have hvb:0≤CY xs gu c∧CY xs gu c<18446744073709551616:=by
   rw [hv,j_];cases h:(AA xs gu n)[c / 64]? with
   | none=>simp
   | some d=>exact ik d (ol h)
  obtain ⟨hq1,hq2⟩:=Xp xs gu c;have hbit:LN xs gu c=((AK (AA xs gu n) / 2^c % 2:Nat):Int):=by
   rw [hq1];obtain ⟨V,hV⟩:=ki hvb.1;rw [hr,← XP _ c ik,← hv,hV,jn];exact XN V _ dk dk
  have ij:wI ((c:Int)-1)=(c:Int)-1:=Au dk
  have ib:∀ bit r,decide (LN xs gu c=1)=bit→AO r→AO (U0 gu n xs c bit r):=by
   intro bit r hbt hr';refine ⟨by simp,rfl,?_,?_,?_,?_,hbt,hr'⟩
   ·rw [hw];simp;omega
   ·rw [hw];simp;omega
   ·simp
   ·simp only [ji];rw [hq2,hr];exact ⟨dk,hvb.1⟩
  have hdiv:AK (AA xs gu n) / 2^c=2*(AK (AA xs gu n) / 2^(c+1))+AK (AA xs gu n) / 2^c % 2:=by
   rw [kt,← kw];omega
  unfold J_ at hj;have hoj:Rg.On C1.b (CI j):=by rw [hj];exact CH C1 hP _
  have htw:CI (B0 (HP j))=smul (2*(AK (AA xs gu n) / 2^(c+1))) P:=by
   rw [X7,Rs C1 hoj,hj,← JQ C1 hP,qf]
  rcases nf (AK (AA xs gu n) / 2^c) with h0 | h1
  ·refine Af d_ (Ai (AJ Px Dx) AB (AVk ..) (ib false [] (by rw [hbit,h0];rfl) trivial) (dS ..) hb jb fun _=>?_)
   rw [ij];refine ih _ ?_ dk
   unfold J_;rw [htw,hdiv,h0];rfl
  ·refine Af dw (Ai (AJ Px Dx) AB (AVl ..) (ib true _ (by rw [hbit,h1];rfl) ⟨jc (B0 (HP j)).z.isLt,jc (X5 P),jc (dI P),trivial⟩) (dS ..) hb jb fun _=>?_)
   rw [ij];refine ih _ ?_ dk
   unfold J_ dO;rw [X7 (B0 (HP j)),Uq C1 (by rw [htw];exact CH C1 hP _),htw,hdiv,h1]
   cases P with
   | inf=>cases hI
   | pt a b =>
    show add _ (.pt (tf a.val) (tf b.val))=_;rw [CL,CL];rfl
end
theorem AGB {β:Env} {Q:Pt FP} {u:Value} (h:AN β (u6 Q) u):AN β (Mv Q 0) u:=by
 cases Q with
 | inf=>exact C7 (fun _ q=>(H9 (x:=0) (y:=0) (i:=true) dj q).1) (fun _ q=>EX rfl q) h
 | pt a b=>exact C7 (fun _ q=>(H9 (x:=a.val) (y:=b.val) (i:=false) rfl q).1) (fun _ q=>EX rfl q) h
theorem AVp {gu n m:Nat} {xs:dn} (g_:∀ d∈xs,0≤d∧d<18446744073709551616) (gx:gu+n≤xs.length) (hn:n≤1125899906842624) (x y:Nat) (i:Bool) :
  Ab dm 150 (Mu x y i gu n m) (BG xs) 1 [] (Mv (HQ (AK (AA xs gu n)) (An x y i)) (HR (An x y i))) []:=by
 have e1:=AVh x y i gu n m xs;have e2:=AVi x y i gu n m xs;have e3:=AVj x y i gu n m xs;cases ho:BE (An x y i) with
 | false =>
  unfold HQ HR;rw [jd (by rw [ho];exact jq),jd (by rw [ho];exact jq)]
  refine BL (A7 (gv:=du) func150 dj dj fun β0 w0 hb =>
   Ay (AJ Px Dx) AB func150 e2 ⟨by rw [ho];rfl,trivial⟩ (AS dj) hb jb) fun β u hu=>?_
  exact C7 (fun _ q=>(H9 (x:=0) (y:=0) (i:=false) dj q).1) (fun _ q=>EX rfl q) hu
 | true =>
  have hP:=(LR _).1 ho
  unfold HQ HR;rw [je ho,je ho];cases i with
  | true =>
   rw [show An x y true=.inf from rfl,HM]
   exact BL (A7 (gv:=dx) func150 dj dj fun β0 w0 hb =>
    Ay (AJ Px Dx) AB func150 e3 ⟨by rw [ho];rfl,rfl,trivial⟩ (AS dj) hb jb) fun β u hu=>AGB (Q:=.inf) hu
  | false =>
   refine BL (A7 (gv:=dz) func150 dj dj fun β0 w0 hb=>?_) fun β u hu=>AGB hu
   refine Ai (AJ Px Dx) AB e1 ⟨by rw [ho];rfl,rfl,?_,trivial⟩ (AS dj) hb jb fun _=>?_
   ·simp only [AL,jm,ji];omega
   ·have e4:wI (wI (64*(n:Int))-1)=((64*n:Nat):Int)-1:=by
     rw [Au (z:=64*(n:Int)) dk,Au dk];omega
    rw [e4];refine dM AF4 (AVo g_ gx hn hP rfl hb (64*n) ⟨0,0,0⟩ ?_ (jj _))
    unfold J_;have hl:=JH (AA xs gu n) (DM g_)
    have hl2:AK (AA xs gu n)<2^(64*n):=by
     unfold AA at hl ⊢
     rwa [ke,kv,mc dk] at hl
    rw [G1 rfl,lm hl2];rfl
noncomputable def SR4:dr:=(150,D9 (dR fun l P=>Mv (HQ (AK l) P) (HR P)))::SA12
theorem AVq:AW dm SR4:=⟨EV (AF6 func150 dj dj (fun _ _=>by kernel_rfl) fun _ _ _ _ x y i hx hl hn=>AVp hx hl hn x y i),AVd⟩
open Ex Num
noncomputable abbrev OB:gr:=AH S22 K0
def Rx (ls ms:dn):Heap:=[(0,some ⟨38,[.seq .u64 ls],false⟩),(1,some (Ak [.seq .u64 ms]))]
def dU (n m N M:Nat):List AV:=[.val false [.sl 0 0 N M],.val false [.sl 1 0 n m],.val false [.v (.int .i64 (n:Int))]]
noncomputable def AVr:List Item:=CB (AY dm OB (some 0) 100 2 none (Aj f234 (dU 0 0 0 0) (Rx [] []) 2 []))
noncomputable def tkT (n m N M:Nat):List AV:=.val false [.sl 0 0 N M]::.val false [.sl 1 0 n m]::.val false [.v (.int .i64 n)]::List.replicate (f234.ntmps-3) .any
noncomputable def OC (ls ms:dn) (n m N M:Nat) (p:List Bool):gq:=⟨AVr,⟨tkT n m N M,Rx ls ms,2,p⟩⟩
noncomputable def AGC:List Item:=CB (AY dm OB (some 0) 200 2 none (OC [] [] 0 0 0 0 dw))
noncomputable def X_ (n m N M:Nat) (q b i c:Ch):List AV:=.val false [.sl 0 0 N M]::.val false [.sl 1 0 n m]::.val false [.v (.int .i64 n)]::.any::.any::.any::.val false [q]::.any::.val false [b]::.val false [i]::.val false [c]::List.replicate (f234.ntmps-11) .any
noncomputable def U1 (ls ms:dn) (n m N M:Nat) (q b i c:Int) (p:List Bool):gq:=⟨AGC,⟨X_ n m N M (.v (.int .u64 q)) (.v (.int .u64 b)) (.v (.int .i64 i)) (.v (.int .u64 c)),Rx ls ms,2,p⟩⟩
noncomputable def dV (ls ms:dn) (n m N M:Nat) (q:Ch):gq:=⟨AGC,⟨X_ n m N M q (.n .u64 0) (.n .i64 0) (.n .u64 0),Rx ls ms,2,[]⟩⟩
abbrev kA:Option (List Nat×List Nat×Nat):=some ([0,1,2],[0,1],2)
abbrev kB:Option (List Nat×List Nat×Nat):=some ([0,1,2,6,8,9,10],[0,1],2)
def dW (x:Int):Int:=if 1 > x then 1 else x
def nI (n:Nat):Int:=wI ((n:Int)-1)
def OD (ms:dn) (n:Nat):Int:=ms.getD (0+(nI n).toNat*1) 0
def Py (ls:dn) (n:Nat):Int:=ls.getD (0+(n:Int).toNat*1) 0
def u7 (ls ms:dn) (n:Nat):Int:=(((Py ls n).toNat*C6+(ls.getD (0+(nI n).toNat*1) 0).toNat) / (mW (OD ms n+1)).toNat:Nat)
section
variable (ls ms:dn) (n m N M:Nat) (q b i c:Int)
def X' (d:Bool) (r:dp):dp:=(Nat.ble (0+N) ls.length,true)::(Nat.ble (0+n) ms.length,true)::(AL .i64 N,true)::(AL .i64 n,true)::(decide (0≤Et (AK (AA ls 0 N)) (AK (AA ms 0 n))),d)::r
def dZ (d:Bool) (r:dp):dp:=(decide (0≤nI n∧nI n<n),true)::(decide (0+(nI n).toNat*1<ms.length),true)::(decide (mW (OD ms n+1)=0),d)::(decide (0≤(n:Int)∧(n:Int)<N),true)::(decide (0+(n:Int).toNat*1<ls.length),true)::r
theorem AVt:AY dm OB (some 0) 100 2 kA (Aj f234 (dU n m N M) (Rx ls ms) 2 [])=some ([],[],OC ls ms n m N M []):=dj
theorem AVu:AY dm OB (some 0) 200 2 kB (OC ls ms n m N M dw)=some (X' ls ms n N true (dZ ls ms n N true []),[],dV ls ms n m N M (.v (.int .u64 (dW (Py ls n))))):=dj
theorem AVv:AY dm OB (some 0) 200 2 kB (OC ls ms n m N M eg)=some (X' ls ms n N true (dZ ls ms n N false [(decide (Py ls n<mW (OD ms n+1)),true),(decide (0≤(n:Int)∧(n:Int)<N),true),(decide (0+(n:Int).toNat*1<ls.length),true),
 (decide (0≤nI n∧nI n<N),true),(decide (0+(nI n).toNat*1<ls.length),true),(decide (Py ls n<mW (OD ms n+1)),true)]),[],dV ls ms n m N M (.v (.int .u64 (dW (u7 ls ms n))))):=dj
theorem AVw:AY dm OB (some 0) 200 2 kB (OC ls ms n m N M ew)=some (X' ls ms n N true (dZ ls ms n N false [(decide (Py ls n<mW (OD ms n+1)),false)]),[],dV ls ms n m N M (.n .u64 1)):=dj
theorem AVx:AT dm OB f234 200 2 [0] (OC ls ms n m N M dt)=some (X' ls ms n N false [],[],.tup [],[(0,some ⟨38,[.seq .u64 ls],false⟩)]):=dj
def u9:Int:=ls.getD (0+i.toNat*1) 0
def vA:Int:=CX (FI q (Bk ms 0 n i)) c 0
theorem AVy:AY dm OB (some 0) 200 2 kB (U1 ls ms n m N M q b i c du) =
 some ([(AL .i64 N,true),(decide (i<N),true),(Nat.ble (0+n) ms.length,true),(AL .i64 n,true),(decide (0≤i),true),(true,true),(decide (0≤i∧i<N),true),(decide (0+i.toNat*1<ls.length),true),(CQ b,true),(decide (0≤i∧i<N),true),(decide (0+i.toNat*1<ls.length),true)],[0],
  U1 (ls.set (0+i.toNat*1) (EL (u9 ls i) (vA ms n q i c) b)) ms n m N M q (IT (u9 ls i) (vA ms n q i c) b) (wI (i+1)) (mW (Jw q (Bk ms 0 n i)+DX (FI q (Bk ms 0 n i)) c 0)) []):=dj
theorem AVz:AY dm OB (some 0) 200 2 kA (U1 ls ms n m N M q b i c dt)=some ([(AL .i64 N,true),(decide (i<N),false)],[],OC ls ms n m N M []):=dj
end
def G3 (q M i:Nat):Nat:=q*(M % 2^(64*i)) / 2^(64*i)
theorem eB (i:Nat):0<2^(64*i):=mi dl
theorem AGD (i:Nat):2^(64*(i+1))=2^(64*i)*18446744073709551616:=by rw [show 64*(i+1)=64*i+64 by omega,jr]
theorem AV0 {q:Nat} (hq:q<18446744073709551616) (M i:Nat):G3 q M i<18446744073709551616:=by
 unfold G3;refine li ?_
 have h1:=jw M (eB i)
 rcases lk q with rfl | h0
 ·rw [pe];exact Nat.mul_pos (eB i) dl
 ·calc q*(M % 2^(64*i))<q*2^(64*i):=Nat.mul_lt_mul_of_pos_left h1 h0
   _≤2^(64*i)*18446744073709551616:=by rw [jy];exact mz _ dk
theorem AV1 (q M Q W:Nat) (hQ:0<Q):q*(M % (Q*W)) / (Q*W)=(q*(M / Q % W)+q*(M % Q) / Q) / W∧q*M / Q % W=(q*(M / Q % W)+q*(M % Q) / Q) % W:=by
 have e1:q*(M % (Q*W))=q*(M % Q)+Q*(q*(M / Q % W)):=by rw [Nat.mod_mul,nj,mj]
 have e2:q*(M % (Q*W)) / Q=q*(M / Q % W)+q*(M % Q) / Q:=by rw [e1,uf _ _ hQ];omega
 refine ⟨by rw [← kw,e2],?_⟩
 have e3:q*M=q*(M % (Q*W))+Q*(W*(q*(M / (Q*W)))):=by
  have h:=md M (Q*W)
  have h2:q*M=q*(Q*W*(M / (Q*W))+M % (Q*W)):=by rw [h]
  rw [h2,nj,Nat.add_comm];congr 1
  simp only [mj,kx]
 rw [e3,uf _ _ hQ,ug,e2]
theorem AV2 {q:Nat} (hq:q<18446744073709551616) (M i:Nat):CX (FI q (AF M i)) (G3 q M i) 0=AF (q*M) i∧mW (Jw q (AF M i)+DX (FI q (AF M i)) (G3 q M i) 0)=G3 q M (i+1):=by
 obtain ⟨h1,h2,h3⟩:=N0 (a:=(q:Int)) (q:=AF M i) (c:=G3 q M i) dk (B3 M i) (by have:=AV0 hq M i;omega)
 obtain ⟨g1,g2⟩:=AV1 q M (2^(64*i)) 18446744073709551616 (eB i)
 have e:G3 q M (i+1)=(q*(M / 2^(64*i) % 18446744073709551616)+G3 q M i) / 18446744073709551616:=by unfold G3;rw [AGD];exact g1
 have e':((q*(M / 2^(64*i) % 18446744073709551616)+G3 q M i:Nat):Int)=q*AF M i+G3 q M i:=by rw [qd,kz];rfl
 have g2':AF (q*M) i=((q*(M / 2^(64*i) % 18446744073709551616)+G3 q M i:Nat):Int) % 18446744073709551616:=by
  show ((q*M / 2^(64*i) % 2^64:Nat):Int)=_;rw [show (2:Nat)^64=18446744073709551616 from rfl,g2];rfl
 have e'':((G3 q M (i+1):Nat):Int)=((q*(M / 2^(64*i) % 18446744073709551616)+G3 q M i:Nat):Int) / 18446744073709551616:=by rw [e];rfl
 rw [g2',e'',e',h1];constructor<;>omega
def wl (k x:Nat):dn:=(List.range k).map (AF x)
theorem AGE (k x:Nat):(wl k x).length=k:=by simp [wl]
theorem AV3 {k x:Nat}:∀ d∈wl k x,0≤d∧d<18446744073709551616:=fun d hd=>by
 obtain ⟨i,_,rfl⟩:=lv.1 hd;exact B3 x i
theorem vB:∀ {l:dn},(∀ d∈l,0≤d∧d<18446744073709551616)→((AK l:Nat):Int)=Bo l
 | [],_=>rfl
 | d::r,h=>by
  have hd:=h d (by simp)
  have ih:=vB (l:=r) fun d h'=>h d (by simp [h'])
  simp only [AK,Bo];omega
theorem vC {k x:Nat} (h:x<2^(64*k)):AK (wl k x)=x:=by
 have:=vB (AV3 (k:=k) (x:=x))
 rw [show wl k x=(List.range k).map (AF x) from rfl,XD k x h] at this
 exact Int.ofNat.inj this
theorem AV4 {l:dn} {n:Nat} (h:l.length=n):AA l 0 n=l:=by subst h;simp [AA]
theorem AGF {k x i:Nat} (h:i<k):(wl k x).getD i 0=AF x i:=by simp [wl,List.getD_eq_getElem?_getD,h]
theorem AV5 {l:dn} (h:∀ d∈l,0≤d∧d<18446744073709551616):l=wl l.length (AK l):=(XE l _ h (vB h)).1
def HS (L T N i:Nat):dn:=(List.range N).map fun j=>if j<i then B7 L T j else AF L j
theorem AV6 {L T N i:Nat} (h:i<N):(HS L T N i).getD i 0=AF L i:=by simp [HS,List.getD_eq_getElem?_getD,h]
theorem AV7 {L T N i:Nat} (h:i<N):(HS L T N i).set i (B7 L T i)=HS L T N (i+1):=by
 refine sn fun j=>?_
 rw [List.getElem?_set];by_cases hj:j<N
 ·by_cases e:i=j
  ·subst e;simp [HS,h]
  ·simp only [HS,pm,List.getElem?_range hj,Option.map_some,jd e];by_cases q:j<i
   ·rw [je q,je dk]
   ·rw [jd q,jd dk]
 ·have e:i≠j:=dk
  rw [jd e];simp [HS,hj]
theorem AV8 (L T N:Nat):HS L T N 0=wl N L:=by simp [HS,wl]
theorem AV9 {L T N:Nat} (hT:T≤L) (hL:L<2^(64*N)):HS L T N N=wl N (L-T):=by
 have e:HS L T N N=(List.range N).map (B7 L T):=nb fun j hj=>je (lz.1 hj)
 have h:=AEt (k:=N) hL (pr hT hL)
 have e2:(L+(2^(64*N)-T)) % 2^(64*N)=L-T:=by
  rw [show L+(2^(64*N)-T)=(L-T)+2^(64*N) by omega,pi,jk dk]
 rw [e2] at h;have:=(XE ((List.range N).map (B7 L T)) (L-T) (fun d hd=>by obtain ⟨i,_,rfl⟩:=lv.1 hd;exact FX L T i) h).1
 rw [e,this];simp [wl]
theorem AV_ {L M Q t q:Nat} (hM:M<(t+1)*Q) (hq:q≤L / Q / (t+1)):q*M≤L:=by
 calc q*M≤q*((t+1)*Q):=mz _ dk
  _=q*(t+1)*Q:=by rw [kx]
  _≤L / Q*Q:=me _ (mb (me _ hq) (qj _ _))
  _≤L:=qj _ _
def YA (N x:Nat):Heap:=[(0,some ⟨38,[.seq .u64 (wl N x)],false⟩)]
section
variable {ms:dn} {n m M:Nat} (hm:∀ d∈ms,0≤d∧d<18446744073709551616) (hl:n≤ms.length) (hn:n≤1125899906842624) {V:Nat} (hV:AK (AA ms 0 n)=V) (h0:0<V) {β0:Env} {w0:World} (hb:∀ b,2≤b→β0 b=none)
include hm hl hn hV h0 hb
omit h0 in
theorem AV' {L q:Nat} (hq:q<18446744073709551616) {R:Ending→World→Prop} (hk:gn dm 234 β0 w0 R f234.ntmps [0] (OC (HS L (q*V) (n+1) (n+1)) ms n m (n+1) M [])) :
  ∀ r i,i+r=n+1→gn dm 234 β0 w0 R f234.ntmps [0] (U1 (HS L (q*V) (n+1) i) ms n m (n+1) M q (CF L (q*V) i) i (G3 q V i) []):=by
 intro r;induction r with
 | zero =>
  intro i hi;obtain rfl:i=n+1:=dk
  exact Af dt (Ai (AJ Mq Ae) AB (AVz ..) ⟨by simp only [AL,jm,ji];omega,by simp,trivial⟩ (AS dj) hb jb fun _=>hk)
 | succ r ih =>
  intro i hi;obtain ⟨w1,w2⟩:=AV2 hq V i;have ha:Bk ms 0 n i=AF V i:=by rw [← hV];exact rE (gu:=0) (n:=n) hm i
  have ei:0+(i:Int).toNat*1=i:=dk
  have gx:(HS L (q*V) (n+1) i).length=n+1:=by simp [HS]
  refine Af du (Ai (AJ Mq Ae) AB (AVy ..) ?_ (AS dj) hb (fun k h=>by simpa using h) fun _=>?_)
  ·rw [ei,gx];refine ⟨by simp only [AL,jm,ji];omega,by simp<;>omega,jh dk,by simp only [AL,jm,ji];omega,by simp,rfl,by simp<;>omega,by simp<;>omega,Dw (GO L _ i),by simp<;>omega,by simp<;>omega,trivial⟩
  ·unfold u9 vA;rw [ei,ha,w1,w2,AV6 dk,Au (z:=(i:Int)+1) dk];show gn _ _ _ _ _ _ _ (U1 ((HS L (q*V) (n+1) i).set i (B7 L (q*V) i)) _ _ _ _ _ _ (CF L (q*V) (i+1)) _ _ _);rw [AV7 dk];exact ih (i+1) dk
theorem AWA:∀ L,L<2^(64*(n+1))→gn dm 234 β0 w0 (A_ β0 w0 [0] (.tup []) (YA (n+1) (L % V))) f234.ntmps [0] (OC (wl (n+1) L) ms n m (n+1) M []):=by
 intro L;induction L using Nat.strongRecOn with
 | _ L ih =>
 intro hL;have gx:=AGE (n+1) L
 have hwin:AK (AA (wl (n+1) L) 0 (n+1))=L:=by rw [AV4 gx,vC hL]
 have hbN:AL .i64 ((n+1:Nat):Int)=true:=by simp only [AL,jm,ji];omega
 have hbn:AL .i64 (n:Int)=true:=by simp only [AL,jm,ji];omega
 have hC:∀ d r,decide (V≤L)=d→AO r→AO (X' (wl (n+1) L) ms n (n+1) d r):=by
  intro d r hd hr;refine ⟨jh dk,jh dk,hbN,hbn,?_,hr⟩
  rw [hwin,hV,← hd];unfold Et;by_cases h:V≤L
  ·rw [jd dk];split<;>simp [h]
  ·rw [je dk];simp [h]
 by_cases ir:V≤L
 ·have n1:1≤n:=by
   rcases lk n with e | e
   ·subst e;rw [show AA ms 0 0=[] by simp [AA]] at hV;simp [AK] at hV;omega
   ·exact e
  have hnI:nI n=((n-1:Nat):Int):=by unfold nI;rw [Au dk];omega
  have htm:OD ms n=AF V (n-1):=by
   have:=rE (gu:=0) (n:=n) hm (n-1)
   rw [hV] at this;unfold OD;rw [hnI,jn,kb,← JI (n:=n) dk];unfold Bk AA at this;rw [jn] at this;exact this
  have htl:Py (wl (n+1) L) n=AF L n:=by unfold Py;rw [jn,kb,ka,AGF dk]
  have htl2:(wl (n+1) L).getD (0+(nI n).toNat*1) 0=AF L (n-1):=by rw [hnI,jn,kb,ka,AGF dk]
  have bt:=B3 V (n-1)
  have bl:=B3 L n;have hVlt:V<2^(64*n):=by
   have:=JH (AA ms 0 n) (DM hm)
   rw [hV] at this;unfold AA at this
   rwa [ke,kv,mc dk] at this
  obtain ⟨k,rfl⟩:∃ k,n=k+1:=⟨n-1,dk⟩
  rw [Nat.add_sub_cancel] at *
  have tV:AF V k=((V / 2^(64*k):Nat):Int):=by
   show ((V / 2^(64*k) % 2^64:Nat):Int)=_;rw [jk];refine li ?_
   rw [← jr];rwa [show 64*k+64=64*(k+1) by omega]
  have tL:AF L (k+1)=((L / 2^(64*(k+1)):Nat):Int):=by
   show ((L / 2^(64*(k+1)) % 2^64:Nat):Int)=_;rw [jk];refine li ?_
   rw [← jr];rwa [show 64*(k+1)+64=64*(k+1+1) by omega]
  have tL2:((L / 2^(64*k):Nat):Int)=AF L (k+1)*18446744073709551616+AF L k:=by
   rw [tL];show _=_+((L / 2^(64*k) % 2^64:Nat):Int);rw [AGD,← kw];omega
  have hMb:V<(V / 2^(64*k)+1)*2^(64*k):=by rw [jy];exact Nat.lt_mul_div_succ V (eB k)
  have hD:∀ d r,decide (AF V k+1=18446744073709551616)=d→AO r→AO (dZ (wl (k+1+1) L) ms (k+1) (k+1+1) d r):=by
   intro d r hd hr;refine ⟨by rw [hnI];simp<;>omega,by rw [hnI];simp<;>omega,?_,by simp<;>omega,by rw [gx];simp<;>omega,hr⟩
   rw [htm,← hd,F4];by_cases h:AF V k+1=18446744073709551616
   ·simp [h]
   ·rw [jg h,jg dk]
  have fin:∀ (q:Nat),1≤q→q<18446744073709551616→q*V≤L→gn dm 234 β0 w0 (A_ β0 w0 [0] (.tup []) (YA (k+1+1) (L % V))) f234.ntmps [0] (U1 (wl (k+1+1) L) ms (k+1) m (k+1+1) M q 0 0 0 []):=by
   intro q q1 q2 q3;have ie:0<q*V:=Nat.mul_pos q1 h0
   have hh:=ih (L-q*V) dk dk
   have e:(L-q*V) % V=L % V:=by
    have:=Nat.sub_mul_mod (x:=L) (n:=V) (k:=q) (by rw [jy];exact q3)
    rwa [jy] at this
   rw [e,← AV9 q3 hL] at hh;have:=AV' hm hl hn hV hb (m:=m) (M:=M) q2 hh (k+1+1) 0 dk
   rw [AV8] at this;have c0:((G3 q V 0:Nat):Int)=0:=by unfold G3;simp [Nat.mod_one]
   rw [c0] at this;exact this
  have go:∀ (qc:Ch) (q:Nat),nv qc=.v (.int .u64 q)→1≤q→q<18446744073709551616→q*V≤L→gn dm 234 β0 w0 (A_ β0 w0 [0] (.tup []) (YA (k+1+1) (L % V))) f234.ntmps [0] (dV (wl (k+1+1) L) ms (k+1) m (k+1+1) M qc):=by
   intro qc q hqc q1 q2 q3;refine IY ?_
   have:=fin q q1 q2 q3
   have e:(X_ (k+1) m (k+1+1) M qc (.n .u64 0) (.n .i64 0) (.n .u64 0)).map Gy=X_ (k+1) m (k+1+1) M (.v (.int .u64 q)) (.v (.int .u64 0)) (.v (.int .i64 0)) (.v (.int .u64 0)):=by
    unfold X_;simp only [lf,List.map_replicate,Gy,List.map_nil,hqc];rfl
   rw [e];exact this
  have one:∀ q:Nat,q<18446744073709551616→q*V≤L→1≤max 1 q∧max 1 q<18446744073709551616∧max 1 q*V≤L∧dW (q:Int)=((max 1 q:Nat):Int):=by
   intro q h1 h2;refine ⟨dk,dk,?_,by unfold dW;split<;>omega⟩
   rcases lk q with rfl | hq
   ·simpa using ir
   ·rw [Nat.max_eq_right hq];exact h2
  by_cases ht:AF V k+1=18446744073709551616
  ·have hq:L / 2^(64*(k+1))*V≤L:=mb (mz _ dk) (qj L (2^(64*(k+1))))
   obtain ⟨a1,a2,a3,a4⟩:=one (L / 2^(64*(k+1))) dk hq
   refine Af dw (Ai (AJ Mq Ae) AB (AVu ..) (hC true _ (jc ir) (hD true _ (jc ht) trivial)) (AS dj) hb jb fun _=>?_)
   rw [htl,tL,a4];exact go _ _ rfl a1 a2 a3
  ·have hmw:mW (OD ms (k+1)+1)=((V / 2^(64*k)+1:Nat):Int):=by rw [htm,F4,tV];omega
   by_cases ik:AF L (k+1)<AF V k+1
   ·have hq:u7 (wl (k+1+1) L) ms (k+1)=((L / 2^(64*k) / (V / 2^(64*k)+1):Nat):Int):=by
     unfold u7;rw [hmw,htl,htl2,jn];have:(AF L (k+1)).toNat*C6+(AF L k).toNat=L / 2^(64*k):=by
      have:=B3 L k
      unfold C6;omega
     rw [this]
    have hb1:L / 2^(64*k) / (V / 2^(64*k)+1)<18446744073709551616:=by
     refine li ?_
     have:=B3 L k
     omega
    obtain ⟨a1,a2,a3,a4⟩:=one _ hb1 (AV_ hMb (jj _))
    refine Af eg (Ai (AJ Mq Ae) AB (AVv ..) (hC true _ (jc ir) (hD false _ (jg ht) ?_)) (AS dj) hb jb fun _=>?_)
    ·have h4:Py (wl (k+1+1) L) (k+1)<mW (OD ms (k+1)+1):=by rw [htl,hmw];omega
     refine ⟨jc h4,by simp<;>omega,by rw [gx];simp<;>omega,by rw [hnI];simp<;>omega,by rw [hnI,gx];simp<;>omega,jc h4,trivial⟩
    ·rw [hq,a4];exact go _ _ rfl a1 a2 a3
   ·refine Af ew (Ai (AJ Mq Ae) AB (AVw ..) (hC true _ (jc ir) (hD false _ (jg ht) ⟨jg (by rw [htl,hmw];omega),trivial⟩)) (AS dj) hb jb fun _=>?_)
    exact go _ 1 rfl dk dk dk
 ·rw [jk dk];exact Af dt (Ay (AJ Mq Ae) AB func234 (AVx ..) (hC false _ (jg ir) trivial) (AS dj) hb jb)
end
theorem AWB {ms:dn} {n m M:Nat} (hm:∀ d∈ms,0≤d∧d<18446744073709551616) (hl:n≤ms.length) (hn:n≤1125899906842624) (h0:0<AK (AA ms 0 n)) {ls:dn} (hls:∀ d∈ls,0≤d∧d<18446744073709551616) (gx:ls.length=n+1) :
  Ab dm 234 (dU n m (n+1) M) (Rx ls ms) 2 [0] (.tup []) (YA (n+1) (AK ls % AK (AA ms 0 n))):=by
 refine A7 (gv:=[]) func234 dj dj fun β0 w0 hb=>?_
 refine Ai (AJ Mq Ae) AB (AVt ..) trivial (AS dj) hb jb fun _=>?_
 have e:=AV5 hls;rw [gx] at e;have ik:=JH ls hls;rw [gx] at ik;have:=AWA hm hl hn rfl h0 (m:=m) (M:=M) (w0:=w0) hb (AK ls) ik
 rw [← e] at this;exact this
def takeSpec:ASpec:=fun args H fr gv =>
 match args with
 | [.val false [.sl k gu N _],.val false [.sl t gw n _],I]=>match Bv (some I),AG H k,AG H t with
  | some (_,.i64,i),some ⟨ty,cs,false⟩,some ⟨_,ds,_⟩=>match A8 .u64 cs,A8 .u64 ds,Nat.beq k t,Nat.beq gu 0&&(Nat.beq gw 0&&Nat.beq ty 38) with
   | some ls,some ms,false,true=>some (BR [k,t] 2 fr 0 [0] (.tup []) (YA N (AK ls % AK (AA ms 0 n))) [(Nat.beq N (n+1),true),(Nat.beq N ls.length,true),(Nat.ble n ms.length,true),(Nat.ble n 1125899906842624,true),(decide (i=n),true),(Nat.blt 0 (AK (AA ms 0 n)),true)] gv)
   | _,_,_,_=>none
  | _,_,_=>none
 | _=>none
theorem AWC:BJ dm 234 takeSpec:=by
 refine Da func234 dj dj fun args H fr gv r h=>?_
 unfold takeSpec at h;split at h;case h_2=>cases h
 rename_i k gu N M t gw n m I;split at h;case h_2=>cases h
 rename_i c0 i ty cs ty' ds o' hI hk ht;split at h;case h_2=>cases h
 rename_i ls ms hls hms hkt hoff;injection h with h;simp only [jm] at hoff;obtain ⟨o1,o2,o3⟩:=hoff;obtain rfl:=Ar.1 o1
 obtain rfl:=Ar.1 o2
 obtain rfl:=Ar.1 o3
 refine ⟨[k,t],2,0,[0],_,_,_,gv,h.symm,fun β us w ha hg hc=>?_⟩
 obtain ⟨u1,iu,r1,⟨u2,iw,r2,⟨u3,us3,r3,ha,rfl⟩,rfl⟩,rfl⟩:=ha;obtain ⟨c1,c2,c3,c4,c5,c6,_⟩:=hc;obtain rfl:=Ar.1 c1
 have hil:i=(n:Int):=by simpa using c5
 subst hil;obtain ⟨l1,g1⟩:=Jz hg hk;obtain ⟨_,b1⟩:=DU hls g1;obtain ⟨l2,g2⟩:=Jz hg ht;obtain ⟨_,b2⟩:=DU hms g2;obtain ⟨rfl,p1⟩:=DJ (β:=β) (u:=u3) (fm r3) hI
 have iq:k≠t:=I4 hkt
 refine ⟨dU n m (n+1) M,Rx ls ms,AWB (fun d hd=>ES (b2 d hd)) (jf c3) (jf c4) (Bf.1 c6) (fun d hd=>ES (b1 d hd)) (Ar.1 c2).symm,dj,
  ⟨u1,_,Cp dk rfl r1,⟨u2,_,Cp dk rfl r2,⟨_,us3,Aw ⟨rfl,rfl,p1⟩,ha,rfl⟩,rfl⟩,rfl⟩,?_,fun j hj=>?_⟩
 ·refine XF (ρ:=[k,t]) (bs:=[⟨38,[.seq .u64 ls],false⟩,Ak [.seq .u64 ms]]) hg (fun j d hj=>?_) fun i j d hi hr hij hj=>?_
  ·match j,hj with
   | 0,hj =>
    injection hj with hj;subst hj;refine ⟨_,hk,.inr ⟨rfl,rfl⟩,fun l hl=>?_⟩
    obtain ⟨q1,q2⟩:=DU hls hl;exact ⟨_,[],⟨q1,q2⟩,rfl,by simp⟩
   | 1,hj =>
    injection hj with hj;subst hj;refine ⟨_,ht,.inl ⟨rfl,rfl,nofun⟩,fun l hl=>?_⟩
    obtain ⟨q1,q2⟩:=DU hms hl;exact ⟨_,[],⟨q1,q2⟩,rfl,by simp⟩
  ·match i,j,hi,hj,hij with
   | 0,1,_,_,_=>exact iq
   | 1,_,hi,_,_=>injection hi with hi;subst hi;exact absurd rfl hr
   | 0,0,_,_,q=>exact absurd rfl q
 ·match j,hj with
  | 0,_=>exact CS (hg.heap _ _ hk)
  | 1,_=>exact CS (hg.heap _ _ ht)
noncomputable def SIa:dr:=(234,takeSpec)::S22
theorem AWD:AW dm SIa:=⟨AWC,Mq⟩
noncomputable abbrev oMd:gr:=AH SIa K0
theorem eD:gp dm oMd:=AJ AWD Ae
def eF (gu n m N M:Nat):List AV:=[.val false [.sl 0 gu N M],.val false [.sl 1 0 n m]]
noncomputable def AWE:List Item:=CB (AY dm oMd (some 0) 100 2 none (Aj f169 (eF 0 0 0 0 0) (Gx [] []) 2 []))
noncomputable def mdT (gu n m N M:Nat) (k:Int):List AV:=.val false [.sl 0 gu N M]::.val false [.sl 1 0 n m]::.any::.any::.val false [.v (.slice none 0 0)]::.val false [.n .i64 0]::.val false [.v (.int .i64 k)]::List.replicate (f169.ntmps-7) .any
noncomputable def vD (gu:Nat) (xs ms:dn) (n m N M:Nat) (k:Int) (p:List Bool):gq:=⟨AWE,⟨mdT gu n m N M k,Gx xs ms,2,p⟩⟩
noncomputable def AWG:List Item:=CB (AY dm oMd (some 0) 100 2 none (vD 0 [] [] 0 0 0 0 0 ew))
noncomputable def AWH (gu n m N M L:Nat) (k i:Int):List AV:=.val false [.sl 0 gu N M]::.val false [.sl 1 0 n m]::.any::.any::.val false [.v (.slice none 0 0)]::.val false [.n .i64 0]::.val false [.v (.int .i64 k)]::.val false [.sl 2 0 L L]::.val false [.v (.int .i64 i)]::List.replicate (f169.ntmps-9) .any
noncomputable def YB (gu:Nat) (xs ms ls:dn) (n m N M L:Nat) (k i:Int) (p:List Bool):gq:=⟨AWG,⟨AWH gu n m N M L k i,[(0,some (Ak [.seq .u64 xs])),(1,some (Ak [.seq .u64 ms])),(2,some ⟨38,[.seq .u64 ls],false⟩)],3,p⟩⟩
def eI (L:Nat) (ls:dn) (x:Int):dn:=(List.take (0+Int.toNat 1*1) ls++(List.take (Nat.min L (L-Int.toNat 1)) (List.drop 0 ls)++List.drop (0+Int.toNat 1*1+Nat.min L (L-Int.toNat 1)*1) ls)).set (0+Int.toNat 0*1) x
def vE (L:Nat) (ls:dn):dn:=List.take (0+Int.toNat 1*1) ls++(List.take (Nat.min L (L-Int.toNat 1)) (List.drop 0 ls)++List.drop (0+Int.toNat 1*1+Nat.min L (L-Int.toNat 1)*1) ls)
def OE (n:Nat):Int:=wI ((n:Int)+1)
section
variable (gu:Nat) (xs ms ls:dn) (n m N M L:Nat) (k i:Int)
theorem AWI:AY dm oMd (some 0) 100 2 (some ([0,1,4,5,6],[0,1],2)) (Aj f169 (eF gu n m N M) (Gx xs ms) 2 [])=some ([(AL .i64 n,true)],[],vD gu xs ms n m N M n []):=dj
theorem AWJ:AY dm oMd (some 0) 100 2 (some ([0,1,4,5,6,7,8],[0,1,2],3)) (vD gu xs ms n m N M k ew) =
 some ([(decide (0<k),true),(decide (0≤wI (k-1)∧wI (k-1)<n),true),(decide (0+(wI (k-1)).toNat*1<ms.length),true),(decide (ms.getD (0+(wI (k-1)).toNat*1) 0=0),false),(decide (k=0),false),(AL .i64 n,true),
  (decide (0≤OE n∧OE n≤OE n∧((8:Nat):Int)*OE n≤281474976710656∧OE n≤9223372036854775807),true),(AL .i64 N,true)],[],
  YB gu xs ms (List.replicate (OE n).toNat 0) n m N M (OE n).toNat k (wI ((N:Int)-1)) []):=dj
theorem AWK:AY dm oMd (some 0) 100 2 (some ([0,1,4,5,6,7,8],[0,1,2],3)) (YB gu xs ms ls n m N M L k i d_) =
 some ([(decide (0≤i),true),(decide ((0:Int)≤1∧1≤(L:Int)),true),(Nat.beq L (Int.toNat 1),false),(Nat.ble (0+Nat.min L (L-Int.toNat 1)) ls.length,true),(Nat.ble (0+Int.toNat 1*1+Nat.min L (L-Int.toNat 1)*1) ls.length,true),
  (decide (0≤i∧i<N),true),(decide (gu+i.toNat*1<xs.length),true),(decide ((0:Int)≤0∧0<(L:Int)),true),(decide (0+Int.toNat 0*1<(vE L ls).length),true),(decide (0≤k∧k≤m),true),(true,true),
  (Nat.beq L (k.toNat-0+1),true),(Nat.beq L (eI L ls (xs.getD (gu+i.toNat*1) 0)).length,true),(Nat.ble (k.toNat-0) ms.length,true),(Nat.ble (k.toNat-0) 1125899906842624,true),(decide (k=((k.toNat-0:Nat):Int)),true),(Nat.blt 0 (AK (AA ms 0 (k.toNat-0))),true)],[],
  YB gu xs ms (wl L (AK (eI L ls (xs.getD (gu+i.toNat*1) 0)) % AK (AA ms 0 (k.toNat-0)))) n m N M L k (wI (i-1)) []):=dj
def vF (n L:Nat):AV:=.tup [(false,[.sl 2 0 ((n:Int).toNat-0) (L-0)]),(false,[.n .i64 0])]
def vG (L x:Nat):Heap:=[(2,some ⟨38,[.seq .u64 (wl L x)],false⟩)]
theorem AWL:AT dm oMd f169 100 2 [2] (YB gu xs ms ls n m N M L k i dt) =
 some ([(decide (0≤i),false),(AL .i64 n,true),(decide (0≤(n:Int)∧(n:Int)≤L),true),(true,true)],[],vF n L,[(2,some ⟨38,[.seq .u64 ls],false⟩)]):=dj
end
theorem AGG {n:Nat} {ls:dn} (h:ls.length=n+1) (x:Int):eI (n+1) ls x=x::ls.take n:=by
 obtain ⟨a,r,rfl⟩:∃ a r,ls=a::r:=by cases ls with | nil=>simp at h | cons a r=>exact ⟨a,r,rfl⟩
 have e1:Int.toNat 1=1:=rfl
 have e0:Int.toNat 0=0:=rfl
 have e2:Nat.min (n+1) (n+1-1)=n:=Nat.min_eq_right dk
 unfold eI;rw [e1,e0,e2];have e3:List.drop (0+1*1+n*1) (a::r)=[]:=qr (by simp at h ⊢;omega)
 rw [e3];simp
theorem vH (n X:Nat):(wl (n+1) X).take n=wl n X:=by
 unfold wl;rw [← rk,ta,List.take_left' (by simp)]
theorem AWM {n:Nat} {ls:dn} (h:ls.length=n+1):0<(vE (n+1) ls).length:=by
 unfold vE;rw [kc,ke,h];have e1:Int.toNat 1=1:=rfl
 rw [e1];omega
theorem AWN (n:Nat):wl n 0=List.replicate n 0:=by
 unfold wl;refine sn fun i=>?_
 by_cases h:i<n
 ·simp [h,AF]
 ·simp [h]
theorem AWO {xs ms:dn} {gu n m N M:Nat} (hx:∀ d∈xs,0≤d∧d<18446744073709551616) (hm:∀ d∈ms,0≤d∧d<18446744073709551616) (hl:gu+N≤xs.length) (hN:AL .i64 N=true) (hl':n+1≤ms.length) (hn:n+1≤1099511627776) (hnm:n+1≤m) (ht:ms.getD n 0≠0) :
  Ab dm 169 (eF gu (n+1) m N M) (Gx xs ms) 2 [] (.tup [(false,[.sl 2 0 (n+1) (n+1+1)]),(false,[.n .i64 0])]) (vG (n+1+1) (AK (AA xs gu N) % AK (AA ms 0 (n+1)))):=by
 have bN:N≤9223372036854775807:=by simp only [AL,jm,ji] at hN;omega
 have hbn:AL .i64 ((n+1:Nat):Int)=true:=by simp only [AL,jm,ji];omega
 have hV0:0<AK (AA ms 0 (n+1)):=by
  have:=XO (AA ms 0 (n+1)) n (DM hm)
  rw [show (AA ms 0 (n+1)).getD n 0=ms.getD n 0 from by unfold AA;rw [JI dk,ka]] at this
  have hb:=Ns hm n;rcases lk (AK (AA ms 0 (n+1))) with e | e
  ·rw [e,Nat.zero_div,oz] at this;omega
  ·exact e
 have hVlt:AK (AA ms 0 (n+1))<2^(64*(n+1)):=by
  have:=JH (AA ms 0 (n+1)) (DM hm)
  unfold AA at this ⊢
  rwa [ke,kv,mc dk] at this
 refine A7 (gv:=[]) func169 dj dj fun β0 w0 hb=>?_
 refine Ai eD AB (AWI ..) ⟨hbn,trivial⟩ (AS dj) hb jb fun _=>?_
 have e1:wI (((n+1:Nat):Int)-1)=(n:Int):=by rw [Au dk];omega
 have e2:OE (n+1)=((n+1+1:Nat):Int):=by unfold OE;rw [Au dk];omega
 refine Af ew (Ai eD AB (AWJ ..) ?_ (AS dj) hb jb fun _=>?_)
 ·rw [e1,e2];refine ⟨by simp<;>omega,by simp<;>omega,by simp<;>omega,?_,by simp<;>omega,hbn,by simp only [ji];omega,hN,trivial⟩
  rw [jn,kb,ka];exact jg ht
 rw [e2,jn,← AWN];generalize hA:AK (AA xs gu N)=A
 have hNw:(AA xs gu N).length=N:=by unfold AA;rw [ke,kv];omega
 have hA2:A<2^(64*N):=by rw [← hA];have:=JH (AA xs gu N) (DM hx);rwa [hNw] at this
 generalize hV:AK (AA ms 0 (n+1))=V at *
 have loop:∀ c,c≤N→gn dm 169 β0 w0 (A_ β0 w0 [] (.tup [(false,[.sl 2 0 (n+1) (n+1+1)]),(false,[.n .i64 0])]) (vG (n+1+1) (A % V))) f169.ntmps [] (YB gu xs ms (wl (n+1+1) (A / 2^(64*c) % V)) (n+1) m N M (n+1+1) ((n+1:Nat):Int) ((c:Int)-1) []):=by
  intro c;induction c with
  | zero =>
   intro _;rw [ll,kf,ko];have h:=Ay (w0:=w0) (W:=[]) (n:=f169.ntmps) eD AB func169 (AWL gu xs ms (wl (n+1+1) (A % V)) (n+1) m N M (n+1+1) ((n+1:Nat):Int) (((0:Nat):Int)-1)) ⟨rfl,hbn,by simp<;>omega,rfl,trivial⟩ (AS dj) hb jb
   have e:vF (n+1) (n+1+1)=.tup [(false,[.sl 2 0 (n+1) (n+1+1)]),(false,[.n .i64 0])]:=by unfold vF;rw [jn];rfl
   rw [e] at h;exact Af dt h
  | succ c ih =>
   intro hc;have hi:((c+1:Nat):Int)-1=(c:Int):=dk
   rw [hi];have gx:=AGE (n+1+1) (A / 2^(64*(c+1)) % V)
   have hk:((n+1:Nat):Int).toNat-0=n+1:=dk
   have t1:Int.toNat 1=1:=rfl
   refine Af d_ (Ai eD AB (AWK ..) ?_ (AS dj) hb (fun k h=>by cases h) fun _=>?_)
   ·rw [hk,hV,AGG gx,gx,t1];have e5:Nat.min (n+1+1) (n+1+1-1)=n+1:=Nat.min_eq_right dk
    rw [e5];refine ⟨by simp,by simp<;>omega,GH dk,jh dk,jh dk,by simp<;>omega,by simp<;>omega,by simp<;>omega,jc (AWM gx),by simp<;>omega,rfl,Ar.2 rfl,Ar.2 ?_,jh dk,jh dk,by simp,Bf.2 hV0,trivial⟩
    rw [kp,ke,gx];omega
   ·rw [hk,hV,AGG gx,vH,Au (z:=(c:Int)-1) dk];have hs:=UN (DM (gu:=gu) (n:=N) hx) c
    rw [hA,show (AA xs gu N).getD c 0=xs.getD (gu+(c:Int).toNat*1) 0 from by unfold AA;rw [JI dk,jn,kb]] at hs
    have e6:AK (xs.getD (gu+(c:Int).toNat*1) 0::wl (n+1) (A / 2^(64*(c+1)) % V)) % V=A / 2^(64*c) % V:=by
     simp only [AK];rw [vC (mv (jw _ hV0) hVlt),hs]
     conv=>lhs;rw [og,kj,m_,← kj,← og]
    rw [e6];exact ih dk
 have:=loop N (jj _)
 rw [lm hA2,oz] at this;rw [Au (z:=(N:Int)-1) dk];exact this
def modSpec:ASpec:=fun args H fr gv =>
 match args with
 | [S,.val false [.sl t gw n m]]=>match DZ S with
  | some (k,gu,N)=>match AG H k,AG H t with
   | some ⟨_,cs,_⟩,some ⟨_,ds,_⟩=>match A8 .u64 cs,A8 .u64 ds,Nat.beq gw 0 with
    | some xs,some ms,true=>some (BR [k,t] 2 fr 1 [] (.tup [(false,[.sl 2 0 n (n+1)]),(false,[.n .i64 0])]) (vG (n+1) (AK (AA xs gu N) % AK (AA ms 0 n)))
      [(Nat.ble (gu+N) xs.length,true),(AL .i64 N,true),(Nat.ble n ms.length,true),(Nat.ble n 1099511627776,true),(Nat.ble n m,true),(Nat.blt 0 n,true),(decide (ms.getD (n-1) 0=0),false)] gv)
    | _,_,_=>none
   | _,_=>none
  | none=>none
 | _=>none
theorem AWP:BJ dm 169 modSpec:=by
 refine Da func169 dj dj fun args H fr gv r h=>?_
 unfold modSpec at h;split at h;case h_2=>cases h
 rename_i S t gw n m;split at h;case h_2=>cases h
 rename_i k gu N hS;split at h;case h_2=>cases h
 rename_i ty cs o ty' ds o' hk ht;split at h;case h_2=>cases h
 rename_i xs ms iy hms hoff;obtain rfl:=Ar.1 hoff
 injection h with h;refine ⟨[k,t],2,1,[],_,_,_,gv,h.symm,fun β us w ha hg hc=>?_⟩
 obtain ⟨u1,iu,r1,⟨u2,iw,r2,ha,rfl⟩,rfl⟩:=ha;obtain ⟨M,r1⟩:=FE hS r1;obtain ⟨c1,c2,c3,c4,c5,c6,c7,_⟩:=hc;obtain ⟨j,rfl⟩:∃ j,n=j+1:=⟨n-1,by have:=Bf.1 c6;omega⟩
 obtain ⟨g1,g1',g2,g3⟩:=bK hg hk ht iy hms;exact ⟨eF gu (j+1) m N M,Gx xs ms,AWO g1 g1' (jf c1) c2 (jf c3) (jf c4) (jf c5) (pf c7),dj,
  ⟨u1,_,Cp dk rfl r1,⟨u2,_,Cp dk rfl r2,ha,rfl⟩,rfl⟩,g2,g3⟩
noncomputable def SId:dr:=(169,modSpec)::SR4
theorem AGH:AW dm SId:=⟨AWP,AVq⟩
theorem AGI {β β':Env} {k x:Nat} (h:x<2^(64*k)) {l:List Value} (hr:AQ β [.seq .u64 (wl k x)] l):AQ β' [.num k x] l:=by
 obtain ⟨l1,l2,⟨h1,_⟩,h2,h3⟩:=hr;simp only [AQ] at h2;subst h1;subst h2;rw [ku] at h3;have:l=words k x:=by
  rw [h3];unfold wl words;rw [ny];rfl
 rw [this];exact XA h
def AGJ (l:dn):dn:=(wl 7 (AK l % AK (AA PL 0 6))).take 6
theorem AWQ (gu n m:Nat) (xs:dn):AT dm (AH SId K0) f215 300 1 [] (Aj f215 [AR 0 gu n m] (BG xs) 1 []) =
 some ([(Nat.ble (gu+n) xs.length,true),(AL .i64 n,true),(true,true),(true,true),(true,true),(true,true),(false,false),(true,true)],[],.val true [.seq .u64 (AGJ (AA xs gu n))],[]):=dj
theorem AWR:AK (AA PL 0 6)=pN:=dj
theorem AWS {gu n m:Nat} {xs:dn} (hl:gu+n≤xs.length) (hn:n≤1125899906842624):Ab dm 215 [AR 0 gu n m] (BG xs) 1 [] (Aa (AK (AA xs gu n) % pN)) []:=by
 refine BL (Bs AGH Ae func215 dj dj (AWQ gu n m xs) dj ⟨jh hl,Mr hn,rfl,rfl,rfl,rfl,rfl,rfl,trivial⟩) fun β u hu=>?_
 obtain ⟨l,q,rfl⟩:=hu;refine ⟨l,AGI (β:=β) (k:=6) ?_ ?_,rfl⟩
 ·rw [← DV];exact mv (jw _ DB) dl
 ·unfold AGJ at q;rw [vH,AWR] at q;exact q
noncomputable def SIe:dr:=(215,D9 (Xt fun _ l=>Aa (AK l % pN)))::SId
theorem AGK:AW dm SIe:=⟨EV (tU func215 dj dj (fun _ _=>rfl) fun _ _ _ _ _ hl hn=>AWS hl hn),AGH⟩
end Go.Proofs.YtgnajdcdcblaoaaGreat
namespace Go.Proofs.YtgnajdcdcblaoaaGreat.Rg
def ch:Nat→Nat→Nat
 | _,0=>1
 | 0,_+1=>0
 | n+1,k+1=>ch n k+ch n (k+1)
theorem eJ:∀ {n k:Nat},n<k→ch n k=0
 | 0,_+1,_=>rfl
 | n+1,k+1,h=>by simp only [ch];rw [eJ (by omega:n<k),eJ (by omega:n<k+1)]
theorem AGL:∀ n,ch n n=1
 | 0=>rfl
 | n+1=>by simp only [ch];rw [AGL n,eJ (Nat.lt_succ_self n)]
theorem eK:∀ n k,(k+1)*ch (n+1) (k+1)=(n+1)*ch n k
 | 0,0=>rfl
 | 0,k+1=>by simp [ch]
 | n+1,0=>by
  have h:=eK n 0;simp only [ch,kb,ka,pj] at h ⊢;omega
 | n+1,k+1=>by
  have h1:=eK n k;have h2:=eK n (k+1)
  have e1:ch (n+1+1) (k+1+1)=ch (n+1) (k+1)+ch (n+1) (k+1+1):=rfl
  have e2:ch (n+1) (k+1)=ch n k+ch n (k+1):=rfl
  rw [e1,nj,h2,show k+1+1=(k+1)+1 from rfl,k_ (k+1) 1,h1,pj,k_ (n+1) 1,pj]
  conv=>rhs;rw [e2,nj]
  omega
theorem AWT {p k:Nat} (hp:Num.Prime p) (h0:0<k) (h1:k<p):p∣ch p k:=by
 obtain ⟨q,rfl⟩:∃ q,p=q+1:=⟨p-1,dk⟩
 obtain ⟨j,rfl⟩:∃ j,k=j+1:=⟨k-1,dk⟩
 have h:=eK q j;have hd:q+1∣(j+1)*ch (q+1) (j+1):=⟨_,h⟩
 rcases hp.dvd_mul hd with e | e
 ·exact absurd (l_ dk e) dk
 ·exact e
section
variable {F:Type} [CR F]
def bE (x y:F):Nat→(Nat→Nat)→F
 | 0,f=>CG (f 0)
 | n+1,f=>CG (f 0)*pw y (n+1)+x*bE x y n fun k=>f (k+1)
theorem LS (x:F) (n:Nat):pw x (n+1)=pw x n*x:=rfl
theorem AWU:(CG 0:F)=0:=rfl
theorem AGM (x y:F):∀ (n:Nat) (d f:Nat→Nat),(∀ k,d (k+1)=f k)→f (n+1)=0→bE x y (n+1) (fun k=>d k+f k)=CG (d 0)*pw y (n+1)+(x+y)*bE x y n f
 | 0,d,f,h1,h2=>by
  simp only [bE,pw];rw [h1 0,h2,N4,nl];exact ring [CG (d 0),CG (f 0),x,y] dj
 | n+1,d,f,h1,h2=>by
  have ih:=AGM x y n (fun k=>d (k+1)) (fun k=>f (k+1)) (fun k=>h1 (k+1)) h2
  simp only [bE] at ih ⊢;rw [ih,h1 0,N4,LS y (n+1)];generalize pw y (n+1)=Y
  exact ring [CG (d 0),CG (f 0),x,y,Y,bE x y n fun k=>f (k+1)] dj
theorem AGN (x y:F):∀ n,pw (x+y) n=bE x y n (ch n)
 | 0=>(zero_add 1).symm
 | n+1=>by
  have h:=AGM x y n (fun k=>match k with | 0=>0 | k+1=>ch n k) (ch n) (fun _=>rfl) (eJ (Nat.lt_succ_self n))
  have e:(fun k=>(match k with | 0=>0 | k+1=>ch n k)+ch n k)=ch (n+1):=by
   funext k
   cases k with
   | zero=>cases n<;>rfl
   | succ k=>rfl
  rw [e] at h;rw [h,LS,AGN x y n,AWU,zero_mul,zero_add,mul_comm]
theorem AGO (x y:F):∀ (n:Nat) (f:Nat→Nat),(∀ k,k<n→(CG (f k):F)=0)→bE x y n f=CG (f n)*pw x n
 | 0,f,_=>(mul_one _).symm
 | n+1,f,h=>by
  simp only [bE];rw [AGO x y n _ fun k hk=>h (k+1) dk,h 0 dk,LS x n,zero_mul,zero_add]
  generalize pw x n=X
  exact ring [CG (f (n+1)),x,X] dj
theorem AWV {p m:Nat} (h0:(CG p:F)=0) (h:p∣m):(CG m:F)=0:=by
 obtain ⟨c,rfl⟩:=h;rw [Xx,h0,zero_mul]
theorem AWW {p:Nat} (hp:Num.Prime p) (h0:(CG p:F)=0) (x y:F):pw (x+y) p=pw x p+pw y p:=by
 have h2:=hp.1;obtain ⟨q,rfl⟩:∃ q,p=q+1:=⟨p-1,dk⟩
 rw [AGN];simp only [bE];rw [AGO x y q _ fun k hk=>AWV h0 (AWT hp dk dk),AGL,LS x q]
 have e:(CG (ch (q+1) 0):F)=1:=by show (0:F)+1=1;exact zero_add 1
 have e1:(CG 1:F)=1:=zero_add 1
 rw [e,e1];generalize pw y (q+1)=Y
 generalize pw x q=X
 exact ring [x,X,Y] dj
end
end Go.Proofs.YtgnajdcdcblaoaaGreat.Rg
namespace Go.Proofs.YtgnajdcdcblaoaaGreat
open Ex Num Rg
class Sh (α:Type) where
 R:Type
 n:Nat
 av:R→List Ch
 rd:List Ch→Option R
 mo:R→α
 en:α→R
 mo_en:∀ x,mo (en x)=x
 rd_ok:∀ {β β':Env} {cs:List Ch} {l:List Value} {r:R},rd cs=some r→AQ β cs l→AQ β' (av r) l
open Sh (R av rd mo en mo_en)
def Bw {α:Type}:List α→List α→List α
 | [],l=>l
 | x::r,l=>x::Bw r l
theorem AGP {α:Type}:∀ a b:List α,Bw a b=a++b
 | [],_=>rfl
 | x::r,b=>by simp [Bw,AGP r b]
def OF {A B:Type} (n:Nat) (f:List Ch→Option A) (g:List Ch→Option B) (cs:List Ch):Option (A×B):=match GG cs n with
 | some (a,r)=>match f a,g r with
  | some x,some y=>some (x,y)
  | _,_=>none
 | none=>none
theorem Ry {A B:Type} {n:Nat} {f:List Ch→Option A} {g:List Ch→Option B} {p:A→List Ch} {q:B→List Ch} {β β':Env} (hf:∀ {cs l r},f cs=some r→AQ β cs l→AQ β' (p r) l) (hg:∀ {cs l r},g cs=some r→AQ β cs l→AQ β' (q r) l)
  {cs:List Ch} {l:List Value} {r:A×B} (h:OF n f g cs=some r) (hl:AQ β cs l):AQ β' (Bw (p r.1) (q r.2)) l:=by
 unfold OF at h;split at h;case h_2=>cases h
 rename_i a t h1;split at h;case h_2=>cases h
 rename_i x y h2 h3;injection h with h;subst h;obtain ⟨q1,q2,_⟩:=I2 h1 hl;rw [AGP,← my n l];exact O7 (hf h2 q1) (hg h3 q2)
instance shFP:Sh FP where
 R:=Nat
 n:=6
 av x:=[.num 6 x]
 rd:=DL 6
 mo:=tf
 en:=Fin.val
 mo_en:=CL
 rd_ok:=GQ
def vJ (cs:List Ch):Option Bool:=match cs with
 | [.b x]=>some x
 | [.v (.bool x)]=>some x
 | _=>none
instance shB:Sh Bool where
 R:=Bool
 n:=1
 av x:=[.v (.bool x)]
 rd:=vJ
 mo x:=x
 en x:=x
 mo_en _:=rfl
 rd_ok {β β' cs l r} h hl:=by
  unfold vJ at h;split at h
  ·injection h with h;subst h;obtain ⟨l1,l2,h1,h2,h3⟩:=hl;exact ⟨l1,l2,⟨h1,rfl,trivial⟩,h2,h3⟩
  ·injection h with h;subst h;obtain ⟨l1,l2,h1,h2,h3⟩:=hl;exact ⟨l1,l2,h1,h2,h3⟩
  ·cases h
section
variable {F:Type} [Sh F]
instance shQ [CR F] {β:F}:Sh (Qx β) where
 R:=R F×R F
 n:=Sh.n F+Sh.n F
 av r:=Bw (av r.1) (av r.2)
 rd:=OF (Sh.n F) rd rd
 mo r:=⟨mo r.1,mo r.2⟩
 en x:=(en x.a,en x.b)
 mo_en _:=Qx.ext (mo_en _) (mo_en _)
 rd_ok:=Ry Sh.rd_ok Sh.rd_ok
instance shK [CR F] {ξ:F}:Sh (Kx ξ) where
 R:=R F×R F×R F
 n:=Sh.n F+(Sh.n F+Sh.n F)
 av r:=Bw (av r.1) (Bw (av r.2.1) (av r.2.2))
 rd:=OF (Sh.n F) rd (OF (Sh.n F) rd rd)
 mo r:=⟨mo r.1,mo r.2.1,mo r.2.2⟩
 en x:=(en x.a,en x.b,en x.c)
 mo_en _:=Kx.ext (mo_en _) (mo_en _) (mo_en _)
 rd_ok:=Ry (q:=fun r:R F×R F=>Bw (av r.1) (av r.2)) Sh.rd_ok (Ry Sh.rd_ok Sh.rd_ok)
instance shJ:Sh (J F) where
 R:=R F×R F×R F
 n:=Sh.n F+(Sh.n F+Sh.n F)
 av r:=Bw (av r.1) (Bw (av r.2.1) (av r.2.2))
 rd:=OF (Sh.n F) rd (OF (Sh.n F) rd rd)
 mo r:=⟨mo r.1,mo r.2.1,mo r.2.2⟩
 en x:=(en x.x,en x.y,en x.z)
 mo_en x:=by cases x;simp only [mo_en]
 rd_ok:=Ry (q:=fun r:R F×R F=>Bw (av r.1) (av r.2)) Sh.rd_ok (Ry Sh.rd_ok Sh.rd_ok)
def vK (x y:F) (i:Bool):Pt F:=match i with
 | true=>.inf
 | false=>.pt x y
def Mw [Zero F]:Pt F→F
 | .inf=>0
 | .pt x _=>x
def J' [Zero F]:Pt F→F
 | .inf=>0
 | .pt _ y=>y
def E4:Pt F→Bool
 | .inf=>true
 | .pt _ _=>false
instance shP [Zero F]:Sh (Pt F) where
 R:=R F×R F×Bool
 n:=Sh.n F+(Sh.n F+1)
 av r:=Bw (av r.1) (Bw (av r.2.1) (av (α:=Bool) r.2.2))
 rd:=OF (Sh.n F) rd (OF (Sh.n F) rd vJ)
 mo r:=vK (mo r.1) (mo r.2.1) r.2.2
 en p:=(en (Mw p),en (J' p),E4 p)
 mo_en p:=by cases p<;>simp only [Mw,J',E4,vK,mo_en]
 rd_ok:=Ry (q:=fun r:R F×Bool=>Bw (av r.1) (av (α:=Bool) r.2)) Sh.rd_ok (Ry Sh.rd_ok shB.rd_ok)
end
def va (α:Type) [Sh α] (r:R α):AV:=.val true (av r)
def ve {α:Type} [Sh α] (x:α):AV:=va α (en x)
section
variable (α β γ:Type) [Sh α] [Sh β] [Sh γ]
def ad [Add α] (r s:R α):R α:=en (mo r+mo s:α)
def su [Sub α] (r s:R α):R α:=en (mo r-mo s:α)
def mu [Mul α] (r s:R α):R α:=en (mo r*mo s:α)
def ng [Neg α] (r:R α):R α:=en (- mo r:α)
def iv [FD α] (r:R α):R α:=en (FD.inv (mo r:α))
def re (r:R α):R α:=en (mo r:α)
def Bi (g:R α→AV):List AV→Option AV
 | [.val true a]=>match rd a with
  | some r=>some (g r)
  | none=>none
 | _=>none
def DW (g:R α→R β→AV):List AV→Option AV
 | [.val true a,.val true b]=>match rd a,rd b with
  | some r,some s=>some (g r s)
  | _,_=>none
 | _=>none
def U2 (g:R α→R β→R γ→AV):List AV→Option AV
 | [.val true a,.val true b,.val true c]=>match rd a,rd b,rd c with
  | some r,some s,some t=>some (g r s t)
  | _,_,_=>none
 | _=>none
end
section
variable {α β γ:Type} [Sh α] [Sh β] [Sh γ] {P:Program} {f:FuncId}
theorem F_ {b b':Env} {a:List Ch} {r:R α} {u:Value} (h:rd a=some r) (hr:AN b (.val true a) u):AN b' (va α r) u:=by
 obtain ⟨l,hl,rfl⟩:=hr;exact ⟨l,Sh.rd_ok h hl,rfl⟩
theorem E5 {args:List AV} {cs:List Ch} {r:R α} (h:AU P f args (.val true cs)) (hc:rd cs=some r):AU P f args (va α r):=C3 h fun _ hu=>F_ hc hu
theorem Bm {g:R α→AV} (h:∀ r,AU P f [va α r] (g r)):∀ args v,Bi α g args=some v→AU P f args v:=by
 intro args v hs us w ha;unfold Bi at hs;split at hs;case h_2=>cases hs
 split at hs;case h_2=>cases hs
 rename_i r h1;injection hs with hs;subst hs;obtain ⟨u1,iu,r1,ha,rfl⟩:=ha;exact h r _ w ⟨u1,_,F_ h1 r1,ha,rfl⟩
theorem Dy {g:R α→R β→AV} (h:∀ r s,AU P f [va α r,va β s] (g r s)):∀ args v,DW α β g args=some v→AU P f args v:=by
 intro args v hs us w ha;unfold DW at hs;split at hs;case h_2=>cases hs
 split at hs;case h_2=>cases hs
 rename_i r s h1 h2;injection hs with hs;subst hs;obtain ⟨u1,iu,r1,⟨u2,iw,r2,ha,rfl⟩,rfl⟩:=ha;exact h r s _ w ⟨u1,_,F_ h1 r1,⟨u2,_,F_ h2 r2,ha,rfl⟩,rfl⟩
theorem eM {g:R α→R β→R γ→AV} (h:∀ r s t,AU P f [va α r,va β s,va γ t] (g r s t)):∀ args v,U2 α β γ g args=some v→AU P f args v:=by
 intro args v hs us w ha;unfold U2 at hs;split at hs;case h_2=>cases hs
 split at hs;case h_2=>cases hs
 rename_i r s t h1 h2 h3;injection hs with hs;subst hs;obtain ⟨u1,iu,r1,⟨u2,iw,r2,⟨u3,us3,r3,ha,rfl⟩,rfl⟩,rfl⟩:=ha;exact h r s t _ w ⟨u1,_,F_ h1 r1,⟨u2,_,F_ h2 r2,⟨u3,_,F_ h3 r3,ha,rfl⟩,rfl⟩,rfl⟩
end
open Ex Num Rg
open Sh (R av rd mo en mo_en)
theorem adN (x y:Nat):EP x y=ad FP x y:=Ps (cC x y) (J4 x y)
theorem suN (x y:Nat):Es x y=su FP x y:=Ps (H3 x y) (Hz x y)
theorem muN (x y:Nat):Ah x y=mu FP x y:=Ps (Mm x y) (CZ x y)
theorem ngN (x:Nat):DC x=ng FP x:=Ps (bM x) (cB x)
theorem AWX (x:Nat):tf (Bz x)=N6 (tf x):=by
 have e:Bz x=Bz (x % pN):=by
  unfold Bz;rw [LI,LI];exact nz x (pN-2) pN
 rw [e];unfold N6;exact jl (fun y=>tf (Bz y)) (show x % pN=(tf x).val from rfl)
theorem AWY (x:R FP):iv FP x=(N6 (tf x)).val:=rfl
theorem ivN (x:Nat):Bz x=iv FP x:=(Ps (AES x) (AWX x)).trans (AWY x).symm
theorem AWZ (x:Nat):a7 [Aa x]=some (Aa (x % pN)):=dj
theorem AWa (r:R FP):AU dm 110 [va FP r] (va FP (re FP r)):=ADO _ _ (AWZ r)
noncomputable def SH1:dr:=(110,Ac (Bi FP fun r=>va FP (re FP r)))::(61,Ac (DW FP FP fun r s=>va FP (ad FP r s)))::(74,Ac (DW FP FP fun r s=>va FP (su FP r s)))::(63,Ac (Bi FP fun r=>va FP (ng FP r)))::(62,Ac (DW FP FP fun r s=>va FP (mu FP r s)))::(75,Ac (Bi FP fun r=>va FP (iv FP r)))::(141,Ac (GP fun r=>va FP (re FP r)))::(68,Ac (DW FP FP fun r s=>va FP (ad FP r s)))::(83,Ac (DW FP FP fun r s=>va FP (su FP r s)))::(70,Ac (Bi FP fun r=>va FP (ng FP r)))::(66,Ac (DW FP FP fun r s=>va FP (mu FP r s)))::(161,Ac (Bi FP fun r=>va FP (iv FP r)))::SIe
theorem vL:AW dm SH1:=⟨Ad func110 dj dj (Bm AWa),Ad func61 dj dj (Dy fun r s=>by rw [← adN];exact ADQ r s),Ad func74 dj dj (Dy fun r s=>by rw [← suN];exact ADT r s),Ad func63 dj dj (Bm fun r=>by rw [← ngN];exact ADR r),Ad func62 dj dj (Dy fun r s=>by rw [← muN];exact ADg r s),Ad func75 dj dj (Bm fun r=>by rw [← ivN];exact AEX r),Ad func141 dj dj (HI fun r h=>AE2 h),Ad func68 dj dj (Dy fun r s=>by rw [← adN];exact AE8 r s),Ad func83 dj dj (Dy fun r s=>by rw [← suN];exact AE_ r s),Ad func70 dj dj (Bm fun r=>by rw [← ngN];exact AE9 r),Ad func66 dj dj (Dy fun r s=>by rw [← muN];exact AFE r s),Ad func161 dj dj (Bm fun r=>by rw [← ivN];exact AFQ r),AGK⟩
theorem YC {k m:Nat} (hk:(pN-1) / k*k=pN-1) (ik:Nat.blt ((pN-1) / k) RR=true) (h0:0<m) (hc:Nat.beq (Pd pN m 384 ((pN-1) / k)) 1=false) (hk0:0<k) (x:Nat):x^k % pN≠m:=by
 intro h;have hnd:¬ pN∣x:=fun hd=>by
  have:x^k % pN=0:=by
   obtain ⟨c,hcc⟩:=hd;obtain ⟨j,rfl⟩:∃ j,k=j+1:=⟨k-1,dk⟩
   rw [hcc,kt,jy,kx,Nat.mul_mod_right]
  omega
 have hf:=RV pN_prime hnd;rw [← hk,jy,pq,nz,h,← rF pN 384 m ((pN-1) / k) (by rw [ADp];exact Bf.1 ik)] at hf
 rw [hf] at hc;cases hc
theorem AWb {a b:Nat} (h:Nat.beq (a % pN) (b % pN)=true):tf a=tf b:=Rk.2 (Ar.1 h)
theorem vN {m:Nat} (h:∀ x:Nat,x^2 % pN≠m) (hm:m<pN) (x:FP):x*x≠tf m:=fun e=>by
 refine h x.val ?_
 have:tf (x.val^2)=tf m:=by rw [r_,Pj,CL];exact e
 rw [Rk,jk hm] at this;exact this
theorem AGV {m:Nat} (h:∀ x:Nat,x^3 % pN≠m) (hm:m<pN) (x:FP):x*x*x≠tf m:=fun e=>by
 refine h x.val ?_
 have:tf (x.val^3)=tf m:=by rw [kt,r_,Pj,Pj,CL];exact e
 rw [Rk,jk hm] at this;exact this
theorem k2:(pN-1) / 2*2=pN-1:=dj
theorem vO:Nat.blt ((pN-1) / 2) RR=true:=dj
theorem AWc:Nat.blt (pN-1) pN=true:=dj
theorem AWd:Nat.blt 0 (pN-1)=true:=dj
theorem AWe:tf (pN-1)=-1:=by
 have h:tf (pN-1)+1=0:=by rw [← EB,← Gz,cD];kernel_rfl
 exact J6 (by rw [Rg.add_comm];exact h)
theorem AGW (x:FP):x*x≠-1:=by
 rw [← AWe];exact vN (YC k2 vO (Bf.1 AWd) dj dl) (Bf.1 AWc) x
theorem AWf (x:FP):x*x≠tf 2:=vN (YC k2 vO dl dj dl) dl x
theorem AWg (x:FP):x*x*x≠tf 2:=AGV (YC p3 uK dl dj dl) dl x
theorem AWh (x:FP):x*x*x≠tf 32:=AGV (YC p3 uK dl dj dl) dl x
abbrev gj:Type:=Qx (-1:FP)
noncomputable instance fdFP2:FD gj:=fdQ AGW
noncomputable def xi:gj:=⟨1,1⟩
theorem AGX:(xi:gj).nrm=tf 2:=by
 show (1:FP)*1 - -1*(1*1)=tf 2;rw [show tf 2=(1:FP)+1 from by rw [← EB,← Gz]]
 exact ring (F:=FP) [] dj
theorem AWi (x:gj):x*x*x≠xi:=fun e=>AWg x.nrm (((Qx.nrm_mul (x*x) x).trans (by rw [Qx.nrm_mul])).symm.trans ((jl Qx.nrm e).trans AGX))
theorem AWj (x:gj):x*x≠xi:=fun e=>AWf x.nrm ((Qx.nrm_mul x x).symm.trans ((jl Qx.nrm e).trans AGX))
abbrev gl:Type:=Kx xi
noncomputable instance fdFP6:FD gl:=fdK AWi
noncomputable def vv:gl:=⟨0,1,0⟩
theorem AWk:(vv:gl).nrm=xi:=by
 show (0:gj)*(0*0-xi*(1*0))+xi*(0*(xi*(0*0)-0*1)+1*(1*1-0*0))=xi;exact ring [xi] dj
theorem AWl (x:gl):x*x≠vv:=fun e=>AWj x.nrm ((Kx.nrm_mul x x).symm.trans ((jl Kx.nrm e).trans AWk))
abbrev gk:Type:=Qx vv
noncomputable instance fdFP12:FD gk:=fdQ AWl
noncomputable def KA:gj:=⟨D4,D4⟩
theorem AWm:D4*D4 - -1*(D4*D4)=tf 32:=by
 have e:D4*D4=tf 16:=(Pj 4 4).symm
 have e2:tf 16+tf 16=tf 32:=(Gz 16 16).symm
 rw [e,← e2];exact ring [tf 16] dj
noncomputable def C2:Cv gj where
 b:=KA
 two:=fun h=>C1.two (by
  have:=jl Qx.a h
  exact this)
 no2:=fun x y h hy=>by
  subst hy;have h1:x*x*x=-KA:=J6 (by rw [Rg.add_comm,← h];exact mul_zero 0)
  refine AWh x.nrm ?_
  rw [← Qx.nrm_mul,← Qx.nrm_mul,h1,← AWm];show -D4*-D4 - -1*(-D4*-D4)=_;exact ring [D4] dj
theorem AGY:∀ n,(CG n:FP)=tf n
 | 0=>tf_zero.symm
 | n+1=>by rw [Gz,EB,← AGY n];rfl
theorem AWn:(CG pN:FP)=0:=by rw [AGY];exact rL
noncomputable def C4 (x:FP):Bool:=Cq x.val
noncomputable def Cr (x:FP):FP:=tf (D_ x.val)
def OG (x:FP):Bool:=Nat.beq (x.val % 2) 1
theorem OH {x:FP} (h:C4 x=true):Cr x*Cr x=x:=by
 obtain ⟨h1,_,_⟩:=rU h;unfold Cr;rw [← CZ,h1,Pi,CL]
theorem Mx {x y:FP} (h:y*y=x):C4 x=true:=by
 unfold C4;by_cases h0:x.val % pN=0
 ·exact AQa h0
 ·refine (AD1 h0).2 ?_
  have hx:x.val=y.val*y.val % pN:=by rw [← h];rfl
  unfold Nt;rw [hx,← nz,← r_,← pq,jy 2,k2];refine RV pN_prime fun hd=>h0 ?_
  obtain ⟨c,hc⟩:=hd;rw [hx,hc,m_,kx,Nat.mul_mod_right]
theorem AGZ {x:FP}:C4 x=true↔∃ y,y*y=x:=⟨fun h=>⟨_,OH h⟩,fun ⟨_,h⟩=>Mx h⟩
theorem eN {x y:FP} (h:x*x=y*y):x=y∨x=-y:=by
 have e:(x-y)*(x+y)=0:=by
  have:(x-y)*(x+y)=x*x-y*y:=ring [x,y] dj
  rw [this,h,sub_self]
 rcases Ur e with e | e
 ·exact .inl (AZ.1 e)
 ·exact .inr (J6 (by rw [Rg.add_comm];exact e))
theorem AWo {x:FP} (h:x≠0):(-x).val=pN-x.val:=by
 have hx:x.val≠0:=fun e=>h (X6.1 e)
 have h1:tf (pN-x.val)=-x:=by
  have:=cB x.val
  rw [CL] at this;unfold DC at this;rw [jk x.isLt,Pi] at this;exact this
 rw [← h1,HN (by have:=x.isLt;omega)]
theorem AGa {x:FP} (h:x≠0):OG (-x)=!OG x:=by
 have hx:x.val≠0:=fun e=>h (X6.1 e)
 unfold OG;rw [AWo h];have:=x.isLt
 have ho:=XQ;have:(pN-x.val) % 2=(1+x.val % 2) % 2:=dk
 rw [this];rcases nf x.val with e | e<;>rw [e]<;>rfl
noncomputable def C8 (a:gj):Bool:=if a.a=0 then OG a.b else OG a.a
theorem U3 {x:FP}:-x=0↔x=0:=⟨fun h=>by rw [← neg_neg x,h,HL],fun h=>by rw [h,HL]⟩
theorem eO {a:gj} (h:a≠0):C8 (-a)=!C8 a:=by
 unfold C8;show (if -a.a=0 then OG (-a.b) else OG (-a.a))=_
 by_cases h1:a.a=0
 ·rw [je (U3.2 h1),je h1];exact AGa fun e=>h (Qx.ext h1 e)
 ·rw [jd fun e=>h1 (U3.1 e),jd h1]
  exact AGa h1
theorem AGb {x y:gj} (h:x*x=y*y):x=y∨x=-y:=by
 have e:(x-y)*(x+y)=0:=by
  have:(x-y)*(x+y)=x*x-y*y:=ring [x,y] dj
  rw [this,h,sub_self]
 rcases Ur e with e | e
 ·exact .inl (AZ.1 e)
 ·exact .inr (J6 (by rw [Rg.add_comm];exact e))
noncomputable def Cs (a:gj):Bool:=@decide (∃ s:gj,s*s=a) (Classical.propDecidable _)
theorem Ih {a:gj}:Cs a=true↔∃ s:gj,s*s=a:=@decide_eq_true_iff _ (Classical.propDecidable _)
theorem eP (a:gj):∃ x:gj,(Cs a=true→x*x=a∧C8 x=false)∧(Cs a=false→x=0):=by
 cases h:Cs a with
 | false=>exact ⟨0,(fun e=>by cases e),fun _=>rfl⟩
 | true =>
  obtain ⟨s,hs⟩:=Ih.1 h;cases hg:C8 s with
  | false=>exact ⟨s,fun _=>⟨hs,hg⟩,(fun e=>by cases e)⟩
  | true =>
   refine ⟨-s,fun _=>⟨?_,?_⟩,(fun e=>by cases e)⟩
   ·rw [← hs];exact ring [s] dj
   ·rw [eO,hg];rfl
    intro e;rw [e] at hg;have:C8 0=false:=je rfl
    rw [this] at hg;cases hg
noncomputable def E6 (a:gj):gj:=Classical.choose (eP a)
theorem AGc {a:gj} (h:Cs a=true):E6 a*E6 a=a:=((kq (eP a)).1 h).1
theorem AWp {a:gj} (h:Cs a=true):C8 (E6 a)=false:=((kq (eP a)).1 h).2
theorem AWq {a:gj} (h:Cs a=false):E6 a=0:=(kq (eP a)).2 h
theorem AWr {a s:gj} (h:s*s=a) (hg:C8 s=false):E6 a=s:=by
 have hi:=Ih.2 ⟨s,h⟩
 rcases AGb ((AGc hi).trans h.symm) with e | e
 ·exact e
 ·by_cases h0:s=0
  ·rw [e,h0,HL]
  ·have:=AWp hi
   rw [e,eO h0,hg] at this;cases this
theorem AGd:∀ (x:FP) (n:Nat),(pw x n).val=x.val^n % pN
 | x,0=>(jk (by decide:1<pN)).symm
 | x,n+1=>by
  show ((pw x n).val*x.val) % pN=_;rw [AGd x n,qa,← kt]
theorem AGe (x:FP):pw x pN=x:=by
 rw [pu,AGd,← LI,show DD x.val pN=x.val % pN from ?_]
 ·exact jk x.isLt
 ·rw [LI];have e:pN=(pN-1)+1:=by have:=rS;omega
  by_cases h:x.val % pN=0
  ·rw [nz,h,Nat.zero_pow DB,oz]
  ·have hf:=RV pN_prime (a:=x.val) fun hd=>h (qo hd)
   rw [show x.val^pN=x.val^(pN-1)*x.val by rw [← kt,Nat.succ_eq_add_one,← e],kj,hf,pj,m_]
def My (x:FP):gj:=⟨x,0⟩
theorem AWs (x y:FP):My (x*y)=My x*My y:=Qx.ext (ring [x,y] (a:=x*y) (b:=x*y+-1*(0*0)) dj) (ring [x,y] (a:=0) (b:=x*0+0*y) dj)
theorem vP (x:FP):∀ n,pw (My x) n=My (pw x n)
 | 0=>rfl
 | n+1=>by simp only [pw];rw [vP x n,← AWs]
theorem AGf:∀ n,(CG n:gj)=My (CG n)
 | 0=>rfl
 | n+1=>by
  show CG n+1=_;rw [AGf n];exact Qx.ext rfl (add_zero _)
theorem AWt:(CG pN:gj)=0:=by rw [AGf,AWn];rfl
def uu:gj:=⟨0,1⟩
theorem AGg:uu*uu=-1:=Qx.ext (ring (F:=FP) [] (a:=0*0+-1*(1*1)) (b:=-1) dj) (ring (F:=FP) [] (a:=0*1+1*0) (b:=-0) dj)
theorem AWu:pw uu pN=-uu:=by
 have e:pN=2*(2*((pN-3) / 4)+1)+1:=dj
 refine (jl (pw uu) e).trans ?_
 rw [LS,c9,show pw uu 2=-1 from by show 1*uu*uu=-1;rw [Rg.one_mul,AGg],LS,c9,show pw (-1:gj) 2=1 from ring (F:=gj) [] (a:=1*-1*-1) dj]
 have one:∀ n,pw (1:gj) n=1:=by
  intro n;induction n with
  | zero=>rfl
  | succ n ih=>rw [LS,ih,Rg.one_mul]
 rw [one];exact ring [uu] dj
theorem AGh (a:gj):pw a pN=Qx.conj a:=by
 have e:a=My a.a+My a.b*uu:=Qx.ext (ring [a.a,a.b] (a:=a.a) (b:=a.a+(a.b*0+-1*(0*1))) dj) (ring [a.a,a.b] (a:=a.b) (b:=0+(a.b*1+0*0)) dj)
 have h:=AWW pN_prime AWt (My a.a) (My a.b*uu)
 rw [← e,Rg.pw_mul,vP,vP,AGe,AGe,AWu] at h;rw [h];exact Qx.ext (ring [a.a,a.b] (a:=a.a+(a.b*-0+-1*(0*-1))) (b:=a.a) dj) (ring [a.a,a.b] (a:=0+(a.b*-1+0*-0)) (b:=-a.b) dj)
theorem AWv:C8 0=false:=je rfl
theorem AGi {a s:gj} (h:s*s=a) (hg:C8 s=false):s=E6 a∧Cs a=true:=⟨(AWr h hg).symm,Ih.2 ⟨s,h⟩⟩
noncomputable def KB (x:gj):gj:=if C8 x=true then -x else x
theorem AGj (x:gj):C8 (KB x)=false:=by
 unfold KB;by_cases h:C8 x=true
 ·rw [je h,eO (fun e=>by rw [e,AWv] at h;cases h),h];rfl
 ·rw [jd h];cases hq:C8 x with | false=>rfl | true=>exact absurd hq h
theorem vQ (x:gj):KB x*KB x=x*x:=by
 unfold KB;split
 ·exact ring [x] dj
 ·rfl
noncomputable def DE (h:FP) (a:gj) (n:FP):FP:=Cr ((a.a+n)*h)
noncomputable def Mz (h:FP) (a:gj) (n:FP):FP:=if DE h a n=0 then Cr (-a.a) else a.b*h*FD.inv (DE h a n)
noncomputable def JS (h:FP) (a:gj) (n:FP):gj:=KB ⟨DE h a n,Mz h a n⟩
noncomputable def F' (h:FP) (a:gj) (n:FP):Bool:=(if DE h a n=0 then C4 (-a.a) else C4 ((a.a+n)*h))&&decide (JS h a n*JS h a n=a)
theorem AWw {h:FP} {a:gj} {n:FP} (ht:F' h a n=true):JS h a n=E6 a∧Cs a=true:=by
 unfold F' at ht;exact AGi (jx (jo.1 ht).2) (AGj _)
theorem AWx {x:FP} (h:x*x=0):x=0:=(Ur h).elim id id
theorem AGk {h:FP} (hh:h+h=1) {a s:gj} (hs:s*s=a) {n:FP} (hn:n=s.a*s.a+s.b*s.b):F' h a n=true:=by
 have ea:a.a=s.a*s.a-s.b*s.b:=by rw [← hs];exact ring [s.a,s.b] (a:=s.a*s.a+-1*(s.b*s.b)) dj
 have eb:a.b=s.a*s.b+s.b*s.a:=by rw [← hs];rfl
 have h1:(a.a+n)*h=s.a*s.a:=by
  rw [ea,hn];exact (ring [s.a,s.b,h] (a:=(s.a*s.a-s.b*s.b+(s.a*s.a+s.b*s.b))*h) (b:=s.a*s.a*(h+h)) dj).trans (by rw [hh,Rg.mul_one])
 have hi:C4 ((a.a+n)*h)=true:=Mx h1.symm
 have hx:=OH hi;rw [h1] at hx;have hX:DE h a n*DE h a n=s.a*s.a:=by unfold DE;rw [h1];exact hx
 have fin:∀ y,(DE h a n=s.a∧y=s.b)∨(DE h a n=-s.a∧y=-s.b)∨(DE h a n=s.a∧s.a=0∧y=-s.b)→(⟨DE h a n,y⟩:gj)*⟨DE h a n,y⟩=a:=by
  intro y hy;rcases hy with ⟨e1,e2⟩ | ⟨e1,e2⟩ | ⟨e1,e0,e2⟩
  ·rw [e1,e2];exact hs
  ·rw [e1,e2];have e:(⟨-s.a,-s.b⟩:gj)=-s:=rfl
   rw [e,← hs];exact ring [s] dj
  ·rw [e1,e2];have e:(⟨s.a,-s.b⟩:gj)=-s:=Qx.ext (by show s.a=-s.a;rw [e0,HL]) rfl
   rw [e,← hs];exact ring [s] dj
 unfold F';by_cases h0:DE h a n=0
 ·have s0:s.a=0:=by
   rw [h0,mul_zero] at hX;exact AWx hX.symm
  have e2:s.b*s.b=-a.a:=by rw [ea,s0];exact ring [s.b] dj
  rw [je h0,Mx e2];refine jo.2 ⟨rfl,jc ?_⟩
  unfold JS;rw [vQ];refine fin _ ?_
  unfold Mz;rw [je h0];rcases eN ((OH (Mx e2)).trans e2.symm) with e | e
  ·exact .inl ⟨by rw [h0,s0],e⟩
  ·exact .inr (.inr ⟨by rw [h0,s0],s0,e⟩)
 ·rw [jd h0,hi];refine jo.2 ⟨rfl,jc ?_⟩
  unfold JS;rw [vQ];refine fin _ ?_
  have hy:Mz h a n=s.a*s.b*FD.inv (DE h a n):=by
   unfold Mz;rw [jd h0,eb];congr 1
   exact (ring [s.a,s.b,h] (a:=(s.a*s.b+s.b*s.a)*h) (b:=s.a*s.b*(h+h)) dj).trans (by rw [hh,Rg.mul_one])
  have hv:=FD.mul_inv (DE h a n) h0
  rcases eN hX with e | e
  ·refine .inl ⟨e,?_⟩
   rw [hy]
   calc s.a*s.b*FD.inv (DE h a n)=s.b*(s.a*FD.inv (DE h a n)):=ring [s.a,s.b,FD.inv (DE h a n)] dj
    _=s.b:=by rw [← e,hv,Rg.mul_one]
  ·refine .inr (.inl ⟨e,?_⟩)
   rw [hy]
   calc s.a*s.b*FD.inv (DE h a n)=-s.b*(-s.a*FD.inv (DE h a n)):=ring [s.a,s.b,FD.inv (DE h a n)] dj
    _=-s.b:=by rw [← e,hv,Rg.mul_one]
theorem AGl {a s:gj} (hs:s*s=a):(s.a*s.a+s.b*s.b)*(s.a*s.a+s.b*s.b)=a.a*a.a+a.b*a.b:=by
 rw [← hs];exact ring [s.a,s.b] (b:=(s.a*s.a+-1*(s.b*s.b))*(s.a*s.a+-1*(s.b*s.b))+(s.a*s.b+s.b*s.a)*(s.a*s.b+s.b*s.a)) dj
noncomputable def GA (a:gj):FP:=a.a*a.a+a.b*a.b
theorem AWy {a:gj} (h:C4 (GA a)=false):Cs a=false:=by
 cases hi:Cs a with
 | false=>rfl
 | true =>
  obtain ⟨s,hs⟩:=Ih.1 hi;have:=Mx (AGl hs)
  unfold GA at h;rw [this] at h;cases h
theorem AWz {h:FP} (hh:h+h=1) {a:gj} (hi:C4 (GA a)=true) (h1:F' h a (Cr (GA a))=false) (h2:F' h a (-Cr (GA a))=false):Cs a=false:=by
 cases hq:Cs a with
 | false=>rfl
 | true =>
  obtain ⟨s,hs⟩:=Ih.1 hq;rcases eN ((OH hi).trans (AGl hs).symm) with e | e
  ·rw [AGk hh hs e] at h1;cases h1
  ·rw [AGk hh hs (n:=-Cr (GA a)) (by rw [e];exact neg_neg _)] at h2;cases h2
noncomputable def OI (a:gj):gj:=pw a ((pN-3) / 4)
noncomputable def E7 (a:gj):gj:=OI a*a
noncomputable def C9 (a:gj):gj:=OI a*E7 a
noncomputable def G4 (a:gj):gj:=if C9 a=-1 then E7 a*uu else pw (1+C9 a) ((pN-1) / 2)*E7 a
theorem AW0 {n:Nat} (h:0<n):pw (0:gj) n=0:=by
 obtain ⟨m,rfl⟩:∃ m,n=m+1:=⟨n-1,dk⟩
 rw [LS,mul_zero]
theorem e4:(pN-3) / 4*4+3=pN:=dj
theorem e2':(pN-1) / 2*2+1=pN:=dj
theorem AW2:Nat.blt 0 ((pN-3) / 4)=true:=dj
theorem AW3 {s c:gj} (hs:s≠0) (h:c*s=Qx.conj s):c*Qx.conj c=1:=by
 have h2:Qx.conj c*Qx.conj s=s:=by
  rw [← Qx.conj_mul,h];exact Qx.ext rfl (neg_neg _)
 have hcs:Qx.conj s≠0:=fun e=>hs (by
  have h1:s.a=0:=jl Qx.a e
  have h2:-s.b=0:=jl Qx.b e
  exact Qx.ext h1 (U3.1 h2))
 have e:(s*Qx.conj s)*(c*Qx.conj c)=(s*Qx.conj s)*1:=by
  calc (s*Qx.conj s)*(c*Qx.conj c)=(c*s)*(Qx.conj c*Qx.conj s):=ring [s,c,Qx.conj s,Qx.conj c] dj
   _=(s*Qx.conj s)*1:=by rw [h,h2,Rg.mul_one,Rg.mul_comm]
 exact JO (DK hs hcs) e
theorem AW4 {a:gj} (hi:Cs a=true):G4 a*G4 a=a:=by
 obtain ⟨s,hs⟩:=Ih.1 hi;generalize hE:(pN-3) / 4=E
 have hp:E*4+3=pN:=by rw [← hE];exact e4
 by_cases h0:s=0
 ·have ha:a=0:=by rw [← hs,h0,mul_zero]
  have hb:OI a=0:=by unfold OI;rw [ha];exact AW0 (Bf.1 AW2)
  have hx:E7 a=0:=by unfold E7;rw [hb,zero_mul]
  unfold G4;rw [hx];split
  ·rw [zero_mul,zero_mul,ha]
  ·rw [mul_zero,mul_zero,ha]
 ·have hB:OI a=pw s (2*E):=by unfold OI;rw [hE,← hs,c9];congr 1;show s*s=1*s*s;rw [Rg.one_mul]
  have hC:C9 a*s=Qx.conj s:=by
   refine Eq.trans ?_ ((jl (pw s) (show 2*E+(2*E+2+1)=pN by omega)).trans (AGh s))
   rw [Rn,LS];unfold C9 E7;rw [hB,← hs];rw [Rn,show pw s 2=s*s from by show 1*s*s=_;rw [Rg.one_mul]]
   generalize pw s (2*E)=Z
   exact ring [s,Z] dj
  have hXX:E7 a*E7 a=a*C9 a:=by unfold C9 E7;exact ring [OI a,a] dj
  have hcc:=AW3 h0 hC;unfold G4;split
  ·rename_i hc
   calc E7 a*uu*(E7 a*uu)=E7 a*E7 a*(uu*uu):=ring [E7 a,uu] dj
    _=a:=by rw [hXX,hc,AGg];exact ring [a] dj
  ·rename_i hc;generalize hH:(pN-1) / 2=H
   have hp2:H*2+1=pN:=by rw [← hH];exact e2'
   generalize hd:pw (1+C9 a) H=d
   have h1c:1+C9 a≠0:=fun e=>hc (J6 e)
   have hdd:d*d*(1+C9 a)=1+Qx.conj (C9 a):=by
    have hf:=AGh (1+C9 a)
    have hf':=(jl (pw (1+C9 a)) hp2).trans hf
    rw [LS,c9,hd] at hf';have e1:pw d 2=d*d:=by show 1*d*d=_;rw [Rg.one_mul]
    rw [e1] at hf';rw [hf'];exact Qx.ext rfl (ring [(C9 a).b] (a:=-(0+(C9 a).b)) (b:=0+-(C9 a).b) dj)
   have key:d*d*C9 a=1:=by
    refine JO h1c ?_
    calc (1+C9 a)*(d*d*C9 a)=(d*d*(1+C9 a))*C9 a:=ring [d,C9 a] dj
     _=C9 a+C9 a*Qx.conj (C9 a):=by rw [hdd];exact ring [C9 a,Qx.conj (C9 a)] dj
     _=(1+C9 a)*1:=by rw [hcc];exact ring [C9 a] dj
   calc d*E7 a*(d*E7 a)=d*d*(E7 a*E7 a):=ring [d,E7 a] dj
    _=a*(d*d*C9 a):=by rw [hXX];exact ring [d,a,C9 a] dj
    _=a:=by rw [key,Rg.mul_one]
theorem AW5 {a:gj} (h:G4 a*G4 a=a):KB (G4 a)=E6 a∧Cs a=true:=AGi ((vQ _).trans h) (AGj _)
theorem AW6 {a:gj} (h:G4 a*G4 a≠a):Cs a=false:=by
 cases hi:Cs a with
 | false=>rfl
 | true=>exact absurd (AW4 hi) h
def Qx.sc {F:Type} [CR F] {β:F} (x:Qx β) (k:F):Qx β:=⟨x.a*k,x.b*k⟩
noncomputable def cj (r:R gj):R gj:=en (Qx.conj (mo r:gj))
noncomputable def sc (r:R gj) (k:R FP):R gj:=en (Qx.sc (mo r:gj) (mo k))
noncomputable def mx (r:R gj):R gj:=en ((mo r:gj)*xi)
def KH:List (TypeId×List (Option IntKind)):=(68,List.replicate 12 (some .u64))::(70,List.replicate 24 (some .u64)++[none])::(203,List.replicate 36 (some .u64))::KG
theorem Ct:MT dm KH:=⟨⟨dj,dj,dj⟩,⟨dj,dj,dj⟩,⟨dj,dj,dj⟩,Dx⟩
theorem AW7 (r s:R gj):(su FP (mu FP r.1 s.1) (mu FP r.2 s.2),su FP (mu FP (ad FP r.1 r.2) (ad FP s.1 s.2)) (ad FP (mu FP r.1 s.1) (mu FP r.2 s.2)))=mu gj r s:=by
 refine ml ?_ ?_<;>simp only [su,mu,ad,mo_en]
 ·exact jl (en (α:=FP)) (ring [tf r.1,tf r.2,tf s.1,tf s.2] (a:=tf r.1*tf s.1-tf r.2*tf s.2) (b:=tf r.1*tf s.1+-1*(tf r.2*tf s.2)) dj)
 ·exact jl (en (α:=FP)) (ring [tf r.1,tf r.2,tf s.1,tf s.2] (a:=(tf r.1+tf r.2)*(tf s.1+tf s.2)-(tf r.1*tf s.1+tf r.2*tf s.2)) (b:=tf r.1*tf s.2+tf r.2*tf s.1) dj)
theorem AW8 (r s:R gj):(su FP (mu FP r.1 s.1) (mu FP r.2 s.2),ad FP (mu FP r.1 s.2) (mu FP r.2 s.1))=mu gj r s:=by
 refine ml ?_ ?_<;>simp only [su,mu,ad,mo_en]
 ·exact jl (en (α:=FP)) (ring [tf r.1,tf r.2,tf s.1,tf s.2] (a:=tf r.1*tf s.1-tf r.2*tf s.2) (b:=tf r.1*tf s.1+-1*(tf r.2*tf s.2)) dj)
 ·rfl
theorem AW9 (r:R gj):(su FP r.1 r.2,ad FP r.1 r.2)=mx r:=by
 refine ml ?_ ?_<;>simp only [su,ad,mx]
 ·exact jl (en (α:=FP)) (ring [tf r.1,tf r.2] (a:=tf r.1-tf r.2) (b:=tf r.1*1+-1*(tf r.2*1)) dj)
 ·exact jl (en (α:=FP)) (ring [tf r.1,tf r.2] (a:=tf r.1+tf r.2) (b:=tf r.1*1+tf r.2*1) dj)
theorem vR (x:gj):x.nrm=x.a*x.a+x.b*x.b:=ring [x.a,x.b] (a:=x.a*x.a - -1*(x.b*x.b)) dj
theorem AW_ (r:R gj):sc (cj r) (iv FP (ad FP (mu FP r.1 r.1) (mu FP r.2 r.2)))=iv gj r:=by
 simp only [sc,cj,iv,mu,ad,mo_en];have e:=vR (mo r:gj)
 show en (Qx.sc (Qx.conj (mo r:gj)) (FD.inv ((mo r:gj).a*(mo r:gj).a+(mo r:gj).b*(mo r:gj).b)))=en (Us (mo r:gj));rw [← e];rfl
theorem AW' (r:R gj):sc (cj r) (iv FP (mu gj r (cj r)).1)=iv gj r:=by
 simp only [sc,cj,iv,mu,mo_en,Qx.mul_conj];show en (Qx.sc (Qx.conj (mo r:gj)) (FD.inv (mo (en (mo r:gj).nrm):FP)))=en (Us (mo r:gj));rw [mo_en];rfl
noncomputable abbrev oH1:gr:=AH SH1 KH
theorem Ii:gp dm oH1:=AJ vL Ct
section
variable (r s:R gj) (k:R FP)
theorem AXA:AM dm oH1 f171 [va gj r] [] 300=some ([],va gj (re gj r)):=dj
theorem AXB:AM dm oH1 f99 [va gj r,va gj s] [] 300=some ([],va gj (ad gj r s)):=dj
theorem AXC:AM dm oH1 f106 [va gj r,va gj s] [] 300=some ([],va gj (su gj r s)):=dj
theorem AXD:AM dm oH1 f102 [va gj r] [] 300=some ([],va gj (ng gj r)):=dj
theorem AXE:AM dm oH1 f181 [va gj r] [] 300=some ([],va gj (cj r)):=dj
theorem AXF:AM dm oH1 f180 [va gj r,va FP k] [] 300=some ([],va gj (sc r k)):=dj
theorem AXG:AM dm oH1 f275 [va gj r] [] 300=some ([],va gj (su FP r.1 r.2,ad FP r.1 r.2)):=dj
theorem AXH:AM dm oH1 f183 [va gj r] [] 300=some ([],va gj (re gj r)):=dj
theorem AXI:AM dm oH1 f116 [va gj r,va gj s] [] 300=some ([],va gj (ad gj r s)):=dj
theorem AXJ:AM dm oH1 f118 [va gj r] [] 300=some ([],va gj (ng gj r)):=dj
theorem AXK:AM dm oH1 f257 [va gj r] [] 300=some ([],va gj (cj r)):=dj
theorem AXL:AM dm oH1 f276 [va gj r,va FP k] [] 300=some ([],va gj (sc r k)):=dj
theorem AXM:AM dm oH1 f114 [va gj r,va gj s] [] 300=some ([],va gj (su FP (mu FP r.1 s.1) (mu FP r.2 s.2),ad FP (mu FP r.1 s.2) (mu FP r.2 s.1))):=dj
noncomputable abbrev AGm:gr:=AH ((175,BF dm oH1 f175 300)::SH1) KH
theorem AXN:gp dm AGm:=AJ ⟨BK Ii AB func175 dj dj 300,vL⟩ Ct
theorem AXO:AM dm AGm f100 [va gj r,va gj s] [] 300=some ([],va gj (su FP (mu FP r.1 s.1) (mu FP r.2 s.2),su FP (mu FP (ad FP r.1 r.2) (ad FP s.1 s.2)) (ad FP (mu FP r.1 s.1) (mu FP r.2 s.2)))):=dj
end
noncomputable def SH2:dr:=(171,Ac (Bi gj fun r=>va gj (re gj r)))::(99,Ac (DW gj gj fun r s=>va gj (ad gj r s)))::(106,Ac (DW gj gj fun r s=>va gj (su gj r s)))::(102,Ac (Bi gj fun r=>va gj (ng gj r)))::(181,Ac (Bi gj fun r=>va gj (cj r)))::(180,Ac (DW gj FP fun r k=>va gj (sc r k)))::(275,Ac (Bi gj fun r=>va gj (mx r)))::(100,Ac (DW gj gj fun r s=>va gj (mu gj r s)))::(183,Ac (Bi gj fun r=>va gj (re gj r)))::(116,Ac (DW gj gj fun r s=>va gj (ad gj r s)))::(118,Ac (Bi gj fun r=>va gj (ng gj r)))::(257,Ac (Bi gj fun r=>va gj (cj r)))::(276,Ac (DW gj FP fun r k=>va gj (sc r k)))::(114,Ac (DW gj gj fun r s=>va gj (mu gj r s)))::SH1
theorem AGn:AW dm SH2:=⟨Ad func171 dj dj (Bm fun r=>AP Ii AB func171 (AXA r) trivial rfl),Ad func99 dj dj (Dy fun r s=>AP Ii AB func99 (AXB r s) trivial rfl),Ad func106 dj dj (Dy fun r s=>AP Ii AB func106 (AXC r s) trivial rfl),Ad func102 dj dj (Bm fun r=>AP Ii AB func102 (AXD r) trivial rfl),Ad func181 dj dj (Bm fun r=>AP Ii AB func181 (AXE r) trivial rfl),Ad func180 dj dj (Dy fun r s=>AP Ii AB func180 (AXF r s) trivial rfl),Ad func275 dj dj (Bm fun r=>by rw [← AW9];exact AP Ii AB func275 (AXG r) trivial rfl),Ad func100 dj dj (Dy fun r s=>by rw [← AW7];exact AP AXN AB func100 (AXO r s) trivial rfl),Ad func183 dj dj (Bm fun r=>AP Ii AB func183 (AXH r) trivial rfl),Ad func116 dj dj (Dy fun r s=>AP Ii AB func116 (AXI r s) trivial rfl),Ad func118 dj dj (Bm fun r=>AP Ii AB func118 (AXJ r) trivial rfl),Ad func257 dj dj (Bm fun r=>AP Ii AB func257 (AXK r) trivial rfl),Ad func276 dj dj (Dy fun r s=>AP Ii AB func276 (AXL r s) trivial rfl),Ad func114 dj dj (Dy fun r s=>by rw [← AW8];exact AP Ii AB func114 (AXM r s) trivial rfl),vL⟩
noncomputable abbrev oH2:gr:=AH SH2 KH
theorem eR:gp dm oH2:=AJ AGn Ct
section
variable (r s:R gj)
theorem AXP:AM dm oH2 f107 [va gj r] [] 300=some ([],va gj (sc (cj r) (iv FP (ad FP (mu FP r.1 r.1) (mu FP r.2 r.2))))):=dj
theorem AXQ:AM dm oH2 f250 [va gj r,va gj s] [] 300=some ([],va gj (ad gj r (ng gj s))):=dj
theorem AXR:AM dm oH2 f201 [va gj r] [] 300=some ([],va gj (mu gj r ((1:Nat),(1:Nat)))):=dj
theorem AXS:AM dm oH2 f244 [va gj r] [] 300=some ([],va gj (sc (cj r) (iv FP (mu gj r (cj r)).1))):=dj
end
theorem AXT (r s:R gj):ad gj r (ng gj s)=su gj r s:=by simp only [ad,ng,su,mo_en,sub_eq]
theorem AXU (r:R gj):mu gj r ((1:Nat),(1:Nat))=mx r:=by
 unfold mu mx;exact jl (fun x=>en ((mo r:gj)*x)) (Qx.ext EB EB)
noncomputable def SH3:dr:=(107,Ac (Bi gj fun r=>va gj (iv gj r)))::(250,Ac (DW gj gj fun r s=>va gj (su gj r s)))::(201,Ac (Bi gj fun r=>va gj (mx r)))::(244,Ac (Bi gj fun r=>va gj (iv gj r)))::SH2
theorem AGo:AW dm SH3:=⟨Ad func107 dj dj (Bm fun r=>by rw [← AW_];exact AP eR AB func107 (AXP r) trivial rfl),Ad func250 dj dj (Dy fun r s=>by rw [← AXT];exact AP eR AB func250 (AXQ r s) trivial rfl),Ad func201 dj dj (Bm fun r=>by rw [← AXU];exact AP eR AB func201 (AXR r) trivial rfl),Ad func244 dj dj (Bm fun r=>by rw [← AW'];exact AP eR AB func244 (AXS r) trivial rfl),AGn⟩
noncomputable abbrev oH3:gr:=AH SH3 KH
theorem vS:gp dm oH3:=AJ AGo Ct
abbrev ef:List Bool:=[false,false,false,true]
abbrev eq:List Bool:=[false,false,false,false,false]
abbrev fa:List Bool:=[false,false,false,false,true]
open Ex Num Rg
open Sh (R av rd mo en mo_en)
set_option maxRecDepth 100000
set_option maxHeartbeats 4000000
abbrev P2:Type:=Pt gj
def dq (x y:Nat):Bool:=decide (x=y)
def CN (r s:R gj):Bool:=dq r.1 s.1&&dq r.2 s.2
theorem M0 (x y:FP):dq x.val y.val=decide (x=y):=by
 unfold dq;by_cases h:x=y
 ·rw [jc h,jc (jl Fin.val h)]
 ·rw [jg h,jg fun e=>h (Fin.ext e)]
theorem Rz (x y:gj):CN (en x) (en y)=decide (x=y):=by
 show (dq x.a.val y.a.val&&dq x.b.val y.b.val)=_;rw [M0,M0];by_cases h:x=y
 ·subst h;rw [jc rfl,jc rfl,jc rfl];rfl
 ·rw [jg h];by_cases h1:x.a=y.a
  ·rw [jg fun h2=>h (Qx.ext h1 h2),nc]
  ·rw [jg h1,n_]
def Cu (r:R gj):Bool:=dq r.1 0&&dq r.2 0
theorem OJ (x:gj):Cu (en x)=decide (x=0):=Rz x 0
def AGp:List Ch:=[.n .u64 4,.n .u64 0,.n .u64 0,.n .u64 0,.n .u64 0,.n .u64 0,.n .u64 4,.n .u64 0,.n .u64 0,.n .u64 0,.n .u64 0,.n .u64 0]
theorem AXV:AM dm oH3 f176 [] [] 100=some ([],.val true AGp):=dj
def CW (i:Bool):List Ch:=List.replicate 24 (.n .u64 0)++[.b i]
def ev (α:Type) [Sh α] (x:AV):List AV→Option AV | []=>some x | _=>none
section
variable (r s:R P2)
theorem AXW:AM dm oH3 f105 [va P2 r] du 300=some ([(r.2.2,true)],.val true (CW true)):=dj
theorem AXX:AM dm oH3 f105 [va P2 r] dt 300=some ([(r.2.2,false)],.val true (Bw (av (re gj r.1)) (Bw (av (re gj r.2.1)) [.b false]))):=dj
end
theorem AXY (r:R P2):AU dm 105 [va P2 r] (ve (mo r:P2)):=by
 have h1:=AXW r;have h2:=AXX r;obtain ⟨x,y,i⟩:=r;cases i with
 | true=>exact E5 (α:=P2) (r:=(en (.inf:P2):R P2)) (AP vS AB func105 h1 ⟨rfl,trivial⟩ rfl) dj
 | false=>exact E5 (α:=P2) (r:=((re gj x,re gj y,false):R P2)) (AP vS AB func105 h2 ⟨rfl,trivial⟩ rfl) dj
noncomputable def SJ0:dr:=(176,Ac (ev gj (ve KA)))::(105,Ac (Bi P2 fun r=>ve (mo r:P2)))::SH3
theorem eS {α:Type} [Sh α] {P:Program} {f:FuncId} {x:AV} (h:AU P f [] x):∀ args v,ev α x args=some v→AU P f args v:=by
 intro args v hs;unfold ev at hs;split at hs
 ·injection hs with hs;subst hs;exact h
 ·cases hs
theorem AXZ:AU dm 176 [] (ve KA):=E5 (α:=gj) (r:=(en KA:R gj)) (AP vS AB func176 AXV trivial rfl) dj
theorem AGq:AW dm SJ0:=⟨Ad func176 dj dj (eS AXZ),Ad func105 dj dj (Bm AXY),AGo⟩
noncomputable abbrev oJ0:gr:=AH SJ0 KH
theorem Pz:gp dm oJ0:=AJ AGq Ct
noncomputable def rX (p:P2):R gj:=(en p).1
noncomputable def rY (p:P2):R gj:=(en p).2.1
noncomputable def YD (x y:R gj):Bool:=CN (mu gj y y) (ad gj (mu gj (mu gj x x) x) (en KA))
noncomputable def BH (p:P2):Bool:=match p with
 | .inf=>true
 | .pt x y=>decide (y*y=x*x*x+KA)
theorem LU (p:P2):BH p=true↔Rg.On C2.b p:=by
 cases p with
 | inf=>exact ⟨fun _=>trivial,fun _=>rfl⟩
 | pt a b=>exact decide_eq_true_iff
theorem AGr (x y:R gj):YD x y=BH (.pt (mo x) (mo y)):=by
 unfold YD mu ad BH;rw [Rz];simp only [mo_en]
section
variable (r:R P2)
theorem AXa:AM dm oJ0 f103 [va P2 r] du 300=some ([(r.2.2,true)],.val false [.b true]):=dj
theorem AXb:AM dm oJ0 f103 [va P2 r] dt 300=some ([(r.2.2,false)],Av (YD r.1 r.2.1)):=dj
end
theorem AXc (r:R P2):AU dm 103 [va P2 r] (Av (BH (mo r))):=by
 have h1:=AXa r;have h2:=AXb r;obtain ⟨x,y,i⟩:=r;cases i with
 | true=>exact C3 (AP Pz AB func103 h1 ⟨rfl,trivial⟩ rfl) fun u hu=>JK rfl hu
 | false =>
  rw [show BH (mo ((x,y,false):R P2))=BH (.pt (mo x) (mo y)) from rfl,← AGr]
  exact AP Pz AB func103 h2 ⟨rfl,trivial⟩ rfl
noncomputable def eU (px py qx qy:R gj):R gj:=mu gj (su gj qy py) (iv gj (su gj qx px))
noncomputable def eV (px py:R gj):R gj:=mu gj (ad gj (ad gj (mu gj px px) (mu gj px px)) (mu gj px px)) (iv gj (ad gj py py))
noncomputable def YE (l px qx:R gj):R gj:=su gj (su gj (mu gj l l) px) qx
noncomputable def vT (l px py x:R gj):R gj:=su gj (mu gj l (su gj px x)) py
noncomputable def vU (l:R gj) (p q:P2):List Ch:=Bw (av (YE l (rX p) (rX q))) (Bw (av (vT l (rX p) (rY p) (YE l (rX p) (rX q)))) [.b false])
section
variable (r s:R P2)
noncomputable def eW (p q:P2) (d:Bool) (l:dp):dp:=(E4 p,false)::(E4 q,false)::(!CN (rX p) (rX q),d)::l
theorem AXd:AM dm oJ0 f46 [va P2 r,va P2 s] du 300=some ([(E4 (mo r:P2),true)],ve (mo s:P2)):=dj
theorem AXe:AM dm oJ0 f46 [va P2 r,va P2 s] dx 300=some ([(E4 (mo r:P2),false),(E4 (mo s:P2),true)],ve (mo r:P2)):=dj
theorem AXf:AM dm oJ0 f46 [va P2 r,va P2 s] ep 300=some (eW (mo r) (mo s) true [],.val true (vU (eU (rX (mo r)) (rY (mo r)) (rX (mo s)) (rY (mo s))) (mo r) (mo s))):=dj
theorem AXg:AM dm oJ0 f46 [va P2 r,va P2 s] ef 300=some (eW (mo r) (mo s) false [(!CN (rY (mo r)) (rY (mo s)),true)],.val true (CW true)):=dj
theorem AXh:AM dm oJ0 f46 [va P2 r,va P2 s] fa 300=some (eW (mo r) (mo s) false [(!CN (rY (mo r)) (rY (mo s)),false),(Cu (rY (mo r)),true)],.val true (CW true)):=dj
theorem AXi:AM dm oJ0 f46 [va P2 r,va P2 s] eq 300=some (eW (mo r) (mo s) false [(!CN (rY (mo r)) (rY (mo s)),false),(Cu (rY (mo r)),false)],.val true (vU (eV (rX (mo r)) (rY (mo r))) (mo r) (mo s))):=dj
end
theorem AGs (x y:R gj):(rd (Bw (av x) (Bw (av y) [.b false])):Option (R P2))=some ((x,y,false):R P2):=dj
theorem AGt (a b c d L:gj):rd (vU (en L) (.pt a b) (.pt c d))=some (en (H6 a b c L):R P2):=by
 have e:(en (H6 a b c L):R P2)=(YE (en L) (en a) (en c),vT (en L) (en a) (en b) (YE (en L) (en a) (en c)),false):=by
  unfold YE vT su mu;simp only [mo_en];rfl
 rw [e];exact AGs _ _
theorem AXj (a b c d:gj):eU (en a) (en b) (en c) (en d)=en ((d-b)*FD.inv (c-a)):=by unfold eU mu su iv;simp only [mo_en]
theorem AXk (a b:gj):eV (en a) (en b)=en ((a*a+a*a+a*a)*FD.inv (b+b)):=by unfold eV mu ad iv;simp only [mo_en]
theorem AXl (r s:R P2):AU dm 46 [va P2 r,va P2 s] (ve (Rg.add (mo r:P2) (mo s))):=by
 have r1:=AXd r s;have r2:=AXe r s;have r3:=AXf r s;have r4:=AXg r s;have r5:=AXh r s;have r6:=AXi r s;generalize (mo r:P2)=p at *
 generalize (mo s:P2)=q at *
 have zz:rd (CW true)=some (en (.inf:P2):R P2):=dj
 cases p with
 | inf=>exact AP Pz AB func46 r1 ⟨rfl,trivial⟩ rfl
 | pt a b=>cases q with
  | inf=>exact AP Pz AB func46 r2 ⟨rfl,rfl,trivial⟩ rfl
  | pt c d =>
   have eX:CN (rX (.pt a b)) (rX (.pt c d))=decide (a=c):=Rz a c
   have eY:CN (rY (.pt a b)) (rY (.pt c d))=decide (b=d):=Rz b d
   have eZ:Cu (rY (.pt a b))=decide (b=0):=OJ b
   rw [LQ];by_cases hx:a=c
   ·rw [je hx];by_cases hy:b=d
    ·by_cases h0:b=0
     ·rw [jd (fun h=>h.2 h0)]
      exact E5 (AP Pz AB func46 r5 ⟨rfl,rfl,by rw [eX,jc hx];rfl,by rw [eY,jc hy];rfl,by rw [eZ,jc h0],trivial⟩ rfl) zz
     ·rw [je ⟨hy,h0⟩];rw [show eV (rX (.pt a b)) (rY (.pt a b))=_ from AXk a b] at r6
      exact E5 (AP Pz AB func46 r6 ⟨rfl,rfl,by rw [eX,jc hx];rfl,by rw [eY,jc hy];rfl,by rw [eZ,jg h0],trivial⟩ rfl) (AGt a b c d _)
    ·rw [jd (fun h=>hy h.1)]
     exact E5 (AP Pz AB func46 r4 ⟨rfl,rfl,by rw [eX,jc hx];rfl,by rw [eY,jg hy];rfl,trivial⟩ rfl) zz
   ·rw [jd hx];rw [show eU (rX (.pt a b)) (rY (.pt a b)) (rX (.pt c d)) (rY (.pt c d))=_ from AXj a b c d] at r3
    exact E5 (AP Pz AB func46 r3 ⟨rfl,rfl,by rw [eX,jg hx];rfl,trivial⟩ rfl) (AGt a b c d _)
noncomputable def SJ1:dr:=(103,Ac (Bi P2 fun r=>Av (BH (mo r))))::(46,Ac (DW P2 P2 fun r s=>ve (Rg.add (mo r:P2) (mo s))))::SJ0
theorem AGu:AW dm SJ1:=⟨Ad func103 dj dj (Bm AXc),Ad func46 dj dj (Dy AXl),AGq⟩
open Ex Num Rg
open Sh (R av rd mo en mo_en)
abbrev J2:Type:=J gj
noncomputable abbrev oJ1:gr:=AH SJ1 KH
theorem AXm:gp dm oJ1:=AJ AGu Ct
def lq (x y:Nat):Bool:=decide (x<y)
def Cw (r:R gj):Bool:=lq r.1 pN&&lq r.2 pN
theorem LV {r:R gj} (h:Cw r=true):en (mo r:gj)=r:=by
 obtain ⟨h1,h2⟩:=jo.1 h;exact ml (HN (jx h1)) (HN (jx h2))
theorem KC (x:gj):Cw (en x)=true:=jo.2 ⟨jc x.a.isLt,jc x.b.isLt⟩
noncomputable def qE (x:R gj):R gj:=ad gj (ad gj (mu gj x x) (mu gj x x)) (mu gj x x)
noncomputable def qD (x y:R gj):R gj:=ad gj (ad gj (mu gj x (mu gj y y)) (mu gj x (mu gj y y))) (ad gj (mu gj x (mu gj y y)) (mu gj x (mu gj y y)))
noncomputable def vV (y:R gj):R gj:=ad gj (mu gj (mu gj y y) (mu gj y y)) (mu gj (mu gj y y) (mu gj y y))
noncomputable def vW (y:R gj):R gj:=ad gj (vV y) (vV y)
noncomputable def qC8 (y:R gj):R gj:=ad gj (vW y) (vW y)
noncomputable def qX (x y:R gj):R gj:=su gj (mu gj (qE x) (qE x)) (ad gj (qD x y) (qD x y))
noncomputable def qY (x y:R gj):R gj:=su gj (mu gj (qE x) (su gj (qD x y) (qX x y))) (qC8 y)
noncomputable def qT (r:R J2):R J2:=(qX r.1 r.2.1,qY r.1 r.2.1,ad gj (mu gj r.2.1 r.2.2) (mu gj r.2.1 r.2.2))
theorem AXn (r:R J2):AM dm oJ1 f235 [va J2 r] [] 500=some ([],va J2 (qT r)):=dj
theorem AXo (r:R J2):qT r=en (B0 (mo r:J2)):=by
 unfold qT qY qX qC8 vW vV qD qE su mu ad;simp only [mo_en];rfl
theorem AXp (r:R J2):AU dm 235 [va J2 r] (ve (B0 (mo r:J2))):=by
 unfold ve;rw [← AXo];exact AP AXm AB func235 (AXn r) trivial rfl
noncomputable def SJ2:dr:=(235,Ac (Bi J2 fun r=>ve (B0 (mo r:J2))))::SJ1
theorem AGw:AW dm SJ2:=⟨Ad func235 dj dj (Bm AXp),AGu⟩
noncomputable abbrev oJ2:gr:=AH SJ2 KH
theorem R0:gp dm oJ2:=AJ AGw Ct
noncomputable def qH (x z a:R gj):R gj:=su gj (mu gj a (mu gj z z)) x
noncomputable def qR (y z b:R gj):R gj:=su gj (mu gj b (mu gj (mu gj z z) z)) y
noncomputable def R1 (x h r:R gj):R gj:=su gj (su gj (mu gj r r) (mu gj (mu gj h h) h)) (ad gj (mu gj x (mu gj h h)) (mu gj x (mu gj h h)))
noncomputable def U4 (x y h r:R gj):R gj:=su gj (mu gj r (su gj (mu gj x (mu gj h h)) (R1 x h r))) (mu gj y (mu gj (mu gj h h) h))
section
variable (p:R J2) (q:R P2)
def U5:List Ch:=List.replicate 36 (.n .u64 0)
theorem AXq:AM dm oJ2 f236 [va J2 p,va P2 q] du 500=some ([(Cu p.2.2,true)],.val true (Bw (av q.1) (Bw (av q.2.1) (.n .u64 1::List.replicate 11 (.n .u64 0))))):=dj
theorem AXr:AM dm oJ2 f236 [va J2 p,va P2 q] e_ 500=some ([(Cu p.2.2,false),(Cu (qH p.1 p.2.2 q.1),true),(Cu (qR p.2.1 p.2.2 q.2.1),true)],ve (B0 (mo p:J2))):=dj
theorem AXs:AM dm oJ2 f236 [va J2 p,va P2 q] [false,true,false,true] 500=some ([(Cu p.2.2,false),(Cu (qH p.1 p.2.2 q.1),true),(Cu (qR p.2.1 p.2.2 q.2.1),false),(Cu (qH p.1 p.2.2 q.1),true)],.val true U5):=dj
theorem AXt:AM dm oJ2 f236 [va J2 p,va P2 q] fb 500=some ([(Cu p.2.2,false),(Cu (qH p.1 p.2.2 q.1),false),(Cu (qH p.1 p.2.2 q.1),false)],
 va J2 (R1 p.1 (qH p.1 p.2.2 q.1) (qR p.2.1 p.2.2 q.2.1),U4 p.1 p.2.1 (qH p.1 p.2.2 q.1) (qR p.2.1 p.2.2 q.2.1),mu gj p.2.2 (qH p.1 p.2.2 q.1))):=dj
end
theorem AGx (x y:R gj):(rd (Bw (av x) (Bw (av y) (.n .u64 1::List.replicate 11 (.n .u64 0)))):Option (R J2))=some ((x,y,en (1:gj)):R J2):=dj
theorem AXu {p:R J2} {q:R P2} (hz:Cw p.2.2=true) (hx:Cw q.1=true) (hy:Cw q.2.1=true):AU dm 236 [va J2 p,va P2 q] (ve (F9 (mo p:J2) (mo q.1) (mo q.2.1))):=by
 have ez:Cu p.2.2=decide ((mo p:J2).z=0):=by
  conv=>lhs;rw [← LV hz]
  exact OJ _
 have eh:qH p.1 p.2.2 q.1=en (pH (mo p:J2) (mo q.1)):=by unfold qH su mu;simp only [mo_en];rfl
 have er:qR p.2.1 p.2.2 q.2.1=en (pR (mo p:J2) (mo q.2.1)):=by unfold qR su mu;simp only [mo_en];rfl
 have zh:Cu (qH p.1 p.2.2 q.1)=decide (pH (mo p:J2) (mo q.1)=0):=by rw [eh];exact OJ _
 have zr:Cu (qR p.2.1 p.2.2 q.2.1)=decide (pR (mo p:J2) (mo q.2.1)=0):=by rw [er];exact OJ _
 have r1:=AXq p q;have r2:=AXr p q;have r3:=AXs p q;have r4:=AXt p q;rw [zh,ez] at r2;rw [zh,ez,zr] at r3;rw [zr] at r2;rw [zh,ez,eh,er] at r4;rw [ez] at r1;unfold F9;by_cases h0:(mo p:J2).z=0
 ·rw [je h0];refine E5 (α:=J2) (r:=(en (⟨mo q.1,mo q.2.1,1⟩:J2):R J2)) (AP R0 AB func236 r1 ⟨jc h0,trivial⟩ rfl) ?_
  have e:(en (⟨mo q.1,mo q.2.1,1⟩:J2):R J2)=(q.1,q.2.1,en (1:gj)):=by
   show ((en (mo q.1:gj),en (mo q.2.1:gj),en (1:gj)):R J2)=_;rw [LV hx,LV hy]
  rw [e];exact AGx _ _
 ·rw [jd h0];by_cases hh:pH (mo p:J2) (mo q.1)=0
  ·rw [je hh];by_cases hr:pR (mo p:J2) (mo q.2.1)=0
   ·rw [je hr];exact AP R0 AB func236 r2 ⟨jg h0,jc hh,jc hr,trivial⟩ rfl
   ·rw [jd hr];exact E5 (α:=J2) (r:=(en (⟨0,0,0⟩:J2):R J2)) (AP R0 AB func236 r3 ⟨jg h0,jc hh,jg hr,jc hh,trivial⟩ rfl) dj
  ·rw [jd hh];have e:((R1 p.1 (en (pH (mo p:J2) (mo q.1))) (en (pR (mo p:J2) (mo q.2.1))),U4 p.1 p.2.1 (en (pH (mo p:J2) (mo q.1))) (en (pR (mo p:J2) (mo q.2.1))),mu gj p.2.2 (en (pH (mo p:J2) (mo q.1)))):R J2) =
     en (⟨pX (mo p:J2).x (pH (mo p:J2) (mo q.1)) (pR (mo p:J2) (mo q.2.1)),pY (mo p:J2).x (mo p:J2).y (pH (mo p:J2) (mo q.1)) (pR (mo p:J2) (mo q.2.1)),(mo p:J2).z*pH (mo p:J2) (mo q.1)⟩:J2):=by
    unfold U4 R1 su mu ad;simp only [mo_en];rfl
   rw [e] at r4;exact AP R0 AB func236 r4 ⟨jg h0,jg hh,jg hh,trivial⟩ rfl
noncomputable def U6:List AV→Option (dp×AV)
 | [.val true a,.val true b]=>match (rd a:Option (R J2)),(rd b:Option (R P2)) with
  | some p,some q=>some ([(Cw p.2.2,true),(Cw q.1,true),(Cw q.2.1,true)],ve (F9 (mo p:J2) (mo q.1) (mo q.2.1)))
  | _,_=>none
 | _=>none
theorem AXv:∀ args c v,U6 args=some (c,v)→AO c→AU dm 236 args v:=by
 intro args c v hs hc us w ha;unfold U6 at hs;split at hs;case h_2=>cases hs
 split at hs;case h_2=>cases hs
 rename_i p q hx hy;injection hs with hs;injection hs with h1 h2;subst h1;subst h2;obtain ⟨u1,iu,r1,⟨u2,iw,r2,ha,rfl⟩,rfl⟩:=ha;exact AXu hc.1 hc.2.1 hc.2.2.1 _ w ⟨u1,_,F_ hx r1,⟨u2,_,F_ hy r2,ha,rfl⟩,rfl⟩
def z6 (r:R J2):Bool:=dq r.1.1 0&&(dq r.1.2 0&&(dq r.2.1.1 0&&(dq r.2.1.2 0&&Cu r.2.2)))
section
variable (r:R J2)
theorem AXw:AM dm oJ2 f237 [va J2 r] du 500=some ([(z6 r,true)],.val true (CW true)):=dj
theorem AXx:AM dm oJ2 f237 [va J2 r] dx 500=some ([(z6 r,false),(Cu r.2.2,true)],.val true (CW true)):=dj
noncomputable def qI (r:R J2):R gj:=mu gj (iv gj r.2.2) (iv gj r.2.2)
theorem AXy:AM dm oJ2 f237 [va J2 r] dz 500=some ([(z6 r,false),(Cu r.2.2,false)],.val true (Bw (av (mu gj r.1 (qI r))) (Bw (av (mu gj r.2.1 (mu gj (qI r) (iv gj r.2.2)))) [.b false]))):=dj
end
theorem AXz {r:R J2} (hz:Cw r.2.2=true):AU dm 237 [va J2 r] (ve (CI (mo r:J2))):=by
 have ez:Cu r.2.2=decide ((mo r:J2).z=0):=by
  conv=>lhs;rw [← LV hz]
  exact OJ _
 have zz:rd (CW true)=some (en (.inf:P2):R P2):=dj
 by_cases h0:(mo r:J2).z=0
 ·rw [G1 h0];cases h3:z6 r with
  | true=>exact E5 (AP R0 AB func237 (AXw r) ⟨h3,trivial⟩ rfl) zz
  | false=>exact E5 (AP R0 AB func237 (AXx r) ⟨h3,by rw [ez];exact jc h0,trivial⟩ rfl) zz
 ·have h3:z6 r=false:=by unfold z6;rw [ez,jg h0];simp
  rw [Ig h0];refine E5 (AP R0 AB func237 (AXy r) ⟨h3,by rw [ez];exact jg h0,trivial⟩ rfl) ?_
  have e:(en (.pt ((mo r:J2).x*(FD.inv (mo r:J2).z*FD.inv (mo r:J2).z)) ((mo r:J2).y*((FD.inv (mo r:J2).z*FD.inv (mo r:J2).z)*FD.inv (mo r:J2).z)):P2):R P2)=(mu gj r.1 (qI r),mu gj r.2.1 (mu gj (qI r) (iv gj r.2.2)),false):=by
   unfold qI mu iv;simp only [mo_en];rfl
  rw [e];exact AGs _ _
noncomputable def vX:List AV→Option (dp×AV)
 | [.val true a]=>match (rd a:Option (R J2)) with
  | some p=>some ([(Cw p.2.2,true)],ve (CI (mo p:J2)))
  | _=>none
 | _=>none
theorem AX0:∀ args c v,vX args=some (c,v)→AO c→AU dm 237 args v:=by
 intro args c v hs hc us w ha;unfold vX at hs;split at hs;case h_2=>cases hs
 split at hs;case h_2=>cases hs
 rename_i p hx;injection hs with hs;injection hs with h1 h2;subst h1;subst h2;obtain ⟨u1,iu,r1,ha,rfl⟩:=ha;exact AXz hc.1 _ w ⟨u1,_,F_ hx r1,ha,rfl⟩
noncomputable def SJ3:dr:=(236,FY U6)::(237,FY vX)::SJ2
theorem AGy:AW dm SJ3:=⟨GS func236 dj dj AXv,GS func237 dj dj AX0,AGw⟩
noncomputable abbrev oJ3:gr:=AH SJ3 KH
theorem U7:gp dm oJ3:=AJ AGy Ct
noncomputable section
theorem YF {gu n:Nat} {xs:dn} (g_:∀ d∈xs,0≤d∧d<18446744073709551616) (hn:n≤1125899906842624) {c:Nat} (hc:c<64*n) :
  wI (Int.tdiv (c:Int) 64)=((c / 64:Nat):Int)∧c / 64<n∧0≤CY xs gu c∧0≤Int.tmod (c:Int) 64∧JG (CY xs gu c) (Int.tmod c 64)=((AK (AA xs gu n) / 2^c % 2:Nat):Int):=by
 have hq:Int.tdiv (c:Int) 64=((c / 64:Nat):Int):=by rw [pv dk];rfl
 have hr:Int.tmod (c:Int) 64=((c % 64:Nat):Int):=by rw [oe dk];rfl
 have hw:wI (Int.tdiv (c:Int) 64)=((c / 64:Nat):Int):=by rw [hq];exact Au dk
 have hjn:c / 64<n:=dk
 have ik:∀ d∈AA xs gu n,0≤d∧d<18446744073709551616:=DM g_
 have hv:CY xs gu c=(AA xs gu n).getD (c / 64) 0:=by
  unfold CY;rw [hw,jn,kb];exact (JI hjn).symm
 have hvb:0≤CY xs gu c∧CY xs gu c<18446744073709551616:=by rw [hv];exact Ns ik _
 refine ⟨hw,hjn,hvb.1,by rw [hr];omega,?_⟩
 obtain ⟨V,hV⟩:=ki hvb.1;rw [hr,← XP _ c ik,← hv,hV,jn];exact XN V _ dk dk
theorem YG {gu n:Nat} {xs:dn} (g_:∀ d∈xs,0≤d∧d<18446744073709551616) (gx:gu+n≤xs.length):AK (AA xs gu n)<2^(64*n):=by
 have hl:=JH (AA xs gu n) (DM g_)
 unfold AA at hl ⊢
 rwa [ke,kv,mc dk] at hl
theorem fA (E c:Nat):E / 2^c=2*(E / 2^(c+1))+E / 2^c % 2:=by rw [kt,← kw];omega
noncomputable def AX1:List Item:=CB (AY dm oJ3 (some 0) 500 1 none (Aj f178 [AR 0 0 0 0,ve (.pt 0 0:P2)] (BG []) 1 dz))
noncomputable def hmT (gu n m:Nat) (i:Int):List AV:=.val false [.sl 0 gu n m]::.any::.any::.val false [.p 1 0]::.val false [.p 2 0]::.val false [.n .i64 0]::.val false [.p 3 0]::.val false [.v (.int .i64 i)]::List.replicate (f178.ntmps-8) .any
def hmH (xs:dn) (p:P2):Heap:=[(0,some (Ak [.seq .u64 xs])),(1,some ⟨70,av (en p:R P2),false⟩),(2,some ⟨70,CW false,false⟩)]
noncomputable def OK (gu n m:Nat) (xs:dn) (p:P2) (out:List Ch) (i:Int) (gv:List Bool):gq:=⟨AX1,⟨hmT gu n m i,List.append (hmH xs p) [(3,some ⟨203,out,false⟩)],4,gv⟩⟩
def jC2 (j:J2):List Ch:=av (en j:R J2)
def jR (j:J2):J2:=mo (en j:R J2)
def fC (j:J2) (p:P2):J2:=F9 (mo (en (B0 (jR j)):R J2)) (mo (rX p)) (mo (rY p))
def P0 (r:R P2) (gu n m:Nat):List AV:=[AR 0 gu n m,va P2 r]
def fD (p:P2):P2:=mo (en p:R P2)
abbrev kM:Option (List Nat×List Nat×Nat):=some ([0,3,4,5,6,7],[0,1,2,3],4)
theorem AX4 (r:R P2) (gu n m:Nat) (xs:dn):AY dm oJ3 (some 0) 500 1 kM (Aj f178 (P0 r gu n m) (BG xs) 1 dz) =
 some ([(!BH (fD (mo r)),false),(E4 (mo r:P2),false),(AL .i64 n,true)],[],OK gu n m xs (mo r) U5 (wI (wI (64*(n:Int))-1)) []):=dj
def KD (q:P2) (e:Int):AV:=.tup [(true,av (en q:R P2)),(false,[.v (.int .i64 e)])]
def YH (q:P2) (e:Int):AV:=.tup [(true,av (en q:R P2)),(false,[.n .i64 e])]
theorem AX5 (r:R P2) (gu n m:Nat) (xs:dn):AT dm oJ3 f178 500 1 [] (Aj f178 (P0 r gu n m) (BG xs) 1 du) =
 some ([(!BH (fD (mo r)),true)],[],.tup [(true,CW false),(false,[.n .i64 120])],[]):=dj
theorem AX6 (r:R P2) (gu n m:Nat) (xs:dn):AT dm oJ3 f178 500 1 [] (Aj f178 (P0 r gu n m) (BG xs) 1 dx) =
 some ([(!BH (fD (mo r)),false),(E4 (mo r:P2),true)],[],YH (mo r) 0,[]):=dj
section
variable (gu n m:Nat) (xs:dn) (p:P2) (j:J2) (i:Int)
theorem AX7:AY dm oJ3 (some 0) 500 1 kM (OK gu n m xs p (jC2 j) i dw)=some (Uy gu n xs i true [],[],OK gu n m xs p (jC2 (B0 (jR j))) (wI (i-1)) []):=dj
theorem AX8:AY dm oJ3 (some 0) 500 1 kM (OK gu n m xs p (jC2 j) i d_) =
 some (Uy gu n xs i false [(Cw (en (B0 (jR j))).2.2,true),(Cw (rX p),true),(Cw (rY p),true)],[],OK gu n m xs p (jC2 (fC j p)) (wI (i-1)) []):=dj
theorem AX9:AT dm oJ3 f178 500 1 [] (OK gu n m xs p (jC2 j) i dt)=some ([(decide (0≤i),false),(Cw (en j).2.2,true)],[],YH (CI (jR j)) 0,[]):=dj
end
theorem vY (gu n m:Nat) (xs:dn) (p:P2) (j:J2) (i:Int) (q:List Bool):Be f178.ntmps (OK gu n m xs p (jC2 j) i q).s:=AS dj
theorem AGz (β:Env) (l:List Value) (h:AQ β U5 l):AQ β (jC2 ⟨0,0,0⟩) l:=Sh.rd_ok (r:=(en (⟨0,0,0⟩:J2):R J2)) (by kernel_rfl:rd U5=some (en (⟨0,0,0⟩:J2):R J2)) h
section
variable {gu n m:Nat} {xs:dn} (g_:∀ d∈xs,0≤d∧d<18446744073709551616) (gx:gu+n≤xs.length) (hn:n≤1125899906842624) {p:P2} (hP:Rg.On C2.b p) (hI:E4 p=false) {β0:Env} {w0:World} (hb:∀ b,1≤b→β0 b=none)
include g_ gx hn hb hP hI
theorem AX_:∀ (c:Nat) (j:J2),CI j=smul (AK (AA xs gu n) / 2^c) p→c≤64*n→gn dm 178 β0 w0 (A_ β0 w0 [] (YH (smul (AK (AA xs gu n)) p) 0) []) f178.ntmps [] (OK gu n m xs p (jC2 j) ((c:Int)-1) []):=by
 intro c;induction c with
 | zero =>
  intro j hj _;have h:gn dm 178 β0 w0 (A_ β0 w0 [] (YH (CI (jR j)) 0) []) f178.ntmps [] (OK gu n m xs p (jC2 j) (((0:Nat):Int)-1) dt) :=
   Ay U7 AB func178 (AX9 ..) ⟨rfl,KC j.z,trivial⟩ (vY ..) hb jb
  unfold jR at h;rw [mo_en,hj,kf,ko] at h;exact Af dt h
 | succ c ih =>
  intro j hj hc;have hi:((c+1:Nat):Int)-1=(c:Int):=dk
  rw [hi];obtain ⟨hw,hjn,hv0,hr0,hbit⟩:=YF (gu:=gu) g_ hn (c:=c) dk
  have ij:wI ((c:Int)-1)=(c:Int)-1:=Au dk
  have ib:∀ bit r,decide (JG (CY xs gu c) (Int.tmod c 64)=0)=bit→AO r→AO (Uy gu n xs c bit r):=by
   intro bit r hbt hr';refine ⟨by simp,rfl,?_,?_,by simp,by simp only [ji];exact ⟨hr0,hv0⟩,hbt,hr'⟩
   ·rw [hw];simp;omega
   ·rw [hw];simp;omega
  have hoj:Rg.On C2.b (CI j):=by rw [hj];exact CH C2 hP _
  have ejR:jR j=j:=mo_en j
  have htw:CI (B0 (jR j))=smul (2*(AK (AA xs gu n) / 2^(c+1))) p:=by
   rw [ejR,Rs C2 hoj,hj,← JQ C2 hP,qf]
  have hd:=fA (AK (AA xs gu n)) c
  rcases nf (AK (AA xs gu n) / 2^c) with h0 | h1
  ·refine Af dw (Ai U7 AB (AX7 ..) (ib true [] (by rw [hbit,h0];rfl) trivial) (vY ..) hb jb fun _=>?_)
   rw [ij];refine ih _ ?_ dk
   rw [htw,hd,h0];rfl
  ·refine Af d_ (Ai U7 AB (AX8 ..) (ib false _ (by rw [hbit,h1];rfl) ⟨KC (B0 (jR j)).z,KC (Mw p),KC (J' p),trivial⟩) (vY ..) hb jb fun _=>?_)
   rw [ij];refine ih _ ?_ dk
   unfold fC;rw [mo_en,Uq C2 (by rw [htw];exact CH C2 hP _),htw,hd,h1]
   cases p with
   | inf=>cases hI
   | pt a b =>
    show add _ (.pt (mo (en a)) (mo (en b)))=_;rw [mo_en,mo_en];rfl
end
def E8 (N:Nat) (p:P2):P2:=if BH p=true then smul N p else .pt 0 0
def FZ (p:P2):Int:=if BH p=true then 0 else 120
theorem AG0 {β:Env} {q:P2} {e:Int} {u:Value} (h:AN β (YH q e) u):AN β (KD q e) u:=C7 (fun _ q=>q) (fun _ q=>EX rfl q) h
theorem AX' {gu n m:Nat} {xs:dn} (g_:∀ d∈xs,0≤d∧d<18446744073709551616) (gx:gu+n≤xs.length) (hn:n≤1125899906842624) (r:R P2) :
  Ab dm 178 (P0 r gu n m) (BG xs) 1 [] (KD (E8 (AK (AA xs gu n)) (mo r)) (FZ (mo r))) []:=by
 have e1:=AX4 r gu n m xs;have e2:=AX5 r gu n m xs;have e3:=AX6 r gu n m xs;unfold fD at e1 e2 e3;rw [mo_en] at e1 e2 e3;generalize (mo r:P2)=p at *
 cases ho:BH p with
 | false =>
  unfold E8 FZ;rw [jd (by rw [ho];exact jq),jd (by rw [ho];exact jq)]
  refine BL (A7 (gv:=du) func178 dj dj fun β0 w0 hb =>
   Ay U7 AB func178 e2 ⟨by rw [ho];rfl,trivial⟩ (AS dj) hb jb) fun β u hu=>?_
  exact C7 (fun _ q=>F_ (r:=(en (.pt 0 0:P2):R P2)) dj q) (fun _ q=>EX rfl q) hu
 | true =>
  have hP:=(LU p).1 ho
  unfold E8 FZ;rw [je ho,je ho];cases hI:E4 p with
  | true =>
   have hp:p=.inf:=by cases p with | inf=>rfl | pt a b=>cases hI
   have hs:smul (AK (AA xs gu n)) p=p:=by rw [hp,HM]
   rw [hs];exact BL (A7 (gv:=dx) func178 dj dj fun β0 w0 hb =>
    Ay U7 AB func178 e3 ⟨by rw [ho];rfl,hI,trivial⟩ (AS dj) hb jb) fun β u hu=>AG0 hu
  | false =>
   refine BL (A7 (gv:=dz) func178 dj dj fun β0 w0 hb=>?_) fun β u hu=>AG0 hu
   refine Ai U7 AB e1 ⟨by rw [ho];rfl,hI,Mr hn,trivial⟩ (AS dj) hb jb fun _=>?_
   have e4:wI (wI (64*(n:Int))-1)=((64*n:Nat):Int)-1:=by
    rw [Au (z:=64*(n:Int)) dk,Au dk];omega
   rw [e4];refine dM AGz (AX_ g_ gx hn hP hI hb (64*n) ⟨0,0,0⟩ ?_ (jj _))
   rw [G1 rfl,lm (YG g_ gx)];rfl
def fE (α:Type) [Sh α] (g:dn→R α→AV):ASpec:=fun args H fr gv =>
 match args with
 | [S,.val true a]=>match DZ S with
  | some (k,gu,n)=>match (rd a:Option (R α)),AG H k with
   | some r,some ⟨_,cs,_⟩=>match A8 .u64 cs with
    | some xs=>some (BR [k] 1 fr 0 [] (g (AA xs gu n) r) [] [(Nat.ble (gu+n) xs.length,true),(Nat.ble n 1125899906842624,true)] gv)
    | none=>none
   | _,_=>none
  | none=>none
 | _=>none
theorem AG1 {α:Type} [Sh α] {f:FuncId} {fn:Func} {g:dn→R α→AV} (ip:dm.funcs[f]? = some fn) (hb:fn.body.isSome=true) (h_:fo fn) (hk:∀ l r,EU 1 0 [] (g l r) []=true)
  (h:∀ (gu n m:Nat) (xs:dn) (r:R α),(∀ d∈xs,0≤d∧d<18446744073709551616)→gu+n≤xs.length→n≤1125899906842624→Ab dm f [AR 0 gu n m,va α r] (BG xs) 1 [] (g (AA xs gu n) r) []):BJ dm f (fE α g):=by
 refine Da ip hb h_ fun args H fr gv r hs=>?_
 unfold fE at hs;split at hs;case h_2=>cases hs
 rename_i S a;split at hs;case h_2=>cases hs
 rename_i k gu n hS;split at hs;case h_2=>cases hs
 rename_i q ty cs o hx hk';split at hs;case h_2=>cases hs
 rename_i xs iy;injection hs with hs;refine ⟨[k],1,0,[],_,_,_,gv,hs.symm,fun β us w ha hg hc=>?_⟩
 obtain ⟨u1,iu,r1,⟨u2,iw,r2,ha,rfl⟩,rfl⟩:=ha;obtain ⟨m,r1⟩:=FE hS r1;obtain ⟨g1,g2,g3⟩:=Ml hg hk' iy;exact ⟨[AR 0 gu n m,va α q],BG xs,h gu n m xs q g1 (jf hc.1) (jf hc.2.1),hk _ _,⟨u1,_,Cp dk rfl r1,⟨u2,iw,F_ hx r2,ha,rfl⟩,rfl⟩,g2,g3⟩
def SJ4:dr:=(178,D9 (fE P2 fun l r=>KD (E8 (AK l) (mo r)) (FZ (mo r))))::SJ3
theorem AYA:AW dm SJ4:=⟨EV (AG1 func178 dj dj (fun _ _=>by kernel_rfl) fun _ _ _ _ r hx hl hn=>AX' hx hl hn r),AGy⟩
end
noncomputable section
def rQ:Nat:=fv
theorem AG2:∃ n,n=rQ:=⟨_,rfl⟩
def rN:Nat:=Classical.choose AG2
theorem rN_eq:rN=rQ:=kq AG2
def RL:dn:=[0xffffffff00000001,0x53bda402fffe5bfe,0x3339d80809a1d805,0x73eda753299d7d48]
theorem vZ:AK (AA RL 0 4)=rN:=(by kernel_rfl:AK (AA RL 0 4)=rQ).trans rN_eq.symm
def v0:List Ch:=RL.map fun i=>.n .u64 i
theorem AYB:AM dm (AH S0 K0) f168 [] [] 100=some ([],.val true v0):=dj
theorem AYC:AU dm 168 [] (.val true v0):=AP (AJ IW Ae) AB func168 AYB trivial rfl
def SJa:dr:=(168,Ac (ev FP (.val true v0)))::SJ4
theorem AG3:AW dm SJa:=⟨Ad func168 dj dj (eS (α:=FP) AYC),AYA⟩
abbrev oJa:gr:=AH SJa KH
theorem AG4:gp dm oJa:=AJ AG3 Ct
def SJb:dr:=(109,BF dm oJa f109 100)::(179,BF dm oJa f179 100)::SJa
theorem AG5:AW dm SJb:=⟨BK AG4 AB func109 dj dj 100,BK AG4 AB func179 dj dj 100,AG3⟩
abbrev oJb:gr:=AH SJb KH
theorem AG6:gp dm oJb:=AJ AG5 Ct
def SJc:dr:=(108,BF dm oJb f108 300)::(177,BF dm oJb f177 300)::SJb
theorem AG7:AW dm SJc:=⟨BK AG6 AB func108 dj dj 300,BK AG6 AB func177 dj dj 300,AG5⟩
abbrev oJc:gr:=AH SJc KH
theorem fF:gp dm oJc:=AJ AG7 Ct
def BT (p:Pt FP):Bool:=BE p&&Aq (smul rN p)
def CT (p:P2):Bool:=BH p&&E4 (smul rN p)
def rW:dn:=AA RL (0+0*1) (4-0)
theorem AG8:AK rW=rN:=vZ
section
variable (r:R P2) (x y:Nat) (i:Bool)
theorem AYD:AM dm oJc f104 [va P2 r] du 500=some (tt 2 [(decide (FZ (mo r)=0),true)],Av (en (E8 (AK rW) (mo r)):R P2).2.2):=dj
theorem AYE:AM dm oJc f104 [va P2 r] dt 500=some (tt 2 [(decide (FZ (mo r)=0),false)],.val false [.b false]):=dj
theorem AYF:AM dm oJc f48 [By x y i] du 500=some (tt 2 [(decide (HR (An x y i)=0),true)],Av (Aq (HQ (AK rW) (An x y i)))):=dj
theorem AYG:AM dm oJc f48 [By x y i] dt 500=some (tt 2 [(decide (HR (An x y i)=0),false)],.val false [.b false]):=dj
end
theorem AYH (r:R P2):AU dm 104 [va P2 r] (Av (CT (mo r))):=by
 have h1:=AYD r;have h2:=AYE r;generalize (mo r:P2)=p at *
 unfold CT;cases ho:BH p with
 | true =>
  have e:en (E8 (AK rW) p)=(en (smul rN p):R P2):=by unfold E8;rw [je ho,AG8]
  rw [e] at h1;exact AP fF AB func104 h1 (AI 2 ⟨by unfold FZ;rw [je ho];rfl,trivial⟩) rfl
 | false=>exact C3 (AP fF AB func104 h2 (AI 2 ⟨by unfold FZ;rw [jd (by rw [ho];exact jq)];rfl,trivial⟩) rfl) fun u hu=>JK rfl hu
theorem AYI (x y:Nat) (i:Bool):AU dm 48 [By x y i] (Av (BT (An x y i))):=by
 have h1:=AYF x y i;have h2:=AYG x y i;generalize An x y i=p at *
 unfold BT;cases ho:BE p with
 | true =>
  have e:HQ (AK rW) p=smul rN p:=by unfold HQ;rw [je ho,AG8]
  rw [e] at h1;exact AP fF AB func48 h1 (AI 2 ⟨by unfold HR;rw [je ho];rfl,trivial⟩) rfl
 | false=>exact C3 (AP fF AB func48 h2 (AI 2 ⟨by unfold HR;rw [jd (by rw [ho];exact jq)];rfl,trivial⟩) rfl) fun u hu=>JK rfl hu
def SJd:dr:=(48,Ac (N8 fun p=>Av (BT p)))::(104,Ac (Bi P2 fun r=>Av (CT (mo r))))::SJc
theorem AG9:AW dm SJd:=⟨Ad func48 dj dj (Rt AYI),Ad func104 dj dj (Bm AYH),AG7⟩
end
end Go.Proofs.YtgnajdcdcblaoaaGreat
