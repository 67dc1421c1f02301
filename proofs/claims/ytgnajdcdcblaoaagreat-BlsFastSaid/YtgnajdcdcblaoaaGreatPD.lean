/- Part 4 of the proof. -/
import Derived.Test.YtgnajdcdcblaoaaGreatPC
import Derived.ChangeSlices
import Derived.Test.YtgnajdcdcblaoaaGreatPB
set_option maxRecDepth 100000
set_option maxHeartbeats 4000000
open Go.Proofs.Tryz renaming prog→dr
open Go.Proofs.Tryz
namespace Go.Proofs.YtgnajdcdcblaoaaGreat
open Ex
theorem J6 (x n:Nat):(Bv x n).length=n:=by simp [Bv]
theorem uR (x n:Nat):Bv x (n+1)=FC x n::Bv x n:=by
 unfold Bv;rw [sr,lz,ot];congr 1
 refine nx fun i hi=>?_
 have:i<n:=mj.1 hi
 simp only [Function.comp];congr 1;omega
theorem AGA:∀ (n x:Nat),Ap (Bv x n)=x % 256^n
 | 0,x=>by simp [Bv,Ap,Nat.mod_one]
 | n+1,x=>by
  rw [uR];simp only [Ap];rw [J6,AGA n x,lj,Nat.mod_mul];unfold FC;rw [jz,ko,Nat.add_comm]
theorem AGB:∀ (l:dt),(∀ d∈l,0≤d∧d<256)→Bv (Ap l) l.length=l
 | [],_=>rfl
 | d::r,h=>by
  have hd:=h d (by simp)
  have hr:∀ d∈r,0≤d∧d<256:=fun x hx=>h x (by simp [hx])
  have jb:=Ul r hr;have ih:=AGB r hr;rw [k_,uR];have e1:FC (Ap (d::r)) r.length=d:=by
   unfold FC;simp only [Ap];rw [ko,Nat.mul_add_div (m_ dp),mf jb];omega
  have e2:Bv (Ap (d::r)) r.length=Bv (Ap r) r.length:=by
   unfold Bv;refine nx fun i hi=>?_
   have hi':i<r.length:=mj.1 hi
   unfold FC;simp only [Ap];have e:256^r.length=256^(r.length-1-i)*(256*256^i):=by
    rw [← s_,← kc];congr 1;omega
   rw [e,nb,Nat.mul_add_div (m_ dp),nb d.toNat,Nat.mul_add_mod]
  rw [e1,e2,ih]
open Ex
open Go.RowKit (Below)
def DH (ls:List Ex.Loc):Env:=fun k=>ls[k]?
theorem AUT (ls:List Ex.Loc) (L:Ex.Loc):Env.le (DH ls) (DH (ls++[L])):=fun b X h=>by
 have hb:b<ls.length:=by
  rcases kf b ls.length with q | q
  ·exact q
  ·simp only [DH] at h;rw [mq q] at h;cases h
 simp only [DH] at h ⊢;rw [om hb];exact h
theorem JL (ls:List Ex.Loc) (L:Ex.Loc):DH (ls++[L]) ls.length=some L:=by simp [DH]
structure ArgsOk (W:gn) (ls:List Ex.Loc) (bs:List ib):Prop where
 len:ls.length=bs.length
 blk:∀ (j:Nat) (b:ib),bs[j]? = some b→b.ty=Br∧DK (DH ls) b j W
 lt:∀ (j B:Nat) (n:Nat×Nat),ls[j]? = some (Ex.Loc.at_ B n)→B<W.heap.size
theorem ArgsOk.nil (W:gn):ArgsOk W [] []:=⟨rfl,fun j b h=>by simp at h,fun j B n h=>by simp at h⟩
theorem ArgsOk.good {W:gn} {ls:List Ex.Loc} {bs:List ib} (h:ArgsOk W ls bs):Ex.Good (DH ls) (LG 0 bs) W:=by
 refine ⟨fun b blk hb=>?_,fun b b' B n n' h1 _ _ _=>?_,fun b B n hb=>h.lt b B n hb⟩
 ·obtain ⟨_,hj⟩:=PY hb;exact (h.blk b blk (by simpa using hj)).2
 ·obtain ⟨d,hd,hr⟩:=GU h1;obtain ⟨_,hj⟩:=PY hd;exact absurd (h.blk b d (by simpa using hj)).1 hr
theorem ArgsOk.none {W:gn} {ls:List Ex.Loc} {bs:List ib} (h:ArgsOk W ls bs):∀ b,bs.length≤b→DH ls b=none:=fun b hb=>by
 simp only [DH];rw [mq (by rw [h.len];exact hb)]
theorem ArgsOk.snoc {W:gn} {ls:List Ex.Loc} {bs:List ib} (h:ArgsOk W ls bs) {L:Ex.Loc} {b:ib} (hb:DK (DH (ls++[L])) b ls.length W) (hr:b.ty=Br) (hl:∀ B n,L=Ex.Loc.at_ B n→B<W.heap.size):ArgsOk W (ls++[L]) (bs++[b]):=by
 refine ⟨by simp [h.len],fun j d hd=>?_,fun j B n hj=>?_⟩
 ·rcases kf j bs.length with q | q
  ·rw [om q] at hd;exact ⟨(h.blk j d hd).1,Zz (AUT ls L) (h.blk j d hd).2⟩
  ·rw [ru q] at hd;have e:j=bs.length:=by
    rcases Nat.eq_or_lt_of_le q with q' | q'
    ·exact q'.symm
    ·rw [mq (by simp;omega)] at hd;cases hd
   subst e;simp at hd
   subst hd;exact ⟨hr,by rw [← h.len];exact hb⟩
 ·rcases kf j ls.length with q | q
  ·rw [om q] at hj;exact h.lt j B n hj
  ·rw [ru q] at hj;have e:j-ls.length=0:=by
    rcases md (j-ls.length) with q' | q'
    ·exact q'
    ·rw [mq (by simp;omega)] at hj;cases hj
   rw [e] at hj;simp at hj
   exact hl B n hj
theorem AUU {P:gr} {CP:gt→Bool}:∀ (d:Nat) {e:gt} {count ic n:Nat},rowAt P CP d e count ic n=true→ic≤count*P.cellsOf e
 | 0,_,_,_,_,h=>by simp [rowAt] at h
 | d+1,e,count,ic,n,h=>by
  by_cases hs:P.cellsOf e=0
  ·unfold rowAt at h;simp [hs] at h
  ·unfold rowAt at h;rw [jn hs] at h;have iy:0<P.cellsOf e:=sm hs
   have hdm:=mv ic (P.cellsOf e)
   have jb:=ki ic iy;have key:ic / P.cellsOf e<count∨(ic % P.cellsOf e=0∧ic / P.cellsOf e≤count):=by
    simp only [sn,jx,jt,beq_iff_eq] at h;rcases h with ⟨⟨h1,h2⟩,_⟩ | ⟨h1,_⟩
    ·exact .inr ⟨h1,dn⟩
    ·exact .inl h1
   rcases key with q | ⟨q1,q2⟩
   ·have:=nr (P.cellsOf e) (show ic / P.cellsOf e+1≤count from q)
    rw [oe,kt] at this;rw [ko count];omega
   ·have:=nr (P.cellsOf e) q2
    rw [ko count];omega
theorem uU {P:gr}:∀ (d:Nat) {e u:gt} {count ic n:Nat},liesAt P d e count ic u n=true→ic≤count*P.cellsOf e
 | 0,_,_,_,_,_,h=>by simp [liesAt] at h
 | d+1,e,u,count,ic,n,h=>by
  unfold liesAt at h;rw [sn] at h;rcases h with h | h
  ·exact AUU _ h
  ·split at h
   ·exact uU d h
   ·cases h
theorem AUV {H:Type} {enc:gt×gq→H} {W:gn} {base:Nat} {t e:gt} {k:IntKind} {v:gq} {d:DataW H} {p:List MemPlace} (hu:dr.underlying t=some (.slice e)) (he:dr.underlying e=some (.int k)) (hc:dr.cellsOf e=1)
  (hv:Value.okWide dr W .any base t v) (ht:DataW.Trod enc dr W 0 (fun _=>true) true t v d p) :
  ∃ (L:Ex.Loc) (zs:dt) (n m:Nat),(∀ x∈zs,has k x)∧n≤zs.length∧n≤maxLen∧(∀ B q,L=Ex.Loc.at_ B q→B<W.heap.size)∧∀ ls:List Ex.Loc,AO (DH (ls++[L])) (.val false [.sl ls.length 0 n m]) v∧DK (DH (ls++[L])) (An [.seq k zs]) ls.length W:=by
 obtain ⟨ir,hf⟩:=ht;obtain ⟨a0,len0,cap0,rfl⟩:=Go.WideShapes.okWide_slice hu hv;have hcells:(Value.slice a0 len0 cap0).cells=#[Value.slice a0 len0 cap0]:=rfl
 rw [hcells] at hf;rcases Go.ChangeShapes.open_ints hu he hc hf with ⟨hcs,_⟩ | ⟨a,len,cap,zs,hcs,hb,hl,hm,hz,_,hcell,jj⟩
 ·have e1:Value.slice a0 len0 cap0=.slice none 0 0:=by simpa using hcs
  rw [e1];refine ⟨.nil,[],0,0,by simp,by simp,qt _,(fun B q h=>by cases h),fun ls=>⟨?_,.inr (.inl ⟨.nil,JL _ _,Or.inr rfl,⟨[],[],⟨rfl,by simp⟩,rfl,rfl⟩⟩)⟩⟩
  exact Az (.inr (.inl ⟨JL _ _,rfl,rfl,rfl,rfl⟩))
 ·have e1:Value.slice a0 len0 cap0=.slice (some a) len cap:=by simpa using hcs
  rw [e1] at hv ⊢;simp only [if_true] at hz;have hk:Cell.ok dr W .any base t (.slice (some a) len cap):=by
   have:=hv
   simp only [Value.okWide,hu,Cell.okWide] at this;exact this
  simp only [Cell.ok,hu] at hk;obtain ⟨_,_,_,hspot,row,cells,hsh,hlies⟩:=hk;obtain ⟨c,fz,hblk,hsz⟩:∃ c fz,W.heap[a.block]? = some (.cells c row fz)∧cells=c.size:=by
   unfold World.shape? at hsh
   split at hsh
   ·rename_i c el fz hq;injection hsh with hsh;injection hsh with h1 h2;exact ⟨c,fz,by rw [hq,h1],h2.symm⟩
   ·cases hsh
  have hoff:a.off≤c.size:=by
   have h1:=uU _ hlies;have h2:=qu cells (dr.cellsOf row)
   omega
  have AF:∀ i,i<zs.length→c[a.off+i]? = some (.int k (zs.getD i 0)):=by
   intro i hi;have h1:=hcell i hi;have e2:a.add i=⟨a.block,a.off+i,none⟩:=by
    unfold Addr.add;split
    ·rename_i h0;subst h0;cases a;simp only at hspot;simp [hspot]
    ·rfl
   rw [e2] at h1;simp only [World.cell?,hblk] at h1;simpa using h1
  have hend:a.off+zs.length≤c.size:=by
   rcases md zs.length with h0 | hp
   ·omega
   ·have:=(rv.1 (AF (zs.length-1) dn)).1
    omega
  have hlist:c.toList=c.toList.take a.off++(zs.map (.int k)++c.toList.drop (a.off+zs.length)):=by
   have hmid:(c.toList.drop a.off).take zs.length=zs.map (.int k):=by
    refine tn fun i=>?_
    by_cases hi:i<zs.length
    ·rw [rx hi,qv,rq,AF i hi,qe,nh hi,kq,nh hi];rfl
    ·rw [mq (by simp;omega),mq (by simp;omega)]
   rw [← hmid,← od,nq,nq]
  have ea:a=⟨a.block,a.off,none⟩:=by cases a;simp only at hspot;simp [hspot]
  have hhas:∀ x∈zs,has k x:=fun x hx=>ADc (jj x hx)
  refine ⟨.at_ a.block (c.size,a.off),zs,len,cap,hhas,dn,mw hl hm,fun B q h=>?_,fun ls=>⟨?_,.inl ⟨a.block,(c.size,a.off),zs.map (.int k),c.toList.drop (a.off+zs.length),c.toList.take a.off,row,fz,JL _ _,⟨_,[],⟨rfl,hhas⟩,rfl,by simp⟩,?_,?_,fun hr=>absurd rfl hr⟩⟩⟩
  ·injection h with h1 h2;rw [← h1];exact (rv.1 hblk).1
  ·refine Az (.inl ⟨a.block,(c.size,a.off),JL _ _,?_⟩)
   rw [og,← ea]
  ·rw [← hlist];exact hblk
  ·simp;omega
theorem AUW {f:gp} {fn:Func} (h:∀ (H:Type) (enc:gt×gq→H) (us:List gq) (W:gn) (base:Nat) (ds:List (DataW H)) (ps:List MemPlace),(∀ (j:Nat) t v,fn.params[j]? = some t→us[j]? = some v→Value.okWide dr W .any base t v) →
  DataW.TrodAll enc dr W 0 (fun _=>true) true fn.params.toList us ds ps→∃ ls bs args,ArgsOk W ls bs∧BL (DH ls) args us∧Ab dr f args (LG 0 bs) bs.length [] (Aw true) []):qO dr f fn:=by
 intro H enc us W base ds ps hv hA _ _;obtain ⟨ls,bs,args,ho,ha,hc⟩:=h H enc us W base ds ps hv hA;refine (hc (DH ls) us W ha ho.good ho.none).mono ?_
 rintro e w' ⟨u,β,rfl,out⟩
 obtain ⟨l1,l2,⟨h1,_⟩,h3,h4⟩:=out.val;simp only [AP] at h3;subst h1;subst h3;injection h4 with h4 _;refine ⟨by rw [h4],⟨out.os,out.tape,out.output,out.size,fun k hk=>out.frame k hk (fun _ _ h=>by cases h)⟩⟩
theorem AUX {f:gp} {args:List AV} {H:Heap} {k0:Nat} {b:Bool} (h:Ab dr f args H k0 [] (Aw b) []) (e:b=true):Ab dr f args H k0 [] (Aw true) []:=by rw [← e];exact h
open Ex Num
def DS:AV→Option (Nat×Nat×Nat)
 | .val false [.sl k ic n _]=>some (k,ic,n)
 | .val false [.sx k n _]=>some (k,0,n)
 | _=>none
theorem E8 {β:Env} {A:AV} {k ic n:Nat} {u:gq} (h:DS A=some (k,ic,n)) (hr:AO β A u):∃ m,AO β (AQ k ic n m) u:=by
 unfold DS at h;split at h
 ·rename_i k' ig n' m;injection h with h;injection h with h1 h;injection h with h2 h3;subst h1;subst h2;subst h3;exact ⟨m,hr⟩
 ·rename_i k' n' sz;injection h with h;injection h with h1 h;injection h with h2 h3;subst h1;subst h2;subst h3;obtain ⟨l1,l2,h1,h2,h3⟩:=hr;rcases h1 with ⟨B,q,cap,q1,q2,q3,q4⟩ | ⟨q1,q2,q3⟩
  ·exact ⟨cap,l1,l2,.inl ⟨B,(q,0),q1,by rw [q2]⟩,h2,h3⟩
  ·exact ⟨0,l1,l2,.inr (.inl ⟨q1,rfl,q2,rfl,q3⟩),h2,h3⟩
 ·cases h
theorem DN {f:gp} {fn:Func} (jc:dr.funcs[f]? = some fn) (hbd:fn.body.isSome=true) (iq:fw fn) {s:ASpec}
  (h:∀ args H fr ie r,s args H fr ie=some r→∃ (ρ:List Nat) (k0 nw:Nat) (W:List Nat) (val:AV) (H1:Heap) (conds:du) (path':List Bool),
   r=BP ρ k0 fr nw W val H1 conds path'∧(∀ β us w,BL β args us→Ex.Good β H w→AM conds→∃ iw H0,Ab dr f iw H0 k0 W val H1∧EJ k0 nw W val H1=true∧BL (A9 β ρ k0) iw us∧Ex.Good (A9 β ρ k0) H0 w∧(∀ k,k<k0→∃ X,β (nth ρ k)=some X))):BI dr f s:=by
 intro args H fr ie r β us w hs hc ha hg hf;obtain ⟨ρ,k0,nw,W,val,H1,conds,path',rfl,hh⟩:=h args H fr ie r hs;obtain ⟨iw,H0,hcan,hb,ha0,hg0,hdef⟩:=hh β us w ha hg hc;refine UF jc hbd iq (Calls.mono (hcan (A9 β ρ k0) us w ha0 hg0 fun b hb=>?_) ?_)
 ·have:Nat.blt b k0=false:=by cases h:Nat.blt b k0 with | false=>rfl | true=>have:=BX.1 h;omega
  simp [A9,this]
 ·rintro e w' ⟨u,β1,rfl,ho⟩
  obtain ⟨β',he⟩:=ADb (conds:=conds) (ie:=path') hg ho hb hf hdef
  exact ⟨u,β',rfl,he⟩
theorem CV {β:Env} {k j ic n m:Nat} {ρ:List Nat} {k0:Nat} {u:gq} (hj:j<k0) (hn:nth ρ j=k) (h:AO β (AQ k ic n m) u):AO (A9 β ρ k0) (AQ j ic n m) u:=by
 obtain ⟨l1,l2,h1,h2,h3⟩:=h;refine ⟨l1,l2,?_,h2,h3⟩
 have e:A9 β ρ k0 j=β k:=by rw [E6 hj,hn]
 rcases h1 with ⟨B,q,q1,q2⟩ | ⟨q1,q2⟩ | ⟨q1,q2⟩
 ·exact .inl ⟨B,q,by rw [e];exact q1,q2⟩
 ·exact .inr (.inl ⟨by rw [e];exact q1,q2⟩)
 ·exact .inr (.inr ⟨by rw [e];exact q1,q2⟩)
def X8 (g:Nat→dt→AV):ASpec:=fun args H fr ie =>
 match args with
 | [S]=>match DS S with
  | some (k,ic,n)=>match AF H k with
   | some ⟨_,cs,_⟩=>match A' .u8 cs with
    | some xs=>some (BP [k] 1 fr 0 [] (g n (AA xs ic n)) [] [(Nat.ble (ic+n) xs.length,true),(AK .i64 n,true)] ie)
    | none=>none
   | _=>none
  | none=>none
 | _=>none
theorem uW {f:gp} {fn:Func} {g:Nat→dt→AV} (jc:dr.funcs[f]? = some fn) (hb:fn.body.isSome=true) (iq:fw fn) (hk:∀ n l,EJ 1 0 [] (g n l) []=true)
  (h:∀ (ic n m:Nat) (xs:dt),(∀ d∈xs,0≤d∧d<256)→ic+n≤xs.length→AK .i64 n=true→Ab dr f [AQ 0 ic n m] (A7 xs) 1 [] (g n (AA xs ic n)) []):BI dr f (X8 g):=by
 refine DN jc hb iq fun args H fr ie r hs=>?_
 unfold X8 at hs;split at hs;case h_2=>cases hs
 rename_i S;split at hs;case h_2=>cases hs
 rename_i k ic n hS;split at hs;case h_2=>cases hs
 rename_i ty cs o hk';split at hs;case h_2=>cases hs
 rename_i xs jh;injection hs with hs;refine ⟨[k],1,0,[],_,_,_,ie,hs.symm,fun β us w ha hg hc=>?_⟩
 obtain ⟨u1,jf,r1,ha,rfl⟩:=ha;obtain ⟨m,r1⟩:=E8 hS r1;obtain ⟨g1,g2,g3⟩:=EP hg hk' jh;exact ⟨[AQ 0 ic n m],A7 xs,h ic n m xs g1 (jp hc.1) hc.2.1,hk _ _,⟨u1,_,CV dn rfl r1,ha,rfl⟩,g2,g3⟩
def X9 (g:Nat→dt→AV):ASpec:=fun args H fr ie =>
 match args with
 | [S]=>match DS S with
  | some (k,ic,n)=>match AF H k with
   | some ⟨_,cs,_⟩=>match A' .u64 cs with
    | some xs=>some (BP [k] 1 fr 0 [] (g n (AA xs ic n)) [] [(Nat.ble (ic+n) xs.length,true),(Nat.ble n 1125899906842624,true)] ie)
    | none=>none
   | _=>none
  | none=>none
 | _=>none
theorem uZ {f:gp} {fn:Func} {g:Nat→dt→AV} (jc:dr.funcs[f]? = some fn) (hb:fn.body.isSome=true) (iq:fw fn) (hk:∀ n l,EJ 1 0 [] (g n l) []=true)
  (h:∀ (ic n m:Nat) (xs:dt),(∀ d∈xs,0≤d∧d<18446744073709551616)→ic+n≤xs.length→n≤1125899906842624→Ab dr f [AQ 0 ic n m] (BE xs) 1 [] (g n (AA xs ic n)) []):BI dr f (X9 g):=by
 refine DN jc hb iq fun args H fr ie r hs=>?_
 unfold X9 at hs;split at hs;case h_2=>cases hs
 rename_i S;split at hs;case h_2=>cases hs
 rename_i k ic n hS;split at hs;case h_2=>cases hs
 rename_i ty cs o hk';split at hs;case h_2=>cases hs
 rename_i xs jh;injection hs with hs;refine ⟨[k],1,0,[],_,_,_,ie,hs.symm,fun β us w ha hg hc=>?_⟩
 obtain ⟨u1,jf,r1,ha,rfl⟩:=ha;obtain ⟨m,r1⟩:=E8 hS r1;obtain ⟨g1,g2,g3⟩:=LL hg hk' jh;exact ⟨[AQ 0 ic n m],BE xs,h ic n m xs g1 (jp hc.1) (jp hc.2.1),hk _ _,⟨u1,_,CV dn rfl r1,ha,rfl⟩,g2,g3⟩
noncomputable def powSp:ASpec:=fun args H fr ie =>
 match args with
 | [.val true a,S]=>match DS S with
  | some (k,ic,n)=>match DE 6 a,AF H k with
   | some x,some ⟨_,cs,_⟩=>match A' .u64 cs with
    | some xs=>some (BP [k] 1 fr 0 [] (Ad (C8 x (AI (AA xs ic n)))) [] [(Nat.ble (ic+n) xs.length,true),(Nat.ble n 1125899906842624,true)] ie)
    | none=>none
   | _,_=>none
  | none=>none
 | _=>none
theorem AGC {f:gp} {fn:Func} (jc:dr.funcs[f]? = some fn) (hb:fn.body.isSome=true) (iq:fw fn)
  (h:∀ (ic n m:Nat) (xs:dt) (x:Nat),(∀ d∈xs,0≤d∧d<18446744073709551616)→ic+n≤xs.length→n≤1125899906842624→Ab dr f (Nv x ic n m) (BE xs) 1 [] (Ad (C8 x (AI (AA xs ic n)))) []):BI dr f powSp:=by
 refine DN jc hb iq fun args H fr ie r hs=>?_
 unfold powSp at hs;split at hs;case h_2=>cases hs
 rename_i a S;split at hs;case h_2=>cases hs
 rename_i k ic n hS;split at hs;case h_2=>cases hs
 rename_i x ty cs o hx hk';split at hs;case h_2=>cases hs
 rename_i xs jh;injection hs with hs;refine ⟨[k],1,0,[],_,_,_,ie,hs.symm,fun β us w ha hg hc=>?_⟩
 obtain ⟨u1,jf,r1,⟨u2,jg,r2,ha,rfl⟩,rfl⟩:=ha;obtain ⟨m,r2⟩:=E8 hS r2;obtain ⟨g1,g2,g3⟩:=LL hg hk' jh;refine ⟨Nv x ic n m,BE xs,h ic n m xs x g1 (jp hc.1) (jp hc.2.1),dm,⟨u1,_,?_,⟨u2,jg,CV dn rfl r2,ha,rfl⟩,rfl⟩,g2,g3⟩
 obtain ⟨l,q,rfl⟩:=r1;exact ⟨l,GI hx q,rfl⟩
noncomputable def SB:dw:=(140,D3 (X8 fun n l=>IZ n (Ap l)))::(128,D3 (X8 fun n l=>IZ n (Ap l)))::(130,D3 powSp)::(206,D3 powSp)::(188,D3 (X9 fun _ l=>Ad (AI l % pN)))::SZ
theorem AUY:AX dr SB:=⟨EK (uW func140 dm dm (fun _ _=>rfl) (fun _ _ _ _ hx hl hn=>AF' hx hl hn)),EK (uW func128 dm dm (fun _ _=>rfl) (fun _ _ _ _ _ hl hn=>tO hl hn)),EK (AGC func130 dm dm fun _ _ _ _ x hx hl hn=>AEO hx hl hn x),EK (AGC func206 dm dm fun _ _ _ _ x hx hl hn=>AFz hx hl hn x),EK (uZ func188 dm dm (fun _ _=>rfl) (fun _ _ _ _ hx hl hn=>uL hx hl hn)),AUS⟩
def tt:Nat→du→du
 | 0,r=>r
 | n+1,r=>(true,true)::tt n r
theorem AY:∀ (n:Nat) {r:du},AM r→AM (tt n r)
 | 0,_,h=>h
 | n+1,_,h=>⟨rfl,AY n h⟩
theorem Bf {S:dw} {K:List (gt×List (Option IntKind))} (hS:AX dr S) (hK:MU dr K) {f:gp} {fn:Func} (jc:dr.funcs[f]? = some fn) (hb:fn.body.isSome=true) {args:List AV} {H H1:Heap} {ir k0:Nat} {ks:List Nat} {ie:List Bool} {conds:du} {v:AV}
  (ii:Nat.ble (Fs args) fn.ntmps=true) (h:AU dr (AG S K) fn ir k0 ks (Ak fn args H k0 ie)=some (conds,[],v,H1)) (hw:RD fn.ntmps (Ak fn args H k0 ie).s=true) (hc:AM conds):Ab dr f args H k0 [] v H1 :=
 A_ (ie:=ie) jc hb ii fun _ _ h0=>A6 (AH hS hK) AB jc h hc (AR hw) h0 jl
section
variable {H:Type} {enc:gt×gq→H} {W:gn} {base:Nat} {v:gq} {d:DataW H} {p:List MemPlace}
theorem X_:dr.underlying 22=some (.slice 5):=dm
theorem u5:dr.underlying 5=some (.int .u8):=dm
theorem u6:dr.cellsOf 5=1:=dm
theorem u7 {n:Nat} (h:n≤maxLen):AK .i64 (n:Int)=true:=by
 unfold maxLen at h;simp only [AK,jx,jt];omega
theorem AUZ (hv:Value.okWide dr W .any base 22 v) (ht:DataW.Trod enc dr W 0 (fun _=>true) true 22 v d p) {ls:List Ex.Loc} {bs:List ib} (ho:ArgsOk W ls bs) :
  ∃ (L:Ex.Loc) (zs:dt) (n m:Nat),(∀ x∈zs,0≤x∧x<256)∧n≤zs.length∧AK .i64 (n:Int)=true∧AO (DH (ls++[L])) (AQ ls.length 0 n m) v∧ArgsOk W (ls++[L]) (bs++[An [.seq .u8 zs]]):=by
 obtain ⟨L,zs,n,m,h1,h2,h3,h4,h5⟩:=AUV X_ u5 u6 hv ht;exact ⟨L,zs,n,m,fun x hx=>tN (h1 x hx),h2,u7 h3,(h5 ls).1,ho.snoc (h5 ls).2 rfl h4⟩
end
def qtH:Heap:=[(0,some ⟨38,QC,false⟩)]
theorem AUa:AU dr (AG S0 K0) f207 100 0 [0] (Ak f207 [] [] 0 [])=some ([],[],AQ 0 0 6 6,qtH):=dm
def qtSp:ASpec:=fun args _ fr ie =>
 match args with
 | []=>some (BP [] 0 fr 1 [] (AQ 0 0 6 6) qtH [] ie)
 | _=>none
theorem AUb:BI dr 207 qtSp:=by
 refine GW func207 dm dm fun args H fr ie r hs=>?_
 unfold qtSp at hs;split at hs;case h_2=>cases hs
 injection hs with hs;refine ⟨[],[],[],0,1,[],_,_,_,ie,hs.symm,fun β us w ha hg hc=>?_⟩
 refine ⟨Bf IV Ac func207 dm dm AUa dm trivial,dm,ha,⟨fun b blk h=>(by cases h),fun b b' B n n' h=>(by cases h),fun b B n h=>?_⟩,fun k h=>absurd h (pf k)⟩
 unfold A9 at h;split at h
 ·exact hg.lt _ _ _ h
 ·cases h
noncomputable def SC:dw:=(207,qtSp)::SB
theorem eD:AX dr SC:=⟨AUb,AUY⟩
def QL:dt:=[0xee7fbfffffffeaab,0x7aaffffac54ffff,0xd9cc34a83dac3d89,0xd91dd2e13ce144af,0x92c6e9ed90d2eb35,0x680447a8e5ff9a6]
theorem AUc:AI (AA QL 0 6)=QN:=dm
noncomputable def X' (a:Nat):Nat:=C8 a (AI (AA QL 0 6))
theorem AUd (a:Nat):AJ dr (AG SC K0) f144 [Ad a] [] 300=some (tt 2 [],.tup [(true,[.num 6 (X' a)]),(false,[.v (.bool (decide (Ae (X' a) (X' a)=a % pN)))])]):=dm
noncomputable def AGE (a:Nat):AV:=.tup [(true,[.num 6 (C8 a QN)]),(false,[.v (.bool (CX a))])]
theorem AUe (a:Nat):AT dr 144 [Ad a] (AGE a):=by
 have h:=AN (AH eD Ac) AB func144 (AUd a) (AY 2 trivial) rfl
 have e:X' a=C8 a QN:=by unfold X';rw [AUc]
 rw [e] at h;exact h
theorem AUf (a:Nat):AJ dr (AG SC K0) f145 [Ad a] [] 300=some ([(decide (0≤AE (a % pN) 0∧(0:Int)<2),true)],DR (wI (Int.tmod (AE (a % pN) 0) 2))):=dm
theorem AUg (a:Nat):AT dr 145 [Ad a] (DR (EV a)):=by
 have hb:=Bx (a % pN) 0
 have h:=AN (AH eD Ac) AB func145 (AUf a) ⟨by simp [hb.1],trivial⟩ rfl
 have e:wI (Int.tmod (AE (a % pN) 0) 2)=EV a:=by
  rw [sH,o_ dn,Au dn];unfold EV;omega
 rw [e] at h;exact h
theorem AUh (a:Nat):AJ dr (AG SC K0) f69 [Ad a] [] 300=some (tt 4 [],Aw (decide (0<EO (AI (AA (IX (a % pN)) (0+0*1) (6-0))) (AI (AA (IX (C7 a)) (0+0*1) (6-0)))))):=dm
theorem AUi (x:Nat):AT dr 69 [Ad x] (Aw (BG x)):=by
 have h:=AN (AH eD Ac) AB func69 (AUh x) (AY 4 trivial) rfl
 rw [Pe (Jz x),Pe (nl (cJ x) dp)] at h;have e:decide (0<EO (x % pN) (C7 x))=BG x:=by
  unfold EO BG;by_cases h1:x % pN<C7 x
  ·rw [jo h1,jq dn,jq dn]
  ·by_cases h2:C7 x<x % pN
   ·rw [jn h1,jo h2,jm h2];rfl
   ·rw [jn h1,jn h2,jq h2];rfl
 rw [e] at h;exact h
noncomputable def SD:dw:=(144,Af (Fv AGE))::(145,Af (Fv fun x=>DR (EV x)))::(69,Af (Fv fun x=>Aw (BG x)))::SC
theorem eF:AX dr SD:=⟨Ah func144 dm dm (GZ fun x _=>AUe x),Ah func145 dm dm (GZ fun x _=>AUg x),Ah func69 dm dm (GZ fun x _=>AUi x),eD⟩
theorem AUj (a:Nat):AJ dr (AG SD K0) f67 [Ad a] dz 300=some ([(!CX a,true)],.tup [(true,GY),(false,[.b false])]):=dm
theorem AUk (a:Nat):AJ dr (AG SD K0) f67 [Ad a] ee 300=some ([(!CX a,false),(decide (EV (C8 a QN)=1),true)],.tup [(true,[.num 6 (C7 (C8 a QN))]),(false,[.b true])]):=dm
theorem AUl (a:Nat):AJ dr (AG SD K0) f67 [Ad a] ef 300=some ([(!CX a,false),(decide (EV (C8 a QN)=1),false)],.tup [(true,[.num 6 (C8 a QN)]),(false,[.b true])]):=dm
theorem AUm (a:Nat):AT dr 67 [Ad a] (UZ a):=by
 by_cases h:CX a=true
 ·have e:D4 a=Hu (C8 a QN):=by unfold D4;rw [jo h]
  unfold UZ;rw [e];by_cases hs:EV (C8 a QN)=1
  ·have e2:Hu (C8 a QN)=C7 (C8 a QN):=jo hs
   rw [e2];exact CG (AN (AH eF Ac) AB func67 (AUk a) ⟨by rw [h];rfl,jm hs,trivial⟩ rfl) fun u hu=>CQ (fun _ q=>q) (fun _ q=>Gw h.symm q) hu
  ·have e2:Hu (C8 a QN)=C8 a QN:=jn hs
   rw [e2];exact CG (AN (AH eF Ac) AB func67 (AUl a) ⟨by rw [h];rfl,jq hs,trivial⟩ rfl) fun u hu=>CQ (fun _ q=>q) (fun _ q=>Gw h.symm q) hu
 ·have h0:CX a=false:=by simpa using h
  have e:D4 a=0:=by unfold D4;rw [jn h]
  unfold UZ;rw [e];exact CG (AN (AH eF Ac) AB func67 (AUj a) ⟨by rw [h0];rfl,trivial⟩ rfl) fun u hu=>CQ (fun _ q=>Rq q) (fun _ q=>Gw h0.symm q) hu
noncomputable def SE:dw:=(67,Af (Fv UZ))::SD
theorem u9:AX dr SE:=⟨Ah func67 dm dm (GZ fun x _=>AUm x),eF⟩
end Go.Proofs.YtgnajdcdcblaoaaGreat
namespace Go.Proofs.YtgnajdcdcblaoaaGreat.Rg
class CR (F:Type) extends Add F,Mul F,Neg F,Sub F,Zero F,One F where
 add_assoc:∀ a b c:F,(a+b)+c=a+(b+c)
 add_comm:∀ a b:F,a+b=b+a
 zero_add:∀ a:F,0+a=a
 neg_add:∀ a:F,-a+a=0
 mul_assoc:∀ a b c:F,(a*b)*c=a*(b*c)
 mul_comm:∀ a b:F,a*b=b*a
 one_mul:∀ a:F,1*a=a
 add_mul:∀ a b c:F,(a+b)*c=a*c+b*c
 sub_eq:∀ a b:F,a-b=a+-b
section
variable {F:Type} [CR F]
theorem add_assoc (a b c:F):(a+b)+c=a+(b+c):=CR.add_assoc a b c
theorem add_comm (a b:F):a+b=b+a:=CR.add_comm a b
theorem mul_assoc (a b c:F):(a*b)*c=a*(b*c):=CR.mul_assoc a b c
theorem mul_comm (a b:F):a*b=b*a:=CR.mul_comm a b
theorem zero_add (a:F):0+a=a:=CR.zero_add a
theorem add_zero (a:F):a+0=a:=by rw [add_comm,zero_add]
theorem neg_add (a:F):-a+a=0:=CR.neg_add a
theorem add_neg (a:F):a+-a=0:=by rw [add_comm,neg_add]
theorem one_mul (a:F):1*a=a:=CR.one_mul a
theorem mul_one (a:F):a*1=a:=by rw [mul_comm,one_mul]
theorem add_mul (a b c:F):(a+b)*c=a*c+b*c:=CR.add_mul a b c
theorem mul_add (a b c:F):a*(b+c)=a*b+a*c:=by rw [mul_comm,add_mul,mul_comm b,mul_comm c]
theorem sub_eq (a b:F):a-b=a+-b:=CR.sub_eq a b
theorem vA {a b c:F} (h:a+b=a+c):b=c:=by
 have:=jw (fun z=>-a+z) h
 simpa [← add_assoc,neg_add,zero_add] using this
theorem zero_mul (a:F):0*a=0:=by
 have h:0*a+0*a=0*a+0:=by rw [← add_mul,zero_add,add_zero]
 exact vA h
theorem mul_zero (a:F):a*0=0:=by rw [mul_comm,zero_mul]
theorem J7 {a b:F} (h:a+b=0):b=-a:=vA (a:=a) (by rw [h,add_neg])
theorem eI (a b:F):-a*b=-(a*b):=J7 (by rw [← add_mul,add_neg,zero_mul])
theorem neg_neg (a:F):-(-a)=a:=(J7 (neg_add a)).symm
theorem HN:-(0:F)=0:=(J7 (zero_add 0)).symm
theorem YA (a b:F):-(a+b)=-a+-b:=(J7 (by
 rw [add_comm a b,add_assoc,← add_assoc a,add_neg,zero_add,add_neg])).symm
theorem sub_self (a:F):a-a=0:=by rw [sub_eq,add_neg]
theorem Aa {a b:F}:a-b=0↔a=b:=by
 constructor
 ·intro h;rw [sub_eq] at h;have:=J7 ((add_comm _ _).trans h)
  rw [this,neg_neg]
 ·rintro rfl;exact sub_self a
theorem AGF (a b c:F):a+(b+c)=b+(a+c):=by rw [← add_assoc,add_comm a b,add_assoc]
theorem mul_left_comm (a b c:F):a*(b*c)=b*(a*c):=by rw [← mul_assoc,mul_comm a b,mul_assoc]
def CD:Nat→F
 | 0=>0
 | n+1=>CD n+1
theorem N7 (a b:Nat):(CD (a+b):F)=CD a+CD b:=by
 induction b with
 | zero=>simp [CD,add_zero]
 | succ b ih=>rw [← ni];simp only [CD];rw [ih,add_assoc]
theorem YB (a b:Nat):(CD (a*b):F)=CD a*CD b:=by
 induction b with
 | zero=>simp [CD,mul_zero]
 | succ b ih=>rw [Nat.mul_succ,N7,ih];simp only [CD];rw [mul_add,mul_one]
def int:Int→F
 | .ofNat n=>CD n
 | .negSucc n=>-(CD (n+1))
theorem Uu (a b:Nat):(int ((a:Int)-b):F)=CD a+-CD b:=by
 rcases Nat.le_total b a with h | h
 ·obtain ⟨c,rfl⟩:=Nat.exists_eq_add_of_le h;rw [show ((b+c:Nat):Int)-b=(c:Int) by omega,N7,add_comm (CD b) (CD c),add_assoc,add_neg,add_zero];rfl
 ·obtain ⟨c,rfl⟩:=Nat.exists_eq_add_of_le h;cases c with
  | zero=>rw [og,add_neg,show (a:Int)-(a:Nat)=0 by omega];rfl
  | succ c =>
   rw [show (a:Int)-((a+(c+1):Nat):Int)=Int.negSucc c by omega,N7,YA,← add_assoc,add_neg,zero_add];rfl
theorem eJ (i:Int):∃ a b:Nat,i=(a:Int)-b:=by
 cases i with
 | ofNat n=>exact ⟨n,0,by simp⟩
 | negSucc n=>exact ⟨0,n+1,dn⟩
theorem AGG (i j:Int):(int (i+j):F)=int i+int j:=by
 obtain ⟨a,b,rfl⟩:=eJ i;obtain ⟨c,d,rfl⟩:=eJ j;rw [show (a:Int)-b+(c-d)=((a+c:Nat):Int)-(b+d:Nat) by omega,Uu,Uu,Uu,N7,N7,YA]
 rw [add_assoc,add_assoc];congr 1
 rw [← add_assoc,← add_assoc];congr 1
 exact add_comm _ _
theorem AGH (a b:F):a*-b=-(a*b):=by rw [mul_comm,eI,mul_comm]
theorem AUn (i j:Int):(int (i*j):F)=int i*int j:=by
 obtain ⟨a,b,rfl⟩:=eJ i;obtain ⟨c,d,rfl⟩:=eJ j;rw [show ((a:Int)-b)*(c-d)=((a*c+b*d:Nat):Int)-(a*d+b*c:Nat) by
  rw [qo,qo,lu,lu,lu,lu,Int.sub_mul,Int.mul_sub,Int.mul_sub];omega]
 rw [Uu,Uu,Uu,N7,N7,YB,YB,YB,YB];rw [add_mul,mul_add,mul_add,eI,AGH,eI,AGH,neg_neg,YA];rw [add_assoc,add_assoc];congr 1
 rw [add_comm (CD b*CD d),add_assoc]
theorem AUo (i:Int):(int (-i):F)=-int i:=by
 refine J7 ?_
 rw [← AGG,Int.add_right_neg];rfl
theorem AUp:(int 0:F)=0:=rfl
theorem YC:(int 1:F)=1:=by show CD 0+1=_;exact zero_add 1
def pw (x:F):Nat→F
 | 0=>1
 | n+1=>pw x n*x
theorem Rt (x:F) (a b:Nat):pw x (a+b)=pw x a*pw x b:=by
 induction b with
 | zero=>simp [pw,mul_one]
 | succ b ih=>rw [← ni];simp only [pw];rw [ih,mul_assoc]
theorem pw_mul (x y:F) (n:Nat):pw (x*y) n=pw x n*pw y n:=by
 induction n with
 | zero=>simp [pw,one_mul]
 | succ n ih=>simp only [pw];rw [ih,mul_assoc,mul_assoc];congr 1;rw [mul_left_comm]
theorem eK (x:F) (a b:Nat):pw x (a*b)=pw (pw x a) b:=by
 induction b with
 | zero=>rfl
 | succ b ih=>rw [Nat.mul_succ,Rt,ih];rfl
end
abbrev Mon:=List Nat
abbrev Pol:=List (Mon×Int)
def Uv:Mon→Mon→Mon
 | [],b=>b
 | a::ar,b=>match b with
  | []=>a::ar
  | c::bs=>(a+c)::Uv ar bs
def eM:Mon→Mon→Nat
 | [],b=>match b with
  | []=>0
  | _::_=>2
 | a::ar,b=>match b with
  | []=>1
  | c::bs=>match Nat.beq a c with
   | true=>eM ar bs
   | false=>match Nat.ble a c with
    | true=>2
    | false=>1
theorem AGI:∀ {a b:Mon},eM a b=0→a=b
 | [],[],_=>rfl
 | [],_::_,h=>by cases h
 | _::_,[],h=>by cases h
 | a::ar,c::bs,h=>by
  simp only [eM] at h;cases hb:Nat.beq a c with
  | true=>rw [hb] at h;rw [nf hb,AGI h]
  | false =>
   rw [hb] at h;cases hl:Nat.ble a c<;>rw [hl] at h<;>cases h
def eN (m:Mon) (c:Int) (p:Pol):Pol:=match c with
 | .ofNat 0=>p
 | _=>(m,c)::p
def Pp:Nat→Pol→Pol→Pol
 | 0,p,q=>p++q
 | n+1,p,q=>match p with
  | []=>q
  | (a,c)::p'=>match q with
   | []=>p
   | (b,d)::q'=>match eM a b with
    | 0=>eN a (c+d) (Pp n p' q')
    | 1=>(a,c)::Pp n p' q
    | _=>(b,d)::Pp n p q'
def len:Pol→Nat
 | []=>0
 | _::r=>len r+1
def Pq (p q:Pol):Pol:=Pp (len p+len q) p q
def YD (m:Mon) (c:Int):Pol→Pol
 | []=>[]
 | (a,d)::r=>(Uv m a,c*d)::YD m c r
def Uw:Pol→Pol→Pol
 | [],_=>[]
 | (a,c)::r,q=>Pq (YD a c q) (Uw r q)
def Ux:Pol→Pol
 | []=>[]
 | (a,c)::r=>(a,-c)::Ux r
section
variable {F:Type} [CR F]
def Ie:List F→Mon→F
 | [],_=>1
 | x::xs,m=>match m with
  | []=>1
  | e::es=>pw x e*Ie xs es
def CH (xs:List F):Pol→F
 | []=>0
 | (m,c)::r=>int c*Ie xs m+CH xs r
theorem YE (xs:List F):Ie xs []=1:=by cases xs<;>rfl
theorem AGJ:∀ (xs:List F) (a b:Mon),Ie xs (Uv a b)=Ie xs a*Ie xs b
 | [],a,b=>by simp [Ie,one_mul]
 | x::xs,[],b=>by simp [Uv,YE,one_mul]
 | x::xs,a::ar,[]=>by simp [Uv,YE,mul_one]
 | x::xs,a::ar,c::bs=>by
  simp only [Uv,Ie];rw [Rt,AGJ xs ar bs,mul_assoc,mul_assoc];congr 1;rw [mul_left_comm]
theorem AGK (xs:List F) (m:Mon) (c:Int) (p:Pol):CH xs (eN m c p)=int c*Ie xs m+CH xs p:=by
 unfold eN;split
 ·show _=int 0*_+_;rw [AUp,zero_mul,zero_add]
 ·rfl
theorem AGL (xs:List F):∀ p q:Pol,CH xs (p++q)=CH xs p+CH xs q
 | [],q=>by simp [CH,zero_add]
 | (m,c)::p,q=>by simp only [n_,CH];rw [AGL xs p q,add_assoc]
theorem eO (xs:List F):∀ (n:Nat) (p q:Pol),CH xs (Pp n p q)=CH xs p+CH xs q
 | 0,p,q=>AGL xs p q
 | n+1,[],q=>by simp [Pp,CH,zero_add]
 | n+1,(a,c)::p',[]=>by simp [Pp,CH,add_zero]
 | n+1,(a,c)::p',(b,d)::q'=>by
  simp only [Pp];split
  ·rename_i h;rw [AGK,eO xs n p' q',AGI h];simp only [CH];rw [AGG,add_mul,add_assoc,add_assoc];congr 1
   rw [AGF]
  ·simp only [CH];rw [eO xs n p' _];simp only [CH];rw [add_assoc]
  ·simp only [CH];rw [eO xs n _ q'];simp only [CH];rw [AGF]
theorem vB (xs:List F) (p q:Pol):CH xs (Pq p q)=CH xs p+CH xs q:=eO xs _ p q
theorem AGM (xs:List F) (m:Mon) (c:Int):∀ p:Pol,CH xs (YD m c p)=int c*Ie xs m*CH xs p
 | []=>by simp [YD,CH,mul_zero]
 | (a,d)::r=>by
  simp only [YD,CH];rw [AGM xs m c r,AGJ,AUn,mul_add];congr 1
  rw [mul_assoc,mul_assoc];congr 1;rw [mul_left_comm]
theorem vC (xs:List F):∀ p q:Pol,CH xs (Uw p q)=CH xs p*CH xs q
 | [],q=>by simp [Uw,CH,zero_mul]
 | (a,c)::r,q=>by simp only [Uw,CH];rw [vB,AGM,vC xs r q,add_mul]
theorem vD (xs:List F):∀ p:Pol,CH xs (Ux p)=- CH xs p
 | []=>by simp [Ux,CH,HN]
 | (a,c)::r=>by simp only [Ux,CH];rw [vD xs r,AUo,eI,YA]
end
inductive E where
 | v (i:Nat)
 | c (k:Int)
 | add (a b:E)
 | sub (a b:E)
 | mul (a b:E)
 | neg (a:E)
 | pw (a:E) (n:Nat)
def YF:Nat→Mon
 | 0=>[1]
 | i+1=>0::YF i
def YG (p:Pol):Nat→Pol
 | 0=>[([],1)]
 | n+1=>Uw (YG p n) p
def E.pol:E→Pol
 | .v i=>[(YF i,1)]
 | .c k=>eN [] k []
 | .add a b=>Pq a.pol b.pol
 | .sub a b=>Pq a.pol (Ux b.pol)
 | .mul a b=>Uw a.pol b.pol
 | .neg a=>Ux a.pol
 | .pw a n=>YG a.pol n
def Ru {F:Type} [One F]:List F→Nat→F
 | [],_=>1
 | x::_,0=>x
 | _::xs,i+1=>Ru xs i
section
variable {F:Type} [CR F]
def E.den (xs:List F):E→F
 | .v i=>Ru xs i
 | .c k=>int k
 | .add a b=>a.den xs+b.den xs
 | .sub a b=>a.den xs-b.den xs
 | .mul a b=>a.den xs*b.den xs
 | .neg a=>- a.den xs
 | .pw a n=>Rg.pw (a.den xs) n
theorem AGN:∀ (xs:List F) (i:Nat),Ie xs (YF i)=Ru xs i
 | [],i=>by simp [Ie,Ru]
 | x::xs,0=>by simp [YF,Ie,YE,Ru,Rg.pw,one_mul,mul_one]
 | x::xs,i+1=>by simp only [YF,Ie,Ru,Rg.pw];rw [one_mul,AGN xs i]
theorem AUq (xs:List F) (p:Pol) (n:Nat):CH xs (YG p n)=Rg.pw (CH xs p) n:=by
 induction n with
 | zero=>simp [YG,CH,Rg.pw,YE,YC,mul_one,add_zero]
 | succ n ih=>simp only [YG,Rg.pw];rw [vC,ih]
theorem E.pol_den (xs:List F):∀ e:E,CH xs e.pol=e.den xs
 | .v i=>by simp only [E.pol,CH,E.den];rw [AGN,YC,one_mul,add_zero]
 | .c k=>by simp only [E.pol,E.den];rw [AGK];simp [CH,YE,mul_one,add_zero]
 | .add a b=>by simp only [E.pol,E.den];rw [vB,a.pol_den xs,b.pol_den xs]
 | .sub a b=>by simp only [E.pol,E.den];rw [vB,vD,a.pol_den xs,b.pol_den xs,sub_eq]
 | .mul a b=>by simp only [E.pol,E.den];rw [vC,a.pol_den xs,b.pol_den xs]
 | .neg a=>by simp only [E.pol,E.den];rw [vD,a.pol_den xs]
 | .pw a n=>by simp only [E.pol,E.den];rw [AUq,a.pol_den xs]
def Rv:List (E×E)→E
 | []=>.c 0
 | (k,r)::l=>.add (.mul k r) (Rv l)
def vE:Pol→Bool
 | []=>true
 | _::_=>false
def vF (xs:List F):List (E×E)→Prop
 | []=>True
 | (_,r)::l=>r.den xs=0∧vF xs l
theorem AGO (xs:List F):∀ l:List (E×E),vF xs l→(Rv l).den xs=0
 | [],_=>rfl
 | (k,r)::l,⟨h1,h2⟩=>by simp only [Rv,E.den];rw [h1,mul_zero,AGO xs l h2,add_zero]
theorem Bh (xs:List F) (g:E) (l:List (E×E)) (hz:vF xs l) (h:vE (E.pol (.sub g (Rv l)))=true):g.den xs=0:=by
 have e:(E.pol (.sub g (Rv l)))=[]:=by
  cases hp:E.pol (.sub g (Rv l)) with
  | nil=>rfl
  | cons a b=>rw [hp] at h;cases h
 have:=E.pol_den xs (.sub g (Rv l))
 rw [e] at this;simp only [CH,E.den] at this;rw [AGO xs l hz] at this;exact Aa.1 this.symm
theorem AUr (xs:List F) (a b:E) (h:vE (E.pol (.sub a b))=true):a.den xs=b.den xs:=by
 have e:(E.pol (.sub a b))=[]:=by
  cases hp:E.pol (.sub a b) with
  | nil=>rfl
  | cons a b=>rw [hp] at h;cases h
 have:=E.pol_den xs (.sub a b)
 rw [e] at this;exact Aa.1 this.symm
end
instance :Add E:=⟨.add⟩
instance :Sub E:=⟨.sub⟩
instance :Mul E:=⟨.mul⟩
instance :Neg E:=⟨.neg⟩
instance :HPow E Nat E:=⟨.pw⟩
def ab:E:=.v 0
def ac:E:=.v 2
def ae:E:=.v 4
def af:E:=.v 1
def ah:E:=.v 3
def ao:E:=.v 5
def aq:E:=.v 6
def ax:E:=.v 7
def aa:E:=.c 0
def ak:E:=.c (-1)
def ap:E:=.c 1
def au:E:=.c 2
def aw:E:=.c (-2)
def ay:E:=.c (-6)
def az:E:=.c 3
def a_:E:=.c (-4)
def ba:E:=.c (-10)
def bd:E:=.c 5
def bi:E:=.c 6
def bj:E:=.c 4
def bp:E:=.c (-3)
def bq:E:=.c (-8)
def br:E:=.c (-9)
def bu:E:=.c 8
def bv:E:=.c (-5)
def bw:E:=.c 9
def bz:E:=.c 7
def b_:E:=.c (-12)
def ce:E:=.c (-14)
def cf:E:=.c 10
def ci:E:=.c (-18)
def ck:E:=.c 36
def cl:E:=.c (-20)
def cn:E:=.c 40
def cp:E:=.c 12
def cq:E:=.c (-24)
def cr:E:=.c 72
def cu:E:=.c (-72)
def cv:E:=.c 216
def cw:E:=.c (-216)
def cx:E:=.c 288
def cy:E:=.c (-288)
def cz:E:=.c 24
def c_:E:=.c 48
def da:E:=.c (-48)
def db:E:=.c 144
def dc:E:=.c (-144)
def dd:E:=.c 16
def de:E:=.c 32
def df:E:=.c (-32)
def dg:E:=.c (-16)
def dh:E:=.c (-54)
def di:E:=.c 54
def dj:E:=.c (-120)
def dk:E:=.c 120
def dl:E:=.c 18
def ai:Nat→Nat→Nat→E→E
 | 0,_,_,a=>a
 | f+1,n,i,a=>match n % 10 with
  | 0=>ai f (n/10) (i+1) a
  | k+1=>ai f (n/10) (i+1) (.mul a (.pw (.v i) (k+1)))
def aj:List (Int×Nat)→E
 | []=>.c 0
 | (c,n)::r=>.add (ai 12 n 0 (.c c)) (aj r)
theorem AUs {F:Type} [CR F] (x1 y1 x2 y2 l b:F) (hl:l*(x2-x1)=(y2-y1)) (c1:y1*y1=(x1*x1*x1+b)) (c2:y2*y2=(x2*x2*x2+b)):(x2-x1)*(x1*x2+x1*(l*l-x1-x2)+x2*(l*l-x1-x2)+(l*(y1-l*x1)+l*(y1-l*x1)))=0 :=
 Aa.1 (Bh [x1,y1,x2,y2,l,b] ((ac-ab)*(ab*ac+ab*(ae*ae-ab-ac)+ac*(ae*ae-ab-ac)+(ae*(af-ae*ab)+ae*(af-ae*ab)))-aa) [((-(ab*ae)+af+(ac*ae+ah)),ae*(ac-ab)-(ah-af)),
  (ak,af*af-(ab*ab*ab+ao)),
  (ap,ah*ah-(ac*ac*ac+ao))] ⟨Aa.2 hl,Aa.2 c1,Aa.2 c2,trivial⟩ dm)
theorem AUt {F:Type} [CR F] (x y l:F) (hl:(y+y)*l=(x*x+x*x+x*x)):x*x+x*(l*l-x-x)+x*(l*l-x-x)+(l*(y-l*x)+l*(y-l*x))=0 :=
 Aa.1 (Bh [x,y,l] (ab*ab+ab*(ac*ac-ab-ab)+ab*(ac*ac-ab-ab)+(ac*(af-ac*ab)+ac*(af-ac*ab))-aa) [(ap,(af+af)*ac-(ab*ab+ab*ab+ab*ab))] ⟨Aa.2 hl,trivial⟩ dm)
theorem AUu {F:Type} [CR F] (x1 y1 x2 l b:F) (e2:x1*x2+x1*(l*l-x1-x2)+x2*(l*l-x1-x2)+(l*(y1-l*x1)+l*(y1-l*x1))=0) (c1:y1*y1=(x1*x1*x1+b)):x1*x2*(l*l-x1-x2)+b=(y1-l*x1)*(y1-l*x1) :=
 Aa.1 (Bh [x1,y1,x2,l,b] (ab*ac*(ah*ah-ab-ac)+ae-(af-ah*ab)*(af-ah*ab)) [(ab,ab*ac+ab*(ah*ah-ab-ac)+ac*(ah*ah-ab-ac)+(ah*(af-ah*ab)+ah*(af-ah*ab))-aa),
  (ak,af*af-(ab*ab*ab+ae))] ⟨Aa.2 e2,Aa.2 c1,trivial⟩ dm)
theorem AUv {F:Type} [CR F] (x1 y1 x2 x3 l n b:F) (h1:y1=(l*x1+n)) (e1:x1+x2+x3=(l*l)) (e2:x1*x2+x1*x3+x2*x3+(l*n+l*n)=0) (e3:x1*x2*x3+b=(n*n)):y1*y1=x1*x1*x1+b :=
 Aa.1 (Bh [x1,y1,x2,x3,l,n,b] (af*af-(ab*ab*ab+aq)) [((ab*ae+(af+ao)),af-(ae*ab+ao)),
  ((-ab^2),ab+ac+ah-ae*ae),
  (ab,ab*ac+ab*ah+ac*ah+(ae*ao+ae*ao)-aa),
  (ak,ab*ac*ah+aq-ao*ao)] ⟨Aa.2 h1,Aa.2 e1,Aa.2 e2,Aa.2 e3,trivial⟩ dm)
theorem AGP {F:Type} [CR F] (x1 y1 x3 l n:F) (h1:y1=(l*x1+n)) (e1:x1+x1+x3=(l*l)) (e2:x1*x1+x1*x3+x1*x3+(l*n+l*n)=0):(y1+y1)*l=x1*x1+x1*x1+x1*x1 :=
 Aa.1 (Bh [x1,y1,x3,l,n] ((af+af)*ah-(ab*ab+ab*ab+ab*ab)) [((au*ah),af-(ah*ab+ae)),
  ((aw*ab),ab+ab+ac-ah*ah),
  (ap,ab*ab+ab*ac+ab*ac+(ah*ae+ah*ae)-aa)] ⟨Aa.2 h1,Aa.2 e1,Aa.2 e2,trivial⟩ dm)
theorem AUw {F:Type} [CR F] (x1 y1 x3 y3 l n:F) (h1:y1=(l*x1+n)) (h3:y3=(l*x3+n)):l*(x1-x3)-y1=-y3 :=
 Aa.1 (Bh [x1,y1,x3,y3,l,n] (ae*(ab-ac)-af- -ah) [(ak,af-(ae*ab+ao)),
  (ap,ah-(ae*ac+ao))] ⟨Aa.2 h1,Aa.2 h3,trivial⟩ dm)
theorem AUx {F:Type} [CR F] (x1 x2 x3 l:F) (e1:x1+x2+x3=(l*l)):l*l-x1-x2=x3 :=
 Aa.1 (Bh [x1,x2,x3,l] (ah*ah-ab-af-ac) [(ak,ab+af+ac-ah*ah)] ⟨Aa.2 e1,trivial⟩ dm)
theorem Uy {F:Type} [CR F] (x1 y1 x2 y2 l n:F) (h1:y1=(l*x1+n)) (h2:y2=(l*x2+n)):(x2-x1)*l=y2-y1 :=
 Aa.1 (Bh [x1,y1,x2,y2,l,n] ((ac-ab)*ae-(ah-af)) [(ap,af-(ae*ab+ao)),
  (ak,ah-(ae*ac+ao))] ⟨Aa.2 h1,Aa.2 h2,trivial⟩ dm)
theorem AUy {F:Type} [CR F] (x1 x2 x3 k:F) (e:x1+x2+x3=k):x2+x1+x3=k :=
 Aa.1 (Bh [x1,x2,x3,k] (af+ab+ac-ah) [(ap,ab+af+ac-ah)] ⟨Aa.2 e,trivial⟩ dm)
theorem AUz {F:Type} [CR F] (x1 x2 x3 k:F) (e:x1+x2+x3=k):x2+x3+x1=k :=
 Aa.1 (Bh [x1,x2,x3,k] (af+ac+ab-ah) [(ap,ab+af+ac-ah)] ⟨Aa.2 e,trivial⟩ dm)
theorem AU0 {F:Type} [CR F] (x1 x2 x3 k:F) (e:x1*x2+x1*x3+x2*x3+k=0):x2*x1+x2*x3+x1*x3+k=0 :=
 Aa.1 (Bh [x1,x2,x3,k] (af*ab+af*ac+ab*ac+ah-aa) [(ap,ab*af+ab*ac+af*ac+ah-aa)] ⟨Aa.2 e,trivial⟩ dm)
theorem AU1 {F:Type} [CR F] (x1 x2 x3 k:F) (e:x1*x2+x1*x3+x2*x3+k=0):x2*x3+x2*x1+x3*x1+k=0 :=
 Aa.1 (Bh [x1,x2,x3,k] (af*ac+af*ab+ac*ab+ah-aa) [(ap,ab*af+ab*ac+af*ac+ah-aa)] ⟨Aa.2 e,trivial⟩ dm)
theorem AU2 {F:Type} [CR F] (x1 x2 x3 b k:F) (e:x1*x2*x3+b=k):x2*x1*x3+b=k :=
 Aa.1 (Bh [x1,x2,x3,b,k] (af*ab*ac+ah-ae) [(ap,ab*af*ac+ah-ae)] ⟨Aa.2 e,trivial⟩ dm)
theorem AU3 {F:Type} [CR F] (x1 x2 x3 b k:F) (e:x1*x2*x3+b=k):x2*x3*x1+b=k :=
 Aa.1 (Bh [x1,x2,x3,b,k] (af*ac*ab+ah-ae) [(ap,ab*af*ac+ah-ae)] ⟨Aa.2 e,trivial⟩ dm)
theorem vG {F:Type} [CR F] (x y l n:F) (h:y=(l*x+n)):-y=-l*x+-n :=
 Aa.1 (Bh [x,y,l,n] (-af-(-ac*ab+-ah)) [(ak,af-(ac*ab+ah))] ⟨Aa.2 h,trivial⟩ dm)
theorem neg_sq {F:Type} [CR F] (l:F) :-l*-l=l*l :=
 Aa.1 (Bh [l] (-ab*-ab-ab*ab) [] trivial dm)
theorem AU4 {F:Type} [CR F] (l n:F) :-l*-n+-l*-n=l*n+l*n :=
 Aa.1 (Bh [l,n] (-ab*-af+-ab*-af-(ab*af+ab*af)) [] trivial dm)
theorem AU5 {F:Type} [CR F] (y1 y2 k:F) (h1:y1*y1=k) (h2:y2*y2=k):(y1-y2)*(y1+y2)=0 :=
 Aa.1 (Bh [y1,y2,k] ((ab-af)*(ab+af)-aa) [(ap,ab*ab-ac),
  (ak,af*af-ac)] ⟨Aa.2 h1,Aa.2 h2,trivial⟩ dm)
theorem eP {F:Type} [CR F] (x y1 y2 l n:F) (h1:y1=(l*x+n)) (h2:y2=(l*x+n)):y1=y2 :=
 Aa.1 (Bh [x,y1,y2,l,n] (af-ac) [(ap,af-(ah*ab+ae)),
  (ak,ac-(ah*ab+ae))] ⟨Aa.2 h1,Aa.2 h2,trivial⟩ dm)
theorem AU6 {F:Type} [CR F] (x1 x2 y2 x4 l n:F) (h2:y2=(l*x2+n)) (e1:x1+x2+x4=(l*l)) (e2:x1*x2+x1*x4+x2*x4+(l*n+l*n)=0):l*y2+l*y2+l*l*(x1-x2)=x1*x1+x1*x2+x2*x2 :=
 Aa.1 (Bh [x1,x2,y2,x4,l,n] (ae*ac+ae*ac+ae*ae*(ab-af)-(ab*ab+ab*af+af*af)) [((au*ae),ac-(ae*af+ao)),
  ((-ab+-af),ab+af+ah-ae*ae),
  (ap,ab*af+ab*ah+af*ah+(ae*ao+ae*ao)-aa)] ⟨Aa.2 h2,Aa.2 e1,Aa.2 e2,trivial⟩ dm)
theorem AGQ {F:Type} [CR F] (x2 y2 x3 x5 m q:F) (h2:y2=(m*x2+q)) (e1:x2+x3+x5=(m*m)) (e2:x2*x3+x2*x5+x3*x5+(m*q+m*q)=0):m*y2+m*y2+m*m*(x3-x2)=x3*x3+x3*x2+x2*x2 :=
 Aa.1 (Bh [x2,y2,x3,x5,m,q] (ae*af+ae*af+ae*ae*(ac-ab)-(ac*ac+ac*ab+ab*ab)) [((au*ae),af-(ae*ab+ao)),
  ((-ab+-ac),ab+ac+ah-ae*ae),
  (ap,ab*ac+ab*ah+ac*ah+(ae*ao+ae*ao)-aa)] ⟨Aa.2 h2,Aa.2 e1,Aa.2 e2,trivial⟩ dm)
theorem AU7 {F:Type} [CR F] (x1 x2 x3 y2 l m s t:F) (r1:l*y2+l*y2+l*l*(x1-x2)=(x1*x1+x1*x2+x2*x2)) (r2:m*y2+m*y2+m*m*(x3-x2)=(x3*x3+x3*x2+x2*x2)) (hs:s*(l*l-x1-x2-x3)=(l*(x2-(l*l-x1-x2))-y2-(y2+m*(x3-x2)))) (ht:t*(m*m-x2-x3-x1)=(m*(x2-(m*m-x2-x3))-y2-(y2+l*(x1-x2)))):(l*l-x1-x2-x3)*(l*l-x1-x2-x3)*((m*m-x2-x3-x1)*(m*m-x2-x3-x1))*(s*s-(l*l-x1-x2)-x3)=(l*l-x1-x2-x3)*(l*l-x1-x2-x3)*((m*m-x2-x3-x1)*(m*m-x2-x3-x1))*(t*t-x1-(m*m-x2-x3)) :=
 Aa.1 (Bh [x1,x2,x3,y2,l,m,s,t] ((ae*ae-ab-af-ac)*(ae*ae-ab-af-ac)*((ao*ao-af-ac-ab)*(ao*ao-af-ac-ab))*(aq*aq-(ae*ae-ab-af)-ac)-(ae*ae-ab-af-ac)*(ae*ae-ab-af-ac)*((ao*ao-af-ac-ab)*(ao*ao-af-ac-ab))*(ax*ax-ab-(ao*ao-af-ac))) [(aj [(-10,111),(-6,110011),(3,20011),(5,200011),(-4,21),(6,20101),(4,200101),(-4,201),(4,11001),(2,310001),(-3,220001),(-1,40001),(-6,12),(-6,102),(3,20002),(3,200002),(-2,3),(-6,110110),(2,20110),(2,200110),(4,210),(4,11010),(-4,101010),(4,310010),(-1,220010),(4,130010),(1,40010),(-2,400010),(4,120),(-6,110020),(-1,20020),(1,200020),(2,30),(4,11100),(-8,101100),(-2,220100),(2,130100),(2,400100),(2,20200),(-6,200200),(4,300),(-2,211000),(-2,31000),(4,301000),(-2,330000)],ae*ah+ae*ah+ae*ae*(ab-af)-(ab*ab+ab*af+af*af)),
  (aj [(6,111),(6,110011),(-6,200101),(6,201),(-4,101001),(-2,310001),(6,110110),(-9,20110),(-3,200110),(6,210),(4,11010),(-4,101010),(-4,310010),(3,220010),(-4,130010),(-1,400010),(6,110020),(-3,20020),(3,200020),(-2,30),(8,11100),(-4,101100),(3,220100),(-2,130100),(1,400100),(-3,20200),(-3,200200),(2,300),(-4,211000),(2,121000),(2,301000),(2,330000)],ao*ah+ao*ah+ao*ao*(ac-af)-(ac*ac+ac*af+af*af)),
  (aj [(6,10111),(-6,1000111),(-4,1011),(-6,210011),(2,1020011),(-2,30011),(4,1200011),(-2,300011),(5,10021),(2,100021),(-3,1000021),(-4,1101),(-2,210101),(2,1020101),(-2,30101),(4,1200101),(2,300101),(1,10201),(-2,100201),(-3,1000201),(4,201001),(1,410001),(-2,1220001),(2,230001),(-1,1400001),(4,10012),(1,100012),(-3,1000012),(2,10102),(-1,100102),(-3,1000102),(-2,1002),(-2,210002),(1,1020002),(-1,30002),(2,1200002),(1,10003),(-1,1000003),(-4,1110),(-4,210110),(2,1020110),(-2,30110),(4,1200110),(2,10210),(-1,100210),(-3,1000210),(4,201010),(2,410010),(-2,1220010),(2,230010),(-1,1400010),(1,500010),(4,10120),(1,100120),(-3,1000120),(-2,1020),(-4,210020),(1,1020020),(-1,30020),(2,1200020),(-2,300020),(2,10030),(1,100030),(-1,1000030),(4,201100),(-2,1220100),(2,230100),(-1,1400100),(-1,500100),(-2,1200),(1,1020200),(-1,30200),(2,1200200),(2,300200),(-1,100300),(-1,1000300),(-2,401000),(1,1420000),(-1,430000)],aq*(ae*ae-ab-af-ac)-(ae*(af-(ae*ae-ab-af))-ah-(ah+ao*(ac-af)))),
  (aj [(-6,100111),(6,10000111),(4,1011),(4,120011),(-4,10020011),(-2,10200011),(2,300011),(-1,10021),(-4,100021),(3,10000021),(4,1101),(2,120101),(-4,10020101),(-2,30101),(-2,10200101),(2,300101),(1,10201),(-2,100201),(3,10000201),(-4,21001),(2,10220001),(-2,320001),(1,10040001),(1,50001),(1,10012),(-2,100012),(3,10000012),(2,10102),(-1,100102),(3,10000102),(2,1002),(-2,10020002),(-2,30002),(-1,10200002),(1,300002),(1,10003),(1,10000003),(4,1110),(6,120110),(-4,10020110),(2,30110),(-2,10200110),(2,300110),(-1,10210),(-4,100210),(3,10000210),(-4,21010),(2,10220010),(-2,320010),(-2,140010),(1,10040010),(-1,50010),(-2,10120),(-5,100120),(3,10000120),(2,1020),(4,120020),(-2,10020020),(2,30020),(-1,10200020),(1,300020),(-1,10030),(-2,100030),(1,10000030),(-4,21100),(2,10220100),(-2,320100),(-1,140100),(1,10040100),(2,1200),(2,120200),(-2,10020200),(-1,10200200),(1,300200),(-1,100300),(1,10000300),(2,41000),(-1,10240000),(1,340000)],ax*(ao*ao-af-ac-ab)-(ao*(af-(ao*ao-af-ac))-ah-(ah+ae*(ab-af))))] ⟨Aa.2 r1,Aa.2 r2,Aa.2 hs,Aa.2 ht,trivial⟩ dm)
theorem AU8 {F:Type} [CR F] (x1 x2 x3 y2 l m s t:F) (r1:l*y2+l*y2+l*l*(x1-x2)=(x1*x1+x1*x2+x2*x2)) (r2:m*y2+m*y2+m*m*(x3-x2)=(x3*x3+x3*x2+x2*x2)) (hs:s*(l*l-x1-x2-x3)=(l*(x2-(l*l-x1-x2))-y2-(y2+m*(x3-x2)))) (ht:t*(m*m-x2-x3-x1)=(m*(x2-(m*m-x2-x3))-y2-(y2+l*(x1-x2)))):(l*l-x1-x2-x3)*(l*l-x1-x2-x3)*(l*l-x1-x2-x3)*(m*m-x2-x3-x1)*(s*(x3-(s*s-(l*l-x1-x2)-x3))-(y2+m*(x3-x2)))=(l*l-x1-x2-x3)*(l*l-x1-x2-x3)*(l*l-x1-x2-x3)*(m*m-x2-x3-x1)*(t*(x1-(s*s-(l*l-x1-x2)-x3))-(y2+l*(x1-x2))) :=
 Aa.1 (Bh [x1,x2,x3,y2,l,m,s,t] ((ae*ae-ab-af-ac)*(ae*ae-ab-af-ac)*(ae*ae-ab-af-ac)*(ao*ao-af-ac-ab)*(aq*(ac-(aq*aq-(ae*ae-ab-af)-ac))-(ah+ao*(ac-af)))-(ae*ae-ab-af-ac)*(ae*ae-ab-af-ac)*(ae*ae-ab-af-ac)*(ao*ao-af-ac-ab)*(ax*(ab-(aq*aq-(ae*ae-ab-af)-ac))-(ah+ae*(ab-af)))) [(aj [(-10,10111),(4,1011),(5,210011),(-1,120011),(9,30011),(1,300011),(-8,10021),(-4,100021),(4,1101),(3,210101),(1,120101),(7,30101),(-1,300101),(4,100201),(2,21001),(-2,201001),(-4,230001),(-2,50001),(-8,10012),(-2,100012),(-4,10102),(2,100102),(2,1002),(2,210002),(4,30002),(-2,10003),(2,1110),(6,210110),(6,120110),(8,30110),(-2,300110),(6,10210),(2,100210),(6,21010),(-4,201010),(-2,410010),(-1,320010),(-5,230010),(3,140010),(-1,50010),(2,10120),(-2,100120),(2,210020),(-4,120020),(2,30020),(2,300020),(2,10030),(-12,111100),(-2,21100),(2,410100),(1,320100),(-3,230100),(-3,140100),(-3,50100),(-6,210200),(-2,120200),(4,10300),(4,311000),(2,221000),(-4,41000),(-4,12000),(2,250000)],ae*ah+ae*ah+ae*ae*(ab-af)-(ab*ab+ab*af+af*af)),
  (aj [(8,10111),(2,100111),(-2,1011),(-1,210011),(3,120011),(-3,30011),(-1,300011),(2,10021),(2,100021),(-4,1101),(-5,210101),(-3,120101),(-3,30101),(1,300101),(2,10201),(-4,100201),(-4,111001),(2,201001),(2,230001),(-4,1110),(-10,210110),(-4,120110),(-14,30110),(-2,300110),(4,10210),(-2,100210),(-8,111010),(8,21010),(-2,201010),(1,320010),(5,230010),(-3,140010),(3,50010),(4,10120),(4,100120),(4,210020),(2,120020),(-8,30020),(-2,10030),(10,21100),(6,201100),(-1,320100),(5,230100),(3,140100),(3,50100),(-2,1200),(2,120200),(-2,30200),(2,300200),(-2,100300),(-6,221000),(4,131000),(4,102000),(-2,250000)],ao*ah+ao*ah+ao*ao*(ac-af)-(ac*ac+ac*af+af*af)),
  (aj [(-8,110111),(-6,1010111),(-1,20111),(6,1100111),(-1,200111),(6,2000111),(-6,211),(-6,11011),(2,101011),(3,1210011),(1,310011),(-3,1120011),(2,220011),(-4,2020011),(1,130011),(5,1030011),(-1,40011),(-2,2200011),(-1,1300011),(1,400011),(3,121),(-4,1010021),(-2,20021),(2,1100021),(-4,200021),(3,2000021),(4,31),(-4,11101),(4,101101),(1,1210101),(3,310101),(-3,1120101),(-4,2020101),(5,130101),(5,1030101),(-2,2200101),(-3,1300101),(-1,400101),(-4,110201),(-2,1010201),(3,20201),(4,1100201),(5,200201),(3,2000201),(-5,301),(4,211001),(2,1021001),(2,31001),(-2,1201001),(-2,301001),(2,2220001),(2,1320001),(-2,1230001),(-2,330001),(-1,240001),(1,2040001),(-2,1050001),(1,60001),(3,112),(1,110012),(-5,1010012),(-2,20012),(1,1100012),(-3,200012),(3,2000012),(6,22),(-4,110102),(-4,1010102),(-1,20102),(2,1100102),(3,2000102),(-3,202),(-4,11002),(1,1210002),(1,310002),(2,220002),(-2,2020002),(4,1030002),(-1,40002),(-1,2200002),(-1,1300002),(4,13),(1,103),(-2,1010003),(-1,20003),(-1,200003),(1,2000003),(1,4),(-2,11110),(6,101110),(2,1210110),(6,310110),(-6,1120110),(-1,220110),(-4,2020110),(4,130110),(2,1030110),(-2,2200110),(-2,1300110),(2,400110),(-5,110210),(-1,1010210),(3,20210),(5,1100210),(4,200210),(3,2000210),(-5,310),(8,211010),(-6,121010),(2,1021010),(-4,31010),(-2,1201010),(2,301010),(2,2220010),(1,1320010),(-1,420010),(-3,1230010),(-1,330010),(2,1140010),(1,240010),(1,2040010),(-2,150010),(-1,60010),(-6,110120),(-2,1010120),(-1,20120),(4,1100120),(-2,200120),(3,2000120),(-3,220),(-2,11020),(2,101020),(2,1210020),(-2,310020),(-3,1120020),(1,220020),(-2,2020020),(5,130020),(1,1030020),(2,40020),(-1,2200020),(1,130),(-1,110030),(-1,1010030),(-1,20030),(1,1100030),(-2,200030),(1,2000030),(1,40),(2,1021100),(2,31100),(-2,1201100),(-6,301100),(2,2220100),(3,1320100),(1,420100),(-1,1230100),(-3,330100),(1,1140100),(1,2040100),(-1,150100),(-1,1050100),(4,101200),(-3,1120200),(-4,220200),(-2,2020200),(3,130200),(1,1030200),(-1,2200200),(-2,1300200),(-2,400200),(3,20300),(2,1100300),(4,200300),(1,2000300),(-2,400),(2,1221000),(2,321000),(-4,231000),(-2,1041000),(2,51000),(4,22000),(-4,202000),(-1,2240000),(-1,1340000),(1,1250000),(1,350000)],aq*(ae*ae-ab-af-ac)-(ae*(af-(ae*ae-ab-af))-ah-(ah+ao*(ac-af)))),
  (aj [(6,20111),(-6,2000111),(3,211),(6,2020011),(-9,40011),(-3,121),(9,20021),(-3,2000021),(-3,31),(6,2020101),(-3,40101),(-3,20201),(-3,2000201),(3,301),(-3,2040001),(3,60001),(6,20012),(-3,2000012),(-3,22),(-3,2000102),(3,202),(3,2020002),(-3,40002),(-1,13),(1,103),(1,20003),(-1,2000003),(6,2020110),(-6,40110),(-3,2000210),(2,310),(-3,2040010),(4,60010),(6,20120),(-3,2000120),(3,2020020),(-6,40020),(-2,130),(4,20030),(-1,2000030),(-1,40),(-3,2040100),(2,60100),(3,2020200),(-2,20300),(-1,2000300),(1,400),(1,2060000),(-1,80000)],ax*(ao*ao-af-ac-ab)-(ao*(af-(ao*ao-af-ac))-ah-(ah+ae*(ab-af))))] ⟨Aa.2 r1,Aa.2 r2,Aa.2 hs,Aa.2 ht,trivial⟩ dm)
theorem spX {F:Type} [CR F] (x h m k s:F) (r2:m*k*h+m*k*h=(x*x+x*(x+(h+h))+(x+(h+h))*(x+(h+h)))) (rs:((k+m)*h+(k+m)*h)*s=((x+(h+h))*(x+(h+h))+(x+(h+h))*(x+(h+h))+(x+(h+h))*(x+(h+h)))):((k+m)*h+(k+m)*h)*((k+m)*h+(k+m)*h)*((m*m-x-(x+(h+h))-(k*k-x-(x+(h+h))))*(m*m-x-(x+(h+h))-(k*k-x-(x+(h+h))))*(s*s-(x+(h+h))-(x+(h+h))))=((k+m)*h+(k+m)*h)*((k+m)*h+(k+m)*h)*((m*(x-(m*m-x-(x+(h+h))))-(k-m)*h-(k*(x-(k*k-x-(x+(h+h))))+(k-m)*h))*(m*(x-(m*m-x-(x+(h+h))))-(k-m)*h-(k*(x-(k*k-x-(x+(h+h))))+(k-m)*h))-(m*m-x-(x+(h+h))-(k*k-x-(x+(h+h))))*(m*m-x-(x+(h+h))-(k*k-x-(x+(h+h))))*(k*k-x-(x+(h+h))+(m*m-x-(x+(h+h))))) :=
 Aa.1 (Bh [x,h,m,k,s] (((ah+ac)*af+(ah+ac)*af)*((ah+ac)*af+(ah+ac)*af)*((ac*ac-ab-(ab+(af+af))-(ah*ah-ab-(ab+(af+af))))*(ac*ac-ab-(ab+(af+af))-(ah*ah-ab-(ab+(af+af))))*(ae*ae-(ab+(af+af))-(ab+(af+af))))-((ah+ac)*af+(ah+ac)*af)*((ah+ac)*af+(ah+ac)*af)*((ac*(ab-(ac*ac-ab-(ab+(af+af))))-(ah-ac)*af-(ah*(ab-(ah*ah-ab-(ab+(af+af))))+(ah-ac)*af))*(ac*(ab-(ac*ac-ab-(ab+(af+af))))-(ah-ac)*af-(ah*(ab-(ah*ah-ab-(ab+(af+af))))+(ah-ac)*af))-(ac*ac-ab-(ab+(af+af))-(ah*ah-ab-(ab+(af+af))))*(ac*ac-ab-(ab+(af+af))-(ah*ah-ab-(ab+(af+af))))*(ah*ah-ab-(ab+(af+af))+(ac*ac-ab-(ab+(af+af)))))) [(aj [(36,2211),(-18,411),(-18,4011),(6,2202),(-3,402),(-3,4002),(-2,5110),(4,3310),(-2,1510),(40,2220),(-20,420),(-20,4020)],ac*ah*af+ac*ah*af-(ab*ab+ab*(ab+(af+af))+(ab+(af+af))*(ab+(af+af)))),
  (aj [(-24,2211),(12,411),(12,4011),(-6,2202),(3,402),(3,4002),(2,14110),(-4,13210),(-4,12310),(2,11410),(2,10510),(2,15010),(-24,2220),(12,420),(12,4020)],((ah+ac)*af+(ah+ac)*af)*ae-((ab+(af+af))*(ab+(af+af))+(ab+(af+af))*(ab+(af+af))+(ab+(af+af))*(ab+(af+af))))] ⟨Aa.2 r2,Aa.2 rs,trivial⟩ dm)
theorem spY {F:Type} [CR F] (x h m k s:F) (r2:m*k*h+m*k*h=(x*x+x*(x+(h+h))+(x+(h+h))*(x+(h+h)))) (rs:((k+m)*h+(k+m)*h)*s=((x+(h+h))*(x+(h+h))+(x+(h+h))*(x+(h+h))+(x+(h+h))*(x+(h+h)))):((k+m)*h+(k+m)*h)*((k+m)*h+(k+m)*h)*((k+m)*h+(k+m)*h)*((m*m-x-(x+(h+h))-(k*k-x-(x+(h+h))))*(s*(x+(h+h)-(s*s-(x+(h+h))-(x+(h+h))))-(k+m)*h))=((k+m)*h+(k+m)*h)*((k+m)*h+(k+m)*h)*((k+m)*h+(k+m)*h)*((m*(x-(m*m-x-(x+(h+h))))-(k-m)*h-(k*(x-(k*k-x-(x+(h+h))))+(k-m)*h))*(k*k-x-(x+(h+h))-(s*s-(x+(h+h))-(x+(h+h))))-(m*m-x-(x+(h+h))-(k*k-x-(x+(h+h))))*(k*(x-(k*k-x-(x+(h+h))))+(k-m)*h)) :=
 Aa.1 (Bh [x,h,m,k,s] (((ah+ac)*af+(ah+ac)*af)*((ah+ac)*af+(ah+ac)*af)*((ah+ac)*af+(ah+ac)*af)*((ac*ac-ab-(ab+(af+af))-(ah*ah-ab-(ab+(af+af))))*(ae*(ab+(af+af)-(ae*ae-(ab+(af+af))-(ab+(af+af))))-(ah+ac)*af))-((ah+ac)*af+(ah+ac)*af)*((ah+ac)*af+(ah+ac)*af)*((ah+ac)*af+(ah+ac)*af)*((ac*(ab-(ac*ac-ab-(ab+(af+af))))-(ah-ac)*af-(ah*(ab-(ah*ah-ab-(ab+(af+af))))+(ah-ac)*af))*(ah*ah-ab-(ab+(af+af))-(ae*ae-(ab+(af+af))-(ab+(af+af))))-(ac*ac-ab-(ab+(af+af))-(ah*ah-ab-(ab+(af+af))))*(ah*(ab-(ah*ah-ab-(ab+(af+af))))+(ah-ac)*af))) [(aj [(-48,3121),(48,1321),(24,421),(-24,4021),(288,231),(-288,2031),(-12,3112),(12,1312),(6,412),(-6,4012),(216,222),(-216,2022),(72,213),(-72,2013),(9,204),(-9,2004),(-4,5120),(-8,4220),(8,2420),(4,1520),(-32,3130),(32,1330),(16,430),(-16,4030),(144,240),(-144,2040)],ac*ah*af+ac*ah*af-(ab*ab+ab*(ab+(af+af))+(ab+(af+af))*(ab+(af+af)))),
  (aj [(12,12121),(-12,11221),(-12,10321),(-12,421),(12,13021),(12,4021),(-120,231),(120,2031),(6,12112),(6,3112),(-6,11212),(-6,1312),(-6,10312),(-6,412),(6,13012),(6,4012),(-120,222),(120,2022),(-54,213),(54,2013),(-9,204),(9,2004),(8,23120),(8,14120),(4,13220),(-8,21320),(-4,12320),(-8,11420),(-4,20420),(-4,10520),(4,24020),(4,15020),(8,12130),(-24,3130),(-8,11230),(24,1330),(-8,10330),(8,13030),(-48,240),(48,2040)],((ah+ac)*af+(ah+ac)*af)*ae-((ab+(af+af))*(ab+(af+af))+(ab+(af+af))*(ab+(af+af))+(ab+(af+af))*(ab+(af+af))))] ⟨Aa.2 r2,Aa.2 rs,trivial⟩ dm)
theorem AU' {F:Type} [CR F] (y2 y3 h m k:F) (ha:y3-y2=(m*(h+h))) (hb:y3+y2=(k*(h+h))):((int 2)*y2)=((int 2)*((k-m)*h)) :=
 Aa.1 (Bh [y2,y3,h,m,k] (au*ab-au*((ae-ah)*ac)) [(ak,af-ab-ah*(ac+ac)),
  (ap,af+ab-ae*(ac+ac))] ⟨Aa.2 ha,Aa.2 hb,trivial⟩ dm)
theorem AVA {F:Type} [CR F] (y2 y3 h m k:F) (ha:y3-y2=(m*(h+h))) (hb:y3+y2=(k*(h+h))):((int 2)*y3)=((int 2)*((k+m)*h)) :=
 Aa.1 (Bh [y2,y3,h,m,k] (au*af-au*((ae+ah)*ac)) [(ap,af-ab-ah*(ac+ac)),
  (ap,af+ab-ae*(ac+ac))] ⟨Aa.2 ha,Aa.2 hb,trivial⟩ dm)
theorem AVB {F:Type} [CR F] (d i:F) (h:((int 2)*i)=(int 1)):d*i+d*i=d :=
 Aa.1 (Bh [d,i] (ab*af+ab*af-ab) [(ab,au*af-ap)] ⟨Aa.2 h,trivial⟩ dm)
theorem two_mul {F:Type} [CR F] (y:F) :y+y=((int 2)*y) :=
 Aa.1 (Bh [y] (ab+ab-au*ab) [] trivial dm)
theorem AVC {F:Type} [CR F] (x1 y1 l:F) :y1=l*x1+(y1-l*x1) :=
 Aa.1 (Bh [x1,y1,l] (af-(ac*ab+(af-ac*ab))) [] trivial dm)
theorem AVD {F:Type} [CR F] (x1 y1 x2 y2 l:F) (hl:l*(x2-x1)=(y2-y1)):y2=l*x2+(y1-l*x1) :=
 Aa.1 (Bh [x1,y1,x2,y2,l] (ah-(ae*ac+(af-ae*ab))) [(ak,ae*(ac-ab)-(ah-af))] ⟨Aa.2 hl,trivial⟩ dm)
theorem AVE {F:Type} [CR F] (x1 x2 l:F) :x1+x2+(l*l-x1-x2)=l*l :=
 Aa.1 (Bh [x1,x2,l] (ab+af+(ac*ac-ab-af)-ac*ac) [] trivial dm)
theorem AVF {F:Type} [CR F] (x y h m k:F) (hm:m*y+m*y+m*m*(x+(h+h)-x)=((x+(h+h))*(x+(h+h))+(x+(h+h))*x+x*x)) (hy:y=((k-m)*h)):m*k*h+m*k*h=x*x+x*(x+(h+h))+(x+(h+h))*(x+(h+h)) :=
 Aa.1 (Bh [x,y,h,m,k] (ah*ae*ac+ah*ae*ac-(ab*ab+ab*(ab+(ac+ac))+(ab+(ac+ac))*(ab+(ac+ac)))) [(ap,ah*af+ah*af+ah*ah*(ab+(ac+ac)-ab)-((ab+(ac+ac))*(ab+(ac+ac))+(ab+(ac+ac))*ab+ab*ab)),
  ((aw*ah),af-(ae-ah)*ac)] ⟨Aa.2 hm,Aa.2 hy,trivial⟩ dm)
theorem AVG {F:Type} [CR F] (a b:F) :a=b+(a-b) :=
 Aa.1 (Bh [a,b] (ab-(af+(ab-af))) [] trivial dm)
theorem AVH {F:Type} [CR F] (a b:F) (h:a+b=0):b=-a :=
 Aa.1 (Bh [a,b] (af- -ab) [(ap,ab+af-aa)] ⟨Aa.2 h,trivial⟩ dm)
theorem AGR {F:Type} [CR F] (a b:F) (h:-a=(-b)):a=b :=
 Aa.1 (Bh [a,b] (ab-af) [(ak,-ab- -af)] ⟨Aa.2 h,trivial⟩ dm)
theorem Rx {F:Type} [CR F] (x1 x2 x4 l:F) (e1:x1+x2+x4=(l*l)):x4=l*l-x1-x2 :=
 Aa.1 (Bh [x1,x2,x4,l] (ac-(ah*ah-ab-af)) [(ap,ab+af+ac-ah*ah)] ⟨Aa.2 e1,trivial⟩ dm)
theorem Ry {F:Type} [CR F] (x2 y2 x4 y4 l n:F) (h2:y2=(l*x2+n)) (h4:y4=(l*x4+n)):-y4=l*(x2-x4)-y2 :=
 Aa.1 (Bh [x2,y2,x4,y4,l,n] (-ah-(ae*(ab-ac)-af)) [(ap,af-(ae*ab+ao)),
  (ak,ah-(ae*ac+ao))] ⟨Aa.2 h2,Aa.2 h4,trivial⟩ dm)
theorem AGS {F:Type} [CR F] (x1 y1 x2 y2 l n:F) (h1:y1=(l*x1+n)) (h2:y2=(l*x2+n)):y1=y2+l*(x1-x2) :=
 Aa.1 (Bh [x1,y1,x2,y2,l,n] (af-(ah+ae*(ab-ac))) [(ap,af-(ae*ab+ao)),
  (ak,ah-(ae*ac+ao))] ⟨Aa.2 h1,Aa.2 h2,trivial⟩ dm)
theorem AVI {F:Type} [CR F] (x1 x2 x3 k:F) (e:x1+x2+x3=(-k*-k)):x1=k*k-x2-x3 :=
 Aa.1 (Bh [x1,x2,x3,k] (ab-(ah*ah-af-ac)) [(ap,ab+af+ac- -ah*-ah)] ⟨Aa.2 e,trivial⟩ dm)
theorem AVJ {F:Type} [CR F] (x1 y1 x2 y2 k n:F) (h1:y1=(-k*x1+n)) (h2:y2=(-k*x2+n)):y1=k*(x2-x1)+y2 :=
 Aa.1 (Bh [x1,y1,x2,y2,k,n] (af-(ae*(ac-ab)+ah)) [(ap,af-(-ae*ab+ao)),
  (ak,ah-(-ae*ac+ao))] ⟨Aa.2 h1,Aa.2 h2,trivial⟩ dm)
theorem AVK {F:Type} [CR F] (d t n x1 x5:F) (h:d*t=n):d*d*(t*t-x1-x5)=n*n-d*d*(x1+x5) :=
 Aa.1 (Bh [d,t,n,x1,x5] (ab*ab*(af*af-ah-ae)-(ac*ac-ab*ab*(ah+ae))) [((ab*af+ac),ab*af-ac)] ⟨Aa.2 h,trivial⟩ dm)
theorem AVL {F:Type} [CR F] (d t n x1 X y1:F) (h:d*t=n):d*(t*(x1-X)-y1)=n*(x1-X)-d*y1 :=
 Aa.1 (Bh [d,t,n,x1,X,y1] (ab*(af*(ah-ae)-ao)-(ac*(ah-ae)-ab*ao)) [((ah+-ae),ab*af-ac)] ⟨Aa.2 h,trivial⟩ dm)
theorem AVM {F:Type} [CR F] (y3 y2 d k:F) (h:d*-k=(-y3-y2)):y3+y2=k*d :=
 Aa.1 (Bh [y3,y2,d,k] (ab+af-ah*ac) [(ap,ac*-ah-(-ab-af))] ⟨Aa.2 h,trivial⟩ dm)
class FD (F:Type) extends CR F where
 inv:F→F
 mul_inv:∀ a:F,a≠0→a*inv a=1
 inv_zero:inv 0=0
 one_ne:(1:F)≠0
 dec:DecidableEq F
instance fdDec {F:Type} [FD F]:DecidableEq F:=FD.dec
open FD (inv)
inductive Pt (F:Type) where
 | inf
 | pt (x y:F)
section
variable {F:Type} [FD F]
theorem JM {a b c:F} (ha:a≠0) (h:a*b=a*c):b=c:=by
 have h2:inv a*(a*b)=inv a*(a*c):=by rw [h]
 rw [← mul_assoc,← mul_assoc,mul_comm (inv a) a,FD.mul_inv a ha,one_mul,one_mul] at h2;exact h2
theorem Pr {a b:F} (ha:a≠0) (h:a*b=0):b=0:=JM ha (by rw [h,mul_zero])
theorem DC {a b:F} (ha:a≠0) (hb:b≠0):a*b≠0:=fun h=>hb (Pr ha h)
theorem Uz {a b:F} (h:a≠b):a-b≠0:=fun e=>h (Aa.1 e)
theorem YH {d e l:F} (hd:d≠0) (h:d*l=e):e*inv d=l:=by
 rw [← h,mul_comm d l,mul_assoc,FD.mul_inv d hd,mul_one]
theorem AGT {d e:F} (hd:d≠0):e*inv d*d=e:=by
 rw [mul_assoc,mul_comm (inv d),FD.mul_inv d hd,mul_one]
def GM (x1 y1 x2 l:F):Pt F:=.pt (l*l-x1-x2) (l*(x1-(l*l-x1-x2))-y1)
def add:Pt F→Pt F→Pt F
 | .inf,q=>q
 | .pt x1 y1,q=>match q with
  | .inf=>.pt x1 y1
  | .pt x2 y2=>if x1=x2 then (if y1=y2∧y1≠0 then GM x1 y1 x2 ((x1*x1+x1*x1+x1*x1)*inv (y1+y1)) else .inf) else GM x1 y1 x2 ((y2-y1)*inv (x2-x1))
theorem JN (x1 y1 x2 y2:F):add (.pt x1 y1) (.pt x2 y2)=if x1=x2 then (if y1=y2∧y1≠0 then GM x1 y1 x2 ((x1*x1+x1*x1+x1*x1)*inv (y1+y1)) else .inf) else GM x1 y1 x2 ((y2-y1)*inv (x2-x1)):=rfl
def neg:Pt F→Pt F
 | .inf=>.inf
 | .pt x y=>.pt x (-y)
def On (b:F):Pt F→Prop
 | .inf=>True
 | .pt x y=>y*y=x*x*x+b
structure Ln (b x1 y1 x2 y2 x3 y3 l n:F):Prop where
 h1:y1=l*x1+n
 h2:y2=l*x2+n
 h3:y3=l*x3+n
 e1:x1+x2+x3=l*l
 e2:x1*x2+x1*x3+x2*x3+(l*n+l*n)=0
 e3:x1*x2*x3+b=n*n
section
variable {b x1 y1 x2 y2 x3 y3 l n:F}
theorem Ln.sw (h:Ln b x1 y1 x2 y2 x3 y3 l n):Ln b x2 y2 x1 y1 x3 y3 l n:=⟨h.h2,h.h1,h.h3,AUy _ _ _ _ h.e1,AU0 _ _ _ _ h.e2,AU2 _ _ _ _ _ h.e3⟩
theorem Ln.ro (h:Ln b x1 y1 x2 y2 x3 y3 l n):Ln b x2 y2 x3 y3 x1 y1 l n:=⟨h.h2,h.h3,h.h1,AUz _ _ _ _ h.e1,AU1 _ _ _ _ h.e2,AU3 _ _ _ _ _ h.e3⟩
theorem Ln.neg (h:Ln b x1 y1 x2 y2 x3 y3 l n):Ln b x1 (-y1) x2 (-y2) x3 (-y3) (-l) (-n) :=
 ⟨vG _ _ _ _ h.h1,vG _ _ _ _ h.h2,vG _ _ _ _ h.h3,by rw [neg_sq];exact h.e1,by rw [AU4];exact h.e2,by rw [neg_sq];exact h.e3⟩
theorem Ln.on (h:Ln b x1 y1 x2 y2 x3 y3 l n):y1*y1=x1*x1*x1+b:=AUv x1 y1 x2 x3 l n b h.h1 h.e1 h.e2 h.e3
end
structure Cv (F:Type) [FD F] where
 b:F
 two:(int 2:F)≠0
 no2:∀ x y:F,y*y=x*x*x+b→y≠0
variable (C:Cv F)
include C in
theorem U0 {y:F} (h:y≠0):y+y≠0:=by rw [two_mul];exact DC C.two h
theorem GN {x1 y1 x2 y2 x3 y3 l n:F} (h:Ln C.b x1 y1 x2 y2 x3 y3 l n):add (.pt x1 y1) (.pt x2 y2)=.pt x3 (-y3):=by
 have hy:=C.no2 _ _ h.on;have hsum:GM x1 y1 x2 l=.pt x3 (-y3):=by
  unfold GM;rw [AUx x1 x2 x3 l h.e1,AUw x1 y1 x3 y3 l n h.h1 h.h3]
 rw [JN];by_cases hx:x1=x2
 ·subst hx;have e:=eP _ _ _ _ _ h.h1 h.h2;have ht:=AGP x1 y1 x3 l n h.h1 h.e1 h.e2;rw [jo rfl,jo ⟨e,hy⟩,YH (U0 C hy) ht];exact hsum
 ·rw [jn hx,YH (Uz (Ne.symm hx)) (Uy x1 y1 x2 y2 l n h.h1 h.h2)];exact hsum
theorem AGU {x1 y1 x2 y2 l:F} (c1:y1*y1=x1*x1*x1+C.b) (hl:l*(x2-x1)=y2-y1)
  (e2:x1*x2+x1*(l*l-x1-x2)+x2*(l*l-x1-x2)+(l*(y1-l*x1)+l*(y1-l*x1))=0):Ln C.b x1 y1 x2 y2 (l*l-x1-x2) (l*(l*l-x1-x2)+(y1-l*x1)) l (y1-l*x1) :=
 ⟨AVC x1 y1 l,AVD x1 y1 x2 y2 l hl,rfl,AVE x1 x2 l,e2,AUu x1 y1 x2 l C.b e2 c1⟩
theorem N8 {x1 y1 x2 y2:F} (c1:y1*y1=x1*x1*x1+C.b) (c2:y2*y2=x2*x2*x2+C.b):(x2=x1∧y2=-y1)∨∃ x3 y3 l n,Ln C.b x1 y1 x2 y2 x3 y3 l n:=by
 by_cases hx:x1=x2
 ·subst hx;by_cases hy:y1=y2
  ·subst hy;have hy0:=C.no2 _ _ c1;refine .inr ⟨_,_,(x1*x1+x1*x1+x1*x1)*inv (y1+y1),_,AGU C c1 (by rw [sub_self,sub_self,mul_zero]) ?_⟩
   refine AUt x1 y1 _ ?_
   rw [mul_comm,AGT (U0 C hy0)]
  ·refine .inl ⟨rfl,?_⟩
   have:=AU5 y1 y2 _ c1 c2
   exact AVH y1 y2 (Pr (Uz hy) this)
 ·have hd:=Uz (Ne.symm hx)
  have hl:(y2-y1)*inv (x2-x1)*(x2-x1)=y2-y1:=AGT hd
  exact .inr ⟨_,_,(y2-y1)*inv (x2-x1),_,AGU C c1 hl (Pr hd (AUs x1 y1 x2 y2 _ C.b hl c1 c2))⟩
include C in
theorem eR {y:F} (hy:y≠0) (h:y=-y):False:=by
 have h2:y+y=0:=by
  have:=Rg.add_neg y
  rw [← h] at this;exact this
 exact U0 C hy h2
theorem J8 {x y:F} (c:y*y=x*x*x+C.b):add (.pt x y) (.pt x (-y))=.inf:=by
 have hy:=C.no2 _ _ c;rw [JN,jo rfl,jn]
 rintro ⟨h,_⟩
 exact eR C hy h
theorem Mr {x y:F} (c:y*y=x*x*x+C.b):(-y)*(-y)=x*x*x+C.b:=by rw [neg_sq];exact c
theorem H4 {p:Pt F} (h:On C.b p):On C.b (neg p):=by
 cases p with
 | inf=>trivial
 | pt x y=>exact Mr C h
theorem If {p q:Pt F} (hp:On C.b p) (hq:On C.b q):On C.b (add p q):=by
 cases p with
 | inf=>exact hq
 | pt x1 y1=>cases q with
  | inf=>exact hp
  | pt x2 y2 =>
   rcases N8 C hp hq with ⟨rfl,rfl⟩ | ⟨x3,y3,l,n,h⟩
   ·rw [J8 C hp];trivial
   ·rw [GN C h];exact Mr C h.ro.ro.on
theorem H5 {p q:Pt F} (hp:On C.b p) (hq:On C.b q):add p q=add q p:=by
 cases p with
 | inf=>cases q<;>rfl
 | pt x1 y1=>cases q with
  | inf=>rfl
  | pt x2 y2 =>
   rcases N8 C hp hq with ⟨rfl,rfl⟩ | ⟨x3,y3,l,n,h⟩
   ·rw [J8 C hp];have:=J8 C (Mr C hp)
    rw [neg_neg] at this;exact this.symm
   ·rw [GN C h,GN C h.sw]
theorem Ps (p:Pt F):add p .inf=p:=by cases p<;>rfl
theorem YI {p:Pt F} (hp:On C.b p):add p (neg p)=.inf:=by
 cases p with
 | inf=>rfl
 | pt x y=>exact J8 C hp
theorem Pu {p q:Pt F} (hp:On C.b p) (hq:On C.b q):add (neg p) (add p q)=q:=by
 cases p with
 | inf=>rfl
 | pt x1 y1=>cases q with
  | inf =>
   have h:=J8 C (Mr C hp)
   rw [neg_neg] at h;exact h
  | pt x2 y2 =>
   rcases N8 C hp hq with ⟨rfl,rfl⟩ | ⟨x3,y3,l,n,h⟩
   ·rw [J8 C hp];rfl
   ·rw [GN C h];have:=GN C h.neg.sw.ro
    rw [neg_neg] at this;exact this
theorem vH {p q r:Pt F} (hp:On C.b p) (hq:On C.b q) (hr:On C.b r) (h:add p q=add p r):q=r:=by
 rw [← Pu C hp hq,h,Pu C hp hr]
theorem AGV {x1 y1 x2 y2 x3 y3 l n x5 y5 m q:F} (h1:Ln C.b x1 y1 x2 y2 x3 (-y3) l n) (h2:Ln C.b x2 y2 x3 y3 x5 y5 m q):add (.pt x3 y3) (.pt x3 y3)=add (.pt x1 y1) (.pt x5 (-y5)):=by
 have cP:=h1.on;have cQ:=h2.on;have cR:=h2.ro.on;have hyQ:=C.no2 _ _ cQ;have hyR:=C.no2 _ _ cR;have a2:add (.pt x1 y1) (.pt x2 y2)=.pt x3 y3:=by rw [GN C h1,neg_neg]
 have a1:add (.pt x2 y2) (.pt x3 y3)=.pt x5 (-y5):=GN C h2
 rcases N8 C cR cR with ⟨_,e⟩ | ⟨x6,y6,s,n6,h6⟩
 ·exact (eR C hyR e).elim
 rcases N8 C cP (Mr C h2.ro.ro.on) with ⟨e1,e2⟩ | ⟨x7,y7,t,n7,h7⟩
 ·exfalso
  have e2:=AGR _ _ e2;subst e1;subst e2;have a3:=GN C h2.ro.ro;rw [a2] at a3;injection a3 with _ a3;exact eR C hyR a3
 rw [GN C h6,GN C h7];have ht:(x5-x1)*t=-y5-y1:=Uy x1 y1 x5 (-y5) t n7 h7.h1 h7.h2
 have hs:(y3+y3)*s=x3*x3+x3*x3+x3*x3:=AGP x3 y3 x6 s n6 h6.h1 h6.e1 h6.e2
 have hd:x5≠x1:=by
  intro e;subst e;have e3:=eP _ _ _ _ _ h7.h1 h7.h2;rw [← e3] at a1;have a4:add (neg (.pt x2 y2)) (.pt x3 y3)=.pt x5 y1:=by
   rw [← a2,H5 C (p:=.pt x5 y1) (q:=.pt x2 y2) cP cQ];exact Pu C (p:=.pt x2 y2) (q:=.pt x5 y1) cQ cP
  have a5:add (.pt x3 y3) (.pt x2 y2)=add (.pt x3 y3) (neg (.pt x2 y2)):=by
   rw [H5 C (p:=.pt x3 y3) (q:=.pt x2 y2) cR cQ,H5 C (p:=.pt x3 y3) (q:=neg (.pt x2 y2)) cR (Mr C cQ),a1,a4]
  have a6:=vH C (p:=.pt x3 y3) (q:=.pt x2 y2) (r:=neg (.pt x2 y2)) cR cQ (Mr C cQ) a5
  injection a6 with _ a6;exact eR C hyQ a6
 have hi:(int 2:F)*inv (int 2)=int 1:=by rw [FD.mul_inv _ C.two,YC]
 obtain ⟨h,hh⟩:∃ h:F,h+h=x3-x2:=⟨(x3-x2)*inv (int 2),AVB _ _ hi⟩
 obtain ⟨k,rfl⟩:∃ k:F,l=-k:=⟨-l,(neg_neg l).symm⟩
 have ex3:x3=x2+(h+h):=by rw [hh];exact AVG _ _
 have hm:y3-y2=m*(h+h):=by
  have:=Uy x2 y2 x3 y3 m q h2.h1 h2.h2
  rw [hh,mul_comm];exact this.symm
 have hk:y3+y2=k*(h+h):=by
  have:=Uy x2 y2 x3 (-y3) (-k) n h1.h2 h1.h3
  rw [hh];exact AVM _ _ _ _ this
 have ey2:y2=(k-m)*h:=JM C.two (AU' y2 y3 h m k hm hk)
 have ey3:y3=(k+m)*h:=JM C.two (AVA y2 y3 h m k hm hk)
 have ex1:x1=k*k-x2-x3:=AVI x1 x2 x3 k h1.e1
 have ey1:y1=k*(x2-x1)+y2:=AVJ x1 y1 x2 y2 k n h1.h1 h1.h2
 have ex5:x5=m*m-x2-x3:=Rx x2 x3 x5 m h2.e1
 have ey5:-y5=m*(x2-x5)-y2:=Ry x2 y2 x5 y5 m q h2.h1 h2.h3
 have r2:=AVF x2 y2 h m k (by rw [← ex3];exact AGQ x2 y2 x3 x5 m q h2.h1 h2.e1 h2.e2) ey2
 have rs:((k+m)*h+(k+m)*h)*s=(x2+(h+h))*(x2+(h+h))+(x2+(h+h))*(x2+(h+h))+(x2+(h+h))*(x2+(h+h)):=by rw [← ey3,← ex3];exact hs
 have hX:=spX x2 h m k s r2 rs;have hY:=spY x2 h m k s r2 rs;rw [← ex3,← ex1,← ex5,← ey2,← ey3,← ey5,← ey1] at hX hY;have hw:=U0 C hyR;have hD:=Uz hd;have x6e:x6=s*s-x3-x3:=Rx x3 x3 x6 s h6.e1
 have x7e:x7=t*t-x1-x5:=Rx x1 x5 x7 t h7.e1
 have hXX:x6=x7:=by
  rw [x6e,x7e];refine JM (DC hD hD) ?_
  rw [AVK _ _ _ x1 x5 ht];exact JM (DC hw hw) hX
 have y6e:-y6=s*(x3-x6)-y3:=Ry x3 y3 x6 y6 s n6 h6.h1 h6.h3
 have y7e:-y7=t*(x1-x7)-y1:=Ry x1 y1 x7 y7 t n7 h7.h1 h7.h3
 have hYY:-y6=-y7:=by
  rw [y6e,y7e,← hXX];refine JM hD ?_
  rw [AVL _ _ _ x1 x6 y1 ht];rw [← x6e] at hY;exact JM (DC (DC hw hw) hw) hY
 rw [hXX,hYY]
theorem AVN {x1 y1 x2 y2 x3 y3 x4 y4 x5 y5 x6 y6 x7 y7 l n m q s n6 t n7:F} (h1:Ln C.b x1 y1 x2 y2 x4 y4 l n) (h2:Ln C.b x2 y2 x3 y3 x5 y5 m q) (h3:Ln C.b x4 (-y4) x3 y3 x6 y6 s n6) (h4:Ln C.b x1 y1 x5 (-y5) x7 y7 t n7)
  (hd1:x4≠x3) (hd2:x5≠x1):x6=x7∧-y6=-y7:=by
 have ex4:x4=l*l-x1-x2:=Rx x1 x2 x4 l h1.e1
 have ey4:-y4=l*(x2-x4)-y2:=Ry x2 y2 x4 y4 l n h1.h2 h1.h3
 have ex5:x5=m*m-x2-x3:=Rx x2 x3 x5 m h2.e1
 have ey5:-y5=m*(x2-x5)-y2:=Ry x2 y2 x5 y5 m q h2.h1 h2.h3
 have ey3:y3=y2+m*(x3-x2):=AGS x3 y3 x2 y2 m q h2.h2 h2.h1
 have ey1:y1=y2+l*(x1-x2):=AGS x1 y1 x2 y2 l n h1.h1 h1.h2
 have hs:s*(x4-x3)=-y4-y3:=by rw [mul_comm];exact Uy x3 y3 x4 (-y4) s n6 h3.h2 h3.h1
 have ht:t*(x5-x1)=-y5-y1:=by rw [mul_comm];exact Uy x1 y1 x5 (-y5) t n7 h4.h1 h4.h2
 have r1:=AU6 x1 x2 y2 x4 l n h1.h2 h1.e1 h1.e2;have r2:=AGQ x2 y2 x3 x5 m q h2.h1 h2.e1 h2.e2;have hs':s*(l*l-x1-x2-x3)=l*(x2-(l*l-x1-x2))-y2-(y2+m*(x3-x2)):=by rw [← ex4,← ey4,← ey3];exact hs
 have ht':t*(m*m-x2-x3-x1)=m*(x2-(m*m-x2-x3))-y2-(y2+l*(x1-x2)):=by rw [← ex5,← ey5,← ey1];exact ht
 have hX:=AU7 x1 x2 x3 y2 l m s t r1 r2 hs' ht';have hY:=AU8 x1 x2 x3 y2 l m s t r1 r2 hs' ht';rw [← ex4,← ex5] at hX hY;rw [← ey3,← ey1] at hY;have hD1:=Uz hd1;have hD2:=Uz hd2;have x6e:x6=s*s-x4-x3:=Rx x4 x3 x6 s h3.e1
 have x7e:x7=t*t-x1-x5:=Rx x1 x5 x7 t h4.e1
 have hXX:x6=x7:=by rw [x6e,x7e];exact JM (DC (DC hD1 hD1) (DC hD2 hD2)) hX
 have y6e:-y6=s*(x3-x6)-y3:=Ry x3 y3 x6 y6 s n6 h3.h2 h3.h3
 have y7e:-y7=t*(x1-x7)-y1:=Ry x1 y1 x7 y7 t n7 h4.h1 h4.h3
 refine ⟨hXX,?_⟩
 rw [y6e,y7e,← hXX];rw [← x6e] at hY;exact JM (DC (DC (DC hD1 hD1) hD1) hD2) hY
theorem J9 {p q r:Pt F} (hp:On C.b p) (hq:On C.b q) (hr:On C.b r):add (add p q) r=add p (add q r):=by
 cases p with
 | inf=>rfl
 | pt x1 y1=>cases q with
  | inf=>rfl
  | pt x2 y2=>cases r with
   | inf=>rw [Ps,Ps]
   | pt x3 y3 =>
    rcases N8 C hp hq with ⟨rfl,rfl⟩ | ⟨x4,y4,l,n,h1⟩
    ·rw [J8 C hp];have hn:On C.b (.pt x2 (-y1)):=hq
     have:=Pu C (p:=.pt x2 (-y1)) (q:=.pt x3 y3) hn hr
     rw [show neg (.pt x2 (-y1):Pt F)=.pt x2 y1 by simp [neg,neg_neg]] at this
     exact this.symm
    rcases N8 C hq hr with ⟨rfl,rfl⟩ | ⟨x5,y5,m,q,h2⟩
    ·rw [J8 C hq,Ps,H5 C (If C hp hq) hr,H5 C hp hq];exact Pu C (p:=.pt x3 y2) (q:=.pt x1 y1) hq hp
    rw [GN C h1,GN C h2];have c4:=Mr C h1.ro.ro.on;have c5:=Mr C h2.ro.ro.on;rcases N8 C c4 hr with ⟨e1,e2⟩ | ⟨x6,y6,s,n6,h3⟩
    ·
     rw [neg_neg] at e2;subst e1;subst e2;have a:=GN C h1.ro;rw [GN C h2] at a;rw [a,J8 C hp];have:=J8 C c4
     rw [neg_neg] at this;exact this
    rcases N8 C hp c5 with ⟨e1,e2⟩ | ⟨x7,y7,t,n7,h4⟩
    ·have e2:=AGR _ _ e2;subst e1;subst e2;have a:=GN C h2.ro.ro;rw [GN C h1] at a;rw [a,J8 C hp];have:=J8 C (Mr C hr)
     rw [neg_neg] at this;exact this
    by_cases hd1:x4=x3
    ·have e3:=eP _ _ _ _ _ (hd1▸h3.h1) h3.h2
     subst hd1;rw [e3];have h1':Ln C.b x1 y1 x2 y2 x4 (-y3) l n:=by rw [← e3,neg_neg];exact h1
     exact AGV C h1' h2
    by_cases hd2:x5=x1
    ·have e3:=eP _ _ _ _ _ h4.h1 (hd2▸h4.h2)
     subst hd2;rw [← e3];have h2':Ln C.b x3 y3 x2 y2 x5 (-y1) m q:=by rw [e3,neg_neg];exact h2.sw
     have:=AGV C h2' h1.sw
     rw [this];exact H5 C (p:=.pt x4 (-y4)) (q:=.pt x3 y3) c4 hr
    obtain ⟨e1,e2⟩:=AVN C h1 h2 h3 h4 hd1 hd2;rw [GN C h3,GN C h4,e1,e2]
def smul:Nat→Pt F→Pt F
 | 0,_=>.inf
 | n+1,p=>add (smul n p) p
theorem CE {p:Pt F} (hp:On C.b p):∀ n,On C.b (smul n p)
 | 0=>trivial
 | n+1=>If C (CE hp n) hp
theorem JO {p:Pt F} (hp:On C.b p) (m:Nat):∀ n,smul (m+n) p=add (smul m p) (smul n p)
 | 0=>(Ps _).symm
 | n+1=>by
  rw [← ni];simp only [smul];rw [JO hp m n,J9 C (CE C hp m) (CE C hp n) hp]
theorem JP {p:Pt F} (hp:On C.b p) (m:Nat):∀ n,smul (m*n) p=smul n (smul m p)
 | 0=>rfl
 | n+1=>by
  rw [Nat.mul_succ,JO C hp,JP hp m n];rfl
theorem Gz:∀ n,smul n (.inf:Pt F)=.inf
 | 0=>rfl
 | n+1=>by simp only [smul];rw [Gz n];rfl
theorem AVO (p:Pt F):neg (neg p)=p:=by cases p<;>simp [neg,neg_neg]
theorem AVP {p q:Pt F} (hp:On C.b p) (hq:On C.b q):add (add p q) (neg q)=p:=by
 rw [J9 C hp hq (H4 C hq),YI C hq,Ps]
end
theorem AVQ {F:Type} [CR F] (x y i I:F) (hi:i=((y+y)*I)):(y*(i*i*i)+y*(i*i*i))*((x*x+x*x+x*x)*I)=x*(i*i)*(x*(i*i))+x*(i*i)*(x*(i*i))+x*(i*i)*(x*(i*i)) :=
 Aa.1 (Bh [x,y,i,I] ((af*(ac*ac*ac)+af*(ac*ac*ac))*((ab*ab+ab*ab+ab*ab)*ah)-(ab*(ac*ac)*(ab*(ac*ac))+ab*(ac*ac)*(ab*(ac*ac))+ab*(ac*ac)*(ab*(ac*ac)))) [(aj [(-3,302)],ac-(af+af)*ah)] ⟨Aa.2 hi,trivial⟩ dm)
theorem AGW {F:Type} [CR F] (x y i I:F) (hi:i=((y+y)*I)):(x*x+x*x+x*x)*I*((x*x+x*x+x*x)*I)-x*(i*i)-x*(i*i)=((x*x+x*x+x*x)*(x*x+x*x+x*x)-(x*(y*y)+x*(y*y)+(x*(y*y)+x*(y*y))+(x*(y*y)+x*(y*y)+(x*(y*y)+x*(y*y)))))*(I*I) :=
 Aa.1 (Bh [x,y,i,I] ((ab*ab+ab*ab+ab*ab)*ah*((ab*ab+ab*ab+ab*ab)*ah)-ab*(ac*ac)-ab*(ac*ac)-((ab*ab+ab*ab+ab*ab)*(ab*ab+ab*ab+ab*ab)-(ab*(af*af)+ab*(af*af)+(ab*(af*af)+ab*(af*af))+(ab*(af*af)+ab*(af*af)+(ab*(af*af)+ab*(af*af)))))*(ah*ah)) [((aw*ac*ab+a_*ab*af*ah),ac-(af+af)*ah)] ⟨Aa.2 hi,trivial⟩ dm)
theorem AVR {F:Type} [CR F] (x y i I:F) (hi:i=((y+y)*I)):(x*x+x*x+x*x)*I*(x*(i*i)-((x*x+x*x+x*x)*I*((x*x+x*x+x*x)*I)-x*(i*i)-x*(i*i)))-y*(i*i*i)=((x*x+x*x+x*x)*(x*(y*y)+x*(y*y)+(x*(y*y)+x*(y*y))-((x*x+x*x+x*x)*(x*x+x*x+x*x)-(x*(y*y)+x*(y*y)+(x*(y*y)+x*(y*y))+(x*(y*y)+x*(y*y)+(x*(y*y)+x*(y*y))))))-(y*y*(y*y)+y*y*(y*y)+(y*y*(y*y)+y*y*(y*y))+(y*y*(y*y)+y*y*(y*y)+(y*y*(y*y)+y*y*(y*y)))))*(I*I*I) :=
 Aa.1 (Bh [x,y,i,I] ((ab*ab+ab*ab+ab*ab)*ah*(ab*(ac*ac)-((ab*ab+ab*ab+ab*ab)*ah*((ab*ab+ab*ab+ab*ab)*ah)-ab*(ac*ac)-ab*(ac*ac)))-af*(ac*ac*ac)-((ab*ab+ab*ab+ab*ab)*(ab*(af*af)+ab*(af*af)+(ab*(af*af)+ab*(af*af))-((ab*ab+ab*ab+ab*ab)*(ab*ab+ab*ab+ab*ab)-(ab*(af*af)+ab*(af*af)+(ab*(af*af)+ab*(af*af))+(ab*(af*af)+ab*(af*af)+(ab*(af*af)+ab*(af*af))))))-(af*af*(af*af)+af*af*(af*af)+(af*af*(af*af)+af*af*(af*af))+(af*af*(af*af)+af*af*(af*af)+(af*af*(af*af)+af*af*(af*af)))))*(ah*ah*ah)) [(aj [(18,2013),(9,1103),(-1,210),(-2,1120),(-4,2030)],ac-(af+af)*ah)] ⟨Aa.2 hi,trivial⟩ dm)
theorem AVS {F:Type} [CR F] (y z i I:F) (hz:z*i=(int 1)) (hZ:(y*z+y*z)*I=(int 1)):i=(y+y)*I :=
 Aa.1 (Bh [y,z,i,I] (ac-(ab+ab)*ah) [((au*ab*ah),af*ac-ap),
  ((-ac),(ab*af+ab*af)*ah-ap)] ⟨Aa.2 hz,Aa.2 hZ,trivial⟩ dm)
theorem AVT {F:Type} [CR F] (x a z i:F) (hz:z*i=(int 1)):(a*(z*z)-x)*(i*i)=a-x*(i*i) :=
 Aa.1 (Bh [x,a,z,i] ((af*(ac*ac)-ab)*(ah*ah)-(af-ab*(ah*ah))) [((af*ac*ah+af),ac*ah-ap)] ⟨Aa.2 hz,trivial⟩ dm)
theorem AVU {F:Type} [CR F] (y b z i:F) (hz:z*i=(int 1)):(b*(z*z*z)-y)*(i*i*i)=b-y*(i*i*i) :=
 Aa.1 (Bh [y,b,z,i] ((af*(ac*ac*ac)-ab)*(ah*ah*ah)-(af-ab*(ah*ah*ah))) [((af*ac^2*ah^2+(af*ac*ah+af)),ac*ah-ap)] ⟨Aa.2 hz,trivial⟩ dm)
theorem AVV {F:Type} [CR F] (z h i I:F) (hz:z*i=(int 1)) (hZ:z*h*I=(int 1)):i=h*I :=
 Aa.1 (Bh [z,h,i,I] (ac-af*ah) [((af*ah),ab*ac-ap),
  ((-ac),ab*af*ah-ap)] ⟨Aa.2 hz,Aa.2 hZ,trivial⟩ dm)
theorem AVW {F:Type} [CR F] (x y a b i I h r:F) (hi:i=(h*I)) (hh:h*(i*i)=(a-x*(i*i))) (hr:r*(i*i*i)=(b-y*(i*i*i))):(a-x*(i*i))*(r*I)=b-y*(i*i*i) :=
 Aa.1 (Bh [x,y,a,b,i,I,h,r] ((ac-ab*(ae*ae))*(ax*ao)-(ah-af*(ae*ae*ae))) [((-(ae^2*ax)),ae-aq*ao),
  ((-(ao*ax)),aq*(ae*ae)-(ac-ab*(ae*ae))),
  (ap,ax*(ae*ae*ae)-(ah-af*(ae*ae*ae)))] ⟨Aa.2 hi,Aa.2 hh,Aa.2 hr,trivial⟩ dm)
theorem AVX {F:Type} [CR F] (x y a i I h r:F) (hi:i=(h*I)) (hh:h*(i*i)=(a-x*(i*i))):r*I*(r*I)-x*(i*i)-a=(r*r-h*h*h-(x*(h*h)+x*(h*h)))*(I*I) :=
 Aa.1 (Bh [x,y,a,i,I,h,r] (aq*ae*(aq*ae)-ab*(ah*ah)-ac-(aq*aq-ao*ao*ao-(ab*(ao*ao)+ab*(ao*ao)))*(ae*ae)) [((aw*ab*ah+aw*ab*ae*ao+(-(ah*ao)+-(ae*ao^2))),ah-ao*ae),
  (ap,ao*(ah*ah)-(ac-ab*(ah*ah)))] ⟨Aa.2 hi,Aa.2 hh,trivial⟩ dm)
theorem AVY {F:Type} [CR F] (x y a i I h r:F) (hi:i=(h*I)) (hh:h*(i*i)=(a-x*(i*i))):r*I*(x*(i*i)-(r*I*(r*I)-x*(i*i)-a))-y*(i*i*i)=(r*(x*(h*h)-(r*r-h*h*h-(x*(h*h)+x*(h*h))))-y*(h*h*h))*(I*I*I) :=
 Aa.1 (Bh [x,y,a,i,I,h,r] (aq*ae*(ab*(ah*ah)-(aq*ae*(aq*ae)-ab*(ah*ah)-ac))-af*(ah*ah*ah)-(aq*(ab*(ao*ao)-(aq*aq-ao*ao*ao-(ab*(ao*ao)+ab*(ao*ao))))-af*(ao*ao*ao))*(ae*ae*ae)) [(aj [(3,1011001),(3,1120001),(-1,111010),(-1,2010),(-1,220010),(1,1111000),(1,1220000)],ah-ao*ae),
  ((-(ae*aq)),ao*(ah*ah)-(ac-ab*(ah*ah)))] ⟨Aa.2 hi,Aa.2 hh,trivial⟩ dm)
end Go.Proofs.YtgnajdcdcblaoaaGreat.Rg
namespace Go.Proofs.YtgnajdcdcblaoaaGreat.Rg
open FD (inv)
structure J (F:Type) where
 x:F
 y:F
 z:F
section
variable {F:Type} [FD F]
def CF (j:J F):Pt F:=if j.z=0 then .inf else .pt (j.x*(inv j.z*inv j.z)) (j.y*((inv j.z*inv j.z)*inv j.z))
def jE (x:F):F:=x*x+x*x+x*x
def jD (x y:F):F:=x*(y*y)+x*(y*y)+(x*(y*y)+x*(y*y))
def jC2 (y:F):F:=(y*y)*(y*y)+(y*y)*(y*y)
def eS (y:F):F:=jC2 y+jC2 y
def U1 (y:F):F:=eS y+eS y
def jX (x y:F):F:=jE x*jE x-(jD x y+jD x y)
def Bw (j:J F):J F:=⟨jX j.x j.y,jE j.x*(jD j.x j.y-jX j.x j.y)-U1 j.y,j.y*j.z+j.y*j.z⟩
def pX (x h r:F):F:=r*r-(h*h)*h-(x*(h*h)+x*(h*h))
def pY (x y h r:F):F:=r*(x*(h*h)-pX x h r)-y*((h*h)*h)
def pH (j:J F) (a:F):F:=a*(j.z*j.z)-j.x
def pR (j:J F) (b:F):F:=b*((j.z*j.z)*j.z)-j.y
def F0 (j:J F) (a b:F):J F :=
 if j.z=0 then ⟨a,b,1⟩ else if pH j a=0 then (if pR j b=0 then Bw j else ⟨0,0,0⟩)
 else ⟨pX j.x (pH j a) (pR j b),pY j.x j.y (pH j a) (pR j b),j.z*pH j a⟩
theorem U2 {z:F} (h:z≠0):z*inv z=int 1:=by rw [FD.mul_inv z h,YC]
theorem Ig {j:J F} (h:j.z≠0):CF j=.pt (j.x*(inv j.z*inv j.z)) (j.y*((inv j.z*inv j.z)*inv j.z)):=jn h
theorem G0 {j:J F} (h:j.z=0):CF j=.inf:=jo h
theorem AVZ:inv (1:F)=1:=by have:=FD.mul_inv (1:F) FD.one_ne;rwa [one_mul] at this
theorem AVa {z:F} (h:z≠0):inv z≠0:=fun e=>by
 have:=FD.mul_inv z h
 rw [e,mul_zero] at this;exact FD.one_ne this.symm
variable (C:Cv F)
theorem Rz {j:J F} (hp:On C.b (CF j)):CF (Bw j)=add (CF j) (CF j):=by
 by_cases hz:j.z=0
 ·have h2:(Bw j).z=0:=by show j.y*j.z+j.y*j.z=0;rw [hz,mul_zero,zero_add]
  rw [G0 h2,G0 hz];rfl
 ·rw [Ig hz] at hp ⊢;have hY:=C.no2 _ _ hp;have hy:j.y≠0:=fun e=>hY (by rw [e,zero_mul])
  have hZ:j.y*j.z+j.y*j.z≠0:=U0 C (DC hy hz)
  have hi:=AVS j.y j.z (inv j.z) (inv (j.y*j.z+j.y*j.z)) (U2 hz) (U2 hZ)
  rw [Ig (j:=Bw j) hZ,JN,jo rfl,jo ⟨rfl,hY⟩,YH (U0 C hY) (AVQ j.x j.y _ _ hi)];unfold GM;rw [AGW j.x j.y _ _ hi];have h2:=AVR j.x j.y _ _ hi;rw [AGW j.x j.y _ _ hi] at h2;rw [h2];rfl
theorem U3 {j:J F} {a b:F} (hp:On C.b (CF j)):CF (F0 j a b)=add (CF j) (.pt a b):=by
 unfold F0;by_cases hz:j.z=0
 ·rw [jo hz,G0 hz,Ig (j:=⟨a,b,1⟩) FD.one_ne];show Pt.pt (a*(inv 1*inv 1)) (b*((inv 1*inv 1)*inv 1))=.pt a b;rw [AVZ,one_mul,one_mul,mul_one,mul_one]
 ·rw [jn hz];have eh:pH j a*(inv j.z*inv j.z)=a-j.x*(inv j.z*inv j.z):=AVT j.x a j.z _ (U2 hz)
  have er:pR j b*((inv j.z*inv j.z)*inv j.z)=b-j.y*((inv j.z*inv j.z)*inv j.z):=AVU j.y b j.z _ (U2 hz)
  have hi:=AVa hz;by_cases hh:pH j a=0
  ·have ea:a=j.x*(inv j.z*inv j.z):=Aa.1 (by rw [← eh,hh,zero_mul])
   rw [jo hh];by_cases hr:pR j b=0
   ·have eb:b=j.y*((inv j.z*inv j.z)*inv j.z):=Aa.1 (by rw [← er,hr,zero_mul])
    rw [jo hr,Rz C hp]
    conv=>rhs;rw [ea,eb]
    rw [Ig hz]
   ·rw [jn hr,G0 (j:=⟨0,0,0⟩) rfl,Ig hz,JN,jo ea.symm,jn]
    rintro ⟨e,_⟩
    have:b-j.y*((inv j.z*inv j.z)*inv j.z)=0:=Aa.2 e.symm
    rw [← er] at this;exact DC hr (DC (DC hi hi) hi) this
  ·rw [jn hh];have hax:a-j.x*(inv j.z*inv j.z)≠0:=by rw [← eh];exact DC hh (DC hi hi)
   have hZ:j.z*pH j a≠0:=DC hz hh
   have hI:=AVV j.z (pH j a) (inv j.z) (inv (j.z*pH j a)) (U2 hz) (U2 hZ)
   have hl:=AVW j.x j.y a b _ _ _ _ hI eh er;rw [Ig (j:=⟨pX j.x (pH j a) (pR j b),pY j.x j.y (pH j a) (pR j b),j.z*pH j a⟩) hZ,Ig hz,JN,jn (fun e=>hax (Aa.2 e.symm)),YH hax hl]
   unfold GM;have e1:=AVX j.x j.y a (inv j.z) (inv (j.z*pH j a)) (pH j a) (pR j b) hI eh
   have e2:=AVY j.x j.y a (inv j.z) (inv (j.z*pH j a)) (pH j a) (pR j b) hI eh
   rw [e1] at e2;rw [e1,e2];rfl
end
end Go.Proofs.YtgnajdcdcblaoaaGreat.Rg
namespace Go.Proofs.YtgnajdcdcblaoaaGreat.Rg
section
variable {F:Type} [CR F]
class At (xs:List F) (x:F) (i:outParam Nat):Prop where
 h:Ru xs i=x
instance atTail {xs:List F} {x y:F} {i:Nat} [a:At xs x i]:At (y::xs) x (i+1):=⟨a.h⟩
instance (priority:=high) atHead {xs:List F} {x:F}:At (x::xs) x 0:=⟨rfl⟩
class Rf (xs:List F) (t:F) (e:outParam E):Prop where
 h:e.den xs=t
instance (priority:=low) rfV {xs:List F} {x:F} {i:Nat} [a:At xs x i]:Rf xs x (.v i):=⟨a.h⟩
instance rfAdd {xs:List F} {a b:F} {e f:E} [x:Rf xs a e] [y:Rf xs b f]:Rf xs (a+b) (.add e f):=⟨by rw [E.den,x.h,y.h]⟩
instance rfSub {xs:List F} {a b:F} {e f:E} [x:Rf xs a e] [y:Rf xs b f]:Rf xs (a-b) (.sub e f):=⟨by rw [E.den,x.h,y.h]⟩
instance rfMul {xs:List F} {a b:F} {e f:E} [x:Rf xs a e] [y:Rf xs b f]:Rf xs (a*b) (.mul e f):=⟨by rw [E.den,x.h,y.h]⟩
instance rfNeg {xs:List F} {a:F} {e:E} [x:Rf xs a e]:Rf xs (-a) (.neg e):=⟨by rw [E.den,x.h]⟩
instance rfZero {xs:List F}:Rf xs 0 (.c 0):=⟨rfl⟩
instance rfOne {xs:List F}:Rf xs 1 (.c 1):=⟨YC⟩
theorem ring (xs:List F) {a b:F} {e f:E} [x:Rf xs a e] [y:Rf xs b f] (h:vE (E.pol (.sub e f))=true):a=b:=by
 rw [← x.h,← y.h];exact AUr xs e f h
end
end Go.Proofs.YtgnajdcdcblaoaaGreat.Rg
namespace Go.Proofs.YtgnajdcdcblaoaaGreat.Rg
set_option synthInstance.maxSize 100000
set_option synthInstance.maxHeartbeats 400000
structure Qx {F:Type} [CR F] (β:F) where
 a:F
 b:F
structure Kx {F:Type} [CR F] (ξ:F) where
 a:F
 b:F
 c:F
section
variable {F:Type} [CR F] {β ξ:F}
theorem Qx.ext {x y:Qx β} (h1:x.a=y.a) (h2:x.b=y.b):x=y:=by cases x;cases y;simp_all
theorem Kx.ext {x y:Kx ξ} (h1:x.a=y.a) (h2:x.b=y.b) (h3:x.c=y.c):x=y:=by cases x;cases y;simp_all
instance crQ:CR (Qx β) where
 add x y:=⟨x.a+y.a,x.b+y.b⟩
 mul x y:=⟨x.a*y.a+β*(x.b*y.b),x.a*y.b+x.b*y.a⟩
 neg x:=⟨-x.a,-x.b⟩
 sub x y:=⟨x.a-y.a,x.b-y.b⟩
 zero:=⟨0,0⟩
 one:=⟨1,0⟩
 add_assoc x y z:=Qx.ext (add_assoc _ _ _) (add_assoc _ _ _)
 add_comm x y:=Qx.ext (add_comm _ _) (add_comm _ _)
 zero_add x:=Qx.ext (zero_add _) (zero_add _)
 neg_add x:=Qx.ext (neg_add _) (neg_add _)
 mul_assoc x y z:=Qx.ext (ring [x.a,x.b,y.a,y.b,z.a,z.b,β] (a:=(x.a*y.a+β*(x.b*y.b))*z.a+β*((x.a*y.b+x.b*y.a)*z.b)) (b:=x.a*(y.a*z.a+β*(y.b*z.b))+β*(x.b*(y.a*z.b+y.b*z.a))) dm)
  (ring [x.a,x.b,y.a,y.b,z.a,z.b,β] (a:=(x.a*y.a+β*(x.b*y.b))*z.b+(x.a*y.b+x.b*y.a)*z.a) (b:=x.a*(y.a*z.b+y.b*z.a)+x.b*(y.a*z.a+β*(y.b*z.b))) dm)
 mul_comm x y:=Qx.ext (ring [x.a,x.b,y.a,y.b,β] (a:=x.a*y.a+β*(x.b*y.b)) (b:=y.a*x.a+β*(y.b*x.b)) dm) (ring [x.a,x.b,y.a,y.b] (a:=x.a*y.b+x.b*y.a) (b:=y.a*x.b+y.b*x.a) dm)
 one_mul x:=Qx.ext (ring [x.a,x.b,β] (a:=1*x.a+β*(0*x.b)) dm) (ring [x.a,x.b] (a:=1*x.b+0*x.a) dm)
 add_mul x y z:=Qx.ext (ring [x.a,x.b,y.a,y.b,z.a,z.b,β] (a:=(x.a+y.a)*z.a+β*((x.b+y.b)*z.b)) (b:=x.a*z.a+β*(x.b*z.b)+(y.a*z.a+β*(y.b*z.b))) dm)
  (ring [x.a,x.b,y.a,y.b,z.a,z.b] (a:=(x.a+y.a)*z.b+(x.b+y.b)*z.a) (b:=x.a*z.b+x.b*z.a+(y.a*z.b+y.b*z.a)) dm)
 sub_eq x y:=Qx.ext (sub_eq _ _) (sub_eq _ _)
instance crK:CR (Kx ξ) where
 add x y:=⟨x.a+y.a,x.b+y.b,x.c+y.c⟩
 mul x y:=⟨x.a*y.a+ξ*(x.b*y.c+x.c*y.b),x.a*y.b+x.b*y.a+ξ*(x.c*y.c),x.a*y.c+x.b*y.b+x.c*y.a⟩
 neg x:=⟨-x.a,-x.b,-x.c⟩
 sub x y:=⟨x.a-y.a,x.b-y.b,x.c-y.c⟩
 zero:=⟨0,0,0⟩
 one:=⟨1,0,0⟩
 add_assoc x y z:=Kx.ext (add_assoc _ _ _) (add_assoc _ _ _) (add_assoc _ _ _)
 add_comm x y:=Kx.ext (add_comm _ _) (add_comm _ _) (add_comm _ _)
 zero_add x:=Kx.ext (zero_add _) (zero_add _) (zero_add _)
 neg_add x:=Kx.ext (neg_add _) (neg_add _) (neg_add _)
 mul_assoc x y z:=Kx.ext
  (ring [x.a,x.b,x.c,y.a,y.b,y.c,z.a,z.b,z.c,ξ] (a:=(x.a*y.a+ξ*(x.b*y.c+x.c*y.b))*z.a+ξ*((x.a*y.b+x.b*y.a+ξ*(x.c*y.c))*z.c+(x.a*y.c+x.b*y.b+x.c*y.a)*z.b))
   (b:=x.a*(y.a*z.a+ξ*(y.b*z.c+y.c*z.b))+ξ*(x.b*(y.a*z.c+y.b*z.b+y.c*z.a)+x.c*(y.a*z.b+y.b*z.a+ξ*(y.c*z.c)))) dm)
  (ring [x.a,x.b,x.c,y.a,y.b,y.c,z.a,z.b,z.c,ξ] (a:=(x.a*y.a+ξ*(x.b*y.c+x.c*y.b))*z.b+(x.a*y.b+x.b*y.a+ξ*(x.c*y.c))*z.a+ξ*((x.a*y.c+x.b*y.b+x.c*y.a)*z.c))
   (b:=x.a*(y.a*z.b+y.b*z.a+ξ*(y.c*z.c))+x.b*(y.a*z.a+ξ*(y.b*z.c+y.c*z.b))+ξ*(x.c*(y.a*z.c+y.b*z.b+y.c*z.a))) dm)
  (ring [x.a,x.b,x.c,y.a,y.b,y.c,z.a,z.b,z.c,ξ] (a:=(x.a*y.a+ξ*(x.b*y.c+x.c*y.b))*z.c+(x.a*y.b+x.b*y.a+ξ*(x.c*y.c))*z.b+(x.a*y.c+x.b*y.b+x.c*y.a)*z.a)
   (b:=x.a*(y.a*z.c+y.b*z.b+y.c*z.a)+x.b*(y.a*z.b+y.b*z.a+ξ*(y.c*z.c))+x.c*(y.a*z.a+ξ*(y.b*z.c+y.c*z.b))) dm)
 mul_comm x y:=Kx.ext (ring [x.a,x.b,x.c,y.a,y.b,y.c,ξ] (a:=x.a*y.a+ξ*(x.b*y.c+x.c*y.b)) (b:=y.a*x.a+ξ*(y.b*x.c+y.c*x.b)) dm)
  (ring [x.a,x.b,x.c,y.a,y.b,y.c,ξ] (a:=x.a*y.b+x.b*y.a+ξ*(x.c*y.c)) (b:=y.a*x.b+y.b*x.a+ξ*(y.c*x.c)) dm)
  (ring [x.a,x.b,x.c,y.a,y.b,y.c] (a:=x.a*y.c+x.b*y.b+x.c*y.a) (b:=y.a*x.c+y.b*x.b+y.c*x.a) dm)
 one_mul x:=Kx.ext (ring [x.a,x.b,x.c,ξ] (a:=1*x.a+ξ*(0*x.c+0*x.b)) dm) (ring [x.a,x.b,x.c,ξ] (a:=1*x.b+0*x.a+ξ*(0*x.c)) dm) (ring [x.a,x.b,x.c] (a:=1*x.c+0*x.b+0*x.a) dm)
 add_mul x y z:=Kx.ext (ring [x.a,x.b,x.c,y.a,y.b,y.c,z.a,z.b,z.c,ξ] (a:=(x.a+y.a)*z.a+ξ*((x.b+y.b)*z.c+(x.c+y.c)*z.b)) (b:=x.a*z.a+ξ*(x.b*z.c+x.c*z.b)+(y.a*z.a+ξ*(y.b*z.c+y.c*z.b))) dm)
  (ring [x.a,x.b,x.c,y.a,y.b,y.c,z.a,z.b,z.c,ξ] (a:=(x.a+y.a)*z.b+(x.b+y.b)*z.a+ξ*((x.c+y.c)*z.c)) (b:=x.a*z.b+x.b*z.a+ξ*(x.c*z.c)+(y.a*z.b+y.b*z.a+ξ*(y.c*z.c))) dm)
  (ring [x.a,x.b,x.c,y.a,y.b,y.c,z.a,z.b,z.c] (a:=(x.a+y.a)*z.c+(x.b+y.b)*z.b+(x.c+y.c)*z.a) (b:=x.a*z.c+x.b*z.b+x.c*z.a+(y.a*z.c+y.b*z.b+y.c*z.a)) dm)
 sub_eq x y:=Kx.ext (sub_eq _ _) (sub_eq _ _) (sub_eq _ _)
def Qx.conj (x:Qx β):Qx β:=⟨x.a,-x.b⟩
def Qx.nrm (x:Qx β):F:=x.a*x.a-β*(x.b*x.b)
theorem Qx.conj_mul (x y:Qx β):(x*y).conj=x.conj*y.conj :=
 Qx.ext (ring [x.a,x.b,y.a,y.b,β] (a:=x.a*y.a+β*(x.b*y.b)) (b:=x.a*y.a+β*(-x.b*-y.b)) dm) (ring [x.a,x.b,y.a,y.b] (a:=-(x.a*y.b+x.b*y.a)) (b:=x.a*-y.b+-x.b*y.a) dm)
theorem Qx.mul_conj (x:Qx β):x*x.conj=⟨x.nrm,0⟩ :=
 Qx.ext (ring [x.a,x.b,β] (a:=x.a*x.a+β*(x.b*-x.b)) (b:=x.a*x.a-β*(x.b*x.b)) dm) (ring [x.a,x.b] (a:=x.a*-x.b+x.b*x.a) (b:=0) dm)
theorem Qx.nrm_mul (x y:Qx β):(x*y).nrm=x.nrm*y.nrm :=
 ring [x.a,x.b,y.a,y.b,β] (a:=(x.a*y.a+β*(x.b*y.b))*(x.a*y.a+β*(x.b*y.b))-β*((x.a*y.b+x.b*y.a)*(x.a*y.b+x.b*y.a))) (b:=(x.a*x.a-β*(x.b*x.b))*(y.a*y.a-β*(y.b*y.b))) dm
def Kx.adj (x:Kx ξ):Kx ξ:=⟨x.a*x.a-ξ*(x.b*x.c),ξ*(x.c*x.c)-x.a*x.b,x.b*x.b-x.a*x.c⟩
def Kx.nrm (x:Kx ξ):F:=x.a*x.adj.a+ξ*(x.c*x.adj.b+x.b*x.adj.c)
theorem Kx.mul_adj (x:Kx ξ):x*x.adj=⟨x.nrm,0,0⟩ :=
 Kx.ext (ring [x.a,x.b,x.c,ξ] (a:=x.a*(x.a*x.a-ξ*(x.b*x.c))+ξ*(x.b*(x.b*x.b-x.a*x.c)+x.c*(ξ*(x.c*x.c)-x.a*x.b))) (b:=x.a*(x.a*x.a-ξ*(x.b*x.c))+ξ*(x.c*(ξ*(x.c*x.c)-x.a*x.b)+x.b*(x.b*x.b-x.a*x.c))) dm)
  (ring [x.a,x.b,x.c,ξ] (a:=x.a*(ξ*(x.c*x.c)-x.a*x.b)+x.b*(x.a*x.a-ξ*(x.b*x.c))+ξ*(x.c*(x.b*x.b-x.a*x.c))) (b:=0) dm)
  (ring [x.a,x.b,x.c,ξ] (a:=x.a*(x.b*x.b-x.a*x.c)+x.b*(ξ*(x.c*x.c)-x.a*x.b)+x.c*(x.a*x.a-ξ*(x.b*x.c))) (b:=0) dm)
theorem Kx.nrm_mul (x y:Kx ξ):(x*y).nrm=x.nrm*y.nrm :=
 ring [x.a,x.b,x.c,y.a,y.b,y.c,ξ] (a:=(x.a*y.a+ξ*(x.b*y.c+x.c*y.b))*((x.a*y.a+ξ*(x.b*y.c+x.c*y.b))*(x.a*y.a+ξ*(x.b*y.c+x.c*y.b))-ξ*((x.a*y.b+x.b*y.a+ξ*(x.c*y.c))*(x.a*y.c+x.b*y.b+x.c*y.a))) +
  ξ*((x.a*y.c+x.b*y.b+x.c*y.a)*(ξ*((x.a*y.c+x.b*y.b+x.c*y.a)*(x.a*y.c+x.b*y.b+x.c*y.a))-(x.a*y.a+ξ*(x.b*y.c+x.c*y.b))*(x.a*y.b+x.b*y.a+ξ*(x.c*y.c))) +
   (x.a*y.b+x.b*y.a+ξ*(x.c*y.c))*((x.a*y.b+x.b*y.a+ξ*(x.c*y.c))*(x.a*y.b+x.b*y.a+ξ*(x.c*y.c))-(x.a*y.a+ξ*(x.b*y.c+x.c*y.b))*(x.a*y.c+x.b*y.b+x.c*y.a))))
  (b:=(x.a*(x.a*x.a-ξ*(x.b*x.c))+ξ*(x.c*(ξ*(x.c*x.c)-x.a*x.b)+x.b*(x.b*x.b-x.a*x.c)))*(y.a*(y.a*y.a-ξ*(y.b*y.c))+ξ*(y.c*(ξ*(y.c*y.c)-y.a*y.b)+y.b*(y.b*y.b-y.a*y.c)))) dm
end
section
variable {F:Type} [FD F] {β ξ:F}
open FD (inv)
instance decQ:DecidableEq (Qx β):=fun x y=>if h:x.a=y.a∧x.b=y.b then isTrue (Qx.ext h.1 h.2) else isFalse fun e=>h (by rw [e];exact ⟨rfl,rfl⟩)
instance decK:DecidableEq (Kx ξ):=fun x y=>if h:x.a=y.a∧x.b=y.b∧x.c=y.c then isTrue (Kx.ext h.1 h.2.1 h.2.2) else isFalse fun e=>h (by rw [e];exact ⟨rfl,rfl,rfl⟩)
theorem U4 {a b:F} (h:a*b=0):a=0∨b=0:=by
 by_cases e:a=0
 ·exact .inl e
 ·exact .inr (Pr e h)
theorem Qx.nrm_ne (hβ:∀ x:F,x*x≠β) {x:Qx β} (h:x.nrm=0):x=⟨0,0⟩:=by
 by_cases hb:x.b=0
 ·have:x.a*x.a=0:=by
   have h':=h;unfold Qx.nrm at h';rw [hb,mul_zero,mul_zero,Aa] at h';exact h'
  rcases U4 this with e | e<;>exact Qx.ext e hb
 ·exfalso
  refine hβ (x.a*inv x.b) ?_
  have h':=Aa.1 h;have hi:=FD.mul_inv x.b hb
  calc x.a*inv x.b*(x.a*inv x.b)=(x.a*x.a)*(inv x.b*inv x.b):=ring [x.a,inv x.b] dm
   _=β*((x.b*inv x.b)*(x.b*inv x.b)):=by rw [h'];exact ring [x.b,inv x.b,β] dm
   _=β:=by rw [hi,mul_one,mul_one]
def U5 (x:Qx β):Qx β:=⟨x.a*inv x.nrm,-x.b*inv x.nrm⟩
@[reducible] def fdQ (hβ:∀ x:F,x*x≠β):FD (Qx β) where
 inv:=U5
 mul_inv x h:=by
  have hi:=FD.mul_inv x.nrm fun e=>h (Qx.nrm_ne hβ e)
  exact Qx.ext (Eq.trans (ring [x.a,x.b,inv x.nrm,β] (a:=x.a*(x.a*inv x.nrm)+β*(x.b*(-x.b*inv x.nrm))) (b:=(x.a*x.a-β*(x.b*x.b))*inv x.nrm) dm) hi)
   (ring [x.a,x.b,inv x.nrm] (a:=x.a*(-x.b*inv x.nrm)+x.b*(x.a*inv x.nrm)) (b:=0) dm)
 inv_zero:=Qx.ext (zero_mul _) (by show -(0:F)*_=0;rw [HN,zero_mul])
 one_ne h:=FD.one_ne (F:=F) (jw Qx.a h)
 dec:=decQ
theorem AGY {a b c:F} (hξ:∀ x:F,x*x*x≠ξ) (hc:c≠0) (h1:ξ*(c*c)=a*b) (h2:c*a=b*b):False:=by
 refine hξ (b*inv c) ?_
 have hi:=FD.mul_inv c hc
 calc b*inv c*(b*inv c)*(b*inv c)=(b*b)*b*(inv c*inv c*inv c):=ring [b,inv c] dm
  _=(a*b)*(c*inv c)*(inv c*inv c):=by rw [← h2];exact ring [a,b,c,inv c] dm
  _=ξ*((c*inv c)*(c*inv c)*(c*inv c)):=by rw [← h1];exact ring [c,inv c,ξ] dm
  _=ξ:=by rw [hi,mul_one,mul_one,mul_one]
theorem Kx.smul_zero {d:F} (hd:d≠0) {y:Kx ξ} (h:(⟨d,0,0⟩:Kx ξ)*y=⟨0,0,0⟩):y=⟨0,0,0⟩:=by
 have h1:d*y.a+ξ*(0*y.c+0*y.b)=0:=jw Kx.a h
 have h2:d*y.b+0*y.a+ξ*(0*y.c)=0:=jw Kx.b h
 have h3:d*y.c+0*y.b+0*y.a=0:=jw Kx.c h
 simp only [zero_mul,add_zero,mul_zero] at h1 h2 h3;exact Kx.ext (Pr hd h1) (Pr hd h2) (Pr hd h3)
theorem Kx.lin_zero (hξ:∀ x:F,x*x*x≠ξ) {d e:F} {y:Kx ξ} (h:(⟨d,e,0⟩:Kx ξ)*y=⟨0,0,0⟩) (hde:¬ (d=0∧e=0)):y=⟨0,0,0⟩:=by
 by_cases he:e=0
 ·subst he;exact Kx.smul_zero (fun q=>hde ⟨q,rfl⟩) h
 ·refine Kx.smul_zero (d:=d*d*d+ξ*(e*e*e)) (fun q=>?_) ?_
  ·refine hξ (-d*inv e) ?_
   have hi:=FD.mul_inv e he;have q':d*d*d=-(ξ*(e*e*e)):=J7 (by rw [add_comm];exact q)
   calc -d*inv e*(-d*inv e)*(-d*inv e)=-(d*d*d)*(inv e*inv e*inv e):=ring [d,inv e] dm
    _=ξ*((e*inv e)*(e*inv e)*(e*inv e)):=by rw [q'];exact ring [e,inv e,ξ] dm
    _=ξ:=by rw [hi,mul_one,mul_one,mul_one]
  ·have e1:(⟨d*d*d+ξ*(e*e*e),0,0⟩:Kx ξ)=⟨d*d,-(d*e),e*e⟩*⟨d,e,0⟩ :=
    Kx.ext (ring [d,e,ξ] (b:=d*d*d+ξ*(-(d*e)*0+e*e*e)) dm) (ring [d,e,ξ] (a:=0) (b:=d*d*e+-(d*e)*d+ξ*(e*e*0)) dm) (ring [d,e,ξ] (a:=0) (b:=d*d*0+-(d*e)*e+e*e*d) dm)
   rw [e1,mul_assoc,h];exact mul_zero (F:=Kx ξ) _
theorem Kx.mul_zero_of (hξ:∀ x:F,x*x*x≠ξ) {x y:Kx ξ} (h:x*y=⟨0,0,0⟩) (hx:x≠⟨0,0,0⟩):y=⟨0,0,0⟩:=by
 by_cases hc:x.c=0
 ·refine Kx.lin_zero hξ (d:=x.a) (e:=x.b) ?_ fun q=>hx (Kx.ext q.1 q.2 hc)
  have e:(⟨x.a,x.b,0⟩:Kx ξ)=x:=Kx.ext rfl rfl hc.symm
  rw [e];exact h
 ·have e1:(⟨ξ*(x.c*x.c)-x.a*x.b,x.c*x.a-x.b*x.b,0⟩:Kx ξ)=⟨-x.b,x.c,0⟩*x :=
   Kx.ext (ring [x.a,x.b,x.c,ξ] (a:=ξ*(x.c*x.c)-x.a*x.b) (b:=-x.b*x.a+ξ*(x.c*x.c+0*x.b)) dm) (ring [x.a,x.b,x.c,ξ] (a:=x.c*x.a-x.b*x.b) (b:=-x.b*x.b+x.c*x.a+ξ*(0*x.c)) dm)
    (ring [x.a,x.b,x.c] (a:=0) (b:=-x.b*x.c+x.c*x.b+0*x.a) dm)
  refine Kx.lin_zero hξ (d:=ξ*(x.c*x.c)-x.a*x.b) (e:=x.c*x.a-x.b*x.b) ?_ fun q=>AGY hξ hc (Aa.1 q.1) (Aa.1 q.2)
  rw [e1,mul_assoc,h];exact mul_zero (F:=Kx ξ) _
theorem Kx.nrm_ne (hξ:∀ x:F,x*x*x≠ξ) {x:Kx ξ} (h:x.nrm=0):x=⟨0,0,0⟩:=by
 by_cases hx:x=⟨0,0,0⟩
 ·exact hx
 ·exfalso
  have hm:=x.mul_adj;rw [h] at hm;have ha:=Kx.mul_zero_of hξ hm hx;have h2:ξ*(x.c*x.c)-x.a*x.b=0:=jw Kx.b ha
  have h3:x.b*x.b-x.a*x.c=0:=jw Kx.c ha
  have h1:x.a*x.a-ξ*(x.b*x.c)=0:=jw Kx.a ha
  by_cases hc:x.c=0
  ·rw [hc,mul_zero,mul_zero,Aa] at h1;rw [hc,mul_zero,Aa] at h3;exact hx (Kx.ext ((U4 h1).elim id id) ((U4 h3).elim id id) hc)
  ·exact AGY hξ hc (Aa.1 h2) (by rw [mul_comm];exact (Aa.1 h3).symm)
def vJ (x:Kx ξ):Kx ξ:=⟨x.adj.a*inv x.nrm,x.adj.b*inv x.nrm,x.adj.c*inv x.nrm⟩
theorem AGZ (x:Kx ξ):vJ x=x.adj*⟨inv x.nrm,0,0⟩ :=
 Kx.ext (ring [x.adj.a,x.adj.b,x.adj.c,inv x.nrm,ξ] (a:=x.adj.a*inv x.nrm) (b:=x.adj.a*inv x.nrm+ξ*(x.adj.b*0+x.adj.c*0)) dm) (ring [x.adj.a,x.adj.b,x.adj.c,inv x.nrm,ξ] (a:=x.adj.b*inv x.nrm) (b:=x.adj.a*0+x.adj.b*inv x.nrm+ξ*(x.adj.c*0)) dm)
  (ring [x.adj.a,x.adj.b,x.adj.c,inv x.nrm] (a:=x.adj.c*inv x.nrm) (b:=x.adj.a*0+x.adj.b*0+x.adj.c*inv x.nrm) dm)
@[reducible] def fdK (hξ:∀ x:F,x*x*x≠ξ):FD (Kx ξ) where
 inv:=vJ
 mul_inv x h:=by
  have hi:=FD.mul_inv x.nrm fun e=>h (Kx.nrm_ne hξ e)
  rw [AGZ,← mul_assoc,x.mul_adj];exact Kx.ext (Eq.trans (ring [x.nrm,inv x.nrm,ξ] (a:=x.nrm*inv x.nrm+ξ*(0*0+0*0)) (b:=x.nrm*inv x.nrm) dm) hi) (ring [x.nrm,inv x.nrm,ξ] (a:=x.nrm*0+0*inv x.nrm+ξ*(0*0)) (b:=0) dm) (ring [x.nrm,inv x.nrm] (a:=x.nrm*0+0*0+0*inv x.nrm) (b:=0) dm)
 inv_zero:=by
  have h0:(0:Kx ξ).adj=0:=Kx.ext (ring [ξ] (a:=0*0-ξ*(0*0)) (b:=(0:F)) dm) (ring [ξ] (a:=ξ*(0*0)-0*0) (b:=(0:F)) dm) (ring [ξ] (a:=0*0-0*0) (b:=(0:F)) dm)
  rw [AGZ,h0,zero_mul]
 one_ne h:=FD.one_ne (F:=F) (jw Kx.a h)
 dec:=decK
end
end Go.Proofs.YtgnajdcdcblaoaaGreat.Rg
namespace Go.Proofs.YtgnajdcdcblaoaaGreat
open Ex Num
abbrev FP:Type:=Fin pN
theorem Bn (a:FP):tf a.val=a:=by
 rw [pj];show a.val % pN=a.val;exact jv a.isLt
theorem HO {x:Nat} (h:x<pN):(tf x).val=x:=jv h
theorem Pv {x:Nat} {a:FP} (hx:x<pN) (h:tf x=a):x=a.val:=by rw [← h,HO hx]
noncomputable def N9 (a:FP):FP:=tf (Bl a.val)
theorem AVc {a:FP} (h:a≠0):a*N9 a=1:=by
 have hz:a.val % pN≠0:=fun e=>h (by
  have:=dC.2 e
  rwa [Bn] at this)
 have:=AE_ hz
 rwa [Bn] at this
theorem AVd:N9 0=0:=by
 unfold N9;have:Bl (0:FP).val=0:=AE9 rfl
 rw [this];exact tf_zero
theorem AVe:(1:FP)≠0:=fun h=>by
 have:=N2 (show 1<pN by decide) C6 (by rw [D6,tf_zero];exact h)
 cases this
noncomputable instance fdFP:Rg.FD FP where
 add_assoc a b c:=by grind
 add_comm a b:=by grind
 zero_add a:=by grind
 neg_add a:=by grind
 mul_assoc a b c:=by grind
 mul_comm a b:=by grind
 one_mul a:=by grind
 add_mul a b c:=by grind
 sub_eq a b:=by grind
 inv:=N9
 mul_inv a h:=AVc h
 inv_zero:=AVd
 one_ne:=AVe
 dec:=inferInstance
theorem AVf:(Rg.int 2:FP)=1+1:=by
 show (0:FP)+1+1=1+1
 grind
def vK (m:Nat):Bool:=Nat.beq (Pf pN (pN-m) 384 ((pN-1) / 3)) 1
theorem AVg:vK 4=false:=dm
theorem p3:(pN-1) / 3*3=pN-1:=dm
theorem vL:Nat.blt ((pN-1) / 3) RR=true:=dm
theorem AVh {m:Nat} (hm:m<pN) (h0:0<m) (hc:vK m=false) (x:Nat):(x^3+m) % pN≠0:=by
 intro h;have hx:x^3 % pN=pN-m:=by
  have h1:=Hr (x^3)
  rw [pc,jv hm] at h;have h2:x^3 % pN+m=pN:=by
   have hd:=sd h;obtain ⟨k,hk⟩:=hd;have:k=1:=by
    rcases kf k 1 with q | q
    ·rw [show k=0 by omega,me] at hk;omega
    ·rcases kf k 2 with q2 | q2
     ·omega
     ·have:=nr pN q2
      omega
   rw [this,kt] at hk;exact hk
  omega
 have hnd:¬ pN∣x:=fun hd=>by
  obtain ⟨k,hk⟩:=hd;have:x^3 % pN=0:=by rw [hk,Nat.mul_pow,lj,ko (pN^2),lm,Nat.mul_mod_right]
  omega
 have hf:=Ri pN_prime hnd;rw [← p3,ko,qi,ow,hx,← sM pN 384 (pN-m) ((pN-1) / 3) (by rw [AET];exact BX.1 vL)] at hf
 unfold vK at hc;rw [hf] at hc;cases hc
noncomputable def Dy:FP:=tf 4
noncomputable def C1:Rg.Cv FP where
 b:=Dy
 two:=by
  rw [AVf];have h2:tf 2=1+1:=by rw [← D6,← Gx]
  rw [← h2];intro h;have:=N2 (show 2<pN by decide) C6 (by rw [h,tf_zero])
  cases this
 no2:=fun x y h hy=>by
  subst hy;have h1:x*x*x+Dy=0:=by
   rw [← h]
   grind
  have h2:tf (x.val^3+4)=0:=by
   rw [Gx,lj,lj,Nat.pow_one,Pl,Pl,Bn];exact h1
  exact AVh dp dp AVg x.val (dC.1 h2)
open Ex Num Rg
def Ax (x y:Nat) (i:Bool):AV:=.val true [.num 6 x,.num 6 y,.v (.bool i)]
def Px (cs:List Ch):Option (Nat×Nat×Bool):=match F' cs 6 with
 | some (a,r)=>match F' r 6 with
  | some (b,[c])=>match DE 6 a,DE 6 b,FY (some (.val false [c])) with
   | some x,some y,some (_,i)=>some (x,y,i)
   | _,_,_=>none
  | _=>none
 | none=>none
theorem G1 {β β':Env} {cs:List Ch} {x y:Nat} {i:Bool} {u:gq} (h:Px cs=some (x,y,i)) (hr:AO β (.val true cs) u):AO β' (Ax x y i) u∧x<RR∧y<RR:=by
 unfold Px at h;split at h;case h_2=>cases h
 rename_i a r h1;split at h;case h_2=>cases h
 rename_i b c h2;split at h;case h_2=>cases h
 rename_i x' y' c0 i' h3 h4 h5;injection h with h;injection h with e1 h;injection h with e2 e3;subst e1;subst e2;subst e3;obtain ⟨l,hl,rfl⟩:=hr;obtain ⟨q1,q2,q3⟩:=I2 h1 hl;obtain ⟨r1,r2,r3⟩:=I2 h2 q2;obtain ⟨ea,la⟩:=Hm h3 q1;obtain ⟨eb,lb⟩:=Hm h4 r1;obtain ⟨l1,l2,hc1,hc2,hc3⟩:=r2;simp only [AP] at hc2;subst hc2;have ii:=Q1 hc1;have hsz:E9 c=1:=by
  unfold FY at h5;split at h5
  ·rename_i _ _ hq;injection hq with hq;injection hq with _ hq;injection hq with hq _;rw [hq];rfl
  ·rename_i _ _ hq;injection hq with hq;injection hq with _ hq;injection hq with hq _;rw [hq];rfl
  ·cases h5
 rw [hsz] at ii;obtain ⟨w,rfl⟩:=tm.1 ii;have hw:w=.bool i':=K5 (β:=β) (u:=w) (fun A hA=>by injection hA with hA;subst hA;exact ⟨[w],[],hc1,rfl,rfl⟩) h5
 subst hw;rw [DM];refine ⟨⟨l,⟨_,_,⟨la,rfl⟩,⟨_,_,⟨lb,rfl⟩,⟨[.bool i'],[],⟨rfl,rfl,trivial⟩,rfl,rfl⟩,rfl⟩,?_⟩,rfl⟩,la,lb⟩
 rw [← ea,← eb,← hc3,nq,nq]
def AL (x y:Nat) (i:Bool):Pt FP:=match i with
 | true=>.inf
 | false=>.pt (tf x) (tf y)
def A8:Pt FP→Nat
 | .inf=>0
 | .pt a _=>a.val
def Av:Pt FP→Nat
 | .inf=>0
 | .pt _ b=>b.val
def Ao:Pt FP→Bool
 | .inf=>true
 | .pt _ _=>false
def DW (P:Pt FP):AV:=Ax (A8 P) (Av P) (Ao P)
theorem Py (P:Pt FP):A8 P<pN:=by cases P with | inf=>exact C6 | pt a b=>exact a.isLt
theorem eU (P:Pt FP):Av P<pN:=by cases P with | inf=>exact C6 | pt a b=>exact b.isLt
theorem U6 (P:Pt FP):AL (A8 P) (Av P) (Ao P)=P:=by
 cases P with
 | inf=>rfl
 | pt a b=>show Pt.pt (tf a.val) (tf b.val)=_;rw [Bn,Bn]
theorem AVi (x y:Nat):DW (.pt (tf x) (tf y))=Ax (x % pN) (y % pN) false:=rfl
theorem YJ {x y:Nat} {a b:FP} (hx:x<pN) (hy:y<pN) (ha:tf x=a) (hb:tf y=b):Ax x y false=DW (.pt a b):=by
 rw [← ha,← hb,AVi,jv hx,jv hy]
theorem H6 {P:gr} {f:gp} {args:List AV} {cs:List Ch} {x y:Nat} {i:Bool} (h:AT P f args (.val true cs)) (hc:Px cs=some (x,y,i)):AT P f args (Ax x y i):=CG h fun _ hu=>(G1 hc hu).1
def N_ (g:Pt FP→AV):List AV→Option AV
 | [.val true a]=>match Px a with
  | some (x,y,i)=>some (g (AL x y i))
  | none=>none
 | _=>none
theorem R0 {f:gp} {g:Pt FP→AV} (h:∀ x y i,AT dr f [Ax x y i] (g (AL x y i))):∀ args v,N_ g args=some v→AT dr f args v:=by
 intro args v hs us w ha;unfold N_ at hs;split at hs;case h_2=>cases hs
 rename_i a;split at hs;case h_2=>cases hs
 rename_i x y i hx;injection hs with hs;subst hs;obtain ⟨u1,jf,r1,ha,rfl⟩:=ha;exact h x y i _ w ⟨u1,_,(G1 hx r1).1,ha,rfl⟩
def YK (g:Pt FP→Pt FP→AV):List AV→Option AV
 | [.val true a,.val true b]=>match Px a,Px b with
  | some (x,y,i),some (x',y',i')=>some (g (AL x y i) (AL x' y' i'))
  | _,_=>none
 | _=>none
theorem vN {f:gp} {g:Pt FP→Pt FP→AV} (h:∀ x y i x' y' i',AT dr f [Ax x y i,Ax x' y' i'] (g (AL x y i) (AL x' y' i'))):∀ args v,YK g args=some v→AT dr f args v:=by
 intro args v hs us w ha;unfold YK at hs;split at hs;case h_2=>cases hs
 rename_i a b;split at hs;case h_2=>cases hs
 rename_i x y i x' y' i' hx hy;injection hs with hs;subst hs;obtain ⟨u1,jf,r1,⟨u2,jg,r2,ha,rfl⟩,rfl⟩:=ha;exact h x y i x' y' i' _ w ⟨u1,_,(G1 hx r1).1,⟨u2,_,(G1 hy r2).1,ha,rfl⟩,rfl⟩
theorem AVj:AJ dr (AG S0 K0) f139 [] [] 100=some ([],.val true [.n .u64 4,.n .u64 0,.n .u64 0,.n .u64 0,.n .u64 0,.n .u64 0]):=dm
theorem AVk:AT dr 139 [] (Ad 4):=CG (AN (AH IV Ac) AB func139 AVj trivial rfl) fun u hu=>Xc dm hu
def gX:Nat:=0x17f1d3a73197d7942695638c4fa9ac0fc3688c4f9774b905a14e3a3f171bac586c55e83ff97a1aeffb3af00adb22c6bb
def gY:Nat:=0x08b3f481e3aaa0f1a09e30ed741d8ae4fcf5e095d5d00af600db18cb2c04b3edd03cc744a2888ae40caa232946c5e7e1
def gC:List Ch:=[.n .u64 0xfb3af00adb22c6bb,.n .u64 0x6c55e83ff97a1aef,.n .u64 0xa14e3a3f171bac58,.n .u64 0xc3688c4f9774b905,.n .u64 0x2695638c4fa9ac0f,.n .u64 0x17f1d3a73197d794,
 .n .u64 0xcaa232946c5e7e1,.n .u64 0xd03cc744a2888ae4,.n .u64 0xdb18cb2c04b3ed,.n .u64 0xfcf5e095d5d00af6,.n .u64 0xa09e30ed741d8ae4,.n .u64 0x8b3f481e3aaa0f1,.b false]
theorem AVl:AJ dr (AG S0 K0) f24 [] [] 100=some ([],.val true gC):=dm
def G1B:Pt FP:=.pt (tf gX) (tf gY)
theorem AVm:Nat.blt gX pN=true:=dm
theorem AVn:Nat.blt gY pN=true:=dm
theorem AGa:Ax gX gY false=DW G1B:=YJ (BX.1 AVm) (BX.1 AVn) rfl rfl
theorem AVo:AT dr 24 [] (DW G1B):=by
 rw [← AGa];exact H6 (AN (AH IV Ac) AB func24 AVl trivial rfl) dm
def FR (i:Bool):List Ch:=[.n .u64 0,.n .u64 0,.n .u64 0,.n .u64 0,.n .u64 0,.n .u64 0,.n .u64 0,.n .u64 0,.n .u64 0,.n .u64 0,.n .u64 0,.n .u64 0,.b i]
theorem AVp (x y:Nat) (i:Bool):AJ dr (AG SE K0) f49 [Ax x y i] dz 300=some ([(i,true)],.val true (FR true)):=dm
theorem AVq (x y:Nat) (i:Bool):AJ dr (AG SE K0) f49 [Ax x y i] dx 300=some ([(i,false)],.val true [.num 6 (x % pN),.num 6 (y % pN),.b false]):=dm
theorem AVr (x y:Nat) (i:Bool):AT dr 49 [Ax x y i] (DW (AL x y i)):=by
 cases i with
 | true=>exact H6 (AN (AH u9 Ac) AB func49 (AVp x y true) ⟨rfl,trivial⟩ rfl) dm
 | false=>exact H6 (AN (AH u9 Ac) AB func49 (AVq x y false) ⟨rfl,trivial⟩ rfl) dm
noncomputable def SG0:dw:=(139,Af fun args=>match args with | []=>some (Ad 4) | _=>none)::(24,Af fun args=>match args with | []=>some (DW G1B) | _=>none)::(49,Af (N_ DW))::SE
theorem Ms:AX dr SG0:=⟨Ah func139 dm dm (RX AVk fun u h=>h),Ah func24 dm dm (RX AVo fun u h=>h),Ah func49 dm dm (R0 AVr),u9⟩
abbrev eq:List Bool:=[false,false,false,true]
abbrev ff:List Bool:=[false,false,false,false,false]
abbrev fi:List Bool:=[false,false,false,false,true]
open Ex Num Rg
set_option maxRecDepth 100000
set_option maxHeartbeats 4000000
theorem YL {n:Nat} (h:n<pN):tf (Bl n)=N9 (tf n):=by unfold N9;rw [HO h]
theorem U7 {a b c d:FP}:A8 (.pt a b)=A8 (.pt c d)↔a=c:=by rw [pj];exact Iff.rfl
theorem YM {a b c d:FP}:Av (.pt a b)=Av (.pt c d)↔b=d:=by rw [pj];exact Iff.rfl
theorem Mt {b:FP}:b.val=0↔b=0:=by rw [pj];exact Iff.rfl
theorem AVs (x y:Nat) (i:Bool):AJ dr (AG SG0 K0) f78 [Ax x y i] [] 300=some ([],Ax (A8 (AL x y i)) (C7 (Av (AL x y i))) (Ao (AL x y i))):=dm
theorem AVt (P:Pt FP):Ax (A8 P) (C7 (Av P)) (Ao P)=DW (Rg.neg P):=by
 cases P with
 | inf =>
  have:C7 0=0:=AQp rfl
  show Ax 0 (C7 0) true=Ax 0 0 true;rw [this]
 | pt a b=>exact YJ a.isLt (cJ _) (Bn a) (by rw [dB];show -tf b.val=_;rw [Bn])
theorem AVu (x y:Nat) (i:Bool):AT dr 78 [Ax x y i] (DW (Rg.neg (AL x y i))):=by
 rw [← AVt];exact AN (AH Ms Ac) AB func78 (AVs x y i) trivial rfl
noncomputable def BH:Pt FP→Bool
 | .inf=>true
 | .pt a b=>decide (b*b=a*a*a+Dy)
theorem Ih (P:Pt FP):BH P=true↔Rg.On C1.b P:=by
 cases P with
 | inf=>exact ⟨fun _=>trivial,fun _=>rfl⟩
 | pt a b=>exact decide_eq_true_iff
theorem AVv (x y:Nat) (i:Bool):AJ dr (AG SG0 K0) f64 [Ax x y i] dz 300=some ([(i,true)],.val false [.b true]):=dm
theorem AVw (x y:Nat) (i:Bool):AJ dr (AG SG0 K0) f64 [Ax x y i] dx 300=some ([(i,false)],Aw (decide (Ae y y=DV (Ae (Ae x x) x) 4))):=dm
theorem vO (x y:Nat):decide (Ae y y=DV (Ae (Ae x x) x) 4)=BH (AL x y false):=by
 have e:(Ae y y=DV (Ae (Ae x x) x) 4)↔(tf y*tf y=tf x*tf x*tf x+Dy):=by
  constructor
  ·intro h;have:=jw tf h
   simpa [Bu,Hz,Dy] using this
  ·intro h;exact N2 (LO _ _) (Xr _ _) (by simpa [Bu,Hz,Dy] using h)
 show _=decide (tf y*tf y=tf x*tf x*tf x+Dy);by_cases h:Ae y y=DV (Ae (Ae x x) x) 4
 ·rw [jm h,jm (e.1 h)]
 ·rw [jq h,jq fun q=>h (e.2 q)]
theorem AVx (x y:Nat) (i:Bool):AT dr 64 [Ax x y i] (Aw (BH (AL x y i))):=by
 cases i with
 | true=>exact CG (AN (AH Ms Ac) AB func64 (AVv x y true) ⟨rfl,trivial⟩ rfl) fun u hu=>Gw rfl hu
 | false=>rw [← vO];exact AN (AH Ms Ac) AB func64 (AVw x y false) ⟨rfl,trivial⟩ rfl
noncomputable def YN (px py qx qy:Nat):Nat:=Ae (DF qy py) (Bl (DF qx px))
noncomputable def YO (px py:Nat):Nat:=Ae (DV (DV (Ae px px) (Ae px px)) (Ae px px)) (Bl (DV py py))
def Ii (l px qx:Nat):Nat:=DF (DF (Ae l l) px) qx
def R1 (l px py x:Nat):Nat:=DF (Ae l (DF px x)) py
section
variable (x y:Nat) (i:Bool) (x' y':Nat) (i':Bool)
theorem AVy:AJ dr (AG SG0 K0) f31 [Ax x y i,Ax x' y' i'] dz 300=some ([(Ao (AL x y i),true)],DW (AL x' y' i')):=dm
theorem AVz:AJ dr (AG SG0 K0) f31 [Ax x y i,Ax x' y' i'] ee 300=some ([(Ao (AL x y i),false),(Ao (AL x' y' i'),true)],DW (AL x y i)):=dm
def eV (P Q:Pt FP) (d:Bool) (r:du):du:=(Ao P,false)::(Ao Q,false)::(!decide (A8 P=A8 Q),d)::r
theorem AV0:AJ dr (AG SG0 K0) f31 [Ax x y i,Ax x' y' i'] fb 300 =
 some (eV (AL x y i) (AL x' y' i') true [],.val true [.num 6 (Ii (YN (A8 (AL x y i)) (Av (AL x y i)) (A8 (AL x' y' i')) (Av (AL x' y' i'))) (A8 (AL x y i)) (A8 (AL x' y' i'))),.num 6 (R1 (YN (A8 (AL x y i)) (Av (AL x y i)) (A8 (AL x' y' i')) (Av (AL x' y' i'))) (A8 (AL x y i)) (Av (AL x y i)) (Ii (YN (A8 (AL x y i)) (Av (AL x y i)) (A8 (AL x' y' i')) (Av (AL x' y' i'))) (A8 (AL x y i)) (A8 (AL x' y' i')))),.b false]):=dm
theorem AV1:AJ dr (AG SG0 K0) f31 [Ax x y i,Ax x' y' i'] eq 300 =
 some (eV (AL x y i) (AL x' y' i') false [(!decide (Av (AL x y i)=Av (AL x' y' i')),true)],.val true (FR true)):=dm
theorem AV2:AJ dr (AG SG0 K0) f31 [Ax x y i,Ax x' y' i'] fi 300 =
 some (eV (AL x y i) (AL x' y' i') false [(!decide (Av (AL x y i)=Av (AL x' y' i')),false),(decide (Av (AL x y i)=0),true)],.val true (FR true)):=dm
theorem AV3:AJ dr (AG SG0 K0) f31 [Ax x y i,Ax x' y' i'] ff 300 =
 some (eV (AL x y i) (AL x' y' i') false [(!decide (Av (AL x y i)=Av (AL x' y' i')),false),(decide (Av (AL x y i)=0),false)],.val true [.num 6 (Ii (YO (A8 (AL x y i)) (Av (AL x y i))) (A8 (AL x y i)) (A8 (AL x' y' i'))),.num 6 (R1 (YO (A8 (AL x y i)) (Av (AL x y i))) (A8 (AL x y i)) (Av (AL x y i)) (Ii (YO (A8 (AL x y i)) (Av (AL x y i))) (A8 (AL x y i)) (A8 (AL x' y' i')))),.b false]):=dm
end
theorem AGb {l:Nat} {L a b c:FP} (hl:tf l=L):Ax (Ii l a.val c.val) (R1 l a.val b.val (Ii l a.val c.val)) false=DW (GM a b c L):=by
 have hX:tf (Ii l a.val c.val)=L*L-a-c:=by unfold Ii;simp only [EW,Bu,Bn,hl]
 refine YJ (FQ _ _) (FQ _ _) hX ?_
 unfold R1;rw [EW,Bu,EW,hX,Bn,Bn,hl]
theorem AGc (a b c d:FP):tf (YN a.val b.val c.val d.val)=(d-b)*FD.inv (c-a):=by
 unfold YN;rw [Bu,EW,YL (FQ _ _),EW,Bn,Bn,Bn,Bn];rfl
theorem AV4 (a b:FP):tf (YO a.val b.val)=(a*a+a*a+a*a)*FD.inv (b+b):=by
 unfold YO;rw [Bu,Hz,Hz,Bu,YL (Xr _ _),Hz,Bn,Bn];rfl
theorem AV5 (x y:Nat) (i:Bool) (x' y':Nat) (i':Bool):AT dr 31 [Ax x y i,Ax x' y' i'] (DW (Rg.add (AL x y i) (AL x' y' i'))):=by
 have r1:=AVy x y i x' y' i';have r2:=AVz x y i x' y' i';have r3:=AV0 x y i x' y' i';have r4:=AV1 x y i x' y' i';have r5:=AV2 x y i x' y' i';have r6:=AV3 x y i x' y' i';generalize AL x y i=P at *
 generalize AL x' y' i'=Q at *
 cases P with
 | inf=>exact AN (AH Ms Ac) AB func31 r1 ⟨rfl,trivial⟩ rfl
 | pt a b=>cases Q with
  | inf=>exact AN (AH Ms Ac) AB func31 r2 ⟨rfl,rfl,trivial⟩ rfl
  | pt c d =>
   rw [JN];by_cases hx:a=c
   ·rw [jo hx];have hx':(!decide (A8 (.pt a b)=A8 (.pt c d)))=false:=by rw [jm (U7.2 hx)];rfl
    by_cases hy:b=d
    ·have hy':(!decide (Av (.pt a b)=Av (.pt c d)))=false:=by rw [jm (YM.2 hy)];rfl
     by_cases h0:b=0
     ·rw [jn (fun h=>h.2 h0)]
      exact H6 (AN (AH Ms Ac) AB func31 r5 ⟨rfl,rfl,hx',hy',jm (Mt.2 h0),trivial⟩ rfl) dm
     ·rw [jo ⟨hy,h0⟩,← AGb (AV4 a b)];exact H6 (AN (AH Ms Ac) AB func31 r6 ⟨rfl,rfl,hx',hy',jq fun h=>h0 (Mt.1 h),trivial⟩ rfl) rfl
    ·rw [jn (fun h=>hy h.1)]
     exact H6 (AN (AH Ms Ac) AB func31 r4 ⟨rfl,rfl,hx',by rw [jq fun h=>hy (YM.1 h)];rfl,trivial⟩ rfl) dm
   ·rw [jn hx,← AGb (AGc a b c d)];exact H6 (AN (AH Ms Ac) AB func31 r3 ⟨rfl,rfl,by rw [jq fun h=>hx (U7.1 h)];rfl,trivial⟩ rfl) rfl
noncomputable def SG1:dw:=(78,Af (N_ fun P=>DW (Rg.neg P)))::(64,Af (N_ fun P=>Aw (BH P)))::(31,Af (YK fun P Q=>DW (Rg.add P Q)))::SG0
theorem AGd:AX dr SG1:=⟨Ah func78 dm dm (R0 AVu),Ah func64 dm dm (R0 AVx),Ah func31 dm dm (vN AV5),Ms⟩
open Ex Num Rg
def D0 (x y z:Nat):AV:=.val true [.num 6 x,.num 6 y,.num 6 z]
def J_ (j:J FP):AV:=D0 j.x.val j.y.val j.z.val
def B7 (x y z:Nat):J FP:=⟨tf x,tf y,tf z⟩
def R2 (cs:List Ch):Option (Nat×Nat×Nat):=match F' cs 6 with
 | some (a,r)=>match F' r 6 with
  | some (b,c)=>match DE 6 a,DE 6 b,DE 6 c with
   | some x,some y,some z=>some (x,y,z)
   | _,_,_=>none
  | _=>none
 | none=>none
theorem U8 {β β':Env} {cs:List Ch} {x y z:Nat} {u:gq} (h:R2 cs=some (x,y,z)) (hr:AO β (.val true cs) u):AO β' (D0 x y z) u:=by
 unfold R2 at h;split at h;case h_2=>cases h
 rename_i a r h1;split at h;case h_2=>cases h
 rename_i b c h2;split at h;case h_2=>cases h
 rename_i x' y' z' h3 h4 h5;injection h with h;injection h with e1 h;injection h with e2 e3;subst e1;subst e2;subst e3;obtain ⟨l,hl,rfl⟩:=hr;obtain ⟨q1,q2,q3⟩:=I2 h1 hl;obtain ⟨r1,r2,r3⟩:=I2 h2 q2;obtain ⟨ea,la⟩:=Hm h3 q1;obtain ⟨eb,lb⟩:=Hm h4 r1;obtain ⟨ec,lc⟩:=Hm h5 r2;refine ⟨l,⟨_,_,⟨la,rfl⟩,⟨_,_,⟨lb,rfl⟩,⟨_,[],⟨lc,rfl⟩,rfl,rfl⟩,rfl⟩,?_⟩,rfl⟩
 rw [← ea,← eb,← ec,lh,nq,nq]
theorem Pz {x y z:Nat} {j:J FP} (hx:x<pN) (hy:y<pN) (hz:z<pN) (ex:tf x=j.x) (ey:tf y=j.y) (ez:tf z=j.z):D0 x y z=J_ j:=by
 unfold J_;rw [← Pv hx ex,← Pv hy ey,← Pv hz ez]
def nE (x:Nat):Nat:=DV (DV (Ae x x) (Ae x x)) (Ae x x)
def nD (x y:Nat):Nat:=DV (DV (Ae x (Ae y y)) (Ae x (Ae y y))) (DV (Ae x (Ae y y)) (Ae x (Ae y y)))
def vP (y:Nat):Nat:=DV (Ae (Ae y y) (Ae y y)) (Ae (Ae y y) (Ae y y))
def vQ (y:Nat):Nat:=DV (vP y) (vP y)
def nC8 (y:Nat):Nat:=DV (vQ y) (vQ y)
def nX (x y:Nat):Nat:=DF (Ae (nE x) (nE x)) (DV (nD x y) (nD x y))
def nY (x y:Nat):Nat:=DF (Ae (nE x) (DF (nD x y) (nX x y))) (nC8 y)
theorem AV6 (x y z:Nat):AJ dr (AG SG1 K0) f94 [D0 x y z] [] 500=some ([],D0 (nX x y) (nY x y) (DV (Ae y z) (Ae y z))):=dm
theorem AGf (x y:Nat):tf (nX x y)=jX (tf x) (tf y):=by
 unfold nX nE nD jX jE jD;simp only [EW,Bu,Hz]
theorem AV7 (x y:Nat):tf (nY x y)=jE (tf x)*(jD (tf x) (tf y)-jX (tf x) (tf y))-U1 (tf y):=by
 unfold nY;rw [EW,Bu,EW,AGf];unfold nE nD nC8 vQ vP jE jD U1 eS jC2;simp only [Bu,Hz]
theorem AV8 (x y z:Nat):AT dr 94 [D0 x y z] (J_ (Bw (B7 x y z))):=by
 rw [← Pz (j:=Bw (B7 x y z)) (FQ _ _) (FQ _ _) (Xr _ _) (AGf x y) (AV7 x y) (by rw [Hz,Bu];rfl)]
 exact AN (AH AGd Ac) AB func94 (AV6 x y z) trivial rfl
def eW (g:J FP→AV):List AV→Option AV
 | [.val true a]=>match R2 a with
  | some (x,y,z)=>some (g (B7 x y z))
  | none=>none
 | _=>none
theorem AGg {f:gp} {g:J FP→AV} (h:∀ x y z,AT dr f [D0 x y z] (g (B7 x y z))):∀ args v,eW g args=some v→AT dr f args v:=by
 intro args v hs us w ha;unfold eW at hs;split at hs;case h_2=>cases hs
 rename_i a;split at hs;case h_2=>cases hs
 rename_i x y z hx;injection hs with hs;subst hs;obtain ⟨u1,jf,r1,ha,rfl⟩:=ha;exact h x y z _ w ⟨u1,_,U8 hx r1,ha,rfl⟩
noncomputable def SG2:dw:=(94,Af (eW fun j=>J_ (Bw j)))::SG1
theorem P0:AX dr SG2:=⟨Ah func94 dm dm (AGg AV8),AGd⟩
def nH (x z a:Nat):Nat:=DF (Ae a (Ae z z)) x
def nR (y z b:Nat):Nat:=DF (Ae b (Ae (Ae z z) z)) y
def OA (x h r:Nat):Nat:=DF (DF (Ae r r) (Ae (Ae h h) h)) (DV (Ae x (Ae h h)) (Ae x (Ae h h)))
def U9 (x y h r:Nat):Nat:=DF (Ae r (DF (Ae x (Ae h h)) (OA x h r))) (Ae y (Ae (Ae h h) h))
section
variable (x y z a b:Nat) (i:Bool)
theorem AV9:AJ dr (AG SG2 K0) f95 [D0 x y z,Ax a b i] dz 500=some ([(decide (z=0),true)],.val true (.num 6 a::.num 6 b::uO)):=dm
theorem AV_:AJ dr (AG SG2 K0) f95 [D0 x y z,Ax a b i] fe 500=some ([(decide (z=0),false),(decide (nH x z a=0),true),(decide (nR y z b=0),true)],J_ (Bw (B7 x y z))):=dm
theorem AV':AJ dr (AG SG2 K0) f95 [D0 x y z,Ax a b i] [false,true,false,true] 500=some ([(decide (z=0),false),(decide (nH x z a=0),true),(decide (nR y z b=0),false),(decide (nH x z a=0),true)],.val true (List.replicate 18 (.n .u64 0))):=dm
theorem AWA:AJ dr (AG SG2 K0) f95 [D0 x y z,Ax a b i] fh 500=some ([(decide (z=0),false),(decide (nH x z a=0),false),(decide (nH x z a=0),false)],D0 (OA x (nH x z a) (nR y z b)) (U9 x y (nH x z a) (nR y z b)) (Ae z (nH x z a))):=dm
end
theorem AGh (x y z a:Nat):tf (nH x z a)=pH (B7 x y z) (tf a):=by unfold nH pH B7;simp only [EW,Bu]
theorem AGi (x y z b:Nat):tf (nR y z b)=pR (B7 x y z) (tf b):=by unfold nR pR B7;simp only [EW,Bu]
theorem Mu {n:Nat} (h:n<pN):n=0↔tf n=0:=by
 constructor
 ·rintro rfl;exact tf_zero
 ·intro e;exact N2 h C6 (e.trans tf_zero.symm)
theorem fC {P:gr} {f:gp} {args:List AV} {cs:List Ch} {x y z:Nat} (h:AT P f args (.val true cs)) (hc:R2 cs=some (x,y,z)):AT P f args (D0 x y z):=CG h fun _ hu=>U8 hc hu
theorem AWB {x y z a b:Nat} {i:Bool} (hz:z<pN) (ha:a<pN) (hb:b<pN):AT dr 95 [D0 x y z,Ax a b i] (J_ (F0 (B7 x y z) (tf a) (tf b))):=by
 have eh:=AGh x y z a;have er:=AGi x y z b;have zh:=Mu (n:=nH x z a) (FQ _ _)
 have zr:=Mu (n:=nR y z b) (FQ _ _)
 rw [eh] at zh;rw [er] at zr;unfold F0;by_cases h0:z=0
 ·rw [jo (show (B7 x y z).z=0 from (Mu hz).1 h0),← Pz (j:=⟨tf a,tf b,1⟩) ha hb (show 1<pN by decide) rfl rfl D6]
  exact fC (AN (AH P0 Ac) AB func95 (AV9 x y z a b i) ⟨jm h0,trivial⟩ rfl) rfl
 ·rw [jn (show ¬ (B7 x y z).z=0 from fun e=>h0 ((Mu hz).2 e))]
  by_cases hh:nH x z a=0
  ·rw [jo (zh.1 hh)];by_cases hr:nR y z b=0
   ·rw [jo (zr.1 hr)];exact AN (AH P0 Ac) AB func95 (AV_ x y z a b i) ⟨jq h0,jm hh,jm hr,trivial⟩ rfl
   ·rw [jn (fun e=>hr (zr.2 e)),← Pz (j:=⟨0,0,0⟩) C6 C6 C6 tf_zero tf_zero tf_zero]
    exact fC (AN (AH P0 Ac) AB func95 (AV' x y z a b i) ⟨jq h0,jm hh,jq hr,jm hh,trivial⟩ rfl) dm
  ·rw [jn (fun e=>hh (zh.2 e)),← Pz (j:=⟨pX (B7 x y z).x (pH (B7 x y z) (tf a)) (pR (B7 x y z) (tf b)),pY (B7 x y z).x (B7 x y z).y (pH (B7 x y z) (tf a)) (pR (B7 x y z) (tf b)),(B7 x y z).z*pH (B7 x y z) (tf a)⟩)
    (x:=OA x (nH x z a) (nR y z b)) (y:=U9 x y (nH x z a) (nR y z b)) (z:=Ae z (nH x z a)) (FQ _ _) (FQ _ _) (LO _ _) ?_ ?_ ?_]
   ·exact AN (AH P0 Ac) AB func95 (AWA x y z a b i) ⟨jq h0,jq hh,jq hh,trivial⟩ rfl
   ·unfold OA pX;simp only [EW,Bu,Hz,eh,er];rfl
   ·unfold U9 OA pY pX;simp only [EW,Bu,Hz,eh,er];rfl
   ·rw [Bu,eh];rfl
noncomputable def U_:List AV→Option (du×AV)
 | [.val true a,.val true b]=>match R2 a,Px b with
  | some (x,y,z),some (p,q,_)=>some ([(decide (z<pN),true),(decide (p<pN),true),(decide (q<pN),true)],J_ (F0 (B7 x y z) (tf p) (tf q)))
  | _,_=>none
 | _=>none
theorem AWC:∀ args c v,U_ args=some (c,v)→AM c→AT dr 95 args v:=by
 intro args c v hs hc us w ha;unfold U_ at hs;split at hs;case h_2=>cases hs
 rename_i a b;split at hs;case h_2=>cases hs
 rename_i x y z p q i hx hy;injection hs with hs;injection hs with h1 h2;subst h1;subst h2;obtain ⟨u1,jf,r1,⟨u2,jg,r2,ha,rfl⟩,rfl⟩:=ha;exact AWB (kj hc.1) (kj hc.2.1) (kj hc.2.2.1) _ w ⟨u1,_,U8 hx r1,⟨u2,_,(G1 hy r2).1,ha,rfl⟩,rfl⟩
def KG:List (gt×List (Option IntKind)):=(119,List.replicate 18 (some .u64))::K0
theorem C9:MU dr KG:=⟨⟨dm,dm,dm⟩,Ac⟩
def z3 (x y z:Nat):Bool:=decide (x=0)&&(decide (y=0)&&decide (z=0))
theorem AWD (x y z:Nat):AJ dr (AG SG2 KG) f96 [D0 x y z] dz 500=some ([(z3 x y z,true)],.val true (FR true)):=dm
theorem AWE (x y z:Nat):AJ dr (AG SG2 KG) f96 [D0 x y z] ee 500=some ([(z3 x y z,false),(decide (z=0),true)],.val true (FR true)):=dm
theorem AWF (x y z:Nat):AJ dr (AG SG2 KG) f96 [D0 x y z] ef 500=some ([(z3 x y z,false),(decide (z=0),false)],.val true [.num 6 (Ae x (Ae (Bl z) (Bl z))),.num 6 (Ae y (Ae (Ae (Bl z) (Bl z)) (Bl z))),.b false]):=dm
theorem AWG {x y z:Nat} (hz:z<pN):AT dr 96 [D0 x y z] (DW (CF (B7 x y z))):=by
 by_cases h0:z=0
 ·rw [G0 (j:=B7 x y z) ((Mu hz).1 h0)];cases h3:z3 x y z with
  | true=>exact H6 (AN (AH P0 C9) AB func96 (AWD x y z) ⟨h3,trivial⟩ rfl) dm
  | false=>exact H6 (AN (AH P0 C9) AB func96 (AWE x y z) ⟨h3,jm h0,trivial⟩ rfl) dm
 ·have h3:z3 x y z=false:=by unfold z3;rw [jq h0,ny,ny]
  rw [Ig (j:=B7 x y z) (fun e=>h0 ((Mu hz).2 e))]
  have ei:tf (Bl z)=FD.inv (tf z):=YL hz
  rw [← YJ (x:=Ae x (Ae (Bl z) (Bl z))) (y:=Ae y (Ae (Ae (Bl z) (Bl z)) (Bl z))) (LO _ _) (LO _ _) (by rw [Bu,Bu,ei];rfl) (by rw [Bu,Bu,Bu,ei];rfl)]
  exact H6 (AN (AH P0 C9) AB func96 (AWF x y z) ⟨h3,jq h0,trivial⟩ rfl) rfl
noncomputable def vR:List AV→Option (du×AV)
 | [.val true a]=>match R2 a with
  | some (x,y,z)=>some ([(decide (z<pN),true)],DW (CF (B7 x y z)))
  | _=>none
 | _=>none
theorem AWH:∀ args c v,vR args=some (c,v)→AM c→AT dr 96 args v:=by
 intro args c v hs hc us w ha;unfold vR at hs;split at hs;case h_2=>cases hs
 rename_i a;split at hs;case h_2=>cases hs
 rename_i x y z hx;injection hs with hs;injection hs with h1 h2;subst h1;subst h2;obtain ⟨u1,jf,r1,ha,rfl⟩:=ha;exact AWG (kj hc.1) _ w ⟨u1,_,U8 hx r1,ha,rfl⟩
noncomputable def SG3:dw:=(95,FO U_)::(96,FO vR)::SG2
theorem R3:AX dr SG3:=⟨GK func95 dm dm AWC,GK func96 dm dm AWH,P0⟩
theorem AGj {H0:Heap} {k b:Nat} {blk blk' x:ib} (h:AF (H0++[(k,some blk')]) b=some x):AF (H0++[(k,some blk)]) b=some x∨(x=blk'∧AF (H0++[(k,some blk)]) b=some blk):=by
 induction H0 with
 | nil =>
  simp only [oh,AF] at h ⊢;cases e:Nat.beq k b with
  | true=>rw [e] at h;injection h with h;exact .inr ⟨h.symm,rfl⟩
  | false=>rw [e] at h;cases h
 | cons y r ih =>
  obtain ⟨j,z⟩:=y;simp only [n_,AF] at h ⊢;cases e:Nat.beq j b with
  | true=>rw [e] at h;exact .inl h
  | false=>rw [e] at h;exact ih h
theorem AGk {β:Env} {ty:gt} {cs cs':List Ch} {o:Bool} {k:Nat} {w:gn} (h:∀ β l,AP β cs l→AP β cs' l) (hr:DK β ⟨ty,cs,o⟩ k w):DK β ⟨ty,cs',o⟩ k w:=by
 rcases hr with ⟨B,n,l,t,pre,ty',fz,q1,q2,q3⟩ | ⟨X,q1,q2,q3⟩ | ⟨B,l,es,q,q1,q2,q3,q4⟩
 ·exact .inl ⟨B,n,l,t,pre,ty',fz,q1,h _ _ q2,q3⟩
 ·exact .inr (.inl ⟨X,q1,by cases X<;>exact q2,h _ _ q3⟩)
 ·exact .inr (.inr ⟨B,l,es,q,q1,q2,h _ _ q3,q4⟩)
theorem AWI {β:Env} {H0:Heap} {k:Nat} {ty:gt} {cs cs':List Ch} {o:Bool} {w:gn} (h:∀ β l,AP β cs l→AP β cs' l) (g:Ex.Good β (H0++[(k,some ⟨ty,cs,o⟩)]) w):Ex.Good β (H0++[(k,some ⟨ty,cs',o⟩)]) w:=by
 have hs:∀ b x,AF (H0++[(k,some ⟨ty,cs',o⟩)]) b=some x→∃ y,AF (H0++[(k,some ⟨ty,cs,o⟩)]) b=some y∧y.ty=x.ty:=fun b x hb=>by
  rcases AGj (blk:=⟨ty,cs,o⟩) hb with e | ⟨rfl,e⟩
  ·exact ⟨x,e,rfl⟩
  ·exact ⟨_,e,rfl⟩
 refine ⟨fun b blk hb=>?_,fun b b' B n n' h1 h2 h3 h4=>?_,g.lt⟩
 ·rcases AGj (blk:=⟨ty,cs,o⟩) hb with e | ⟨rfl,e⟩
  ·exact g.heap b blk e
  ·exact AGk h (g.heap b _ e)
 ·obtain ⟨x,hx,hr⟩:=GU h1;obtain ⟨y,hy,e⟩:=hs b x hx;obtain ⟨x',hx'⟩:=mc.1 h2;obtain ⟨y',hy',_⟩:=hs b' x' hx';exact g.inj b b' B n n' (GC hy (by rw [e];exact hr)) (by rw [hy'];rfl) h3 h4
theorem fD {P:gr} {f:gp} {β0:Env} {w0:gn} {R:Ending→gn→Prop} {n:Nat} {W:List Nat} {todo:List Item} {T:List AV} {H0:Heap} {k:Nat} {ty:gt} {cs cs':List Ch} {o:Bool} {fr:Nat} {p:List Bool} (h:∀ β l,AP β cs l→AP β cs' l)
  (hs:gz P f β0 w0 R n W ⟨todo,⟨T,H0++[(k,some ⟨ty,cs',o⟩)],fr,p⟩⟩):gz P f β0 w0 R n W ⟨todo,⟨T,H0++[(k,some ⟨ty,cs,o⟩)],fr,p⟩⟩ :=
 fun β a w hi hf=>hs β a w { hi with good:=AWI h hi.good } hf
noncomputable def AWJ:List Item:=B6 (AZ dr (AG SG3 KG) (some 0) 500 1 none (Ak f43 [AQ 0 0 0 0,Ax 0 0 false] (BE []) 1 ef))
noncomputable def gmT (ic n m:Nat) (i:Int):List AV:=.val false [.sl 0 ic n m]::.any::.any::.val false [.p 1 0]::.val false [.p 2 0]::.val false [.n .i64 0]::.val false [.p 3 0]::.val false [.v (.int .i64 i)]::List.replicate (f43.ntmps-8) .any
noncomputable def gmH (xs:dt) (P:Pt FP):Heap:=[(0,some (An [.seq .u64 xs])),(1,some ⟨42,[.num 6 (A8 P),.num 6 (Av P),.v (.bool (Ao P))],false⟩),(2,some ⟨42,FR false,false⟩)]
noncomputable def OB (ic n m:Nat) (xs:dt) (P:Pt FP) (out:List Ch) (i:Int) (ie:List Bool):h_:=⟨AWJ,⟨gmT ic n m i,List.append (gmH xs P) [(3,some ⟨119,out,false⟩)],4,ie⟩⟩
def jC (j:J FP):List Ch:=[.num 6 j.x.val,.num 6 j.y.val,.num 6 j.z.val]
def fE:List Ch:=[.n .u64 0,.n .u64 0,.n .u64 0,.n .u64 0,.n .u64 0,.n .u64 0,.n .u64 0,.n .u64 0,.n .u64 0,.n .u64 0,.n .u64 0,.n .u64 0,.n .u64 0,.n .u64 0,.n .u64 0,.n .u64 0,.n .u64 0,.n .u64 0]
def HP (j:J FP):J FP:=B7 j.x.val j.y.val j.z.val
theorem YP (j:J FP):HP j=j:=by
 unfold HP B7;rw [Bn,Bn,Bn]
noncomputable def fF (j:J FP) (P:Pt FP):J FP:=F0 (HP (Bw (HP j))) (tf (A8 P)) (tf (Av P))
def Mv (x y:Nat) (i:Bool) (ic n m:Nat):List AV:=[AQ 0 ic n m,Ax x y i]
def fG (P:Pt FP):Pt FP:=AL (A8 P) (Av P) (Ao P)
theorem AWM (x y:Nat) (i:Bool) (ic n m:Nat) (xs:dt):AZ dr (AG SG3 KG) (some 0) 500 1 (some ([0,3,4,5,6,7],[0,1,2,3],4)) (Ak f43 (Mv x y i ic n m) (BE xs) 1 ef) =
 some ([(!BH (fG (AL x y i)),false),(Ao (AL x y i),false),(AK .i64 n,true)],[],OB ic n m xs (AL x y i) fE (wI (wI (64*(n:Int))-1)) []):=dm
def Mw (Q:Pt FP) (e:Int):AV:=.tup [(true,[.num 6 (A8 Q),.num 6 (Av Q),.v (.bool (Ao Q))]),(false,[.v (.int .i64 e)])]
def YQ (Q:Pt FP) (e:Int):AV:=.tup [(true,[.num 6 (A8 Q),.num 6 (Av Q),.v (.bool (Ao Q))]),(false,[.n .i64 e])]
theorem AWN (x y:Nat) (i:Bool) (ic n m:Nat) (xs:dt):AU dr (AG SG3 KG) f43 500 1 [] (Ak f43 (Mv x y i ic n m) (BE xs) 1 dz) =
 some ([(!BH (fG (AL x y i)),true)],[],.tup [(true,FR false),(false,[.n .i64 120])],[]):=dm
theorem AWO (x y:Nat) (i:Bool) (ic n m:Nat) (xs:dt):AU dr (AG SG3 KG) f43 500 1 [] (Ak f43 (Mv x y i ic n m) (BE xs) 1 ee) =
 some ([(!BH (fG (AL x y i)),false),(Ao (AL x y i),true)],[],YQ (AL x y i) 0,[]):=dm
def U' (ic n:Nat) (xs:dt) (i:Int) (bit:Bool) (r:du):du:=(decide (0≤i),true)::(true,true)::(decide (0≤wI (Int.tdiv i 64)∧wI (Int.tdiv i 64)<n),true) ::
 (decide (ic+(wI (Int.tdiv i 64)).toNat*1<xs.length),true)::(decide (0≤i∧(0:Int)<64),true)::(decide (0≤Int.tmod i 64∧0≤CU xs ic i),true)::(decide (JG (CU xs ic i) (Int.tmod i 64)=0),bit)::r
section
variable (ic n m:Nat) (xs:dt) (P:Pt FP) (j:J FP) (i:Int)
theorem AWP:AZ dr (AG SG3 KG) (some 0) 500 1 (some ([0,3,4,5,6,7],[0,1,2,3],4)) (OB ic n m xs P (jC j) i d_) =
 some (U' ic n xs i true [],[],OB ic n m xs P (jC (Bw (HP j))) (wI (i-1)) []):=dm
theorem AWQ:AZ dr (AG SG3 KG) (some 0) 500 1 (some ([0,3,4,5,6,7],[0,1,2,3],4)) (OB ic n m xs P (jC j) i eg) =
 some (U' ic n xs i false [(decide ((Bw (HP j)).z.val<pN),true),(decide (A8 P<pN),true),(decide (Av P<pN),true)],[],OB ic n m xs P (jC (fF j P)) (wI (i-1)) []):=dm
theorem AWR:AU dr (AG SG3 KG) f43 500 1 [] (OB ic n m xs P (jC j) i dx) =
 some ([(decide (0≤i),false),(decide (j.z.val<pN),true)],[],YQ (CF (HP j)) 0,[]):=dm
end
theorem vS (ic n m:Nat) (xs:dt) (P:Pt FP) (j:J FP) (i:Int) (p:List Bool):BW f43.ntmps (OB ic n m xs P (jC j) i p).s:=AR dm
theorem AGl (β:Env) (l:List gq) (h:AP β fE l):AP β (jC ⟨0,0,0⟩) l:=by
 have h3:R2 fE=some (0,0,0):=dm
 obtain ⟨l',q,e⟩:=U8 (β':=β) (u:=.agg ⟨l⟩) h3 ⟨l,h,rfl⟩
 injection e with e;injection e with e;subst e;exact q
def J' (P:Pt FP) (E c:Nat) (j:J FP):Prop:=CF j=smul (E / 2^c) P
section
variable {ic n m:Nat} {xs:dt} (ip:∀ d∈xs,0≤d∧d<18446744073709551616) (ii:ic+n≤xs.length) (hn:n≤1125899906842624) {P:Pt FP} (hP:Rg.On C1.b P) (hI:Ao P=false) {β0:Env} {w0:gn} (hb:∀ b,1≤b→β0 b=none)
include ip ii hn hb hP hI
theorem AWS:∀ (c:Nat) (j:J FP),J' P (AI (AA xs ic n)) c j→c≤64*n→gz dr 43 β0 w0 (BA β0 w0 [] (YQ (smul (AI (AA xs ic n)) P) 0) []) f43.ntmps [] (OB ic n m xs P (jC j) ((c:Int)-1) []):=by
 intro c;induction c with
 | zero =>
  intro j hj _;have h:gz dr 43 β0 w0 (BA β0 w0 [] (YQ (CF (HP j)) 0) []) f43.ntmps [] (OB ic n m xs P (jC j) (((0:Nat):Int)-1) dx) :=
   A6 (AH R3 C9) AB func43 (AWR ..) ⟨rfl,jm j.z.isLt,trivial⟩ (vS ..) hb jl
  unfold J' at hj;rw [YP,hj,kx,ld] at h;exact Ai dx h
 | succ c ih =>
  intro j hj hc;have hi:((c+1:Nat):Int)-1=(c:Int):=dn
  rw [hi];have jb:∀ d∈AA xs ic n,0≤d∧d<18446744073709551616:=DG ip
  have hq:Int.tdiv (c:Int) 64=((c / 64:Nat):Int):=by rw [qk dn];rfl
  have hr:Int.tmod (c:Int) 64=((c % 64:Nat):Int):=by rw [o_ dn];rfl
  have hw:wI (Int.tdiv (c:Int) 64)=((c / 64:Nat):Int):=by rw [hq];exact Au dn
  have hjn:c / 64<n:=dn
  have hv:CU xs ic c=(AA xs ic n).getD (c / 64) 0:=by
   unfold CU;rw [hw,jz,kt];exact (JI hjn).symm
  have hvb:0≤CU xs ic c∧CU xs ic c<18446744073709551616:=by
   rw [hv,kq];cases h:(AA xs ic n)[c / 64]? with
   | none=>simp
   | some d=>exact jb d (pm h)
  have hbit:JG (CU xs ic c) (Int.tmod c 64)=((AI (AA xs ic n) / 2^c % 2:Nat):Int):=by
   obtain ⟨V,hV⟩:=kw hvb.1;rw [hr,← Xg _ c jb,← hv,hV,jz];exact Xe V _ dn dn
  have ja:wI ((c:Int)-1)=(c:Int)-1:=Au dn
  have iu:∀ bit r,decide (JG (CU xs ic c) (Int.tmod c 64)=0)=bit→AM r→AM (U' ic n xs c bit r):=by
   intro bit r hbt hr';refine ⟨by simp,rfl,?_,?_,?_,?_,hbt,hr'⟩
   ·rw [hw];simp;omega
   ·rw [hw];simp;omega
   ·simp
   ·simp only [jt];rw [hr];exact ⟨dn,hvb.1⟩
  have hdiv:AI (AA xs ic n) / 2^c=2*(AI (AA xs ic n) / 2^(c+1))+AI (AA xs ic n) / 2^c % 2:=by
   rw [lj,← ll];omega
  unfold J' at hj;have hoj:Rg.On C1.b (CF j):=by rw [hj];exact CE C1 hP _
  have htw:CF (Bw (HP j))=smul (2*(AI (AA xs ic n) / 2^(c+1))) P:=by
   rw [YP,Rz C1 hoj,hj,← JO C1 hP,qq]
  rcases nz (AI (AA xs ic n) / 2^c) with h0 | h1
  ·refine Ai d_ (Aj (AH R3 C9) AB (AWP ..) (iu true [] (by rw [hbit,h0];rfl) trivial) (vS ..) hb jl fun _=>?_)
   rw [ja];refine ih _ ?_ dn
   unfold J';rw [htw,hdiv,h0];rfl
  ·refine Ai eg (Aj (AH R3 C9) AB (AWQ ..) (iu false _ (by rw [hbit,h1];rfl) ⟨jm (Bw (HP j)).z.isLt,jm (Py P),jm (eU P),trivial⟩) (vS ..) hb jl fun _=>?_)
   rw [ja];refine ih _ ?_ dn
   unfold J' fF;rw [YP (Bw (HP j)),U3 C1 (by rw [htw];exact CE C1 hP _),htw,hdiv,h1]
   cases P with
   | inf=>cases hI
   | pt a b =>
    show add _ (.pt (tf a.val) (tf b.val))=_;rw [Bn,Bn];rfl
end
noncomputable def HQ (N:Nat) (P:Pt FP):Pt FP:=if BH P=true then smul N P else .pt 0 0
noncomputable def HR (P:Pt FP):Int:=if BH P=true then 0 else 120
theorem AWT (P:Pt FP):fG P=P:=U6 P
theorem AGm {β:Env} {Q:Pt FP} {e:Int} {u:gq} (h:AO β (YQ Q e) u):AO β (Mw Q e) u:=CQ (fun _ q=>q) (fun _ q=>EM rfl q) h
theorem AWU {ic n m:Nat} {xs:dt} (ip:∀ d∈xs,0≤d∧d<18446744073709551616) (ii:ic+n≤xs.length) (hn:n≤1125899906842624) (x y:Nat) (i:Bool) :
  Ab dr 43 (Mv x y i ic n m) (BE xs) 1 [] (Mw (HQ (AI (AA xs ic n)) (AL x y i)) (HR (AL x y i))) []:=by
 have e1:=AWM x y i ic n m xs;have e2:=AWN x y i ic n m xs;have e3:=AWO x y i ic n m xs;rw [AWT] at e1 e2 e3;generalize AL x y i=P at *
 cases ho:BH P with
 | false =>
  unfold HQ HR;rw [jn (by rw [ho];exact kb),jn (by rw [ho];exact kb)]
  refine BN (A_ (ie:=dz) func43 dm dm fun β0 w0 hb =>
   A6 (AH R3 C9) AB func43 e2 ⟨by rw [ho];rfl,trivial⟩ (AR dm) hb jl) fun β u hu=>?_
  exact CQ (fun _ q=>(G1 (x:=0) (y:=0) (i:=false) dm q).1) (fun _ q=>EM rfl q) hu
 | true =>
  have hP:=(Ih P).1 ho
  unfold HQ HR;rw [jo ho,jo ho];cases hI:Ao P with
  | true =>
   have hp:P=.inf:=by cases P with | inf=>rfl | pt a b=>cases hI
   have hs:smul (AI (AA xs ic n)) P=P:=by rw [hp,Gz]
   rw [hs];exact BN (A_ (ie:=ee) func43 dm dm fun β0 w0 hb =>
    A6 (AH R3 C9) AB func43 e3 ⟨by rw [ho];rfl,hI,trivial⟩ (AR dm) hb jl) fun β u hu=>AGm hu
  | false =>
   refine BN (A_ (ie:=ef) func43 dm dm fun β0 w0 hb=>?_) fun β u hu=>AGm hu
   refine Aj (AH R3 C9) AB e1 ⟨by rw [ho];rfl,hI,?_,trivial⟩ (AR dm) hb jl fun _=>?_
   ·simp only [AK,jx,jt];omega
   ·have e4:wI (wI (64*(n:Int))-1)=((64*n:Nat):Int)-1:=by
     rw [Au (z:=64*(n:Int)) dn,Au dn];omega
    rw [e4];refine fD AGl (AWS ip ii hn hP hI hb (64*n) ⟨0,0,0⟩ ?_ (ju _))
    unfold J';have hl:=JH (AA xs ic n) (DG ip)
    have hl2:AI (AA xs ic n)<2^(64*n):=by
     unfold AA at hl ⊢
     rwa [kv,lk,mr dn] at hl
    rw [G0 rfl,mf hl2];rfl
def fH (g:dt→Pt FP→AV):ASpec:=fun args H fr ie =>
 match args with
 | [S,.val true a]=>match DS S with
  | some (k,ic,n)=>match Px a,AF H k with
   | some (x,y,i),some ⟨_,cs,_⟩=>match A' .u64 cs with
    | some xs=>some (BP [k] 1 fr 0 [] (g (AA xs ic n) (AL x y i)) [] [(Nat.ble (ic+n) xs.length,true),(Nat.ble n 1125899906842624,true)] ie)
    | none=>none
   | _,_=>none
  | none=>none
 | _=>none
theorem AGn {f:gp} {fn:Func} {g:dt→Pt FP→AV} (jc:dr.funcs[f]? = some fn) (hb:fn.body.isSome=true) (iq:fw fn) (hk:∀ l P,EJ 1 0 [] (g l P) []=true)
  (h:∀ (ic n m:Nat) (xs:dt) (x y:Nat) (i:Bool),(∀ d∈xs,0≤d∧d<18446744073709551616)→ic+n≤xs.length→n≤1125899906842624→Ab dr f (Mv x y i ic n m) (BE xs) 1 [] (g (AA xs ic n) (AL x y i)) []):BI dr f (fH g):=by
 refine DN jc hb iq fun args H fr ie r hs=>?_
 unfold fH at hs;split at hs;case h_2=>cases hs
 rename_i S a;split at hs;case h_2=>cases hs
 rename_i k ic n hS;split at hs;case h_2=>cases hs
 rename_i x y i ty cs o hx hk';split at hs;case h_2=>cases hs
 rename_i xs jh;injection hs with hs;refine ⟨[k],1,0,[],_,_,_,ie,hs.symm,fun β us w ha hg hc=>?_⟩
 obtain ⟨u1,jf,r1,⟨u2,jg,r2,ha,rfl⟩,rfl⟩:=ha;obtain ⟨m,r1⟩:=E8 hS r1;obtain ⟨g1,g2,g3⟩:=LL hg hk' jh;exact ⟨Mv x y i ic n m,BE xs,h ic n m xs x y i g1 (jp hc.1) (jp hc.2.1),hk _ _,⟨u1,_,CV dn rfl r1,⟨u2,jg,(G1 hx r2).1,ha,rfl⟩,rfl⟩,g2,g3⟩
noncomputable def SG4:dw:=(43,D3 (fH fun l P=>Mw (HQ (AI l) P) (HR P)))::SG3
theorem VA:AX dr SG4:=⟨EK (AGn func43 dm dm (fun _ _=>by kernel_rfl) fun _ _ _ _ x y i hx hl hn=>AWU hx hl hn x y i),R3⟩
def vT:List AV→Option AV
 | [.val false [.n .u64 i]]=>some (.val true [.n .u64 i,.n .u64 0,.n .u64 0,.n .u64 0,.n .u64 0,.n .u64 0])
 | _=>none
theorem AWV (i:Int):AJ dr (AG SG4 KG) f160 [.val false [.n .u64 i]] [] 100=some ([],.val true [.n .u64 i,.n .u64 0,.n .u64 0,.n .u64 0,.n .u64 0,.n .u64 0]):=dm
theorem AWW:∀ args v,vT args=some v→AT dr 160 args v:=by
 intro args v hs;unfold vT at hs;split at hs;case h_2=>cases hs
 rename_i i;injection hs with hs;subst hs;exact AN (AH VA C9) AB func160 (AWV i) trivial rfl
theorem AWX:AJ dr (AG SG4 KG) f149 [] [] 100=some ([],.val true [.n .u64 4,.n .u64 0,.n .u64 0,.n .u64 0,.n .u64 0,.n .u64 0]):=dm
theorem AWY:AT dr 149 [] (Ad 4):=CG (AN (AH VA C9) AB func149 AWX trivial rfl) fun u hu=>Xc dm hu
theorem AWZ:AJ dr (AG SG4 KG) f58 [] [] 100=some ([],.val true gC):=dm
theorem AWa:AT dr 58 [] (DW G1B):=by
 rw [← AGa];exact H6 (AN (AH VA C9) AB func58 AWZ trivial rfl) dm
theorem AWb (x y:Nat) (i:Bool):AJ dr (AG SG4 KG) f81 [Ax x y i] dz 300=some ([(i,true)],.val true (FR true)):=dm
theorem AWc (x y:Nat) (i:Bool):AJ dr (AG SG4 KG) f81 [Ax x y i] dx 300=some ([(i,false)],.val true [.num 6 (x % pN),.num 6 (y % pN),.b false]):=dm
theorem AWd (x y:Nat) (i:Bool):AT dr 81 [Ax x y i] (DW (AL x y i)):=by
 cases i with
 | true=>exact H6 (AN (AH VA C9) AB func81 (AWb x y true) ⟨rfl,trivial⟩ rfl) dm
 | false=>exact H6 (AN (AH VA C9) AB func81 (AWc x y false) ⟨rfl,trivial⟩ rfl) dm
noncomputable def SR0:dw:=(160,Af vT)::(149,Af fun args=>match args with | []=>some (Ad 4) | _=>none)::(58,Af fun args=>match args with | []=>some (DW G1B) | _=>none)::(81,Af (N_ DW))::SG4
theorem fI:AX dr SR0:=⟨Ah func160 dm dm AWW,Ah func149 dm dm (RX AWY fun u h=>h),Ah func58 dm dm (RX AWa fun u h=>h),Ah func81 dm dm (R0 AWd),VA⟩
theorem AWe (x y:Nat) (i:Bool):AJ dr (AG SR0 KG) f71 [Ax x y i] dz 300=some ([(i,true)],.val false [.b true]):=dm
theorem AWf (x y:Nat) (i:Bool):AJ dr (AG SR0 KG) f71 [Ax x y i] dx 300=some ([(i,false)],Aw (decide (Ae y y=DV (Ae (Ae x x) x) 4))):=dm
theorem AWg (x y:Nat) (i:Bool):AT dr 71 [Ax x y i] (Aw (BH (AL x y i))):=by
 cases i with
 | true=>exact CG (AN (AH fI C9) AB func71 (AWe x y true) ⟨rfl,trivial⟩ rfl) fun u hu=>Gw rfl hu
 | false=>rw [← vO];exact AN (AH fI C9) AB func71 (AWf x y false) ⟨rfl,trivial⟩ rfl
noncomputable def fJ (px py:Nat):Nat:=Ae (Ae 3 (Ae px px)) (Bl (Ae 2 py))
noncomputable def chR (px py qx qy:Nat):Nat:=Ae (DF qy py) (Bl (DF qx px))
def KA (P Q:Pt FP):Bool:=!(decide (A8 P=A8 Q)&&(!decide (Av P=Av Q)||decide (Av P=0)))
noncomputable def OC (P Q:Pt FP):Nat:=if A8 P=A8 Q then (if Av P=Av Q∧Av P≠0 then fJ (A8 P) (Av P) else 0) else chR (A8 P) (Av P) (A8 Q) (Av Q)
noncomputable def vU (P Q:Pt FP):AV:=.tup [(true,[.num 6 (OC P Q)]),(false,[.v (.bool (KA P Q))])]
section
variable (x y:Nat) (i:Bool) (x' y':Nat) (i':Bool)
theorem AWh:AJ dr (AG SR0 KG) f82 [Ax x y i,Ax x' y' i'] [true,true,true] 300=some ([(decide (A8 (AL x y i)=A8 (AL x' y' i')),true),(!decide (Av (AL x y i)=Av (AL x' y' i')),true)],.tup [(true,GY),(false,[.b false])]):=dm
theorem AWi:AJ dr (AG SR0 KG) f82 [Ax x y i,Ax x' y' i'] ew 300=some ([(decide (A8 (AL x y i)=A8 (AL x' y' i')),true),(!decide (Av (AL x y i)=Av (AL x' y' i')),false),(decide (Av (AL x y i)=0),true)],.tup [(true,GY),(false,[.b false])]):=dm
theorem AWj:AJ dr (AG SR0 KG) f82 [Ax x y i,Ax x' y' i'] e_ 300=some ([(decide (A8 (AL x y i)=A8 (AL x' y' i')),true),(!decide (Av (AL x y i)=Av (AL x' y' i')),false),(decide (Av (AL x y i)=0),false)],.tup [(true,[.num 6 (fJ (A8 (AL x y i)) (Av (AL x y i)))]),(false,[.b true])]):=dm
theorem AWk:AJ dr (AG SR0 KG) f82 [Ax x y i,Ax x' y' i'] dx 300=some ([(decide (A8 (AL x y i)=A8 (AL x' y' i')),false)],.tup [(true,[.num 6 (chR (A8 (AL x y i)) (Av (AL x y i)) (A8 (AL x' y' i')) (Av (AL x' y' i')))]),(false,[.b true])]):=dm
theorem AWl:AT dr 82 [Ax x y i,Ax x' y' i'] (vU (AL x y i) (AL x' y' i')):=by
 have r1:=AWh x y i x' y' i';have r2:=AWi x y i x' y' i';have r3:=AWj x y i x' y' i';have r4:=AWk x y i x' y' i';generalize AL x y i=P at *
 generalize AL x' y' i'=Q at *
 have ok:∀ {ie c v},AJ dr (AG SR0 KG) f82 [Ax x y i,Ax x' y' i'] ie 300=some (c,v)→AM c→Nj v=true→AT dr 82 [Ax x y i,Ax x' y' i'] v:=fun h hc hk=>AN (AH fI C9) AB func82 h hc hk
 unfold vU OC KA;by_cases hx:A8 P=A8 Q
 ·rw [jo hx,jm hx];by_cases hy:Av P=Av Q
  ·by_cases h0:Av P=0
   ·rw [jn (fun h=>h.2 h0),jm hy,jm h0]
    exact CG (ok r2 ⟨jm hx,by rw [jm hy];rfl,jm h0,trivial⟩ rfl) fun u hu=>CQ (fun _ q=>Rq q) (fun _ q=>Gw rfl q) hu
   ·rw [jo ⟨hy,h0⟩,jm hy,jq h0];exact CG (ok r3 ⟨jm hx,by rw [jm hy];rfl,jq h0,trivial⟩ rfl) fun u hu=>CQ (fun _ q=>q) (fun _ q=>Gw rfl q) hu
  ·rw [jn (fun h=>hy h.1),jq hy]
   exact CG (ok r1 ⟨jm hx,by rw [jq hy];rfl,trivial⟩ rfl) fun u hu=>CQ (fun _ q=>Rq q) (fun _ q=>Gw rfl q) hu
 ·rw [jn hx,jq hx];exact CG (ok r4 ⟨jq hx,trivial⟩ rfl) fun u hu=>CQ (fun _ q=>q) (fun _ q=>Gw rfl q) hu
end
noncomputable def SR1:dw:=(71,Af (N_ fun P=>Aw (BH P)))::(82,Af (YK vU))::SR0
theorem VB:AX dr SR1:=⟨Ah func71 dm dm (R0 AWg),Ah func82 dm dm (vN AWl),fI⟩
theorem fK:tf 2=1+1:=by rw [← D6,← Gx]
theorem vV:tf 3=1+1+1:=by rw [← D6,← Gx,← Gx]
theorem vW:tf 4=1+1+(1+1):=by rw [← fK,← Gx]
theorem AGp:tf 8=1+1+(1+1)+(1+1+(1+1)):=by rw [← vW,← Gx]
section
variable (x y:Nat) (i:Bool) (x' y':Nat) (i':Bool)
theorem AWm:AJ dr (AG SR1 KG) f33 [Ax x y i,Ax x' y' i'] dz 300=some ([(i,true)],DW (AL x' y' i')):=dm
theorem AWn:AJ dr (AG SR1 KG) f33 [Ax x y i,Ax x' y' i'] ee 300=some ([(i,false),(i',true)],DW (AL x y i)):=dm
theorem AWo:AJ dr (AG SR1 KG) f33 [Ax x y i,Ax x' y' i'] fb 300=some ([(i,false),(i',false),(!KA (AL x y i) (AL x' y' i'),true)],.val true (FR true)):=dm
theorem AWp:AJ dr (AG SR1 KG) f33 [Ax x y i,Ax x' y' i'] fh 300=some ([(i,false),(i',false),(!KA (AL x y i) (AL x' y' i'),false)],
 .val true [.num 6 (Ii (OC (AL x y i) (AL x' y' i')) x x'),.num 6 (R1 (OC (AL x y i) (AL x' y' i')) x y (Ii (OC (AL x y i) (AL x' y' i')) x x')),.b false]):=dm
end
theorem AWq {l x y x':Nat} {L:FP} (hl:tf l=L):Ax (Ii l x x') (R1 l x y (Ii l x x')) false=DW (GM (tf x) (tf y) (tf x') L):=by
 have hX:tf (Ii l x x')=L*L-tf x-tf x':=by unfold Ii;simp only [EW,Bu,hl]
 refine YJ (FQ _ _) (FQ _ _) hX ?_
 unfold R1;rw [EW,Bu,EW,hX,hl]
theorem AWr (a b:FP):tf (fJ a.val b.val)=(a*a+a*a+a*a)*FD.inv (b+b):=by
 unfold fJ;have e1:tf (Ae 3 (Ae a.val a.val))=a*a+a*a+a*a:=by rw [Bu,Bu,Bn,vV];grind
 have e2:tf (Ae 2 b.val)=b+b:=by rw [Bu,Bn,fK];grind
 rw [Bu,YL (LO _ _),e1,e2];rfl
theorem AWs (x y:Nat) (i:Bool) (x' y':Nat) (i':Bool):AT dr 33 [Ax x y i,Ax x' y' i'] (DW (Rg.add (AL x y i) (AL x' y' i'))):=by
 have r1:=AWm x y i x' y' i';have r2:=AWn x y i x' y' i';have r3:=AWo x y i x' y' i';have r4:=AWp x y i x' y' i';cases i with
 | true=>exact AN (AH VB C9) AB func33 r1 ⟨rfl,trivial⟩ rfl
 | false=>cases i' with
  | true=>exact AN (AH VB C9) AB func33 r2 ⟨rfl,rfl,trivial⟩ rfl
  | false =>
   have hs:∀ {l:Nat} {L:FP},OC (AL x y false) (AL x' y' false)=l→KA (AL x y false) (AL x' y' false)=true→tf l=L→AT dr 33 [Ax x y false,Ax x' y' false] (DW (GM (tf x) (tf y) (tf x') L)):=by
    intro l L h1 h2 h3;rw [h1] at r4;rw [← AWq h3];exact H6 (AN (AH VB C9) AB func33 r4 ⟨rfl,rfl,by rw [h2];rfl,trivial⟩ rfl) rfl
   have h0:KA (AL x y false) (AL x' y' false)=false→AT dr 33 [Ax x y false,Ax x' y' false] (DW .inf):=fun h =>
    H6 (AN (AH VB C9) AB func33 r3 ⟨rfl,rfl,by rw [h];rfl,trivial⟩ rfl) dm
   show AT _ _ _ (DW (Rg.add (.pt (tf x) (tf y)) (.pt (tf x') (tf y'))));rw [JN];change ∀ {l:Nat} {L:FP},OC (.pt (tf x) (tf y)) (.pt (tf x') (tf y'))=l→KA (.pt (tf x) (tf y)) (.pt (tf x') (tf y'))=true→_ at hs
   change KA (.pt (tf x) (tf y)) (.pt (tf x') (tf y'))=false→_ at h0
   generalize tf x=a at *
   generalize tf y=b at *
   generalize tf x'=c at *
   generalize tf y'=d at *
   by_cases hx:a=c
   ·have hx':=jm (U7 (b:=b) (d:=d) |>.2 hx)
    rw [jo hx];by_cases hy:b=d
    ·have hy':=jm (YM (a:=a) (c:=c) |>.2 hy)
     by_cases hb:b=0
     ·rw [jn (fun h=>h.2 hb)]
      refine h0 ?_
      unfold KA;rw [hx',hy',jm (show Av (.pt a b)=0 from Mt.2 hb)];rfl
     ·rw [jo ⟨hy,hb⟩];refine hs ?_ ?_ (AWr a b)
      ·unfold OC;rw [jo (U7.2 hx),jo ⟨YM.2 hy,fun h=>hb (Mt.1 h)⟩];rfl
      ·unfold KA;rw [hx',hy',jq (show ¬ Av (.pt a b)=0 from fun h=>hb (Mt.1 h))];rfl
    ·rw [jn (fun h=>hy h.1)]
     refine h0 ?_
     unfold KA;rw [hx',jq (show ¬ Av (.pt a b)=Av (.pt c d) from fun h=>hy (YM.1 h))];rfl
   ·rw [jn hx];refine hs ?_ ?_ (AGc a b c d)
    ·unfold OC;rw [jn (fun h=>hx (U7.1 h))];rfl
    ·unfold KA;rw [jq (show ¬ A8 (.pt a b)=A8 (.pt c d) from fun h=>hx (U7.1 h))];rfl
def sD (x y:Nat):Nat:=Ae 4 (Ae x (Ae y y))
def sE (x:Nat):Nat:=Ae 3 (Ae x x)
def sX (x y:Nat):Nat:=DF (Ae (sE x) (sE x)) (DV (sD x y) (sD x y))
def sY (x y:Nat):Nat:=DF (Ae (sE x) (DF (sD x y) (sX x y))) (Ae 8 (Ae (Ae y y) (Ae y y)))
theorem AWt (x y z:Nat):AJ dr (AG SR1 KG) f210 [D0 x y z] [] 500=some ([],D0 (sX x y) (sY x y) (Ae 2 (Ae y z))):=dm
theorem AGq (x y:Nat):tf (sD x y)=jD (tf x) (tf y):=by unfold sD jD;rw [Bu,Bu,Bu,vW];grind
theorem AGr (x:Nat):tf (sE x)=jE (tf x):=by unfold sE jE;rw [Bu,Bu,vV];grind
theorem AGs (x y:Nat):tf (sX x y)=jX (tf x) (tf y):=by unfold sX jX;rw [EW,Bu,Hz,AGq,AGr]
theorem AWu (y:Nat):tf (Ae 8 (Ae (Ae y y) (Ae y y)))=U1 (tf y):=by unfold U1 eS jC2;rw [Bu,Bu,Bu,AGp];grind
theorem AWv (x y z:Nat):AT dr 210 [D0 x y z] (J_ (Bw (B7 x y z))):=by
 rw [← Pz (j:=Bw (B7 x y z)) (x:=sX x y) (y:=sY x y) (z:=Ae 2 (Ae y z)) (FQ _ _) (FQ _ _) (LO _ _) (AGs x y) (by unfold sY;rw [EW,Bu,EW,AGs,AGq,AGr,AWu];rfl)
  (by rw [Bu,Bu,fK];show _=tf y*tf z+tf y*tf z;grind)]
 exact AN (AH VB C9) AB func210 (AWt x y z) trivial rfl
noncomputable def SR2:dw:=(33,Af (YK fun P Q=>DW (Rg.add P Q)))::(210,Af (eW fun j=>J_ (Bw j)))::SR1
theorem VC:AX dr SR2:=⟨Ah func33 dm dm (vN AWs),Ah func210 dm dm (AGg AWv),VB⟩
section
variable (x y z a b:Nat) (i:Bool)
theorem AWw:AJ dr (AG SR2 KG) f211 [D0 x y z,Ax a b i] dz 500=some ([(decide (z=0),true)],.val true (.num 6 a::.num 6 b::uO)):=dm
theorem AWx:AJ dr (AG SR2 KG) f211 [D0 x y z,Ax a b i] fe 500=some ([(decide (z=0),false),(decide (nH x z a=0),true),(decide (nR y z b=0),true)],J_ (Bw (B7 x y z))):=dm
theorem AWy:AJ dr (AG SR2 KG) f211 [D0 x y z,Ax a b i] fl 500=some ([(decide (z=0),false),(decide (nH x z a=0),true),(decide (nR y z b=0),false)],.val true (List.replicate 18 (.n .u64 0))):=dm
theorem AWz:AJ dr (AG SR2 KG) f211 [D0 x y z,Ax a b i] ef 500=some ([(decide (z=0),false),(decide (nH x z a=0),false)],D0 (OA x (nH x z a) (nR y z b)) (U9 x y (nH x z a) (nR y z b)) (Ae z (nH x z a))):=dm
end
theorem AW0 {x y z a b:Nat} {i:Bool} (hz:z<pN) (ha:a<pN) (hb:b<pN):AT dr 211 [D0 x y z,Ax a b i] (J_ (F0 (B7 x y z) (tf a) (tf b))):=by
 have eh:=AGh x y z a;have er:=AGi x y z b;have zh:=Mu (n:=nH x z a) (FQ _ _)
 have zr:=Mu (n:=nR y z b) (FQ _ _)
 rw [eh] at zh;rw [er] at zr;unfold F0;by_cases h0:z=0
 ·rw [jo (show (B7 x y z).z=0 from (Mu hz).1 h0),← Pz (j:=⟨tf a,tf b,1⟩) ha hb (show 1<pN by decide) rfl rfl D6]
  exact fC (AN (AH VC C9) AB func211 (AWw x y z a b i) ⟨jm h0,trivial⟩ rfl) rfl
 ·rw [jn (show ¬ (B7 x y z).z=0 from fun e=>h0 ((Mu hz).2 e))]
  by_cases hh:nH x z a=0
  ·rw [jo (zh.1 hh)];by_cases hr:nR y z b=0
   ·rw [jo (zr.1 hr)];exact AN (AH VC C9) AB func211 (AWx x y z a b i) ⟨jq h0,jm hh,jm hr,trivial⟩ rfl
   ·rw [jn (fun e=>hr (zr.2 e)),← Pz (j:=⟨0,0,0⟩) C6 C6 C6 tf_zero tf_zero tf_zero]
    exact fC (AN (AH VC C9) AB func211 (AWy x y z a b i) ⟨jq h0,jm hh,jq hr,trivial⟩ rfl) dm
  ·rw [jn (fun e=>hh (zh.2 e)),← Pz (j:=⟨pX (B7 x y z).x (pH (B7 x y z) (tf a)) (pR (B7 x y z) (tf b)),pY (B7 x y z).x (B7 x y z).y (pH (B7 x y z) (tf a)) (pR (B7 x y z) (tf b)),(B7 x y z).z*pH (B7 x y z) (tf a)⟩)
    (x:=OA x (nH x z a) (nR y z b)) (y:=U9 x y (nH x z a) (nR y z b)) (z:=Ae z (nH x z a)) (FQ _ _) (FQ _ _) (LO _ _) ?_ ?_ ?_]
   ·exact AN (AH VC C9) AB func211 (AWz x y z a b i) ⟨jq h0,jq hh,trivial⟩ rfl
   ·unfold OA pX;simp only [EW,Bu,Hz,eh,er];rfl
   ·unfold U9 OA pY pX;simp only [EW,Bu,Hz,eh,er];rfl
   ·rw [Bu,eh];rfl
theorem AW1 {f:gp} (h:∀ (x y z a b:Nat) (i:Bool),z<pN→a<pN→b<pN→AT dr f [D0 x y z,Ax a b i] (J_ (F0 (B7 x y z) (tf a) (tf b)))):∀ args c v,U_ args=some (c,v)→AM c→AT dr f args v:=by
 intro args c v hs hc us w ha;unfold U_ at hs;split at hs;case h_2=>cases hs
 rename_i a b;split at hs;case h_2=>cases hs
 rename_i x y z p q i hx hy;injection hs with hs;injection hs with h1 h2;subst h1;subst h2;obtain ⟨u1,jf,r1,⟨u2,jg,r2,ha,rfl⟩,rfl⟩:=ha;exact h x y z p q i (kj hc.1) (kj hc.2.1) (kj hc.2.2.1) _ w ⟨u1,_,U8 hx r1,⟨u2,_,(G1 hy r2).1,ha,rfl⟩,rfl⟩
noncomputable def SR3:dw:=(211,FO U_)::SR2
theorem P1:AX dr SR3:=⟨GK func211 dm dm (AW1 fun _ _ _ _ _ _=>AW0),VC⟩
noncomputable def SN:dw:=SR3
theorem AW2:AX dr SN:=P1
def AW3:List AV→Option AV
 | []=>some (.val false [.b true])
 | _=>none
noncomputable def SA12:dw:=SN
theorem AW4:AX dr SA12:=AW2
noncomputable def AW5:List Item:=B6 (AZ dr (AG SR3 KG) (some 0) 500 1 none (Ak f150 [AQ 0 0 0 0,Ax 0 0 false] (BE []) 1 ef))
noncomputable def qmT (ic n m:Nat) (i:Int):List AV:=.val false [.sl 0 ic n m]::.any::.any::.val false [.p 1 0]::.val false [.p 2 0]::.val false [.n .i64 0]::.any::.val false [.p 3 0]::.val false [.p 4 0]::.val false [.v (.int .i64 i)]::List.replicate (f150.ntmps-10) .any
noncomputable def qmH (xs:dt) (x y:Nat) (b:Bool) (P:Pt FP):Heap:=[(0,some (An [.seq .u64 xs])),(1,some ⟨42,[.num 6 x,.num 6 y,.v (.bool b)],false⟩),(2,some ⟨42,FR false,false⟩),(3,some ⟨42,[.num 6 (A8 P),.num 6 (Av P),.v (.bool (Ao P))],false⟩)]
noncomputable def OD (x y:Nat) (b:Bool) (ic n m:Nat) (xs:dt) (P:Pt FP) (out:List Ch) (i:Int) (ie:List Bool):h_:=⟨AW5,⟨qmT ic n m i,List.append (qmH xs x y b P) [(4,some ⟨192,out,false⟩)],5,ie⟩⟩
theorem AW8 (x y:Nat) (i:Bool) (ic n m:Nat) (xs:dt):AZ dr (AG SR3 KG) (some 0) 500 1 (some ([0,3,4,5,7,8,9],[0,1,2,3,4],5)) (Ak f150 (Mv x y i ic n m) (BE xs) 1 ef) =
 some ([(!BH (AL x y i),false),(i,false),(AK .i64 n,true)],[],OD x y i ic n m xs (AL x y i) fE (wI (wI (64*(n:Int))-1)) []):=dm
theorem AW9 (x y:Nat) (i:Bool) (ic n m:Nat) (xs:dt):AU dr (AG SR3 KG) f150 500 1 [] (Ak f150 (Mv x y i ic n m) (BE xs) 1 dz) =
 some ([(!BH (AL x y i),true)],[],.tup [(true,FR false),(false,[.n .i64 120])],[]):=dm
theorem AW_ (x y:Nat) (i:Bool) (ic n m:Nat) (xs:dt):AU dr (AG SR3 KG) f150 500 1 [] (Ak f150 (Mv x y i ic n m) (BE xs) 1 ee) =
 some ([(!BH (AL x y i),false),(i,true)],[],.tup [(true,FR true),(false,[.n .i64 0])],[]):=dm
def VD (ic n:Nat) (xs:dt) (i:Int) (bit:Bool) (r:du):du:=(decide (0≤i),true)::(true,true)::(decide (0≤wI (Int.tdiv i 64)∧wI (Int.tdiv i 64)<n),true) ::
 (decide (ic+(wI (Int.tdiv i 64)).toNat*1<xs.length),true)::(decide (0≤i∧(0:Int)<64),true)::(decide (0≤AW false .u64 (Int.tmod i 64)∧0≤CU xs ic i),true)::(decide (LQ xs ic i=1),bit)::r
section
variable (x y:Nat) (b:Bool) (ic n m:Nat) (xs:dt) (P:Pt FP) (j:J FP) (i:Int)
theorem AW':AZ dr (AG SR3 KG) (some 0) 500 1 (some ([0,3,4,5,7,8,9],[0,1,2,3,4],5)) (OD x y b ic n m xs P (jC j) i eg) =
 some (VD ic n xs i false [],[],OD x y b ic n m xs P (jC (Bw (HP j))) (wI (i-1)) []):=dm
theorem AXA:AZ dr (AG SR3 KG) (some 0) 500 1 (some ([0,3,4,5,7,8,9],[0,1,2,3,4],5)) (OD x y b ic n m xs P (jC j) i d_) =
 some (VD ic n xs i true [(decide ((Bw (HP j)).z.val<pN),true),(decide (A8 P<pN),true),(decide (Av P<pN),true)],[],OD x y b ic n m xs P (jC (fF j P)) (wI (i-1)) []):=dm
theorem AXB:AU dr (AG SR3 KG) f150 500 1 [] (OD x y b ic n m xs P (jC j) i ee) =
 some ([(decide (0≤i),false),(decide (j.z.val=0),true)],[],.tup [(true,FR true),(false,[.n .i64 0])],[]):=dm
theorem AXC:AU dr (AG SR3 KG) f150 500 1 [] (OD x y b ic n m xs P (jC j) i ef) =
 some ([(decide (0≤i),false),(decide (j.z.val=0),false)],[],.tup [(true,[.num 6 (Ae j.x.val (Ae (Bl j.z.val) (Bl j.z.val))),.num 6 (Ae j.y.val (Ae (Ae (Bl j.z.val) (Bl j.z.val)) (Bl j.z.val))),.b false]),(false,[.n .i64 0])],[]):=dm
end
theorem fL (x y:Nat) (b:Bool) (ic n m:Nat) (xs:dt) (P:Pt FP) (j:J FP) (i:Int) (p:List Bool):BW f150.ntmps (OD x y b ic n m xs P (jC j) i p).s:=AR dm
def vX (Q:Pt FP):AV:=match Q with
 | .inf=>.tup [(true,FR true),(false,[.n .i64 0])]
 | .pt a b=>.tup [(true,[.num 6 a.val,.num 6 b.val,.b false]),(false,[.n .i64 0])]
section
variable {ic n m:Nat} {xs:dt} (ip:∀ d∈xs,0≤d∧d<18446744073709551616) (ii:ic+n≤xs.length) (hn:n≤1125899906842624) {x y:Nat} {b:Bool} {P:Pt FP} (hP:Rg.On C1.b P) (hI:Ao P=false) {β0:Env} {w0:gn} (hb:∀ b,1≤b→β0 b=none)
include ip ii hn hb hP hI
theorem AXD:∀ (c:Nat) (j:J FP),J' P (AI (AA xs ic n)) c j→c≤64*n→gz dr 150 β0 w0 (BA β0 w0 [] (vX (smul (AI (AA xs ic n)) P)) []) f150.ntmps [] (OD x y b ic n m xs P (jC j) ((c:Int)-1) []):=by
 intro c;induction c with
 | zero =>
  intro j hj _;unfold J' at hj;rw [kx,ld] at hj;rw [← hj];by_cases h0:j.z.val=0
  ·have hz:j.z=0:=Mt.1 h0
   rw [G0 hz];exact Ai ee (A6 (AH P1 C9) AB func150 (AXB ..) ⟨rfl,jm h0,trivial⟩ (fL ..) hb jl)
  ·have hz:j.z≠0:=fun e=>h0 (Mt.2 e)
   rw [Ig hz];have e:vX (.pt (j.x*(FD.inv j.z*FD.inv j.z)) (j.y*((FD.inv j.z*FD.inv j.z)*FD.inv j.z)))=.tup [(true,[.num 6 (Ae j.x.val (Ae (Bl j.z.val) (Bl j.z.val))),.num 6 (Ae j.y.val (Ae (Ae (Bl j.z.val) (Bl j.z.val)) (Bl j.z.val))),.b false]),(false,[.n .i64 0])]:=by
    have ei:tf (Bl j.z.val)=FD.inv j.z:=by rw [YL j.z.isLt,Bn];rfl
    have e1:Ae j.x.val (Ae (Bl j.z.val) (Bl j.z.val))=(j.x*(FD.inv j.z*FD.inv j.z):FP).val:=N2 (LO _ _) (Fin.isLt _) (by rw [Bu,Bu,ei,Bn,Bn])
    have e2:Ae j.y.val (Ae (Ae (Bl j.z.val) (Bl j.z.val)) (Bl j.z.val))=(j.y*((FD.inv j.z*FD.inv j.z)*FD.inv j.z):FP).val:=N2 (LO _ _) (Fin.isLt _) (by rw [Bu,Bu,Bu,ei,Bn,Bn])
    rw [e1,e2];rfl
   rw [e];exact Ai ef (A6 (AH P1 C9) AB func150 (AXC ..) ⟨rfl,jq h0,trivial⟩ (fL ..) hb jl)
 | succ c ih =>
  intro j hj hc;have hi:((c+1:Nat):Int)-1=(c:Int):=dn
  rw [hi];have jb:∀ d∈AA xs ic n,0≤d∧d<18446744073709551616:=DG ip
  have hq:Int.tdiv (c:Int) 64=((c / 64:Nat):Int):=by rw [qk dn];rfl
  have hr:Int.tmod (c:Int) 64=((c % 64:Nat):Int):=by rw [o_ dn];rfl
  have hw:wI (Int.tdiv (c:Int) 64)=((c / 64:Nat):Int):=by rw [hq];exact Au dn
  have hjn:c / 64<n:=dn
  have hv:CU xs ic c=(AA xs ic n).getD (c / 64) 0:=by
   unfold CU;rw [hw,jz,kt];exact (JI hjn).symm
  have hvb:0≤CU xs ic c∧CU xs ic c<18446744073709551616:=by
   rw [hv,kq];cases h:(AA xs ic n)[c / 64]? with
   | none=>simp
   | some d=>exact jb d (pm h)
  obtain ⟨hq1,hq2⟩:=X6 xs ic c;have hbit:LQ xs ic c=((AI (AA xs ic n) / 2^c % 2:Nat):Int):=by
   rw [hq1];obtain ⟨V,hV⟩:=kw hvb.1;rw [hr,← Xg _ c jb,← hv,hV,jz];exact Xe V _ dn dn
  have ja:wI ((c:Int)-1)=(c:Int)-1:=Au dn
  have iu:∀ bit r,decide (LQ xs ic c=1)=bit→AM r→AM (VD ic n xs c bit r):=by
   intro bit r hbt hr';refine ⟨by simp,rfl,?_,?_,?_,?_,hbt,hr'⟩
   ·rw [hw];simp;omega
   ·rw [hw];simp;omega
   ·simp
   ·simp only [jt];rw [hq2,hr];exact ⟨dn,hvb.1⟩
  have hdiv:AI (AA xs ic n) / 2^c=2*(AI (AA xs ic n) / 2^(c+1))+AI (AA xs ic n) / 2^c % 2:=by
   rw [lj,← ll];omega
  unfold J' at hj;have hoj:Rg.On C1.b (CF j):=by rw [hj];exact CE C1 hP _
  have htw:CF (Bw (HP j))=smul (2*(AI (AA xs ic n) / 2^(c+1))) P:=by
   rw [YP,Rz C1 hoj,hj,← JO C1 hP,qq]
  rcases nz (AI (AA xs ic n) / 2^c) with h0 | h1
  ·refine Ai eg (Aj (AH P1 C9) AB (AW' ..) (iu false [] (by rw [hbit,h0];rfl) trivial) (fL ..) hb jl fun _=>?_)
   rw [ja];refine ih _ ?_ dn
   unfold J';rw [htw,hdiv,h0];rfl
  ·refine Ai d_ (Aj (AH P1 C9) AB (AXA ..) (iu true _ (by rw [hbit,h1];rfl) ⟨jm (Bw (HP j)).z.isLt,jm (Py P),jm (eU P),trivial⟩) (fL ..) hb jl fun _=>?_)
   rw [ja];refine ih _ ?_ dn
   unfold J' fF;rw [YP (Bw (HP j)),U3 C1 (by rw [htw];exact CE C1 hP _),htw,hdiv,h1]
   cases P with
   | inf=>cases hI
   | pt a b =>
    show add _ (.pt (tf a.val) (tf b.val))=_;rw [Bn,Bn];rfl
end
theorem AGt {β:Env} {Q:Pt FP} {u:gq} (h:AO β (vX Q) u):AO β (Mw Q 0) u:=by
 cases Q with
 | inf=>exact CQ (fun _ q=>(G1 (x:=0) (y:=0) (i:=true) dm q).1) (fun _ q=>EM rfl q) h
 | pt a b=>exact CQ (fun _ q=>(G1 (x:=a.val) (y:=b.val) (i:=false) rfl q).1) (fun _ q=>EM rfl q) h
theorem AXE {ic n m:Nat} {xs:dt} (ip:∀ d∈xs,0≤d∧d<18446744073709551616) (ii:ic+n≤xs.length) (hn:n≤1125899906842624) (x y:Nat) (i:Bool) :
  Ab dr 150 (Mv x y i ic n m) (BE xs) 1 [] (Mw (HQ (AI (AA xs ic n)) (AL x y i)) (HR (AL x y i))) []:=by
 have e1:=AW8 x y i ic n m xs;have e2:=AW9 x y i ic n m xs;have e3:=AW_ x y i ic n m xs;cases ho:BH (AL x y i) with
 | false =>
  unfold HQ HR;rw [jn (by rw [ho];exact kb),jn (by rw [ho];exact kb)]
  refine BN (A_ (ie:=dz) func150 dm dm fun β0 w0 hb =>
   A6 (AH P1 C9) AB func150 e2 ⟨by rw [ho];rfl,trivial⟩ (AR dm) hb jl) fun β u hu=>?_
  exact CQ (fun _ q=>(G1 (x:=0) (y:=0) (i:=false) dm q).1) (fun _ q=>EM rfl q) hu
 | true =>
  have hP:=(Ih _).1 ho
  unfold HQ HR;rw [jo ho,jo ho];cases i with
  | true =>
   rw [show AL x y true=.inf from rfl,Gz]
   exact BN (A_ (ie:=ee) func150 dm dm fun β0 w0 hb =>
    A6 (AH P1 C9) AB func150 e3 ⟨by rw [ho];rfl,rfl,trivial⟩ (AR dm) hb jl) fun β u hu=>AGt (Q:=.inf) hu
  | false =>
   refine BN (A_ (ie:=ef) func150 dm dm fun β0 w0 hb=>?_) fun β u hu=>AGt hu
   refine Aj (AH P1 C9) AB e1 ⟨by rw [ho];rfl,rfl,?_,trivial⟩ (AR dm) hb jl fun _=>?_
   ·simp only [AK,jx,jt];omega
   ·have e4:wI (wI (64*(n:Int))-1)=((64*n:Nat):Int)-1:=by
     rw [Au (z:=64*(n:Int)) dn,Au dn];omega
    rw [e4];refine fD AGl (AXD ip ii hn hP rfl hb (64*n) ⟨0,0,0⟩ ?_ (ju _))
    unfold J';have hl:=JH (AA xs ic n) (DG ip)
    have hl2:AI (AA xs ic n)<2^(64*n):=by
     unfold AA at hl ⊢
     rwa [kv,lk,mr dn] at hl
    rw [G0 rfl,mf hl2];rfl
noncomputable def SR4:dw:=(150,D3 (fH fun l P=>Mw (HQ (AI l) P) (HR P)))::SA12
theorem AXF:AX dr SR4:=⟨EK (AGn func150 dm dm (fun _ _=>by kernel_rfl) fun _ _ _ _ x y i hx hl hn=>AXE hx hl hn x y i),AW4⟩
open Ex Num
noncomputable abbrev OE:ia:=AG S22 K0
def R5 (ls ms:dt):Heap:=[(0,some ⟨38,[.seq .u64 ls],false⟩),(1,some (An [.seq .u64 ms]))]
def fM (n m N M:Nat):List AV:=[.val false [.sl 0 0 N M],.val false [.sl 1 0 n m],.val false [.v (.int .i64 (n:Int))]]
noncomputable def AXG:List Item:=B6 (AZ dr OE (some 0) 100 2 none (Ak f234 (fM 0 0 0 0) (R5 [] []) 2 []))
noncomputable def tkT (n m N M:Nat):List AV:=.val false [.sl 0 0 N M]::.val false [.sl 1 0 n m]::.val false [.v (.int .i64 n)]::List.replicate (f234.ntmps-3) .any
noncomputable def OF (ls ms:dt) (n m N M:Nat) (p:List Bool):h_:=⟨AXG,⟨tkT n m N M,R5 ls ms,2,p⟩⟩
noncomputable def AGu:List Item:=B6 (AZ dr OE (some 0) 200 2 none (OF [] [] 0 0 0 0 d_))
noncomputable def YR (n m N M:Nat) (q b i c:Ch):List AV:=.val false [.sl 0 0 N M]::.val false [.sl 1 0 n m]::.val false [.v (.int .i64 n)]::.any::.any::.any::.val false [q]::.any::.val false [b]::.val false [i]::.val false [c]::List.replicate (f234.ntmps-11) .any
noncomputable def VE (ls ms:dt) (n m N M:Nat) (q b i c:Int) (p:List Bool):h_:=⟨AGu,⟨YR n m N M (.v (.int .u64 q)) (.v (.int .u64 b)) (.v (.int .i64 i)) (.v (.int .u64 c)),R5 ls ms,2,p⟩⟩
noncomputable def fN (ls ms:dt) (n m N M:Nat) (q:Ch):h_:=⟨AGu,⟨YR n m N M q (.n .u64 0) (.n .i64 0) (.n .u64 0),R5 ls ms,2,[]⟩⟩
abbrev kA:Option (List Nat×List Nat×Nat):=some ([0,1,2],[0,1],2)
abbrev kB:Option (List Nat×List Nat×Nat):=some ([0,1,2,6,8,9,10],[0,1],2)
def fO (x:Int):Int:=if 1 > x then 1 else x
def nI (n:Nat):Int:=wI ((n:Int)-1)
def OG (ms:dt) (n:Nat):Int:=ms.getD (0+(nI n).toNat*1) 0
def P3 (ls:dt) (n:Nat):Int:=ls.getD (0+(n:Int).toNat*1) 0
def vY (ls ms:dt) (n:Nat):Int:=(((P3 ls n).toNat*Cx+(ls.getD (0+(nI n).toNat*1) 0).toNat) / (mW (OG ms n+1)).toNat:Nat)
section
variable (ls ms:dt) (n m N M:Nat) (q b i c:Int)
def YS (d:Bool) (r:du):du:=(Nat.ble (0+N) ls.length,true)::(Nat.ble (0+n) ms.length,true)::(AK .i64 N,true)::(AK .i64 n,true)::(decide (0≤EO (AI (AA ls 0 N)) (AI (AA ms 0 n))),d)::r
def fP (d:Bool) (r:du):du:=(decide (0≤nI n∧nI n<n),true)::(decide (0+(nI n).toNat*1<ms.length),true)::(decide (mW (OG ms n+1)=0),d)::(decide (0≤(n:Int)∧(n:Int)<N),true)::(decide (0+(n:Int).toNat*1<ls.length),true)::r
theorem AXI:AZ dr OE (some 0) 100 2 kA (Ak f234 (fM n m N M) (R5 ls ms) 2 [])=some ([],[],OF ls ms n m N M []):=dm
theorem AXJ:AZ dr OE (some 0) 200 2 kB (OF ls ms n m N M d_)=some (YS ls ms n N true (fP ls ms n N true []),[],fN ls ms n m N M (.v (.int .u64 (fO (P3 ls n))))):=dm
theorem AXK:AZ dr OE (some 0) 200 2 kB (OF ls ms n m N M ew)=some (YS ls ms n N true (fP ls ms n N false [(decide (P3 ls n<mW (OG ms n+1)),true),(decide (0≤(n:Int)∧(n:Int)<N),true),(decide (0+(n:Int).toNat*1<ls.length),true),
 (decide (0≤nI n∧nI n<N),true),(decide (0+(nI n).toNat*1<ls.length),true),(decide (P3 ls n<mW (OG ms n+1)),true)]),[],fN ls ms n m N M (.v (.int .u64 (fO (vY ls ms n))))):=dm
theorem AXL:AZ dr OE (some 0) 200 2 kB (OF ls ms n m N M e_)=some (YS ls ms n N true (fP ls ms n N false [(decide (P3 ls n<mW (OG ms n+1)),false)]),[],fN ls ms n m N M (.n .u64 1)):=dm
theorem AXM:AU dr OE f234 200 2 [0] (OF ls ms n m N M dx)=some (YS ls ms n N false [],[],.tup [],[(0,some ⟨38,[.seq .u64 ls],false⟩)]):=dm
def vZ:Int:=ls.getD (0+i.toNat*1) 0
def v0:Int:=CT (FA q (BS ms 0 n i)) c 0
theorem AXN:AZ dr OE (some 0) 200 2 kB (VE ls ms n m N M q b i c dz) =
 some ([(AK .i64 N,true),(decide (i<N),true),(Nat.ble (0+n) ms.length,true),(AK .i64 n,true),(decide (0≤i),true),(true,true),(decide (0≤i∧i<N),true),(decide (0+i.toNat*1<ls.length),true),(CL b,true),(decide (0≤i∧i<N),true),(decide (0+i.toNat*1<ls.length),true)],[0],
  VE (ls.set (0+i.toNat*1) (EA (vZ ls i) (v0 ms n q i c) b)) ms n m N M q (IR (vZ ls i) (v0 ms n q i c) b) (wI (i+1)) (mW (Jx q (BS ms 0 n i)+DQ (FA q (BS ms 0 n i)) c 0)) []):=dm
theorem AXO:AZ dr OE (some 0) 200 2 kA (VE ls ms n m N M q b i c dx)=some ([(AK .i64 N,true),(decide (i<N),false)],[],OF ls ms n m N M []):=dm
end
def G2 (q M i:Nat):Nat:=q*(M % 2^(64*i)) / 2^(64*i)
theorem fQ (i:Nat):0<2^(64*i):=m_ dp
theorem AGv (i:Nat):2^(64*(i+1))=2^(64*i)*18446744073709551616:=by rw [show 64*(i+1)=64*i+64 by omega,kc]
theorem AXP {q:Nat} (hq:q<18446744073709551616) (M i:Nat):G2 q M i<18446744073709551616:=by
 unfold G2;refine mb ?_
 have h1:=ki M (fQ i)
 rcases md q with rfl | h0
 ·rw [p_];exact Nat.mul_pos (fQ i) dp
 ·calc q*(M % 2^(64*i))<q*2^(64*i):=Nat.mul_lt_mul_of_pos_left h1 h0
   _≤2^(64*i)*18446744073709551616:=by rw [ko];exact nr _ dn
theorem AXQ (q M Q W:Nat) (hQ:0<Q):q*(M % (Q*W)) / (Q*W)=(q*(M / Q % W)+q*(M % Q) / Q) / W∧q*M / Q % W=(q*(M / Q % W)+q*(M % Q) / Q) % W:=by
 have e1:q*(M % (Q*W))=q*(M % Q)+Q*(q*(M / Q % W)):=by rw [Nat.mod_mul,oe,nb]
 have e2:q*(M % (Q*W)) / Q=q*(M / Q % W)+q*(M % Q) / Q:=by rw [e1,ut _ _ hQ];omega
 refine ⟨by rw [← ll,e2],?_⟩
 have e3:q*M=q*(M % (Q*W))+Q*(W*(q*(M / (Q*W)))):=by
  have h:=mv M (Q*W)
  have h2:q*M=q*(Q*W*(M / (Q*W))+M % (Q*W)):=by rw [h]
  rw [h2,oe,Nat.add_comm];congr 1
  simp only [nb,lm]
 rw [e3,ut _ _ hQ,uv,e2]
theorem AXR {q:Nat} (hq:q<18446744073709551616) (M i:Nat):CT (FA q (AE M i)) (G2 q M i) 0=AE (q*M) i∧mW (Jx q (AE M i)+DQ (FA q (AE M i)) (G2 q M i) 0)=G2 q M (i+1):=by
 obtain ⟨h1,h2,h3⟩:=N4 (a:=(q:Int)) (q:=AE M i) (c:=G2 q M i) dn (Bx M i) (by have:=AXP hq M i;omega)
 obtain ⟨g1,g2⟩:=AXQ q M (2^(64*i)) 18446744073709551616 (fQ i)
 have e:G2 q M (i+1)=(q*(M / 2^(64*i) % 18446744073709551616)+G2 q M i) / 18446744073709551616:=by unfold G2;rw [AGv];exact g1
 have e':((q*(M / 2^(64*i) % 18446744073709551616)+G2 q M i:Nat):Int)=q*AE M i+G2 q M i:=by rw [qo,lu];rfl
 have g2':AE (q*M) i=((q*(M / 2^(64*i) % 18446744073709551616)+G2 q M i:Nat):Int) % 18446744073709551616:=by
  show ((q*M / 2^(64*i) % 2^64:Nat):Int)=_;rw [show (2:Nat)^64=18446744073709551616 from rfl,g2];rfl
 have e'':((G2 q M (i+1):Nat):Int)=((q*(M / 2^(64*i) % 18446744073709551616)+G2 q M i:Nat):Int) / 18446744073709551616:=by rw [e];rfl
 rw [g2',e'',e',h1];constructor<;>omega
def wl (k x:Nat):dt:=(List.range k).map (AE x)
theorem AGw (k x:Nat):(wl k x).length=k:=by simp [wl]
theorem AXS {k x:Nat}:∀ d∈wl k x,0≤d∧d<18446744073709551616:=fun d hd=>by
 obtain ⟨i,_,rfl⟩:=ml.1 hd;exact Bx x i
theorem v5:∀ {l:dt},(∀ d∈l,0≤d∧d<18446744073709551616)→((AI l:Nat):Int)=Bj l
 | [],_=>rfl
 | d::r,h=>by
  have hd:=h d (by simp)
  have ih:=v5 (l:=r) fun d h'=>h d (by simp [h'])
  simp only [AI,Bj];omega
theorem v6 {k x:Nat} (h:x<2^(64*k)):AI (wl k x)=x:=by
 have:=v5 (AXS (k:=k) (x:=x))
 rw [show wl k x=(List.range k).map (AE x) from rfl,XT k x h] at this
 exact Int.ofNat.inj this
theorem AXT {l:dt} {n:Nat} (h:l.length=n):AA l 0 n=l:=by subst h;simp [AA]
theorem AGx {k x i:Nat} (h:i<k):(wl k x).getD i 0=AE x i:=by simp [wl,List.getD_eq_getElem?_getD,h]
theorem AXU {l:dt} (h:∀ d∈l,0≤d∧d<18446744073709551616):l=wl l.length (AI l):=(XU l _ h (v5 h)).1
def HS (L T N i:Nat):dt:=(List.range N).map fun j=>if j<i then B3 L T j else AE L j
theorem AXV {L T N i:Nat} (h:i<N):(HS L T N i).getD i 0=AE L i:=by simp [HS,List.getD_eq_getElem?_getD,h]
theorem AXW {L T N i:Nat} (h:i<N):(HS L T N i).set i (B3 L T i)=HS L T N (i+1):=by
 refine tn fun j=>?_
 rw [List.getElem?_set];by_cases hj:j<N
 ·by_cases e:i=j
  ·subst e;simp [HS,h]
  ·simp only [HS,qe,List.getElem?_range hj,Option.map_some,jn e];by_cases q:j<i
   ·rw [jo q,jo dn]
   ·rw [jn q,jn dn]
 ·have e:i≠j:=dn
  rw [jn e];simp [HS,hj]
theorem AXX (L T N:Nat):HS L T N 0=wl N L:=by simp [HS,wl]
theorem AXY {L T N:Nat} (hT:T≤L) (hL:L<2^(64*N)):HS L T N N=wl N (L-T):=by
 have e:HS L T N N=(List.range N).map (B3 L T):=nx fun j hj=>jo (mj.1 hj)
 have h:=AFY (k:=N) hL (qj hT hL)
 have e2:(L+(2^(64*N)-T)) % 2^(64*N)=L-T:=by
  rw [show L+(2^(64*N)-T)=(L-T)+2^(64*N) by omega,qb,jv dn]
 rw [e2] at h;have:=(XU ((List.range N).map (B3 L T)) (L-T) (fun d hd=>by obtain ⟨i,_,rfl⟩:=ml.1 hd;exact FN L T i) h).1
 rw [e,this];simp [wl]
theorem AXZ {L M Q t q:Nat} (hM:M<(t+1)*Q) (hq:q≤L / Q / (t+1)):q*M≤L:=by
 calc q*M≤q*((t+1)*Q):=nr _ dn
  _=q*(t+1)*Q:=by rw [lm]
  _≤L / Q*Q:=my _ (mw (my _ hq) (qu _ _))
  _≤L:=qu _ _
def YT (N x:Nat):Heap:=[(0,some ⟨38,[.seq .u64 (wl N x)],false⟩)]
section
variable {ms:dt} {n m M:Nat} (hm:∀ d∈ms,0≤d∧d<18446744073709551616) (hl:n≤ms.length) (hn:n≤1125899906842624) {V:Nat} (hV:AI (AA ms 0 n)=V) (h0:0<V) {β0:Env} {w0:gn} (hb:∀ b,2≤b→β0 b=none)
include hm hl hn hV h0 hb
omit h0 in
theorem AXa {L q:Nat} (hq:q<18446744073709551616) {R:Ending→gn→Prop} (hk:gz dr 234 β0 w0 R f234.ntmps [0] (OF (HS L (q*V) (n+1) (n+1)) ms n m (n+1) M [])) :
  ∀ r i,i+r=n+1→gz dr 234 β0 w0 R f234.ntmps [0] (VE (HS L (q*V) (n+1) i) ms n m (n+1) M q (CC L (q*V) i) i (G2 q V i) []):=by
 intro r;induction r with
 | zero =>
  intro i hi;obtain rfl:i=n+1:=dn
  exact Ai dx (Aj (AH Mp Ac) AB (AXO ..) ⟨by simp only [AK,jx,jt];omega,by simp,trivial⟩ (AR dm) hb jl fun _=>hk)
 | succ r ih =>
  intro i hi;obtain ⟨w1,w2⟩:=AXR hq V i;have ha:BS ms 0 n i=AE V i:=by rw [← hV];exact sL (ic:=0) (n:=n) hm i
  have ei:0+(i:Int).toNat*1=i:=dn
  have ii:(HS L (q*V) (n+1) i).length=n+1:=by simp [HS]
  refine Ai dz (Aj (AH Mp Ac) AB (AXN ..) ?_ (AR dm) hb (fun k h=>by simpa using h) fun _=>?_)
  ·rw [ei,ii];refine ⟨by simp only [AK,jx,jt];omega,by simp<;>omega,jr dn,by simp only [AK,jx,jt];omega,by simp,rfl,by simp<;>omega,by simp<;>omega,DU (GH L _ i),by simp<;>omega,by simp<;>omega,trivial⟩
  ·unfold vZ v0;rw [ei,ha,w1,w2,AXV dn,Au (z:=(i:Int)+1) dn];show gz _ _ _ _ _ _ _ (VE ((HS L (q*V) (n+1) i).set i (B3 L (q*V) i)) _ _ _ _ _ _ (CC L (q*V) (i+1)) _ _ _);rw [AXW dn];exact ih (i+1) dn
theorem AXb:∀ L,L<2^(64*(n+1))→gz dr 234 β0 w0 (BA β0 w0 [0] (.tup []) (YT (n+1) (L % V))) f234.ntmps [0] (OF (wl (n+1) L) ms n m (n+1) M []):=by
 intro L;induction L using Nat.strongRecOn with
 | _ L ih =>
 intro hL;have ii:=AGw (n+1) L
 have hwin:AI (AA (wl (n+1) L) 0 (n+1))=L:=by rw [AXT ii,v6 hL]
 have hbN:AK .i64 ((n+1:Nat):Int)=true:=by simp only [AK,jx,jt];omega
 have hbn:AK .i64 (n:Int)=true:=by simp only [AK,jx,jt];omega
 have hC:∀ d r,decide (V≤L)=d→AM r→AM (YS (wl (n+1) L) ms n (n+1) d r):=by
  intro d r hd hr;refine ⟨jr dn,jr dn,hbN,hbn,?_,hr⟩
  rw [hwin,hV,← hd];unfold EO;by_cases h:V≤L
  ·rw [jn dn];split<;>simp [h]
  ·rw [jo dn];simp [h]
 by_cases je:V≤L
 ·have n1:1≤n:=by
   rcases md n with e | e
   ·subst e;rw [show AA ms 0 0=[] by simp [AA]] at hV;simp [AI] at hV;omega
   ·exact e
  have hnI:nI n=((n-1:Nat):Int):=by unfold nI;rw [Au dn];omega
  have htm:OG ms n=AE V (n-1):=by
   have:=sL (ic:=0) (n:=n) hm (n-1)
   rw [hV] at this;unfold OG;rw [hnI,jz,kt,← JI (n:=n) dn];unfold BS AA at this;rw [jz] at this;exact this
  have htl:P3 (wl (n+1) L) n=AE L n:=by unfold P3;rw [jz,kt,kr,AGx dn]
  have htl2:(wl (n+1) L).getD (0+(nI n).toNat*1) 0=AE L (n-1):=by rw [hnI,jz,kt,kr,AGx dn]
  have bt:=Bx V (n-1)
  have bl:=Bx L n;have hVlt:V<2^(64*n):=by
   have:=JH (AA ms 0 n) (DG hm)
   rw [hV] at this;unfold AA at this
   rwa [kv,lk,mr dn] at this
  obtain ⟨k,rfl⟩:∃ k,n=k+1:=⟨n-1,dn⟩
  rw [Nat.add_sub_cancel] at *
  have tV:AE V k=((V / 2^(64*k):Nat):Int):=by
   show ((V / 2^(64*k) % 2^64:Nat):Int)=_;rw [jv];refine mb ?_
   rw [← kc];rwa [show 64*k+64=64*(k+1) by omega]
  have tL:AE L (k+1)=((L / 2^(64*(k+1)):Nat):Int):=by
   show ((L / 2^(64*(k+1)) % 2^64:Nat):Int)=_;rw [jv];refine mb ?_
   rw [← kc];rwa [show 64*(k+1)+64=64*(k+1+1) by omega]
  have tL2:((L / 2^(64*k):Nat):Int)=AE L (k+1)*18446744073709551616+AE L k:=by
   rw [tL];show _=_+((L / 2^(64*k) % 2^64:Nat):Int);rw [AGv,← ll];omega
  have hMb:V<(V / 2^(64*k)+1)*2^(64*k):=by rw [ko];exact Nat.lt_mul_div_succ V (fQ k)
  have hD:∀ d r,decide (AE V k+1=18446744073709551616)=d→AM r→AM (fP (wl (k+1+1) L) ms (k+1) (k+1+1) d r):=by
   intro d r hd hr;refine ⟨by rw [hnI];simp<;>omega,by rw [hnI];simp<;>omega,?_,by simp<;>omega,by rw [ii];simp<;>omega,hr⟩
   rw [htm,← hd,Fu];by_cases h:AE V k+1=18446744073709551616
   ·simp [h]
   ·rw [jq h,jq dn]
  have fin:∀ (q:Nat),1≤q→q<18446744073709551616→q*V≤L→gz dr 234 β0 w0 (BA β0 w0 [0] (.tup []) (YT (k+1+1) (L % V))) f234.ntmps [0] (VE (wl (k+1+1) L) ms (k+1) m (k+1+1) M q 0 0 0 []):=by
   intro q q1 q2 q3;have iy:0<q*V:=Nat.mul_pos q1 h0
   have hh:=ih (L-q*V) dn dn
   have e:(L-q*V) % V=L % V:=by
    have:=Nat.sub_mul_mod (x:=L) (n:=V) (k:=q) (by rw [ko];exact q3)
    rwa [ko] at this
   rw [e,← AXY q3 hL] at hh;have:=AXa hm hl hn hV hb (m:=m) (M:=M) q2 hh (k+1+1) 0 dn
   rw [AXX] at this;have c0:((G2 q V 0:Nat):Int)=0:=by unfold G2;simp [Nat.mod_one]
   rw [c0] at this;exact this
  have go:∀ (qc:Ch) (q:Nat),nv qc=.v (.int .u64 q)→1≤q→q<18446744073709551616→q*V≤L→gz dr 234 β0 w0 (BA β0 w0 [0] (.tup []) (YT (k+1+1) (L % V))) f234.ntmps [0] (fN (wl (k+1+1) L) ms (k+1) m (k+1+1) M qc):=by
   intro qc q hqc q1 q2 q3;refine Hv ?_
   have:=fin q q1 q2 q3
   have e:(YR (k+1) m (k+1+1) M qc (.n .u64 0) (.n .i64 0) (.n .u64 0)).map GL=YR (k+1) m (k+1+1) M (.v (.int .u64 q)) (.v (.int .u64 0)) (.v (.int .i64 0)) (.v (.int .u64 0)):=by
    unfold YR;simp only [lz,List.map_replicate,GL,List.map_nil,hqc];rfl
   rw [e];exact this
  have one:∀ q:Nat,q<18446744073709551616→q*V≤L→1≤max 1 q∧max 1 q<18446744073709551616∧max 1 q*V≤L∧fO (q:Int)=((max 1 q:Nat):Int):=by
   intro q h1 h2;refine ⟨dn,dn,?_,by unfold fO;split<;>omega⟩
   rcases md q with rfl | hq
   ·simpa using je
   ·rw [Nat.max_eq_right hq];exact h2
  by_cases ht:AE V k+1=18446744073709551616
  ·have hq:L / 2^(64*(k+1))*V≤L:=mw (nr _ dn) (qu L (2^(64*(k+1))))
   obtain ⟨a1,a2,a3,a4⟩:=one (L / 2^(64*(k+1))) dn hq
   refine Ai d_ (Aj (AH Mp Ac) AB (AXJ ..) (hC true _ (jm je) (hD true _ (jm ht) trivial)) (AR dm) hb jl fun _=>?_)
   rw [htl,tL,a4];exact go _ _ rfl a1 a2 a3
  ·have hmw:mW (OG ms (k+1)+1)=((V / 2^(64*k)+1:Nat):Int):=by rw [htm,Fu,tV];omega
   by_cases jb:AE L (k+1)<AE V k+1
   ·have hq:vY (wl (k+1+1) L) ms (k+1)=((L / 2^(64*k) / (V / 2^(64*k)+1):Nat):Int):=by
     unfold vY;rw [hmw,htl,htl2,jz];have:(AE L (k+1)).toNat*Cx+(AE L k).toNat=L / 2^(64*k):=by
      have:=Bx L k
      unfold Cx;omega
     rw [this]
    have hb1:L / 2^(64*k) / (V / 2^(64*k)+1)<18446744073709551616:=by
     refine mb ?_
     have:=Bx L k
     omega
    obtain ⟨a1,a2,a3,a4⟩:=one _ hb1 (AXZ hMb (ju _))
    refine Ai ew (Aj (AH Mp Ac) AB (AXK ..) (hC true _ (jm je) (hD false _ (jq ht) ?_)) (AR dm) hb jl fun _=>?_)
    ·have h4:P3 (wl (k+1+1) L) (k+1)<mW (OG ms (k+1)+1):=by rw [htl,hmw];omega
     refine ⟨jm h4,by simp<;>omega,by rw [ii];simp<;>omega,by rw [hnI];simp<;>omega,by rw [hnI,ii];simp<;>omega,jm h4,trivial⟩
    ·rw [hq,a4];exact go _ _ rfl a1 a2 a3
   ·refine Ai e_ (Aj (AH Mp Ac) AB (AXL ..) (hC true _ (jm je) (hD false _ (jq ht) ⟨jq (by rw [htl,hmw];omega),trivial⟩)) (AR dm) hb jl fun _=>?_)
    exact go _ 1 rfl dn dn dn
 ·rw [jv dn];exact Ai dx (A6 (AH Mp Ac) AB func234 (AXM ..) (hC false _ (jq je) trivial) (AR dm) hb jl)
end
theorem AXc {ms:dt} {n m M:Nat} (hm:∀ d∈ms,0≤d∧d<18446744073709551616) (hl:n≤ms.length) (hn:n≤1125899906842624) (h0:0<AI (AA ms 0 n)) {ls:dt} (hls:∀ d∈ls,0≤d∧d<18446744073709551616) (ii:ls.length=n+1) :
  Ab dr 234 (fM n m (n+1) M) (R5 ls ms) 2 [0] (.tup []) (YT (n+1) (AI ls % AI (AA ms 0 n))):=by
 refine A_ (ie:=[]) func234 dm dm fun β0 w0 hb=>?_
 refine Aj (AH Mp Ac) AB (AXI ..) trivial (AR dm) hb jl fun _=>?_
 have e:=AXU hls;rw [ii] at e;have jb:=JH ls hls;rw [ii] at jb;have:=AXb hm hl hn rfl h0 (m:=m) (M:=M) (w0:=w0) hb (AI ls) jb
 rw [← e] at this;exact this
def takeSpec:ASpec:=fun args H fr ie =>
 match args with
 | [.val false [.sl k ic N _],.val false [.sl t ig n _],I]=>match Bp (some I),AF H k,AF H t with
  | some (_,.i64,i),some ⟨ty,cs,false⟩,some ⟨_,ds,_⟩=>match A' .u64 cs,A' .u64 ds,Nat.beq k t,Nat.beq ic 0&&(Nat.beq ig 0&&Nat.beq ty 38) with
   | some ls,some ms,false,true=>some (BP [k,t] 2 fr 0 [0] (.tup []) (YT N (AI ls % AI (AA ms 0 n))) [(Nat.beq N (n+1),true),(Nat.beq N ls.length,true),(Nat.ble n ms.length,true),(Nat.ble n 1125899906842624,true),(decide (i=n),true),(Nat.blt 0 (AI (AA ms 0 n)),true)] ie)
   | _,_,_,_=>none
  | _,_,_=>none
 | _=>none
theorem AXd:BI dr 234 takeSpec:=by
 refine DN func234 dm dm fun args H fr ie r h=>?_
 unfold takeSpec at h;split at h;case h_2=>cases h
 rename_i k ic N M t ig n m I;split at h;case h_2=>cases h
 rename_i c0 i ty cs ty' ds o' hI hk ht;split at h;case h_2=>cases h
 rename_i ls ms hls hms hkt hoff;injection h with h;simp only [jx] at hoff;obtain ⟨o1,o2,o3⟩:=hoff;obtain rfl:=Ar.1 o1
 obtain rfl:=Ar.1 o2
 obtain rfl:=Ar.1 o3
 refine ⟨[k,t],2,0,[0],_,_,_,ie,h.symm,fun β us w ha hg hc=>?_⟩
 obtain ⟨u1,jf,r1,⟨u2,jg,r2,⟨u3,us3,r3,ha,rfl⟩,rfl⟩,rfl⟩:=ha;obtain ⟨c1,c2,c3,c4,c5,c6,_⟩:=hc;obtain rfl:=Ar.1 c1
 have hil:i=(n:Int):=by simpa using c5
 subst hil;obtain ⟨l1,g1⟩:=J0 hg hk;obtain ⟨_,b1⟩:=DL hls g1;obtain ⟨l2,g2⟩:=J0 hg ht;obtain ⟨_,b2⟩:=DL hms g2;obtain ⟨rfl,p1⟩:=C3 (β:=β) (u:=u3) (fv r3) hI
 have jd:k≠t:=I4 hkt
 refine ⟨fM n m (n+1) M,R5 ls ms,AXc (fun d hd=>EH (b2 d hd)) (jp c3) (jp c4) (BX.1 c6) (fun d hd=>EH (b1 d hd)) (Ar.1 c2).symm,dm,
  ⟨u1,_,CV dn rfl r1,⟨u2,_,CV dn rfl r2,⟨_,us3,Az ⟨rfl,rfl,p1⟩,ha,rfl⟩,rfl⟩,rfl⟩,?_,fun j hj=>?_⟩
 ·refine XV (ρ:=[k,t]) (bs:=[⟨38,[.seq .u64 ls],false⟩,An [.seq .u64 ms]]) hg (fun j d hj=>?_) fun i j d hi hr hij hj=>?_
  ·match j,hj with
   | 0,hj =>
    injection hj with hj;subst hj;refine ⟨_,hk,.inr ⟨rfl,rfl⟩,fun l hl=>?_⟩
    obtain ⟨q1,q2⟩:=DL hls hl;exact ⟨_,[],⟨q1,q2⟩,rfl,by simp⟩
   | 1,hj =>
    injection hj with hj;subst hj;refine ⟨_,ht,.inl ⟨rfl,rfl,nofun⟩,fun l hl=>?_⟩
    obtain ⟨q1,q2⟩:=DL hms hl;exact ⟨_,[],⟨q1,q2⟩,rfl,by simp⟩
  ·match i,j,hi,hj,hij with
   | 0,1,_,_,_=>exact jd
   | 1,_,hi,_,_=>injection hi with hi;subst hi;exact absurd rfl hr
   | 0,0,_,_,q=>exact absurd rfl q
 ·match j,hj with
  | 0,_=>exact CM (hg.heap _ _ hk)
  | 1,_=>exact CM (hg.heap _ _ ht)
noncomputable def SIa:dw:=(234,takeSpec)::S22
theorem AXe:AX dr SIa:=⟨AXd,Mp⟩
noncomputable abbrev oMd:ia:=AG SIa K0
theorem fR:g_ dr oMd:=AH AXe Ac
def fS (ic n m N M:Nat):List AV:=[.val false [.sl 0 ic N M],.val false [.sl 1 0 n m]]
noncomputable def AXf:List Item:=B6 (AZ dr oMd (some 0) 100 2 none (Ak f169 (fS 0 0 0 0 0) (Gu [] []) 2 []))
noncomputable def mdT (ic n m N M:Nat) (k:Int):List AV:=.val false [.sl 0 ic N M]::.val false [.sl 1 0 n m]::.any::.any::.val false [.v (.slice none 0 0)]::.val false [.n .i64 0]::.val false [.v (.int .i64 k)]::List.replicate (f169.ntmps-7) .any
noncomputable def v7 (ic:Nat) (xs ms:dt) (n m N M:Nat) (k:Int) (p:List Bool):h_:=⟨AXf,⟨mdT ic n m N M k,Gu xs ms,2,p⟩⟩
noncomputable def AXh:List Item:=B6 (AZ dr oMd (some 0) 100 2 none (v7 0 [] [] 0 0 0 0 0 e_))
noncomputable def AXi (ic n m N M L:Nat) (k i:Int):List AV:=.val false [.sl 0 ic N M]::.val false [.sl 1 0 n m]::.any::.any::.val false [.v (.slice none 0 0)]::.val false [.n .i64 0]::.val false [.v (.int .i64 k)]::.val false [.sl 2 0 L L]::.val false [.v (.int .i64 i)]::List.replicate (f169.ntmps-9) .any
noncomputable def YU (ic:Nat) (xs ms ls:dt) (n m N M L:Nat) (k i:Int) (p:List Bool):h_:=⟨AXh,⟨AXi ic n m N M L k i,[(0,some (An [.seq .u64 xs])),(1,some (An [.seq .u64 ms])),(2,some ⟨38,[.seq .u64 ls],false⟩)],3,p⟩⟩
def fT (L:Nat) (ls:dt) (x:Int):dt:=(List.take (0+Int.toNat 1*1) ls++(List.take (Nat.min L (L-Int.toNat 1)) (List.drop 0 ls)++List.drop (0+Int.toNat 1*1+Nat.min L (L-Int.toNat 1)*1) ls)).set (0+Int.toNat 0*1) x
def v8 (L:Nat) (ls:dt):dt:=List.take (0+Int.toNat 1*1) ls++(List.take (Nat.min L (L-Int.toNat 1)) (List.drop 0 ls)++List.drop (0+Int.toNat 1*1+Nat.min L (L-Int.toNat 1)*1) ls)
def OH (n:Nat):Int:=wI ((n:Int)+1)
section
variable (ic:Nat) (xs ms ls:dt) (n m N M L:Nat) (k i:Int)
theorem AXj:AZ dr oMd (some 0) 100 2 (some ([0,1,4,5,6],[0,1],2)) (Ak f169 (fS ic n m N M) (Gu xs ms) 2 [])=some ([(AK .i64 n,true)],[],v7 ic xs ms n m N M n []):=dm
theorem AXk:AZ dr oMd (some 0) 100 2 (some ([0,1,4,5,6,7,8],[0,1,2],3)) (v7 ic xs ms n m N M k e_) =
 some ([(decide (0<k),true),(decide (0≤wI (k-1)∧wI (k-1)<n),true),(decide (0+(wI (k-1)).toNat*1<ms.length),true),(decide (ms.getD (0+(wI (k-1)).toNat*1) 0=0),false),(decide (k=0),false),(AK .i64 n,true),
  (decide (0≤OH n∧OH n≤OH n∧((8:Nat):Int)*OH n≤281474976710656∧OH n≤9223372036854775807),true),(AK .i64 N,true)],[],
  YU ic xs ms (List.replicate (OH n).toNat 0) n m N M (OH n).toNat k (wI ((N:Int)-1)) []):=dm
theorem AXl:AZ dr oMd (some 0) 100 2 (some ([0,1,4,5,6,7,8],[0,1,2],3)) (YU ic xs ms ls n m N M L k i eg) =
 some ([(decide (0≤i),true),(decide ((0:Int)≤1∧1≤(L:Int)),true),(Nat.beq L (Int.toNat 1),false),(Nat.ble (0+Nat.min L (L-Int.toNat 1)) ls.length,true),(Nat.ble (0+Int.toNat 1*1+Nat.min L (L-Int.toNat 1)*1) ls.length,true),
  (decide (0≤i∧i<N),true),(decide (ic+i.toNat*1<xs.length),true),(decide ((0:Int)≤0∧0<(L:Int)),true),(decide (0+Int.toNat 0*1<(v8 L ls).length),true),(decide (0≤k∧k≤m),true),(true,true),
  (Nat.beq L (k.toNat-0+1),true),(Nat.beq L (fT L ls (xs.getD (ic+i.toNat*1) 0)).length,true),(Nat.ble (k.toNat-0) ms.length,true),(Nat.ble (k.toNat-0) 1125899906842624,true),(decide (k=((k.toNat-0:Nat):Int)),true),(Nat.blt 0 (AI (AA ms 0 (k.toNat-0))),true)],[],
  YU ic xs ms (wl L (AI (fT L ls (xs.getD (ic+i.toNat*1) 0)) % AI (AA ms 0 (k.toNat-0)))) n m N M L k (wI (i-1)) []):=dm
def v9 (n L:Nat):AV:=.tup [(false,[.sl 2 0 ((n:Int).toNat-0) (L-0)]),(false,[.n .i64 0])]
def wA (L x:Nat):Heap:=[(2,some ⟨38,[.seq .u64 (wl L x)],false⟩)]
theorem AXm:AU dr oMd f169 100 2 [2] (YU ic xs ms ls n m N M L k i dx) =
 some ([(decide (0≤i),false),(AK .i64 n,true),(decide (0≤(n:Int)∧(n:Int)≤L),true),(true,true)],[],v9 n L,[(2,some ⟨38,[.seq .u64 ls],false⟩)]):=dm
end
theorem AGy {n:Nat} {ls:dt} (h:ls.length=n+1) (x:Int):fT (n+1) ls x=x::ls.take n:=by
 obtain ⟨a,r,rfl⟩:∃ a r,ls=a::r:=by cases ls with | nil=>simp at h | cons a r=>exact ⟨a,r,rfl⟩
 have e1:Int.toNat 1=1:=rfl
 have e0:Int.toNat 0=0:=rfl
 have e2:Nat.min (n+1) (n+1-1)=n:=Nat.min_eq_right dn
 unfold fT;rw [e1,e0,e2];have e3:List.drop (0+1*1+n*1) (a::r)=[]:=rj (by simp at h ⊢;omega)
 rw [e3];simp
theorem wB (n X:Nat):(wl (n+1) X).take n=wl n X:=by
 unfold wl;rw [← sh,tc,List.take_left' (by simp)]
theorem AXn {n:Nat} {ls:dt} (h:ls.length=n+1):0<(v8 (n+1) ls).length:=by
 unfold v8;rw [ku,kv,h];have e1:Int.toNat 1=1:=rfl
 rw [e1];omega
theorem AXo (n:Nat):wl n 0=List.replicate n 0:=by
 unfold wl;refine tn fun i=>?_
 by_cases h:i<n
 ·simp [h,AE]
 ·simp [h]
theorem AXp {xs ms:dt} {ic n m N M:Nat} (hx:∀ d∈xs,0≤d∧d<18446744073709551616) (hm:∀ d∈ms,0≤d∧d<18446744073709551616) (hl:ic+N≤xs.length) (hN:AK .i64 N=true) (hl':n+1≤ms.length) (hn:n+1≤1099511627776) (hnm:n+1≤m) (ht:ms.getD n 0≠0) :
  Ab dr 169 (fS ic (n+1) m N M) (Gu xs ms) 2 [] (.tup [(false,[.sl 2 0 (n+1) (n+1+1)]),(false,[.n .i64 0])]) (wA (n+1+1) (AI (AA xs ic N) % AI (AA ms 0 (n+1)))):=by
 have bN:N≤9223372036854775807:=by simp only [AK,jx,jt] at hN;omega
 have hbn:AK .i64 ((n+1:Nat):Int)=true:=by simp only [AK,jx,jt];omega
 have hV0:0<AI (AA ms 0 (n+1)):=by
  have:=Xf (AA ms 0 (n+1)) n (DG hm)
  rw [show (AA ms 0 (n+1)).getD n 0=ms.getD n 0 from by unfold AA;rw [JI dn,kr]] at this
  have hb:=Nw hm n;rcases md (AI (AA ms 0 (n+1))) with e | e
  ·rw [e,Nat.zero_div,pr] at this;omega
  ·exact e
 have hVlt:AI (AA ms 0 (n+1))<2^(64*(n+1)):=by
  have:=JH (AA ms 0 (n+1)) (DG hm)
  unfold AA at this ⊢
  rwa [kv,lk,mr dn] at this
 refine A_ (ie:=[]) func169 dm dm fun β0 w0 hb=>?_
 refine Aj fR AB (AXj ..) ⟨hbn,trivial⟩ (AR dm) hb jl fun _=>?_
 have e1:wI (((n+1:Nat):Int)-1)=(n:Int):=by rw [Au dn];omega
 have e2:OH (n+1)=((n+1+1:Nat):Int):=by unfold OH;rw [Au dn];omega
 refine Ai e_ (Aj fR AB (AXk ..) ?_ (AR dm) hb jl fun _=>?_)
 ·rw [e1,e2];refine ⟨by simp<;>omega,by simp<;>omega,by simp<;>omega,?_,by simp<;>omega,hbn,by simp only [jt];omega,hN,trivial⟩
  rw [jz,kt,kr];exact jq ht
 rw [e2,jz,← AXo];generalize hA:AI (AA xs ic N)=A
 have hNw:(AA xs ic N).length=N:=by unfold AA;rw [kv,lk];omega
 have hA2:A<2^(64*N):=by rw [← hA];have:=JH (AA xs ic N) (DG hx);rwa [hNw] at this
 generalize hV:AI (AA ms 0 (n+1))=V at *
 have loop:∀ c,c≤N→gz dr 169 β0 w0 (BA β0 w0 [] (.tup [(false,[.sl 2 0 (n+1) (n+1+1)]),(false,[.n .i64 0])]) (wA (n+1+1) (A % V))) f169.ntmps [] (YU ic xs ms (wl (n+1+1) (A / 2^(64*c) % V)) (n+1) m N M (n+1+1) ((n+1:Nat):Int) ((c:Int)-1) []):=by
  intro c;induction c with
  | zero =>
   intro _;rw [me,kx,ld];have h:=A6 (w0:=w0) (W:=[]) (n:=f169.ntmps) fR AB func169 (AXm ic xs ms (wl (n+1+1) (A % V)) (n+1) m N M (n+1+1) ((n+1:Nat):Int) (((0:Nat):Int)-1)) ⟨rfl,hbn,by simp<;>omega,rfl,trivial⟩ (AR dm) hb jl
   have e:v9 (n+1) (n+1+1)=.tup [(false,[.sl 2 0 (n+1) (n+1+1)]),(false,[.n .i64 0])]:=by unfold v9;rw [jz];rfl
   rw [e] at h;exact Ai dx h
  | succ c ih =>
   intro hc;have hi:((c+1:Nat):Int)-1=(c:Int):=dn
   rw [hi];have ii:=AGw (n+1+1) (A / 2^(64*(c+1)) % V)
   have hk:((n+1:Nat):Int).toNat-0=n+1:=dn
   have t1:Int.toNat 1=1:=rfl
   refine Ai eg (Aj fR AB (AXl ..) ?_ (AR dm) hb (fun k h=>by cases h) fun _=>?_)
   ·rw [hk,hV,AGy ii,ii,t1];have e5:Nat.min (n+1+1) (n+1+1-1)=n+1:=Nat.min_eq_right dn
    rw [e5];refine ⟨by simp,by simp<;>omega,GA dn,jr dn,jr dn,by simp<;>omega,by simp<;>omega,by simp<;>omega,jm (AXn ii),by simp<;>omega,rfl,Ar.2 rfl,Ar.2 ?_,jr dn,jr dn,by simp,BX.2 hV0,trivial⟩
    rw [k_,kv,ii];omega
   ·rw [hk,hV,AGy ii,wB,Au (z:=(c:Int)-1) dn];have hs:=UY (DG (ic:=ic) (n:=N) hx) c
    rw [hA,show (AA xs ic N).getD c 0=xs.getD (ic+(c:Int).toNat*1) 0 from by unfold AA;rw [JI dn,jz,kt]] at hs
    have e6:AI (xs.getD (ic+(c:Int).toNat*1) 0::wl (n+1) (A / 2^(64*(c+1)) % V)) % V=A / 2^(64*c) % V:=by
     simp only [AI];rw [v6 (nl (ki _ hV0) hVlt),hs]
     conv=>lhs;rw [pc,kz,nu,← kz,← pc]
    rw [e6];exact ih dn
 have:=loop N (ju _)
 rw [mf hA2,pr] at this;rw [Au (z:=(N:Int)-1) dn];exact this
def modSpec:ASpec:=fun args H fr ie =>
 match args with
 | [S,.val false [.sl t ig n m]]=>match DS S with
  | some (k,ic,N)=>match AF H k,AF H t with
   | some ⟨_,cs,_⟩,some ⟨_,ds,_⟩=>match A' .u64 cs,A' .u64 ds,Nat.beq ig 0 with
    | some xs,some ms,true=>some (BP [k,t] 2 fr 1 [] (.tup [(false,[.sl 2 0 n (n+1)]),(false,[.n .i64 0])]) (wA (n+1) (AI (AA xs ic N) % AI (AA ms 0 n)))
      [(Nat.ble (ic+N) xs.length,true),(AK .i64 N,true),(Nat.ble n ms.length,true),(Nat.ble n 1099511627776,true),(Nat.ble n m,true),(Nat.blt 0 n,true),(decide (ms.getD (n-1) 0=0),false)] ie)
    | _,_,_=>none
   | _,_=>none
  | none=>none
 | _=>none
theorem AXq:BI dr 169 modSpec:=by
 refine DN func169 dm dm fun args H fr ie r h=>?_
 unfold modSpec at h;split at h;case h_2=>cases h
 rename_i S t ig n m;split at h;case h_2=>cases h
 rename_i k ic N hS;split at h;case h_2=>cases h
 rename_i ty cs o ty' ds o' hk ht;split at h;case h_2=>cases h
 rename_i xs ms jh hms hoff;obtain rfl:=Ar.1 hoff
 injection h with h;refine ⟨[k,t],2,1,[],_,_,_,ie,h.symm,fun β us w ha hg hc=>?_⟩
 obtain ⟨u1,jf,r1,⟨u2,jg,r2,ha,rfl⟩,rfl⟩:=ha;obtain ⟨M,r1⟩:=E8 hS r1;obtain ⟨c1,c2,c3,c4,c5,c6,c7,_⟩:=hc;obtain ⟨j,rfl⟩:∃ j,n=j+1:=⟨n-1,by have:=BX.1 c6;omega⟩
 obtain ⟨g1,g1',g2,g3⟩:=cH hg hk ht jh hms;exact ⟨fS ic (j+1) m N M,Gu xs ms,AXp g1 g1' (jp c1) c2 (jp c3) (jp c4) (jp c5) (qa c7),dm,
  ⟨u1,_,CV dn rfl r1,⟨u2,_,CV dn rfl r2,ha,rfl⟩,rfl⟩,g2,g3⟩
noncomputable def SId:dw:=(169,modSpec)::SR4
theorem AGz:AX dr SId:=⟨AXq,AXF⟩
theorem AG0 {β β':Env} {k x:Nat} (h:x<2^(64*k)) {l:List gq} (hr:AP β [.seq .u64 (wl k x)] l):AP β' [.num k x] l:=by
 obtain ⟨l1,l2,⟨h1,_⟩,h2,h3⟩:=hr;simp only [AP] at h2;subst h1;subst h2;rw [lh] at h3;have:l=words k x:=by
  rw [h3];unfold wl words;rw [ot];rfl
 rw [this];exact XQ h
def AG1 (l:dt):dt:=(wl 7 (AI l % AI (AA PL 0 6))).take 6
theorem AXr (ic n m:Nat) (xs:dt):AU dr (AG SId K0) f215 300 1 [] (Ak f215 [AQ 0 ic n m] (BE xs) 1 []) =
 some ([(Nat.ble (ic+n) xs.length,true),(AK .i64 n,true),(true,true),(true,true),(true,true),(true,true),(false,false),(true,true)],[],.val true [.seq .u64 (AG1 (AA xs ic n))],[]):=dm
theorem AXs:AI (AA PL 0 6)=pN:=dm
theorem AXt {ic n m:Nat} {xs:dt} (hl:ic+n≤xs.length) (hn:n≤1125899906842624):Ab dr 215 [AQ 0 ic n m] (BE xs) 1 [] (Ad (AI (AA xs ic n) % pN)) []:=by
 refine BN (Bf AGz Ac func215 dm dm (AXr ic n m xs) dm ⟨jr hl,Mq hn,rfl,rfl,rfl,rfl,rfl,rfl,trivial⟩) fun β u hu=>?_
 obtain ⟨l,q,rfl⟩:=hu;refine ⟨l,AG0 (β:=β) (k:=6) ?_ ?_,rfl⟩
 ·rw [← DM];exact nl (ki _ C6) dp
 ·unfold AG1 at q;rw [wB,AXs] at q;exact q
noncomputable def SIe:dw:=(215,D3 (X9 fun _ l=>Ad (AI l % pN)))::SId
theorem AG2:AX dr SIe:=⟨EK (uZ func215 dm dm (fun _ _=>rfl) fun _ _ _ _ _ hl hn=>AXt hl hn),AGz⟩
end Go.Proofs.YtgnajdcdcblaoaaGreat
namespace Go.Proofs.YtgnajdcdcblaoaaGreat.Rg
def ch:Nat→Nat→Nat
 | _,0=>1
 | 0,_+1=>0
 | n+1,k+1=>ch n k+ch n (k+1)
theorem fU:∀ {n k:Nat},n<k→ch n k=0
 | 0,_+1,_=>rfl
 | n+1,k+1,h=>by simp only [ch];rw [fU (by omega:n<k),fU (by omega:n<k+1)]
theorem AG3:∀ n,ch n n=1
 | 0=>rfl
 | n+1=>by simp only [ch];rw [AG3 n,fU (Nat.lt_succ_self n)]
theorem fV:∀ n k,(k+1)*ch (n+1) (k+1)=(n+1)*ch n k
 | 0,0=>rfl
 | 0,k+1=>by simp [ch]
 | n+1,0=>by
  have h:=fV n 0;simp only [ch,kt,kr,qd] at h ⊢;omega
 | n+1,k+1=>by
  have h1:=fV n k;have h2:=fV n (k+1)
  have e1:ch (n+1+1) (k+1+1)=ch (n+1) (k+1)+ch (n+1) (k+1+1):=rfl
  have e2:ch (n+1) (k+1)=ch n k+ch n (k+1):=rfl
  rw [e1,oe,h2,show k+1+1=(k+1)+1 from rfl,lv (k+1) 1,h1,qd,lv (n+1) 1,qd]
  conv=>rhs;rw [e2,oe]
  omega
theorem AXu {p k:Nat} (hp:Num.Prime p) (h0:0<k) (h1:k<p):p∣ch p k:=by
 obtain ⟨q,rfl⟩:∃ q,p=q+1:=⟨p-1,dn⟩
 obtain ⟨j,rfl⟩:∃ j,k=j+1:=⟨k-1,dn⟩
 have h:=fV q j;have hd:q+1∣(j+1)*ch (q+1) (j+1):=⟨_,h⟩
 rcases hp.dvd_mul hd with e | e
 ·exact absurd (mn dn e) dn
 ·exact e
section
variable {F:Type} [CR F]
def bE (x y:F):Nat→(Nat→Nat)→F
 | 0,f=>CD (f 0)
 | n+1,f=>CD (f 0)*pw y (n+1)+x*bE x y n fun k=>f (k+1)
theorem LS (x:F) (n:Nat):pw x (n+1)=pw x n*x:=rfl
theorem AXv:(CD 0:F)=0:=rfl
theorem AG4 (x y:F):∀ (n:Nat) (d f:Nat→Nat),(∀ k,d (k+1)=f k)→f (n+1)=0→bE x y (n+1) (fun k=>d k+f k)=CD (d 0)*pw y (n+1)+(x+y)*bE x y n f
 | 0,d,f,h1,h2=>by
  simp only [bE,pw];rw [h1 0,h2,N7,og];exact ring [CD (d 0),CD (f 0),x,y] dm
 | n+1,d,f,h1,h2=>by
  have ih:=AG4 x y n (fun k=>d (k+1)) (fun k=>f (k+1)) (fun k=>h1 (k+1)) h2
  simp only [bE] at ih ⊢;rw [ih,h1 0,N7,LS y (n+1)];generalize pw y (n+1)=Y
  exact ring [CD (d 0),CD (f 0),x,y,Y,bE x y n fun k=>f (k+1)] dm
theorem AG5 (x y:F):∀ n,pw (x+y) n=bE x y n (ch n)
 | 0=>(zero_add 1).symm
 | n+1=>by
  have h:=AG4 x y n (fun k=>match k with | 0=>0 | k+1=>ch n k) (ch n) (fun _=>rfl) (fU (Nat.lt_succ_self n))
  have e:(fun k=>(match k with | 0=>0 | k+1=>ch n k)+ch n k)=ch (n+1):=by
   funext k
   cases k with
   | zero=>cases n<;>rfl
   | succ k=>rfl
  rw [e] at h;rw [h,LS,AG5 x y n,AXv,zero_mul,zero_add,mul_comm]
theorem AG6 (x y:F):∀ (n:Nat) (f:Nat→Nat),(∀ k,k<n→(CD (f k):F)=0)→bE x y n f=CD (f n)*pw x n
 | 0,f,_=>(mul_one _).symm
 | n+1,f,h=>by
  simp only [bE];rw [AG6 x y n _ fun k hk=>h (k+1) dn,h 0 dn,LS x n,zero_mul,zero_add]
  generalize pw x n=X
  exact ring [CD (f (n+1)),x,X] dm
theorem AXw {p m:Nat} (h0:(CD p:F)=0) (h:p∣m):(CD m:F)=0:=by
 obtain ⟨c,rfl⟩:=h;rw [YB,h0,zero_mul]
theorem AXx {p:Nat} (hp:Num.Prime p) (h0:(CD p:F)=0) (x y:F):pw (x+y) p=pw x p+pw y p:=by
 have h2:=hp.1;obtain ⟨q,rfl⟩:∃ q,p=q+1:=⟨p-1,dn⟩
 rw [AG5];simp only [bE];rw [AG6 x y q _ fun k hk=>AXw h0 (AXu hp dn dn),AG3,LS x q]
 have e:(CD (ch (q+1) 0):F)=1:=by show (0:F)+1=1;exact zero_add 1
 have e1:(CD 1:F)=1:=zero_add 1
 rw [e,e1];generalize pw y (q+1)=Y
 generalize pw x q=X
 exact ring [x,X,Y] dm
end
end Go.Proofs.YtgnajdcdcblaoaaGreat.Rg
namespace Go.Proofs.YtgnajdcdcblaoaaGreat
open Ex Num Rg
class Sh (α:Type) where
 R:Type
 n:Nat
 av:R→List Ch
 rd:List Ch→Option R
 mo:R→α
 en:α→R
 mo_en:∀ x,mo (en x)=x
 rd_ok:∀ {β β':Env} {cs:List Ch} {l:List gq} {r:R},rd cs=some r→AP β cs l→AP β' (av r) l
open Sh (R av rd mo en mo_en)
def Bs {α:Type}:List α→List α→List α
 | [],l=>l
 | x::r,l=>x::Bs r l
theorem AG7 {α:Type}:∀ a b:List α,Bs a b=a++b
 | [],_=>rfl
 | x::r,b=>by simp [Bs,AG7 r b]
def OI {A B:Type} (n:Nat) (f:List Ch→Option A) (g:List Ch→Option B) (cs:List Ch):Option (A×B):=match F' cs n with
 | some (a,r)=>match f a,g r with
  | some x,some y=>some (x,y)
  | _,_=>none
 | none=>none
theorem R6 {A B:Type} {n:Nat} {f:List Ch→Option A} {g:List Ch→Option B} {p:A→List Ch} {q:B→List Ch} {β β':Env} (hf:∀ {cs l r},f cs=some r→AP β cs l→AP β' (p r) l) (hg:∀ {cs l r},g cs=some r→AP β cs l→AP β' (q r) l)
  {cs:List Ch} {l:List gq} {r:A×B} (h:OI n f g cs=some r) (hl:AP β cs l):AP β' (Bs (p r.1) (q r.2)) l:=by
 unfold OI at h;split at h;case h_2=>cases h
 rename_i a t h1;split at h;case h_2=>cases h
 rename_i x y h2 h3;injection h with h;subst h;obtain ⟨q1,q2,_⟩:=I2 h1 hl;rw [AG7,← nq n l];exact PA (hf h2 q1) (hg h3 q2)
instance shFP:Sh FP where
 R:=Nat
 n:=6
 av x:=[.num 6 x]
 rd:=DE 6
 mo:=tf
 en:=Fin.val
 mo_en:=Bn
 rd_ok:=GI
def wC (cs:List Ch):Option Bool:=match cs with
 | [.b x]=>some x
 | [.v (.bool x)]=>some x
 | _=>none
instance shB:Sh Bool where
 R:=Bool
 n:=1
 av x:=[.v (.bool x)]
 rd:=wC
 mo x:=x
 en x:=x
 mo_en _:=rfl
 rd_ok {β β' cs l r} h hl:=by
  unfold wC at h;split at h
  ·injection h with h;subst h;obtain ⟨l1,l2,h1,h2,h3⟩:=hl;exact ⟨l1,l2,⟨h1,rfl,trivial⟩,h2,h3⟩
  ·injection h with h;subst h;obtain ⟨l1,l2,h1,h2,h3⟩:=hl;exact ⟨l1,l2,h1,h2,h3⟩
  ·cases h
section
variable {F:Type} [Sh F]
instance shQ [CR F] {β:F}:Sh (Qx β) where
 R:=R F×R F
 n:=Sh.n F+Sh.n F
 av r:=Bs (av r.1) (av r.2)
 rd:=OI (Sh.n F) rd rd
 mo r:=⟨mo r.1,mo r.2⟩
 en x:=(en x.a,en x.b)
 mo_en _:=Qx.ext (mo_en _) (mo_en _)
 rd_ok:=R6 Sh.rd_ok Sh.rd_ok
instance shK [CR F] {ξ:F}:Sh (Kx ξ) where
 R:=R F×R F×R F
 n:=Sh.n F+(Sh.n F+Sh.n F)
 av r:=Bs (av r.1) (Bs (av r.2.1) (av r.2.2))
 rd:=OI (Sh.n F) rd (OI (Sh.n F) rd rd)
 mo r:=⟨mo r.1,mo r.2.1,mo r.2.2⟩
 en x:=(en x.a,en x.b,en x.c)
 mo_en _:=Kx.ext (mo_en _) (mo_en _) (mo_en _)
 rd_ok:=R6 (q:=fun r:R F×R F=>Bs (av r.1) (av r.2)) Sh.rd_ok (R6 Sh.rd_ok Sh.rd_ok)
instance shJ:Sh (J F) where
 R:=R F×R F×R F
 n:=Sh.n F+(Sh.n F+Sh.n F)
 av r:=Bs (av r.1) (Bs (av r.2.1) (av r.2.2))
 rd:=OI (Sh.n F) rd (OI (Sh.n F) rd rd)
 mo r:=⟨mo r.1,mo r.2.1,mo r.2.2⟩
 en x:=(en x.x,en x.y,en x.z)
 mo_en x:=by cases x;simp only [mo_en]
 rd_ok:=R6 (q:=fun r:R F×R F=>Bs (av r.1) (av r.2)) Sh.rd_ok (R6 Sh.rd_ok Sh.rd_ok)
def wD (x y:F) (i:Bool):Pt F:=match i with
 | true=>.inf
 | false=>.pt x y
def Mx [Zero F]:Pt F→F
 | .inf=>0
 | .pt x _=>x
def KB [Zero F]:Pt F→F
 | .inf=>0
 | .pt _ y=>y
def EX:Pt F→Bool
 | .inf=>true
 | .pt _ _=>false
instance shP [Zero F]:Sh (Pt F) where
 R:=R F×R F×Bool
 n:=Sh.n F+(Sh.n F+1)
 av r:=Bs (av r.1) (Bs (av r.2.1) (av (α:=Bool) r.2.2))
 rd:=OI (Sh.n F) rd (OI (Sh.n F) rd wC)
 mo r:=wD (mo r.1) (mo r.2.1) r.2.2
 en p:=(en (Mx p),en (KB p),EX p)
 mo_en p:=by cases p<;>simp only [Mx,KB,EX,wD,mo_en]
 rd_ok:=R6 (q:=fun r:R F×Bool=>Bs (av r.1) (av (α:=Bool) r.2)) Sh.rd_ok (R6 Sh.rd_ok shB.rd_ok)
end
def va (α:Type) [Sh α] (r:R α):AV:=.val true (av r)
def ve {α:Type} [Sh α] (x:α):AV:=va α (en x)
section
variable (α β γ:Type) [Sh α] [Sh β] [Sh γ]
def ad [Add α] (r s:R α):R α:=en (mo r+mo s:α)
def su [Sub α] (r s:R α):R α:=en (mo r-mo s:α)
def mu [Mul α] (r s:R α):R α:=en (mo r*mo s:α)
def ng [Neg α] (r:R α):R α:=en (- mo r:α)
def iv [FD α] (r:R α):R α:=en (FD.inv (mo r:α))
def re (r:R α):R α:=en (mo r:α)
def BZ (g:R α→AV):List AV→Option AV
 | [.val true a]=>match rd a with
  | some r=>some (g r)
  | none=>none
 | _=>none
def DO (g:R α→R β→AV):List AV→Option AV
 | [.val true a,.val true b]=>match rd a,rd b with
  | some r,some s=>some (g r s)
  | _,_=>none
 | _=>none
def VF (g:R α→R β→R γ→AV):List AV→Option AV
 | [.val true a,.val true b,.val true c]=>match rd a,rd b,rd c with
  | some r,some s,some t=>some (g r s t)
  | _,_,_=>none
 | _=>none
end
section
variable {α β γ:Type} [Sh α] [Sh β] [Sh γ] {P:gr} {f:gp}
theorem F1 {b b':Env} {a:List Ch} {r:R α} {u:gq} (h:rd a=some r) (hr:AO b (.val true a) u):AO b' (va α r) u:=by
 obtain ⟨l,hl,rfl⟩:=hr;exact ⟨l,Sh.rd_ok h hl,rfl⟩
theorem EY {args:List AV} {cs:List Ch} {r:R α} (h:AT P f args (.val true cs)) (hc:rd cs=some r):AT P f args (va α r):=CG h fun _ hu=>F1 hc hu
theorem Bi {g:R α→AV} (h:∀ r,AT P f [va α r] (g r)):∀ args v,BZ α g args=some v→AT P f args v:=by
 intro args v hs us w ha;unfold BZ at hs;split at hs;case h_2=>cases hs
 split at hs;case h_2=>cases hs
 rename_i r h1;injection hs with hs;subst hs;obtain ⟨u1,jf,r1,ha,rfl⟩:=ha;exact h r _ w ⟨u1,_,F1 h1 r1,ha,rfl⟩
theorem DX {g:R α→R β→AV} (h:∀ r s,AT P f [va α r,va β s] (g r s)):∀ args v,DO α β g args=some v→AT P f args v:=by
 intro args v hs us w ha;unfold DO at hs;split at hs;case h_2=>cases hs
 split at hs;case h_2=>cases hs
 rename_i r s h1 h2;injection hs with hs;subst hs;obtain ⟨u1,jf,r1,⟨u2,jg,r2,ha,rfl⟩,rfl⟩:=ha;exact h r s _ w ⟨u1,_,F1 h1 r1,⟨u2,_,F1 h2 r2,ha,rfl⟩,rfl⟩
theorem fW {g:R α→R β→R γ→AV} (h:∀ r s t,AT P f [va α r,va β s,va γ t] (g r s t)):∀ args v,VF α β γ g args=some v→AT P f args v:=by
 intro args v hs us w ha;unfold VF at hs;split at hs;case h_2=>cases hs
 split at hs;case h_2=>cases hs
 rename_i r s t h1 h2 h3;injection hs with hs;subst hs;obtain ⟨u1,jf,r1,⟨u2,jg,r2,⟨u3,us3,r3,ha,rfl⟩,rfl⟩,rfl⟩:=ha;exact h r s t _ w ⟨u1,_,F1 h1 r1,⟨u2,_,F1 h2 r2,⟨u3,_,F1 h3 r3,ha,rfl⟩,rfl⟩,rfl⟩
end
open Ex Num Rg
open Sh (R av rd mo en mo_en)
theorem adN (x y:Nat):DV x y=ad FP x y:=Pv (Xr x y) (Hz x y)
theorem suN (x y:Nat):DF x y=su FP x y:=Pv (FQ x y) (EW x y)
theorem muN (x y:Nat):Ae x y=mu FP x y:=Pv (LO x y) (Bu x y)
theorem ngN (x:Nat):C7 x=ng FP x:=Pv (cJ x) (dB x)
theorem AXy (x:Nat):tf (Bl x)=N9 (tf x):=by
 have e:Bl x=Bl (x % pN):=by
  unfold Bl;rw [LJ,LJ];exact ow x (pN-2) pN
 rw [e];unfold N9;exact jw (fun y=>tf (Bl y)) (show x % pN=(tf x).val from rfl)
theorem AXz (x:R FP):iv FP x=(N9 (tf x)).val:=rfl
theorem ivN (x:Nat):Bl x=iv FP x:=(Pv (AE8 x) (AXy x)).trans (AXz x).symm
theorem AX0 (x:Nat):b8 [Ad x]=some (Ad (x % pN)):=dm
theorem AX1 (r:R FP):AT dr 110 [va FP r] (va FP (re FP r)):=AD4 _ _ (AX0 r)
noncomputable def SH1:dw:=(110,Af (BZ FP fun r=>va FP (re FP r)))::(61,Af (DO FP FP fun r s=>va FP (ad FP r s)))::(74,Af (DO FP FP fun r s=>va FP (su FP r s)))::(63,Af (BZ FP fun r=>va FP (ng FP r)))::(62,Af (DO FP FP fun r s=>va FP (mu FP r s)))::(75,Af (BZ FP fun r=>va FP (iv FP r)))::(141,Af (Fv fun r=>va FP (re FP r)))::(68,Af (DO FP FP fun r s=>va FP (ad FP r s)))::(83,Af (DO FP FP fun r s=>va FP (su FP r s)))::(70,Af (BZ FP fun r=>va FP (ng FP r)))::(66,Af (DO FP FP fun r s=>va FP (mu FP r s)))::(161,Af (BZ FP fun r=>va FP (iv FP r)))::SIe
theorem wG:AX dr SH1:=⟨Ah func110 dm dm (Bi AX1),Ah func61 dm dm (DX fun r s=>by rw [← adN];exact AD6 r s),Ah func74 dm dm (DX fun r s=>by rw [← suN];exact AD9 r s),Ah func63 dm dm (Bi fun r=>by rw [← ngN];exact AD7 r),Ah func62 dm dm (DX fun r s=>by rw [← muN];exact AEK r s),Ah func75 dm dm (Bi fun r=>by rw [← ivN];exact AFB r),Ah func141 dm dm (GZ fun r h=>AFh h),Ah func68 dm dm (DX fun r s=>by rw [← adN];exact AFn r s),Ah func83 dm dm (DX fun r s=>by rw [← suN];exact AFp r s),Ah func70 dm dm (Bi fun r=>by rw [← ngN];exact AFo r),Ah func66 dm dm (DX fun r s=>by rw [← muN];exact AFv r s),Ah func161 dm dm (Bi fun r=>by rw [← ivN];exact AF9 r),AG2⟩
theorem YV {k m:Nat} (hk:(pN-1) / k*k=pN-1) (jb:Nat.blt ((pN-1) / k) RR=true) (h0:0<m) (hc:Nat.beq (Pf pN m 384 ((pN-1) / k)) 1=false) (hk0:0<k) (x:Nat):x^k % pN≠m:=by
 intro h;have hnd:¬ pN∣x:=fun hd=>by
  have:x^k % pN=0:=by
   obtain ⟨c,hcc⟩:=hd;obtain ⟨j,rfl⟩:∃ j,k=j+1:=⟨k-1,dn⟩
   rw [hcc,lj,ko,lm,Nat.mul_mod_right]
  omega
 have hf:=Ri pN_prime hnd;rw [← hk,ko,qi,ow,h,← sM pN 384 m ((pN-1) / k) (by rw [AET];exact BX.1 jb)] at hf
 rw [hf] at hc;cases hc
theorem AX2 {a b:Nat} (h:Nat.beq (a % pN) (b % pN)=true):tf a=tf b:=Rp.2 (Ar.1 h)
theorem wH {m:Nat} (h:∀ x:Nat,x^2 % pN≠m) (hm:m<pN) (x:FP):x*x≠tf m:=fun e=>by
 refine h x.val ?_
 have:tf (x.val^2)=tf m:=by rw [ss,Pl,Bn];exact e
 rw [Rp,jv hm] at this;exact this
theorem AHB {m:Nat} (h:∀ x:Nat,x^3 % pN≠m) (hm:m<pN) (x:FP):x*x*x≠tf m:=fun e=>by
 refine h x.val ?_
 have:tf (x.val^3)=tf m:=by rw [lj,ss,Pl,Pl,Bn];exact e
 rw [Rp,jv hm] at this;exact this
theorem k2:(pN-1) / 2*2=pN-1:=dm
theorem wJ:Nat.blt ((pN-1) / 2) RR=true:=dm
theorem AX3:Nat.blt (pN-1) pN=true:=dm
theorem AX4:Nat.blt 0 (pN-1)=true:=dm
theorem AX5:tf (pN-1)=-1:=by
 have h:tf (pN-1)+1=0:=by rw [← D6,← Gx,dC];kernel_rfl
 exact J7 (by rw [Rg.add_comm];exact h)
theorem AHC (x:FP):x*x≠-1:=by
 rw [← AX5];exact wH (YV k2 wJ (BX.1 AX4) dm dp) (BX.1 AX3) x
theorem AX6 (x:FP):x*x≠tf 2:=wH (YV k2 wJ dp dm dp) dp x
theorem AX7 (x:FP):x*x*x≠tf 2:=AHB (YV p3 vL dp dm dp) dp x
theorem AX8 (x:FP):x*x*x≠tf 32:=AHB (YV p3 vL dp dm dp) dp x
abbrev gw:Type:=Qx (-1:FP)
noncomputable instance fdFP2:FD gw:=fdQ AHC
noncomputable def xi:gw:=⟨1,1⟩
theorem AHD:(xi:gw).nrm=tf 2:=by
 show (1:FP)*1 - -1*(1*1)=tf 2;rw [show tf 2=(1:FP)+1 from by rw [← D6,← Gx]]
 exact ring (F:=FP) [] dm
theorem AX9 (x:gw):x*x*x≠xi:=fun e=>AX7 x.nrm (((Qx.nrm_mul (x*x) x).trans (by rw [Qx.nrm_mul])).symm.trans ((jw Qx.nrm e).trans AHD))
theorem AX_ (x:gw):x*x≠xi:=fun e=>AX6 x.nrm ((Qx.nrm_mul x x).symm.trans ((jw Qx.nrm e).trans AHD))
abbrev gy:Type:=Kx xi
noncomputable instance fdFP6:FD gy:=fdK AX9
noncomputable def vv:gy:=⟨0,1,0⟩
theorem AX':(vv:gy).nrm=xi:=by
 show (0:gw)*(0*0-xi*(1*0))+xi*(0*(xi*(0*0)-0*1)+1*(1*1-0*0))=xi;exact ring [xi] dm
theorem AYA (x:gy):x*x≠vv:=fun e=>AX_ x.nrm ((Kx.nrm_mul x x).symm.trans ((jw Kx.nrm e).trans AX'))
abbrev gx:Type:=Qx vv
noncomputable instance fdFP12:FD gx:=fdQ AYA
noncomputable def KC:gw:=⟨Dy,Dy⟩
theorem AYB:Dy*Dy - -1*(Dy*Dy)=tf 32:=by
 have e:Dy*Dy=tf 16:=(Pl 4 4).symm
 have e2:tf 16+tf 16=tf 32:=(Gx 16 16).symm
 rw [e,← e2];exact ring [tf 16] dm
noncomputable def C2:Cv gw where
 b:=KC
 two:=fun h=>C1.two (by
  have:=jw Qx.a h
  exact this)
 no2:=fun x y h hy=>by
  subst hy;have h1:x*x*x=-KC:=J7 (by rw [Rg.add_comm,← h];exact mul_zero 0)
  refine AX8 x.nrm ?_
  rw [← Qx.nrm_mul,← Qx.nrm_mul,h1,← AYB];show -Dy*-Dy - -1*(-Dy*-Dy)=_;exact ring [Dy] dm
theorem AHE:∀ n,(CD n:FP)=tf n
 | 0=>tf_zero.symm
 | n+1=>by rw [Gx,D6,← AHE n];rfl
theorem AYC:(CD pN:FP)=0:=by rw [AHE];exact sR
noncomputable def Cw (x:FP):Bool:=CX x.val
noncomputable def CY (x:FP):FP:=tf (D4 x.val)
def OJ (x:FP):Bool:=Nat.beq (x.val % 2) 1
theorem OK {x:FP} (h:Cw x=true):CY x*CY x=x:=by
 obtain ⟨h1,_,_⟩:=s6 h;unfold CY;rw [← Bu,h1,Pk,Bn]
theorem My {x y:FP} (h:y*y=x):Cw x=true:=by
 unfold Cw;by_cases h0:x.val % pN=0
 ·exact ARX h0
 ·refine (AEf h0).2 ?_
  have hx:x.val=y.val*y.val % pN:=by rw [← h];rfl
  unfold Nx;rw [hx,← ow,← ss,← qi,ko 2,k2];refine Ri pN_prime fun hd=>h0 ?_
  obtain ⟨c,hc⟩:=hd;rw [hx,hc,nu,lm,Nat.mul_mod_right]
theorem AHF {x:FP}:Cw x=true↔∃ y,y*y=x:=⟨fun h=>⟨_,OK h⟩,fun ⟨_,h⟩=>My h⟩
theorem fX {x y:FP} (h:x*x=y*y):x=y∨x=-y:=by
 have e:(x-y)*(x+y)=0:=by
  have:(x-y)*(x+y)=x*x-y*y:=ring [x,y] dm
  rw [this,h,sub_self]
 rcases U4 e with e | e
 ·exact .inl (Aa.1 e)
 ·exact .inr (J7 (by rw [Rg.add_comm];exact e))
theorem AYD {x:FP} (h:x≠0):(-x).val=pN-x.val:=by
 have hx:x.val≠0:=fun e=>h (Mt.1 e)
 have h1:tf (pN-x.val)=-x:=by
  have:=dB x.val
  rw [Bn] at this;unfold C7 at this;rw [jv x.isLt,Pk] at this;exact this
 rw [← h1,HO (by have:=x.isLt;omega)]
theorem AHG {x:FP} (h:x≠0):OJ (-x)=!OJ x:=by
 have hx:x.val≠0:=fun e=>h (Mt.1 e)
 unfold OJ;rw [AYD h];have:=x.isLt
 have ho:=Xh;have:(pN-x.val) % 2=(1+x.val % 2) % 2:=dn
 rw [this];rcases nz x.val with e | e<;>rw [e]<;>rfl
noncomputable def Cy (a:gw):Bool:=if a.a=0 then OJ a.b else OJ a.a
theorem VG {x:FP}:-x=0↔x=0:=⟨fun h=>by rw [← neg_neg x,h,HN],fun h=>by rw [h,HN]⟩
theorem fY {a:gw} (h:a≠0):Cy (-a)=!Cy a:=by
 unfold Cy;show (if -a.a=0 then OJ (-a.b) else OJ (-a.a))=_
 by_cases h1:a.a=0
 ·rw [jo (VG.2 h1),jo h1];exact AHG fun e=>h (Qx.ext h1 e)
 ·rw [jn fun e=>h1 (VG.1 e),jn h1]
  exact AHG h1
theorem AHH {x y:gw} (h:x*x=y*y):x=y∨x=-y:=by
 have e:(x-y)*(x+y)=0:=by
  have:(x-y)*(x+y)=x*x-y*y:=ring [x,y] dm
  rw [this,h,sub_self]
 rcases U4 e with e | e
 ·exact .inl (Aa.1 e)
 ·exact .inr (J7 (by rw [Rg.add_comm];exact e))
noncomputable def CZ (a:gw):Bool:=@decide (∃ s:gw,s*s=a) (Classical.propDecidable _)
theorem Ij {a:gw}:CZ a=true↔∃ s:gw,s*s=a:=@decide_eq_true_iff _ (Classical.propDecidable _)
theorem fZ (a:gw):∃ x:gw,(CZ a=true→x*x=a∧Cy x=false)∧(CZ a=false→x=0):=by
 cases h:CZ a with
 | false=>exact ⟨0,(fun e=>by cases e),fun _=>rfl⟩
 | true =>
  obtain ⟨s,hs⟩:=Ij.1 h;cases hg:Cy s with
  | false=>exact ⟨s,fun _=>⟨hs,hg⟩,(fun e=>by cases e)⟩
  | true =>
   refine ⟨-s,fun _=>⟨?_,?_⟩,(fun e=>by cases e)⟩
   ·rw [← hs];exact ring [s] dm
   ·rw [fY,hg];rfl
    intro e;rw [e] at hg;have:Cy 0=false:=jo rfl
    rw [this] at hg;cases hg
noncomputable def EZ (a:gw):gw:=Classical.choose (fZ a)
theorem AHI {a:gw} (h:CZ a=true):EZ a*EZ a=a:=((lf (fZ a)).1 h).1
theorem AYE {a:gw} (h:CZ a=true):Cy (EZ a)=false:=((lf (fZ a)).1 h).2
theorem AYF {a:gw} (h:CZ a=false):EZ a=0:=(lf (fZ a)).2 h
theorem AYG {a s:gw} (h:s*s=a) (hg:Cy s=false):EZ a=s:=by
 have hi:=Ij.2 ⟨s,h⟩
 rcases AHH ((AHI hi).trans h.symm) with e | e
 ·exact e
 ·by_cases h0:s=0
  ·rw [e,h0,HN]
  ·have:=AYE hi
   rw [e,fY h0,hg] at this;cases this
theorem AHJ:∀ (x:FP) (n:Nat),(pw x n).val=x.val^n % pN
 | x,0=>(jv (by decide:1<pN)).symm
 | x,n+1=>by
  show ((pw x n).val*x.val) % pN=_;rw [AHJ x n,qm,← lj]
theorem AHK (x:FP):pw x pN=x:=by
 rw [pj,AHJ,← LJ,show C8 x.val pN=x.val % pN from ?_]
 ·exact jv x.isLt
 ·rw [LJ];have e:pN=(pN-1)+1:=by have:=sW;omega
  by_cases h:x.val % pN=0
  ·rw [ow,h,Nat.zero_pow C6,pr]
  ·have hf:=Ri pN_prime (a:=x.val) fun hd=>h (rb hd)
   rw [show x.val^pN=x.val^(pN-1)*x.val by rw [← lj,Nat.succ_eq_add_one,← e],kz,hf,qd,nu]
def Mz (x:FP):gw:=⟨x,0⟩
theorem AYH (x y:FP):Mz (x*y)=Mz x*Mz y:=Qx.ext (ring [x,y] (a:=x*y) (b:=x*y+-1*(0*0)) dm) (ring [x,y] (a:=0) (b:=x*0+0*y) dm)
theorem wK (x:FP):∀ n,pw (Mz x) n=Mz (pw x n)
 | 0=>rfl
 | n+1=>by simp only [pw];rw [wK x n,← AYH]
theorem AHL:∀ n,(CD n:gw)=Mz (CD n)
 | 0=>rfl
 | n+1=>by
  show CD n+1=_;rw [AHL n];exact Qx.ext rfl (add_zero _)
theorem AYI:(CD pN:gw)=0:=by rw [AHL,AYC];rfl
def uu:gw:=⟨0,1⟩
theorem AHM:uu*uu=-1:=Qx.ext (ring (F:=FP) [] (a:=0*0+-1*(1*1)) (b:=-1) dm) (ring (F:=FP) [] (a:=0*1+1*0) (b:=-0) dm)
theorem AYJ:pw uu pN=-uu:=by
 have e:pN=2*(2*((pN-3) / 4)+1)+1:=dm
 refine (jw (pw uu) e).trans ?_
 rw [LS,eK,show pw uu 2=-1 from by show 1*uu*uu=-1;rw [Rg.one_mul,AHM],LS,eK,show pw (-1:gw) 2=1 from ring (F:=gw) [] (a:=1*-1*-1) dm]
 have one:∀ n,pw (1:gw) n=1:=by
  intro n;induction n with
  | zero=>rfl
  | succ n ih=>rw [LS,ih,Rg.one_mul]
 rw [one];exact ring [uu] dm
theorem AHN (a:gw):pw a pN=Qx.conj a:=by
 have e:a=Mz a.a+Mz a.b*uu:=Qx.ext (ring [a.a,a.b] (a:=a.a) (b:=a.a+(a.b*0+-1*(0*1))) dm) (ring [a.a,a.b] (a:=a.b) (b:=0+(a.b*1+0*0)) dm)
 have h:=AXx pN_prime AYI (Mz a.a) (Mz a.b*uu)
 rw [← e,Rg.pw_mul,wK,wK,AHK,AHK,AYJ] at h;rw [h];exact Qx.ext (ring [a.a,a.b] (a:=a.a+(a.b*-0+-1*(0*-1))) (b:=a.a) dm) (ring [a.a,a.b] (a:=0+(a.b*-1+0*-0)) (b:=-a.b) dm)
theorem AYK:Cy 0=false:=jo rfl
theorem AHO {a s:gw} (h:s*s=a) (hg:Cy s=false):s=EZ a∧CZ a=true:=⟨(AYG h hg).symm,Ij.2 ⟨s,h⟩⟩
noncomputable def KD (x:gw):gw:=if Cy x=true then -x else x
theorem AHP (x:gw):Cy (KD x)=false:=by
 unfold KD;by_cases h:Cy x=true
 ·rw [jo h,fY (fun e=>by rw [e,AYK] at h;cases h),h];rfl
 ·rw [jn h];cases hq:Cy x with | false=>rfl | true=>exact absurd hq h
theorem wL (x:gw):KD x*KD x=x*x:=by
 unfold KD;split
 ·exact ring [x] dm
 ·rfl
noncomputable def C_ (h:FP) (a:gw) (n:FP):FP:=CY ((a.a+n)*h)
noncomputable def M0 (h:FP) (a:gw) (n:FP):FP:=if C_ h a n=0 then CY (-a.a) else a.b*h*FD.inv (C_ h a n)
noncomputable def JQ (h:FP) (a:gw) (n:FP):gw:=KD ⟨C_ h a n,M0 h a n⟩
noncomputable def F2 (h:FP) (a:gw) (n:FP):Bool:=(if C_ h a n=0 then Cw (-a.a) else Cw ((a.a+n)*h))&&decide (JQ h a n*JQ h a n=a)
theorem AYL {h:FP} {a:gw} {n:FP} (ht:F2 h a n=true):JQ h a n=EZ a∧CZ a=true:=by
 unfold F2 at ht;exact AHO (kj (jy.1 ht).2) (AHP _)
theorem AYM {x:FP} (h:x*x=0):x=0:=(U4 h).elim id id
theorem AHQ {h:FP} (hh:h+h=1) {a s:gw} (hs:s*s=a) {n:FP} (hn:n=s.a*s.a+s.b*s.b):F2 h a n=true:=by
 have ea:a.a=s.a*s.a-s.b*s.b:=by rw [← hs];exact ring [s.a,s.b] (a:=s.a*s.a+-1*(s.b*s.b)) dm
 have eb:a.b=s.a*s.b+s.b*s.a:=by rw [← hs];rfl
 have h1:(a.a+n)*h=s.a*s.a:=by
  rw [ea,hn];exact (ring [s.a,s.b,h] (a:=(s.a*s.a-s.b*s.b+(s.a*s.a+s.b*s.b))*h) (b:=s.a*s.a*(h+h)) dm).trans (by rw [hh,Rg.mul_one])
 have hi:Cw ((a.a+n)*h)=true:=My h1.symm
 have hx:=OK hi;rw [h1] at hx;have hX:C_ h a n*C_ h a n=s.a*s.a:=by unfold C_;rw [h1];exact hx
 have fin:∀ y,(C_ h a n=s.a∧y=s.b)∨(C_ h a n=-s.a∧y=-s.b)∨(C_ h a n=s.a∧s.a=0∧y=-s.b)→(⟨C_ h a n,y⟩:gw)*⟨C_ h a n,y⟩=a:=by
  intro y hy;rcases hy with ⟨e1,e2⟩ | ⟨e1,e2⟩ | ⟨e1,e0,e2⟩
  ·rw [e1,e2];exact hs
  ·rw [e1,e2];have e:(⟨-s.a,-s.b⟩:gw)=-s:=rfl
   rw [e,← hs];exact ring [s] dm
  ·rw [e1,e2];have e:(⟨s.a,-s.b⟩:gw)=-s:=Qx.ext (by show s.a=-s.a;rw [e0,HN]) rfl
   rw [e,← hs];exact ring [s] dm
 unfold F2;by_cases h0:C_ h a n=0
 ·have s0:s.a=0:=by
   rw [h0,mul_zero] at hX;exact AYM hX.symm
  have e2:s.b*s.b=-a.a:=by rw [ea,s0];exact ring [s.b] dm
  rw [jo h0,My e2];refine jy.2 ⟨rfl,jm ?_⟩
  unfold JQ;rw [wL];refine fin _ ?_
  unfold M0;rw [jo h0];rcases fX ((OK (My e2)).trans e2.symm) with e | e
  ·exact .inl ⟨by rw [h0,s0],e⟩
  ·exact .inr (.inr ⟨by rw [h0,s0],s0,e⟩)
 ·rw [jn h0,hi];refine jy.2 ⟨rfl,jm ?_⟩
  unfold JQ;rw [wL];refine fin _ ?_
  have hy:M0 h a n=s.a*s.b*FD.inv (C_ h a n):=by
   unfold M0;rw [jn h0,eb];congr 1
   exact (ring [s.a,s.b,h] (a:=(s.a*s.b+s.b*s.a)*h) (b:=s.a*s.b*(h+h)) dm).trans (by rw [hh,Rg.mul_one])
  have hv:=FD.mul_inv (C_ h a n) h0
  rcases fX hX with e | e
  ·refine .inl ⟨e,?_⟩
   rw [hy]
   calc s.a*s.b*FD.inv (C_ h a n)=s.b*(s.a*FD.inv (C_ h a n)):=ring [s.a,s.b,FD.inv (C_ h a n)] dm
    _=s.b:=by rw [← e,hv,Rg.mul_one]
  ·refine .inr (.inl ⟨e,?_⟩)
   rw [hy]
   calc s.a*s.b*FD.inv (C_ h a n)=-s.b*(-s.a*FD.inv (C_ h a n)):=ring [s.a,s.b,FD.inv (C_ h a n)] dm
    _=-s.b:=by rw [← e,hv,Rg.mul_one]
theorem AHR {a s:gw} (hs:s*s=a):(s.a*s.a+s.b*s.b)*(s.a*s.a+s.b*s.b)=a.a*a.a+a.b*a.b:=by
 rw [← hs];exact ring [s.a,s.b] (b:=(s.a*s.a+-1*(s.b*s.b))*(s.a*s.a+-1*(s.b*s.b))+(s.a*s.b+s.b*s.a)*(s.a*s.b+s.b*s.a)) dm
noncomputable def F3 (a:gw):FP:=a.a*a.a+a.b*a.b
theorem AYN {a:gw} (h:Cw (F3 a)=false):CZ a=false:=by
 cases hi:CZ a with
 | false=>rfl
 | true =>
  obtain ⟨s,hs⟩:=Ij.1 hi;have:=My (AHR hs)
  unfold F3 at h;rw [this] at h;cases h
theorem AYO {h:FP} (hh:h+h=1) {a:gw} (hi:Cw (F3 a)=true) (h1:F2 h a (CY (F3 a))=false) (h2:F2 h a (-CY (F3 a))=false):CZ a=false:=by
 cases hq:CZ a with
 | false=>rfl
 | true =>
  obtain ⟨s,hs⟩:=Ij.1 hq;rcases fX ((OK hi).trans (AHR hs).symm) with e | e
  ·rw [AHQ hh hs e] at h1;cases h1
  ·rw [AHQ hh hs (n:=-CY (F3 a)) (by rw [e];exact neg_neg _)] at h2;cases h2
noncomputable def OL (a:gw):gw:=pw a ((pN-3) / 4)
noncomputable def Ed (a:gw):gw:=OL a*a
noncomputable def Cz (a:gw):gw:=OL a*Ed a
noncomputable def G3 (a:gw):gw:=if Cz a=-1 then Ed a*uu else pw (1+Cz a) ((pN-1) / 2)*Ed a
theorem AYP {n:Nat} (h:0<n):pw (0:gw) n=0:=by
 obtain ⟨m,rfl⟩:∃ m,n=m+1:=⟨n-1,dn⟩
 rw [LS,mul_zero]
theorem e4:(pN-3) / 4*4+3=pN:=dm
theorem e2':(pN-1) / 2*2+1=pN:=dm
theorem AYR:Nat.blt 0 ((pN-3) / 4)=true:=dm
theorem AYS {s c:gw} (hs:s≠0) (h:c*s=Qx.conj s):c*Qx.conj c=1:=by
 have h2:Qx.conj c*Qx.conj s=s:=by
  rw [← Qx.conj_mul,h];exact Qx.ext rfl (neg_neg _)
 have hcs:Qx.conj s≠0:=fun e=>hs (by
  have h1:s.a=0:=jw Qx.a e
  have h2:-s.b=0:=jw Qx.b e
  exact Qx.ext h1 (VG.1 h2))
 have e:(s*Qx.conj s)*(c*Qx.conj c)=(s*Qx.conj s)*1:=by
  calc (s*Qx.conj s)*(c*Qx.conj c)=(c*s)*(Qx.conj c*Qx.conj s):=ring [s,c,Qx.conj s,Qx.conj c] dm
   _=(s*Qx.conj s)*1:=by rw [h,h2,Rg.mul_one,Rg.mul_comm]
 exact JM (DC hs hcs) e
theorem AYT {a:gw} (hi:CZ a=true):G3 a*G3 a=a:=by
 obtain ⟨s,hs⟩:=Ij.1 hi;generalize hE:(pN-3) / 4=E
 have hp:E*4+3=pN:=by rw [← hE];exact e4
 by_cases h0:s=0
 ·have ha:a=0:=by rw [← hs,h0,mul_zero]
  have hb:OL a=0:=by unfold OL;rw [ha];exact AYP (BX.1 AYR)
  have hx:Ed a=0:=by unfold Ed;rw [hb,zero_mul]
  unfold G3;rw [hx];split
  ·rw [zero_mul,zero_mul,ha]
  ·rw [mul_zero,mul_zero,ha]
 ·have hB:OL a=pw s (2*E):=by unfold OL;rw [hE,← hs,eK];congr 1;show s*s=1*s*s;rw [Rg.one_mul]
  have hC:Cz a*s=Qx.conj s:=by
   refine Eq.trans ?_ ((jw (pw s) (show 2*E+(2*E+2+1)=pN by omega)).trans (AHN s))
   rw [Rt,LS];unfold Cz Ed;rw [hB,← hs];rw [Rt,show pw s 2=s*s from by show 1*s*s=_;rw [Rg.one_mul]]
   generalize pw s (2*E)=Z
   exact ring [s,Z] dm
  have hXX:Ed a*Ed a=a*Cz a:=by unfold Cz Ed;exact ring [OL a,a] dm
  have hcc:=AYS h0 hC;unfold G3;split
  ·rename_i hc
   calc Ed a*uu*(Ed a*uu)=Ed a*Ed a*(uu*uu):=ring [Ed a,uu] dm
    _=a:=by rw [hXX,hc,AHM];exact ring [a] dm
  ·rename_i hc;generalize hH:(pN-1) / 2=H
   have hp2:H*2+1=pN:=by rw [← hH];exact e2'
   generalize hd:pw (1+Cz a) H=d
   have h1c:1+Cz a≠0:=fun e=>hc (J7 e)
   have hdd:d*d*(1+Cz a)=1+Qx.conj (Cz a):=by
    have hf:=AHN (1+Cz a)
    have hf':=(jw (pw (1+Cz a)) hp2).trans hf
    rw [LS,eK,hd] at hf';have e1:pw d 2=d*d:=by show 1*d*d=_;rw [Rg.one_mul]
    rw [e1] at hf';rw [hf'];exact Qx.ext rfl (ring [(Cz a).b] (a:=-(0+(Cz a).b)) (b:=0+-(Cz a).b) dm)
   have key:d*d*Cz a=1:=by
    refine JM h1c ?_
    calc (1+Cz a)*(d*d*Cz a)=(d*d*(1+Cz a))*Cz a:=ring [d,Cz a] dm
     _=Cz a+Cz a*Qx.conj (Cz a):=by rw [hdd];exact ring [Cz a,Qx.conj (Cz a)] dm
     _=(1+Cz a)*1:=by rw [hcc];exact ring [Cz a] dm
   calc d*Ed a*(d*Ed a)=d*d*(Ed a*Ed a):=ring [d,Ed a] dm
    _=a*(d*d*Cz a):=by rw [hXX];exact ring [d,a,Cz a] dm
    _=a:=by rw [key,Rg.mul_one]
theorem AYU {a:gw} (h:G3 a*G3 a=a):KD (G3 a)=EZ a∧CZ a=true:=AHO ((wL _).trans h) (AHP _)
theorem AYV {a:gw} (h:G3 a*G3 a≠a):CZ a=false:=by
 cases hi:CZ a with
 | false=>rfl
 | true=>exact absurd (AYT hi) h
def Qx.sc {F:Type} [CR F] {β:F} (x:Qx β) (k:F):Qx β:=⟨x.a*k,x.b*k⟩
noncomputable def cj (r:R gw):R gw:=en (Qx.conj (mo r:gw))
noncomputable def sc (r:R gw) (k:R FP):R gw:=en (Qx.sc (mo r:gw) (mo k))
noncomputable def mx (r:R gw):R gw:=en ((mo r:gw)*xi)
def KH:List (gt×List (Option IntKind)):=(68,List.replicate 12 (some .u64))::(70,List.replicate 24 (some .u64)++[none])::(203,List.replicate 36 (some .u64))::KG
theorem Co:MU dr KH:=⟨⟨dm,dm,dm⟩,⟨dm,dm,dm⟩,⟨dm,dm,dm⟩,C9⟩
theorem AYW (r s:R gw):(su FP (mu FP r.1 s.1) (mu FP r.2 s.2),su FP (mu FP (ad FP r.1 r.2) (ad FP s.1 s.2)) (ad FP (mu FP r.1 s.1) (mu FP r.2 s.2)))=mu gw r s:=by
 refine nc ?_ ?_<;>simp only [su,mu,ad,mo_en]
 ·exact jw (en (α:=FP)) (ring [tf r.1,tf r.2,tf s.1,tf s.2] (a:=tf r.1*tf s.1-tf r.2*tf s.2) (b:=tf r.1*tf s.1+-1*(tf r.2*tf s.2)) dm)
 ·exact jw (en (α:=FP)) (ring [tf r.1,tf r.2,tf s.1,tf s.2] (a:=(tf r.1+tf r.2)*(tf s.1+tf s.2)-(tf r.1*tf s.1+tf r.2*tf s.2)) (b:=tf r.1*tf s.2+tf r.2*tf s.1) dm)
theorem AYX (r s:R gw):(su FP (mu FP r.1 s.1) (mu FP r.2 s.2),ad FP (mu FP r.1 s.2) (mu FP r.2 s.1))=mu gw r s:=by
 refine nc ?_ ?_<;>simp only [su,mu,ad,mo_en]
 ·exact jw (en (α:=FP)) (ring [tf r.1,tf r.2,tf s.1,tf s.2] (a:=tf r.1*tf s.1-tf r.2*tf s.2) (b:=tf r.1*tf s.1+-1*(tf r.2*tf s.2)) dm)
 ·rfl
theorem AYY (r:R gw):(su FP r.1 r.2,ad FP r.1 r.2)=mx r:=by
 refine nc ?_ ?_<;>simp only [su,ad,mx]
 ·exact jw (en (α:=FP)) (ring [tf r.1,tf r.2] (a:=tf r.1-tf r.2) (b:=tf r.1*1+-1*(tf r.2*1)) dm)
 ·exact jw (en (α:=FP)) (ring [tf r.1,tf r.2] (a:=tf r.1+tf r.2) (b:=tf r.1*1+tf r.2*1) dm)
theorem wM (x:gw):x.nrm=x.a*x.a+x.b*x.b:=ring [x.a,x.b] (a:=x.a*x.a - -1*(x.b*x.b)) dm
theorem AYZ (r:R gw):sc (cj r) (iv FP (ad FP (mu FP r.1 r.1) (mu FP r.2 r.2)))=iv gw r:=by
 simp only [sc,cj,iv,mu,ad,mo_en];have e:=wM (mo r:gw)
 show en (Qx.sc (Qx.conj (mo r:gw)) (FD.inv ((mo r:gw).a*(mo r:gw).a+(mo r:gw).b*(mo r:gw).b)))=en (U5 (mo r:gw));rw [← e];rfl
theorem AYa (r:R gw):sc (cj r) (iv FP (mu gw r (cj r)).1)=iv gw r:=by
 simp only [sc,cj,iv,mu,mo_en,Qx.mul_conj];show en (Qx.sc (Qx.conj (mo r:gw)) (FD.inv (mo (en (mo r:gw).nrm):FP)))=en (U5 (mo r:gw));rw [mo_en];rfl
noncomputable abbrev oH1:ia:=AG SH1 KH
theorem Ik:g_ dr oH1:=AH wG Co
section
variable (r s:R gw) (k:R FP)
theorem AYb:AJ dr oH1 f171 [va gw r] [] 300=some ([],va gw (re gw r)):=dm
theorem AYc:AJ dr oH1 f99 [va gw r,va gw s] [] 300=some ([],va gw (ad gw r s)):=dm
theorem AYd:AJ dr oH1 f106 [va gw r,va gw s] [] 300=some ([],va gw (su gw r s)):=dm
theorem AYe:AJ dr oH1 f102 [va gw r] [] 300=some ([],va gw (ng gw r)):=dm
theorem AYf:AJ dr oH1 f181 [va gw r] [] 300=some ([],va gw (cj r)):=dm
theorem AYg:AJ dr oH1 f180 [va gw r,va FP k] [] 300=some ([],va gw (sc r k)):=dm
theorem AYh:AJ dr oH1 f275 [va gw r] [] 300=some ([],va gw (su FP r.1 r.2,ad FP r.1 r.2)):=dm
theorem AYi:AJ dr oH1 f183 [va gw r] [] 300=some ([],va gw (re gw r)):=dm
theorem AYj:AJ dr oH1 f116 [va gw r,va gw s] [] 300=some ([],va gw (ad gw r s)):=dm
theorem AYk:AJ dr oH1 f118 [va gw r] [] 300=some ([],va gw (ng gw r)):=dm
theorem AYl:AJ dr oH1 f257 [va gw r] [] 300=some ([],va gw (cj r)):=dm
theorem AYm:AJ dr oH1 f276 [va gw r,va FP k] [] 300=some ([],va gw (sc r k)):=dm
theorem AYn:AJ dr oH1 f114 [va gw r,va gw s] [] 300=some ([],va gw (su FP (mu FP r.1 s.1) (mu FP r.2 s.2),ad FP (mu FP r.1 s.2) (mu FP r.2 s.1))):=dm
noncomputable abbrev AHS:ia:=AG ((175,BF dr oH1 f175 300)::SH1) KH
theorem AYo:g_ dr AHS:=AH ⟨BJ Ik AB func175 dm dm 300,wG⟩ Co
theorem AYp:AJ dr AHS f100 [va gw r,va gw s] [] 300=some ([],va gw (su FP (mu FP r.1 s.1) (mu FP r.2 s.2),su FP (mu FP (ad FP r.1 r.2) (ad FP s.1 s.2)) (ad FP (mu FP r.1 s.1) (mu FP r.2 s.2)))):=dm
end
noncomputable def SH2:dw:=(171,Af (BZ gw fun r=>va gw (re gw r)))::(99,Af (DO gw gw fun r s=>va gw (ad gw r s)))::(106,Af (DO gw gw fun r s=>va gw (su gw r s)))::(102,Af (BZ gw fun r=>va gw (ng gw r)))::(181,Af (BZ gw fun r=>va gw (cj r)))::(180,Af (DO gw FP fun r k=>va gw (sc r k)))::(275,Af (BZ gw fun r=>va gw (mx r)))::(100,Af (DO gw gw fun r s=>va gw (mu gw r s)))::(183,Af (BZ gw fun r=>va gw (re gw r)))::(116,Af (DO gw gw fun r s=>va gw (ad gw r s)))::(118,Af (BZ gw fun r=>va gw (ng gw r)))::(257,Af (BZ gw fun r=>va gw (cj r)))::(276,Af (DO gw FP fun r k=>va gw (sc r k)))::(114,Af (DO gw gw fun r s=>va gw (mu gw r s)))::SH1
theorem AHT:AX dr SH2:=⟨Ah func171 dm dm (Bi fun r=>AN Ik AB func171 (AYb r) trivial rfl),Ah func99 dm dm (DX fun r s=>AN Ik AB func99 (AYc r s) trivial rfl),Ah func106 dm dm (DX fun r s=>AN Ik AB func106 (AYd r s) trivial rfl),Ah func102 dm dm (Bi fun r=>AN Ik AB func102 (AYe r) trivial rfl),Ah func181 dm dm (Bi fun r=>AN Ik AB func181 (AYf r) trivial rfl),Ah func180 dm dm (DX fun r s=>AN Ik AB func180 (AYg r s) trivial rfl),Ah func275 dm dm (Bi fun r=>by rw [← AYY];exact AN Ik AB func275 (AYh r) trivial rfl),Ah func100 dm dm (DX fun r s=>by rw [← AYW];exact AN AYo AB func100 (AYp r s) trivial rfl),Ah func183 dm dm (Bi fun r=>AN Ik AB func183 (AYi r) trivial rfl),Ah func116 dm dm (DX fun r s=>AN Ik AB func116 (AYj r s) trivial rfl),Ah func118 dm dm (Bi fun r=>AN Ik AB func118 (AYk r) trivial rfl),Ah func257 dm dm (Bi fun r=>AN Ik AB func257 (AYl r) trivial rfl),Ah func276 dm dm (DX fun r s=>AN Ik AB func276 (AYm r s) trivial rfl),Ah func114 dm dm (DX fun r s=>by rw [← AYX];exact AN Ik AB func114 (AYn r s) trivial rfl),wG⟩
noncomputable abbrev oH2:ia:=AG SH2 KH
theorem gA:g_ dr oH2:=AH AHT Co
section
variable (r s:R gw)
theorem AYq:AJ dr oH2 f107 [va gw r] [] 300=some ([],va gw (sc (cj r) (iv FP (ad FP (mu FP r.1 r.1) (mu FP r.2 r.2))))):=dm
theorem AYr:AJ dr oH2 f250 [va gw r,va gw s] [] 300=some ([],va gw (ad gw r (ng gw s))):=dm
theorem AYs:AJ dr oH2 f201 [va gw r] [] 300=some ([],va gw (mu gw r ((1:Nat),(1:Nat)))):=dm
theorem AYt:AJ dr oH2 f244 [va gw r] [] 300=some ([],va gw (sc (cj r) (iv FP (mu gw r (cj r)).1))):=dm
end
theorem AYu (r s:R gw):ad gw r (ng gw s)=su gw r s:=by simp only [ad,ng,su,mo_en,sub_eq]
theorem AYv (r:R gw):mu gw r ((1:Nat),(1:Nat))=mx r:=by
 unfold mu mx;exact jw (fun x=>en ((mo r:gw)*x)) (Qx.ext D6 D6)
noncomputable def SH3:dw:=(107,Af (BZ gw fun r=>va gw (iv gw r)))::(250,Af (DO gw gw fun r s=>va gw (su gw r s)))::(201,Af (BZ gw fun r=>va gw (mx r)))::(244,Af (BZ gw fun r=>va gw (iv gw r)))::SH2
theorem AHU:AX dr SH3:=⟨Ah func107 dm dm (Bi fun r=>by rw [← AYZ];exact AN gA AB func107 (AYq r) trivial rfl),Ah func250 dm dm (DX fun r s=>by rw [← AYu];exact AN gA AB func250 (AYr r s) trivial rfl),Ah func201 dm dm (Bi fun r=>by rw [← AYv];exact AN gA AB func201 (AYs r) trivial rfl),Ah func244 dm dm (Bi fun r=>by rw [← AYa];exact AN gA AB func244 (AYt r) trivial rfl),AHT⟩
noncomputable abbrev oH3:ia:=AG SH3 KH
theorem wO:g_ dr oH3:=AH AHU Co
abbrev P2:Type:=Pt gw
def dq (x y:Nat):Bool:=decide (x=y)
def CI (r s:R gw):Bool:=dq r.1 s.1&&dq r.2 s.2
theorem M2 (x y:FP):dq x.val y.val=decide (x=y):=by
 unfold dq;by_cases h:x=y
 ·rw [jm h,jm (jw Fin.val h)]
 ·rw [jq h,jq fun e=>h (Fin.ext e)]
theorem R9 (x y:gw):CI (en x) (en y)=decide (x=y):=by
 show (dq x.a.val y.a.val&&dq x.b.val y.b.val)=_;rw [M2,M2];by_cases h:x=y
 ·subst h;rw [jm rfl,jm rfl,jm rfl];rfl
 ·rw [jq h];by_cases h1:x.a=y.a
  ·rw [jq fun h2=>h (Qx.ext h1 h2),ny]
  ·rw [jq h1,oy]
def Cp (r:R gw):Bool:=dq r.1 0&&dq r.2 0
theorem OM (x:gw):Cp (en x)=decide (x=0):=R9 x 0
def AHV:List Ch:=[.n .u64 4,.n .u64 0,.n .u64 0,.n .u64 0,.n .u64 0,.n .u64 0,.n .u64 4,.n .u64 0,.n .u64 0,.n .u64 0,.n .u64 0,.n .u64 0]
theorem AYw:AJ dr oH3 f176 [] [] 100=some ([],.val true AHV):=dm
def CS (i:Bool):List Ch:=List.replicate 24 (.n .u64 0)++[.b i]
def ev (α:Type) [Sh α] (x:AV):List AV→Option AV | []=>some x | _=>none
section
variable (r s:R P2)
theorem AYx:AJ dr oH3 f105 [va P2 r] dz 300=some ([(r.2.2,true)],.val true (CS true)):=dm
theorem AYy:AJ dr oH3 f105 [va P2 r] dx 300=some ([(r.2.2,false)],.val true (Bs (av (re gw r.1)) (Bs (av (re gw r.2.1)) [.b false]))):=dm
end
theorem AYz (r:R P2):AT dr 105 [va P2 r] (ve (mo r:P2)):=by
 have h1:=AYx r;have h2:=AYy r;obtain ⟨x,y,i⟩:=r;cases i with
 | true=>exact EY (α:=P2) (r:=(en (.inf:P2):R P2)) (AN wO AB func105 h1 ⟨rfl,trivial⟩ rfl) dm
 | false=>exact EY (α:=P2) (r:=((re gw x,re gw y,false):R P2)) (AN wO AB func105 h2 ⟨rfl,trivial⟩ rfl) dm
noncomputable def SJ0:dw:=(176,Af (ev gw (ve KC)))::(105,Af (BZ P2 fun r=>ve (mo r:P2)))::SH3
theorem gB {α:Type} [Sh α] {P:gr} {f:gp} {x:AV} (h:AT P f [] x):∀ args v,ev α x args=some v→AT P f args v:=by
 intro args v hs;unfold ev at hs;split at hs
 ·injection hs with hs;subst hs;exact h
 ·cases hs
theorem AY0:AT dr 176 [] (ve KC):=EY (α:=gw) (r:=(en KC:R gw)) (AN wO AB func176 AYw trivial rfl) dm
theorem AHW:AX dr SJ0:=⟨Ah func176 dm dm (gB AY0),Ah func105 dm dm (Bi AYz),AHU⟩
noncomputable abbrev oJ0:ia:=AG SJ0 KH
theorem P4:g_ dr oJ0:=AH AHW Co
noncomputable def rX (p:P2):R gw:=(en p).1
noncomputable def rY (p:P2):R gw:=(en p).2.1
noncomputable def YW (x y:R gw):Bool:=CI (mu gw y y) (ad gw (mu gw (mu gw x x) x) (en KC))
noncomputable def BK (p:P2):Bool:=match p with
 | .inf=>true
 | .pt x y=>decide (y*y=x*x*x+KC)
theorem LU (p:P2):BK p=true↔Rg.On C2.b p:=by
 cases p with
 | inf=>exact ⟨fun _=>trivial,fun _=>rfl⟩
 | pt a b=>exact decide_eq_true_iff
theorem AHX (x y:R gw):YW x y=BK (.pt (mo x) (mo y)):=by
 unfold YW mu ad BK;rw [R9];simp only [mo_en]
section
variable (r:R P2)
theorem AY1:AJ dr oJ0 f103 [va P2 r] dz 300=some ([(r.2.2,true)],.val false [.b true]):=dm
theorem AY2:AJ dr oJ0 f103 [va P2 r] dx 300=some ([(r.2.2,false)],Aw (YW r.1 r.2.1)):=dm
end
theorem AY3 (r:R P2):AT dr 103 [va P2 r] (Aw (BK (mo r))):=by
 have h1:=AY1 r;have h2:=AY2 r;obtain ⟨x,y,i⟩:=r;cases i with
 | true=>exact CG (AN P4 AB func103 h1 ⟨rfl,trivial⟩ rfl) fun u hu=>Gw rfl hu
 | false =>
  rw [show BK (mo ((x,y,false):R P2))=BK (.pt (mo x) (mo y)) from rfl,← AHX]
  exact AN P4 AB func103 h2 ⟨rfl,trivial⟩ rfl
noncomputable def gD (px py qx qy:R gw):R gw:=mu gw (su gw qy py) (iv gw (su gw qx px))
noncomputable def gE (px py:R gw):R gw:=mu gw (ad gw (ad gw (mu gw px px) (mu gw px px)) (mu gw px px)) (iv gw (ad gw py py))
noncomputable def YX (l px qx:R gw):R gw:=su gw (su gw (mu gw l l) px) qx
noncomputable def wP (l px py x:R gw):R gw:=su gw (mu gw l (su gw px x)) py
noncomputable def wQ (l:R gw) (p q:P2):List Ch:=Bs (av (YX l (rX p) (rX q))) (Bs (av (wP l (rX p) (rY p) (YX l (rX p) (rX q)))) [.b false])
section
variable (r s:R P2)
noncomputable def gG (p q:P2) (d:Bool) (l:du):du:=(EX p,false)::(EX q,false)::(!CI (rX p) (rX q),d)::l
theorem AY4:AJ dr oJ0 f46 [va P2 r,va P2 s] dz 300=some ([(EX (mo r:P2),true)],ve (mo s:P2)):=dm
theorem AY5:AJ dr oJ0 f46 [va P2 r,va P2 s] ee 300=some ([(EX (mo r:P2),false),(EX (mo s:P2),true)],ve (mo r:P2)):=dm
theorem AY6:AJ dr oJ0 f46 [va P2 r,va P2 s] fb 300=some (gG (mo r) (mo s) true [],.val true (wQ (gD (rX (mo r)) (rY (mo r)) (rX (mo s)) (rY (mo s))) (mo r) (mo s))):=dm
theorem AY7:AJ dr oJ0 f46 [va P2 r,va P2 s] eq 300=some (gG (mo r) (mo s) false [(!CI (rY (mo r)) (rY (mo s)),true)],.val true (CS true)):=dm
theorem AY8:AJ dr oJ0 f46 [va P2 r,va P2 s] fi 300=some (gG (mo r) (mo s) false [(!CI (rY (mo r)) (rY (mo s)),false),(Cp (rY (mo r)),true)],.val true (CS true)):=dm
theorem AY9:AJ dr oJ0 f46 [va P2 r,va P2 s] ff 300=some (gG (mo r) (mo s) false [(!CI (rY (mo r)) (rY (mo s)),false),(Cp (rY (mo r)),false)],.val true (wQ (gE (rX (mo r)) (rY (mo r))) (mo r) (mo s))):=dm
end
theorem AHY (x y:R gw):(rd (Bs (av x) (Bs (av y) [.b false])):Option (R P2))=some ((x,y,false):R P2):=dm
theorem AHZ (a b c d L:gw):rd (wQ (en L) (.pt a b) (.pt c d))=some (en (GM a b c L):R P2):=by
 have e:(en (GM a b c L):R P2)=(YX (en L) (en a) (en c),wP (en L) (en a) (en b) (YX (en L) (en a) (en c)),false):=by
  unfold YX wP su mu;simp only [mo_en];rfl
 rw [e];exact AHY _ _
theorem AY_ (a b c d:gw):gD (en a) (en b) (en c) (en d)=en ((d-b)*FD.inv (c-a)):=by unfold gD mu su iv;simp only [mo_en]
theorem AY' (a b:gw):gE (en a) (en b)=en ((a*a+a*a+a*a)*FD.inv (b+b)):=by unfold gE mu ad iv;simp only [mo_en]
theorem AZA (r s:R P2):AT dr 46 [va P2 r,va P2 s] (ve (Rg.add (mo r:P2) (mo s))):=by
 have r1:=AY4 r s;have r2:=AY5 r s;have r3:=AY6 r s;have r4:=AY7 r s;have r5:=AY8 r s;have r6:=AY9 r s;generalize (mo r:P2)=p at *
 generalize (mo s:P2)=q at *
 have zz:rd (CS true)=some (en (.inf:P2):R P2):=dm
 cases p with
 | inf=>exact AN P4 AB func46 r1 ⟨rfl,trivial⟩ rfl
 | pt a b=>cases q with
  | inf=>exact AN P4 AB func46 r2 ⟨rfl,rfl,trivial⟩ rfl
  | pt c d =>
   have eX:CI (rX (.pt a b)) (rX (.pt c d))=decide (a=c):=R9 a c
   have eY:CI (rY (.pt a b)) (rY (.pt c d))=decide (b=d):=R9 b d
   have eZ:Cp (rY (.pt a b))=decide (b=0):=OM b
   rw [JN];by_cases hx:a=c
   ·rw [jo hx];by_cases hy:b=d
    ·by_cases h0:b=0
     ·rw [jn (fun h=>h.2 h0)]
      exact EY (AN P4 AB func46 r5 ⟨rfl,rfl,by rw [eX,jm hx];rfl,by rw [eY,jm hy];rfl,by rw [eZ,jm h0],trivial⟩ rfl) zz
     ·rw [jo ⟨hy,h0⟩];rw [show gE (rX (.pt a b)) (rY (.pt a b))=_ from AY' a b] at r6
      exact EY (AN P4 AB func46 r6 ⟨rfl,rfl,by rw [eX,jm hx];rfl,by rw [eY,jm hy];rfl,by rw [eZ,jq h0],trivial⟩ rfl) (AHZ a b c d _)
    ·rw [jn (fun h=>hy h.1)]
     exact EY (AN P4 AB func46 r4 ⟨rfl,rfl,by rw [eX,jm hx];rfl,by rw [eY,jq hy];rfl,trivial⟩ rfl) zz
   ·rw [jn hx];rw [show gD (rX (.pt a b)) (rY (.pt a b)) (rX (.pt c d)) (rY (.pt c d))=_ from AY_ a b c d] at r3
    exact EY (AN P4 AB func46 r3 ⟨rfl,rfl,by rw [eX,jq hx];rfl,trivial⟩ rfl) (AHZ a b c d _)
noncomputable def SJ1:dw:=(103,Af (BZ P2 fun r=>Aw (BK (mo r))))::(46,Af (DO P2 P2 fun r s=>ve (Rg.add (mo r:P2) (mo s))))::SJ0
theorem AHa:AX dr SJ1:=⟨Ah func103 dm dm (Bi AY3),Ah func46 dm dm (DX AZA),AHW⟩
abbrev J2:Type:=J gw
noncomputable abbrev oJ1:ia:=AG SJ1 KH
theorem AZB:g_ dr oJ1:=AH AHa Co
def lq (x y:Nat):Bool:=decide (x<y)
def Cq (r:R gw):Bool:=lq r.1 pN&&lq r.2 pN
theorem LV {r:R gw} (h:Cq r=true):en (mo r:gw)=r:=by
 obtain ⟨h1,h2⟩:=jy.1 h;exact nc (HO (kj h1)) (HO (kj h2))
theorem KF (x:gw):Cq (en x)=true:=jy.2 ⟨jm x.a.isLt,jm x.b.isLt⟩
noncomputable def qE (x:R gw):R gw:=ad gw (ad gw (mu gw x x) (mu gw x x)) (mu gw x x)
noncomputable def qD (x y:R gw):R gw:=ad gw (ad gw (mu gw x (mu gw y y)) (mu gw x (mu gw y y))) (ad gw (mu gw x (mu gw y y)) (mu gw x (mu gw y y)))
noncomputable def wS (y:R gw):R gw:=ad gw (mu gw (mu gw y y) (mu gw y y)) (mu gw (mu gw y y) (mu gw y y))
noncomputable def wT (y:R gw):R gw:=ad gw (wS y) (wS y)
noncomputable def qC8 (y:R gw):R gw:=ad gw (wT y) (wT y)
noncomputable def qX (x y:R gw):R gw:=su gw (mu gw (qE x) (qE x)) (ad gw (qD x y) (qD x y))
noncomputable def qY (x y:R gw):R gw:=su gw (mu gw (qE x) (su gw (qD x y) (qX x y))) (qC8 y)
noncomputable def qT (r:R J2):R J2:=(qX r.1 r.2.1,qY r.1 r.2.1,ad gw (mu gw r.2.1 r.2.2) (mu gw r.2.1 r.2.2))
theorem AZC (r:R J2):AJ dr oJ1 f235 [va J2 r] [] 500=some ([],va J2 (qT r)):=dm
theorem AZD (r:R J2):qT r=en (Bw (mo r:J2)):=by
 unfold qT qY qX qC8 wT wS qD qE su mu ad;simp only [mo_en];rfl
theorem AZE (r:R J2):AT dr 235 [va J2 r] (ve (Bw (mo r:J2))):=by
 unfold ve;rw [← AZD];exact AN AZB AB func235 (AZC r) trivial rfl
noncomputable def SJ2:dw:=(235,Af (BZ J2 fun r=>ve (Bw (mo r:J2))))::SJ1
theorem AHc:AX dr SJ2:=⟨Ah func235 dm dm (Bi AZE),AHa⟩
noncomputable abbrev oJ2:ia:=AG SJ2 KH
theorem R_:g_ dr oJ2:=AH AHc Co
noncomputable def qH (x z a:R gw):R gw:=su gw (mu gw a (mu gw z z)) x
noncomputable def qR (y z b:R gw):R gw:=su gw (mu gw b (mu gw (mu gw z z) z)) y
noncomputable def SA (x h r:R gw):R gw:=su gw (su gw (mu gw r r) (mu gw (mu gw h h) h)) (ad gw (mu gw x (mu gw h h)) (mu gw x (mu gw h h)))
noncomputable def VH (x y h r:R gw):R gw:=su gw (mu gw r (su gw (mu gw x (mu gw h h)) (SA x h r))) (mu gw y (mu gw (mu gw h h) h))
section
variable (p:R J2) (q:R P2)
def VI:List Ch:=List.replicate 36 (.n .u64 0)
theorem AZF:AJ dr oJ2 f236 [va J2 p,va P2 q] dz 500=some ([(Cp p.2.2,true)],.val true (Bs (av q.1) (Bs (av q.2.1) (.n .u64 1::List.replicate 11 (.n .u64 0))))):=dm
theorem AZG:AJ dr oJ2 f236 [va J2 p,va P2 q] fe 500=some ([(Cp p.2.2,false),(Cp (qH p.1 p.2.2 q.1),true),(Cp (qR p.2.1 p.2.2 q.2.1),true)],ve (Bw (mo p:J2))):=dm
theorem AZH:AJ dr oJ2 f236 [va J2 p,va P2 q] [false,true,false,true] 500=some ([(Cp p.2.2,false),(Cp (qH p.1 p.2.2 q.1),true),(Cp (qR p.2.1 p.2.2 q.2.1),false),(Cp (qH p.1 p.2.2 q.1),true)],.val true VI):=dm
theorem AZI:AJ dr oJ2 f236 [va J2 p,va P2 q] fh 500=some ([(Cp p.2.2,false),(Cp (qH p.1 p.2.2 q.1),false),(Cp (qH p.1 p.2.2 q.1),false)],
 va J2 (SA p.1 (qH p.1 p.2.2 q.1) (qR p.2.1 p.2.2 q.2.1),VH p.1 p.2.1 (qH p.1 p.2.2 q.1) (qR p.2.1 p.2.2 q.2.1),mu gw p.2.2 (qH p.1 p.2.2 q.1))):=dm
end
theorem AHd (x y:R gw):(rd (Bs (av x) (Bs (av y) (.n .u64 1::List.replicate 11 (.n .u64 0)))):Option (R J2))=some ((x,y,en (1:gw)):R J2):=dm
theorem AZJ {p:R J2} {q:R P2} (hz:Cq p.2.2=true) (hx:Cq q.1=true) (hy:Cq q.2.1=true):AT dr 236 [va J2 p,va P2 q] (ve (F0 (mo p:J2) (mo q.1) (mo q.2.1))):=by
 have ez:Cp p.2.2=decide ((mo p:J2).z=0):=by
  conv=>lhs;rw [← LV hz]
  exact OM _
 have eh:qH p.1 p.2.2 q.1=en (pH (mo p:J2) (mo q.1)):=by unfold qH su mu;simp only [mo_en];rfl
 have er:qR p.2.1 p.2.2 q.2.1=en (pR (mo p:J2) (mo q.2.1)):=by unfold qR su mu;simp only [mo_en];rfl
 have zh:Cp (qH p.1 p.2.2 q.1)=decide (pH (mo p:J2) (mo q.1)=0):=by rw [eh];exact OM _
 have zr:Cp (qR p.2.1 p.2.2 q.2.1)=decide (pR (mo p:J2) (mo q.2.1)=0):=by rw [er];exact OM _
 have r1:=AZF p q;have r2:=AZG p q;have r3:=AZH p q;have r4:=AZI p q;rw [zh,ez] at r2;rw [zh,ez,zr] at r3;rw [zr] at r2;rw [zh,ez,eh,er] at r4;rw [ez] at r1;unfold F0;by_cases h0:(mo p:J2).z=0
 ·rw [jo h0];refine EY (α:=J2) (r:=(en (⟨mo q.1,mo q.2.1,1⟩:J2):R J2)) (AN R_ AB func236 r1 ⟨jm h0,trivial⟩ rfl) ?_
  have e:(en (⟨mo q.1,mo q.2.1,1⟩:J2):R J2)=(q.1,q.2.1,en (1:gw)):=by
   show ((en (mo q.1:gw),en (mo q.2.1:gw),en (1:gw)):R J2)=_;rw [LV hx,LV hy]
  rw [e];exact AHd _ _
 ·rw [jn h0];by_cases hh:pH (mo p:J2) (mo q.1)=0
  ·rw [jo hh];by_cases hr:pR (mo p:J2) (mo q.2.1)=0
   ·rw [jo hr];exact AN R_ AB func236 r2 ⟨jq h0,jm hh,jm hr,trivial⟩ rfl
   ·rw [jn hr];exact EY (α:=J2) (r:=(en (⟨0,0,0⟩:J2):R J2)) (AN R_ AB func236 r3 ⟨jq h0,jm hh,jq hr,jm hh,trivial⟩ rfl) dm
  ·rw [jn hh];have e:((SA p.1 (en (pH (mo p:J2) (mo q.1))) (en (pR (mo p:J2) (mo q.2.1))),VH p.1 p.2.1 (en (pH (mo p:J2) (mo q.1))) (en (pR (mo p:J2) (mo q.2.1))),mu gw p.2.2 (en (pH (mo p:J2) (mo q.1)))):R J2) =
     en (⟨pX (mo p:J2).x (pH (mo p:J2) (mo q.1)) (pR (mo p:J2) (mo q.2.1)),pY (mo p:J2).x (mo p:J2).y (pH (mo p:J2) (mo q.1)) (pR (mo p:J2) (mo q.2.1)),(mo p:J2).z*pH (mo p:J2) (mo q.1)⟩:J2):=by
    unfold VH SA su mu ad;simp only [mo_en];rfl
   rw [e] at r4;exact AN R_ AB func236 r4 ⟨jq h0,jq hh,jq hh,trivial⟩ rfl
noncomputable def VJ:List AV→Option (du×AV)
 | [.val true a,.val true b]=>match (rd a:Option (R J2)),(rd b:Option (R P2)) with
  | some p,some q=>some ([(Cq p.2.2,true),(Cq q.1,true),(Cq q.2.1,true)],ve (F0 (mo p:J2) (mo q.1) (mo q.2.1)))
  | _,_=>none
 | _=>none
theorem AZK:∀ args c v,VJ args=some (c,v)→AM c→AT dr 236 args v:=by
 intro args c v hs hc us w ha;unfold VJ at hs;split at hs;case h_2=>cases hs
 split at hs;case h_2=>cases hs
 rename_i p q hx hy;injection hs with hs;injection hs with h1 h2;subst h1;subst h2;obtain ⟨u1,jf,r1,⟨u2,jg,r2,ha,rfl⟩,rfl⟩:=ha;exact AZJ hc.1 hc.2.1 hc.2.2.1 _ w ⟨u1,_,F1 hx r1,⟨u2,_,F1 hy r2,ha,rfl⟩,rfl⟩
def z6 (r:R J2):Bool:=dq r.1.1 0&&(dq r.1.2 0&&(dq r.2.1.1 0&&(dq r.2.1.2 0&&Cp r.2.2)))
section
variable (r:R J2)
theorem AZL:AJ dr oJ2 f237 [va J2 r] dz 500=some ([(z6 r,true)],.val true (CS true)):=dm
theorem AZM:AJ dr oJ2 f237 [va J2 r] ee 500=some ([(z6 r,false),(Cp r.2.2,true)],.val true (CS true)):=dm
noncomputable def qI (r:R J2):R gw:=mu gw (iv gw r.2.2) (iv gw r.2.2)
theorem AZN:AJ dr oJ2 f237 [va J2 r] ef 500=some ([(z6 r,false),(Cp r.2.2,false)],.val true (Bs (av (mu gw r.1 (qI r))) (Bs (av (mu gw r.2.1 (mu gw (qI r) (iv gw r.2.2)))) [.b false]))):=dm
end
theorem AZO {r:R J2} (hz:Cq r.2.2=true):AT dr 237 [va J2 r] (ve (CF (mo r:J2))):=by
 have ez:Cp r.2.2=decide ((mo r:J2).z=0):=by
  conv=>lhs;rw [← LV hz]
  exact OM _
 have zz:rd (CS true)=some (en (.inf:P2):R P2):=dm
 by_cases h0:(mo r:J2).z=0
 ·rw [G0 h0];cases h3:z6 r with
  | true=>exact EY (AN R_ AB func237 (AZL r) ⟨h3,trivial⟩ rfl) zz
  | false=>exact EY (AN R_ AB func237 (AZM r) ⟨h3,by rw [ez];exact jm h0,trivial⟩ rfl) zz
 ·have h3:z6 r=false:=by unfold z6;rw [ez,jq h0];simp
  rw [Ig h0];refine EY (AN R_ AB func237 (AZN r) ⟨h3,by rw [ez];exact jq h0,trivial⟩ rfl) ?_
  have e:(en (.pt ((mo r:J2).x*(FD.inv (mo r:J2).z*FD.inv (mo r:J2).z)) ((mo r:J2).y*((FD.inv (mo r:J2).z*FD.inv (mo r:J2).z)*FD.inv (mo r:J2).z)):P2):R P2)=(mu gw r.1 (qI r),mu gw r.2.1 (mu gw (qI r) (iv gw r.2.2)),false):=by
   unfold qI mu iv;simp only [mo_en];rfl
  rw [e];exact AHY _ _
noncomputable def wU:List AV→Option (du×AV)
 | [.val true a]=>match (rd a:Option (R J2)) with
  | some p=>some ([(Cq p.2.2,true)],ve (CF (mo p:J2)))
  | _=>none
 | _=>none
theorem AZP:∀ args c v,wU args=some (c,v)→AM c→AT dr 237 args v:=by
 intro args c v hs hc us w ha;unfold wU at hs;split at hs;case h_2=>cases hs
 split at hs;case h_2=>cases hs
 rename_i p hx;injection hs with hs;injection hs with h1 h2;subst h1;subst h2;obtain ⟨u1,jf,r1,ha,rfl⟩:=ha;exact AZO hc.1 _ w ⟨u1,_,F1 hx r1,ha,rfl⟩
noncomputable def SJ3:dw:=(236,FO VJ)::(237,FO wU)::SJ2
theorem AHe:AX dr SJ3:=⟨GK func236 dm dm AZK,GK func237 dm dm AZP,AHc⟩
noncomputable abbrev oJ3:ia:=AG SJ3 KH
theorem VK:g_ dr oJ3:=AH AHe Co
end Go.Proofs.YtgnajdcdcblaoaaGreat
