/- Part 6 of the proof: Sr, Ss, St, Su, Sv, Sw, Sx, Sy, Sz, Ya. -/
import Derived.Test.YtjlcdlekmpjjnaaGreatPE
/- slices.Concat: the contract as the executor asks it (printed by gen/ccs.py). -/
namespace Go.Proofs.YtjlcdlekmpjjnaaGreat
open Ex Num
set_option maxRecDepth 100000
set_option maxHeartbeats 4000000
theorem good_views {β:Env} {H:Heap} {w:World} {ρ:List Nat} {bs:List Blk} (g:Ex.Good β H w) (h:∀ j d,bs[j]? = some d→d.ty=roTy∧relB (inEnv β ρ bs.length) d j w):Ex.Good (inEnv β ρ bs.length) (enumH 0 bs) w:=by
 refine ⟨fun j blk hj=>?_,fun i j B n n' h1 _ _ _=>?_,fun j B n hj=>?_⟩
 ·obtain ⟨_,hj⟩:=hget_enum hj
  rw [Nat.sub_zero] at hj
  exact (h j blk hj).2
 ·obtain ⟨d,hd,hr⟩:=rwK_some h1
  obtain ⟨_,hd⟩:=hget_enum hd
  rw [Nat.sub_zero] at hd
  exact absurd (h i d hd).1 hr
 ·unfold inEnv at hj
  split at hj
  ·exact g.lt _ _ _ hj
  ·cases hj
theorem asSl_relC {β:Env} {C:Ch} {k off n:Nat} {l:List Value} (h:asSl (.val false [C])=some (k,off,n)) (hr:relC β C l):∃ m,relC β (.sl k off n m) l:=by
 have h1:∃ u,l=[u]:=by
  unfold asSl at h
  split at h
  ·rename_i he
   injection he with _ he;injection he with he _;subst he
   rcases hr with ⟨B,q,_,e⟩ | ⟨_,_,_,_,e⟩<;>exact ⟨_,e⟩
  ·rename_i he
   injection he with _ he;injection he with he _;subst he
   rcases hr with ⟨B,q,cap,_,e,_⟩ | ⟨_,_,e⟩<;>exact ⟨_,e⟩
  ·cases h
 obtain ⟨u,rfl⟩:=h1
 obtain ⟨m,hm⟩:=asSl_rel (u:=u) h (rel_one' hr)
 exact ⟨m,rel_one hm⟩
theorem slC_in {β:Env} {k j off n m:Nat} {ρ:List Nat} {k0:Nat} {l:List Value} (hj:j<k0) (hn:nth ρ j=k) (h:relC β (.sl k off n m) l):relC (inEnv β ρ k0) (.sl j off n m) l:=by
 have e:inEnv β ρ k0 j=β k:=by rw [inEnv_at hj,hn]
 rcases h with ⟨B,q,q1,q2⟩ | ⟨q1,q2⟩
 ·exact .inl ⟨B,q,by rw [e];exact q1,q2⟩
 ·exact .inr ⟨by rw [e];exact q1,q2⟩
theorem by_view {β:Env} {H:Heap} {w:World} {k j ty:Nat} {cs:List Ch} {o:Bool} {xs:List Int} {ρ:List Nat} {k0:Nat} (hg:Ex.Good β H w) (hk:hget H k=some ⟨ty,cs,o⟩) (hx:toSeq .u8 cs=some xs) (hj:j<k0) (hn:nth ρ j=k):relB (inEnv β ρ k0) (roB [.seq .u8 xs]) j w:=by
 refine relB_in (hg.heap _ _ hk) (by rw [inEnv_at hj,hn]) (.inl rfl) fun l h=>?_
 obtain ⟨q1,q2⟩:=toSeq_rel hx h
 exact ⟨_,[],⟨q1,q2⟩,rfl,by simp⟩
theorem rows_view {β:Env} {H:Heap} {w:World} {k ty:Nat} {c:Ch} {cs:List Ch} {o:Bool} (hg:Ex.Good β H w) (hk:hget H k=some ⟨ty,c::cs,o⟩) (hz:szC c=1):∃ l,relL β (c::cs) l∧∀ (β':Env) (cs':List Ch) (j:Nat),β' j=β k→relL β' cs' l→relB β' (roB cs') j w:=by
 rcases hg.heap _ _ hk with ⟨B,n,l,t,pre,ty',fz,q1,q2,q3,q4,_⟩ | ⟨_,_,q3⟩
 ·exact ⟨l,q2,fun β' cs' j he hr=>.inl ⟨B,n,l,t,pre,ty',fz,he.trans q1,hr,q3,q4,fun h=>absurd rfl h⟩⟩
 ·have:=relL_length q3
  simp only [szL,hz,List.length_nil] at this
  omega
def byAt (H:Heap) (c:Ch):Option (Nat×Nat×Nat×List Int):=match asSl (.val false [c]) with
 | some (k,off,n)=>match hget H k with
  | some ⟨_,cs,_⟩=>match toSeq .u8 cs with
   | some xs=>some (k,off,n,xs)
   | none=>none
  | none=>none
 | none=>none
theorem byAt_spec {H:Heap} {c:Ch} {k off n:Nat} {xs:List Int} (h:byAt H c=some (k,off,n,xs)):asSl (.val false [c])=some (k,off,n)∧∃ ty cs o,hget H k=some ⟨ty,cs,o⟩∧toSeq .u8 cs=some xs:=by
 unfold byAt at h
 split at h
 case h_2=>cases h
 rename_i k' off' n' h1
 split at h
 case h_2=>cases h
 rename_i ty cs o h2
 split at h
 case h_2=>cases h
 rename_i xs' h3
 injection h with h;injection h with e1 h;injection h with e2 h;injection h with e3 e4
 subst e1;subst e2;subst e3;subst e4
 exact ⟨h1,ty,cs,o,h2,h3⟩
theorem szC_sl {c:Ch} {x:Nat×Nat×Nat} (h:asSl (.val false [c])=some x):szC c=1:=by
 unfold asSl at h
 split at h
 ·rename_i he
  injection he with _ he;injection he with he _;subst he;rfl
 ·rename_i he
  injection he with _ he;injection he with he _;subst he;rfl
 ·cases h
def cc_ssSp (H:Heap) (k fr:Nat) (path:List Bool) (c1 c2:Ch):Option R:=match byAt H c1,byAt H c2 with
 | some (k1,o1,n1,x1),some (k2,o2,n2,x2)=>some (trR [k,k1,k2] 3 fr 3 [] (.val false [.sx 5 (n1+n2) 1]) (ccO 5 (win x1 o1 n1++win x2 o2 n2)) [(Nat.ble (o1+n1) x1.length,true),(Nat.ble (o2+n2) x2.length,true),(Nat.ble (n1+n2) 35184372088832,true)] path)
 | _,_=>none
def cc_sssSp (H:Heap) (k fr:Nat) (path:List Bool) (c1 c2 c3:Ch):Option R:=match byAt H c1,byAt H c2,byAt H c3 with
 | some (k1,o1,n1,x1),some (k2,o2,n2,x2),some (k3,o3,n3,x3)=>some (trR [k,k1,k2,k3] 4 fr 4 [] (.val false [.sx 7 (n1+n2+n3) 1]) (ccO 7 (win x1 o1 n1++win x2 o2 n2++win x3 o3 n3)) [(Nat.ble (o1+n1) x1.length,true),(Nat.ble (o2+n2) x2.length,true),(Nat.ble (o3+n3) x3.length,true),(Nat.ble (n1+n2+n3) 35184372088832,true)] path)
 | _,_,_=>none
def cc_ssssSp (H:Heap) (k fr:Nat) (path:List Bool) (c1 c2 c3 c4:Ch):Option R:=match byAt H c1,byAt H c2,byAt H c3,byAt H c4 with
 | some (k1,o1,n1,x1),some (k2,o2,n2,x2),some (k3,o3,n3,x3),some (k4,o4,n4,x4)=>some (trR [k,k1,k2,k3,k4] 5 fr 5 [] (.val false [.sx 9 (n1+n2+n3+n4) 1]) (ccO 9 (win x1 o1 n1++win x2 o2 n2++win x3 o3 n3++win x4 o4 n4)) [(Nat.ble (o1+n1) x1.length,true),(Nat.ble (o2+n2) x2.length,true),(Nat.ble (o3+n3) x3.length,true),(Nat.ble (o4+n4) x4.length,true),(Nat.ble (n1+n2+n3+n4) 35184372088832,true)] path)
 | _,_,_,_=>none
def cc_nssSp (H:Heap) (k fr:Nat) (path:List Bool) (c2 c3:Ch):Option R:=match byAt H c2,byAt H c3 with
 | some (k1,o1,n1,x1),some (k2,o2,n2,x2)=>some (trR [k,k1,k2] 3 fr 4 [] (.val false [.sx 6 (n1+n2) 1]) (ccO 6 (win x1 o1 n1++win x2 o2 n2)) [(Nat.ble (o1+n1) x1.length,true),(Nat.ble (o2+n2) x2.length,true),(Nat.ble (n1+n2) 35184372088832,true)] path)
 | _,_=>none
def ccSp:ASpec:=fun args H fr path=>match args with
 | [.val false [.sl k 0 n m]]=>match hget H k,Nat.beq m n with
  | some ⟨_,cs,_⟩,true=>match cs with
   | [c1,c2]=>match Nat.beq n 2 with
    | true=>cc_ssSp H k fr path c1 c2
    | false=>none
   | [c1,c2,c3]=>match Nat.beq n 3,c1 with
    | true,.v (.slice none 0 0)=>cc_nssSp H k fr path c2 c3
    | true,c1=>cc_sssSp H k fr path c1 c2 c3
    | _,_=>none
   | [c1,c2,c3,c4]=>match Nat.beq n 4 with
    | true=>cc_ssssSp H k fr path c1 c2 c3 c4
    | false=>none
   | _=>none
  | _,_=>none
 | _=>none
theorem cc_ssSp_ok {H:Heap} {k fr ty:Nat} {path:List Bool} {c1 c2:Ch} {o:Bool} {r:R} (hk:hget H k=some ⟨ty,[c1,c2],o⟩) (hs:cc_ssSp H k fr path c1 c2=some r) :
  ∃ (ρ:List Nat) (k0 nw:Nat) (W:List Nat) (val:AV) (H1:Heap) (conds:List (Bool×Bool)) (path':List Bool),
   r=trR ρ k0 fr nw W val H1 conds path'∧(∀ β us w,relAs β [slA k 0 2 2] us→Ex.Good β H w→okConds conds→∃ args0 H0,CanOk Tryz.prog 100 args0 H0 k0 W val H1∧canB k0 nw W val H1=true∧relAs (inEnv β ρ k0) args0 us∧Ex.Good (inEnv β ρ k0) H0 w∧(∀ k,k<k0→∃ X,β (nth ρ k)=some X)):=by
 unfold cc_ssSp at hs
 split at hs
 case h_2=>cases hs
 rename_i k1 o1 n1 x1 k2 o2 n2 x2 a1 a2
 injection hs with hs
 obtain ⟨s1,ty1,cs1,p1,g1,t1⟩:=byAt_spec a1
 obtain ⟨s2,ty2,cs2,p2,g2,t2⟩:=byAt_spec a2
 refine ⟨[k,k1,k2],3,3,[],_,_,_,path,hs.symm,fun β us w ha hg hc=>?_⟩
 obtain ⟨b1,b2,hS,_⟩:=hc
 obtain ⟨u1,us1,r1,ha,rfl⟩:=ha
 obtain ⟨l,hl,hv⟩:=rows_view hg hk (szC_sl s1)
 obtain ⟨v1,l1,d1,f1,rfl⟩:=hl
 obtain ⟨v2,l2,d2,f2,rfl⟩:=f1
 obtain ⟨m1,d1⟩:=asSl_relC s1 d1
 obtain ⟨m2,d2⟩:=asSl_relC s2 d2
 refine ⟨[slA 0 0 2 2],cc_ssH o1 n1 m1 o2 n2 m2 x1 x2,cc_ss_can (Nat.le_of_ble_eq_true b1) (Nat.le_of_ble_eq_true b2) (Nat.le_of_ble_eq_true hS),rfl,⟨u1,_,sl_in (by omega) rfl r1,ha,rfl⟩,good_views (bs:=[roB [.sl 1 o1 n1 m1,.sl 2 o2 n2 m2],roB [.seq .u8 x1],roB [.seq .u8 x2]]) hg fun j d hj=>?_,fun j hj=>?_⟩
 ·match j,hj with
  | 0,hj=>injection hj with hj;subst hj;exact ⟨rfl,hv _ _ _ (inEnv_at (by show 0<3;decide)) ⟨_,_,slC_in (by show 1<3;decide) rfl d1,⟨_,_,slC_in (by show 2<3;decide) rfl d2,f2,rfl⟩,rfl⟩⟩
  | 1,hj=>injection hj with hj;subst hj;exact ⟨rfl,by_view hg g1 t1 (by show 1<3;decide) rfl⟩
  | 2,hj=>injection hj with hj;subst hj;exact ⟨rfl,by_view hg g2 t2 (by show 2<3;decide) rfl⟩
 ·match j,hj with
  | 0,_=>exact relB_def (hg.heap _ _ hk)
  | 1,_=>exact relB_def (hg.heap _ _ g1)
  | 2,_=>exact relB_def (hg.heap _ _ g2)
theorem cc_sssSp_ok {H:Heap} {k fr ty:Nat} {path:List Bool} {c1 c2 c3:Ch} {o:Bool} {r:R} (hk:hget H k=some ⟨ty,[c1,c2,c3],o⟩) (hs:cc_sssSp H k fr path c1 c2 c3=some r) :
  ∃ (ρ:List Nat) (k0 nw:Nat) (W:List Nat) (val:AV) (H1:Heap) (conds:List (Bool×Bool)) (path':List Bool),
   r=trR ρ k0 fr nw W val H1 conds path'∧(∀ β us w,relAs β [slA k 0 3 3] us→Ex.Good β H w→okConds conds→∃ args0 H0,CanOk Tryz.prog 100 args0 H0 k0 W val H1∧canB k0 nw W val H1=true∧relAs (inEnv β ρ k0) args0 us∧Ex.Good (inEnv β ρ k0) H0 w∧(∀ k,k<k0→∃ X,β (nth ρ k)=some X)):=by
 unfold cc_sssSp at hs
 split at hs
 case h_2=>cases hs
 rename_i k1 o1 n1 x1 k2 o2 n2 x2 k3 o3 n3 x3 a1 a2 a3
 injection hs with hs
 obtain ⟨s1,ty1,cs1,p1,g1,t1⟩:=byAt_spec a1
 obtain ⟨s2,ty2,cs2,p2,g2,t2⟩:=byAt_spec a2
 obtain ⟨s3,ty3,cs3,p3,g3,t3⟩:=byAt_spec a3
 refine ⟨[k,k1,k2,k3],4,4,[],_,_,_,path,hs.symm,fun β us w ha hg hc=>?_⟩
 obtain ⟨b1,b2,b3,hS,_⟩:=hc
 obtain ⟨u1,us1,r1,ha,rfl⟩:=ha
 obtain ⟨l,hl,hv⟩:=rows_view hg hk (szC_sl s1)
 obtain ⟨v1,l1,d1,f1,rfl⟩:=hl
 obtain ⟨v2,l2,d2,f2,rfl⟩:=f1
 obtain ⟨v3,l3,d3,f3,rfl⟩:=f2
 obtain ⟨m1,d1⟩:=asSl_relC s1 d1
 obtain ⟨m2,d2⟩:=asSl_relC s2 d2
 obtain ⟨m3,d3⟩:=asSl_relC s3 d3
 refine ⟨[slA 0 0 3 3],cc_sssH o1 n1 m1 o2 n2 m2 o3 n3 m3 x1 x2 x3,cc_sss_can (Nat.le_of_ble_eq_true b1) (Nat.le_of_ble_eq_true b2) (Nat.le_of_ble_eq_true b3) (Nat.le_of_ble_eq_true hS),rfl,⟨u1,_,sl_in (by omega) rfl r1,ha,rfl⟩,good_views (bs:=[roB [.sl 1 o1 n1 m1,.sl 2 o2 n2 m2,.sl 3 o3 n3 m3],roB [.seq .u8 x1],roB [.seq .u8 x2],roB [.seq .u8 x3]]) hg fun j d hj=>?_,fun j hj=>?_⟩
 ·match j,hj with
  | 0,hj=>injection hj with hj;subst hj;exact ⟨rfl,hv _ _ _ (inEnv_at (by show 0<4;decide)) ⟨_,_,slC_in (by show 1<4;decide) rfl d1,⟨_,_,slC_in (by show 2<4;decide) rfl d2,⟨_,_,slC_in (by show 3<4;decide) rfl d3,f3,rfl⟩,rfl⟩,rfl⟩⟩
  | 1,hj=>injection hj with hj;subst hj;exact ⟨rfl,by_view hg g1 t1 (by show 1<4;decide) rfl⟩
  | 2,hj=>injection hj with hj;subst hj;exact ⟨rfl,by_view hg g2 t2 (by show 2<4;decide) rfl⟩
  | 3,hj=>injection hj with hj;subst hj;exact ⟨rfl,by_view hg g3 t3 (by show 3<4;decide) rfl⟩
 ·match j,hj with
  | 0,_=>exact relB_def (hg.heap _ _ hk)
  | 1,_=>exact relB_def (hg.heap _ _ g1)
  | 2,_=>exact relB_def (hg.heap _ _ g2)
  | 3,_=>exact relB_def (hg.heap _ _ g3)
theorem cc_ssssSp_ok {H:Heap} {k fr ty:Nat} {path:List Bool} {c1 c2 c3 c4:Ch} {o:Bool} {r:R} (hk:hget H k=some ⟨ty,[c1,c2,c3,c4],o⟩) (hs:cc_ssssSp H k fr path c1 c2 c3 c4=some r) :
  ∃ (ρ:List Nat) (k0 nw:Nat) (W:List Nat) (val:AV) (H1:Heap) (conds:List (Bool×Bool)) (path':List Bool),
   r=trR ρ k0 fr nw W val H1 conds path'∧(∀ β us w,relAs β [slA k 0 4 4] us→Ex.Good β H w→okConds conds→∃ args0 H0,CanOk Tryz.prog 100 args0 H0 k0 W val H1∧canB k0 nw W val H1=true∧relAs (inEnv β ρ k0) args0 us∧Ex.Good (inEnv β ρ k0) H0 w∧(∀ k,k<k0→∃ X,β (nth ρ k)=some X)):=by
 unfold cc_ssssSp at hs
 split at hs
 case h_2=>cases hs
 rename_i k1 o1 n1 x1 k2 o2 n2 x2 k3 o3 n3 x3 k4 o4 n4 x4 a1 a2 a3 a4
 injection hs with hs
 obtain ⟨s1,ty1,cs1,p1,g1,t1⟩:=byAt_spec a1
 obtain ⟨s2,ty2,cs2,p2,g2,t2⟩:=byAt_spec a2
 obtain ⟨s3,ty3,cs3,p3,g3,t3⟩:=byAt_spec a3
 obtain ⟨s4,ty4,cs4,p4,g4,t4⟩:=byAt_spec a4
 refine ⟨[k,k1,k2,k3,k4],5,5,[],_,_,_,path,hs.symm,fun β us w ha hg hc=>?_⟩
 obtain ⟨b1,b2,b3,b4,hS,_⟩:=hc
 obtain ⟨u1,us1,r1,ha,rfl⟩:=ha
 obtain ⟨l,hl,hv⟩:=rows_view hg hk (szC_sl s1)
 obtain ⟨v1,l1,d1,f1,rfl⟩:=hl
 obtain ⟨v2,l2,d2,f2,rfl⟩:=f1
 obtain ⟨v3,l3,d3,f3,rfl⟩:=f2
 obtain ⟨v4,l4,d4,f4,rfl⟩:=f3
 obtain ⟨m1,d1⟩:=asSl_relC s1 d1
 obtain ⟨m2,d2⟩:=asSl_relC s2 d2
 obtain ⟨m3,d3⟩:=asSl_relC s3 d3
 obtain ⟨m4,d4⟩:=asSl_relC s4 d4
 refine ⟨[slA 0 0 4 4],cc_ssssH o1 n1 m1 o2 n2 m2 o3 n3 m3 o4 n4 m4 x1 x2 x3 x4,cc_ssss_can (Nat.le_of_ble_eq_true b1) (Nat.le_of_ble_eq_true b2) (Nat.le_of_ble_eq_true b3) (Nat.le_of_ble_eq_true b4) (Nat.le_of_ble_eq_true hS),rfl,⟨u1,_,sl_in (by omega) rfl r1,ha,rfl⟩,good_views (bs:=[roB [.sl 1 o1 n1 m1,.sl 2 o2 n2 m2,.sl 3 o3 n3 m3,.sl 4 o4 n4 m4],roB [.seq .u8 x1],roB [.seq .u8 x2],roB [.seq .u8 x3],roB [.seq .u8 x4]]) hg fun j d hj=>?_,fun j hj=>?_⟩
 ·match j,hj with
  | 0,hj=>injection hj with hj;subst hj;exact ⟨rfl,hv _ _ _ (inEnv_at (by show 0<5;decide)) ⟨_,_,slC_in (by show 1<5;decide) rfl d1,⟨_,_,slC_in (by show 2<5;decide) rfl d2,⟨_,_,slC_in (by show 3<5;decide) rfl d3,⟨_,_,slC_in (by show 4<5;decide) rfl d4,f4,rfl⟩,rfl⟩,rfl⟩,rfl⟩⟩
  | 1,hj=>injection hj with hj;subst hj;exact ⟨rfl,by_view hg g1 t1 (by show 1<5;decide) rfl⟩
  | 2,hj=>injection hj with hj;subst hj;exact ⟨rfl,by_view hg g2 t2 (by show 2<5;decide) rfl⟩
  | 3,hj=>injection hj with hj;subst hj;exact ⟨rfl,by_view hg g3 t3 (by show 3<5;decide) rfl⟩
  | 4,hj=>injection hj with hj;subst hj;exact ⟨rfl,by_view hg g4 t4 (by show 4<5;decide) rfl⟩
 ·match j,hj with
  | 0,_=>exact relB_def (hg.heap _ _ hk)
  | 1,_=>exact relB_def (hg.heap _ _ g1)
  | 2,_=>exact relB_def (hg.heap _ _ g2)
  | 3,_=>exact relB_def (hg.heap _ _ g3)
  | 4,_=>exact relB_def (hg.heap _ _ g4)
theorem cc_nssSp_ok {H:Heap} {k fr ty:Nat} {path:List Bool} {c2 c3:Ch} {o:Bool} {r:R} (hk:hget H k=some ⟨ty,[.v (.slice none 0 0),c2,c3],o⟩) (hs:cc_nssSp H k fr path c2 c3=some r) :
  ∃ (ρ:List Nat) (k0 nw:Nat) (W:List Nat) (val:AV) (H1:Heap) (conds:List (Bool×Bool)) (path':List Bool),
   r=trR ρ k0 fr nw W val H1 conds path'∧(∀ β us w,relAs β [slA k 0 3 3] us→Ex.Good β H w→okConds conds→∃ args0 H0,CanOk Tryz.prog 100 args0 H0 k0 W val H1∧canB k0 nw W val H1=true∧relAs (inEnv β ρ k0) args0 us∧Ex.Good (inEnv β ρ k0) H0 w∧(∀ k,k<k0→∃ X,β (nth ρ k)=some X)):=by
 unfold cc_nssSp at hs
 split at hs
 case h_2=>cases hs
 rename_i k1 o1 n1 x1 k2 o2 n2 x2 a1 a2
 injection hs with hs
 obtain ⟨s1,ty1,cs1,p1,g1,t1⟩:=byAt_spec a1
 obtain ⟨s2,ty2,cs2,p2,g2,t2⟩:=byAt_spec a2
 refine ⟨[k,k1,k2],3,4,[],_,_,_,path,hs.symm,fun β us w ha hg hc=>?_⟩
 obtain ⟨b1,b2,hS,_⟩:=hc
 obtain ⟨u1,us1,r1,ha,rfl⟩:=ha
 obtain ⟨l,hl,hv⟩:=rows_view hg hk rfl
 obtain ⟨v1,l1,d1,f1,rfl⟩:=hl
 obtain ⟨v2,l2,d2,f2,rfl⟩:=f1
 obtain ⟨v3,l3,d3,f3,rfl⟩:=f2
 obtain ⟨m1,d2⟩:=asSl_relC s1 d2
 obtain ⟨m2,d3⟩:=asSl_relC s2 d3
 refine ⟨[slA 0 0 3 3],cc_nssH o1 n1 m1 o2 n2 m2 x1 x2,cc_nss_can (Nat.le_of_ble_eq_true b1) (Nat.le_of_ble_eq_true b2) (Nat.le_of_ble_eq_true hS),rfl,⟨u1,_,sl_in (by omega) rfl r1,ha,rfl⟩,good_views (bs:=[roB [.v (.slice none 0 0),.sl 1 o1 n1 m1,.sl 2 o2 n2 m2],roB [.seq .u8 x1],roB [.seq .u8 x2]]) hg fun j d hj=>?_,fun j hj=>?_⟩
 ·match j,hj with
  | 0,hj=>injection hj with hj;subst hj;exact ⟨rfl,hv _ _ _ (inEnv_at (by show 0<3;decide)) ⟨_,_,d1,⟨_,_,slC_in (by show 1<3;decide) rfl d2,⟨_,_,slC_in (by show 2<3;decide) rfl d3,f3,rfl⟩,rfl⟩,rfl⟩⟩
  | 1,hj=>injection hj with hj;subst hj;exact ⟨rfl,by_view hg g1 t1 (by show 1<3;decide) rfl⟩
  | 2,hj=>injection hj with hj;subst hj;exact ⟨rfl,by_view hg g2 t2 (by show 2<3;decide) rfl⟩
 ·match j,hj with
  | 0,_=>exact relB_def (hg.heap _ _ hk)
  | 1,_=>exact relB_def (hg.heap _ _ g1)
  | 2,_=>exact relB_def (hg.heap _ _ g2)
theorem ccSp_ok:SpecOk Tryz.prog 100 ccSp:=by
 refine can_spec2 Tryz.func100 (by kernel_rfl) (by kernel_rfl) fun args H fr path r hs=>?_
 unfold ccSp at hs
 split at hs
 case h_2=>cases hs
 rename_i k n m
 split at hs
 case h_2=>cases hs
 rename_i ty cs o hk hm
 obtain rfl:=nbeq.1 hm
 split at hs
 ·split at hs
  case h_2=>cases hs
  rename_i hn
  obtain rfl:=nbeq.1 hn
  exact cc_ssSp_ok hk hs
 ·split at hs
  ·rename_i hn
   obtain rfl:=nbeq.1 hn
   exact cc_nssSp_ok hk hs
  ·rename_i hn _
   obtain rfl:=nbeq.1 hn
   exact cc_sssSp_ok hk hs
  ·cases hs
 ·split at hs
  case h_2=>cases hs
  rename_i hn
  obtain rfl:=nbeq.1 hn
  exact cc_ssssSp_ok hk hs
 ·cases hs
noncomputable def SSr:List (FuncId×ASpec):=(100,ccSp)::SSp
theorem SSrok:SpecsOk Tryz.prog SSr:=⟨ccSp_ok,SSpok⟩
noncomputable abbrev oSr:Orc:=orc SSr KV
theorem oSrok:OrcOk Tryz.prog oSr:=orc_ok SSrok KVok
end Go.Proofs.YtjlcdlekmpjjnaaGreat
/- hkdf.Mac$1: the contract; hkdf.sum. -/
namespace Go.Proofs.YtjlcdlekmpjjnaaGreat
open Ex Num
set_option maxRecDepth 100000
set_option maxHeartbeats 4000000
def xrI (f:Nat→Int) (x:Int):Nat→Int:=fun i=>bits .xor .u8 (f i) x
def u8A (x:Int):AV:=.val false [.v (.int .u8 x)]
theorem ints_cells {β:Env} {k:IntKind}:∀ {xs:List Int},(∀ x∈xs,has k x)→relL β (xs.map fun x=>Ch.v (.int k x)) (xs.map (.int k))
 | [],_=>rfl
 | x::_,h=>⟨[_],_,⟨rfl,rfl,h x (List.mem_cons_self ..)⟩,ints_cells (fun y hy=>h y (List.mem_cons_of_mem _ hy)),rfl⟩
def c64 (f:Nat→Int):List Ch:=(l64 f).map fun x=>Ch.v (.int .u8 x)
noncomputable def mxE (f:Nat→Int) (x:Int):ASt:=entry Tryz.f229 [u8A x,.val false [.p 0 0]] [(0,some (roB (c64 f)))] 1 []
noncomputable def mxO (f:Nat→Int) (x:Int):=segOut Tryz.prog oSr Tryz.f229 1000 1 [1] (mxE f x)
theorem mx_out (f:Nat→Int) (x:Int):Outr (mxO f x):=⟨by kernel_rfl⟩
theorem mx_val (f:Nat→Int) (x:Int):o4V (mxO f x)=slA 1 0 64 64:=by kernel_rfl
theorem mx_heap (f:Nat→Int) (x:Int):o4H (mxO f x)=[(1,some ⟨5,[.seq .u8 (l64 (xrI f x))],false⟩)]:=by kernel_rfl
theorem mx_can (f:Nat→Int) (x:Int):CanOk Tryz.prog 229 [u8A x,.val false [.p 0 0]] [(0,some (roB (c64 f)))] 1 [] (slA 1 0 64 64) [(1,some ⟨5,[.seq .u8 (l64 (xrI f x))],false⟩)]:=by
 refine can_entry (path:=[]) Tryz.func229 (by kernel_rfl) (by kernel_rfl) fun β0 w0 h0=>?_
 have:=outr_safe (P:=Tryz.prog) (n:=Tryz.f229.ntmps) (β0:=β0) (w0:=w0) (W:=[]) oSrok mixed Tryz.func229 (mx_out f x) (wfB_ok (by kernel_rfl)) h0
 refine asafe_imp this fun e w ho=>?_
 have ho:Outs β0 w0 [] (o4V (mxO f x)) (o4H (mxO f x)) e w:=ho
 rw [mx_val,mx_heap] at ho
 exact ho
def mxSp:ASpec:=fun args H fr path=>match args with
 | [X,.val false [.p k 0]]=>match asI (some X),hget H k with
  | some (_,.u8,x),some ⟨_,cs,_⟩=>match toSeq .u8 cs with
   | some xs=>some (trR [k] 1 fr 1 [] (slA 1 0 64 64) [(1,some ⟨5,[.seq .u8 (l64 (xrI (fun i=>xs.getD i 0) x))],false⟩)] [(Nat.beq xs.length 64,true)] path)
   | none=>none
  | _,_=>none
 | _=>none
theorem mxSp_ok:SpecOk Tryz.prog 229 mxSp:=by
 refine can_spec2 Tryz.func229 (by kernel_rfl) (by kernel_rfl) fun args H fr path r hs=>?_
 unfold mxSp at hs
 split at hs
 case h_2=>cases hs
 rename_i X k
 split at hs
 case h_2=>cases hs
 rename_i c x ty cs o hX hk
 split at hs
 case h_2=>cases hs
 rename_i xs hxs
 injection hs with hs
 refine ⟨[k],1,1,[],_,_,_,path,hs.symm,fun β us w ha hg hc=>?_⟩
 obtain ⟨u1,us1,r1,⟨u2,us2,r2,ha,rfl⟩,rfl⟩:=ha
 have e:xs=l64 fun i=>xs.getD i 0:=range_eta (nbeq.1 hc.1)
 refine ⟨[u8A x,.val false [.p 0 0]],[(0,some (roB (c64 fun i=>xs.getD i 0)))],mx_can _ _,rfl,⟨u1,_,(word_at hX r1).2 _,⟨u2,_,ptr_in (by omega) rfl r2,ha,rfl⟩,rfl⟩,good1 hg hk fun l hl=>?_,fun j hj=>?_⟩
 ·obtain ⟨q1,q2⟩:=toSeq_rel hxs hl
  have:=ints_cells (β:=inEnv β [k] 1) q2
  rw [← q1] at this
  unfold c64
  rw [← e]
  exact this
 ·match j,hj with
  | 0,_=>exact relB_def (hg.heap _ _ hk)
noncomputable def SSs0:List (FuncId×ASpec):=(229,mxSp)::SSr
theorem SSs0ok:SpecsOk Tryz.prog SSs0:=⟨mxSp_ok,SSrok⟩
noncomputable abbrev oSs0:Orc:=orc SSs0 KV
theorem oSs0ok:OrcOk Tryz.prog oSs0:=orc_ok SSs0ok KVok
noncomputable def SSs:List (FuncId×ASpec):=(230,inlSpec Tryz.prog oSs0 Tryz.f230 200)::SSs0
theorem SSsok:SpecsOk Tryz.prog SSs:=⟨inl_ok oSs0ok mixed Tryz.func230 (by kernel_rfl) (by kernel_rfl) 200,SSs0ok⟩
noncomputable abbrev oSs:Orc:=orc SSs KV
theorem oSsok:OrcOk Tryz.prog oSs:=orc_ok SSsok KVok
end Go.Proofs.YtjlcdlekmpjjnaaGreat
/- hkdf.Mac: the contract. -/
namespace Go.Proofs.YtjlcdlekmpjjnaaGreat
open Ex Num
set_option maxRecDepth 100000
set_option maxHeartbeats 4000000
theorem tell_forget {P:Program} {f:FuncId} {β0:Env} {w0:World} {R:Ending→World→Prop} {n:Fz} {W:List Nat} {x y:ASt} {k:Nat} {ty:TypeId} {cs cs':List Ch} {o:Bool} {keep ks:List Nat} {fr:Nat} (hk:hget x.s.H k=some ⟨ty,cs,o⟩) (h:∀ β l,relL β cs l→relL β cs' l)
  (hf:forget keep ks fr [] ⟨x.s.T,tellH k cs' x.s.H,x.s.fr,x.s.path⟩=some y.s) (ht:x.todo=y.todo) (hβ0:∀ b,fr≤b→β0 b=none) (hs:ASafe P f β0 w0 R n W y):ASafe P f β0 w0 R n W x:=by
 refine tell_at hk h (forget_safe hf hβ0 ?_)
 rw [ht]
 exact hs
def kF (k:List Int):Nat→Int:=fun i=>k.getD i 0
def keyB (k:List Int):List Int:=if 64<k.length then shaL k else k
def macI (f:Nat→Int) (b:List Int):List Int:=shaL (l64 (xrI f 92)++shaL (l64 (xrI f 54)++b))
def macL (k b:List Int):List Int:=macI (kF (keyB k)) b
noncomputable abbrev macF:Func:=Tryz.f164
section
variable (o1 n1 m1 o2 n2 m2:Nat) (x1 x2:List Int)
noncomputable def macE (p:List Bool):ASt:=entry macF [slA 0 o1 n1 m1,slA 1 o2 n2 m2] [(0,some (roB [.seq .u8 x1])),(1,some (roB [.seq .u8 x2]))] 2 p
noncomputable def macX:ASt:=sgSt (aSegN Tryz.prog oSs 10 2 (macE o1 n1 m1 o2 n2 m2 x1 x2 [false]))
noncomputable def macX2:ASt:=⟨(macX o1 n1 m1 o2 n2 m2 x1 x2).todo,⟨(macX o1 n1 m1 o2 n2 m2 x1 x2).s.T,tellH 3 [.seq .u8 (List.replicate 64 0)] (macX o1 n1 m1 o2 n2 m2 x1 x2).s.H,4,[]⟩⟩
noncomputable def macX3:ASt:=sgSt (aSegN Tryz.prog oSs 1 2 (macX2 o1 n1 m1 o2 n2 m2 x1 x2))
noncomputable def macZ:ASt:=sgSt (aSegN Tryz.prog oSs 13 2 (macE o1 n1 m1 o2 n2 m2 x1 x2 [true]))
noncomputable def macTd:List Item:=(macX3 0 0 0 0 0 0 [] []).todo
noncomputable def macS (f:Nat→Int):ASt:=⟨macTd,⟨mkT macF.ntmps [(1,slA 1 o2 n2 m2),(4,.val false [.p 2 0]),(5,.val false [.p 3 0])],[(1,some (roB [.seq .u8 x2])),(2,some ⟨122,List.replicate 32 (.n .u8 0),false⟩),(3,some ⟨176,[.seq .u8 (l64 f)],false⟩)],4,[]⟩⟩
theorem mac_a:aSegN Tryz.prog oSs 10 2 (macE o1 n1 m1 o2 n2 m2 x1 x2 [false])=some ((hasB .i64 n1,true)::(decide ((64:Int)<n1),false)::[],[],macX o1 n1 m1 o2 n2 m2 x1 x2):=by kernel_rfl
theorem mac_get:hget (macX o1 n1 m1 o2 n2 m2 x1 x2).s.H 3=some ⟨176,List.replicate 64 (.n .u8 0),false⟩:=by kernel_rfl
theorem mac_x2:(⟨(macX o1 n1 m1 o2 n2 m2 x1 x2).todo,⟨(macX o1 n1 m1 o2 n2 m2 x1 x2).s.T,tellH 3 [.seq .u8 (List.replicate 64 0)] (macX o1 n1 m1 o2 n2 m2 x1 x2).s.H,(macX o1 n1 m1 o2 n2 m2 x1 x2).s.fr,(macX o1 n1 m1 o2 n2 m2 x1 x2).s.path⟩⟩:ASt)=macX2 o1 n1 m1 o2 n2 m2 x1 x2:=by kernel_rfl
def macW:List Int:=(List.replicate 64 0).take 0++((x1.drop o1).take (Nat.min n1 (64-0))++(List.replicate 64 0).drop (0+0*1+Nat.min n1 (64-0)*1))
theorem mac_b:aSegN Tryz.prog oSs 1 2 (macX2 o1 n1 m1 o2 n2 m2 x1 x2)=some ((Nat.ble (o1+Nat.min n1 (64-0)) x1.length,true)::(Nat.ble (0+0*1+Nat.min n1 (64-0)*1) (List.replicate 64 (0:Int)).length,true)::[],[],macX3 o1 n1 m1 o2 n2 m2 x1 x2):=by kernel_rfl
theorem mac_get3:hget (macX3 o1 n1 m1 o2 n2 m2 x1 x2).s.H 3=some ⟨176,[.seq .u8 (macW o1 n1 x1)],false⟩:=by kernel_rfl
theorem mac_fg (f:Nat→Int):forget [1,4,5] [1,2,3] 4 [] ⟨(macX3 o1 n1 m1 o2 n2 m2 x1 x2).s.T,tellH 3 [.seq .u8 (l64 f)] (macX3 o1 n1 m1 o2 n2 m2 x1 x2).s.H,(macX3 o1 n1 m1 o2 n2 m2 x1 x2).s.fr,(macX3 o1 n1 m1 o2 n2 m2 x1 x2).s.path⟩=some (macS o2 n2 m2 x2 f).s:=by kernel_rfl
theorem mac_td (f:Nat→Int):(macX3 o1 n1 m1 o2 n2 m2 x1 x2).todo=(macS o2 n2 m2 x2 f).todo:=by kernel_rfl
theorem mac_z:aSegN Tryz.prog oSs 13 2 (macE o1 n1 m1 o2 n2 m2 x1 x2 [true])=some ((hasB .i64 n1,true)::(decide ((64:Int)<n1),true)::(Nat.ble (o1+n1) x1.length,true)::(Nat.ble n1 35184372088832,true)::(true,true)::[],[],macZ o1 n1 m1 o2 n2 m2 x1 x2):=by kernel_rfl
noncomputable def macZc:List Ch:=match hget (macZ o1 n1 m1 o2 n2 m2 x1 x2).s.H 3 with | some b=>b.cs | none=>[]
theorem mac_getz:hget (macZ o1 n1 m1 o2 n2 m2 x1 x2).s.H 3=some ⟨176,macZc o1 n1 m1 o2 n2 m2 x1 x2,false⟩:=by kernel_rfl
theorem mac_seqz:toSeq .u8 (macZc o1 n1 m1 o2 n2 m2 x1 x2)=some (l64 (kF (shaL (win x1 o1 n1)))):=by kernel_rfl
theorem mac_fgz (f:Nat→Int):forget [1,4,5] [1,2,3] 4 [] ⟨(macZ o1 n1 m1 o2 n2 m2 x1 x2).s.T,tellH 3 [.seq .u8 (l64 f)] (macZ o1 n1 m1 o2 n2 m2 x1 x2).s.H,(macZ o1 n1 m1 o2 n2 m2 x1 x2).s.fr,(macZ o1 n1 m1 o2 n2 m2 x1 x2).s.path⟩=some (macS o2 n2 m2 x2 f).s:=by kernel_rfl
theorem mac_tdz (f:Nat→Int):(macZ o1 n1 m1 o2 n2 m2 x1 x2).todo=(macS o2 n2 m2 x2 f).todo:=by kernel_rfl
def macY (f:Nat→Int):List Int:=win (l64 (xrI (fun i=>(l64 f).getD i 0) 54)) 0 64++win x2 o2 n2
def macV (f:Nat→Int):List Int:=shaL (win (win (l64 (xrI (fun i=>(l64 f).getD i 0) 92)) 0 64++win (shaL (win (macY o2 n2 x2 f) 0 (64+n2))) 0 32) 0 (64+32))
theorem mac_c (f:Nat→Int):segOut Tryz.prog oSs macF 400 2 [] (macS o2 n2 m2 x2 f)=some (tt 2 ((Nat.ble (o2+n2) x2.length,true)::(Nat.ble (64+n2) 35184372088832,true)::(Nat.ble (0+(64+n2)) (macY o2 n2 x2 f).length,true)::(Nat.ble (64+n2) 35184372088832,true)::tt 6 []),[],.val true [.seq .u8 (macV o2 n2 x2 f)],[]):=by kernel_rfl
end
theorem winA {l:List Int} {n:Nat} (h:l.length=n):win l 0 n=l:=by unfold win;rw [List.drop_zero];exact take_len h
theorem l64_length (f:Nat→Int):(l64 f).length=64:=rfl
theorem xr_l64 (f:Nat→Int) (x:Int):l64 (xrI (fun i=>(l64 f).getD i 0) x)=l64 (xrI f x):=by
 refine List.map_congr_left fun i hi=>?_
 have h:=gI_l64 f (List.mem_range.1 hi)
 unfold gI at h
 rw [show 0+(i:Int).toNat*1=i by omega] at h
 exact congrArg (fun z=>bits .xor .u8 z x) h
theorem macY_eq (o2 n2:Nat) (x2:List Int) (f:Nat→Int):macY o2 n2 x2 f=l64 (xrI f 54)++win x2 o2 n2:=by
 unfold macY
 rw [winA (l64_length _),xr_l64]
theorem macV_eq {o2 n2:Nat} {x2:List Int} (h:o2+n2≤x2.length) (f:Nat→Int):macV o2 n2 x2 f=macI f (win x2 o2 n2):=by
 unfold macV macI
 rw [macY_eq,winA (l64_length _),xr_l64,winA (shaL_length _),winA (len_app (l64_length _) (winl h)),winA (len_app (l64_length _) (shaL_length _))]
theorem mac_end {o2 n2 m2:Nat} {x2:List Int} (h2:o2+n2≤x2.length) (hn:n2≤17592186044416) (f:Nat→Int) {β0:Env} {w0:World} (hb:∀ b,2≤b→β0 b=none) :
  ASafe Tryz.prog 164 β0 w0 (Outs β0 w0 [] (.val true [.seq .u8 (macI f (win x2 o2 n2))]) []) macF.ntmps [] (macS o2 n2 m2 x2 f):=by
 have:=out_safe (P:=Tryz.prog) (n:=macF.ntmps) (β0:=β0) (w0:=w0) (W:=[]) oSsok mixed Tryz.func164 (mac_c o2 n2 m2 x2 f) (tt_ok 2 ⟨Nat.ble_eq_true_of_le h2,Nat.ble_eq_true_of_le (by omega),Nat.ble_eq_true_of_le (by rw [macY_eq,len_app (l64_length _) (winl h2)];omega),Nat.ble_eq_true_of_le (by omega),tt_ok 6 trivial⟩) (wfB_ok (by kernel_rfl)) hb (fun _ h=>by cases h)
 rw [macV_eq h2] at this
 exact this
theorem macW_eq {o1 n1:Nat} {x1:List Int} (h1:o1+n1≤x1.length) (hn:n1≤64):macW o1 n1 x1=l64 (kF (win x1 o1 n1)):=by
 have e:macW o1 n1 x1=win x1 o1 n1++List.replicate (64-n1) 0:=by
  unfold macW
  rw [Nat.sub_zero,show Nat.min n1 64=n1 from Nat.min_eq_left hn,List.take_zero,List.nil_append,List.drop_replicate,show 64-(0+0*1+n1*1)=64-n1 by omega]
  rfl
 have hl:(win x1 o1 n1++List.replicate (64-n1) (0:Int)).length=64:=by rw [List.length_append,winl h1,List.length_replicate];omega
 rw [e,range_eta hl]
 refine List.map_congr_left fun i _=>?_
 unfold kF
 rw [List.getD_eq_getElem?_getD,List.getD_eq_getElem?_getD]
 by_cases q:i<n1
 ·rw [List.getElem?_append_left (by rw [winl h1];exact q)]
 ·rw [List.getElem?_append_right (by rw [winl h1];omega),List.getElem?_eq_none (l:=win x1 o1 n1) (by rw [winl h1];omega),List.getElem?_replicate]
  split<;>rfl
theorem seq_eq {k:IntKind} {xs ys:List Int} (e:xs=ys) (β:Env) (l:List Value) (h:relL β [.seq k xs] l):relL β [.seq k ys] l:=e▸h
theorem macX3_safe {o1 n1 m1 o2 n2 m2:Nat} {x1 x2:List Int} (h1:o1+n1≤x1.length) (h2:o2+n2≤x2.length) (hn1:n1≤64) (hn:n2≤17592186044416) {β0:Env} {w0:World} (hb:∀ b,2≤b→β0 b=none) :
  ASafe Tryz.prog 164 β0 w0 (Outs β0 w0 [] (.val true [.seq .u8 (macL (win x1 o1 n1) (win x2 o2 n2))]) []) macF.ntmps [] (macX3 o1 n1 m1 o2 n2 m2 x1 x2):=by
 have:=mac_end (m2:=m2) h2 hn (kF (win x1 o1 n1)) (w0:=w0) hb
 unfold macL keyB
 rw [winl h1,if_neg (by omega)]
 exact tell_forget (mac_get3 ..) (seq_eq (macW_eq h1 hn1)) (mac_fg o1 n1 m1 o2 n2 m2 x1 x2 _) (mac_td ..) (fun b h=>hb b (by omega)) this
theorem macZ_safe {o1 n1 m1 o2 n2 m2:Nat} {x1 x2:List Int} (h1:o1+n1≤x1.length) (h2:o2+n2≤x2.length) (hn1:64<n1) (hn:n2≤17592186044416) {β0:Env} {w0:World} (hb:∀ b,2≤b→β0 b=none) :
  ASafe Tryz.prog 164 β0 w0 (Outs β0 w0 [] (.val true [.seq .u8 (macL (win x1 o1 n1) (win x2 o2 n2))]) []) macF.ntmps [] (macZ o1 n1 m1 o2 n2 m2 x1 x2):=by
 have:=mac_end (m2:=m2) h2 hn (kF (shaL (win x1 o1 n1))) (w0:=w0) hb
 unfold macL keyB
 rw [winl h1,if_pos hn1]
 exact tell_forget (mac_getz ..) (seq_tell (mac_seqz ..)) (mac_fgz o1 n1 m1 o2 n2 m2 x1 x2 _) (mac_tdz ..) (fun b h=>hb b (by omega)) this
theorem macX_safe {o1 n1 m1 o2 n2 m2:Nat} {x1 x2:List Int} (h1:o1+n1≤x1.length) (h2:o2+n2≤x2.length) (hn1:n1≤64) (hn:n2≤17592186044416) {β0:Env} {w0:World} (hb:∀ b,2≤b→β0 b=none) :
  ASafe Tryz.prog 164 β0 w0 (Outs β0 w0 [] (.val true [.seq .u8 (macL (win x1 o1 n1) (win x2 o2 n2))]) []) macF.ntmps [] (macX o1 n1 m1 o2 n2 m2 x1 x2):=by
 refine tell_at (mac_get ..) (seq_tell (k:=.u8) (xs:=List.replicate 64 0) (by kernel_rfl)) ?_
 rw [mac_x2]
 refine segN_safe oSsok mixed (mac_b ..) ⟨Nat.ble_eq_true_of_le ?_,Nat.ble_eq_true_of_le ?_,trivial⟩ (wfB_ok (by kernel_rfl)) hb (fun _ h=>by cases h) fun _=>macX3_safe h1 h2 hn1 hn hb
 ·rw [Nat.sub_zero,show Nat.min n1 64=n1 from Nat.min_eq_left hn1];exact h1
 ·rw [Nat.sub_zero,show Nat.min n1 64=n1 from Nat.min_eq_left hn1,List.length_replicate];omega
theorem mac_can {o1 n1 m1 o2 n2 m2:Nat} {x1 x2:List Int} (h1:o1+n1≤x1.length) (h2:o2+n2≤x2.length) (hn1:n1≤17592186044416) (hn:n2≤17592186044416) :
  CanOk Tryz.prog 164 [slA 0 o1 n1 m1,slA 1 o2 n2 m2] [(0,some (roB [.seq .u8 x1])),(1,some (roB [.seq .u8 x2]))] 2 [] (.val true [.seq .u8 (macL (win x1 o1 n1) (win x2 o2 n2))]) []:=by
 have hh:hasB .i64 n1=true:=hb_ok (by omega)
 rcases Nat.lt_or_ge 64 n1 with q | q
 ·exact can_entry (path:=[true]) Tryz.func164 (by kernel_rfl) (by kernel_rfl) fun β0 w0 hb=>segN_safe oSsok mixed (mac_z ..) ⟨hh,decide_eq_true (by omega),Nat.ble_eq_true_of_le h1,Nat.ble_eq_true_of_le (by omega),rfl,trivial⟩ (wfB_ok (by kernel_rfl)) hb (fun _ h=>by cases h) fun _=>macZ_safe h1 h2 q hn hb
 ·exact can_entry (path:=[false]) Tryz.func164 (by kernel_rfl) (by kernel_rfl) fun β0 w0 hb=>segN_safe oSsok mixed (mac_a ..) ⟨hh,decide_eq_false (by omega),trivial⟩ (wfB_ok (by kernel_rfl)) hb (fun _ h=>by cases h) fun _=>macX_safe h1 h2 q hn hb
def by2Sp (g:List Int→List Int→AV) (B:Nat):ASpec:=fun args H fr path=>match args with
 | [S,T]=>match asSl S,asSl T with
  | some (k,o,n),some (l,p,m)=>match hget H k,hget H l with
   | some ⟨_,cs,_⟩,some ⟨_,ds,_⟩=>match toSeq .u8 cs,toSeq .u8 ds with
    | some xs,some ys=>some (trR [k,l] 2 fr 0 [] (g (win xs o n) (win ys p m)) [] [(Nat.ble (o+n) xs.length,true),(Nat.ble (p+m) ys.length,true),(Nat.ble n B,true),(Nat.ble m B,true)] path)
    | _,_=>none
   | _,_=>none
  | _,_=>none
 | _=>none
theorem by2Sp_ok {F:FuncId} {fn:Func} {g:List Int→List Int→AV} {B:Nat} (hfn:Tryz.prog.funcs[F]? = some fn) (hb:fn.body.isSome=true) (hname:(fn.name=="runtime.NumGoroutine")=false) (hk:∀ a b,canB 2 0 [] (g a b) []=true)
  (h:∀ {o1 n1 m1 o2 n2 m2:Nat} {x1 x2:List Int},(∀ d∈x1,0≤d∧d<256)→(∀ d∈x2,0≤d∧d<256)→o1+n1≤x1.length→o2+n2≤x2.length→n1≤B→n2≤B→CanOk Tryz.prog F [slA 0 o1 n1 m1,slA 1 o2 n2 m2] [(0,some (roB [.seq .u8 x1])),(1,some (roB [.seq .u8 x2]))] 2 [] (g (win x1 o1 n1) (win x2 o2 n2)) []):SpecOk Tryz.prog F (by2Sp g B):=by
 refine can_spec2 hfn hb hname fun args H fr path r hs=>?_
 unfold by2Sp at hs
 split at hs
 case h_2=>cases hs
 rename_i S T
 split at hs
 case h_2=>cases hs
 rename_i k o n l p m hS hT
 split at hs
 case h_2=>cases hs
 rename_i ty cs op ty' ds op' hk' hl'
 split at hs
 case h_2=>cases hs
 rename_i xs ys hx hy
 injection hs with hs
 refine ⟨[k,l],2,0,[],_,_,_,path,hs.symm,fun β us w ha hg hc=>?_⟩
 obtain ⟨c1,c2,c3,c4,_⟩:=hc
 obtain ⟨u1,us1,r1,⟨u2,us2,r2,ha,rfl⟩,rfl⟩:=ha
 obtain ⟨m1,r1⟩:=asSl_rel hS r1
 obtain ⟨m2,r2⟩:=asSl_rel hT r2
 obtain ⟨g1,_,_⟩:=good_by hg hk' hx
 obtain ⟨g2,_,_⟩:=good_by hg hl' hy
 refine ⟨[slA 0 o n m1,slA 1 p m m2],[(0,some (roB [.seq .u8 xs])),(1,some (roB [.seq .u8 ys]))],h g1 g2 (Nat.le_of_ble_eq_true c1) (Nat.le_of_ble_eq_true c2) (Nat.le_of_ble_eq_true c3) (Nat.le_of_ble_eq_true c4),hk _ _,⟨u1,_,sl_in (by omega) rfl r1,⟨u2,_,sl_in (by omega) rfl r2,ha,rfl⟩,rfl⟩,good_views (bs:=[roB [.seq .u8 xs],roB [.seq .u8 ys]]) hg fun j d hj=>?_,fun j hj=>?_⟩
 ·match j,hj with
  | 0,hj=>injection hj with hj;subst hj;exact ⟨rfl,by_view hg hk' hx (by show 0<2;decide) rfl⟩
  | 1,hj=>injection hj with hj;subst hj;exact ⟨rfl,by_view hg hl' hy (by show 1<2;decide) rfl⟩
 ·match j,hj with
  | 0,_=>exact relB_def (hg.heap _ _ hk')
  | 1,_=>exact relB_def (hg.heap _ _ hl')
def macG (a b:List Int):AV:=.val true [.seq .u8 (macL a b)]
noncomputable def SSt0:List (FuncId×ASpec):=(164,by2Sp macG 17592186044416)::SSs
theorem SSt0ok:SpecsOk Tryz.prog SSt0:=⟨by2Sp_ok Tryz.func164 (by kernel_rfl) (by kernel_rfl) (fun _ _=>rfl) fun _ _=>mac_can,SSsok⟩
noncomputable abbrev oSt0:Orc:=orc SSt0 KV
theorem oSt0ok:OrcOk Tryz.prog oSt0:=orc_ok SSt0ok KVok
noncomputable def SSt:List (FuncId×ASpec):=(99,inlSpec Tryz.prog oSt0 Tryz.f99 100)::SSt0
theorem SStok:SpecsOk Tryz.prog SSt:=⟨inl_ok oSt0ok mixed Tryz.func99 (by kernel_rfl) (by kernel_rfl) 100,SSt0ok⟩
noncomputable abbrev oSt:Orc:=orc SSt KV
theorem oStok:OrcOk Tryz.prog oSt:=orc_ok SStok KVok
end Go.Proofs.YtjlcdlekmpjjnaaGreat
/- hkdf.Expand of 48 bytes: the contract. -/
namespace Go.Proofs.YtjlcdlekmpjjnaaGreat
open Ex Num
set_option maxRecDepth 100000
set_option maxHeartbeats 4000000
noncomputable abbrev exF:Func:=Tryz.f101
section
variable (o1 n1 m1 o2 n2 m2:Nat) (x1 x2:List Int)
noncomputable def exE (p:List Bool):ASt:=entry exF [slA 0 o1 n1 m1,slA 1 o2 n2 m2,.val false [.n .i64 48]] [(0,some (roB [.seq .u8 x1])),(1,some (roB [.seq .u8 x2]))] 2 p
def exB1:List Int:=win x2 o2 n2++win [1] 0 1
def exT1:List Int:=macL (win x1 o1 n1) (win (exB1 o2 n2 x2) 0 (n2+1))
def exB2:List Int:=win (exT1 o1 n1 o2 n2 x1 x2) (0+0*1) (32-0)++win x2 o2 n2++win [2] 0 1
def exT2:List Int:=macL (win x1 o1 n1) (win (exB2 o1 n1 o2 n2 x1 x2) 0 (32-0+n2+1))
def exX:List Int:=List.append (List.take (0+(32-0)) (List.append [] (List.take (32-0) (List.drop (0+0*1) (exT1 o1 n1 o2 n2 x1 x2))))) (List.take (32-0) (List.drop (0+0*1) (exT2 o1 n1 o2 n2 x1 x2)))
theorem ex_run:segOut Tryz.prog oSt exF 400 2 [17] (exE o1 n1 m1 o2 n2 m2 x1 x2 [true,true,false])=some (tt 2 ((Nat.ble (o2+n2) x2.length,true)::(true,true)::(Nat.ble (n2+1) 35184372088832,true)::(Nat.ble (o1+n1) x1.length,true)::(Nat.ble (0+(n2+1)) (exB1 o2 n2 x2).length,true)::(Nat.ble n1 17592186044416,true)::(Nat.ble (n2+1) 17592186044416,true)::tt 5 ((Nat.ble (o2+n2) x2.length,true)::(true,true)::(Nat.ble (32-0+n2+1) 35184372088832,true)::(Nat.ble (o1+n1) x1.length,true)::(Nat.ble (0+(32-0+n2+1)) (exB2 o1 n1 o2 n2 x1 x2).length,true)::(Nat.ble n1 17592186044416,true)::(Nat.ble (32-0+n2+1) 17592186044416,true)::tt 4 ((false,false)::(true,true)::[]))),[],.tup [(false,[.sx 17 48 1]),(false,[.n .i64 0])],[(17,some ⟨5,[.seq .u8 (exX o1 n1 o2 n2 x1 x2)],true⟩)]):=by kernel_rfl
end
def expL (k i:List Int):List Int:=macL k (i++[1])++macL k (macL k (i++[1])++i++[2])
theorem macL_length (a b:List Int):(macL a b).length=32:=rfl
theorem exX_eq {o1 n1 o2 n2:Nat} {x1 x2:List Int} (h2:o2+n2≤x2.length):exX o1 n1 o2 n2 x1 x2=expL (win x1 o1 n1) (win x2 o2 n2)∧(exB1 o2 n2 x2).length=n2+1∧(exB2 o1 n1 o2 n2 x1 x2).length=32+n2+1:=by
 have w:win [(1:Int)] 0 1=[1]:=rfl
 have w':win [(2:Int)] 0 1=[2]:=rfl
 have l1:(exB1 o2 n2 x2).length=n2+1:=by unfold exB1;rw [w];exact len_app (winl h2) rfl
 have t1:exT1 o1 n1 o2 n2 x1 x2=macL (win x1 o1 n1) (win x2 o2 n2++[1]):=by unfold exT1;rw [winA l1];unfold exB1;rw [w]
 have b2:exB2 o1 n1 o2 n2 x1 x2=macL (win x1 o1 n1) (win x2 o2 n2++[1])++win x2 o2 n2++[2]:=by
  unfold exB2
  rw [w',t1,show 0+0*1=0 from rfl,show 32-0=32 from rfl,winA (macL_length _ _)]
 have l2:(exB2 o1 n1 o2 n2 x1 x2).length=32+n2+1:=by rw [b2];exact len_app (len_app (macL_length _ _) (winl h2)) rfl
 have t2:exT2 o1 n1 o2 n2 x1 x2=macL (win x1 o1 n1) (macL (win x1 o1 n1) (win x2 o2 n2++[1])++win x2 o2 n2++[2]):=by unfold exT2;rw [show 32-0+n2+1=32+n2+1 from rfl,winA l2,b2]
 refine ⟨?_,l1,l2⟩
 unfold exX expL
 rw [t1,t2]
 generalize ha:macL (win x1 o1 n1) (win x2 o2 n2++[1])=a
 have la:a.length=32:=by rw [← ha];exact macL_length _ _
 generalize hb:macL (win x1 o1 n1) (a++win x2 o2 n2++[2])=b
 have lb:b.length=32:=by rw [← hb];exact macL_length _ _
 show List.take (0+(32-0)) ([]++List.take (32-0) (List.drop (0+0*1) a))++List.take (32-0) (List.drop (0+0*1) b)=a++b
 rw [show 0+0*1=0 from rfl,show 32-0=32 from rfl,List.drop_zero,List.drop_zero,List.nil_append,take_len la,take_len lb,take_len (by omega)]
def exO (ys:List Int):Heap:=[(17,some ⟨5,[.seq .u8 ys],true⟩)]
theorem ex_can {o1 n1 m1 o2 n2 m2:Nat} {x1 x2:List Int} (h1:o1+n1≤x1.length) (h2:o2+n2≤x2.length) (hn1:n1≤8796093022208) (hn:n2≤8796093022208) :
  CanOk Tryz.prog 101 [slA 0 o1 n1 m1,slA 1 o2 n2 m2,.val false [.n .i64 48]] [(0,some (roB [.seq .u8 x1])),(1,some (roB [.seq .u8 x2]))] 2 [] (.tup [(false,[.sx 17 48 1]),(false,[.n .i64 0])]) (exO (expL (win x1 o1 n1) (win x2 o2 n2))):=by
 obtain ⟨e,l1,l2⟩:=exX_eq (o1:=o1) (n1:=n1) (x1:=x1) h2
 refine can_entry (path:=[true,true,false]) Tryz.func101 (by kernel_rfl) (by kernel_rfl) fun β0 w0 hb=>?_
 have:=out_safe (P:=Tryz.prog) (n:=exF.ntmps) (β0:=β0) (w0:=w0) (W:=[]) oStok mixed Tryz.func101 (ex_run o1 n1 m1 o2 n2 m2 x1 x2) (tt_ok 2 ⟨Nat.ble_eq_true_of_le h2,rfl,Nat.ble_eq_true_of_le (by omega),Nat.ble_eq_true_of_le h1,Nat.ble_eq_true_of_le (by rw [l1];omega),Nat.ble_eq_true_of_le (by omega),Nat.ble_eq_true_of_le (by omega),tt_ok 5 ⟨Nat.ble_eq_true_of_le h2,rfl,Nat.ble_eq_true_of_le (by omega),Nat.ble_eq_true_of_le h1,Nat.ble_eq_true_of_le (by rw [l2];omega),Nat.ble_eq_true_of_le (by omega),Nat.ble_eq_true_of_le (by omega),tt_ok 4 ⟨rfl,rfl,trivial⟩⟩⟩) (wfB_ok (by kernel_rfl)) hb (fun _ h=>by cases h)
 rw [e] at this
 exact this
theorem two_in {β:Env} {H:Heap} {w:World} {S T:AV} {k o n l p m:Nat} {ty ty':TypeId} {cs ds:List Ch} {op op':Bool} {xs ys:List Int} {u1 u2:Value} (hg:Ex.Good β H w) (hS:asSl S=some (k,o,n)) (hT:asSl T=some (l,p,m)) (hk:hget H k=some ⟨ty,cs,op⟩) (hl:hget H l=some ⟨ty',ds,op'⟩) (hx:toSeq .u8 cs=some xs) (hy:toSeq .u8 ds=some ys) (r1:relA β S u1) (r2:relA β T u2) :
  ∃ m1 m2,relA (inEnv β [k,l] 2) (slA 0 o n m1) u1∧relA (inEnv β [k,l] 2) (slA 1 p m m2) u2∧(∀ d∈xs,0≤d∧d<256)∧(∀ d∈ys,0≤d∧d<256)∧Ex.Good (inEnv β [k,l] 2) [(0,some (roB [.seq .u8 xs])),(1,some (roB [.seq .u8 ys]))] w∧(∀ j,j<2→∃ X,β (nth [k,l] j)=some X):=by
 obtain ⟨m1,r1⟩:=asSl_rel hS r1
 obtain ⟨m2,r2⟩:=asSl_rel hT r2
 obtain ⟨g1,_,_⟩:=good_by hg hk hx
 obtain ⟨g2,_,_⟩:=good_by hg hl hy
 refine ⟨m1,m2,sl_in (by omega) rfl r1,sl_in (by omega) rfl r2,g1,g2,good_views (bs:=[roB [.seq .u8 xs],roB [.seq .u8 ys]]) hg fun j d hj=>?_,fun j hj=>?_⟩
 ·match j,hj with
  | 0,hj=>injection hj with hj;subst hj;exact ⟨rfl,by_view hg hk hx (by show 0<2;decide) rfl⟩
  | 1,hj=>injection hj with hj;subst hj;exact ⟨rfl,by_view hg hl hy (by show 1<2;decide) rfl⟩
 ·match j,hj with
  | 0,_=>exact relB_def (hg.heap _ _ hk)
  | 1,_=>exact relB_def (hg.heap _ _ hl)
def exSp (K nw:Nat):ASpec:=fun args H fr path=>match args with
 | [S,T,.val false [.n .i64 48]]=>match asSl S,asSl T with
  | some (k,o,n),some (l,p,m)=>match hget H k,hget H l with
   | some ⟨_,cs,_⟩,some ⟨_,ds,_⟩=>match toSeq .u8 cs,toSeq .u8 ds with
    | some xs,some ys=>some (trR [k,l] 2 fr nw [] (.tup [(false,[.sx K 48 1]),(false,[.n .i64 0])]) [(K,some ⟨5,[.seq .u8 (expL (win xs o n) (win ys p m))],true⟩)] [(Nat.ble (o+n) xs.length,true),(Nat.ble (p+m) ys.length,true),(Nat.ble n 8796093022208,true),(Nat.ble m 8796093022208,true)] path)
    | _,_=>none
   | _,_=>none
  | _,_=>none
 | _=>none
theorem exSp_ok {F:FuncId} {fn:Func} {K nw:Nat} (hfn:Tryz.prog.funcs[F]? = some fn) (hb:fn.body.isSome=true) (hname:(fn.name=="runtime.NumGoroutine")=false) (hk:∀ L,canB 2 nw [] (.tup [(false,[.sx K 48 1]),(false,[.n .i64 0])]) [(K,some ⟨5,[.seq .u8 L],true⟩)]=true)
  (h:∀ {o1 n1 m1 o2 n2 m2:Nat} {x1 x2:List Int},o1+n1≤x1.length→o2+n2≤x2.length→n1≤8796093022208→n2≤8796093022208→CanOk Tryz.prog F [slA 0 o1 n1 m1,slA 1 o2 n2 m2,.val false [.n .i64 48]] [(0,some (roB [.seq .u8 x1])),(1,some (roB [.seq .u8 x2]))] 2 [] (.tup [(false,[.sx K 48 1]),(false,[.n .i64 0])]) [(K,some ⟨5,[.seq .u8 (expL (win x1 o1 n1) (win x2 o2 n2))],true⟩)]):SpecOk Tryz.prog F (exSp K nw):=by
 refine can_spec2 hfn hb hname fun args H fr path r hs=>?_
 unfold exSp at hs
 split at hs
 case h_2=>cases hs
 rename_i S T
 split at hs
 case h_2=>cases hs
 rename_i k o n l p m hS hT
 split at hs
 case h_2=>cases hs
 rename_i ty cs op ty' ds op' hk' hl'
 split at hs
 case h_2=>cases hs
 rename_i xs ys hx hy
 injection hs with hs
 refine ⟨[k,l],2,nw,[],_,_,_,path,hs.symm,fun β us w ha hg hc=>?_⟩
 obtain ⟨c1,c2,c3,c4,_⟩:=hc
 obtain ⟨u1,us1,r1,⟨u2,us2,r2,⟨u3,us3,r3,ha,rfl⟩,rfl⟩,rfl⟩:=ha
 obtain ⟨m1,m2,q1,q2,_,_,q5,q6⟩:=two_in hg hS hT hk' hl' hx hy r1 r2
 exact ⟨_,_,h (Nat.le_of_ble_eq_true c1) (Nat.le_of_ble_eq_true c2) (Nat.le_of_ble_eq_true c3) (Nat.le_of_ble_eq_true c4),hk _,⟨u1,_,q1,⟨u2,_,q2,⟨u3,_,relA_any rfl r3,ha,rfl⟩,rfl⟩,rfl⟩,q5,q6⟩
noncomputable def SSu:List (FuncId×ASpec):=(101,exSp 17 16)::SSt
theorem SSuok:SpecsOk Tryz.prog SSu:=⟨exSp_ok Tryz.func101 (by kernel_rfl) (by kernel_rfl) (fun _=>rfl) ex_can,SStok⟩
end Go.Proofs.YtjlcdlekmpjjnaaGreat
/- sigilref02.less, block: the contracts. -/
namespace Go.Proofs.YtjlcdlekmpjjnaaGreat
open Ex Num
set_option maxRecDepth 100000
set_option maxHeartbeats 4000000
noncomputable def SSv:List (FuncId×ASpec):=SSu
theorem SSvok:SpecsOk Tryz.prog SSv:=SSuok
end Go.Proofs.YtjlcdlekmpjjnaaGreat
/- sigilref02.Mac, Expand: the contracts. -/
namespace Go.Proofs.YtjlcdlekmpjjnaaGreat
open Ex Num
set_option maxRecDepth 100000
set_option maxHeartbeats 4000000
section
variable (o1 n1 m1 o2 n2 m2:Nat) (x1 x2:List Int)
end
noncomputable def SSw0:List (FuncId×ASpec):=SSv
theorem SSw0ok:SpecsOk Tryz.prog SSw0:=SSvok
section
variable (o1 n1 m1 o2 n2 m2:Nat) (x1 x2:List Int)
end
noncomputable def SSw:List (FuncId×ASpec):=SSw0
theorem SSwok:SpecsOk Tryz.prog SSw:=SSw0ok
end Go.Proofs.YtjlcdlekmpjjnaaGreat
/- fr.FromOctets, Bytes: the contracts. -/
namespace Go.Proofs.YtjlcdlekmpjjnaaGreat
open Ex Num
set_option maxRecDepth 100000
set_option maxHeartbeats 4000000
def by1Sp (g:List Int→AV) (B:Nat):ASpec:=fun args H fr path=>match args with
 | [S]=>match asSl S with
  | some (k,off,n)=>match hget H k with
   | some ⟨_,cs,_⟩=>match toSeq .u8 cs with
    | some xs=>some (trR [k] 1 fr 0 [] (g (win xs off n)) [] [(Nat.ble (off+n) xs.length,true),(Nat.ble n B,true)] path)
    | none=>none
   | none=>none
  | none=>none
 | _=>none
theorem by1Sp_ok {F:FuncId} {fn:Func} {g:List Int→AV} {B:Nat} (hfn:Tryz.prog.funcs[F]? = some fn) (hb:fn.body.isSome=true) (hname:(fn.name=="runtime.NumGoroutine")=false) (hk:∀ a,canB 1 0 [] (g a) []=true) (hcan:∀ {off n m:Nat} {xs:List Int},(∀ d∈xs,0≤d∧d<256)→off+n≤xs.length→n≤B→CanOk Tryz.prog F [slA 0 off n m] (byH xs) 1 [] (g (win xs off n)) []):SpecOk Tryz.prog F (by1Sp g B):=by
 refine can_spec2 hfn hb hname fun args H fr path r hs=>?_
 unfold by1Sp at hs
 split at hs
 case h_2=>cases hs
 rename_i S
 split at hs
 case h_2=>cases hs
 rename_i k off n hS
 split at hs
 case h_2=>cases hs
 rename_i ty cs o hk'
 split at hs
 case h_2=>cases hs
 rename_i xs hxs
 injection hs with hs
 refine ⟨[k],1,0,[],_,_,_,path,hs.symm,fun β us w ha hg hc=>?_⟩
 obtain ⟨u1,us1,r1,ha,rfl⟩:=ha
 obtain ⟨m,r1⟩:=asSl_rel hS r1
 obtain ⟨g1,g2,g3⟩:=good_by hg hk' hxs
 exact ⟨[slA 0 off n m],byH xs,hcan g1 (Nat.le_of_ble_eq_true hc.1) (Nat.le_of_ble_eq_true hc.2.1),hk _,⟨u1,_,sl_in (by omega) rfl r1,ha,rfl⟩,g2,g3⟩
noncomputable def SSx0:List (FuncId×ASpec):=SSw++SVb3
theorem SSx0ok:SpecsOk Tryz.prog SSx0:=specs_append SSwok SVb3ok
noncomputable abbrev oSx0:Orc:=orc SSx0 KV
theorem oSx0ok:OrcOk Tryz.prog oSx0:=orc_ok SSx0ok KVok
def frW (off n:Nat) (xs:List Int):List Int:=List.map (wordN (natB (win xs off n))) (List.range ((n+7) / 8))++[]
theorem fro_run (off n m:Nat) (xs:List Int):segOut Tryz.prog oSx0 Tryz.f21 300 1 [] (entry Tryz.f21 [slA 0 off n m] (byH xs) 1 []) =
 some ((Nat.ble (off+n) xs.length,true)::(Nat.ble n 35184372088832,true)::(Nat.ble (0+(n+7) / 8) (frW off n xs).length,true)::(Nat.ble ((n+7) / 8) 1125899906842624,true)::[],[],num4 (natL (win (frW off n xs) 0 ((n+7) / 8)) % rN),[]):=by kernel_rfl
theorem frW_eq {off n:Nat} {xs:List Int} (hx:∀ d∈xs,0≤d∧d<256) (hl:off+n≤xs.length):natL (win (frW off n xs) 0 ((n+7) / 8))=natB (win xs off n):=by
 have e:frW off n xs=wordL (natB (win xs off n)) ((n+7) / 8):=by unfold frW wordL;rw [List.append_nil]
 rw [e,winA (by simp [wordL]),wordL_natL]
 have h:=natB_lt (win xs off n) (win_has hx)
 rw [winl hl,p256] at h
 exact Nat.lt_of_lt_of_le h (Nat.pow_le_pow_right (by decide) (by omega))
theorem fro_can {off n m:Nat} {xs:List Int} (hx:∀ d∈xs,0≤d∧d<256) (hl:off+n≤xs.length) (hn:n≤35184372088832):CanOk Tryz.prog 21 [slA 0 off n m] (byH xs) 1 [] (num4 (natB (win xs off n) % rN)) []:=by
 have:=can_run SSx0ok KVok Tryz.func21 (by kernel_rfl) (by kernel_rfl) (fro_run off n m xs) (by kernel_rfl) ⟨Nat.ble_eq_true_of_le hl,Nat.ble_eq_true_of_le hn,Nat.ble_eq_true_of_le (by unfold frW;simp),Nat.ble_eq_true_of_le (by omega),trivial⟩
 rw [frW_eq hx hl] at this
 exact this
def by32 (x:Nat):AV:=.val true [.seq .u8 (octL x 32)]
theorem frby_run (a:Nat):pureRun Tryz.prog oSx0 Tryz.f53 [num4 a] [] 300=some (tt 4 [],by32 (natL (win (ws4 (a % rN)) 0 4))):=by kernel_rfl
theorem frby_ok {a:Nat} (_h:a<R4):PureOk Tryz.prog 53 [num4 a] (by32 (a % rN)):=by
 have h1:=pure_ok oSx0ok mixed Tryz.func53 (frby_run a) (tt_ok 4 trivial) rfl
 rw [natL_ws4 (modr_lt a)] at h1
 exact h1
noncomputable def SSx:List (FuncId×ASpec):=(21,by1Sp (fun l=>num4 (natB l % rN)) 35184372088832)::(53,pureSpec (spN4 fun x=>by32 (x % rN)))::SSx0
theorem SSxok:SpecsOk Tryz.prog SSx:=⟨by1Sp_ok Tryz.func21 (by kernel_rfl) (by kernel_rfl) (fun _=>rfl) fro_can,pureSpec_ok Tryz.func53 (by kernel_rfl) (by kernel_rfl) (spN4_ok fun _ h=>frby_ok h),SSx0ok⟩
noncomputable abbrev oSx:Orc:=orc SSx KV
theorem oSxok:OrcOk Tryz.prog oSx:=orc_ok SSxok KVok
end Go.Proofs.YtjlcdlekmpjjnaaGreat
/- bls.KeyGen: the contract. -/
namespace Go.Proofs.YtjlcdlekmpjjnaaGreat
open Ex Num
set_option maxRecDepth 100000
set_option maxHeartbeats 4000000
def tagK:List Int:=[66,76,83,45,83,73,71,45,75,69,89,71,69,78,45,83,65,76,84,45]
noncomputable def kgN (y b i:List Int):Nat:=natB (win (expL (macL (shaL y) (b++[0])) (i++[0,48])) 0 48) % rN
noncomputable def keyR (b i:List Int):Nat→List Int→Nat
 | 0,_=>0
 | r+1,y=>if kgN y b i=0 then keyR b i r (shaL y) else kgN y b i
theorem keyN_ex:∃ f:List Int→List Int→Nat,∀ b i,f b i=keyR b i 16 tagK:=⟨_,fun _ _=>rfl⟩
noncomputable def keyN:List Int→List Int→Nat:=Classical.choose keyN_ex
theorem keyN_eq (b i:List Int):keyN b i=keyR b i 16 tagK:=Classical.choose_spec keyN_ex b i
noncomputable abbrev kgF:Func:=Tryz.f34
section
variable (o1 n1 m1 o2 n2 m2:Nat) (x1 x2 y:List Int) (i:Int)
noncomputable def kgE (p:List Bool):ASt:=entry kgF [slA 0 o1 n1 m1,slA 1 o2 n2 m2] [(0,some (roB [.seq .u8 x1])),(1,some (roB [.seq .u8 x2]))] 2 p
noncomputable def kgTd:List Item:=todoOf (aSeg Tryz.prog oSx (some 0) 100 2 none (kgE 0 0 0 0 0 0 [] [] [false]))
noncomputable def kgT (c:AV):List AV:=mkT kgF.ntmps [(0,slA 0 o1 n1 m1),(1,slA 1 o2 n2 m2),(6,.val false [.p 2 0]),(18,c)]
def kgH:Heap:=[(0,some (roB [.seq .u8 x1])),(1,some (roB [.seq .u8 x2])),(2,some ⟨122,[.seq .u8 (shaL y)],false⟩)]
noncomputable def kgS (p:List Bool):ASt:=⟨kgTd,⟨kgT o1 n1 m1 o2 n2 m2 (iA i),kgH x1 x2 y,3,p⟩⟩
theorem kg_entry:aSeg Tryz.prog oSx (some 0) 100 2 (some ([0,1,6,18],[0,1,3],4)) (kgE o1 n1 m1 o2 n2 m2 x1 x2 [false])=some ((hasB .i64 n1,true)::(decide ((n1:Int)<32),false)::tt 2 [],[],⟨kgTd,⟨renTs (rkey 2 [3]) (kgT o1 n1 m1 o2 n2 m2 (.val false [.n .i64 0])),renH (rkey 2 [3]) (kgH x1 x2 (win tagK 0 20)),4,[]⟩⟩):=by kernel_rfl
def kgB:List Int:=win x1 o1 n1++win [0] 0 1
def kgI:List Int:=win x2 o2 n2++win [0,48] 0 2
noncomputable def kgM:Nat:=natB (win (expL (win (macL (win (shaL y) (0+0*1) (32-0)) (win (kgB o1 n1 x1) 0 (n1+1))) (0+0*1) (32-0)) (win (kgI o2 n2 x2) 0 (n2+2))) 0 48) % rN
noncomputable def kgC (b:Bool) (r:List (Bool×Bool)):List (Bool×Bool):=(decide (i<16),true)::(Nat.ble (o1+n1) x1.length,true)::(true,true)::(Nat.ble (n1+1) 35184372088832,true)::(true,true)::(Nat.ble (0+(n1+1)) (kgB o1 n1 x1).length,true)::(true,true)::(Nat.ble (n1+1) 17592186044416,true)::(Nat.ble (o2+n2) x2.length,true)::(true,true)::(Nat.ble (n2+2) 35184372088832,true)::(true,true)::(Nat.ble (0+(n2+2)) (kgI o2 n2 x2).length,true)::(true,true)::(Nat.ble (n2+2) 8796093022208,true)::tt 2 ((!decide (kgM o1 n1 o2 n2 x1 x2 y=0),b)::r)
theorem kg_step:aSeg Tryz.prog oSx (some 0) 100 2 (some ([0,1,6,18],[0,1,2],3)) (kgS o1 n1 m1 o2 n2 m2 x1 x2 y i [true,false])=some (kgC o1 n1 o2 n2 x1 x2 y i false (tt 2 []),[],kgS o1 n1 m1 o2 n2 m2 x1 x2 (win (shaL y) (0+0*1) (32-0)) (wI (i+1)) []):=by kernel_rfl
def kgO (K:Nat) (xs:List Int):Heap:=[(K,some ⟨22,[.seq .u8 xs],false⟩)]
def okT (K:Nat):AV:=.tup [(false,[.sl K 0 32 32]),(false,[.n .i64 0])]
def erT (e:Int):AV:=.tup [(false,[.v (.slice none 0 0)]),(false,[.n .i64 e])]
theorem kg_yes:segOut Tryz.prog oSx kgF 400 2 [32] (kgS o1 n1 m1 o2 n2 m2 x1 x2 y i [true,true])=some (kgC o1 n1 o2 n2 x1 x2 y i true [],[],okT 32,kgO 32 (octL (kgM o1 n1 o2 n2 x1 x2 y % rN) 32)):=by kernel_rfl
theorem kg_never:segOut Tryz.prog oSx kgF 400 2 [] (kgS o1 n1 m1 o2 n2 m2 x1 x2 y i [false])=some ((decide (i<16),false)::[],[],erT 210,[]):=by kernel_rfl
theorem kg_short:segOut Tryz.prog oSx kgF 400 2 [] (kgE o1 n1 m1 o2 n2 m2 x1 x2 [true])=some ((hasB .i64 n1,true)::(decide ((n1:Int)<32),true)::[],[],erT 211,[]):=by kernel_rfl
end
theorem kgM_eq {o1 n1 o2 n2:Nat} {x1 x2:List Int} (h1:o1+n1≤x1.length) (h2:o2+n2≤x2.length) (y:List Int):kgM o1 n1 o2 n2 x1 x2 y=kgN y (win x1 o1 n1) (win x2 o2 n2):=by
 unfold kgM kgN
 have e1:kgB o1 n1 x1=win x1 o1 n1++[0]:=rfl
 have e2:kgI o2 n2 x2=win x2 o2 n2++[0,48]:=rfl
 rw [e1,e2,show 0+0*1=0 from rfl,show 32-0=32 from rfl,winA (shaL_length _),winA (macL_length _ _),winA (len_app (b:=[0]) (m:=1) (winl h1) rfl),winA (len_app (b:=[0,48]) (m:=2) (winl h2) rfl)]
theorem kgC_ok {o1 n1 o2 n2:Nat} {x1 x2 y:List Int} {i:Int} {b:Bool} {r:List (Bool×Bool)} (h1:o1+n1≤x1.length) (h2:o2+n2≤x2.length) (hn1:n1≤4398046511104) (hn2:n2≤4398046511104) (hi:i<16) (hb:(!decide (kgN y (win x1 o1 n1) (win x2 o2 n2)=0))=b) (hr:okConds r):okConds (kgC o1 n1 o2 n2 x1 x2 y i b r):=by
 have l1:(kgB o1 n1 x1).length=n1+1:=len_app (winl h1) rfl
 have l2:(kgI o2 n2 x2).length=n2+2:=len_app (winl h2) rfl
 unfold kgC
 rw [kgM_eq h1 h2,l1,l2]
 exact ⟨decide_eq_true hi,Nat.ble_eq_true_of_le h1,rfl,Nat.ble_eq_true_of_le (by omega),rfl,Nat.ble_eq_true_of_le (by omega),rfl,Nat.ble_eq_true_of_le (by omega),Nat.ble_eq_true_of_le h2,rfl,Nat.ble_eq_true_of_le (by omega),rfl,Nat.ble_eq_true_of_le (by omega),rfl,Nat.ble_eq_true_of_le (by omega),tt_ok 2 ⟨hb,hr⟩⟩
noncomputable def kgVal (K N:Nat):AV:=if N=0 then erT 210 else okT K
noncomputable def kgHp (K N:Nat):Heap:=if N=0 then [] else kgO K (octL N 32)
theorem kgN_lt (y b i:List Int):kgN y b i<rN:=Nat.mod_lt _ rN_pos
theorem kg_loop {o1 n1 m1 o2 n2 m2:Nat} {x1 x2:List Int} (h1:o1+n1≤x1.length) (h2:o2+n2≤x2.length) (hn1:n1≤4398046511104) (hn2:n2≤4398046511104) {β0:Env} {w0:World} (hb:∀ b,2≤b→β0 b=none):∀ (r i:Nat) (y:List Int),i+r=16 →
  ASafe Tryz.prog 34 β0 w0 (Outs β0 w0 [] (kgVal 32 (keyR (win x1 o1 n1) (win x2 o2 n2) r y)) (kgHp 32 (keyR (win x1 o1 n1) (win x2 o2 n2) r y))) kgF.ntmps [] (kgS o1 n1 m1 o2 n2 m2 x1 x2 y (i:Int) []):=by
 intro r
 induction r with
 | zero =>
  intro i y hi
  obtain rfl:i=16:=by omega
  unfold kgVal kgHp keyR
  rw [if_pos rfl,if_pos rfl]
  exact path_safe [false] (out_safe oSxok mixed Tryz.func34 (kg_never ..) ⟨by decide,trivial⟩ (wfB_ok (by kernel_rfl)) hb (fun _ h=>by cases h))
 | succ r ih =>
  intro i y hi
  by_cases hz:kgN y (win x1 o1 n1) (win x2 o2 n2)=0
  ·refine path_safe [true,false] (seg_safe oSxok mixed (kg_step ..) (kgC_ok h1 h2 hn1 hn2 (by omega) (by rw [decide_eq_true hz];rfl) (tt_ok 2 trivial)) (wfB_ok (by kernel_rfl)) hb (fun _ h=>by cases h) fun _=>?_)
   rw [show 0+0*1=0 from rfl,show 32-0=32 from rfl,winA (shaL_length _),wI_eq (z:=(i:Int)+1) (by omega)]
   have:=ih (i+1) (shaL y) (by omega)
   unfold keyR
   rw [if_pos hz]
   exact this
  ·have:=out_safe (P:=Tryz.prog) (n:=kgF.ntmps) (β0:=β0) (w0:=w0) (W:=[]) oSxok mixed Tryz.func34 (kg_yes o1 n1 m1 o2 n2 m2 x1 x2 y (i:Int)) (kgC_ok h1 h2 hn1 hn2 (by omega) (by rw [decide_eq_false hz];rfl) trivial) (wfB_ok (by kernel_rfl)) hb (fun _ h=>by cases h)
   rw [kgM_eq h1 h2,Nat.mod_eq_of_lt (kgN_lt _ _ _)] at this
   unfold kgVal kgHp keyR
   rw [if_neg hz,if_neg hz,if_neg hz]
   exact path_safe [true,true] this
theorem tagK_win:win tagK 0 20=tagK:=by kernel_rfl
theorem kg_can {o1 n1 m1 o2 n2 m2:Nat} {x1 x2:List Int} (h1:o1+n1≤x1.length) (h2:o2+n2≤x2.length) (hn1:n1≤4398046511104) (hn2:n2≤4398046511104) (hn:¬ n1<32) :
  CanOk Tryz.prog 34 [slA 0 o1 n1 m1,slA 1 o2 n2 m2] [(0,some (roB [.seq .u8 x1])),(1,some (roB [.seq .u8 x2]))] 2 [] (kgVal 32 (keyN (win x1 o1 n1) (win x2 o2 n2))) (kgHp 32 (keyN (win x1 o1 n1) (win x2 o2 n2))):=by
 refine can_entry (path:=[false]) Tryz.func34 (by kernel_rfl) (by kernel_rfl) fun β0 w0 hb=>?_
 refine seg_safe oSxok mixed (kg_entry o1 n1 m1 o2 n2 m2 x1 x2) ⟨hb_ok (by omega),decide_eq_false (by omega),tt_ok 2 trivial⟩ (wfB_ok (by kernel_rfl)) hb (fun _ h=>by cases h) fun _=>?_
 refine ren_safe (m:=3) (by kernel_rfl) hb ?_
 rw [tagK_win,keyN_eq]
 exact nv_safe (kg_loop h1 h2 hn1 hn2 hb 16 0 tagK rfl)
theorem kg_can0 {o1 n1 m1 o2 n2 m2:Nat} {x1 x2:List Int} (hn:n1<32) :
  CanOk Tryz.prog 34 [slA 0 o1 n1 m1,slA 1 o2 n2 m2] [(0,some (roB [.seq .u8 x1])),(1,some (roB [.seq .u8 x2]))] 2 [] (erT 211) [] :=
 can_entry (path:=[true]) Tryz.func34 (by kernel_rfl) (by kernel_rfl) fun β0 w0 hb=>out_safe oSxok mixed Tryz.func34 (kg_short o1 n1 m1 o2 n2 m2 x1 x2) ⟨hb_ok (by omega),decide_eq_true (by omega),trivial⟩ (wfB_ok (by kernel_rfl)) hb (fun _ h=>by cases h)
noncomputable def kgSp (K nw:Nat):ASpec:=fun args H fr path=>match args with
 | [S,T]=>match asSl S,asSl T with
  | some (k,o,n),some (l,p,m)=>match hget H k,hget H l with
   | some ⟨_,cs,_⟩,some ⟨_,ds,_⟩=>match toSeq .u8 cs,toSeq .u8 ds with
    | some xs,some ys=>match path with
     | true::rest=>some (trR [k,l] 2 fr 0 [] (erT 211) [] [(decide (n<32),true)] rest)
     | false::true::rest=>some (trR [k,l] 2 fr 0 [] (erT 210) [] [(decide (n<32),false),(Nat.ble (o+n) xs.length,true),(Nat.ble (p+m) ys.length,true),(Nat.ble n 4398046511104,true),(Nat.ble m 4398046511104,true),(decide (keyN (win xs o n) (win ys p m)=0),true)] rest)
     | false::false::rest=>some (trR [k,l] 2 fr nw [] (okT K) (kgO K (octL (keyN (win xs o n) (win ys p m)) 32)) [(decide (n<32),false),(Nat.ble (o+n) xs.length,true),(Nat.ble (p+m) ys.length,true),(Nat.ble n 4398046511104,true),(Nat.ble m 4398046511104,true),(decide (keyN (win xs o n) (win ys p m)=0),false)] rest)
     | _=>none
    | _,_=>none
   | _,_=>none
  | _,_=>none
 | _=>none
theorem kgSp_ok {F:FuncId} {fn:Func} {K nw:Nat} (hfn:Tryz.prog.funcs[F]? = some fn) (hb:fn.body.isSome=true) (hname:(fn.name=="runtime.NumGoroutine")=false) (hk:∀ L,canB 2 nw [] (okT K) (kgO K L)=true)
  (h0:∀ {o1 n1 m1 o2 n2 m2:Nat} {x1 x2:List Int},n1<32→CanOk Tryz.prog F [slA 0 o1 n1 m1,slA 1 o2 n2 m2] [(0,some (roB [.seq .u8 x1])),(1,some (roB [.seq .u8 x2]))] 2 [] (erT 211) [])
  (h:∀ {o1 n1 m1 o2 n2 m2:Nat} {x1 x2:List Int},(∀ d∈x1,0≤d∧d<256)→(∀ d∈x2,0≤d∧d<256)→o1+n1≤x1.length→o2+n2≤x2.length→n1≤4398046511104→n2≤4398046511104→¬ n1<32→CanOk Tryz.prog F [slA 0 o1 n1 m1,slA 1 o2 n2 m2] [(0,some (roB [.seq .u8 x1])),(1,some (roB [.seq .u8 x2]))] 2 [] (kgVal K (keyN (win x1 o1 n1) (win x2 o2 n2))) (kgHp K (keyN (win x1 o1 n1) (win x2 o2 n2)))):SpecOk Tryz.prog F (kgSp K nw):=by
 refine can_spec2 hfn hb hname fun args H fr path r hs=>?_
 unfold kgSp at hs
 split at hs
 case h_2=>cases hs
 rename_i S T
 split at hs
 case h_2=>cases hs
 rename_i k o n l p m hS hT
 split at hs
 case h_2=>cases hs
 rename_i ty cs op ty' ds op' hk' hl'
 split at hs
 case h_2=>cases hs
 rename_i xs ys hx hy
 split at hs
 ·rename_i rest
  injection hs with hs
  refine ⟨[k,l],2,0,[],_,_,_,rest,hs.symm,fun β us w ha hg hc=>?_⟩
  obtain ⟨u1,us1,r1,⟨u2,us2,r2,ha,rfl⟩,rfl⟩:=ha
  obtain ⟨m1,m2,q1,q2,_,_,q5,q6⟩:=two_in hg hS hT hk' hl' hx hy r1 r2
  exact ⟨_,_,h0 (of_decide_eq_true hc.1),rfl,⟨u1,_,q1,⟨u2,_,q2,ha,rfl⟩,rfl⟩,q5,q6⟩
 ·rename_i rest
  injection hs with hs
  refine ⟨[k,l],2,0,[],_,_,_,rest,hs.symm,fun β us w ha hg hc=>?_⟩
  obtain ⟨u1,us1,r1,⟨u2,us2,r2,ha,rfl⟩,rfl⟩:=ha
  obtain ⟨m1,m2,q1,q2,b1,b2,q5,q6⟩:=two_in hg hS hT hk' hl' hx hy r1 r2
  obtain ⟨c0,c1,c2,c3,c4,c5,_⟩:=hc
  have:=h (o1:=o) (n1:=n) (m1:=m1) (o2:=p) (n2:=m) (m2:=m2) b1 b2 (Nat.le_of_ble_eq_true c1) (Nat.le_of_ble_eq_true c2) (Nat.le_of_ble_eq_true c3) (Nat.le_of_ble_eq_true c4) (of_decide_eq_false c0)
  unfold kgVal kgHp at this
  rw [if_pos (of_decide_eq_true c5),if_pos (of_decide_eq_true c5)] at this
  exact ⟨_,_,this,rfl,⟨u1,_,q1,⟨u2,_,q2,ha,rfl⟩,rfl⟩,q5,q6⟩
 ·rename_i rest
  injection hs with hs
  refine ⟨[k,l],2,nw,[],_,_,_,rest,hs.symm,fun β us w ha hg hc=>?_⟩
  obtain ⟨u1,us1,r1,⟨u2,us2,r2,ha,rfl⟩,rfl⟩:=ha
  obtain ⟨m1,m2,q1,q2,b1,b2,q5,q6⟩:=two_in hg hS hT hk' hl' hx hy r1 r2
  obtain ⟨c0,c1,c2,c3,c4,c5,_⟩:=hc
  have:=h (o1:=o) (n1:=n) (m1:=m1) (o2:=p) (n2:=m) (m2:=m2) b1 b2 (Nat.le_of_ble_eq_true c1) (Nat.le_of_ble_eq_true c2) (Nat.le_of_ble_eq_true c3) (Nat.le_of_ble_eq_true c4) (of_decide_eq_false c0)
  unfold kgVal kgHp at this
  rw [if_neg (of_decide_eq_false c5),if_neg (of_decide_eq_false c5)] at this
  exact ⟨_,_,this,hk _,⟨u1,_,q1,⟨u2,_,q2,ha,rfl⟩,rfl⟩,q5,q6⟩
 ·cases hs
noncomputable def SSy:List (FuncId×ASpec):=(34,kgSp 32 31)::SSx
theorem SSyok:SpecsOk Tryz.prog SSy:=⟨kgSp_ok Tryz.func34 (by kernel_rfl) (by kernel_rfl) (fun _=>rfl) kg_can0 fun _ _=>kg_can,SSxok⟩
end Go.Proofs.YtjlcdlekmpjjnaaGreat
/- sigillaw21: BlsKeyed: the runs. -/
namespace Go.Proofs.YtjlcdlekmpjjnaaGreat
open Ex Num Rg
open Sh (R av rd mo en mo_en)
set_option maxRecDepth 100000
set_option maxHeartbeats 4000000
noncomputable def SKd:List (FuncId×ASpec):=SSy++SVg
theorem SKdok:SpecsOk Tryz.prog SKd:=specs_append SSyok SVgok
noncomputable abbrev oKd:Orc:=orc SKd KV
noncomputable def kdS (n0 m0 n1 m1:Nat) (x0 x1:List Int) (p:List Bool):ASt:=entry Tryz.f7 [slA 0 0 n0 m0,slA 1 0 n1 m1] [(0,some (roB [.seq .u8 x0])),(1,some (roB [.seq .u8 x1]))] 2 p
def few2:List Bool:=[false,true,false,true,false,false]
noncomputable def kdK (n0 n1:Nat) (x0 x1:List Int):Nat:=keyN (win x0 0 n0) (win x1 0 n1)
noncomputable def kdB (N:Nat):List Int:=win (octL N 32) 0 32
noncomputable def kdP (N:Nat):List Int:=win (e1L true (Rg.smul (natB (kdB N)) G1B)) 0 48
theorem kd_l0 (n0 m0 n1 m1:Nat) (x0 x1:List Int):segOut Tryz.prog oKd Tryz.f7 800 2 [] (kdS n0 m0 n1 m1 x0 x1 [false,true,true])=some ((true,true)::(false,false)::tt 3 ((hasB IntKind.i64 (Int.ofNat n0),true)::(decide (300<Int.ofNat n0),true)::[]),[],.val false [.b true],[]):=by kernel_rfl
theorem kd_l1 (n0 m0 n1 m1:Nat) (x0 x1:List Int):segOut Tryz.prog oKd Tryz.f7 800 2 [] (kdS n0 m0 n1 m1 x0 x1 [false,true,false,true,true])=some ((true,true)::(false,false)::tt 3 ((hasB IntKind.i64 (Int.ofNat n0),true)::(decide (300<Int.ofNat n0),false)::tt 3 ((hasB IntKind.i64 (Int.ofNat n1),true)::(decide (300<Int.ofNat n1),true)::[])),[],.val false [.b true],[]):=by kernel_rfl
theorem kd_short (n0 m0 n1 m1:Nat) (x0 x1:List Int):segOut Tryz.prog oKd Tryz.f7 800 2 [] (kdS n0 m0 n1 m1 x0 x1 (few2++[true,true,true]))=some ((true,true)::(false,false)::tt 3 ((hasB IntKind.i64 (Int.ofNat n0),true)::(decide (300<Int.ofNat n0),false)::tt 3 ((hasB IntKind.i64 (Int.ofNat n1),true)::(decide (300<Int.ofNat n1),false)::(true,true)::(false,false)::(decide (n0<32),true)::(true,true)::(Nat.ble (0+n0) (List.length x0),true)::(rmC (0+n0),true)::(true,true)::(Nat.ble (0+n1) (List.length x1),true)::(rmC (0+n1),true)::(decide (0+n0<32),true)::tt 4 ((hasB IntKind.i64 (Int.ofNat n0),true)::(decide (Int.ofNat n0<32),true)::(true,true)::[]))),[],boolA true,[]):=by kernel_rfl
theorem kd_never (n0 m0 n1 m1:Nat) (x0 x1:List Int):segOut Tryz.prog oKd Tryz.f7 800 2 [] (kdS n0 m0 n1 m1 x0 x1 (few2++[false,true,false,true,true]))=some ((true,true)::(false,false)::tt 3 ((hasB IntKind.i64 (Int.ofNat n0),true)::(decide (300<Int.ofNat n0),false)::tt 3 ((hasB IntKind.i64 (Int.ofNat n1),true)::(decide (300<Int.ofNat n1),false)::(true,true)::(false,false)::(decide (n0<32),false)::(Nat.ble (0+n0) (List.length x0),true)::(Nat.ble (0+n1) (List.length x1),true)::(Nat.ble n0 (4398046511104),true)::(Nat.ble n1 (4398046511104),true)::(decide (keyN (win x0 (0) n0) (win x1 (0) n1)=0),true)::(true,true)::(Nat.ble (0+n0) (List.length x0),true)::(rmC (0+n0),true)::(true,true)::(Nat.ble (0+n1) (List.length x1),true)::(rmC (0+n1),true)::(decide (0+n0<32),false)::(Nat.ble (0+(0+n0)) (List.length ([]++List.take n0 (List.drop (0) x0))),true)::(Nat.ble (0+(0+n1)) (List.length ([]++List.take n1 (List.drop (0) x1))),true)::(Nat.ble (0+n0) (4398046511104),true)::(Nat.ble (0+n1) (4398046511104),true)::(decide (keyN (win ([]++List.take n0 (List.drop (0) x0)) (0) (0+n0)) (win ([]++List.take n1 (List.drop (0) x1)) (0) (0+n1))=0),true)::tt 4 ((hasB IntKind.i64 (Int.ofNat n0),true)::(decide (32≤Int.ofNat n0),true)::(true,true)::[]))),[],boolA true,[]):=by kernel_rfl
theorem kd_yes (n0 m0 n1 m1:Nat) (x0 x1:List Int):segOut Tryz.prog oKd Tryz.f7 800 2 [] (kdS n0 m0 n1 m1 x0 x1 (few2++[false,false,false,false,false,true,true,true,true,true]))=some ((true,true)::(false,false)::tt 3 ((hasB IntKind.i64 (Int.ofNat n0),true)::(decide (300<Int.ofNat n0),false)::tt 3 ((hasB IntKind.i64 (Int.ofNat n1),true)::(decide (300<Int.ofNat n1),false)::(true,true)::(false,false)::(decide (n0<32),false)::(Nat.ble (0+n0) (List.length x0),true)::(Nat.ble (0+n1) (List.length x1),true)::(Nat.ble n0 (4398046511104),true)::(Nat.ble n1 (4398046511104),true)::(decide (keyN (win x0 (0) n0) (win x1 (0) n1)=0),false)::(true,true)::(Nat.ble (0+n0) (List.length x0),true)::(rmC (0+n0),true)::(true,true)::(Nat.ble (0+n1) (List.length x1),true)::(rmC (0+n1),true)::(decide (0+n0<32),false)::(Nat.ble (0+(0+n0)) (List.length ([]++List.take n0 (List.drop (0) x0))),true)::(Nat.ble (0+(0+n1)) (List.length ([]++List.take n1 (List.drop (0) x1))),true)::(Nat.ble (0+n0) (4398046511104),true)::(Nat.ble (0+n1) (4398046511104),true)::(decide (keyN (win ([]++List.take n0 (List.drop (0) x0)) (0) (0+n0)) (win ([]++List.take n1 (List.drop (0) x1)) (0) (0+n1))=0),false)::tt 9 ((skB (32) (natB (win (octL (keyN (win x0 (0) n0) (win x1 (0) n1)) (32)) (0) (32))),true)::(smB (win (octL (keyN (win x0 (0) n0) (win x1 (0) n1)) (32)) (0) (32)) (win (octL (keyN (win ([]++List.take n0 (List.drop (0) x0)) (0) (0+n0)) (win ([]++List.take n1 (List.drop (0) x1)) (0) (0+n1))) (32)) (0) (32)),true)::(hasB IntKind.i64 (Int.ofNat n0),true)::(decide (32≤Int.ofNat n0),true)::(decide (frE (32) (natB (win (octL (keyN (win x0 (0) n0) (win x1 (0) n1)) (32)) (0) (32)))=0),true)::(!decide (frV (32) (natB (win (octL (keyN (win x0 (0) n0) (win x1 (0) n1)) (32)) (0) (32)))=Int.toNat (0)+18446744073709551616*(Int.toNat (0)+18446744073709551616*(Int.toNat (0)+18446744073709551616*(Int.toNat (0)+18446744073709551616*0)))),true)::(Nat.ble (48) (List.length (e1L true (smul (natB (win (octL (keyN (win x0 (0) n0) (win x1 (0) n1)) (32)) (0) (32))) G1B))),true)::tt 2 ((decide ((dec1 true (kdP (kdK n0 n1 x0 x1))).2=0),true)::[])))),[],boolA (!ptI (dec1 true (kdP (kdK n0 n1 x0 x1))).1),[]):=by kernel_rfl
end Go.Proofs.YtjlcdlekmpjjnaaGreat
/- sigillaw21: BlsKeyed. -/
namespace Go.Proofs.YtjlcdlekmpjjnaaGreat
open Ex Num Rg
open Sh (R av rd mo en mo_en)
set_option maxRecDepth 100000
set_option maxHeartbeats 4000000
section
variable {n0 m0 n1 m1:Nat} {x0 x1:List Int}
noncomputable def kdH (x0 x1:List Int):Heap:=[(0,some (roB [.seq .u8 x0])),(1,some (roB [.seq .u8 x1]))]
theorem kd_run {v:AV} {c:List (Bool×Bool)} {p:List Bool} (h:segOut Tryz.prog oKd Tryz.f7 800 2 [] (kdS n0 m0 n1 m1 x0 x1 p)=some (c,[],v,[])) (hc:okConds c):CanOk Tryz.prog 7 [slA 0 0 n0 m0,slA 1 0 n1 m1] (kdH x0 x1) 2 [] v [] :=
 can_run SKdok KVok Tryz.func7 (by kernel_rfl) (by kernel_rfl) h (by kernel_rfl) hc
end
theorem kdB_nat {N:Nat} (h:N<rN):natB (kdB N)=N:=by
 unfold kdB
 rw [winA (octL_length _ _),natB_octL]
 refine Nat.mod_eq_of_lt (Nat.lt_trans h (Nat.lt_of_lt_of_le rN_lt ?_))
 rw [R4_eq,p256]
 exact Nat.le_refl _
theorem keyR_lt (b i:List Int):∀ r y,keyR b i r y<rN
 | 0,_=>rN_pos
 | r+1,y=>by
  unfold keyR
  split
  ·exact keyR_lt b i r _
  ·exact kgN_lt _ _ _
theorem keyN_lt (b i:List Int):keyN b i<rN:=by rw [keyN_eq];exact keyR_lt b i 16 tagK
section
variable {n0 m0 n1 m1:Nat} {x0 x1:List Int}
theorem kd_ok (hne:∀ N,N≠0→N<rN→ptI (smul N G1B)=false) (a0:n0≤x0.length) (c0:hasB .i64 (Int.ofNat n0)=true) (a1:n1≤x1.length) (c1:hasB .i64 (Int.ofNat n1)=true):CanOk Tryz.prog 7 [slA 0 0 n0 m0,slA 1 0 n1 m1] (kdH x0 x1) 2 [] (boolA true) []:=by
 cases d0:decide ((300:Int)<Int.ofNat n0) with
 | true =>
  have r:=kd_l0 n0 m0 n1 m1 x0 x1
  rw [c0,d0] at r
  exact can_tt (kd_run r (okB_ok rfl))
 | false =>
 cases d1:decide ((300:Int)<Int.ofNat n1) with
 | true =>
  have r:=kd_l1 n0 m0 n1 m1 x0 x1
  rw [c0,c1,d0,d1] at r
  exact can_tt (kd_run r (okB_ok rfl))
 | false =>
 have k0:n0≤300:=by have:¬ (300:Int)<(n0:Int):=of_decide_eq_false d0;omega
 have k1:n1≤300:=by have:¬ (300:Int)<(n1:Int):=of_decide_eq_false d1;omega
 have b0:Nat.ble (0+n0) x0.length=true:=Nat.ble_eq_true_of_le (by omega)
 have b1:Nat.ble (0+n1) x1.length=true:=Nat.ble_eq_true_of_le (by omega)
 have w0:[]++List.take n0 (List.drop 0 x0)=win x0 0 n0:=rfl
 have w1:[]++List.take n1 (List.drop 0 x1)=win x1 0 n1:=rfl
 have l0:(win x0 0 n0).length=0+n0:=by rw [winl (by omega)];omega
 have l1:(win x1 0 n1).length=0+n1:=by rw [winl (by omega)];omega
 have v0:win (win x0 0 n0) 0 (0+n0)=win x0 0 n0:=winA l0
 have v1:win (win x1 0 n1) 0 (0+n1)=win x1 0 n1:=winA l1
 have z0:Nat.ble (0+(0+n0)) (win x0 0 n0).length=true:=Nat.ble_eq_true_of_le (by rw [l0];omega)
 have z1:Nat.ble (0+(0+n1)) (win x1 0 n1).length=true:=Nat.ble_eq_true_of_le (by rw [l1];omega)
 have g0:rmC (0+n0)=true:=rmC_ok (by omega)
 have g1:rmC (0+n1)=true:=rmC_ok (by omega)
 have y0:Nat.ble n0 4398046511104=true:=Nat.ble_eq_true_of_le (by omega)
 have y1:Nat.ble n1 4398046511104=true:=Nat.ble_eq_true_of_le (by omega)
 have y0':Nat.ble (0+n0) 4398046511104=true:=Nat.ble_eq_true_of_le (by omega)
 have y1':Nat.ble (0+n1) 4398046511104=true:=Nat.ble_eq_true_of_le (by omega)
 by_cases hs:n0<32
 ·have r:=kd_short n0 m0 n1 m1 x0 x1
  have s0:decide (n0<32)=true:=decide_eq_true hs
  have s1:decide (0+n0<32)=true:=decide_eq_true (by omega)
  have s2:decide (Int.ofNat n0<32)=true:=decide_eq_true (by show (n0:Int)<32;omega)
  simp only [c0,c1,d0,d1,b0,b1,g0,g1,s0,s1,s2] at r
  exact kd_run r (okB_ok rfl)
 ·have s0:decide (n0<32)=false:=decide_eq_false hs
  have s1:decide (0+n0<32)=false:=decide_eq_false (by omega)
  have s2:decide (32≤Int.ofNat n0)=true:=decide_eq_true (by show (32:Int)≤(n0:Int);omega)
  by_cases hz:keyN (win x0 0 n0) (win x1 0 n1)=0
  ·have r:=kd_never n0 m0 n1 m1 x0 x1
   have e0:=decide_eq_true hz
   rw [w0,w1,v0,v1] at r
   simp only [c0,c1,d0,d1,b0,b1,g0,g1,s0,s1,s2,y0,y1,y0',y1',z0,z1,e0] at r
   exact kd_run r (okB_ok rfl)
  ·have r:=kd_yes n0 m0 n1 m1 x0 x1
   have e0:=decide_eq_false hz
   have hN:=keyN_lt (win x0 0 n0) (win x1 0 n1)
   rw [w0,w1,v0,v1] at r
   unfold kdK at r
   generalize keyN (win x0 0 n0) (win x1 0 n1)=N at *
   have hB:natB (win (octL N 32) 0 32)=N:=kdB_nat hN
   have hS:skB 32 N=true:=skB_iff.2 ⟨rfl,hN,hz⟩
   have hV:frV 32 N=N:=if_pos ⟨rfl,hN⟩
   have hE:decide (frE 32 N=0)=true:=decide_eq_true (by unfold frE;rw [if_pos rfl,if_pos hN])
   have hD:dec1 true (kdP N)=(smul N G1B,0):=by unfold kdP kdB;rw [hB];exact dec_enc1 (in1_smul N) true
   have hl:Nat.ble 48 (e1L true (smul N G1B)).length=true:=by rw [e1L_l];rfl
   have hz':(!decide (N=Int.toNat 0+18446744073709551616*(Int.toNat 0+18446744073709551616*(Int.toNat 0+18446744073709551616*(Int.toNat 0+18446744073709551616*0)))))=true:=by
    have q:Int.toNat 0+18446744073709551616*(Int.toNat 0+18446744073709551616*(Int.toNat 0+18446744073709551616*(Int.toNat 0+18446744073709551616*0)))=0:=rfl
    rw [q,decide_eq_false hz];rfl
   have hp:=hne N hz hN
   rw [hB,hV,hD] at r
   simp only [c0,c1,d0,d1,b0,b1,g0,g1,s0,s1,s2,y0,y1,y0',y1',z0,z1,e0,hS,hE,hl,hz',smBr,hp,decide_true] at r
   exact kd_run r (okB_ok rfl)
end
theorem rN_prime:Num.Prime rN:=by rw [rN_eq];exact prR
theorem G1B_smul {N:Nat} (h0:N≠0) (h:N<rN):ptI (smul N G1B)=false:=by
 have hG:=(onP_iff G1B).1 onG1
 cases q:ptI (smul N G1B) with
 | false=>rfl
 | true =>
  have hz:smul N G1B=.inf:=by
   cases e:smul N G1B with
   | inf=>rfl
   | pt a b=>rw [e] at q;cases q
  have hd:=order_min (C:=C1) hG (l:=[rN]) (fun x hx=>by rw [List.mem_singleton] at hx;subst hx;exact rN_prime) (by show smul (rN*1) G1B=.inf;rw [Nat.mul_one];exact rG1) (fun x hx=>by
   rw [List.mem_singleton] at hx;subst hx
   show smul (rN*1 / rN) G1B≠.inf
   rw [Nat.mul_one,Nat.div_self rN_pos]
   exact fun e=>by cases e) N hz
  have:rN*1∣N:=hd
  rw [Nat.mul_one] at this
  exact absurd (Nat.le_of_dvd (Nat.pos_of_ne_zero h0) this) (by omega)
theorem blsKeyed_walk:LawWalk Tryz.prog 7 Tryz.f7:=walk_can fun H enc us W base ds ps hv hA=>by
 have hp:Tryz.f7.params.toList=[28,28]:=by kernel_rfl
 have hp':Tryz.f7.params=#[28,28]:=by kernel_rfl
 rw [hp] at hA
 rw [hp'] at hv
 obtain ⟨v1,us1,d1,ds1,p1,q1,rfl,rfl,t1,hA⟩:=args_cons hA
 obtain ⟨v2,us2,d2,ds2,p2,q2,rfl,rfl,t2,hA⟩:=args_cons hA
 obtain rfl:=args0 hA rfl
 obtain ⟨L0,z0,n0,m0,y0,a0,b0,c0,r0,A0⟩:=bytes_arg_m (hv 0 _ v1 rfl rfl) t1 (ArgsOk.nil W)
 obtain ⟨L1,z1,n1,m1,y1,a1,b1,c1,r1,A1⟩:=bytes_arg_m (hv 1 _ v2 rfl rfl) t2 A0
 refine ⟨_,_,[slA 0 0 n0 m0,slA 1 0 n1 m1],A1,⟨v1,_,relA_mono (locEnv_le _ L1) r0,⟨v2,_,r1,rfl,rfl⟩,rfl⟩,?_⟩
 exact kd_ok (fun N h0 h=>G1B_smul h0 h) a0 c0 a1 c1
end Go.Proofs.YtjlcdlekmpjjnaaGreat
