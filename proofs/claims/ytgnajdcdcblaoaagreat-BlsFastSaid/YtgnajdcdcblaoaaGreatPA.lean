/- Part 1 of the proof. -/
import Derived.Calls
import Derived.Orders
import Derived.Laws.CopyRow
import Derived.Laws.Entries
import Derived.Laws.StructEq
import Derived.Laws.Externs
import Derived.Laws.BitsLemmas
import Derived.Laws.Bits64
import Derived.ChangeKeysEq
import Derived.KernelRfl
import Derived.Laws.Slices
import Derived.Laws.MakeOwn
import Derived.Laws.BytesString
import Derived.Laws.IdiomStrings
import Derived.MapKept
import Derived.Laws.Cover3
namespace Go.Proofs.YtgnajdcdcblaoaaGreat
theorem dm {α} {a b:α} (h:a=b:=by kernel_rfl):a=b:=h
theorem dn {p:Prop} (h:p:=by omega):p:=h
theorem dp {p:Prop} (h:p:=by decide):p:=h
theorem jm:type_of% @decide_eq_true:=@decide_eq_true
theorem jn:type_of% @if_neg:=@if_neg
theorem jo:type_of% @if_pos:=@if_pos
theorem jp:type_of% @Nat.le_of_ble_eq_true:=@Nat.le_of_ble_eq_true
theorem jq:type_of% @decide_eq_false:=@decide_eq_false
theorem jr:type_of% @Nat.ble_eq_true_of_le:=@Nat.ble_eq_true_of_le
theorem jt:type_of% @decide_eq_true_eq:=@decide_eq_true_eq
theorem ju:type_of% @Nat.le_refl:=@Nat.le_refl
theorem jv:type_of% @Nat.mod_eq_of_lt:=@Nat.mod_eq_of_lt
theorem jw:type_of% @congrArg:=@congrArg
theorem jx:type_of% @Bool.and_eq_true:=@Bool.and_eq_true
theorem jy:type_of% @Bool.and_eq_true_iff:=@Bool.and_eq_true_iff
theorem jz:type_of% @Int.toNat_natCast:=@Int.toNat_natCast
theorem j_:type_of% @List.mem_append:=@List.mem_append
theorem ka:type_of% @List.mem_cons:=@List.mem_cons
theorem kb:type_of% @Bool.false_ne_true:=@Bool.false_ne_true
theorem kc:type_of% @Nat.pow_add:=@Nat.pow_add
theorem ke:type_of% @Option.some.injEq:=@Option.some.injEq
theorem kf:type_of% @Nat.lt_or_ge:=@Nat.lt_or_ge
theorem ki:type_of% @Nat.mod_lt:=@Nat.mod_lt
theorem kj:type_of% @of_decide_eq_true:=@of_decide_eq_true
theorem ko:type_of% @Nat.mul_comm:=@Nat.mul_comm
theorem kp:type_of% @Prod.mk.injEq:=@Prod.mk.injEq
theorem kq:type_of% @List.getD_eq_getElem?_getD:=@List.getD_eq_getElem?_getD
theorem kr:type_of% @Nat.zero_add:=@Nat.zero_add
theorem kt:type_of% @Nat.mul_one:=@Nat.mul_one
theorem ku:type_of% @List.length_append:=@List.length_append
theorem kv:type_of% @List.length_take:=@List.length_take
theorem kw:type_of% @Int.eq_ofNat_of_zero_le:=@Int.eq_ofNat_of_zero_le
theorem kx:type_of% @Nat.pow_zero:=@Nat.pow_zero
theorem kz:type_of% @Nat.mul_mod:=@Nat.mul_mod
theorem k_:type_of% @List.length_cons:=@List.length_cons
theorem ld:type_of% @Nat.div_one:=@Nat.div_one
theorem lf:type_of% @Classical.choose_spec:=@Classical.choose_spec
theorem lg:type_of% @Bool.true_and:=@Bool.true_and
theorem lh:type_of% @List.append_nil:=@List.append_nil
theorem li:type_of% @Nat.lt_of_lt_of_le:=@Nat.lt_of_lt_of_le
theorem lj:type_of% @Nat.pow_succ:=@Nat.pow_succ
theorem lk:type_of% @List.length_drop:=@List.length_drop
theorem ll:type_of% @Nat.div_div_eq_div_mul:=@Nat.div_div_eq_div_mul
theorem lm:type_of% @Nat.mul_assoc:=@Nat.mul_assoc
theorem lu:type_of% @Int.natCast_mul:=@Int.natCast_mul
theorem lv:type_of% @Nat.add_mul:=@Nat.add_mul
theorem lz:type_of% @List.map_cons:=@List.map_cons
theorem l_:type_of% @List.mem_singleton:=@List.mem_singleton
theorem ma:type_of% @List.length_map:=@List.length_map
theorem mb:type_of% @Nat.div_lt_of_lt_mul:=@Nat.div_lt_of_lt_mul
theorem mc:type_of% @Option.isSome_iff_exists:=@Option.isSome_iff_exists
theorem md:type_of% @Nat.eq_zero_or_pos:=@Nat.eq_zero_or_pos
theorem me:type_of% @Nat.mul_zero:=@Nat.mul_zero
theorem mf:type_of% @Nat.div_eq_of_lt:=@Nat.div_eq_of_lt
theorem mi:type_of% @Array.getD_eq_getD_getElem?:=@Array.getD_eq_getD_getElem?
theorem mj:type_of% @List.mem_range:=@List.mem_range
theorem ml:type_of% @List.mem_map:=@List.mem_map
theorem mn:type_of% @Nat.le_of_dvd:=@Nat.le_of_dvd
theorem mq:type_of% @List.getElem?_eq_none:=@List.getElem?_eq_none
theorem mr:type_of% @Nat.min_eq_left:=@Nat.min_eq_left
theorem mv:type_of% @Nat.div_add_mod:=@Nat.div_add_mod
theorem mw:type_of% @Nat.le_trans:=@Nat.le_trans
theorem my:type_of% @Nat.mul_le_mul_right:=@Nat.mul_le_mul_right
theorem mz:type_of% @Array.ext':=@Array.ext'
theorem m_:type_of% @Nat.pow_pos:=@Nat.pow_pos
theorem nb:type_of% @Nat.mul_left_comm:=@Nat.mul_left_comm
theorem nc:type_of% @Prod.ext:=@Prod.ext
theorem nf:type_of% @Nat.eq_of_beq_eq_true:=@Nat.eq_of_beq_eq_true
theorem nh:type_of% @List.getElem?_eq_getElem:=@List.getElem?_eq_getElem
theorem ni:type_of% @Nat.add_assoc:=@Nat.add_assoc
theorem nj:type_of% @List.all_eq_true:=@List.all_eq_true
theorem nl:type_of% @Nat.lt_trans:=@Nat.lt_trans
theorem nq:type_of% @List.take_append_drop:=@List.take_append_drop
theorem nr:type_of% @Nat.mul_le_mul_left:=@Nat.mul_le_mul_left
theorem nu:type_of% @Nat.mod_mod:=@Nat.mod_mod
theorem nx:type_of% @List.map_congr_left:=@List.map_congr_left
theorem ny:type_of% @Bool.and_false:=@Bool.and_false
theorem nz:type_of% @Nat.mod_two_eq_zero_or_one:=@Nat.mod_two_eq_zero_or_one
theorem n_:type_of% @List.cons_append:=@List.cons_append
theorem od:type_of% @List.drop_drop:=@List.drop_drop
theorem oe:type_of% @Nat.mul_add:=@Nat.mul_add
theorem og:type_of% @Nat.add_zero:=@Nat.add_zero
theorem oh:type_of% @List.nil_append:=@List.nil_append
theorem oi:type_of% @List.take_of_length_le:=@List.take_of_length_le
theorem ol:type_of% @List.append_assoc:=@List.append_assoc
theorem om:type_of% @List.getElem?_append_left:=@List.getElem?_append_left
theorem oq:type_of% @List.mem_cons_of_mem:=@List.mem_cons_of_mem
theorem ot:type_of% @List.map_map:=@List.map_map
theorem ow:type_of% @Nat.pow_mod:=@Nat.pow_mod
theorem oy:type_of% @Bool.false_and:=@Bool.false_and
theorem oz:type_of% @List.length_replicate:=@List.length_replicate
theorem o_:type_of% @Int.tmod_eq_emod_of_nonneg:=@Int.tmod_eq_emod_of_nonneg
theorem pc:type_of% @Nat.add_mod:=@Nat.add_mod
theorem pe:type_of% @Nat.sub_self:=@Nat.sub_self
theorem pf:type_of% @Nat.not_lt_zero:=@Nat.not_lt_zero
theorem pi:type_of% @List.map_append:=@List.map_append
theorem pj:type_of% @Fin.ext_iff:=@Fin.ext_iff
theorem pm:type_of% @List.mem_of_getElem?:=@List.mem_of_getElem?
theorem pn:type_of% @List.mem_of_mem_drop:=@List.mem_of_mem_drop
theorem po:type_of% @Nat.mul_le_mul:=@Nat.mul_le_mul
theorem pp:type_of% @List.length_range:=@List.length_range
theorem pq:type_of% @Nat.pow_le_pow_right:=@Nat.pow_le_pow_right
theorem pr:type_of% @Nat.zero_mod:=@Nat.zero_mod
theorem pu:type_of% @Bool.not_true:=@Bool.not_true
theorem pv:type_of% @Nat.sub_zero:=@Nat.sub_zero
theorem p_:type_of% @Nat.zero_mul:=@Nat.zero_mul
theorem qa:type_of% @of_decide_eq_false:=@of_decide_eq_false
theorem qb:type_of% @Nat.add_mod_right:=@Nat.add_mod_right
theorem qd:type_of% @Nat.one_mul:=@Nat.one_mul
theorem qe:type_of% @List.getElem?_map:=@List.getElem?_map
theorem qf:type_of% @List.drop_zero:=@List.drop_zero
theorem qg:type_of% @List.getElem?_cons_zero:=@List.getElem?_cons_zero
theorem qh:type_of% @List.mem_of_mem_take:=@List.mem_of_mem_take
theorem qi:type_of% @Nat.pow_mul:=@Nat.pow_mul
theorem qj:type_of% @Nat.lt_of_le_of_lt:=@Nat.lt_of_le_of_lt
theorem qk:type_of% @Int.tdiv_eq_ediv_of_nonneg:=@Int.tdiv_eq_ediv_of_nonneg
theorem ql:type_of% @Int.natCast_pow:=@Int.natCast_pow
theorem qm:type_of% @Nat.mod_mul_mod:=@Nat.mod_mul_mod
theorem qn:type_of% @Nat.and_lt_two_pow:=@Nat.and_lt_two_pow
theorem qo:type_of% @Int.natCast_add:=@Int.natCast_add
theorem qp:type_of% @Nat.mod_one:=@Nat.mod_one
theorem qq:type_of% @Nat.two_mul:=@Nat.two_mul
theorem qr:type_of% @List.mem_cons_self:=@List.mem_cons_self
theorem qs:type_of% @List.cons.injEq:=@List.cons.injEq
theorem qt:type_of% @Nat.zero_le:=@Nat.zero_le
theorem qu:type_of% @Nat.div_mul_le_self:=@Nat.div_mul_le_self
theorem qv:type_of% @List.getElem?_drop:=@List.getElem?_drop
theorem qw:type_of% @Bool.not_false:=@Bool.not_false
theorem qz:type_of% @Int.mul_add:=@Int.mul_add
theorem q_:type_of% @Int.fdiv_eq_ediv_of_nonneg:=@Int.fdiv_eq_ediv_of_nonneg
theorem ra:type_of% @Nat.div_le_self:=@Nat.div_le_self
theorem rb:type_of% @Nat.mod_eq_zero_of_dvd:=@Nat.mod_eq_zero_of_dvd
theorem rf:type_of% @List.nodup_cons:=@List.nodup_cons
theorem ri:type_of% @Nat.lt_irrefl:=@Nat.lt_irrefl
theorem rj:type_of% @List.drop_eq_nil_of_le:=@List.drop_eq_nil_of_le
theorem rk:type_of% @Nat.succ_mul:=@Nat.succ_mul
theorem rq:type_of% @Array.getElem?_toList:=@Array.getElem?_toList
theorem ru:type_of% @List.getElem?_append_right:=@List.getElem?_append_right
theorem rv:type_of% @Array.getElem?_eq_some_iff:=@Array.getElem?_eq_some_iff
theorem rx:type_of% @List.getElem?_take_of_lt:=@List.getElem?_take_of_lt
theorem ry:type_of% @Option.map_eq_some_iff:=@Option.map_eq_some_iff
theorem r_:type_of% @Array.toList_map:=@Array.toList_map
theorem sd:type_of% @Nat.dvd_of_mod_eq_zero:=@Nat.dvd_of_mod_eq_zero
theorem se:type_of% @Int.natCast_ediv:=@Int.natCast_ediv
theorem sf:type_of% @List.ext_getElem:=@List.ext_getElem
theorem sh:type_of% @List.map_take:=@List.map_take
theorem si:type_of% @Nat.mul_right_comm:=@Nat.mul_right_comm
theorem sk:type_of% @List.replicate_succ:=@List.replicate_succ
theorem sm:type_of% @Nat.pos_of_ne_zero:=@Nat.pos_of_ne_zero
theorem sn:type_of% @Bool.or_eq_true:=@Bool.or_eq_true
theorem sr:type_of% @List.range_succ_eq_map:=@List.range_succ_eq_map
theorem ss:type_of% @Nat.pow_two:=@Nat.pow_two
theorem sv:type_of% @List.length_eq_zero_iff:=@List.length_eq_zero_iff
theorem s_:type_of% @Nat.pow_succ':=@Nat.pow_succ'
theorem ta:type_of% @Int.mul_assoc:=@Int.mul_assoc
theorem tc:type_of% @List.range_succ:=@List.range_succ
theorem te:type_of% @List.set_append_right:=@List.set_append_right
theorem th:type_of% @List.map_drop:=@List.map_drop
theorem ti:type_of% @Nat.xor_lt_two_pow:=@Nat.xor_lt_two_pow
theorem tj:type_of% @List.length_nil:=@List.length_nil
theorem tk:type_of% @List.range'_succ:=@List.range'_succ
theorem tm:type_of% @List.length_eq_one_iff:=@List.length_eq_one_iff
theorem tn:type_of% @List.ext_getElem?:=@List.ext_getElem?
theorem tp:type_of% @Array.getElem?_setIfInBounds_ne:=@Array.getElem?_setIfInBounds_ne
theorem tq:type_of% @Array.getElem?_push:=@Array.getElem?_push
theorem tr:type_of% @Array.getElem?_modify:=@Array.getElem?_modify
theorem tw:type_of% @Nat.add_sub_cancel_left:=@Nat.add_sub_cancel_left
theorem tz:type_of% @List.drop_append_of_le_length:=@List.drop_append_of_le_length
theorem t_:type_of% @List.take_append_of_le_length:=@List.take_append_of_le_length
theorem ua:type_of% @Nat.div_lt_iff_lt_mul:=@Nat.div_lt_iff_lt_mul
theorem ub:type_of% @Nat.mod_eq_sub_mod:=@Nat.mod_eq_sub_mod
theorem uc:type_of% @List.range_eq_range':=@List.range_eq_range'
theorem ue:type_of% @Array.getElem?_eq_getElem:=@Array.getElem?_eq_getElem
theorem ug:type_of% @List.getElem?_eq_some_iff:=@List.getElem?_eq_some_iff
theorem ui:type_of% @List.take_succ_cons:=@List.take_succ_cons
theorem uq:type_of% @Int.toNat_of_nonneg:=@Int.toNat_of_nonneg
theorem ut:type_of% @Nat.add_mul_div_left:=@Nat.add_mul_div_left
theorem uv:type_of% @Nat.add_mul_mod_self_left:=@Nat.add_mul_mod_self_left
theorem ux:type_of% @Classical.byContradiction:=@Classical.byContradiction
theorem uz:type_of% @List.getElem?_take:=@List.getElem?_take
theorem u_:type_of% @Array.length_toList:=@Array.length_toList
theorem vd:type_of% @Nat.mod_mod_of_dvd:=@Nat.mod_mod_of_dvd
theorem vr:type_of% @Array.getElem?_setIfInBounds_self_of_lt:=@Array.getElem?_setIfInBounds_self_of_lt
abbrev gn:=Go.World
abbrev gp:=Go.FuncId
abbrev gq:=Go.Value
abbrev gt:=Go.TypeId
abbrev dt:=List Int
end Go.Proofs.YtgnajdcdcblaoaaGreat
namespace Go.Proofs.YtgnajdcdcblaoaaGreat.Ex
inductive Ch where
 | n (k:IntKind) (i:Int)
 | b (x:Bool)
 | v (x:gq)
 | p (bk ic:Nat)
 | sl (bk ic len cap:Nat)
 | sx (bk len sz:Nat)
 | num (k x:Nat)
 | seq (kd:IntKind) (l:dt)
 | clo (f:gp) (caps:List (Nat×Nat))
 | mth (f:gp) (bk ic:Nat)
 | yl (bk:Nat)
 | mp (bk:Nat)
 | mk
inductive AV where
 | val (g:Bool) (cs:List Ch)
 | tup (xs:List (Bool×List Ch))
 | any
structure ib where
 ty:gt
 cs:List Ch
 opn:Bool:=false
inductive Loc where
 | at_ (B:Nat) (n:Nat×Nat)
 | nil
 | emp
def Br:Nat:=4294967295
abbrev Heap:=List (Nat×Option ib)
abbrev Env:=Nat→Option Loc
def has (k:IntKind) (n:Int):Prop:=k.min≤n∧n≤k.max
instance (k:IntKind) (n:Int):Decidable (has k n):=by unfold has;infer_instance
def AE (x i:Nat):Int:=((x / 2^(64*i) % 2^64:Nat):Int)
def words (k x:Nat):List gq:=(List.range k).map fun i=>.int .u64 (AE x i)
def NT (k x:Nat):List Ch:=(List.range k).map fun i=>.v (.int .u64 (AE x i))
def okV (x:gq):Prop:=x.oneCell'=true∧(match x with | .int k i=>has k i | _=>True)
def F9 (β:Env):List (Nat×Nat)→List gq→Prop
 | [],l=>l=[]
 | (bk,ic)::r,l=>∃ B n l',β bk=some (.at_ B n)∧F9 β r l'∧l=.pointer (some ⟨B,n.2+ic,none⟩)::l'
def BM (β:Env):Ch→List gq→Prop
 | .n k i,l=>l=[.int k i]∧has k i
 | .b x,l=>l=[.bool x]
 | .v x,l=>l=[x]∧okV x
 | .p bk ic,l=>∃ B n,β bk=some (.at_ B n)∧l=[.pointer (some ⟨B,n.2+ic,none⟩)]
 | .sl bk ic len cap,l=>(∃ B n,β bk=some (.at_ B n)∧l=[.slice (some ⟨B,n.2+ic,none⟩) len cap])∨(β bk=some .nil∧ic=0∧len=0∧cap=0∧l=[.slice none 0 0])∨(β bk=some .emp∧ic=0∧len=0∧cap=0∧∃ a m,l=[.slice (some a) 0 m])
 | .sx bk len sz,l=>(∃ B n cap,β bk=some (.at_ B (n,0))∧l=[.slice (some ⟨B,0,none⟩) len cap]∧len≤cap∧cap*sz≤n)∨(β bk=some .nil∧len=0∧l=[.slice none 0 0])
 | .num k x,l=>x<2^(64*k)∧l=words k x
 | .seq kd xs,l=>l=xs.map (.int kd)∧∀ x∈xs,has kd x
 | .clo f caps,l=>∃ ps,F9 β caps ps∧l=[.func (.func f) #[] ⟨ps⟩]
 | .mth f bk ic,l=>∃ B n,β bk=some (.at_ B n)∧l=[.func (.func f) ⟨[.agg ⟨[.pointer (some ⟨B,n.2+ic,none⟩)]⟩]⟩ ⟨[]⟩]
 | .yl bk,l=>∃ L n,β bk=some (.at_ L n)∧l=[.func (.yield L) ⟨[]⟩ ⟨[]⟩]
 | .mp bk,l=>∃ B,β bk=some (.at_ B (0,0))∧l=[.map (some B)]
 | .mk,l=>l=[.nilIface]
def AP (β:Env):List Ch→List gq→Prop
 | [],l=>l=[]
 | c::cs,l=>∃ l1 l2,BM β c l1∧AP β cs l2∧l=l1++l2
def Bt (β:Env):Bool→List Ch→gq→Prop
 | true,cs,u=>∃ l,AP β cs l∧u=.agg ⟨l⟩
 | false,cs,u=>AP β cs [u]
def F_ (β:Env):List (Bool×List Ch)→List gq→Prop
 | [],l=>l=[]
 | (g,cs)::r,l=>∃ u l',Bt β g cs u∧F_ β r l'∧l=u::l'
def AO (β:Env):AV→gq→Prop
 | .val g cs,u=>Bt β g cs u
 | .tup xs,u=>∃ us,F_ β xs us∧u=.tuple ⟨us⟩
 | .any,_=>True
def Jr:Nat:=4294967296
def nM (s:Nat) (es:List MapEntry) (l:List gq):Prop :=
 l=es.flatMap (fun e=>e.key::e.val.cells.toList)∧∀ e∈es,(∃ st,e.key=.string st)∧∃ c:List gq,e.val=.agg ⟨c⟩∧c.length=s
def Loc.out (b:ib):Loc→Prop
 | .at_ _ _=>False
 | .nil=>b.opn=true∨b.ty=Br
 | .emp=>b.opn=false∧b.ty=Br
def DK (β:Env) (blk:ib) (bk:Nat) (w:gn):Prop :=
 (∃ B n l t pre ty fz,β bk=some (.at_ B n)∧AP β blk.cs l∧w.heap[B]? = some (.cells ⟨pre++(l++t)⟩ ty fz)∧pre.length=n.2 ∧
  (blk.ty≠Br→pre=[]∧ty=blk.ty∧fz=(0,0)∧(blk.opn=false→t=[])∧(l++t).length=n.1∧(∀ v∈t,v.oneCell'=true))) ∨
 (∃ X,β bk=some X∧X.out blk∧AP β blk.cs []) ∨
 (∃ B l es clock,β bk=some (.at_ B (0,0))∧Jr≤blk.ty∧AP β blk.cs (.nilIface::l)∧w.heap[B]? = some (.map es clock)∧nM (blk.ty-Jr) es.toList l)
theorem Zy {β:Env} {blk:ib} {bk B n:Nat} {l t:List gq} {w:gn} (h1:β bk=some (.at_ B (n,0))) (h2:AP β blk.cs l) (h3:w.heap[B]? = some (.cells ⟨l++t⟩ blk.ty (0,0))) (h4:blk.opn=false→t=[]) (h5:(l++t).length=n)
  (h6:∀ v∈t,v.oneCell'=true):DK β blk bk w :=
 .inl ⟨B,(n,0),l,t,[],blk.ty,(0,0),h1,h2,h3,rfl,fun _=>⟨rfl,rfl,rfl,h4,h5,h6⟩⟩
theorem ACX {β:Env} {blk:ib} {bk:Nat} {w:gn} (h:DK β blk bk w) (ht:blk.ty<Jr) :
  (∃ B n l t pre ty fz,β bk=some (.at_ B n)∧AP β blk.cs l∧w.heap[B]? = some (.cells ⟨pre++(l++t)⟩ ty fz)∧pre.length=n.2 ∧
  (blk.ty≠Br→pre=[]∧ty=blk.ty∧fz=(0,0)∧(blk.opn=false→t=[])∧(l++t).length=n.1∧(∀ v∈t,v.oneCell'=true))) ∨
  (∃ X,β bk=some X∧X.out blk∧AP β blk.cs []):=by
 rcases h with h | h | ⟨_,_,_,_,_,h,_⟩
 ·exact .inl h
 ·exact .inr h
 ·exact absurd h (Nat.not_le.2 ht)
theorem ANj {β:Env} {blk:ib} {bk:Nat} {w:gn} (h:DK β blk bk w) (he:β bk=some .emp):blk.opn=false∧blk.ty=Br:=by
 rcases h with ⟨B,n,l,t,pre,ty,fz,h1,_⟩ | ⟨X,h1,h2,_⟩ | ⟨B,l,es,q,h1,_⟩
 ·rw [he] at h1;cases h1
 ·rw [he] at h1;injection h1 with h1;subst h1;exact h2
 ·rw [he] at h1;cases h1
theorem Q0 {β:Env} {blk:ib} {bk:Nat} {w:gn} (h:DK β blk bk w) (hr:blk.ty<Br) :
  (∃ B n l t,β bk=some (.at_ B (n,0))∧AP β blk.cs l∧w.heap[B]? = some (.cells ⟨l++t⟩ blk.ty (0,0))∧(blk.opn=false→t=[])∧(l++t).length=n∧(∀ v∈t,v.oneCell'=true))∨(β bk=some .nil∧blk.opn=true∧AP β blk.cs []):=by
 rcases ACX h (nl hr dp) with ⟨B,n,l,t,pre,ty,fz,h1,h2,h3,h4,h5⟩ | ⟨X,h1,h2,h3⟩
 ·obtain ⟨rfl,rfl,rfl,e4,e5,e6⟩:=h5 (Nat.ne_of_lt hr)
  have hn:n=(n.1,0):=by rw [show (0:Nat)=n.2 from h4]
  exact .inl ⟨B,n.1,l,t,by rw [← hn];exact h1,h2,h3,e4,e5,e6⟩
 ·cases X with
  | at_=>exact h2.elim
  | nil=>exact .inr ⟨h1,Or.resolve_right h2 (Nat.ne_of_lt hr),h3⟩
  | emp=>exact absurd h2.2 (Nat.ne_of_lt hr)
def Env.le (β β':Env):Prop:=∀ b B,β b=some B→β' b=some B
theorem Env.le_refl (β:Env):Env.le β β:=fun _ _ h=>h
theorem Env.le_trans {a b c:Env} (h:Env.le a b) (k:Env.le b c):Env.le a c:=fun x X e=>k x X (h x X e)
section
variable {β β':Env} (hm:Env.le β β')
include hm
theorem nN:∀ {r:List (Nat×Nat)} {l:List gq},F9 β r l→F9 β' r l
 | [],_,h=>h
 | (_,_)::_,_,⟨B,n,l',h1,h2,h3⟩=>⟨B,n,l',hm _ _ h1,nN h2,h3⟩
theorem ACY {c:Ch} {l:List gq} (h:BM β c l):BM β' c l:=by
 cases c<;>simp only [BM] at h ⊢
 case n=>exact h
 case b=>exact h
 case v=>exact h
 case p=>obtain ⟨B,n,h1,h2⟩:=h;exact ⟨B,n,hm _ _ h1,h2⟩
 case sl =>
  rcases h with ⟨B,n,h1,h2⟩ | ⟨h1,h2⟩ | ⟨h1,h2⟩
  ·exact .inl ⟨B,n,hm _ _ h1,h2⟩
  ·exact .inr (.inl ⟨hm _ _ h1,h2⟩)
  ·exact .inr (.inr ⟨hm _ _ h1,h2⟩)
 case sx =>
  rcases h with ⟨B,n,cap,h1,h2⟩ | ⟨h1,h2⟩
  ·exact .inl ⟨B,n,cap,hm _ _ h1,h2⟩
  ·exact .inr ⟨hm _ _ h1,h2⟩
 case num=>exact h
 case seq=>exact h
 case clo=>obtain ⟨ps,h1,h2⟩:=h;exact ⟨ps,nN hm h1,h2⟩
 case mth=>obtain ⟨B,n,h1,h2⟩:=h;exact ⟨B,n,hm _ _ h1,h2⟩
 case yl=>obtain ⟨B,n,h1,h2⟩:=h;exact ⟨B,n,hm _ _ h1,h2⟩
 case mp=>obtain ⟨B,h1,h2⟩:=h;exact ⟨B,hm _ _ h1,h2⟩
 case mk=>exact h
theorem I1:∀ {cs:List Ch} {l:List gq},AP β cs l→AP β' cs l
 | [],_,h=>h
 | _::_,_,⟨l1,l2,h1,h2,h3⟩=>⟨l1,l2,ACY hm h1,I1 h2,h3⟩
theorem ACZ {g:Bool} {cs:List Ch} {u:gq} (h:Bt β g cs u):Bt β' g cs u:=by
 cases g
 ·exact I1 hm h
 ·obtain ⟨l,h1,h2⟩:=h;exact ⟨l,I1 hm h1,h2⟩
theorem ACa:∀ {xs:List (Bool×List Ch)} {l:List gq},F_ β xs l→F_ β' xs l
 | [],_,h=>h
 | (_,_)::_,_,⟨u,l',h1,h2,h3⟩=>⟨u,l',ACZ hm h1,ACa h2,h3⟩
theorem HI {x:AV} {u:gq} (h:AO β x u):AO β' x u:=by
 cases x with
 | val g cs=>exact ACZ hm h
 | tup xs=>obtain ⟨us,h1,h2⟩:=h;exact ⟨us,ACa hm h1,h2⟩
 | any=>trivial
theorem Zz {blk:ib} {bk:Nat} {w:gn} (h:DK β blk bk w):DK β' blk bk w:=by
 rcases h with ⟨B,n,l,t,pre,ty,fz,h1,h2,h3⟩ | ⟨X,h1,h2,h3⟩ | ⟨B,l,es,q,h1,h2,h3,h4⟩
 ·exact .inl ⟨B,n,l,t,pre,ty,fz,hm _ _ h1,I1 hm h2,h3⟩
 ·exact .inr (.inl ⟨X,hm _ _ h1,h2,I1 hm h3⟩)
 ·exact .inr (.inr ⟨B,l,es,q,hm _ _ h1,h2,I1 hm h3,h4⟩)
end
def E9:Ch→Nat
 | .num k _=>k
 | .seq _ l=>l.length
 | _=>1
def MF:List Ch→Nat
 | []=>0
 | c::cs=>E9 c+MF cs
theorem MG (k x:Nat):(words k x).length=k:=by simp [words]
theorem Q1 {β:Env} {c:Ch} {l:List gq} (h:BM β c l):l.length=E9 c:=by
 cases c<;>simp only [BM] at h<;>simp only [E9]
 case n=>simp [h.1]
 case b=>simp [h]
 case v=>simp [h.1]
 case p=>obtain ⟨B,n,_,rfl⟩:=h;rfl
 case sl=>rcases h with ⟨B,n,_,rfl⟩ | ⟨_,_,_,_,rfl⟩ | ⟨_,_,_,_,_,_,rfl⟩<;>rfl
 case sx=>rcases h with ⟨B,n,cap,_,rfl,_⟩ | ⟨_,_,rfl⟩<;>rfl
 case num=>rw [h.2,MG]
 case seq=>simp [h.1]
 case clo=>obtain ⟨ps,_,rfl⟩:=h;rfl
 case mth=>obtain ⟨B,n,_,rfl⟩:=h;rfl
 case yl=>obtain ⟨B,n,_,rfl⟩:=h;rfl
 case mp=>obtain ⟨B,_,rfl⟩:=h;rfl
 case mk=>simp [h]
theorem Tv {β:Env}:∀ {cs:List Ch} {l:List gq},AP β cs l→l.length=MF cs
 | [],l,h=>by simp only [AP] at h;simp [h,MF]
 | c::cs,l,⟨l1,l2,h1,h2,h3⟩=>by simp [h3,MF,Q1 h1,Tv h2]
theorem PA {β:Env}:∀ {a b:List Ch} {x y:List gq},AP β a x→AP β b y→AP β (a++b) (x++y)
 | [],_,_,_,h,k=>by simp only [AP] at h;simpa [h] using k
 | c::a,b,x,y,⟨l1,l2,h1,h2,h3⟩,k=>⟨l1,l2++y,h1,PA h2 k,by simp [h3]⟩
theorem Z0 (x i:Nat):has .u64 (AE x i):=by
 have h1:x / 2^(64*i) % 2^64<2^64:=ki _ dp
 simp only [has,AE,IntKind.min,IntKind.max,IntKind.signed,IntKind.bits];simp at h1 ⊢
 omega
theorem Z1 {β:Env} (x:Nat):∀ (is:List Nat),AP β (is.map fun i=>Ch.v (.int .u64 (AE x i))) (is.map fun i=>Value.int .u64 (AE x i))
 | []=>rfl
 | i::is=>⟨[_],_,⟨rfl,rfl,Z0 x i⟩,Z1 x is,rfl⟩
theorem ANk {β:Env} (k x:Nat):AP β (NT k x) (words k x):=Z1 x _
def F':List Ch→Nat→Option (List Ch×List Ch)
 | [],m=>match m with | 0=>some ([],[]) | _=>none
 | c::cs,m=>match m with
  | 0=>some ([],c::cs)
  | m'+1=>match Nat.ble (E9 c) (m'+1) with
   | true=>match F' cs (m'+1-E9 c) with
    | some (a,r)=>some (c::a,r)
    | none=>none
   | false=>match c with
    | .num k x=>some ((NT k x).take (m'+1),(NT k x).drop (m'+1)++cs)
    | .seq kd l=>some ([.seq kd (l.take (m'+1))],.seq kd (l.drop (m'+1))::cs)
    | _=>none
theorem ANl {β:Env} (k x m:Nat):AP β ((NT k x).take m) ((words k x).take m)∧AP β ((NT k x).drop m) ((words k x).drop m):=by
 unfold NT words;rw [← sh,← sh,← th,← th];exact ⟨Z1 x _,Z1 x _⟩
theorem I2 {β:Env}:∀ {cs:List Ch} {m:Nat} {a r:List Ch} {l:List gq},F' cs m=some (a,r)→AP β cs l →
  AP β a (l.take m)∧AP β r (l.drop m)∧m≤l.length
 | [],m,a,r,l,h,hl=>by
  simp only [AP] at hl;subst hl;cases m with
  | zero=>simp [F'] at h;obtain ⟨rfl,rfl⟩:=h;simp [AP]
  | succ m=>simp [F'] at h
 | c::cs,m,a,r,l,h,hl=>by
  cases m with
  | zero=>simp [F'] at h;obtain ⟨rfl,rfl⟩:=h;exact ⟨by simp [AP],by simpa using hl,qt _⟩
  | succ m =>
   obtain ⟨l1,l2,h1,h2,rfl⟩:=hl;have hz:=Q1 h1;simp only [F'] at h;cases hb:Nat.ble (E9 c) (m+1) with
   | true =>
    have je:=jp hb;simp only [hb] at h;split at h
    ·rename_i a' r' hs;simp only [ke,kp] at h;obtain ⟨rfl,rfl⟩:=h;obtain ⟨i1,i2,i3⟩:=I2 hs h2;refine ⟨⟨l1,_,h1,i1,?_⟩,?_,?_⟩
     ·rw [List.take_append,hz,oi dn]
     ·rw [List.drop_append,hz,rj dn,oh];exact i2
     ·simp;omega
    ·cases h
   | false =>
    have jb:m+1<E9 c:=by
     rcases kf (m+1) (E9 c) with h' | h'
     ·exact h'
     ·rw [jr h'] at hb;cases hb
    simp only [hb] at h;split at h
    ·rename_i k x;simp only [ke,kp] at h;obtain ⟨rfl,rfl⟩:=h;simp only [BM] at h1;obtain ⟨_,rfl⟩:=h1;simp only [E9] at jb;obtain ⟨j1,j2⟩:=ANl (β:=β) k x (m+1)
     refine ⟨?_,?_,?_⟩
     ·rw [t_ (by rw [MG];omega)];exact j1
     ·rw [tz (by rw [MG];omega)];exact PA j2 h2
     ·simp [MG];omega
    ·rename_i kd xs;simp only [ke,kp] at h;obtain ⟨rfl,rfl⟩:=h;simp only [BM] at h1;obtain ⟨rfl,hx⟩:=h1;simp only [E9] at jb;refine ⟨?_,?_,?_⟩
     ·rw [t_ (by simp;omega),← sh]
      exact ⟨_,[],⟨rfl,fun x h=>hx x (qh h)⟩,rfl,by simp⟩
     ·rw [tz (by simp;omega),← th]
      exact ⟨_,_,⟨rfl,fun x h=>hx x (pn h)⟩,h2,rfl⟩
     ·simp;omega
    ·cases h
def MI (cs:List Ch) (ic sz:Nat):Option (List Ch) :=
 match F' cs ic with
 | some (_,r)=>match F' r sz with
  | some (m,_)=>some m
  | none=>none
 | none=>none
theorem Tw {β:Env} {cs m:List Ch} {ic sz:Nat} {l:List gq} (h:MI cs ic sz=some m) (hl:AP β cs l) :
  AP β m ((l.drop ic).take sz)∧ic+sz≤l.length:=by
 unfold MI at h;split at h
 ·rename_i a r h1;split at h
  ·rename_i m' t h2;injection h with h;subst h;obtain ⟨_,i2,i3⟩:=I2 h1 hl;obtain ⟨j1,_,j3⟩:=I2 h2 i2;refine ⟨j1,?_⟩
   simp at j3;omega
  ·cases h
 ·cases h
def Wp (cs:List Ch) (ic sz:Nat) (new:List Ch):Option (List Ch) :=
 match F' cs ic with
 | some (a,r)=>match F' r sz with
  | some (_,t)=>some (a++(new++t))
  | none=>none
 | none=>none
theorem nO {β:Env} {cs m new:List Ch} {ic sz:Nat} {l ln:List gq} (h:Wp cs ic sz new=some m) (hl:AP β cs l) (hn:AP β new ln) :
  AP β m (l.take ic++ln++l.drop (ic+sz))∧ic+sz≤l.length:=by
 unfold Wp at h;split at h
 ·rename_i a r h1;split at h
  ·rename_i m' t h2;injection h with h;subst h;obtain ⟨i1,i2,i3⟩:=I2 h1 hl;obtain ⟨_,j2,j3⟩:=I2 h2 i2;refine ⟨?_,?_⟩
   ·rw [ol];exact PA i1 (PA hn (by rw [od] at j2;exact j2))
   ·simp at j3;omega
  ·cases h
 ·cases h
def AF:Heap→Nat→Option ib
 | [],_=>none
 | (k,x)::r,b=>match Nat.beq k b with | true=>x | false=>AF r b
def I3:Heap→Nat→Option ib→Heap
 | [],b,y=>[(b,y)]
 | (k,x)::r,b,y=>match Nat.beq k b with | true=>(k,y)::r | false=>(k,x)::I3 r b y
theorem Ar {a b:Nat}:Nat.beq a b=true↔a=b:=by rw [Nat.beq_eq]
theorem I4 {a b:Nat} (h:Nat.beq a b=false):a≠b:=fun e=>by rw [Ar.2 e] at h;cases h
theorem GA {a b:Nat} (h:a≠b):Nat.beq a b=false:=by
 cases hb:Nat.beq a b
 ·rfl
 ·exact absurd (Ar.1 hb) h
theorem ANm (H:Heap) (b:Nat) (y:Option ib):AF (I3 H b y) b=y:=by
 induction H with
 | nil=>simp [I3,AF]
 | cons e r ih =>
  obtain ⟨k,x⟩:=e;simp only [I3];cases hk:Nat.beq k b with
  | true=>simp [AF,hk]
  | false=>simp [AF,hk,ih]
theorem ANn (H:Heap) (b c:Nat) (y:Option ib) (h:b≠c):AF (I3 H b y) c=AF H c:=by
 induction H with
 | nil=>simp [I3,AF,GA h]
 | cons e r ih =>
  obtain ⟨k,x⟩:=e;simp only [I3];cases hk:Nat.beq k b with
  | true =>
   have:=Ar.1 hk
   subst this;simp [AF,GA h]
  | false =>
   simp only [AF,ih]
def GB (H:Heap) (u:Heap):Heap:=match u with
 | []=>H
 | (b,y)::r=>GB (I3 H b y) r
def MJ (H:Heap) (b:Nat):Option ib:=match AF H b with
 | some blk=>match Nat.blt blk.ty Jr with
  | true=>some blk
  | false=>none
 | none=>none
theorem ACb {H:Heap} {b:Nat} {blk:ib} (h:MJ H b=some blk):AF H b=some blk∧blk.ty<Jr:=by
 unfold MJ at h;split at h
 ·rename_i x hx;split at h
  ·rename_i ht;injection h with h;subst h;exact ⟨hx,jp ht⟩
  ·cases h
 ·cases h
def IQ:List Ch→Bool
 | []=>true
 | .mk::_=>false
 | .v y::r=>match y with
  | .nilIface=>false
  | _=>IQ r
 | _::r=>IQ r
theorem Z2 {β:Env}:∀ {cs:List Ch} {l:List gq},IQ cs=true→AP β cs l→.nilIface ∉ l
 | [],l,_,h,hm=>by simp only [AP] at h;subst h;cases hm
 | c::cs,l,hw,⟨l1,l2,h1,h2,h3⟩,hm=>by
  rw [h3,j_] at hm;have key:IQ cs=true∧.nilIface ∉ l1:=by
   cases c<;>simp only [BM] at h1
   case n=>rw [h1.1];exact ⟨hw,by simp⟩
   case b=>rw [h1];exact ⟨hw,by simp⟩
   case v y =>
    rw [h1.1];cases y<;>first | exact ⟨hw,by simp⟩ | cases hw
   case p=>obtain ⟨B,n,_,rfl⟩:=h1;exact ⟨hw,by simp⟩
   case sl=>rcases h1 with ⟨B,n,_,rfl⟩ | ⟨_,_,_,_,rfl⟩ | ⟨_,_,_,_,_,_,rfl⟩<;>exact ⟨hw,by simp⟩
   case sx=>rcases h1 with ⟨B,n,cap,_,rfl,_⟩ | ⟨_,_,rfl⟩<;>exact ⟨hw,by simp⟩
   case num=>rw [h1.2];exact ⟨hw,by simp [words]⟩
   case seq=>rw [h1.1];exact ⟨hw,by simp⟩
   case clo=>obtain ⟨ps,_,rfl⟩:=h1;exact ⟨hw,by simp⟩
   case mth=>obtain ⟨B,n,_,rfl⟩:=h1;exact ⟨hw,by simp⟩
   case yl=>obtain ⟨B,n,_,rfl⟩:=h1;exact ⟨hw,by simp⟩
   case mp=>obtain ⟨B,_,rfl⟩:=h1;exact ⟨hw,by simp⟩
   case mk=>cases hw
  exact hm.elim key.2 (Z2 key.1 h2)
def ANo (β:Env) (H:Heap) (w:gn):Prop:=∀ b blk,AF H b=some blk→DK β blk b w
end Go.Proofs.YtgnajdcdcblaoaaGreat.Ex
namespace Go.Proofs.YtgnajdcdcblaoaaGreat
abbrev du:=List (Bool×Bool)
abbrev gr:=Go.Program
end Go.Proofs.YtgnajdcdcblaoaaGreat
namespace Go.Proofs.YtgnajdcdcblaoaaGreat.Ex
structure R where
 val:AV
 upd:Heap
 nw:Nat
 conds:du
 ie:List Bool
def AM:du→Prop
 | []=>True
 | (x,d)::r=>x=d∧AM r
theorem Bz:∀ {a b:du},AM (a++b)↔AM a∧AM b
 | [],b=>by simp [AM]
 | (x,d)::a,b=>by simp [AM,Bz (a:=a),and_assoc]
def CK (x:AV) (ie:List Bool):R:=⟨x,[],0,[],ie⟩
structure Eff (β:Env) (fr:Nat) (r:R) (w:gn) (u:gq) (w':gn) (β':Env):Prop where
 ext:Env.le β β'
 new:∀ b X,β' b=some X→β b=some X∨(fr≤b∧b<fr+r.nw∧∀ B n,X=.at_ B n→w.heap.size≤B∨∃ k m,(k,none)∈r.upd∧β k=some (.at_ B m))
 lt:∀ b B n,β' b=some (.at_ B n)→B<w'.heap.size
 inj:∀ b b' B n n',fr≤b→fr≤b'→b<fr+r.nw→b'<fr+r.nw→β' b=some (.at_ B n)→β' b'=some (.at_ B n')→b=b'
 val:AO β' r.val u
 upd:∀ k y,(k,some y)∈r.upd→DK β' y k w'
 frame:∀ B,B<w.heap.size→(∀ k y n,(k,y)∈r.upd→β k≠some (.at_ B n))→w'.heap[B]? = w.heap[B]?
 size:w.heap.size≤w'.heap.size
 os:w'.os=w.os
 tape:w'.tape=w.tape
 output:w'.output=w.output
def GT (H:Heap) (b:Nat):Bool:=match AF H b with | some blk=>!Nat.beq blk.ty Br | none=>false
theorem GU {H:Heap} {b:Nat} (h:GT H b=true):∃ blk,AF H b=some blk∧blk.ty≠Br:=by
 unfold GT at h;split at h
 ·rename_i blk hb;exact ⟨blk,hb,fun e=>by rw [e] at h;cases h⟩
 ·cases h
theorem GC {H:Heap} {b:Nat} {blk:ib} (h:AF H b=some blk) (hr:blk.ty≠Br):GT H b=true:=by
 unfold GT;rw [h];simp only [GA hr];rfl
theorem Wq {H:Heap} {b:Nat} (h:GT H b=true):(AF H b).isSome=true:=by
 obtain ⟨blk,hb,_⟩:=GU h;rw [hb];rfl
theorem ACc {H H':Heap} {b:Nat} (h:AF H b=AF H' b):GT H b=GT H' b:=by unfold GT;rw [h]
structure Good (β:Env) (H:Heap) (w:gn):Prop where
 heap:ANo β H w
 inj:∀ b b' B n n',GT H b=true→(AF H b').isSome=true→β b=some (.at_ B n)→β b'=some (.at_ B n')→b=b'
 lt:∀ b B n,β b=some (.at_ B n)→B<w.heap.size
theorem Good.cells {β:Env} {H:Heap} {w:gn} (g:Good β H w) {b:Nat} {blk:ib} (h:MJ H b=some blk) :
  (∃ B n l t pre ty fz,β b=some (.at_ B n)∧AP β blk.cs l∧w.heap[B]? = some (.cells ⟨pre++(l++t)⟩ ty fz)∧pre.length=n.2 ∧
  (blk.ty≠Br→pre=[]∧ty=blk.ty∧fz=(0,0)∧(blk.opn=false→t=[])∧(l++t).length=n.1∧(∀ v∈t,v.oneCell'=true))) ∨
  (∃ X,β b=some X∧X.out blk∧AP β blk.cs []):=ACX (g.heap _ _ (ACb h).1) (ACb h).2
theorem Eff.pure_ {β:Env} {fr:Nat} {x:AV} {ie:List Bool} {c:du} {H:Heap} {w:gn} {u:gq} (g:Good β H w) (h:AO β x u) :
  Eff β fr ⟨x,[],0,c,ie⟩ w u w β where
 ext:=Env.le_refl β
 new:=fun _ _ h=>.inl h
 lt:=g.lt
 inj:=fun b b' _ _ _ h1 _ h3=>by simp at h3;omega
 val:=h
 upd:=fun _ _ h=>by cases h
 frame:=fun _ _ _=>rfl
 size:=ju _
 os:=rfl
 tape:=rfl
 output:=rfl
def Env.put (β:Env) (b:Nat) (X:Loc):Env:=fun x=>if x=b then some X else β x
theorem Env.put_same (β:Env) (b:Nat) (X:Loc):β.put b X b=some X:=by simp [Env.put]
theorem Env.le_put {β:Env} {b:Nat} (X:Loc) (h:β b=none):Env.le β (β.put b X):=fun x Y e=>by
 unfold Env.put;split
 ·rename_i hx;subst hx;rw [h] at e;cases e
 ·exact e
theorem Eff.new_ {β:Env} {fr n:Nat} {x:AV} {ie:List Bool} {c:du} {H:Heap} {w:gn} {u:gq} {ty:gt} {cs:List Ch} {l:List gq}
  (g:Good β H w) (hf:β fr=none) (hl:AP β cs l) (hn:l.length=n) (h:AO (β.put fr (.at_ w.heap.size (n,0))) x u) :
  Eff β fr ⟨x,[(fr,some ⟨ty,cs,false⟩)],1,c,ie⟩ w u (w.alloc (.cells ⟨l⟩ ty)) (β.put fr (.at_ w.heap.size (n,0))) where
 ext:=Env.le_put _ hf
 new:=fun b X k=>by
  unfold Env.put at k;split at k
  ·rename_i hb;subst hb;injection k with k;subst k;exact .inr ⟨ju _,by simp,fun B n e=>by injection e with e1 e2;subst e1;exact .inl (ju _)⟩
  ·exact .inl k
 lt:=fun b B m k=>by
  unfold Env.put at k;split at k
  ·injection k with k;injection k with k _;subst k;simp
  ·have:=g.lt _ _ _ k;simp;omega
 inj:=fun b b' _ _ _ h1 h2 h3 h4 _ _=>by simp at h3 h4;omega
 val:=h
 upd:=fun k y hy=>by
  simp only [l_,kp,ke] at hy;obtain ⟨rfl,rfl⟩:=hy;exact Zy (l:=l) (t:=[]) (Env.put_same ..) (I1 (Env.le_put _ hf) hl) (by show (w.heap.push _)[w.heap.size]? = _;simp) (fun _=>rfl) (by simpa using hn) (by simp)
 frame:=fun B hB _=>by
  show (w.heap.push _)[B]? = _;rw [tq,jn dn]
 size:=by simp
 os:=rfl
 tape:=rfl
 output:=rfl
theorem Eff.write {β:Env} {fr:Nat} {x:AV} {ie:List Bool} {c:du} {H:Heap} {w:gn} {u:gq} {ty:gt} {bk B n:Nat} {cs:List Ch} {l t l0:List gq} {opn:Bool}
  (g:Good β H w) (hb:β bk=some (.at_ B (n,0))) (ho:w.heap[B]? = some (.cells ⟨l0⟩ ty (0,0))) (hl:AP β cs l) (ht:opn=false→t=[]) (hn:(l++t).length=n) (h1:∀ v∈t,v.oneCell'=true) (h:AO β x u) :
  Eff β fr ⟨x,[(bk,some ⟨ty,cs,opn⟩)],0,c,ie⟩ w u (w.setRow B ⟨l++t⟩) β where
 ext:=Env.le_refl β
 new:=fun _ _ h=>.inl h
 lt:=fun b B' m h=>by have:=g.lt _ _ _ h;simpa [World.setRow] using this
 inj:=fun b b' _ _ _ h1 _ h3=>by simp at h3;omega
 val:=h
 upd:=fun k y hy=>by
  simp only [l_,kp,ke] at hy;obtain ⟨rfl,rfl⟩:=hy;exact Zy hb hl (setRow_heap w B ⟨l0⟩ _ ty (0,0) ho) ht hn h1
 frame:=fun B' hB jd=>by
  have:B'≠B:=fun e=>jd _ _ (n,0) (l_.2 rfl) (by rw [e];exact hb)
  simp only [World.setRow,tr];rw [jn dn]
 size:=by simp [World.setRow]
 os:=rfl
 tape:=rfl
 output:=rfl
def AK (k:IntKind) (n:Int):Bool :=
 match k with
 | .u64=>decide (0≤n)&&decide (n≤18446744073709551615)
 | .i64=>decide (-9223372036854775808≤n)&&decide (n≤9223372036854775807)
 | .u8=>decide (0≤n)&&decide (n≤255)
 | .u32=>decide (0≤n)&&decide (n≤4294967295)
 | .i32=>decide (-2147483648≤n)&&decide (n≤2147483647)
 | .u16=>decide (0≤n)&&decide (n≤65535)
 | .i16=>decide (-32768≤n)&&decide (n≤32767)
 | .i8=>decide (-128≤n)&&decide (n≤127)
theorem FX (k:IntKind) (n:Int):has k n↔AK k n=true:=by
 cases k<;>simp [has,AK,IntKind.min,IntKind.max,IntKind.signed,IntKind.bits]
theorem K4 (k:IntKind) (n:Int):has k (k.wrap n):=by
 rw [FX];cases k<;>simp only [IntKind.wrap,IntKind.signed,IntKind.bits,AK]<;>simp<;>(try split)<;>omega
def Wr (x:gq):Option Ch :=
 match x with
 | .int k i=>match AK k i with | true=>some (.n k i) | false=>none
 | .bool y=>some (.b y)
 | .agg _ | .tuple _=>none
 | .pointer p=>some (.v (.pointer p))
 | .slice a l c=>some (.v (.slice a l c))
 | .string s=>some (.v (.string s))
 | .nilFunc=>some (.v .nilFunc)
 | .nilIface=>some (.v .nilIface)
 | .map m=>some (.v (.map m))
 | .func f a c=>some (.v (.func f a c))
 | _=>none
theorem ACd {β:Env} {x:gq} {c:Ch} (h:Wr x=some c):BM β c [x]:=by
 cases x<;>simp only [Wr] at h
 case int k i =>
  split at h
  ·rename_i hh;injection h with h;subst h;exact ⟨rfl,(FX _ _).2 hh⟩
  ·cases h
 case bool=>injection h with h;subst h;rfl
 all_goals first
  | (injection h with h;subst h;exact ⟨rfl,rfl,trivial⟩)
  | cases h
def NU:List gq→Option (List Ch)
 | []=>some []
 | x::xs=>match Wr x,NU xs with
  | some c,some cs=>some (c::cs)
  | _,_=>none
theorem Tx {β:Env}:∀ {xs:List gq} {cs:List Ch},NU xs=some cs→AP β cs xs
 | [],cs,h=>by simp [NU] at h;subst h;rfl
 | x::xs,cs,h=>by
  simp only [NU] at h;split at h
  ·rename_i c cs' h1 h2;injection h with h;subst h;exact ⟨[x],xs,ACd h1,Tx h2,rfl⟩
  ·cases h
def Q2 (x:gq):Option AV :=
 match x with
 | .agg cs=>match NU cs.toList with | some l=>some (.val true l) | none=>none
 | .tuple cs=>match cs.toList with | []=>some (.tup []) | _=>none
 | x=>match Wr x with | some c=>some (.val false [c]) | none=>none
theorem Z3 {β:Env} {x:gq} {A:AV} (h:Q2 x=some A):AO β A x:=by
 have scal:∀ y,(match Wr y with | some c=>some (AV.val false [c]) | none=>none)=some A→AO β A y:=by
  intro y h;split at h
  ·rename_i c hc;injection h with h;subst h;exact ⟨[y],[],ACd hc,rfl,rfl⟩
  ·cases h
 cases x;case agg cs =>
  simp only [Q2] at h;split at h
  ·rename_i l hl;injection h with h;subst h;exact ⟨cs.toList,Tx hl,rfl⟩
  ·cases h
 case tuple cs =>
  simp only [Q2] at h;split at h
  ·rename_i hl;injection h with h;subst h;exact ⟨[],rfl,by rw [← hl]⟩
  ·cases h
 all_goals exact scal _ h
def B5 (τ:Nat→AV):Operand→Option AV
 | .tmp t=>some (τ t)
 | .const x=>Q2 x
 | .func f=>some (.val false [.v (.func (.func f) #[] #[])])
 | .global _=>none
theorem I5 {β:Env} {τ:Nat→AV} {a:Act} (ht:∀ t,AO β (τ t) (a.tmps.getD t undef)) {x:Operand} {A:AV} (h:B5 τ x=some A):AO β A (a.eval x):=by
 cases x<;>simp only [B5] at h
 case tmp t=>injection h with h;subst h;exact ht t
 case const v=>exact Z3 h
 case func f=>injection h with h;subst h;exact ⟨[_],[],⟨rfl,rfl,trivial⟩,rfl,rfl⟩
 case global=>cases h
theorem A5 {β:Env} {c:Ch} {u:gq} (h:Bt β false [c] u):BM β c [u]:=by
 obtain ⟨l1,l2,h1,h2,h3⟩:=h;simp only [AP] at h2;subst h2;rw [lh] at h3;rw [h3];exact h1
theorem Az {β:Env} {c:Ch} {u:gq} (h:BM β c [u]):Bt β false [c] u:=⟨[u],[],h,rfl,rfl⟩
theorem Ty {β:Env} {g:Bool} {cs:List Ch} {u:gq} (h:Bt β g cs u):AP β cs u.cells.toList:=by
 cases g
 ·have hl:=h;simp only [Bt] at hl;have hc:u.cells=#[u]∨∃ x,u=.agg x:=by cases u<;>simp [Value.cells]
  rcases hc with hc | ⟨x,rfl⟩
  ·rw [hc];exact hl
  ·exfalso
   clear h;have:∀ (cs:List Ch) (l:List gq),AP β cs l→.agg x ∉ l:=by
    intro cs;induction cs with
    | nil=>intro l h;simp only [AP] at h;simp [h]
    | cons c cs ih =>
     intro l ⟨l1,l2,h1,h2,h3⟩ hm
     rw [h3,j_] at hm;rcases hm with hm | hm
     ·cases c<;>simp only [BM] at h1
      case n=>rw [h1.1] at hm;simp at hm
      case b=>rw [h1] at hm;simp at hm
      case v y=>rw [h1.1] at hm;simp at hm;subst hm;exact absurd h1.2.1 (by simp [Value.oneCell'])
      case p=>obtain ⟨B,n,_,rfl⟩:=h1;simp at hm
      case sl=>rcases h1 with ⟨B,n,_,rfl⟩ | ⟨_,_,_,_,rfl⟩ | ⟨_,_,_,_,_,_,rfl⟩<;>simp at hm
      case sx=>rcases h1 with ⟨B,n,cap,_,rfl,_⟩ | ⟨_,_,rfl⟩<;>simp at hm
      case num=>rw [h1.2] at hm;simp [words] at hm
      case seq=>rw [h1.1] at hm;simp at hm
      case clo=>obtain ⟨B,_,rfl⟩:=h1;simp at hm
      case mth=>obtain ⟨B,n,_,rfl⟩:=h1;simp at hm
      case yl=>obtain ⟨B,n,_,rfl⟩:=h1;simp at hm
      case mp=>obtain ⟨B,_,rfl⟩:=h1;simp at hm
      case mk=>rw [h1] at hm;simp at hm
     ·exact ih _ h2 hm
   exact this _ _ hl (by simp)
 ·obtain ⟨l,h1,rfl⟩:=h;exact h1
theorem Tz {β:Env}:∀ {cs:List Ch} {l:List gq},AP β cs l→∀ v∈l,v.oneCell'=true
 | [],l,h,v,hv=>by simp only [AP] at h;subst h;cases hv
 | c::cs,l,⟨l1,l2,h1,h2,h3⟩,v,hv=>by
  rw [h3,j_] at hv;rcases hv with hm | hm
  ·cases c<;>simp only [BM] at h1
   case n=>rw [h1.1] at hm;simp at hm;subst hm;rfl
   case b=>rw [h1] at hm;simp at hm;subst hm;rfl
   case v y=>rw [h1.1] at hm;simp at hm;subst hm;exact h1.2.1
   case p=>obtain ⟨B,n,_,rfl⟩:=h1;simp at hm;subst hm;rfl
   case sl=>rcases h1 with ⟨B,n,_,rfl⟩ | ⟨_,_,_,_,rfl⟩ | ⟨_,_,_,_,_,_,rfl⟩<;>(simp at hm;subst hm;rfl)
   case sx=>rcases h1 with ⟨B,n,cap,_,rfl,_⟩ | ⟨_,_,rfl⟩<;>(simp at hm;subst hm;rfl)
   case num=>rw [h1.2] at hm;simp [words] at hm;obtain ⟨i,_,rfl⟩:=hm;rfl
   case seq=>rw [h1.1] at hm;simp at hm;obtain ⟨i,_,rfl⟩:=hm;rfl
   case clo=>obtain ⟨B,_,rfl⟩:=h1;simp at hm;subst hm;rfl
   case mth=>obtain ⟨B,n,_,rfl⟩:=h1;simp at hm;subst hm;rfl
   case yl=>obtain ⟨B,n,_,rfl⟩:=h1;simp at hm;subst hm;rfl
   case mp=>obtain ⟨B,_,rfl⟩:=h1;simp at hm;subst hm;rfl
   case mk=>rw [h1] at hm;simp at hm;subst hm;rfl
  ·exact Tz h2 v hm
section ops
variable {P:gr} {β:Env} {H:Heap} {w:gn}
def nP (P:gr) (t:gt) (fr:Nat) (ie:List Bool):Option R :=
 match P.info? t with
 | some i=>match i.zero with
  | some z=>match Q2 z with
   | some (.val _ cs)=>some ⟨.val false [.p fr 0],[(fr,some ⟨t,cs,false⟩)],1,[],ie⟩
   | _=>none
  | none=>none
 | none=>none
theorem ACe (β:Env) (fr B n:Nat):AO (β.put fr (.at_ B (n,0))) (.val false [.p fr 0]) (.pointer (some ⟨B,0,none⟩)) :=
 Az ⟨B,(n,0),Env.put_same ..,rfl⟩
theorem ANp {t fr:Nat} {ie:List Bool} {r:R} (g:Good β H w) (h:nP P t fr ie=some r) (hf:∀ b,fr≤b→b<fr+r.nw→β b=none) :
  ∃ u w' β',(Instr.alloc t true (.tuple #[])).run P w=.ok u w'∧Eff β fr r w u w' β':=by
 unfold nP at h;split at h
 ·rename_i i hi;split at h
  ·rename_i z hz;split at h
   ·rename_i gg cs hc;injection h with h;subst h;have hr:=Ty (Z3 (β:=β) hc)
    refine ⟨_,_,_,?_,Eff.new_ g (hf fr (ju _) (by simp)) hr rfl (ACe β fr _ _)⟩
    simp [Instr.alloc,zeroValue,typeInfo,hi,hz,newVar,newRow]
   ·cases h
  ·cases h
 ·cases h
def nQ (t:gt) (x:Option AV) (fr:Nat) (ie:List Bool):Option R :=
 match x with
 | some (.val _ cs)=>some ⟨.val false [.p fr 0],[(fr,some ⟨t,cs,false⟩)],1,[],ie⟩
 | _=>none
theorem ANq {t fr:Nat} {ie:List Bool} {x:Option AV} {u:gq} {r:R} (g:Good β H w) (hx:∀ A,x=some A→AO β A u) (h:nQ t x fr ie=some r)
  (hf:∀ b,fr≤b→b<fr+r.nw→β b=none) :
  ∃ v w' β',(Instr.box t u).run P w=.ok v w'∧Eff β fr r w v w' β':=by
 unfold nQ at h;split at h
 ·rename_i gg cs;injection h with h;subst h;have hr:=Ty (hx _ rfl)
  refine ⟨_,_,_,?_,Eff.new_ g (hf fr (ju _) (by simp)) hr rfl (ACe β fr _ _)⟩
  simp [Instr.box,newVar,newRow]
 ·cases h
def wide:TypeDesc→Bool
 | .struct _ | .array _ _=>true
 | _=>false
theorem Ws {t:gt} {d:TypeDesc} (h:P.underlying t=some d) (w:gn):(isAgg t).run P w=.ok (wide d) w:=by
 unfold isAgg;simp only [Sem.run_bind,run_underlying h,Result.andThen_ok];cases d<;>rfl
def T3 (P:gr) (t:gt) (cs:List Ch) (ic:Nat) (ie:List Bool):Option R :=
 match P.underlying t,P.info? t with
 | some d,some i=>match wide d with
  | true=>match MI cs ic i.size with
   | some m=>some (CK (.val true m) ie)
   | none=>none
  | false=>match cs with
   | [.seq kd xs]=>some ⟨.val false [.v (.int kd (xs.getD ic 0))],[],0,[(decide (ic<xs.length),true)],ie⟩
   | cs=>match MI cs ic 1 with
    | some m=>some (CK (.val false m) ie)
    | none=>none
 | _,_=>none
def nS (P:gr) (t:gt) (cs:List Ch) (ic:Nat) (ie:List Bool):Option R :=
 match cs with
 | [.seq kd xs]=>match P.underlying t,P.info? t with
  | some d,some i=>match wide d with
   | true=>some ⟨.val true [.seq kd ((xs.drop ic).take i.size)],[],0,[(Nat.ble (ic+i.size) xs.length,true)],ie⟩
   | false=>T3 P t cs ic ie
  | _,_=>none
 | cs=>T3 P t cs ic ie
def nT (P:gr) (t:gt) (x:Option AV) (H:Heap) (ie:List Bool):Option R :=
 match x with
 | some (.val false [.p bk ic])=>match MJ H bk with
  | some blk=>match blk.opn,Nat.beq blk.ty Br with
   | true,false=>nS P t blk.cs ic ie
   | _,_=>T3 P t blk.cs ic ie
  | none=>none
 | _=>none
theorem nU {l:List gq} {ic:Nat} (h:ic<l.length):(l.drop ic).take 1=[l[ic]]:=by
 apply tn
 intro i;cases i with
 | zero=>simp [List.getElem?_drop,h]
 | succ i=>simp [List.getElem?_take]
theorem Wt {B ic:Nat} {l t pre:List gq} {ty:gt} {fz:Nat×Nat} (ho:w.heap[B]? = some (.cells ⟨pre++(l++t)⟩ ty fz)) (h:ic<l.length):w.cell? ⟨B,pre.length+ic,none⟩=some l[ic]:=by
 have e:(pre++(l++t))[pre.length+ic]? = some l[ic]:=by
  rw [ru dn,tw,om h,nh h]
 simp [World.cell?,ho,e]
theorem Z4 {t ic B:Nat} {ie:List Bool} {cs:List Ch} {l t' pre:List gq} {ty:gt} {fz:Nat×Nat} {r:R} (g:Good β H w) (hl:AP β cs l)
  (ho:w.heap[B]? = some (.cells ⟨pre++(l++t')⟩ ty fz)) (h:T3 P t cs ic ie=some r) (hc:AM r.conds) (fr:Nat) :
  ∃ u,(loadVar t ⟨B,pre.length+ic,none⟩).run P w=.ok u w∧Eff β fr r w u w β:=by
 unfold T3 at h;split at h
 ·rename_i d i hd hi;have hag:=Ws hd w;split at h
  ·rename_i hw;split at h
   ·rename_i m hm;injection h with h;subst h;obtain ⟨h1,h2⟩:=Tw hm hl;have ii:((l.drop ic).take i.size).length=i.size:=by simp;omega
    have hload:=run_loadCells_list (P:=P) w ⟨B,pre.length+ic,none⟩ ((l.drop ic).take i.size) (fun j v hj=>by
     rw [Addr.add_lit,ni];have hjl:j<((l.drop ic).take i.size).length:=by
      rcases kf j ((l.drop ic).take i.size).length with h' | h'
      ·exact h'
      ·rw [mq h'] at hj;cases hj
     rw [uz,jo dn,qv] at hj;rw [Wt ho dn,← hj,nh])
    rw [ii] at hload;refine ⟨.agg ⟨(l.drop ic).take i.size⟩,?_,Eff.pure_ g ⟨_,h1,rfl⟩⟩
    simp [loadVar,hag,hw,sizeOf,typeInfo,hi,hload]
   ·cases h
  ·rename_i hw;split at h
   ·rename_i kd xs;injection h with h;subst h;simp only [AM,jt,and_true] at hc;obtain ⟨l1,l2,h1,h2,h3⟩:=hl;simp only [AP] at h2;subst h2;simp only [BM] at h1;obtain ⟨h1,ip⟩:=h1;rw [lh,h1] at h3;subst h3;have AF:xs.getD ic 0=xs[ic]:=by simp [hc]
    refine ⟨.int kd (xs.getD ic 0),?_,Eff.pure_ g (Az ⟨rfl,rfl,?_⟩)⟩
    ·have:=Wt (w:=w) ho (ic:=ic) (by simpa using hc)
     simp [loadVar,hag,hw,run_load,this,hc]
    ·rw [AF];exact ip _ (List.getElem_mem hc)
   ·rename_i cs' _;split at h
    ·rename_i m hm;injection h with h;subst h;obtain ⟨h1,h2⟩:=Tw hm hl;rw [nU dn] at h1;refine ⟨l[ic],?_,Eff.pure_ g h1⟩
     have:=Wt (w:=w) ho (ic:=ic) dn
     simp [loadVar,hag,hw,run_load,this]
    ·cases h
 ·cases h
theorem ANr {t ic B:Nat} {ie:List Bool} {cs:List Ch} {l t' pre:List gq} {ty:gt} {fz:Nat×Nat} {r:R} (g:Good β H w) (hl:AP β cs l)
  (ho:w.heap[B]? = some (.cells ⟨pre++(l++t')⟩ ty fz)) (h:nS P t cs ic ie=some r) (hc:AM r.conds) (fr:Nat) :
  ∃ u,(loadVar t ⟨B,pre.length+ic,none⟩).run P w=.ok u w∧Eff β fr r w u w β:=by
 unfold nS at h;split at h
 ·rename_i kd xs;split at h
  ·rename_i d i hd hi;split at h
   ·rename_i hw;injection h with h;subst h;have je:=jp hc.1;obtain ⟨l1,l2,⟨rfl,ip⟩,h2,rfl⟩:=hl;simp only [AP] at h2;subst h2;have ii:(((xs.map (Value.int kd)).drop ic).take i.size).length=i.size:=by simp;omega
    have hload:=run_loadCells_list (P:=P) w ⟨B,pre.length+ic,none⟩ (((xs.map (Value.int kd)).drop ic).take i.size) (fun j v hj=>by
     rw [Addr.add_lit,ni];have hjl:j<(((xs.map (Value.int kd)).drop ic).take i.size).length:=by
      rcases kf j (((xs.map (Value.int kd)).drop ic).take i.size).length with h' | h'
      ·exact h'
      ·rw [mq h'] at hj;cases hj
     rw [uz,jo dn,qv] at hj;rw [Wt ho (by rw [lh,ma];omega),← hj,nh (by rw [ma];omega)]
     simp)
    rw [ii] at hload;refine ⟨.agg ⟨((xs.map (Value.int kd)).drop ic).take i.size⟩,?_,Eff.pure_ g ⟨_,?_,rfl⟩⟩
    ·simp [loadVar,Ws hd w,hw,sizeOf,typeInfo,hi,hload]
    ·rw [← th,← sh];exact ⟨_,[],⟨rfl,fun x hx=>ip x (pn (qh hx))⟩,rfl,(lh _).symm⟩
   ·exact Z4 g hl ho h hc fr
  ·cases h
 ·exact Z4 g hl ho h hc fr
theorem ANs {t:gt} {ie:List Bool} {x:Option AV} {u:gq} {r:R} (g:Good β H w) (hx:∀ A,x=some A→AO β A u) (h:nT P t x H ie=some r)
  (hc:AM r.conds) (fr:Nat):∃ v,(Instr.loadAt t u).run P w=.ok v w∧Eff β fr r w v w β:=by
 unfold nT at h;split at h
 ·rename_i bk ic;split at h
  ·rename_i blk hb;have hu:=A5 (hx _ rfl)
   obtain ⟨B',n',e4,e5⟩:=hu;injection e5 with e5 _;subst e5;rcases g.cells hb with ⟨B,n,l,t',pre,ty',fz,e1,e2,e3,e0,_⟩ | ⟨X,e1,e2,_⟩
   case inr=>rw [e1] at e4;injection e4 with e4;subst e4;exact e2.elim
   rw [e1] at e4;injection e4 with e4;injection e4 with e4 e4';subst e4;subst e4';have:∃ u,(loadVar t ⟨B,pre.length+ic,none⟩).run P w=.ok u w∧Eff β fr r w u w β:=by
    split at h
    ·exact ANr g e2 e3 h hc fr
    ·exact Z4 g e2 e3 h hc fr
   obtain ⟨v,hv,he⟩:=this;rw [e0] at hv;refine ⟨v,?_,he⟩
   simp [Instr.loadAt,Instr.sureAddr,hv]
  ·cases h
 ·cases h
def nV (P:gr) (t:gt) (bk:Nat) (blk:ib) (ic:Nat) (new:List Ch) (ie:List Bool):Option R :=
 match blk.cs,new with
 | [.seq kd xs],[.n k i]=>match decide (k=kd),P.info? t with
  | true,some inf=>match Nat.beq inf.size 1 with
   | true=>some ⟨.any,[(bk,some ⟨blk.ty,[.seq kd (xs.set ic i)],blk.opn⟩)],0,[(decide (ic<xs.length),true)],ie⟩
   | false=>none
  | _,_=>none
 | [.seq kd xs],[.v (.int k i)]=>match decide (k=kd),P.info? t with
  | true,some inf=>match Nat.beq inf.size 1 with
   | true=>some ⟨.any,[(bk,some ⟨blk.ty,[.seq kd (xs.set ic i)],blk.opn⟩)],0,[(decide (ic<xs.length),true)],ie⟩
   | false=>none
  | _,_=>none
 | cs,new=>match P.info? t with
  | some inf=>match Nat.beq (MF new) inf.size with
   | true=>match Wp cs ic inf.size new with
    | some m=>some ⟨.any,[(bk,some ⟨blk.ty,m,blk.opn⟩)],0,[],ie⟩
    | none=>none
   | false=>none
  | none=>none
def nW (P:gr) (t:gt) (x y:Option AV) (H:Heap) (ie:List Bool):Option R :=
 match x,y with
 | some (.val false [.p bk ic]),some (.val _ new)=>match AF H bk with
  | some blk=>match Nat.ble Br blk.ty with
   | false=>nV P t bk blk ic new ie
   | true=>none
  | none=>none
 | _,_=>none
theorem Z5 {a:Nat} (h:Nat.beq a Br=false):a≠Br:=I4 h
theorem PB {a:Nat} (h:Nat.ble Br a=false):a<Br:=by
 rcases kf a Br with q | q
 ·exact q
 ·rw [jr q] at h;cases h
theorem ACf {t:gt} {i:TypeInfo} {B ic:Nat} {l t' ln:List gq} {ty:gt} {u:gq} (hi:P.info? t=some i)
  (ho:w.heap[B]? = some (.cells ⟨l++t'⟩ ty (0,0))) (hu:u.cells.toList=ln) (hs:ln.length=i.size) (hfit:ic+i.size≤l.length) (h1:∀ v∈ln,v.oneCell'=true) :
  (storeVar t ⟨B,ic,none⟩ u).run P w=.ok () (w.setRow B ⟨(l.take ic++ln++l.drop (ic+i.size))++t'⟩):=by
 have hz:u.cells.size=i.size:=by rw [← hs,← hu];simp
 have:=run_storeCells_at P B ic ty ln 0 ⟨l++t'⟩ w ho (by simp;omega) h1
 simp only [og] at this;have e1:(l++t').take ic=l.take ic:=t_ dn
 have e2:(l++t').drop (ic+i.size)=l.drop (ic+i.size)++t':=tz dn
 simp only [e1,hs,e2] at this;simp [storeVar,sizeOf,typeInfo,hi,hz,hu,this]
theorem ANt {β:Env} {kd:IntKind} {xs:dt} {i:Int} (ic:Nat) (hx:∀ x∈xs,has kd x) (hi:has kd i) :
  AP β [.seq kd (xs.set ic i)] ((xs.set ic i).map (.int kd)) :=
 ⟨_,[],⟨rfl,fun x hm=>by
  rcases List.mem_or_eq_of_mem_set hm with h | h
  ·exact hx x h
  ·rw [h];exact hi⟩,rfl,by simp⟩
theorem ANu {α:Type} (l:List α) (ic:Nat) (x:α) (h:ic<l.length):l.set ic x=l.take ic++[x]++l.drop (ic+1):=by
 rw [List.set_eq_take_append_cons_drop,jo h];simp
theorem ANv {t bk ic B n:Nat} {ie:List Bool} {blk:ib} {new:List Ch} {l t':List gq} {u:gq} {r:R} (g:Good β H w) (hb:β bk=some (.at_ B (n,0))) (hl:AP β blk.cs l)
  (ho:w.heap[B]? = some (.cells ⟨l++t'⟩ blk.ty (0,0))) (ht:blk.opn=false→t'=[]) (ii:(l++t').length=n) (ht1:∀ v∈t',v.oneCell'=true)
  (hn:AP β new u.cells.toList) (h:nV P t bk blk ic new ie=some r) (hc:AM r.conds) (fr:Nat) :
  ∃ w',(storeVar t ⟨B,ic,none⟩ u).run P w=.ok () w'∧Eff β fr r w undef w' β:=by
 have seqcase:∀ (kd k:IntKind) (xs:dt) (i:Int) (inf:TypeInfo),blk.cs=[.seq kd xs]→u.cells.toList=[.int k i]→has k i→k=kd→P.info? t=some inf→inf.size=1→ic<xs.length →
   ∃ w',(storeVar t ⟨B,ic,none⟩ u).run P w=.ok () w'∧Eff β fr ⟨.any,[(bk,some ⟨blk.ty,[.seq kd (xs.set ic i)],blk.opn⟩)],0,[(decide (ic<xs.length),true)],ie⟩ w undef w' β:=by
  intro kd k xs i inf e1 e2 e3 e4 e5 e6 e7;subst e4;rw [e1] at hl;obtain ⟨l1,l2,h1,h2,h3⟩:=hl;simp only [AP] at h2;subst h2;simp only [BM] at h1;obtain ⟨h1,ip⟩:=h1;rw [lh,h1] at h3;subst h3;have:=ACf (u:=u) (l:=xs.map (Value.int k)) (ic:=ic) (ln:=[.int k i]) e5 ho e2 (by simp [e6]) (by simp [e6];omega) (by simp [Value.oneCell'])
  refine ⟨_,this,?_⟩
  have e:(xs.map (Value.int k)).take ic++[Value.int k i]++(xs.map (Value.int k)).drop (ic+inf.size)=(xs.set ic i).map (Value.int k):=by
   rw [List.map_set,e6,ANu _ ic _ (by simpa using e7)]
  rw [e];exact Eff.write g hb ho (ANt ic ip e3) ht (by simpa using ii) ht1 trivial
 unfold nV at h;split at h
 ·rename_i kd xs k i e1;split at h
  ·rename_i inf hk hi;split at h
   ·rename_i hz;injection h with h;subst h;simp only [AM,jt,and_true] at hc;have:=A5 (u:=(.int k i:gq)) (β:=β) (c:=.n k i)
    obtain ⟨l1,l2,h1,h2,h3⟩:=hn;simp only [AP] at h2;subst h2;simp only [BM] at h1;exact seqcase kd k xs i inf e1 (by rw [h3,h1.1];rfl) h1.2 (by simpa using hk) hi (Ar.1 hz) hc
   ·cases h
  ·cases h
 ·rename_i kd xs k i e1;split at h
  ·rename_i inf hk hi;split at h
   ·rename_i hz;injection h with h;subst h;simp only [AM,jt,and_true] at hc;obtain ⟨l1,l2,h1,h2,h3⟩:=hn;simp only [AP] at h2;subst h2;simp only [BM] at h1;exact seqcase kd k xs i inf e1 (by rw [h3,h1.1];rfl) h1.2.2 (by simpa using hk) hi (Ar.1 hz) hc
   ·cases h
  ·cases h
 ·split at h
  ·rename_i inf hi;split at h
   ·rename_i hz;split at h
    ·rename_i m hm;injection h with h;subst h;obtain ⟨h1,h2⟩:=nO hm hl hn;have hlen':u.cells.toList.length=inf.size:=by rw [Tv hn];exact Ar.1 hz
     exact ⟨_,ACf hi ho rfl hlen' h2 (Tz hn),Eff.write g hb ho h1 ht (by simp at ii hlen' ⊢;omega) ht1 trivial⟩
    ·cases h
   ·cases h
  ·cases h
theorem ANw {t:gt} {ie:List Bool} {x y:Option AV} {u v:gq} {r:R} (g:Good β H w) (hx:∀ A,x=some A→AO β A u) (hy:∀ A,y=some A→AO β A v)
  (h:nW P t x y H ie=some r) (hc:AM r.conds) (fr:Nat):∃ w',(Instr.storeAt t u v).run P w=.ok () w'∧Eff β fr r w undef w' β:=by
 unfold nW at h;split at h
 ·rename_i bk ic gg new;split at h
  ·rename_i blk hb;split at h;case h_2=>cases h
   rename_i hro;have hu:=A5 (hx _ rfl)
   obtain ⟨B',n',e4,e5⟩:=hu;injection e5 with e5 _;subst e5;rcases Q0 (g.heap _ _ hb) (PB hro) with ⟨B,n,l,t',e1,e2,e3,e6,e7,e8⟩ | ⟨e1,_⟩
   case inr=>rw [e1] at e4;cases e4
   rw [e1] at e4;injection e4 with e4;injection e4 with e4 e4';subst e4;subst e4';obtain ⟨w',hv,he⟩:=ANv g e1 e2 e3 e6 e7 e8 (Ty (hy _ rfl)) h hc fr
   refine ⟨w',?_,he⟩
   simp [Instr.storeAt,Instr.sureAddr,hv]
  ·cases h
 ·cases h
end ops
end Go.Proofs.YtgnajdcdcblaoaaGreat.Ex
namespace Go.Proofs.YtgnajdcdcblaoaaGreat.Ex
def Bp:Option AV→Option (Bool×IntKind×Int)
 | some (.val false [.n k i])=>some (true,k,i)
 | some (.val false [.v (.int k i)])=>some (false,k,i)
 | _=>none
theorem C3 {β:Env} {x:Option AV} {u:gq} {c:Bool} {k:IntKind} {i:Int} (hx:∀ A,x=some A→AO β A u) (h:Bp x=some (c,k,i)) :
  u=.int k i∧has k i:=by
 unfold Bp at h;split at h
 ·injection h with h;injection h with h1 h;injection h with h2 h3;subst h1 h2 h3;have:=A5 (hx _ rfl)
  simp only [BM,qs,and_true] at this;exact this
 ·injection h with h;injection h with h1 h;injection h with h2 h3;subst h1 h2 h3;have:=A5 (hx _ rfl)
  simp only [BM,qs,and_true] at this;exact ⟨this.1,this.2.2⟩
 ·cases h
def PC (c:Bool) (k:IntKind) (i:Int):AV:=match c with | true=>.val false [.n k i] | false=>.val false [.v (.int k i)]
theorem PD {β:Env} {k:IntKind} {i:Int} (c:Bool) (h:has k i):AO β (PC c k i) (.int k i):=by
 cases c
 ·exact Az ⟨rfl,rfl,h⟩
 ·exact Az ⟨rfl,h⟩
def FY:Option AV→Option (Bool×Bool)
 | some (.val false [.b x])=>some (true,x)
 | some (.val false [.v (.bool x)])=>some (false,x)
 | _=>none
theorem K5 {β:Env} {x:Option AV} {u:gq} {c y:Bool} (hx:∀ A,x=some A→AO β A u) (h:FY x=some (c,y)):u=.bool y:=by
 unfold FY at h;split at h
 ·injection h with h;injection h with h1 h;subst h1 h;have:=A5 (hx _ rfl)
  simpa [BM] using this
 ·injection h with h;injection h with h1 h;subst h1 h;have:=A5 (hx _ rfl)
  simp only [BM,qs,and_true] at this;exact this.1
 ·cases h
def MK (c:Bool) (x:Bool):AV:=match c with | true=>.val false [.b x] | false=>.val false [.v (.bool x)]
theorem NV {β:Env} (c x:Bool):AO β (MK c x) (.bool x):=by
 cases c
 ·exact Az ⟨rfl,rfl,trivial⟩
 ·exact Az rfl
def AW (c:Bool) (k:IntKind) (i:Int):Int:=match c with
 | true=>match AK k i with | true=>i | false=>k.wrap i
 | false=>k.wrap i
theorem ANx {k:IntKind} {i:Int} (h:AK k i=true):k.wrap i=i:=by
 cases k<;>simp only [IntKind.wrap,IntKind.signed,IntKind.bits,AK,jx,jt] at h ⊢<;>simp<;>(try split)<;>omega
theorem DD (c:Bool) (k:IntKind) (i:Int):AW c k i=k.wrap i:=by
 unfold AW;split
 ·split
  ·rename_i h;exact (ANx h).symm
  ·rfl
 ·rfl
def Q3 (c x:Bool):Option (du):=match c with
 | true=>match x with | true=>some [] | false=>none
 | false=>some [(x,true)]
theorem Wu {c x:Bool} {l:du} (h:Q3 c x=some l) (hl:AM l):x=true:=by
 unfold Q3 at h;split at h
 ·split at h
  ·rfl
  ·cases h
 ·injection h with h;subst h;exact hl.1
def nZ (op:BinOp) (c:Bool) (k:IntKind) (i j:Int):Option (Int×du) :=
 match op with
 | .add=>some (AW c k (i+j),[])
 | .sub=>some (AW c k (i-j),[])
 | .mul=>some (AW c k (i*j),[])
 | .and=>some (bits .and k i j,[])
 | .or=>some (bits .or k i j,[])
 | .xor=>some (bits .xor k i j,[])
 | .quo=>match Q3 c (decide (j≠0)) with | some l=>some (AW c k (i.tdiv j),l) | none=>none
 | .rem=>match Q3 c (decide (0≤i∧0<j)) with | some l=>some (i.tmod j,l) | none=>none
 | _=>none
def n5 (op:BinOp) (i j:Int):Option Bool :=
 match op with
 | .eql=>some (decide (i=j))
 | .neq=>some (!decide (i=j))
 | .lss=>some (decide (i<j))
 | .leq=>some (decide (i≤j))
 | .gtr=>some (decide (j<i))
 | .geq=>some (decide (j≤i))
 | _=>none
def n8 (op:BinOp) (c:Bool) (k:IntKind) (i j:Int):Option (Int×du) :=
 match op with
 | .shl=>match Q3 c (decide (0≤j)) with | some l=>some (AW c k (i*2^(min j.toNat k.bits)),l) | none=>none
 | .shr=>match Q3 c (decide (0≤j∧0≤i)) with | some l=>some (i.fdiv (2^(min j.toNat k.bits)),l) | none=>none
 | _=>none
section
variable {P:gr} {w:gn}
theorem ANy {op:BinOp} {c:Bool} {k:IntKind} {i j z:Int} {l:du} (h:nZ op c k i j=some (z,l)) (hl:AM l) (hi:has k i) (t:gt) (x y:Operand) :
  (do eqGuard op t x y (.int k i) (.int k j);binOp op t (.int k i) (.int k j):Sem gq).run P w=.ok (.int k z) w∧has k z:=by
 rw [Sem.run_bind,eqGuard_at_int];simp only [Sem.run_pure,Result.andThen_ok];unfold nZ at h;split at h
 all_goals first | cases h;done | skip
 ·injection h with h;injection h with h1 h2;subst h1 h2;rw [DD];exact ⟨by simp [binOp,Op.intArith],K4 _ _⟩
 ·injection h with h;injection h with h1 h2;subst h1 h2;rw [DD];exact ⟨by simp [binOp,Op.intArith],K4 _ _⟩
 ·injection h with h;injection h with h1 h2;subst h1 h2;rw [DD];exact ⟨by simp [binOp,Op.intArith],K4 _ _⟩
 ·injection h with h;injection h with h1 h2;subst h1 h2;exact ⟨by rw [binOp_and,intBits_and];rfl,K4 _ _⟩
 ·injection h with h;injection h with h1 h2;subst h1 h2;exact ⟨by rw [binOp_or,intBits_or];rfl,K4 _ _⟩
 ·injection h with h;injection h with h1 h2;subst h1 h2;exact ⟨by rw [binOp_xor,intBits_xor];rfl,K4 _ _⟩
 ·split at h
  ·rename_i l' hc;injection h with h;injection h with h1 h2;subst h1 h2;rw [DD];have:=Wu hc hl
   simp only [ne_eq,decide_not,Bool.not_eq_true',decide_eq_false_iff_not] at this;exact ⟨by simp [binOp,Op.intDiv,this],K4 _ _⟩
  ·cases h
 ·split at h
  ·rename_i l' hc;injection h with h;injection h with h1 h2;subst h1 h2;have:=Wu hc hl
   simp only [jt] at this;have hj:j≠0:=dn
   refine ⟨by simp [binOp,Op.intDiv,hj],?_⟩
   rw [o_ this.1];have h1:=Int.emod_nonneg i hj;have h2:i % j≤i:=by
    rcases Int.lt_or_le i j with jb | je
    ·rw [Int.emod_eq_of_lt this.1 jb];exact Int.le_refl _
    ·have:=Int.emod_lt_of_pos i this.2;omega
   unfold has at hi ⊢
   have hmin:k.min≤0:=by cases k<;>simp [IntKind.min,IntKind.signed,IntKind.bits]
   omega
  ·cases h
theorem ANz {op:BinOp} {k:IntKind} {i j:Int} {z:Bool} (h:n5 op i j=some z) (t:gt) (x y:Operand) :
  (do eqGuard op t x y (.int k i) (.int k j);binOp op t (.int k i) (.int k j):Sem gq).run P w=.ok (.bool z) w:=by
 rw [Sem.run_bind,eqGuard_at_int];simp only [Sem.run_pure,Result.andThen_ok];unfold n5 at h;split at h
 all_goals first | cases h;done | skip
 all_goals (injection h with h;subst h;simp [binOp,Op.intCmp])
 all_goals by_cases e:i=j<;>simp [e]
theorem ACg {op:BinOp} {c:Bool} {k yk:IntKind} {i j z:Int} {l:du} (h:n8 op c k i j=some (z,l)) (hl:AM l) (hi:has k i) (t:gt) (x y:Operand) :
  (do eqGuard op t x y (.int k i) (.int yk j);binOp op t (.int k i) (.int yk j):Sem gq).run P w=.ok (.int k z) w∧has k z:=by
 rw [Sem.run_bind,eqGuard_at_int];simp only [Sem.run_pure,Result.andThen_ok];unfold n8 at h;split at h
 all_goals first | cases h;done | skip
 ·split at h
  ·rename_i l' hc;injection h with h;injection h with h1 h2;subst h1 h2;rw [DD];have:=Wu hc hl
   simp only [jt] at this;exact ⟨by simp [binOp,Op.shift,show ¬ j<0 by omega],K4 _ _⟩
  ·cases h
 ·split at h
  ·rename_i l' hc;injection h with h;injection h with h1 h2;subst h1 h2;have:=Wu hc hl
   simp only [jt] at this;refine ⟨by simp [binOp,Op.shift,show ¬ j<0 by omega],?_⟩
   have hp:(0:Int)<2^(min j.toNat k.bits):=Int.pow_pos dp
   rw [q_ _ (Int.le_of_lt hp)];have h1:0≤i / 2^(min j.toNat k.bits):=Int.ediv_nonneg this.2 (Int.le_of_lt hp)
   have h2:i / 2^(min j.toNat k.bits)≤i:=Int.ediv_le_self _ this.2
   unfold has at hi ⊢
   have hmin:k.min≤0:=by cases k<;>simp [IntKind.min,IntKind.signed,IntKind.bits]
   omega
  ·cases h
end
def Q4:List Ch→Option Nat
 | []=>some 0
 | .n .u64 i::r=>match Q4 r with | some m=>some (i.toNat+18446744073709551616*m) | none=>none
 | .v (.int .u64 i)::r=>match Q4 r with | some m=>some (i.toNat+18446744073709551616*m) | none=>none
 | _=>none
theorem FM (x i:Nat):AE x (i+1)=AE (x / 2^64) i:=by
 unfold AE;rw [ll,← kc,show 64*(i+1)=64+64*i by omega]
theorem Z6 (k x:Nat):words (k+1) x=.int .u64 (AE x 0)::words k (x / 2^64):=by
 unfold words;rw [sr,lz,ot];refine jw (_ :: ·) (nx fun i _=>?_)
 show Value.int .u64 (AE x (i+1))=_;rw [FM]
theorem ACh {β:Env}:∀ {cs:List Ch} {l:List gq} {x:Nat},Q4 cs=some x→AP β cs l→l=words cs.length x∧x<2^(64*cs.length)
 | [],l,x,h,hl=>by
  simp only [Q4,ke] at h;simp only [AP] at hl;subst h;subst hl;exact ⟨rfl,by simp⟩
 | c::cs,l,x,h,hl=>by
  obtain ⟨l1,l2,h1,h2,h3⟩:=hl;have step:∀ (i:Int) (m:Nat),l1=[.int .u64 i]→has .u64 i→Q4 cs=some m→x=i.toNat+18446744073709551616*m→l=words (c::cs).length x∧x<2^(64*(c::cs).length):=by
   intro i m e1 e2 e3 e4;obtain ⟨j1,j2⟩:=ACh e3 h2;have hi:=(FX _ _).1 e2
   simp only [AK,jx,jt] at hi;have ex:x % 2^64=i.toNat:=by rw [e4];omega
   have ed:x / 2^64=m:=by rw [e4];omega
   constructor
   ·rw [h3,e1,k_,Z6,ed,← j1];simp only [List.singleton_append,qs,and_true,Value.int.injEq,true_and];simp only [AE,me,kx,ld,ex];omega
   ·rw [k_,oe,kc];have:x / 2^64<2^(64*cs.length):=by rw [ed];exact j2
    exact (ua dp).1 this
  unfold Q4 at h;split at h
  ·rename_i he;cases he
  ·rename_i i r he;injection he with he1 he2;subst he1 he2;split at h
   ·rename_i m hm;injection h with h;exact step i m h1.1 h1.2 hm h.symm
   ·cases h
  ·rename_i i r he;injection he with he1 he2;subst he1 he2;split at h
   ·rename_i m hm;injection h with h;exact step i m h1.1 h1.2.2 hm h.symm
   ·cases h
  ·cases h
def DE (k:Nat):List Ch→Option Nat
 | [.num k' x]=>match Nat.beq k k' with | true=>some x | false=>none
 | cs=>match Nat.beq cs.length k with | true=>Q4 cs | false=>none
theorem Hm {β:Env} {k x:Nat} {cs:List Ch} {l:List gq} (h:DE k cs=some x) (hl:AP β cs l):l=words k x∧x<2^(64*k):=by
 unfold DE at h;split at h
 ·split at h
  ·rename_i hk;injection h with h;subst h;have:=Ar.1 hk;subst this
   obtain ⟨l1,l2,h1,h2,h3⟩:=hl;simp only [AP] at h2;subst h2;rw [h3,lh];exact ⟨h1.2,h1.1⟩
  ·cases h
 ·split at h
  ·rename_i hk;have:=Ar.1 hk;subst this
   exact ACh h hl
  ·cases h
theorem AN0 {k x y:Nat} (hx:x<2^(64*k)) (hy:y<2^(64*k)) (h:words k x=words k y):x=y:=by
 induction k generalizing x y with
 | zero=>simp at hx hy;omega
 | succ k ih =>
  rw [Z6,Z6] at h;injection h with h1 h2;injection h1 with _ h1;have hx':x / 2^64<2^(64*k):=by
   rw [ua dp,← kc];exact hx
  have hy':y / 2^64<2^(64*k):=by
   rw [ua dp,← kc];exact hy
  have e:=ih hx' hy' h2;simp only [AE,me,kx,ld] at h1;omega
def C4:List gq→List gq→Bool
 | [],[]=>true
 | .int _ a::r,.int _ b::s=>decide (a=b)&&C4 r s
 | .bool a::r,.bool b::s=>(a==b)&&C4 r s
 | _,_=>false
theorem n9:∀ {a a' b b':List gq},a.length=a'.length→C4 (a++b) (a'++b')=(C4 a a'&&C4 b b')
 | [],[],_,_,_=>by simp [C4]
 | [],_::_,_,_,h=>by simp at h
 | _::_,[],_,_,h=>by simp at h
 | x::a,y::a',b,b',h=>by
  have ih:=n9 (a:=a) (a':=a') (b:=b) (b':=b') (by simpa using h)
  cases x<;>cases y<;>simp [C4,ih,Bool.and_assoc]
theorem oA {k x y:Nat} (hx:x<2^(64*k)) (hy:y<2^(64*k)):C4 (words k x) (words k y)=decide (x=y):=by
 have gen:∀ (is:List Nat),C4 (is.map fun i=>Value.int .u64 (AE x i)) (is.map fun i=>Value.int .u64 (AE y i))=true↔(is.map fun i=>Value.int .u64 (AE x i))=(is.map fun i=>Value.int .u64 (AE y i)):=by
  intro is;induction is with
  | nil=>simp [C4]
  | cons i is ih =>
   rw [lz,lz,C4,jx,jt,ih,qs,Value.int.injEq];simp
 have e:C4 (words k x) (words k y)=true↔words k x=words k y:=gen _
 rw [Bool.eq_iff_iff,e,jt];exact ⟨AN0 hx hy,fun h=>by rw [h]⟩
def ML (x:Bool) (ij:Option Bool) (last:Bool):Option Bool:=match last with
 | true=>some x
 | false=>match ij with | some y=>some (x&&y) | none=>none
def HJ {α:Type}:List α→Bool | []=>true | _=>false
def K6:Nat→List Ch→List Ch→Option Bool
 | 0,_,_=>none
 | f+1,a,b=>match a,b with
  | [],[]=>some true
  | .num k x::r,.num k' y::s=>match Nat.beq k k' with
   | true=>ML (decide (x=y)) (K6 f r s) (HJ r&&HJ s)
   | false=>none
  | .num k x::r,s=>match F' s k with
   | some (m,s')=>match DE k m with
    | some y=>ML (decide (x=y)) (K6 f r s') (HJ r&&HJ s')
    | none=>none
   | none=>none
  | r,.num k y::s=>match F' r k with
   | some (m,r')=>match DE k m with
    | some x=>ML (decide (x=y)) (K6 f r' s) (HJ r'&&HJ s)
    | none=>none
   | none=>none
  | c::r,d::s=>match Bp (some (.val false [c])),Bp (some (.val false [d])) with
   | some (_,_,i),some (_,_,j)=>ML (decide (i=j)) (K6 f r s) (HJ r&&HJ s)
   | _,_=>match FY (some (.val false [c])),FY (some (.val false [d])) with
    | some (_,x),some (_,y)=>ML (x==y) (K6 f r s) (HJ r&&HJ s)
    | _,_=>none
  | _,_=>none
theorem AN1 {x e:Bool} {ij:Option Bool} {last y:Bool} (h:ML x ij last=some e) (hr:∀ z,ij=some z→y=z) (hl:last=true→y=true):e=(x&&y):=by
 cases last with
 | true=>simp only [ML,ke] at h;rw [hl rfl,← h];simp
 | false =>
  cases ij with
  | none=>simp [ML] at h
  | some z=>simp only [ML,ke] at h;rw [hr z rfl,← h]
theorem Z7 {α:Type} {l:List α} (h:HJ l=true):l=[]:=by cases l<;>simp_all [HJ]
theorem ACi {β:Env}:∀ {f:Nat} {a b:List Ch} {l m:List gq} {e:Bool},K6 f a b=some e→AP β a l→AP β b m→C4 l m=e
 | 0,_,_,_,_,_,h,_,_=>by simp [K6] at h
 | f+1,a,b,l,m,e,h,ha,hb=>by
  have fin:∀ {r s:List Ch} {lr ms:List gq} {x:Bool} {l1 m1:List gq},AP β r lr→AP β s ms→l=l1++lr→m=m1++ms→l1.length=m1.length→C4 l1 m1=x →
    ML x (K6 f r s) (HJ r&&HJ s)=some e→C4 l m=e:=by
   intro r s lr ms x l1 m1 hr hs el em ii hx hand;rw [el,em,n9 ii,hx];refine (AN1 hand (fun z hz=>ACi hz hr hs) (fun hn=>?_)).symm
   simp only [jx] at hn;have h1:=Z7 hn.1;have h2:=Z7 hn.2;subst h1;subst h2;simp only [AP] at hr hs;subst hr;subst hs;rfl
  unfold K6 at h;split at h
  ·injection h with h;subst h;simp only [AP] at ha hb;subst ha;subst hb;rfl
  ·rename_i k x r k' y s;split at h
   ·rename_i hk;have:=Ar.1 hk;subst this
    obtain ⟨l1,l2,h1,h2,h3⟩:=ha;obtain ⟨m1,m2,g1,g2,g3⟩:=hb;simp only [BM] at h1 g1;exact fin h2 g2 h3 g3 (by rw [h1.2,g1.2,MG,MG]) (by rw [h1.2,g1.2];exact oA h1.1 g1.1) h
   ·cases h
  ·rename_i k x r _;split at h
   ·rename_i mm s' hs;split at h
    ·rename_i y hy;obtain ⟨l1,l2,h1,h2,h3⟩:=ha;simp only [BM] at h1;obtain ⟨j1,j2,j3⟩:=I2 hs hb;obtain ⟨q1,q2⟩:=Hm hy j1;exact fin h2 j2 h3 (nq k m).symm (by rw [h1.2,q1,MG,MG]) (by rw [h1.2,q1];exact oA h1.1 q2) h
    ·cases h
   ·cases h
  ·rename_i k y s _;split at h
   ·rename_i mm r' hs;split at h
    ·rename_i x hx;obtain ⟨m1,m2,g1,g2,g3⟩:=hb;simp only [BM] at g1;obtain ⟨j1,j2,j3⟩:=I2 hs ha;obtain ⟨q1,q2⟩:=Hm hx j1;exact fin j2 g2 (nq k l).symm g3 (by rw [g1.2,q1,MG,MG]) (by rw [g1.2,q1];exact oA q2 g1.1) h
    ·cases h
   ·cases h
  ·rename_i c r d s _ _ _;obtain ⟨l1,l2,h1,h2,h3⟩:=ha;obtain ⟨m1,m2,g1,g2,g3⟩:=hb;have one:∀ {c:Ch} {l1:List gq},BM β c l1→E9 c=1→∃ u,l1=[u]:=by
    intro c l1 hc hz;have:=Q1 hc
    rw [hz] at this;exact tm.1 this
   split at h
   ·rename_i c1 k1 i c2 k2 j hi hj;have z1:E9 c=1:=by cases c<;>simp [Bp] at hi<;>rfl
    have z2:E9 d=1:=by cases d<;>simp [Bp] at hj<;>rfl
    obtain ⟨u,rfl⟩:=one h1 z1;obtain ⟨v,rfl⟩:=one g1 z2;obtain ⟨rfl,_⟩:=C3 (β:=β) (u:=u) (fun A hA=>by injection hA with hA;subst hA;exact Az h1) hi
    obtain ⟨rfl,_⟩:=C3 (β:=β) (u:=v) (fun A hA=>by injection hA with hA;subst hA;exact Az g1) hj
    exact fin h2 g2 h3 g3 rfl (by simp [C4]) h
   ·split at h
    ·rename_i c1 x c2 y hi hj;have z1:E9 c=1:=by cases c<;>simp [FY] at hi<;>rfl
     have z2:E9 d=1:=by cases d<;>simp [FY] at hj<;>rfl
     obtain ⟨u,rfl⟩:=one h1 z1;obtain ⟨v,rfl⟩:=one g1 z2;have e1:=K5 (β:=β) (u:=u) (fun A hA=>by injection hA with hA;subst hA;exact Az h1) hi
     have e2:=K5 (β:=β) (u:=v) (fun A hA=>by injection hA with hA;subst hA;exact Az g1) hj
     subst e1;subst e2;exact fin h2 g2 h3 g3 rfl (by simp [C4]) h
    ·cases h
  ·cases h
def Wv (P:gr) (g:gt→Option (List (Option IntKind))):List Field→Nat→Option (List (Option IntKind))
 | [],_=>some []
 | f::fs,ic=>match decide (f.name≠"_"),Nat.beq f.offset ic,g f.type with
  | true,true,some ks=>match Nat.beq (P.cellsOf f.type) ks.length,Wv P g fs (ic+ks.length) with
   | true,some r=>some (ks++r)
   | _,_=>none
  | _,_,_=>none
def GD (P:gr):Nat→gt→Option (List (Option IntKind))
 | 0,_=>none
 | d+1,t=>match P.underlying t with
  | some .bool=>some [none]
  | some (.int k)=>some [some k]
  | some (.array n e)=>match GD P d e with
   | some ks=>match Nat.beq (P.cellsOf e) ks.length with
    | true=>some (List.replicate n ks).flatten
    | false=>none
   | none=>none
  | some (.struct fs)=>match P.stoodInHeld t with
   | false=>Wv P (GD P d) fs.toList 0
   | true=>none
  | _=>none
def CP:List (Option IntKind)→List gq→Prop
 | [],[]=>True
 | none::ks,.bool _::r=>CP ks r
 | some k::ks,.int k' _::r=>k'=k∧CP ks r
 | _,_=>False
theorem MM:∀ {ks:List (Option IntKind)} {l:List gq},CP ks l→l.length=ks.length
 | [],[],_=>rfl
 | [],_::_,h=>by simp [CP] at h
 | none::ks,[],h=>by simp [CP] at h
 | some _::ks,[],h=>by simp [CP] at h
 | none::ks,x::r,h=>by cases x<;>simp [CP] at h;simp [MM h]
 | some k::ks,x::r,h=>by cases x<;>simp [CP] at h;simp [MM h.2]
theorem T4:∀ {ks js:List (Option IntKind)} {l:List gq},CP (ks++js) l→CP ks (l.take ks.length)∧CP js (l.drop ks.length)
 | [],js,l,h=>by simpa [CP] using h
 | none::ks,js,[],h=>by simp [CP] at h
 | some _::ks,js,[],h=>by simp [CP] at h
 | none::ks,js,x::r,h=>by
  cases x<;>simp [CP] at h
  have:=T4 h
  simpa [CP] using this
 | some k::ks,js,x::r,h=>by
  cases x<;>simp [CP] at h
  have:=T4 h.2
  simpa [CP,h.1] using this
def Hn (P:gr) (t:gt) (xs:List gq) (X:gq):Prop :=
 match P.underlying t with
 | some d=>match wide d with
  | true=>X=.agg ⟨xs⟩
  | false=>xs=[X]
 | none=>False
section
variable {P:gr}
theorem ACj {t:gt} {d:TypeDesc} {i:TypeInfo} (hd:P.underlying t=some d) (hi:P.info? t=some i) {l:List gq} {ic:Nat} (hfit:ic+i.size≤l.length) (h1:wide d=false→i.size=1) (w:gn) :
  ∃ v,(part t ⟨l⟩ ic).run P w=.ok v w∧Hn P t ((l.drop ic).take i.size) v:=by
 have hag:=Ws hd w;cases hw:wide d with
 | true =>
  refine ⟨.agg ⟨(l.drop ic).take i.size⟩,?_,by simp [Hn,hd,hw]⟩
  simp [part,hag,hw,sizeOf,typeInfo,hi]
 | false =>
  have hs:=h1 hw;have jb:ic<l.length:=dn
  refine ⟨l[ic],?_,?_⟩
  ·simp [part,hag,hw,jb]
  ·simp only [Hn,hd,hw,hs];exact nU jb
def Z8 (P:gr) (D:Nat) (t:gt) (ks:List (Option IntKind)):Prop :=
 ∀ (xs ys:List gq) (X Y:gq) (w:gn),CP ks xs→CP ks ys→Hn P t xs X→Hn P t ys Y→(Op.equalIn D t X Y).run P w=.ok (C4 xs ys) w
theorem ACk {d:Nat} {t:gt} {ks:List (Option IntKind)} {ds:TypeDesc} (h:GD P d t=some ks) (hd:P.underlying t=some ds) (hw:wide ds=false):ks.length=1:=by
 cases d with
 | zero=>simp [GD] at h
 | succ d =>
  simp only [GD,hd] at h;cases ds<;>simp [wide] at hw h
  all_goals (subst h;rfl)
theorem ACl {d:Nat} {t:gt} {ks:List (Option IntKind)} (h:GD P d t=some ks):∃ ds i,P.underlying t=some ds∧P.info? t=some i:=by
 cases d with
 | zero=>simp [GD] at h
 | succ d =>
  cases hd:P.underlying t with
  | none=>simp [GD,hd] at h
  | some ds=>obtain ⟨i,hi⟩:=info_of_underlying hd;exact ⟨ds,i,rfl,hi⟩
theorem ACm {D d:Nat} {e:gt} {ks js:List (Option IntKind)} (ih:Z8 P D e ks) (hks:GD P d e=some ks) (hc:P.cellsOf e=ks.length) {xs ys:List gq} {ic:Nat} (w:gn)
  (hx:CP (ks++js) (xs.drop ic)) (hy:CP (ks++js) (ys.drop ic)) :
  ∃ a b,(part e ⟨xs⟩ ic).run P w=.ok a w∧(part e ⟨ys⟩ ic).run P w=.ok b w∧(Op.equalIn D e a b).run P w=.ok (C4 ((xs.drop ic).take ks.length) ((ys.drop ic).take ks.length)) w ∧
   C4 (xs.drop ic) (ys.drop ic)=(C4 ((xs.drop ic).take ks.length) ((ys.drop ic).take ks.length)&&C4 (xs.drop (ic+ks.length)) (ys.drop (ic+ks.length))) ∧
   CP js (xs.drop (ic+ks.length))∧CP js (ys.drop (ic+ks.length)):=by
 obtain ⟨ds,i,hd,hi⟩:=ACl hks;have hsz:i.size=ks.length:=by simpa [Program.cellsOf,hi] using hc
 have lx:=MM hx;have ly:=MM hy;simp at lx ly
 have w1:wide ds=false→i.size=1:=fun hw=>by rw [hsz];exact ACk hks hd hw
 by_cases hz:ks.length=0
 ·have hwd:wide ds=true:=by
   cases hw:wide ds with
   | true=>rfl
   | false=>have:=ACk hks hd hw;omega
  have hag:=Ws hd w;obtain ⟨fx1,fx2⟩:=T4 hx;obtain ⟨fy1,fy2⟩:=T4 hy;have pa:∀ l:List gq,(part e ⟨l⟩ ic).run P w=.ok (.agg ⟨(l.drop ic).take ks.length⟩) w:=by
   intro l;simp [part,hag,hwd,sizeOf,typeInfo,hi,hsz]
  refine ⟨_,_,pa xs,pa ys,ih _ _ _ _ w fx1 fy1 (by simp [Hn,hd,hwd]) (by simp [Hn,hd,hwd]),?_,?_,?_⟩
  ·simp [hz,C4]
  ·rw [od] at fx2;exact fx2
  ·rw [od] at fy2;exact fy2
 ·obtain ⟨a,ha,sa⟩:=ACj hd hi (l:=xs) (ic:=ic) dn w1 w
  obtain ⟨b,hb,sb⟩:=ACj hd hi (l:=ys) (ic:=ic) dn w1 w
  rw [hsz] at sa sb;obtain ⟨fx1,fx2⟩:=T4 hx;obtain ⟨fy1,fy2⟩:=T4 hy;refine ⟨a,b,ha,hb,ih _ _ _ _ w fx1 fy1 sa sb,?_,?_,?_⟩
  ·rw [← od,← od,← n9 (by rw [MM fx1,MM fy1]),nq,nq]
  ·rw [od] at fx2;exact fx2
  ·rw [od] at fy2;exact fy2
theorem ACn {D d:Nat} {e:gt} {ks:List (Option IntKind)} (ih:Z8 P D e ks) (hks:GD P d e=some ks) (hc:P.cellsOf e=ks.length) {xs ys:List gq} (w:gn) :
  ∀ (m i:Nat),CP (List.replicate m ks).flatten (xs.drop (i*ks.length))→CP (List.replicate m ks).flatten (ys.drop (i*ks.length)) →
   (Op.eqItems D e (P.cellsOf e) ⟨xs⟩ ⟨ys⟩ (List.range' i m)).run P w=.ok (C4 (xs.drop (i*ks.length)) (ys.drop (i*ks.length))) w
 | 0,i,hx,hy=>by
  have lx:=MM hx;have ly:=MM hy;simp at lx ly
  rw [rj dn,rj dn];simp [Op.eqItems,C4]
 | m+1,i,hx,hy=>by
  rw [sk,List.flatten_cons] at hx hy;obtain ⟨a,b,ha,hb,hab,heq,fx,fy⟩:=ACm ih hks hc w hx hy;have e1:i*ks.length+ks.length=(i+1)*ks.length:=by rw [rk]
  rw [e1] at heq fx fy;have hrest:=ACn ih hks hc w m (i+1) fx fy
  rw [tk];simp only [Op.eqItems,Sem.run_bind,hc,ha,hb,hab,Result.andThen_ok];rw [hc] at hrest;rw [heq];cases he:C4 ((xs.drop (i*ks.length)).take ks.length) ((ys.drop (i*ks.length)).take ks.length)
  ·simp
  ·simpa using hrest
theorem ACo {D d:Nat} (ih:∀ (t:gt) (ks:List (Option IntKind)),GD P d t=some ks→Z8 P D t ks) {xs ys:List gq} (w:gn) :
  ∀ (fs:List Field) (ic:Nat) (ks:List (Option IntKind)),Wv P (GD P d) fs ic=some ks→CP ks (xs.drop ic)→CP ks (ys.drop ic) →
   (Op.eqFields D ⟨xs⟩ ⟨ys⟩ fs).run P w=.ok (C4 (xs.drop ic) (ys.drop ic)) w
 | [],ic,ks,h,hx,hy=>by
  simp only [Wv,ke] at h;subst h;have lx:=MM hx;have ly:=MM hy;simp at lx ly
  rw [rj dn,rj dn];simp [Op.eqFields,C4]
 | f::fs,ic,ks,h,hx,hy=>by
  simp only [Wv] at h;split at h
  ·rename_i ks1 hn ho hg;split at h
   ·rename_i r hc hr;injection h with h;subst h;have ho':=Ar.1 ho;have hn':f.name≠"_":=by simpa using hn
    obtain ⟨a,b,ha,hb,hab,heq,fx,fy⟩:=ACm (ih _ _ hg) hg (Ar.1 hc) w hx hy
    have hrest:=ACo ih w fs _ _ hr fx fy;rw [← ho'] at ha hb;simp only [Op.eqFields,hn',ne_eq,not_false_eq_true,if_true,Sem.run_bind,ha,hb,hab,Result.andThen_ok];rw [heq];cases he:C4 ((xs.drop ic).take ks1.length) ((ys.drop ic).take ks1.length)
    ·simp
    ·simpa using hrest
   ·cases h
  ·cases h
theorem ACp (d:Nat):∀ (t:gt) (ks:List (Option IntKind)) (D:Nat),GD P d t=some ks→d≤D→Z8 P D t ks:=by
 induction d with
 | zero=>intro t ks D h;simp [GD] at h
 | succ d IH =>
  intro t ks D h hD;obtain ⟨D,rfl⟩:∃ D',D=D'+1:=⟨D-1,dn⟩
  intro xs ys X Y w hx hy sx sy;simp only [GD] at h;split at h
  ·rename_i hu;injection h with h;subst h;simp only [Hn,hu,wide] at sx sy;subst sx;subst sy;cases X<;>simp [CP] at hx
   cases Y<;>simp [CP] at hy
   rw [run_equalIn_bool w D t _ _ hu];simp [C4]
  ·rename_i k hu;injection h with h;subst h;simp only [Hn,hu,wide] at sx sy;subst sx;subst sy;cases X<;>simp [CP] at hx
   cases Y<;>simp [CP] at hy
   rw [hx,hy,run_equalIn_int w D t k k _ _ hu];simp only [C4,Bool.and_true];congr 1
  ·rename_i n e hu;split at h
   ·rename_i ks1 hk;split at h
    ·rename_i hc;injection h with h;subst h;simp only [Hn,hu,wide] at sx sy;subst sx;subst sy;obtain ⟨_,i,_,hi⟩:=ACl hk;rw [run_equalIn_array w D ⟨xs⟩ ⟨ys⟩ hu hi,uc];have:=ACn (IH e ks1 D hk dn) hk (Ar.1 hc) (xs:=xs) (ys:=ys) w n 0 (by simpa using hx) (by simpa using hy)
     simpa using this
    ·cases h
   ·cases h
  ·rename_i fs hu;split at h
   ·rename_i hp;simp only [Hn,hu,wide] at sx sy;subst sx;subst sy;have hf:P.fieldsOf t=fs:=by simp [Program.fieldsOf,hu]
    rw [run_equalIn_struct w D t ⟨xs⟩ ⟨ys⟩ (by rw [hf];exact hu) hp,hf]
    have:=ACo (fun t ks hk=>IH t ks D hk dn) (xs:=xs) (ys:=ys) w fs.toList 0 ks h (by simpa using hx) (by simpa using hy)
    simpa using this
   ·cases h
  ·cases h
end
def Ww (k:Nat):List (Option IntKind)→Option (List (Option IntKind)):=match k with
 | 0=>fun ks=>some ks
 | k+1=>fun ks=>match ks with
  | some .u64::r=>Ww k r
  | _=>none
def MN:Nat→List (Option IntKind)→List Ch→Bool
 | 0,_,_=>false
 | f+1,ks,cs=>match ks,cs with
  | [],[]=>true
  | ks,.num k _::r=>match Ww k ks with | some ks'=>MN f ks' r | none=>false
  | some k::ks,c::r=>match Bp (some (.val false [c])) with
   | some (_,k',_)=>match decide (k'=k) with | true=>MN f ks r | false=>false
   | none=>false
  | none::ks,c::r=>match FY (some (.val false [c])) with
   | some _=>MN f ks r
   | none=>false
  | _,_=>false
theorem ACq:∀ {k:Nat} {ks ks':List (Option IntKind)} {x:Nat} {l:List gq},Ww k ks=some ks'→CP ks' l→CP ks (words k x++l)
 | 0,ks,ks',x,l,h,hl=>by simp [Ww] at h;subst h;simpa [words] using hl
 | k+1,ks,ks',x,l,h,hl=>by
  simp only [Ww] at h;split at h
  ·rw [Z6];exact ⟨rfl,ACq h hl⟩
  ·cases h
theorem Wx {β:Env}:∀ {f:Nat} {ks:List (Option IntKind)} {cs:List Ch} {l:List gq},MN f ks cs=true→AP β cs l→CP ks l
 | 0,_,_,_,h,_=>by simp [MN] at h
 | f+1,ks,cs,l,h,hl=>by
  unfold MN at h;split at h
  ·simp only [AP] at hl;subst hl;trivial
  ·obtain ⟨l1,l2,h1,h2,rfl⟩:=hl;simp only [BM] at h1;split at h
   ·rename_i ks' hk;rw [h1.2];exact ACq hk (Wx h h2)
   ·cases h
  ·rename_i k ks c r _;obtain ⟨l1,l2,h1,h2,rfl⟩:=hl;split at h
   ·rename_i b k' i hi;split at h
    ·rename_i hk;have z1:E9 c=1:=by cases c<;>simp [Bp] at hi<;>rfl
     obtain ⟨u,rfl⟩:∃ u,l1=[u]:=tm.1 (by rw [Q1 h1,z1])
     obtain ⟨rfl,_⟩:=C3 (β:=β) (u:=u) (fun A hA=>by injection hA with hA;subst hA;exact Az h1) hi
     exact ⟨by simpa using hk,Wx h h2⟩
    ·cases h
   ·cases h
  ·rename_i ks c r _;obtain ⟨l1,l2,h1,h2,rfl⟩:=hl;split at h
   ·rename_i p hi;obtain ⟨b,y⟩:=p;have z1:E9 c=1:=by cases c<;>simp [FY] at hi<;>rfl
    obtain ⟨u,rfl⟩:∃ u,l1=[u]:=tm.1 (by rw [Q1 h1,z1])
    have:=K5 (β:=β) (u:=u) (fun A hA=>by injection hA with hA;subst hA;exact Az h1) hi
    subst this;show CP ks l2;exact Wx h h2
   ·cases h
  ·cases h
section
variable {P:gr} {β:Env} {H:Heap} {w:gn}
def oB (P:gr) (s:gt) (x:Option AV) (f:Nat) (ie:List Bool):Option R :=
 match x,P.underlying s with
 | some (.val false [.p bk ic]),some (.struct fs)=>match fs[f]? with
  | some fd=>match P.info? fd.type with
   | some i=>match Nat.beq i.size 0 with
    | false=>some (CK (.val false [.p bk (ic+fd.offset)]) ie)
    | true=>none
   | none=>none
  | none=>none
 | _,_=>none
theorem AN2 {s f:Nat} {x:Option AV} {u:gq} {ie:List Bool} {r:R} (g:Good β H w) (hx:∀ A,x=some A→AO β A u) (h:oB P s x f ie=some r) (fr:Nat) :
  ∃ v,(Instr.fieldAt s u f).run P w=.ok v w∧Eff β fr r w v w β:=by
 unfold oB at h;split at h
 ·rename_i bk ic fs hs;split at h
  ·rename_i fd hf;split at h
   ·rename_i i hi;split at h
    ·rename_i hz;injection h with h;subst h;obtain ⟨B,n,e1,e2⟩:=A5 (hx _ rfl)
     injection e2 with e2 _;subst e2;have hz':=I4 hz;refine ⟨_,?_,Eff.pure_ g (Az ⟨B,n,e1,rfl⟩)⟩
     simp [Instr.fieldAt,run_underlying hs,hf,Instr.sureAddr,fieldPlace,sizeOf,typeInfo,hi,hz',Addr.add_lit,Nat.add_assoc]
    ·cases h
   ·cases h
  ·cases h
 ·cases h
def Z9 (P:gr) (t:gt) (cs:List Ch) (ic:Nat) (ie:List Bool):Option R :=
 match P.underlying t,P.info? t with
 | some d,some i=>match wide d with
  | true=>match MI cs ic i.size with
   | some m=>some (CK (.val true m) ie)
   | none=>none
  | false=>match MI cs ic 1 with
   | some m=>some (CK (.val false m) ie)
   | none=>none
 | _,_=>none
theorem ACr {t ic:Nat} {cs:List Ch} {l:List gq} {ie:List Bool} {r:R} (g:Good β H w) (hl:AP β cs l) (h:Z9 P t cs ic ie=some r) (fr:Nat) :
  ∃ v,(part t ⟨l⟩ ic).run P w=.ok v w∧Eff β fr r w v w β:=by
 unfold Z9 at h;split at h
 ·rename_i d i hd hi;have hag:=Ws hd w;split at h
  ·rename_i hw;split at h
   ·rename_i m hm;injection h with h;subst h;obtain ⟨h1,h2⟩:=Tw hm hl;refine ⟨.agg ⟨(l.drop ic).take i.size⟩,?_,Eff.pure_ g ⟨_,h1,rfl⟩⟩
    simp [part,hag,hw,sizeOf,typeInfo,hi]
   ·cases h
  ·rename_i hw;split at h
   ·rename_i m hm;injection h with h;subst h;obtain ⟨h1,h2⟩:=Tw hm hl;have jb:ic<l.length:=dn
    rw [nU jb] at h1;refine ⟨l[ic],?_,Eff.pure_ g h1⟩
    simp [part,hag,hw,jb]
   ·cases h
 ·cases h
def oC (P:gr) (t:gt) (x:Option AV) (f:Nat) (ie:List Bool):Option R :=
 match x,P.underlying t with
 | some (.val true cs),some (.struct fs)=>match fs[f]? with
  | some fd=>Z9 P fd.type cs fd.offset ie
  | none=>none
 | _,_=>none
theorem AN3 {t f:Nat} {x:Option AV} {u:gq} {ie:List Bool} {r:R} (g:Good β H w) (hx:∀ A,x=some A→AO β A u) (h:oC P t x f ie=some r) (fr:Nat) :
  ∃ v,(Instr.field t u f).run P w=.ok v w∧Eff β fr r w v w β:=by
 unfold oC at h;split at h
 ·rename_i cs fs hs;split at h
  ·rename_i fd hf;obtain ⟨l,hl,rfl⟩:=hx _ rfl;obtain ⟨v,hv,he⟩:=ACr g hl h fr;refine ⟨v,?_,he⟩
   simp [Instr.field,run_underlying hs,hf,asAgg,hv]
  ·cases h
 ·cases h
def GE (s:ByteArray) (i:Int):Int:=((s.data.toList.getD i.toNat 0).toNat:Int)
def oD (P:gr) (t:gt) (x ix:Option AV) (ie:List Bool):Option R :=
 match x,P.underlying t,Bp ix with
 | some (.val true cs),some (.array n e),some (true,_,i)=>match decide (0≤i∧i<n),P.info? e with
  | true,some inf=>Z9 P e cs (i.toNat*inf.size) ie
  | _,_=>none
 | some (.val false [.v (.string s)]),some .string,some (_,_,i)=>some ⟨.val false [.v (.int .u8 (GE s i))],[],0,[(decide (0≤i∧i<s.size),true)],ie⟩
 | _,_,_=>none
theorem AN4 {t:gt} {x ix:Option AV} {u v:gq} {ie:List Bool} {r:R} (g:Good β H w) (hx:∀ A,x=some A→AO β A u) (hi:∀ A,ix=some A→AO β A v) (h:oD P t x ix ie=some r) (hc:AM r.conds) (fr:Nat) :
  ∃ z,(Instr.index t u v).run P w=.ok z w∧Eff β fr r w z w β:=by
 unfold oD at h;split at h
 ·rename_i cs n e k i hu ha;split at h
  ·rename_i inf hd iz;obtain ⟨l,hl,rfl⟩:=hx _ rfl;obtain ⟨rfl,_⟩:=C3 hi ha;obtain ⟨z,hz,he⟩:=ACr g hl h fr;refine ⟨z,?_,he⟩
   have hd':0≤i∧i<n:=by simpa using hd
   simp [Instr.index,asIntOf,run_underlying hu,hd',sizeOf,typeInfo,iz,hz]
  ·cases h
 ·rename_i s k' c i hu ha;injection h with h;subst h;have hd:=hc.1;simp only [jt] at hd;have:=(A5 (hx _ rfl)).1
  injection this with e _;subst e;obtain ⟨rfl,_⟩:=C3 hi ha;have jb:i.toNat<s.size:=dn
  have hlt':i.toNat<s.data.toList.length:=by simpa using jb
  have AF:s.data.toList.getD i.toNat 0=s[i.toNat]:=by
   rw [kq,nh hlt'];simp [ByteArray.getElem_eq_getElem_data]
  refine ⟨.int .u8 (GE s i),?_,Eff.pure_ g (Az ⟨rfl,rfl,?_⟩)⟩
  ·unfold GE;rw [AF];simp [Instr.index,asIntOf,run_underlying hu,hd.1,jb]
  ·show has .u8 (GE s i);rw [FX];have:=(s.data.toList.getD i.toNat 0).toNat_lt
   show (decide (0≤GE s i)&&decide (GE s i≤255))=true;unfold GE;rw [jx,decide_eq_true_iff,decide_eq_true_iff];omega
 ·cases h
def oE (P:gr) (t:gt) (x ix:Option AV) (ie:List Bool):Option R :=
 match x,P.underlying t,Bp ix with
 | some (.val false [.p bk ic]),some (.array n e),some (c,_,i)=>match Q3 c (decide (0≤i∧i<n)),P.info? e with
  | some l,some inf=>some ⟨.val false [.p bk (ic+i.toNat*inf.size)],[],0,l,ie⟩
  | _,_=>none
 | some (.val false [.sl bk ic len _]),some (.slice e),some (_,_,i)=>match P.info? e with
  | some inf=>some ⟨.val false [.p bk (ic+i.toNat*inf.size)],[],0,[(decide (0≤i∧i<len),true)],ie⟩
  | none=>none
 | some (.val false [.sx bk len _]),some (.slice e),some (_,_,i)=>match P.info? e with
  | some inf=>some ⟨.val false [.p bk (0+i.toNat*inf.size)],[],0,[(decide (0≤i∧i<len),true)],ie⟩
  | none=>none
 | _,_,_=>none
theorem AN5 {t:gt} {x ix:Option AV} {u v:gq} {ie:List Bool} {r:R} (g:Good β H w) (hx:∀ A,x=some A→AO β A u) (hi:∀ A,ix=some A→AO β A v) (h:oE P t x ix ie=some r)
  (hc:AM r.conds) (fr:Nat):∃ z,(Instr.indexAt t u v).run P w=.ok z w∧Eff β fr r w z w β:=by
 unfold oE at h;split at h
 ·rename_i bk ic n e c k i hu ha;split at h
  ·rename_i l inf hl iz;injection h with h;subst h;have hd:=Wu hl hc;simp only [jt] at hd;obtain ⟨B,m,e1,e2⟩:=A5 (hx _ rfl)
   injection e2 with e2 _;subst e2;obtain ⟨rfl,_⟩:=C3 hi ha;refine ⟨_,?_,Eff.pure_ g (Az ⟨B,m,e1,rfl⟩)⟩
   simp [Instr.indexAt,asIntOf,run_underlying hu,Instr.sureAddr,hd,sizeOf,typeInfo,iz,Addr.add_lit,Nat.add_assoc]
  ·cases h
 ·rename_i bk ic len cap e c k i hu ha;split at h
  ·rename_i inf iz;injection h with h;subst h;have hd:=hc.1;simp only [jt] at hd;obtain ⟨rfl,_⟩:=C3 hi ha;rcases A5 (hx _ rfl) with ⟨B,m,e1,e2⟩ | ⟨_,_,e2,_⟩ | ⟨_,_,e2,_⟩
   ·injection e2 with e2 _;subst e2;refine ⟨_,?_,Eff.pure_ g (Az ⟨B,m,e1,rfl⟩)⟩
    simp [Instr.indexAt,asIntOf,run_underlying hu,hd,sizeOf,typeInfo,iz,Addr.add_lit,Nat.add_assoc]
   ·subst e2;omega
   ·subst e2;omega
  ·cases h
 ·rename_i bk len sz e c k i hu ha;split at h
  ·rename_i inf iz;injection h with h;subst h;have hd:=hc.1;simp only [jt] at hd;obtain ⟨rfl,_⟩:=C3 hi ha;rcases A5 (hx _ rfl) with ⟨B,m,cap,e1,e2,_⟩ | ⟨_,e2,_⟩
   ·injection e2 with e2 _;subst e2;refine ⟨_,?_,Eff.pure_ g (Az ⟨B,(m,0),e1,rfl⟩)⟩
    simp [Instr.indexAt,asIntOf,run_underlying hu,hd,sizeOf,typeInfo,iz,Addr.add_lit]
   ·subst e2;omega
  ·cases h
 ·cases h
def MO (d top:Nat) (x:Option (Option AV)):Option (Nat×du) :=
 match x with
 | none=>some (d,[])
 | some a=>match Bp a with
  | some (_,_,i)=>some (i.toNat,[(decide (0≤i∧i≤top),true)])
  | none=>none
def D9 (β:Env) (x:Option (Option AV)) (v:Option gq):Prop :=
 match x,v with
 | none,none=>True
 | some a,some v=>∀ A,a=some A→AO β A v
 | _,_=>False
theorem I6 {d top y:Nat} {x:Option (Option AV)} {v:Option gq} {c:du} (hv:D9 β x v) (h:MO d top x=some (y,c)) (hc:AM c) :
  (v=none∧y=d)∨(∃ k i,v=some (.int k i)∧0≤i∧i≤top∧y=i.toNat):=by
 unfold MO at h;split at h
 ·injection h with h;injection h with h1 h2;subst h1;cases v
  ·exact .inl ⟨rfl,rfl⟩
  ·simp [D9] at hv
 ·split at h
  ·rename_i a b k i ha;injection h with h;injection h with h1 h2;subst h1;subst h2;cases v with
   | none=>simp [D9] at hv
   | some v =>
    obtain ⟨rfl,_⟩:=C3 hv ha;have:=hc.1
    simp only [jt] at this;exact .inr ⟨k,i,rfl,this.1,this.2,rfl⟩
  ·cases h
theorem Q5 (b:Bool) (len cap l h m:Nat) (lo hi mx:Option gq)
  (hm:(mx=none∧m=cap)∨(∃ k i,mx=some (.int k i)∧0≤i∧i≤cap∧m=i.toNat))
  (hh:(hi=none∧h=len∧mx=none)∨(∃ k i,hi=some (.int k i)∧0≤i∧i≤m∧h=i.toNat))
  (hl:(lo=none∧l=0)∨(∃ k i,lo=some (.int k i)∧0≤i∧i≤h∧l=i.toNat)) :
  (Instr.sliceBounds b len cap lo hi mx).run P w=.ok (l,h,m) w:=by
 rcases hm with ⟨rfl,rfl⟩ | ⟨km,im,rfl,m1,m2,rfl⟩
 ·rcases hh with ⟨rfl,rfl,_⟩ | ⟨kh,ih,rfl,h1,h2,rfl⟩
  ·rcases hl with ⟨rfl,rfl⟩ | ⟨kl,il,rfl,l1,l2,rfl⟩
   ·simp [Instr.sliceBounds]
   ·simp [Instr.sliceBounds,run_sliceBound w kl il _ _ l1 l2]
  ·rcases hl with ⟨rfl,rfl⟩ | ⟨kl,il,rfl,l1,l2,rfl⟩
   ·simp [Instr.sliceBounds,run_sliceBound w kh ih _ _ h1 h2]
   ·simp [Instr.sliceBounds,run_sliceBound w kh ih _ _ h1 h2,run_sliceBound w kl il _ _ l1 l2]
 ·rcases hh with ⟨_,_,hc⟩ | ⟨kh,ih,rfl,h1,h2,rfl⟩
  ·cases hc
  ·rcases hl with ⟨rfl,rfl⟩ | ⟨kl,il,rfl,l1,l2,rfl⟩
   ·simp [Instr.sliceBounds,run_sliceBound w km im _ _ m1 m2,run_sliceBound w kh ih _ _ h1 h2]
   ·simp [Instr.sliceBounds,run_sliceBound w km im _ _ m1 m2,run_sliceBound w kh ih _ _ h1 h2,run_sliceBound w kl il _ _ l1 l2]
def MP (len cap:Nat) (lo hi mx:Option (Option AV)):Option (Nat×Nat×Nat×du) :=
 match hi,mx with
 | none,some _=>none
 | _,_=>match MO cap cap mx with
  | some (m,c1)=>match MO len m hi with
   | some (h,c2)=>match MO 0 h lo with
    | some (l,c3)=>some (l,h,m,c1++(c2++c3))
    | none=>none
   | none=>none
  | none=>none
theorem T5 (b:Bool) {len cap l h m:Nat} {lo hi mx:Option (Option AV)} {vl vh vm:Option gq} {c:du} (rl:D9 β lo vl) (rh:D9 β hi vh) (rm:D9 β mx vm)
  (hb:MP len cap lo hi mx=some (l,h,m,c)) (hc:AM c):(Instr.sliceBounds b len cap vl vh vm).run P w=.ok (l,h,m) w:=by
 unfold MP at hb;split at hb
 ·cases hb
 ·rename_i ji;split at hb
  ·rename_i m' c1 h1;split at hb
   ·rename_i h' c2 h2;split at hb
    ·rename_i l' c3 h3;injection hb with hb;injection hb with e1 hb;injection hb with e2 hb;injection hb with e3 e4;subst e1;subst e2;subst e3;subst e4;obtain ⟨o1,o2⟩:=Bz.1 hc;obtain ⟨o2,o3⟩:=Bz.1 o2;refine Q5 b len cap _ _ _ _ _ _ (I6 rm h1 o1) ?_ (I6 rl h3 o3)
     rcases I6 rh h2 o2 with ⟨e1,e2⟩ | e
     ·refine .inl ⟨e1,e2,?_⟩
      subst e1;cases hi with
      | some a=>simp [D9] at rh
      | none =>
       cases mx with
       | none=>cases vm with
        | none=>rfl
        | some v=>simp [D9] at rm
       | some a=>exact absurd rfl (ji a rfl)
     ·exact .inr e
    ·cases hb
   ·cases hb
  ·cases hb
theorem ACs {l h m:Nat} {lo hi mx:Option (Option AV)} {vl vh vm:Option gq} {c:du} (rl:D9 β lo vl) (rh:D9 β hi vh) (rm:D9 β mx vm)
  (hb:MP 0 0 lo hi mx=some (l,h,m,c)) (hc:AM c):l=0∧h=0∧m=0:=by
 unfold MP at hb;split at hb
 ·cases hb
 ·split at hb
  ·rename_i m' c1 h1;split at hb
   ·rename_i h' c2 h2;split at hb
    ·rename_i l' c3 h3;injection hb with hb;injection hb with e1 hb;injection hb with e2 hb;injection hb with e3 e4;subst e1;subst e2;subst e3;subst e4;obtain ⟨o1,o2⟩:=Bz.1 hc;obtain ⟨o2,o3⟩:=Bz.1 o2;have hm:m'=0:=by rcases I6 rm h1 o1 with ⟨_,e⟩ | ⟨_,i,_,_,_,e⟩<;>omega
     have hh:h'=0:=by rcases I6 rh h2 o2 with ⟨_,e⟩ | ⟨_,i,_,_,_,e⟩<;>omega
     have hl:l'=0:=by rcases I6 rl h3 o3 with ⟨_,e⟩ | ⟨_,i,_,_,_,e⟩<;>omega
     exact ⟨hl,hh,hm⟩
    ·cases hb
   ·cases hb
  ·cases hb
theorem AN6 (M:Nat) {l h m:Nat} {lo hi mx:Option (Option AV)} {vl vh vm:Option gq} {c:du} (rl:D9 β lo vl) (rh:D9 β hi vh) (rm:D9 β mx vm)
  (hb:MP 0 0 lo hi mx=some (l,h,m,c)) (hc:AM c):∃ M',(Instr.sliceBounds true 0 M vl vh vm).run P w=.ok (0,0,M') w:=by
 unfold MP at hb;split at hb
 ·cases hb
 ·rename_i ji;split at hb
  ·rename_i m' c1 h1;split at hb
   ·rename_i h' c2 h2;split at hb
    ·rename_i l' c3 h3;injection hb with hb;injection hb with e1 hb;injection hb with e2 hb;injection hb with e3 e4;subst e1;subst e2;subst e3;subst e4;obtain ⟨o1,o2⟩:=Bz.1 hc;obtain ⟨o2,o3⟩:=Bz.1 o2;have hm:m'=0:=by rcases I6 rm h1 o1 with ⟨_,e⟩ | ⟨_,i,_,_,_,e⟩<;>omega
     have hh:h'=0:=by rcases I6 rh h2 o2 with ⟨_,e⟩ | ⟨_,i,_,_,_,e⟩<;>omega
     have hl:l'=0:=by rcases I6 rl h3 o3 with ⟨_,e⟩ | ⟨_,i,_,_,_,e⟩<;>omega
     subst hm;subst hh;subst hl;have key:∀ M',((vm=none∧M'=M)∨(∃ k i,vm=some (.int k i)∧0≤i∧i≤M∧M'=i.toNat))→(Instr.sliceBounds true 0 M vl vh vm).run P w=.ok (0,0,M') w:=by
      intro M' hM;refine Q5 true 0 M 0 0 M' _ _ _ hM ?_ (I6 rl h3 o3)
      rcases I6 rh h2 o2 with ⟨e1,_⟩ | ⟨k,i,e1,e2,e3,e4⟩
      ·refine .inl ⟨e1,rfl,?_⟩
       subst e1;cases hi with
       | some a=>simp [D9] at rh
       | none =>
        cases mx with
        | none=>cases vm with
         | none=>rfl
         | some v=>simp [D9] at rm
        | some a=>exact absurd rfl (ji a rfl)
      ·exact .inr ⟨k,i,e1,e2,dn,e4⟩
     rcases I6 rm h1 o1 with ⟨e1,_⟩ | ⟨k,i,e1,e2,e3,e4⟩
     ·exact ⟨_,key _ (.inl ⟨e1,rfl⟩)⟩
     ·exact ⟨_,key _ (.inr ⟨k,i,e1,e2,dn,rfl⟩)⟩
    ·cases hb
   ·cases hb
  ·cases hb
def oF (P:gr) (t:gt) (x:Option AV) (lo hi mx:Option (Option AV)) (ie:List Bool):Option R :=
 match x,P.underlying t with
 | some (.val false [.p bk ic]),some (.array n e)=>match MP n n lo hi mx,P.info? e with
  | some (l,h,m,c),some inf=>match Nat.beq m l with
   | true=>some ⟨.val false [.sl bk ic (h-l) (m-l)],[],0,c,ie⟩
   | false=>some ⟨.val false [.sl bk (ic+l*inf.size) (h-l) (m-l)],[],0,c,ie⟩
  | _,_=>none
 | some (.val false [.sl bk ic len cap]),some (.slice e)=>match MP len cap lo hi mx,P.info? e,lo with
  | some (l,h,m,c),some _,none=>some ⟨.val false [.sl bk ic (h-l) (m-l)],[],0,c++[(Nat.beq l 0,true)],ie⟩
  | some (l,h,m,c),some inf,some _=>match ie with
   | true::ij=>some ⟨.val false [.sl bk ic (h-l) (m-l)],[],0,c++[(Nat.beq m l,true)],ij⟩
   | false::ij=>some ⟨.val false [.sl bk (ic+l*inf.size) (h-l) (m-l)],[],0,c++[(Nat.beq m l,false)],ij⟩
   | []=>none
  | _,_,_=>none
 | some (.val false [.sx bk len sz]),some (.slice e)=>match lo,P.info? e with
  | none,some _=>match hi,mx with
   | some _,none=>match MO len len hi with
    | some (h,c)=>some ⟨.val false [.sx bk h sz],[],0,c,ie⟩
    | none=>none
   | some _,some _=>match MO len len mx with
    | some (m,c1)=>match MO len m hi with
     | some (h,c2)=>some ⟨.val false [.sl bk 0 h m],[],0,c1++c2,ie⟩
     | none=>none
    | none=>none
   | _,_=>none
  | _,_=>none
 | some (.val false [.v (.slice none 0 0)]),some (.slice e)=>match lo,mx,P.info? e with
  | none,none,some _=>match hi with
   | some _=>match MO 0 0 hi with
    | some (_,c)=>some ⟨.val false [.v (.slice none 0 0)],[],0,c,ie⟩
    | none=>none
   | none=>none
  | _,_,_=>none
 | _,_=>none
theorem Z_ {β:Env} {d top y:Nat} {x:Option AV} {v:Option gq} {c:du} (hv:D9 β (some x) v) (h:MO d top (some x)=some (y,c)) (hc:AM c):∃ k i,v=some (.int k i)∧0≤i∧i≤top∧y=i.toNat:=by
 rcases I6 hv h hc with ⟨rfl,_⟩ | h
 ·simp [D9] at hv
 ·exact h
theorem AN7 {t:gt} {x:Option AV} {u:gq} {lo hi mx:Option (Option AV)} {vl vh vm:Option gq} {ie:List Bool} {r:R} (g:Good β H w) (hx:∀ A,x=some A→AO β A u)
  (rl:D9 β lo vl) (rh:D9 β hi vh) (rm:D9 β mx vm) (h:oF P t x lo hi mx ie=some r) (hc:AM r.conds) (fr:Nat) :
  ∃ z,(Instr.sliceAt t u vl vh vm).run P w=.ok z w∧Eff β fr r w z w β:=by
 unfold oF at h;split at h
 ·rename_i bk ic n e hu;split at h
  ·rename_i l hh m c inf hb iz;obtain ⟨B,nn,e1,e2⟩:=A5 (hx _ rfl)
   injection e2 with e2 _;subst e2;split at h
   ·rename_i hm;injection h with h;subst h;have hr:=T5 (P:=P) (w:=w) false rl rh rm hb hc
    refine ⟨_,?_,Eff.pure_ g (Az (.inl ⟨B,nn,e1,rfl⟩))⟩
    simp [Instr.sliceAt,run_underlying hu,Instr.sureAddr,hr,sizeOf,typeInfo,iz,Ar.1 hm]
   ·rename_i hm;injection h with h;subst h;have hr:=T5 (P:=P) (w:=w) false rl rh rm hb hc
    refine ⟨_,?_,Eff.pure_ g (Az (.inl ⟨B,nn,e1,rfl⟩))⟩
    simp [Instr.sliceAt,run_underlying hu,Instr.sureAddr,hr,sizeOf,typeInfo,iz,I4 hm,Addr.add_lit,Nat.add_assoc]
  ·cases h
 ·rename_i bk ic len cap e hu;rcases A5 (hx _ rfl) with ⟨B,nn,e1,e2⟩ | ⟨e1,z1,z2,z3,e2⟩ | ⟨e1,z1,z2,z3,a,M,e2⟩
  case inr.inl =>
   injection e2 with e2 _;subst e2;subst z1;subst z2;subst z3;have hs:(Instr.sliceAt t (.slice none 0 0) vl vh vm).run P w=(Instr.slice t (.slice none 0 0) vl vh vm).run P w:=by
    simp [Instr.sliceAt,run_underlying hu]
   rw [hs];have core:∀ (l hh m:Nat) (c:du) (inf:TypeInfo),MP 0 0 lo hi mx=some (l,hh,m,c)→AM c→P.info? e=some inf→(Instr.slice t (.slice none 0 0) vl vh vm).run P w=.ok (.slice none 0 0) w∧l=0∧hh=0∧m=0:=by
    intro l hh m c inf hb o1 iz;obtain ⟨rfl,rfl,rfl⟩:=ACs rl rh rm hb o1;have hr:=T5 (P:=P) (w:=w) true rl rh rm hb o1
    exact ⟨by simp [Instr.slice,run_underlying hu,hr,sizeOf,typeInfo,iz],rfl,rfl,rfl⟩
   split at h
   ·rename_i l hh m c inf _ _;have iz:P.info? e=some inf:=by assumption
    injection h with h;subst h;obtain ⟨o1,o2⟩:=Bz.1 hc;obtain ⟨q,rfl,rfl,rfl⟩:=core _ _ _ _ _ (by assumption) o1 iz
    exact ⟨_,q,Eff.pure_ g (Az (.inr (.inl ⟨e1,rfl,rfl,rfl,rfl⟩)))⟩
   ·rename_i l hh m c inf lo' _ _;have iz:P.info? e=some inf:=by assumption
    split at h
    ·injection h with h;subst h;obtain ⟨o1,o2⟩:=Bz.1 hc;obtain ⟨q,rfl,rfl,rfl⟩:=core _ _ _ _ _ (by assumption) o1 iz
     exact ⟨_,q,Eff.pure_ g (Az (.inr (.inl ⟨e1,rfl,rfl,rfl,rfl⟩)))⟩
    ·injection h with h;subst h;obtain ⟨o1,o2⟩:=Bz.1 hc;obtain ⟨q,rfl,rfl,rfl⟩:=core _ _ _ _ _ (by assumption) o1 iz
     cases o2.1
    ·cases h
   ·cases h
  case inr.inr =>
   injection e2 with e2 _;subst e2;subst z1;subst z2;subst z3;have hs:(Instr.sliceAt t (.slice (some a) 0 M) vl vh vm).run P w=(Instr.slice t (.slice (some a) 0 M) vl vh vm).run P w:=by
    simp [Instr.sliceAt,run_underlying hu]
   rw [hs];have core:∀ (l hh m:Nat) (c:du) (inf:TypeInfo),MP 0 0 lo hi mx=some (l,hh,m,c)→AM c→P.info? e=some inf→(∃ a' M',(Instr.slice t (.slice (some a) 0 M) vl vh vm).run P w=.ok (.slice (some a') 0 M') w)∧l=0∧hh=0∧m=0:=by
    intro l hh m c inf hb o1 iz;obtain ⟨M',hr⟩:=AN6 (P:=P) (w:=w) M rl rh rm hb o1
    obtain ⟨rfl,rfl,rfl⟩:=ACs rl rh rm hb o1;refine ⟨⟨(if M'=0 then a else a.add (0*inf.size)),M',?_⟩,rfl,rfl,rfl⟩
    by_cases hM:M'=0
    ·simp [Instr.slice,run_underlying hu,hr,sizeOf,typeInfo,iz,hM]
    ·simp [Instr.slice,run_underlying hu,hr,sizeOf,typeInfo,iz,hM]
   split at h
   ·rename_i l hh m c inf _ _;have iz:P.info? e=some inf:=by assumption
    injection h with h;subst h;obtain ⟨o1,o2⟩:=Bz.1 hc;obtain ⟨⟨a',M',q⟩,rfl,rfl,rfl⟩:=core _ _ _ _ _ (by assumption) o1 iz
    exact ⟨_,q,Eff.pure_ g (Az (.inr (.inr ⟨e1,rfl,rfl,rfl,a',M',rfl⟩)))⟩
   ·rename_i l hh m c inf lo' _ _;have iz:P.info? e=some inf:=by assumption
    split at h
    ·injection h with h;subst h;obtain ⟨o1,o2⟩:=Bz.1 hc;obtain ⟨⟨a',M',q⟩,rfl,rfl,rfl⟩:=core _ _ _ _ _ (by assumption) o1 iz
     exact ⟨_,q,Eff.pure_ g (Az (.inr (.inr ⟨e1,rfl,rfl,rfl,a',M',rfl⟩)))⟩
    ·injection h with h;subst h;obtain ⟨o1,o2⟩:=Bz.1 hc;obtain ⟨q,rfl,rfl,rfl⟩:=core _ _ _ _ _ (by assumption) o1 iz
     cases o2.1
    ·cases h
   ·cases h
  injection e2 with e2 _;subst e2;split at h
  ·rename_i l hh m c inf _ _;have iz:P.info? e=some inf:=by assumption
   injection h with h;subst h;obtain ⟨o1,o2⟩:=Bz.1 hc;have hr:=T5 (P:=P) (w:=w) true rl rh rm (by assumption) o1
   have hl:=Ar.1 o2.1;subst hl;refine ⟨_,?_,Eff.pure_ g (Az (.inl ⟨B,nn,e1,rfl⟩))⟩
   have hs:(Instr.sliceAt t (.slice (some ⟨B,nn.2+ic,none⟩) len cap) vl vh vm).run P w=(Instr.slice t (.slice (some ⟨B,nn.2+ic,none⟩) len cap) vl vh vm).run P w:=by
    simp [Instr.sliceAt,run_underlying hu]
   rw [hs];simp [Instr.slice,run_underlying hu,hr,sizeOf,typeInfo,iz,Addr.add_lit,Nat.add_assoc]
  ·rename_i l hh m c inf lo' _ _;have iz:P.info? e=some inf:=by assumption
   have hs:(Instr.sliceAt t (.slice (some ⟨B,nn.2+ic,none⟩) len cap) vl vh vm).run P w=(Instr.slice t (.slice (some ⟨B,nn.2+ic,none⟩) len cap) vl vh vm).run P w:=by
    simp [Instr.sliceAt,run_underlying hu]
   rw [hs];split at h
   ·injection h with h;subst h;obtain ⟨o1,o2⟩:=Bz.1 hc;have hr:=T5 (P:=P) (w:=w) true rl rh rm (by assumption) o1
    refine ⟨_,?_,Eff.pure_ g (Az (.inl ⟨B,nn,e1,rfl⟩))⟩
    simp [Instr.slice,run_underlying hu,hr,sizeOf,typeInfo,iz,Ar.1 o2.1]
   ·injection h with h;subst h;obtain ⟨o1,o2⟩:=Bz.1 hc;have hr:=T5 (P:=P) (w:=w) true rl rh rm (by assumption) o1
    refine ⟨_,?_,Eff.pure_ g (Az (.inl ⟨B,nn,e1,rfl⟩))⟩
    simp [Instr.slice,run_underlying hu,hr,sizeOf,typeInfo,iz,I4 o2.1,Addr.add_lit,Nat.add_assoc]
   ·cases h
  ·cases h
 ·rename_i bk len sz e hu;have core:∀ (base:Option Addr) (cap hh m:Nat) (inf:TypeInfo),P.info? e=some inf→(base=none→cap=0)→(Instr.sliceBounds true len cap vl vh vm).run P w=.ok (0,hh,m) w →
    (Instr.sliceAt t (.slice base len cap) vl vh vm).run P w=.ok (.slice base hh m) w:=by
   intro base cap hh m inf iz _ hr;have hs:(Instr.sliceAt t (.slice base len cap) vl vh vm).run P w=(Instr.slice t (.slice base len cap) vl vh vm).run P w:=by
    simp [Instr.sliceAt,run_underlying hu]
   rw [hs];cases base with
   | none=>simp [Instr.slice,run_underlying hu,hr,sizeOf,typeInfo,iz]
   | some a =>
    simp [Instr.slice,run_underlying hu,hr,sizeOf,typeInfo,iz]
    intro _;simp [Addr.add]
  split at h;case h_2=>cases h
  rename_i inf iz;have hvl:vl=none:=by cases vl with | none=>rfl | some v=>simp [D9] at rl
  subst hvl;split at h
  ·rename_i hi';have hvm:vm=none:=by cases vm with | none=>rfl | some v=>simp [D9] at rm
   subst hvm;split at h;case h_2=>cases h
   rename_i y c hb;injection h with h;subst h;obtain ⟨k,i,rfl,h1,h2,rfl⟩:=Z_ rh hb hc;rcases A5 (hx _ rfl) with ⟨B,nn,cap,e1,e2,e3,e4⟩ | ⟨e1,rfl,e2⟩
   ·injection e2 with e2 _;subst e2;refine ⟨_,core _ cap i.toNat cap inf iz (fun h=>by cases h) (Q5 true len cap 0 _ _ _ _ _ (.inl ⟨rfl,rfl⟩) (.inr ⟨k,i,rfl,h1,dn,rfl⟩) (.inl ⟨rfl,rfl⟩)),Eff.pure_ g (Az (.inl ⟨B,nn,cap,e1,rfl,dn,e4⟩))⟩
   ·injection e2 with e2 _;subst e2;have hi0:i.toNat=0:=dn
    refine ⟨_,core _ 0 i.toNat 0 inf iz (fun _=>rfl) (Q5 true 0 0 0 _ _ _ _ _ (.inl ⟨rfl,rfl⟩) (.inr ⟨k,i,rfl,h1,dn,rfl⟩) (.inl ⟨rfl,rfl⟩)),?_⟩
    rw [hi0];exact Eff.pure_ g (Az (.inr ⟨e1,rfl,rfl⟩))
  ·rename_i hi' mx';split at h;case h_2=>cases h
   rename_i m c1 hb1;split at h;case h_2=>cases h
   rename_i y c2 hb2;injection h with h;subst h;obtain ⟨o1,o2⟩:=Bz.1 hc;obtain ⟨km,im,rfl,m1,m2,rfl⟩:=Z_ rm hb1 o1;obtain ⟨k,i,rfl,h1,h2,rfl⟩:=Z_ rh hb2 o2;rcases A5 (hx _ rfl) with ⟨B,nn,cap,e1,e2,e3,e4⟩ | ⟨e1,rfl,e2⟩
   ·injection e2 with e2 _;subst e2;refine ⟨_,core _ cap i.toNat im.toNat inf iz (fun h=>by cases h) (Q5 true len cap 0 _ _ _ _ _ (.inr ⟨km,im,rfl,m1,dn,rfl⟩) (.inr ⟨k,i,rfl,h1,h2,rfl⟩) (.inl ⟨rfl,rfl⟩)),Eff.pure_ g (Az (.inl ⟨B,(nn,0),e1,rfl⟩))⟩
   ·injection e2 with e2 _;subst e2;have hm0:im.toNat=0:=dn
    have hi0:i.toNat=0:=dn
    refine ⟨_,core _ 0 i.toNat im.toNat inf iz (fun _=>rfl) (Q5 true 0 0 0 _ _ _ _ _ (.inr ⟨km,im,rfl,m1,dn,rfl⟩) (.inr ⟨k,i,rfl,h1,h2,rfl⟩) (.inl ⟨rfl,rfl⟩)),?_⟩
    rw [hm0,hi0];exact Eff.pure_ g (Az (.inr (.inl ⟨e1,rfl,rfl,rfl,rfl⟩)))
  ·cases h
 ·rename_i e hu;split at h;case h_2=>cases h
  rename_i inf iz;have hvl:vl=none:=by cases vl with | none=>rfl | some v=>simp [D9] at rl
  have hvm:vm=none:=by cases vm with | none=>rfl | some v=>simp [D9] at rm
  subst hvl;subst hvm;split at h;case h_2=>cases h
  split at h;case h_2=>cases h
  rename_i y c hb;injection h with h;subst h;obtain ⟨k,i,rfl,h1,h2,rfl⟩:=Z_ rh hb hc;have:=(A5 (hx _ rfl)).1
  injection this with e2 _;subst e2;have hi0:i.toNat=0:=dn
  refine ⟨.slice none 0 0,?_,Eff.pure_ g (Az ⟨rfl,rfl,trivial⟩)⟩
  have hs:(Instr.sliceAt t (.slice none 0 0) none (some (.int k i)) none).run P w=(Instr.slice t (.slice none 0 0) none (some (.int k i)) none).run P w:=by
   simp [Instr.sliceAt,run_underlying hu]
  have hr:=Q5 (P:=P) (w:=w) true 0 0 0 i.toNat 0 none (some (.int k i)) none (.inl ⟨rfl,rfl⟩) (.inr ⟨k,i,rfl,h1,dn,rfl⟩) (.inl ⟨rfl,rfl⟩)
  rw [hi0] at hr;rw [hs];simp [Instr.slice,run_underlying hu,hr,sizeOf,typeInfo,iz]
 ·cases h
def oG (P:gr) (t:gt) (x:Option AV) (ie:List Bool):Option R :=
 match x,P.underlying t with
 | some (.val false [.sl bk ic len _]),some (.array n _)=>some ⟨.val false [.p bk ic],[],0,[(Nat.ble n len&&!Nat.beq len 0,true)],ie⟩
 | some (.val false [.sx bk len _]),some (.array n _)=>some ⟨.val false [.p bk 0],[],0,[(Nat.ble n len&&!Nat.beq len 0,true)],ie⟩
 | _,_=>none
theorem AN8 {t:gt} {x:Option AV} {u:gq} {ie:List Bool} {r:R} (g:Good β H w) (hx:∀ A,x=some A→AO β A u) (h:oG P t x ie=some r) (hc:AM r.conds) (fr:Nat) :
  ∃ z,(Instr.arrayAt t u).run P w=.ok z w∧Eff β fr r w z w β:=by
 unfold oG at h;split at h
 ·rename_i bk ic len cap n e hu;injection h with h;subst h;have hc1:=hc.1;simp only [jx,Bool.not_eq_true'] at hc1;have je:=jp hc1.1;have hz:=I4 hc1.2;rcases A5 (hx _ rfl) with ⟨B,nn,e1,e2⟩ | ⟨_,_,e2,_⟩ | ⟨_,_,e2,_⟩
  ·injection e2 with e2 _;subst e2;refine ⟨_,?_,Eff.pure_ g (Az ⟨B,nn,e1,rfl⟩)⟩
   simp [Instr.arrayAt,run_underlying hu,show ¬ len<n by omega]
  ·exact absurd e2 hz
  ·exact absurd e2 hz
 ·rename_i bk len sz n e hu;injection h with h;subst h;have h1:=hc.1;simp only [jx,Bool.not_eq_true'] at h1;have je:=jp h1.1;have hz:=I4 h1.2;rcases A5 (hx _ rfl) with ⟨B,nn,cap,e1,e2,_⟩ | ⟨_,e2,_⟩
  ·injection e2 with e2 _;subst e2;refine ⟨_,?_,Eff.pure_ g (Az ⟨B,(nn,0),e1,rfl⟩)⟩
   simp [Instr.arrayAt,run_underlying hu,show ¬ len<n by omega]
  ·exact absurd e2 hz
 ·cases h
theorem AN9 (v:List gq):∀ (cells:List gq) (ic:Nat) (j:Nat),ic+j+v.length≤cells.length →
  (v.zipIdx j).foldl (fun (cs:Array gq) (x:gq×Nat)=>cs.setIfInBounds (ic+x.2) x.1) ⟨cells⟩=⟨cells.take (ic+j)++v++cells.drop (ic+j+v.length)⟩:=by
 induction v with
 | nil=>intro cells ic j _;simp
 | cons x v ih =>
  intro cells ic j h;simp only [List.zipIdx_cons,List.foldl_cons];have jb:ic+j<cells.length:=by simp at h;omega
  have e:(⟨cells⟩:Array gq).setIfInBounds (ic+j) x=⟨cells.set (ic+j) x⟩:=by
   apply mz;simp
  rw [e,ih _ ic (j+1) (by simp at h ⊢;omega)]
  congr 1
  have:=list_seg_step cells (ic+j) x v (by simp at h;omega)
  simpa [Nat.add_assoc] using this
def Q6 (τ:Nat→AV) (place:Nat→Option (Nat×Nat)) (zs:List Ch):List (Nat×Operand)→Option (List Ch)
 | []=>some zs
 | (i,x)::ij=>match place i,B5 τ x with
  | some (ic,size),some (.val _ cs)=>match Nat.beq (MF cs) size,Wp zs ic size cs with
   | true,some zs'=>Q6 τ place zs' ij
   | _,_=>none
  | _,_=>none
theorem Z' {τ:Nat→AV} {a:Act} (ht:∀ t,AO β (τ t) (a.tmps.getD t undef)) {place:Nat→Option (Nat×Nat)}:∀ {parts:List (Nat×Operand)} {zs cs:List Ch} {l:List gq},Q6 τ place zs parts=some cs→AP β zs l →
  ∃ l',Instr.fill place ⟨l⟩ (parts.map fun (i,x)=>(i,a.eval x))=some ⟨l'⟩∧AP β cs l'
 | [],zs,cs,l,h,hl=>by
  simp only [Q6,ke] at h;subst h;exact ⟨l,rfl,hl⟩
 | (i,x)::ij,zs,cs,l,h,hl=>by
  simp only [Q6] at h;split at h
  ·rename_i ic size gg c hp hx;split at h
   ·rename_i zs' hz hs;have hr:=Ty (I5 ht hx)
    obtain ⟨r1,r2⟩:=nO hs hl hr;obtain ⟨l',h1,h2⟩:=Z' ht h r1;refine ⟨l',?_,h2⟩
    have ii:(a.eval x).cells.size=size:=by
     have:=Tv hr
     rw [Ar.1 hz] at this;simpa using this
    simp only [lz,Instr.fill,hp,ii];rw [jn (by simp;omega)]
    have e:Array.foldl (fun (cs:Array gq) (x:gq×Nat)=>cs.setIfInBounds (ic+x.2) x.1) ⟨l⟩ (a.eval x).cells.zipIdx=⟨l.take ic++(a.eval x).cells.toList++l.drop (ic+size)⟩:=by
     rw [← Array.foldl_toList,Array.toList_zipIdx,AN9 _ l ic 0 (by rw [u_,ii];omega)]
     simp [ii]
    rw [← h1];congr 1
   ·cases h
  ·cases h
def oH (P:gr) (τ:Nat→AV) (t:gt) (parts:List (Nat×Operand)) (ie:List Bool):Option R :=
 match P.underlying t,P.info? t with
 | some (.struct fs),some i=>match i.zero with
  | some z=>match Q2 z with
   | some (.val _ zs)=>match Q6 τ (fun j=>match fs[j]? with | some f=>some (f.offset,P.cellsOf f.type) | none=>none) zs parts,fs.all fun f=>(P.info? f.type).isSome with
    | some cs,true=>some (CK (.val true cs) ie)
    | _,_=>none
   | _=>none
  | none=>none
 | some (.array _ e),some i=>match i.zero,P.info? e with
  | some z,some inf=>match Q2 z with
   | some (.val _ zs)=>match Q6 τ (fun j=>some (j*inf.size,inf.size)) zs parts with
    | some cs=>some (CK (.val true cs) ie)
    | none=>none
   | _=>none
  | _,_=>none
 | _,_=>none
theorem AN_ (fs:Array Field) (h:(fs.all fun f=>(P.info? f.type).isSome)=true) (w:gn) :
  (fs.mapM (m:=Sem) fun f=>do pure (f.offset,← sizeOf f.type)).run P w=.ok (fs.map fun f=>(f.offset,P.cellsOf f.type)) w:=by
 have hall0:=Array.all_eq_true_iff_forall_mem.1 h;obtain ⟨l⟩:=fs;rw [Array.mapM_eq_mapM_toList];have ip:∀ f∈l,(P.info? f.type).isSome=true:=fun f hf=>hall0 f (by simpa using hf)
 have key:∀ l:List Field,(∀ f∈l,(P.info? f.type).isSome=true)→(l.mapM (m:=Sem) fun f=>do pure (f.offset,← sizeOf f.type)).run P w=.ok (l.map fun f=>(f.offset,P.cellsOf f.type)) w:=by
  intro l;induction l with
  | nil=>intro _;simp
  | cons f l ih =>
   intro hl;obtain ⟨i,hi⟩:=mc.1 (hl f (by simp))
   simp only [List.mapM_cons,Sem.run_bind,run_sizeOf w hi,Result.andThen_ok,Sem.run_pure,ih (fun g hg=>hl g (by simp [hg])),lz]
 simp only [Sem.run_map,key l ip];simp
theorem AN' {τ:Nat→AV} {a:Act} (ht:∀ t,AO β (τ t) (a.tmps.getD t undef)) {t:gt} {parts:Array (Nat×Operand)} {ie:List Bool} {r:R} (g:Good β H w)
  (h:oH P τ t parts.toList ie=some r) (fr:Nat):∃ z,(Instr.build t (parts.map fun (i,x)=>(i,a.eval x))).run P w=.ok z w∧Eff β fr r w z w β:=by
 unfold oH at h;split at h
 ·rename_i fs i hu hi;split at h
  ·rename_i z hz;split at h
   ·rename_i gg zs hc;split at h
    ·rename_i cs hf ip;injection h with h;subst h;have hr:=Ty (Z3 (β:=β) hc)
     obtain ⟨l',h1,h2⟩:=Z' ht hf hr;refine ⟨.agg ⟨l'⟩,?_,Eff.pure_ g ⟨l',h2,rfl⟩⟩
     have hp:=AN_ (P:=P) fs ip w
     simp only [Instr.build,Sem.run_bind,zeroValue,typeInfo,run_program,Result.andThen_ok,hi,Sem.run_pure,hz,run_underlying hu,hp];have e:(fun (j:Nat)=>(fs.map fun (f:Field)=>(f.offset,P.cellsOf f.type))[j]?)=(fun j=>match fs[j]? with | some f=>some (f.offset,P.cellsOf f.type) | none=>none):=by
      funext j
      simp only [Array.getElem?_map];cases fs[j]?<;>rfl
     simp only [r_,e,h1];rfl
    ·cases h
   ·cases h
  ·cases h
 ·rename_i n e i hu hi;split at h
  ·rename_i z inf hz iz;split at h
   ·rename_i gg zs hc;split at h
    ·rename_i cs hf;injection h with h;subst h;have hr:=Ty (Z3 (β:=β) hc)
     obtain ⟨l',h1,h2⟩:=Z' ht hf hr;refine ⟨.agg ⟨l'⟩,?_,Eff.pure_ g ⟨l',h2,rfl⟩⟩
     simp only [Instr.build,Sem.run_bind,zeroValue,typeInfo,run_program,Result.andThen_ok,hi,Sem.run_pure,hz,run_underlying hu,sizeOf,iz];simp only [r_,h1];rfl
    ·cases h
   ·cases h
  ·cases h
 ·cases h
def PE (z:gq) (n:Nat):List gq:=match n with
 | 0=>[]
 | n+1=>(List.range (n+1)).map (z.cells[· % z.cells.size]!)
theorem AOA (z:gq) (n:Nat):((Array.range n).map fun j=>(if n=0 then #[] else z.cells)[j % (if n=0 then #[] else z.cells).size]!)=⟨PE z n⟩:=by
 cases n with
 | zero=>simp [PE]
 | succ n=>apply mz;simp [PE]
def oI (P:gr) (τ:Nat→AV) (t:gt) (len:Nat) (parts:List (Nat×Operand)) (fr:Nat) (ie:List Bool):Option R :=
 match P.underlying t with
 | some (.slice e)=>match P.info? e with
  | some inf=>match Nat.ble (len*inf.size) 16777216,inf.zero with
   | true,some z=>match NU (PE z (len*inf.size)) with
    | some zs=>match Q6 τ (fun j=>some (j*inf.size,inf.size)) zs parts with
     | some cs=>some ⟨.val false [.sl fr 0 len len],[(fr,some ⟨e,cs,false⟩)],1,[],ie⟩
     | none=>none
    | none=>none
   | _,_=>none
  | none=>none
 | _=>none
theorem AOB {τ:Nat→AV} {a:Act} (ht:∀ t,AO β (τ t) (a.tmps.getD t undef)) {t:gt} {len fr:Nat} {parts:Array (Nat×Operand)} {ie:List Bool} {r:R} (g:Good β H w)
  (h:oI P τ t len parts.toList fr ie=some r) (hf:∀ b,fr≤b→b<fr+r.nw→β b=none) :
  ∃ z w' β',(Instr.buildSlice t len (parts.map fun (i,x)=>(i,a.eval x))).run P w=.ok z w'∧Eff β fr r w z w' β':=by
 unfold oI at h;split at h
 ·rename_i e hu;split at h
  ·rename_i inf iz;split at h
   ·rename_i z hb hz;split at h
    ·rename_i zs hzs;split at h
     ·rename_i cs hfl;injection h with h;subst h;have hr:=Tx (β:=β) hzs
      obtain ⟨l',h1,h2⟩:=Z' ht hfl hr;refine ⟨_,_,_,?_,Eff.new_ g (hf fr (ju _) (by simp)) h2 rfl (Az (.inl ⟨w.heap.size,(l'.length,0),Env.put_same ..,rfl⟩))⟩
      have je:=jp hb;have hz0:=AOA z (len*inf.size)
      simp only [Instr.buildSlice,Sem.run_bind,run_underlying hu,Result.andThen_ok,sizeOf,typeInfo,run_program,iz,Sem.run_pure];rw [jn (show ¬ (len*inf.size > 2^24) by omega)]
      by_cases hn:len*inf.size=0
      ·rw [jo hn];simp only [jo hn] at hz0;simp only [Sem.run_bind,Sem.run_pure,Result.andThen_ok];rw [hz0];simp only [r_,h1];simp [newRow]
      ·rw [jn hn];simp only [jn hn] at hz0;simp only [Sem.run_bind,Sem.run_pure,Result.andThen_ok,zeroValue,typeInfo,run_program,iz,hz];rw [hz0];simp only [r_,h1];simp [newRow]
     ·cases h
    ·cases h
   ·cases h
  ·cases h
 ·cases h
end
section
variable {P:gr} {β:Env} {H:Heap} {w:gn}
def oJ (P:gr) (src dst:gt) (x:Option AV) (ie:List Bool):Option R :=
 match P.underlying src,P.underlying dst,Bp x with
 | some _,some (.int k),some (c,_,i)=>some (CK (PC c k (AW c k i)) ie)
 | _,_,_=>none
theorem AOC {src dst:gt} {x:Option AV} {u:gq} {ie:List Bool} {r:R} (g:Good β H w) (hx:∀ A,x=some A→AO β A u) (h:oJ P src dst x ie=some r) (fr:Nat) :
  ∃ v,(convert src dst u).run P w=.ok v w∧Eff β fr r w v w β:=by
 unfold oJ at h;split at h
 ·rename_i d k c k' i hs hd ha;injection h with h;subst h;obtain ⟨rfl,_⟩:=C3 hx ha;rw [DD];refine ⟨.int k (k.wrap i),?_,Eff.pure_ g (PD c (K4 _ _))⟩
  simp [convert,run_underlying hs,run_underlying hd,Conv.intToInt]
 ·cases h
def oK (op:UnOp) (x:Option AV) (ie:List Bool):Option R :=
 match op with
 | .not=>match FY x with
  | some (true,y)=>some (CK (.val false [.b (match y with | true=>false | false=>true)]) ie)
  | some (false,y)=>some (CK (.val false [.v (.bool (!y))]) ie)
  | none=>none
 | .neg=>match Bp x with
  | some (c,k,i)=>some (CK (PC c k (AW c k (0-i))) ie)
  | none=>none
 | .xor=>match Bp x with
  | some (c,k,i)=>some (CK (PC c k (bits .xor k (match k.signed with | true=>-1 | false=>k.max) i)) ie)
  | none=>none
 | _=>none
theorem AOD {op:UnOp} {x:Option AV} {u:gq} {ie:List Bool} {r:R} (g:Good β H w) (hx:∀ A,x=some A→AO β A u) (h:oK op x ie=some r) (fr:Nat) :
  ∃ v,(Op.unary op u).run P w=.ok v w∧Eff β fr r w v w β:=by
 unfold oK at h;split at h
 ·split at h
  ·rename_i y ha;injection h with h;subst h;have:=K5 hx ha
   subst this;refine ⟨.bool !y,rfl,Eff.pure_ g ?_⟩
   cases y<;>exact Az rfl
  ·rename_i y ha;injection h with h;subst h;have:=K5 hx ha
   subst this;exact ⟨.bool !y,rfl,Eff.pure_ g (Az ⟨rfl,rfl,trivial⟩)⟩
  ·cases h
 ·split at h
  ·rename_i c k i ha;injection h with h;subst h;obtain ⟨rfl,_⟩:=C3 hx ha;rw [DD];exact ⟨.int k (k.wrap (0-i)),rfl,Eff.pure_ g (PD c (K4 _ _))⟩
  ·cases h
 ·split at h
  ·rename_i c k i ha;injection h with h;subst h;obtain ⟨rfl,_⟩:=C3 hx ha;refine ⟨.int k (bits .xor k (match k.signed with | true=>-1 | false=>k.max) i),?_,Eff.pure_ g (PD c (K4 _ _))⟩
   have e:(match k.signed with | true=>(-1:Int) | false=>k.max)=(if k.signed then -1 else k.max):=by cases k.signed<;>rfl
   rw [e];show (Op.intBits BinOp.xor k (if k.signed then -1 else k.max) i).run P w=_
   rw [intBits_xor];rfl
  ·cases h
 ·cases h
theorem AOE (kd:IntKind) (n:Nat):(madeCells #[.int kd 0] n).toList=(List.replicate n (0:Int)).map (Value.int kd):=by
 unfold madeCells;rw [List.map_replicate];apply sf
 ·simp
 ·intro i h1 h2;simp [Nat.mod_one]
theorem AOF (z:gq) (n:Nat):(madeCells z.cells n).toList=PE z n:=by
 unfold madeCells PE;cases n<;>simp
def oL (P:gr) (t:gt) (x y:Option AV) (fr:Nat) (ie:List Bool):Option R :=
 match P.underlying t,Bp x,Bp y with
 | some (.slice e),some (_,_,l),some (c,_,m)=>match P.info? e with
  | some inf=>match inf.zero with
   | some (.int kd z)=>match decide (z=0),Nat.beq inf.size 1 with
    | true,true=>some ⟨.val false [.sl fr 0 l.toNat m.toNat],[(fr,some ⟨e,[.seq kd (List.replicate m.toNat 0)],false⟩)],1,[(decide (0≤l∧l≤m∧inf.bytes*m≤281474976710656∧m≤9223372036854775807),true)],ie⟩
    | _,_=>none
   | some z=>match c with
    | true=>match NU (PE z (m.toNat*inf.size)) with
     | some zs=>some ⟨.val false [.sl fr 0 l.toNat m.toNat],[(fr,some ⟨e,zs,false⟩)],1,[(decide (0≤l∧l≤m∧inf.bytes*m≤281474976710656∧m≤9223372036854775807),true)],ie⟩
     | none=>none
    | false=>none
   | none=>none
  | none=>none
 | _,_,_=>none
theorem AOG {t fr:Nat} {x y:Option AV} {u v:gq} {ie:List Bool} {r:R} (g:Good β H w) (hx:∀ A,x=some A→AO β A u) (hy:∀ A,y=some A→AO β A v)
  (h:oL P t x y fr ie=some r) (hc:AM r.conds) (hf:∀ b,fr≤b→b<fr+r.nw→β b=none) :
  ∃ z w' β',(Instr.makeSlice t u v).run P w=.ok z w'∧Eff β fr r w z w' β':=by
 unfold oL at h;split at h
 ·rename_i e c1 k1 l c k2 m hu ha hb;obtain ⟨rfl,_⟩:=C3 hx ha;obtain ⟨rfl,_⟩:=C3 hy hb;split at h
  ·rename_i inf hi;split at h
   ·rename_i kd z hz;split at h
    ·rename_i hz0 hs1;injection h with h;subst h;have hcc:=hc.1;simp only [jt] at hcc;have hz0':z=0:=by simpa using hz0
     subst hz0';have hs:=Ar.1 hs1;have i_:=run_make (P:=P) w t e inf _ hu hi hz k1 k2 l m hcc.1 hcc.2.1 hcc.2.2.1 hcc.2.2.2
     have hcells:(madeCells (Value.int kd 0).cells (m.toNat*inf.size))=⟨(List.replicate m.toNat (0:Int)).map (Value.int kd)⟩:=by
      apply mz
      rw [hs,kt];exact AOE kd m.toNat
     rw [hcells] at i_;refine ⟨_,_,_,i_,Eff.new_ g (hf fr (ju _) (by simp)) (cs:=[.seq kd (List.replicate m.toNat 0)]) ?_ rfl (Az (.inl ⟨w.heap.size,(_,0),Env.put_same ..,rfl⟩))⟩
     refine ⟨_,[],⟨rfl,fun x hx=>?_⟩,rfl,by simp⟩
     rw [List.eq_of_mem_replicate hx,FX];cases kd<;>decide
    ·cases h
   ·rename_i z _ _;have hz:inf.zero=some z:=by assumption
    split at h
    ·split at h
     ·rename_i zs hzs;injection h with h;subst h;have hcc:=hc.1;simp only [jt] at hcc;have i_:=run_make (P:=P) w t e inf _ hu hi hz k1 k2 l m hcc.1 hcc.2.1 hcc.2.2.1 hcc.2.2.2
      have hcells:madeCells z.cells (m.toNat*inf.size)=⟨PE z (m.toNat*inf.size)⟩:=by
       apply mz;exact AOF z _
      rw [hcells] at i_;exact ⟨_,_,_,i_,Eff.new_ g (hf fr (ju _) (by simp)) (Tx hzs) rfl (Az (.inl ⟨w.heap.size,(_,0),Env.put_same ..,rfl⟩))⟩
     ·cases h
    ·cases h
   ·cases h
  ·cases h
 ·cases h
def oM (P:gr) (t:gt) (x:Option AV) (ie:List Bool):Option R :=
 match P.underlying t,x with
 | some (.array n _),_=>match AK .i64 n with
  | true=>some (CK (.val false [.n .i64 n]) ie)
  | false=>none
 | some (.slice _),some (.val false [.sl _ _ len _])=>some ⟨.val false [.v (.int .i64 len)],[],0,[(AK .i64 len,true)],ie⟩
 | some (.slice _),some (.val false [.sx _ len _])=>some ⟨.val false [.v (.int .i64 len)],[],0,[(AK .i64 len,true)],ie⟩
 | some (.slice _),some (.val false [.v (.slice _ len _)])=>some ⟨.val false [.v (.int .i64 len)],[],0,[(AK .i64 len,true)],ie⟩
 | _,_=>none
theorem AOH {t ty:gt} {x:Option AV} {u:gq} {ie:List Bool} {r:R} (g:Good β H w) (hx:∀ A,x=some A→AO β A u) (h:oM P t x ie=some r) (hc:AM r.conds) (fr:Nat) :
  ∃ v,(Builtin.len_ #[t] ty #[u]).run P w=.ok v w∧Eff β fr r w v w β:=by
 unfold oM at h;split at h
 ·rename_i _ n e hu;split at h
  ·rename_i hh;injection h with h;subst h;refine ⟨.int .i64 n,?_,Eff.pure_ g (Az ⟨rfl,(FX _ _).2 hh⟩)⟩
   simp [Builtin.len_,run_underlying hu,goInt]
  ·cases h
 ·rename_i e bk ic len cap hu;injection h with h;subst h;refine ⟨.int .i64 len,?_,Eff.pure_ g (Az ⟨rfl,rfl,(FX _ _).2 hc.1⟩)⟩
  rcases A5 (hx _ rfl) with ⟨B,n,e1,e2⟩ | ⟨_,_,rfl,_,e2⟩ | ⟨_,_,rfl,_,_,_,e2⟩
  ·injection e2 with e2 _;subst e2;simp [Builtin.len_,run_underlying hu,goInt]
  ·injection e2 with e2 _;subst e2;simp [Builtin.len_,run_underlying hu,goInt]
  ·injection e2 with e2 _;subst e2;simp [Builtin.len_,run_underlying hu,goInt]
 ·rename_i e bk len sz hu;injection h with h;subst h;refine ⟨.int .i64 len,?_,Eff.pure_ g (Az ⟨rfl,rfl,(FX _ _).2 hc.1⟩)⟩
  rcases A5 (hx _ rfl) with ⟨B,n,cap,e1,e2,_⟩ | ⟨_,rfl,e2⟩
  ·injection e2 with e2 _;subst e2;simp [Builtin.len_,run_underlying hu,goInt]
  ·injection e2 with e2 _;subst e2;simp [Builtin.len_,run_underlying hu,goInt]
 ·rename_i e A len cap hu;injection h with h;subst h;have:=(A5 (hx _ rfl)).1
  injection this with e2 _;subst e2;refine ⟨.int .i64 len,?_,Eff.pure_ g (Az ⟨rfl,rfl,(FX _ _).2 hc.1⟩)⟩
  simp [Builtin.len_,run_underlying hu,goInt]
 ·cases h
def aA (jk:Bool) (x y:Option AV) (ie:List Bool):Option R :=
 match Bp x,Bp y with
 | some (c,k,i),some (c',k',j)=>match decide (k=k') with
  | true=>match jk with
   | true=>some (CK (PC (c&&c') k (if j > i then j else i)) ie)
   | false=>some (CK (PC (c&&c') k (if j<i then j else i)) ie)
  | false=>none
 | _,_=>none
theorem ACt {ts:Array gt} {ty:gt} {jk:Bool} {x y:Option AV} {u v:gq} {ie:List Bool} {r:R} (g:Good β H w) (hx:∀ A,x=some A→AO β A u) (hy:∀ A,y=some A→AO β A v)
  (h:aA jk x y ie=some r) (fr:Nat) :
  ∃ z,(match jk with | true=>Builtin.max_ ts ty #[u,v] | false=>Builtin.min_ ts ty #[u,v]).run P w=.ok z w∧Eff β fr r w z w β:=by
 unfold aA at h;split at h
 ·rename_i c k i c' k' j ha hb;obtain ⟨rfl,h1⟩:=C3 hx ha;obtain ⟨rfl,h2⟩:=C3 hy hb;split at h
  ·rename_i hk;have hk':k=k':=by simpa using hk
   subst hk';split at h
   ·injection h with h;subst h;exact ⟨_,run_max_int2 w ts ty k k i j,Eff.pure_ g (PD _ (by split<;>assumption))⟩
   ·injection h with h;subst h;exact ⟨_,run_min_int2 w ts ty k k i j,Eff.pure_ g (PD _ (by split<;>assumption))⟩
  ·cases h
 ·cases h
def PF (H:Heap) (size:Nat) (x:Option AV) (n:Nat):Option (List Ch×du) :=
 match x with
 | some (.val false [.v (.slice none _ _)])=>some ([],[(Nat.beq n 0,true)])
 | some (.val false [.sl bk ic _ _])=>match MJ H bk with
  | some blk=>match blk.cs with
   | [.seq kd xs]=>match Nat.beq size 1 with
    | true=>some ([.seq kd ((xs.drop ic).take n)],[(Nat.ble (ic+n) xs.length,true)])
    | false=>none
   | cs=>match MI cs ic (n*size) with
    | some m=>some (m,[])
    | none=>none
  | none=>none
 | some (.val false [.sx bk _ _])=>match MJ H bk with
  | some blk=>match blk.cs with
   | [.seq kd xs]=>match Nat.beq size 1 with
    | true=>some ([.seq kd (xs.take n)],[(Nat.ble n xs.length,true)])
    | false=>none
   | cs=>match MI cs 0 (n*size) with
    | some m=>some (m,[])
    | none=>none
  | none=>none
 | some (.val false [.v (.string s)])=>match Nat.beq size 1 with
  | true=>some ([.seq .u8 ((s.data.toList.take n).map fun b=>(b.toNat:Int))],[(Nat.ble n s.size,true)])
  | false=>none
 | _=>none
theorem oO {xs:dt} {kd:IntKind} {l:List gq} (h:AP β [.seq kd xs] l):l=xs.map (.int kd)∧∀ x∈xs,has kd x:=by
 obtain ⟨l1,l2,h1,h2,h3⟩:=h;simp only [AP] at h2;subst h2;rw [h3,lh];exact h1
theorem PG {xs:dt} {kd:IntKind} (h:∀ x∈xs,has kd x):AP β [.seq kd xs] (xs.map (.int kd)):=⟨_,[],⟨rfl,h⟩,rfl,by simp⟩
theorem ACu {B ic k:Nat} {l t' pre:List gq} {ty:gt} {fz:Nat×Nat} (ho:w.heap[B]? = some (.cells ⟨pre++(l++t')⟩ ty fz)) (hfit:ic+k≤l.length) :
  (loadCells ⟨B,pre.length+ic,none⟩ k).run P w=.ok ⟨(l.drop ic).take k⟩ w:=by
 have ii:((l.drop ic).take k).length=k:=by simp;omega
 have:=run_loadCells_list (P:=P) w ⟨B,pre.length+ic,none⟩ ((l.drop ic).take k) (fun j v hj=>by
  rw [Addr.add_lit,ni];have hjl:j<((l.drop ic).take k).length:=by
   rcases kf j ((l.drop ic).take k).length with h' | h'
   ·exact h'
   ·rw [mq h'] at hj;cases hj
  rw [uz,jo dn,qv] at hj;rw [Wt ho dn,← hj,nh])
 rw [ii] at this;exact this
theorem ACv {l t' pre:List gq} {ic k:Nat} (hfit:ic+k≤l.length):pre.length+ic+k≤(pre++(l++t')).length∧(l.drop ic).take k=((pre++(l++t')).drop (pre.length+ic)).take k:=by
 refine ⟨by simp;omega,?_⟩
 rw [← od,List.drop_left,tz dn,t_ (by simp;omega)]
def ACw (β:Env) (x:Option AV):Prop:=∀ bk ic len cap,x=some (.val false [.sl bk ic len cap])→β bk≠some .emp
theorem Wy {size n:Nat} {x:Option AV} {u:gq} {cs:List Ch} {c:du} (g:Good β H w) (hx:∀ A,x=some A→AO β A u) (h:PF H size x n=some (cs,c)) (hc:AM c) :
  ∃ l,(∀ w',w'.heap=w.heap→(Builtin.firstCells size n u).run P w'=.ok ⟨l⟩ w')∧AP β cs l∧l.length=n*size ∧
   (ACw β x→∀ B ic len cap cur e fz,u=.slice (some ⟨B,ic,none⟩) len cap→w.heap[B]? = some (.cells ⟨cur⟩ e fz)→ic+n*size≤cur.length∧l=(cur.drop ic).take (n*size)):=by
 have rng:∀ {bk ic:Nat} {blk:ib} {B:Nat} {nn:Nat×Nat} {len cap:Nat} {m:List Ch},MJ H bk=some blk→β bk=some (.at_ B nn)→MI blk.cs ic (n*size)=some m →
   ∃ l,(∀ w',w'.heap=w.heap→(Builtin.firstCells size n (.slice (some ⟨B,nn.2+ic,none⟩) len cap)).run P w'=.ok ⟨l⟩ w')∧AP β m l∧l.length=n*size ∧
    (∀ B' ig len' cap' cur e fz,Value.slice (some ⟨B,nn.2+ic,none⟩) len cap=.slice (some ⟨B',ig,none⟩) len' cap'→w.heap[B']? = some (.cells ⟨cur⟩ e fz)→ig+n*size≤cur.length∧l=(cur.drop ig).take (n*size)):=by
  intro bk ic blk B nn len cap m hb e1 hm;rcases g.cells hb with ⟨B',n',l,t',pre,ty',fz',e4,e2,e3,e0,_⟩ | ⟨X,e4,e2,_⟩
  ·rw [e1] at e4;injection e4 with e4;injection e4 with e4 e5;subst e4;subst e5;obtain ⟨h1,h2⟩:=Tw hm e2;rw [← e0];refine ⟨_,fun w' hw=>by simpa [Builtin.firstCells] using ACu (P:=P) (w:=w') (by rw [hw];exact e3) h2,h1,by simp;omega,?_⟩
   intro B' ig len' cap' cur e fz hu hh;injection hu with hu _;injection hu with hu;injection hu with hu1 hu2;subst hu1;subst hu2;rw [e3] at hh;injection hh with hh;injection hh with hh;injection hh with hh;subst hh;exact ACv h2
  ·rw [e1] at e4;injection e4 with e4;subst e4;exact e2.elim
 have sq:∀ {bk ic:Nat} {blk:ib} {B:Nat} {nn:Nat×Nat} {len cap:Nat} {kd:IntKind} {xs:dt},MJ H bk=some blk→β bk=some (.at_ B nn)→blk.cs=[.seq kd xs]→size=1→ic+n≤xs.length →
   ∃ l,(∀ w',w'.heap=w.heap→(Builtin.firstCells size n (.slice (some ⟨B,nn.2+ic,none⟩) len cap)).run P w'=.ok ⟨l⟩ w')∧AP β [.seq kd ((xs.drop ic).take n)] l∧l.length=n*size ∧
    (∀ B' ig len' cap' cur e fz,Value.slice (some ⟨B,nn.2+ic,none⟩) len cap=.slice (some ⟨B',ig,none⟩) len' cap'→w.heap[B']? = some (.cells ⟨cur⟩ e fz)→ig+n*size≤cur.length∧l=(cur.drop ig).take (n*size)):=by
  intro bk ic blk B nn len cap kd xs hb e1 hcs hsz je;rcases g.cells hb with ⟨B',n',l,t',pre,ty',fz',e4,e2,e3,e0,_⟩ | ⟨X,e4,e2,_⟩
  ·rw [e1] at e4;injection e4 with e4;injection e4 with e4 e5;subst e4;subst e5;rw [hcs] at e2;obtain ⟨rfl,ip⟩:=oO e2;rw [← e0];have hfit:ic+n*size≤(xs.map (Value.int kd)).length:=by simp [hsz];omega
   have e9:((xs.map (Value.int kd)).drop ic).take (n*size)=((xs.drop ic).take n).map (.int kd):=by rw [hsz,kt,sh,th]
   refine ⟨(((xs.drop ic).take n).map (.int kd)),fun w' hw=>?_,PG (fun x hx=>ip x (pn (qh hx))),by simp [hsz];omega,?_⟩
   ·have:=ACu (P:=P) (w:=w') (by rw [hw];exact e3) hfit
    rw [e9] at this;simpa [Builtin.firstCells] using this
   ·intro B' ig len' cap' cur e fz hu hh;injection hu with hu _;injection hu with hu;injection hu with hu1 hu2;subst hu1;subst hu2;rw [e3] at hh;injection hh with hh;injection hh with hh;injection hh with hh;subst hh;rw [← e9];exact ACv hfit
  ·rw [e1] at e4;injection e4 with e4;subst e4;exact e2.elim
 have nilc:∀ {blk:ib} {bk ic:Nat} {u0:gq},(n*size=0→∀ w',(Builtin.firstCells size n u0).run P w'=.ok ⟨[]⟩ w')→MJ H bk=some blk→(∀ B m,β bk≠some (.at_ B m))→(∀ kd xs,blk.cs=[.seq kd xs]→ic+n≤xs.length→∃ l,(∀ w',w'.heap=w.heap→(Builtin.firstCells size n u0).run P w'=.ok ⟨l⟩ w')∧AP β [.seq kd ((xs.drop ic).take n)] l∧l.length=n*size∧l=[]) ∧
   (∀ m,MI blk.cs ic (n*size)=some m→∃ l,(∀ w',w'.heap=w.heap→(Builtin.firstCells size n u0).run P w'=.ok ⟨l⟩ w')∧AP β m l∧l.length=n*size∧l=[]):=by
  intro blk bk ic u0 hu0 hb e1;rcases g.cells hb with ⟨B',n',l,t',pre,ty',fz',e4,_⟩ | ⟨_,_,_,e5⟩
  ·exact absurd e4 (e1 _ _)
  ·refine ⟨fun kd xs hcs je=>?_,fun m hm=>?_⟩
   ·rw [hcs] at e5;obtain ⟨e6,_⟩:=oO e5;have jh:xs=[]:=by simpa using e6.symm
    subst jh;have hn:n=0:=by simp at je;omega
    subst hn;exact ⟨[],fun w' _=>hu0 (by simp) w',PG (by simp),by simp,rfl⟩
   ·obtain ⟨h1,h2⟩:=Tw hm e5;have h3:n*size=0:=by simp at h2;omega
    exact ⟨[],fun w' _=>hu0 h3 w',by simpa using h1,by simp [h3],rfl⟩
 have hnone:n*size=0→∀ w',(Builtin.firstCells size n (.slice none 0 0)).run P w'=.ok ⟨[]⟩ w':=fun _ _=>rfl
 have hsome:∀ a m,n*size=0→∀ w',(Builtin.firstCells size n (.slice (some a) 0 m)).run P w'=.ok ⟨[]⟩ w':=fun a m h w'=>by simp [Builtin.firstCells,h,loadCells,loadCellsFrom]
 unfold PF at h;split at h
 ·injection h with h;injection h with h1 h2;subst h1;subst h2;have:=(A5 (hx _ rfl)).1
  injection this with e _;subst e;have hn:=Ar.1 hc.1;subst hn;exact ⟨[],fun _ _=>rfl,rfl,by simp,fun _=>by simp⟩
 ·rename_i bk ic len cap;rcases A5 (hx _ rfl) with ⟨B,nn,e1,e2⟩ | ⟨e1,rfl,rfl,rfl,e2⟩ | ⟨e1,rfl,rfl,rfl,a,M,e2⟩
  ·injection e2 with e2 _;subst e2;split at h
   ·rename_i blk hb;split at h
    ·rename_i kd xs hcs;split at h
     ·rename_i hsz;injection h with h;injection h with h1 h2;subst h1;subst h2;obtain ⟨l,q1,q2,q3,q4⟩:=sq (len:=len) (cap:=cap) hb e1 hcs (Ar.1 hsz) (jp hc.1)
      exact ⟨l,q1,q2,q3,fun _=>q4⟩
     ·cases h
    ·split at h
     ·rename_i m hm;injection h with h;injection h with h1 h2;subst h1;subst h2;obtain ⟨l,q1,q2,q3,q4⟩:=rng (len:=len) (cap:=cap) hb e1 hm
      exact ⟨l,q1,q2,q3,fun _=>q4⟩
     ·cases h
   ·cases h
  ·injection e2 with e2 _;subst e2;split at h
   ·rename_i blk hb;have ji:∀ B m,β bk≠some (.at_ B m):=fun B m e=>by rw [e1] at e;cases e
    split at h
    ·rename_i kd xs hcs;split at h
     ·rename_i hsz;injection h with h;injection h with h1 h2;subst h1;subst h2;obtain ⟨l,q1,q2,q3,q4⟩:=(nilc (ic:=0) hnone hb ji).1 kd xs hcs (jp hc.1)
      exact ⟨l,q1,q2,q3,fun _=>by simp⟩
     ·cases h
    ·split at h
     ·rename_i m hm;injection h with h;injection h with h1 h2;subst h1;subst h2;obtain ⟨l,q1,q2,q3,q4⟩:=(nilc (ic:=0) hnone hb ji).2 _ hm
      exact ⟨l,q1,q2,q3,fun _=>by simp⟩
     ·cases h
   ·cases h
  ·injection e2 with e2 _;subst e2;split at h
   ·rename_i blk hb;have ji:∀ B m,β bk≠some (.at_ B m):=fun B m e=>by rw [e1] at e;cases e
    split at h
    ·rename_i kd xs hcs;split at h
     ·rename_i hsz;injection h with h;injection h with h1 h2;subst h1;subst h2;obtain ⟨l,q1,q2,q3,q4⟩:=(nilc (ic:=0) (hsome a M) hb ji).1 kd xs hcs (jp hc.1)
      exact ⟨l,q1,q2,q3,fun jd=>absurd e1 (jd _ _ _ _ rfl)⟩
     ·cases h
    ·split at h
     ·rename_i m hm;injection h with h;injection h with h1 h2;subst h1;subst h2;obtain ⟨l,q1,q2,q3,q4⟩:=(nilc (ic:=0) (hsome a M) hb ji).2 _ hm
      exact ⟨l,q1,q2,q3,fun jd=>absurd e1 (jd _ _ _ _ rfl)⟩
     ·cases h
   ·cases h
 ·rename_i bk len sz;split at h
  ·rename_i blk hb;rcases A5 (hx _ rfl) with ⟨B,nn,cap,e1,e2,_⟩ | ⟨e1,e0,e2⟩
   ·injection e2 with e2 _;subst e2;split at h
    ·rename_i kd xs hcs;split at h
     ·rename_i hsz;injection h with h;injection h with h1 h2;subst h1;subst h2;have:=sq (ic:=0) (len:=len) (cap:=cap) hb e1 hcs (Ar.1 hsz) (by simpa using jp hc.1)
      obtain ⟨l,q1,q2,q3,q4⟩:=this;exact ⟨l,q1,by simpa using q2,q3,fun _=>q4⟩
     ·cases h
    ·split at h
     ·rename_i m hm;injection h with h;injection h with h1 h2;subst h1;subst h2;obtain ⟨l,q1,q2,q3,q4⟩:=rng (len:=len) (cap:=cap) hb e1 hm
      exact ⟨l,q1,q2,q3,fun _=>q4⟩
     ·cases h
   ·injection e2 with e2 _;subst e2;have ji:∀ B m,β bk≠some (.at_ B m):=fun B m e=>by rw [e1] at e;cases e
    split at h
    ·rename_i kd xs hcs;split at h
     ·rename_i hsz;injection h with h;injection h with h1 h2;subst h1;subst h2;obtain ⟨l,q1,q2,q3,q4⟩:=(nilc (ic:=0) hnone hb ji).1 kd xs hcs (by simpa using jp hc.1)
      exact ⟨l,q1,by simpa using q2,q3,fun _=>by simp⟩
     ·cases h
    ·split at h
     ·rename_i m hm;injection h with h;injection h with h1 h2;subst h1;subst h2;obtain ⟨l,q1,q2,q3,q4⟩:=(nilc (ic:=0) hnone hb ji).2 _ hm
      exact ⟨l,q1,q2,q3,fun _=>by simp⟩
     ·cases h
  ·cases h
 ·rename_i s;split at h
  ·rename_i hsz;injection h with h;injection h with h1 h2;subst h1;subst h2;have:=(A5 (hx _ rfl)).1
   injection this with e _;subst e;have je:=jp hc.1;have hs1:=Ar.1 hsz;refine ⟨((s.data.toList.take n).map fun b=>Value.int .u8 b.toNat),fun w' _=>?_,?_,?_,fun _=>by simp⟩
   ·simp only [Builtin.firstCells,Sem.run_pure];congr 1
    apply mz
    rw [r_];congr 1
    simp [ByteArray.extract,ByteArray.copySlice]
   ·have:=PG (β:=β) (kd:=.u8) (xs:=(s.data.toList.take n).map fun b=>(b.toNat:Int)) (by
     intro x hx;obtain ⟨b,_,rfl⟩:=ml.1 hx;rw [FX];have:=b.toNat_lt
     simp [AK];omega)
    rw [ot] at this;exact this
   ·rw [hs1];have:s.data.toList.length=s.size:=u_
    rw [ma,kv];omega
  ·cases h
 ·cases h
theorem T6 {size n:Nat} {x:Option AV} {u:gq} {cs:List Ch} {c:du} (g:Good β H w) (hx:∀ A,x=some A→AO β A u) (h:PF H size x n=some (cs,c)) (hc:AM c) :
  ∃ l,(Builtin.firstCells size n u).run P w=.ok ⟨l⟩ w∧AP β cs l∧l.length=n*size :=
 let ⟨l,h1,h2,h3,_⟩:=Wy (P:=P) g hx h hc
 ⟨l,h1 w rfl,h2,h3⟩
end
section
variable {P:gr} {β:Env} {H:Heap} {w:gn}
def A' (kd:IntKind):List Ch→Option (dt)
 | []=>some []
 | .seq k l::r=>match decide (k=kd),r,A' kd r with
  | true,[],_=>some l
  | true,_,some m=>some (l++m)
  | _,_,_=>none
 | .n k i::r=>match decide (k=kd),A' kd r with | true,some m=>some (i::m) | _,_=>none
 | .v (.int k i)::r=>match decide (k=kd),A' kd r with | true,some m=>some (i::m) | _,_=>none
 | .num k x::r=>match kd,A' kd r with | .u64,some m=>some ((List.range k).map (AE x)++m) | _,_=>none
 | _=>none
theorem DL {kd:IntKind}:∀ {cs:List Ch} {xs:dt} {l:List gq},A' kd cs=some xs→AP β cs l→l=xs.map (.int kd)∧∀ x∈xs,has kd x
 | [],xs,l,h,hl=>by
  simp only [A',ke] at h;simp only [AP] at hl;subst h;subst hl;simp
 | c::cs,xs,l,h,hl=>by
  obtain ⟨l1,l2,h1,h2,h3⟩:=hl;unfold A' at h;split at h
  ·cases ‹_::_=[]›
  ·rename_i k m r he;injection he with e1 e2;subst e1;subst e2;split at h
   ·have hk:decide (k=kd)=true:=by assumption
    injection h with h;subst h;simp only [AP] at h2;subst h2;have:k=kd:=by simpa using hk
    subst this;rw [h3,lh];exact h1
   ·rename_i m' hk _ hm;injection h with h;subst h;have:k=kd:=by simpa using hk
    subst this;obtain ⟨i1,i2⟩:=DL hm h2;simp only [BM] at h1;refine ⟨by rw [h3,h1.1,i1,pi],fun x hx=>?_⟩
    rcases j_.1 hx with hx | hx
    ·exact h1.2 x hx
    ·exact i2 x hx
   ·cases h
  ·rename_i k i r he;injection he with e1 e2;subst e1;subst e2;split at h
   ·rename_i m hk hm;injection h with h;subst h;have:k=kd:=by simpa using hk
    subst this;obtain ⟨i1,i2⟩:=DL hm h2;simp only [BM] at h1;refine ⟨by rw [h3,h1.1,i1];rfl,fun x hx=>?_⟩
    rcases ka.1 hx with hx | hx
    ·rw [hx];exact h1.2
    ·exact i2 x hx
   ·cases h
  ·rename_i k i r he;injection he with e1 e2;subst e1;subst e2;split at h
   ·rename_i m hk hm;injection h with h;subst h;have:k=kd:=by simpa using hk
    subst this;obtain ⟨i1,i2⟩:=DL hm h2;simp only [BM] at h1;refine ⟨by rw [h3,h1.1,i1];rfl,fun x hx=>?_⟩
    rcases ka.1 hx with hx | hx
    ·rw [hx];exact h1.2.2
    ·exact i2 x hx
   ·cases h
  ·rename_i k x r he;injection he with e1 e2;subst e1;subst e2;split at h
   ·rename_i m hm;injection h with h;subst h;obtain ⟨i1,i2⟩:=DL hm h2;simp only [BM] at h1;refine ⟨?_,fun x hx=>?_⟩
    ·rw [h3,h1.2,i1,pi,ot];rfl
    ·rcases j_.1 hx with hx | hx
     ·obtain ⟨j,_,rfl⟩:=ml.1 hx;exact Z0 _ _
     ·exact i2 x hx
   ·cases h
  ·cases h
def Wz (x:Option AV):Option Nat :=
 match x with
 | some (.val false [.sl _ _ len _])=>some len
 | some (.val false [.sx _ len _])=>some len
 | some (.val false [.v (.slice none len _)])=>some len
 | some (.val false [.v (.string s)])=>some s.size
 | _=>none
theorem aB {x:Option AV} {u:gq} {n:Nat} (hx:∀ A,x=some A→AO β A u) (h:Wz x=some n):(Builtin.lenOf u).run P w=.ok n w:=by
 unfold Wz at h;split at h
 ·injection h with h;subst h;rcases A5 (hx _ rfl) with ⟨B,m,e1,e2⟩ | ⟨_,_,rfl,_,e2⟩ | ⟨_,_,rfl,_,_,_,e2⟩
  ·injection e2 with e2 _;subst e2;rfl
  ·injection e2 with e2 _;subst e2;rfl
  ·injection e2 with e2 _;subst e2;rfl
 ·injection h with h;subst h;rcases A5 (hx _ rfl) with ⟨B,m,cap,e1,e2,_⟩ | ⟨_,rfl,e2⟩
  ·injection e2 with e2 _;subst e2;rfl
  ·injection e2 with e2 _;subst e2;rfl
 ·injection h with h;subst h;have:=(A5 (hx _ rfl)).1
  injection this with e2 _;subst e2;rfl
 ·injection h with h;subst h;have:=(A5 (hx _ rfl)).1
  injection this with e2 _;subst e2;rfl
 ·cases h
def aC (bk:Nat) (blk:ib) (ic k:Nat) (new:List Ch):Option (Heap×du) :=
 match blk.cs with
 | [.seq kd xs]=>match A' kd new with
  | some ys=>some ([(bk,some ⟨blk.ty,[.seq kd (xs.take ic++(ys++xs.drop (ic+k)))],blk.opn⟩)],[(Nat.ble (ic+k) xs.length,true)])
  | none=>none
 | cs=>match Wp cs ic k new with
  | some m=>some ([(bk,some ⟨blk.ty,m,blk.opn⟩)],[])
  | none=>none
theorem ACx {bk ic k:Nat} {blk:ib} {new:List Ch} {u:Heap} {c:du} {l ln:List gq} (h:aC bk blk ic k new=some (u,c)) (hc:AM c) (hl:AP β blk.cs l) (hn:AP β new ln) :
  ∃ m,u=[(bk,some ⟨blk.ty,m,blk.opn⟩)]∧AP β m (l.take ic++ln++l.drop (ic+k))∧ic+k≤l.length:=by
 unfold aC at h;split at h
 ·rename_i kd xs hcs;split at h
  ·rename_i ys hy;injection h with h;injection h with h1 h2;subst h1;subst h2;rw [hcs] at hl;obtain ⟨rfl,ip⟩:=oO hl;obtain ⟨rfl,hall2⟩:=DL hy hn;have je:=jp hc.1;refine ⟨_,rfl,?_,by simpa using je⟩
   rw [← sh,← th,← pi,← pi,ol];refine PG fun x hx=>?_
   rcases j_.1 hx with hx | hx
   ·exact ip x (qh hx)
   ·rcases j_.1 hx with hx | hx
    ·exact hall2 x hx
    ·exact ip x (pn hx)
  ·cases h
 ·split at h
  ·rename_i m hm;injection h with h;injection h with h1 h2;subst h1;subst h2;obtain ⟨r1,r2⟩:=nO hm hl hn;exact ⟨m,rfl,r1,r2⟩
  ·cases h
theorem ACy {B ic k:Nat} {l t' ln:List gq} {ty:gt} (ho:w.heap[B]? = some (.cells ⟨l++t'⟩ ty (0,0))) (hs:ln.length=k) (hfit:ic+k≤l.length) (h1:∀ v∈ln,v.oneCell'=true) :
  (storeCells ⟨B,ic,none⟩ ln).run P w=.ok () (w.setRow B ⟨(l.take ic++ln++l.drop (ic+k))++t'⟩):=by
 have:=run_storeCells_at P B ic ty ln 0 ⟨l++t'⟩ w ho (by simp;omega) h1
 simp only [og] at this;have e1:(l++t').take ic=l.take ic:=t_ dn
 have e2:(l++t').drop (ic+k)=l.drop (ic+k)++t':=tz dn
 simp only [e1,hs,e2] at this;simpa using this
def aD (P:gr) (dT:gt) (d s:Option AV) (H:Heap) (ie:List Bool):Option R :=
 match P.underlying dT,d with
 | some (.slice e),some (.val false [.sl bk ic len _])=>match P.info? e,Wz s,AF H bk with
  | some inf,some m,some blk=>match PF H inf.size s (Nat.min m len) with
   | some (cs,c1)=>match aC bk blk ic (Nat.min m len*inf.size) cs,Nat.ble Br blk.ty,blk.opn with
    | some (u,c2),false,false=>some ⟨.any,u,0,c1++c2,ie⟩
    | _,_,_=>none
   | none=>none
  | _,_,_=>none
 | _,_=>none
theorem AOI {dT sT ty:gt} {d s:Option AV} {u v:gq} {ie:List Bool} {r:R} (g:Good β H w) (hx:∀ A,d=some A→AO β A u) (hy:∀ A,s=some A→AO β A v)
  (h:aD P dT d s H ie=some r) (hc:AM r.conds) (fr:Nat):∃ z w',(Builtin.copy_ #[dT,sT] ty #[u,v]).run P w=.ok z w'∧Eff β fr r w z w' β:=by
 unfold aD at h;split at h
 ·rename_i e bk ic len cap hu;split at h
  ·rename_i inf m blk hi hm hb;split at h
   ·rename_i cs c1 hs;split at h
    ·rename_i uu c2 hp hro hop;injection h with h;subst h;obtain ⟨o1,o2⟩:=Bz.1 hc;obtain ⟨ln,f1,f2,f3⟩:=T6 (P:=P) g hy hs o1
     have ii:=aB (P:=P) (w:=w) hy hm
     rcases Q0 (g.heap _ _ hb) (PB hro) with ⟨B',n',l,t',e4,e3,e5,e6,e7,e8⟩ | ⟨_,e4,_⟩
     ·rcases A5 (hx _ rfl) with ⟨B,nn,e1,e2⟩ | ⟨e1,_⟩ | ⟨e1,_⟩
      case inr.inl=>rw [e1] at e4;cases e4
      case inr.inr=>rw [e1] at e4;cases e4
      injection e2 with e2 _;subst e2;rw [e1] at e4;injection e4 with e4;injection e4 with e4 e4';subst e4;subst e4';obtain ⟨mm,rfl,q1,q2⟩:=ACx hp o2 e3 f2;refine ⟨goInt (Nat.min m len),_,?_,Eff.write g e1 e5 q1 e6 (by rw [← e7];simp [f3];omega) e8 trivial⟩
      have:=ACy (P:=P) e5 f3 q2 (Tz f2)
      rw [kr];simp [Builtin.copy_,run_underlying hu,ii,sizeOf,typeInfo,hi,f1,this]
     ·rw [hop] at e4;cases e4
    ·cases h
   ·cases h
  ·cases h
 ·cases h
def oP (P:gr) (t:gt) (x:Option AV) (H:Heap) (ie:List Bool):Option R :=
 match P.underlying t,x with
 | some (.slice e),some (.val false [.sl bk ic len _])=>match len with
  | 0=>some (CK .any ie)
  | len+1=>match P.info? e,AF H bk with
   | some inf,some blk=>match inf.zero with
    | some z=>match NU (Builtin.zeroCells z.cells (len+1)).toList with
     | some zs=>match aC bk blk ic (Builtin.zeroCells z.cells (len+1)).toList.length zs,Nat.ble Br blk.ty with
      | some (u,c2),false=>some ⟨.any,u,0,c2,ie⟩
      | _,_=>none
     | none=>none
    | none=>none
   | _,_=>none
 | _,_=>none
theorem AOJ {t ty:gt} {x:Option AV} {u:gq} {ie:List Bool} {r:R} (g:Good β H w) (hx:∀ A,x=some A→AO β A u)
  (h:oP P t x H ie=some r) (hc:AM r.conds) (fr:Nat):∃ z w',(Builtin.clear_ #[t] ty #[u]).run P w=.ok z w'∧Eff β fr r w z w' β:=by
 unfold oP at h;split at h
 ·rename_i e bk ic len cap hu;split at h
  ·injection h with h;subst h;rcases A5 (hx _ rfl) with ⟨B,nn,e1,e2⟩ | ⟨e1,_,_,_,e2⟩ | ⟨e1,_,_,_,_,_,e2⟩
   ·injection e2 with e2 _;subst e2;exact ⟨.tuple #[],w,by simp [Builtin.clear_,run_underlying hu],Eff.pure_ g trivial⟩
   ·injection e2 with e2 _;subst e2;exact ⟨.tuple #[],w,by simp [Builtin.clear_,run_underlying hu],Eff.pure_ g trivial⟩
   ·injection e2 with e2 _;subst e2;exact ⟨.tuple #[],w,by simp [Builtin.clear_,run_underlying hu],Eff.pure_ g trivial⟩
  ·rename_i len;split at h
   ·rename_i inf blk hi hb;split at h
    ·rename_i z hz;split at h
     ·rename_i zs hzs;split at h
      ·rename_i uu c2 hp hro;injection h with h;subst h;have f2:=Tx (β:=β) hzs
       rcases A5 (hx _ rfl) with ⟨B,nn,e1,e2⟩ | ⟨_,_,e2,_⟩ | ⟨_,_,e2,_⟩
       case inr.inl=>cases e2
       case inr.inr=>cases e2
       injection e2 with e2 _;subst e2;rcases Q0 (g.heap _ _ hb) (PB hro) with ⟨B',n',l,t',e4,e3,e5,e6,e7,e8⟩ | ⟨e4,_⟩
       ·rw [e1] at e4;injection e4 with e4;injection e4 with e4 e4';subst e4;subst e4';obtain ⟨mm,rfl,q1,q2⟩:=ACx hp hc e3 f2;refine ⟨.tuple #[],_,?_,Eff.write g e1 e5 q1 e6 (by rw [← e7];simp at q2 ⊢;omega) e8 trivial⟩
        have:=ACy (P:=P) e5 rfl q2 (Tz f2)
        rw [kr];simp [Builtin.clear_,run_underlying hu,zeroValue,typeInfo,hi,hz,this]
       ·rw [e1] at e4;cases e4
      ·cases h
     ·cases h
    ·cases h
   ·cases h
 ·cases h
theorem ACz (need:Nat):∀ (r c:Nat),256≤c→c≤2*need→Builtin.growBy need r c≤2*need
 | 0,c,_,h=>h
 | r+1,c,h0,h=>by
  unfold Builtin.growBy;split
  ·exact h
  ·exact ACz need r _ dn dn
theorem AC0 {need old:Nat} (h:old<need):Builtin.nextslicecap need old≤2*need:=by
 unfold Builtin.nextslicecap;split
 ·omega
 ·split
  ·omega
  ·exact ACz need 4 old dn dn
def T7:TypeDesc→Bool
 | .slice _=>true
 | .string=>true
 | _=>false
theorem aE {ts:Array gt} {sT xT e ty:gt} {d:TypeDesc} {inf:TypeInfo} {base:Option Addr} {sLen sCap n:Nat} {x:gq} {ln:List gq}
  (h0:ts[0]? = some sT) (h1:ts[1]? = some xT) (hu:P.underlying sT=some (.slice e)) (hi:P.info? e=some inf) (hx:P.underlying xT=some d) (hd:T7 d=true)
  (hn:(Builtin.lenOf x).run P w=.ok n w) (hf:(Builtin.firstCells inf.size n x).run P w=.ok ⟨ln⟩ w) (hfit:sLen+n≤sCap) :
  (Builtin.append_ ts ty #[.slice base sLen sCap,x]).run P w=match base with
   | some a=>((storeCells (a.add (sLen*inf.size)) ln).run P w).andThen fun _ w'=>.ok (.slice base (sLen+n) sCap) w'
   | none=>.ok (.slice none (sLen+n) sCap) w:=by
 cases base with
 | none =>
  cases d;case slice=>simp [Builtin.append_,h0,h1,run_underlying hu,run_underlying hx,sizeOf,typeInfo,hi,hn,hf,hfit]
  case string=>simp [Builtin.append_,h0,h1,run_underlying hu,run_underlying hx,sizeOf,typeInfo,hi,hn,hf,hfit]
  all_goals simp [T7] at hd
 | some a =>
  cases d;case slice=>simp [Builtin.append_,h0,h1,run_underlying hu,run_underlying hx,sizeOf,typeInfo,hi,hn,hf,hfit]
  case string=>simp [Builtin.append_,h0,h1,run_underlying hu,run_underlying hx,sizeOf,typeInfo,hi,hn,hf,hfit]
  all_goals simp [T7] at hd
theorem AOK {ts:Array gt} {sT xT e ty:gt} {d:TypeDesc} {inf:TypeInfo} {z:gq} {base:Option Addr} {sLen sCap n:Nat} {x:gq} {lo ln:List gq}
  (h0:ts[0]? = some sT) (h1:ts[1]? = some xT) (hu:P.underlying sT=some (.slice e)) (hi:P.info? e=some inf) (hz:inf.zero=some z) (hx:P.underlying xT=some d) (hd:T7 d=true)
  (hn:(Builtin.lenOf x).run P w=.ok n w) (ho:(Builtin.firstCells inf.size sLen (.slice base sLen sCap)).run P w.drew=.ok ⟨lo⟩ w.drew)
  (hf:(Builtin.firstCells inf.size n x).run P w.drew=.ok ⟨ln⟩ w.drew) (hgt:sCap<sLen+n) (hb1:1≤inf.bytes) (hb:2*(sLen+n)*inf.bytes≤281474976710656) :
  ∃ c,sLen+n≤c∧(Builtin.append_ ts ty #[.slice base sLen sCap,x]).run P w =
   .ok (.slice (some ⟨w.heap.size,0,none⟩) (sLen+n) c) (w.drew.alloc (.cells ⟨lo++ln++(Builtin.zeroCells z.cells (c-(sLen+n))).toList⟩ e)):=by
 have hc1:¬ (281474976710656<Builtin.nextslicecap (sLen+n) sCap*inf.bytes):=by
  have:=AC0 hgt
  have:=my inf.bytes this
  omega
 have hb0:¬ inf.bytes=0:=dn
 have hnf:¬ (sLen+n≤sCap):=dn
 refine ⟨(Question.appendCap (sLen+n) sCap e).cut (w.tape w.drawn (.appendCap (sLen+n) sCap e)),?_,?_⟩
 ·simp only [Question.cut];omega
 ·cases d;case slice =>
   simp [Builtin.append_,h0,h1,run_underlying hu,run_underlying hx,sizeOf,typeInfo,hi,hn,hnf,hb0,hc1,Question.forced,zeroValue,hz,newRow,ho,hf]
   congr 2
   apply mz
   simp
  case string =>
   simp [Builtin.append_,h0,h1,run_underlying hu,run_underlying hx,sizeOf,typeInfo,hi,hn,hnf,hb0,hc1,Question.forced,zeroValue,hz,newRow,ho,hf]
   congr 2
   apply mz
   simp
  all_goals simp [T7] at hd
end
section
variable {P:gr} {β:Env} {H:Heap} {w:gn}
def oQ (z:gq) (old new:List Ch):List Ch :=
 match z with
 | .int kd _=>match A' kd old,A' kd new with
  | some xs,some ys=>[.seq kd (xs++ys)]
  | _,_=>old++new
 | _=>old++new
theorem oS {z:gq} {old new:List Ch} {lo ln:List gq} (h1:AP β old lo) (h2:AP β new ln):AP β (oQ z old new) (lo++ln):=by
 unfold oQ;split
 ·split
  ·rename_i xs ys hx hy;obtain ⟨rfl,a1⟩:=DL hx h1;obtain ⟨rfl,a2⟩:=DL hy h2;rw [← pi];exact PG fun x hx=>(j_.1 hx).elim (a1 x) (a2 x)
  ·exact PA h1 h2
 ·exact PA h1 h2
def Da (fr:Nat) (e:gt) (inf:TypeInfo) (z:gq) (tomb:Heap) (old new:List Ch) (len n:Nat) (c1 c2:du) (ie:List Bool):R :=
 ⟨.val false [.sx fr (len+n) inf.size],tomb++[(fr,some ⟨e,oQ z old new,true⟩)],1,c1++(c2++[(decide (1≤inf.bytes∧2*(len+n)*inf.bytes≤281474976710656),true)]),ie⟩
def oT (P:gr) (ts:Array gt) (s x:Option AV) (H:Heap) (fr:Nat) (ie:List Bool):Option R :=
 match ts[0]?,ts[1]? with
 | some sT,some xT=>match P.underlying sT,P.underlying xT with
  | some (.slice e),some d=>match T7 d,P.info? e with
   | true,some inf=>match inf.zero,Wz x with
    | some z,some n=>match Nat.beq z.cells.size inf.size&&z.cells.toList.all (fun v=>v.oneCell'),PF H inf.size x n with
     | true,some (new,c2)=>match s with
      | some (.val false [.v (.slice none 0 0)])=>some (Da fr e inf z [] [] new 0 n [] c2 ie)
      | some (.val false [.sl bk 0 len cap])=>match PF H inf.size s len,AF H bk with
       | some (old,c1),some blk=>match Nat.beq blk.ty e,Nat.ble Br blk.ty with
        | true,false=>some (Da fr e inf z [(bk,none)] old new len n (c1++[(Nat.beq cap len,true)]) c2 ie)
        | _,true=>match blk.opn with
         | true=>some (Da fr e inf z [] old new len n (c1++[(Nat.beq cap len&&Nat.blt 0 n,true)]) c2 ie)
         | false=>none
        | _,_=>none
       | _,_=>none
      | some (.val false [.sx bk len sz])=>match Nat.beq sz inf.size,PF H inf.size s len,AF H bk with
       | true,some (old,c1),some blk=>match Nat.beq blk.ty e,Nat.ble Br blk.ty with
        | true,false=>some (Da fr e inf z [(bk,none)] old new len n c1 c2 ie)
        | _,_=>none
       | _,_,_=>none
      | _=>none
     | _,_=>none
    | _,_=>none
   | _,_=>none
  | _,_=>none
 | _,_=>none
theorem AC1 (z:Array gq) (n:Nat):(Builtin.zeroCells z n).toList.length=n*z.size:=by
 unfold Builtin.zeroCells;simp
theorem AOL {z:gq} (hz:∀ v∈z.cells.toList,v.oneCell'=true) (n:Nat):∀ v∈(Builtin.zeroCells z.cells n).toList,v.oneCell'=true:=by
 intro v hv;unfold Builtin.zeroCells at hv;simp only [r_,Array.toList_range,ml,mj] at hv;obtain ⟨i,hi,rfl⟩:=hv;have iy:0<z.cells.size:=by
  rcases md z.cells.size with h | h
  ·rw [h] at hi;simp at hi
  ·exact h
 have jb:=ki i iy;rw [getElem!_pos z.cells _ jb];exact hz _ (by simp)
theorem AC2 (z:gq) (hz:z.cells.toList.all (·.oneCell')=true) (n:Nat):∀ v∈(Builtin.zeroCells z.cells n).toList,v.oneCell'=true :=
 AOL (fun v hv=>nj.1 hz v hv) n
theorem Good.drew (g:Good β H w):Good β H w.drew:=⟨g.heap,g.inj,g.lt⟩
theorem AC3 {fr n len:Nat} {e:gt} {inf:TypeInfo} {z:gq} {tomb:Heap} {old new:List Ch} {c1 c2:du} {ie:List Bool} {lo ln ij:List gq} {c:Nat} (g:Good β H w)
  (hf:β fr=none) (h1:AP β old lo) (h2:AP β new ln) (htomb:∀ k y,(k,some y) ∉ tomb) (hc:len+n≤c) (ii:(lo++ln++ij).length=c*inf.size) (hrest:∀ v∈ij,v.oneCell'=true) :
  Eff β fr (Da fr e inf z tomb old new len n c1 c2 ie) w (.slice (some ⟨w.heap.size,0,none⟩) (len+n) c) (w.drew.alloc (.cells ⟨lo++ln++ij⟩ e)) (β.put fr (.at_ w.heap.size (c*inf.size,0))) where
 ext:=Env.le_put _ hf
 new:=fun b X k=>by
  unfold Env.put at k;split at k
  ·rename_i hb;subst hb;injection k with k;subst k;exact .inr ⟨ju _,by simp [Da],fun B m e=>by injection e with e1 e2;subst e1;exact .inl (ju _)⟩
  ·exact .inl k
 lt:=fun b B m k=>by
  unfold Env.put at k;split at k
  ·injection k with k;injection k with k _;subst k;simp
  ·have:=g.lt _ _ _ k;simp;omega
 inj:=fun b b' _ _ _ h1 h2 h3 h4 _ _=>by simp [Da] at h3 h4;omega
 val:=Az (.inl ⟨w.heap.size,c*inf.size,c,Env.put_same ..,rfl,hc,ju _⟩)
 upd:=fun k y hy=>by
  simp only [Da,j_,l_,kp,ke] at hy;rcases hy with hy | ⟨rfl,rfl⟩
  ·exact absurd hy (htomb _ _)
  ·exact Zy (l:=lo++ln) (t:=ij) (Env.put_same ..) (I1 (Env.le_put _ hf) (oS h1 h2)) (by show (w.heap.push _)[w.heap.size]? = _;simp) (fun h=>by simp at h) ii hrest
 frame:=fun B hB _=>by
  show (w.heap.push _)[B]? = _;rw [tq,jn dn]
 size:=by simp
 os:=rfl
 tape:=rfl
 output:=rfl
theorem AOM {fr n len bk B nB:Nat} {e:gt} {inf:TypeInfo} {z:gq} {old new:List Ch} {c1 c2:du} {ie:List Bool} {lo ln ij cur:List gq} {cap:Nat} (g:Good β H w)
  (hf:β fr=none) (hb:β bk=some (.at_ B (nB,0))) (ho:w.heap[B]? = some (.cells ⟨cur⟩ e (0,0))) (h1:AP β old lo) (h2:AP β new ln) (ii:(lo++ln++ij).length=nB) (hcap:len+n≤cap) (hcapn:cap*inf.size≤nB)
  (hrest:∀ v∈ij,v.oneCell'=true) :
  Eff β fr (Da fr e inf z [(bk,none)] old new len n c1 c2 ie) w (.slice (some ⟨B,0,none⟩) (len+n) cap) (w.setRow B ⟨lo++ln++ij⟩) (β.put fr (.at_ B (nB,0))) where
 ext:=Env.le_put _ hf
 new:=fun b X k=>by
  unfold Env.put at k;split at k
  ·rename_i hb';subst hb';injection k with k;subst k;exact .inr ⟨ju _,by simp [Da],fun B' m e=>by injection e with e1 e2;subst e1;exact .inr ⟨bk,(nB,0),by simp [Da],hb⟩⟩
  ·exact .inl k
 lt:=fun b B' m k=>by
  unfold Env.put at k;split at k
  ·injection k with k;injection k with k _;subst k;have:=g.lt _ _ _ hb;simpa [World.setRow] using this
  ·have:=g.lt _ _ _ k;simpa [World.setRow] using this
 inj:=fun b b' _ _ _ h1 h2 h3 h4 _ _=>by simp [Da] at h3 h4;omega
 val:=Az (.inl ⟨B,nB,cap,Env.put_same ..,rfl,hcap,hcapn⟩)
 upd:=fun k y hy=>by
  simp only [Da,j_,l_,kp,ke] at hy;rcases hy with ⟨_,hy⟩ | ⟨rfl,rfl⟩
  ·cases hy
  ·exact Zy (l:=lo++ln) (t:=ij) (Env.put_same ..) (I1 (Env.le_put _ hf) (oS h1 h2)) (setRow_heap w B ⟨cur⟩ _ e (0,0) ho) (fun h=>by simp at h) ii hrest
 frame:=fun B' hB jd=>by
  have:B'≠B:=fun e=>jd bk none (nB,0) (by simp [Da]) (by rw [e];exact hb)
  simp only [World.setRow,tr];rw [jn dn]
 size:=by simp [World.setRow]
 os:=rfl
 tape:=rfl
 output:=rfl
theorem aG {fr:Nat} {e:gt} {inf:TypeInfo} {z:gq} {tomb:Heap} {old new:List Ch} {c1 c2:du} {ie:List Bool} (g:Good β H w)
  (hf:β fr=none) (h1:AP β old []) (h2:AP β new []) (htomb:∀ k y,(k,some y) ∉ tomb) :
  Eff β fr (Da fr e inf z tomb old new 0 0 c1 c2 ie) w (.slice none 0 0) w (β.put fr .nil) where
 ext:=Env.le_put _ hf
 new:=fun b X k=>by
  unfold Env.put at k;split at k
  ·rename_i hb;subst hb;injection k with k;subst k;exact .inr ⟨ju _,by simp [Da],fun B m e=>by cases e⟩
  ·exact .inl k
 lt:=fun b B m k=>by
  unfold Env.put at k;split at k
  ·injection k with k;cases k
  ·exact g.lt _ _ _ k
 inj:=fun b b' _ _ _ h1 h2 h3 h4 _ _=>by simp [Da] at h3 h4;omega
 val:=Az (.inr ⟨Env.put_same ..,rfl,rfl⟩)
 upd:=fun k y hy=>by
  simp only [Da,j_,l_,kp,ke] at hy;rcases hy with hy | ⟨rfl,rfl⟩
  ·exact absurd hy (htomb _ _)
  ·exact .inr (.inl ⟨.nil,Env.put_same ..,Or.inl rfl,I1 (Env.le_put _ hf) (by simpa using oS h1 h2)⟩)
 frame:=fun _ _ _=>rfl
 size:=ju _
 os:=rfl
 tape:=rfl
 output:=rfl
theorem AON {ts:Array gt} {ty fr:Nat} {s x:Option AV} {u v:gq} {ie:List Bool} {r:R} (g:Good β H w) (hx:∀ A,s=some A→AO β A u) (hy:∀ A,x=some A→AO β A v)
  (h:oT P ts s x H fr ie=some r) (hc:AM r.conds) (hf:∀ b,fr≤b→b<fr+r.nw→β b=none) :
  ∃ q w' β',(Builtin.append_ ts ty #[u,v]).run P w=.ok q w'∧Eff β fr r w q w' β':=by
 unfold oT at h;split at h;case h_2=>cases h
 rename_i sT xT h0 h1;split at h;case h_2=>cases h
 rename_i e d hu hd;split at h;case h_2=>cases h
 rename_i inf hsl hi;split at h;case h_2=>cases h
 rename_i z n hz hn;split at h;case h_2=>cases h
 rename_i new c2 hzs hs;have ii:=aB (P:=P) (w:=w) hy hn
 have hlend:=aB (P:=P) (w:=w.drew) hy hn
 have hzs2:=jy.1 hzs;have hzs':=Ar.1 hzs2.1;have hzone:=hzs2.2;have grow:∀ (base:Option Addr) (tomb:Heap) (old:List Ch) (len cap:Nat) (c1:du) (lo:List gq),AM (Da fr e inf z tomb old new len n c1 c2 ie).conds →
   (Builtin.firstCells inf.size len (.slice base len cap)).run P w.drew=.ok ⟨lo⟩ w.drew→AP β old lo→lo.length=len*inf.size→(∀ k y,(k,some y) ∉ tomb)→β fr=none→cap<len+n →
   ∃ q w' β',(Builtin.append_ ts ty #[.slice base len cap,v]).run P w=.ok q w'∧Eff β fr (Da fr e inf z tomb old new len n c1 c2 ie) w q w' β':=by
  intro base tomb old len cap c1 lo hcc hlo hrel hll ht hfr hgt;obtain ⟨_,hcc⟩:=Bz.1 hcc;obtain ⟨o2,o3⟩:=Bz.1 hcc;have o3:=o3.1;simp only [jt] at o3;obtain ⟨ln,f1,f2,f3⟩:=T6 (P:=P) g.drew hy hs o2
  obtain ⟨c,hcge,i_⟩:=AOK (ty:=ty) h0 h1 hu hi hz hd hsl ii hlo f1 hgt o3.1 o3.2
  refine ⟨_,_,_,i_,AC3 g hfr hrel f2 ht hcge ?_ (AC2 z hzone _)⟩
  simp only [ku,hll,f3,AC1,hzs'];rw [← lv,← lv];congr 1;omega
 have fit:∀ (bk B nB:Nat) (blk:ib) (old:List Ch) (len cap:Nat) (c1:du) (lo:List gq),AM (Da fr e inf z [(bk,none)] old new len n c1 c2 ie).conds →
   AF H bk=some blk→blk.ty=e→blk.ty<Br→β bk=some (.at_ B (nB,0))→AP β old lo →
   (∀ cur e fz,w.heap[B]? = some (.cells ⟨cur⟩ e fz)→0+len*inf.size≤cur.length∧lo=(cur.drop 0).take (len*inf.size))→β fr=none→len+n≤cap→(n=0∨cap*inf.size≤nB)→(n=0→cap*inf.size≤nB) →
   ∃ q w' β',(Builtin.append_ ts ty #[.slice (some ⟨B,0,none⟩) len cap,v]).run P w=.ok q w'∧Eff β fr (Da fr e inf z [(bk,none)] old new len n c1 c2 ie) w q w' β':=by
  intro bk B nB blk old len cap c1 lo hcc hb hty hro e1 hrel hcur hfr hfit hcap hcap0;obtain ⟨_,hcc⟩:=Bz.1 hcc;obtain ⟨o2,_⟩:=Bz.1 hcc;obtain ⟨ln,n1,n2,n3⟩:=T6 (P:=P) g hy hs o2
  rcases Q0 (g.heap _ _ hb) hro with ⟨B',n',l,t',e4,e3,e5,e6,e7,e8⟩ | ⟨e4,_⟩
  ·rw [e1] at e4;injection e4 with e4;injection e4 with e4 e4';injection e4' with e4' _;subst e4;subst e4';rw [hty] at e5;obtain ⟨q1,q2⟩:=hcur _ _ _ e5;have hcn:cap*inf.size≤nB:=hcap.elim hcap0 id
   have hln:(len+n)*inf.size≤(l++t').length:=by
    rw [e7];exact mw (my _ hfit) hcn
   rw [lv] at hln;have q3:lo=(l++t').take (len*inf.size):=by simpa using q2
   have hst:=run_storeCells_at P B (len*inf.size) e ln 0 ⟨l++t'⟩ w e5 (by rw [n3];simpa using hln) (Tz n2)
   simp only [og,n3] at hst;refine ⟨_,_,_,?_,AOM (ij:=(l++t').drop (len*inf.size+n*inf.size)) (cap:=cap) g hfr e1 e5 hrel n2 ?_ hfit hcn ?_⟩
   ·have:=aE (ty:=ty) (base:=some ⟨B,0,none⟩) (sLen:=len) (sCap:=cap) h0 h1 hu hi hd hsl ii n1 hfit
    rw [this];simp only [Addr.add_lit,kr,hst,Result.andThen_ok,q3]
   ·rw [← e7,q3];simp only [ku,kv,lk,n3] at hln ⊢;omega
   ·intro v hv;rcases j_.1 (pn hv) with hv | hv
    ·exact Tz e3 v hv
    ·exact e8 v hv
  ·rw [e1] at e4;cases e4
 split at h
 ·
  injection h with h;subst h;have hfr:=hf fr (ju _) (by simp [Da])
  have:=(A5 (hx _ rfl)).1
  injection this with e1 _;subst e1;rcases md n with hn0 | iy
  ·subst hn0;have hc':AM (c2++_):=hc
   obtain ⟨o2,_⟩:=Bz.1 hc';obtain ⟨ln,f1,f2,f3⟩:=T6 (P:=P) g hy hs o2
   have hl0:ln=[]:=sv.1 (by rw [f3];simp)
   subst hl0;refine ⟨_,_,_,?_,aG g hfr rfl f2 (by simp)⟩
   have:=aE (ty:=ty) (base:=none) (sLen:=0) (sCap:=0) h0 h1 hu hi hd hsl ii f1 (ju _)
   simpa using this
  ·exact grow none [] [] 0 0 [] [] hc rfl rfl (by simp) (by simp) hfr dn
 ·
  rename_i bk len cap;split at h;case h_2=>cases h
  rename_i old c1 blk hso hb;split at h;case h_3=>cases h
  case h_2 =>
   split at h;case h_2=>cases h
   rename_i hop;injection h with h;subst h;have hfr:=hf fr (ju _) (by simp [Da])
   obtain ⟨oo,_⟩:=Bz.1 hc;obtain ⟨o1,oc⟩:=Bz.1 oo;have oc':=jy.1 oc.1;have hcap:=Ar.1 oc'.1;have iy:0<n:=jp oc'.2
   subst hcap;obtain ⟨lo,f1,f2,f3,f4⟩:=Wy (P:=P) g hx hso o1
   rcases A5 (hx _ rfl) with ⟨B,nn,e1,e2⟩ | ⟨e1,_,e0,_,e2⟩ | ⟨e1,_⟩
   case inr.inr=>exact absurd (ANj (g.heap _ _ hb) e1).1 (by rw [hop];decide)
   ·injection e2 with e2 _;subst e2;exact grow _ _ old _ _ _ lo hc (f1 _ rfl) f2 f3 (by simp) hfr dn
   ·injection e2 with e2 _;subst e2;subst e0;exact grow none _ old 0 0 _ lo hc (f1 _ rfl) f2 f3 (by simp) hfr dn
  rename_i hty hro;injection h with h;subst h;have hfr:=hf fr (ju _) (by simp [Da])
  obtain ⟨oo,_⟩:=Bz.1 hc;obtain ⟨o1,oc⟩:=Bz.1 oo;have hcap:=Ar.1 oc.1;subst hcap;obtain ⟨lo,f1,f2,f3,f4⟩:=Wy (P:=P) g hx hso o1
  rcases Q0 (g.heap _ _ hb) (PB hro) with ⟨B,nn,l,t',e4,e3,e5,e6,e7,e8⟩ | ⟨e4,_⟩
  ·rcases A5 (hx _ rfl) with ⟨B',nn',e1,e2⟩ | ⟨e1,_⟩ | ⟨e1,_⟩
   case inr.inl=>rw [e1] at e4;cases e4
   case inr.inr=>rw [e1] at e4;cases e4
   have jd:ACw β (some (.val false [.sl bk 0 cap cap])):=fun _ _ _ _ q q'=>by cases q;rw [e1] at q';cases q'
   injection e2 with e2 _;subst e2;rw [e1] at e4;injection e4 with e4;injection e4 with e4 e4';subst e4;subst e4';rw [kr] at f1 f4 ⊢;rcases md n with hn0 | iy
   ·refine fit bk _ nn blk old _ _ _ lo hc hb (Ar.1 hty) (PB hro) e1 f2 (fun cur e fz hh=>f4 jd _ _ _ _ _ _ _ rfl hh) hfr dn (.inl hn0) (fun _=>?_)
    have:=(f4 jd _ _ _ _ _ _ _ rfl e5).1
    rw [e7] at this;omega
   ·exact grow _ _ old _ _ _ lo hc (f1 _ rfl) f2 f3 (by simp) hfr dn
  ·rcases A5 (hx _ rfl) with ⟨B',nn',e1,e2⟩ | ⟨e1,_,e0,_,e2⟩ | ⟨e1,_⟩
   case inr.inr=>rw [e1] at e4;cases e4
   ·rw [e1] at e4;cases e4
   injection e2 with e2 _;subst e2;subst e0;have hl0:lo=[]:=sv.1 (by rw [f3];simp)
   subst hl0;rcases md n with hn0 | iy
   ·subst hn0;obtain ⟨_,oo2⟩:=Bz.1 hc;obtain ⟨o2,_⟩:=Bz.1 oo2;obtain ⟨ln,n1,n2,n3⟩:=T6 (P:=P) g hy hs o2
    have hl0:ln=[]:=sv.1 (by rw [n3];simp)
    subst hl0;refine ⟨_,_,_,?_,aG g hfr f2 n2 (by simp)⟩
    have:=aE (ty:=ty) (base:=none) (sLen:=0) (sCap:=0) h0 h1 hu hi hd hsl ii n1 (ju _)
    simpa using this
   ·exact grow none _ old 0 0 _ [] hc rfl f2 (by simp) (by simp) hfr dn
 ·
  rename_i bk len sz;split at h;case h_2=>cases h
  rename_i old c1 blk hsz hso hb;split at h;case h_2=>cases h
  rename_i hty hro;injection h with h;subst h;have hfr:=hf fr (ju _) (by simp [Da])
  obtain ⟨o1,oo⟩:=Bz.1 hc;have hsz':=Ar.1 hsz;subst hsz';obtain ⟨lo,f1,f2,f3,f4⟩:=Wy (P:=P) g hx hso o1
  rcases A5 (hx _ rfl) with ⟨B,nn,cap,e1,e2,e3,e4⟩ | ⟨e1,e0,e2⟩
  ·injection e2 with e2 _;subst e2;rcases kf cap (len+n) with jb | hge
   ·exact grow _ _ old _ _ _ lo hc (f1 _ rfl) f2 f3 (by simp) hfr jb
   ·exact fit bk B nn blk old _ _ _ lo hc hb (Ar.1 hty) (PB hro) e1 f2 (fun cur e fz hh=>f4 (fun _ _ _ _ q=>by cases q) _ _ _ _ _ _ _ rfl hh) hfr hge (.inr e4) (fun _=>e4)
  ·injection e2 with e2 _;subst e2;subst e0;have hl0:lo=[]:=sv.1 (by rw [f3];simp)
   subst hl0;rcases md n with hn0 | iy
   ·subst hn0;obtain ⟨o2,_⟩:=Bz.1 oo;obtain ⟨ln,n1,n2,n3⟩:=T6 (P:=P) g hy hs o2
    have hl0:ln=[]:=sv.1 (by rw [n3];simp)
    subst hl0;refine ⟨_,_,_,?_,aG g hfr f2 n2 (by simp)⟩
    have:=aE (ty:=ty) (base:=none) (sLen:=0) (sCap:=0) h0 h1 hu hi hd hsl ii n1 (ju _)
    simpa using this
   ·exact grow none _ old 0 0 _ [] hc rfl f2 (by simp) (by simp) hfr dn
 ·cases h
def aH (xs:dt):ByteArray:=xs.foldl (fun r n=>r.push (UInt8.ofNat n.toNat)) ByteArray.empty
def aI (x:Option AV):Option Nat :=
 match x with
 | some (.val false [.sl _ _ len _])=>some len
 | some (.val false [.sx _ len _])=>some len
 | some (.val false [.v (.slice none len _)])=>some len
 | _=>none
theorem AOO {x:Option AV} {n:Nat} (h:aI x=some n):Wz x=some n:=by
 unfold aI at h;split at h
 all_goals first | (cases h;done) | exact h
def oU (P:gr) (src dst:gt) (x:Option AV) (H:Heap) (ie:List Bool):Option R :=
 match P.underlying src,P.underlying dst with
 | some (.slice e),some .string=>match P.underlying e,aI x with
  | some (.int .u8),some n=>match PF H 1 x n with
   | some (cs,c)=>match A' .u8 cs with
    | some xs=>some ⟨.val false [.v (.string (aH xs))],[],0,c,ie⟩
    | none=>none
   | none=>none
  | _,_=>none
 | _,_=>none
theorem AOP {src dst:gt} {x:Option AV} {u:gq} {ie:List Bool} {r:R} (g:Good β H w) (hx:∀ A,x=some A→AO β A u) (h:oU P src dst x H ie=some r) (hc:AM r.conds) (fr:Nat) :
  ∃ v,(convert src dst u).run P w=.ok v w∧Eff β fr r w v w β:=by
 unfold oU at h;split at h;case h_2=>cases h
 rename_i e hs hd;split at h;case h_2=>cases h
 rename_i n he hn;split at h;case h_2=>cases h
 rename_i cs c hcs;split at h;case h_2=>cases h
 rename_i xs jh;injection h with h;subst h;obtain ⟨l,f1,f2,f3⟩:=(show ∃ l,(∀ w',w'.heap=w.heap→(Builtin.firstCells 1 n u).run P w'=.ok ⟨l⟩ w')∧AP β cs l∧l.length=n*1 from let ⟨l,f1,f2,f3,_⟩:=Wy (P:=P) g hx hcs hc;⟨l,f1,f2,f3⟩)
 obtain ⟨rfl,_⟩:=DL jh f2;have ii:=aB (P:=P) (w:=w) hx (AOO hn)
 have f1:=f1 w rfl;rw [kt] at f3;refine ⟨.string (aH xs),?_,Eff.pure_ g (Az ⟨rfl,rfl,trivial⟩)⟩
 have some_:∀ (a:Addr) (len cap:Nat),u=.slice (some a) len cap→(convert src dst u).run P w=.ok (.string (aH xs)) w:=by
  intro a len cap hu;subst hu;have hl:len=n:=by simpa [Builtin.lenOf] using ii
  subst hl;rw [run_convert_bytes_string w src dst e (some a) len cap hs he hd];exact run_bytesToString w a len cap xs (by simpa [Builtin.firstCells] using f1)
 have none_:u=.slice none 0 0→(convert src dst u).run P w=.ok (.string (aH xs)) w:=by
  intro hu;subst hu;have hl:0=n:=by simpa [Builtin.lenOf] using ii
  subst hl;have hx0:xs=[]:=by simpa using f3
  subst hx0;rw [run_convert_bytes_string w src dst e none 0 0 hs he hd];rfl
 unfold aI at hn;split at hn
 ·rcases A5 (hx _ rfl) with ⟨B,nn,e1,e2⟩ | ⟨_,_,_,_,e2⟩ | ⟨_,_,_,_,_,_,e2⟩
  ·injection e2 with e2 _;exact some_ _ _ _ e2
  ·injection e2 with e2 _;exact none_ e2
  ·injection e2 with e2 _;exact some_ _ _ _ e2
 ·rcases A5 (hx _ rfl) with ⟨B,nn,cap,e1,e2,_⟩ | ⟨_,_,e2⟩
  ·injection e2 with e2 _;exact some_ _ _ _ e2
  ·injection e2 with e2 _;exact none_ e2
 ·rename_i len cap;have:=(A5 (hx _ rfl)).1
  injection this with e2 _;subst e2;injection hn with hn;subst hn;rw [run_convert_bytes_string w src dst e none len cap hs he hd];have:xs=[]:=by
   have:=f1
   simp [Builtin.firstCells] at this
   simpa using this.symm
  subst this;rfl
 ·cases hn
def MQ (s:ByteArray):dt:=s.data.toList.map fun b=>(b.toNat:Int)
theorem AOQ (s:ByteArray):∀ x∈MQ s,has .u8 x:=by
 intro x hx;obtain ⟨b,_,rfl⟩:=ml.1 hx;have:=b.toNat_lt
 rw [FX];simp only [AK,jx,jt];omega
def oV (P:gr) (src dst:gt) (x:Option AV) (H:Heap) (fr:Nat) (ie:List Bool):Option R :=
 match P.underlying src,P.underlying dst with
 | some .string,some (.slice e)=>match P.underlying e,x with
  | some (.int .u8),some (.val false [.v (.string s)])=>some ⟨.val false [.sx fr s.size 1],[(fr,some ⟨Br,[.seq .u8 (MQ s)],true⟩)],1,[],ie⟩
  | _,_=>none
 | some (.slice _),some (.slice e)=>match P.underlying e,Nat.beq src dst,x with
  | some (.int .u8),true,some (.val false [.sl bk ic len cap])=>match AF H bk with
   | some ⟨ty,cs,false⟩=>match Nat.ble Br ty with
    | false=>some ⟨.val false [.sl bk ic len cap],[(bk,some ⟨Br,cs,false⟩)],0,[],ie⟩
    | true=>none
   | _=>none
  | _,_,_=>none
 | _,_=>none
theorem AOR {src dst fr:gt} {x:Option AV} {u:gq} {ie:List Bool} {r:R} (g:Good β H w) (hx:∀ A,x=some A→AO β A u) (h:oV P src dst x H fr ie=some r) (hf:∀ b,fr≤b→b<fr+r.nw→β b=none) :
  ∃ v w' β',(convert src dst u).run P w=.ok v w'∧Eff β fr r w v w' β':=by
 unfold oV at h;split at h;case h_3=>cases h
 ·rename_i e hs hd;split at h;case h_2=>cases h
  rename_i s he;injection h with h;subst h;have hfr:=hf fr (ju _) (by simp)
  have:=(A5 (hx _ rfl)).1
  injection this with e2 _;subst e2;have hcap:s.size≤grownCap w s.size 0 e:=by unfold grownCap;simp only [Question.cut];omega
  refine ⟨_,_,β.put fr (.at_ w.heap.size (grownCap w s.size 0 e,0)),run_bytes_of_string w src dst e s hs hd he,?_⟩
  generalize grownCap w s.size 0 e=c at *
  exact {
   ext:=Env.le_put _ hfr
   new:=fun b X k=>by
    unfold Env.put at k;split at k
    ·rename_i hb;subst hb;injection k with k;subst k;exact .inr ⟨ju _,by simp,fun B m e=>by injection e with e1 e2;subst e1;exact .inl (ju _)⟩
    ·exact .inl k
   lt:=fun b B m k=>by
    unfold Env.put at k;split at k
    ·injection k with k;injection k with k _;subst k;simp
    ·have:=g.lt _ _ _ k;simp;omega
   inj:=fun b b' _ _ _ h1 h2 h3 h4 _ _=>by simp at h3 h4;omega
   val:=Az (.inl ⟨w.heap.size,c,c,Env.put_same ..,rfl,hcap,dn⟩)
   upd:=fun k y hy=>by
    simp only [l_,kp,ke] at hy;obtain ⟨rfl,rfl⟩:=hy;refine .inl ⟨w.heap.size,(c,0),(MQ s).map (.int .u8),Array.toList (Array.replicate (c-s.size) (.int .u8 0)),[],e,((bytesRow s c).size,(bytesRow s c).size+1),Env.put_same ..,PG (AOQ s),?_,rfl,fun h=>absurd rfl h⟩
    show (w.heap.push _)[w.heap.size]? = _;rw [tq,jo rfl];congr 2
    apply mz
    simp [bytesRow,MQ]
   frame:=fun B hB _=>by
    show (w.heap.push _)[B]? = _;rw [tq,jn dn]
   size:=by simp
   os:=rfl
   tape:=rfl
   output:=rfl }
 ·rename_i e0 e hs hd;split at h;case h_2=>cases h
  rename_i bk ic len cap he hsd;split at h;case h_2=>cases h
  rename_i ty cs hb;split at h;case h_2=>cases h
  rename_i hro;injection h with h;subst h;have hro':=PB hro;rcases Q0 (g.heap _ _ hb) hro' with ⟨B,n,l,t',e4,e3,e5,e6,e7,e8⟩ | ⟨_,e4,_⟩
  case inr=>cases e4
  rcases A5 (hx _ rfl) with ⟨B',nn,e1,e2⟩ | ⟨e1,_⟩ | ⟨e1,_⟩
  case inr.inl=>rw [e1] at e4;cases e4
  case inr.inr=>rw [e1] at e4;cases e4
  injection e2 with e2 _;subst e2;rw [e1] at e4;injection e4 with e4;injection e4 with e4 e4';subst e4;subst e4';obtain rfl:=Ar.1 hsd
  have hB:B'<w.heap.size:=by
   rcases kf B' w.heap.size with h | h
   ·exact h
   ·rw [Array.getElem?_eq_none h] at e5;cases e5
  refine ⟨.slice (some ⟨B',(n,0).2+ic,none⟩) len cap,w.freeze ⟨B',(l++t').length,none⟩ 1,β,?_,?_⟩
  ·obtain rfl:e0=e:=by rw [hs] at hd;injection hd with hd;injection hd
   have hsh:w.shape? B'=some (ty,(l++t').length):=by unfold World.shape?;rw [e5];rfl
   simp [convert,run_underlying hs,run_underlying he,markStringish,hsh]
  ·have hh:∀ b,(w.freeze ⟨B',(l++t').length,none⟩ 1).heap[b]? = if b=B' then some (.cells ⟨l++t'⟩ ty ((l++t').length,(l++t').length+1)) else w.heap[b]?:=by
    intro b;show (w.heap.modify B' _)[b]? = _;rw [tr];by_cases q:B'=b
    ·subst q;rw [jo rfl,jo rfl,e5];rfl
    ·rw [jn q,jn (fun h=>q h.symm)]
   have hsz:(w.freeze ⟨B',(l++t').length,none⟩ 1).heap.size=w.heap.size:=by
    show (w.heap.modify B' _).size=_;simp
   exact {
    ext:=Env.le_refl β
    new:=fun _ _ h=>.inl h
    lt:=fun b B m h=>by rw [hsz];exact g.lt _ _ _ h
    inj:=fun b b' _ _ _ h1 _ h3=>by simp at h3;omega
    val:=Az (.inl ⟨B',(n,0),e1,rfl⟩)
    upd:=fun k y hy=>by
     simp only [l_,kp,ke] at hy;obtain ⟨rfl,rfl⟩:=hy;refine .inl ⟨B',(n,0),l,t',[],ty,((l++t').length,(l++t').length+1),e1,e3,?_,rfl,fun h=>absurd rfl h⟩
     rw [hh,jo rfl];rfl
    frame:=fun b hB jd=>by
     have:b≠B':=fun e=>jd _ _ (n,0) (l_.2 rfl) (by rw [e];exact e1)
     rw [hh,jn this]
    size:=by rw [hsz];exact ju _
    os:=rfl
    tape:=rfl
    output:=rfl }
end
section
variable {P:gr} {β:Env} {H:Heap} {w:gn}
def oW (P:gr) (t:gt) (rs:Option Operand) (fr:Nat) (ie:List Bool):Option R :=
 match P.underlying t,rs with
 | some (.map kT eT),none=>match P.underlying kT,P.info? eT with
  | some .string,some inf=>some ⟨.val false [.mp fr],[(fr,some ⟨Jr+inf.size,[.mk],false⟩)],1,[],ie⟩
  | _,_=>none
 | _,_=>none
theorem AOS {t:gt} {rs:Option Operand} {fr:Nat} {ie:List Bool} {r:R} (g:Good β H w) (h:oW P t rs fr ie=some r) (hf:∀ b,fr≤b→b<fr+r.nw→β b=none) :
  rs=none∧∃ u w' β',(Instr.makeMap t none).run P w=.ok u w'∧Eff β fr r w u w' β':=by
 unfold oW at h;split at h;case h_2=>cases h
 rename_i kT eT _ _;split at h;case h_2=>cases h
 rename_i inf _ _;injection h with h;subst h;have hfr:=hf fr (ju _) (by simp)
 refine ⟨rfl,.map (some w.heap.size),w.alloc (.map #[] 0),β.put fr (.at_ w.heap.size (0,0)),by simp [Instr.makeMap],?_⟩
 exact {
  ext:=Env.le_put _ hfr
  new:=fun b X k=>by
   unfold Env.put at k;split at k
   ·rename_i hb;subst hb;injection k with k;subst k;exact .inr ⟨ju _,by simp,fun B n e=>by injection e with e1 e2;subst e1;exact .inl (ju _)⟩
   ·exact .inl k
  lt:=fun b B m k=>by
   unfold Env.put at k;split at k
   ·injection k with k;injection k with k _;subst k;simp
   ·have:=g.lt _ _ _ k;simp;omega
  inj:=fun b b' _ _ _ h1 h2 h3 h4 _ _=>by simp at h3 h4;omega
  val:=Az ⟨_,Env.put_same ..,rfl⟩
  upd:=fun k y hy=>by
   simp only [l_,kp,ke] at hy;obtain ⟨rfl,rfl⟩:=hy;exact .inr (.inr ⟨w.heap.size,[],#[],0,Env.put_same ..,Nat.le_add_right _ _,⟨[_],[],rfl,rfl,rfl⟩,by show (w.heap.push _)[w.heap.size]? = _;simp,rfl,fun e he=>by cases he⟩)
  frame:=fun B hB _=>by
   show (w.heap.push _)[B]? = _;rw [tq,jn dn]
  size:=by simp
  os:=rfl
  tape:=rfl
  output:=rfl }
def Q7 (s:Nat) (k:ByteArray):Nat→List Ch→List Bool→Option (Option (List Ch)×du×List Bool)
 | _,[],ie=>some (none,[],ie)
 | n+1,.v (.string st)::cs,ie=>match F' cs s with
  | some (a,r)=>match ie with
   | true::p=>some (some a,[(k==st,true)],p)
   | false::p=>match Q7 s k n r p with
    | some (x,c,q)=>some (x,(k==st,false)::c,q)
    | none=>none
   | []=>none
  | none=>none
 | _,_,_=>none
theorem aJ {s:Nat} {k:ByteArray}:∀ {n:Nat} {cs:List Ch} {ie:List Bool} {x:Option (List Ch)} {c:du} {q:List Bool} {es:List MapEntry} {l:List gq},
  Q7 s k n cs ie=some (x,c,q)→AM c→AP β cs l→nM s es l→∀ i:Nat,
   match x with
   | some a=>∃ j v,Instr.findNow .string (.string k) es i=some (some (j,v))∧Bt β true a v
   | none=>Instr.findNow .string (.string k) es i=some none
 | n,[],ie,x,c,q,es,l,h,hc,hl,he,i=>by
  simp only [Q7,ke,kp] at h;obtain ⟨rfl,rfl,rfl⟩:=h;simp only [AP] at hl;subst hl;cases es with
  | nil=>rfl
  | cons e es=>have:=he.1;simp at this
 | 0,c0::cs,ie,x,c,q,es,l,h,hc,hl,he,i=>by simp [Q7] at h
 | n+1,c0::cs,ie,x,c,q,es,l,h,hc,⟨l1,l2,h1,h2,h3⟩,he,i=>by
  unfold Q7 at h;split at h
  ·rename_i e;cases e
  ·rename_i st cs' p e1 e2;injection e2 with e2 e3;subst e2;subst e3;injection e1 with e1;subst e1;split at h;case h_2=>cases h
   rename_i a r hs;simp only [BM] at h1;obtain ⟨rfl,_⟩:=h1;cases es with
   | nil=>have:=he.1;rw [h3] at this;simp at this
   | cons e es =>
    obtain ⟨⟨st',hk⟩,cc,hv,hn⟩:=he.2 e (qr ..)
    have h4:=he.1;rw [h3,List.flatMap_cons,hk,hv] at h4;simp only [n_,qs,Value.string.injEq] at h4;obtain ⟨h5,h4⟩:=h4;subst h5;obtain ⟨f1,f2,f3⟩:=I2 hs h2;have h6:(Value.agg ⟨cc⟩).cells.toList=cc:=rfl
    rw [h6,oh] at h4;have h7:l2.take s=cc:=by rw [h4,List.take_left' hn]
    have h8:l2.drop s=es.flatMap fun e=>e.key::e.val.cells.toList:=by rw [h4,List.drop_left' hn]
    rw [h7] at f1;rw [h8] at f2;split at h
    ·simp only [ke,kp] at h;obtain ⟨rfl,rfl,rfl⟩:=h;refine ⟨i,e.val,?_,?_⟩
     ·simp [Instr.findNow,Instr.sameNow,hk,hc.1]
     ·rw [hv];exact ⟨cc,f1,rfl⟩
    ·split at h;case h_2=>cases h
     rename_i y c' q' hq;simp only [ke,kp] at h;obtain ⟨rfl,rfl,rfl⟩:=h;have ih:=aJ hq hc.2 f2 ⟨rfl,fun e he'=>he.2 e (oq _ he')⟩ (i+1)
     have hstep:Instr.findNow .string (.string k) (e::es) i=Instr.findNow .string (.string k) es (i+1):=by
      simp [Instr.findNow,Instr.sameNow,hk,hc.1]
     rw [hstep];exact ih
    ·cases h
  ·cases h
def oX (P:gr) (t:gt) (x ix:Option AV) (ok:Bool) (H:Heap) (ie:List Bool):Option R :=
 match P.underlying t,x,ix with
 | some (.map kT eT),some (.val false [.mp bk]),some (.val false [.v (.string k)])=>match P.underlying kT,P.info? eT,AF H bk with
  | some .string,some inf,some ⟨ty,.mk::cs,_⟩=>match Nat.beq ty (Jr+inf.size),ok with
   | true,true=>match Q7 inf.size k cs.length cs ie with
    | some (some a,c,q)=>some ⟨.tup [(true,a),(false,[.b true])],[],0,c,q⟩
    | some (none,c,q)=>match inf.zero with
     | some (.agg ⟨z⟩)=>match NU z with
      | some zc=>some ⟨.tup [(true,zc),(false,[.b false])],[],0,c,q⟩
      | none=>none
     | _=>none
    | none=>none
   | _,_=>none
  | _,_,_=>none
 | _,_,_=>none
theorem AC4 {B bk:Nat} {blk:ib} {cs:List Ch} (g:Good β H w) (hB:β bk=some (.at_ B (0,0))) (hb:AF H bk=some blk) (hcs:blk.cs=.mk::cs) (ht:Jr≤blk.ty) :
  ∃ l es clock,AP β cs l∧w.heap[B]? = some (.map es clock)∧nM (blk.ty-Jr) es.toList l:=by
 rcases g.heap _ _ hb with ⟨B',n,l,t,pre,ty,fz,h1,h2,h3,h4,h5⟩ | ⟨X,h1,hX,_⟩ | ⟨B',l,es,q,h1,h2,h3,h4⟩
 ·exfalso
  rw [hB] at h1;injection h1 with h1;injection h1 with _ h1;subst h1;obtain ⟨_,_,_,_,h6,_⟩:=h5 (fun e=>by rw [e] at ht;exact absurd ht dp)
  rw [hcs] at h2;have:=Tv h2
  simp only [MF,E9] at this;simp at h6
  rw [h6.1] at this;simp at this
  omega
 ·rw [hB] at h1;injection h1 with h1;subst h1;exact hX.elim
 ·rw [hB] at h1;injection h1 with h1;injection h1 with h1 _;subst h1;rw [hcs] at h3;obtain ⟨l1,l2,h3,h5,h6⟩:=h3;simp only [BM] at h3;subst h3;simp only [List.singleton_append,qs,true_and] at h6;subst h6;exact ⟨_,es,q,h5,h4⟩
theorem AOT {t:gt} {x ix:Option AV} {u v:gq} {ok:Bool} {ie:List Bool} {r:R} (g:Good β H w) (hx:∀ A,x=some A→AO β A u) (hi:∀ A,ix=some A→AO β A v)
  (h:oX P t x ix ok H ie=some r) (hc:AM r.conds) (fr:Nat):∃ z,(Instr.lookup t u v ok).run P w=.ok z w∧Eff β fr r w z w β:=by
 unfold oX at h;split at h;case h_2=>cases h
 rename_i kT eT bk k hu;obtain ⟨B,hB,h1⟩:=A5 (hx _ rfl)
 injection h1 with h1 _;subst h1;have h2:=(A5 (hi _ rfl)).1
 injection h2 with h2 _;subst h2;split at h;case h_2=>cases h
 rename_i inf ty cs o hk he hb;split at h;case h_2=>cases h
 rename_i hty;obtain ⟨l,es,clock,q1,q2,q3⟩:=AC4 g hB hb rfl (by rw [Ar.1 hty];exact Nat.le_add_right _ _)
 simp only [Ar.1 hty,tw] at q3;have hkey:(Instr.checkKey es.isEmpty 10000 kT (.string k)).run P w=.ok () w:=by
  unfold Instr.checkKey;simp only [Sem.run_bind,run_underlying hk,Result.andThen];rfl
 split at h
 ·rename_i a c q hf;injection h with h;subst h;obtain ⟨j,y,e1,e2⟩:=aJ hf hc q1 q3 0;refine ⟨.tuple #[y,.bool true],?_,Eff.pure_ g ⟨_,⟨y,_,e2,⟨_,_,Az rfl,rfl,rfl⟩,rfl⟩,rfl⟩⟩
  simp [Instr.lookup,run_underlying hu,Result.andThen,Go.MapKept.run_getObj_map q2,hkey,Go.MapKept.run_findKey hk e1]
 ·rename_i c q hf;split at h;case h_2=>cases h
  rename_i z hz;split at h;case h_2=>cases h
  rename_i zc hzc;injection h with h;subst h;have e1:=aJ hf hc q1 q3 0;refine ⟨.tuple #[.agg ⟨z⟩,.bool false],?_,Eff.pure_ g ⟨_,⟨_,_,⟨z,Tx hzc,rfl⟩,⟨_,_,Az rfl,rfl,rfl⟩,rfl⟩,rfl⟩⟩
  simp [Instr.lookup,run_underlying hu,Result.andThen,Go.MapKept.run_getObj_map q2,hkey,Go.MapKept.run_findKey hk e1,zeroValue,typeInfo,he,hz]
 ·cases h
def oY (P:gr) (t:gt) (m k v:Option AV) (H:Heap) (ie:List Bool):Option R :=
 match P.underlying t,m,k,v with
 | some (.map kT _),some (.val false [.mp bk]),some (.val false [.v (.string k)]),some (.val true vc)=>match P.underlying kT,AF H bk with
  | some .string,some ⟨ty,.mk::cs,o⟩=>match Nat.beq ty (Jr+MF vc),Q7 (MF vc) k cs.length cs ie with
   | true,some (none,c,q)=>some ⟨.any,[(bk,some ⟨ty,.mk::(cs++.v (.string k)::vc),o⟩)],0,c,q⟩
   | _,_=>none
  | _,_=>none
 | _,_,_,_=>none
theorem AOU {t:gt} {x k y:Option AV} {u s v:gq} {ie:List Bool} {r:R} (g:Good β H w) (hx:∀ A,x=some A→AO β A u) (hk:∀ A,k=some A→AO β A s) (hy:∀ A,y=some A→AO β A v)
  (h:oY P t x k y H ie=some r) (hc:AM r.conds) (fr:Nat):∃ w',(Instr.mapUpdate t u s v).run P w=.ok () w'∧Eff β fr r w undef w' β:=by
 unfold oY at h;split at h;case h_2=>cases h
 rename_i kT eT bk kk vc hu;obtain ⟨B,hB,h1⟩:=A5 (hx _ rfl)
 injection h1 with h1 _;subst h1;have h2:=(A5 (hk _ rfl)).1
 injection h2 with h2 _;subst h2;obtain ⟨vl,hv,rfl⟩:=hy _ rfl;split at h;case h_2=>cases h
 rename_i ty cs o hkT hb;split at h;case h_2=>cases h
 rename_i c q hty hf;injection h with h;subst h;have je:Jr≤ty:=by rw [Ar.1 hty];exact Nat.le_add_right _ _
 obtain ⟨l,es,clock,q1,q2,q3⟩:=AC4 g hB hb rfl je;simp only [Ar.1 hty,tw] at q3;have e1:=aJ hf hc q1 q3 0;have hkey:(Instr.checkKey false 10000 kT (.string kk)).run P w=.ok () w:=by
  unfold Instr.checkKey;simp only [Sem.run_bind,run_underlying hkT,Result.andThen];rfl
 obtain ⟨s1,s2⟩:=Go.MapKept.heap_set (o':=.map (es.push { key:=.string kk,val:=.agg ⟨vl⟩,born:=clock }) (clock+1)) q2
 refine ⟨{ w with heap:=w.heap.setIfInBounds B (.map (es.push { key:=.string kk,val:=.agg ⟨vl⟩,born:=clock }) (clock+1)) },?_,?_⟩
 ·simp [Instr.mapUpdate,run_underlying hu,Result.andThen,Go.MapKept.run_getObj_map q2,hkey,Go.MapKept.run_findKey hkT e1,Go.MapKept.run_setObj_map _ q2]
 ·exact {
   ext:=Env.le_refl β
   new:=fun _ _ h=>.inl h
   lt:=fun b B' m h=>by have:=g.lt _ _ _ h;simpa using this
   inj:=fun b b' _ _ _ h1 _ h3=>by simp at h3;omega
   val:=trivial
   upd:=fun k y hy=>by
    simp only [l_,kp,ke] at hy;obtain ⟨rfl,rfl⟩:=hy;refine .inr (.inr ⟨B,l++(.string kk::vl),_,_,hB,je,⟨[_],_,rfl,PA q1 ⟨[_],vl,⟨rfl,rfl,trivial⟩,hv,rfl⟩,rfl⟩,s1,?_,?_⟩)
    ·rw [Array.toList_push,List.flatMap_append,← q3.1,List.flatMap_cons,List.flatMap_nil,lh];rfl
    ·intro e he;simp only [Array.toList_push,j_,l_] at he;simp only [Ar.1 hty,tw];rcases he with he | rfl
     ·exact q3.2 e he
     ·exact ⟨⟨_,rfl⟩,vl,rfl,Tv hv⟩
   frame:=fun B' hB' jd=>s2 B' fun e=>jd _ _ (0,0) (l_.2 rfl) (by rw [e];exact hB)
   size:=by simp
   os:=rfl
   tape:=rfl
   output:=rfl }
end
end Go.Proofs.YtgnajdcdcblaoaaGreat.Ex
namespace Go.Proofs.YtgnajdcdcblaoaaGreat
theorem fv {α} {P:α→Prop} {x:α} (h:P x):∀ A,some x=some A→P A:=fun A hA=>by injection hA with hA;subst hA;exact h
end Go.Proofs.YtgnajdcdcblaoaaGreat
namespace Go.Proofs.YtgnajdcdcblaoaaGreat.Ex
abbrev ASpec:=List AV→Heap→Nat→List Bool→Option R
structure ia where
 call:gp→Option ASpec
 eqt:gt→Option (List (Option IntKind))
def BL (β:Env):List AV→List gq→Prop
 | [],l=>l=[]
 | x::xs,l=>∃ u us,AO β x u∧BL β xs us∧l=u::us
theorem AC5 {β:Env}:∀ {xs ys:List AV} {us vs:List gq},BL β xs us→BL β ys vs→BL β (xs++ys) (us++vs)
 | [],_,us,_,h,k=>by simp only [BL] at h;subst h;simpa using k
 | x::xs,ys,us,vs,⟨u,us',h1,h2,h3⟩,k=>⟨u,us'++vs,h1,AC5 h2 k,by simp [h3]⟩
def NW (P:gr) (f:gp) (args:Array gq) (w:gn) (R:Ending→gn→Prop):Prop :=
 match (callFunc f args).run P w with
 | .ok (.value v) w'=>R (.returned v) w'
 | .ok (.enter f' args') w'=>Calls P f' args' w' R
 | _=>False
def aK (β:Env) (fr:Nat) (r:R) (w:gn):Ending→gn→Prop:=fun e w'=>∃ u β',e=.returned u∧Eff β fr r w u w' β'
def BI (P:gr) (f:gp) (s:ASpec):Prop :=
 ∀ (args:List AV) (H:Heap) (fr:Nat) (ie:List Bool) (r:R) (β:Env) (us:List gq) (w:gn),s args H fr ie=some r→AM r.conds→BL β args us→Good β H w →
  (∀ b,fr≤b→b<fr+r.nw→β b=none)→NW P f ⟨us⟩ w (aK β fr r w)
structure g_ (P:gr) (O:ia):Prop where
 call:∀ f s,O.call f=some s→BI P f s
 eqt:∀ t ks,O.eqt t=some ks→GD P 20 t=some ks∧P.eqGuardType P.depth t=false∧(match P.underlying t with | some d=>wide d | none=>false)=true
def PH (τ:Nat→AV):List Operand→Option (List AV)
 | []=>some []
 | x::xs=>match B5 τ x,PH τ xs with
  | some a,some r=>some (a::r)
  | _,_=>none
theorem aM {β:Env} {τ:Nat→AV} {a:Act} (ht:∀ t,AO β (τ t) (a.tmps.getD t undef)):∀ {xs:List Operand} {r:List AV},PH τ xs=some r→BL β r (xs.map a.eval)
 | [],r,h=>by simp only [PH,ke] at h;subst h;rfl
 | x::xs,r,h=>by
  simp only [PH] at h;split at h
  ·rename_i A r' h1 h2;injection h with h;subst h;exact ⟨_,_,I5 ht h1,aM ht h2,rfl⟩
  ·cases h
def T8:List (Nat×Nat)→List AV
 | []=>[]
 | (b,o)::r=>.val false [.p b o]::T8 r
theorem oZ {β:Env}:∀ {caps:List (Nat×Nat)} {ps:List gq},F9 β caps ps→BL β (T8 caps) ps
 | [],ps,h=>by simpa [F9,BL,T8] using h
 | (b,o)::r,ps,⟨B,n,l',h1,h2,h3⟩=>⟨_,l',Az ⟨B,n,h1,rfl⟩,oZ h2,h3⟩
def W0:List AV→Option (List (Nat×Nat))
 | []=>some []
 | .val false [.p b o]::r=>match W0 r with | some l=>some ((b,o)::l) | none=>none
 | _=>none
theorem AC6 {β:Env}:∀ {xs:List AV} {caps:List (Nat×Nat)} {us:List gq},W0 xs=some caps→BL β xs us→F9 β caps us
 | [],caps,us,h,hr=>by simp only [W0,ke] at h;subst h;simpa [F9,BL] using hr
 | x::xs,caps,us,h,hr=>by
  unfold W0 at h;split at h
  ·cases ‹_::_=[]›
  ·rename_i b o r he;injection he with e1 e2;subst e1;subst e2;split at h
   ·rename_i l hl;injection h with h;subst h;obtain ⟨u,us',h1,h2,h3⟩:=hr;obtain ⟨B,n,e1,e2⟩:=A5 h1;injection e2 with e2 _;subst e2;exact ⟨B,n,us',e1,AC6 hl h2,h3⟩
   ·cases h
  ·cases h
def o5 (P:gr) (t:gt) (x:Option AV) (ie:List Bool):Option R :=
 match P.underlying t,x with
 | some (.slice _),some (.val false [.v (.slice none _ m)])=>match AK .i64 m with
  | true=>some (CK (.val false [.n .i64 m]) ie)
  | false=>none
 | some (.slice _),some (.val false [.sl _ _ _ m])=>some ⟨.val false [.v (.int .i64 m)],[],0,[(AK .i64 m,true),(Nat.ble 1 m,true)],ie⟩
 | _,_=>none
theorem AOV {P:gr} {β:Env} {H:Heap} {w:gn} {t ty:gt} {x:Option AV} {u:gq} {ie:List Bool} {r:R} (g:Good β H w) (hx:∀ A,x=some A→AO β A u) (h:o5 P t x ie=some r) (hc:AM r.conds) (fr:Nat) :
  ∃ v,(Builtin.cap_ #[t] ty #[u]).run P w=.ok v w∧Eff β fr r w v w β:=by
 unfold o5 at h;split at h
 ·rename_i e len m hu;split at h
  ·rename_i hh;injection h with h;subst h;have:=(A5 (hx _ rfl)).1
   injection this with e2 _;subst e2;refine ⟨.int .i64 m,?_,Eff.pure_ g (Az ⟨rfl,(FX _ _).2 hh⟩)⟩
   simp [Builtin.cap_,run_underlying hu,goInt]
  ·cases h
 ·rename_i e bk ic len m hu;injection h with h;subst h;refine ⟨.int .i64 m,?_,Eff.pure_ g (Az ⟨rfl,rfl,(FX _ _).2 hc.1⟩)⟩
  have hm:=jp hc.2.1;rcases A5 (hx _ rfl) with ⟨B,n,e1,e2⟩ | ⟨_,_,_,rfl,e2⟩ | ⟨_,_,_,rfl,_⟩
  case inr.inr=>exact absurd hm dp
  ·injection e2 with e2 _;subst e2;simp [Builtin.cap_,run_underlying hu,goInt]
  ·injection e2 with e2 _;subst e2;simp [Builtin.cap_,run_underlying hu,goInt]
 ·cases h
def o6 (P:gr) (ts:Array gt) (s x:Option AV) (fr:Nat) (ie:List Bool):Option R :=
 match ts[0]?,ts[1]? with
 | some sT,some xT=>match P.underlying sT,P.underlying xT,s with
  | some (.slice e),some (.int _),some (.val false [.v (.slice none 0 0)])=>match P.info? e,Bp x with
   | some inf,some (_,.i64,l)=>match inf.zero with
    | some (.int kd z)=>match decide (z=0),Nat.beq inf.size 1 with
     | true,true=>some (Da fr e inf (.int kd 0) [] [] [.seq kd (List.replicate l.toNat 0)] 0 l.toNat [] [(decide (0≤l∧l≤9223372036854775807),true)] ie)
     | _,_=>none
    | _=>none
   | _,_=>none
  | _,_,_=>none
 | _,_=>none
theorem AOW {β:Env} (kd:IntKind) (n:Nat):AP β [.seq kd (List.replicate n 0)] (List.replicate n (.int kd 0)):=by
 have h0:has kd 0:=by cases kd<;>exact ⟨dp,dp⟩
 have:=PG (β:=β) (kd:=kd) (xs:=List.replicate n 0) (fun x hx=>by rw [List.eq_of_mem_replicate hx];exact h0)
 rwa [List.map_replicate] at this
theorem AOX {P:gr} {β:Env} {H:Heap} {w:gn} {ts:Array gt} {ty fr:Nat} {s x:Option AV} {u v:gq} {ie:List Bool} {r:R} (g:Good β H w) (hx:∀ A,s=some A→AO β A u) (hy:∀ A,x=some A→AO β A v)
  (h:o6 P ts s x fr ie=some r) (hc:AM r.conds) (hf:∀ b,fr≤b→b<fr+r.nw→β b=none) :
  ∃ q w' β',(Builtin.append_ ts ty #[u,v]).run P w=.ok q w'∧Eff β fr r w q w' β':=by
 unfold o6 at h;split at h;case h_2=>cases h
 rename_i sT xT h0 h1;split at h;case h_2=>cases h
 rename_i e k hu hd;split at h;case h_2=>cases h
 rename_i inf c l hi hl;split at h;case h_2=>cases h
 rename_i kd z hz;split at h;case h_2=>cases h
 rename_i hz0 hsz;injection h with h;subst h;have hfr:=hf fr (ju _) (by simp [Da])
 obtain rfl:=kj hz0
 have hsz:=Ar.1 hsz;have:=(A5 (hx _ rfl)).1
 injection this with e1 _;subst e1;obtain ⟨rfl,hr⟩:=C3 hy hl;obtain ⟨c1,c2,_⟩:=hc;have c1:=kj c1;have c2:=kj c2;obtain ⟨n,rfl⟩:=kw c1.1;rw [jz,kr] at c2;rw [jz];have hw:IntKind.i64.wrap (n:Int)=n:=by rw [IntKind.wrap_i64];omega
 have hneg:¬ ((n:Int)<0):=dn
 have je:n*inf.bytes≤281474976710656:=by
  have:2*n*inf.bytes=2*(n*inf.bytes):=lm ..
  omega
 have hbig:¬ (281474976710656<(n:Int)*inf.bytes):=by
  have:(n:Int)*inf.bytes=((n*inf.bytes:Nat):Int):=by simp
  omega
 rcases md n with hn0 | iy
 ·subst hn0;refine ⟨.slice none 0 0,w,β.put fr .nil,?_,aG g hfr rfl ⟨[],[],⟨rfl,by simp⟩,rfl,rfl⟩ (by simp)⟩
  simp [Builtin.append_,h0,h1,run_underlying hu,run_underlying hd,sizeOf,typeInfo,hi,asInt,asIntOf,IntKind.wrap_i64]
 ·have hc1:¬ (281474976710656<Builtin.nextslicecap n 0*inf.bytes):=by
   have:=my inf.bytes (AC0 (need:=n) (old:=0) dn)
   omega
  have hb0:¬ inf.bytes=0:=dn
  have hn0:¬ n=0:=dn
  refine ⟨_,_,_,?_,AC3 (c:=(Question.appendCap n 0 e).cut (w.tape w.drawn (.appendCap n 0 e))) (lo:=[]) (ln:=List.replicate n (.int kd 0)) (ij:=(Builtin.zeroCells #[.int kd 0] ((Question.appendCap n 0 e).cut (w.tape w.drawn (.appendCap n 0 e))-n)).toList) g hfr rfl (AOW kd n) (by simp) (by simp only [Question.cut];omega) ?_ ?_⟩
  ·simp [Builtin.append_,h0,h1,run_underlying hu,run_underlying hd,sizeOf,typeInfo,hi,asInt,asIntOf,hw,hneg,hbig,hn0,hc1,hb0,Question.forced,zeroValue,hz,newRow,Builtin.firstCells]
   rw [jn dn,jn (by rw [hsz,kt];exact hn0)]
   have hz1:Builtin.zeroCells (Value.int kd 0).cells n=⟨List.replicate n (.int kd 0)⟩:=by
    apply mz
    refine sf (by simp [Builtin.zeroCells,show (Value.int kd 0).cells=#[Value.int kd 0] from rfl]) fun i h1 h2=>?_
    simp [Builtin.zeroCells,show (Value.int kd 0).cells=#[Value.int kd 0] from rfl,Nat.mod_one]
   rw [hz1];congr 3
   apply mz
   rw [Array.toList_append];rfl
  ·simp only [oh,ku,oz,AC1,hsz,kt];simp only [Question.cut];rw [show #[Value.int kd 0].size=1 from rfl]
   omega
  ·exact AC2 (.int kd 0) rfl _
def o7 (P:gr) (O:ia) (c:Call) (τ:Nat→AV) (H:Heap) (fr:Nat) (ie:List Bool):Option R :=
 match PH τ c.args.toList with
 | none=>none
 | some args=>match c.callee with
  | .value f=>match B5 τ f with
   | some (.val false [.v (.func (.func id) ⟨[]⟩ ⟨[]⟩)])=>match O.call id with
    | some s=>s args H fr ie
    | none=>none
   | some (.val false [.clo id caps])=>match O.call id with
    | some s=>s (args++T8 caps) H fr ie
    | none=>none
   | some (.val false [.mth id bk ic])=>match O.call id with
    | some s=>s (.val true [.p bk ic]::args) H fr ie
    | none=>none
   | _=>none
  | .builtin .len=>match args,c.argTypes[0]? with
   | [x],some t=>match Nat.beq c.argTypes.size 1 with
    | true=>oM P t (some x) ie
    | false=>none
   | _,_=>none
  | .builtin .max=>match args with
   | [x,y]=>aA true (some x) (some y) ie
   | _=>none
  | .builtin .min=>match args with
   | [x,y]=>aA false (some x) (some y) ie
   | _=>none
  | .builtin .copy=>match args,c.argTypes.toList with
   | [x,y],[dT,_]=>aD P dT (some x) (some y) H ie
   | _,_=>none
  | .builtin .clear=>match args,c.argTypes.toList with
   | [x],[t]=>oP P t (some x) H ie
   | _,_=>none
  | .builtin .append=>match args with
   | [x,y]=>match o6 P c.argTypes (some x) (some y) fr ie with
    | some r=>some r
    | none=>oT P c.argTypes (some x) (some y) H fr ie
   | _=>none
  | .builtin .cap=>match args,c.argTypes.toList with
   | [x],[t]=>o5 P t (some x) ie
   | _,_=>none
  | _=>none
def o8 (c x y:Option AV) (ie:List Bool):Option R :=
 match FY c with
 | some (true,z)=>match z,x,y with
  | true,some A,_=>some (CK A ie)
  | false,_,some A=>some (CK A ie)
  | _,_,_=>none
 | some (false,z)=>match ie,x,y with
  | true::ij,some A,_=>some ⟨A,[],0,[(z,true)],ij⟩
  | false::ij,_,some A=>some ⟨A,[],0,[(z,false)],ij⟩
  | _,_,_=>none
 | none=>none
def aN (k:IntKind):List (Option IntKind)→Bool
 | []=>true
 | some k'::r=>decide (k'=k)&&aN k r
 | none::_=>false
def o9 (ks:List (Option IntKind)) (a b:List Ch):Option Bool :=
 match ks with
 | some k::_=>match A' k a,A' k b,aN k ks with
  | some xs,some ys,true=>match Nat.beq xs.length ks.length&&Nat.beq ys.length ks.length with
   | true=>some (decide (xs=ys))
   | false=>none
  | _,_,_=>none
 | _=>none
theorem pA {k:IntKind}:∀ {ks:List (Option IntKind)} {xs:dt},aN k ks=true→xs.length=ks.length→CP ks (xs.map (.int k))
 | [],[],_,_=>trivial
 | [],_::_,_,h=>by simp at h
 | some k'::r,[],_,h=>by simp at h
 | some k'::r,x::xs,h,hl=>by
  simp only [aN,jx,jt] at h;exact ⟨h.1.symm,pA h.2 (by simpa using hl)⟩
 | none::_,_,h,_=>by cases h
theorem AC7 {k:IntKind}:∀ {xs ys:dt},xs.length=ys.length→C4 (xs.map (.int k)) (ys.map (.int k))=decide (xs=ys)
 | [],[],_=>by simp [C4]
 | [],_::_,h=>by simp at h
 | _::_,[],h=>by simp at h
 | x::xs,y::ys,h=>by
  simp only [lz,C4];rw [AC7 (by simpa using h)]
  by_cases h1:x=y<;>by_cases h2:xs=ys<;>simp [h1,h2]
def pB:Option AV→Option Nat
 | some (.val false [.sl _ _ n _])=>some n
 | some (.val false [.sx _ n _])=>some n
 | _=>none
def pC (P:gr) (op:BinOp) (t:gt) (x y:Option AV) (ie:List Bool):Option R :=
 match P.underlying t,pB x,y with
 | some (.slice _),some n,some (.val false [.v (.slice none 0 0)])=>match op with
  | .eql=>some ⟨.val false [.b false],[],0,[(Nat.beq n 0,false)],ie⟩
  | .neq=>some ⟨.val false [.b true],[],0,[(Nat.beq n 0,false)],ie⟩
  | _=>none
 | _,_,_=>none
theorem AC8 {β:Env} {x:Option AV} {u:gq} {n:Nat} (hx:∀ A,x=some A→AO β A u) (h:pB x=some n) (hn:Nat.beq n 0=false):∃ a c,u=.slice (some a) n c:=by
 have h0:=I4 hn;unfold pB at h;split at h
 ·injection h with h;subst h;rcases A5 (hx _ rfl) with ⟨B,nn,_,e2⟩ | ⟨_,_,e,_,_⟩ | ⟨_,_,e,_⟩
  ·injection e2 with e2 _;exact ⟨_,_,e2⟩
  ·exact absurd e h0
  ·exact absurd e h0
 ·injection h with h;subst h;rcases A5 (hx _ rfl) with ⟨B,nn,cap,_,e2,_⟩ | ⟨_,e,_⟩
  ·injection e2 with e2 _;exact ⟨_,_,e2⟩
  ·exact absurd e h0
 ·cases h
theorem AOY {P:gr} {β:Env} {H:Heap} {w:gn} {op:BinOp} {t:gt} {x y:Option AV} {u v:gq} {X Y:Operand} {ie:List Bool} {r:R} (g:Good β H w) (hx:∀ A,x=some A→AO β A u) (hy:∀ A,y=some A→AO β A v)
  (h:pC P op t x y ie=some r) (hc:AM r.conds) (fr:Nat):∃ z,(do eqGuard op t X Y u v;binOp op t u v:Sem gq).run P w=.ok z w∧Eff β fr r w z w β:=by
 unfold pC at h;split at h;case h_2=>cases h
 rename_i e n hu hn;have:=(A5 (hy _ rfl)).1
 injection this with e2 _;subst e2;split at h
 ·injection h with h;subst h;obtain ⟨a,c,rfl⟩:=AC8 hx hn hc.1;refine ⟨.bool false,?_,Eff.pure_ g (Az rfl)⟩
  rw [Sem.run_bind,eqGuard_at_slice];simp only [Sem.run_pure,Result.andThen_ok];show (do pure (.bool (← Op.equal t (.slice (some a) n c) (.slice none 0 0))):Sem gq).run P w=_
  rw [Sem.run_bind,run_equal_slice_nil w t e (some a) n c hu];rfl
 ·injection h with h;subst h;obtain ⟨a,c,rfl⟩:=AC8 hx hn hc.1;refine ⟨.bool true,?_,Eff.pure_ g (Az rfl)⟩
  rw [Sem.run_bind,eqGuard_at_slice];simp only [Sem.run_pure,Result.andThen_ok];show (do pure (.bool (!(← Op.equal t (.slice (some a) n c) (.slice none 0 0)))):Sem gq).run P w=_
  rw [Sem.run_bind,run_equal_slice_nil w t e (some a) n c hu];rfl
 ·cases h
def pD (P:gr) (O:ia) (op:BinOp) (t:gt) (x y:Option AV) (ie:List Bool):Option R :=
 match Bp x,Bp y with
 | some (c,k,i),some (c',k',j)=>match op with
  | .shl | .shr=>match n8 op (c&&c') k i j with
   | some (z,l)=>some ⟨PC (c&&c') k z,[],0,l,ie⟩
   | none=>none
  | _=>match decide (k=k') with
   | true=>match nZ op (c&&c') k i j with
    | some (z,l)=>some ⟨PC (c&&c') k z,[],0,l,ie⟩
    | none=>match n5 op i j with
     | some z=>some (CK (MK (c&&c') z) ie)
     | none=>none
   | false=>none
 | _,_=>match FY x,FY y,P.underlying t with
  | some (c,b),some (c',b'),some .bool=>match op with
   | .eql=>some (CK (MK (c&&c') (b==b')) ie)
   | .neq=>some (CK (MK (c&&c') (!(b==b'))) ie)
   | _=>none
  | _,_,_=>match x,y,O.eqt t with
   | some (.val false [.v (.string a)]),some (.val false [.v (.string b)]),_=>match op with
    | .eql=>some (CK (MK false (a.toList==b.toList)) ie)
    | .neq=>some (CK (MK false (!(a.toList==b.toList))) ie)
    | _=>none
   | some (.val true a),some (.val true b),some ks=>match MN (ks.length+2) ks a&&MN (ks.length+2) ks b,K6 (ks.length+2) a b,op with
    | true,some e,.eql=>some (CK (MK false e) ie)
    | true,some e,.neq=>some (CK (MK false (!e)) ie)
    | _,_,_=>match o9 ks a b,op with
     | some e,.eql=>some (CK (MK false e) ie)
     | some e,.neq=>some (CK (MK false (!e)) ie)
     | _,_=>none
   | x,y,_=>pC P op t x y ie
def pE (P:gr) (O:ia) (o:Oper) (τ:Nat→AV) (H:Heap) (fr:Nat) (ie:List Bool):Option R :=
 match o.op with
 | .move x | .assign x=>match B5 τ x with | some A=>some (CK A ie) | none=>none
 | .pick c x y=>o8 (B5 τ c) (B5 τ x) (B5 τ y) ie
 | .alloc t=>nP P t fr ie
 | .box t x=>nQ t (B5 τ x) fr ie
 | .build t parts=>oH P τ t parts.toList ie
 | .buildSlice t len parts=>oI P τ t len parts.toList fr ie
 | .load t x=>nT P t (B5 τ x) H ie
 | .store t x y=>nW P t (B5 τ x) (B5 τ y) H ie
 | .nilCheck x=>match B5 τ x with
  | some (.val false [.p b o])=>some (CK (.val false [.p b o]) ie)
  | some (.val false [.clo f c])=>some (CK (.val false [.clo f c]) ie)
  | some (.val false [.mth f b o])=>some (CK (.val false [.mth f b o]) ie)
  | some (.val false [.v (.func (.func f) a c)])=>some (CK (.val false [.v (.func (.func f) a c)]) ie)
  | _=>none
 | .binOp op t x y _=>pD P O op t (B5 τ x) (B5 τ y) ie
 | .unOp op _ x=>oK op (B5 τ x) ie
 | .convert s d x=>match oJ P s d (B5 τ x) ie with
  | some r=>some r
  | none=>match oU P s d (B5 τ x) H ie with
   | some r=>some r
   | none=>oV P s d (B5 τ x) H fr ie
 | .sliceToArrayPointer t x=>oG P t (B5 τ x) ie
 | .makeFunc (.func f) first captured=>match first.toList,PH τ captured.toList with
  | [],some xs=>match W0 xs with
   | some caps=>some (CK (.val false [.clo f caps]) ie)
   | none=>none
  | [x],some []=>match B5 τ x with
   | some (.val true [.p bk ic])=>some (CK (.val false [.mth f bk ic]) ie)
   | _=>none
  | _,_=>none
 | .makeSlice t l c=>oL P t (B5 τ l) (B5 τ c) fr ie
 | .slice t x lo hi mx=>oF P t (B5 τ x) (lo.map (B5 τ)) (hi.map (B5 τ)) (mx.map (B5 τ)) ie
 | .fieldAddr t x f=>oB P t (B5 τ x) f ie
 | .field t x f=>oC P t (B5 τ x) f ie
 | .indexAddr t x i=>oE P t (B5 τ x) (B5 τ i) ie
 | .index t x i=>oD P t (B5 τ x) (B5 τ i) ie
 | .extract x i=>match B5 τ x with
  | some (.tup xs)=>match xs[i]? with
   | some (g,cs)=>some (CK (.val g cs) ie)
   | none=>none
  | _=>none
 | .makeMap t rs=>oW P t rs fr ie
 | .lookup t x i ok=>oX P t (B5 τ x) (B5 τ i) ok H ie
 | .mapUpdate t m k x=>oY P t (B5 τ m) (B5 τ k) (B5 τ x) H ie
 | .call c=>o7 P O c τ H fr ie
 | _=>none
theorem AC9 {β:Env}:∀ {xs:List (Bool×List Ch)} {us:List gq} {i:Nat} {g:Bool} {cs:List Ch},F_ β xs us→xs[i]? = some (g,cs)→∃ u,us[i]? = some u∧Bt β g cs u
 | [],_,i,_,_,_,h=>by simp at h
 | (g',c')::xs,us,0,g,cs,⟨u,l',h1,_,h3⟩,h=>by
  simp only [qg,ke,kp] at h;obtain ⟨rfl,rfl⟩:=h;exact ⟨u,by simp [h3],h1⟩
 | (g',c')::xs,us,i+1,g,cs,⟨u,l',h1,h2,h3⟩,h=>by
  obtain ⟨v,hv,hr⟩:=AC9 h2 (by simpa using h)
  exact ⟨v,by simpa [h3] using hv,hr⟩
section
variable {P:gr} {O:ia} {β:Env} {H:Heap} {w:gn} {τ:Nat→AV} {a:Act}
theorem AOZ (hO:g_ P O) {op:BinOp} {t:gt} {x y:Option AV} {u v:gq} {X Y:Operand} {ie:List Bool} {r:R} (g:Good β H w) (hx:∀ A,x=some A→AO β A u) (hy:∀ A,y=some A→AO β A v)
  (h:pD P O op t x y ie=some r) (hc:AM r.conds) (fr:Nat):∃ z,(do eqGuard op t X Y u v;binOp op t u v:Sem gq).run P w=.ok z w∧Eff β fr r w z w β:=by
 unfold pD at h;split at h
 ·rename_i c k i c' k' j hi hj;obtain ⟨rfl,i1⟩:=C3 hx hi;obtain ⟨rfl,j1⟩:=C3 hy hj;split at h
  ·split at h
   ·rename_i z l hz;injection h with h;subst h;obtain ⟨q1,q2⟩:=ACg (P:=P) (w:=w) (yk:=k') hz hc i1 t X Y
    exact ⟨_,q1,Eff.pure_ g (PD _ q2)⟩
   ·cases h
  ·split at h
   ·rename_i z l hz;injection h with h;subst h;obtain ⟨q1,q2⟩:=ACg (P:=P) (w:=w) (yk:=k') hz hc i1 t X Y
    exact ⟨_,q1,Eff.pure_ g (PD _ q2)⟩
   ·cases h
  ·split at h
   ·rename_i hk;have hk':k=k':=by simpa using hk
    subst hk';split at h
    ·rename_i z l hz;injection h with h;subst h;obtain ⟨q1,q2⟩:=ANy (P:=P) (w:=w) hz hc i1 t X Y
     exact ⟨_,q1,Eff.pure_ g (PD _ q2)⟩
    ·split at h
     ·rename_i z hz;injection h with h;subst h;exact ⟨_,ANz (P:=P) (w:=w) hz t X Y,Eff.pure_ g (NV _ _)⟩
     ·cases h
   ·cases h
 ·split at h
  ·rename_i c b c' b' hb hb' hu;obtain rfl:=K5 hx hb
   obtain rfl:=K5 hy hb'
   split at h
   ·injection h with h;subst h;refine ⟨.bool (b==b'),?_,Eff.pure_ g (NV _ _)⟩
    rw [Sem.run_bind,eqGuard_at_bool];simp only [Sem.run_pure,Result.andThen_ok];exact run_eql_bool w t b b' hu
   ·injection h with h;subst h;refine ⟨.bool (!(b==b')),?_,Eff.pure_ g (NV _ _)⟩
    rw [Sem.run_bind,eqGuard_at_bool];simp only [Sem.run_pure,Result.andThen_ok];exact run_neq_bool w t b b' hu
   ·cases h
  split at h
  ·rename_i a b _ _;have e1:=(A5 (hx _ rfl)).1
   have e2:=(A5 (hy _ rfl)).1
   injection e1 with e1 _;subst e1;injection e2 with e2 _;subst e2;split at h
   ·injection h with h;subst h;refine ⟨.bool (a.toList==b.toList),?_,Eff.pure_ g (NV _ _)⟩
    simp [eqGuard,binOp,Op.stringOp]
   ·injection h with h;subst h;refine ⟨.bool (!(a.toList==b.toList)),?_,Eff.pure_ g (NV _ _)⟩
    simp [eqGuard,binOp,Op.stringOp]
   ·cases h
  ·rename_i A B ks hk _ _;obtain ⟨l,hl,rfl⟩:=hx _ rfl;obtain ⟨m,hm,rfl⟩:=hy _ rfl;obtain ⟨k1,k2,k3⟩:=hO.eqt _ _ hk;have core:∀ e,(MN (ks.length+2) ks A&&MN (ks.length+2) ks B)=true→K6 (ks.length+2) A B=some e→(Op.equalIn 10000 t (.agg ⟨l⟩) (.agg ⟨m⟩)).run P w=.ok e w:=by
    intro e hf he;have hf':=jy.1 hf;have:=ACp 20 t ks 10000 k1 dp l m (.agg ⟨l⟩) (.agg ⟨m⟩) w (Wx hf'.1 hl) (Wx hf'.2 hm) (by
     unfold Hn;split at k3
     ·rename_i d hd;first | (rw [hd];show (match wide d with | true=>_ | false=>_);rw [k3]) | simp [k3]
     ·cases k3) (by
     unfold Hn;split at k3
     ·rename_i d hd;first | (rw [hd];show (match wide d with | true=>_ | false=>_);rw [k3]) | simp [k3]
     ·cases k3)
    rw [this,ACi he hl hm]
   have core2:∀ e,o9 ks A B=some e→(Op.equalIn 10000 t (.agg ⟨l⟩) (.agg ⟨m⟩)).run P w=.ok e w:=by
    intro e he;unfold o9 at he;split at he;case h_2=>cases he
    rename_i k ks';split at he;case h_2=>cases he
    rename_i xs ys h1 h2 h3;split at he;case h_2=>cases he
    rename_i h4;injection he with he;subst he;have h4':=jy.1 h4;obtain ⟨rfl,_⟩:=DL h1 hl;obtain ⟨rfl,_⟩:=DL h2 hm;have e1:=Ar.1 h4'.1;have e2:=Ar.1 h4'.2;have:=ACp 20 t _ 10000 k1 dp _ _ (.agg ⟨xs.map (.int k)⟩) (.agg ⟨ys.map (.int k)⟩) w (pA h3 e1) (pA h3 e2) (by
     unfold Hn;split at k3
     ·rename_i d hd;first | (rw [hd];show (match wide d with | true=>_ | false=>_);rw [k3]) | simp [k3]
     ·cases k3) (by
     unfold Hn;split at k3
     ·rename_i d hd;first | (rw [hd];show (match wide d with | true=>_ | false=>_);rw [k3]) | simp [k3]
     ·cases k3)
    rw [this,AC7 (e1.trans e2.symm)]
   split at h
   ·rename_i e hf he;injection h with h;subst h;refine ⟨.bool e,?_,Eff.pure_ g (NV _ _)⟩
    rw [Sem.run_bind,run_eqGuard_agg w .eql t X Y _ _ k2];simp only [Result.andThen_ok];rw [run_eql_struct,core e hf he];rfl
   ·rename_i e hf he;injection h with h;subst h;refine ⟨.bool !e,?_,Eff.pure_ g (NV _ _)⟩
    rw [Sem.run_bind,run_eqGuard_agg w .neq t X Y _ _ k2];simp only [Result.andThen_ok];rw [run_neq_struct,core e hf he];rfl
   ·split at h
    ·rename_i e he _ _;injection h with h;subst h;refine ⟨.bool e,?_,Eff.pure_ g (NV _ _)⟩
     rw [Sem.run_bind,run_eqGuard_agg w .eql t X Y _ _ k2];simp only [Result.andThen_ok];rw [run_eql_struct,core2 e he];rfl
    ·rename_i e he _ _;injection h with h;subst h;refine ⟨.bool !e,?_,Eff.pure_ g (NV _ _)⟩
     rw [Sem.run_bind,run_eqGuard_agg w .neq t X Y _ _ k2];simp only [Result.andThen_ok];rw [run_neq_struct,core2 e he];rfl
    ·cases h
  ·exact AOY g hx hy h hc fr
theorem AOa {x y z:Option AV} {u v p:gq} {ie:List Bool} {r:R} (g:Good β H w) (hz:∀ A,z=some A→AO β A p) (hx:∀ A,x=some A→AO β A u) (hy:∀ A,y=some A→AO β A v)
  (h:o8 z x y ie=some r) (hc:AM r.conds) (fr:Nat):∃ q,(do pure (Next.value (if ← asBool p then u else v)):Sem Next).run P w=.ok (.value q) w∧Eff β fr r w q w β:=by
 unfold o8 at h;split at h
 ·rename_i b hb;have:=K5 hz hb
  subst this;split at h
  ·injection h with h;subst h;exact ⟨u,by simp [asBool],Eff.pure_ g (hx _ rfl)⟩
  ·injection h with h;subst h;exact ⟨v,by simp [asBool],Eff.pure_ g (hy _ rfl)⟩
  ·cases h
 ·rename_i b hb;have:=K5 hz hb
  subst this;split at h
  ·injection h with h;subst h;have:=hc.1
   subst this;exact ⟨u,by simp [asBool],Eff.pure_ g (hx _ rfl)⟩
  ·injection h with h;subst h;have:=hc.1
   subst this;exact ⟨v,by simp [asBool],Eff.pure_ g (hy _ rfl)⟩
  ·cases h
 ·cases h
theorem Cs {o:Oper} {next:Act→gn→Prop} {Q:Exit→Act→gn→Prop} {u:gq} {w':gn} (h:(execOp a.eval o).run P w=.ok (.value u) w') (hn:next (a.put o.dst u) w'):o.wp P a w next Q:=by
 unfold Oper.wp;rw [h];exact hn
theorem AC_ {o:Oper} {next:Act→gn→Prop} {Q:Exit→Act→gn→Prop} {w':gn} (h:(execOp a.eval o).run P w=.ok .skip w') (hn:next (a.put o.dst undef) w'):o.wp P a w next Q:=by
 unfold Oper.wp;rw [h];exact hn
theorem FZ {s:Sem gq} {u:gq} {w':gn} (h:s.run P w=.ok u w'):(do pure (Next.value (← s)):Sem Next).run P w=.ok (.value u) w':=by
 simp [h]
theorem AC' {s:Sem Unit} {w':gn} (h:s.run P w=.ok () w'):(do s;pure Next.skip:Sem Next).run P w=.ok .skip w':=by
 simp [h]
theorem pF {o:Oper} {next:Act→gn→Prop} {Q:Exit→Act→gn→Prop} {f:gp} {us:Array gq} {fr:Nat} {r:R} (h:NW P f us w (aK β fr r w))
  (he:(execOp a.eval o).run P w=(callFunc f us).run P w) (hn:∀ u w' β',Eff β fr r w u w' β'→next (a.put o.dst u) w'):o.wp P a w next Q:=by
 unfold Oper.wp;rw [he];unfold NW at h;split at h
 ·rename_i v w' hr;rw [hr];obtain ⟨u,β',e1,e2⟩:=h;injection e1 with e1;subst e1;exact hn _ _ _ e2
 ·rename_i f' args' w' hr;rw [hr];refine Calls.mono h fun e w'' hq=>?_
  obtain ⟨u,β',rfl,e2⟩:=hq;exact hn _ _ _ e2
 ·exact h.elim
theorem AOb (hO:g_ P O) (ht:∀ t,AO β (τ t) (a.tmps.getD t undef)) (g:Good β H w) {o:Oper} {c:Call} (ho:o.op=.call c) {fr:Nat} {ie:List Bool} {r:R} (h:o7 P O c τ H fr ie=some r) (hc:AM r.conds)
  (hf:∀ b,fr≤b→b<fr+r.nw→β b=none) {next:Act→gn→Prop} {Q:Exit→Act→gn→Prop} (hn:∀ u w' β',Eff β fr r w u w' β'→next (a.put o.dst u) w'):o.wp P a w next Q:=by
 unfold o7 at h;split at h;case h_1=>cases h
 rename_i args hargs;have hrel:=aM ht hargs;have hmap:c.args.map a.eval=⟨c.args.toList.map a.eval⟩:=by apply mz;simp
 have hbuiltin:∀ b,c.callee=.builtin b→∃ k,(execOp a.eval o).run P w=(builtin b c.argTypes o.type k (c.args.map a.eval)).run P w:=by
  intro b hb;refine ⟨c.args.map fun x=>match x with | .const _=>true | _=>false,?_⟩
  simp only [execOp,ho,resolve,hb,Sem.run_bind,Sem.run_pure,Result.andThen_ok,invoke];rfl
 split at h
 ·rename_i f hcal;split at h
  ·rename_i id hev;split at h
   ·rename_i s hs;have hr:=(A5 (I5 ht hev)).1
    injection hr with hr _;refine pF (hO.call _ _ hs args H fr ie r β _ w h hc hrel g hf) ?_ hn
    simp [execOp,ho,resolve,hcal,hr,Deferred.ofValue,invoke,hmap]
   ·cases h
  ·rename_i id caps hev;split at h
   ·rename_i s hs;obtain ⟨ps,hp,hr⟩:=A5 (I5 ht hev)
    injection hr with hr _;refine pF (hO.call _ _ hs _ H fr ie r β _ w h hc (AC5 hrel (oZ hp)) g hf) ?_ hn
    simp [execOp,ho,resolve,hcal,hr,Deferred.ofValue,invoke,hmap]
   ·cases h
  ·rename_i id bk ic hev;split at h
   ·rename_i s hs;obtain ⟨B,n,hb,hr⟩:=A5 (I5 ht hev)
    injection hr with hr _;refine pF (hO.call _ _ hs _ H fr ie r β _ w h hc ⟨_,_,⟨_,⟨[_],[],⟨B,n,hb,rfl⟩,rfl,rfl⟩,rfl⟩,hrel,rfl⟩ g hf) ?_ hn
    simp [execOp,ho,resolve,hcal,hr,Deferred.ofValue,invoke,hmap]
   ·cases h
  ·cases h
 ·rename_i hcal;split at h
  ·rename_i x t hcc;split at h
   ·rename_i hsz;obtain ⟨u,us,h1,h2,h3⟩:=hrel;simp only [BL] at h2;subst h2;obtain ⟨v,hv,he⟩:=AOH (ty:=o.type) (u:=u) g (fv h1) h hc fr
    have hat:c.argTypes=#[t]:=by
     have h1:=Ar.1 hsz;rcases hq:c.argTypes with ⟨l⟩
     rw [hq] at h1 hcc;cases l with
     | nil=>simp at h1
     | cons y l=>cases l with
      | nil=>simp at hcc;rw [hcc]
      | cons z l=>simp at h1
    refine Cs ?_ (hn _ _ _ he)
    obtain ⟨k,hk⟩:=hbuiltin _ hcal;rw [hk];simp only [builtin,hmap,h3,hat];simp [hv]
   ·cases h
  ·cases h
 ·rename_i hcal;split at h
  ·rename_i x y;obtain ⟨u,us,h1,h2,h3⟩:=hrel;obtain ⟨v,us',k1,k2,k3⟩:=h2;simp only [BL] at k2;subst k2;subst k3;obtain ⟨z,hz,he⟩:=ACt (P:=P) (ts:=c.argTypes) (ty:=o.type) (u:=u) (v:=v) g (fv h1) (fv k1) h fr
   refine Cs ?_ (hn _ _ _ he)
   obtain ⟨k,hk⟩:=hbuiltin _ hcal;rw [hk];simp only [builtin,hmap,h3];simp only at hz
   simp [hz]
  ·cases h
 ·rename_i hcal;split at h
  ·rename_i x y;obtain ⟨u,us,h1,h2,h3⟩:=hrel;obtain ⟨v,us',k1,k2,k3⟩:=h2;simp only [BL] at k2;subst k2;subst k3;obtain ⟨z,hz,he⟩:=ACt (P:=P) (ts:=c.argTypes) (ty:=o.type) (u:=u) (v:=v) g (fv h1) (fv k1) h fr
   refine Cs ?_ (hn _ _ _ he)
   obtain ⟨k,hk⟩:=hbuiltin _ hcal;rw [hk];simp only [builtin,hmap,h3];simp only at hz
   simp [hz]
  ·cases h
 ·rename_i hcal;split at h
  ·rename_i x y dT sT hat;obtain ⟨u,us,h1,h2,h3⟩:=hrel;obtain ⟨v,us',k1,k2,k3⟩:=h2;simp only [BL] at k2;subst k2;subst k3;obtain ⟨z,w',hz,he⟩:=AOI (sT:=sT) (ty:=o.type) (u:=u) (v:=v) g (fv h1) (fv k1) h hc fr
   have hat':c.argTypes=#[dT,sT]:=by apply mz;rw [hat]
   refine Cs (u:=z) (w':=w') ?_ (hn _ _ _ (by
    refine { he with val:=?_ }
    have hv:r.val=.any:=by
     unfold aD at h;split at h
     ·split at h
      ·split at h
       ·split at h
        ·injection h with h;subst h;rfl
        ·cases h
       ·cases h
      ·cases h
     ·cases h
    rw [hv];trivial))
   obtain ⟨k,hk⟩:=hbuiltin _ hcal;rw [hk];simp only [builtin,hmap,h3,hat'];simp [hz]
  ·cases h
 ·rename_i hcal;split at h
  ·rename_i x t hat;obtain ⟨u,us,h1,h2,h3⟩:=hrel;simp only [BL] at h2;subst h2;obtain ⟨z,w',hz,he⟩:=AOJ (ty:=o.type) (u:=u) g (fv h1) h hc fr
   have hat':c.argTypes=#[t]:=by apply mz;rw [hat]
   refine Cs (u:=z) (w':=w') ?_ (hn _ _ _ he)
   obtain ⟨k,hk⟩:=hbuiltin _ hcal;rw [hk];simp only [builtin,hmap,h3,hat'];simp [hz]
  ·cases h
 ·rename_i hcal;split at h
  ·rename_i x y;obtain ⟨u,us,h1,h2,h3⟩:=hrel;obtain ⟨v,us',k1,k2,k3⟩:=h2;simp only [BL] at k2;subst k2;subst k3;have:∃ z w' β',(Builtin.append_ c.argTypes o.type #[u,v]).run P w=.ok z w'∧Eff β fr r w z w' β':=by
    split at h
    ·rename_i r' hr;injection h with h;subst h;exact AOX g (fv h1) (fv k1) hr hc hf
    ·exact AON g (fv h1) (fv k1) h hc hf
   obtain ⟨z,w',β',hz,he⟩:=this;refine Cs (u:=z) (w':=w') ?_ (hn _ _ _ he)
   obtain ⟨k,hk⟩:=hbuiltin _ hcal;rw [hk];simp only [builtin,hmap,h3];simp [hz]
  ·cases h
 ·rename_i hcal;split at h
  ·rename_i x t hat;obtain ⟨u,us,h1,h2,h3⟩:=hrel;simp only [BL] at h2;subst h2;obtain ⟨z,hz,he⟩:=AOV (ty:=o.type) (u:=u) g (fv h1) h hc fr
   have hat':c.argTypes=#[t]:=by apply mz;rw [hat]
   refine Cs (u:=z) ?_ (hn _ _ _ he)
   obtain ⟨k,hk⟩:=hbuiltin _ hcal;rw [hk];simp only [builtin,hmap,h3,hat'];simp [hz]
  ·cases h
 ·cases h
theorem AOc (hO:g_ P O) (ht:∀ t,AO β (τ t) (a.tmps.getD t undef)) (g:Good β H w) {o:Oper} {fr:Nat} {ie:List Bool} {r:R} (h:pE P O o τ H fr ie=some r) (hc:AM r.conds)
  (hf:∀ b,fr≤b→b<fr+r.nw→β b=none) {next:Act→gn→Prop} {Q:Exit→Act→gn→Prop} (hn:∀ u w' β',Eff β fr r w u w' β'→next (a.put o.dst u) w'):o.wp P a w next Q:=by
 have ev:∀ (x:Operand) (A:AV),B5 τ x=some A→AO β A (a.eval x):=fun x A hA=>I5 ht hA
 have evm:∀ (x:Option Operand),D9 β (x.map (B5 τ)) (x.map a.eval):=by
  intro x;cases x with
  | none=>trivial
  | some x=>exact ev x
 unfold pE at h;split at h;case h_1 x ho =>
  split at h
  ·rename_i A hA;injection h with h;subst h;exact Cs (by simp [execOp,ho]) (hn _ _ _ (Eff.pure_ g (ev _ _ hA)))
  ·cases h
 case h_2 x ho =>
  split at h
  ·rename_i A hA;injection h with h;subst h;exact Cs (by simp [execOp,ho]) (hn _ _ _ (Eff.pure_ g (ev _ _ hA)))
  ·cases h
 case h_3 c x y ho =>
  obtain ⟨q,hq,he⟩:=AOa (P:=P) g (ev c) (ev x) (ev y) h hc fr
  exact Cs (by simp only [execOp,ho];exact hq) (hn _ _ _ he)
 case h_4 t ho =>
  obtain ⟨u,w',β',hq,he⟩:=ANp g h hf;exact Cs (by simp only [execOp,ho];exact FZ hq) (hn _ _ _ he)
 case h_5 t x ho =>
  obtain ⟨u,w',β',hq,he⟩:=ANq (P:=P) g (ev x) h hf
  exact Cs (by simp only [execOp,ho];exact FZ hq) (hn _ _ _ he)
 case h_6 t parts ho =>
  obtain ⟨u,hq,he⟩:=AN' ht g h fr;exact Cs (by simp only [execOp,ho];exact FZ hq) (hn _ _ _ he)
 case h_7 t len parts ho =>
  obtain ⟨u,w',β',hq,he⟩:=AOB ht g h hf;exact Cs (by simp only [execOp,ho];exact FZ hq) (hn _ _ _ he)
 case h_8 t x ho =>
  obtain ⟨u,hq,he⟩:=ANs g (ev x) h hc fr
  exact Cs (by simp only [execOp,ho];exact FZ hq) (hn _ _ _ he)
 case h_9 t x y ho =>
  obtain ⟨w',hq,he⟩:=ANw g (ev x) (ev y) h hc fr
  exact AC_ (by simp only [execOp,ho];exact AC' hq) (hn _ _ _ he)
 case h_10 x ho =>
  split at h
  ·rename_i b ic hA;injection h with h;subst h;obtain ⟨B,n,e1,e2⟩:=A5 (ev _ _ hA)
   injection e2 with e2 _;exact Cs (u:=.pointer (some ⟨B,n.2+ic,none⟩)) (by simp [execOp,ho,e2]) (hn _ _ _ (Eff.pure_ g (Az ⟨B,n,e1,rfl⟩)))
  ·rename_i f c hA;injection h with h;subst h;obtain ⟨ps,e1,e2⟩:=A5 (ev _ _ hA)
   injection e2 with e2 _;exact Cs (u:=.func (.func f) #[] ⟨ps⟩) (by simp [execOp,ho,e2]) (hn _ _ _ (Eff.pure_ g (Az ⟨ps,e1,rfl⟩)))
  ·rename_i f b ic hA;injection h with h;subst h;obtain ⟨B,n,e1,e2⟩:=A5 (ev _ _ hA)
   injection e2 with e2 _;exact Cs (u:=.func (.func f) ⟨[.agg ⟨[.pointer (some ⟨B,n.2+ic,none⟩)]⟩]⟩ ⟨[]⟩) (by simp [execOp,ho,e2]) (hn _ _ _ (Eff.pure_ g (Az ⟨B,n,e1,rfl⟩)))
  ·rename_i f x' c hA;injection h with h;subst h;have e2:=(A5 (ev _ _ hA)).1
   injection e2 with e2 _;exact Cs (u:=.func (.func f) x' c) (by simp [execOp,ho,e2]) (hn _ _ _ (Eff.pure_ g (Az ⟨rfl,rfl,trivial⟩)))
  ·cases h
 case h_11 op t x y yt ho =>
  obtain ⟨u,hq,he⟩:=AOZ hO (X:=x) (Y:=y) g (ev x) (ev y) h hc fr
  exact Cs (by simp only [execOp,ho];exact FZ hq) (hn _ _ _ he)
 case h_12 op t x ho =>
  obtain ⟨u,hq,he⟩:=AOD (P:=P) g (ev x) h fr
  exact Cs (by simp only [execOp,ho];exact FZ hq) (hn _ _ _ he)
 case h_13 s d x ho =>
  split at h
  ·rename_i r' hr';injection h with h;subst h;obtain ⟨u,hq,he⟩:=AOC g (ev x) hr' fr
   exact Cs (by simp only [execOp,ho];exact FZ hq) (hn _ _ _ he)
  ·split at h
   ·rename_i r' hr';injection h with h;subst h;obtain ⟨u,hq,he⟩:=AOP g (ev x) hr' hc fr
    exact Cs (by simp only [execOp,ho];exact FZ hq) (hn _ _ _ he)
   ·obtain ⟨u,w',β',hq,he⟩:=AOR g (ev x) h hf
    exact Cs (by simp only [execOp,ho];exact FZ hq) (hn _ _ _ he)
 case h_14 t x ho =>
  obtain ⟨u,hq,he⟩:=AN8 g (ev x) h hc fr
  exact Cs (by simp only [execOp,ho];exact FZ hq) (hn _ _ _ he)
 case h_15 f first captured ho =>
  split at h
  ·rename_i xs h1 h2;split at h
   ·rename_i caps h3;injection h with h;subst h;have hp:=AC6 h3 (aM ht h2)
    refine Cs (u:=.func (.func f) #[] ⟨captured.toList.map a.eval⟩) ?_ (hn _ _ _ (Eff.pure_ g (Az ⟨_,hp,rfl⟩)))
    have hfirst:first=#[]:=by apply mz;simpa using h1
    have hmap:captured.map a.eval=⟨captured.toList.map a.eval⟩:=by apply mz;simp
    simp [execOp,ho,Instr.makeFunc,hfirst,hmap]
   ·cases h
  ·rename_i x h1 h2;split at h
   ·rename_i bk ic hA;injection h with h;subst h;obtain ⟨l,⟨l1,l2,e1,e2,e3⟩,e4⟩:=ev x _ hA;simp only [AP] at e2;subst e2;obtain ⟨B,n,e5,rfl⟩:=e1;simp only [lh] at e3;subst e3;refine Cs (u:=.func (.func f) ⟨[.agg ⟨[.pointer (some ⟨B,n.2+ic,none⟩)]⟩]⟩ ⟨[]⟩) ?_ (hn _ _ _ (Eff.pure_ g (Az ⟨B,n,e5,rfl⟩)))
    have hfirst:first=#[x]:=by apply mz;simpa using h1
    have hcap:captured=#[]:=by
     apply mz
     cases hq:captured.toList with
     | nil=>rfl
     | cons y l =>
      rw [hq] at h2;simp only [PH] at h2;split at h2<;>simp at h2
    simp [execOp,ho,Instr.makeFunc,hfirst,hcap,e4]
   ·cases h
  ·cases h
 case h_16 t l c ho =>
  obtain ⟨u,w',β',hq,he⟩:=AOG g (ev l) (ev c) h hc hf
  exact Cs (by simp only [execOp,ho];exact FZ hq) (hn _ _ _ he)
 case h_17 t x lo hi mx ho =>
  obtain ⟨u,hq,he⟩:=AN7 g (ev x) (evm lo) (evm hi) (evm mx) h hc fr
  exact Cs (by simp only [execOp,ho];exact FZ hq) (hn _ _ _ he)
 case h_18 t x f ho =>
  obtain ⟨u,hq,he⟩:=AN2 g (ev x) h fr
  exact Cs (by simp only [execOp,ho];exact FZ hq) (hn _ _ _ he)
 case h_19 t x f ho =>
  obtain ⟨u,hq,he⟩:=AN3 g (ev x) h fr
  exact Cs (by simp only [execOp,ho];exact FZ hq) (hn _ _ _ he)
 case h_20 t x i ho =>
  obtain ⟨u,hq,he⟩:=AN5 g (ev x) (ev i) h hc fr
  exact Cs (by simp only [execOp,ho];exact FZ hq) (hn _ _ _ he)
 case h_21 t x i ho =>
  obtain ⟨u,hq,he⟩:=AN4 g (ev x) (ev i) h hc fr
  exact Cs (by simp only [execOp,ho];exact FZ hq) (hn _ _ _ he)
 case h_22 x i ho =>
  split at h
  ·rename_i xs hA;split at h
   ·rename_i gg cs hi;injection h with h;subst h;obtain ⟨us,e1,e2⟩:=ev _ _ hA;obtain ⟨u,e3,e4⟩:=AC9 e1 hi;exact Cs (u:=u) (by simp [execOp,ho,e2,Instr.extract,e3]) (hn _ _ _ (Eff.pure_ g e4))
   ·cases h
  ·cases h
 case h_23 t rs ho =>
  obtain ⟨rfl,u,w',β',hq,he⟩:=AOS g h hf;exact Cs (by simp only [execOp,ho];exact FZ hq) (hn _ _ _ he)
 case h_24 t x i ok ho =>
  obtain ⟨u,hq,he⟩:=AOT g (ev x) (ev i) h hc fr
  exact Cs (by simp only [execOp,ho];exact FZ hq) (hn _ _ _ he)
 case h_25 t m k x ho =>
  obtain ⟨w',hq,he⟩:=AOU g (ev m) (ev k) (ev x) h hc fr
  exact AC_ (by simp only [execOp,ho];exact AC' hq) (hn _ _ _ he)
 case h_26 c ho=>exact AOb hO ht g ho h hc hf hn
 case h_27=>cases h
end
end Go.Proofs.YtgnajdcdcblaoaaGreat.Ex
namespace Go.Proofs.YtgnajdcdcblaoaaGreat.Ex
def Aq:List AV→Nat→AV
 | [],_=>.any
 | x::_,0=>x
 | _::r,n+1=>Aq r n
def Js:List AV→Nat→AV→List AV
 | [],_,_=>[]
 | _::r,0,v=>v::r
 | x::r,n+1,v=>x::Js r n v
def EU (k:Nat):List Nat→Bool
 | []=>false
 | x::r=>match Nat.beq x k with | true=>true | false=>EU k r
theorem Q8 {k:Nat}:∀ {l:List Nat},EU k l=true↔k∈l
 | []=>by simp [EU]
 | x::r=>by
  simp only [EU];split
  ·rename_i h;simp [Ar.1 h]
  ·rename_i h;have:=I4 h
   rw [Q8 (l:=r)];simp [Ne.symm this]
def cat:List Nat→List Nat→List Nat
 | [],l=>l
 | x::r,l=>x::cat r l
theorem Ct:∀ (a b:List Nat),cat a b=a++b
 | [],_=>rfl
 | x::r,b=>by simp [cat,Ct r b]
def NX:Ch→List Nat
 | .p b _=>[b]
 | .sl b _ _ _=>[b]
 | .sx b _ _=>[b]
 | .clo _ caps=>caps.map (·.1)
 | .mth _ b _=>[b]
 | .yl b=>[b]
 | .mp b=>[b]
 | _=>[]
def EG:List Ch→List Nat
 | []=>[]
 | c::r=>cat (NX c) (EG r)
def K7:List (Bool×List Ch)→List Nat
 | []=>[]
 | (_,cs)::r=>cat (EG cs) (K7 r)
def Jt:AV→List Nat
 | .val _ cs=>EG cs
 | .tup xs=>K7 xs
 | .any=>[]
def Q9 (τ:Nat→AV):List Nat→List Nat
 | []=>[]
 | t::r=>cat (Jt (τ t)) (Q9 τ r)
def NY (H:Heap):List Nat→List Nat
 | []=>[]
 | k::r=>match AF H k with
  | some blk=>cat (EG blk.cs) (NY H r)
  | none=>NY H r
def AOd:Op→Bool
 | .call _=>true
 | _=>false
def I7 (o:Oper) (τ:Nat→AV) (ts:List Nat) (H:Heap):List Nat :=
 match AOd o.op with
 | false=>Q9 τ ts
 | true=>cat (Q9 τ ts) (cat (NY H (Q9 τ ts)) (NY H (NY H (Q9 τ ts))))
def restrict (H:Heap):List Nat→Heap
 | []=>[]
 | k::r=>match AF H k with
  | some blk=>(k,some blk)::restrict H r
  | none=>restrict H r
def HK (τ:Nat→AV) (ts:List Nat):Nat→AV:=fun t=>match EU t ts with | true=>τ t | false=>.any
theorem NZ {H:Heap} {b:Nat} {blk:ib}:∀ {ks:List Nat},AF (restrict H ks) b=some blk→AF H b=some blk
 | [],h=>by simp [restrict,AF] at h
 | k::r,h=>by
  simp only [restrict] at h;split at h
  ·rename_i blk' hk;simp only [AF] at h;split at h
   ·rename_i e;rw [← Ar.1 e,hk];exact h
   ·exact NZ h
  ·exact NZ h
theorem ADA {H H':Heap}:∀ {ks:List Nat},(∀ k∈ks,AF H k=AF H' k)→restrict H ks=restrict H' ks
 | [],_=>rfl
 | k::r,h=>by
  simp only [restrict,h k (by simp)]
  rw [ADA (fun x hx=>h x (by simp [hx]))]
theorem pG {H H':Heap}:∀ {ks:List Nat},(∀ k∈ks,AF H k=AF H' k)→NY H ks=NY H' ks
 | [],_=>rfl
 | k::r,h=>by
  simp only [NY,h k (by simp)]
  rw [pG (fun x hx=>h x (by simp [hx]))]
theorem AOe {o:Oper} {τ:Nat→AV} {ts:List Nat} {H H':Heap} (h:∀ k∈I7 o τ ts H,AF H k=AF H' k):I7 o τ ts H=I7 o τ ts H':=by
 unfold I7 at h ⊢
 split
 ·rfl
 ·rename_i hc;simp only [hc,Ct,j_] at h;have h1:=pG (H:=H) (H':=H') (ks:=Q9 τ ts) (fun k hk=>h k (.inl hk))
  have h2:=pG (H:=H) (H':=H') (ks:=NY H (Q9 τ ts)) (fun k hk=>h k (.inr (.inl hk)))
  rw [h2,← h1]
theorem AOf {τ τ':Nat→AV} {ts:List Nat} (h:∀ t∈ts,τ t=τ' t):HK τ ts=HK τ' ts:=by
 funext t
 unfold HK;split
 ·rename_i hm;exact h t (Q8.1 hm)
 ·rfl
theorem AOg {β:Env} {τ:Nat→AV} {ts:List Nat} {a:Act} (h:∀ t,AO β (τ t) (a.tmps.getD t undef)):∀ t,AO β (HK τ ts t) (a.tmps.getD t undef):=by
 intro t;unfold HK;split
 ·exact h t
 ·trivial
theorem Good.restrict {β:Env} {H:Heap} {w:gn} (g:Good β H w) (ks:List Nat):Good β (restrict H ks) w where
 heap:=fun b blk h=>g.heap b blk (NZ h)
 inj:=fun b b' B n n' h h'=>g.inj b b' B n n' (by
  obtain ⟨x,hx,hr⟩:=GU h;exact GC (NZ hx) hr) (by
  obtain ⟨x,hx⟩:=mc.1 h';rw [NZ hx];rfl)
 lt:=g.lt
def pI (ops:Array Oper) (o:Oper) (τ:Nat→AV):Option Bool :=
 match o.guard with
 | none=>some true
 | some (j,want)=>match ops[j]? with
  | some oj=>match oj.dst with
   | some t=>match τ t with
    | .val false [.b x]=>some (match x,want with | true,true=>true | false,false=>true | _,_=>false)
    | .tup []=>some false
    | _=>none
   | none=>none
  | none=>none
def AOh (ops:Array Oper) (o:Oper):List Nat :=
 match o.guard with
 | none=>[]
 | some (j,_)=>match ops[j]? with
  | some oj=>match oj.dst with
   | some t=>[t]
   | none=>[]
  | none=>[]
theorem ADB {β:Env} {ops:Array Oper} {o:Oper} {τ:Nat→AV} {a:Act} {z:Bool} (ht:∀ t,AO β (τ t) (a.tmps.getD t undef)) (h:pI ops o τ=some z) :
  Region.wanted o (yielded ops a.tmps)=z:=by
 unfold pI at h;unfold Region.wanted;split at h
 ·rename_i hg;injection h with h;subst h;simp [hg]
 ·rename_i j want hg;simp only [hg];split at h
  ·rename_i oj hj;split at h
   ·rename_i t hd;have hr:=ht t;split at h
    ·rename_i x hτ;injection h with h;rw [hτ] at hr;have hv:=A5 hr;simp only [BM,qs,and_true] at hv;have hsome:a.tmps[t]? = some (.bool x):=by
      rw [mi] at hv;cases hq:a.tmps[t]? with
      | none=>rw [hq] at hv;simp [undef] at hv
      | some q=>rw [hq] at hv;simpa using hv
     simp only [yielded,hj,Option.bind_some,hd,hsome];rw [← h];cases x<;>cases want<;>rfl
    ·rename_i hτ;injection h with h;rw [hτ] at hr;obtain ⟨us,h1,h2⟩:=hr;simp only [F_] at h1;subst h1;have:∀ b,a.tmps[t]?≠some (.bool b):=by
      intro b hb;rw [mi,hb] at h2;simp at h2
     have hy:yielded ops a.tmps j=none:=by
      unfold yielded;rw [hj,Option.bind_some,hd,Option.bind_some];cases hq:a.tmps[t]? with
      | none=>rfl
      | some q=>cases q<;>first | rfl | exact absurd hq (this _)
     rw [hy,← h];rfl
    ·cases h
   ·cases h
  ·cases h
def W2 (k:Nat):Heap→Bool
 | []=>false
 | (j,_)::r=>match Nat.beq j k with | true=>true | false=>W2 k r
theorem ADC {k:Nat}:∀ {u:Heap},W2 k u=true↔∃ y,(k,y)∈u
 | []=>by simp [W2]
 | (j,y)::r=>by
  simp only [W2];split
  ·rename_i h;have:=Ar.1 h;subst this;exact ⟨fun _=>⟨y,by simp⟩,fun _=>rfl⟩
  ·rename_i h;have:=I4 h
   rw [ADC (u:=r)];constructor
   ·rintro ⟨z,hz⟩;exact ⟨z,by simp [hz]⟩
   ·rintro ⟨z,hz⟩
    simp only [ka,kp] at hz;rcases hz with ⟨e,_⟩ | hz
    ·exact absurd e.symm this
    ·exact ⟨z,hz⟩
def I8 (H:Heap) (fr nw:Nat):Heap→Bool
 | []=>true
 | (k,y)::r=>match W2 k r with
  | true=>false
  | false=>match AF H k,y with
   | some b0,_=>match Nat.beq b0.ty Br with
    | false=>I8 H fr nw r
    | true=>false
   | none,some _=>match Nat.ble fr k&&Nat.blt k (fr+nw) with
    | true=>I8 H fr nw r
    | false=>false
   | none,none=>false
theorem T9 {H:Heap} {fr nw:Nat}:∀ {u:Heap},I8 H fr nw u=true →
  (∀ k y,(k,y)∈u→GT H k=true∨(fr≤k∧k<fr+nw∧y≠none))∧(∀ k y y',(k,y)∈u→(k,y')∈u→y=y')
 | [],_=>⟨by simp,by simp⟩
 | (k,y)::r,h=>by
  simp only [I8] at h;split at h
  ·cases h
  ·rename_i hk;have hk':∀ z,(k,z) ∉ r:=fun z hz=>by
    rw [ADC.2 ⟨z,hz⟩] at hk;cases hk
   have fin:I8 H fr nw r=true→(GT H k=true∨(fr≤k∧k<fr+nw∧y≠none)) →
     (∀ k' y',(k',y')∈(k,y)::r→GT H k'=true∨(fr≤k'∧k'<fr+nw∧y'≠none))∧(∀ k' y1 y2,(k',y1)∈(k,y)::r→(k',y2)∈(k,y)::r→y1=y2):=by
    intro hr hh;obtain ⟨i1,i2⟩:=T9 hr;refine ⟨fun k' y' hm=>?_,fun k' y1 y2 h1 h2=>?_⟩
    ·simp only [ka,kp] at hm;rcases hm with ⟨rfl,rfl⟩ | hm
     ·exact hh
     ·exact i1 _ _ hm
    ·simp only [ka,kp] at h1 h2;rcases h1 with ⟨rfl,rfl⟩ | h1
     ·rcases h2 with ⟨_,rfl⟩ | h2
      ·rfl
      ·exact absurd h2 (hk' _)
     ·rcases h2 with ⟨rfl,rfl⟩ | h2
      ·exact absurd h1 (hk' _)
      ·exact i2 _ _ _ h1 h2
   split at h
   ·rename_i b0 _ hg;split at h
    ·rename_i hro;exact fin h (.inl (GC hg (Z5 hro)))
    ·cases h
   ·rename_i z hg hb;split at h
    ·rename_i hb;have hb':=jy.1 hb;refine fin h (.inr ⟨jp hb'.1,?_,by simp⟩)
     have:=hb'.2
     unfold Nat.blt at this;exact jp this
    ·cases h
   ·cases h
theorem PI {b:Nat}:∀ {u H:Heap},(∀ k y y',(k,y)∈u→(k,y')∈u→y=y')→(∀ y,(b,y)∈u→AF (GB H u) b=y)∧((∀ y,(b,y) ∉ u)→AF (GB H u) b=AF H b)
 | [],H,_=>⟨by simp,fun _=>rfl⟩
 | (k,y)::r,H,hu=>by
  have hu':∀ k y y',(k,y)∈r→(k,y')∈r→y=y':=fun k y y' h h'=>hu k y y' (by simp [h]) (by simp [h'])
  simp only [GB];obtain ⟨i1,i2⟩:=PI (b:=b) (u:=r) (H:=I3 H k y) hu'
  constructor
  ·intro z hz;by_cases hr:∃ z',(b,z')∈r
   ·obtain ⟨z',hz'⟩:=hr;rw [i1 z' hz'];exact hu b _ _ (by simp [hz']) hz
   ·rw [i2 (fun z' hz'=>hr ⟨z',hz'⟩)]
    simp only [ka,kp] at hz;rcases hz with ⟨rfl,rfl⟩ | hz
    ·exact ANm _ _ _
    ·exact absurd ⟨z,hz⟩ hr
  ·intro ji;rw [i2 (fun z hz=>ji z (by simp [hz]))]
   exact ANn _ _ _ _ (fun e=>ji y (by simp [e]))
theorem Good.step {β β':Env} {H:Heap} {fr:Nat} {r:R} {w w':gn} {u:gq} (g:Good β H w) (he:Eff β fr r w u w' β') (hu:I8 H fr r.nw r.upd=true) (hf:∀ b,fr≤b→b<fr+r.nw→β b=none) :
  Good β' (GB H r.upd) w':=by
 obtain ⟨u1,u2⟩:=T9 hu;have old:∀ b B n,β b=some (.at_ B n)→(AF (GB H r.upd) b).isSome=true→(AF H b).isSome=true:=by
  intro b B n hb hs;by_cases hk:∃ y,(b,y)∈r.upd
  ·obtain ⟨y,hy⟩:=hk;rcases u1 _ _ hy with h | ⟨h1,h2,_⟩
   ·exact Wq h
   ·rw [hf b h1 h2] at hb;cases hb
  ·rw [(PI u2).2 (fun y hy=>hk ⟨y,hy⟩)] at hs;exact hs
 have oldr:∀ b B n,β b=some (.at_ B n)→GT (GB H r.upd) b=true→GT H b=true:=by
  intro b B n hb hs;by_cases hk:∃ y,(b,y)∈r.upd
  ·obtain ⟨y,hy⟩:=hk;rcases u1 _ _ hy with h | ⟨h1,h2,_⟩
   ·exact h
   ·rw [hf b h1 h2] at hb;cases hb
  ·rw [← ACc ((PI u2).2 (fun y hy=>hk ⟨y,hy⟩))];exact hs
 have clash:∀ b b' B n n',(AF (GB H r.upd) b).isSome=true→β b=some (.at_ B n)→(∀ B' m,some (Loc.at_ B n')=some (Loc.at_ B' m)→w.heap.size≤B'∨∃ k m',(k,none)∈r.upd∧β k=some (.at_ B' m'))→b=b':=by
  intro b b' B n n' hs hb hnew;rcases hnew B n' rfl with h | ⟨k,m',hk,hk2⟩
  ·have:=g.lt _ _ _ hb;omega
  ·have hbl:=old b B n hb hs;have hkl:GT H k=true:=by
    rcases u1 _ _ hk with h | ⟨_,_,h⟩
    ·exact h
    ·exact absurd rfl h
   have e:=(g.inj _ _ _ _ _ hkl hbl hk2 hb).symm
   subst e;rw [(PI u2).1 none hk] at hs;cases hs
 refine ⟨?_,?_,he.lt⟩
 ·intro b blk hb;by_cases hk:∃ y,(b,y)∈r.upd
  ·obtain ⟨y,hy⟩:=hk;rw [(PI u2).1 y hy] at hb;subst hb;exact he.upd _ _ hy
  ·rw [(PI u2).2 (fun y hy=>hk ⟨y,hy⟩)] at hb
   have hrel:=g.heap _ _ hb;refine Zz he.ext ?_
   have kept:∀ B n,β b=some (.at_ B n)→w'.heap[B]? = w.heap[B]?:=fun B n e1=>by
    rw [he.frame B (g.lt _ _ _ e1) ?_]
    ·intro k y m hky hkm;rcases u1 _ _ hky with h | ⟨h1,h2,_⟩
     ·have e:=g.inj _ _ _ _ _ h (by rw [hb];rfl) hkm e1
      subst e;exact hk ⟨y,hky⟩
     ·rw [hf k h1 h2] at hkm;cases hkm
   rcases hrel with ⟨B,n,l,t,pre,ty,fz,e1,e2,e3,e4⟩ | h | ⟨B,l,es,q,e1,e2,e3,e4,e5⟩
   ·exact .inl ⟨B,n,l,t,pre,ty,fz,e1,e2,by rw [kept B n e1];exact e3,e4⟩
   ·exact .inr (.inl h)
   ·exact .inr (.inr ⟨B,l,es,q,e1,e2,e3,by rw [kept B _ e1];exact e4,e5⟩)
 ·intro b b' B n n' hs hs' hb hb';rcases he.new _ _ hb with h | ⟨h1,h2,h3⟩
  ·rcases he.new _ _ hb' with h' | ⟨h1',h2',h3'⟩
   ·exact g.inj _ _ _ _ _ (oldr _ _ _ h hs) (old _ _ _ h' hs') h h'
   ·exact clash b b' B n n' (Wq hs) h (fun B' m e=>h3' B' m (by injection e))
  ·rcases he.new _ _ hb' with h' | ⟨h1',h2',h3'⟩
   ·exact (clash b' b B n' n hs' h' (fun B' m e=>h3 B' m (by injection e))).symm
   ·exact he.inj _ _ _ _ _ h1 h1' h2 h2' hb hb'
def pJ (i:Nat):List Oper→Bool
 | []=>false
 | o::r=>match o.guard with
  | some (j,_)=>match Nat.beq j i with | true=>true | false=>pJ i r
  | none=>pJ i r
def W3 (used:Bool) (r:R):Option R :=
 match used,r.val with
 | true,.val false [.v (.bool x)]=>match r.ie with
  | d::ij=>some ⟨.val false [.b d],r.upd,r.nw,(x,d)::r.conds,ij⟩
  | []=>none
 | _,_=>some r
theorem AOi {used:Bool} {r r':R} (h:W3 used r=some r') (hc:AM r'.conds):AM r.conds∧r'.upd=r.upd∧r'.nw=r.nw ∧
  (∀ {β:Env} {fr:Nat} {w:gn} {u:gq} {w':gn} {β':Env},Eff β fr r w u w' β'→Eff β fr r' w u w' β'):=by
 unfold W3 at h;split at h
 ·rename_i x hv;split at h
  ·rename_i d ij hp;injection h with h;subst h;obtain ⟨h1,h2⟩:=hc;subst h1;refine ⟨h2,rfl,rfl,fun he=>⟨he.ext,he.new,he.lt,he.inj,?_,he.upd,he.frame,he.size,he.os,he.tape,he.output⟩⟩
   have:=he.val
   rw [hv] at this;have:=(A5 this).1
   injection this with this _;subst this;exact Az rfl
  ·cases h
 ·injection h with h;subst h;exact ⟨hc,rfl,rfl,id⟩
def pK:List Operand→List Nat
 | []=>[]
 | .tmp t::r=>t::pK r
 | _::r=>pK r
def Ng (ops:Array Oper) (o:Oper):List Nat:=cat (AOh ops o) (pK o.op.operands.toList)
def K8 (P:gr) (O:ia) (ops:Array Oper) (i:Nat) (o:Oper) (ts:List Nat) (τ:Nat→AV) (H:Heap) (fr:Nat) (ie:List Bool):Option R :=
 match pI ops o (HK τ ts) with
 | some false=>some ⟨.tup [],[],0,[],ie⟩
 | some true=>match pE P O o (HK τ ts) (restrict H (I7 o (HK τ ts) ts H)) fr ie with
  | some r=>match I8 (restrict H (I7 o (HK τ ts) ts H)) fr r.nw r.upd with
   | true=>W3 (pJ i ops.toList) r
   | false=>none
  | none=>none
 | none=>none
theorem AOj {P:gr} {O:ia} {ops:Array Oper} {i:Nat} {o:Oper} {ts:List Nat} {τ τ':Nat→AV} {H H':Heap} {fr:Nat} {ie:List Bool}
  (h1:∀ t∈ts,τ t=τ' t) (h2:∀ k∈I7 o (HK τ ts) ts H,AF H k=AF H' k):K8 P O ops i o ts τ H fr ie=K8 P O ops i o ts τ' H' fr ie:=by
 unfold K8;rw [← AOf h1,← AOe h2,← ADA h2]
theorem W4 {H:Heap} {ks:List Nat} {fr nw:Nat}:∀ {u:Heap},I8 (restrict H ks) fr nw u=true→(∀ k,fr≤k→k<fr+nw→AF H k=none)→I8 H fr nw u=true
 | [],_,_=>rfl
 | (k,y)::r,h,hn=>by
  simp only [I8] at h ⊢;split at h
  ·cases h
  ·split at h
   ·rename_i b hg;rw [NZ hg];simp only
    split at h
    ·exact W4 h hn
    ·cases h
   ·rename_i z hg;split at h
    ·rename_i hb;have hb':=jy.1 hb;have h2:k<fr+nw:=by
      have:=hb'.2
      unfold Nat.blt at this;exact jp this
     rw [hn k (jp hb'.1) h2];exact W4 h hn
    ·cases h
   ·cases h
theorem aO {P:gr} {O:ia} (hO:g_ P O) {ops:Array Oper} {i:Nat} {o:Oper} {ts:List Nat} {τ:Nat→AV} {H:Heap} {fr:Nat} {ie:List Bool} {r:R} {β:Env} {a:Act} {w:gn}
  (ht:∀ t,AO β (τ t) (a.tmps.getD t undef)) (g:Good β H w) (h:K8 P O ops i o ts τ H fr ie=some r) (hc:AM r.conds) (hf:∀ b,fr≤b→b<fr+r.nw→β b=none)
  (hfH:∀ b,fr≤b→b<fr+r.nw→AF H b=none) {K:Act→gn→Prop} {Q:Exit→Act→gn→Prop} (ho:ops[i]? = some o)
  (hn:∀ u w' β',Eff β fr r w u w' β'→Good β' (GB H r.upd) w'→K (a.put o.dst u) w'):wpOp P ops Q i K a w:=by
 have ht':=AOg (ts:=ts) ht
 unfold K8 at h;unfold wpOp;simp only [ho];split at h
 ·rename_i hw;injection h with h;subst h;rw [ADB ht' hw];have he:Eff β fr ⟨.tup [],[],0,[],ie⟩ w undef w β:=Eff.pure_ g ⟨[],rfl,rfl⟩
  exact hn _ _ _ he (by simpa [GB] using g)
 ·rename_i hw;rw [ADB ht' hw];split at h
  ·rename_i r0 ha;split at h
   ·rename_i hu;obtain ⟨c1,c2,c3,c4⟩:=AOi h hc;have hf0:∀ b,fr≤b→b<fr+r0.nw→β b=none:=by rw [← c3];exact hf
    have hfH0:∀ b,fr≤b→b<fr+r0.nw→AF H b=none:=by rw [← c3];exact hfH
    refine .inl (AOc hO ht' (g.restrict _) ha c1 hf0 fun u w' β' he=>?_)
    have hu':=W4 hu hfH0;exact hn _ _ _ (c4 he) (g.step (c4 he) (by rw [c2,c3];exact hu') hf)
   ·cases h
  ·cases h
 ·cases h
end Go.Proofs.YtgnajdcdcblaoaaGreat.Ex
