/- Part 1 of the proof. -/
import Derived.Calls
import Derived.Orders
import Derived.Laws.CopyRow
import Derived.Laws.Entries
import Derived.Laws.StructEq
import Derived.Laws.Externs
import Derived.Laws.BitsLemmas
import Derived.Laws.Bits64
import Derived.ChangeKeysEq
import Derived.KernelRfl
import Derived.Laws.Slices
import Derived.Laws.MakeOwn
import Derived.Laws.BytesString
import Derived.Laws.IdiomStrings
import Derived.MapKept
import Derived.Laws.Cover3
namespace Go.Proofs.YtgnajdcdcblaoaaGreat
theorem dj {α} {a b:α} (h:a=b:=by kernel_rfl):a=b:=h
theorem dk {p:Prop} (h:p:=by omega):p:=h
theorem dl {p:Prop} (h:p:=by decide):p:=h
theorem jc:type_of% @decide_eq_true:=@decide_eq_true
theorem jd:type_of% @if_neg:=@if_neg
theorem je:type_of% @if_pos:=@if_pos
theorem jf:type_of% @Nat.le_of_ble_eq_true:=@Nat.le_of_ble_eq_true
theorem jg:type_of% @decide_eq_false:=@decide_eq_false
theorem jh:type_of% @Nat.ble_eq_true_of_le:=@Nat.ble_eq_true_of_le
theorem ji:type_of% @decide_eq_true_eq:=@decide_eq_true_eq
theorem jj:type_of% @Nat.le_refl:=@Nat.le_refl
theorem jk:type_of% @Nat.mod_eq_of_lt:=@Nat.mod_eq_of_lt
theorem jl:type_of% @congrArg:=@congrArg
theorem jm:type_of% @Bool.and_eq_true:=@Bool.and_eq_true
theorem jn:type_of% @Int.toNat_natCast:=@Int.toNat_natCast
theorem jo:type_of% @Bool.and_eq_true_iff:=@Bool.and_eq_true_iff
theorem jp:type_of% @List.mem_append:=@List.mem_append
theorem jq:type_of% @Bool.false_ne_true:=@Bool.false_ne_true
theorem jr:type_of% @Nat.pow_add:=@Nat.pow_add
theorem jt:type_of% @Option.some.injEq:=@Option.some.injEq
theorem ju:type_of% @List.mem_cons:=@List.mem_cons
theorem jv:type_of% @Nat.lt_or_ge:=@Nat.lt_or_ge
theorem jw:type_of% @Nat.mod_lt:=@Nat.mod_lt
theorem jx:type_of% @of_decide_eq_true:=@of_decide_eq_true
theorem jy:type_of% @Nat.mul_comm:=@Nat.mul_comm
theorem jz:type_of% @Prod.mk.injEq:=@Prod.mk.injEq
theorem j_:type_of% @List.getD_eq_getElem?_getD:=@List.getD_eq_getElem?_getD
theorem ka:type_of% @Nat.zero_add:=@Nat.zero_add
theorem kb:type_of% @Nat.mul_one:=@Nat.mul_one
theorem kc:type_of% @List.length_append:=@List.length_append
theorem ke:type_of% @List.length_take:=@List.length_take
theorem kf:type_of% @Nat.pow_zero:=@Nat.pow_zero
theorem ki:type_of% @Int.eq_ofNat_of_zero_le:=@Int.eq_ofNat_of_zero_le
theorem kj:type_of% @Nat.mul_mod:=@Nat.mul_mod
theorem ko:type_of% @Nat.div_one:=@Nat.div_one
theorem kp:type_of% @List.length_cons:=@List.length_cons
theorem kq:type_of% @Classical.choose_spec:=@Classical.choose_spec
theorem kr:type_of% @Nat.lt_of_lt_of_le:=@Nat.lt_of_lt_of_le
theorem kt:type_of% @Nat.pow_succ:=@Nat.pow_succ
theorem ku:type_of% @List.append_nil:=@List.append_nil
theorem kv:type_of% @List.length_drop:=@List.length_drop
theorem kw:type_of% @Nat.div_div_eq_div_mul:=@Nat.div_div_eq_div_mul
theorem kx:type_of% @Nat.mul_assoc:=@Nat.mul_assoc
theorem kz:type_of% @Int.natCast_mul:=@Int.natCast_mul
theorem k_:type_of% @Nat.add_mul:=@Nat.add_mul
theorem ld:type_of% @Bool.true_and:=@Bool.true_and
theorem lf:type_of% @List.map_cons:=@List.map_cons
theorem lg:type_of% @List.mem_singleton:=@List.mem_singleton
theorem lh:type_of% @List.length_map:=@List.length_map
theorem li:type_of% @Nat.div_lt_of_lt_mul:=@Nat.div_lt_of_lt_mul
theorem lj:type_of% @Option.isSome_iff_exists:=@Option.isSome_iff_exists
theorem lk:type_of% @Nat.eq_zero_or_pos:=@Nat.eq_zero_or_pos
theorem ll:type_of% @Nat.mul_zero:=@Nat.mul_zero
theorem lm:type_of% @Nat.div_eq_of_lt:=@Nat.div_eq_of_lt
theorem lu:type_of% @Array.getD_eq_getD_getElem?:=@Array.getD_eq_getD_getElem?
theorem lv:type_of% @List.mem_map:=@List.mem_map
theorem lz:type_of% @List.mem_range:=@List.mem_range
theorem l_:type_of% @Nat.le_of_dvd:=@Nat.le_of_dvd
theorem ma:type_of% @List.getElem?_eq_none:=@List.getElem?_eq_none
theorem mb:type_of% @Nat.le_trans:=@Nat.le_trans
theorem mc:type_of% @Nat.min_eq_left:=@Nat.min_eq_left
theorem md:type_of% @Nat.div_add_mod:=@Nat.div_add_mod
theorem me:type_of% @Nat.mul_le_mul_right:=@Nat.mul_le_mul_right
theorem mf:type_of% @Array.ext':=@Array.ext'
theorem mi:type_of% @Nat.pow_pos:=@Nat.pow_pos
theorem mj:type_of% @Nat.mul_left_comm:=@Nat.mul_left_comm
theorem ml:type_of% @Prod.ext:=@Prod.ext
theorem mn:type_of% @Nat.eq_of_beq_eq_true:=@Nat.eq_of_beq_eq_true
theorem mq:type_of% @List.getElem?_eq_getElem:=@List.getElem?_eq_getElem
theorem mr:type_of% @Nat.add_assoc:=@Nat.add_assoc
theorem mv:type_of% @Nat.lt_trans:=@Nat.lt_trans
theorem mw:type_of% @List.all_eq_true:=@List.all_eq_true
theorem my:type_of% @List.take_append_drop:=@List.take_append_drop
theorem mz:type_of% @Nat.mul_le_mul_left:=@Nat.mul_le_mul_left
theorem m_:type_of% @Nat.mod_mod:=@Nat.mod_mod
theorem nb:type_of% @List.map_congr_left:=@List.map_congr_left
theorem nc:type_of% @Bool.and_false:=@Bool.and_false
theorem nf:type_of% @Nat.mod_two_eq_zero_or_one:=@Nat.mod_two_eq_zero_or_one
theorem nh:type_of% @List.cons_append:=@List.cons_append
theorem ni:type_of% @List.drop_drop:=@List.drop_drop
theorem nj:type_of% @Nat.mul_add:=@Nat.mul_add
theorem nl:type_of% @Nat.add_zero:=@Nat.add_zero
theorem nm:type_of% @List.nil_append:=@List.nil_append
theorem nq:type_of% @List.append_assoc:=@List.append_assoc
theorem nr:type_of% @List.getElem?_append_left:=@List.getElem?_append_left
theorem nu:type_of% @List.take_of_length_le:=@List.take_of_length_le
theorem nx:type_of% @List.mem_cons_of_mem:=@List.mem_cons_of_mem
theorem ny:type_of% @List.map_map:=@List.map_map
theorem nz:type_of% @Nat.pow_mod:=@Nat.pow_mod
theorem n_:type_of% @Bool.false_and:=@Bool.false_and
theorem od:type_of% @List.length_replicate:=@List.length_replicate
theorem oe:type_of% @Int.tmod_eq_emod_of_nonneg:=@Int.tmod_eq_emod_of_nonneg
theorem og:type_of% @Nat.add_mod:=@Nat.add_mod
theorem oh:type_of% @Nat.sub_self:=@Nat.sub_self
theorem oi:type_of% @Nat.not_lt_zero:=@Nat.not_lt_zero
theorem ol:type_of% @List.mem_of_getElem?:=@List.mem_of_getElem?
theorem om:type_of% @List.mem_of_mem_drop:=@List.mem_of_mem_drop
theorem oq:type_of% @List.map_append:=@List.map_append
theorem ot:type_of% @Nat.mul_le_mul:=@Nat.mul_le_mul
theorem ow:type_of% @List.length_range:=@List.length_range
theorem oy:type_of% @Nat.pow_le_pow_right:=@Nat.pow_le_pow_right
theorem oz:type_of% @Nat.zero_mod:=@Nat.zero_mod
theorem o_:type_of% @Bool.not_true:=@Bool.not_true
theorem pc:type_of% @Nat.sub_zero:=@Nat.sub_zero
theorem pe:type_of% @Nat.zero_mul:=@Nat.zero_mul
theorem pf:type_of% @of_decide_eq_false:=@of_decide_eq_false
theorem pi:type_of% @Nat.add_mod_right:=@Nat.add_mod_right
theorem pj:type_of% @Nat.one_mul:=@Nat.one_mul
theorem pm:type_of% @List.getElem?_map:=@List.getElem?_map
theorem pn:type_of% @List.drop_zero:=@List.drop_zero
theorem po:type_of% @List.getElem?_cons_zero:=@List.getElem?_cons_zero
theorem pp:type_of% @List.mem_of_mem_take:=@List.mem_of_mem_take
theorem pq:type_of% @Nat.pow_mul:=@Nat.pow_mul
theorem pr:type_of% @Nat.lt_of_le_of_lt:=@Nat.lt_of_le_of_lt
theorem pu:type_of% @Fin.ext_iff:=@Fin.ext_iff
theorem pv:type_of% @Int.tdiv_eq_ediv_of_nonneg:=@Int.tdiv_eq_ediv_of_nonneg
theorem p_:type_of% @Int.natCast_pow:=@Int.natCast_pow
theorem qa:type_of% @Nat.mod_mul_mod:=@Nat.mod_mul_mod
theorem qb:type_of% @Nat.and_lt_two_pow:=@Nat.and_lt_two_pow
theorem qd:type_of% @Int.natCast_add:=@Int.natCast_add
theorem qe:type_of% @Nat.mod_one:=@Nat.mod_one
theorem qf:type_of% @Nat.two_mul:=@Nat.two_mul
theorem qg:type_of% @List.mem_cons_self:=@List.mem_cons_self
theorem qh:type_of% @List.cons.injEq:=@List.cons.injEq
theorem qi:type_of% @Nat.zero_le:=@Nat.zero_le
theorem qj:type_of% @Nat.div_mul_le_self:=@Nat.div_mul_le_self
theorem qk:type_of% @List.getElem?_drop:=@List.getElem?_drop
theorem ql:type_of% @Int.mul_add:=@Int.mul_add
theorem qm:type_of% @Int.fdiv_eq_ediv_of_nonneg:=@Int.fdiv_eq_ediv_of_nonneg
theorem qn:type_of% @Nat.div_le_self:=@Nat.div_le_self
theorem qo:type_of% @Nat.mod_eq_zero_of_dvd:=@Nat.mod_eq_zero_of_dvd
theorem qp:type_of% @List.nodup_cons:=@List.nodup_cons
theorem qq:type_of% @Nat.lt_irrefl:=@Nat.lt_irrefl
theorem qr:type_of% @List.drop_eq_nil_of_le:=@List.drop_eq_nil_of_le
theorem qs:type_of% @Nat.succ_mul:=@Nat.succ_mul
theorem qu:type_of% @Array.getElem?_toList:=@Array.getElem?_toList
theorem qv:type_of% @List.getElem?_append_right:=@List.getElem?_append_right
theorem qw:type_of% @Array.getElem?_eq_some_iff:=@Array.getElem?_eq_some_iff
theorem qz:type_of% @List.getElem?_take_of_lt:=@List.getElem?_take_of_lt
theorem q_:type_of% @Option.map_eq_some_iff:=@Option.map_eq_some_iff
theorem ra:type_of% @Bool.not_false:=@Bool.not_false
theorem rb:type_of% @Array.toList_map:=@Array.toList_map
theorem rf:type_of% @Nat.dvd_of_mod_eq_zero:=@Nat.dvd_of_mod_eq_zero
theorem ri:type_of% @Int.natCast_ediv:=@Int.natCast_ediv
theorem rj:type_of% @List.ext_getElem:=@List.ext_getElem
theorem rk:type_of% @List.map_take:=@List.map_take
theorem rp:type_of% @Nat.mul_right_comm:=@Nat.mul_right_comm
theorem ru:type_of% @List.replicate_succ:=@List.replicate_succ
theorem rv:type_of% @Nat.pos_of_ne_zero:=@Nat.pos_of_ne_zero
theorem rx:type_of% @Bool.or_eq_true:=@Bool.or_eq_true
theorem ry:type_of% @List.range_succ_eq_map:=@List.range_succ_eq_map
theorem r_:type_of% @Nat.pow_two:=@Nat.pow_two
theorem sd:type_of% @List.length_eq_zero_iff:=@List.length_eq_zero_iff
theorem se:type_of% @Nat.pow_succ':=@Nat.pow_succ'
theorem sf:type_of% @Int.mul_assoc:=@Int.mul_assoc
theorem sh:type_of% @List.set_append_right:=@List.set_append_right
theorem si:type_of% @List.map_drop:=@List.map_drop
theorem sj:type_of% @Nat.xor_lt_two_pow:=@Nat.xor_lt_two_pow
theorem sk:type_of% @List.range'_succ:=@List.range'_succ
theorem sm:type_of% @List.length_eq_one_iff:=@List.length_eq_one_iff
theorem sn:type_of% @List.ext_getElem?:=@List.ext_getElem?
theorem sr:type_of% @Array.getElem?_setIfInBounds_ne:=@Array.getElem?_setIfInBounds_ne
theorem ss:type_of% @Array.getElem?_push:=@Array.getElem?_push
theorem sv:type_of% @Array.getElem?_modify:=@Array.getElem?_modify
theorem ta:type_of% @List.range_succ:=@List.range_succ
theorem te:type_of% @Nat.add_sub_cancel_left:=@Nat.add_sub_cancel_left
theorem ti:type_of% @List.drop_append_of_le_length:=@List.drop_append_of_le_length
theorem tj:type_of% @List.take_append_of_le_length:=@List.take_append_of_le_length
theorem tk:type_of% @Nat.div_lt_iff_lt_mul:=@Nat.div_lt_iff_lt_mul
theorem tn:type_of% @Nat.mod_eq_sub_mod:=@Nat.mod_eq_sub_mod
theorem tq:type_of% @List.range_eq_range':=@List.range_eq_range'
theorem tu:type_of% @Array.getElem?_eq_getElem:=@Array.getElem?_eq_getElem
theorem tw:type_of% @List.getElem?_eq_some_iff:=@List.getElem?_eq_some_iff
theorem ud:type_of% @Int.toNat_of_nonneg:=@Int.toNat_of_nonneg
theorem uf:type_of% @Nat.add_mul_div_left:=@Nat.add_mul_div_left
theorem ug:type_of% @Nat.add_mul_mod_self_left:=@Nat.add_mul_mod_self_left
theorem ui:type_of% @Classical.byContradiction:=@Classical.byContradiction
theorem uk:type_of% @List.getElem?_take:=@List.getElem?_take
theorem um:type_of% @Array.length_toList:=@Array.length_toList
theorem uo:type_of% @Nat.mod_mod_of_dvd:=@Nat.mod_mod_of_dvd
theorem u_:type_of% @Array.getElem?_setIfInBounds_self_of_lt:=@Array.getElem?_setIfInBounds_self_of_lt
abbrev dn:=List Int
end Go.Proofs.YtgnajdcdcblaoaaGreat
namespace Go.Proofs.YtgnajdcdcblaoaaGreat.Ex
inductive Ch where
 | n (k:IntKind) (i:Int)
 | b (x:Bool)
 | v (x:Value)
 | p (bk gu:Nat)
 | sl (bk gu len cap:Nat)
 | sx (bk len sz:Nat)
 | num (k x:Nat)
 | seq (kd:IntKind) (l:dn)
 | clo (f:FuncId) (caps:List (Nat×Nat))
 | mth (f:FuncId) (bk gu:Nat)
 | yl (bk:Nat)
 | mp (bk:Nat)
 | mk
inductive AV where
 | val (g:Bool) (cs:List Ch)
 | tup (xs:List (Bool×List Ch))
 | any
structure gt where
 ty:TypeId
 cs:List Ch
 opn:Bool:=false
inductive Loc where
 | at_ (B:Nat) (n:Nat×Nat)
 | nil
 | emp
def Bu:Nat:=4294967295
abbrev Heap:=List (Nat×Option gt)
abbrev Env:=Nat→Option Loc
def has (k:IntKind) (n:Int):Prop:=k.min≤n∧n≤k.max
instance (k:IntKind) (n:Int):Decidable (has k n):=by unfold has;infer_instance
def AF (x i:Nat):Int:=((x / 2^(64*i) % 2^64:Nat):Int)
def words (k x:Nat):List Value:=(List.range k).map fun i=>.int .u64 (AF x i)
def NR (k x:Nat):List Ch:=(List.range k).map fun i=>.v (.int .u64 (AF x i))
def okV (x:Value):Prop:=x.oneCell'=true∧(match x with | .int k i=>has k i | _=>True)
def GE (β:Env):List (Nat×Nat)→List Value→Prop
 | [],l=>l=[]
 | (bk,gu)::r,l=>∃ B n l',β bk=some (.at_ B n)∧GE β r l'∧l=.pointer (some ⟨B,n.2+gu,none⟩)::l'
def BM (β:Env):Ch→List Value→Prop
 | .n k i,l=>l=[.int k i]∧has k i
 | .b x,l=>l=[.bool x]
 | .v x,l=>l=[x]∧okV x
 | .p bk gu,l=>∃ B n,β bk=some (.at_ B n)∧l=[.pointer (some ⟨B,n.2+gu,none⟩)]
 | .sl bk gu len cap,l=>(∃ B n,β bk=some (.at_ B n)∧l=[.slice (some ⟨B,n.2+gu,none⟩) len cap])∨(β bk=some .nil∧gu=0∧len=0∧cap=0∧l=[.slice none 0 0])∨(β bk=some .emp∧gu=0∧len=0∧cap=0∧∃ a m,l=[.slice (some a) 0 m])
 | .sx bk len sz,l=>(∃ B n cap,β bk=some (.at_ B (n,0))∧l=[.slice (some ⟨B,0,none⟩) len cap]∧len≤cap∧cap*sz≤n)∨(β bk=some .nil∧len=0∧l=[.slice none 0 0])
 | .num k x,l=>x<2^(64*k)∧l=words k x
 | .seq kd xs,l=>l=xs.map (.int kd)∧∀ x∈xs,has kd x
 | .clo f caps,l=>∃ ps,GE β caps ps∧l=[.func (.func f) #[] ⟨ps⟩]
 | .mth f bk gu,l=>∃ B n,β bk=some (.at_ B n)∧l=[.func (.func f) ⟨[.agg ⟨[.pointer (some ⟨B,n.2+gu,none⟩)]⟩]⟩ ⟨[]⟩]
 | .yl bk,l=>∃ L n,β bk=some (.at_ L n)∧l=[.func (.yield L) ⟨[]⟩ ⟨[]⟩]
 | .mp bk,l=>∃ B,β bk=some (.at_ B (0,0))∧l=[.map (some B)]
 | .mk,l=>l=[.nilIface]
def AQ (β:Env):List Ch→List Value→Prop
 | [],l=>l=[]
 | c::cs,l=>∃ l1 l2,BM β c l1∧AQ β cs l2∧l=l1++l2
def Bx (β:Env):Bool→List Ch→Value→Prop
 | true,cs,u=>∃ l,AQ β cs l∧u=.agg ⟨l⟩
 | false,cs,u=>AQ β cs [u]
def GF (β:Env):List (Bool×List Ch)→List Value→Prop
 | [],l=>l=[]
 | (g,cs)::r,l=>∃ u l',Bx β g cs u∧GF β r l'∧l=u::l'
def AN (β:Env):AV→Value→Prop
 | .val g cs,u=>Bx β g cs u
 | .tup xs,u=>∃ us,GF β xs us∧u=.tuple ⟨us⟩
 | .any,_=>True
def Jr:Nat:=4294967296
def mI (s:Nat) (es:List MapEntry) (l:List Value):Prop :=
 l=es.flatMap (fun e=>e.key::e.val.cells.toList)∧∀ e∈es,(∃ st,e.key=.string st)∧∃ c:List Value,e.val=.agg ⟨c⟩∧c.length=s
def Loc.out (b:gt):Loc→Prop
 | .at_ _ _=>False
 | .nil=>b.opn=true∨b.ty=Bu
 | .emp=>b.opn=false∧b.ty=Bu
def DS (β:Env) (blk:gt) (bk:Nat) (w:World):Prop :=
 (∃ B n l t pre ty fz,β bk=some (.at_ B n)∧AQ β blk.cs l∧w.heap[B]? = some (.cells ⟨pre++(l++t)⟩ ty fz)∧pre.length=n.2 ∧
  (blk.ty≠Bu→pre=[]∧ty=blk.ty∧fz=(0,0)∧(blk.opn=false→t=[])∧(l++t).length=n.1∧(∀ v∈t,v.oneCell'=true))) ∨
 (∃ X,β bk=some X∧X.out blk∧AQ β blk.cs []) ∨
 (∃ B l es clock,β bk=some (.at_ B (0,0))∧Jr≤blk.ty∧AQ β blk.cs (.nilIface::l)∧w.heap[B]? = some (.map es clock)∧mI (blk.ty-Jr) es.toList l)
theorem Ze {β:Env} {blk:gt} {bk B n:Nat} {l t:List Value} {w:World} (h1:β bk=some (.at_ B (n,0))) (h2:AQ β blk.cs l) (h3:w.heap[B]? = some (.cells ⟨l++t⟩ blk.ty (0,0))) (h4:blk.opn=false→t=[]) (h5:(l++t).length=n)
  (h6:∀ v∈t,v.oneCell'=true):DS β blk bk w :=
 .inl ⟨B,(n,0),l,t,[],blk.ty,(0,0),h1,h2,h3,rfl,fun _=>⟨rfl,rfl,rfl,h4,h5,h6⟩⟩
theorem ABt {β:Env} {blk:gt} {bk:Nat} {w:World} (h:DS β blk bk w) (ht:blk.ty<Jr) :
  (∃ B n l t pre ty fz,β bk=some (.at_ B n)∧AQ β blk.cs l∧w.heap[B]? = some (.cells ⟨pre++(l++t)⟩ ty fz)∧pre.length=n.2 ∧
  (blk.ty≠Bu→pre=[]∧ty=blk.ty∧fz=(0,0)∧(blk.opn=false→t=[])∧(l++t).length=n.1∧(∀ v∈t,v.oneCell'=true))) ∨
  (∃ X,β bk=some X∧X.out blk∧AQ β blk.cs []):=by
 rcases h with h | h | ⟨_,_,_,_,_,h,_⟩
 ·exact .inl h
 ·exact .inr h
 ·exact absurd h (Nat.not_le.2 ht)
theorem AMm {β:Env} {blk:gt} {bk:Nat} {w:World} (h:DS β blk bk w) (he:β bk=some .emp):blk.opn=false∧blk.ty=Bu:=by
 rcases h with ⟨B,n,l,t,pre,ty,fz,h1,_⟩ | ⟨X,h1,h2,_⟩ | ⟨B,l,es,q,h1,_⟩
 ·rw [he] at h1;cases h1
 ·rw [he] at h1;injection h1 with h1;subst h1;exact h2
 ·rw [he] at h1;cases h1
theorem Qw {β:Env} {blk:gt} {bk:Nat} {w:World} (h:DS β blk bk w) (hr:blk.ty<Bu) :
  (∃ B n l t,β bk=some (.at_ B (n,0))∧AQ β blk.cs l∧w.heap[B]? = some (.cells ⟨l++t⟩ blk.ty (0,0))∧(blk.opn=false→t=[])∧(l++t).length=n∧(∀ v∈t,v.oneCell'=true))∨(β bk=some .nil∧blk.opn=true∧AQ β blk.cs []):=by
 rcases ABt h (mv hr dl) with ⟨B,n,l,t,pre,ty,fz,h1,h2,h3,h4,h5⟩ | ⟨X,h1,h2,h3⟩
 ·obtain ⟨rfl,rfl,rfl,e4,e5,e6⟩:=h5 (Nat.ne_of_lt hr)
  have hn:n=(n.1,0):=by rw [show (0:Nat)=n.2 from h4]
  exact .inl ⟨B,n.1,l,t,by rw [← hn];exact h1,h2,h3,e4,e5,e6⟩
 ·cases X with
  | at_=>exact h2.elim
  | nil=>exact .inr ⟨h1,Or.resolve_right h2 (Nat.ne_of_lt hr),h3⟩
  | emp=>exact absurd h2.2 (Nat.ne_of_lt hr)
def Env.le (β β':Env):Prop:=∀ b B,β b=some B→β' b=some B
theorem Env.le_refl (β:Env):Env.le β β:=fun _ _ h=>h
theorem Env.le_trans {a b c:Env} (h:Env.le a b) (k:Env.le b c):Env.le a c:=fun x X e=>k x X (h x X e)
section
variable {β β':Env} (hm:Env.le β β')
include hm
theorem mJ:∀ {r:List (Nat×Nat)} {l:List Value},GE β r l→GE β' r l
 | [],_,h=>h
 | (_,_)::_,_,⟨B,n,l',h1,h2,h3⟩=>⟨B,n,l',hm _ _ h1,mJ h2,h3⟩
theorem ABu {c:Ch} {l:List Value} (h:BM β c l):BM β' c l:=by
 cases c<;>simp only [BM] at h ⊢
 case n=>exact h
 case b=>exact h
 case v=>exact h
 case p=>obtain ⟨B,n,h1,h2⟩:=h;exact ⟨B,n,hm _ _ h1,h2⟩
 case sl =>
  rcases h with ⟨B,n,h1,h2⟩ | ⟨h1,h2⟩ | ⟨h1,h2⟩
  ·exact .inl ⟨B,n,hm _ _ h1,h2⟩
  ·exact .inr (.inl ⟨hm _ _ h1,h2⟩)
  ·exact .inr (.inr ⟨hm _ _ h1,h2⟩)
 case sx =>
  rcases h with ⟨B,n,cap,h1,h2⟩ | ⟨h1,h2⟩
  ·exact .inl ⟨B,n,cap,hm _ _ h1,h2⟩
  ·exact .inr ⟨hm _ _ h1,h2⟩
 case num=>exact h
 case seq=>exact h
 case clo=>obtain ⟨ps,h1,h2⟩:=h;exact ⟨ps,mJ hm h1,h2⟩
 case mth=>obtain ⟨B,n,h1,h2⟩:=h;exact ⟨B,n,hm _ _ h1,h2⟩
 case yl=>obtain ⟨B,n,h1,h2⟩:=h;exact ⟨B,n,hm _ _ h1,h2⟩
 case mp=>obtain ⟨B,h1,h2⟩:=h;exact ⟨B,hm _ _ h1,h2⟩
 case mk=>exact h
theorem I1:∀ {cs:List Ch} {l:List Value},AQ β cs l→AQ β' cs l
 | [],_,h=>h
 | _::_,_,⟨l1,l2,h1,h2,h3⟩=>⟨l1,l2,ABu hm h1,I1 h2,h3⟩
theorem ABv {g:Bool} {cs:List Ch} {u:Value} (h:Bx β g cs u):Bx β' g cs u:=by
 cases g
 ·exact I1 hm h
 ·obtain ⟨l,h1,h2⟩:=h;exact ⟨l,I1 hm h1,h2⟩
theorem ABw:∀ {xs:List (Bool×List Ch)} {l:List Value},GF β xs l→GF β' xs l
 | [],_,h=>h
 | (_,_)::_,_,⟨u,l',h1,h2,h3⟩=>⟨u,l',ABv hm h1,ABw h2,h3⟩
theorem Fx {x:AV} {u:Value} (h:AN β x u):AN β' x u:=by
 cases x with
 | val g cs=>exact ABv hm h
 | tup xs=>obtain ⟨us,h1,h2⟩:=h;exact ⟨us,ABw hm h1,h2⟩
 | any=>trivial
theorem Zf {blk:gt} {bk:Nat} {w:World} (h:DS β blk bk w):DS β' blk bk w:=by
 rcases h with ⟨B,n,l,t,pre,ty,fz,h1,h2,h3⟩ | ⟨X,h1,h2,h3⟩ | ⟨B,l,es,q,h1,h2,h3,h4⟩
 ·exact .inl ⟨B,n,l,t,pre,ty,fz,hm _ _ h1,I1 hm h2,h3⟩
 ·exact .inr (.inl ⟨X,hm _ _ h1,h2,I1 hm h3⟩)
 ·exact .inr (.inr ⟨B,l,es,q,hm _ _ h1,h2,I1 hm h3,h4⟩)
end
def FF:Ch→Nat
 | .num k _=>k
 | .seq _ l=>l.length
 | _=>1
def ME:List Ch→Nat
 | []=>0
 | c::cs=>FF c+ME cs
theorem MF (k x:Nat):(words k x).length=k:=by simp [words]
theorem Qy {β:Env} {c:Ch} {l:List Value} (h:BM β c l):l.length=FF c:=by
 cases c<;>simp only [BM] at h<;>simp only [FF]
 case n=>simp [h.1]
 case b=>simp [h]
 case v=>simp [h.1]
 case p=>obtain ⟨B,n,_,rfl⟩:=h;rfl
 case sl=>rcases h with ⟨B,n,_,rfl⟩ | ⟨_,_,_,_,rfl⟩ | ⟨_,_,_,_,_,_,rfl⟩<;>rfl
 case sx=>rcases h with ⟨B,n,cap,_,rfl,_⟩ | ⟨_,_,rfl⟩<;>rfl
 case num=>rw [h.2,MF]
 case seq=>simp [h.1]
 case clo=>obtain ⟨ps,_,rfl⟩:=h;rfl
 case mth=>obtain ⟨B,n,_,rfl⟩:=h;rfl
 case yl=>obtain ⟨B,n,_,rfl⟩:=h;rfl
 case mp=>obtain ⟨B,_,rfl⟩:=h;rfl
 case mk=>simp [h]
theorem Tj {β:Env}:∀ {cs:List Ch} {l:List Value},AQ β cs l→l.length=ME cs
 | [],l,h=>by simp only [AQ] at h;simp [h,ME]
 | c::cs,l,⟨l1,l2,h1,h2,h3⟩=>by simp [h3,ME,Qy h1,Tj h2]
theorem O7 {β:Env}:∀ {a b:List Ch} {x y:List Value},AQ β a x→AQ β b y→AQ β (a++b) (x++y)
 | [],_,_,_,h,k=>by simp only [AQ] at h;simpa [h] using k
 | c::a,b,x,y,⟨l1,l2,h1,h2,h3⟩,k=>⟨l1,l2++y,h1,O7 h2 k,by simp [h3]⟩
theorem Zg (x i:Nat):has .u64 (AF x i):=by
 have h1:x / 2^(64*i) % 2^64<2^64:=jw _ dl
 simp only [has,AF,IntKind.min,IntKind.max,IntKind.signed,IntKind.bits];simp at h1 ⊢
 omega
theorem Zh {β:Env} (x:Nat):∀ (is:List Nat),AQ β (is.map fun i=>Ch.v (.int .u64 (AF x i))) (is.map fun i=>Value.int .u64 (AF x i))
 | []=>rfl
 | i::is=>⟨[_],_,⟨rfl,rfl,Zg x i⟩,Zh x is,rfl⟩
theorem AMn {β:Env} (k x:Nat):AQ β (NR k x) (words k x):=Zh x _
def GG:List Ch→Nat→Option (List Ch×List Ch)
 | [],m=>match m with | 0=>some ([],[]) | _=>none
 | c::cs,m=>match m with
  | 0=>some ([],c::cs)
  | m'+1=>match Nat.ble (FF c) (m'+1) with
   | true=>match GG cs (m'+1-FF c) with
    | some (a,r)=>some (c::a,r)
    | none=>none
   | false=>match c with
    | .num k x=>some ((NR k x).take (m'+1),(NR k x).drop (m'+1)++cs)
    | .seq kd l=>some ([.seq kd (l.take (m'+1))],.seq kd (l.drop (m'+1))::cs)
    | _=>none
theorem AMo {β:Env} (k x m:Nat):AQ β ((NR k x).take m) ((words k x).take m)∧AQ β ((NR k x).drop m) ((words k x).drop m):=by
 unfold NR words;rw [← rk,← rk,← si,← si];exact ⟨Zh x _,Zh x _⟩
theorem I2 {β:Env}:∀ {cs:List Ch} {m:Nat} {a r:List Ch} {l:List Value},GG cs m=some (a,r)→AQ β cs l →
  AQ β a (l.take m)∧AQ β r (l.drop m)∧m≤l.length
 | [],m,a,r,l,h,hl=>by
  simp only [AQ] at hl;subst hl;cases m with
  | zero=>simp [GG] at h;obtain ⟨rfl,rfl⟩:=h;simp [AQ]
  | succ m=>simp [GG] at h
 | c::cs,m,a,r,l,h,hl=>by
  cases m with
  | zero=>simp [GG] at h;obtain ⟨rfl,rfl⟩:=h;exact ⟨by simp [AQ],by simpa using hl,qi _⟩
  | succ m =>
   obtain ⟨l1,l2,h1,h2,rfl⟩:=hl;have hz:=Qy h1;simp only [GG] at h;cases hb:Nat.ble (FF c) (m+1) with
   | true =>
    have ir:=jf hb;simp only [hb] at h;split at h
    ·rename_i a' r' hs;simp only [jt,jz] at h;obtain ⟨rfl,rfl⟩:=h;obtain ⟨i1,i2,i3⟩:=I2 hs h2;refine ⟨⟨l1,_,h1,i1,?_⟩,?_,?_⟩
     ·rw [List.take_append,hz,nu dk]
     ·rw [List.drop_append,hz,qr dk,nm];exact i2
     ·simp;omega
    ·cases h
   | false =>
    have ik:m+1<FF c:=by
     rcases jv (m+1) (FF c) with h' | h'
     ·exact h'
     ·rw [jh h'] at hb;cases hb
    simp only [hb] at h;split at h
    ·rename_i k x;simp only [jt,jz] at h;obtain ⟨rfl,rfl⟩:=h;simp only [BM] at h1;obtain ⟨_,rfl⟩:=h1;simp only [FF] at ik;obtain ⟨j1,j2⟩:=AMo (β:=β) k x (m+1)
     refine ⟨?_,?_,?_⟩
     ·rw [tj (by rw [MF];omega)];exact j1
     ·rw [ti (by rw [MF];omega)];exact O7 j2 h2
     ·simp [MF];omega
    ·rename_i kd xs;simp only [jt,jz] at h;obtain ⟨rfl,rfl⟩:=h;simp only [BM] at h1;obtain ⟨rfl,hx⟩:=h1;simp only [FF] at ik;refine ⟨?_,?_,?_⟩
     ·rw [tj (by simp;omega),← rk]
      exact ⟨_,[],⟨rfl,fun x h=>hx x (pp h)⟩,rfl,by simp⟩
     ·rw [ti (by simp;omega),← si]
      exact ⟨_,_,⟨rfl,fun x h=>hx x (om h)⟩,h2,rfl⟩
     ·simp;omega
    ·cases h
def MG (cs:List Ch) (gu sz:Nat):Option (List Ch) :=
 match GG cs gu with
 | some (_,r)=>match GG r sz with
  | some (m,_)=>some m
  | none=>none
 | none=>none
theorem Tk {β:Env} {cs m:List Ch} {gu sz:Nat} {l:List Value} (h:MG cs gu sz=some m) (hl:AQ β cs l) :
  AQ β m ((l.drop gu).take sz)∧gu+sz≤l.length:=by
 unfold MG at h;split at h
 ·rename_i a r h1;split at h
  ·rename_i m' t h2;injection h with h;subst h;obtain ⟨_,i2,i3⟩:=I2 h1 hl;obtain ⟨j1,_,j3⟩:=I2 h2 i2;refine ⟨j1,?_⟩
   simp at j3;omega
  ·cases h
 ·cases h
def WV (cs:List Ch) (gu sz:Nat) (new:List Ch):Option (List Ch) :=
 match GG cs gu with
 | some (a,r)=>match GG r sz with
  | some (_,t)=>some (a++(new++t))
  | none=>none
 | none=>none
theorem mK {β:Env} {cs m new:List Ch} {gu sz:Nat} {l ln:List Value} (h:WV cs gu sz new=some m) (hl:AQ β cs l) (hn:AQ β new ln) :
  AQ β m (l.take gu++ln++l.drop (gu+sz))∧gu+sz≤l.length:=by
 unfold WV at h;split at h
 ·rename_i a r h1;split at h
  ·rename_i m' t h2;injection h with h;subst h;obtain ⟨i1,i2,i3⟩:=I2 h1 hl;obtain ⟨_,j2,j3⟩:=I2 h2 i2;refine ⟨?_,?_⟩
   ·rw [nq];exact O7 i1 (O7 hn (by rw [ni] at j2;exact j2))
   ·simp at j3;omega
  ·cases h
 ·cases h
def AG:Heap→Nat→Option gt
 | [],_=>none
 | (k,x)::r,b=>match Nat.beq k b with | true=>x | false=>AG r b
def I3:Heap→Nat→Option gt→Heap
 | [],b,y=>[(b,y)]
 | (k,x)::r,b,y=>match Nat.beq k b with | true=>(k,y)::r | false=>(k,x)::I3 r b y
theorem Ar {a b:Nat}:Nat.beq a b=true↔a=b:=by rw [Nat.beq_eq]
theorem I4 {a b:Nat} (h:Nat.beq a b=false):a≠b:=fun e=>by rw [Ar.2 e] at h;cases h
theorem GH {a b:Nat} (h:a≠b):Nat.beq a b=false:=by
 cases hb:Nat.beq a b
 ·rfl
 ·exact absurd (Ar.1 hb) h
theorem AMp (H:Heap) (b:Nat) (y:Option gt):AG (I3 H b y) b=y:=by
 induction H with
 | nil=>simp [I3,AG]
 | cons e r ih =>
  obtain ⟨k,x⟩:=e;simp only [I3];cases hk:Nat.beq k b with
  | true=>simp [AG,hk]
  | false=>simp [AG,hk,ih]
theorem AMq (H:Heap) (b c:Nat) (y:Option gt) (h:b≠c):AG (I3 H b y) c=AG H c:=by
 induction H with
 | nil=>simp [I3,AG,GH h]
 | cons e r ih =>
  obtain ⟨k,x⟩:=e;simp only [I3];cases hk:Nat.beq k b with
  | true =>
   have:=Ar.1 hk
   subst this;simp [AG,GH h]
  | false =>
   simp only [AG,ih]
def GI (H:Heap) (u:Heap):Heap:=match u with
 | []=>H
 | (b,y)::r=>GI (I3 H b y) r
def MI (H:Heap) (b:Nat):Option gt:=match AG H b with
 | some blk=>match Nat.blt blk.ty Jr with
  | true=>some blk
  | false=>none
 | none=>none
theorem ABx {H:Heap} {b:Nat} {blk:gt} (h:MI H b=some blk):AG H b=some blk∧blk.ty<Jr:=by
 unfold MI at h;split at h
 ·rename_i x hx;split at h
  ·rename_i ht;injection h with h;subst h;exact ⟨hx,jf ht⟩
  ·cases h
 ·cases h
def IS:List Ch→Bool
 | []=>true
 | .mk::_=>false
 | .v y::r=>match y with
  | .nilIface=>false
  | _=>IS r
 | _::r=>IS r
theorem Zi {β:Env}:∀ {cs:List Ch} {l:List Value},IS cs=true→AQ β cs l→.nilIface ∉ l
 | [],l,_,h,hm=>by simp only [AQ] at h;subst h;cases hm
 | c::cs,l,hw,⟨l1,l2,h1,h2,h3⟩,hm=>by
  rw [h3,jp] at hm;have key:IS cs=true∧.nilIface ∉ l1:=by
   cases c<;>simp only [BM] at h1
   case n=>rw [h1.1];exact ⟨hw,by simp⟩
   case b=>rw [h1];exact ⟨hw,by simp⟩
   case v y =>
    rw [h1.1];cases y<;>first | exact ⟨hw,by simp⟩ | cases hw
   case p=>obtain ⟨B,n,_,rfl⟩:=h1;exact ⟨hw,by simp⟩
   case sl=>rcases h1 with ⟨B,n,_,rfl⟩ | ⟨_,_,_,_,rfl⟩ | ⟨_,_,_,_,_,_,rfl⟩<;>exact ⟨hw,by simp⟩
   case sx=>rcases h1 with ⟨B,n,cap,_,rfl,_⟩ | ⟨_,_,rfl⟩<;>exact ⟨hw,by simp⟩
   case num=>rw [h1.2];exact ⟨hw,by simp [words]⟩
   case seq=>rw [h1.1];exact ⟨hw,by simp⟩
   case clo=>obtain ⟨ps,_,rfl⟩:=h1;exact ⟨hw,by simp⟩
   case mth=>obtain ⟨B,n,_,rfl⟩:=h1;exact ⟨hw,by simp⟩
   case yl=>obtain ⟨B,n,_,rfl⟩:=h1;exact ⟨hw,by simp⟩
   case mp=>obtain ⟨B,_,rfl⟩:=h1;exact ⟨hw,by simp⟩
   case mk=>cases hw
  exact hm.elim key.2 (Zi key.1 h2)
def AMr (β:Env) (H:Heap) (w:World):Prop:=∀ b blk,AG H b=some blk→DS β blk b w
end Go.Proofs.YtgnajdcdcblaoaaGreat.Ex
namespace Go.Proofs.YtgnajdcdcblaoaaGreat
abbrev dp:=List (Bool×Bool)
end Go.Proofs.YtgnajdcdcblaoaaGreat
namespace Go.Proofs.YtgnajdcdcblaoaaGreat.Ex
structure R where
 val:AV
 upd:Heap
 nw:Nat
 conds:dp
 gv:List Bool
def AO:dp→Prop
 | []=>True
 | (x,d)::r=>x=d∧AO r
theorem B5:∀ {a b:dp},AO (a++b)↔AO a∧AO b
 | [],b=>by simp [AO]
 | (x,d)::a,b=>by simp [AO,B5 (a:=a),and_assoc]
def CP (x:AV) (gv:List Bool):R:=⟨x,[],0,[],gv⟩
structure Eff (β:Env) (fr:Nat) (r:R) (w:World) (u:Value) (w':World) (β':Env):Prop where
 ext:Env.le β β'
 new:∀ b X,β' b=some X→β b=some X∨(fr≤b∧b<fr+r.nw∧∀ B n,X=.at_ B n→w.heap.size≤B∨∃ k m,(k,none)∈r.upd∧β k=some (.at_ B m))
 lt:∀ b B n,β' b=some (.at_ B n)→B<w'.heap.size
 inj:∀ b b' B n n',fr≤b→fr≤b'→b<fr+r.nw→b'<fr+r.nw→β' b=some (.at_ B n)→β' b'=some (.at_ B n')→b=b'
 val:AN β' r.val u
 upd:∀ k y,(k,some y)∈r.upd→DS β' y k w'
 frame:∀ B,B<w.heap.size→(∀ k y n,(k,y)∈r.upd→β k≠some (.at_ B n))→w'.heap[B]? = w.heap[B]?
 size:w.heap.size≤w'.heap.size
 os:w'.os=w.os
 tape:w'.tape=w.tape
 output:w'.output=w.output
def GY (H:Heap) (b:Nat):Bool:=match AG H b with | some blk=>!Nat.beq blk.ty Bu | none=>false
theorem GZ {H:Heap} {b:Nat} (h:GY H b=true):∃ blk,AG H b=some blk∧blk.ty≠Bu:=by
 unfold GY at h;split at h
 ·rename_i blk hb;exact ⟨blk,hb,fun e=>by rw [e] at h;cases h⟩
 ·cases h
theorem GJ {H:Heap} {b:Nat} {blk:gt} (h:AG H b=some blk) (hr:blk.ty≠Bu):GY H b=true:=by
 unfold GY;rw [h];simp only [GH hr];rfl
theorem WW {H:Heap} {b:Nat} (h:GY H b=true):(AG H b).isSome=true:=by
 obtain ⟨blk,hb,_⟩:=GZ h;rw [hb];rfl
theorem ABy {H H':Heap} {b:Nat} (h:AG H b=AG H' b):GY H b=GY H' b:=by unfold GY;rw [h]
structure Good (β:Env) (H:Heap) (w:World):Prop where
 heap:AMr β H w
 inj:∀ b b' B n n',GY H b=true→(AG H b').isSome=true→β b=some (.at_ B n)→β b'=some (.at_ B n')→b=b'
 lt:∀ b B n,β b=some (.at_ B n)→B<w.heap.size
theorem Good.cells {β:Env} {H:Heap} {w:World} (g:Good β H w) {b:Nat} {blk:gt} (h:MI H b=some blk) :
  (∃ B n l t pre ty fz,β b=some (.at_ B n)∧AQ β blk.cs l∧w.heap[B]? = some (.cells ⟨pre++(l++t)⟩ ty fz)∧pre.length=n.2 ∧
  (blk.ty≠Bu→pre=[]∧ty=blk.ty∧fz=(0,0)∧(blk.opn=false→t=[])∧(l++t).length=n.1∧(∀ v∈t,v.oneCell'=true))) ∨
  (∃ X,β b=some X∧X.out blk∧AQ β blk.cs []):=ABt (g.heap _ _ (ABx h).1) (ABx h).2
theorem Eff.pure_ {β:Env} {fr:Nat} {x:AV} {gv:List Bool} {c:dp} {H:Heap} {w:World} {u:Value} (g:Good β H w) (h:AN β x u) :
  Eff β fr ⟨x,[],0,c,gv⟩ w u w β where
 ext:=Env.le_refl β
 new:=fun _ _ h=>.inl h
 lt:=g.lt
 inj:=fun b b' _ _ _ h1 _ h3=>by simp at h3;omega
 val:=h
 upd:=fun _ _ h=>by cases h
 frame:=fun _ _ _=>rfl
 size:=jj _
 os:=rfl
 tape:=rfl
 output:=rfl
def Env.put (β:Env) (b:Nat) (X:Loc):Env:=fun x=>if x=b then some X else β x
theorem Env.put_same (β:Env) (b:Nat) (X:Loc):β.put b X b=some X:=by simp [Env.put]
theorem Env.le_put {β:Env} {b:Nat} (X:Loc) (h:β b=none):Env.le β (β.put b X):=fun x Y e=>by
 unfold Env.put;split
 ·rename_i hx;subst hx;rw [h] at e;cases e
 ·exact e
theorem Eff.new_ {β:Env} {fr n:Nat} {x:AV} {gv:List Bool} {c:dp} {H:Heap} {w:World} {u:Value} {ty:TypeId} {cs:List Ch} {l:List Value}
  (g:Good β H w) (hf:β fr=none) (hl:AQ β cs l) (hn:l.length=n) (h:AN (β.put fr (.at_ w.heap.size (n,0))) x u) :
  Eff β fr ⟨x,[(fr,some ⟨ty,cs,false⟩)],1,c,gv⟩ w u (w.alloc (.cells ⟨l⟩ ty)) (β.put fr (.at_ w.heap.size (n,0))) where
 ext:=Env.le_put _ hf
 new:=fun b X k=>by
  unfold Env.put at k;split at k
  ·rename_i hb;subst hb;injection k with k;subst k;exact .inr ⟨jj _,by simp,fun B n e=>by injection e with e1 e2;subst e1;exact .inl (jj _)⟩
  ·exact .inl k
 lt:=fun b B m k=>by
  unfold Env.put at k;split at k
  ·injection k with k;injection k with k _;subst k;simp
  ·have:=g.lt _ _ _ k;simp;omega
 inj:=fun b b' _ _ _ h1 h2 h3 h4 _ _=>by simp at h3 h4;omega
 val:=h
 upd:=fun k y hy=>by
  simp only [lg,jz,jt] at hy;obtain ⟨rfl,rfl⟩:=hy;exact Ze (l:=l) (t:=[]) (Env.put_same ..) (I1 (Env.le_put _ hf) hl) (by show (w.heap.push _)[w.heap.size]? = _;simp) (fun _=>rfl) (by simpa using hn) (by simp)
 frame:=fun B hB _=>by
  show (w.heap.push _)[B]? = _;rw [ss,jd dk]
 size:=by simp
 os:=rfl
 tape:=rfl
 output:=rfl
theorem Eff.write {β:Env} {fr:Nat} {x:AV} {gv:List Bool} {c:dp} {H:Heap} {w:World} {u:Value} {ty:TypeId} {bk B n:Nat} {cs:List Ch} {l t l0:List Value} {opn:Bool}
  (g:Good β H w) (hb:β bk=some (.at_ B (n,0))) (ho:w.heap[B]? = some (.cells ⟨l0⟩ ty (0,0))) (hl:AQ β cs l) (ht:opn=false→t=[]) (hn:(l++t).length=n) (h1:∀ v∈t,v.oneCell'=true) (h:AN β x u) :
  Eff β fr ⟨x,[(bk,some ⟨ty,cs,opn⟩)],0,c,gv⟩ w u (w.setRow B ⟨l++t⟩) β where
 ext:=Env.le_refl β
 new:=fun _ _ h=>.inl h
 lt:=fun b B' m h=>by have:=g.lt _ _ _ h;simpa [World.setRow] using this
 inj:=fun b b' _ _ _ h1 _ h3=>by simp at h3;omega
 val:=h
 upd:=fun k y hy=>by
  simp only [lg,jz,jt] at hy;obtain ⟨rfl,rfl⟩:=hy;exact Ze hb hl (setRow_heap w B ⟨l0⟩ _ ty (0,0) ho) ht hn h1
 frame:=fun B' hB iq=>by
  have:B'≠B:=fun e=>iq _ _ (n,0) (lg.2 rfl) (by rw [e];exact hb)
  simp only [World.setRow,sv];rw [jd dk]
 size:=by simp [World.setRow]
 os:=rfl
 tape:=rfl
 output:=rfl
def AL (k:IntKind) (n:Int):Bool :=
 match k with
 | .u64=>decide (0≤n)&&decide (n≤18446744073709551615)
 | .i64=>decide (-9223372036854775808≤n)&&decide (n≤9223372036854775807)
 | .u8=>decide (0≤n)&&decide (n≤255)
 | .u32=>decide (0≤n)&&decide (n≤4294967295)
 | .i32=>decide (-2147483648≤n)&&decide (n≤2147483647)
 | .u16=>decide (0≤n)&&decide (n≤65535)
 | .i16=>decide (-32768≤n)&&decide (n≤32767)
 | .i8=>decide (-128≤n)&&decide (n≤127)
theorem Fy (k:IntKind) (n:Int):has k n↔AL k n=true:=by
 cases k<;>simp [has,AL,IntKind.min,IntKind.max,IntKind.signed,IntKind.bits]
theorem Ky (k:IntKind) (n:Int):has k (k.wrap n):=by
 rw [Fy];cases k<;>simp only [IntKind.wrap,IntKind.signed,IntKind.bits,AL]<;>simp<;>(try split)<;>omega
def WX (x:Value):Option Ch :=
 match x with
 | .int k i=>match AL k i with | true=>some (.n k i) | false=>none
 | .bool y=>some (.b y)
 | .agg _ | .tuple _=>none
 | .pointer p=>some (.v (.pointer p))
 | .slice a l c=>some (.v (.slice a l c))
 | .string s=>some (.v (.string s))
 | .nilFunc=>some (.v .nilFunc)
 | .nilIface=>some (.v .nilIface)
 | .map m=>some (.v (.map m))
 | .func f a c=>some (.v (.func f a c))
 | _=>none
theorem ABz {β:Env} {x:Value} {c:Ch} (h:WX x=some c):BM β c [x]:=by
 cases x<;>simp only [WX] at h
 case int k i =>
  split at h
  ·rename_i hh;injection h with h;subst h;exact ⟨rfl,(Fy _ _).2 hh⟩
  ·cases h
 case bool=>injection h with h;subst h;rfl
 all_goals first
  | (injection h with h;subst h;exact ⟨rfl,rfl,trivial⟩)
  | cases h
def NS:List Value→Option (List Ch)
 | []=>some []
 | x::xs=>match WX x,NS xs with
  | some c,some cs=>some (c::cs)
  | _,_=>none
theorem Tl {β:Env}:∀ {xs:List Value} {cs:List Ch},NS xs=some cs→AQ β cs xs
 | [],cs,h=>by simp [NS] at h;subst h;rfl
 | x::xs,cs,h=>by
  simp only [NS] at h;split at h
  ·rename_i c cs' h1 h2;injection h with h;subst h;exact ⟨[x],xs,ABz h1,Tl h2,rfl⟩
  ·cases h
def Qz (x:Value):Option AV :=
 match x with
 | .agg cs=>match NS cs.toList with | some l=>some (.val true l) | none=>none
 | .tuple cs=>match cs.toList with | []=>some (.tup []) | _=>none
 | x=>match WX x with | some c=>some (.val false [c]) | none=>none
theorem Zj {β:Env} {x:Value} {A:AV} (h:Qz x=some A):AN β A x:=by
 have scal:∀ y,(match WX y with | some c=>some (AV.val false [c]) | none=>none)=some A→AN β A y:=by
  intro y h;split at h
  ·rename_i c hc;injection h with h;subst h;exact ⟨[y],[],ABz hc,rfl,rfl⟩
  ·cases h
 cases x;case agg cs =>
  simp only [Qz] at h;split at h
  ·rename_i l hl;injection h with h;subst h;exact ⟨cs.toList,Tl hl,rfl⟩
  ·cases h
 case tuple cs =>
  simp only [Qz] at h;split at h
  ·rename_i hl;injection h with h;subst h;exact ⟨[],rfl,by rw [← hl]⟩
  ·cases h
 all_goals exact scal _ h
def B8 (τ:Nat→AV):Operand→Option AV
 | .tmp t=>some (τ t)
 | .const x=>Qz x
 | .func f=>some (.val false [.v (.func (.func f) #[] #[])])
 | .global _=>none
theorem I5 {β:Env} {τ:Nat→AV} {a:Act} (ht:∀ t,AN β (τ t) (a.tmps.getD t undef)) {x:Operand} {A:AV} (h:B8 τ x=some A):AN β A (a.eval x):=by
 cases x<;>simp only [B8] at h
 case tmp t=>injection h with h;subst h;exact ht t
 case const v=>exact Zj h
 case func f=>injection h with h;subst h;exact ⟨[_],[],⟨rfl,rfl,trivial⟩,rfl,rfl⟩
 case global=>cases h
theorem Az {β:Env} {c:Ch} {u:Value} (h:Bx β false [c] u):BM β c [u]:=by
 obtain ⟨l1,l2,h1,h2,h3⟩:=h;simp only [AQ] at h2;subst h2;rw [ku] at h3;rw [h3];exact h1
theorem Aw {β:Env} {c:Ch} {u:Value} (h:BM β c [u]):Bx β false [c] u:=⟨[u],[],h,rfl,rfl⟩
theorem Tm {β:Env} {g:Bool} {cs:List Ch} {u:Value} (h:Bx β g cs u):AQ β cs u.cells.toList:=by
 cases g
 ·have hl:=h;simp only [Bx] at hl;have hc:u.cells=#[u]∨∃ x,u=.agg x:=by cases u<;>simp [Value.cells]
  rcases hc with hc | ⟨x,rfl⟩
  ·rw [hc];exact hl
  ·exfalso
   clear h;have:∀ (cs:List Ch) (l:List Value),AQ β cs l→.agg x ∉ l:=by
    intro cs;induction cs with
    | nil=>intro l h;simp only [AQ] at h;simp [h]
    | cons c cs ih =>
     intro l ⟨l1,l2,h1,h2,h3⟩ hm
     rw [h3,jp] at hm;rcases hm with hm | hm
     ·cases c<;>simp only [BM] at h1
      case n=>rw [h1.1] at hm;simp at hm
      case b=>rw [h1] at hm;simp at hm
      case v y=>rw [h1.1] at hm;simp at hm;subst hm;exact absurd h1.2.1 (by simp [Value.oneCell'])
      case p=>obtain ⟨B,n,_,rfl⟩:=h1;simp at hm
      case sl=>rcases h1 with ⟨B,n,_,rfl⟩ | ⟨_,_,_,_,rfl⟩ | ⟨_,_,_,_,_,_,rfl⟩<;>simp at hm
      case sx=>rcases h1 with ⟨B,n,cap,_,rfl,_⟩ | ⟨_,_,rfl⟩<;>simp at hm
      case num=>rw [h1.2] at hm;simp [words] at hm
      case seq=>rw [h1.1] at hm;simp at hm
      case clo=>obtain ⟨B,_,rfl⟩:=h1;simp at hm
      case mth=>obtain ⟨B,n,_,rfl⟩:=h1;simp at hm
      case yl=>obtain ⟨B,n,_,rfl⟩:=h1;simp at hm
      case mp=>obtain ⟨B,_,rfl⟩:=h1;simp at hm
      case mk=>rw [h1] at hm;simp at hm
     ·exact ih _ h2 hm
   exact this _ _ hl (by simp)
 ·obtain ⟨l,h1,rfl⟩:=h;exact h1
theorem Tn {β:Env}:∀ {cs:List Ch} {l:List Value},AQ β cs l→∀ v∈l,v.oneCell'=true
 | [],l,h,v,hv=>by simp only [AQ] at h;subst h;cases hv
 | c::cs,l,⟨l1,l2,h1,h2,h3⟩,v,hv=>by
  rw [h3,jp] at hv;rcases hv with hm | hm
  ·cases c<;>simp only [BM] at h1
   case n=>rw [h1.1] at hm;simp at hm;subst hm;rfl
   case b=>rw [h1] at hm;simp at hm;subst hm;rfl
   case v y=>rw [h1.1] at hm;simp at hm;subst hm;exact h1.2.1
   case p=>obtain ⟨B,n,_,rfl⟩:=h1;simp at hm;subst hm;rfl
   case sl=>rcases h1 with ⟨B,n,_,rfl⟩ | ⟨_,_,_,_,rfl⟩ | ⟨_,_,_,_,_,_,rfl⟩<;>(simp at hm;subst hm;rfl)
   case sx=>rcases h1 with ⟨B,n,cap,_,rfl,_⟩ | ⟨_,_,rfl⟩<;>(simp at hm;subst hm;rfl)
   case num=>rw [h1.2] at hm;simp [words] at hm;obtain ⟨i,_,rfl⟩:=hm;rfl
   case seq=>rw [h1.1] at hm;simp at hm;obtain ⟨i,_,rfl⟩:=hm;rfl
   case clo=>obtain ⟨B,_,rfl⟩:=h1;simp at hm;subst hm;rfl
   case mth=>obtain ⟨B,n,_,rfl⟩:=h1;simp at hm;subst hm;rfl
   case yl=>obtain ⟨B,n,_,rfl⟩:=h1;simp at hm;subst hm;rfl
   case mp=>obtain ⟨B,_,rfl⟩:=h1;simp at hm;subst hm;rfl
   case mk=>rw [h1] at hm;simp at hm;subst hm;rfl
  ·exact Tn h2 v hm
section ops
variable {P:Program} {β:Env} {H:Heap} {w:World}
def mL (P:Program) (t:TypeId) (fr:Nat) (gv:List Bool):Option R :=
 match P.info? t with
 | some i=>match i.zero with
  | some z=>match Qz z with
   | some (.val _ cs)=>some ⟨.val false [.p fr 0],[(fr,some ⟨t,cs,false⟩)],1,[],gv⟩
   | _=>none
  | none=>none
 | none=>none
theorem AB0 (β:Env) (fr B n:Nat):AN (β.put fr (.at_ B (n,0))) (.val false [.p fr 0]) (.pointer (some ⟨B,0,none⟩)) :=
 Aw ⟨B,(n,0),Env.put_same ..,rfl⟩
theorem AMs {t fr:Nat} {gv:List Bool} {r:R} (g:Good β H w) (h:mL P t fr gv=some r) (hf:∀ b,fr≤b→b<fr+r.nw→β b=none) :
  ∃ u w' β',(Instr.alloc t true (.tuple #[])).run P w=.ok u w'∧Eff β fr r w u w' β':=by
 unfold mL at h;split at h
 ·rename_i i hi;split at h
  ·rename_i z hz;split at h
   ·rename_i gg cs hc;injection h with h;subst h;have hr:=Tm (Zj (β:=β) hc)
    refine ⟨_,_,_,?_,Eff.new_ g (hf fr (jj _) (by simp)) hr rfl (AB0 β fr _ _)⟩
    simp [Instr.alloc,zeroValue,typeInfo,hi,hz,newVar,newRow]
   ·cases h
  ·cases h
 ·cases h
def mM (t:TypeId) (x:Option AV) (fr:Nat) (gv:List Bool):Option R :=
 match x with
 | some (.val _ cs)=>some ⟨.val false [.p fr 0],[(fr,some ⟨t,cs,false⟩)],1,[],gv⟩
 | _=>none
theorem AMt {t fr:Nat} {gv:List Bool} {x:Option AV} {u:Value} {r:R} (g:Good β H w) (hx:∀ A,x=some A→AN β A u) (h:mM t x fr gv=some r)
  (hf:∀ b,fr≤b→b<fr+r.nw→β b=none) :
  ∃ v w' β',(Instr.box t u).run P w=.ok v w'∧Eff β fr r w v w' β':=by
 unfold mM at h;split at h
 ·rename_i gg cs;injection h with h;subst h;have hr:=Tm (hx _ rfl)
  refine ⟨_,_,_,?_,Eff.new_ g (hf fr (jj _) (by simp)) hr rfl (AB0 β fr _ _)⟩
  simp [Instr.box,newVar,newRow]
 ·cases h
def wide:TypeDesc→Bool
 | .struct _ | .array _ _=>true
 | _=>false
theorem WY {t:TypeId} {d:TypeDesc} (h:P.underlying t=some d) (w:World):(isAgg t).run P w=.ok (wide d) w:=by
 unfold isAgg;simp only [Sem.run_bind,run_underlying h,Result.andThen_ok];cases d<;>rfl
def To (P:Program) (t:TypeId) (cs:List Ch) (gu:Nat) (gv:List Bool):Option R :=
 match P.underlying t,P.info? t with
 | some d,some i=>match wide d with
  | true=>match MG cs gu i.size with
   | some m=>some (CP (.val true m) gv)
   | none=>none
  | false=>match cs with
   | [.seq kd xs]=>some ⟨.val false [.v (.int kd (xs.getD gu 0))],[],0,[(decide (gu<xs.length),true)],gv⟩
   | cs=>match MG cs gu 1 with
    | some m=>some (CP (.val false m) gv)
    | none=>none
 | _,_=>none
def mN (P:Program) (t:TypeId) (cs:List Ch) (gu:Nat) (gv:List Bool):Option R :=
 match cs with
 | [.seq kd xs]=>match P.underlying t,P.info? t with
  | some d,some i=>match wide d with
   | true=>some ⟨.val true [.seq kd ((xs.drop gu).take i.size)],[],0,[(Nat.ble (gu+i.size) xs.length,true)],gv⟩
   | false=>To P t cs gu gv
  | _,_=>none
 | cs=>To P t cs gu gv
def mO (P:Program) (t:TypeId) (x:Option AV) (H:Heap) (gv:List Bool):Option R :=
 match x with
 | some (.val false [.p bk gu])=>match MI H bk with
  | some blk=>match blk.opn,Nat.beq blk.ty Bu with
   | true,false=>mN P t blk.cs gu gv
   | _,_=>To P t blk.cs gu gv
  | none=>none
 | _=>none
theorem mQ {l:List Value} {gu:Nat} (h:gu<l.length):(l.drop gu).take 1=[l[gu]]:=by
 apply sn
 intro i;cases i with
 | zero=>simp [List.getElem?_drop,h]
 | succ i=>simp [List.getElem?_take]
theorem WZ {B gu:Nat} {l t pre:List Value} {ty:TypeId} {fz:Nat×Nat} (ho:w.heap[B]? = some (.cells ⟨pre++(l++t)⟩ ty fz)) (h:gu<l.length):w.cell? ⟨B,pre.length+gu,none⟩=some l[gu]:=by
 have e:(pre++(l++t))[pre.length+gu]? = some l[gu]:=by
  rw [qv dk,te,nr h,mq h]
 simp [World.cell?,ho,e]
theorem Zk {t gu B:Nat} {gv:List Bool} {cs:List Ch} {l t' pre:List Value} {ty:TypeId} {fz:Nat×Nat} {r:R} (g:Good β H w) (hl:AQ β cs l)
  (ho:w.heap[B]? = some (.cells ⟨pre++(l++t')⟩ ty fz)) (h:To P t cs gu gv=some r) (hc:AO r.conds) (fr:Nat) :
  ∃ u,(loadVar t ⟨B,pre.length+gu,none⟩).run P w=.ok u w∧Eff β fr r w u w β:=by
 unfold To at h;split at h
 ·rename_i d i hd hi;have hag:=WY hd w;split at h
  ·rename_i hw;split at h
   ·rename_i m hm;injection h with h;subst h;obtain ⟨h1,h2⟩:=Tk hm hl;have gx:((l.drop gu).take i.size).length=i.size:=by simp;omega
    have hload:=run_loadCells_list (P:=P) w ⟨B,pre.length+gu,none⟩ ((l.drop gu).take i.size) (fun j v hj=>by
     rw [Addr.add_lit,mr];have hjl:j<((l.drop gu).take i.size).length:=by
      rcases jv j ((l.drop gu).take i.size).length with h' | h'
      ·exact h'
      ·rw [ma h'] at hj;cases hj
     rw [uk,je dk,qk] at hj;rw [WZ ho dk,← hj,mq])
    rw [gx] at hload;refine ⟨.agg ⟨(l.drop gu).take i.size⟩,?_,Eff.pure_ g ⟨_,h1,rfl⟩⟩
    simp [loadVar,hag,hw,sizeOf,typeInfo,hi,hload]
   ·cases h
  ·rename_i hw;split at h
   ·rename_i kd xs;injection h with h;subst h;simp only [AO,ji,and_true] at hc;obtain ⟨l1,l2,h1,h2,h3⟩:=hl;simp only [AQ] at h2;subst h2;simp only [BM] at h1;obtain ⟨h1,g_⟩:=h1;rw [ku,h1] at h3;subst h3;have AG:xs.getD gu 0=xs[gu]:=by simp [hc]
    refine ⟨.int kd (xs.getD gu 0),?_,Eff.pure_ g (Aw ⟨rfl,rfl,?_⟩)⟩
    ·have:=WZ (w:=w) ho (gu:=gu) (by simpa using hc)
     simp [loadVar,hag,hw,run_load,this,hc]
    ·rw [AG];exact g_ _ (List.getElem_mem hc)
   ·rename_i cs' _;split at h
    ·rename_i m hm;injection h with h;subst h;obtain ⟨h1,h2⟩:=Tk hm hl;rw [mQ dk] at h1;refine ⟨l[gu],?_,Eff.pure_ g h1⟩
     have:=WZ (w:=w) ho (gu:=gu) dk
     simp [loadVar,hag,hw,run_load,this]
    ·cases h
 ·cases h
theorem AMu {t gu B:Nat} {gv:List Bool} {cs:List Ch} {l t' pre:List Value} {ty:TypeId} {fz:Nat×Nat} {r:R} (g:Good β H w) (hl:AQ β cs l)
  (ho:w.heap[B]? = some (.cells ⟨pre++(l++t')⟩ ty fz)) (h:mN P t cs gu gv=some r) (hc:AO r.conds) (fr:Nat) :
  ∃ u,(loadVar t ⟨B,pre.length+gu,none⟩).run P w=.ok u w∧Eff β fr r w u w β:=by
 unfold mN at h;split at h
 ·rename_i kd xs;split at h
  ·rename_i d i hd hi;split at h
   ·rename_i hw;injection h with h;subst h;have ir:=jf hc.1;obtain ⟨l1,l2,⟨rfl,g_⟩,h2,rfl⟩:=hl;simp only [AQ] at h2;subst h2;have gx:(((xs.map (Value.int kd)).drop gu).take i.size).length=i.size:=by simp;omega
    have hload:=run_loadCells_list (P:=P) w ⟨B,pre.length+gu,none⟩ (((xs.map (Value.int kd)).drop gu).take i.size) (fun j v hj=>by
     rw [Addr.add_lit,mr];have hjl:j<(((xs.map (Value.int kd)).drop gu).take i.size).length:=by
      rcases jv j (((xs.map (Value.int kd)).drop gu).take i.size).length with h' | h'
      ·exact h'
      ·rw [ma h'] at hj;cases hj
     rw [uk,je dk,qk] at hj;rw [WZ ho (by rw [ku,lh];omega),← hj,mq (by rw [lh];omega)]
     simp)
    rw [gx] at hload;refine ⟨.agg ⟨((xs.map (Value.int kd)).drop gu).take i.size⟩,?_,Eff.pure_ g ⟨_,?_,rfl⟩⟩
    ·simp [loadVar,WY hd w,hw,sizeOf,typeInfo,hi,hload]
    ·rw [← si,← rk];exact ⟨_,[],⟨rfl,fun x hx=>g_ x (om (pp hx))⟩,rfl,(ku _).symm⟩
   ·exact Zk g hl ho h hc fr
  ·cases h
 ·exact Zk g hl ho h hc fr
theorem AMv {t:TypeId} {gv:List Bool} {x:Option AV} {u:Value} {r:R} (g:Good β H w) (hx:∀ A,x=some A→AN β A u) (h:mO P t x H gv=some r)
  (hc:AO r.conds) (fr:Nat):∃ v,(Instr.loadAt t u).run P w=.ok v w∧Eff β fr r w v w β:=by
 unfold mO at h;split at h
 ·rename_i bk gu;split at h
  ·rename_i blk hb;have hu:=Az (hx _ rfl)
   obtain ⟨B',n',e4,e5⟩:=hu;injection e5 with e5 _;subst e5;rcases g.cells hb with ⟨B,n,l,t',pre,ty',fz,e1,e2,e3,e0,_⟩ | ⟨X,e1,e2,_⟩
   case inr=>rw [e1] at e4;injection e4 with e4;subst e4;exact e2.elim
   rw [e1] at e4;injection e4 with e4;injection e4 with e4 e4';subst e4;subst e4';have:∃ u,(loadVar t ⟨B,pre.length+gu,none⟩).run P w=.ok u w∧Eff β fr r w u w β:=by
    split at h
    ·exact AMu g e2 e3 h hc fr
    ·exact Zk g e2 e3 h hc fr
   obtain ⟨v,hv,he⟩:=this;rw [e0] at hv;refine ⟨v,?_,he⟩
   simp [Instr.loadAt,Instr.sureAddr,hv]
  ·cases h
 ·cases h
def mR (P:Program) (t:TypeId) (bk:Nat) (blk:gt) (gu:Nat) (new:List Ch) (gv:List Bool):Option R :=
 match blk.cs,new with
 | [.seq kd xs],[.n k i]=>match decide (k=kd),P.info? t with
  | true,some inf=>match Nat.beq inf.size 1 with
   | true=>some ⟨.any,[(bk,some ⟨blk.ty,[.seq kd (xs.set gu i)],blk.opn⟩)],0,[(decide (gu<xs.length),true)],gv⟩
   | false=>none
  | _,_=>none
 | [.seq kd xs],[.v (.int k i)]=>match decide (k=kd),P.info? t with
  | true,some inf=>match Nat.beq inf.size 1 with
   | true=>some ⟨.any,[(bk,some ⟨blk.ty,[.seq kd (xs.set gu i)],blk.opn⟩)],0,[(decide (gu<xs.length),true)],gv⟩
   | false=>none
  | _,_=>none
 | cs,new=>match P.info? t with
  | some inf=>match Nat.beq (ME new) inf.size with
   | true=>match WV cs gu inf.size new with
    | some m=>some ⟨.any,[(bk,some ⟨blk.ty,m,blk.opn⟩)],0,[],gv⟩
    | none=>none
   | false=>none
  | none=>none
def mS (P:Program) (t:TypeId) (x y:Option AV) (H:Heap) (gv:List Bool):Option R :=
 match x,y with
 | some (.val false [.p bk gu]),some (.val _ new)=>match AG H bk with
  | some blk=>match Nat.ble Bu blk.ty with
   | false=>mR P t bk blk gu new gv
   | true=>none
  | none=>none
 | _,_=>none
theorem Zl {a:Nat} (h:Nat.beq a Bu=false):a≠Bu:=I4 h
theorem O8 {a:Nat} (h:Nat.ble Bu a=false):a<Bu:=by
 rcases jv a Bu with q | q
 ·exact q
 ·rw [jh q] at h;cases h
theorem AB1 {t:TypeId} {i:TypeInfo} {B gu:Nat} {l t' ln:List Value} {ty:TypeId} {u:Value} (hi:P.info? t=some i)
  (ho:w.heap[B]? = some (.cells ⟨l++t'⟩ ty (0,0))) (hu:u.cells.toList=ln) (hs:ln.length=i.size) (hfit:gu+i.size≤l.length) (h1:∀ v∈ln,v.oneCell'=true) :
  (storeVar t ⟨B,gu,none⟩ u).run P w=.ok () (w.setRow B ⟨(l.take gu++ln++l.drop (gu+i.size))++t'⟩):=by
 have hz:u.cells.size=i.size:=by rw [← hs,← hu];simp
 have:=run_storeCells_at P B gu ty ln 0 ⟨l++t'⟩ w ho (by simp;omega) h1
 simp only [nl] at this;have e1:(l++t').take gu=l.take gu:=tj dk
 have e2:(l++t').drop (gu+i.size)=l.drop (gu+i.size)++t':=ti dk
 simp only [e1,hs,e2] at this;simp [storeVar,sizeOf,typeInfo,hi,hz,hu,this]
theorem AMw {β:Env} {kd:IntKind} {xs:dn} {i:Int} (gu:Nat) (hx:∀ x∈xs,has kd x) (hi:has kd i) :
  AQ β [.seq kd (xs.set gu i)] ((xs.set gu i).map (.int kd)) :=
 ⟨_,[],⟨rfl,fun x hm=>by
  rcases List.mem_or_eq_of_mem_set hm with h | h
  ·exact hx x h
  ·rw [h];exact hi⟩,rfl,by simp⟩
theorem AMx {α:Type} (l:List α) (gu:Nat) (x:α) (h:gu<l.length):l.set gu x=l.take gu++[x]++l.drop (gu+1):=by
 rw [List.set_eq_take_append_cons_drop,je h];simp
theorem AMy {t bk gu B n:Nat} {gv:List Bool} {blk:gt} {new:List Ch} {l t':List Value} {u:Value} {r:R} (g:Good β H w) (hb:β bk=some (.at_ B (n,0))) (hl:AQ β blk.cs l)
  (ho:w.heap[B]? = some (.cells ⟨l++t'⟩ blk.ty (0,0))) (ht:blk.opn=false→t'=[]) (gx:(l++t').length=n) (ht1:∀ v∈t',v.oneCell'=true)
  (hn:AQ β new u.cells.toList) (h:mR P t bk blk gu new gv=some r) (hc:AO r.conds) (fr:Nat) :
  ∃ w',(storeVar t ⟨B,gu,none⟩ u).run P w=.ok () w'∧Eff β fr r w undef w' β:=by
 have seqcase:∀ (kd k:IntKind) (xs:dn) (i:Int) (inf:TypeInfo),blk.cs=[.seq kd xs]→u.cells.toList=[.int k i]→has k i→k=kd→P.info? t=some inf→inf.size=1→gu<xs.length →
   ∃ w',(storeVar t ⟨B,gu,none⟩ u).run P w=.ok () w'∧Eff β fr ⟨.any,[(bk,some ⟨blk.ty,[.seq kd (xs.set gu i)],blk.opn⟩)],0,[(decide (gu<xs.length),true)],gv⟩ w undef w' β:=by
  intro kd k xs i inf e1 e2 e3 e4 e5 e6 e7;subst e4;rw [e1] at hl;obtain ⟨l1,l2,h1,h2,h3⟩:=hl;simp only [AQ] at h2;subst h2;simp only [BM] at h1;obtain ⟨h1,g_⟩:=h1;rw [ku,h1] at h3;subst h3;have:=AB1 (u:=u) (l:=xs.map (Value.int k)) (gu:=gu) (ln:=[.int k i]) e5 ho e2 (by simp [e6]) (by simp [e6];omega) (by simp [Value.oneCell'])
  refine ⟨_,this,?_⟩
  have e:(xs.map (Value.int k)).take gu++[Value.int k i]++(xs.map (Value.int k)).drop (gu+inf.size)=(xs.set gu i).map (Value.int k):=by
   rw [List.map_set,e6,AMx _ gu _ (by simpa using e7)]
  rw [e];exact Eff.write g hb ho (AMw gu g_ e3) ht (by simpa using gx) ht1 trivial
 unfold mR at h;split at h
 ·rename_i kd xs k i e1;split at h
  ·rename_i inf hk hi;split at h
   ·rename_i hz;injection h with h;subst h;simp only [AO,ji,and_true] at hc;have:=Az (u:=(.int k i:Value)) (β:=β) (c:=.n k i)
    obtain ⟨l1,l2,h1,h2,h3⟩:=hn;simp only [AQ] at h2;subst h2;simp only [BM] at h1;exact seqcase kd k xs i inf e1 (by rw [h3,h1.1];rfl) h1.2 (by simpa using hk) hi (Ar.1 hz) hc
   ·cases h
  ·cases h
 ·rename_i kd xs k i e1;split at h
  ·rename_i inf hk hi;split at h
   ·rename_i hz;injection h with h;subst h;simp only [AO,ji,and_true] at hc;obtain ⟨l1,l2,h1,h2,h3⟩:=hn;simp only [AQ] at h2;subst h2;simp only [BM] at h1;exact seqcase kd k xs i inf e1 (by rw [h3,h1.1];rfl) h1.2.2 (by simpa using hk) hi (Ar.1 hz) hc
   ·cases h
  ·cases h
 ·split at h
  ·rename_i inf hi;split at h
   ·rename_i hz;split at h
    ·rename_i m hm;injection h with h;subst h;obtain ⟨h1,h2⟩:=mK hm hl hn;have hlen':u.cells.toList.length=inf.size:=by rw [Tj hn];exact Ar.1 hz
     exact ⟨_,AB1 hi ho rfl hlen' h2 (Tn hn),Eff.write g hb ho h1 ht (by simp at gx hlen' ⊢;omega) ht1 trivial⟩
    ·cases h
   ·cases h
  ·cases h
theorem AMz {t:TypeId} {gv:List Bool} {x y:Option AV} {u v:Value} {r:R} (g:Good β H w) (hx:∀ A,x=some A→AN β A u) (hy:∀ A,y=some A→AN β A v)
  (h:mS P t x y H gv=some r) (hc:AO r.conds) (fr:Nat):∃ w',(Instr.storeAt t u v).run P w=.ok () w'∧Eff β fr r w undef w' β:=by
 unfold mS at h;split at h
 ·rename_i bk gu gg new;split at h
  ·rename_i blk hb;split at h;case h_2=>cases h
   rename_i hro;have hu:=Az (hx _ rfl)
   obtain ⟨B',n',e4,e5⟩:=hu;injection e5 with e5 _;subst e5;rcases Qw (g.heap _ _ hb) (O8 hro) with ⟨B,n,l,t',e1,e2,e3,e6,e7,e8⟩ | ⟨e1,_⟩
   case inr=>rw [e1] at e4;cases e4
   rw [e1] at e4;injection e4 with e4;injection e4 with e4 e4';subst e4;subst e4';obtain ⟨w',hv,he⟩:=AMy g e1 e2 e3 e6 e7 e8 (Tm (hy _ rfl)) h hc fr
   refine ⟨w',?_,he⟩
   simp [Instr.storeAt,Instr.sureAddr,hv]
  ·cases h
 ·cases h
end ops
end Go.Proofs.YtgnajdcdcblaoaaGreat.Ex
namespace Go.Proofs.YtgnajdcdcblaoaaGreat.Ex
def Bv:Option AV→Option (Bool×IntKind×Int)
 | some (.val false [.n k i])=>some (true,k,i)
 | some (.val false [.v (.int k i)])=>some (false,k,i)
 | _=>none
theorem DJ {β:Env} {x:Option AV} {u:Value} {c:Bool} {k:IntKind} {i:Int} (hx:∀ A,x=some A→AN β A u) (h:Bv x=some (c,k,i)) :
  u=.int k i∧has k i:=by
 unfold Bv at h;split at h
 ·injection h with h;injection h with h1 h;injection h with h2 h3;subst h1 h2 h3;have:=Az (hx _ rfl)
  simp only [BM,qh,and_true] at this;exact this
 ·injection h with h;injection h with h1 h;injection h with h2 h3;subst h1 h2 h3;have:=Az (hx _ rfl)
  simp only [BM,qh,and_true] at this;exact ⟨this.1,this.2.2⟩
 ·cases h
def O9 (c:Bool) (k:IntKind) (i:Int):AV:=match c with | true=>.val false [.n k i] | false=>.val false [.v (.int k i)]
theorem O_ {β:Env} {k:IntKind} {i:Int} (c:Bool) (h:has k i):AN β (O9 c k i) (.int k i):=by
 cases c
 ·exact Aw ⟨rfl,rfl,h⟩
 ·exact Aw ⟨rfl,h⟩
def F0:Option AV→Option (Bool×Bool)
 | some (.val false [.b x])=>some (true,x)
 | some (.val false [.v (.bool x)])=>some (false,x)
 | _=>none
theorem Kz {β:Env} {x:Option AV} {u:Value} {c y:Bool} (hx:∀ A,x=some A→AN β A u) (h:F0 x=some (c,y)):u=.bool y:=by
 unfold F0 at h;split at h
 ·injection h with h;injection h with h1 h;subst h1 h;have:=Az (hx _ rfl)
  simpa [BM] using this
 ·injection h with h;injection h with h1 h;subst h1 h;have:=Az (hx _ rfl)
  simp only [BM,qh,and_true] at this;exact this.1
 ·cases h
def MJ (c:Bool) (x:Bool):AV:=match c with | true=>.val false [.b x] | false=>.val false [.v (.bool x)]
theorem NT {β:Env} (c x:Bool):AN β (MJ c x) (.bool x):=by
 cases c
 ·exact Aw ⟨rfl,rfl,trivial⟩
 ·exact Aw rfl
def AX (c:Bool) (k:IntKind) (i:Int):Int:=match c with
 | true=>match AL k i with | true=>i | false=>k.wrap i
 | false=>k.wrap i
theorem AM0 {k:IntKind} {i:Int} (h:AL k i=true):k.wrap i=i:=by
 cases k<;>simp only [IntKind.wrap,IntKind.signed,IntKind.bits,AL,jm,ji] at h ⊢<;>simp<;>(try split)<;>omega
theorem DT (c:Bool) (k:IntKind) (i:Int):AX c k i=k.wrap i:=by
 unfold AX;split
 ·split
  ·rename_i h;exact (AM0 h).symm
  ·rfl
 ·rfl
def Q0 (c x:Bool):Option (dp):=match c with
 | true=>match x with | true=>some [] | false=>none
 | false=>some [(x,true)]
theorem We {c x:Bool} {l:dp} (h:Q0 c x=some l) (hl:AO l):x=true:=by
 unfold Q0 at h;split at h
 ·split at h
  ·rfl
  ·cases h
 ·injection h with h;subst h;exact hl.1
def mT (op:BinOp) (c:Bool) (k:IntKind) (i j:Int):Option (Int×dp) :=
 match op with
 | .add=>some (AX c k (i+j),[])
 | .sub=>some (AX c k (i-j),[])
 | .mul=>some (AX c k (i*j),[])
 | .and=>some (bits .and k i j,[])
 | .or=>some (bits .or k i j,[])
 | .xor=>some (bits .xor k i j,[])
 | .quo=>match Q0 c (decide (j≠0)) with | some l=>some (AX c k (i.tdiv j),l) | none=>none
 | .rem=>match Q0 c (decide (0≤i∧0<j)) with | some l=>some (i.tmod j,l) | none=>none
 | _=>none
def mU (op:BinOp) (i j:Int):Option Bool :=
 match op with
 | .eql=>some (decide (i=j))
 | .neq=>some (!decide (i=j))
 | .lss=>some (decide (i<j))
 | .leq=>some (decide (i≤j))
 | .gtr=>some (decide (j<i))
 | .geq=>some (decide (j≤i))
 | _=>none
def mV (op:BinOp) (c:Bool) (k:IntKind) (i j:Int):Option (Int×dp) :=
 match op with
 | .shl=>match Q0 c (decide (0≤j)) with | some l=>some (AX c k (i*2^(min j.toNat k.bits)),l) | none=>none
 | .shr=>match Q0 c (decide (0≤j∧0≤i)) with | some l=>some (i.fdiv (2^(min j.toNat k.bits)),l) | none=>none
 | _=>none
section
variable {P:Program} {w:World}
theorem AM1 {op:BinOp} {c:Bool} {k:IntKind} {i j z:Int} {l:dp} (h:mT op c k i j=some (z,l)) (hl:AO l) (hi:has k i) (t:TypeId) (x y:Operand) :
  (do eqGuard op t x y (.int k i) (.int k j);binOp op t (.int k i) (.int k j):Sem Value).run P w=.ok (.int k z) w∧has k z:=by
 rw [Sem.run_bind,eqGuard_at_int];simp only [Sem.run_pure,Result.andThen_ok];unfold mT at h;split at h
 all_goals first | cases h;done | skip
 ·injection h with h;injection h with h1 h2;subst h1 h2;rw [DT];exact ⟨by simp [binOp,Op.intArith],Ky _ _⟩
 ·injection h with h;injection h with h1 h2;subst h1 h2;rw [DT];exact ⟨by simp [binOp,Op.intArith],Ky _ _⟩
 ·injection h with h;injection h with h1 h2;subst h1 h2;rw [DT];exact ⟨by simp [binOp,Op.intArith],Ky _ _⟩
 ·injection h with h;injection h with h1 h2;subst h1 h2;exact ⟨by rw [binOp_and,intBits_and];rfl,Ky _ _⟩
 ·injection h with h;injection h with h1 h2;subst h1 h2;exact ⟨by rw [binOp_or,intBits_or];rfl,Ky _ _⟩
 ·injection h with h;injection h with h1 h2;subst h1 h2;exact ⟨by rw [binOp_xor,intBits_xor];rfl,Ky _ _⟩
 ·split at h
  ·rename_i l' hc;injection h with h;injection h with h1 h2;subst h1 h2;rw [DT];have:=We hc hl
   simp only [ne_eq,decide_not,Bool.not_eq_true',decide_eq_false_iff_not] at this;exact ⟨by simp [binOp,Op.intDiv,this],Ky _ _⟩
  ·cases h
 ·split at h
  ·rename_i l' hc;injection h with h;injection h with h1 h2;subst h1 h2;have:=We hc hl
   simp only [ji] at this;have hj:j≠0:=dk
   refine ⟨by simp [binOp,Op.intDiv,hj],?_⟩
   rw [oe this.1];have h1:=Int.emod_nonneg i hj;have h2:i % j≤i:=by
    rcases Int.lt_or_le i j with ik | ir
    ·rw [Int.emod_eq_of_lt this.1 ik];exact Int.le_refl _
    ·have:=Int.emod_lt_of_pos i this.2;omega
   unfold has at hi ⊢
   have hmin:k.min≤0:=by cases k<;>simp [IntKind.min,IntKind.signed,IntKind.bits]
   omega
  ·cases h
theorem AM2 {op:BinOp} {k:IntKind} {i j:Int} {z:Bool} (h:mU op i j=some z) (t:TypeId) (x y:Operand) :
  (do eqGuard op t x y (.int k i) (.int k j);binOp op t (.int k i) (.int k j):Sem Value).run P w=.ok (.bool z) w:=by
 rw [Sem.run_bind,eqGuard_at_int];simp only [Sem.run_pure,Result.andThen_ok];unfold mU at h;split at h
 all_goals first | cases h;done | skip
 all_goals (injection h with h;subst h;simp [binOp,Op.intCmp])
 all_goals by_cases e:i=j<;>simp [e]
theorem AB2 {op:BinOp} {c:Bool} {k yk:IntKind} {i j z:Int} {l:dp} (h:mV op c k i j=some (z,l)) (hl:AO l) (hi:has k i) (t:TypeId) (x y:Operand) :
  (do eqGuard op t x y (.int k i) (.int yk j);binOp op t (.int k i) (.int yk j):Sem Value).run P w=.ok (.int k z) w∧has k z:=by
 rw [Sem.run_bind,eqGuard_at_int];simp only [Sem.run_pure,Result.andThen_ok];unfold mV at h;split at h
 all_goals first | cases h;done | skip
 ·split at h
  ·rename_i l' hc;injection h with h;injection h with h1 h2;subst h1 h2;rw [DT];have:=We hc hl
   simp only [ji] at this;exact ⟨by simp [binOp,Op.shift,show ¬ j<0 by omega],Ky _ _⟩
  ·cases h
 ·split at h
  ·rename_i l' hc;injection h with h;injection h with h1 h2;subst h1 h2;have:=We hc hl
   simp only [ji] at this;refine ⟨by simp [binOp,Op.shift,show ¬ j<0 by omega],?_⟩
   have hp:(0:Int)<2^(min j.toNat k.bits):=Int.pow_pos dl
   rw [qm _ (Int.le_of_lt hp)];have h1:0≤i / 2^(min j.toNat k.bits):=Int.ediv_nonneg this.2 (Int.le_of_lt hp)
   have h2:i / 2^(min j.toNat k.bits)≤i:=Int.ediv_le_self _ this.2
   unfold has at hi ⊢
   have hmin:k.min≤0:=by cases k<;>simp [IntKind.min,IntKind.signed,IntKind.bits]
   omega
  ·cases h
end
def Q1:List Ch→Option Nat
 | []=>some 0
 | .n .u64 i::r=>match Q1 r with | some m=>some (i.toNat+18446744073709551616*m) | none=>none
 | .v (.int .u64 i)::r=>match Q1 r with | some m=>some (i.toNat+18446744073709551616*m) | none=>none
 | _=>none
theorem FW (x i:Nat):AF x (i+1)=AF (x / 2^64) i:=by
 unfold AF;rw [kw,← jr,show 64*(i+1)=64+64*i by omega]
theorem Zm (k x:Nat):words (k+1) x=.int .u64 (AF x 0)::words k (x / 2^64):=by
 unfold words;rw [ry,lf,ny];refine jl (_ :: ·) (nb fun i _=>?_)
 show Value.int .u64 (AF x (i+1))=_;rw [FW]
theorem AB3 {β:Env}:∀ {cs:List Ch} {l:List Value} {x:Nat},Q1 cs=some x→AQ β cs l→l=words cs.length x∧x<2^(64*cs.length)
 | [],l,x,h,hl=>by
  simp only [Q1,jt] at h;simp only [AQ] at hl;subst h;subst hl;exact ⟨rfl,by simp⟩
 | c::cs,l,x,h,hl=>by
  obtain ⟨l1,l2,h1,h2,h3⟩:=hl;have step:∀ (i:Int) (m:Nat),l1=[.int .u64 i]→has .u64 i→Q1 cs=some m→x=i.toNat+18446744073709551616*m→l=words (c::cs).length x∧x<2^(64*(c::cs).length):=by
   intro i m e1 e2 e3 e4;obtain ⟨j1,j2⟩:=AB3 e3 h2;have hi:=(Fy _ _).1 e2
   simp only [AL,jm,ji] at hi;have ex:x % 2^64=i.toNat:=by rw [e4];omega
   have ed:x / 2^64=m:=by rw [e4];omega
   constructor
   ·rw [h3,e1,kp,Zm,ed,← j1];simp only [List.singleton_append,qh,and_true,Value.int.injEq,true_and];simp only [AF,ll,kf,ko,ex];omega
   ·rw [kp,nj,jr];have:x / 2^64<2^(64*cs.length):=by rw [ed];exact j2
    exact (tk dl).1 this
  unfold Q1 at h;split at h
  ·rename_i he;cases he
  ·rename_i i r he;injection he with he1 he2;subst he1 he2;split at h
   ·rename_i m hm;injection h with h;exact step i m h1.1 h1.2 hm h.symm
   ·cases h
  ·rename_i i r he;injection he with he1 he2;subst he1 he2;split at h
   ·rename_i m hm;injection h with h;exact step i m h1.1 h1.2.2 hm h.symm
   ·cases h
  ·cases h
def DL (k:Nat):List Ch→Option Nat
 | [.num k' x]=>match Nat.beq k k' with | true=>some x | false=>none
 | cs=>match Nat.beq cs.length k with | true=>Q1 cs | false=>none
theorem Hm {β:Env} {k x:Nat} {cs:List Ch} {l:List Value} (h:DL k cs=some x) (hl:AQ β cs l):l=words k x∧x<2^(64*k):=by
 unfold DL at h;split at h
 ·split at h
  ·rename_i hk;injection h with h;subst h;have:=Ar.1 hk;subst this
   obtain ⟨l1,l2,h1,h2,h3⟩:=hl;simp only [AQ] at h2;subst h2;rw [h3,ku];exact ⟨h1.2,h1.1⟩
  ·cases h
 ·split at h
  ·rename_i hk;have:=Ar.1 hk;subst this
   exact AB3 h hl
  ·cases h
theorem AM3 {k x y:Nat} (hx:x<2^(64*k)) (hy:y<2^(64*k)) (h:words k x=words k y):x=y:=by
 induction k generalizing x y with
 | zero=>simp at hx hy;omega
 | succ k ih =>
  rw [Zm,Zm] at h;injection h with h1 h2;injection h1 with _ h1;have hx':x / 2^64<2^(64*k):=by
   rw [tk dl,← jr];exact hx
  have hy':y / 2^64<2^(64*k):=by
   rw [tk dl,← jr];exact hy
  have e:=ih hx' hy' h2;simp only [AF,ll,kf,ko] at h1;omega
def C':List Value→List Value→Bool
 | [],[]=>true
 | .int _ a::r,.int _ b::s=>decide (a=b)&&C' r s
 | .bool a::r,.bool b::s=>(a==b)&&C' r s
 | _,_=>false
theorem mX:∀ {a a' b b':List Value},a.length=a'.length→C' (a++b) (a'++b')=(C' a a'&&C' b b')
 | [],[],_,_,_=>by simp [C']
 | [],_::_,_,_,h=>by simp at h
 | _::_,[],_,_,h=>by simp at h
 | x::a,y::a',b,b',h=>by
  have ih:=mX (a:=a) (a':=a') (b:=b) (b':=b') (by simpa using h)
  cases x<;>cases y<;>simp [C',ih,Bool.and_assoc]
theorem mY {k x y:Nat} (hx:x<2^(64*k)) (hy:y<2^(64*k)):C' (words k x) (words k y)=decide (x=y):=by
 have gen:∀ (is:List Nat),C' (is.map fun i=>Value.int .u64 (AF x i)) (is.map fun i=>Value.int .u64 (AF y i))=true↔(is.map fun i=>Value.int .u64 (AF x i))=(is.map fun i=>Value.int .u64 (AF y i)):=by
  intro is;induction is with
  | nil=>simp [C']
  | cons i is ih =>
   rw [lf,lf,C',jm,ji,ih,qh,Value.int.injEq];simp
 have e:C' (words k x) (words k y)=true↔words k x=words k y:=gen _
 rw [Bool.eq_iff_iff,e,ji];exact ⟨AM3 hx hy,fun h=>by rw [h]⟩
def MK (x:Bool) (gy:Option Bool) (last:Bool):Option Bool:=match last with
 | true=>some x
 | false=>match gy with | some y=>some (x&&y) | none=>none
def HF {α:Type}:List α→Bool | []=>true | _=>false
def K3:Nat→List Ch→List Ch→Option Bool
 | 0,_,_=>none
 | f+1,a,b=>match a,b with
  | [],[]=>some true
  | .num k x::r,.num k' y::s=>match Nat.beq k k' with
   | true=>MK (decide (x=y)) (K3 f r s) (HF r&&HF s)
   | false=>none
  | .num k x::r,s=>match GG s k with
   | some (m,s')=>match DL k m with
    | some y=>MK (decide (x=y)) (K3 f r s') (HF r&&HF s')
    | none=>none
   | none=>none
  | r,.num k y::s=>match GG r k with
   | some (m,r')=>match DL k m with
    | some x=>MK (decide (x=y)) (K3 f r' s) (HF r'&&HF s)
    | none=>none
   | none=>none
  | c::r,d::s=>match Bv (some (.val false [c])),Bv (some (.val false [d])) with
   | some (_,_,i),some (_,_,j)=>MK (decide (i=j)) (K3 f r s) (HF r&&HF s)
   | _,_=>match F0 (some (.val false [c])),F0 (some (.val false [d])) with
    | some (_,x),some (_,y)=>MK (x==y) (K3 f r s) (HF r&&HF s)
    | _,_=>none
  | _,_=>none
theorem AM4 {x e:Bool} {gy:Option Bool} {last y:Bool} (h:MK x gy last=some e) (hr:∀ z,gy=some z→y=z) (hl:last=true→y=true):e=(x&&y):=by
 cases last with
 | true=>simp only [MK,jt] at h;rw [hl rfl,← h];simp
 | false =>
  cases gy with
  | none=>simp [MK] at h
  | some z=>simp only [MK,jt] at h;rw [hr z rfl,← h]
theorem Zn {α:Type} {l:List α} (h:HF l=true):l=[]:=by cases l<;>simp_all [HF]
theorem AB4 {β:Env}:∀ {f:Nat} {a b:List Ch} {l m:List Value} {e:Bool},K3 f a b=some e→AQ β a l→AQ β b m→C' l m=e
 | 0,_,_,_,_,_,h,_,_=>by simp [K3] at h
 | f+1,a,b,l,m,e,h,ha,hb=>by
  have fin:∀ {r s:List Ch} {lr ms:List Value} {x:Bool} {l1 m1:List Value},AQ β r lr→AQ β s ms→l=l1++lr→m=m1++ms→l1.length=m1.length→C' l1 m1=x →
    MK x (K3 f r s) (HF r&&HF s)=some e→C' l m=e:=by
   intro r s lr ms x l1 m1 hr hs el em gx hx hand;rw [el,em,mX gx,hx];refine (AM4 hand (fun z hz=>AB4 hz hr hs) (fun hn=>?_)).symm
   simp only [jm] at hn;have h1:=Zn hn.1;have h2:=Zn hn.2;subst h1;subst h2;simp only [AQ] at hr hs;subst hr;subst hs;rfl
  unfold K3 at h;split at h
  ·injection h with h;subst h;simp only [AQ] at ha hb;subst ha;subst hb;rfl
  ·rename_i k x r k' y s;split at h
   ·rename_i hk;have:=Ar.1 hk;subst this
    obtain ⟨l1,l2,h1,h2,h3⟩:=ha;obtain ⟨m1,m2,g1,g2,g3⟩:=hb;simp only [BM] at h1 g1;exact fin h2 g2 h3 g3 (by rw [h1.2,g1.2,MF,MF]) (by rw [h1.2,g1.2];exact mY h1.1 g1.1) h
   ·cases h
  ·rename_i k x r _;split at h
   ·rename_i mm s' hs;split at h
    ·rename_i y hy;obtain ⟨l1,l2,h1,h2,h3⟩:=ha;simp only [BM] at h1;obtain ⟨j1,j2,j3⟩:=I2 hs hb;obtain ⟨q1,q2⟩:=Hm hy j1;exact fin h2 j2 h3 (my k m).symm (by rw [h1.2,q1,MF,MF]) (by rw [h1.2,q1];exact mY h1.1 q2) h
    ·cases h
   ·cases h
  ·rename_i k y s _;split at h
   ·rename_i mm r' hs;split at h
    ·rename_i x hx;obtain ⟨m1,m2,g1,g2,g3⟩:=hb;simp only [BM] at g1;obtain ⟨j1,j2,j3⟩:=I2 hs ha;obtain ⟨q1,q2⟩:=Hm hx j1;exact fin j2 g2 (my k l).symm g3 (by rw [g1.2,q1,MF,MF]) (by rw [g1.2,q1];exact mY q2 g1.1) h
    ·cases h
   ·cases h
  ·rename_i c r d s _ _ _;obtain ⟨l1,l2,h1,h2,h3⟩:=ha;obtain ⟨m1,m2,g1,g2,g3⟩:=hb;have one:∀ {c:Ch} {l1:List Value},BM β c l1→FF c=1→∃ u,l1=[u]:=by
    intro c l1 hc hz;have:=Qy hc
    rw [hz] at this;exact sm.1 this
   split at h
   ·rename_i c1 k1 i c2 k2 j hi hj;have z1:FF c=1:=by cases c<;>simp [Bv] at hi<;>rfl
    have z2:FF d=1:=by cases d<;>simp [Bv] at hj<;>rfl
    obtain ⟨u,rfl⟩:=one h1 z1;obtain ⟨v,rfl⟩:=one g1 z2;obtain ⟨rfl,_⟩:=DJ (β:=β) (u:=u) (fun A hA=>by injection hA with hA;subst hA;exact Aw h1) hi
    obtain ⟨rfl,_⟩:=DJ (β:=β) (u:=v) (fun A hA=>by injection hA with hA;subst hA;exact Aw g1) hj
    exact fin h2 g2 h3 g3 rfl (by simp [C']) h
   ·split at h
    ·rename_i c1 x c2 y hi hj;have z1:FF c=1:=by cases c<;>simp [F0] at hi<;>rfl
     have z2:FF d=1:=by cases d<;>simp [F0] at hj<;>rfl
     obtain ⟨u,rfl⟩:=one h1 z1;obtain ⟨v,rfl⟩:=one g1 z2;have e1:=Kz (β:=β) (u:=u) (fun A hA=>by injection hA with hA;subst hA;exact Aw h1) hi
     have e2:=Kz (β:=β) (u:=v) (fun A hA=>by injection hA with hA;subst hA;exact Aw g1) hj
     subst e1;subst e2;exact fin h2 g2 h3 g3 rfl (by simp [C']) h
    ·cases h
  ·cases h
def Wf (P:Program) (g:TypeId→Option (List (Option IntKind))):List Field→Nat→Option (List (Option IntKind))
 | [],_=>some []
 | f::fs,gu=>match decide (f.name≠"_"),Nat.beq f.offset gu,g f.type with
  | true,true,some ks=>match Nat.beq (P.cellsOf f.type) ks.length,Wf P g fs (gu+ks.length) with
   | true,some r=>some (ks++r)
   | _,_=>none
  | _,_,_=>none
def GK (P:Program):Nat→TypeId→Option (List (Option IntKind))
 | 0,_=>none
 | d+1,t=>match P.underlying t with
  | some .bool=>some [none]
  | some (.int k)=>some [some k]
  | some (.array n e)=>match GK P d e with
   | some ks=>match Nat.beq (P.cellsOf e) ks.length with
    | true=>some (List.replicate n ks).flatten
    | false=>none
   | none=>none
  | some (.struct fs)=>match P.stoodInHeld t with
   | false=>Wf P (GK P d) fs.toList 0
   | true=>none
  | _=>none
def CV:List (Option IntKind)→List Value→Prop
 | [],[]=>True
 | none::ks,.bool _::r=>CV ks r
 | some k::ks,.int k' _::r=>k'=k∧CV ks r
 | _,_=>False
theorem ML:∀ {ks:List (Option IntKind)} {l:List Value},CV ks l→l.length=ks.length
 | [],[],_=>rfl
 | [],_::_,h=>by simp [CV] at h
 | none::ks,[],h=>by simp [CV] at h
 | some _::ks,[],h=>by simp [CV] at h
 | none::ks,x::r,h=>by cases x<;>simp [CV] at h;simp [ML h]
 | some k::ks,x::r,h=>by cases x<;>simp [CV] at h;simp [ML h.2]
theorem Tp:∀ {ks js:List (Option IntKind)} {l:List Value},CV (ks++js) l→CV ks (l.take ks.length)∧CV js (l.drop ks.length)
 | [],js,l,h=>by simpa [CV] using h
 | none::ks,js,[],h=>by simp [CV] at h
 | some _::ks,js,[],h=>by simp [CV] at h
 | none::ks,js,x::r,h=>by
  cases x<;>simp [CV] at h
  have:=Tp h
  simpa [CV] using this
 | some k::ks,js,x::r,h=>by
  cases x<;>simp [CV] at h
  have:=Tp h.2
  simpa [CV,h.1] using this
def Hn (P:Program) (t:TypeId) (xs:List Value) (X:Value):Prop :=
 match P.underlying t with
 | some d=>match wide d with
  | true=>X=.agg ⟨xs⟩
  | false=>xs=[X]
 | none=>False
section
variable {P:Program}
theorem AB5 {t:TypeId} {d:TypeDesc} {i:TypeInfo} (hd:P.underlying t=some d) (hi:P.info? t=some i) {l:List Value} {gu:Nat} (hfit:gu+i.size≤l.length) (h1:wide d=false→i.size=1) (w:World) :
  ∃ v,(part t ⟨l⟩ gu).run P w=.ok v w∧Hn P t ((l.drop gu).take i.size) v:=by
 have hag:=WY hd w;cases hw:wide d with
 | true =>
  refine ⟨.agg ⟨(l.drop gu).take i.size⟩,?_,by simp [Hn,hd,hw]⟩
  simp [part,hag,hw,sizeOf,typeInfo,hi]
 | false =>
  have hs:=h1 hw;have ik:gu<l.length:=dk
  refine ⟨l[gu],?_,?_⟩
  ·simp [part,hag,hw,ik]
  ·simp only [Hn,hd,hw,hs];exact mQ ik
def Zo (P:Program) (D:Nat) (t:TypeId) (ks:List (Option IntKind)):Prop :=
 ∀ (xs ys:List Value) (X Y:Value) (w:World),CV ks xs→CV ks ys→Hn P t xs X→Hn P t ys Y→(Op.equalIn D t X Y).run P w=.ok (C' xs ys) w
theorem AB6 {d:Nat} {t:TypeId} {ks:List (Option IntKind)} {ds:TypeDesc} (h:GK P d t=some ks) (hd:P.underlying t=some ds) (hw:wide ds=false):ks.length=1:=by
 cases d with
 | zero=>simp [GK] at h
 | succ d =>
  simp only [GK,hd] at h;cases ds<;>simp [wide] at hw h
  all_goals (subst h;rfl)
theorem AB7 {d:Nat} {t:TypeId} {ks:List (Option IntKind)} (h:GK P d t=some ks):∃ ds i,P.underlying t=some ds∧P.info? t=some i:=by
 cases d with
 | zero=>simp [GK] at h
 | succ d =>
  cases hd:P.underlying t with
  | none=>simp [GK,hd] at h
  | some ds=>obtain ⟨i,hi⟩:=info_of_underlying hd;exact ⟨ds,i,rfl,hi⟩
theorem AB8 {D d:Nat} {e:TypeId} {ks js:List (Option IntKind)} (ih:Zo P D e ks) (hks:GK P d e=some ks) (hc:P.cellsOf e=ks.length) {xs ys:List Value} {gu:Nat} (w:World)
  (hx:CV (ks++js) (xs.drop gu)) (hy:CV (ks++js) (ys.drop gu)) :
  ∃ a b,(part e ⟨xs⟩ gu).run P w=.ok a w∧(part e ⟨ys⟩ gu).run P w=.ok b w∧(Op.equalIn D e a b).run P w=.ok (C' ((xs.drop gu).take ks.length) ((ys.drop gu).take ks.length)) w ∧
   C' (xs.drop gu) (ys.drop gu)=(C' ((xs.drop gu).take ks.length) ((ys.drop gu).take ks.length)&&C' (xs.drop (gu+ks.length)) (ys.drop (gu+ks.length))) ∧
   CV js (xs.drop (gu+ks.length))∧CV js (ys.drop (gu+ks.length)):=by
 obtain ⟨ds,i,hd,hi⟩:=AB7 hks;have hsz:i.size=ks.length:=by simpa [Program.cellsOf,hi] using hc
 have lx:=ML hx;have ly:=ML hy;simp at lx ly
 have w1:wide ds=false→i.size=1:=fun hw=>by rw [hsz];exact AB6 hks hd hw
 by_cases hz:ks.length=0
 ·have hwd:wide ds=true:=by
   cases hw:wide ds with
   | true=>rfl
   | false=>have:=AB6 hks hd hw;omega
  have hag:=WY hd w;obtain ⟨fx1,fx2⟩:=Tp hx;obtain ⟨fy1,fy2⟩:=Tp hy;have pa:∀ l:List Value,(part e ⟨l⟩ gu).run P w=.ok (.agg ⟨(l.drop gu).take ks.length⟩) w:=by
   intro l;simp [part,hag,hwd,sizeOf,typeInfo,hi,hsz]
  refine ⟨_,_,pa xs,pa ys,ih _ _ _ _ w fx1 fy1 (by simp [Hn,hd,hwd]) (by simp [Hn,hd,hwd]),?_,?_,?_⟩
  ·simp [hz,C']
  ·rw [ni] at fx2;exact fx2
  ·rw [ni] at fy2;exact fy2
 ·obtain ⟨a,ha,sa⟩:=AB5 hd hi (l:=xs) (gu:=gu) dk w1 w
  obtain ⟨b,hb,sb⟩:=AB5 hd hi (l:=ys) (gu:=gu) dk w1 w
  rw [hsz] at sa sb;obtain ⟨fx1,fx2⟩:=Tp hx;obtain ⟨fy1,fy2⟩:=Tp hy;refine ⟨a,b,ha,hb,ih _ _ _ _ w fx1 fy1 sa sb,?_,?_,?_⟩
  ·rw [← ni,← ni,← mX (by rw [ML fx1,ML fy1]),my,my]
  ·rw [ni] at fx2;exact fx2
  ·rw [ni] at fy2;exact fy2
theorem AB9 {D d:Nat} {e:TypeId} {ks:List (Option IntKind)} (ih:Zo P D e ks) (hks:GK P d e=some ks) (hc:P.cellsOf e=ks.length) {xs ys:List Value} (w:World) :
  ∀ (m i:Nat),CV (List.replicate m ks).flatten (xs.drop (i*ks.length))→CV (List.replicate m ks).flatten (ys.drop (i*ks.length)) →
   (Op.eqItems D e (P.cellsOf e) ⟨xs⟩ ⟨ys⟩ (List.range' i m)).run P w=.ok (C' (xs.drop (i*ks.length)) (ys.drop (i*ks.length))) w
 | 0,i,hx,hy=>by
  have lx:=ML hx;have ly:=ML hy;simp at lx ly
  rw [qr dk,qr dk];simp [Op.eqItems,C']
 | m+1,i,hx,hy=>by
  rw [ru,List.flatten_cons] at hx hy;obtain ⟨a,b,ha,hb,hab,heq,fx,fy⟩:=AB8 ih hks hc w hx hy;have e1:i*ks.length+ks.length=(i+1)*ks.length:=by rw [qs]
  rw [e1] at heq fx fy;have hrest:=AB9 ih hks hc w m (i+1) fx fy
  rw [sk];simp only [Op.eqItems,Sem.run_bind,hc,ha,hb,hab,Result.andThen_ok];rw [hc] at hrest;rw [heq];cases he:C' ((xs.drop (i*ks.length)).take ks.length) ((ys.drop (i*ks.length)).take ks.length)
  ·simp
  ·simpa using hrest
theorem AB_ {D d:Nat} (ih:∀ (t:TypeId) (ks:List (Option IntKind)),GK P d t=some ks→Zo P D t ks) {xs ys:List Value} (w:World) :
  ∀ (fs:List Field) (gu:Nat) (ks:List (Option IntKind)),Wf P (GK P d) fs gu=some ks→CV ks (xs.drop gu)→CV ks (ys.drop gu) →
   (Op.eqFields D ⟨xs⟩ ⟨ys⟩ fs).run P w=.ok (C' (xs.drop gu) (ys.drop gu)) w
 | [],gu,ks,h,hx,hy=>by
  simp only [Wf,jt] at h;subst h;have lx:=ML hx;have ly:=ML hy;simp at lx ly
  rw [qr dk,qr dk];simp [Op.eqFields,C']
 | f::fs,gu,ks,h,hx,hy=>by
  simp only [Wf] at h;split at h
  ·rename_i ks1 hn ho hg;split at h
   ·rename_i r hc hr;injection h with h;subst h;have ho':=Ar.1 ho;have hn':f.name≠"_":=by simpa using hn
    obtain ⟨a,b,ha,hb,hab,heq,fx,fy⟩:=AB8 (ih _ _ hg) hg (Ar.1 hc) w hx hy
    have hrest:=AB_ ih w fs _ _ hr fx fy;rw [← ho'] at ha hb;simp only [Op.eqFields,hn',ne_eq,not_false_eq_true,if_true,Sem.run_bind,ha,hb,hab,Result.andThen_ok];rw [heq];cases he:C' ((xs.drop gu).take ks1.length) ((ys.drop gu).take ks1.length)
    ·simp
    ·simpa using hrest
   ·cases h
  ·cases h
theorem AB' (d:Nat):∀ (t:TypeId) (ks:List (Option IntKind)) (D:Nat),GK P d t=some ks→d≤D→Zo P D t ks:=by
 induction d with
 | zero=>intro t ks D h;simp [GK] at h
 | succ d IH =>
  intro t ks D h hD;obtain ⟨D,rfl⟩:∃ D',D=D'+1:=⟨D-1,dk⟩
  intro xs ys X Y w hx hy sx sy;simp only [GK] at h;split at h
  ·rename_i hu;injection h with h;subst h;simp only [Hn,hu,wide] at sx sy;subst sx;subst sy;cases X<;>simp [CV] at hx
   cases Y<;>simp [CV] at hy
   rw [run_equalIn_bool w D t _ _ hu];simp [C']
  ·rename_i k hu;injection h with h;subst h;simp only [Hn,hu,wide] at sx sy;subst sx;subst sy;cases X<;>simp [CV] at hx
   cases Y<;>simp [CV] at hy
   rw [hx,hy,run_equalIn_int w D t k k _ _ hu];simp only [C',Bool.and_true];congr 1
  ·rename_i n e hu;split at h
   ·rename_i ks1 hk;split at h
    ·rename_i hc;injection h with h;subst h;simp only [Hn,hu,wide] at sx sy;subst sx;subst sy;obtain ⟨_,i,_,hi⟩:=AB7 hk;rw [run_equalIn_array w D ⟨xs⟩ ⟨ys⟩ hu hi,tq];have:=AB9 (IH e ks1 D hk dk) hk (Ar.1 hc) (xs:=xs) (ys:=ys) w n 0 (by simpa using hx) (by simpa using hy)
     simpa using this
    ·cases h
   ·cases h
  ·rename_i fs hu;split at h
   ·rename_i hp;simp only [Hn,hu,wide] at sx sy;subst sx;subst sy;have hf:P.fieldsOf t=fs:=by simp [Program.fieldsOf,hu]
    rw [run_equalIn_struct w D t ⟨xs⟩ ⟨ys⟩ (by rw [hf];exact hu) hp,hf]
    have:=AB_ (fun t ks hk=>IH t ks D hk dk) (xs:=xs) (ys:=ys) w fs.toList 0 ks h (by simpa using hx) (by simpa using hy)
    simpa using this
   ·cases h
  ·cases h
end
def Wg (k:Nat):List (Option IntKind)→Option (List (Option IntKind)):=match k with
 | 0=>fun ks=>some ks
 | k+1=>fun ks=>match ks with
  | some .u64::r=>Wg k r
  | _=>none
def MM:Nat→List (Option IntKind)→List Ch→Bool
 | 0,_,_=>false
 | f+1,ks,cs=>match ks,cs with
  | [],[]=>true
  | ks,.num k _::r=>match Wg k ks with | some ks'=>MM f ks' r | none=>false
  | some k::ks,c::r=>match Bv (some (.val false [c])) with
   | some (_,k',_)=>match decide (k'=k) with | true=>MM f ks r | false=>false
   | none=>false
  | none::ks,c::r=>match F0 (some (.val false [c])) with
   | some _=>MM f ks r
   | none=>false
  | _,_=>false
theorem ACA:∀ {k:Nat} {ks ks':List (Option IntKind)} {x:Nat} {l:List Value},Wg k ks=some ks'→CV ks' l→CV ks (words k x++l)
 | 0,ks,ks',x,l,h,hl=>by simp [Wg] at h;subst h;simpa [words] using hl
 | k+1,ks,ks',x,l,h,hl=>by
  simp only [Wg] at h;split at h
  ·rw [Zm];exact ⟨rfl,ACA h hl⟩
  ·cases h
theorem Wh {β:Env}:∀ {f:Nat} {ks:List (Option IntKind)} {cs:List Ch} {l:List Value},MM f ks cs=true→AQ β cs l→CV ks l
 | 0,_,_,_,h,_=>by simp [MM] at h
 | f+1,ks,cs,l,h,hl=>by
  unfold MM at h;split at h
  ·simp only [AQ] at hl;subst hl;trivial
  ·obtain ⟨l1,l2,h1,h2,rfl⟩:=hl;simp only [BM] at h1;split at h
   ·rename_i ks' hk;rw [h1.2];exact ACA hk (Wh h h2)
   ·cases h
  ·rename_i k ks c r _;obtain ⟨l1,l2,h1,h2,rfl⟩:=hl;split at h
   ·rename_i b k' i hi;split at h
    ·rename_i hk;have z1:FF c=1:=by cases c<;>simp [Bv] at hi<;>rfl
     obtain ⟨u,rfl⟩:∃ u,l1=[u]:=sm.1 (by rw [Qy h1,z1])
     obtain ⟨rfl,_⟩:=DJ (β:=β) (u:=u) (fun A hA=>by injection hA with hA;subst hA;exact Aw h1) hi
     exact ⟨by simpa using hk,Wh h h2⟩
    ·cases h
   ·cases h
  ·rename_i ks c r _;obtain ⟨l1,l2,h1,h2,rfl⟩:=hl;split at h
   ·rename_i p hi;obtain ⟨b,y⟩:=p;have z1:FF c=1:=by cases c<;>simp [F0] at hi<;>rfl
    obtain ⟨u,rfl⟩:∃ u,l1=[u]:=sm.1 (by rw [Qy h1,z1])
    have:=Kz (β:=β) (u:=u) (fun A hA=>by injection hA with hA;subst hA;exact Aw h1) hi
    subst this;show CV ks l2;exact Wh h h2
   ·cases h
  ·cases h
section
variable {P:Program} {β:Env} {H:Heap} {w:World}
def mZ (P:Program) (s:TypeId) (x:Option AV) (f:Nat) (gv:List Bool):Option R :=
 match x,P.underlying s with
 | some (.val false [.p bk gu]),some (.struct fs)=>match fs[f]? with
  | some fd=>match P.info? fd.type with
   | some i=>match Nat.beq i.size 0 with
    | false=>some (CP (.val false [.p bk (gu+fd.offset)]) gv)
    | true=>none
   | none=>none
  | none=>none
 | _,_=>none
theorem AM5 {s f:Nat} {x:Option AV} {u:Value} {gv:List Bool} {r:R} (g:Good β H w) (hx:∀ A,x=some A→AN β A u) (h:mZ P s x f gv=some r) (fr:Nat) :
  ∃ v,(Instr.fieldAt s u f).run P w=.ok v w∧Eff β fr r w v w β:=by
 unfold mZ at h;split at h
 ·rename_i bk gu fs hs;split at h
  ·rename_i fd hf;split at h
   ·rename_i i hi;split at h
    ·rename_i hz;injection h with h;subst h;obtain ⟨B,n,e1,e2⟩:=Az (hx _ rfl)
     injection e2 with e2 _;subst e2;have hz':=I4 hz;refine ⟨_,?_,Eff.pure_ g (Aw ⟨B,n,e1,rfl⟩)⟩
     simp [Instr.fieldAt,run_underlying hs,hf,Instr.sureAddr,fieldPlace,sizeOf,typeInfo,hi,hz',Addr.add_lit,Nat.add_assoc]
    ·cases h
   ·cases h
  ·cases h
 ·cases h
def Zp (P:Program) (t:TypeId) (cs:List Ch) (gu:Nat) (gv:List Bool):Option R :=
 match P.underlying t,P.info? t with
 | some d,some i=>match wide d with
  | true=>match MG cs gu i.size with
   | some m=>some (CP (.val true m) gv)
   | none=>none
  | false=>match MG cs gu 1 with
   | some m=>some (CP (.val false m) gv)
   | none=>none
 | _,_=>none
theorem ACB {t gu:Nat} {cs:List Ch} {l:List Value} {gv:List Bool} {r:R} (g:Good β H w) (hl:AQ β cs l) (h:Zp P t cs gu gv=some r) (fr:Nat) :
  ∃ v,(part t ⟨l⟩ gu).run P w=.ok v w∧Eff β fr r w v w β:=by
 unfold Zp at h;split at h
 ·rename_i d i hd hi;have hag:=WY hd w;split at h
  ·rename_i hw;split at h
   ·rename_i m hm;injection h with h;subst h;obtain ⟨h1,h2⟩:=Tk hm hl;refine ⟨.agg ⟨(l.drop gu).take i.size⟩,?_,Eff.pure_ g ⟨_,h1,rfl⟩⟩
    simp [part,hag,hw,sizeOf,typeInfo,hi]
   ·cases h
  ·rename_i hw;split at h
   ·rename_i m hm;injection h with h;subst h;obtain ⟨h1,h2⟩:=Tk hm hl;have ik:gu<l.length:=dk
    rw [mQ ik] at h1;refine ⟨l[gu],?_,Eff.pure_ g h1⟩
    simp [part,hag,hw,ik]
   ·cases h
 ·cases h
def m6 (P:Program) (t:TypeId) (x:Option AV) (f:Nat) (gv:List Bool):Option R :=
 match x,P.underlying t with
 | some (.val true cs),some (.struct fs)=>match fs[f]? with
  | some fd=>Zp P fd.type cs fd.offset gv
  | none=>none
 | _,_=>none
theorem AM6 {t f:Nat} {x:Option AV} {u:Value} {gv:List Bool} {r:R} (g:Good β H w) (hx:∀ A,x=some A→AN β A u) (h:m6 P t x f gv=some r) (fr:Nat) :
  ∃ v,(Instr.field t u f).run P w=.ok v w∧Eff β fr r w v w β:=by
 unfold m6 at h;split at h
 ·rename_i cs fs hs;split at h
  ·rename_i fd hf;obtain ⟨l,hl,rfl⟩:=hx _ rfl;obtain ⟨v,hv,he⟩:=ACB g hl h fr;refine ⟨v,?_,he⟩
   simp [Instr.field,run_underlying hs,hf,asAgg,hv]
  ·cases h
 ·cases h
def GL (s:ByteArray) (i:Int):Int:=((s.data.toList.getD i.toNat 0).toNat:Int)
def m7 (P:Program) (t:TypeId) (x ix:Option AV) (gv:List Bool):Option R :=
 match x,P.underlying t,Bv ix with
 | some (.val true cs),some (.array n e),some (true,_,i)=>match decide (0≤i∧i<n),P.info? e with
  | true,some inf=>Zp P e cs (i.toNat*inf.size) gv
  | _,_=>none
 | some (.val false [.v (.string s)]),some .string,some (_,_,i)=>some ⟨.val false [.v (.int .u8 (GL s i))],[],0,[(decide (0≤i∧i<s.size),true)],gv⟩
 | _,_,_=>none
theorem AM7 {t:TypeId} {x ix:Option AV} {u v:Value} {gv:List Bool} {r:R} (g:Good β H w) (hx:∀ A,x=some A→AN β A u) (hi:∀ A,ix=some A→AN β A v) (h:m7 P t x ix gv=some r) (hc:AO r.conds) (fr:Nat) :
  ∃ z,(Instr.index t u v).run P w=.ok z w∧Eff β fr r w z w β:=by
 unfold m7 at h;split at h
 ·rename_i cs n e k i hu ha;split at h
  ·rename_i inf hd ig;obtain ⟨l,hl,rfl⟩:=hx _ rfl;obtain ⟨rfl,_⟩:=DJ hi ha;obtain ⟨z,hz,he⟩:=ACB g hl h fr;refine ⟨z,?_,he⟩
   have hd':0≤i∧i<n:=by simpa using hd
   simp [Instr.index,asIntOf,run_underlying hu,hd',sizeOf,typeInfo,ig,hz]
  ·cases h
 ·rename_i s k' c i hu ha;injection h with h;subst h;have hd:=hc.1;simp only [ji] at hd;have:=(Az (hx _ rfl)).1
  injection this with e _;subst e;obtain ⟨rfl,_⟩:=DJ hi ha;have ik:i.toNat<s.size:=dk
  have hlt':i.toNat<s.data.toList.length:=by simpa using ik
  have AG:s.data.toList.getD i.toNat 0=s[i.toNat]:=by
   rw [j_,mq hlt'];simp [ByteArray.getElem_eq_getElem_data]
  refine ⟨.int .u8 (GL s i),?_,Eff.pure_ g (Aw ⟨rfl,rfl,?_⟩)⟩
  ·unfold GL;rw [AG];simp [Instr.index,asIntOf,run_underlying hu,hd.1,ik]
  ·show has .u8 (GL s i);rw [Fy];have:=(s.data.toList.getD i.toNat 0).toNat_lt
   show (decide (0≤GL s i)&&decide (GL s i≤255))=true;unfold GL;rw [jm,decide_eq_true_iff,decide_eq_true_iff];omega
 ·cases h
def m8 (P:Program) (t:TypeId) (x ix:Option AV) (gv:List Bool):Option R :=
 match x,P.underlying t,Bv ix with
 | some (.val false [.p bk gu]),some (.array n e),some (c,_,i)=>match Q0 c (decide (0≤i∧i<n)),P.info? e with
  | some l,some inf=>some ⟨.val false [.p bk (gu+i.toNat*inf.size)],[],0,l,gv⟩
  | _,_=>none
 | some (.val false [.sl bk gu len _]),some (.slice e),some (_,_,i)=>match P.info? e with
  | some inf=>some ⟨.val false [.p bk (gu+i.toNat*inf.size)],[],0,[(decide (0≤i∧i<len),true)],gv⟩
  | none=>none
 | some (.val false [.sx bk len _]),some (.slice e),some (_,_,i)=>match P.info? e with
  | some inf=>some ⟨.val false [.p bk (0+i.toNat*inf.size)],[],0,[(decide (0≤i∧i<len),true)],gv⟩
  | none=>none
 | _,_,_=>none
theorem AM8 {t:TypeId} {x ix:Option AV} {u v:Value} {gv:List Bool} {r:R} (g:Good β H w) (hx:∀ A,x=some A→AN β A u) (hi:∀ A,ix=some A→AN β A v) (h:m8 P t x ix gv=some r)
  (hc:AO r.conds) (fr:Nat):∃ z,(Instr.indexAt t u v).run P w=.ok z w∧Eff β fr r w z w β:=by
 unfold m8 at h;split at h
 ·rename_i bk gu n e c k i hu ha;split at h
  ·rename_i l inf hl ig;injection h with h;subst h;have hd:=We hl hc;simp only [ji] at hd;obtain ⟨B,m,e1,e2⟩:=Az (hx _ rfl)
   injection e2 with e2 _;subst e2;obtain ⟨rfl,_⟩:=DJ hi ha;refine ⟨_,?_,Eff.pure_ g (Aw ⟨B,m,e1,rfl⟩)⟩
   simp [Instr.indexAt,asIntOf,run_underlying hu,Instr.sureAddr,hd,sizeOf,typeInfo,ig,Addr.add_lit,Nat.add_assoc]
  ·cases h
 ·rename_i bk gu len cap e c k i hu ha;split at h
  ·rename_i inf ig;injection h with h;subst h;have hd:=hc.1;simp only [ji] at hd;obtain ⟨rfl,_⟩:=DJ hi ha;rcases Az (hx _ rfl) with ⟨B,m,e1,e2⟩ | ⟨_,_,e2,_⟩ | ⟨_,_,e2,_⟩
   ·injection e2 with e2 _;subst e2;refine ⟨_,?_,Eff.pure_ g (Aw ⟨B,m,e1,rfl⟩)⟩
    simp [Instr.indexAt,asIntOf,run_underlying hu,hd,sizeOf,typeInfo,ig,Addr.add_lit,Nat.add_assoc]
   ·subst e2;omega
   ·subst e2;omega
  ·cases h
 ·rename_i bk len sz e c k i hu ha;split at h
  ·rename_i inf ig;injection h with h;subst h;have hd:=hc.1;simp only [ji] at hd;obtain ⟨rfl,_⟩:=DJ hi ha;rcases Az (hx _ rfl) with ⟨B,m,cap,e1,e2,_⟩ | ⟨_,e2,_⟩
   ·injection e2 with e2 _;subst e2;refine ⟨_,?_,Eff.pure_ g (Aw ⟨B,(m,0),e1,rfl⟩)⟩
    simp [Instr.indexAt,asIntOf,run_underlying hu,hd,sizeOf,typeInfo,ig,Addr.add_lit]
   ·subst e2;omega
  ·cases h
 ·cases h
def MN (d top:Nat) (x:Option (Option AV)):Option (Nat×dp) :=
 match x with
 | none=>some (d,[])
 | some a=>match Bv a with
  | some (_,_,i)=>some (i.toNat,[(decide (0≤i∧i≤top),true)])
  | none=>none
def EJ (β:Env) (x:Option (Option AV)) (v:Option Value):Prop :=
 match x,v with
 | none,none=>True
 | some a,some v=>∀ A,a=some A→AN β A v
 | _,_=>False
theorem I6 {d top y:Nat} {x:Option (Option AV)} {v:Option Value} {c:dp} (hv:EJ β x v) (h:MN d top x=some (y,c)) (hc:AO c) :
  (v=none∧y=d)∨(∃ k i,v=some (.int k i)∧0≤i∧i≤top∧y=i.toNat):=by
 unfold MN at h;split at h
 ·injection h with h;injection h with h1 h2;subst h1;cases v
  ·exact .inl ⟨rfl,rfl⟩
  ·simp [EJ] at hv
 ·split at h
  ·rename_i a b k i ha;injection h with h;injection h with h1 h2;subst h1;subst h2;cases v with
   | none=>simp [EJ] at hv
   | some v =>
    obtain ⟨rfl,_⟩:=DJ hv ha;have:=hc.1
    simp only [ji] at this;exact .inr ⟨k,i,rfl,this.1,this.2,rfl⟩
  ·cases h
theorem Q2 (b:Bool) (len cap l h m:Nat) (lo hi mx:Option Value)
  (hm:(mx=none∧m=cap)∨(∃ k i,mx=some (.int k i)∧0≤i∧i≤cap∧m=i.toNat))
  (hh:(hi=none∧h=len∧mx=none)∨(∃ k i,hi=some (.int k i)∧0≤i∧i≤m∧h=i.toNat))
  (hl:(lo=none∧l=0)∨(∃ k i,lo=some (.int k i)∧0≤i∧i≤h∧l=i.toNat)) :
  (Instr.sliceBounds b len cap lo hi mx).run P w=.ok (l,h,m) w:=by
 rcases hm with ⟨rfl,rfl⟩ | ⟨km,im,rfl,m1,m2,rfl⟩
 ·rcases hh with ⟨rfl,rfl,_⟩ | ⟨kh,ih,rfl,h1,h2,rfl⟩
  ·rcases hl with ⟨rfl,rfl⟩ | ⟨kl,il,rfl,l1,l2,rfl⟩
   ·simp [Instr.sliceBounds]
   ·simp [Instr.sliceBounds,run_sliceBound w kl il _ _ l1 l2]
  ·rcases hl with ⟨rfl,rfl⟩ | ⟨kl,il,rfl,l1,l2,rfl⟩
   ·simp [Instr.sliceBounds,run_sliceBound w kh ih _ _ h1 h2]
   ·simp [Instr.sliceBounds,run_sliceBound w kh ih _ _ h1 h2,run_sliceBound w kl il _ _ l1 l2]
 ·rcases hh with ⟨_,_,hc⟩ | ⟨kh,ih,rfl,h1,h2,rfl⟩
  ·cases hc
  ·rcases hl with ⟨rfl,rfl⟩ | ⟨kl,il,rfl,l1,l2,rfl⟩
   ·simp [Instr.sliceBounds,run_sliceBound w km im _ _ m1 m2,run_sliceBound w kh ih _ _ h1 h2]
   ·simp [Instr.sliceBounds,run_sliceBound w km im _ _ m1 m2,run_sliceBound w kh ih _ _ h1 h2,run_sliceBound w kl il _ _ l1 l2]
def MO (len cap:Nat) (lo hi mx:Option (Option AV)):Option (Nat×Nat×Nat×dp) :=
 match hi,mx with
 | none,some _=>none
 | _,_=>match MN cap cap mx with
  | some (m,c1)=>match MN len m hi with
   | some (h,c2)=>match MN 0 h lo with
    | some (l,c3)=>some (l,h,m,c1++(c2++c3))
    | none=>none
   | none=>none
  | none=>none
theorem Tq (b:Bool) {len cap l h m:Nat} {lo hi mx:Option (Option AV)} {vl vh vm:Option Value} {c:dp} (rl:EJ β lo vl) (rh:EJ β hi vh) (rm:EJ β mx vm)
  (hb:MO len cap lo hi mx=some (l,h,m,c)) (hc:AO c):(Instr.sliceBounds b len cap vl vh vm).run P w=.ok (l,h,m) w:=by
 unfold MO at hb;split at hb
 ·cases hb
 ·rename_i iz;split at hb
  ·rename_i m' c1 h1;split at hb
   ·rename_i h' c2 h2;split at hb
    ·rename_i l' c3 h3;injection hb with hb;injection hb with e1 hb;injection hb with e2 hb;injection hb with e3 e4;subst e1;subst e2;subst e3;subst e4;obtain ⟨o1,o2⟩:=B5.1 hc;obtain ⟨o2,o3⟩:=B5.1 o2;refine Q2 b len cap _ _ _ _ _ _ (I6 rm h1 o1) ?_ (I6 rl h3 o3)
     rcases I6 rh h2 o2 with ⟨e1,e2⟩ | e
     ·refine .inl ⟨e1,e2,?_⟩
      subst e1;cases hi with
      | some a=>simp [EJ] at rh
      | none =>
       cases mx with
       | none=>cases vm with
        | none=>rfl
        | some v=>simp [EJ] at rm
       | some a=>exact absurd rfl (iz a rfl)
     ·exact .inr e
    ·cases hb
   ·cases hb
  ·cases hb
theorem ACC {l h m:Nat} {lo hi mx:Option (Option AV)} {vl vh vm:Option Value} {c:dp} (rl:EJ β lo vl) (rh:EJ β hi vh) (rm:EJ β mx vm)
  (hb:MO 0 0 lo hi mx=some (l,h,m,c)) (hc:AO c):l=0∧h=0∧m=0:=by
 unfold MO at hb;split at hb
 ·cases hb
 ·split at hb
  ·rename_i m' c1 h1;split at hb
   ·rename_i h' c2 h2;split at hb
    ·rename_i l' c3 h3;injection hb with hb;injection hb with e1 hb;injection hb with e2 hb;injection hb with e3 e4;subst e1;subst e2;subst e3;subst e4;obtain ⟨o1,o2⟩:=B5.1 hc;obtain ⟨o2,o3⟩:=B5.1 o2;have hm:m'=0:=by rcases I6 rm h1 o1 with ⟨_,e⟩ | ⟨_,i,_,_,_,e⟩<;>omega
     have hh:h'=0:=by rcases I6 rh h2 o2 with ⟨_,e⟩ | ⟨_,i,_,_,_,e⟩<;>omega
     have hl:l'=0:=by rcases I6 rl h3 o3 with ⟨_,e⟩ | ⟨_,i,_,_,_,e⟩<;>omega
     exact ⟨hl,hh,hm⟩
    ·cases hb
   ·cases hb
  ·cases hb
theorem AM9 (M:Nat) {l h m:Nat} {lo hi mx:Option (Option AV)} {vl vh vm:Option Value} {c:dp} (rl:EJ β lo vl) (rh:EJ β hi vh) (rm:EJ β mx vm)
  (hb:MO 0 0 lo hi mx=some (l,h,m,c)) (hc:AO c):∃ M',(Instr.sliceBounds true 0 M vl vh vm).run P w=.ok (0,0,M') w:=by
 unfold MO at hb;split at hb
 ·cases hb
 ·rename_i iz;split at hb
  ·rename_i m' c1 h1;split at hb
   ·rename_i h' c2 h2;split at hb
    ·rename_i l' c3 h3;injection hb with hb;injection hb with e1 hb;injection hb with e2 hb;injection hb with e3 e4;subst e1;subst e2;subst e3;subst e4;obtain ⟨o1,o2⟩:=B5.1 hc;obtain ⟨o2,o3⟩:=B5.1 o2;have hm:m'=0:=by rcases I6 rm h1 o1 with ⟨_,e⟩ | ⟨_,i,_,_,_,e⟩<;>omega
     have hh:h'=0:=by rcases I6 rh h2 o2 with ⟨_,e⟩ | ⟨_,i,_,_,_,e⟩<;>omega
     have hl:l'=0:=by rcases I6 rl h3 o3 with ⟨_,e⟩ | ⟨_,i,_,_,_,e⟩<;>omega
     subst hm;subst hh;subst hl;have key:∀ M',((vm=none∧M'=M)∨(∃ k i,vm=some (.int k i)∧0≤i∧i≤M∧M'=i.toNat))→(Instr.sliceBounds true 0 M vl vh vm).run P w=.ok (0,0,M') w:=by
      intro M' hM;refine Q2 true 0 M 0 0 M' _ _ _ hM ?_ (I6 rl h3 o3)
      rcases I6 rh h2 o2 with ⟨e1,_⟩ | ⟨k,i,e1,e2,e3,e4⟩
      ·refine .inl ⟨e1,rfl,?_⟩
       subst e1;cases hi with
       | some a=>simp [EJ] at rh
       | none =>
        cases mx with
        | none=>cases vm with
         | none=>rfl
         | some v=>simp [EJ] at rm
        | some a=>exact absurd rfl (iz a rfl)
      ·exact .inr ⟨k,i,e1,e2,dk,e4⟩
     rcases I6 rm h1 o1 with ⟨e1,_⟩ | ⟨k,i,e1,e2,e3,e4⟩
     ·exact ⟨_,key _ (.inl ⟨e1,rfl⟩)⟩
     ·exact ⟨_,key _ (.inr ⟨k,i,e1,e2,dk,rfl⟩)⟩
    ·cases hb
   ·cases hb
  ·cases hb
def m9 (P:Program) (t:TypeId) (x:Option AV) (lo hi mx:Option (Option AV)) (gv:List Bool):Option R :=
 match x,P.underlying t with
 | some (.val false [.p bk gu]),some (.array n e)=>match MO n n lo hi mx,P.info? e with
  | some (l,h,m,c),some inf=>match Nat.beq m l with
   | true=>some ⟨.val false [.sl bk gu (h-l) (m-l)],[],0,c,gv⟩
   | false=>some ⟨.val false [.sl bk (gu+l*inf.size) (h-l) (m-l)],[],0,c,gv⟩
  | _,_=>none
 | some (.val false [.sl bk gu len cap]),some (.slice e)=>match MO len cap lo hi mx,P.info? e,lo with
  | some (l,h,m,c),some _,none=>some ⟨.val false [.sl bk gu (h-l) (m-l)],[],0,c++[(Nat.beq l 0,true)],gv⟩
  | some (l,h,m,c),some inf,some _=>match gv with
   | true::gy=>some ⟨.val false [.sl bk gu (h-l) (m-l)],[],0,c++[(Nat.beq m l,true)],gy⟩
   | false::gy=>some ⟨.val false [.sl bk (gu+l*inf.size) (h-l) (m-l)],[],0,c++[(Nat.beq m l,false)],gy⟩
   | []=>none
  | _,_,_=>none
 | some (.val false [.sx bk len sz]),some (.slice e)=>match lo,P.info? e with
  | none,some _=>match hi,mx with
   | some _,none=>match MN len len hi with
    | some (h,c)=>some ⟨.val false [.sx bk h sz],[],0,c,gv⟩
    | none=>none
   | some _,some _=>match MN len len mx with
    | some (m,c1)=>match MN len m hi with
     | some (h,c2)=>some ⟨.val false [.sl bk 0 h m],[],0,c1++c2,gv⟩
     | none=>none
    | none=>none
   | _,_=>none
  | _,_=>none
 | some (.val false [.v (.slice none 0 0)]),some (.slice e)=>match lo,mx,P.info? e with
  | none,none,some _=>match hi with
   | some _=>match MN 0 0 hi with
    | some (_,c)=>some ⟨.val false [.v (.slice none 0 0)],[],0,c,gv⟩
    | none=>none
   | none=>none
  | _,_,_=>none
 | _,_=>none
theorem Zq {β:Env} {d top y:Nat} {x:Option AV} {v:Option Value} {c:dp} (hv:EJ β (some x) v) (h:MN d top (some x)=some (y,c)) (hc:AO c):∃ k i,v=some (.int k i)∧0≤i∧i≤top∧y=i.toNat:=by
 rcases I6 hv h hc with ⟨rfl,_⟩ | h
 ·simp [EJ] at hv
 ·exact h
theorem AM_ {t:TypeId} {x:Option AV} {u:Value} {lo hi mx:Option (Option AV)} {vl vh vm:Option Value} {gv:List Bool} {r:R} (g:Good β H w) (hx:∀ A,x=some A→AN β A u)
  (rl:EJ β lo vl) (rh:EJ β hi vh) (rm:EJ β mx vm) (h:m9 P t x lo hi mx gv=some r) (hc:AO r.conds) (fr:Nat) :
  ∃ z,(Instr.sliceAt t u vl vh vm).run P w=.ok z w∧Eff β fr r w z w β:=by
 unfold m9 at h;split at h
 ·rename_i bk gu n e hu;split at h
  ·rename_i l hh m c inf hb ig;obtain ⟨B,nn,e1,e2⟩:=Az (hx _ rfl)
   injection e2 with e2 _;subst e2;split at h
   ·rename_i hm;injection h with h;subst h;have hr:=Tq (P:=P) (w:=w) false rl rh rm hb hc
    refine ⟨_,?_,Eff.pure_ g (Aw (.inl ⟨B,nn,e1,rfl⟩))⟩
    simp [Instr.sliceAt,run_underlying hu,Instr.sureAddr,hr,sizeOf,typeInfo,ig,Ar.1 hm]
   ·rename_i hm;injection h with h;subst h;have hr:=Tq (P:=P) (w:=w) false rl rh rm hb hc
    refine ⟨_,?_,Eff.pure_ g (Aw (.inl ⟨B,nn,e1,rfl⟩))⟩
    simp [Instr.sliceAt,run_underlying hu,Instr.sureAddr,hr,sizeOf,typeInfo,ig,I4 hm,Addr.add_lit,Nat.add_assoc]
  ·cases h
 ·rename_i bk gu len cap e hu;rcases Az (hx _ rfl) with ⟨B,nn,e1,e2⟩ | ⟨e1,z1,z2,z3,e2⟩ | ⟨e1,z1,z2,z3,a,M,e2⟩
  case inr.inl =>
   injection e2 with e2 _;subst e2;subst z1;subst z2;subst z3;have hs:(Instr.sliceAt t (.slice none 0 0) vl vh vm).run P w=(Instr.slice t (.slice none 0 0) vl vh vm).run P w:=by
    simp [Instr.sliceAt,run_underlying hu]
   rw [hs];have core:∀ (l hh m:Nat) (c:dp) (inf:TypeInfo),MO 0 0 lo hi mx=some (l,hh,m,c)→AO c→P.info? e=some inf→(Instr.slice t (.slice none 0 0) vl vh vm).run P w=.ok (.slice none 0 0) w∧l=0∧hh=0∧m=0:=by
    intro l hh m c inf hb o1 ig;obtain ⟨rfl,rfl,rfl⟩:=ACC rl rh rm hb o1;have hr:=Tq (P:=P) (w:=w) true rl rh rm hb o1
    exact ⟨by simp [Instr.slice,run_underlying hu,hr,sizeOf,typeInfo,ig],rfl,rfl,rfl⟩
   split at h
   ·rename_i l hh m c inf _ _;have ig:P.info? e=some inf:=by assumption
    injection h with h;subst h;obtain ⟨o1,o2⟩:=B5.1 hc;obtain ⟨q,rfl,rfl,rfl⟩:=core _ _ _ _ _ (by assumption) o1 ig
    exact ⟨_,q,Eff.pure_ g (Aw (.inr (.inl ⟨e1,rfl,rfl,rfl,rfl⟩)))⟩
   ·rename_i l hh m c inf lo' _ _;have ig:P.info? e=some inf:=by assumption
    split at h
    ·injection h with h;subst h;obtain ⟨o1,o2⟩:=B5.1 hc;obtain ⟨q,rfl,rfl,rfl⟩:=core _ _ _ _ _ (by assumption) o1 ig
     exact ⟨_,q,Eff.pure_ g (Aw (.inr (.inl ⟨e1,rfl,rfl,rfl,rfl⟩)))⟩
    ·injection h with h;subst h;obtain ⟨o1,o2⟩:=B5.1 hc;obtain ⟨q,rfl,rfl,rfl⟩:=core _ _ _ _ _ (by assumption) o1 ig
     cases o2.1
    ·cases h
   ·cases h
  case inr.inr =>
   injection e2 with e2 _;subst e2;subst z1;subst z2;subst z3;have hs:(Instr.sliceAt t (.slice (some a) 0 M) vl vh vm).run P w=(Instr.slice t (.slice (some a) 0 M) vl vh vm).run P w:=by
    simp [Instr.sliceAt,run_underlying hu]
   rw [hs];have core:∀ (l hh m:Nat) (c:dp) (inf:TypeInfo),MO 0 0 lo hi mx=some (l,hh,m,c)→AO c→P.info? e=some inf→(∃ a' M',(Instr.slice t (.slice (some a) 0 M) vl vh vm).run P w=.ok (.slice (some a') 0 M') w)∧l=0∧hh=0∧m=0:=by
    intro l hh m c inf hb o1 ig;obtain ⟨M',hr⟩:=AM9 (P:=P) (w:=w) M rl rh rm hb o1
    obtain ⟨rfl,rfl,rfl⟩:=ACC rl rh rm hb o1;refine ⟨⟨(if M'=0 then a else a.add (0*inf.size)),M',?_⟩,rfl,rfl,rfl⟩
    by_cases hM:M'=0
    ·simp [Instr.slice,run_underlying hu,hr,sizeOf,typeInfo,ig,hM]
    ·simp [Instr.slice,run_underlying hu,hr,sizeOf,typeInfo,ig,hM]
   split at h
   ·rename_i l hh m c inf _ _;have ig:P.info? e=some inf:=by assumption
    injection h with h;subst h;obtain ⟨o1,o2⟩:=B5.1 hc;obtain ⟨⟨a',M',q⟩,rfl,rfl,rfl⟩:=core _ _ _ _ _ (by assumption) o1 ig
    exact ⟨_,q,Eff.pure_ g (Aw (.inr (.inr ⟨e1,rfl,rfl,rfl,a',M',rfl⟩)))⟩
   ·rename_i l hh m c inf lo' _ _;have ig:P.info? e=some inf:=by assumption
    split at h
    ·injection h with h;subst h;obtain ⟨o1,o2⟩:=B5.1 hc;obtain ⟨⟨a',M',q⟩,rfl,rfl,rfl⟩:=core _ _ _ _ _ (by assumption) o1 ig
     exact ⟨_,q,Eff.pure_ g (Aw (.inr (.inr ⟨e1,rfl,rfl,rfl,a',M',rfl⟩)))⟩
    ·injection h with h;subst h;obtain ⟨o1,o2⟩:=B5.1 hc;obtain ⟨q,rfl,rfl,rfl⟩:=core _ _ _ _ _ (by assumption) o1 ig
     cases o2.1
    ·cases h
   ·cases h
  injection e2 with e2 _;subst e2;split at h
  ·rename_i l hh m c inf _ _;have ig:P.info? e=some inf:=by assumption
   injection h with h;subst h;obtain ⟨o1,o2⟩:=B5.1 hc;have hr:=Tq (P:=P) (w:=w) true rl rh rm (by assumption) o1
   have hl:=Ar.1 o2.1;subst hl;refine ⟨_,?_,Eff.pure_ g (Aw (.inl ⟨B,nn,e1,rfl⟩))⟩
   have hs:(Instr.sliceAt t (.slice (some ⟨B,nn.2+gu,none⟩) len cap) vl vh vm).run P w=(Instr.slice t (.slice (some ⟨B,nn.2+gu,none⟩) len cap) vl vh vm).run P w:=by
    simp [Instr.sliceAt,run_underlying hu]
   rw [hs];simp [Instr.slice,run_underlying hu,hr,sizeOf,typeInfo,ig,Addr.add_lit,Nat.add_assoc]
  ·rename_i l hh m c inf lo' _ _;have ig:P.info? e=some inf:=by assumption
   have hs:(Instr.sliceAt t (.slice (some ⟨B,nn.2+gu,none⟩) len cap) vl vh vm).run P w=(Instr.slice t (.slice (some ⟨B,nn.2+gu,none⟩) len cap) vl vh vm).run P w:=by
    simp [Instr.sliceAt,run_underlying hu]
   rw [hs];split at h
   ·injection h with h;subst h;obtain ⟨o1,o2⟩:=B5.1 hc;have hr:=Tq (P:=P) (w:=w) true rl rh rm (by assumption) o1
    refine ⟨_,?_,Eff.pure_ g (Aw (.inl ⟨B,nn,e1,rfl⟩))⟩
    simp [Instr.slice,run_underlying hu,hr,sizeOf,typeInfo,ig,Ar.1 o2.1]
   ·injection h with h;subst h;obtain ⟨o1,o2⟩:=B5.1 hc;have hr:=Tq (P:=P) (w:=w) true rl rh rm (by assumption) o1
    refine ⟨_,?_,Eff.pure_ g (Aw (.inl ⟨B,nn,e1,rfl⟩))⟩
    simp [Instr.slice,run_underlying hu,hr,sizeOf,typeInfo,ig,I4 o2.1,Addr.add_lit,Nat.add_assoc]
   ·cases h
  ·cases h
 ·rename_i bk len sz e hu;have core:∀ (base:Option Addr) (cap hh m:Nat) (inf:TypeInfo),P.info? e=some inf→(base=none→cap=0)→(Instr.sliceBounds true len cap vl vh vm).run P w=.ok (0,hh,m) w →
    (Instr.sliceAt t (.slice base len cap) vl vh vm).run P w=.ok (.slice base hh m) w:=by
   intro base cap hh m inf ig _ hr;have hs:(Instr.sliceAt t (.slice base len cap) vl vh vm).run P w=(Instr.slice t (.slice base len cap) vl vh vm).run P w:=by
    simp [Instr.sliceAt,run_underlying hu]
   rw [hs];cases base with
   | none=>simp [Instr.slice,run_underlying hu,hr,sizeOf,typeInfo,ig]
   | some a =>
    simp [Instr.slice,run_underlying hu,hr,sizeOf,typeInfo,ig]
    intro _;simp [Addr.add]
  split at h;case h_2=>cases h
  rename_i inf ig;have hvl:vl=none:=by cases vl with | none=>rfl | some v=>simp [EJ] at rl
  subst hvl;split at h
  ·rename_i hi';have hvm:vm=none:=by cases vm with | none=>rfl | some v=>simp [EJ] at rm
   subst hvm;split at h;case h_2=>cases h
   rename_i y c hb;injection h with h;subst h;obtain ⟨k,i,rfl,h1,h2,rfl⟩:=Zq rh hb hc;rcases Az (hx _ rfl) with ⟨B,nn,cap,e1,e2,e3,e4⟩ | ⟨e1,rfl,e2⟩
   ·injection e2 with e2 _;subst e2;refine ⟨_,core _ cap i.toNat cap inf ig (fun h=>by cases h) (Q2 true len cap 0 _ _ _ _ _ (.inl ⟨rfl,rfl⟩) (.inr ⟨k,i,rfl,h1,dk,rfl⟩) (.inl ⟨rfl,rfl⟩)),Eff.pure_ g (Aw (.inl ⟨B,nn,cap,e1,rfl,dk,e4⟩))⟩
   ·injection e2 with e2 _;subst e2;have hi0:i.toNat=0:=dk
    refine ⟨_,core _ 0 i.toNat 0 inf ig (fun _=>rfl) (Q2 true 0 0 0 _ _ _ _ _ (.inl ⟨rfl,rfl⟩) (.inr ⟨k,i,rfl,h1,dk,rfl⟩) (.inl ⟨rfl,rfl⟩)),?_⟩
    rw [hi0];exact Eff.pure_ g (Aw (.inr ⟨e1,rfl,rfl⟩))
  ·rename_i hi' mx';split at h;case h_2=>cases h
   rename_i m c1 hb1;split at h;case h_2=>cases h
   rename_i y c2 hb2;injection h with h;subst h;obtain ⟨o1,o2⟩:=B5.1 hc;obtain ⟨km,im,rfl,m1,m2,rfl⟩:=Zq rm hb1 o1;obtain ⟨k,i,rfl,h1,h2,rfl⟩:=Zq rh hb2 o2;rcases Az (hx _ rfl) with ⟨B,nn,cap,e1,e2,e3,e4⟩ | ⟨e1,rfl,e2⟩
   ·injection e2 with e2 _;subst e2;refine ⟨_,core _ cap i.toNat im.toNat inf ig (fun h=>by cases h) (Q2 true len cap 0 _ _ _ _ _ (.inr ⟨km,im,rfl,m1,dk,rfl⟩) (.inr ⟨k,i,rfl,h1,h2,rfl⟩) (.inl ⟨rfl,rfl⟩)),Eff.pure_ g (Aw (.inl ⟨B,(nn,0),e1,rfl⟩))⟩
   ·injection e2 with e2 _;subst e2;have hm0:im.toNat=0:=dk
    have hi0:i.toNat=0:=dk
    refine ⟨_,core _ 0 i.toNat im.toNat inf ig (fun _=>rfl) (Q2 true 0 0 0 _ _ _ _ _ (.inr ⟨km,im,rfl,m1,dk,rfl⟩) (.inr ⟨k,i,rfl,h1,h2,rfl⟩) (.inl ⟨rfl,rfl⟩)),?_⟩
    rw [hm0,hi0];exact Eff.pure_ g (Aw (.inr (.inl ⟨e1,rfl,rfl,rfl,rfl⟩)))
  ·cases h
 ·rename_i e hu;split at h;case h_2=>cases h
  rename_i inf ig;have hvl:vl=none:=by cases vl with | none=>rfl | some v=>simp [EJ] at rl
  have hvm:vm=none:=by cases vm with | none=>rfl | some v=>simp [EJ] at rm
  subst hvl;subst hvm;split at h;case h_2=>cases h
  split at h;case h_2=>cases h
  rename_i y c hb;injection h with h;subst h;obtain ⟨k,i,rfl,h1,h2,rfl⟩:=Zq rh hb hc;have:=(Az (hx _ rfl)).1
  injection this with e2 _;subst e2;have hi0:i.toNat=0:=dk
  refine ⟨.slice none 0 0,?_,Eff.pure_ g (Aw ⟨rfl,rfl,trivial⟩)⟩
  have hs:(Instr.sliceAt t (.slice none 0 0) none (some (.int k i)) none).run P w=(Instr.slice t (.slice none 0 0) none (some (.int k i)) none).run P w:=by
   simp [Instr.sliceAt,run_underlying hu]
  have hr:=Q2 (P:=P) (w:=w) true 0 0 0 i.toNat 0 none (some (.int k i)) none (.inl ⟨rfl,rfl⟩) (.inr ⟨k,i,rfl,h1,dk,rfl⟩) (.inl ⟨rfl,rfl⟩)
  rw [hi0] at hr;rw [hs];simp [Instr.slice,run_underlying hu,hr,sizeOf,typeInfo,ig]
 ·cases h
def nA (P:Program) (t:TypeId) (x:Option AV) (gv:List Bool):Option R :=
 match x,P.underlying t with
 | some (.val false [.sl bk gu len _]),some (.array n _)=>some ⟨.val false [.p bk gu],[],0,[(Nat.ble n len&&!Nat.beq len 0,true)],gv⟩
 | some (.val false [.sx bk len _]),some (.array n _)=>some ⟨.val false [.p bk 0],[],0,[(Nat.ble n len&&!Nat.beq len 0,true)],gv⟩
 | _,_=>none
theorem AM' {t:TypeId} {x:Option AV} {u:Value} {gv:List Bool} {r:R} (g:Good β H w) (hx:∀ A,x=some A→AN β A u) (h:nA P t x gv=some r) (hc:AO r.conds) (fr:Nat) :
  ∃ z,(Instr.arrayAt t u).run P w=.ok z w∧Eff β fr r w z w β:=by
 unfold nA at h;split at h
 ·rename_i bk gu len cap n e hu;injection h with h;subst h;have hc1:=hc.1;simp only [jm,Bool.not_eq_true'] at hc1;have ir:=jf hc1.1;have hz:=I4 hc1.2;rcases Az (hx _ rfl) with ⟨B,nn,e1,e2⟩ | ⟨_,_,e2,_⟩ | ⟨_,_,e2,_⟩
  ·injection e2 with e2 _;subst e2;refine ⟨_,?_,Eff.pure_ g (Aw ⟨B,nn,e1,rfl⟩)⟩
   simp [Instr.arrayAt,run_underlying hu,show ¬ len<n by omega]
  ·exact absurd e2 hz
  ·exact absurd e2 hz
 ·rename_i bk len sz n e hu;injection h with h;subst h;have h1:=hc.1;simp only [jm,Bool.not_eq_true'] at h1;have ir:=jf h1.1;have hz:=I4 h1.2;rcases Az (hx _ rfl) with ⟨B,nn,cap,e1,e2,_⟩ | ⟨_,e2,_⟩
  ·injection e2 with e2 _;subst e2;refine ⟨_,?_,Eff.pure_ g (Aw ⟨B,(nn,0),e1,rfl⟩)⟩
   simp [Instr.arrayAt,run_underlying hu,show ¬ len<n by omega]
  ·exact absurd e2 hz
 ·cases h
theorem ANA (v:List Value):∀ (cells:List Value) (gu:Nat) (j:Nat),gu+j+v.length≤cells.length →
  (v.zipIdx j).foldl (fun (cs:Array Value) (x:Value×Nat)=>cs.setIfInBounds (gu+x.2) x.1) ⟨cells⟩=⟨cells.take (gu+j)++v++cells.drop (gu+j+v.length)⟩:=by
 induction v with
 | nil=>intro cells gu j _;simp
 | cons x v ih =>
  intro cells gu j h;simp only [List.zipIdx_cons,List.foldl_cons];have ik:gu+j<cells.length:=by simp at h;omega
  have e:(⟨cells⟩:Array Value).setIfInBounds (gu+j) x=⟨cells.set (gu+j) x⟩:=by
   apply mf;simp
  rw [e,ih _ gu (j+1) (by simp at h ⊢;omega)]
  congr 1
  have:=list_seg_step cells (gu+j) x v (by simp at h;omega)
  simpa [Nat.add_assoc] using this
def Q3 (τ:Nat→AV) (place:Nat→Option (Nat×Nat)) (zs:List Ch):List (Nat×Operand)→Option (List Ch)
 | []=>some zs
 | (i,x)::gy=>match place i,B8 τ x with
  | some (gu,size),some (.val _ cs)=>match Nat.beq (ME cs) size,WV zs gu size cs with
   | true,some zs'=>Q3 τ place zs' gy
   | _,_=>none
  | _,_=>none
theorem Zr {τ:Nat→AV} {a:Act} (ht:∀ t,AN β (τ t) (a.tmps.getD t undef)) {place:Nat→Option (Nat×Nat)}:∀ {parts:List (Nat×Operand)} {zs cs:List Ch} {l:List Value},Q3 τ place zs parts=some cs→AQ β zs l →
  ∃ l',Instr.fill place ⟨l⟩ (parts.map fun (i,x)=>(i,a.eval x))=some ⟨l'⟩∧AQ β cs l'
 | [],zs,cs,l,h,hl=>by
  simp only [Q3,jt] at h;subst h;exact ⟨l,rfl,hl⟩
 | (i,x)::gy,zs,cs,l,h,hl=>by
  simp only [Q3] at h;split at h
  ·rename_i gu size gg c hp hx;split at h
   ·rename_i zs' hz hs;have hr:=Tm (I5 ht hx)
    obtain ⟨r1,r2⟩:=mK hs hl hr;obtain ⟨l',h1,h2⟩:=Zr ht h r1;refine ⟨l',?_,h2⟩
    have gx:(a.eval x).cells.size=size:=by
     have:=Tj hr
     rw [Ar.1 hz] at this;simpa using this
    simp only [lf,Instr.fill,hp,gx];rw [jd (by simp;omega)]
    have e:Array.foldl (fun (cs:Array Value) (x:Value×Nat)=>cs.setIfInBounds (gu+x.2) x.1) ⟨l⟩ (a.eval x).cells.zipIdx=⟨l.take gu++(a.eval x).cells.toList++l.drop (gu+size)⟩:=by
     rw [← Array.foldl_toList,Array.toList_zipIdx,ANA _ l gu 0 (by rw [um,gx];omega)]
     simp [gx]
    rw [← h1];congr 1
   ·cases h
  ·cases h
def nC (P:Program) (τ:Nat→AV) (t:TypeId) (parts:List (Nat×Operand)) (gv:List Bool):Option R :=
 match P.underlying t,P.info? t with
 | some (.struct fs),some i=>match i.zero with
  | some z=>match Qz z with
   | some (.val _ zs)=>match Q3 τ (fun j=>match fs[j]? with | some f=>some (f.offset,P.cellsOf f.type) | none=>none) zs parts,fs.all fun f=>(P.info? f.type).isSome with
    | some cs,true=>some (CP (.val true cs) gv)
    | _,_=>none
   | _=>none
  | none=>none
 | some (.array _ e),some i=>match i.zero,P.info? e with
  | some z,some inf=>match Qz z with
   | some (.val _ zs)=>match Q3 τ (fun j=>some (j*inf.size,inf.size)) zs parts with
    | some cs=>some (CP (.val true cs) gv)
    | none=>none
   | _=>none
  | _,_=>none
 | _,_=>none
theorem ANB (fs:Array Field) (h:(fs.all fun f=>(P.info? f.type).isSome)=true) (w:World) :
  (fs.mapM (m:=Sem) fun f=>do pure (f.offset,← sizeOf f.type)).run P w=.ok (fs.map fun f=>(f.offset,P.cellsOf f.type)) w:=by
 have hall0:=Array.all_eq_true_iff_forall_mem.1 h;obtain ⟨l⟩:=fs;rw [Array.mapM_eq_mapM_toList];have g_:∀ f∈l,(P.info? f.type).isSome=true:=fun f hf=>hall0 f (by simpa using hf)
 have key:∀ l:List Field,(∀ f∈l,(P.info? f.type).isSome=true)→(l.mapM (m:=Sem) fun f=>do pure (f.offset,← sizeOf f.type)).run P w=.ok (l.map fun f=>(f.offset,P.cellsOf f.type)) w:=by
  intro l;induction l with
  | nil=>intro _;simp
  | cons f l ih =>
   intro hl;obtain ⟨i,hi⟩:=lj.1 (hl f (by simp))
   simp only [List.mapM_cons,Sem.run_bind,run_sizeOf w hi,Result.andThen_ok,Sem.run_pure,ih (fun g hg=>hl g (by simp [hg])),lf]
 simp only [Sem.run_map,key l g_];simp
theorem ANC {τ:Nat→AV} {a:Act} (ht:∀ t,AN β (τ t) (a.tmps.getD t undef)) {t:TypeId} {parts:Array (Nat×Operand)} {gv:List Bool} {r:R} (g:Good β H w)
  (h:nC P τ t parts.toList gv=some r) (fr:Nat):∃ z,(Instr.build t (parts.map fun (i,x)=>(i,a.eval x))).run P w=.ok z w∧Eff β fr r w z w β:=by
 unfold nC at h;split at h
 ·rename_i fs i hu hi;split at h
  ·rename_i z hz;split at h
   ·rename_i gg zs hc;split at h
    ·rename_i cs hf g_;injection h with h;subst h;have hr:=Tm (Zj (β:=β) hc)
     obtain ⟨l',h1,h2⟩:=Zr ht hf hr;refine ⟨.agg ⟨l'⟩,?_,Eff.pure_ g ⟨l',h2,rfl⟩⟩
     have hp:=ANB (P:=P) fs g_ w
     simp only [Instr.build,Sem.run_bind,zeroValue,typeInfo,run_program,Result.andThen_ok,hi,Sem.run_pure,hz,run_underlying hu,hp];have e:(fun (j:Nat)=>(fs.map fun (f:Field)=>(f.offset,P.cellsOf f.type))[j]?)=(fun j=>match fs[j]? with | some f=>some (f.offset,P.cellsOf f.type) | none=>none):=by
      funext j
      simp only [Array.getElem?_map];cases fs[j]?<;>rfl
     simp only [rb,e,h1];rfl
    ·cases h
   ·cases h
  ·cases h
 ·rename_i n e i hu hi;split at h
  ·rename_i z inf hz ig;split at h
   ·rename_i gg zs hc;split at h
    ·rename_i cs hf;injection h with h;subst h;have hr:=Tm (Zj (β:=β) hc)
     obtain ⟨l',h1,h2⟩:=Zr ht hf hr;refine ⟨.agg ⟨l'⟩,?_,Eff.pure_ g ⟨l',h2,rfl⟩⟩
     simp only [Instr.build,Sem.run_bind,zeroValue,typeInfo,run_program,Result.andThen_ok,hi,Sem.run_pure,hz,run_underlying hu,sizeOf,ig];simp only [rb,h1];rfl
    ·cases h
   ·cases h
  ·cases h
 ·cases h
def O' (z:Value) (n:Nat):List Value:=match n with
 | 0=>[]
 | n+1=>(List.range (n+1)).map (z.cells[· % z.cells.size]!)
theorem AND (z:Value) (n:Nat):((Array.range n).map fun j=>(if n=0 then #[] else z.cells)[j % (if n=0 then #[] else z.cells).size]!)=⟨O' z n⟩:=by
 cases n with
 | zero=>simp [O']
 | succ n=>apply mf;simp [O']
def nF (P:Program) (τ:Nat→AV) (t:TypeId) (len:Nat) (parts:List (Nat×Operand)) (fr:Nat) (gv:List Bool):Option R :=
 match P.underlying t with
 | some (.slice e)=>match P.info? e with
  | some inf=>match Nat.ble (len*inf.size) 16777216,inf.zero with
   | true,some z=>match NS (O' z (len*inf.size)) with
    | some zs=>match Q3 τ (fun j=>some (j*inf.size,inf.size)) zs parts with
     | some cs=>some ⟨.val false [.sl fr 0 len len],[(fr,some ⟨e,cs,false⟩)],1,[],gv⟩
     | none=>none
    | none=>none
   | _,_=>none
  | none=>none
 | _=>none
theorem ANE {τ:Nat→AV} {a:Act} (ht:∀ t,AN β (τ t) (a.tmps.getD t undef)) {t:TypeId} {len fr:Nat} {parts:Array (Nat×Operand)} {gv:List Bool} {r:R} (g:Good β H w)
  (h:nF P τ t len parts.toList fr gv=some r) (hf:∀ b,fr≤b→b<fr+r.nw→β b=none) :
  ∃ z w' β',(Instr.buildSlice t len (parts.map fun (i,x)=>(i,a.eval x))).run P w=.ok z w'∧Eff β fr r w z w' β':=by
 unfold nF at h;split at h
 ·rename_i e hu;split at h
  ·rename_i inf ig;split at h
   ·rename_i z hb hz;split at h
    ·rename_i zs hzs;split at h
     ·rename_i cs hfl;injection h with h;subst h;have hr:=Tl (β:=β) hzs
      obtain ⟨l',h1,h2⟩:=Zr ht hfl hr;refine ⟨_,_,_,?_,Eff.new_ g (hf fr (jj _) (by simp)) h2 rfl (Aw (.inl ⟨w.heap.size,(l'.length,0),Env.put_same ..,rfl⟩))⟩
      have ir:=jf hb;have hz0:=AND z (len*inf.size)
      simp only [Instr.buildSlice,Sem.run_bind,run_underlying hu,Result.andThen_ok,sizeOf,typeInfo,run_program,ig,Sem.run_pure];rw [jd (show ¬ (len*inf.size > 2^24) by omega)]
      by_cases hn:len*inf.size=0
      ·rw [je hn];simp only [je hn] at hz0;simp only [Sem.run_bind,Sem.run_pure,Result.andThen_ok];rw [hz0];simp only [rb,h1];simp [newRow]
      ·rw [jd hn];simp only [jd hn] at hz0;simp only [Sem.run_bind,Sem.run_pure,Result.andThen_ok,zeroValue,typeInfo,run_program,ig,hz];rw [hz0];simp only [rb,h1];simp [newRow]
     ·cases h
    ·cases h
   ·cases h
  ·cases h
 ·cases h
end
section
variable {P:Program} {β:Env} {H:Heap} {w:World}
def nG (P:Program) (src dst:TypeId) (x:Option AV) (gv:List Bool):Option R :=
 match P.underlying src,P.underlying dst,Bv x with
 | some _,some (.int k),some (c,_,i)=>some (CP (O9 c k (AX c k i)) gv)
 | _,_,_=>none
theorem ANF {src dst:TypeId} {x:Option AV} {u:Value} {gv:List Bool} {r:R} (g:Good β H w) (hx:∀ A,x=some A→AN β A u) (h:nG P src dst x gv=some r) (fr:Nat) :
  ∃ v,(convert src dst u).run P w=.ok v w∧Eff β fr r w v w β:=by
 unfold nG at h;split at h
 ·rename_i d k c k' i hs hd ha;injection h with h;subst h;obtain ⟨rfl,_⟩:=DJ hx ha;rw [DT];refine ⟨.int k (k.wrap i),?_,Eff.pure_ g (O_ c (Ky _ _))⟩
  simp [convert,run_underlying hs,run_underlying hd,Conv.intToInt]
 ·cases h
def nJ (op:UnOp) (x:Option AV) (gv:List Bool):Option R :=
 match op with
 | .not=>match F0 x with
  | some (true,y)=>some (CP (.val false [.b (match y with | true=>false | false=>true)]) gv)
  | some (false,y)=>some (CP (.val false [.v (.bool (!y))]) gv)
  | none=>none
 | .neg=>match Bv x with
  | some (c,k,i)=>some (CP (O9 c k (AX c k (0-i))) gv)
  | none=>none
 | .xor=>match Bv x with
  | some (c,k,i)=>some (CP (O9 c k (bits .xor k (match k.signed with | true=>-1 | false=>k.max) i)) gv)
  | none=>none
 | _=>none
theorem ANG {op:UnOp} {x:Option AV} {u:Value} {gv:List Bool} {r:R} (g:Good β H w) (hx:∀ A,x=some A→AN β A u) (h:nJ op x gv=some r) (fr:Nat) :
  ∃ v,(Op.unary op u).run P w=.ok v w∧Eff β fr r w v w β:=by
 unfold nJ at h;split at h
 ·split at h
  ·rename_i y ha;injection h with h;subst h;have:=Kz hx ha
   subst this;refine ⟨.bool !y,rfl,Eff.pure_ g ?_⟩
   cases y<;>exact Aw rfl
  ·rename_i y ha;injection h with h;subst h;have:=Kz hx ha
   subst this;exact ⟨.bool !y,rfl,Eff.pure_ g (Aw ⟨rfl,rfl,trivial⟩)⟩
  ·cases h
 ·split at h
  ·rename_i c k i ha;injection h with h;subst h;obtain ⟨rfl,_⟩:=DJ hx ha;rw [DT];exact ⟨.int k (k.wrap (0-i)),rfl,Eff.pure_ g (O_ c (Ky _ _))⟩
  ·cases h
 ·split at h
  ·rename_i c k i ha;injection h with h;subst h;obtain ⟨rfl,_⟩:=DJ hx ha;refine ⟨.int k (bits .xor k (match k.signed with | true=>-1 | false=>k.max) i),?_,Eff.pure_ g (O_ c (Ky _ _))⟩
   have e:(match k.signed with | true=>(-1:Int) | false=>k.max)=(if k.signed then -1 else k.max):=by cases k.signed<;>rfl
   rw [e];show (Op.intBits BinOp.xor k (if k.signed then -1 else k.max) i).run P w=_
   rw [intBits_xor];rfl
  ·cases h
 ·cases h
theorem ANH (kd:IntKind) (n:Nat):(madeCells #[.int kd 0] n).toList=(List.replicate n (0:Int)).map (Value.int kd):=by
 unfold madeCells;rw [List.map_replicate];apply rj
 ·simp
 ·intro i h1 h2;simp [Nat.mod_one]
theorem ANI (z:Value) (n:Nat):(madeCells z.cells n).toList=O' z n:=by
 unfold madeCells O';cases n<;>simp
def nK (P:Program) (t:TypeId) (x y:Option AV) (fr:Nat) (gv:List Bool):Option R :=
 match P.underlying t,Bv x,Bv y with
 | some (.slice e),some (_,_,l),some (c,_,m)=>match P.info? e with
  | some inf=>match inf.zero with
   | some (.int kd z)=>match decide (z=0),Nat.beq inf.size 1 with
    | true,true=>some ⟨.val false [.sl fr 0 l.toNat m.toNat],[(fr,some ⟨e,[.seq kd (List.replicate m.toNat 0)],false⟩)],1,[(decide (0≤l∧l≤m∧inf.bytes*m≤281474976710656∧m≤9223372036854775807),true)],gv⟩
    | _,_=>none
   | some z=>match c with
    | true=>match NS (O' z (m.toNat*inf.size)) with
     | some zs=>some ⟨.val false [.sl fr 0 l.toNat m.toNat],[(fr,some ⟨e,zs,false⟩)],1,[(decide (0≤l∧l≤m∧inf.bytes*m≤281474976710656∧m≤9223372036854775807),true)],gv⟩
     | none=>none
    | false=>none
   | none=>none
  | none=>none
 | _,_,_=>none
theorem ANJ {t fr:Nat} {x y:Option AV} {u v:Value} {gv:List Bool} {r:R} (g:Good β H w) (hx:∀ A,x=some A→AN β A u) (hy:∀ A,y=some A→AN β A v)
  (h:nK P t x y fr gv=some r) (hc:AO r.conds) (hf:∀ b,fr≤b→b<fr+r.nw→β b=none) :
  ∃ z w' β',(Instr.makeSlice t u v).run P w=.ok z w'∧Eff β fr r w z w' β':=by
 unfold nK at h;split at h
 ·rename_i e c1 k1 l c k2 m hu ha hb;obtain ⟨rfl,_⟩:=DJ hx ha;obtain ⟨rfl,_⟩:=DJ hy hb;split at h
  ·rename_i inf hi;split at h
   ·rename_i kd z hz;split at h
    ·rename_i hz0 hs1;injection h with h;subst h;have hcc:=hc.1;simp only [ji] at hcc;have hz0':z=0:=by simpa using hz0
     subst hz0';have hs:=Ar.1 hs1;have ii:=run_make (P:=P) w t e inf _ hu hi hz k1 k2 l m hcc.1 hcc.2.1 hcc.2.2.1 hcc.2.2.2
     have hcells:(madeCells (Value.int kd 0).cells (m.toNat*inf.size))=⟨(List.replicate m.toNat (0:Int)).map (Value.int kd)⟩:=by
      apply mf
      rw [hs,kb];exact ANH kd m.toNat
     rw [hcells] at ii;refine ⟨_,_,_,ii,Eff.new_ g (hf fr (jj _) (by simp)) (cs:=[.seq kd (List.replicate m.toNat 0)]) ?_ rfl (Aw (.inl ⟨w.heap.size,(_,0),Env.put_same ..,rfl⟩))⟩
     refine ⟨_,[],⟨rfl,fun x hx=>?_⟩,rfl,by simp⟩
     rw [List.eq_of_mem_replicate hx,Fy];cases kd<;>decide
    ·cases h
   ·rename_i z _ _;have hz:inf.zero=some z:=by assumption
    split at h
    ·split at h
     ·rename_i zs hzs;injection h with h;subst h;have hcc:=hc.1;simp only [ji] at hcc;have ii:=run_make (P:=P) w t e inf _ hu hi hz k1 k2 l m hcc.1 hcc.2.1 hcc.2.2.1 hcc.2.2.2
      have hcells:madeCells z.cells (m.toNat*inf.size)=⟨O' z (m.toNat*inf.size)⟩:=by
       apply mf;exact ANI z _
      rw [hcells] at ii;exact ⟨_,_,_,ii,Eff.new_ g (hf fr (jj _) (by simp)) (Tl hzs) rfl (Aw (.inl ⟨w.heap.size,(_,0),Env.put_same ..,rfl⟩))⟩
     ·cases h
    ·cases h
   ·cases h
  ·cases h
 ·cases h
def nL (P:Program) (t:TypeId) (x:Option AV) (gv:List Bool):Option R :=
 match P.underlying t,x with
 | some (.array n _),_=>match AL .i64 n with
  | true=>some (CP (.val false [.n .i64 n]) gv)
  | false=>none
 | some (.slice _),some (.val false [.sl _ _ len _])=>some ⟨.val false [.v (.int .i64 len)],[],0,[(AL .i64 len,true)],gv⟩
 | some (.slice _),some (.val false [.sx _ len _])=>some ⟨.val false [.v (.int .i64 len)],[],0,[(AL .i64 len,true)],gv⟩
 | some (.slice _),some (.val false [.v (.slice _ len _)])=>some ⟨.val false [.v (.int .i64 len)],[],0,[(AL .i64 len,true)],gv⟩
 | _,_=>none
theorem ANK {t ty:TypeId} {x:Option AV} {u:Value} {gv:List Bool} {r:R} (g:Good β H w) (hx:∀ A,x=some A→AN β A u) (h:nL P t x gv=some r) (hc:AO r.conds) (fr:Nat) :
  ∃ v,(Builtin.len_ #[t] ty #[u]).run P w=.ok v w∧Eff β fr r w v w β:=by
 unfold nL at h;split at h
 ·rename_i _ n e hu;split at h
  ·rename_i hh;injection h with h;subst h;refine ⟨.int .i64 n,?_,Eff.pure_ g (Aw ⟨rfl,(Fy _ _).2 hh⟩)⟩
   simp [Builtin.len_,run_underlying hu,goInt]
  ·cases h
 ·rename_i e bk gu len cap hu;injection h with h;subst h;refine ⟨.int .i64 len,?_,Eff.pure_ g (Aw ⟨rfl,rfl,(Fy _ _).2 hc.1⟩)⟩
  rcases Az (hx _ rfl) with ⟨B,n,e1,e2⟩ | ⟨_,_,rfl,_,e2⟩ | ⟨_,_,rfl,_,_,_,e2⟩
  ·injection e2 with e2 _;subst e2;simp [Builtin.len_,run_underlying hu,goInt]
  ·injection e2 with e2 _;subst e2;simp [Builtin.len_,run_underlying hu,goInt]
  ·injection e2 with e2 _;subst e2;simp [Builtin.len_,run_underlying hu,goInt]
 ·rename_i e bk len sz hu;injection h with h;subst h;refine ⟨.int .i64 len,?_,Eff.pure_ g (Aw ⟨rfl,rfl,(Fy _ _).2 hc.1⟩)⟩
  rcases Az (hx _ rfl) with ⟨B,n,cap,e1,e2,_⟩ | ⟨_,rfl,e2⟩
  ·injection e2 with e2 _;subst e2;simp [Builtin.len_,run_underlying hu,goInt]
  ·injection e2 with e2 _;subst e2;simp [Builtin.len_,run_underlying hu,goInt]
 ·rename_i e A len cap hu;injection h with h;subst h;have:=(Az (hx _ rfl)).1
  injection this with e2 _;subst e2;refine ⟨.int .i64 len,?_,Eff.pure_ g (Aw ⟨rfl,rfl,(Fy _ _).2 hc.1⟩)⟩
  simp [Builtin.len_,run_underlying hu,goInt]
 ·cases h
def Zs (ja:Bool) (x y:Option AV) (gv:List Bool):Option R :=
 match Bv x,Bv y with
 | some (c,k,i),some (c',k',j)=>match decide (k=k') with
  | true=>match ja with
   | true=>some (CP (O9 (c&&c') k (if j > i then j else i)) gv)
   | false=>some (CP (O9 (c&&c') k (if j<i then j else i)) gv)
  | false=>none
 | _,_=>none
theorem ACD {ts:Array TypeId} {ty:TypeId} {ja:Bool} {x y:Option AV} {u v:Value} {gv:List Bool} {r:R} (g:Good β H w) (hx:∀ A,x=some A→AN β A u) (hy:∀ A,y=some A→AN β A v)
  (h:Zs ja x y gv=some r) (fr:Nat) :
  ∃ z,(match ja with | true=>Builtin.max_ ts ty #[u,v] | false=>Builtin.min_ ts ty #[u,v]).run P w=.ok z w∧Eff β fr r w z w β:=by
 unfold Zs at h;split at h
 ·rename_i c k i c' k' j ha hb;obtain ⟨rfl,h1⟩:=DJ hx ha;obtain ⟨rfl,h2⟩:=DJ hy hb;split at h
  ·rename_i hk;have hk':k=k':=by simpa using hk
   subst hk';split at h
   ·injection h with h;subst h;exact ⟨_,run_max_int2 w ts ty k k i j,Eff.pure_ g (O_ _ (by split<;>assumption))⟩
   ·injection h with h;subst h;exact ⟨_,run_min_int2 w ts ty k k i j,Eff.pure_ g (O_ _ (by split<;>assumption))⟩
  ·cases h
 ·cases h
def PA (H:Heap) (size:Nat) (x:Option AV) (n:Nat):Option (List Ch×dp) :=
 match x with
 | some (.val false [.v (.slice none _ _)])=>some ([],[(Nat.beq n 0,true)])
 | some (.val false [.sl bk gu _ _])=>match MI H bk with
  | some blk=>match blk.cs with
   | [.seq kd xs]=>match Nat.beq size 1 with
    | true=>some ([.seq kd ((xs.drop gu).take n)],[(Nat.ble (gu+n) xs.length,true)])
    | false=>none
   | cs=>match MG cs gu (n*size) with
    | some m=>some (m,[])
    | none=>none
  | none=>none
 | some (.val false [.sx bk _ _])=>match MI H bk with
  | some blk=>match blk.cs with
   | [.seq kd xs]=>match Nat.beq size 1 with
    | true=>some ([.seq kd (xs.take n)],[(Nat.ble n xs.length,true)])
    | false=>none
   | cs=>match MG cs 0 (n*size) with
    | some m=>some (m,[])
    | none=>none
  | none=>none
 | some (.val false [.v (.string s)])=>match Nat.beq size 1 with
  | true=>some ([.seq .u8 ((s.data.toList.take n).map fun b=>(b.toNat:Int))],[(Nat.ble n s.size,true)])
  | false=>none
 | _=>none
theorem nM {xs:dn} {kd:IntKind} {l:List Value} (h:AQ β [.seq kd xs] l):l=xs.map (.int kd)∧∀ x∈xs,has kd x:=by
 obtain ⟨l1,l2,h1,h2,h3⟩:=h;simp only [AQ] at h2;subst h2;rw [h3,ku];exact h1
theorem PB {xs:dn} {kd:IntKind} (h:∀ x∈xs,has kd x):AQ β [.seq kd xs] (xs.map (.int kd)):=⟨_,[],⟨rfl,h⟩,rfl,by simp⟩
theorem ACE {B gu k:Nat} {l t' pre:List Value} {ty:TypeId} {fz:Nat×Nat} (ho:w.heap[B]? = some (.cells ⟨pre++(l++t')⟩ ty fz)) (hfit:gu+k≤l.length) :
  (loadCells ⟨B,pre.length+gu,none⟩ k).run P w=.ok ⟨(l.drop gu).take k⟩ w:=by
 have gx:((l.drop gu).take k).length=k:=by simp;omega
 have:=run_loadCells_list (P:=P) w ⟨B,pre.length+gu,none⟩ ((l.drop gu).take k) (fun j v hj=>by
  rw [Addr.add_lit,mr];have hjl:j<((l.drop gu).take k).length:=by
   rcases jv j ((l.drop gu).take k).length with h' | h'
   ·exact h'
   ·rw [ma h'] at hj;cases hj
  rw [uk,je dk,qk] at hj;rw [WZ ho dk,← hj,mq])
 rw [gx] at this;exact this
theorem ACF {l t' pre:List Value} {gu k:Nat} (hfit:gu+k≤l.length):pre.length+gu+k≤(pre++(l++t')).length∧(l.drop gu).take k=((pre++(l++t')).drop (pre.length+gu)).take k:=by
 refine ⟨by simp;omega,?_⟩
 rw [← ni,List.drop_left,ti dk,tj (by simp;omega)]
def ACG (β:Env) (x:Option AV):Prop:=∀ bk gu len cap,x=some (.val false [.sl bk gu len cap])→β bk≠some .emp
theorem Wi {size n:Nat} {x:Option AV} {u:Value} {cs:List Ch} {c:dp} (g:Good β H w) (hx:∀ A,x=some A→AN β A u) (h:PA H size x n=some (cs,c)) (hc:AO c) :
  ∃ l,(∀ w',w'.heap=w.heap→(Builtin.firstCells size n u).run P w'=.ok ⟨l⟩ w')∧AQ β cs l∧l.length=n*size ∧
   (ACG β x→∀ B gu len cap cur e fz,u=.slice (some ⟨B,gu,none⟩) len cap→w.heap[B]? = some (.cells ⟨cur⟩ e fz)→gu+n*size≤cur.length∧l=(cur.drop gu).take (n*size)):=by
 have rng:∀ {bk gu:Nat} {blk:gt} {B:Nat} {nn:Nat×Nat} {len cap:Nat} {m:List Ch},MI H bk=some blk→β bk=some (.at_ B nn)→MG blk.cs gu (n*size)=some m →
   ∃ l,(∀ w',w'.heap=w.heap→(Builtin.firstCells size n (.slice (some ⟨B,nn.2+gu,none⟩) len cap)).run P w'=.ok ⟨l⟩ w')∧AQ β m l∧l.length=n*size ∧
    (∀ B' gw len' cap' cur e fz,Value.slice (some ⟨B,nn.2+gu,none⟩) len cap=.slice (some ⟨B',gw,none⟩) len' cap'→w.heap[B']? = some (.cells ⟨cur⟩ e fz)→gw+n*size≤cur.length∧l=(cur.drop gw).take (n*size)):=by
  intro bk gu blk B nn len cap m hb e1 hm;rcases g.cells hb with ⟨B',n',l,t',pre,ty',fz',e4,e2,e3,e0,_⟩ | ⟨X,e4,e2,_⟩
  ·rw [e1] at e4;injection e4 with e4;injection e4 with e4 e5;subst e4;subst e5;obtain ⟨h1,h2⟩:=Tk hm e2;rw [← e0];refine ⟨_,fun w' hw=>by simpa [Builtin.firstCells] using ACE (P:=P) (w:=w') (by rw [hw];exact e3) h2,h1,by simp;omega,?_⟩
   intro B' gw len' cap' cur e fz hu hh;injection hu with hu _;injection hu with hu;injection hu with hu1 hu2;subst hu1;subst hu2;rw [e3] at hh;injection hh with hh;injection hh with hh;injection hh with hh;subst hh;exact ACF h2
  ·rw [e1] at e4;injection e4 with e4;subst e4;exact e2.elim
 have sq:∀ {bk gu:Nat} {blk:gt} {B:Nat} {nn:Nat×Nat} {len cap:Nat} {kd:IntKind} {xs:dn},MI H bk=some blk→β bk=some (.at_ B nn)→blk.cs=[.seq kd xs]→size=1→gu+n≤xs.length →
   ∃ l,(∀ w',w'.heap=w.heap→(Builtin.firstCells size n (.slice (some ⟨B,nn.2+gu,none⟩) len cap)).run P w'=.ok ⟨l⟩ w')∧AQ β [.seq kd ((xs.drop gu).take n)] l∧l.length=n*size ∧
    (∀ B' gw len' cap' cur e fz,Value.slice (some ⟨B,nn.2+gu,none⟩) len cap=.slice (some ⟨B',gw,none⟩) len' cap'→w.heap[B']? = some (.cells ⟨cur⟩ e fz)→gw+n*size≤cur.length∧l=(cur.drop gw).take (n*size)):=by
  intro bk gu blk B nn len cap kd xs hb e1 hcs hsz ir;rcases g.cells hb with ⟨B',n',l,t',pre,ty',fz',e4,e2,e3,e0,_⟩ | ⟨X,e4,e2,_⟩
  ·rw [e1] at e4;injection e4 with e4;injection e4 with e4 e5;subst e4;subst e5;rw [hcs] at e2;obtain ⟨rfl,g_⟩:=nM e2;rw [← e0];have hfit:gu+n*size≤(xs.map (Value.int kd)).length:=by simp [hsz];omega
   have e9:((xs.map (Value.int kd)).drop gu).take (n*size)=((xs.drop gu).take n).map (.int kd):=by rw [hsz,kb,rk,si]
   refine ⟨(((xs.drop gu).take n).map (.int kd)),fun w' hw=>?_,PB (fun x hx=>g_ x (om (pp hx))),by simp [hsz];omega,?_⟩
   ·have:=ACE (P:=P) (w:=w') (by rw [hw];exact e3) hfit
    rw [e9] at this;simpa [Builtin.firstCells] using this
   ·intro B' gw len' cap' cur e fz hu hh;injection hu with hu _;injection hu with hu;injection hu with hu1 hu2;subst hu1;subst hu2;rw [e3] at hh;injection hh with hh;injection hh with hh;injection hh with hh;subst hh;rw [← e9];exact ACF hfit
  ·rw [e1] at e4;injection e4 with e4;subst e4;exact e2.elim
 have nilc:∀ {blk:gt} {bk gu:Nat} {u0:Value},(n*size=0→∀ w',(Builtin.firstCells size n u0).run P w'=.ok ⟨[]⟩ w')→MI H bk=some blk→(∀ B m,β bk≠some (.at_ B m))→(∀ kd xs,blk.cs=[.seq kd xs]→gu+n≤xs.length→∃ l,(∀ w',w'.heap=w.heap→(Builtin.firstCells size n u0).run P w'=.ok ⟨l⟩ w')∧AQ β [.seq kd ((xs.drop gu).take n)] l∧l.length=n*size∧l=[]) ∧
   (∀ m,MG blk.cs gu (n*size)=some m→∃ l,(∀ w',w'.heap=w.heap→(Builtin.firstCells size n u0).run P w'=.ok ⟨l⟩ w')∧AQ β m l∧l.length=n*size∧l=[]):=by
  intro blk bk gu u0 hu0 hb e1;rcases g.cells hb with ⟨B',n',l,t',pre,ty',fz',e4,_⟩ | ⟨_,_,_,e5⟩
  ·exact absurd e4 (e1 _ _)
  ·refine ⟨fun kd xs hcs ir=>?_,fun m hm=>?_⟩
   ·rw [hcs] at e5;obtain ⟨e6,_⟩:=nM e5;have iy:xs=[]:=by simpa using e6.symm
    subst iy;have hn:n=0:=by simp at ir;omega
    subst hn;exact ⟨[],fun w' _=>hu0 (by simp) w',PB (by simp),by simp,rfl⟩
   ·obtain ⟨h1,h2⟩:=Tk hm e5;have h3:n*size=0:=by simp at h2;omega
    exact ⟨[],fun w' _=>hu0 h3 w',by simpa using h1,by simp [h3],rfl⟩
 have hnone:n*size=0→∀ w',(Builtin.firstCells size n (.slice none 0 0)).run P w'=.ok ⟨[]⟩ w':=fun _ _=>rfl
 have hsome:∀ a m,n*size=0→∀ w',(Builtin.firstCells size n (.slice (some a) 0 m)).run P w'=.ok ⟨[]⟩ w':=fun a m h w'=>by simp [Builtin.firstCells,h,loadCells,loadCellsFrom]
 unfold PA at h;split at h
 ·injection h with h;injection h with h1 h2;subst h1;subst h2;have:=(Az (hx _ rfl)).1
  injection this with e _;subst e;have hn:=Ar.1 hc.1;subst hn;exact ⟨[],fun _ _=>rfl,rfl,by simp,fun _=>by simp⟩
 ·rename_i bk gu len cap;rcases Az (hx _ rfl) with ⟨B,nn,e1,e2⟩ | ⟨e1,rfl,rfl,rfl,e2⟩ | ⟨e1,rfl,rfl,rfl,a,M,e2⟩
  ·injection e2 with e2 _;subst e2;split at h
   ·rename_i blk hb;split at h
    ·rename_i kd xs hcs;split at h
     ·rename_i hsz;injection h with h;injection h with h1 h2;subst h1;subst h2;obtain ⟨l,q1,q2,q3,q4⟩:=sq (len:=len) (cap:=cap) hb e1 hcs (Ar.1 hsz) (jf hc.1)
      exact ⟨l,q1,q2,q3,fun _=>q4⟩
     ·cases h
    ·split at h
     ·rename_i m hm;injection h with h;injection h with h1 h2;subst h1;subst h2;obtain ⟨l,q1,q2,q3,q4⟩:=rng (len:=len) (cap:=cap) hb e1 hm
      exact ⟨l,q1,q2,q3,fun _=>q4⟩
     ·cases h
   ·cases h
  ·injection e2 with e2 _;subst e2;split at h
   ·rename_i blk hb;have iz:∀ B m,β bk≠some (.at_ B m):=fun B m e=>by rw [e1] at e;cases e
    split at h
    ·rename_i kd xs hcs;split at h
     ·rename_i hsz;injection h with h;injection h with h1 h2;subst h1;subst h2;obtain ⟨l,q1,q2,q3,q4⟩:=(nilc (gu:=0) hnone hb iz).1 kd xs hcs (jf hc.1)
      exact ⟨l,q1,q2,q3,fun _=>by simp⟩
     ·cases h
    ·split at h
     ·rename_i m hm;injection h with h;injection h with h1 h2;subst h1;subst h2;obtain ⟨l,q1,q2,q3,q4⟩:=(nilc (gu:=0) hnone hb iz).2 _ hm
      exact ⟨l,q1,q2,q3,fun _=>by simp⟩
     ·cases h
   ·cases h
  ·injection e2 with e2 _;subst e2;split at h
   ·rename_i blk hb;have iz:∀ B m,β bk≠some (.at_ B m):=fun B m e=>by rw [e1] at e;cases e
    split at h
    ·rename_i kd xs hcs;split at h
     ·rename_i hsz;injection h with h;injection h with h1 h2;subst h1;subst h2;obtain ⟨l,q1,q2,q3,q4⟩:=(nilc (gu:=0) (hsome a M) hb iz).1 kd xs hcs (jf hc.1)
      exact ⟨l,q1,q2,q3,fun iq=>absurd e1 (iq _ _ _ _ rfl)⟩
     ·cases h
    ·split at h
     ·rename_i m hm;injection h with h;injection h with h1 h2;subst h1;subst h2;obtain ⟨l,q1,q2,q3,q4⟩:=(nilc (gu:=0) (hsome a M) hb iz).2 _ hm
      exact ⟨l,q1,q2,q3,fun iq=>absurd e1 (iq _ _ _ _ rfl)⟩
     ·cases h
   ·cases h
 ·rename_i bk len sz;split at h
  ·rename_i blk hb;rcases Az (hx _ rfl) with ⟨B,nn,cap,e1,e2,_⟩ | ⟨e1,e0,e2⟩
   ·injection e2 with e2 _;subst e2;split at h
    ·rename_i kd xs hcs;split at h
     ·rename_i hsz;injection h with h;injection h with h1 h2;subst h1;subst h2;have:=sq (gu:=0) (len:=len) (cap:=cap) hb e1 hcs (Ar.1 hsz) (by simpa using jf hc.1)
      obtain ⟨l,q1,q2,q3,q4⟩:=this;exact ⟨l,q1,by simpa using q2,q3,fun _=>q4⟩
     ·cases h
    ·split at h
     ·rename_i m hm;injection h with h;injection h with h1 h2;subst h1;subst h2;obtain ⟨l,q1,q2,q3,q4⟩:=rng (len:=len) (cap:=cap) hb e1 hm
      exact ⟨l,q1,q2,q3,fun _=>q4⟩
     ·cases h
   ·injection e2 with e2 _;subst e2;have iz:∀ B m,β bk≠some (.at_ B m):=fun B m e=>by rw [e1] at e;cases e
    split at h
    ·rename_i kd xs hcs;split at h
     ·rename_i hsz;injection h with h;injection h with h1 h2;subst h1;subst h2;obtain ⟨l,q1,q2,q3,q4⟩:=(nilc (gu:=0) hnone hb iz).1 kd xs hcs (by simpa using jf hc.1)
      exact ⟨l,q1,by simpa using q2,q3,fun _=>by simp⟩
     ·cases h
    ·split at h
     ·rename_i m hm;injection h with h;injection h with h1 h2;subst h1;subst h2;obtain ⟨l,q1,q2,q3,q4⟩:=(nilc (gu:=0) hnone hb iz).2 _ hm
      exact ⟨l,q1,q2,q3,fun _=>by simp⟩
     ·cases h
  ·cases h
 ·rename_i s;split at h
  ·rename_i hsz;injection h with h;injection h with h1 h2;subst h1;subst h2;have:=(Az (hx _ rfl)).1
   injection this with e _;subst e;have ir:=jf hc.1;have hs1:=Ar.1 hsz;refine ⟨((s.data.toList.take n).map fun b=>Value.int .u8 b.toNat),fun w' _=>?_,?_,?_,fun _=>by simp⟩
   ·simp only [Builtin.firstCells,Sem.run_pure];congr 1
    apply mf
    rw [rb];congr 1
    simp [ByteArray.extract,ByteArray.copySlice]
   ·have:=PB (β:=β) (kd:=.u8) (xs:=(s.data.toList.take n).map fun b=>(b.toNat:Int)) (by
     intro x hx;obtain ⟨b,_,rfl⟩:=lv.1 hx;rw [Fy];have:=b.toNat_lt
     simp [AL];omega)
    rw [ny] at this;exact this
   ·rw [hs1];have:s.data.toList.length=s.size:=um
    rw [lh,ke];omega
  ·cases h
 ·cases h
theorem Tr {size n:Nat} {x:Option AV} {u:Value} {cs:List Ch} {c:dp} (g:Good β H w) (hx:∀ A,x=some A→AN β A u) (h:PA H size x n=some (cs,c)) (hc:AO c) :
  ∃ l,(Builtin.firstCells size n u).run P w=.ok ⟨l⟩ w∧AQ β cs l∧l.length=n*size :=
 let ⟨l,h1,h2,h3,_⟩:=Wi (P:=P) g hx h hc
 ⟨l,h1 w rfl,h2,h3⟩
end
section
variable {P:Program} {β:Env} {H:Heap} {w:World}
def A8 (kd:IntKind):List Ch→Option (dn)
 | []=>some []
 | .seq k l::r=>match decide (k=kd),r,A8 kd r with
  | true,[],_=>some l
  | true,_,some m=>some (l++m)
  | _,_,_=>none
 | .n k i::r=>match decide (k=kd),A8 kd r with | true,some m=>some (i::m) | _,_=>none
 | .v (.int k i)::r=>match decide (k=kd),A8 kd r with | true,some m=>some (i::m) | _,_=>none
 | .num k x::r=>match kd,A8 kd r with | .u64,some m=>some ((List.range k).map (AF x)++m) | _,_=>none
 | _=>none
theorem DU {kd:IntKind}:∀ {cs:List Ch} {xs:dn} {l:List Value},A8 kd cs=some xs→AQ β cs l→l=xs.map (.int kd)∧∀ x∈xs,has kd x
 | [],xs,l,h,hl=>by
  simp only [A8,jt] at h;simp only [AQ] at hl;subst h;subst hl;simp
 | c::cs,xs,l,h,hl=>by
  obtain ⟨l1,l2,h1,h2,h3⟩:=hl;unfold A8 at h;split at h
  ·cases ‹_::_=[]›
  ·rename_i k m r he;injection he with e1 e2;subst e1;subst e2;split at h
   ·have hk:decide (k=kd)=true:=by assumption
    injection h with h;subst h;simp only [AQ] at h2;subst h2;have:k=kd:=by simpa using hk
    subst this;rw [h3,ku];exact h1
   ·rename_i m' hk _ hm;injection h with h;subst h;have:k=kd:=by simpa using hk
    subst this;obtain ⟨i1,i2⟩:=DU hm h2;simp only [BM] at h1;refine ⟨by rw [h3,h1.1,i1,oq],fun x hx=>?_⟩
    rcases jp.1 hx with hx | hx
    ·exact h1.2 x hx
    ·exact i2 x hx
   ·cases h
  ·rename_i k i r he;injection he with e1 e2;subst e1;subst e2;split at h
   ·rename_i m hk hm;injection h with h;subst h;have:k=kd:=by simpa using hk
    subst this;obtain ⟨i1,i2⟩:=DU hm h2;simp only [BM] at h1;refine ⟨by rw [h3,h1.1,i1];rfl,fun x hx=>?_⟩
    rcases ju.1 hx with hx | hx
    ·rw [hx];exact h1.2
    ·exact i2 x hx
   ·cases h
  ·rename_i k i r he;injection he with e1 e2;subst e1;subst e2;split at h
   ·rename_i m hk hm;injection h with h;subst h;have:k=kd:=by simpa using hk
    subst this;obtain ⟨i1,i2⟩:=DU hm h2;simp only [BM] at h1;refine ⟨by rw [h3,h1.1,i1];rfl,fun x hx=>?_⟩
    rcases ju.1 hx with hx | hx
    ·rw [hx];exact h1.2.2
    ·exact i2 x hx
   ·cases h
  ·rename_i k x r he;injection he with e1 e2;subst e1;subst e2;split at h
   ·rename_i m hm;injection h with h;subst h;obtain ⟨i1,i2⟩:=DU hm h2;simp only [BM] at h1;refine ⟨?_,fun x hx=>?_⟩
    ·rw [h3,h1.2,i1,oq,ny];rfl
    ·rcases jp.1 hx with hx | hx
     ·obtain ⟨j,_,rfl⟩:=lv.1 hx;exact Zg _ _
     ·exact i2 x hx
   ·cases h
  ·cases h
def Wj (x:Option AV):Option Nat :=
 match x with
 | some (.val false [.sl _ _ len _])=>some len
 | some (.val false [.sx _ len _])=>some len
 | some (.val false [.v (.slice none len _)])=>some len
 | some (.val false [.v (.string s)])=>some s.size
 | _=>none
theorem Zt {x:Option AV} {u:Value} {n:Nat} (hx:∀ A,x=some A→AN β A u) (h:Wj x=some n):(Builtin.lenOf u).run P w=.ok n w:=by
 unfold Wj at h;split at h
 ·injection h with h;subst h;rcases Az (hx _ rfl) with ⟨B,m,e1,e2⟩ | ⟨_,_,rfl,_,e2⟩ | ⟨_,_,rfl,_,_,_,e2⟩
  ·injection e2 with e2 _;subst e2;rfl
  ·injection e2 with e2 _;subst e2;rfl
  ·injection e2 with e2 _;subst e2;rfl
 ·injection h with h;subst h;rcases Az (hx _ rfl) with ⟨B,m,cap,e1,e2,_⟩ | ⟨_,rfl,e2⟩
  ·injection e2 with e2 _;subst e2;rfl
  ·injection e2 with e2 _;subst e2;rfl
 ·injection h with h;subst h;have:=(Az (hx _ rfl)).1
  injection this with e2 _;subst e2;rfl
 ·injection h with h;subst h;have:=(Az (hx _ rfl)).1
  injection this with e2 _;subst e2;rfl
 ·cases h
def Zu (bk:Nat) (blk:gt) (gu k:Nat) (new:List Ch):Option (Heap×dp) :=
 match blk.cs with
 | [.seq kd xs]=>match A8 kd new with
  | some ys=>some ([(bk,some ⟨blk.ty,[.seq kd (xs.take gu++(ys++xs.drop (gu+k)))],blk.opn⟩)],[(Nat.ble (gu+k) xs.length,true)])
  | none=>none
 | cs=>match WV cs gu k new with
  | some m=>some ([(bk,some ⟨blk.ty,m,blk.opn⟩)],[])
  | none=>none
theorem ACH {bk gu k:Nat} {blk:gt} {new:List Ch} {u:Heap} {c:dp} {l ln:List Value} (h:Zu bk blk gu k new=some (u,c)) (hc:AO c) (hl:AQ β blk.cs l) (hn:AQ β new ln) :
  ∃ m,u=[(bk,some ⟨blk.ty,m,blk.opn⟩)]∧AQ β m (l.take gu++ln++l.drop (gu+k))∧gu+k≤l.length:=by
 unfold Zu at h;split at h
 ·rename_i kd xs hcs;split at h
  ·rename_i ys hy;injection h with h;injection h with h1 h2;subst h1;subst h2;rw [hcs] at hl;obtain ⟨rfl,g_⟩:=nM hl;obtain ⟨rfl,hall2⟩:=DU hy hn;have ir:=jf hc.1;refine ⟨_,rfl,?_,by simpa using ir⟩
   rw [← rk,← si,← oq,← oq,nq];refine PB fun x hx=>?_
   rcases jp.1 hx with hx | hx
   ·exact g_ x (pp hx)
   ·rcases jp.1 hx with hx | hx
    ·exact hall2 x hx
    ·exact g_ x (om hx)
  ·cases h
 ·split at h
  ·rename_i m hm;injection h with h;injection h with h1 h2;subst h1;subst h2;obtain ⟨r1,r2⟩:=mK hm hl hn;exact ⟨m,rfl,r1,r2⟩
  ·cases h
theorem ACI {B gu k:Nat} {l t' ln:List Value} {ty:TypeId} (ho:w.heap[B]? = some (.cells ⟨l++t'⟩ ty (0,0))) (hs:ln.length=k) (hfit:gu+k≤l.length) (h1:∀ v∈ln,v.oneCell'=true) :
  (storeCells ⟨B,gu,none⟩ ln).run P w=.ok () (w.setRow B ⟨(l.take gu++ln++l.drop (gu+k))++t'⟩):=by
 have:=run_storeCells_at P B gu ty ln 0 ⟨l++t'⟩ w ho (by simp;omega) h1
 simp only [nl] at this;have e1:(l++t').take gu=l.take gu:=tj dk
 have e2:(l++t').drop (gu+k)=l.drop (gu+k)++t':=ti dk
 simp only [e1,hs,e2] at this;simpa using this
def Zv (P:Program) (dT:TypeId) (d s:Option AV) (H:Heap) (gv:List Bool):Option R :=
 match P.underlying dT,d with
 | some (.slice e),some (.val false [.sl bk gu len _])=>match P.info? e,Wj s,AG H bk with
  | some inf,some m,some blk=>match PA H inf.size s (Nat.min m len) with
   | some (cs,c1)=>match Zu bk blk gu (Nat.min m len*inf.size) cs,Nat.ble Bu blk.ty,blk.opn with
    | some (u,c2),false,false=>some ⟨.any,u,0,c1++c2,gv⟩
    | _,_,_=>none
   | none=>none
  | _,_,_=>none
 | _,_=>none
theorem ANL {dT sT ty:TypeId} {d s:Option AV} {u v:Value} {gv:List Bool} {r:R} (g:Good β H w) (hx:∀ A,d=some A→AN β A u) (hy:∀ A,s=some A→AN β A v)
  (h:Zv P dT d s H gv=some r) (hc:AO r.conds) (fr:Nat):∃ z w',(Builtin.copy_ #[dT,sT] ty #[u,v]).run P w=.ok z w'∧Eff β fr r w z w' β:=by
 unfold Zv at h;split at h
 ·rename_i e bk gu len cap hu;split at h
  ·rename_i inf m blk hi hm hb;split at h
   ·rename_i cs c1 hs;split at h
    ·rename_i uu c2 hp hro hop;injection h with h;subst h;obtain ⟨o1,o2⟩:=B5.1 hc;obtain ⟨ln,f1,f2,f3⟩:=Tr (P:=P) g hy hs o1
     have gx:=Zt (P:=P) (w:=w) hy hm
     rcases Qw (g.heap _ _ hb) (O8 hro) with ⟨B',n',l,t',e4,e3,e5,e6,e7,e8⟩ | ⟨_,e4,_⟩
     ·rcases Az (hx _ rfl) with ⟨B,nn,e1,e2⟩ | ⟨e1,_⟩ | ⟨e1,_⟩
      case inr.inl=>rw [e1] at e4;cases e4
      case inr.inr=>rw [e1] at e4;cases e4
      injection e2 with e2 _;subst e2;rw [e1] at e4;injection e4 with e4;injection e4 with e4 e4';subst e4;subst e4';obtain ⟨mm,rfl,q1,q2⟩:=ACH hp o2 e3 f2;refine ⟨goInt (Nat.min m len),_,?_,Eff.write g e1 e5 q1 e6 (by rw [← e7];simp [f3];omega) e8 trivial⟩
      have:=ACI (P:=P) e5 f3 q2 (Tn f2)
      rw [ka];simp [Builtin.copy_,run_underlying hu,gx,sizeOf,typeInfo,hi,f1,this]
     ·rw [hop] at e4;cases e4
    ·cases h
   ·cases h
  ·cases h
 ·cases h
def nN (P:Program) (t:TypeId) (x:Option AV) (H:Heap) (gv:List Bool):Option R :=
 match P.underlying t,x with
 | some (.slice e),some (.val false [.sl bk gu len _])=>match len with
  | 0=>some (CP .any gv)
  | len+1=>match P.info? e,AG H bk with
   | some inf,some blk=>match inf.zero with
    | some z=>match NS (Builtin.zeroCells z.cells (len+1)).toList with
     | some zs=>match Zu bk blk gu (Builtin.zeroCells z.cells (len+1)).toList.length zs,Nat.ble Bu blk.ty with
      | some (u,c2),false=>some ⟨.any,u,0,c2,gv⟩
      | _,_=>none
     | none=>none
    | none=>none
   | _,_=>none
 | _,_=>none
theorem ANM {t ty:TypeId} {x:Option AV} {u:Value} {gv:List Bool} {r:R} (g:Good β H w) (hx:∀ A,x=some A→AN β A u)
  (h:nN P t x H gv=some r) (hc:AO r.conds) (fr:Nat):∃ z w',(Builtin.clear_ #[t] ty #[u]).run P w=.ok z w'∧Eff β fr r w z w' β:=by
 unfold nN at h;split at h
 ·rename_i e bk gu len cap hu;split at h
  ·injection h with h;subst h;rcases Az (hx _ rfl) with ⟨B,nn,e1,e2⟩ | ⟨e1,_,_,_,e2⟩ | ⟨e1,_,_,_,_,_,e2⟩
   ·injection e2 with e2 _;subst e2;exact ⟨.tuple #[],w,by simp [Builtin.clear_,run_underlying hu],Eff.pure_ g trivial⟩
   ·injection e2 with e2 _;subst e2;exact ⟨.tuple #[],w,by simp [Builtin.clear_,run_underlying hu],Eff.pure_ g trivial⟩
   ·injection e2 with e2 _;subst e2;exact ⟨.tuple #[],w,by simp [Builtin.clear_,run_underlying hu],Eff.pure_ g trivial⟩
  ·rename_i len;split at h
   ·rename_i inf blk hi hb;split at h
    ·rename_i z hz;split at h
     ·rename_i zs hzs;split at h
      ·rename_i uu c2 hp hro;injection h with h;subst h;have f2:=Tl (β:=β) hzs
       rcases Az (hx _ rfl) with ⟨B,nn,e1,e2⟩ | ⟨_,_,e2,_⟩ | ⟨_,_,e2,_⟩
       case inr.inl=>cases e2
       case inr.inr=>cases e2
       injection e2 with e2 _;subst e2;rcases Qw (g.heap _ _ hb) (O8 hro) with ⟨B',n',l,t',e4,e3,e5,e6,e7,e8⟩ | ⟨e4,_⟩
       ·rw [e1] at e4;injection e4 with e4;injection e4 with e4 e4';subst e4;subst e4';obtain ⟨mm,rfl,q1,q2⟩:=ACH hp hc e3 f2;refine ⟨.tuple #[],_,?_,Eff.write g e1 e5 q1 e6 (by rw [← e7];simp at q2 ⊢;omega) e8 trivial⟩
        have:=ACI (P:=P) e5 rfl q2 (Tn f2)
        rw [ka];simp [Builtin.clear_,run_underlying hu,zeroValue,typeInfo,hi,hz,this]
       ·rw [e1] at e4;cases e4
      ·cases h
     ·cases h
    ·cases h
   ·cases h
 ·cases h
theorem ACJ (need:Nat):∀ (r c:Nat),256≤c→c≤2*need→Builtin.growBy need r c≤2*need
 | 0,c,_,h=>h
 | r+1,c,h0,h=>by
  unfold Builtin.growBy;split
  ·exact h
  ·exact ACJ need r _ dk dk
theorem ACK {need old:Nat} (h:old<need):Builtin.nextslicecap need old≤2*need:=by
 unfold Builtin.nextslicecap;split
 ·omega
 ·split
  ·omega
  ·exact ACJ need 4 old dk dk
def Ts:TypeDesc→Bool
 | .slice _=>true
 | .string=>true
 | _=>false
theorem Zw {ts:Array TypeId} {sT xT e ty:TypeId} {d:TypeDesc} {inf:TypeInfo} {base:Option Addr} {sLen sCap n:Nat} {x:Value} {ln:List Value}
  (h0:ts[0]? = some sT) (h1:ts[1]? = some xT) (hu:P.underlying sT=some (.slice e)) (hi:P.info? e=some inf) (hx:P.underlying xT=some d) (hd:Ts d=true)
  (hn:(Builtin.lenOf x).run P w=.ok n w) (hf:(Builtin.firstCells inf.size n x).run P w=.ok ⟨ln⟩ w) (hfit:sLen+n≤sCap) :
  (Builtin.append_ ts ty #[.slice base sLen sCap,x]).run P w=match base with
   | some a=>((storeCells (a.add (sLen*inf.size)) ln).run P w).andThen fun _ w'=>.ok (.slice base (sLen+n) sCap) w'
   | none=>.ok (.slice none (sLen+n) sCap) w:=by
 cases base with
 | none =>
  cases d;case slice=>simp [Builtin.append_,h0,h1,run_underlying hu,run_underlying hx,sizeOf,typeInfo,hi,hn,hf,hfit]
  case string=>simp [Builtin.append_,h0,h1,run_underlying hu,run_underlying hx,sizeOf,typeInfo,hi,hn,hf,hfit]
  all_goals simp [Ts] at hd
 | some a =>
  cases d;case slice=>simp [Builtin.append_,h0,h1,run_underlying hu,run_underlying hx,sizeOf,typeInfo,hi,hn,hf,hfit]
  case string=>simp [Builtin.append_,h0,h1,run_underlying hu,run_underlying hx,sizeOf,typeInfo,hi,hn,hf,hfit]
  all_goals simp [Ts] at hd
theorem ANN {ts:Array TypeId} {sT xT e ty:TypeId} {d:TypeDesc} {inf:TypeInfo} {z:Value} {base:Option Addr} {sLen sCap n:Nat} {x:Value} {lo ln:List Value}
  (h0:ts[0]? = some sT) (h1:ts[1]? = some xT) (hu:P.underlying sT=some (.slice e)) (hi:P.info? e=some inf) (hz:inf.zero=some z) (hx:P.underlying xT=some d) (hd:Ts d=true)
  (hn:(Builtin.lenOf x).run P w=.ok n w) (ho:(Builtin.firstCells inf.size sLen (.slice base sLen sCap)).run P w.drew=.ok ⟨lo⟩ w.drew)
  (hf:(Builtin.firstCells inf.size n x).run P w.drew=.ok ⟨ln⟩ w.drew) (hgt:sCap<sLen+n) (hb1:1≤inf.bytes) (hb:2*(sLen+n)*inf.bytes≤281474976710656) :
  ∃ c,sLen+n≤c∧(Builtin.append_ ts ty #[.slice base sLen sCap,x]).run P w =
   .ok (.slice (some ⟨w.heap.size,0,none⟩) (sLen+n) c) (w.drew.alloc (.cells ⟨lo++ln++(Builtin.zeroCells z.cells (c-(sLen+n))).toList⟩ e)):=by
 have hc1:¬ (281474976710656<Builtin.nextslicecap (sLen+n) sCap*inf.bytes):=by
  have:=ACK hgt
  have:=me inf.bytes this
  omega
 have hb0:¬ inf.bytes=0:=dk
 have hnf:¬ (sLen+n≤sCap):=dk
 refine ⟨(Question.appendCap (sLen+n) sCap e).cut (w.tape w.drawn (.appendCap (sLen+n) sCap e)),?_,?_⟩
 ·simp only [Question.cut];omega
 ·cases d;case slice =>
   simp [Builtin.append_,h0,h1,run_underlying hu,run_underlying hx,sizeOf,typeInfo,hi,hn,hnf,hb0,hc1,Question.forced,zeroValue,hz,newRow,ho,hf]
   congr 2
   apply mf
   simp
  case string =>
   simp [Builtin.append_,h0,h1,run_underlying hu,run_underlying hx,sizeOf,typeInfo,hi,hn,hnf,hb0,hc1,Question.forced,zeroValue,hz,newRow,ho,hf]
   congr 2
   apply mf
   simp
  all_goals simp [Ts] at hd
end
section
variable {P:Program} {β:Env} {H:Heap} {w:World}
def nO (z:Value) (old new:List Ch):List Ch :=
 match z with
 | .int kd _=>match A8 kd old,A8 kd new with
  | some xs,some ys=>[.seq kd (xs++ys)]
  | _,_=>old++new
 | _=>old++new
theorem nP {z:Value} {old new:List Ch} {lo ln:List Value} (h1:AQ β old lo) (h2:AQ β new ln):AQ β (nO z old new) (lo++ln):=by
 unfold nO;split
 ·split
  ·rename_i xs ys hx hy;obtain ⟨rfl,a1⟩:=DU hx h1;obtain ⟨rfl,a2⟩:=DU hy h2;rw [← oq];exact PB fun x hx=>(jp.1 hx).elim (a1 x) (a2 x)
  ·exact O7 h1 h2
 ·exact O7 h1 h2
def D3 (fr:Nat) (e:TypeId) (inf:TypeInfo) (z:Value) (tomb:Heap) (old new:List Ch) (len n:Nat) (c1 c2:dp) (gv:List Bool):R :=
 ⟨.val false [.sx fr (len+n) inf.size],tomb++[(fr,some ⟨e,nO z old new,true⟩)],1,c1++(c2++[(decide (1≤inf.bytes∧2*(len+n)*inf.bytes≤281474976710656),true)]),gv⟩
def nQ (P:Program) (ts:Array TypeId) (s x:Option AV) (H:Heap) (fr:Nat) (gv:List Bool):Option R :=
 match ts[0]?,ts[1]? with
 | some sT,some xT=>match P.underlying sT,P.underlying xT with
  | some (.slice e),some d=>match Ts d,P.info? e with
   | true,some inf=>match inf.zero,Wj x with
    | some z,some n=>match Nat.beq z.cells.size inf.size&&z.cells.toList.all (fun v=>v.oneCell'),PA H inf.size x n with
     | true,some (new,c2)=>match s with
      | some (.val false [.v (.slice none 0 0)])=>some (D3 fr e inf z [] [] new 0 n [] c2 gv)
      | some (.val false [.sl bk 0 len cap])=>match PA H inf.size s len,AG H bk with
       | some (old,c1),some blk=>match Nat.beq blk.ty e,Nat.ble Bu blk.ty with
        | true,false=>some (D3 fr e inf z [(bk,none)] old new len n (c1++[(Nat.beq cap len,true)]) c2 gv)
        | _,true=>match blk.opn with
         | true=>some (D3 fr e inf z [] old new len n (c1++[(Nat.beq cap len&&Nat.blt 0 n,true)]) c2 gv)
         | false=>none
        | _,_=>none
       | _,_=>none
      | some (.val false [.sx bk len sz])=>match Nat.beq sz inf.size,PA H inf.size s len,AG H bk with
       | true,some (old,c1),some blk=>match Nat.beq blk.ty e,Nat.ble Bu blk.ty with
        | true,false=>some (D3 fr e inf z [(bk,none)] old new len n c1 c2 gv)
        | _,_=>none
       | _,_,_=>none
      | _=>none
     | _,_=>none
    | _,_=>none
   | _,_=>none
  | _,_=>none
 | _,_=>none
theorem ACL (z:Array Value) (n:Nat):(Builtin.zeroCells z n).toList.length=n*z.size:=by
 unfold Builtin.zeroCells;simp
theorem ANO {z:Value} (hz:∀ v∈z.cells.toList,v.oneCell'=true) (n:Nat):∀ v∈(Builtin.zeroCells z.cells n).toList,v.oneCell'=true:=by
 intro v hv;unfold Builtin.zeroCells at hv;simp only [rb,Array.toList_range,lv,lz] at hv;obtain ⟨i,hi,rfl⟩:=hv;have ie:0<z.cells.size:=by
  rcases lk z.cells.size with h | h
  ·rw [h] at hi;simp at hi
  ·exact h
 have ik:=jw i ie;rw [getElem!_pos z.cells _ ik];exact hz _ (by simp)
theorem ACM (z:Value) (hz:z.cells.toList.all (·.oneCell')=true) (n:Nat):∀ v∈(Builtin.zeroCells z.cells n).toList,v.oneCell'=true :=
 ANO (fun v hv=>mw.1 hz v hv) n
theorem Good.drew (g:Good β H w):Good β H w.drew:=⟨g.heap,g.inj,g.lt⟩
theorem ACN {fr n len:Nat} {e:TypeId} {inf:TypeInfo} {z:Value} {tomb:Heap} {old new:List Ch} {c1 c2:dp} {gv:List Bool} {lo ln gy:List Value} {c:Nat} (g:Good β H w)
  (hf:β fr=none) (h1:AQ β old lo) (h2:AQ β new ln) (htomb:∀ k y,(k,some y) ∉ tomb) (hc:len+n≤c) (gx:(lo++ln++gy).length=c*inf.size) (hrest:∀ v∈gy,v.oneCell'=true) :
  Eff β fr (D3 fr e inf z tomb old new len n c1 c2 gv) w (.slice (some ⟨w.heap.size,0,none⟩) (len+n) c) (w.drew.alloc (.cells ⟨lo++ln++gy⟩ e)) (β.put fr (.at_ w.heap.size (c*inf.size,0))) where
 ext:=Env.le_put _ hf
 new:=fun b X k=>by
  unfold Env.put at k;split at k
  ·rename_i hb;subst hb;injection k with k;subst k;exact .inr ⟨jj _,by simp [D3],fun B m e=>by injection e with e1 e2;subst e1;exact .inl (jj _)⟩
  ·exact .inl k
 lt:=fun b B m k=>by
  unfold Env.put at k;split at k
  ·injection k with k;injection k with k _;subst k;simp
  ·have:=g.lt _ _ _ k;simp;omega
 inj:=fun b b' _ _ _ h1 h2 h3 h4 _ _=>by simp [D3] at h3 h4;omega
 val:=Aw (.inl ⟨w.heap.size,c*inf.size,c,Env.put_same ..,rfl,hc,jj _⟩)
 upd:=fun k y hy=>by
  simp only [D3,jp,lg,jz,jt] at hy;rcases hy with hy | ⟨rfl,rfl⟩
  ·exact absurd hy (htomb _ _)
  ·exact Ze (l:=lo++ln) (t:=gy) (Env.put_same ..) (I1 (Env.le_put _ hf) (nP h1 h2)) (by show (w.heap.push _)[w.heap.size]? = _;simp) (fun h=>by simp at h) gx hrest
 frame:=fun B hB _=>by
  show (w.heap.push _)[B]? = _;rw [ss,jd dk]
 size:=by simp
 os:=rfl
 tape:=rfl
 output:=rfl
theorem ANP {fr n len bk B nB:Nat} {e:TypeId} {inf:TypeInfo} {z:Value} {old new:List Ch} {c1 c2:dp} {gv:List Bool} {lo ln gy cur:List Value} {cap:Nat} (g:Good β H w)
  (hf:β fr=none) (hb:β bk=some (.at_ B (nB,0))) (ho:w.heap[B]? = some (.cells ⟨cur⟩ e (0,0))) (h1:AQ β old lo) (h2:AQ β new ln) (gx:(lo++ln++gy).length=nB) (hcap:len+n≤cap) (hcapn:cap*inf.size≤nB)
  (hrest:∀ v∈gy,v.oneCell'=true) :
  Eff β fr (D3 fr e inf z [(bk,none)] old new len n c1 c2 gv) w (.slice (some ⟨B,0,none⟩) (len+n) cap) (w.setRow B ⟨lo++ln++gy⟩) (β.put fr (.at_ B (nB,0))) where
 ext:=Env.le_put _ hf
 new:=fun b X k=>by
  unfold Env.put at k;split at k
  ·rename_i hb';subst hb';injection k with k;subst k;exact .inr ⟨jj _,by simp [D3],fun B' m e=>by injection e with e1 e2;subst e1;exact .inr ⟨bk,(nB,0),by simp [D3],hb⟩⟩
  ·exact .inl k
 lt:=fun b B' m k=>by
  unfold Env.put at k;split at k
  ·injection k with k;injection k with k _;subst k;have:=g.lt _ _ _ hb;simpa [World.setRow] using this
  ·have:=g.lt _ _ _ k;simpa [World.setRow] using this
 inj:=fun b b' _ _ _ h1 h2 h3 h4 _ _=>by simp [D3] at h3 h4;omega
 val:=Aw (.inl ⟨B,nB,cap,Env.put_same ..,rfl,hcap,hcapn⟩)
 upd:=fun k y hy=>by
  simp only [D3,jp,lg,jz,jt] at hy;rcases hy with ⟨_,hy⟩ | ⟨rfl,rfl⟩
  ·cases hy
  ·exact Ze (l:=lo++ln) (t:=gy) (Env.put_same ..) (I1 (Env.le_put _ hf) (nP h1 h2)) (setRow_heap w B ⟨cur⟩ _ e (0,0) ho) (fun h=>by simp at h) gx hrest
 frame:=fun B' hB iq=>by
  have:B'≠B:=fun e=>iq bk none (nB,0) (by simp [D3]) (by rw [e];exact hb)
  simp only [World.setRow,sv];rw [jd dk]
 size:=by simp [World.setRow]
 os:=rfl
 tape:=rfl
 output:=rfl
theorem Zx {fr:Nat} {e:TypeId} {inf:TypeInfo} {z:Value} {tomb:Heap} {old new:List Ch} {c1 c2:dp} {gv:List Bool} (g:Good β H w)
  (hf:β fr=none) (h1:AQ β old []) (h2:AQ β new []) (htomb:∀ k y,(k,some y) ∉ tomb) :
  Eff β fr (D3 fr e inf z tomb old new 0 0 c1 c2 gv) w (.slice none 0 0) w (β.put fr .nil) where
 ext:=Env.le_put _ hf
 new:=fun b X k=>by
  unfold Env.put at k;split at k
  ·rename_i hb;subst hb;injection k with k;subst k;exact .inr ⟨jj _,by simp [D3],fun B m e=>by cases e⟩
  ·exact .inl k
 lt:=fun b B m k=>by
  unfold Env.put at k;split at k
  ·injection k with k;cases k
  ·exact g.lt _ _ _ k
 inj:=fun b b' _ _ _ h1 h2 h3 h4 _ _=>by simp [D3] at h3 h4;omega
 val:=Aw (.inr ⟨Env.put_same ..,rfl,rfl⟩)
 upd:=fun k y hy=>by
  simp only [D3,jp,lg,jz,jt] at hy;rcases hy with hy | ⟨rfl,rfl⟩
  ·exact absurd hy (htomb _ _)
  ·exact .inr (.inl ⟨.nil,Env.put_same ..,Or.inl rfl,I1 (Env.le_put _ hf) (by simpa using nP h1 h2)⟩)
 frame:=fun _ _ _=>rfl
 size:=jj _
 os:=rfl
 tape:=rfl
 output:=rfl
theorem ANQ {ts:Array TypeId} {ty fr:Nat} {s x:Option AV} {u v:Value} {gv:List Bool} {r:R} (g:Good β H w) (hx:∀ A,s=some A→AN β A u) (hy:∀ A,x=some A→AN β A v)
  (h:nQ P ts s x H fr gv=some r) (hc:AO r.conds) (hf:∀ b,fr≤b→b<fr+r.nw→β b=none) :
  ∃ q w' β',(Builtin.append_ ts ty #[u,v]).run P w=.ok q w'∧Eff β fr r w q w' β':=by
 unfold nQ at h;split at h;case h_2=>cases h
 rename_i sT xT h0 h1;split at h;case h_2=>cases h
 rename_i e d hu hd;split at h;case h_2=>cases h
 rename_i inf hsl hi;split at h;case h_2=>cases h
 rename_i z n hz hn;split at h;case h_2=>cases h
 rename_i new c2 hzs hs;have gx:=Zt (P:=P) (w:=w) hy hn
 have hlend:=Zt (P:=P) (w:=w.drew) hy hn
 have hzs2:=jo.1 hzs;have hzs':=Ar.1 hzs2.1;have hzone:=hzs2.2;have grow:∀ (base:Option Addr) (tomb:Heap) (old:List Ch) (len cap:Nat) (c1:dp) (lo:List Value),AO (D3 fr e inf z tomb old new len n c1 c2 gv).conds →
   (Builtin.firstCells inf.size len (.slice base len cap)).run P w.drew=.ok ⟨lo⟩ w.drew→AQ β old lo→lo.length=len*inf.size→(∀ k y,(k,some y) ∉ tomb)→β fr=none→cap<len+n →
   ∃ q w' β',(Builtin.append_ ts ty #[.slice base len cap,v]).run P w=.ok q w'∧Eff β fr (D3 fr e inf z tomb old new len n c1 c2 gv) w q w' β':=by
  intro base tomb old len cap c1 lo hcc hlo hrel hll ht hfr hgt;obtain ⟨_,hcc⟩:=B5.1 hcc;obtain ⟨o2,o3⟩:=B5.1 hcc;have o3:=o3.1;simp only [ji] at o3;obtain ⟨ln,f1,f2,f3⟩:=Tr (P:=P) g.drew hy hs o2
  obtain ⟨c,hcge,ii⟩:=ANN (ty:=ty) h0 h1 hu hi hz hd hsl gx hlo f1 hgt o3.1 o3.2
  refine ⟨_,_,_,ii,ACN g hfr hrel f2 ht hcge ?_ (ACM z hzone _)⟩
  simp only [kc,hll,f3,ACL,hzs'];rw [← k_,← k_];congr 1;omega
 have fit:∀ (bk B nB:Nat) (blk:gt) (old:List Ch) (len cap:Nat) (c1:dp) (lo:List Value),AO (D3 fr e inf z [(bk,none)] old new len n c1 c2 gv).conds →
   AG H bk=some blk→blk.ty=e→blk.ty<Bu→β bk=some (.at_ B (nB,0))→AQ β old lo →
   (∀ cur e fz,w.heap[B]? = some (.cells ⟨cur⟩ e fz)→0+len*inf.size≤cur.length∧lo=(cur.drop 0).take (len*inf.size))→β fr=none→len+n≤cap→(n=0∨cap*inf.size≤nB)→(n=0→cap*inf.size≤nB) →
   ∃ q w' β',(Builtin.append_ ts ty #[.slice (some ⟨B,0,none⟩) len cap,v]).run P w=.ok q w'∧Eff β fr (D3 fr e inf z [(bk,none)] old new len n c1 c2 gv) w q w' β':=by
  intro bk B nB blk old len cap c1 lo hcc hb hty hro e1 hrel hcur hfr hfit hcap hcap0;obtain ⟨_,hcc⟩:=B5.1 hcc;obtain ⟨o2,_⟩:=B5.1 hcc;obtain ⟨ln,n1,n2,n3⟩:=Tr (P:=P) g hy hs o2
  rcases Qw (g.heap _ _ hb) hro with ⟨B',n',l,t',e4,e3,e5,e6,e7,e8⟩ | ⟨e4,_⟩
  ·rw [e1] at e4;injection e4 with e4;injection e4 with e4 e4';injection e4' with e4' _;subst e4;subst e4';rw [hty] at e5;obtain ⟨q1,q2⟩:=hcur _ _ _ e5;have hcn:cap*inf.size≤nB:=hcap.elim hcap0 id
   have hln:(len+n)*inf.size≤(l++t').length:=by
    rw [e7];exact mb (me _ hfit) hcn
   rw [k_] at hln;have q3:lo=(l++t').take (len*inf.size):=by simpa using q2
   have hst:=run_storeCells_at P B (len*inf.size) e ln 0 ⟨l++t'⟩ w e5 (by rw [n3];simpa using hln) (Tn n2)
   simp only [nl,n3] at hst;refine ⟨_,_,_,?_,ANP (gy:=(l++t').drop (len*inf.size+n*inf.size)) (cap:=cap) g hfr e1 e5 hrel n2 ?_ hfit hcn ?_⟩
   ·have:=Zw (ty:=ty) (base:=some ⟨B,0,none⟩) (sLen:=len) (sCap:=cap) h0 h1 hu hi hd hsl gx n1 hfit
    rw [this];simp only [Addr.add_lit,ka,hst,Result.andThen_ok,q3]
   ·rw [← e7,q3];simp only [kc,ke,kv,n3] at hln ⊢;omega
   ·intro v hv;rcases jp.1 (om hv) with hv | hv
    ·exact Tn e3 v hv
    ·exact e8 v hv
  ·rw [e1] at e4;cases e4
 split at h
 ·
  injection h with h;subst h;have hfr:=hf fr (jj _) (by simp [D3])
  have:=(Az (hx _ rfl)).1
  injection this with e1 _;subst e1;rcases lk n with hn0 | ie
  ·subst hn0;have hc':AO (c2++_):=hc
   obtain ⟨o2,_⟩:=B5.1 hc';obtain ⟨ln,f1,f2,f3⟩:=Tr (P:=P) g hy hs o2
   have hl0:ln=[]:=sd.1 (by rw [f3];simp)
   subst hl0;refine ⟨_,_,_,?_,Zx g hfr rfl f2 (by simp)⟩
   have:=Zw (ty:=ty) (base:=none) (sLen:=0) (sCap:=0) h0 h1 hu hi hd hsl gx f1 (jj _)
   simpa using this
  ·exact grow none [] [] 0 0 [] [] hc rfl rfl (by simp) (by simp) hfr dk
 ·
  rename_i bk len cap;split at h;case h_2=>cases h
  rename_i old c1 blk hso hb;split at h;case h_3=>cases h
  case h_2 =>
   split at h;case h_2=>cases h
   rename_i hop;injection h with h;subst h;have hfr:=hf fr (jj _) (by simp [D3])
   obtain ⟨oo,_⟩:=B5.1 hc;obtain ⟨o1,oc⟩:=B5.1 oo;have oc':=jo.1 oc.1;have hcap:=Ar.1 oc'.1;have ie:0<n:=jf oc'.2
   subst hcap;obtain ⟨lo,f1,f2,f3,f4⟩:=Wi (P:=P) g hx hso o1
   rcases Az (hx _ rfl) with ⟨B,nn,e1,e2⟩ | ⟨e1,_,e0,_,e2⟩ | ⟨e1,_⟩
   case inr.inr=>exact absurd (AMm (g.heap _ _ hb) e1).1 (by rw [hop];decide)
   ·injection e2 with e2 _;subst e2;exact grow _ _ old _ _ _ lo hc (f1 _ rfl) f2 f3 (by simp) hfr dk
   ·injection e2 with e2 _;subst e2;subst e0;exact grow none _ old 0 0 _ lo hc (f1 _ rfl) f2 f3 (by simp) hfr dk
  rename_i hty hro;injection h with h;subst h;have hfr:=hf fr (jj _) (by simp [D3])
  obtain ⟨oo,_⟩:=B5.1 hc;obtain ⟨o1,oc⟩:=B5.1 oo;have hcap:=Ar.1 oc.1;subst hcap;obtain ⟨lo,f1,f2,f3,f4⟩:=Wi (P:=P) g hx hso o1
  rcases Qw (g.heap _ _ hb) (O8 hro) with ⟨B,nn,l,t',e4,e3,e5,e6,e7,e8⟩ | ⟨e4,_⟩
  ·rcases Az (hx _ rfl) with ⟨B',nn',e1,e2⟩ | ⟨e1,_⟩ | ⟨e1,_⟩
   case inr.inl=>rw [e1] at e4;cases e4
   case inr.inr=>rw [e1] at e4;cases e4
   have iq:ACG β (some (.val false [.sl bk 0 cap cap])):=fun _ _ _ _ q q'=>by cases q;rw [e1] at q';cases q'
   injection e2 with e2 _;subst e2;rw [e1] at e4;injection e4 with e4;injection e4 with e4 e4';subst e4;subst e4';rw [ka] at f1 f4 ⊢;rcases lk n with hn0 | ie
   ·refine fit bk _ nn blk old _ _ _ lo hc hb (Ar.1 hty) (O8 hro) e1 f2 (fun cur e fz hh=>f4 iq _ _ _ _ _ _ _ rfl hh) hfr dk (.inl hn0) (fun _=>?_)
    have:=(f4 iq _ _ _ _ _ _ _ rfl e5).1
    rw [e7] at this;omega
   ·exact grow _ _ old _ _ _ lo hc (f1 _ rfl) f2 f3 (by simp) hfr dk
  ·rcases Az (hx _ rfl) with ⟨B',nn',e1,e2⟩ | ⟨e1,_,e0,_,e2⟩ | ⟨e1,_⟩
   case inr.inr=>rw [e1] at e4;cases e4
   ·rw [e1] at e4;cases e4
   injection e2 with e2 _;subst e2;subst e0;have hl0:lo=[]:=sd.1 (by rw [f3];simp)
   subst hl0;rcases lk n with hn0 | ie
   ·subst hn0;obtain ⟨_,oo2⟩:=B5.1 hc;obtain ⟨o2,_⟩:=B5.1 oo2;obtain ⟨ln,n1,n2,n3⟩:=Tr (P:=P) g hy hs o2
    have hl0:ln=[]:=sd.1 (by rw [n3];simp)
    subst hl0;refine ⟨_,_,_,?_,Zx g hfr f2 n2 (by simp)⟩
    have:=Zw (ty:=ty) (base:=none) (sLen:=0) (sCap:=0) h0 h1 hu hi hd hsl gx n1 (jj _)
    simpa using this
   ·exact grow none _ old 0 0 _ [] hc rfl f2 (by simp) (by simp) hfr dk
 ·
  rename_i bk len sz;split at h;case h_2=>cases h
  rename_i old c1 blk hsz hso hb;split at h;case h_2=>cases h
  rename_i hty hro;injection h with h;subst h;have hfr:=hf fr (jj _) (by simp [D3])
  obtain ⟨o1,oo⟩:=B5.1 hc;have hsz':=Ar.1 hsz;subst hsz';obtain ⟨lo,f1,f2,f3,f4⟩:=Wi (P:=P) g hx hso o1
  rcases Az (hx _ rfl) with ⟨B,nn,cap,e1,e2,e3,e4⟩ | ⟨e1,e0,e2⟩
  ·injection e2 with e2 _;subst e2;rcases jv cap (len+n) with ik | hge
   ·exact grow _ _ old _ _ _ lo hc (f1 _ rfl) f2 f3 (by simp) hfr ik
   ·exact fit bk B nn blk old _ _ _ lo hc hb (Ar.1 hty) (O8 hro) e1 f2 (fun cur e fz hh=>f4 (fun _ _ _ _ q=>by cases q) _ _ _ _ _ _ _ rfl hh) hfr hge (.inr e4) (fun _=>e4)
  ·injection e2 with e2 _;subst e2;subst e0;have hl0:lo=[]:=sd.1 (by rw [f3];simp)
   subst hl0;rcases lk n with hn0 | ie
   ·subst hn0;obtain ⟨o2,_⟩:=B5.1 oo;obtain ⟨ln,n1,n2,n3⟩:=Tr (P:=P) g hy hs o2
    have hl0:ln=[]:=sd.1 (by rw [n3];simp)
    subst hl0;refine ⟨_,_,_,?_,Zx g hfr f2 n2 (by simp)⟩
    have:=Zw (ty:=ty) (base:=none) (sLen:=0) (sCap:=0) h0 h1 hu hi hd hsl gx n1 (jj _)
    simpa using this
   ·exact grow none _ old 0 0 _ [] hc rfl f2 (by simp) (by simp) hfr dk
 ·cases h
def BO (xs:dn):ByteArray:=xs.foldl (fun r n=>r.push (UInt8.ofNat n.toNat)) ByteArray.empty
def Zy (x:Option AV):Option Nat :=
 match x with
 | some (.val false [.sl _ _ len _])=>some len
 | some (.val false [.sx _ len _])=>some len
 | some (.val false [.v (.slice none len _)])=>some len
 | _=>none
theorem ANR {x:Option AV} {n:Nat} (h:Zy x=some n):Wj x=some n:=by
 unfold Zy at h;split at h
 all_goals first | (cases h;done) | exact h
def nS (P:Program) (src dst:TypeId) (x:Option AV) (H:Heap) (gv:List Bool):Option R :=
 match P.underlying src,P.underlying dst with
 | some (.slice e),some .string=>match P.underlying e,Zy x with
  | some (.int .u8),some n=>match PA H 1 x n with
   | some (cs,c)=>match A8 .u8 cs with
    | some xs=>some ⟨.val false [.v (.string (BO xs))],[],0,c,gv⟩
    | none=>none
   | none=>none
  | _,_=>none
 | _,_=>none
theorem ANS {src dst:TypeId} {x:Option AV} {u:Value} {gv:List Bool} {r:R} (g:Good β H w) (hx:∀ A,x=some A→AN β A u) (h:nS P src dst x H gv=some r) (hc:AO r.conds) (fr:Nat) :
  ∃ v,(convert src dst u).run P w=.ok v w∧Eff β fr r w v w β:=by
 unfold nS at h;split at h;case h_2=>cases h
 rename_i e hs hd;split at h;case h_2=>cases h
 rename_i n he hn;split at h;case h_2=>cases h
 rename_i cs c hcs;split at h;case h_2=>cases h
 rename_i xs iy;injection h with h;subst h;obtain ⟨l,f1,f2,f3⟩:=(show ∃ l,(∀ w',w'.heap=w.heap→(Builtin.firstCells 1 n u).run P w'=.ok ⟨l⟩ w')∧AQ β cs l∧l.length=n*1 from let ⟨l,f1,f2,f3,_⟩:=Wi (P:=P) g hx hcs hc;⟨l,f1,f2,f3⟩)
 obtain ⟨rfl,_⟩:=DU iy f2;have gx:=Zt (P:=P) (w:=w) hx (ANR hn)
 have f1:=f1 w rfl;rw [kb] at f3;refine ⟨.string (BO xs),?_,Eff.pure_ g (Aw ⟨rfl,rfl,trivial⟩)⟩
 have some_:∀ (a:Addr) (len cap:Nat),u=.slice (some a) len cap→(convert src dst u).run P w=.ok (.string (BO xs)) w:=by
  intro a len cap hu;subst hu;have hl:len=n:=by simpa [Builtin.lenOf] using gx
  subst hl;rw [run_convert_bytes_string w src dst e (some a) len cap hs he hd];exact run_bytesToString w a len cap xs (by simpa [Builtin.firstCells] using f1)
 have none_:u=.slice none 0 0→(convert src dst u).run P w=.ok (.string (BO xs)) w:=by
  intro hu;subst hu;have hl:0=n:=by simpa [Builtin.lenOf] using gx
  subst hl;have hx0:xs=[]:=by simpa using f3
  subst hx0;rw [run_convert_bytes_string w src dst e none 0 0 hs he hd];rfl
 unfold Zy at hn;split at hn
 ·rcases Az (hx _ rfl) with ⟨B,nn,e1,e2⟩ | ⟨_,_,_,_,e2⟩ | ⟨_,_,_,_,_,_,e2⟩
  ·injection e2 with e2 _;exact some_ _ _ _ e2
  ·injection e2 with e2 _;exact none_ e2
  ·injection e2 with e2 _;exact some_ _ _ _ e2
 ·rcases Az (hx _ rfl) with ⟨B,nn,cap,e1,e2,_⟩ | ⟨_,_,e2⟩
  ·injection e2 with e2 _;exact some_ _ _ _ e2
  ·injection e2 with e2 _;exact none_ e2
 ·rename_i len cap;have:=(Az (hx _ rfl)).1
  injection this with e2 _;subst e2;injection hn with hn;subst hn;rw [run_convert_bytes_string w src dst e none len cap hs he hd];have:xs=[]:=by
   have:=f1
   simp [Builtin.firstCells] at this
   simpa using this.symm
  subst this;rfl
 ·cases hn
def MP (s:ByteArray):dn:=s.data.toList.map fun b=>(b.toNat:Int)
theorem ANT (s:ByteArray):∀ x∈MP s,has .u8 x:=by
 intro x hx;obtain ⟨b,_,rfl⟩:=lv.1 hx;have:=b.toNat_lt
 rw [Fy];simp only [AL,jm,ji];omega
def nT (P:Program) (src dst:TypeId) (x:Option AV) (H:Heap) (fr:Nat) (gv:List Bool):Option R :=
 match P.underlying src,P.underlying dst with
 | some .string,some (.slice e)=>match P.underlying e,x with
  | some (.int .u8),some (.val false [.v (.string s)])=>some ⟨.val false [.sx fr s.size 1],[(fr,some ⟨Bu,[.seq .u8 (MP s)],true⟩)],1,[],gv⟩
  | _,_=>none
 | some (.slice _),some (.slice e)=>match P.underlying e,Nat.beq src dst,x with
  | some (.int .u8),true,some (.val false [.sl bk gu len cap])=>match AG H bk with
   | some ⟨ty,cs,false⟩=>match Nat.ble Bu ty with
    | false=>some ⟨.val false [.sl bk gu len cap],[(bk,some ⟨Bu,cs,false⟩)],0,[],gv⟩
    | true=>none
   | _=>none
  | _,_,_=>none
 | _,_=>none
theorem ANU {src dst fr:TypeId} {x:Option AV} {u:Value} {gv:List Bool} {r:R} (g:Good β H w) (hx:∀ A,x=some A→AN β A u) (h:nT P src dst x H fr gv=some r) (hf:∀ b,fr≤b→b<fr+r.nw→β b=none) :
  ∃ v w' β',(convert src dst u).run P w=.ok v w'∧Eff β fr r w v w' β':=by
 unfold nT at h;split at h;case h_3=>cases h
 ·rename_i e hs hd;split at h;case h_2=>cases h
  rename_i s he;injection h with h;subst h;have hfr:=hf fr (jj _) (by simp)
  have:=(Az (hx _ rfl)).1
  injection this with e2 _;subst e2;have hcap:s.size≤grownCap w s.size 0 e:=by unfold grownCap;simp only [Question.cut];omega
  refine ⟨_,_,β.put fr (.at_ w.heap.size (grownCap w s.size 0 e,0)),run_bytes_of_string w src dst e s hs hd he,?_⟩
  generalize grownCap w s.size 0 e=c at *
  exact {
   ext:=Env.le_put _ hfr
   new:=fun b X k=>by
    unfold Env.put at k;split at k
    ·rename_i hb;subst hb;injection k with k;subst k;exact .inr ⟨jj _,by simp,fun B m e=>by injection e with e1 e2;subst e1;exact .inl (jj _)⟩
    ·exact .inl k
   lt:=fun b B m k=>by
    unfold Env.put at k;split at k
    ·injection k with k;injection k with k _;subst k;simp
    ·have:=g.lt _ _ _ k;simp;omega
   inj:=fun b b' _ _ _ h1 h2 h3 h4 _ _=>by simp at h3 h4;omega
   val:=Aw (.inl ⟨w.heap.size,c,c,Env.put_same ..,rfl,hcap,dk⟩)
   upd:=fun k y hy=>by
    simp only [lg,jz,jt] at hy;obtain ⟨rfl,rfl⟩:=hy;refine .inl ⟨w.heap.size,(c,0),(MP s).map (.int .u8),Array.toList (Array.replicate (c-s.size) (.int .u8 0)),[],e,((bytesRow s c).size,(bytesRow s c).size+1),Env.put_same ..,PB (ANT s),?_,rfl,fun h=>absurd rfl h⟩
    show (w.heap.push _)[w.heap.size]? = _;rw [ss,je rfl];congr 2
    apply mf
    simp [bytesRow,MP]
   frame:=fun B hB _=>by
    show (w.heap.push _)[B]? = _;rw [ss,jd dk]
   size:=by simp
   os:=rfl
   tape:=rfl
   output:=rfl }
 ·rename_i e0 e hs hd;split at h;case h_2=>cases h
  rename_i bk gu len cap he hsd;split at h;case h_2=>cases h
  rename_i ty cs hb;split at h;case h_2=>cases h
  rename_i hro;injection h with h;subst h;have hro':=O8 hro;rcases Qw (g.heap _ _ hb) hro' with ⟨B,n,l,t',e4,e3,e5,e6,e7,e8⟩ | ⟨_,e4,_⟩
  case inr=>cases e4
  rcases Az (hx _ rfl) with ⟨B',nn,e1,e2⟩ | ⟨e1,_⟩ | ⟨e1,_⟩
  case inr.inl=>rw [e1] at e4;cases e4
  case inr.inr=>rw [e1] at e4;cases e4
  injection e2 with e2 _;subst e2;rw [e1] at e4;injection e4 with e4;injection e4 with e4 e4';subst e4;subst e4';obtain rfl:=Ar.1 hsd
  have hB:B'<w.heap.size:=by
   rcases jv B' w.heap.size with h | h
   ·exact h
   ·rw [Array.getElem?_eq_none h] at e5;cases e5
  refine ⟨.slice (some ⟨B',(n,0).2+gu,none⟩) len cap,w.freeze ⟨B',(l++t').length,none⟩ 1,β,?_,?_⟩
  ·obtain rfl:e0=e:=by rw [hs] at hd;injection hd with hd;injection hd
   have hsh:w.shape? B'=some (ty,(l++t').length):=by unfold World.shape?;rw [e5];rfl
   simp [convert,run_underlying hs,run_underlying he,markStringish,hsh]
  ·have hh:∀ b,(w.freeze ⟨B',(l++t').length,none⟩ 1).heap[b]? = if b=B' then some (.cells ⟨l++t'⟩ ty ((l++t').length,(l++t').length+1)) else w.heap[b]?:=by
    intro b;show (w.heap.modify B' _)[b]? = _;rw [sv];by_cases q:B'=b
    ·subst q;rw [je rfl,je rfl,e5];rfl
    ·rw [jd q,jd (fun h=>q h.symm)]
   have hsz:(w.freeze ⟨B',(l++t').length,none⟩ 1).heap.size=w.heap.size:=by
    show (w.heap.modify B' _).size=_;simp
   exact {
    ext:=Env.le_refl β
    new:=fun _ _ h=>.inl h
    lt:=fun b B m h=>by rw [hsz];exact g.lt _ _ _ h
    inj:=fun b b' _ _ _ h1 _ h3=>by simp at h3;omega
    val:=Aw (.inl ⟨B',(n,0),e1,rfl⟩)
    upd:=fun k y hy=>by
     simp only [lg,jz,jt] at hy;obtain ⟨rfl,rfl⟩:=hy;refine .inl ⟨B',(n,0),l,t',[],ty,((l++t').length,(l++t').length+1),e1,e3,?_,rfl,fun h=>absurd rfl h⟩
     rw [hh,je rfl];rfl
    frame:=fun b hB iq=>by
     have:b≠B':=fun e=>iq _ _ (n,0) (lg.2 rfl) (by rw [e];exact e1)
     rw [hh,jd this]
    size:=by rw [hsz];exact jj _
    os:=rfl
    tape:=rfl
    output:=rfl }
end
section
variable {P:Program} {β:Env} {H:Heap} {w:World}
def nU (P:Program) (t:TypeId) (rs:Option Operand) (fr:Nat) (gv:List Bool):Option R :=
 match P.underlying t,rs with
 | some (.map kT eT),none=>match P.underlying kT,P.info? eT with
  | some .string,some inf=>some ⟨.val false [.mp fr],[(fr,some ⟨Jr+inf.size,[.mk],false⟩)],1,[],gv⟩
  | _,_=>none
 | _,_=>none
theorem ANV {t:TypeId} {rs:Option Operand} {fr:Nat} {gv:List Bool} {r:R} (g:Good β H w) (h:nU P t rs fr gv=some r) (hf:∀ b,fr≤b→b<fr+r.nw→β b=none) :
  rs=none∧∃ u w' β',(Instr.makeMap t none).run P w=.ok u w'∧Eff β fr r w u w' β':=by
 unfold nU at h;split at h;case h_2=>cases h
 rename_i kT eT _ _;split at h;case h_2=>cases h
 rename_i inf _ _;injection h with h;subst h;have hfr:=hf fr (jj _) (by simp)
 refine ⟨rfl,.map (some w.heap.size),w.alloc (.map #[] 0),β.put fr (.at_ w.heap.size (0,0)),by simp [Instr.makeMap],?_⟩
 exact {
  ext:=Env.le_put _ hfr
  new:=fun b X k=>by
   unfold Env.put at k;split at k
   ·rename_i hb;subst hb;injection k with k;subst k;exact .inr ⟨jj _,by simp,fun B n e=>by injection e with e1 e2;subst e1;exact .inl (jj _)⟩
   ·exact .inl k
  lt:=fun b B m k=>by
   unfold Env.put at k;split at k
   ·injection k with k;injection k with k _;subst k;simp
   ·have:=g.lt _ _ _ k;simp;omega
  inj:=fun b b' _ _ _ h1 h2 h3 h4 _ _=>by simp at h3 h4;omega
  val:=Aw ⟨_,Env.put_same ..,rfl⟩
  upd:=fun k y hy=>by
   simp only [lg,jz,jt] at hy;obtain ⟨rfl,rfl⟩:=hy;exact .inr (.inr ⟨w.heap.size,[],#[],0,Env.put_same ..,Nat.le_add_right _ _,⟨[_],[],rfl,rfl,rfl⟩,by show (w.heap.push _)[w.heap.size]? = _;simp,rfl,fun e he=>by cases he⟩)
  frame:=fun B hB _=>by
   show (w.heap.push _)[B]? = _;rw [ss,jd dk]
  size:=by simp
  os:=rfl
  tape:=rfl
  output:=rfl }
def Q4 (s:Nat) (k:ByteArray):Nat→List Ch→List Bool→Option (Option (List Ch)×dp×List Bool)
 | _,[],gv=>some (none,[],gv)
 | n+1,.v (.string st)::cs,gv=>match GG cs s with
  | some (a,r)=>match gv with
   | true::p=>some (some a,[(k==st,true)],p)
   | false::p=>match Q4 s k n r p with
    | some (x,c,q)=>some (x,(k==st,false)::c,q)
    | none=>none
   | []=>none
  | none=>none
 | _,_,_=>none
theorem Zz {s:Nat} {k:ByteArray}:∀ {n:Nat} {cs:List Ch} {gv:List Bool} {x:Option (List Ch)} {c:dp} {q:List Bool} {es:List MapEntry} {l:List Value},
  Q4 s k n cs gv=some (x,c,q)→AO c→AQ β cs l→mI s es l→∀ i:Nat,
   match x with
   | some a=>∃ j v,Instr.findNow .string (.string k) es i=some (some (j,v))∧Bx β true a v
   | none=>Instr.findNow .string (.string k) es i=some none
 | n,[],gv,x,c,q,es,l,h,hc,hl,he,i=>by
  simp only [Q4,jt,jz] at h;obtain ⟨rfl,rfl,rfl⟩:=h;simp only [AQ] at hl;subst hl;cases es with
  | nil=>rfl
  | cons e es=>have:=he.1;simp at this
 | 0,c0::cs,gv,x,c,q,es,l,h,hc,hl,he,i=>by simp [Q4] at h
 | n+1,c0::cs,gv,x,c,q,es,l,h,hc,⟨l1,l2,h1,h2,h3⟩,he,i=>by
  unfold Q4 at h;split at h
  ·rename_i e;cases e
  ·rename_i st cs' p e1 e2;injection e2 with e2 e3;subst e2;subst e3;injection e1 with e1;subst e1;split at h;case h_2=>cases h
   rename_i a r hs;simp only [BM] at h1;obtain ⟨rfl,_⟩:=h1;cases es with
   | nil=>have:=he.1;rw [h3] at this;simp at this
   | cons e es =>
    obtain ⟨⟨st',hk⟩,cc,hv,hn⟩:=he.2 e (qg ..)
    have h4:=he.1;rw [h3,List.flatMap_cons,hk,hv] at h4;simp only [nh,qh,Value.string.injEq] at h4;obtain ⟨h5,h4⟩:=h4;subst h5;obtain ⟨f1,f2,f3⟩:=I2 hs h2;have h6:(Value.agg ⟨cc⟩).cells.toList=cc:=rfl
    rw [h6,nm] at h4;have h7:l2.take s=cc:=by rw [h4,List.take_left' hn]
    have h8:l2.drop s=es.flatMap fun e=>e.key::e.val.cells.toList:=by rw [h4,List.drop_left' hn]
    rw [h7] at f1;rw [h8] at f2;split at h
    ·simp only [jt,jz] at h;obtain ⟨rfl,rfl,rfl⟩:=h;refine ⟨i,e.val,?_,?_⟩
     ·simp [Instr.findNow,Instr.sameNow,hk,hc.1]
     ·rw [hv];exact ⟨cc,f1,rfl⟩
    ·split at h;case h_2=>cases h
     rename_i y c' q' hq;simp only [jt,jz] at h;obtain ⟨rfl,rfl,rfl⟩:=h;have ih:=Zz hq hc.2 f2 ⟨rfl,fun e he'=>he.2 e (nx _ he')⟩ (i+1)
     have hstep:Instr.findNow .string (.string k) (e::es) i=Instr.findNow .string (.string k) es (i+1):=by
      simp [Instr.findNow,Instr.sameNow,hk,hc.1]
     rw [hstep];exact ih
    ·cases h
  ·cases h
def nV (P:Program) (t:TypeId) (x ix:Option AV) (ok:Bool) (H:Heap) (gv:List Bool):Option R :=
 match P.underlying t,x,ix with
 | some (.map kT eT),some (.val false [.mp bk]),some (.val false [.v (.string k)])=>match P.underlying kT,P.info? eT,AG H bk with
  | some .string,some inf,some ⟨ty,.mk::cs,_⟩=>match Nat.beq ty (Jr+inf.size),ok with
   | true,true=>match Q4 inf.size k cs.length cs gv with
    | some (some a,c,q)=>some ⟨.tup [(true,a),(false,[.b true])],[],0,c,q⟩
    | some (none,c,q)=>match inf.zero with
     | some (.agg ⟨z⟩)=>match NS z with
      | some zc=>some ⟨.tup [(true,zc),(false,[.b false])],[],0,c,q⟩
      | none=>none
     | _=>none
    | none=>none
   | _,_=>none
  | _,_,_=>none
 | _,_,_=>none
theorem ACO {B bk:Nat} {blk:gt} {cs:List Ch} (g:Good β H w) (hB:β bk=some (.at_ B (0,0))) (hb:AG H bk=some blk) (hcs:blk.cs=.mk::cs) (ht:Jr≤blk.ty) :
  ∃ l es clock,AQ β cs l∧w.heap[B]? = some (.map es clock)∧mI (blk.ty-Jr) es.toList l:=by
 rcases g.heap _ _ hb with ⟨B',n,l,t,pre,ty,fz,h1,h2,h3,h4,h5⟩ | ⟨X,h1,hX,_⟩ | ⟨B',l,es,q,h1,h2,h3,h4⟩
 ·exfalso
  rw [hB] at h1;injection h1 with h1;injection h1 with _ h1;subst h1;obtain ⟨_,_,_,_,h6,_⟩:=h5 (fun e=>by rw [e] at ht;exact absurd ht dl)
  rw [hcs] at h2;have:=Tj h2
  simp only [ME,FF] at this;simp at h6
  rw [h6.1] at this;simp at this
  omega
 ·rw [hB] at h1;injection h1 with h1;subst h1;exact hX.elim
 ·rw [hB] at h1;injection h1 with h1;injection h1 with h1 _;subst h1;rw [hcs] at h3;obtain ⟨l1,l2,h3,h5,h6⟩:=h3;simp only [BM] at h3;subst h3;simp only [List.singleton_append,qh,true_and] at h6;subst h6;exact ⟨_,es,q,h5,h4⟩
theorem ANW {t:TypeId} {x ix:Option AV} {u v:Value} {ok:Bool} {gv:List Bool} {r:R} (g:Good β H w) (hx:∀ A,x=some A→AN β A u) (hi:∀ A,ix=some A→AN β A v)
  (h:nV P t x ix ok H gv=some r) (hc:AO r.conds) (fr:Nat):∃ z,(Instr.lookup t u v ok).run P w=.ok z w∧Eff β fr r w z w β:=by
 unfold nV at h;split at h;case h_2=>cases h
 rename_i kT eT bk k hu;obtain ⟨B,hB,h1⟩:=Az (hx _ rfl)
 injection h1 with h1 _;subst h1;have h2:=(Az (hi _ rfl)).1
 injection h2 with h2 _;subst h2;split at h;case h_2=>cases h
 rename_i inf ty cs o hk he hb;split at h;case h_2=>cases h
 rename_i hty;obtain ⟨l,es,clock,q1,q2,q3⟩:=ACO g hB hb rfl (by rw [Ar.1 hty];exact Nat.le_add_right _ _)
 simp only [Ar.1 hty,te] at q3;have hkey:(Instr.checkKey es.isEmpty 10000 kT (.string k)).run P w=.ok () w:=by
  unfold Instr.checkKey;simp only [Sem.run_bind,run_underlying hk,Result.andThen];rfl
 split at h
 ·rename_i a c q hf;injection h with h;subst h;obtain ⟨j,y,e1,e2⟩:=Zz hf hc q1 q3 0;refine ⟨.tuple #[y,.bool true],?_,Eff.pure_ g ⟨_,⟨y,_,e2,⟨_,_,Aw rfl,rfl,rfl⟩,rfl⟩,rfl⟩⟩
  simp [Instr.lookup,run_underlying hu,Result.andThen,Go.MapKept.run_getObj_map q2,hkey,Go.MapKept.run_findKey hk e1]
 ·rename_i c q hf;split at h;case h_2=>cases h
  rename_i z hz;split at h;case h_2=>cases h
  rename_i zc hzc;injection h with h;subst h;have e1:=Zz hf hc q1 q3 0;refine ⟨.tuple #[.agg ⟨z⟩,.bool false],?_,Eff.pure_ g ⟨_,⟨_,_,⟨z,Tl hzc,rfl⟩,⟨_,_,Aw rfl,rfl,rfl⟩,rfl⟩,rfl⟩⟩
  simp [Instr.lookup,run_underlying hu,Result.andThen,Go.MapKept.run_getObj_map q2,hkey,Go.MapKept.run_findKey hk e1,zeroValue,typeInfo,he,hz]
 ·cases h
def nW (P:Program) (t:TypeId) (m k v:Option AV) (H:Heap) (gv:List Bool):Option R :=
 match P.underlying t,m,k,v with
 | some (.map kT _),some (.val false [.mp bk]),some (.val false [.v (.string k)]),some (.val true vc)=>match P.underlying kT,AG H bk with
  | some .string,some ⟨ty,.mk::cs,o⟩=>match Nat.beq ty (Jr+ME vc),Q4 (ME vc) k cs.length cs gv with
   | true,some (none,c,q)=>some ⟨.any,[(bk,some ⟨ty,.mk::(cs++.v (.string k)::vc),o⟩)],0,c,q⟩
   | _,_=>none
  | _,_=>none
 | _,_,_,_=>none
theorem ANX {t:TypeId} {x k y:Option AV} {u s v:Value} {gv:List Bool} {r:R} (g:Good β H w) (hx:∀ A,x=some A→AN β A u) (hk:∀ A,k=some A→AN β A s) (hy:∀ A,y=some A→AN β A v)
  (h:nW P t x k y H gv=some r) (hc:AO r.conds) (fr:Nat):∃ w',(Instr.mapUpdate t u s v).run P w=.ok () w'∧Eff β fr r w undef w' β:=by
 unfold nW at h;split at h;case h_2=>cases h
 rename_i kT eT bk kk vc hu;obtain ⟨B,hB,h1⟩:=Az (hx _ rfl)
 injection h1 with h1 _;subst h1;have h2:=(Az (hk _ rfl)).1
 injection h2 with h2 _;subst h2;obtain ⟨vl,hv,rfl⟩:=hy _ rfl;split at h;case h_2=>cases h
 rename_i ty cs o hkT hb;split at h;case h_2=>cases h
 rename_i c q hty hf;injection h with h;subst h;have ir:Jr≤ty:=by rw [Ar.1 hty];exact Nat.le_add_right _ _
 obtain ⟨l,es,clock,q1,q2,q3⟩:=ACO g hB hb rfl ir;simp only [Ar.1 hty,te] at q3;have e1:=Zz hf hc q1 q3 0;have hkey:(Instr.checkKey false 10000 kT (.string kk)).run P w=.ok () w:=by
  unfold Instr.checkKey;simp only [Sem.run_bind,run_underlying hkT,Result.andThen];rfl
 obtain ⟨s1,s2⟩:=Go.MapKept.heap_set (o':=.map (es.push { key:=.string kk,val:=.agg ⟨vl⟩,born:=clock }) (clock+1)) q2
 refine ⟨{ w with heap:=w.heap.setIfInBounds B (.map (es.push { key:=.string kk,val:=.agg ⟨vl⟩,born:=clock }) (clock+1)) },?_,?_⟩
 ·simp [Instr.mapUpdate,run_underlying hu,Result.andThen,Go.MapKept.run_getObj_map q2,hkey,Go.MapKept.run_findKey hkT e1,Go.MapKept.run_setObj_map _ q2]
 ·exact {
   ext:=Env.le_refl β
   new:=fun _ _ h=>.inl h
   lt:=fun b B' m h=>by have:=g.lt _ _ _ h;simpa using this
   inj:=fun b b' _ _ _ h1 _ h3=>by simp at h3;omega
   val:=trivial
   upd:=fun k y hy=>by
    simp only [lg,jz,jt] at hy;obtain ⟨rfl,rfl⟩:=hy;refine .inr (.inr ⟨B,l++(.string kk::vl),_,_,hB,ir,⟨[_],_,rfl,O7 q1 ⟨[_],vl,⟨rfl,rfl,trivial⟩,hv,rfl⟩,rfl⟩,s1,?_,?_⟩)
    ·rw [Array.toList_push,List.flatMap_append,← q3.1,List.flatMap_cons,List.flatMap_nil,ku];rfl
    ·intro e he;simp only [Array.toList_push,jp,lg] at he;simp only [Ar.1 hty,te];rcases he with he | rfl
     ·exact q3.2 e he
     ·exact ⟨⟨_,rfl⟩,vl,rfl,Tj hv⟩
   frame:=fun B' hB' iq=>s2 B' fun e=>iq _ _ (0,0) (lg.2 rfl) (by rw [e];exact hB)
   size:=by simp
   os:=rfl
   tape:=rfl
   output:=rfl }
end
end Go.Proofs.YtgnajdcdcblaoaaGreat.Ex
namespace Go.Proofs.YtgnajdcdcblaoaaGreat
theorem fm {α} {P:α→Prop} {x:α} (h:P x):∀ A,some x=some A→P A:=fun A hA=>by injection hA with hA;subst hA;exact h
end Go.Proofs.YtgnajdcdcblaoaaGreat
namespace Go.Proofs.YtgnajdcdcblaoaaGreat.Ex
abbrev ASpec:=List AV→Heap→Nat→List Bool→Option R
structure gr where
 call:FuncId→Option ASpec
 eqt:TypeId→Option (List (Option IntKind))
def BI (β:Env):List AV→List Value→Prop
 | [],l=>l=[]
 | x::xs,l=>∃ u us,AN β x u∧BI β xs us∧l=u::us
theorem ACP {β:Env}:∀ {xs ys:List AV} {us vs:List Value},BI β xs us→BI β ys vs→BI β (xs++ys) (us++vs)
 | [],_,us,_,h,k=>by simp only [BI] at h;subst h;simpa using k
 | x::xs,ys,us,vs,⟨u,us',h1,h2,h3⟩,k=>⟨u,us'++vs,h1,ACP h2 k,by simp [h3]⟩
def NU (P:Program) (f:FuncId) (args:Array Value) (w:World) (R:Ending→World→Prop):Prop :=
 match (callFunc f args).run P w with
 | .ok (.value v) w'=>R (.returned v) w'
 | .ok (.enter f' args') w'=>Calls P f' args' w' R
 | _=>False
def Z0 (β:Env) (fr:Nat) (r:R) (w:World):Ending→World→Prop:=fun e w'=>∃ u β',e=.returned u∧Eff β fr r w u w' β'
def BJ (P:Program) (f:FuncId) (s:ASpec):Prop :=
 ∀ (args:List AV) (H:Heap) (fr:Nat) (gv:List Bool) (r:R) (β:Env) (us:List Value) (w:World),s args H fr gv=some r→AO r.conds→BI β args us→Good β H w →
  (∀ b,fr≤b→b<fr+r.nw→β b=none)→NU P f ⟨us⟩ w (Z0 β fr r w)
structure gp (P:Program) (O:gr):Prop where
 call:∀ f s,O.call f=some s→BJ P f s
 eqt:∀ t ks,O.eqt t=some ks→GK P 20 t=some ks∧P.eqGuardType P.depth t=false∧(match P.underlying t with | some d=>wide d | none=>false)=true
def PC (τ:Nat→AV):List Operand→Option (List AV)
 | []=>some []
 | x::xs=>match B8 τ x,PC τ xs with
  | some a,some r=>some (a::r)
  | _,_=>none
theorem Z1 {β:Env} {τ:Nat→AV} {a:Act} (ht:∀ t,AN β (τ t) (a.tmps.getD t undef)):∀ {xs:List Operand} {r:List AV},PC τ xs=some r→BI β r (xs.map a.eval)
 | [],r,h=>by simp only [PC,jt] at h;subst h;rfl
 | x::xs,r,h=>by
  simp only [PC] at h;split at h
  ·rename_i A r' h1 h2;injection h with h;subst h;exact ⟨_,_,I5 ht h1,Z1 ht h2,rfl⟩
  ·cases h
def Tt:List (Nat×Nat)→List AV
 | []=>[]
 | (b,o)::r=>.val false [.p b o]::Tt r
theorem nZ {β:Env}:∀ {caps:List (Nat×Nat)} {ps:List Value},GE β caps ps→BI β (Tt caps) ps
 | [],ps,h=>by simpa [GE,BI,Tt] using h
 | (b,o)::r,ps,⟨B,n,l',h1,h2,h3⟩=>⟨_,l',Aw ⟨B,n,h1,rfl⟩,nZ h2,h3⟩
def Wk:List AV→Option (List (Nat×Nat))
 | []=>some []
 | .val false [.p b o]::r=>match Wk r with | some l=>some ((b,o)::l) | none=>none
 | _=>none
theorem ACQ {β:Env}:∀ {xs:List AV} {caps:List (Nat×Nat)} {us:List Value},Wk xs=some caps→BI β xs us→GE β caps us
 | [],caps,us,h,hr=>by simp only [Wk,jt] at h;subst h;simpa [GE,BI] using hr
 | x::xs,caps,us,h,hr=>by
  unfold Wk at h;split at h
  ·cases ‹_::_=[]›
  ·rename_i b o r he;injection he with e1 e2;subst e1;subst e2;split at h
   ·rename_i l hl;injection h with h;subst h;obtain ⟨u,us',h1,h2,h3⟩:=hr;obtain ⟨B,n,e1,e2⟩:=Az h1;injection e2 with e2 _;subst e2;exact ⟨B,n,us',e1,ACQ hl h2,h3⟩
   ·cases h
  ·cases h
def n5 (P:Program) (t:TypeId) (x:Option AV) (gv:List Bool):Option R :=
 match P.underlying t,x with
 | some (.slice _),some (.val false [.v (.slice none _ m)])=>match AL .i64 m with
  | true=>some (CP (.val false [.n .i64 m]) gv)
  | false=>none
 | some (.slice _),some (.val false [.sl _ _ _ m])=>some ⟨.val false [.v (.int .i64 m)],[],0,[(AL .i64 m,true),(Nat.ble 1 m,true)],gv⟩
 | _,_=>none
theorem ANY {P:Program} {β:Env} {H:Heap} {w:World} {t ty:TypeId} {x:Option AV} {u:Value} {gv:List Bool} {r:R} (g:Good β H w) (hx:∀ A,x=some A→AN β A u) (h:n5 P t x gv=some r) (hc:AO r.conds) (fr:Nat) :
  ∃ v,(Builtin.cap_ #[t] ty #[u]).run P w=.ok v w∧Eff β fr r w v w β:=by
 unfold n5 at h;split at h
 ·rename_i e len m hu;split at h
  ·rename_i hh;injection h with h;subst h;have:=(Az (hx _ rfl)).1
   injection this with e2 _;subst e2;refine ⟨.int .i64 m,?_,Eff.pure_ g (Aw ⟨rfl,(Fy _ _).2 hh⟩)⟩
   simp [Builtin.cap_,run_underlying hu,goInt]
  ·cases h
 ·rename_i e bk gu len m hu;injection h with h;subst h;refine ⟨.int .i64 m,?_,Eff.pure_ g (Aw ⟨rfl,rfl,(Fy _ _).2 hc.1⟩)⟩
  have hm:=jf hc.2.1;rcases Az (hx _ rfl) with ⟨B,n,e1,e2⟩ | ⟨_,_,_,rfl,e2⟩ | ⟨_,_,_,rfl,_⟩
  case inr.inr=>exact absurd hm dl
  ·injection e2 with e2 _;subst e2;simp [Builtin.cap_,run_underlying hu,goInt]
  ·injection e2 with e2 _;subst e2;simp [Builtin.cap_,run_underlying hu,goInt]
 ·cases h
def n8 (P:Program) (ts:Array TypeId) (s x:Option AV) (fr:Nat) (gv:List Bool):Option R :=
 match ts[0]?,ts[1]? with
 | some sT,some xT=>match P.underlying sT,P.underlying xT,s with
  | some (.slice e),some (.int _),some (.val false [.v (.slice none 0 0)])=>match P.info? e,Bv x with
   | some inf,some (_,.i64,l)=>match inf.zero with
    | some (.int kd z)=>match decide (z=0),Nat.beq inf.size 1 with
     | true,true=>some (D3 fr e inf (.int kd 0) [] [] [.seq kd (List.replicate l.toNat 0)] 0 l.toNat [] [(decide (0≤l∧l≤9223372036854775807),true)] gv)
     | _,_=>none
    | _=>none
   | _,_=>none
  | _,_,_=>none
 | _,_=>none
theorem ANZ {β:Env} (kd:IntKind) (n:Nat):AQ β [.seq kd (List.replicate n 0)] (List.replicate n (.int kd 0)):=by
 have h0:has kd 0:=by cases kd<;>exact ⟨dl,dl⟩
 have:=PB (β:=β) (kd:=kd) (xs:=List.replicate n 0) (fun x hx=>by rw [List.eq_of_mem_replicate hx];exact h0)
 rwa [List.map_replicate] at this
theorem ANa {P:Program} {β:Env} {H:Heap} {w:World} {ts:Array TypeId} {ty fr:Nat} {s x:Option AV} {u v:Value} {gv:List Bool} {r:R} (g:Good β H w) (hx:∀ A,s=some A→AN β A u) (hy:∀ A,x=some A→AN β A v)
  (h:n8 P ts s x fr gv=some r) (hc:AO r.conds) (hf:∀ b,fr≤b→b<fr+r.nw→β b=none) :
  ∃ q w' β',(Builtin.append_ ts ty #[u,v]).run P w=.ok q w'∧Eff β fr r w q w' β':=by
 unfold n8 at h;split at h;case h_2=>cases h
 rename_i sT xT h0 h1;split at h;case h_2=>cases h
 rename_i e k hu hd;split at h;case h_2=>cases h
 rename_i inf c l hi hl;split at h;case h_2=>cases h
 rename_i kd z hz;split at h;case h_2=>cases h
 rename_i hz0 hsz;injection h with h;subst h;have hfr:=hf fr (jj _) (by simp [D3])
 obtain rfl:=jx hz0
 have hsz:=Ar.1 hsz;have:=(Az (hx _ rfl)).1
 injection this with e1 _;subst e1;obtain ⟨rfl,hr⟩:=DJ hy hl;obtain ⟨c1,c2,_⟩:=hc;have c1:=jx c1;have c2:=jx c2;obtain ⟨n,rfl⟩:=ki c1.1;rw [jn,ka] at c2;rw [jn];have hw:IntKind.i64.wrap (n:Int)=n:=by rw [IntKind.wrap_i64];omega
 have hneg:¬ ((n:Int)<0):=dk
 have ir:n*inf.bytes≤281474976710656:=by
  have:2*n*inf.bytes=2*(n*inf.bytes):=kx ..
  omega
 have hbig:¬ (281474976710656<(n:Int)*inf.bytes):=by
  have:(n:Int)*inf.bytes=((n*inf.bytes:Nat):Int):=by simp
  omega
 rcases lk n with hn0 | ie
 ·subst hn0;refine ⟨.slice none 0 0,w,β.put fr .nil,?_,Zx g hfr rfl ⟨[],[],⟨rfl,by simp⟩,rfl,rfl⟩ (by simp)⟩
  simp [Builtin.append_,h0,h1,run_underlying hu,run_underlying hd,sizeOf,typeInfo,hi,asInt,asIntOf,IntKind.wrap_i64]
 ·have hc1:¬ (281474976710656<Builtin.nextslicecap n 0*inf.bytes):=by
   have:=me inf.bytes (ACK (need:=n) (old:=0) dk)
   omega
  have hb0:¬ inf.bytes=0:=dk
  have hn0:¬ n=0:=dk
  refine ⟨_,_,_,?_,ACN (c:=(Question.appendCap n 0 e).cut (w.tape w.drawn (.appendCap n 0 e))) (lo:=[]) (ln:=List.replicate n (.int kd 0)) (gy:=(Builtin.zeroCells #[.int kd 0] ((Question.appendCap n 0 e).cut (w.tape w.drawn (.appendCap n 0 e))-n)).toList) g hfr rfl (ANZ kd n) (by simp) (by simp only [Question.cut];omega) ?_ ?_⟩
  ·simp [Builtin.append_,h0,h1,run_underlying hu,run_underlying hd,sizeOf,typeInfo,hi,asInt,asIntOf,hw,hneg,hbig,hn0,hc1,hb0,Question.forced,zeroValue,hz,newRow,Builtin.firstCells]
   rw [jd dk,jd (by rw [hsz,kb];exact hn0)]
   have hz1:Builtin.zeroCells (Value.int kd 0).cells n=⟨List.replicate n (.int kd 0)⟩:=by
    apply mf
    refine rj (by simp [Builtin.zeroCells,show (Value.int kd 0).cells=#[Value.int kd 0] from rfl]) fun i h1 h2=>?_
    simp [Builtin.zeroCells,show (Value.int kd 0).cells=#[Value.int kd 0] from rfl,Nat.mod_one]
   rw [hz1];congr 3
   apply mf
   rw [Array.toList_append];rfl
  ·simp only [nm,kc,od,ACL,hsz,kb];simp only [Question.cut];rw [show #[Value.int kd 0].size=1 from rfl]
   omega
  ·exact ACM (.int kd 0) rfl _
def n9 (P:Program) (O:gr) (c:Call) (τ:Nat→AV) (H:Heap) (fr:Nat) (gv:List Bool):Option R :=
 match PC τ c.args.toList with
 | none=>none
 | some args=>match c.callee with
  | .value f=>match B8 τ f with
   | some (.val false [.v (.func (.func id) ⟨[]⟩ ⟨[]⟩)])=>match O.call id with
    | some s=>s args H fr gv
    | none=>none
   | some (.val false [.clo id caps])=>match O.call id with
    | some s=>s (args++Tt caps) H fr gv
    | none=>none
   | some (.val false [.mth id bk gu])=>match O.call id with
    | some s=>s (.val true [.p bk gu]::args) H fr gv
    | none=>none
   | _=>none
  | .builtin .len=>match args,c.argTypes[0]? with
   | [x],some t=>match Nat.beq c.argTypes.size 1 with
    | true=>nL P t (some x) gv
    | false=>none
   | _,_=>none
  | .builtin .max=>match args with
   | [x,y]=>Zs true (some x) (some y) gv
   | _=>none
  | .builtin .min=>match args with
   | [x,y]=>Zs false (some x) (some y) gv
   | _=>none
  | .builtin .copy=>match args,c.argTypes.toList with
   | [x,y],[dT,_]=>Zv P dT (some x) (some y) H gv
   | _,_=>none
  | .builtin .clear=>match args,c.argTypes.toList with
   | [x],[t]=>nN P t (some x) H gv
   | _,_=>none
  | .builtin .append=>match args with
   | [x,y]=>match n8 P c.argTypes (some x) (some y) fr gv with
    | some r=>some r
    | none=>nQ P c.argTypes (some x) (some y) H fr gv
   | _=>none
  | .builtin .cap=>match args,c.argTypes.toList with
   | [x],[t]=>n5 P t (some x) gv
   | _,_=>none
  | _=>none
def oA (c x y:Option AV) (gv:List Bool):Option R :=
 match F0 c with
 | some (true,z)=>match z,x,y with
  | true,some A,_=>some (CP A gv)
  | false,_,some A=>some (CP A gv)
  | _,_,_=>none
 | some (false,z)=>match gv,x,y with
  | true::gy,some A,_=>some ⟨A,[],0,[(z,true)],gy⟩
  | false::gy,_,some A=>some ⟨A,[],0,[(z,false)],gy⟩
  | _,_,_=>none
 | none=>none
def Z2 (k:IntKind):List (Option IntKind)→Bool
 | []=>true
 | some k'::r=>decide (k'=k)&&Z2 k r
 | none::_=>false
def oB (ks:List (Option IntKind)) (a b:List Ch):Option Bool :=
 match ks with
 | some k::_=>match A8 k a,A8 k b,Z2 k ks with
  | some xs,some ys,true=>match Nat.beq xs.length ks.length&&Nat.beq ys.length ks.length with
   | true=>some (decide (xs=ys))
   | false=>none
  | _,_,_=>none
 | _=>none
theorem oC {k:IntKind}:∀ {ks:List (Option IntKind)} {xs:dn},Z2 k ks=true→xs.length=ks.length→CV ks (xs.map (.int k))
 | [],[],_,_=>trivial
 | [],_::_,_,h=>by simp at h
 | some k'::r,[],_,h=>by simp at h
 | some k'::r,x::xs,h,hl=>by
  simp only [Z2,jm,ji] at h;exact ⟨h.1.symm,oC h.2 (by simpa using hl)⟩
 | none::_,_,h,_=>by cases h
theorem ACR {k:IntKind}:∀ {xs ys:dn},xs.length=ys.length→C' (xs.map (.int k)) (ys.map (.int k))=decide (xs=ys)
 | [],[],_=>by simp [C']
 | [],_::_,h=>by simp at h
 | _::_,[],h=>by simp at h
 | x::xs,y::ys,h=>by
  simp only [lf,C'];rw [ACR (by simpa using h)]
  by_cases h1:x=y<;>by_cases h2:xs=ys<;>simp [h1,h2]
def oD:Option AV→Option Nat
 | some (.val false [.sl _ _ n _])=>some n
 | some (.val false [.sx _ n _])=>some n
 | _=>none
def oE (P:Program) (op:BinOp) (t:TypeId) (x y:Option AV) (gv:List Bool):Option R :=
 match P.underlying t,oD x,y with
 | some (.slice _),some n,some (.val false [.v (.slice none 0 0)])=>match op with
  | .eql=>some ⟨.val false [.b false],[],0,[(Nat.beq n 0,false)],gv⟩
  | .neq=>some ⟨.val false [.b true],[],0,[(Nat.beq n 0,false)],gv⟩
  | _=>none
 | _,_,_=>none
theorem ACS {β:Env} {x:Option AV} {u:Value} {n:Nat} (hx:∀ A,x=some A→AN β A u) (h:oD x=some n) (hn:Nat.beq n 0=false):∃ a c,u=.slice (some a) n c:=by
 have h0:=I4 hn;unfold oD at h;split at h
 ·injection h with h;subst h;rcases Az (hx _ rfl) with ⟨B,nn,_,e2⟩ | ⟨_,_,e,_,_⟩ | ⟨_,_,e,_⟩
  ·injection e2 with e2 _;exact ⟨_,_,e2⟩
  ·exact absurd e h0
  ·exact absurd e h0
 ·injection h with h;subst h;rcases Az (hx _ rfl) with ⟨B,nn,cap,_,e2,_⟩ | ⟨_,e,_⟩
  ·injection e2 with e2 _;exact ⟨_,_,e2⟩
  ·exact absurd e h0
 ·cases h
theorem ANb {P:Program} {β:Env} {H:Heap} {w:World} {op:BinOp} {t:TypeId} {x y:Option AV} {u v:Value} {X Y:Operand} {gv:List Bool} {r:R} (g:Good β H w) (hx:∀ A,x=some A→AN β A u) (hy:∀ A,y=some A→AN β A v)
  (h:oE P op t x y gv=some r) (hc:AO r.conds) (fr:Nat):∃ z,(do eqGuard op t X Y u v;binOp op t u v:Sem Value).run P w=.ok z w∧Eff β fr r w z w β:=by
 unfold oE at h;split at h;case h_2=>cases h
 rename_i e n hu hn;have:=(Az (hy _ rfl)).1
 injection this with e2 _;subst e2;split at h
 ·injection h with h;subst h;obtain ⟨a,c,rfl⟩:=ACS hx hn hc.1;refine ⟨.bool false,?_,Eff.pure_ g (Aw rfl)⟩
  rw [Sem.run_bind,eqGuard_at_slice];simp only [Sem.run_pure,Result.andThen_ok];show (do pure (.bool (← Op.equal t (.slice (some a) n c) (.slice none 0 0))):Sem Value).run P w=_
  rw [Sem.run_bind,run_equal_slice_nil w t e (some a) n c hu];rfl
 ·injection h with h;subst h;obtain ⟨a,c,rfl⟩:=ACS hx hn hc.1;refine ⟨.bool true,?_,Eff.pure_ g (Aw rfl)⟩
  rw [Sem.run_bind,eqGuard_at_slice];simp only [Sem.run_pure,Result.andThen_ok];show (do pure (.bool (!(← Op.equal t (.slice (some a) n c) (.slice none 0 0)))):Sem Value).run P w=_
  rw [Sem.run_bind,run_equal_slice_nil w t e (some a) n c hu];rfl
 ·cases h
def oF (P:Program) (O:gr) (op:BinOp) (t:TypeId) (x y:Option AV) (gv:List Bool):Option R :=
 match Bv x,Bv y with
 | some (c,k,i),some (c',k',j)=>match op with
  | .shl | .shr=>match mV op (c&&c') k i j with
   | some (z,l)=>some ⟨O9 (c&&c') k z,[],0,l,gv⟩
   | none=>none
  | _=>match decide (k=k') with
   | true=>match mT op (c&&c') k i j with
    | some (z,l)=>some ⟨O9 (c&&c') k z,[],0,l,gv⟩
    | none=>match mU op i j with
     | some z=>some (CP (MJ (c&&c') z) gv)
     | none=>none
   | false=>none
 | _,_=>match F0 x,F0 y,P.underlying t with
  | some (c,b),some (c',b'),some .bool=>match op with
   | .eql=>some (CP (MJ (c&&c') (b==b')) gv)
   | .neq=>some (CP (MJ (c&&c') (!(b==b'))) gv)
   | _=>none
  | _,_,_=>match x,y,O.eqt t with
   | some (.val false [.v (.string a)]),some (.val false [.v (.string b)]),_=>match op with
    | .eql=>some (CP (MJ false (a.toList==b.toList)) gv)
    | .neq=>some (CP (MJ false (!(a.toList==b.toList))) gv)
    | _=>none
   | some (.val true a),some (.val true b),some ks=>match MM (ks.length+2) ks a&&MM (ks.length+2) ks b,K3 (ks.length+2) a b,op with
    | true,some e,.eql=>some (CP (MJ false e) gv)
    | true,some e,.neq=>some (CP (MJ false (!e)) gv)
    | _,_,_=>match oB ks a b,op with
     | some e,.eql=>some (CP (MJ false e) gv)
     | some e,.neq=>some (CP (MJ false (!e)) gv)
     | _,_=>none
   | x,y,_=>oE P op t x y gv
def oG (P:Program) (O:gr) (o:Oper) (τ:Nat→AV) (H:Heap) (fr:Nat) (gv:List Bool):Option R :=
 match o.op with
 | .move x | .assign x=>match B8 τ x with | some A=>some (CP A gv) | none=>none
 | .pick c x y=>oA (B8 τ c) (B8 τ x) (B8 τ y) gv
 | .alloc t=>mL P t fr gv
 | .box t x=>mM t (B8 τ x) fr gv
 | .build t parts=>nC P τ t parts.toList gv
 | .buildSlice t len parts=>nF P τ t len parts.toList fr gv
 | .load t x=>mO P t (B8 τ x) H gv
 | .store t x y=>mS P t (B8 τ x) (B8 τ y) H gv
 | .nilCheck x=>match B8 τ x with
  | some (.val false [.p b o])=>some (CP (.val false [.p b o]) gv)
  | some (.val false [.clo f c])=>some (CP (.val false [.clo f c]) gv)
  | some (.val false [.mth f b o])=>some (CP (.val false [.mth f b o]) gv)
  | some (.val false [.v (.func (.func f) a c)])=>some (CP (.val false [.v (.func (.func f) a c)]) gv)
  | _=>none
 | .binOp op t x y _=>oF P O op t (B8 τ x) (B8 τ y) gv
 | .unOp op _ x=>nJ op (B8 τ x) gv
 | .convert s d x=>match nG P s d (B8 τ x) gv with
  | some r=>some r
  | none=>match nS P s d (B8 τ x) H gv with
   | some r=>some r
   | none=>nT P s d (B8 τ x) H fr gv
 | .sliceToArrayPointer t x=>nA P t (B8 τ x) gv
 | .makeFunc (.func f) first captured=>match first.toList,PC τ captured.toList with
  | [],some xs=>match Wk xs with
   | some caps=>some (CP (.val false [.clo f caps]) gv)
   | none=>none
  | [x],some []=>match B8 τ x with
   | some (.val true [.p bk gu])=>some (CP (.val false [.mth f bk gu]) gv)
   | _=>none
  | _,_=>none
 | .makeSlice t l c=>nK P t (B8 τ l) (B8 τ c) fr gv
 | .slice t x lo hi mx=>m9 P t (B8 τ x) (lo.map (B8 τ)) (hi.map (B8 τ)) (mx.map (B8 τ)) gv
 | .fieldAddr t x f=>mZ P t (B8 τ x) f gv
 | .field t x f=>m6 P t (B8 τ x) f gv
 | .indexAddr t x i=>m8 P t (B8 τ x) (B8 τ i) gv
 | .index t x i=>m7 P t (B8 τ x) (B8 τ i) gv
 | .extract x i=>match B8 τ x with
  | some (.tup xs)=>match xs[i]? with
   | some (g,cs)=>some (CP (.val g cs) gv)
   | none=>none
  | _=>none
 | .makeMap t rs=>nU P t rs fr gv
 | .lookup t x i ok=>nV P t (B8 τ x) (B8 τ i) ok H gv
 | .mapUpdate t m k x=>nW P t (B8 τ m) (B8 τ k) (B8 τ x) H gv
 | .call c=>n9 P O c τ H fr gv
 | _=>none
theorem ACT {β:Env}:∀ {xs:List (Bool×List Ch)} {us:List Value} {i:Nat} {g:Bool} {cs:List Ch},GF β xs us→xs[i]? = some (g,cs)→∃ u,us[i]? = some u∧Bx β g cs u
 | [],_,i,_,_,_,h=>by simp at h
 | (g',c')::xs,us,0,g,cs,⟨u,l',h1,_,h3⟩,h=>by
  simp only [po,jt,jz] at h;obtain ⟨rfl,rfl⟩:=h;exact ⟨u,by simp [h3],h1⟩
 | (g',c')::xs,us,i+1,g,cs,⟨u,l',h1,h2,h3⟩,h=>by
  obtain ⟨v,hv,hr⟩:=ACT h2 (by simpa using h)
  exact ⟨v,by simpa [h3] using hv,hr⟩
section
variable {P:Program} {O:gr} {β:Env} {H:Heap} {w:World} {τ:Nat→AV} {a:Act}
theorem ANc (hO:gp P O) {op:BinOp} {t:TypeId} {x y:Option AV} {u v:Value} {X Y:Operand} {gv:List Bool} {r:R} (g:Good β H w) (hx:∀ A,x=some A→AN β A u) (hy:∀ A,y=some A→AN β A v)
  (h:oF P O op t x y gv=some r) (hc:AO r.conds) (fr:Nat):∃ z,(do eqGuard op t X Y u v;binOp op t u v:Sem Value).run P w=.ok z w∧Eff β fr r w z w β:=by
 unfold oF at h;split at h
 ·rename_i c k i c' k' j hi hj;obtain ⟨rfl,i1⟩:=DJ hx hi;obtain ⟨rfl,j1⟩:=DJ hy hj;split at h
  ·split at h
   ·rename_i z l hz;injection h with h;subst h;obtain ⟨q1,q2⟩:=AB2 (P:=P) (w:=w) (yk:=k') hz hc i1 t X Y
    exact ⟨_,q1,Eff.pure_ g (O_ _ q2)⟩
   ·cases h
  ·split at h
   ·rename_i z l hz;injection h with h;subst h;obtain ⟨q1,q2⟩:=AB2 (P:=P) (w:=w) (yk:=k') hz hc i1 t X Y
    exact ⟨_,q1,Eff.pure_ g (O_ _ q2)⟩
   ·cases h
  ·split at h
   ·rename_i hk;have hk':k=k':=by simpa using hk
    subst hk';split at h
    ·rename_i z l hz;injection h with h;subst h;obtain ⟨q1,q2⟩:=AM1 (P:=P) (w:=w) hz hc i1 t X Y
     exact ⟨_,q1,Eff.pure_ g (O_ _ q2)⟩
    ·split at h
     ·rename_i z hz;injection h with h;subst h;exact ⟨_,AM2 (P:=P) (w:=w) hz t X Y,Eff.pure_ g (NT _ _)⟩
     ·cases h
   ·cases h
 ·split at h
  ·rename_i c b c' b' hb hb' hu;obtain rfl:=Kz hx hb
   obtain rfl:=Kz hy hb'
   split at h
   ·injection h with h;subst h;refine ⟨.bool (b==b'),?_,Eff.pure_ g (NT _ _)⟩
    rw [Sem.run_bind,eqGuard_at_bool];simp only [Sem.run_pure,Result.andThen_ok];exact run_eql_bool w t b b' hu
   ·injection h with h;subst h;refine ⟨.bool (!(b==b')),?_,Eff.pure_ g (NT _ _)⟩
    rw [Sem.run_bind,eqGuard_at_bool];simp only [Sem.run_pure,Result.andThen_ok];exact run_neq_bool w t b b' hu
   ·cases h
  split at h
  ·rename_i a b _ _;have e1:=(Az (hx _ rfl)).1
   have e2:=(Az (hy _ rfl)).1
   injection e1 with e1 _;subst e1;injection e2 with e2 _;subst e2;split at h
   ·injection h with h;subst h;refine ⟨.bool (a.toList==b.toList),?_,Eff.pure_ g (NT _ _)⟩
    simp [eqGuard,binOp,Op.stringOp]
   ·injection h with h;subst h;refine ⟨.bool (!(a.toList==b.toList)),?_,Eff.pure_ g (NT _ _)⟩
    simp [eqGuard,binOp,Op.stringOp]
   ·cases h
  ·rename_i A B ks hk _ _;obtain ⟨l,hl,rfl⟩:=hx _ rfl;obtain ⟨m,hm,rfl⟩:=hy _ rfl;obtain ⟨k1,k2,k3⟩:=hO.eqt _ _ hk;have core:∀ e,(MM (ks.length+2) ks A&&MM (ks.length+2) ks B)=true→K3 (ks.length+2) A B=some e→(Op.equalIn 10000 t (.agg ⟨l⟩) (.agg ⟨m⟩)).run P w=.ok e w:=by
    intro e hf he;have hf':=jo.1 hf;have:=AB' 20 t ks 10000 k1 dl l m (.agg ⟨l⟩) (.agg ⟨m⟩) w (Wh hf'.1 hl) (Wh hf'.2 hm) (by
     unfold Hn;split at k3
     ·rename_i d hd;first | (rw [hd];show (match wide d with | true=>_ | false=>_);rw [k3]) | simp [k3]
     ·cases k3) (by
     unfold Hn;split at k3
     ·rename_i d hd;first | (rw [hd];show (match wide d with | true=>_ | false=>_);rw [k3]) | simp [k3]
     ·cases k3)
    rw [this,AB4 he hl hm]
   have core2:∀ e,oB ks A B=some e→(Op.equalIn 10000 t (.agg ⟨l⟩) (.agg ⟨m⟩)).run P w=.ok e w:=by
    intro e he;unfold oB at he;split at he;case h_2=>cases he
    rename_i k ks';split at he;case h_2=>cases he
    rename_i xs ys h1 h2 h3;split at he;case h_2=>cases he
    rename_i h4;injection he with he;subst he;have h4':=jo.1 h4;obtain ⟨rfl,_⟩:=DU h1 hl;obtain ⟨rfl,_⟩:=DU h2 hm;have e1:=Ar.1 h4'.1;have e2:=Ar.1 h4'.2;have:=AB' 20 t _ 10000 k1 dl _ _ (.agg ⟨xs.map (.int k)⟩) (.agg ⟨ys.map (.int k)⟩) w (oC h3 e1) (oC h3 e2) (by
     unfold Hn;split at k3
     ·rename_i d hd;first | (rw [hd];show (match wide d with | true=>_ | false=>_);rw [k3]) | simp [k3]
     ·cases k3) (by
     unfold Hn;split at k3
     ·rename_i d hd;first | (rw [hd];show (match wide d with | true=>_ | false=>_);rw [k3]) | simp [k3]
     ·cases k3)
    rw [this,ACR (e1.trans e2.symm)]
   split at h
   ·rename_i e hf he;injection h with h;subst h;refine ⟨.bool e,?_,Eff.pure_ g (NT _ _)⟩
    rw [Sem.run_bind,run_eqGuard_agg w .eql t X Y _ _ k2];simp only [Result.andThen_ok];rw [run_eql_struct,core e hf he];rfl
   ·rename_i e hf he;injection h with h;subst h;refine ⟨.bool !e,?_,Eff.pure_ g (NT _ _)⟩
    rw [Sem.run_bind,run_eqGuard_agg w .neq t X Y _ _ k2];simp only [Result.andThen_ok];rw [run_neq_struct,core e hf he];rfl
   ·split at h
    ·rename_i e he _ _;injection h with h;subst h;refine ⟨.bool e,?_,Eff.pure_ g (NT _ _)⟩
     rw [Sem.run_bind,run_eqGuard_agg w .eql t X Y _ _ k2];simp only [Result.andThen_ok];rw [run_eql_struct,core2 e he];rfl
    ·rename_i e he _ _;injection h with h;subst h;refine ⟨.bool !e,?_,Eff.pure_ g (NT _ _)⟩
     rw [Sem.run_bind,run_eqGuard_agg w .neq t X Y _ _ k2];simp only [Result.andThen_ok];rw [run_neq_struct,core2 e he];rfl
    ·cases h
  ·exact ANb g hx hy h hc fr
theorem ANd {x y z:Option AV} {u v p:Value} {gv:List Bool} {r:R} (g:Good β H w) (hz:∀ A,z=some A→AN β A p) (hx:∀ A,x=some A→AN β A u) (hy:∀ A,y=some A→AN β A v)
  (h:oA z x y gv=some r) (hc:AO r.conds) (fr:Nat):∃ q,(do pure (Next.value (if ← asBool p then u else v)):Sem Next).run P w=.ok (.value q) w∧Eff β fr r w q w β:=by
 unfold oA at h;split at h
 ·rename_i b hb;have:=Kz hz hb
  subst this;split at h
  ·injection h with h;subst h;exact ⟨u,by simp [asBool],Eff.pure_ g (hx _ rfl)⟩
  ·injection h with h;subst h;exact ⟨v,by simp [asBool],Eff.pure_ g (hy _ rfl)⟩
  ·cases h
 ·rename_i b hb;have:=Kz hz hb
  subst this;split at h
  ·injection h with h;subst h;have:=hc.1
   subst this;exact ⟨u,by simp [asBool],Eff.pure_ g (hx _ rfl)⟩
  ·injection h with h;subst h;have:=hc.1
   subst this;exact ⟨v,by simp [asBool],Eff.pure_ g (hy _ rfl)⟩
  ·cases h
 ·cases h
theorem Cy {o:Oper} {next:Act→World→Prop} {Q:Exit→Act→World→Prop} {u:Value} {w':World} (h:(execOp a.eval o).run P w=.ok (.value u) w') (hn:next (a.put o.dst u) w'):o.wp P a w next Q:=by
 unfold Oper.wp;rw [h];exact hn
theorem ACU {o:Oper} {next:Act→World→Prop} {Q:Exit→Act→World→Prop} {w':World} (h:(execOp a.eval o).run P w=.ok .skip w') (hn:next (a.put o.dst undef) w'):o.wp P a w next Q:=by
 unfold Oper.wp;rw [h];exact hn
theorem F1 {s:Sem Value} {u:Value} {w':World} (h:s.run P w=.ok u w'):(do pure (Next.value (← s)):Sem Next).run P w=.ok (.value u) w':=by
 simp [h]
theorem ACV {s:Sem Unit} {w':World} (h:s.run P w=.ok () w'):(do s;pure Next.skip:Sem Next).run P w=.ok .skip w':=by
 simp [h]
theorem oH {o:Oper} {next:Act→World→Prop} {Q:Exit→Act→World→Prop} {f:FuncId} {us:Array Value} {fr:Nat} {r:R} (h:NU P f us w (Z0 β fr r w))
  (he:(execOp a.eval o).run P w=(callFunc f us).run P w) (hn:∀ u w' β',Eff β fr r w u w' β'→next (a.put o.dst u) w'):o.wp P a w next Q:=by
 unfold Oper.wp;rw [he];unfold NU at h;split at h
 ·rename_i v w' hr;rw [hr];obtain ⟨u,β',e1,e2⟩:=h;injection e1 with e1;subst e1;exact hn _ _ _ e2
 ·rename_i f' args' w' hr;rw [hr];refine Calls.mono h fun e w'' hq=>?_
  obtain ⟨u,β',rfl,e2⟩:=hq;exact hn _ _ _ e2
 ·exact h.elim
theorem ANe (hO:gp P O) (ht:∀ t,AN β (τ t) (a.tmps.getD t undef)) (g:Good β H w) {o:Oper} {c:Call} (ho:o.op=.call c) {fr:Nat} {gv:List Bool} {r:R} (h:n9 P O c τ H fr gv=some r) (hc:AO r.conds)
  (hf:∀ b,fr≤b→b<fr+r.nw→β b=none) {next:Act→World→Prop} {Q:Exit→Act→World→Prop} (hn:∀ u w' β',Eff β fr r w u w' β'→next (a.put o.dst u) w'):o.wp P a w next Q:=by
 unfold n9 at h;split at h;case h_1=>cases h
 rename_i args hargs;have hrel:=Z1 ht hargs;have hmap:c.args.map a.eval=⟨c.args.toList.map a.eval⟩:=by apply mf;simp
 have hbuiltin:∀ b,c.callee=.builtin b→∃ k,(execOp a.eval o).run P w=(builtin b c.argTypes o.type k (c.args.map a.eval)).run P w:=by
  intro b hb;refine ⟨c.args.map fun x=>match x with | .const _=>true | _=>false,?_⟩
  simp only [execOp,ho,resolve,hb,Sem.run_bind,Sem.run_pure,Result.andThen_ok,invoke];rfl
 split at h
 ·rename_i f hcal;split at h
  ·rename_i id hev;split at h
   ·rename_i s hs;have hr:=(Az (I5 ht hev)).1
    injection hr with hr _;refine oH (hO.call _ _ hs args H fr gv r β _ w h hc hrel g hf) ?_ hn
    simp [execOp,ho,resolve,hcal,hr,Deferred.ofValue,invoke,hmap]
   ·cases h
  ·rename_i id caps hev;split at h
   ·rename_i s hs;obtain ⟨ps,hp,hr⟩:=Az (I5 ht hev)
    injection hr with hr _;refine oH (hO.call _ _ hs _ H fr gv r β _ w h hc (ACP hrel (nZ hp)) g hf) ?_ hn
    simp [execOp,ho,resolve,hcal,hr,Deferred.ofValue,invoke,hmap]
   ·cases h
  ·rename_i id bk gu hev;split at h
   ·rename_i s hs;obtain ⟨B,n,hb,hr⟩:=Az (I5 ht hev)
    injection hr with hr _;refine oH (hO.call _ _ hs _ H fr gv r β _ w h hc ⟨_,_,⟨_,⟨[_],[],⟨B,n,hb,rfl⟩,rfl,rfl⟩,rfl⟩,hrel,rfl⟩ g hf) ?_ hn
    simp [execOp,ho,resolve,hcal,hr,Deferred.ofValue,invoke,hmap]
   ·cases h
  ·cases h
 ·rename_i hcal;split at h
  ·rename_i x t hcc;split at h
   ·rename_i hsz;obtain ⟨u,us,h1,h2,h3⟩:=hrel;simp only [BI] at h2;subst h2;obtain ⟨v,hv,he⟩:=ANK (ty:=o.type) (u:=u) g (fm h1) h hc fr
    have hat:c.argTypes=#[t]:=by
     have h1:=Ar.1 hsz;rcases hq:c.argTypes with ⟨l⟩
     rw [hq] at h1 hcc;cases l with
     | nil=>simp at h1
     | cons y l=>cases l with
      | nil=>simp at hcc;rw [hcc]
      | cons z l=>simp at h1
    refine Cy ?_ (hn _ _ _ he)
    obtain ⟨k,hk⟩:=hbuiltin _ hcal;rw [hk];simp only [builtin,hmap,h3,hat];simp [hv]
   ·cases h
  ·cases h
 ·rename_i hcal;split at h
  ·rename_i x y;obtain ⟨u,us,h1,h2,h3⟩:=hrel;obtain ⟨v,us',k1,k2,k3⟩:=h2;simp only [BI] at k2;subst k2;subst k3;obtain ⟨z,hz,he⟩:=ACD (P:=P) (ts:=c.argTypes) (ty:=o.type) (u:=u) (v:=v) g (fm h1) (fm k1) h fr
   refine Cy ?_ (hn _ _ _ he)
   obtain ⟨k,hk⟩:=hbuiltin _ hcal;rw [hk];simp only [builtin,hmap,h3];simp only at hz
   simp [hz]
  ·cases h
 ·rename_i hcal;split at h
  ·rename_i x y;obtain ⟨u,us,h1,h2,h3⟩:=hrel;obtain ⟨v,us',k1,k2,k3⟩:=h2;simp only [BI] at k2;subst k2;subst k3;obtain ⟨z,hz,he⟩:=ACD (P:=P) (ts:=c.argTypes) (ty:=o.type) (u:=u) (v:=v) g (fm h1) (fm k1) h fr
   refine Cy ?_ (hn _ _ _ he)
   obtain ⟨k,hk⟩:=hbuiltin _ hcal;rw [hk];simp only [builtin,hmap,h3];simp only at hz
   simp [hz]
  ·cases h
 ·rename_i hcal;split at h
  ·rename_i x y dT sT hat;obtain ⟨u,us,h1,h2,h3⟩:=hrel;obtain ⟨v,us',k1,k2,k3⟩:=h2;simp only [BI] at k2;subst k2;subst k3;obtain ⟨z,w',hz,he⟩:=ANL (sT:=sT) (ty:=o.type) (u:=u) (v:=v) g (fm h1) (fm k1) h hc fr
   have hat':c.argTypes=#[dT,sT]:=by apply mf;rw [hat]
   refine Cy (u:=z) (w':=w') ?_ (hn _ _ _ (by
    refine { he with val:=?_ }
    have hv:r.val=.any:=by
     unfold Zv at h;split at h
     ·split at h
      ·split at h
       ·split at h
        ·injection h with h;subst h;rfl
        ·cases h
       ·cases h
      ·cases h
     ·cases h
    rw [hv];trivial))
   obtain ⟨k,hk⟩:=hbuiltin _ hcal;rw [hk];simp only [builtin,hmap,h3,hat'];simp [hz]
  ·cases h
 ·rename_i hcal;split at h
  ·rename_i x t hat;obtain ⟨u,us,h1,h2,h3⟩:=hrel;simp only [BI] at h2;subst h2;obtain ⟨z,w',hz,he⟩:=ANM (ty:=o.type) (u:=u) g (fm h1) h hc fr
   have hat':c.argTypes=#[t]:=by apply mf;rw [hat]
   refine Cy (u:=z) (w':=w') ?_ (hn _ _ _ he)
   obtain ⟨k,hk⟩:=hbuiltin _ hcal;rw [hk];simp only [builtin,hmap,h3,hat'];simp [hz]
  ·cases h
 ·rename_i hcal;split at h
  ·rename_i x y;obtain ⟨u,us,h1,h2,h3⟩:=hrel;obtain ⟨v,us',k1,k2,k3⟩:=h2;simp only [BI] at k2;subst k2;subst k3;have:∃ z w' β',(Builtin.append_ c.argTypes o.type #[u,v]).run P w=.ok z w'∧Eff β fr r w z w' β':=by
    split at h
    ·rename_i r' hr;injection h with h;subst h;exact ANa g (fm h1) (fm k1) hr hc hf
    ·exact ANQ g (fm h1) (fm k1) h hc hf
   obtain ⟨z,w',β',hz,he⟩:=this;refine Cy (u:=z) (w':=w') ?_ (hn _ _ _ he)
   obtain ⟨k,hk⟩:=hbuiltin _ hcal;rw [hk];simp only [builtin,hmap,h3];simp [hz]
  ·cases h
 ·rename_i hcal;split at h
  ·rename_i x t hat;obtain ⟨u,us,h1,h2,h3⟩:=hrel;simp only [BI] at h2;subst h2;obtain ⟨z,hz,he⟩:=ANY (ty:=o.type) (u:=u) g (fm h1) h hc fr
   have hat':c.argTypes=#[t]:=by apply mf;rw [hat]
   refine Cy (u:=z) ?_ (hn _ _ _ he)
   obtain ⟨k,hk⟩:=hbuiltin _ hcal;rw [hk];simp only [builtin,hmap,h3,hat'];simp [hz]
  ·cases h
 ·cases h
theorem ANf (hO:gp P O) (ht:∀ t,AN β (τ t) (a.tmps.getD t undef)) (g:Good β H w) {o:Oper} {fr:Nat} {gv:List Bool} {r:R} (h:oG P O o τ H fr gv=some r) (hc:AO r.conds)
  (hf:∀ b,fr≤b→b<fr+r.nw→β b=none) {next:Act→World→Prop} {Q:Exit→Act→World→Prop} (hn:∀ u w' β',Eff β fr r w u w' β'→next (a.put o.dst u) w'):o.wp P a w next Q:=by
 have ev:∀ (x:Operand) (A:AV),B8 τ x=some A→AN β A (a.eval x):=fun x A hA=>I5 ht hA
 have evm:∀ (x:Option Operand),EJ β (x.map (B8 τ)) (x.map a.eval):=by
  intro x;cases x with
  | none=>trivial
  | some x=>exact ev x
 unfold oG at h;split at h;case h_1 x ho =>
  split at h
  ·rename_i A hA;injection h with h;subst h;exact Cy (by simp [execOp,ho]) (hn _ _ _ (Eff.pure_ g (ev _ _ hA)))
  ·cases h
 case h_2 x ho =>
  split at h
  ·rename_i A hA;injection h with h;subst h;exact Cy (by simp [execOp,ho]) (hn _ _ _ (Eff.pure_ g (ev _ _ hA)))
  ·cases h
 case h_3 c x y ho =>
  obtain ⟨q,hq,he⟩:=ANd (P:=P) g (ev c) (ev x) (ev y) h hc fr
  exact Cy (by simp only [execOp,ho];exact hq) (hn _ _ _ he)
 case h_4 t ho =>
  obtain ⟨u,w',β',hq,he⟩:=AMs g h hf;exact Cy (by simp only [execOp,ho];exact F1 hq) (hn _ _ _ he)
 case h_5 t x ho =>
  obtain ⟨u,w',β',hq,he⟩:=AMt (P:=P) g (ev x) h hf
  exact Cy (by simp only [execOp,ho];exact F1 hq) (hn _ _ _ he)
 case h_6 t parts ho =>
  obtain ⟨u,hq,he⟩:=ANC ht g h fr;exact Cy (by simp only [execOp,ho];exact F1 hq) (hn _ _ _ he)
 case h_7 t len parts ho =>
  obtain ⟨u,w',β',hq,he⟩:=ANE ht g h hf;exact Cy (by simp only [execOp,ho];exact F1 hq) (hn _ _ _ he)
 case h_8 t x ho =>
  obtain ⟨u,hq,he⟩:=AMv g (ev x) h hc fr
  exact Cy (by simp only [execOp,ho];exact F1 hq) (hn _ _ _ he)
 case h_9 t x y ho =>
  obtain ⟨w',hq,he⟩:=AMz g (ev x) (ev y) h hc fr
  exact ACU (by simp only [execOp,ho];exact ACV hq) (hn _ _ _ he)
 case h_10 x ho =>
  split at h
  ·rename_i b gu hA;injection h with h;subst h;obtain ⟨B,n,e1,e2⟩:=Az (ev _ _ hA)
   injection e2 with e2 _;exact Cy (u:=.pointer (some ⟨B,n.2+gu,none⟩)) (by simp [execOp,ho,e2]) (hn _ _ _ (Eff.pure_ g (Aw ⟨B,n,e1,rfl⟩)))
  ·rename_i f c hA;injection h with h;subst h;obtain ⟨ps,e1,e2⟩:=Az (ev _ _ hA)
   injection e2 with e2 _;exact Cy (u:=.func (.func f) #[] ⟨ps⟩) (by simp [execOp,ho,e2]) (hn _ _ _ (Eff.pure_ g (Aw ⟨ps,e1,rfl⟩)))
  ·rename_i f b gu hA;injection h with h;subst h;obtain ⟨B,n,e1,e2⟩:=Az (ev _ _ hA)
   injection e2 with e2 _;exact Cy (u:=.func (.func f) ⟨[.agg ⟨[.pointer (some ⟨B,n.2+gu,none⟩)]⟩]⟩ ⟨[]⟩) (by simp [execOp,ho,e2]) (hn _ _ _ (Eff.pure_ g (Aw ⟨B,n,e1,rfl⟩)))
  ·rename_i f x' c hA;injection h with h;subst h;have e2:=(Az (ev _ _ hA)).1
   injection e2 with e2 _;exact Cy (u:=.func (.func f) x' c) (by simp [execOp,ho,e2]) (hn _ _ _ (Eff.pure_ g (Aw ⟨rfl,rfl,trivial⟩)))
  ·cases h
 case h_11 op t x y yt ho =>
  obtain ⟨u,hq,he⟩:=ANc hO (X:=x) (Y:=y) g (ev x) (ev y) h hc fr
  exact Cy (by simp only [execOp,ho];exact F1 hq) (hn _ _ _ he)
 case h_12 op t x ho =>
  obtain ⟨u,hq,he⟩:=ANG (P:=P) g (ev x) h fr
  exact Cy (by simp only [execOp,ho];exact F1 hq) (hn _ _ _ he)
 case h_13 s d x ho =>
  split at h
  ·rename_i r' hr';injection h with h;subst h;obtain ⟨u,hq,he⟩:=ANF g (ev x) hr' fr
   exact Cy (by simp only [execOp,ho];exact F1 hq) (hn _ _ _ he)
  ·split at h
   ·rename_i r' hr';injection h with h;subst h;obtain ⟨u,hq,he⟩:=ANS g (ev x) hr' hc fr
    exact Cy (by simp only [execOp,ho];exact F1 hq) (hn _ _ _ he)
   ·obtain ⟨u,w',β',hq,he⟩:=ANU g (ev x) h hf
    exact Cy (by simp only [execOp,ho];exact F1 hq) (hn _ _ _ he)
 case h_14 t x ho =>
  obtain ⟨u,hq,he⟩:=AM' g (ev x) h hc fr
  exact Cy (by simp only [execOp,ho];exact F1 hq) (hn _ _ _ he)
 case h_15 f first captured ho =>
  split at h
  ·rename_i xs h1 h2;split at h
   ·rename_i caps h3;injection h with h;subst h;have hp:=ACQ h3 (Z1 ht h2)
    refine Cy (u:=.func (.func f) #[] ⟨captured.toList.map a.eval⟩) ?_ (hn _ _ _ (Eff.pure_ g (Aw ⟨_,hp,rfl⟩)))
    have hfirst:first=#[]:=by apply mf;simpa using h1
    have hmap:captured.map a.eval=⟨captured.toList.map a.eval⟩:=by apply mf;simp
    simp [execOp,ho,Instr.makeFunc,hfirst,hmap]
   ·cases h
  ·rename_i x h1 h2;split at h
   ·rename_i bk gu hA;injection h with h;subst h;obtain ⟨l,⟨l1,l2,e1,e2,e3⟩,e4⟩:=ev x _ hA;simp only [AQ] at e2;subst e2;obtain ⟨B,n,e5,rfl⟩:=e1;simp only [ku] at e3;subst e3;refine Cy (u:=.func (.func f) ⟨[.agg ⟨[.pointer (some ⟨B,n.2+gu,none⟩)]⟩]⟩ ⟨[]⟩) ?_ (hn _ _ _ (Eff.pure_ g (Aw ⟨B,n,e5,rfl⟩)))
    have hfirst:first=#[x]:=by apply mf;simpa using h1
    have hcap:captured=#[]:=by
     apply mf
     cases hq:captured.toList with
     | nil=>rfl
     | cons y l =>
      rw [hq] at h2;simp only [PC] at h2;split at h2<;>simp at h2
    simp [execOp,ho,Instr.makeFunc,hfirst,hcap,e4]
   ·cases h
  ·cases h
 case h_16 t l c ho =>
  obtain ⟨u,w',β',hq,he⟩:=ANJ g (ev l) (ev c) h hc hf
  exact Cy (by simp only [execOp,ho];exact F1 hq) (hn _ _ _ he)
 case h_17 t x lo hi mx ho =>
  obtain ⟨u,hq,he⟩:=AM_ g (ev x) (evm lo) (evm hi) (evm mx) h hc fr
  exact Cy (by simp only [execOp,ho];exact F1 hq) (hn _ _ _ he)
 case h_18 t x f ho =>
  obtain ⟨u,hq,he⟩:=AM5 g (ev x) h fr
  exact Cy (by simp only [execOp,ho];exact F1 hq) (hn _ _ _ he)
 case h_19 t x f ho =>
  obtain ⟨u,hq,he⟩:=AM6 g (ev x) h fr
  exact Cy (by simp only [execOp,ho];exact F1 hq) (hn _ _ _ he)
 case h_20 t x i ho =>
  obtain ⟨u,hq,he⟩:=AM8 g (ev x) (ev i) h hc fr
  exact Cy (by simp only [execOp,ho];exact F1 hq) (hn _ _ _ he)
 case h_21 t x i ho =>
  obtain ⟨u,hq,he⟩:=AM7 g (ev x) (ev i) h hc fr
  exact Cy (by simp only [execOp,ho];exact F1 hq) (hn _ _ _ he)
 case h_22 x i ho =>
  split at h
  ·rename_i xs hA;split at h
   ·rename_i gg cs hi;injection h with h;subst h;obtain ⟨us,e1,e2⟩:=ev _ _ hA;obtain ⟨u,e3,e4⟩:=ACT e1 hi;exact Cy (u:=u) (by simp [execOp,ho,e2,Instr.extract,e3]) (hn _ _ _ (Eff.pure_ g e4))
   ·cases h
  ·cases h
 case h_23 t rs ho =>
  obtain ⟨rfl,u,w',β',hq,he⟩:=ANV g h hf;exact Cy (by simp only [execOp,ho];exact F1 hq) (hn _ _ _ he)
 case h_24 t x i ok ho =>
  obtain ⟨u,hq,he⟩:=ANW g (ev x) (ev i) h hc fr
  exact Cy (by simp only [execOp,ho];exact F1 hq) (hn _ _ _ he)
 case h_25 t m k x ho =>
  obtain ⟨w',hq,he⟩:=ANX g (ev m) (ev k) (ev x) h hc fr
  exact ACU (by simp only [execOp,ho];exact ACV hq) (hn _ _ _ he)
 case h_26 c ho=>exact ANe hO ht g ho h hc hf hn
 case h_27=>cases h
end
end Go.Proofs.YtgnajdcdcblaoaaGreat.Ex
namespace Go.Proofs.YtgnajdcdcblaoaaGreat.Ex
def Ap:List AV→Nat→AV
 | [],_=>.any
 | x::_,0=>x
 | _::r,n+1=>Ap r n
def Js:List AV→Nat→AV→List AV
 | [],_,_=>[]
 | _::r,0,v=>v::r
 | x::r,n+1,v=>x::Js r n v
def E0 (k:Nat):List Nat→Bool
 | []=>false
 | x::r=>match Nat.beq x k with | true=>true | false=>E0 k r
theorem Q5 {k:Nat}:∀ {l:List Nat},E0 k l=true↔k∈l
 | []=>by simp [E0]
 | x::r=>by
  simp only [E0];split
  ·rename_i h;simp [Ar.1 h]
  ·rename_i h;have:=I4 h
   rw [Q5 (l:=r)];simp [Ne.symm this]
def cat:List Nat→List Nat→List Nat
 | [],l=>l
 | x::r,l=>x::cat r l
theorem Cz:∀ (a b:List Nat),cat a b=a++b
 | [],_=>rfl
 | x::r,b=>by simp [cat,Cz r b]
def NV:Ch→List Nat
 | .p b _=>[b]
 | .sl b _ _ _=>[b]
 | .sx b _ _=>[b]
 | .clo _ caps=>caps.map (·.1)
 | .mth _ b _=>[b]
 | .yl b=>[b]
 | .mp b=>[b]
 | _=>[]
def ER:List Ch→List Nat
 | []=>[]
 | c::r=>cat (NV c) (ER r)
def K4:List (Bool×List Ch)→List Nat
 | []=>[]
 | (_,cs)::r=>cat (ER cs) (K4 r)
def Jt:AV→List Nat
 | .val _ cs=>ER cs
 | .tup xs=>K4 xs
 | .any=>[]
def Q6 (τ:Nat→AV):List Nat→List Nat
 | []=>[]
 | t::r=>cat (Jt (τ t)) (Q6 τ r)
def NW (H:Heap):List Nat→List Nat
 | []=>[]
 | k::r=>match AG H k with
  | some blk=>cat (ER blk.cs) (NW H r)
  | none=>NW H r
def ANg:Op→Bool
 | .call _=>true
 | _=>false
def I7 (o:Oper) (τ:Nat→AV) (ts:List Nat) (H:Heap):List Nat :=
 match ANg o.op with
 | false=>Q6 τ ts
 | true=>cat (Q6 τ ts) (cat (NW H (Q6 τ ts)) (NW H (NW H (Q6 τ ts))))
def restrict (H:Heap):List Nat→Heap
 | []=>[]
 | k::r=>match AG H k with
  | some blk=>(k,some blk)::restrict H r
  | none=>restrict H r
def HG (τ:Nat→AV) (ts:List Nat):Nat→AV:=fun t=>match E0 t ts with | true=>τ t | false=>.any
theorem NX {H:Heap} {b:Nat} {blk:gt}:∀ {ks:List Nat},AG (restrict H ks) b=some blk→AG H b=some blk
 | [],h=>by simp [restrict,AG] at h
 | k::r,h=>by
  simp only [restrict] at h;split at h
  ·rename_i blk' hk;simp only [AG] at h;split at h
   ·rename_i e;rw [← Ar.1 e,hk];exact h
   ·exact NX h
  ·exact NX h
theorem ACW {H H':Heap}:∀ {ks:List Nat},(∀ k∈ks,AG H k=AG H' k)→restrict H ks=restrict H' ks
 | [],_=>rfl
 | k::r,h=>by
  simp only [restrict,h k (by simp)]
  rw [ACW (fun x hx=>h x (by simp [hx]))]
theorem oI {H H':Heap}:∀ {ks:List Nat},(∀ k∈ks,AG H k=AG H' k)→NW H ks=NW H' ks
 | [],_=>rfl
 | k::r,h=>by
  simp only [NW,h k (by simp)]
  rw [oI (fun x hx=>h x (by simp [hx]))]
theorem ANh {o:Oper} {τ:Nat→AV} {ts:List Nat} {H H':Heap} (h:∀ k∈I7 o τ ts H,AG H k=AG H' k):I7 o τ ts H=I7 o τ ts H':=by
 unfold I7 at h ⊢
 split
 ·rfl
 ·rename_i hc;simp only [hc,Cz,jp] at h;have h1:=oI (H:=H) (H':=H') (ks:=Q6 τ ts) (fun k hk=>h k (.inl hk))
  have h2:=oI (H:=H) (H':=H') (ks:=NW H (Q6 τ ts)) (fun k hk=>h k (.inr (.inl hk)))
  rw [h2,← h1]
theorem ANi {τ τ':Nat→AV} {ts:List Nat} (h:∀ t∈ts,τ t=τ' t):HG τ ts=HG τ' ts:=by
 funext t
 unfold HG;split
 ·rename_i hm;exact h t (Q5.1 hm)
 ·rfl
theorem ANj {β:Env} {τ:Nat→AV} {ts:List Nat} {a:Act} (h:∀ t,AN β (τ t) (a.tmps.getD t undef)):∀ t,AN β (HG τ ts t) (a.tmps.getD t undef):=by
 intro t;unfold HG;split
 ·exact h t
 ·trivial
theorem Good.restrict {β:Env} {H:Heap} {w:World} (g:Good β H w) (ks:List Nat):Good β (restrict H ks) w where
 heap:=fun b blk h=>g.heap b blk (NX h)
 inj:=fun b b' B n n' h h'=>g.inj b b' B n n' (by
  obtain ⟨x,hx,hr⟩:=GZ h;exact GJ (NX hx) hr) (by
  obtain ⟨x,hx⟩:=lj.1 h';rw [NX hx];rfl)
 lt:=g.lt
def oJ (ops:Array Oper) (o:Oper) (τ:Nat→AV):Option Bool :=
 match o.guard with
 | none=>some true
 | some (j,want)=>match ops[j]? with
  | some oj=>match oj.dst with
   | some t=>match τ t with
    | .val false [.b x]=>some (match x,want with | true,true=>true | false,false=>true | _,_=>false)
    | .tup []=>some false
    | _=>none
   | none=>none
  | none=>none
def ANk (ops:Array Oper) (o:Oper):List Nat :=
 match o.guard with
 | none=>[]
 | some (j,_)=>match ops[j]? with
  | some oj=>match oj.dst with
   | some t=>[t]
   | none=>[]
  | none=>[]
theorem ACX {β:Env} {ops:Array Oper} {o:Oper} {τ:Nat→AV} {a:Act} {z:Bool} (ht:∀ t,AN β (τ t) (a.tmps.getD t undef)) (h:oJ ops o τ=some z) :
  Region.wanted o (yielded ops a.tmps)=z:=by
 unfold oJ at h;unfold Region.wanted;split at h
 ·rename_i hg;injection h with h;subst h;simp [hg]
 ·rename_i j want hg;simp only [hg];split at h
  ·rename_i oj hj;split at h
   ·rename_i t hd;have hr:=ht t;split at h
    ·rename_i x hτ;injection h with h;rw [hτ] at hr;have hv:=Az hr;simp only [BM,qh,and_true] at hv;have hsome:a.tmps[t]? = some (.bool x):=by
      rw [lu] at hv;cases hq:a.tmps[t]? with
      | none=>rw [hq] at hv;simp [undef] at hv
      | some q=>rw [hq] at hv;simpa using hv
     simp only [yielded,hj,Option.bind_some,hd,hsome];rw [← h];cases x<;>cases want<;>rfl
    ·rename_i hτ;injection h with h;rw [hτ] at hr;obtain ⟨us,h1,h2⟩:=hr;simp only [GF] at h1;subst h1;have:∀ b,a.tmps[t]?≠some (.bool b):=by
      intro b hb;rw [lu,hb] at h2;simp at h2
     have hy:yielded ops a.tmps j=none:=by
      unfold yielded;rw [hj,Option.bind_some,hd,Option.bind_some];cases hq:a.tmps[t]? with
      | none=>rfl
      | some q=>cases q<;>first | rfl | exact absurd hq (this _)
     rw [hy,← h];rfl
    ·cases h
   ·cases h
  ·cases h
def Wl (k:Nat):Heap→Bool
 | []=>false
 | (j,_)::r=>match Nat.beq j k with | true=>true | false=>Wl k r
theorem ACY {k:Nat}:∀ {u:Heap},Wl k u=true↔∃ y,(k,y)∈u
 | []=>by simp [Wl]
 | (j,y)::r=>by
  simp only [Wl];split
  ·rename_i h;have:=Ar.1 h;subst this;exact ⟨fun _=>⟨y,by simp⟩,fun _=>rfl⟩
  ·rename_i h;have:=I4 h
   rw [ACY (u:=r)];constructor
   ·rintro ⟨z,hz⟩;exact ⟨z,by simp [hz]⟩
   ·rintro ⟨z,hz⟩
    simp only [ju,jz] at hz;rcases hz with ⟨e,_⟩ | hz
    ·exact absurd e.symm this
    ·exact ⟨z,hz⟩
def I8 (H:Heap) (fr nw:Nat):Heap→Bool
 | []=>true
 | (k,y)::r=>match Wl k r with
  | true=>false
  | false=>match AG H k,y with
   | some b0,_=>match Nat.beq b0.ty Bu with
    | false=>I8 H fr nw r
    | true=>false
   | none,some _=>match Nat.ble fr k&&Nat.blt k (fr+nw) with
    | true=>I8 H fr nw r
    | false=>false
   | none,none=>false
theorem Tu {H:Heap} {fr nw:Nat}:∀ {u:Heap},I8 H fr nw u=true →
  (∀ k y,(k,y)∈u→GY H k=true∨(fr≤k∧k<fr+nw∧y≠none))∧(∀ k y y',(k,y)∈u→(k,y')∈u→y=y')
 | [],_=>⟨by simp,by simp⟩
 | (k,y)::r,h=>by
  simp only [I8] at h;split at h
  ·cases h
  ·rename_i hk;have hk':∀ z,(k,z) ∉ r:=fun z hz=>by
    rw [ACY.2 ⟨z,hz⟩] at hk;cases hk
   have fin:I8 H fr nw r=true→(GY H k=true∨(fr≤k∧k<fr+nw∧y≠none)) →
     (∀ k' y',(k',y')∈(k,y)::r→GY H k'=true∨(fr≤k'∧k'<fr+nw∧y'≠none))∧(∀ k' y1 y2,(k',y1)∈(k,y)::r→(k',y2)∈(k,y)::r→y1=y2):=by
    intro hr hh;obtain ⟨i1,i2⟩:=Tu hr;refine ⟨fun k' y' hm=>?_,fun k' y1 y2 h1 h2=>?_⟩
    ·simp only [ju,jz] at hm;rcases hm with ⟨rfl,rfl⟩ | hm
     ·exact hh
     ·exact i1 _ _ hm
    ·simp only [ju,jz] at h1 h2;rcases h1 with ⟨rfl,rfl⟩ | h1
     ·rcases h2 with ⟨_,rfl⟩ | h2
      ·rfl
      ·exact absurd h2 (hk' _)
     ·rcases h2 with ⟨rfl,rfl⟩ | h2
      ·exact absurd h1 (hk' _)
      ·exact i2 _ _ _ h1 h2
   split at h
   ·rename_i b0 _ hg;split at h
    ·rename_i hro;exact fin h (.inl (GJ hg (Zl hro)))
    ·cases h
   ·rename_i z hg hb;split at h
    ·rename_i hb;have hb':=jo.1 hb;refine fin h (.inr ⟨jf hb'.1,?_,by simp⟩)
     have:=hb'.2
     unfold Nat.blt at this;exact jf this
    ·cases h
   ·cases h
theorem PD {b:Nat}:∀ {u H:Heap},(∀ k y y',(k,y)∈u→(k,y')∈u→y=y')→(∀ y,(b,y)∈u→AG (GI H u) b=y)∧((∀ y,(b,y) ∉ u)→AG (GI H u) b=AG H b)
 | [],H,_=>⟨by simp,fun _=>rfl⟩
 | (k,y)::r,H,hu=>by
  have hu':∀ k y y',(k,y)∈r→(k,y')∈r→y=y':=fun k y y' h h'=>hu k y y' (by simp [h]) (by simp [h'])
  simp only [GI];obtain ⟨i1,i2⟩:=PD (b:=b) (u:=r) (H:=I3 H k y) hu'
  constructor
  ·intro z hz;by_cases hr:∃ z',(b,z')∈r
   ·obtain ⟨z',hz'⟩:=hr;rw [i1 z' hz'];exact hu b _ _ (by simp [hz']) hz
   ·rw [i2 (fun z' hz'=>hr ⟨z',hz'⟩)]
    simp only [ju,jz] at hz;rcases hz with ⟨rfl,rfl⟩ | hz
    ·exact AMp _ _ _
    ·exact absurd ⟨z,hz⟩ hr
  ·intro iz;rw [i2 (fun z hz=>iz z (by simp [hz]))]
   exact AMq _ _ _ _ (fun e=>iz y (by simp [e]))
theorem Good.step {β β':Env} {H:Heap} {fr:Nat} {r:R} {w w':World} {u:Value} (g:Good β H w) (he:Eff β fr r w u w' β') (hu:I8 H fr r.nw r.upd=true) (hf:∀ b,fr≤b→b<fr+r.nw→β b=none) :
  Good β' (GI H r.upd) w':=by
 obtain ⟨u1,u2⟩:=Tu hu;have old:∀ b B n,β b=some (.at_ B n)→(AG (GI H r.upd) b).isSome=true→(AG H b).isSome=true:=by
  intro b B n hb hs;by_cases hk:∃ y,(b,y)∈r.upd
  ·obtain ⟨y,hy⟩:=hk;rcases u1 _ _ hy with h | ⟨h1,h2,_⟩
   ·exact WW h
   ·rw [hf b h1 h2] at hb;cases hb
  ·rw [(PD u2).2 (fun y hy=>hk ⟨y,hy⟩)] at hs;exact hs
 have oldr:∀ b B n,β b=some (.at_ B n)→GY (GI H r.upd) b=true→GY H b=true:=by
  intro b B n hb hs;by_cases hk:∃ y,(b,y)∈r.upd
  ·obtain ⟨y,hy⟩:=hk;rcases u1 _ _ hy with h | ⟨h1,h2,_⟩
   ·exact h
   ·rw [hf b h1 h2] at hb;cases hb
  ·rw [← ABy ((PD u2).2 (fun y hy=>hk ⟨y,hy⟩))];exact hs
 have clash:∀ b b' B n n',(AG (GI H r.upd) b).isSome=true→β b=some (.at_ B n)→(∀ B' m,some (Loc.at_ B n')=some (Loc.at_ B' m)→w.heap.size≤B'∨∃ k m',(k,none)∈r.upd∧β k=some (.at_ B' m'))→b=b':=by
  intro b b' B n n' hs hb hnew;rcases hnew B n' rfl with h | ⟨k,m',hk,hk2⟩
  ·have:=g.lt _ _ _ hb;omega
  ·have hbl:=old b B n hb hs;have hkl:GY H k=true:=by
    rcases u1 _ _ hk with h | ⟨_,_,h⟩
    ·exact h
    ·exact absurd rfl h
   have e:=(g.inj _ _ _ _ _ hkl hbl hk2 hb).symm
   subst e;rw [(PD u2).1 none hk] at hs;cases hs
 refine ⟨?_,?_,he.lt⟩
 ·intro b blk hb;by_cases hk:∃ y,(b,y)∈r.upd
  ·obtain ⟨y,hy⟩:=hk;rw [(PD u2).1 y hy] at hb;subst hb;exact he.upd _ _ hy
  ·rw [(PD u2).2 (fun y hy=>hk ⟨y,hy⟩)] at hb
   have hrel:=g.heap _ _ hb;refine Zf he.ext ?_
   have kept:∀ B n,β b=some (.at_ B n)→w'.heap[B]? = w.heap[B]?:=fun B n e1=>by
    rw [he.frame B (g.lt _ _ _ e1) ?_]
    ·intro k y m hky hkm;rcases u1 _ _ hky with h | ⟨h1,h2,_⟩
     ·have e:=g.inj _ _ _ _ _ h (by rw [hb];rfl) hkm e1
      subst e;exact hk ⟨y,hky⟩
     ·rw [hf k h1 h2] at hkm;cases hkm
   rcases hrel with ⟨B,n,l,t,pre,ty,fz,e1,e2,e3,e4⟩ | h | ⟨B,l,es,q,e1,e2,e3,e4,e5⟩
   ·exact .inl ⟨B,n,l,t,pre,ty,fz,e1,e2,by rw [kept B n e1];exact e3,e4⟩
   ·exact .inr (.inl h)
   ·exact .inr (.inr ⟨B,l,es,q,e1,e2,e3,by rw [kept B _ e1];exact e4,e5⟩)
 ·intro b b' B n n' hs hs' hb hb';rcases he.new _ _ hb with h | ⟨h1,h2,h3⟩
  ·rcases he.new _ _ hb' with h' | ⟨h1',h2',h3'⟩
   ·exact g.inj _ _ _ _ _ (oldr _ _ _ h hs) (old _ _ _ h' hs') h h'
   ·exact clash b b' B n n' (WW hs) h (fun B' m e=>h3' B' m (by injection e))
  ·rcases he.new _ _ hb' with h' | ⟨h1',h2',h3'⟩
   ·exact (clash b' b B n' n hs' h' (fun B' m e=>h3 B' m (by injection e))).symm
   ·exact he.inj _ _ _ _ _ h1 h1' h2 h2' hb hb'
def oK (i:Nat):List Oper→Bool
 | []=>false
 | o::r=>match o.guard with
  | some (j,_)=>match Nat.beq j i with | true=>true | false=>oK i r
  | none=>oK i r
def Wm (used:Bool) (r:R):Option R :=
 match used,r.val with
 | true,.val false [.v (.bool x)]=>match r.gv with
  | d::gy=>some ⟨.val false [.b d],r.upd,r.nw,(x,d)::r.conds,gy⟩
  | []=>none
 | _,_=>some r
theorem ANl {used:Bool} {r r':R} (h:Wm used r=some r') (hc:AO r'.conds):AO r.conds∧r'.upd=r.upd∧r'.nw=r.nw ∧
  (∀ {β:Env} {fr:Nat} {w:World} {u:Value} {w':World} {β':Env},Eff β fr r w u w' β'→Eff β fr r' w u w' β'):=by
 unfold Wm at h;split at h
 ·rename_i x hv;split at h
  ·rename_i d gy hp;injection h with h;subst h;obtain ⟨h1,h2⟩:=hc;subst h1;refine ⟨h2,rfl,rfl,fun he=>⟨he.ext,he.new,he.lt,he.inj,?_,he.upd,he.frame,he.size,he.os,he.tape,he.output⟩⟩
   have:=he.val
   rw [hv] at this;have:=(Az this).1
   injection this with this _;subst this;exact Aw rfl
  ·cases h
 ·injection h with h;subst h;exact ⟨hc,rfl,rfl,id⟩
def oL:List Operand→List Nat
 | []=>[]
 | .tmp t::r=>t::oL r
 | _::r=>oL r
def NY (ops:Array Oper) (o:Oper):List Nat:=cat (ANk ops o) (oL o.op.operands.toList)
def K5 (P:Program) (O:gr) (ops:Array Oper) (i:Nat) (o:Oper) (ts:List Nat) (τ:Nat→AV) (H:Heap) (fr:Nat) (gv:List Bool):Option R :=
 match oJ ops o (HG τ ts) with
 | some false=>some ⟨.tup [],[],0,[],gv⟩
 | some true=>match oG P O o (HG τ ts) (restrict H (I7 o (HG τ ts) ts H)) fr gv with
  | some r=>match I8 (restrict H (I7 o (HG τ ts) ts H)) fr r.nw r.upd with
   | true=>Wm (oK i ops.toList) r
   | false=>none
  | none=>none
 | none=>none
theorem ANm {P:Program} {O:gr} {ops:Array Oper} {i:Nat} {o:Oper} {ts:List Nat} {τ τ':Nat→AV} {H H':Heap} {fr:Nat} {gv:List Bool}
  (h1:∀ t∈ts,τ t=τ' t) (h2:∀ k∈I7 o (HG τ ts) ts H,AG H k=AG H' k):K5 P O ops i o ts τ H fr gv=K5 P O ops i o ts τ' H' fr gv:=by
 unfold K5;rw [← ANi h1,← ANh h2,← ACW h2]
theorem Wn {H:Heap} {ks:List Nat} {fr nw:Nat}:∀ {u:Heap},I8 (restrict H ks) fr nw u=true→(∀ k,fr≤k→k<fr+nw→AG H k=none)→I8 H fr nw u=true
 | [],_,_=>rfl
 | (k,y)::r,h,hn=>by
  simp only [I8] at h ⊢;split at h
  ·cases h
  ·split at h
   ·rename_i b hg;rw [NX hg];simp only
    split at h
    ·exact Wn h hn
    ·cases h
   ·rename_i z hg;split at h
    ·rename_i hb;have hb':=jo.1 hb;have h2:k<fr+nw:=by
      have:=hb'.2
      unfold Nat.blt at this;exact jf this
     rw [hn k (jf hb'.1) h2];exact Wn h hn
    ·cases h
   ·cases h
theorem Z3 {P:Program} {O:gr} (hO:gp P O) {ops:Array Oper} {i:Nat} {o:Oper} {ts:List Nat} {τ:Nat→AV} {H:Heap} {fr:Nat} {gv:List Bool} {r:R} {β:Env} {a:Act} {w:World}
  (ht:∀ t,AN β (τ t) (a.tmps.getD t undef)) (g:Good β H w) (h:K5 P O ops i o ts τ H fr gv=some r) (hc:AO r.conds) (hf:∀ b,fr≤b→b<fr+r.nw→β b=none)
  (hfH:∀ b,fr≤b→b<fr+r.nw→AG H b=none) {K:Act→World→Prop} {Q:Exit→Act→World→Prop} (ho:ops[i]? = some o)
  (hn:∀ u w' β',Eff β fr r w u w' β'→Good β' (GI H r.upd) w'→K (a.put o.dst u) w'):wpOp P ops Q i K a w:=by
 have ht':=ANj (ts:=ts) ht
 unfold K5 at h;unfold wpOp;simp only [ho];split at h
 ·rename_i hw;injection h with h;subst h;rw [ACX ht' hw];have he:Eff β fr ⟨.tup [],[],0,[],gv⟩ w undef w β:=Eff.pure_ g ⟨[],rfl,rfl⟩
  exact hn _ _ _ he (by simpa [GI] using g)
 ·rename_i hw;rw [ACX ht' hw];split at h
  ·rename_i r0 ha;split at h
   ·rename_i hu;obtain ⟨c1,c2,c3,c4⟩:=ANl h hc;have hf0:∀ b,fr≤b→b<fr+r0.nw→β b=none:=by rw [← c3];exact hf
    have hfH0:∀ b,fr≤b→b<fr+r0.nw→AG H b=none:=by rw [← c3];exact hfH
    refine .inl (ANf hO ht' (g.restrict _) ha c1 hf0 fun u w' β' he=>?_)
    have hu':=Wn hu hfH0;exact hn _ _ _ (c4 he) (g.step (c4 he) (by rw [c2,c3];exact hu') hf)
   ·cases h
  ·cases h
 ·cases h
end Go.Proofs.YtgnajdcdcblaoaaGreat.Ex
