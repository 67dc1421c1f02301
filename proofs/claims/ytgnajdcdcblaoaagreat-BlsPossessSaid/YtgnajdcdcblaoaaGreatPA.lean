/- Part 1 of the proof. -/
import Derived.Calls
import Derived.Orders
import Derived.Laws.CopyRow
import Derived.Laws.Entries
import Derived.Laws.StructEq
import Derived.Laws.Externs
import Derived.Laws.BitsLemmas
import Derived.Laws.Bits64
import Derived.ChangeKeysEq
import Derived.KernelRfl
import Derived.Laws.Slices
import Derived.Laws.MakeOwn
import Derived.Laws.BytesString
import Derived.Laws.IdiomStrings
import Derived.MapKept
import Derived.Laws.Cover3
namespace Go.Proofs.YtgnajdcdcblaoaaGreat
theorem dk {α} {a b:α} (h:a=b:=by kernel_rfl):a=b:=h
theorem dl {p:Prop} (h:p:=by omega):p:=h
theorem dm {p:Prop} (h:p:=by decide):p:=h
theorem fu:type_of% @decide_eq_true:=@decide_eq_true
theorem fv:type_of% @if_neg:=@if_neg
theorem fw:type_of% @if_pos:=@if_pos
theorem f_:type_of% @Nat.le_of_ble_eq_true:=@Nat.le_of_ble_eq_true
theorem ga:type_of% @decide_eq_false:=@decide_eq_false
theorem gb:type_of% @Nat.ble_eq_true_of_le:=@Nat.ble_eq_true_of_le
theorem gc:type_of% @decide_eq_true_eq:=@decide_eq_true_eq
theorem gd:type_of% @Nat.le_refl:=@Nat.le_refl
theorem ge:type_of% @Nat.mod_eq_of_lt:=@Nat.mod_eq_of_lt
theorem gh:type_of% @congrArg:=@congrArg
theorem gi:type_of% @Bool.and_eq_true:=@Bool.and_eq_true
theorem gj:type_of% @Int.toNat_natCast:=@Int.toNat_natCast
theorem gk:type_of% @Bool.and_eq_true_iff:=@Bool.and_eq_true_iff
theorem gl:type_of% @List.mem_append:=@List.mem_append
theorem gn:type_of% @Bool.false_ne_true:=@Bool.false_ne_true
theorem gp:type_of% @Nat.pow_add:=@Nat.pow_add
theorem gq:type_of% @Option.some.injEq:=@Option.some.injEq
theorem gr:type_of% @List.mem_cons:=@List.mem_cons
theorem gt:type_of% @Nat.lt_or_ge:=@Nat.lt_or_ge
theorem gu:type_of% @Nat.mod_lt:=@Nat.mod_lt
theorem gv:type_of% @of_decide_eq_true:=@of_decide_eq_true
theorem gw:type_of% @Nat.mul_comm:=@Nat.mul_comm
theorem gx:type_of% @Prod.mk.injEq:=@Prod.mk.injEq
theorem gy:type_of% @List.getD_eq_getElem?_getD:=@List.getD_eq_getElem?_getD
theorem gz:type_of% @Nat.zero_add:=@Nat.zero_add
theorem g_:type_of% @Nat.mul_one:=@Nat.mul_one
theorem h_:type_of% @List.length_take:=@List.length_take
theorem ia:type_of% @Nat.pow_zero:=@Nat.pow_zero
theorem ib:type_of% @List.length_append:=@List.length_append
theorem ic:type_of% @Int.eq_ofNat_of_zero_le:=@Int.eq_ofNat_of_zero_le
theorem ie:type_of% @Nat.mul_mod:=@Nat.mul_mod
theorem ig:type_of% @Nat.div_one:=@Nat.div_one
theorem ii:type_of% @List.length_cons:=@List.length_cons
theorem ij:type_of% @Classical.choose_spec:=@Classical.choose_spec
theorem ik:type_of% @Nat.lt_of_lt_of_le:=@Nat.lt_of_lt_of_le
theorem ip:type_of% @Nat.pow_succ:=@Nat.pow_succ
theorem iq:type_of% @List.append_nil:=@List.append_nil
theorem ir:type_of% @List.length_drop:=@List.length_drop
theorem iu:type_of% @Nat.div_div_eq_div_mul:=@Nat.div_div_eq_div_mul
theorem iw:type_of% @Nat.mul_assoc:=@Nat.mul_assoc
theorem iy:type_of% @Int.natCast_mul:=@Int.natCast_mul
theorem iz:type_of% @Nat.add_mul:=@Nat.add_mul
theorem i_:type_of% @List.map_cons:=@List.map_cons
theorem ja:type_of% @List.mem_singleton:=@List.mem_singleton
theorem jb:type_of% @Nat.div_lt_of_lt_mul:=@Nat.div_lt_of_lt_mul
theorem jc:type_of% @Bool.true_and:=@Bool.true_and
theorem jd:type_of% @Option.isSome_iff_exists:=@Option.isSome_iff_exists
theorem je:type_of% @Nat.mul_zero:=@Nat.mul_zero
theorem jf:type_of% @Nat.div_eq_of_lt:=@Nat.div_eq_of_lt
theorem jg:type_of% @Array.getD_eq_getD_getElem?:=@Array.getD_eq_getD_getElem?
theorem jh:type_of% @Nat.eq_zero_or_pos:=@Nat.eq_zero_or_pos
theorem ji:type_of% @Nat.le_trans:=@Nat.le_trans
theorem jj:type_of% @List.mem_map:=@List.mem_map
theorem jk:type_of% @List.length_map:=@List.length_map
theorem jl:type_of% @List.mem_range:=@List.mem_range
theorem jm:type_of% @Nat.le_of_dvd:=@Nat.le_of_dvd
theorem jn:type_of% @Nat.min_eq_left:=@Nat.min_eq_left
theorem jo:type_of% @Nat.div_add_mod:=@Nat.div_add_mod
theorem jp:type_of% @Nat.mul_le_mul_right:=@Nat.mul_le_mul_right
theorem jq:type_of% @Array.ext':=@Array.ext'
theorem jr:type_of% @Nat.pow_pos:=@Nat.pow_pos
theorem jt:type_of% @Nat.mul_left_comm:=@Nat.mul_left_comm
theorem ju:type_of% @Prod.ext:=@Prod.ext
theorem jv:type_of% @Nat.eq_of_beq_eq_true:=@Nat.eq_of_beq_eq_true
theorem jw:type_of% @List.getElem?_eq_none:=@List.getElem?_eq_none
theorem jx:type_of% @Nat.add_assoc:=@Nat.add_assoc
theorem jy:type_of% @Nat.lt_trans:=@Nat.lt_trans
theorem jz:type_of% @List.all_eq_true:=@List.all_eq_true
theorem j_:type_of% @Nat.mul_le_mul_left:=@Nat.mul_le_mul_left
theorem ka:type_of% @Nat.mod_mod:=@Nat.mod_mod
theorem kb:type_of% @List.map_congr_left:=@List.map_congr_left
theorem kc:type_of% @Bool.and_false:=@Bool.and_false
theorem ke:type_of% @Nat.mod_two_eq_zero_or_one:=@Nat.mod_two_eq_zero_or_one
theorem kf:type_of% @Nat.mul_add:=@Nat.mul_add
theorem ki:type_of% @List.drop_drop:=@List.drop_drop
theorem kj:type_of% @List.take_append_drop:=@List.take_append_drop
theorem kn:type_of% @List.getElem?_eq_getElem:=@List.getElem?_eq_getElem
theorem ko:type_of% @List.take_of_length_le:=@List.take_of_length_le
theorem kp:type_of% @List.map_map:=@List.map_map
theorem kq:type_of% @Nat.pow_mod:=@Nat.pow_mod
theorem kr:type_of% @Bool.false_and:=@Bool.false_and
theorem kt:type_of% @List.length_replicate:=@List.length_replicate
theorem ku:type_of% @Int.tmod_eq_emod_of_nonneg:=@Int.tmod_eq_emod_of_nonneg
theorem kv:type_of% @Nat.add_mod:=@Nat.add_mod
theorem kw:type_of% @Nat.sub_self:=@Nat.sub_self
theorem kx:type_of% @List.cons_append:=@List.cons_append
theorem kz:type_of% @Nat.add_zero:=@Nat.add_zero
theorem k_:type_of% @List.mem_cons_of_mem:=@List.mem_cons_of_mem
theorem ld:type_of% @Nat.not_lt_zero:=@Nat.not_lt_zero
theorem lf:type_of% @List.append_assoc:=@List.append_assoc
theorem lg:type_of% @List.mem_of_getElem?:=@List.mem_of_getElem?
theorem lh:type_of% @List.nil_append:=@List.nil_append
theorem li:type_of% @List.getElem?_append_left:=@List.getElem?_append_left
theorem lj:type_of% @List.mem_of_mem_drop:=@List.mem_of_mem_drop
theorem lk:type_of% @List.map_append:=@List.map_append
theorem ll:type_of% @Nat.mul_le_mul:=@Nat.mul_le_mul
theorem lm:type_of% @List.length_range:=@List.length_range
theorem lu:type_of% @Nat.pow_le_pow_right:=@Nat.pow_le_pow_right
theorem lv:type_of% @Nat.zero_mod:=@Nat.zero_mod
theorem lw:type_of% @Bool.not_true:=@Bool.not_true
theorem lz:type_of% @Nat.sub_zero:=@Nat.sub_zero
theorem l_:type_of% @of_decide_eq_false:=@of_decide_eq_false
theorem ma:type_of% @Nat.add_mod_right:=@Nat.add_mod_right
theorem mb:type_of% @Nat.one_mul:=@Nat.one_mul
theorem mc:type_of% @List.drop_zero:=@List.drop_zero
theorem md:type_of% @List.getElem?_cons_zero:=@List.getElem?_cons_zero
theorem me:type_of% @List.mem_of_mem_take:=@List.mem_of_mem_take
theorem mf:type_of% @Nat.pow_mul:=@Nat.pow_mul
theorem mg:type_of% @Nat.lt_of_le_of_lt:=@Nat.lt_of_le_of_lt
theorem mi:type_of% @Fin.ext_iff:=@Fin.ext_iff
theorem mj:type_of% @Int.tdiv_eq_ediv_of_nonneg:=@Int.tdiv_eq_ediv_of_nonneg
theorem ml:type_of% @Int.natCast_pow:=@Int.natCast_pow
theorem mn:type_of% @Nat.mod_mul_mod:=@Nat.mod_mul_mod
theorem mq:type_of% @Nat.and_lt_two_pow:=@Nat.and_lt_two_pow
theorem mr:type_of% @Int.natCast_add:=@Int.natCast_add
theorem mv:type_of% @Nat.mod_one:=@Nat.mod_one
theorem mw:type_of% @Nat.zero_mul:=@Nat.zero_mul
theorem my:type_of% @Nat.two_mul:=@Nat.two_mul
theorem mz:type_of% @List.cons.injEq:=@List.cons.injEq
theorem m_:type_of% @Int.mul_add:=@Int.mul_add
theorem nb:type_of% @Int.fdiv_eq_ediv_of_nonneg:=@Int.fdiv_eq_ediv_of_nonneg
theorem nc:type_of% @Nat.div_le_self:=@Nat.div_le_self
theorem nf:type_of% @Nat.mod_eq_zero_of_dvd:=@Nat.mod_eq_zero_of_dvd
theorem nh:type_of% @List.nodup_cons:=@List.nodup_cons
theorem ni:type_of% @List.mem_cons_self:=@List.mem_cons_self
theorem nj:type_of% @Nat.lt_irrefl:=@Nat.lt_irrefl
theorem nl:type_of% @List.drop_eq_nil_of_le:=@List.drop_eq_nil_of_le
theorem nq:type_of% @Nat.zero_le:=@Nat.zero_le
theorem nr:type_of% @Nat.div_mul_le_self:=@Nat.div_mul_le_self
theorem nu:type_of% @List.getElem?_drop:=@List.getElem?_drop
theorem nx:type_of% @List.getElem?_map:=@List.getElem?_map
theorem ny:type_of% @Option.map_eq_some_iff:=@Option.map_eq_some_iff
theorem nz:type_of% @Bool.not_false:=@Bool.not_false
theorem n_:type_of% @Array.toList_map:=@Array.toList_map
theorem od:type_of% @Nat.dvd_of_mod_eq_zero:=@Nat.dvd_of_mod_eq_zero
theorem oe:type_of% @Int.natCast_ediv:=@Int.natCast_ediv
theorem og:type_of% @List.ext_getElem:=@List.ext_getElem
theorem oh:type_of% @List.map_take:=@List.map_take
theorem oi:type_of% @Nat.mul_right_comm:=@Nat.mul_right_comm
theorem om:type_of% @List.replicate_succ:=@List.replicate_succ
theorem oq:type_of% @Nat.succ_mul:=@Nat.succ_mul
theorem ot:type_of% @Array.getElem?_toList:=@Array.getElem?_toList
theorem ow:type_of% @List.getElem?_append_right:=@List.getElem?_append_right
theorem oy:type_of% @Nat.pos_of_ne_zero:=@Nat.pos_of_ne_zero
theorem oz:type_of% @Bool.or_eq_true:=@Bool.or_eq_true
theorem o_:type_of% @List.getElem?_take_of_lt:=@List.getElem?_take_of_lt
theorem pc:type_of% @List.range_succ_eq_map:=@List.range_succ_eq_map
theorem pe:type_of% @Nat.pow_two:=@Nat.pow_two
theorem pf:type_of% @List.length_eq_zero_iff:=@List.length_eq_zero_iff
theorem pi:type_of% @Nat.pow_succ':=@Nat.pow_succ'
theorem pj:type_of% @Int.mul_assoc:=@Int.mul_assoc
theorem pm:type_of% @List.set_append_right:=@List.set_append_right
theorem pn:type_of% @List.map_drop:=@List.map_drop
theorem po:type_of% @Nat.xor_lt_two_pow:=@Nat.xor_lt_two_pow
theorem pp:type_of% @List.range'_succ:=@List.range'_succ
theorem pq:type_of% @List.length_eq_one_iff:=@List.length_eq_one_iff
theorem pr:type_of% @Array.getElem?_setIfInBounds_ne:=@Array.getElem?_setIfInBounds_ne
theorem pu:type_of% @Array.getElem?_push:=@Array.getElem?_push
theorem pv:type_of% @Array.getElem?_modify:=@Array.getElem?_modify
theorem p_:type_of% @List.range_succ:=@List.range_succ
theorem qb:type_of% @Nat.add_sub_cancel_left:=@Nat.add_sub_cancel_left
theorem qe:type_of% @List.drop_append_of_le_length:=@List.drop_append_of_le_length
theorem qf:type_of% @List.take_append_of_le_length:=@List.take_append_of_le_length
theorem qg:type_of% @Nat.div_lt_iff_lt_mul:=@Nat.div_lt_iff_lt_mul
theorem qh:type_of% @Nat.mod_eq_sub_mod:=@Nat.mod_eq_sub_mod
theorem qi:type_of% @List.range_eq_range':=@List.range_eq_range'
theorem ql:type_of% @Array.getElem?_eq_getElem:=@Array.getElem?_eq_getElem
theorem qu:type_of% @Int.toNat_of_nonneg:=@Int.toNat_of_nonneg
theorem qw:type_of% @Nat.add_mul_div_left:=@Nat.add_mul_div_left
theorem qz:type_of% @Nat.add_mul_mod_self_left:=@Nat.add_mul_mod_self_left
theorem ra:type_of% @Classical.byContradiction:=@Classical.byContradiction
theorem rf:type_of% @List.getElem?_take:=@List.getElem?_take
theorem ri:type_of% @Array.length_toList:=@Array.length_toList
theorem rk:type_of% @Nat.mod_mod_of_dvd:=@Nat.mod_mod_of_dvd
theorem si:type_of% @Array.getElem?_setIfInBounds_self_of_lt:=@Array.getElem?_setIfInBounds_self_of_lt
abbrev dp:=List Int
end Go.Proofs.YtgnajdcdcblaoaaGreat
namespace Go.Proofs.YtgnajdcdcblaoaaGreat.Ex
inductive Ch where
 | n (k:IntKind) (i:Int)
 | b (x:Bool)
 | v (x:Value)
 | p (bk off:Nat)
 | sl (bk off len cap:Nat)
 | sx (bk len sz:Nat)
 | num (k x:Nat)
 | seq (kd:IntKind) (l:dp)
 | clo (f:FuncId) (caps:List (Nat×Nat))
 | mth (f:FuncId) (bk off:Nat)
 | yl (bk:Nat)
 | mp (bk:Nat)
 | mk
inductive AV where
 | val (g:Bool) (cs:List Ch)
 | tup (xs:List (Bool×List Ch))
 | any
structure Blk where
 ty:TypeId
 cs:List Ch
 opn:Bool:=false
inductive Loc where
 | at_ (B:Nat) (n:Nat×Nat)
 | nil
 | emp
def Bf:Nat:=4294967295
abbrev Heap:=List (Nat×Option Blk)
abbrev Env:=Nat→Option Loc
def has (k:IntKind) (n:Int):Prop:=k.min≤n∧n≤k.max
instance (k:IntKind) (n:Int):Decidable (has k n):=by unfold has;infer_instance
def AE (x i:Nat):Int:=((x / 2^(64*i) % 2^64:Nat):Int)
def words (k x:Nat):List Value:=(List.range k).map fun i=>.int .u64 (AE x i)
def Mk (k x:Nat):List Ch:=(List.range k).map fun i=>.v (.int .u64 (AE x i))
def okV (x:Value):Prop:=x.oneCell'=true∧(match x with | .int k i=>has k i | _=>True)
def FM (β:Env):List (Nat×Nat)→List Value→Prop
 | [],l=>l=[]
 | (bk,off)::r,l=>∃ B n l',β bk=some (.at_ B n)∧FM β r l'∧l=.pointer (some ⟨B,n.2+off,none⟩)::l'
def BF (β:Env):Ch→List Value→Prop
 | .n k i,l=>l=[.int k i]∧has k i
 | .b x,l=>l=[.bool x]
 | .v x,l=>l=[x]∧okV x
 | .p bk off,l=>∃ B n,β bk=some (.at_ B n)∧l=[.pointer (some ⟨B,n.2+off,none⟩)]
 | .sl bk off len cap,l=>(∃ B n,β bk=some (.at_ B n)∧l=[.slice (some ⟨B,n.2+off,none⟩) len cap])∨(β bk=some .nil∧off=0∧len=0∧cap=0∧l=[.slice none 0 0])∨(β bk=some .emp∧off=0∧len=0∧cap=0∧∃ a m,l=[.slice (some a) 0 m])
 | .sx bk len sz,l=>(∃ B n cap,β bk=some (.at_ B (n,0))∧l=[.slice (some ⟨B,0,none⟩) len cap]∧len≤cap∧cap*sz≤n)∨(β bk=some .nil∧len=0∧l=[.slice none 0 0])
 | .num k x,l=>x<2^(64*k)∧l=words k x
 | .seq kd xs,l=>l=xs.map (.int kd)∧∀ x∈xs,has kd x
 | .clo f caps,l=>∃ ps,FM β caps ps∧l=[.func (.func f) #[] ⟨ps⟩]
 | .mth f bk off,l=>∃ B n,β bk=some (.at_ B n)∧l=[.func (.func f) ⟨[.agg ⟨[.pointer (some ⟨B,n.2+off,none⟩)]⟩]⟩ ⟨[]⟩]
 | .yl bk,l=>∃ L n,β bk=some (.at_ L n)∧l=[.func (.yield L) ⟨[]⟩ ⟨[]⟩]
 | .mp bk,l=>∃ B,β bk=some (.at_ B (0,0))∧l=[.map (some B)]
 | .mk,l=>l=[.nilIface]
def AO (β:Env):List Ch→List Value→Prop
 | [],l=>l=[]
 | c::cs,l=>∃ l1 l2,BF β c l1∧AO β cs l2∧l=l1++l2
def Bi (β:Env):Bool→List Ch→Value→Prop
 | true,cs,u=>∃ l,AO β cs l∧u=.agg ⟨l⟩
 | false,cs,u=>AO β cs [u]
def FN (β:Env):List (Bool×List Ch)→List Value→Prop
 | [],l=>l=[]
 | (g,cs)::r,l=>∃ u l',Bi β g cs u∧FN β r l'∧l=u::l'
def AL (β:Env):AV→Value→Prop
 | .val g cs,u=>Bi β g cs u
 | .tup xs,u=>∃ us,FN β xs us∧u=.tuple ⟨us⟩
 | .any,_=>True
def I8:Nat:=4294967296
def j9 (s:Nat) (es:List MapEntry) (l:List Value):Prop :=
 l=es.flatMap (fun e=>e.key::e.val.cells.toList)∧∀ e∈es,(∃ st,e.key=.string st)∧∃ c:List Value,e.val=.agg ⟨c⟩∧c.length=s
def Loc.out (b:Blk):Loc→Prop
 | .at_ _ _=>False
 | .nil=>b.opn=true∨b.ty=Bf
 | .emp=>b.opn=false∧b.ty=Bf
def DN (β:Env) (blk:Blk) (bk:Nat) (w:World):Prop :=
 (∃ B n l t pre ty fz,β bk=some (.at_ B n)∧AO β blk.cs l∧w.heap[B]? = some (.cells ⟨pre++(l++t)⟩ ty fz)∧pre.length=n.2 ∧
  (blk.ty≠Bf→pre=[]∧ty=blk.ty∧fz=(0,0)∧(blk.opn=false→t=[])∧(l++t).length=n.1∧(∀ v∈t,v.oneCell'=true))) ∨
 (∃ X,β bk=some X∧X.out blk∧AO β blk.cs []) ∨
 (∃ B l es clock,β bk=some (.at_ B (0,0))∧I8≤blk.ty∧AO β blk.cs (.nilIface::l)∧w.heap[B]? = some (.map es clock)∧j9 (blk.ty-I8) es.toList l)
theorem Yo {β:Env} {blk:Blk} {bk B n:Nat} {l t:List Value} {w:World} (h1:β bk=some (.at_ B (n,0))) (h2:AO β blk.cs l) (h3:w.heap[B]? = some (.cells ⟨l++t⟩ blk.ty (0,0))) (h4:blk.opn=false→t=[]) (h5:(l++t).length=n)
  (h6:∀ v∈t,v.oneCell'=true):DN β blk bk w :=
 .inl ⟨B,(n,0),l,t,[],blk.ty,(0,0),h1,h2,h3,rfl,fun _=>⟨rfl,rfl,rfl,h4,h5,h6⟩⟩
theorem AAu {β:Env} {blk:Blk} {bk:Nat} {w:World} (h:DN β blk bk w) (ht:blk.ty<I8) :
  (∃ B n l t pre ty fz,β bk=some (.at_ B n)∧AO β blk.cs l∧w.heap[B]? = some (.cells ⟨pre++(l++t)⟩ ty fz)∧pre.length=n.2 ∧
  (blk.ty≠Bf→pre=[]∧ty=blk.ty∧fz=(0,0)∧(blk.opn=false→t=[])∧(l++t).length=n.1∧(∀ v∈t,v.oneCell'=true))) ∨
  (∃ X,β bk=some X∧X.out blk∧AO β blk.cs []):=by
 rcases h with h | h | ⟨_,_,_,_,_,h,_⟩
 ·exact .inl h
 ·exact .inr h
 ·exact absurd h (Nat.not_le.2 ht)
theorem ALy {β:Env} {blk:Blk} {bk:Nat} {w:World} (h:DN β blk bk w) (he:β bk=some .emp):blk.opn=false∧blk.ty=Bf:=by
 rcases h with ⟨B,n,l,t,pre,ty,fz,h1,_⟩ | ⟨X,h1,h2,_⟩ | ⟨B,l,es,q,h1,_⟩
 ·rw [he] at h1;cases h1
 ·rw [he] at h1;injection h1 with h1;subst h1;exact h2
 ·rw [he] at h1;cases h1
theorem P6 {β:Env} {blk:Blk} {bk:Nat} {w:World} (h:DN β blk bk w) (hr:blk.ty<Bf) :
  (∃ B n l t,β bk=some (.at_ B (n,0))∧AO β blk.cs l∧w.heap[B]? = some (.cells ⟨l++t⟩ blk.ty (0,0))∧(blk.opn=false→t=[])∧(l++t).length=n∧(∀ v∈t,v.oneCell'=true))∨(β bk=some .nil∧blk.opn=true∧AO β blk.cs []):=by
 rcases AAu h (jy hr dm) with ⟨B,n,l,t,pre,ty,fz,h1,h2,h3,h4,h5⟩ | ⟨X,h1,h2,h3⟩
 ·obtain ⟨rfl,rfl,rfl,e4,e5,e6⟩:=h5 (Nat.ne_of_lt hr)
  have hn:n=(n.1,0):=by rw [show (0:Nat)=n.2 from h4]
  exact .inl ⟨B,n.1,l,t,by rw [← hn];exact h1,h2,h3,e4,e5,e6⟩
 ·cases X with
  | at_=>exact h2.elim
  | nil=>exact .inr ⟨h1,Or.resolve_right h2 (Nat.ne_of_lt hr),h3⟩
  | emp=>exact absurd h2.2 (Nat.ne_of_lt hr)
def Env.le (β β':Env):Prop:=∀ b B,β b=some B→β' b=some B
theorem Env.le_refl (β:Env):Env.le β β:=fun _ _ h=>h
theorem Env.le_trans {a b c:Env} (h:Env.le a b) (k:Env.le b c):Env.le a c:=fun x X e=>k x X (h x X e)
section
variable {β β':Env} (hm:Env.le β β')
include hm
theorem kC:∀ {r:List (Nat×Nat)} {l:List Value},FM β r l→FM β' r l
 | [],_,h=>h
 | (_,_)::_,_,⟨B,n,l',h1,h2,h3⟩=>⟨B,n,l',hm _ _ h1,kC h2,h3⟩
theorem ALz {c:Ch} {l:List Value} (h:BF β c l):BF β' c l:=by
 cases c<;>simp only [BF] at h ⊢
 case n=>exact h
 case b=>exact h
 case v=>exact h
 case p=>obtain ⟨B,n,h1,h2⟩:=h;exact ⟨B,n,hm _ _ h1,h2⟩
 case sl =>
  rcases h with ⟨B,n,h1,h2⟩ | ⟨h1,h2⟩ | ⟨h1,h2⟩
  ·exact .inl ⟨B,n,hm _ _ h1,h2⟩
  ·exact .inr (.inl ⟨hm _ _ h1,h2⟩)
  ·exact .inr (.inr ⟨hm _ _ h1,h2⟩)
 case sx =>
  rcases h with ⟨B,n,cap,h1,h2⟩ | ⟨h1,h2⟩
  ·exact .inl ⟨B,n,cap,hm _ _ h1,h2⟩
  ·exact .inr ⟨hm _ _ h1,h2⟩
 case num=>exact h
 case seq=>exact h
 case clo=>obtain ⟨ps,h1,h2⟩:=h;exact ⟨ps,kC hm h1,h2⟩
 case mth=>obtain ⟨B,n,h1,h2⟩:=h;exact ⟨B,n,hm _ _ h1,h2⟩
 case yl=>obtain ⟨B,n,h1,h2⟩:=h;exact ⟨B,n,hm _ _ h1,h2⟩
 case mp=>obtain ⟨B,h1,h2⟩:=h;exact ⟨B,hm _ _ h1,h2⟩
 case mk=>exact h
theorem IN:∀ {cs:List Ch} {l:List Value},AO β cs l→AO β' cs l
 | [],_,h=>h
 | _::_,_,⟨l1,l2,h1,h2,h3⟩=>⟨l1,l2,ALz hm h1,IN h2,h3⟩
theorem AAv {g:Bool} {cs:List Ch} {u:Value} (h:Bi β g cs u):Bi β' g cs u:=by
 cases g
 ·exact IN hm h
 ·obtain ⟨l,h1,h2⟩:=h;exact ⟨l,IN hm h1,h2⟩
theorem AAw:∀ {xs:List (Bool×List Ch)} {l:List Value},FN β xs l→FN β' xs l
 | [],_,h=>h
 | (_,_)::_,_,⟨u,l',h1,h2,h3⟩=>⟨u,l',AAv hm h1,AAw h2,h3⟩
theorem G_ {x:AV} {u:Value} (h:AL β x u):AL β' x u:=by
 cases x with
 | val g cs=>exact AAv hm h
 | tup xs=>obtain ⟨us,h1,h2⟩:=h;exact ⟨us,AAw hm h1,h2⟩
 | any=>trivial
theorem Yp {blk:Blk} {bk:Nat} {w:World} (h:DN β blk bk w):DN β' blk bk w:=by
 rcases h with ⟨B,n,l,t,pre,ty,fz,h1,h2,h3⟩ | ⟨X,h1,h2,h3⟩ | ⟨B,l,es,q,h1,h2,h3,h4⟩
 ·exact .inl ⟨B,n,l,t,pre,ty,fz,hm _ _ h1,IN hm h2,h3⟩
 ·exact .inr (.inl ⟨X,hm _ _ h1,h2,IN hm h3⟩)
 ·exact .inr (.inr ⟨B,l,es,q,hm _ _ h1,h2,IN hm h3,h4⟩)
end
def EV:Ch→Nat
 | .num k _=>k
 | .seq _ l=>l.length
 | _=>1
def LL:List Ch→Nat
 | []=>0
 | c::cs=>EV c+LL cs
theorem LM (k x:Nat):(words k x).length=k:=by simp [words]
theorem P7 {β:Env} {c:Ch} {l:List Value} (h:BF β c l):l.length=EV c:=by
 cases c<;>simp only [BF] at h<;>simp only [EV]
 case n=>simp [h.1]
 case b=>simp [h]
 case v=>simp [h.1]
 case p=>obtain ⟨B,n,_,rfl⟩:=h;rfl
 case sl=>rcases h with ⟨B,n,_,rfl⟩ | ⟨_,_,_,_,rfl⟩ | ⟨_,_,_,_,_,_,rfl⟩<;>rfl
 case sx=>rcases h with ⟨B,n,cap,_,rfl,_⟩ | ⟨_,_,rfl⟩<;>rfl
 case num=>rw [h.2,LM]
 case seq=>simp [h.1]
 case clo=>obtain ⟨ps,_,rfl⟩:=h;rfl
 case mth=>obtain ⟨B,n,_,rfl⟩:=h;rfl
 case yl=>obtain ⟨B,n,_,rfl⟩:=h;rfl
 case mp=>obtain ⟨B,_,rfl⟩:=h;rfl
 case mk=>simp [h]
theorem SA {β:Env}:∀ {cs:List Ch} {l:List Value},AO β cs l→l.length=LL cs
 | [],l,h=>by simp only [AO] at h;simp [h,LL]
 | c::cs,l,⟨l1,l2,h1,h2,h3⟩=>by simp [h3,LL,P7 h1,SA h2]
theorem OH {β:Env}:∀ {a b:List Ch} {x y:List Value},AO β a x→AO β b y→AO β (a++b) (x++y)
 | [],_,_,_,h,k=>by simp only [AO] at h;simpa [h] using k
 | c::a,b,x,y,⟨l1,l2,h1,h2,h3⟩,k=>⟨l1,l2++y,h1,OH h2 k,by simp [h3]⟩
theorem Yq (x i:Nat):has .u64 (AE x i):=by
 have h1:x / 2^(64*i) % 2^64<2^64:=gu _ dm
 simp only [has,AE,IntKind.min,IntKind.max,IntKind.signed,IntKind.bits];simp at h1 ⊢
 omega
theorem Yr {β:Env} (x:Nat):∀ (is:List Nat),AO β (is.map fun i=>Ch.v (.int .u64 (AE x i))) (is.map fun i=>Value.int .u64 (AE x i))
 | []=>rfl
 | i::is=>⟨[_],_,⟨rfl,rfl,Yq x i⟩,Yr x is,rfl⟩
theorem AL0 {β:Env} (k x:Nat):AO β (Mk k x) (words k x):=Yr x _
def FO:List Ch→Nat→Option (List Ch×List Ch)
 | [],m=>match m with | 0=>some ([],[]) | _=>none
 | c::cs,m=>match m with
  | 0=>some ([],c::cs)
  | m'+1=>match Nat.ble (EV c) (m'+1) with
   | true=>match FO cs (m'+1-EV c) with
    | some (a,r)=>some (c::a,r)
    | none=>none
   | false=>match c with
    | .num k x=>some ((Mk k x).take (m'+1),(Mk k x).drop (m'+1)++cs)
    | .seq kd l=>some ([.seq kd (l.take (m'+1))],.seq kd (l.drop (m'+1))::cs)
    | _=>none
theorem AL1 {β:Env} (k x m:Nat):AO β ((Mk k x).take m) ((words k x).take m)∧AO β ((Mk k x).drop m) ((words k x).drop m):=by
 unfold Mk words;rw [← oh,← oh,← pn,← pn];exact ⟨Yr x _,Yr x _⟩
theorem IP {β:Env}:∀ {cs:List Ch} {m:Nat} {a r:List Ch} {l:List Value},FO cs m=some (a,r)→AO β cs l →
  AO β a (l.take m)∧AO β r (l.drop m)∧m≤l.length
 | [],m,a,r,l,h,hl=>by
  simp only [AO] at hl;subst hl;cases m with
  | zero=>simp [FO] at h;obtain ⟨rfl,rfl⟩:=h;simp [AO]
  | succ m=>simp [FO] at h
 | c::cs,m,a,r,l,h,hl=>by
  cases m with
  | zero=>simp [FO] at h;obtain ⟨rfl,rfl⟩:=h;exact ⟨by simp [AO],by simpa using hl,nq _⟩
  | succ m =>
   obtain ⟨l1,l2,h1,h2,rfl⟩:=hl;have hz:=P7 h1;simp only [FO] at h;cases hb:Nat.ble (EV c) (m+1) with
   | true =>
    have hle:=f_ hb;simp only [hb] at h;split at h
    ·rename_i a' r' hs;simp only [gq,gx] at h;obtain ⟨rfl,rfl⟩:=h;obtain ⟨i1,i2,i3⟩:=IP hs h2;refine ⟨⟨l1,_,h1,i1,?_⟩,?_,?_⟩
     ·rw [List.take_append,hz,ko dl]
     ·rw [List.drop_append,hz,nl dl,lh];exact i2
     ·simp;omega
    ·cases h
   | false =>
    have hlt:m+1<EV c:=by
     rcases gt (m+1) (EV c) with h' | h'
     ·exact h'
     ·rw [gb h'] at hb;cases hb
    simp only [hb] at h;split at h
    ·rename_i k x;simp only [gq,gx] at h;obtain ⟨rfl,rfl⟩:=h;simp only [BF] at h1;obtain ⟨_,rfl⟩:=h1;simp only [EV] at hlt;obtain ⟨j1,j2⟩:=AL1 (β:=β) k x (m+1)
     refine ⟨?_,?_,?_⟩
     ·rw [qf (by rw [LM];omega)];exact j1
     ·rw [qe (by rw [LM];omega)];exact OH j2 h2
     ·simp [LM];omega
    ·rename_i kd xs;simp only [gq,gx] at h;obtain ⟨rfl,rfl⟩:=h;simp only [BF] at h1;obtain ⟨rfl,hx⟩:=h1;simp only [EV] at hlt;refine ⟨?_,?_,?_⟩
     ·rw [qf (by simp;omega),← oh]
      exact ⟨_,[],⟨rfl,fun x h=>hx x (me h)⟩,rfl,by simp⟩
     ·rw [qe (by simp;omega),← pn]
      exact ⟨_,_,⟨rfl,fun x h=>hx x (lj h)⟩,h2,rfl⟩
     ·simp;omega
    ·cases h
def LN (cs:List Ch) (off sz:Nat):Option (List Ch) :=
 match FO cs off with
 | some (_,r)=>match FO r sz with
  | some (m,_)=>some m
  | none=>none
 | none=>none
theorem SF {β:Env} {cs m:List Ch} {off sz:Nat} {l:List Value} (h:LN cs off sz=some m) (hl:AO β cs l) :
  AO β m ((l.drop off).take sz)∧off+sz≤l.length:=by
 unfold LN at h;split at h
 ·rename_i a r h1;split at h
  ·rename_i m' t h2;injection h with h;subst h;obtain ⟨_,i2,i3⟩:=IP h1 hl;obtain ⟨j1,_,j3⟩:=IP h2 i2;refine ⟨j1,?_⟩
   simp at j3;omega
  ·cases h
 ·cases h
def Vj (cs:List Ch) (off sz:Nat) (new:List Ch):Option (List Ch) :=
 match FO cs off with
 | some (a,r)=>match FO r sz with
  | some (_,t)=>some (a++(new++t))
  | none=>none
 | none=>none
theorem kD {β:Env} {cs m new:List Ch} {off sz:Nat} {l ln:List Value} (h:Vj cs off sz new=some m) (hl:AO β cs l) (hn:AO β new ln) :
  AO β m (l.take off++ln++l.drop (off+sz))∧off+sz≤l.length:=by
 unfold Vj at h;split at h
 ·rename_i a r h1;split at h
  ·rename_i m' t h2;injection h with h;subst h;obtain ⟨i1,i2,i3⟩:=IP h1 hl;obtain ⟨_,j2,j3⟩:=IP h2 i2;refine ⟨?_,?_⟩
   ·rw [lf];exact OH i1 (OH hn (by rw [ki] at j2;exact j2))
   ·simp at j3;omega
  ·cases h
 ·cases h
def AF:Heap→Nat→Option Blk
 | [],_=>none
 | (k,x)::r,b=>match Nat.beq k b with | true=>x | false=>AF r b
def IQ:Heap→Nat→Option Blk→Heap
 | [],b,y=>[(b,y)]
 | (k,x)::r,b,y=>match Nat.beq k b with | true=>(k,y)::r | false=>(k,x)::IQ r b y
theorem An {a b:Nat}:Nat.beq a b=true↔a=b:=by rw [Nat.beq_eq]
theorem IR {a b:Nat} (h:Nat.beq a b=false):a≠b:=fun e=>by rw [An.2 e] at h;cases h
theorem FQ {a b:Nat} (h:a≠b):Nat.beq a b=false:=by
 cases hb:Nat.beq a b
 ·rfl
 ·exact absurd (An.1 hb) h
theorem AL2 (H:Heap) (b:Nat) (y:Option Blk):AF (IQ H b y) b=y:=by
 induction H with
 | nil=>simp [IQ,AF]
 | cons e r ih =>
  obtain ⟨k,x⟩:=e;simp only [IQ];cases hk:Nat.beq k b with
  | true=>simp [AF,hk]
  | false=>simp [AF,hk,ih]
theorem AL3 (H:Heap) (b c:Nat) (y:Option Blk) (h:b≠c):AF (IQ H b y) c=AF H c:=by
 induction H with
 | nil=>simp [IQ,AF,FQ h]
 | cons e r ih =>
  obtain ⟨k,x⟩:=e;simp only [IQ];cases hk:Nat.beq k b with
  | true =>
   have:=An.1 hk
   subst this;simp [AF,FQ h]
  | false =>
   simp only [AF,ih]
def FR (H:Heap) (u:Heap):Heap:=match u with
 | []=>H
 | (b,y)::r=>FR (IQ H b y) r
def LO (H:Heap) (b:Nat):Option Blk:=match AF H b with
 | some blk=>match Nat.blt blk.ty I8 with
  | true=>some blk
  | false=>none
 | none=>none
theorem AAx {H:Heap} {b:Nat} {blk:Blk} (h:LO H b=some blk):AF H b=some blk∧blk.ty<I8:=by
 unfold LO at h;split at h
 ·rename_i x hx;split at h
  ·rename_i ht;injection h with h;subst h;exact ⟨hx,f_ ht⟩
  ·cases h
 ·cases h
def Hp:List Ch→Bool
 | []=>true
 | .mk::_=>false
 | .v y::r=>match y with
  | .nilIface=>false
  | _=>Hp r
 | _::r=>Hp r
theorem Ys {β:Env}:∀ {cs:List Ch} {l:List Value},Hp cs=true→AO β cs l→.nilIface ∉ l
 | [],l,_,h,hm=>by simp only [AO] at h;subst h;cases hm
 | c::cs,l,hw,⟨l1,l2,h1,h2,h3⟩,hm=>by
  rw [h3,gl] at hm;have key:Hp cs=true∧.nilIface ∉ l1:=by
   cases c<;>simp only [BF] at h1
   case n=>rw [h1.1];exact ⟨hw,by simp⟩
   case b=>rw [h1];exact ⟨hw,by simp⟩
   case v y =>
    rw [h1.1];cases y<;>first | exact ⟨hw,by simp⟩ | cases hw
   case p=>obtain ⟨B,n,_,rfl⟩:=h1;exact ⟨hw,by simp⟩
   case sl=>rcases h1 with ⟨B,n,_,rfl⟩ | ⟨_,_,_,_,rfl⟩ | ⟨_,_,_,_,_,_,rfl⟩<;>exact ⟨hw,by simp⟩
   case sx=>rcases h1 with ⟨B,n,cap,_,rfl,_⟩ | ⟨_,_,rfl⟩<;>exact ⟨hw,by simp⟩
   case num=>rw [h1.2];exact ⟨hw,by simp [words]⟩
   case seq=>rw [h1.1];exact ⟨hw,by simp⟩
   case clo=>obtain ⟨ps,_,rfl⟩:=h1;exact ⟨hw,by simp⟩
   case mth=>obtain ⟨B,n,_,rfl⟩:=h1;exact ⟨hw,by simp⟩
   case yl=>obtain ⟨B,n,_,rfl⟩:=h1;exact ⟨hw,by simp⟩
   case mp=>obtain ⟨B,_,rfl⟩:=h1;exact ⟨hw,by simp⟩
   case mk=>cases hw
  exact hm.elim key.2 (Ys key.1 h2)
def AL4 (β:Env) (H:Heap) (w:World):Prop:=∀ b blk,AF H b=some blk→DN β blk b w
end Go.Proofs.YtgnajdcdcblaoaaGreat.Ex
namespace Go.Proofs.YtgnajdcdcblaoaaGreat
abbrev dr:=List (Bool×Bool)
end Go.Proofs.YtgnajdcdcblaoaaGreat
namespace Go.Proofs.YtgnajdcdcblaoaaGreat.Ex
structure R where
 val:AV
 upd:Heap
 nw:Nat
 conds:dr
 path:List Bool
def AM:dr→Prop
 | []=>True
 | (x,d)::r=>x=d∧AM r
theorem Bo:∀ {a b:dr},AM (a++b)↔AM a∧AM b
 | [],b=>by simp [AM]
 | (x,d)::a,b=>by simp [AM,Bo (a:=a),and_assoc]
def CA (x:AV) (path:List Bool):R:=⟨x,[],0,[],path⟩
structure Eff (β:Env) (fr:Nat) (r:R) (w:World) (u:Value) (w':World) (β':Env):Prop where
 ext:Env.le β β'
 new:∀ b X,β' b=some X→β b=some X∨(fr≤b∧b<fr+r.nw∧∀ B n,X=.at_ B n→w.heap.size≤B∨∃ k m,(k,none)∈r.upd∧β k=some (.at_ B m))
 lt:∀ b B n,β' b=some (.at_ B n)→B<w'.heap.size
 inj:∀ b b' B n n',fr≤b→fr≤b'→b<fr+r.nw→b'<fr+r.nw→β' b=some (.at_ B n)→β' b'=some (.at_ B n')→b=b'
 val:AL β' r.val u
 upd:∀ k y,(k,some y)∈r.upd→DN β' y k w'
 frame:∀ B,B<w.heap.size→(∀ k y n,(k,y)∈r.upd→β k≠some (.at_ B n))→w'.heap[B]? = w.heap[B]?
 size:w.heap.size≤w'.heap.size
 os:w'.os=w.os
 tape:w'.tape=w.tape
 output:w'.output=w.output
def F0 (H:Heap) (b:Nat):Bool:=match AF H b with | some blk=>!Nat.beq blk.ty Bf | none=>false
theorem F1 {H:Heap} {b:Nat} (h:F0 H b=true):∃ blk,AF H b=some blk∧blk.ty≠Bf:=by
 unfold F0 at h;split at h
 ·rename_i blk hb;exact ⟨blk,hb,fun e=>by rw [e] at h;cases h⟩
 ·cases h
theorem FS {H:Heap} {b:Nat} {blk:Blk} (h:AF H b=some blk) (hr:blk.ty≠Bf):F0 H b=true:=by
 unfold F0;rw [h];simp only [FQ hr];rfl
theorem Vk {H:Heap} {b:Nat} (h:F0 H b=true):(AF H b).isSome=true:=by
 obtain ⟨blk,hb,_⟩:=F1 h;rw [hb];rfl
theorem AAy {H H':Heap} {b:Nat} (h:AF H b=AF H' b):F0 H b=F0 H' b:=by unfold F0;rw [h]
structure Good (β:Env) (H:Heap) (w:World):Prop where
 heap:AL4 β H w
 inj:∀ b b' B n n',F0 H b=true→(AF H b').isSome=true→β b=some (.at_ B n)→β b'=some (.at_ B n')→b=b'
 lt:∀ b B n,β b=some (.at_ B n)→B<w.heap.size
theorem Good.cells {β:Env} {H:Heap} {w:World} (g:Good β H w) {b:Nat} {blk:Blk} (h:LO H b=some blk) :
  (∃ B n l t pre ty fz,β b=some (.at_ B n)∧AO β blk.cs l∧w.heap[B]? = some (.cells ⟨pre++(l++t)⟩ ty fz)∧pre.length=n.2 ∧
  (blk.ty≠Bf→pre=[]∧ty=blk.ty∧fz=(0,0)∧(blk.opn=false→t=[])∧(l++t).length=n.1∧(∀ v∈t,v.oneCell'=true))) ∨
  (∃ X,β b=some X∧X.out blk∧AO β blk.cs []):=AAu (g.heap _ _ (AAx h).1) (AAx h).2
theorem Eff.pure_ {β:Env} {fr:Nat} {x:AV} {path:List Bool} {c:dr} {H:Heap} {w:World} {u:Value} (g:Good β H w) (h:AL β x u) :
  Eff β fr ⟨x,[],0,c,path⟩ w u w β where
 ext:=Env.le_refl β
 new:=fun _ _ h=>.inl h
 lt:=g.lt
 inj:=fun b b' _ _ _ h1 _ h3=>by simp at h3;omega
 val:=h
 upd:=fun _ _ h=>by cases h
 frame:=fun _ _ _=>rfl
 size:=gd _
 os:=rfl
 tape:=rfl
 output:=rfl
def Env.put (β:Env) (b:Nat) (X:Loc):Env:=fun x=>if x=b then some X else β x
theorem Env.put_same (β:Env) (b:Nat) (X:Loc):β.put b X b=some X:=by simp [Env.put]
theorem Env.le_put {β:Env} {b:Nat} (X:Loc) (h:β b=none):Env.le β (β.put b X):=fun x Y e=>by
 unfold Env.put;split
 ·rename_i hx;subst hx;rw [h] at e;cases e
 ·exact e
theorem Eff.new_ {β:Env} {fr n:Nat} {x:AV} {path:List Bool} {c:dr} {H:Heap} {w:World} {u:Value} {ty:TypeId} {cs:List Ch} {l:List Value}
  (g:Good β H w) (hf:β fr=none) (hl:AO β cs l) (hn:l.length=n) (h:AL (β.put fr (.at_ w.heap.size (n,0))) x u) :
  Eff β fr ⟨x,[(fr,some ⟨ty,cs,false⟩)],1,c,path⟩ w u (w.alloc (.cells ⟨l⟩ ty)) (β.put fr (.at_ w.heap.size (n,0))) where
 ext:=Env.le_put _ hf
 new:=fun b X k=>by
  unfold Env.put at k;split at k
  ·rename_i hb;subst hb;injection k with k;subst k;exact .inr ⟨gd _,by simp,fun B n e=>by injection e with e1 e2;subst e1;exact .inl (gd _)⟩
  ·exact .inl k
 lt:=fun b B m k=>by
  unfold Env.put at k;split at k
  ·injection k with k;injection k with k _;subst k;simp
  ·have:=g.lt _ _ _ k;simp;omega
 inj:=fun b b' _ _ _ h1 h2 h3 h4 _ _=>by simp at h3 h4;omega
 val:=h
 upd:=fun k y hy=>by
  simp only [ja,gx,gq] at hy;obtain ⟨rfl,rfl⟩:=hy;exact Yo (l:=l) (t:=[]) (Env.put_same ..) (IN (Env.le_put _ hf) hl) (by show (w.heap.push _)[w.heap.size]? = _;simp) (fun _=>rfl) (by simpa using hn) (by simp)
 frame:=fun B hB _=>by
  show (w.heap.push _)[B]? = _;rw [pu,fv dl]
 size:=by simp
 os:=rfl
 tape:=rfl
 output:=rfl
theorem Eff.write {β:Env} {fr:Nat} {x:AV} {path:List Bool} {c:dr} {H:Heap} {w:World} {u:Value} {ty:TypeId} {bk B n:Nat} {cs:List Ch} {l t l0:List Value} {opn:Bool}
  (g:Good β H w) (hb:β bk=some (.at_ B (n,0))) (ho:w.heap[B]? = some (.cells ⟨l0⟩ ty (0,0))) (hl:AO β cs l) (ht:opn=false→t=[]) (hn:(l++t).length=n) (h1:∀ v∈t,v.oneCell'=true) (h:AL β x u) :
  Eff β fr ⟨x,[(bk,some ⟨ty,cs,opn⟩)],0,c,path⟩ w u (w.setRow B ⟨l++t⟩) β where
 ext:=Env.le_refl β
 new:=fun _ _ h=>.inl h
 lt:=fun b B' m h=>by have:=g.lt _ _ _ h;simpa [World.setRow] using this
 inj:=fun b b' _ _ _ h1 _ h3=>by simp at h3;omega
 val:=h
 upd:=fun k y hy=>by
  simp only [ja,gx,gq] at hy;obtain ⟨rfl,rfl⟩:=hy;exact Yo hb hl (setRow_heap w B ⟨l0⟩ _ ty (0,0) ho) ht hn h1
 frame:=fun B' hB hne=>by
  have:B'≠B:=fun e=>hne _ _ (n,0) (ja.2 rfl) (by rw [e];exact hb)
  simp only [World.setRow,pv];rw [fv dl]
 size:=by simp [World.setRow]
 os:=rfl
 tape:=rfl
 output:=rfl
def AJ (k:IntKind) (n:Int):Bool :=
 match k with
 | .u64=>decide (0≤n)&&decide (n≤18446744073709551615)
 | .i64=>decide (-9223372036854775808≤n)&&decide (n≤9223372036854775807)
 | .u8=>decide (0≤n)&&decide (n≤255)
 | .u32=>decide (0≤n)&&decide (n≤4294967295)
 | .i32=>decide (-2147483648≤n)&&decide (n≤2147483647)
 | .u16=>decide (0≤n)&&decide (n≤65535)
 | .i16=>decide (-32768≤n)&&decide (n≤32767)
 | .i8=>decide (-128≤n)&&decide (n≤127)
theorem E7 (k:IntKind) (n:Int):has k n↔AJ k n=true:=by
 cases k<;>simp [has,AJ,IntKind.min,IntKind.max,IntKind.signed,IntKind.bits]
theorem J6 (k:IntKind) (n:Int):has k (k.wrap n):=by
 rw [E7];cases k<;>simp only [IntKind.wrap,IntKind.signed,IntKind.bits,AJ]<;>simp<;>(try split)<;>omega
def Vl (x:Value):Option Ch :=
 match x with
 | .int k i=>match AJ k i with | true=>some (.n k i) | false=>none
 | .bool y=>some (.b y)
 | .agg _ | .tuple _=>none
 | .pointer p=>some (.v (.pointer p))
 | .slice a l c=>some (.v (.slice a l c))
 | .string s=>some (.v (.string s))
 | .nilFunc=>some (.v .nilFunc)
 | .nilIface=>some (.v .nilIface)
 | .map m=>some (.v (.map m))
 | .func f a c=>some (.v (.func f a c))
 | _=>none
theorem AAz {β:Env} {x:Value} {c:Ch} (h:Vl x=some c):BF β c [x]:=by
 cases x<;>simp only [Vl] at h
 case int k i =>
  split at h
  ·rename_i hh;injection h with h;subst h;exact ⟨rfl,(E7 _ _).2 hh⟩
  ·cases h
 case bool=>injection h with h;subst h;rfl
 all_goals first
  | (injection h with h;subst h;exact ⟨rfl,rfl,trivial⟩)
  | cases h
def Ml:List Value→Option (List Ch)
 | []=>some []
 | x::xs=>match Vl x,Ml xs with
  | some c,some cs=>some (c::cs)
  | _,_=>none
theorem SG {β:Env}:∀ {xs:List Value} {cs:List Ch},Ml xs=some cs→AO β cs xs
 | [],cs,h=>by simp [Ml] at h;subst h;rfl
 | x::xs,cs,h=>by
  simp only [Ml] at h;split at h
  ·rename_i c cs' h1 h2;injection h with h;subst h;exact ⟨[x],xs,AAz h1,SG h2,rfl⟩
  ·cases h
def P8 (x:Value):Option AV :=
 match x with
 | .agg cs=>match Ml cs.toList with | some l=>some (.val true l) | none=>none
 | .tuple cs=>match cs.toList with | []=>some (.tup []) | _=>none
 | x=>match Vl x with | some c=>some (.val false [c]) | none=>none
theorem Yt {β:Env} {x:Value} {A:AV} (h:P8 x=some A):AL β A x:=by
 have scal:∀ y,(match Vl y with | some c=>some (AV.val false [c]) | none=>none)=some A→AL β A y:=by
  intro y h;split at h
  ·rename_i c hc;injection h with h;subst h;exact ⟨[y],[],AAz hc,rfl,rfl⟩
  ·cases h
 cases x;case agg cs =>
  simp only [P8] at h;split at h
  ·rename_i l hl;injection h with h;subst h;exact ⟨cs.toList,SG hl,rfl⟩
  ·cases h
 case tuple cs =>
  simp only [P8] at h;split at h
  ·rename_i hl;injection h with h;subst h;exact ⟨[],rfl,by rw [← hl]⟩
  ·cases h
 all_goals exact scal _ h
def Br (τ:Nat→AV):Operand→Option AV
 | .tmp t=>some (τ t)
 | .const x=>P8 x
 | .func f=>some (.val false [.v (.func (.func f) #[] #[])])
 | .global _=>none
theorem IS {β:Env} {τ:Nat→AV} {a:Act} (ht:∀ t,AL β (τ t) (a.tmps.getD t undef)) {x:Operand} {A:AV} (h:Br τ x=some A):AL β A (a.eval x):=by
 cases x<;>simp only [Br] at h
 case tmp t=>injection h with h;subst h;exact ht t
 case const v=>exact Yt h
 case func f=>injection h with h;subst h;exact ⟨[_],[],⟨rfl,rfl,trivial⟩,rfl,rfl⟩
 case global=>cases h
theorem Aw {β:Env} {c:Ch} {u:Value} (h:Bi β false [c] u):BF β c [u]:=by
 obtain ⟨l1,l2,h1,h2,h3⟩:=h;simp only [AO] at h2;subst h2;rw [iq] at h3;rw [h3];exact h1
theorem Aq {β:Env} {c:Ch} {u:Value} (h:BF β c [u]):Bi β false [c] u:=⟨[u],[],h,rfl,rfl⟩
theorem SH {β:Env} {g:Bool} {cs:List Ch} {u:Value} (h:Bi β g cs u):AO β cs u.cells.toList:=by
 cases g
 ·have hl:=h;simp only [Bi] at hl;have hc:u.cells=#[u]∨∃ x,u=.agg x:=by cases u<;>simp [Value.cells]
  rcases hc with hc | ⟨x,rfl⟩
  ·rw [hc];exact hl
  ·exfalso
   clear h;have:∀ (cs:List Ch) (l:List Value),AO β cs l→.agg x ∉ l:=by
    intro cs;induction cs with
    | nil=>intro l h;simp only [AO] at h;simp [h]
    | cons c cs ih =>
     intro l ⟨l1,l2,h1,h2,h3⟩ hm
     rw [h3,gl] at hm;rcases hm with hm | hm
     ·cases c<;>simp only [BF] at h1
      case n=>rw [h1.1] at hm;simp at hm
      case b=>rw [h1] at hm;simp at hm
      case v y=>rw [h1.1] at hm;simp at hm;subst hm;exact absurd h1.2.1 (by simp [Value.oneCell'])
      case p=>obtain ⟨B,n,_,rfl⟩:=h1;simp at hm
      case sl=>rcases h1 with ⟨B,n,_,rfl⟩ | ⟨_,_,_,_,rfl⟩ | ⟨_,_,_,_,_,_,rfl⟩<;>simp at hm
      case sx=>rcases h1 with ⟨B,n,cap,_,rfl,_⟩ | ⟨_,_,rfl⟩<;>simp at hm
      case num=>rw [h1.2] at hm;simp [words] at hm
      case seq=>rw [h1.1] at hm;simp at hm
      case clo=>obtain ⟨B,_,rfl⟩:=h1;simp at hm
      case mth=>obtain ⟨B,n,_,rfl⟩:=h1;simp at hm
      case yl=>obtain ⟨B,n,_,rfl⟩:=h1;simp at hm
      case mp=>obtain ⟨B,_,rfl⟩:=h1;simp at hm
      case mk=>rw [h1] at hm;simp at hm
     ·exact ih _ h2 hm
   exact this _ _ hl (by simp)
 ·obtain ⟨l,h1,rfl⟩:=h;exact h1
theorem SI {β:Env}:∀ {cs:List Ch} {l:List Value},AO β cs l→∀ v∈l,v.oneCell'=true
 | [],l,h,v,hv=>by simp only [AO] at h;subst h;cases hv
 | c::cs,l,⟨l1,l2,h1,h2,h3⟩,v,hv=>by
  rw [h3,gl] at hv;rcases hv with hm | hm
  ·cases c<;>simp only [BF] at h1
   case n=>rw [h1.1] at hm;simp at hm;subst hm;rfl
   case b=>rw [h1] at hm;simp at hm;subst hm;rfl
   case v y=>rw [h1.1] at hm;simp at hm;subst hm;exact h1.2.1
   case p=>obtain ⟨B,n,_,rfl⟩:=h1;simp at hm;subst hm;rfl
   case sl=>rcases h1 with ⟨B,n,_,rfl⟩ | ⟨_,_,_,_,rfl⟩ | ⟨_,_,_,_,_,_,rfl⟩<;>(simp at hm;subst hm;rfl)
   case sx=>rcases h1 with ⟨B,n,cap,_,rfl,_⟩ | ⟨_,_,rfl⟩<;>(simp at hm;subst hm;rfl)
   case num=>rw [h1.2] at hm;simp [words] at hm;obtain ⟨i,_,rfl⟩:=hm;rfl
   case seq=>rw [h1.1] at hm;simp at hm;obtain ⟨i,_,rfl⟩:=hm;rfl
   case clo=>obtain ⟨B,_,rfl⟩:=h1;simp at hm;subst hm;rfl
   case mth=>obtain ⟨B,n,_,rfl⟩:=h1;simp at hm;subst hm;rfl
   case yl=>obtain ⟨B,n,_,rfl⟩:=h1;simp at hm;subst hm;rfl
   case mp=>obtain ⟨B,_,rfl⟩:=h1;simp at hm;subst hm;rfl
   case mk=>rw [h1] at hm;simp at hm;subst hm;rfl
  ·exact SI h2 v hm
section ops
variable {P:Program} {β:Env} {H:Heap} {w:World}
def kE (P:Program) (t:TypeId) (fr:Nat) (path:List Bool):Option R :=
 match P.info? t with
 | some i=>match i.zero with
  | some z=>match P8 z with
   | some (.val _ cs)=>some ⟨.val false [.p fr 0],[(fr,some ⟨t,cs,false⟩)],1,[],path⟩
   | _=>none
  | none=>none
 | none=>none
theorem AA0 (β:Env) (fr B n:Nat):AL (β.put fr (.at_ B (n,0))) (.val false [.p fr 0]) (.pointer (some ⟨B,0,none⟩)) :=
 Aq ⟨B,(n,0),Env.put_same ..,rfl⟩
theorem AL5 {t fr:Nat} {path:List Bool} {r:R} (g:Good β H w) (h:kE P t fr path=some r) (hf:∀ b,fr≤b→b<fr+r.nw→β b=none) :
  ∃ u w' β',(Instr.alloc t true (.tuple #[])).run P w=.ok u w'∧Eff β fr r w u w' β':=by
 unfold kE at h;split at h
 ·rename_i i hi;split at h
  ·rename_i z hz;split at h
   ·rename_i gg cs hc;injection h with h;subst h;have hr:=SH (Yt (β:=β) hc)
    refine ⟨_,_,_,?_,Eff.new_ g (hf fr (gd _) (by simp)) hr rfl (AA0 β fr _ _)⟩
    simp [Instr.alloc,zeroValue,typeInfo,hi,hz,newVar,newRow]
   ·cases h
  ·cases h
 ·cases h
def kF (t:TypeId) (x:Option AV) (fr:Nat) (path:List Bool):Option R :=
 match x with
 | some (.val _ cs)=>some ⟨.val false [.p fr 0],[(fr,some ⟨t,cs,false⟩)],1,[],path⟩
 | _=>none
theorem AL6 {t fr:Nat} {path:List Bool} {x:Option AV} {u:Value} {r:R} (g:Good β H w) (hx:∀ A,x=some A→AL β A u) (h:kF t x fr path=some r)
  (hf:∀ b,fr≤b→b<fr+r.nw→β b=none) :
  ∃ v w' β',(Instr.box t u).run P w=.ok v w'∧Eff β fr r w v w' β':=by
 unfold kF at h;split at h
 ·rename_i gg cs;injection h with h;subst h;have hr:=SH (hx _ rfl)
  refine ⟨_,_,_,?_,Eff.new_ g (hf fr (gd _) (by simp)) hr rfl (AA0 β fr _ _)⟩
  simp [Instr.box,newVar,newRow]
 ·cases h
def wide:TypeDesc→Bool
 | .struct _ | .array _ _=>true
 | _=>false
theorem Vm {t:TypeId} {d:TypeDesc} (h:P.underlying t=some d) (w:World):(isAgg t).run P w=.ok (wide d) w:=by
 unfold isAgg;simp only [Sem.run_bind,run_underlying h,Result.andThen_ok];cases d<;>rfl
def SJ (P:Program) (t:TypeId) (cs:List Ch) (off:Nat) (path:List Bool):Option R :=
 match P.underlying t,P.info? t with
 | some d,some i=>match wide d with
  | true=>match LN cs off i.size with
   | some m=>some (CA (.val true m) path)
   | none=>none
  | false=>match cs with
   | [.seq kd xs]=>some ⟨.val false [.v (.int kd (xs.getD off 0))],[],0,[(decide (off<xs.length),true)],path⟩
   | cs=>match LN cs off 1 with
    | some m=>some (CA (.val false m) path)
    | none=>none
 | _,_=>none
def kG (P:Program) (t:TypeId) (cs:List Ch) (off:Nat) (path:List Bool):Option R :=
 match cs with
 | [.seq kd xs]=>match P.underlying t,P.info? t with
  | some d,some i=>match wide d with
   | true=>some ⟨.val true [.seq kd ((xs.drop off).take i.size)],[],0,[(Nat.ble (off+i.size) xs.length,true)],path⟩
   | false=>SJ P t cs off path
  | _,_=>none
 | cs=>SJ P t cs off path
def kI (P:Program) (t:TypeId) (x:Option AV) (H:Heap) (path:List Bool):Option R :=
 match x with
 | some (.val false [.p bk off])=>match LO H bk with
  | some blk=>match blk.opn,Nat.beq blk.ty Bf with
   | true,false=>kG P t blk.cs off path
   | _,_=>SJ P t blk.cs off path
  | none=>none
 | _=>none
theorem kJ {l:List Value} {off:Nat} (h:off<l.length):(l.drop off).take 1=[l[off]]:=by
 apply List.ext_getElem?
 intro i;cases i with
 | zero=>simp [List.getElem?_drop,h]
 | succ i=>simp [List.getElem?_take]
theorem Vn {B off:Nat} {l t pre:List Value} {ty:TypeId} {fz:Nat×Nat} (ho:w.heap[B]? = some (.cells ⟨pre++(l++t)⟩ ty fz)) (h:off<l.length):w.cell? ⟨B,pre.length+off,none⟩=some l[off]:=by
 have e:(pre++(l++t))[pre.length+off]? = some l[off]:=by
  rw [ow dl,qb,li h,kn h]
 simp [World.cell?,ho,e]
theorem Yu {t off B:Nat} {path:List Bool} {cs:List Ch} {l t' pre:List Value} {ty:TypeId} {fz:Nat×Nat} {r:R} (g:Good β H w) (hl:AO β cs l)
  (ho:w.heap[B]? = some (.cells ⟨pre++(l++t')⟩ ty fz)) (h:SJ P t cs off path=some r) (hc:AM r.conds) (fr:Nat) :
  ∃ u,(loadVar t ⟨B,pre.length+off,none⟩).run P w=.ok u w∧Eff β fr r w u w β:=by
 unfold SJ at h;split at h
 ·rename_i d i hd hi;have hag:=Vm hd w;split at h
  ·rename_i hw;split at h
   ·rename_i m hm;injection h with h;subst h;obtain ⟨h1,h2⟩:=SF hm hl;have hlen:((l.drop off).take i.size).length=i.size:=by simp;omega
    have hload:=run_loadCells_list (P:=P) w ⟨B,pre.length+off,none⟩ ((l.drop off).take i.size) (fun j v hj=>by
     rw [Addr.add_lit,jx];have hjl:j<((l.drop off).take i.size).length:=by
      rcases gt j ((l.drop off).take i.size).length with h' | h'
      ·exact h'
      ·rw [jw h'] at hj;cases hj
     rw [rf,fw dl,nu] at hj;rw [Vn ho dl,← hj,kn])
    rw [hlen] at hload;refine ⟨.agg ⟨(l.drop off).take i.size⟩,?_,Eff.pure_ g ⟨_,h1,rfl⟩⟩
    simp [loadVar,hag,hw,sizeOf,typeInfo,hi,hload]
   ·cases h
  ·rename_i hw;split at h
   ·rename_i kd xs;injection h with h;subst h;simp only [AM,gc,and_true] at hc;obtain ⟨l1,l2,h1,h2,h3⟩:=hl;simp only [AO] at h2;subst h2;simp only [BF] at h1;obtain ⟨h1,hall⟩:=h1;rw [iq,h1] at h3;subst h3;have AF:xs.getD off 0=xs[off]:=by simp [hc]
    refine ⟨.int kd (xs.getD off 0),?_,Eff.pure_ g (Aq ⟨rfl,rfl,?_⟩)⟩
    ·have:=Vn (w:=w) ho (off:=off) (by simpa using hc)
     simp [loadVar,hag,hw,run_load,this,hc]
    ·rw [AF];exact hall _ (List.getElem_mem hc)
   ·rename_i cs' _;split at h
    ·rename_i m hm;injection h with h;subst h;obtain ⟨h1,h2⟩:=SF hm hl;rw [kJ dl] at h1;refine ⟨l[off],?_,Eff.pure_ g h1⟩
     have:=Vn (w:=w) ho (off:=off) dl
     simp [loadVar,hag,hw,run_load,this]
    ·cases h
 ·cases h
theorem AL7 {t off B:Nat} {path:List Bool} {cs:List Ch} {l t' pre:List Value} {ty:TypeId} {fz:Nat×Nat} {r:R} (g:Good β H w) (hl:AO β cs l)
  (ho:w.heap[B]? = some (.cells ⟨pre++(l++t')⟩ ty fz)) (h:kG P t cs off path=some r) (hc:AM r.conds) (fr:Nat) :
  ∃ u,(loadVar t ⟨B,pre.length+off,none⟩).run P w=.ok u w∧Eff β fr r w u w β:=by
 unfold kG at h;split at h
 ·rename_i kd xs;split at h
  ·rename_i d i hd hi;split at h
   ·rename_i hw;injection h with h;subst h;have hle:=f_ hc.1;obtain ⟨l1,l2,⟨rfl,hall⟩,h2,rfl⟩:=hl;simp only [AO] at h2;subst h2;have hlen:(((xs.map (Value.int kd)).drop off).take i.size).length=i.size:=by simp;omega
    have hload:=run_loadCells_list (P:=P) w ⟨B,pre.length+off,none⟩ (((xs.map (Value.int kd)).drop off).take i.size) (fun j v hj=>by
     rw [Addr.add_lit,jx];have hjl:j<(((xs.map (Value.int kd)).drop off).take i.size).length:=by
      rcases gt j (((xs.map (Value.int kd)).drop off).take i.size).length with h' | h'
      ·exact h'
      ·rw [jw h'] at hj;cases hj
     rw [rf,fw dl,nu] at hj;rw [Vn ho (by rw [iq,jk];omega),← hj,kn (by rw [jk];omega)]
     simp)
    rw [hlen] at hload;refine ⟨.agg ⟨((xs.map (Value.int kd)).drop off).take i.size⟩,?_,Eff.pure_ g ⟨_,?_,rfl⟩⟩
    ·simp [loadVar,Vm hd w,hw,sizeOf,typeInfo,hi,hload]
    ·rw [← pn,← oh];exact ⟨_,[],⟨rfl,fun x hx=>hall x (lj (me hx))⟩,rfl,(iq _).symm⟩
   ·exact Yu g hl ho h hc fr
  ·cases h
 ·exact Yu g hl ho h hc fr
theorem AL8 {t:TypeId} {path:List Bool} {x:Option AV} {u:Value} {r:R} (g:Good β H w) (hx:∀ A,x=some A→AL β A u) (h:kI P t x H path=some r)
  (hc:AM r.conds) (fr:Nat):∃ v,(Instr.loadAt t u).run P w=.ok v w∧Eff β fr r w v w β:=by
 unfold kI at h;split at h
 ·rename_i bk off;split at h
  ·rename_i blk hb;have hu:=Aw (hx _ rfl)
   obtain ⟨B',n',e4,e5⟩:=hu;injection e5 with e5 _;subst e5;rcases g.cells hb with ⟨B,n,l,t',pre,ty',fz,e1,e2,e3,e0,_⟩ | ⟨X,e1,e2,_⟩
   case inr=>rw [e1] at e4;injection e4 with e4;subst e4;exact e2.elim
   rw [e1] at e4;injection e4 with e4;injection e4 with e4 e4';subst e4;subst e4';have:∃ u,(loadVar t ⟨B,pre.length+off,none⟩).run P w=.ok u w∧Eff β fr r w u w β:=by
    split at h
    ·exact AL7 g e2 e3 h hc fr
    ·exact Yu g e2 e3 h hc fr
   obtain ⟨v,hv,he⟩:=this;rw [e0] at hv;refine ⟨v,?_,he⟩
   simp [Instr.loadAt,Instr.sureAddr,hv]
  ·cases h
 ·cases h
def kK (P:Program) (t:TypeId) (bk:Nat) (blk:Blk) (off:Nat) (new:List Ch) (path:List Bool):Option R :=
 match blk.cs,new with
 | [.seq kd xs],[.n k i]=>match decide (k=kd),P.info? t with
  | true,some inf=>match Nat.beq inf.size 1 with
   | true=>some ⟨.any,[(bk,some ⟨blk.ty,[.seq kd (xs.set off i)],blk.opn⟩)],0,[(decide (off<xs.length),true)],path⟩
   | false=>none
  | _,_=>none
 | [.seq kd xs],[.v (.int k i)]=>match decide (k=kd),P.info? t with
  | true,some inf=>match Nat.beq inf.size 1 with
   | true=>some ⟨.any,[(bk,some ⟨blk.ty,[.seq kd (xs.set off i)],blk.opn⟩)],0,[(decide (off<xs.length),true)],path⟩
   | false=>none
  | _,_=>none
 | cs,new=>match P.info? t with
  | some inf=>match Nat.beq (LL new) inf.size with
   | true=>match Vj cs off inf.size new with
    | some m=>some ⟨.any,[(bk,some ⟨blk.ty,m,blk.opn⟩)],0,[],path⟩
    | none=>none
   | false=>none
  | none=>none
def kO (P:Program) (t:TypeId) (x y:Option AV) (H:Heap) (path:List Bool):Option R :=
 match x,y with
 | some (.val false [.p bk off]),some (.val _ new)=>match AF H bk with
  | some blk=>match Nat.ble Bf blk.ty with
   | false=>kK P t bk blk off new path
   | true=>none
  | none=>none
 | _,_=>none
theorem Yv {a:Nat} (h:Nat.beq a Bf=false):a≠Bf:=IR h
theorem OI {a:Nat} (h:Nat.ble Bf a=false):a<Bf:=by
 rcases gt a Bf with q | q
 ·exact q
 ·rw [gb q] at h;cases h
theorem AA1 {t:TypeId} {i:TypeInfo} {B off:Nat} {l t' ln:List Value} {ty:TypeId} {u:Value} (hi:P.info? t=some i)
  (ho:w.heap[B]? = some (.cells ⟨l++t'⟩ ty (0,0))) (hu:u.cells.toList=ln) (hs:ln.length=i.size) (hfit:off+i.size≤l.length) (h1:∀ v∈ln,v.oneCell'=true) :
  (storeVar t ⟨B,off,none⟩ u).run P w=.ok () (w.setRow B ⟨(l.take off++ln++l.drop (off+i.size))++t'⟩):=by
 have hz:u.cells.size=i.size:=by rw [← hs,← hu];simp
 have:=run_storeCells_at P B off ty ln 0 ⟨l++t'⟩ w ho (by simp;omega) h1
 simp only [kz] at this;have e1:(l++t').take off=l.take off:=qf dl
 have e2:(l++t').drop (off+i.size)=l.drop (off+i.size)++t':=qe dl
 simp only [e1,hs,e2] at this;simp [storeVar,sizeOf,typeInfo,hi,hz,hu,this]
theorem AL9 {β:Env} {kd:IntKind} {xs:dp} {i:Int} (off:Nat) (hx:∀ x∈xs,has kd x) (hi:has kd i) :
  AO β [.seq kd (xs.set off i)] ((xs.set off i).map (.int kd)) :=
 ⟨_,[],⟨rfl,fun x hm=>by
  rcases List.mem_or_eq_of_mem_set hm with h | h
  ·exact hx x h
  ·rw [h];exact hi⟩,rfl,by simp⟩
theorem AL_ {α:Type} (l:List α) (off:Nat) (x:α) (h:off<l.length):l.set off x=l.take off++[x]++l.drop (off+1):=by
 rw [List.set_eq_take_append_cons_drop,fw h];simp
theorem AL' {t bk off B n:Nat} {path:List Bool} {blk:Blk} {new:List Ch} {l t':List Value} {u:Value} {r:R} (g:Good β H w) (hb:β bk=some (.at_ B (n,0))) (hl:AO β blk.cs l)
  (ho:w.heap[B]? = some (.cells ⟨l++t'⟩ blk.ty (0,0))) (ht:blk.opn=false→t'=[]) (hlen:(l++t').length=n) (ht1:∀ v∈t',v.oneCell'=true)
  (hn:AO β new u.cells.toList) (h:kK P t bk blk off new path=some r) (hc:AM r.conds) (fr:Nat) :
  ∃ w',(storeVar t ⟨B,off,none⟩ u).run P w=.ok () w'∧Eff β fr r w undef w' β:=by
 have seqcase:∀ (kd k:IntKind) (xs:dp) (i:Int) (inf:TypeInfo),blk.cs=[.seq kd xs]→u.cells.toList=[.int k i]→has k i→k=kd→P.info? t=some inf→inf.size=1→off<xs.length →
   ∃ w',(storeVar t ⟨B,off,none⟩ u).run P w=.ok () w'∧Eff β fr ⟨.any,[(bk,some ⟨blk.ty,[.seq kd (xs.set off i)],blk.opn⟩)],0,[(decide (off<xs.length),true)],path⟩ w undef w' β:=by
  intro kd k xs i inf e1 e2 e3 e4 e5 e6 e7;subst e4;rw [e1] at hl;obtain ⟨l1,l2,h1,h2,h3⟩:=hl;simp only [AO] at h2;subst h2;simp only [BF] at h1;obtain ⟨h1,hall⟩:=h1;rw [iq,h1] at h3;subst h3;have:=AA1 (u:=u) (l:=xs.map (Value.int k)) (off:=off) (ln:=[.int k i]) e5 ho e2 (by simp [e6]) (by simp [e6];omega) (by simp [Value.oneCell'])
  refine ⟨_,this,?_⟩
  have e:(xs.map (Value.int k)).take off++[Value.int k i]++(xs.map (Value.int k)).drop (off+inf.size)=(xs.set off i).map (Value.int k):=by
   rw [List.map_set,e6,AL_ _ off _ (by simpa using e7)]
  rw [e];exact Eff.write g hb ho (AL9 off hall e3) ht (by simpa using hlen) ht1 trivial
 unfold kK at h;split at h
 ·rename_i kd xs k i e1;split at h
  ·rename_i inf hk hi;split at h
   ·rename_i hz;injection h with h;subst h;simp only [AM,gc,and_true] at hc;have:=Aw (u:=(.int k i:Value)) (β:=β) (c:=.n k i)
    obtain ⟨l1,l2,h1,h2,h3⟩:=hn;simp only [AO] at h2;subst h2;simp only [BF] at h1;exact seqcase kd k xs i inf e1 (by rw [h3,h1.1];rfl) h1.2 (by simpa using hk) hi (An.1 hz) hc
   ·cases h
  ·cases h
 ·rename_i kd xs k i e1;split at h
  ·rename_i inf hk hi;split at h
   ·rename_i hz;injection h with h;subst h;simp only [AM,gc,and_true] at hc;obtain ⟨l1,l2,h1,h2,h3⟩:=hn;simp only [AO] at h2;subst h2;simp only [BF] at h1;exact seqcase kd k xs i inf e1 (by rw [h3,h1.1];rfl) h1.2.2 (by simpa using hk) hi (An.1 hz) hc
   ·cases h
  ·cases h
 ·split at h
  ·rename_i inf hi;split at h
   ·rename_i hz;split at h
    ·rename_i m hm;injection h with h;subst h;obtain ⟨h1,h2⟩:=kD hm hl hn;have hlen':u.cells.toList.length=inf.size:=by rw [SA hn];exact An.1 hz
     exact ⟨_,AA1 hi ho rfl hlen' h2 (SI hn),Eff.write g hb ho h1 ht (by simp at hlen hlen' ⊢;omega) ht1 trivial⟩
    ·cases h
   ·cases h
  ·cases h
theorem AMA {t:TypeId} {path:List Bool} {x y:Option AV} {u v:Value} {r:R} (g:Good β H w) (hx:∀ A,x=some A→AL β A u) (hy:∀ A,y=some A→AL β A v)
  (h:kO P t x y H path=some r) (hc:AM r.conds) (fr:Nat):∃ w',(Instr.storeAt t u v).run P w=.ok () w'∧Eff β fr r w undef w' β:=by
 unfold kO at h;split at h
 ·rename_i bk off gg new;split at h
  ·rename_i blk hb;split at h;case h_2=>cases h
   rename_i hro;have hu:=Aw (hx _ rfl)
   obtain ⟨B',n',e4,e5⟩:=hu;injection e5 with e5 _;subst e5;rcases P6 (g.heap _ _ hb) (OI hro) with ⟨B,n,l,t',e1,e2,e3,e6,e7,e8⟩ | ⟨e1,_⟩
   case inr=>rw [e1] at e4;cases e4
   rw [e1] at e4;injection e4 with e4;injection e4 with e4 e4';subst e4;subst e4';obtain ⟨w',hv,he⟩:=AL' g e1 e2 e3 e6 e7 e8 (SH (hy _ rfl)) h hc fr
   refine ⟨w',?_,he⟩
   simp [Instr.storeAt,Instr.sureAddr,hv]
  ·cases h
 ·cases h
end ops
end Go.Proofs.YtgnajdcdcblaoaaGreat.Ex
namespace Go.Proofs.YtgnajdcdcblaoaaGreat.Ex
def Bg:Option AV→Option (Bool×IntKind×Int)
 | some (.val false [.n k i])=>some (true,k,i)
 | some (.val false [.v (.int k i)])=>some (false,k,i)
 | _=>none
theorem Cy {β:Env} {x:Option AV} {u:Value} {c:Bool} {k:IntKind} {i:Int} (hx:∀ A,x=some A→AL β A u) (h:Bg x=some (c,k,i)) :
  u=.int k i∧has k i:=by
 unfold Bg at h;split at h
 ·injection h with h;injection h with h1 h;injection h with h2 h3;subst h1 h2 h3;have:=Aw (hx _ rfl)
  simp only [BF,mz,and_true] at this;exact this
 ·injection h with h;injection h with h1 h;injection h with h2 h3;subst h1 h2 h3;have:=Aw (hx _ rfl)
  simp only [BF,mz,and_true] at this;exact ⟨this.1,this.2.2⟩
 ·cases h
def OJ (c:Bool) (k:IntKind) (i:Int):AV:=match c with | true=>.val false [.n k i] | false=>.val false [.v (.int k i)]
theorem OK {β:Env} {k:IntKind} {i:Int} (c:Bool) (h:has k i):AL β (OJ c k i) (.int k i):=by
 cases c
 ·exact Aq ⟨rfl,rfl,h⟩
 ·exact Aq ⟨rfl,h⟩
def E8:Option AV→Option (Bool×Bool)
 | some (.val false [.b x])=>some (true,x)
 | some (.val false [.v (.bool x)])=>some (false,x)
 | _=>none
theorem J7 {β:Env} {x:Option AV} {u:Value} {c y:Bool} (hx:∀ A,x=some A→AL β A u) (h:E8 x=some (c,y)):u=.bool y:=by
 unfold E8 at h;split at h
 ·injection h with h;injection h with h1 h;subst h1 h;have:=Aw (hx _ rfl)
  simpa [BF] using this
 ·injection h with h;injection h with h1 h;subst h1 h;have:=Aw (hx _ rfl)
  simp only [BF,mz,and_true] at this;exact this.1
 ·cases h
def LP (c:Bool) (x:Bool):AV:=match c with | true=>.val false [.b x] | false=>.val false [.v (.bool x)]
theorem Mm {β:Env} (c x:Bool):AL β (LP c x) (.bool x):=by
 cases c
 ·exact Aq ⟨rfl,rfl,trivial⟩
 ·exact Aq rfl
def AU (c:Bool) (k:IntKind) (i:Int):Int:=match c with
 | true=>match AJ k i with | true=>i | false=>k.wrap i
 | false=>k.wrap i
theorem AMB {k:IntKind} {i:Int} (h:AJ k i=true):k.wrap i=i:=by
 cases k<;>simp only [IntKind.wrap,IntKind.signed,IntKind.bits,AJ,gi,gc] at h ⊢<;>simp<;>(try split)<;>omega
theorem C7 (c:Bool) (k:IntKind) (i:Int):AU c k i=k.wrap i:=by
 unfold AU;split
 ·split
  ·rename_i h;exact (AMB h).symm
  ·rfl
 ·rfl
def P9 (c x:Bool):Option (dr):=match c with
 | true=>match x with | true=>some [] | false=>none
 | false=>some [(x,true)]
theorem Vo {c x:Bool} {l:dr} (h:P9 c x=some l) (hl:AM l):x=true:=by
 unfold P9 at h;split at h
 ·split at h
  ·rfl
  ·cases h
 ·injection h with h;subst h;exact hl.1
def kP (op:BinOp) (c:Bool) (k:IntKind) (i j:Int):Option (Int×dr) :=
 match op with
 | .add=>some (AU c k (i+j),[])
 | .sub=>some (AU c k (i-j),[])
 | .mul=>some (AU c k (i*j),[])
 | .and=>some (bits .and k i j,[])
 | .or=>some (bits .or k i j,[])
 | .xor=>some (bits .xor k i j,[])
 | .quo=>match P9 c (decide (j≠0)) with | some l=>some (AU c k (i.tdiv j),l) | none=>none
 | .rem=>match P9 c (decide (0≤i∧0<j)) with | some l=>some (i.tmod j,l) | none=>none
 | _=>none
def kQ (op:BinOp) (i j:Int):Option Bool :=
 match op with
 | .eql=>some (decide (i=j))
 | .neq=>some (!decide (i=j))
 | .lss=>some (decide (i<j))
 | .leq=>some (decide (i≤j))
 | .gtr=>some (decide (j<i))
 | .geq=>some (decide (j≤i))
 | _=>none
def kR (op:BinOp) (c:Bool) (k:IntKind) (i j:Int):Option (Int×dr) :=
 match op with
 | .shl=>match P9 c (decide (0≤j)) with | some l=>some (AU c k (i*2^(min j.toNat k.bits)),l) | none=>none
 | .shr=>match P9 c (decide (0≤j∧0≤i)) with | some l=>some (i.fdiv (2^(min j.toNat k.bits)),l) | none=>none
 | _=>none
section
variable {P:Program} {w:World}
theorem AMC {op:BinOp} {c:Bool} {k:IntKind} {i j z:Int} {l:dr} (h:kP op c k i j=some (z,l)) (hl:AM l) (hi:has k i) (t:TypeId) (x y:Operand) :
  (do eqGuard op t x y (.int k i) (.int k j);binOp op t (.int k i) (.int k j):Sem Value).run P w=.ok (.int k z) w∧has k z:=by
 rw [Sem.run_bind,eqGuard_at_int];simp only [Sem.run_pure,Result.andThen_ok];unfold kP at h;split at h
 all_goals first | cases h;done | skip
 ·injection h with h;injection h with h1 h2;subst h1 h2;rw [C7];exact ⟨by simp [binOp,Op.intArith],J6 _ _⟩
 ·injection h with h;injection h with h1 h2;subst h1 h2;rw [C7];exact ⟨by simp [binOp,Op.intArith],J6 _ _⟩
 ·injection h with h;injection h with h1 h2;subst h1 h2;rw [C7];exact ⟨by simp [binOp,Op.intArith],J6 _ _⟩
 ·injection h with h;injection h with h1 h2;subst h1 h2;exact ⟨by rw [binOp_and,intBits_and];rfl,J6 _ _⟩
 ·injection h with h;injection h with h1 h2;subst h1 h2;exact ⟨by rw [binOp_or,intBits_or];rfl,J6 _ _⟩
 ·injection h with h;injection h with h1 h2;subst h1 h2;exact ⟨by rw [binOp_xor,intBits_xor];rfl,J6 _ _⟩
 ·split at h
  ·rename_i l' hc;injection h with h;injection h with h1 h2;subst h1 h2;rw [C7];have:=Vo hc hl
   simp only [ne_eq,decide_not,Bool.not_eq_true',decide_eq_false_iff_not] at this;exact ⟨by simp [binOp,Op.intDiv,this],J6 _ _⟩
  ·cases h
 ·split at h
  ·rename_i l' hc;injection h with h;injection h with h1 h2;subst h1 h2;have:=Vo hc hl
   simp only [gc] at this;have hj:j≠0:=dl
   refine ⟨by simp [binOp,Op.intDiv,hj],?_⟩
   rw [ku this.1];have h1:=Int.emod_nonneg i hj;have h2:i % j≤i:=by
    rcases Int.lt_or_le i j with hlt | hle
    ·rw [Int.emod_eq_of_lt this.1 hlt];exact Int.le_refl _
    ·have:=Int.emod_lt_of_pos i this.2;omega
   unfold has at hi ⊢
   have hmin:k.min≤0:=by cases k<;>simp [IntKind.min,IntKind.signed,IntKind.bits]
   omega
  ·cases h
theorem AMD {op:BinOp} {k:IntKind} {i j:Int} {z:Bool} (h:kQ op i j=some z) (t:TypeId) (x y:Operand) :
  (do eqGuard op t x y (.int k i) (.int k j);binOp op t (.int k i) (.int k j):Sem Value).run P w=.ok (.bool z) w:=by
 rw [Sem.run_bind,eqGuard_at_int];simp only [Sem.run_pure,Result.andThen_ok];unfold kQ at h;split at h
 all_goals first | cases h;done | skip
 all_goals (injection h with h;subst h;simp [binOp,Op.intCmp])
 all_goals by_cases e:i=j<;>simp [e]
theorem AA2 {op:BinOp} {c:Bool} {k yk:IntKind} {i j z:Int} {l:dr} (h:kR op c k i j=some (z,l)) (hl:AM l) (hi:has k i) (t:TypeId) (x y:Operand) :
  (do eqGuard op t x y (.int k i) (.int yk j);binOp op t (.int k i) (.int yk j):Sem Value).run P w=.ok (.int k z) w∧has k z:=by
 rw [Sem.run_bind,eqGuard_at_int];simp only [Sem.run_pure,Result.andThen_ok];unfold kR at h;split at h
 all_goals first | cases h;done | skip
 ·split at h
  ·rename_i l' hc;injection h with h;injection h with h1 h2;subst h1 h2;rw [C7];have:=Vo hc hl
   simp only [gc] at this;exact ⟨by simp [binOp,Op.shift,show ¬ j<0 by omega],J6 _ _⟩
  ·cases h
 ·split at h
  ·rename_i l' hc;injection h with h;injection h with h1 h2;subst h1 h2;have:=Vo hc hl
   simp only [gc] at this;refine ⟨by simp [binOp,Op.shift,show ¬ j<0 by omega],?_⟩
   have hp:(0:Int)<2^(min j.toNat k.bits):=Int.pow_pos dm
   rw [nb _ (Int.le_of_lt hp)];have h1:0≤i / 2^(min j.toNat k.bits):=Int.ediv_nonneg this.2 (Int.le_of_lt hp)
   have h2:i / 2^(min j.toNat k.bits)≤i:=Int.ediv_le_self _ this.2
   unfold has at hi ⊢
   have hmin:k.min≤0:=by cases k<;>simp [IntKind.min,IntKind.signed,IntKind.bits]
   omega
  ·cases h
end
def P_:List Ch→Option Nat
 | []=>some 0
 | .n .u64 i::r=>match P_ r with | some m=>some (i.toNat+18446744073709551616*m) | none=>none
 | .v (.int .u64 i)::r=>match P_ r with | some m=>some (i.toNat+18446744073709551616*m) | none=>none
 | _=>none
theorem Ew (x i:Nat):AE x (i+1)=AE (x / 2^64) i:=by
 unfold AE;rw [iu,← gp,show 64*(i+1)=64+64*i by omega]
theorem Yw (k x:Nat):words (k+1) x=.int .u64 (AE x 0)::words k (x / 2^64):=by
 unfold words;rw [pc,i_,kp];refine gh (_ :: ·) (kb fun i _=>?_)
 show Value.int .u64 (AE x (i+1))=_;rw [Ew]
theorem AA3 {β:Env}:∀ {cs:List Ch} {l:List Value} {x:Nat},P_ cs=some x→AO β cs l→l=words cs.length x∧x<2^(64*cs.length)
 | [],l,x,h,hl=>by
  simp only [P_,gq] at h;simp only [AO] at hl;subst h;subst hl;exact ⟨rfl,by simp⟩
 | c::cs,l,x,h,hl=>by
  obtain ⟨l1,l2,h1,h2,h3⟩:=hl;have step:∀ (i:Int) (m:Nat),l1=[.int .u64 i]→has .u64 i→P_ cs=some m→x=i.toNat+18446744073709551616*m→l=words (c::cs).length x∧x<2^(64*(c::cs).length):=by
   intro i m e1 e2 e3 e4;obtain ⟨j1,j2⟩:=AA3 e3 h2;have hi:=(E7 _ _).1 e2
   simp only [AJ,gi,gc] at hi;have ex:x % 2^64=i.toNat:=by rw [e4];omega
   have ed:x / 2^64=m:=by rw [e4];omega
   constructor
   ·rw [h3,e1,ii,Yw,ed,← j1];simp only [List.singleton_append,mz,and_true,Value.int.injEq,true_and];simp only [AE,je,ia,ig,ex];omega
   ·rw [ii,kf,gp];have:x / 2^64<2^(64*cs.length):=by rw [ed];exact j2
    exact (qg dm).1 this
  unfold P_ at h;split at h
  ·rename_i he;cases he
  ·rename_i i r he;injection he with he1 he2;subst he1 he2;split at h
   ·rename_i m hm;injection h with h;exact step i m h1.1 h1.2 hm h.symm
   ·cases h
  ·rename_i i r he;injection he with he1 he2;subst he1 he2;split at h
   ·rename_i m hm;injection h with h;exact step i m h1.1 h1.2.2 hm h.symm
   ·cases h
  ·cases h
def C0 (k:Nat):List Ch→Option Nat
 | [.num k' x]=>match Nat.beq k k' with | true=>some x | false=>none
 | cs=>match Nat.beq cs.length k with | true=>P_ cs | false=>none
theorem G' {β:Env} {k x:Nat} {cs:List Ch} {l:List Value} (h:C0 k cs=some x) (hl:AO β cs l):l=words k x∧x<2^(64*k):=by
 unfold C0 at h;split at h
 ·split at h
  ·rename_i hk;injection h with h;subst h;have:=An.1 hk;subst this
   obtain ⟨l1,l2,h1,h2,h3⟩:=hl;simp only [AO] at h2;subst h2;rw [h3,iq];exact ⟨h1.2,h1.1⟩
  ·cases h
 ·split at h
  ·rename_i hk;have:=An.1 hk;subst this
   exact AA3 h hl
  ·cases h
theorem AME {k x y:Nat} (hx:x<2^(64*k)) (hy:y<2^(64*k)) (h:words k x=words k y):x=y:=by
 induction k generalizing x y with
 | zero=>simp at hx hy;omega
 | succ k ih =>
  rw [Yw,Yw] at h;injection h with h1 h2;injection h1 with _ h1;have hx':x / 2^64<2^(64*k):=by
   rw [qg dm,← gp];exact hx
  have hy':y / 2^64<2^(64*k):=by
   rw [qg dm,← gp];exact hy
  have e:=ih hx' hy' h2;simp only [AE,je,ia,ig] at h1;omega
def Cq:List Value→List Value→Bool
 | [],[]=>true
 | .int _ a::r,.int _ b::s=>decide (a=b)&&Cq r s
 | .bool a::r,.bool b::s=>(a==b)&&Cq r s
 | _,_=>false
theorem kU:∀ {a a' b b':List Value},a.length=a'.length→Cq (a++b) (a'++b')=(Cq a a'&&Cq b b')
 | [],[],_,_,_=>by simp [Cq]
 | [],_::_,_,_,h=>by simp at h
 | _::_,[],_,_,h=>by simp at h
 | x::a,y::a',b,b',h=>by
  have ih:=kU (a:=a) (a':=a') (b:=b) (b':=b') (by simpa using h)
  cases x<;>cases y<;>simp [Cq,ih,Bool.and_assoc]
theorem kW {k x y:Nat} (hx:x<2^(64*k)) (hy:y<2^(64*k)):Cq (words k x) (words k y)=decide (x=y):=by
 have gen:∀ (is:List Nat),Cq (is.map fun i=>Value.int .u64 (AE x i)) (is.map fun i=>Value.int .u64 (AE y i))=true↔(is.map fun i=>Value.int .u64 (AE x i))=(is.map fun i=>Value.int .u64 (AE y i)):=by
  intro is;induction is with
  | nil=>simp [Cq]
  | cons i is ih =>
   rw [i_,i_,Cq,gi,gc,ih,mz,Value.int.injEq];simp
 have e:Cq (words k x) (words k y)=true↔words k x=words k y:=gen _
 rw [Bool.eq_iff_iff,e,gc];exact ⟨AME hx hy,fun h=>by rw [h]⟩
def LQ (x:Bool) (rest:Option Bool) (last:Bool):Option Bool:=match last with
 | true=>some x
 | false=>match rest with | some y=>some (x&&y) | none=>none
def GO {α:Type}:List α→Bool | []=>true | _=>false
def J8:Nat→List Ch→List Ch→Option Bool
 | 0,_,_=>none
 | f+1,a,b=>match a,b with
  | [],[]=>some true
  | .num k x::r,.num k' y::s=>match Nat.beq k k' with
   | true=>LQ (decide (x=y)) (J8 f r s) (GO r&&GO s)
   | false=>none
  | .num k x::r,s=>match FO s k with
   | some (m,s')=>match C0 k m with
    | some y=>LQ (decide (x=y)) (J8 f r s') (GO r&&GO s')
    | none=>none
   | none=>none
  | r,.num k y::s=>match FO r k with
   | some (m,r')=>match C0 k m with
    | some x=>LQ (decide (x=y)) (J8 f r' s) (GO r'&&GO s)
    | none=>none
   | none=>none
  | c::r,d::s=>match Bg (some (.val false [c])),Bg (some (.val false [d])) with
   | some (_,_,i),some (_,_,j)=>LQ (decide (i=j)) (J8 f r s) (GO r&&GO s)
   | _,_=>match E8 (some (.val false [c])),E8 (some (.val false [d])) with
    | some (_,x),some (_,y)=>LQ (x==y) (J8 f r s) (GO r&&GO s)
    | _,_=>none
  | _,_=>none
theorem AMF {x e:Bool} {rest:Option Bool} {last y:Bool} (h:LQ x rest last=some e) (hr:∀ z,rest=some z→y=z) (hl:last=true→y=true):e=(x&&y):=by
 cases last with
 | true=>simp only [LQ,gq] at h;rw [hl rfl,← h];simp
 | false =>
  cases rest with
  | none=>simp [LQ] at h
  | some z=>simp only [LQ,gq] at h;rw [hr z rfl,← h]
theorem Yx {α:Type} {l:List α} (h:GO l=true):l=[]:=by cases l<;>simp_all [GO]
theorem AA4 {β:Env}:∀ {f:Nat} {a b:List Ch} {l m:List Value} {e:Bool},J8 f a b=some e→AO β a l→AO β b m→Cq l m=e
 | 0,_,_,_,_,_,h,_,_=>by simp [J8] at h
 | f+1,a,b,l,m,e,h,ha,hb=>by
  have fin:∀ {r s:List Ch} {lr ms:List Value} {x:Bool} {l1 m1:List Value},AO β r lr→AO β s ms→l=l1++lr→m=m1++ms→l1.length=m1.length→Cq l1 m1=x →
    LQ x (J8 f r s) (GO r&&GO s)=some e→Cq l m=e:=by
   intro r s lr ms x l1 m1 hr hs el em hlen hx hand;rw [el,em,kU hlen,hx];refine (AMF hand (fun z hz=>AA4 hz hr hs) (fun hn=>?_)).symm
   simp only [gi] at hn;have h1:=Yx hn.1;have h2:=Yx hn.2;subst h1;subst h2;simp only [AO] at hr hs;subst hr;subst hs;rfl
  unfold J8 at h;split at h
  ·injection h with h;subst h;simp only [AO] at ha hb;subst ha;subst hb;rfl
  ·rename_i k x r k' y s;split at h
   ·rename_i hk;have:=An.1 hk;subst this
    obtain ⟨l1,l2,h1,h2,h3⟩:=ha;obtain ⟨m1,m2,g1,g2,g3⟩:=hb;simp only [BF] at h1 g1;exact fin h2 g2 h3 g3 (by rw [h1.2,g1.2,LM,LM]) (by rw [h1.2,g1.2];exact kW h1.1 g1.1) h
   ·cases h
  ·rename_i k x r _;split at h
   ·rename_i mm s' hs;split at h
    ·rename_i y hy;obtain ⟨l1,l2,h1,h2,h3⟩:=ha;simp only [BF] at h1;obtain ⟨j1,j2,j3⟩:=IP hs hb;obtain ⟨q1,q2⟩:=G' hy j1;exact fin h2 j2 h3 (kj k m).symm (by rw [h1.2,q1,LM,LM]) (by rw [h1.2,q1];exact kW h1.1 q2) h
    ·cases h
   ·cases h
  ·rename_i k y s _;split at h
   ·rename_i mm r' hs;split at h
    ·rename_i x hx;obtain ⟨m1,m2,g1,g2,g3⟩:=hb;simp only [BF] at g1;obtain ⟨j1,j2,j3⟩:=IP hs ha;obtain ⟨q1,q2⟩:=G' hx j1;exact fin j2 g2 (kj k l).symm g3 (by rw [g1.2,q1,LM,LM]) (by rw [g1.2,q1];exact kW q2 g1.1) h
    ·cases h
   ·cases h
  ·rename_i c r d s _ _ _;obtain ⟨l1,l2,h1,h2,h3⟩:=ha;obtain ⟨m1,m2,g1,g2,g3⟩:=hb;have one:∀ {c:Ch} {l1:List Value},BF β c l1→EV c=1→∃ u,l1=[u]:=by
    intro c l1 hc hz;have:=P7 hc
    rw [hz] at this;exact pq.1 this
   split at h
   ·rename_i c1 k1 i c2 k2 j hi hj;have z1:EV c=1:=by cases c<;>simp [Bg] at hi<;>rfl
    have z2:EV d=1:=by cases d<;>simp [Bg] at hj<;>rfl
    obtain ⟨u,rfl⟩:=one h1 z1;obtain ⟨v,rfl⟩:=one g1 z2;obtain ⟨rfl,_⟩:=Cy (β:=β) (u:=u) (fun A hA=>by injection hA with hA;subst hA;exact Aq h1) hi
    obtain ⟨rfl,_⟩:=Cy (β:=β) (u:=v) (fun A hA=>by injection hA with hA;subst hA;exact Aq g1) hj
    exact fin h2 g2 h3 g3 rfl (by simp [Cq]) h
   ·split at h
    ·rename_i c1 x c2 y hi hj;have z1:EV c=1:=by cases c<;>simp [E8] at hi<;>rfl
     have z2:EV d=1:=by cases d<;>simp [E8] at hj<;>rfl
     obtain ⟨u,rfl⟩:=one h1 z1;obtain ⟨v,rfl⟩:=one g1 z2;have e1:=J7 (β:=β) (u:=u) (fun A hA=>by injection hA with hA;subst hA;exact Aq h1) hi
     have e2:=J7 (β:=β) (u:=v) (fun A hA=>by injection hA with hA;subst hA;exact Aq g1) hj
     subst e1;subst e2;exact fin h2 g2 h3 g3 rfl (by simp [Cq]) h
    ·cases h
  ·cases h
def Vp (P:Program) (g:TypeId→Option (List (Option IntKind))):List Field→Nat→Option (List (Option IntKind))
 | [],_=>some []
 | f::fs,off=>match decide (f.name≠"_"),Nat.beq f.offset off,g f.type with
  | true,true,some ks=>match Nat.beq (P.cellsOf f.type) ks.length,Vp P g fs (off+ks.length) with
   | true,some r=>some (ks++r)
   | _,_=>none
  | _,_,_=>none
def FT (P:Program):Nat→TypeId→Option (List (Option IntKind))
 | 0,_=>none
 | d+1,t=>match P.underlying t with
  | some .bool=>some [none]
  | some (.int k)=>some [some k]
  | some (.array n e)=>match FT P d e with
   | some ks=>match Nat.beq (P.cellsOf e) ks.length with
    | true=>some (List.replicate n ks).flatten
    | false=>none
   | none=>none
  | some (.struct fs)=>match P.stoodInHeld t with
   | false=>Vp P (FT P d) fs.toList 0
   | true=>none
  | _=>none
def CD:List (Option IntKind)→List Value→Prop
 | [],[]=>True
 | none::ks,.bool _::r=>CD ks r
 | some k::ks,.int k' _::r=>k'=k∧CD ks r
 | _,_=>False
theorem LR:∀ {ks:List (Option IntKind)} {l:List Value},CD ks l→l.length=ks.length
 | [],[],_=>rfl
 | [],_::_,h=>by simp [CD] at h
 | none::ks,[],h=>by simp [CD] at h
 | some _::ks,[],h=>by simp [CD] at h
 | none::ks,x::r,h=>by cases x<;>simp [CD] at h;simp [LR h]
 | some k::ks,x::r,h=>by cases x<;>simp [CD] at h;simp [LR h.2]
theorem SK:∀ {ks js:List (Option IntKind)} {l:List Value},CD (ks++js) l→CD ks (l.take ks.length)∧CD js (l.drop ks.length)
 | [],js,l,h=>by simpa [CD] using h
 | none::ks,js,[],h=>by simp [CD] at h
 | some _::ks,js,[],h=>by simp [CD] at h
 | none::ks,js,x::r,h=>by
  cases x<;>simp [CD] at h
  have:=SK h
  simpa [CD] using this
 | some k::ks,js,x::r,h=>by
  cases x<;>simp [CD] at h
  have:=SK h.2
  simpa [CD,h.1] using this
def HA (P:Program) (t:TypeId) (xs:List Value) (X:Value):Prop :=
 match P.underlying t with
 | some d=>match wide d with
  | true=>X=.agg ⟨xs⟩
  | false=>xs=[X]
 | none=>False
section
variable {P:Program}
theorem AA5 {t:TypeId} {d:TypeDesc} {i:TypeInfo} (hd:P.underlying t=some d) (hi:P.info? t=some i) {l:List Value} {off:Nat} (hfit:off+i.size≤l.length) (h1:wide d=false→i.size=1) (w:World) :
  ∃ v,(part t ⟨l⟩ off).run P w=.ok v w∧HA P t ((l.drop off).take i.size) v:=by
 have hag:=Vm hd w;cases hw:wide d with
 | true =>
  refine ⟨.agg ⟨(l.drop off).take i.size⟩,?_,by simp [HA,hd,hw]⟩
  simp [part,hag,hw,sizeOf,typeInfo,hi]
 | false =>
  have hs:=h1 hw;have hlt:off<l.length:=dl
  refine ⟨l[off],?_,?_⟩
  ·simp [part,hag,hw,hlt]
  ·simp only [HA,hd,hw,hs];exact kJ hlt
def Yy (P:Program) (D:Nat) (t:TypeId) (ks:List (Option IntKind)):Prop :=
 ∀ (xs ys:List Value) (X Y:Value) (w:World),CD ks xs→CD ks ys→HA P t xs X→HA P t ys Y→(Op.equalIn D t X Y).run P w=.ok (Cq xs ys) w
theorem AA6 {d:Nat} {t:TypeId} {ks:List (Option IntKind)} {ds:TypeDesc} (h:FT P d t=some ks) (hd:P.underlying t=some ds) (hw:wide ds=false):ks.length=1:=by
 cases d with
 | zero=>simp [FT] at h
 | succ d =>
  simp only [FT,hd] at h;cases ds<;>simp [wide] at hw h
  all_goals (subst h;rfl)
theorem AA7 {d:Nat} {t:TypeId} {ks:List (Option IntKind)} (h:FT P d t=some ks):∃ ds i,P.underlying t=some ds∧P.info? t=some i:=by
 cases d with
 | zero=>simp [FT] at h
 | succ d =>
  cases hd:P.underlying t with
  | none=>simp [FT,hd] at h
  | some ds=>obtain ⟨i,hi⟩:=info_of_underlying hd;exact ⟨ds,i,rfl,hi⟩
theorem AA8 {D d:Nat} {e:TypeId} {ks js:List (Option IntKind)} (ih:Yy P D e ks) (hks:FT P d e=some ks) (hc:P.cellsOf e=ks.length) {xs ys:List Value} {off:Nat} (w:World)
  (hx:CD (ks++js) (xs.drop off)) (hy:CD (ks++js) (ys.drop off)) :
  ∃ a b,(part e ⟨xs⟩ off).run P w=.ok a w∧(part e ⟨ys⟩ off).run P w=.ok b w∧(Op.equalIn D e a b).run P w=.ok (Cq ((xs.drop off).take ks.length) ((ys.drop off).take ks.length)) w ∧
   Cq (xs.drop off) (ys.drop off)=(Cq ((xs.drop off).take ks.length) ((ys.drop off).take ks.length)&&Cq (xs.drop (off+ks.length)) (ys.drop (off+ks.length))) ∧
   CD js (xs.drop (off+ks.length))∧CD js (ys.drop (off+ks.length)):=by
 obtain ⟨ds,i,hd,hi⟩:=AA7 hks;have hsz:i.size=ks.length:=by simpa [Program.cellsOf,hi] using hc
 have lx:=LR hx;have ly:=LR hy;simp at lx ly
 have w1:wide ds=false→i.size=1:=fun hw=>by rw [hsz];exact AA6 hks hd hw
 by_cases hz:ks.length=0
 ·have hwd:wide ds=true:=by
   cases hw:wide ds with
   | true=>rfl
   | false=>have:=AA6 hks hd hw;omega
  have hag:=Vm hd w;obtain ⟨fx1,fx2⟩:=SK hx;obtain ⟨fy1,fy2⟩:=SK hy;have pa:∀ l:List Value,(part e ⟨l⟩ off).run P w=.ok (.agg ⟨(l.drop off).take ks.length⟩) w:=by
   intro l;simp [part,hag,hwd,sizeOf,typeInfo,hi,hsz]
  refine ⟨_,_,pa xs,pa ys,ih _ _ _ _ w fx1 fy1 (by simp [HA,hd,hwd]) (by simp [HA,hd,hwd]),?_,?_,?_⟩
  ·simp [hz,Cq]
  ·rw [ki] at fx2;exact fx2
  ·rw [ki] at fy2;exact fy2
 ·obtain ⟨a,ha,sa⟩:=AA5 hd hi (l:=xs) (off:=off) dl w1 w
  obtain ⟨b,hb,sb⟩:=AA5 hd hi (l:=ys) (off:=off) dl w1 w
  rw [hsz] at sa sb;obtain ⟨fx1,fx2⟩:=SK hx;obtain ⟨fy1,fy2⟩:=SK hy;refine ⟨a,b,ha,hb,ih _ _ _ _ w fx1 fy1 sa sb,?_,?_,?_⟩
  ·rw [← ki,← ki,← kU (by rw [LR fx1,LR fy1]),kj,kj]
  ·rw [ki] at fx2;exact fx2
  ·rw [ki] at fy2;exact fy2
theorem AA9 {D d:Nat} {e:TypeId} {ks:List (Option IntKind)} (ih:Yy P D e ks) (hks:FT P d e=some ks) (hc:P.cellsOf e=ks.length) {xs ys:List Value} (w:World) :
  ∀ (m i:Nat),CD (List.replicate m ks).flatten (xs.drop (i*ks.length))→CD (List.replicate m ks).flatten (ys.drop (i*ks.length)) →
   (Op.eqItems D e (P.cellsOf e) ⟨xs⟩ ⟨ys⟩ (List.range' i m)).run P w=.ok (Cq (xs.drop (i*ks.length)) (ys.drop (i*ks.length))) w
 | 0,i,hx,hy=>by
  have lx:=LR hx;have ly:=LR hy;simp at lx ly
  rw [nl dl,nl dl];simp [Op.eqItems,Cq]
 | m+1,i,hx,hy=>by
  rw [om,List.flatten_cons] at hx hy;obtain ⟨a,b,ha,hb,hab,heq,fx,fy⟩:=AA8 ih hks hc w hx hy;have e1:i*ks.length+ks.length=(i+1)*ks.length:=by rw [oq]
  rw [e1] at heq fx fy;have hrest:=AA9 ih hks hc w m (i+1) fx fy
  rw [pp];simp only [Op.eqItems,Sem.run_bind,hc,ha,hb,hab,Result.andThen_ok];rw [hc] at hrest;rw [heq];cases he:Cq ((xs.drop (i*ks.length)).take ks.length) ((ys.drop (i*ks.length)).take ks.length)
  ·simp
  ·simpa using hrest
theorem AA_ {D d:Nat} (ih:∀ (t:TypeId) (ks:List (Option IntKind)),FT P d t=some ks→Yy P D t ks) {xs ys:List Value} (w:World) :
  ∀ (fs:List Field) (off:Nat) (ks:List (Option IntKind)),Vp P (FT P d) fs off=some ks→CD ks (xs.drop off)→CD ks (ys.drop off) →
   (Op.eqFields D ⟨xs⟩ ⟨ys⟩ fs).run P w=.ok (Cq (xs.drop off) (ys.drop off)) w
 | [],off,ks,h,hx,hy=>by
  simp only [Vp,gq] at h;subst h;have lx:=LR hx;have ly:=LR hy;simp at lx ly
  rw [nl dl,nl dl];simp [Op.eqFields,Cq]
 | f::fs,off,ks,h,hx,hy=>by
  simp only [Vp] at h;split at h
  ·rename_i ks1 hn ho hg;split at h
   ·rename_i r hc hr;injection h with h;subst h;have ho':=An.1 ho;have hn':f.name≠"_":=by simpa using hn
    obtain ⟨a,b,ha,hb,hab,heq,fx,fy⟩:=AA8 (ih _ _ hg) hg (An.1 hc) w hx hy
    have hrest:=AA_ ih w fs _ _ hr fx fy;rw [← ho'] at ha hb;simp only [Op.eqFields,hn',ne_eq,not_false_eq_true,if_true,Sem.run_bind,ha,hb,hab,Result.andThen_ok];rw [heq];cases he:Cq ((xs.drop off).take ks1.length) ((ys.drop off).take ks1.length)
    ·simp
    ·simpa using hrest
   ·cases h
  ·cases h
theorem AA' (d:Nat):∀ (t:TypeId) (ks:List (Option IntKind)) (D:Nat),FT P d t=some ks→d≤D→Yy P D t ks:=by
 induction d with
 | zero=>intro t ks D h;simp [FT] at h
 | succ d IH =>
  intro t ks D h hD;obtain ⟨D,rfl⟩:∃ D',D=D'+1:=⟨D-1,dl⟩
  intro xs ys X Y w hx hy sx sy;simp only [FT] at h;split at h
  ·rename_i hu;injection h with h;subst h;simp only [HA,hu,wide] at sx sy;subst sx;subst sy;cases X<;>simp [CD] at hx
   cases Y<;>simp [CD] at hy
   rw [run_equalIn_bool w D t _ _ hu];simp [Cq]
  ·rename_i k hu;injection h with h;subst h;simp only [HA,hu,wide] at sx sy;subst sx;subst sy;cases X<;>simp [CD] at hx
   cases Y<;>simp [CD] at hy
   rw [hx,hy,run_equalIn_int w D t k k _ _ hu];simp only [Cq,Bool.and_true];congr 1
  ·rename_i n e hu;split at h
   ·rename_i ks1 hk;split at h
    ·rename_i hc;injection h with h;subst h;simp only [HA,hu,wide] at sx sy;subst sx;subst sy;obtain ⟨_,i,_,hi⟩:=AA7 hk;rw [run_equalIn_array w D ⟨xs⟩ ⟨ys⟩ hu hi,qi];have:=AA9 (IH e ks1 D hk dl) hk (An.1 hc) (xs:=xs) (ys:=ys) w n 0 (by simpa using hx) (by simpa using hy)
     simpa using this
    ·cases h
   ·cases h
  ·rename_i fs hu;split at h
   ·rename_i hp;simp only [HA,hu,wide] at sx sy;subst sx;subst sy;have hf:P.fieldsOf t=fs:=by simp [Program.fieldsOf,hu]
    rw [run_equalIn_struct w D t ⟨xs⟩ ⟨ys⟩ (by rw [hf];exact hu) hp,hf]
    have:=AA_ (fun t ks hk=>IH t ks D hk dl) (xs:=xs) (ys:=ys) w fs.toList 0 ks h (by simpa using hx) (by simpa using hy)
    simpa using this
   ·cases h
  ·cases h
end
def Vq (k:Nat):List (Option IntKind)→Option (List (Option IntKind)):=match k with
 | 0=>fun ks=>some ks
 | k+1=>fun ks=>match ks with
  | some .u64::r=>Vq k r
  | _=>none
def LS:Nat→List (Option IntKind)→List Ch→Bool
 | 0,_,_=>false
 | f+1,ks,cs=>match ks,cs with
  | [],[]=>true
  | ks,.num k _::r=>match Vq k ks with | some ks'=>LS f ks' r | none=>false
  | some k::ks,c::r=>match Bg (some (.val false [c])) with
   | some (_,k',_)=>match decide (k'=k) with | true=>LS f ks r | false=>false
   | none=>false
  | none::ks,c::r=>match E8 (some (.val false [c])) with
   | some _=>LS f ks r
   | none=>false
  | _,_=>false
theorem ABA:∀ {k:Nat} {ks ks':List (Option IntKind)} {x:Nat} {l:List Value},Vq k ks=some ks'→CD ks' l→CD ks (words k x++l)
 | 0,ks,ks',x,l,h,hl=>by simp [Vq] at h;subst h;simpa [words] using hl
 | k+1,ks,ks',x,l,h,hl=>by
  simp only [Vq] at h;split at h
  ·rw [Yw];exact ⟨rfl,ABA h hl⟩
  ·cases h
theorem Vr {β:Env}:∀ {f:Nat} {ks:List (Option IntKind)} {cs:List Ch} {l:List Value},LS f ks cs=true→AO β cs l→CD ks l
 | 0,_,_,_,h,_=>by simp [LS] at h
 | f+1,ks,cs,l,h,hl=>by
  unfold LS at h;split at h
  ·simp only [AO] at hl;subst hl;trivial
  ·obtain ⟨l1,l2,h1,h2,rfl⟩:=hl;simp only [BF] at h1;split at h
   ·rename_i ks' hk;rw [h1.2];exact ABA hk (Vr h h2)
   ·cases h
  ·rename_i k ks c r _;obtain ⟨l1,l2,h1,h2,rfl⟩:=hl;split at h
   ·rename_i b k' i hi;split at h
    ·rename_i hk;have z1:EV c=1:=by cases c<;>simp [Bg] at hi<;>rfl
     obtain ⟨u,rfl⟩:∃ u,l1=[u]:=pq.1 (by rw [P7 h1,z1])
     obtain ⟨rfl,_⟩:=Cy (β:=β) (u:=u) (fun A hA=>by injection hA with hA;subst hA;exact Aq h1) hi
     exact ⟨by simpa using hk,Vr h h2⟩
    ·cases h
   ·cases h
  ·rename_i ks c r _;obtain ⟨l1,l2,h1,h2,rfl⟩:=hl;split at h
   ·rename_i p hi;obtain ⟨b,y⟩:=p;have z1:EV c=1:=by cases c<;>simp [E8] at hi<;>rfl
    obtain ⟨u,rfl⟩:∃ u,l1=[u]:=pq.1 (by rw [P7 h1,z1])
    have:=J7 (β:=β) (u:=u) (fun A hA=>by injection hA with hA;subst hA;exact Aq h1) hi
    subst this;show CD ks l2;exact Vr h h2
   ·cases h
  ·cases h
section
variable {P:Program} {β:Env} {H:Heap} {w:World}
def kY (P:Program) (s:TypeId) (x:Option AV) (f:Nat) (path:List Bool):Option R :=
 match x,P.underlying s with
 | some (.val false [.p bk off]),some (.struct fs)=>match fs[f]? with
  | some fd=>match P.info? fd.type with
   | some i=>match Nat.beq i.size 0 with
    | false=>some (CA (.val false [.p bk (off+fd.offset)]) path)
    | true=>none
   | none=>none
  | none=>none
 | _,_=>none
theorem AMG {s f:Nat} {x:Option AV} {u:Value} {path:List Bool} {r:R} (g:Good β H w) (hx:∀ A,x=some A→AL β A u) (h:kY P s x f path=some r) (fr:Nat) :
  ∃ v,(Instr.fieldAt s u f).run P w=.ok v w∧Eff β fr r w v w β:=by
 unfold kY at h;split at h
 ·rename_i bk off fs hs;split at h
  ·rename_i fd hf;split at h
   ·rename_i i hi;split at h
    ·rename_i hz;injection h with h;subst h;obtain ⟨B,n,e1,e2⟩:=Aw (hx _ rfl)
     injection e2 with e2 _;subst e2;have hz':=IR hz;refine ⟨_,?_,Eff.pure_ g (Aq ⟨B,n,e1,rfl⟩)⟩
     simp [Instr.fieldAt,run_underlying hs,hf,Instr.sureAddr,fieldPlace,sizeOf,typeInfo,hi,hz',Addr.add_lit,Nat.add_assoc]
    ·cases h
   ·cases h
  ·cases h
 ·cases h
def Yz (P:Program) (t:TypeId) (cs:List Ch) (off:Nat) (path:List Bool):Option R :=
 match P.underlying t,P.info? t with
 | some d,some i=>match wide d with
  | true=>match LN cs off i.size with
   | some m=>some (CA (.val true m) path)
   | none=>none
  | false=>match LN cs off 1 with
   | some m=>some (CA (.val false m) path)
   | none=>none
 | _,_=>none
theorem ABB {t off:Nat} {cs:List Ch} {l:List Value} {path:List Bool} {r:R} (g:Good β H w) (hl:AO β cs l) (h:Yz P t cs off path=some r) (fr:Nat) :
  ∃ v,(part t ⟨l⟩ off).run P w=.ok v w∧Eff β fr r w v w β:=by
 unfold Yz at h;split at h
 ·rename_i d i hd hi;have hag:=Vm hd w;split at h
  ·rename_i hw;split at h
   ·rename_i m hm;injection h with h;subst h;obtain ⟨h1,h2⟩:=SF hm hl;refine ⟨.agg ⟨(l.drop off).take i.size⟩,?_,Eff.pure_ g ⟨_,h1,rfl⟩⟩
    simp [part,hag,hw,sizeOf,typeInfo,hi]
   ·cases h
  ·rename_i hw;split at h
   ·rename_i m hm;injection h with h;subst h;obtain ⟨h1,h2⟩:=SF hm hl;have hlt:off<l.length:=dl
    rw [kJ hlt] at h1;refine ⟨l[off],?_,Eff.pure_ g h1⟩
    simp [part,hag,hw,hlt]
   ·cases h
 ·cases h
def kZ (P:Program) (t:TypeId) (x:Option AV) (f:Nat) (path:List Bool):Option R :=
 match x,P.underlying t with
 | some (.val true cs),some (.struct fs)=>match fs[f]? with
  | some fd=>Yz P fd.type cs fd.offset path
  | none=>none
 | _,_=>none
theorem AMH {t f:Nat} {x:Option AV} {u:Value} {path:List Bool} {r:R} (g:Good β H w) (hx:∀ A,x=some A→AL β A u) (h:kZ P t x f path=some r) (fr:Nat) :
  ∃ v,(Instr.field t u f).run P w=.ok v w∧Eff β fr r w v w β:=by
 unfold kZ at h;split at h
 ·rename_i cs fs hs;split at h
  ·rename_i fd hf;obtain ⟨l,hl,rfl⟩:=hx _ rfl;obtain ⟨v,hv,he⟩:=ABB g hl h fr;refine ⟨v,?_,he⟩
   simp [Instr.field,run_underlying hs,hf,asAgg,hv]
  ·cases h
 ·cases h
def FU (s:ByteArray) (i:Int):Int:=((s.data.toList.getD i.toNat 0).toNat:Int)
def k6 (P:Program) (t:TypeId) (x ix:Option AV) (path:List Bool):Option R :=
 match x,P.underlying t,Bg ix with
 | some (.val true cs),some (.array n e),some (true,_,i)=>match decide (0≤i∧i<n),P.info? e with
  | true,some inf=>Yz P e cs (i.toNat*inf.size) path
  | _,_=>none
 | some (.val false [.v (.string s)]),some .string,some (_,_,i)=>some ⟨.val false [.v (.int .u8 (FU s i))],[],0,[(decide (0≤i∧i<s.size),true)],path⟩
 | _,_,_=>none
theorem AMI {t:TypeId} {x ix:Option AV} {u v:Value} {path:List Bool} {r:R} (g:Good β H w) (hx:∀ A,x=some A→AL β A u) (hi:∀ A,ix=some A→AL β A v) (h:k6 P t x ix path=some r) (hc:AM r.conds) (fr:Nat) :
  ∃ z,(Instr.index t u v).run P w=.ok z w∧Eff β fr r w z w β:=by
 unfold k6 at h;split at h
 ·rename_i cs n e k i hu ha;split at h
  ·rename_i inf hd hinf;obtain ⟨l,hl,rfl⟩:=hx _ rfl;obtain ⟨rfl,_⟩:=Cy hi ha;obtain ⟨z,hz,he⟩:=ABB g hl h fr;refine ⟨z,?_,he⟩
   have hd':0≤i∧i<n:=by simpa using hd
   simp [Instr.index,asIntOf,run_underlying hu,hd',sizeOf,typeInfo,hinf,hz]
  ·cases h
 ·rename_i s k' c i hu ha;injection h with h;subst h;have hd:=hc.1;simp only [gc] at hd;have:=(Aw (hx _ rfl)).1
  injection this with e _;subst e;obtain ⟨rfl,_⟩:=Cy hi ha;have hlt:i.toNat<s.size:=dl
  have hlt':i.toNat<s.data.toList.length:=by simpa using hlt
  have AF:s.data.toList.getD i.toNat 0=s[i.toNat]:=by
   rw [gy,kn hlt'];simp [ByteArray.getElem_eq_getElem_data]
  refine ⟨.int .u8 (FU s i),?_,Eff.pure_ g (Aq ⟨rfl,rfl,?_⟩)⟩
  ·unfold FU;rw [AF];simp [Instr.index,asIntOf,run_underlying hu,hd.1,hlt]
  ·show has .u8 (FU s i);rw [E7];have:=(s.data.toList.getD i.toNat 0).toNat_lt
   show (decide (0≤FU s i)&&decide (FU s i≤255))=true;unfold FU;rw [gi,decide_eq_true_iff,decide_eq_true_iff];omega
 ·cases h
def k7 (P:Program) (t:TypeId) (x ix:Option AV) (path:List Bool):Option R :=
 match x,P.underlying t,Bg ix with
 | some (.val false [.p bk off]),some (.array n e),some (c,_,i)=>match P9 c (decide (0≤i∧i<n)),P.info? e with
  | some l,some inf=>some ⟨.val false [.p bk (off+i.toNat*inf.size)],[],0,l,path⟩
  | _,_=>none
 | some (.val false [.sl bk off len _]),some (.slice e),some (_,_,i)=>match P.info? e with
  | some inf=>some ⟨.val false [.p bk (off+i.toNat*inf.size)],[],0,[(decide (0≤i∧i<len),true)],path⟩
  | none=>none
 | some (.val false [.sx bk len _]),some (.slice e),some (_,_,i)=>match P.info? e with
  | some inf=>some ⟨.val false [.p bk (0+i.toNat*inf.size)],[],0,[(decide (0≤i∧i<len),true)],path⟩
  | none=>none
 | _,_,_=>none
theorem AMJ {t:TypeId} {x ix:Option AV} {u v:Value} {path:List Bool} {r:R} (g:Good β H w) (hx:∀ A,x=some A→AL β A u) (hi:∀ A,ix=some A→AL β A v) (h:k7 P t x ix path=some r)
  (hc:AM r.conds) (fr:Nat):∃ z,(Instr.indexAt t u v).run P w=.ok z w∧Eff β fr r w z w β:=by
 unfold k7 at h;split at h
 ·rename_i bk off n e c k i hu ha;split at h
  ·rename_i l inf hl hinf;injection h with h;subst h;have hd:=Vo hl hc;simp only [gc] at hd;obtain ⟨B,m,e1,e2⟩:=Aw (hx _ rfl)
   injection e2 with e2 _;subst e2;obtain ⟨rfl,_⟩:=Cy hi ha;refine ⟨_,?_,Eff.pure_ g (Aq ⟨B,m,e1,rfl⟩)⟩
   simp [Instr.indexAt,asIntOf,run_underlying hu,Instr.sureAddr,hd,sizeOf,typeInfo,hinf,Addr.add_lit,Nat.add_assoc]
  ·cases h
 ·rename_i bk off len cap e c k i hu ha;split at h
  ·rename_i inf hinf;injection h with h;subst h;have hd:=hc.1;simp only [gc] at hd;obtain ⟨rfl,_⟩:=Cy hi ha;rcases Aw (hx _ rfl) with ⟨B,m,e1,e2⟩ | ⟨_,_,e2,_⟩ | ⟨_,_,e2,_⟩
   ·injection e2 with e2 _;subst e2;refine ⟨_,?_,Eff.pure_ g (Aq ⟨B,m,e1,rfl⟩)⟩
    simp [Instr.indexAt,asIntOf,run_underlying hu,hd,sizeOf,typeInfo,hinf,Addr.add_lit,Nat.add_assoc]
   ·subst e2;omega
   ·subst e2;omega
  ·cases h
 ·rename_i bk len sz e c k i hu ha;split at h
  ·rename_i inf hinf;injection h with h;subst h;have hd:=hc.1;simp only [gc] at hd;obtain ⟨rfl,_⟩:=Cy hi ha;rcases Aw (hx _ rfl) with ⟨B,m,cap,e1,e2,_⟩ | ⟨_,e2,_⟩
   ·injection e2 with e2 _;subst e2;refine ⟨_,?_,Eff.pure_ g (Aq ⟨B,(m,0),e1,rfl⟩)⟩
    simp [Instr.indexAt,asIntOf,run_underlying hu,hd,sizeOf,typeInfo,hinf,Addr.add_lit]
   ·subst e2;omega
  ·cases h
 ·cases h
def LU (d top:Nat) (x:Option (Option AV)):Option (Nat×dr) :=
 match x with
 | none=>some (d,[])
 | some a=>match Bg a with
  | some (_,_,i)=>some (i.toNat,[(decide (0≤i∧i≤top),true)])
  | none=>none
def DY (β:Env) (x:Option (Option AV)) (v:Option Value):Prop :=
 match x,v with
 | none,none=>True
 | some a,some v=>∀ A,a=some A→AL β A v
 | _,_=>False
theorem IT {d top y:Nat} {x:Option (Option AV)} {v:Option Value} {c:dr} (hv:DY β x v) (h:LU d top x=some (y,c)) (hc:AM c) :
  (v=none∧y=d)∨(∃ k i,v=some (.int k i)∧0≤i∧i≤top∧y=i.toNat):=by
 unfold LU at h;split at h
 ·injection h with h;injection h with h1 h2;subst h1;cases v
  ·exact .inl ⟨rfl,rfl⟩
  ·simp [DY] at hv
 ·split at h
  ·rename_i a b k i ha;injection h with h;injection h with h1 h2;subst h1;subst h2;cases v with
   | none=>simp [DY] at hv
   | some v =>
    obtain ⟨rfl,_⟩:=Cy hv ha;have:=hc.1
    simp only [gc] at this;exact .inr ⟨k,i,rfl,this.1,this.2,rfl⟩
  ·cases h
theorem P' (b:Bool) (len cap l h m:Nat) (lo hi mx:Option Value)
  (hm:(mx=none∧m=cap)∨(∃ k i,mx=some (.int k i)∧0≤i∧i≤cap∧m=i.toNat))
  (hh:(hi=none∧h=len∧mx=none)∨(∃ k i,hi=some (.int k i)∧0≤i∧i≤m∧h=i.toNat))
  (hl:(lo=none∧l=0)∨(∃ k i,lo=some (.int k i)∧0≤i∧i≤h∧l=i.toNat)) :
  (Instr.sliceBounds b len cap lo hi mx).run P w=.ok (l,h,m) w:=by
 rcases hm with ⟨rfl,rfl⟩ | ⟨km,im,rfl,m1,m2,rfl⟩
 ·rcases hh with ⟨rfl,rfl,_⟩ | ⟨kh,ih,rfl,h1,h2,rfl⟩
  ·rcases hl with ⟨rfl,rfl⟩ | ⟨kl,il,rfl,l1,l2,rfl⟩
   ·simp [Instr.sliceBounds]
   ·simp [Instr.sliceBounds,run_sliceBound w kl il _ _ l1 l2]
  ·rcases hl with ⟨rfl,rfl⟩ | ⟨kl,il,rfl,l1,l2,rfl⟩
   ·simp [Instr.sliceBounds,run_sliceBound w kh ih _ _ h1 h2]
   ·simp [Instr.sliceBounds,run_sliceBound w kh ih _ _ h1 h2,run_sliceBound w kl il _ _ l1 l2]
 ·rcases hh with ⟨_,_,hc⟩ | ⟨kh,ih,rfl,h1,h2,rfl⟩
  ·cases hc
  ·rcases hl with ⟨rfl,rfl⟩ | ⟨kl,il,rfl,l1,l2,rfl⟩
   ·simp [Instr.sliceBounds,run_sliceBound w km im _ _ m1 m2,run_sliceBound w kh ih _ _ h1 h2]
   ·simp [Instr.sliceBounds,run_sliceBound w km im _ _ m1 m2,run_sliceBound w kh ih _ _ h1 h2,run_sliceBound w kl il _ _ l1 l2]
def LV (len cap:Nat) (lo hi mx:Option (Option AV)):Option (Nat×Nat×Nat×dr) :=
 match hi,mx with
 | none,some _=>none
 | _,_=>match LU cap cap mx with
  | some (m,c1)=>match LU len m hi with
   | some (h,c2)=>match LU 0 h lo with
    | some (l,c3)=>some (l,h,m,c1++(c2++c3))
    | none=>none
   | none=>none
  | none=>none
theorem SL (b:Bool) {len cap l h m:Nat} {lo hi mx:Option (Option AV)} {vl vh vm:Option Value} {c:dr} (rl:DY β lo vl) (rh:DY β hi vh) (rm:DY β mx vm)
  (hb:LV len cap lo hi mx=some (l,h,m,c)) (hc:AM c):(Instr.sliceBounds b len cap vl vh vm).run P w=.ok (l,h,m) w:=by
 unfold LV at hb;split at hb
 ·cases hb
 ·rename_i hno;split at hb
  ·rename_i m' c1 h1;split at hb
   ·rename_i h' c2 h2;split at hb
    ·rename_i l' c3 h3;injection hb with hb;injection hb with e1 hb;injection hb with e2 hb;injection hb with e3 e4;subst e1;subst e2;subst e3;subst e4;obtain ⟨o1,o2⟩:=Bo.1 hc;obtain ⟨o2,o3⟩:=Bo.1 o2;refine P' b len cap _ _ _ _ _ _ (IT rm h1 o1) ?_ (IT rl h3 o3)
     rcases IT rh h2 o2 with ⟨e1,e2⟩ | e
     ·refine .inl ⟨e1,e2,?_⟩
      subst e1;cases hi with
      | some a=>simp [DY] at rh
      | none =>
       cases mx with
       | none=>cases vm with
        | none=>rfl
        | some v=>simp [DY] at rm
       | some a=>exact absurd rfl (hno a rfl)
     ·exact .inr e
    ·cases hb
   ·cases hb
  ·cases hb
theorem ABC {l h m:Nat} {lo hi mx:Option (Option AV)} {vl vh vm:Option Value} {c:dr} (rl:DY β lo vl) (rh:DY β hi vh) (rm:DY β mx vm)
  (hb:LV 0 0 lo hi mx=some (l,h,m,c)) (hc:AM c):l=0∧h=0∧m=0:=by
 unfold LV at hb;split at hb
 ·cases hb
 ·split at hb
  ·rename_i m' c1 h1;split at hb
   ·rename_i h' c2 h2;split at hb
    ·rename_i l' c3 h3;injection hb with hb;injection hb with e1 hb;injection hb with e2 hb;injection hb with e3 e4;subst e1;subst e2;subst e3;subst e4;obtain ⟨o1,o2⟩:=Bo.1 hc;obtain ⟨o2,o3⟩:=Bo.1 o2;have hm:m'=0:=by rcases IT rm h1 o1 with ⟨_,e⟩ | ⟨_,i,_,_,_,e⟩<;>omega
     have hh:h'=0:=by rcases IT rh h2 o2 with ⟨_,e⟩ | ⟨_,i,_,_,_,e⟩<;>omega
     have hl:l'=0:=by rcases IT rl h3 o3 with ⟨_,e⟩ | ⟨_,i,_,_,_,e⟩<;>omega
     exact ⟨hl,hh,hm⟩
    ·cases hb
   ·cases hb
  ·cases hb
theorem AMK (M:Nat) {l h m:Nat} {lo hi mx:Option (Option AV)} {vl vh vm:Option Value} {c:dr} (rl:DY β lo vl) (rh:DY β hi vh) (rm:DY β mx vm)
  (hb:LV 0 0 lo hi mx=some (l,h,m,c)) (hc:AM c):∃ M',(Instr.sliceBounds true 0 M vl vh vm).run P w=.ok (0,0,M') w:=by
 unfold LV at hb;split at hb
 ·cases hb
 ·rename_i hno;split at hb
  ·rename_i m' c1 h1;split at hb
   ·rename_i h' c2 h2;split at hb
    ·rename_i l' c3 h3;injection hb with hb;injection hb with e1 hb;injection hb with e2 hb;injection hb with e3 e4;subst e1;subst e2;subst e3;subst e4;obtain ⟨o1,o2⟩:=Bo.1 hc;obtain ⟨o2,o3⟩:=Bo.1 o2;have hm:m'=0:=by rcases IT rm h1 o1 with ⟨_,e⟩ | ⟨_,i,_,_,_,e⟩<;>omega
     have hh:h'=0:=by rcases IT rh h2 o2 with ⟨_,e⟩ | ⟨_,i,_,_,_,e⟩<;>omega
     have hl:l'=0:=by rcases IT rl h3 o3 with ⟨_,e⟩ | ⟨_,i,_,_,_,e⟩<;>omega
     subst hm;subst hh;subst hl;have key:∀ M',((vm=none∧M'=M)∨(∃ k i,vm=some (.int k i)∧0≤i∧i≤M∧M'=i.toNat))→(Instr.sliceBounds true 0 M vl vh vm).run P w=.ok (0,0,M') w:=by
      intro M' hM;refine P' true 0 M 0 0 M' _ _ _ hM ?_ (IT rl h3 o3)
      rcases IT rh h2 o2 with ⟨e1,_⟩ | ⟨k,i,e1,e2,e3,e4⟩
      ·refine .inl ⟨e1,rfl,?_⟩
       subst e1;cases hi with
       | some a=>simp [DY] at rh
       | none =>
        cases mx with
        | none=>cases vm with
         | none=>rfl
         | some v=>simp [DY] at rm
        | some a=>exact absurd rfl (hno a rfl)
      ·exact .inr ⟨k,i,e1,e2,dl,e4⟩
     rcases IT rm h1 o1 with ⟨e1,_⟩ | ⟨k,i,e1,e2,e3,e4⟩
     ·exact ⟨_,key _ (.inl ⟨e1,rfl⟩)⟩
     ·exact ⟨_,key _ (.inr ⟨k,i,e1,e2,dl,rfl⟩)⟩
    ·cases hb
   ·cases hb
  ·cases hb
def k8 (P:Program) (t:TypeId) (x:Option AV) (lo hi mx:Option (Option AV)) (path:List Bool):Option R :=
 match x,P.underlying t with
 | some (.val false [.p bk off]),some (.array n e)=>match LV n n lo hi mx,P.info? e with
  | some (l,h,m,c),some inf=>match Nat.beq m l with
   | true=>some ⟨.val false [.sl bk off (h-l) (m-l)],[],0,c,path⟩
   | false=>some ⟨.val false [.sl bk (off+l*inf.size) (h-l) (m-l)],[],0,c,path⟩
  | _,_=>none
 | some (.val false [.sl bk off len cap]),some (.slice e)=>match LV len cap lo hi mx,P.info? e,lo with
  | some (l,h,m,c),some _,none=>some ⟨.val false [.sl bk off (h-l) (m-l)],[],0,c++[(Nat.beq l 0,true)],path⟩
  | some (l,h,m,c),some inf,some _=>match path with
   | true::rest=>some ⟨.val false [.sl bk off (h-l) (m-l)],[],0,c++[(Nat.beq m l,true)],rest⟩
   | false::rest=>some ⟨.val false [.sl bk (off+l*inf.size) (h-l) (m-l)],[],0,c++[(Nat.beq m l,false)],rest⟩
   | []=>none
  | _,_,_=>none
 | some (.val false [.sx bk len sz]),some (.slice e)=>match lo,P.info? e with
  | none,some _=>match hi,mx with
   | some _,none=>match LU len len hi with
    | some (h,c)=>some ⟨.val false [.sx bk h sz],[],0,c,path⟩
    | none=>none
   | some _,some _=>match LU len len mx with
    | some (m,c1)=>match LU len m hi with
     | some (h,c2)=>some ⟨.val false [.sl bk 0 h m],[],0,c1++c2,path⟩
     | none=>none
    | none=>none
   | _,_=>none
  | _,_=>none
 | some (.val false [.v (.slice none 0 0)]),some (.slice e)=>match lo,mx,P.info? e with
  | none,none,some _=>match hi with
   | some _=>match LU 0 0 hi with
    | some (_,c)=>some ⟨.val false [.v (.slice none 0 0)],[],0,c,path⟩
    | none=>none
   | none=>none
  | _,_,_=>none
 | _,_=>none
theorem Y0 {β:Env} {d top y:Nat} {x:Option AV} {v:Option Value} {c:dr} (hv:DY β (some x) v) (h:LU d top (some x)=some (y,c)) (hc:AM c):∃ k i,v=some (.int k i)∧0≤i∧i≤top∧y=i.toNat:=by
 rcases IT hv h hc with ⟨rfl,_⟩ | h
 ·simp [DY] at hv
 ·exact h
theorem AML {t:TypeId} {x:Option AV} {u:Value} {lo hi mx:Option (Option AV)} {vl vh vm:Option Value} {path:List Bool} {r:R} (g:Good β H w) (hx:∀ A,x=some A→AL β A u)
  (rl:DY β lo vl) (rh:DY β hi vh) (rm:DY β mx vm) (h:k8 P t x lo hi mx path=some r) (hc:AM r.conds) (fr:Nat) :
  ∃ z,(Instr.sliceAt t u vl vh vm).run P w=.ok z w∧Eff β fr r w z w β:=by
 unfold k8 at h;split at h
 ·rename_i bk off n e hu;split at h
  ·rename_i l hh m c inf hb hinf;obtain ⟨B,nn,e1,e2⟩:=Aw (hx _ rfl)
   injection e2 with e2 _;subst e2;split at h
   ·rename_i hm;injection h with h;subst h;have hr:=SL (P:=P) (w:=w) false rl rh rm hb hc
    refine ⟨_,?_,Eff.pure_ g (Aq (.inl ⟨B,nn,e1,rfl⟩))⟩
    simp [Instr.sliceAt,run_underlying hu,Instr.sureAddr,hr,sizeOf,typeInfo,hinf,An.1 hm]
   ·rename_i hm;injection h with h;subst h;have hr:=SL (P:=P) (w:=w) false rl rh rm hb hc
    refine ⟨_,?_,Eff.pure_ g (Aq (.inl ⟨B,nn,e1,rfl⟩))⟩
    simp [Instr.sliceAt,run_underlying hu,Instr.sureAddr,hr,sizeOf,typeInfo,hinf,IR hm,Addr.add_lit,Nat.add_assoc]
  ·cases h
 ·rename_i bk off len cap e hu;rcases Aw (hx _ rfl) with ⟨B,nn,e1,e2⟩ | ⟨e1,z1,z2,z3,e2⟩ | ⟨e1,z1,z2,z3,a,M,e2⟩
  case inr.inl =>
   injection e2 with e2 _;subst e2;subst z1;subst z2;subst z3;have hs:(Instr.sliceAt t (.slice none 0 0) vl vh vm).run P w=(Instr.slice t (.slice none 0 0) vl vh vm).run P w:=by
    simp [Instr.sliceAt,run_underlying hu]
   rw [hs];have core:∀ (l hh m:Nat) (c:dr) (inf:TypeInfo),LV 0 0 lo hi mx=some (l,hh,m,c)→AM c→P.info? e=some inf→(Instr.slice t (.slice none 0 0) vl vh vm).run P w=.ok (.slice none 0 0) w∧l=0∧hh=0∧m=0:=by
    intro l hh m c inf hb o1 hinf;obtain ⟨rfl,rfl,rfl⟩:=ABC rl rh rm hb o1;have hr:=SL (P:=P) (w:=w) true rl rh rm hb o1
    exact ⟨by simp [Instr.slice,run_underlying hu,hr,sizeOf,typeInfo,hinf],rfl,rfl,rfl⟩
   split at h
   ·rename_i l hh m c inf _ _;have hinf:P.info? e=some inf:=by assumption
    injection h with h;subst h;obtain ⟨o1,o2⟩:=Bo.1 hc;obtain ⟨q,rfl,rfl,rfl⟩:=core _ _ _ _ _ (by assumption) o1 hinf
    exact ⟨_,q,Eff.pure_ g (Aq (.inr (.inl ⟨e1,rfl,rfl,rfl,rfl⟩)))⟩
   ·rename_i l hh m c inf lo' _ _;have hinf:P.info? e=some inf:=by assumption
    split at h
    ·injection h with h;subst h;obtain ⟨o1,o2⟩:=Bo.1 hc;obtain ⟨q,rfl,rfl,rfl⟩:=core _ _ _ _ _ (by assumption) o1 hinf
     exact ⟨_,q,Eff.pure_ g (Aq (.inr (.inl ⟨e1,rfl,rfl,rfl,rfl⟩)))⟩
    ·injection h with h;subst h;obtain ⟨o1,o2⟩:=Bo.1 hc;obtain ⟨q,rfl,rfl,rfl⟩:=core _ _ _ _ _ (by assumption) o1 hinf
     cases o2.1
    ·cases h
   ·cases h
  case inr.inr =>
   injection e2 with e2 _;subst e2;subst z1;subst z2;subst z3;have hs:(Instr.sliceAt t (.slice (some a) 0 M) vl vh vm).run P w=(Instr.slice t (.slice (some a) 0 M) vl vh vm).run P w:=by
    simp [Instr.sliceAt,run_underlying hu]
   rw [hs];have core:∀ (l hh m:Nat) (c:dr) (inf:TypeInfo),LV 0 0 lo hi mx=some (l,hh,m,c)→AM c→P.info? e=some inf→(∃ a' M',(Instr.slice t (.slice (some a) 0 M) vl vh vm).run P w=.ok (.slice (some a') 0 M') w)∧l=0∧hh=0∧m=0:=by
    intro l hh m c inf hb o1 hinf;obtain ⟨M',hr⟩:=AMK (P:=P) (w:=w) M rl rh rm hb o1
    obtain ⟨rfl,rfl,rfl⟩:=ABC rl rh rm hb o1;refine ⟨⟨(if M'=0 then a else a.add (0*inf.size)),M',?_⟩,rfl,rfl,rfl⟩
    by_cases hM:M'=0
    ·simp [Instr.slice,run_underlying hu,hr,sizeOf,typeInfo,hinf,hM]
    ·simp [Instr.slice,run_underlying hu,hr,sizeOf,typeInfo,hinf,hM]
   split at h
   ·rename_i l hh m c inf _ _;have hinf:P.info? e=some inf:=by assumption
    injection h with h;subst h;obtain ⟨o1,o2⟩:=Bo.1 hc;obtain ⟨⟨a',M',q⟩,rfl,rfl,rfl⟩:=core _ _ _ _ _ (by assumption) o1 hinf
    exact ⟨_,q,Eff.pure_ g (Aq (.inr (.inr ⟨e1,rfl,rfl,rfl,a',M',rfl⟩)))⟩
   ·rename_i l hh m c inf lo' _ _;have hinf:P.info? e=some inf:=by assumption
    split at h
    ·injection h with h;subst h;obtain ⟨o1,o2⟩:=Bo.1 hc;obtain ⟨⟨a',M',q⟩,rfl,rfl,rfl⟩:=core _ _ _ _ _ (by assumption) o1 hinf
     exact ⟨_,q,Eff.pure_ g (Aq (.inr (.inr ⟨e1,rfl,rfl,rfl,a',M',rfl⟩)))⟩
    ·injection h with h;subst h;obtain ⟨o1,o2⟩:=Bo.1 hc;obtain ⟨q,rfl,rfl,rfl⟩:=core _ _ _ _ _ (by assumption) o1 hinf
     cases o2.1
    ·cases h
   ·cases h
  injection e2 with e2 _;subst e2;split at h
  ·rename_i l hh m c inf _ _;have hinf:P.info? e=some inf:=by assumption
   injection h with h;subst h;obtain ⟨o1,o2⟩:=Bo.1 hc;have hr:=SL (P:=P) (w:=w) true rl rh rm (by assumption) o1
   have hl:=An.1 o2.1;subst hl;refine ⟨_,?_,Eff.pure_ g (Aq (.inl ⟨B,nn,e1,rfl⟩))⟩
   have hs:(Instr.sliceAt t (.slice (some ⟨B,nn.2+off,none⟩) len cap) vl vh vm).run P w=(Instr.slice t (.slice (some ⟨B,nn.2+off,none⟩) len cap) vl vh vm).run P w:=by
    simp [Instr.sliceAt,run_underlying hu]
   rw [hs];simp [Instr.slice,run_underlying hu,hr,sizeOf,typeInfo,hinf,Addr.add_lit,Nat.add_assoc]
  ·rename_i l hh m c inf lo' _ _;have hinf:P.info? e=some inf:=by assumption
   have hs:(Instr.sliceAt t (.slice (some ⟨B,nn.2+off,none⟩) len cap) vl vh vm).run P w=(Instr.slice t (.slice (some ⟨B,nn.2+off,none⟩) len cap) vl vh vm).run P w:=by
    simp [Instr.sliceAt,run_underlying hu]
   rw [hs];split at h
   ·injection h with h;subst h;obtain ⟨o1,o2⟩:=Bo.1 hc;have hr:=SL (P:=P) (w:=w) true rl rh rm (by assumption) o1
    refine ⟨_,?_,Eff.pure_ g (Aq (.inl ⟨B,nn,e1,rfl⟩))⟩
    simp [Instr.slice,run_underlying hu,hr,sizeOf,typeInfo,hinf,An.1 o2.1]
   ·injection h with h;subst h;obtain ⟨o1,o2⟩:=Bo.1 hc;have hr:=SL (P:=P) (w:=w) true rl rh rm (by assumption) o1
    refine ⟨_,?_,Eff.pure_ g (Aq (.inl ⟨B,nn,e1,rfl⟩))⟩
    simp [Instr.slice,run_underlying hu,hr,sizeOf,typeInfo,hinf,IR o2.1,Addr.add_lit,Nat.add_assoc]
   ·cases h
  ·cases h
 ·rename_i bk len sz e hu;have core:∀ (base:Option Addr) (cap hh m:Nat) (inf:TypeInfo),P.info? e=some inf→(base=none→cap=0)→(Instr.sliceBounds true len cap vl vh vm).run P w=.ok (0,hh,m) w →
    (Instr.sliceAt t (.slice base len cap) vl vh vm).run P w=.ok (.slice base hh m) w:=by
   intro base cap hh m inf hinf _ hr;have hs:(Instr.sliceAt t (.slice base len cap) vl vh vm).run P w=(Instr.slice t (.slice base len cap) vl vh vm).run P w:=by
    simp [Instr.sliceAt,run_underlying hu]
   rw [hs];cases base with
   | none=>simp [Instr.slice,run_underlying hu,hr,sizeOf,typeInfo,hinf]
   | some a =>
    simp [Instr.slice,run_underlying hu,hr,sizeOf,typeInfo,hinf]
    intro _;simp [Addr.add]
  split at h;case h_2=>cases h
  rename_i inf hinf;have hvl:vl=none:=by cases vl with | none=>rfl | some v=>simp [DY] at rl
  subst hvl;split at h
  ·rename_i hi';have hvm:vm=none:=by cases vm with | none=>rfl | some v=>simp [DY] at rm
   subst hvm;split at h;case h_2=>cases h
   rename_i y c hb;injection h with h;subst h;obtain ⟨k,i,rfl,h1,h2,rfl⟩:=Y0 rh hb hc;rcases Aw (hx _ rfl) with ⟨B,nn,cap,e1,e2,e3,e4⟩ | ⟨e1,rfl,e2⟩
   ·injection e2 with e2 _;subst e2;refine ⟨_,core _ cap i.toNat cap inf hinf (fun h=>by cases h) (P' true len cap 0 _ _ _ _ _ (.inl ⟨rfl,rfl⟩) (.inr ⟨k,i,rfl,h1,dl,rfl⟩) (.inl ⟨rfl,rfl⟩)),Eff.pure_ g (Aq (.inl ⟨B,nn,cap,e1,rfl,dl,e4⟩))⟩
   ·injection e2 with e2 _;subst e2;have hi0:i.toNat=0:=dl
    refine ⟨_,core _ 0 i.toNat 0 inf hinf (fun _=>rfl) (P' true 0 0 0 _ _ _ _ _ (.inl ⟨rfl,rfl⟩) (.inr ⟨k,i,rfl,h1,dl,rfl⟩) (.inl ⟨rfl,rfl⟩)),?_⟩
    rw [hi0];exact Eff.pure_ g (Aq (.inr ⟨e1,rfl,rfl⟩))
  ·rename_i hi' mx';split at h;case h_2=>cases h
   rename_i m c1 hb1;split at h;case h_2=>cases h
   rename_i y c2 hb2;injection h with h;subst h;obtain ⟨o1,o2⟩:=Bo.1 hc;obtain ⟨km,im,rfl,m1,m2,rfl⟩:=Y0 rm hb1 o1;obtain ⟨k,i,rfl,h1,h2,rfl⟩:=Y0 rh hb2 o2;rcases Aw (hx _ rfl) with ⟨B,nn,cap,e1,e2,e3,e4⟩ | ⟨e1,rfl,e2⟩
   ·injection e2 with e2 _;subst e2;refine ⟨_,core _ cap i.toNat im.toNat inf hinf (fun h=>by cases h) (P' true len cap 0 _ _ _ _ _ (.inr ⟨km,im,rfl,m1,dl,rfl⟩) (.inr ⟨k,i,rfl,h1,h2,rfl⟩) (.inl ⟨rfl,rfl⟩)),Eff.pure_ g (Aq (.inl ⟨B,(nn,0),e1,rfl⟩))⟩
   ·injection e2 with e2 _;subst e2;have hm0:im.toNat=0:=dl
    have hi0:i.toNat=0:=dl
    refine ⟨_,core _ 0 i.toNat im.toNat inf hinf (fun _=>rfl) (P' true 0 0 0 _ _ _ _ _ (.inr ⟨km,im,rfl,m1,dl,rfl⟩) (.inr ⟨k,i,rfl,h1,h2,rfl⟩) (.inl ⟨rfl,rfl⟩)),?_⟩
    rw [hm0,hi0];exact Eff.pure_ g (Aq (.inr (.inl ⟨e1,rfl,rfl,rfl,rfl⟩)))
  ·cases h
 ·rename_i e hu;split at h;case h_2=>cases h
  rename_i inf hinf;have hvl:vl=none:=by cases vl with | none=>rfl | some v=>simp [DY] at rl
  have hvm:vm=none:=by cases vm with | none=>rfl | some v=>simp [DY] at rm
  subst hvl;subst hvm;split at h;case h_2=>cases h
  split at h;case h_2=>cases h
  rename_i y c hb;injection h with h;subst h;obtain ⟨k,i,rfl,h1,h2,rfl⟩:=Y0 rh hb hc;have:=(Aw (hx _ rfl)).1
  injection this with e2 _;subst e2;have hi0:i.toNat=0:=dl
  refine ⟨.slice none 0 0,?_,Eff.pure_ g (Aq ⟨rfl,rfl,trivial⟩)⟩
  have hs:(Instr.sliceAt t (.slice none 0 0) none (some (.int k i)) none).run P w=(Instr.slice t (.slice none 0 0) none (some (.int k i)) none).run P w:=by
   simp [Instr.sliceAt,run_underlying hu]
  have hr:=P' (P:=P) (w:=w) true 0 0 0 i.toNat 0 none (some (.int k i)) none (.inl ⟨rfl,rfl⟩) (.inr ⟨k,i,rfl,h1,dl,rfl⟩) (.inl ⟨rfl,rfl⟩)
  rw [hi0] at hr;rw [hs];simp [Instr.slice,run_underlying hu,hr,sizeOf,typeInfo,hinf]
 ·cases h
def k9 (P:Program) (t:TypeId) (x:Option AV) (path:List Bool):Option R :=
 match x,P.underlying t with
 | some (.val false [.sl bk off len _]),some (.array n _)=>some ⟨.val false [.p bk off],[],0,[(Nat.ble n len&&!Nat.beq len 0,true)],path⟩
 | some (.val false [.sx bk len _]),some (.array n _)=>some ⟨.val false [.p bk 0],[],0,[(Nat.ble n len&&!Nat.beq len 0,true)],path⟩
 | _,_=>none
theorem AMM {t:TypeId} {x:Option AV} {u:Value} {path:List Bool} {r:R} (g:Good β H w) (hx:∀ A,x=some A→AL β A u) (h:k9 P t x path=some r) (hc:AM r.conds) (fr:Nat) :
  ∃ z,(Instr.arrayAt t u).run P w=.ok z w∧Eff β fr r w z w β:=by
 unfold k9 at h;split at h
 ·rename_i bk off len cap n e hu;injection h with h;subst h;have hc1:=hc.1;simp only [gi,Bool.not_eq_true'] at hc1;have hle:=f_ hc1.1;have hz:=IR hc1.2;rcases Aw (hx _ rfl) with ⟨B,nn,e1,e2⟩ | ⟨_,_,e2,_⟩ | ⟨_,_,e2,_⟩
  ·injection e2 with e2 _;subst e2;refine ⟨_,?_,Eff.pure_ g (Aq ⟨B,nn,e1,rfl⟩)⟩
   simp [Instr.arrayAt,run_underlying hu,show ¬ len<n by omega]
  ·exact absurd e2 hz
  ·exact absurd e2 hz
 ·rename_i bk len sz n e hu;injection h with h;subst h;have h1:=hc.1;simp only [gi,Bool.not_eq_true'] at h1;have hle:=f_ h1.1;have hz:=IR h1.2;rcases Aw (hx _ rfl) with ⟨B,nn,cap,e1,e2,_⟩ | ⟨_,e2,_⟩
  ·injection e2 with e2 _;subst e2;refine ⟨_,?_,Eff.pure_ g (Aq ⟨B,(nn,0),e1,rfl⟩)⟩
   simp [Instr.arrayAt,run_underlying hu,show ¬ len<n by omega]
  ·exact absurd e2 hz
 ·cases h
theorem AMN (v:List Value):∀ (cells:List Value) (off:Nat) (j:Nat),off+j+v.length≤cells.length →
  (v.zipIdx j).foldl (fun (cs:Array Value) (x:Value×Nat)=>cs.setIfInBounds (off+x.2) x.1) ⟨cells⟩=⟨cells.take (off+j)++v++cells.drop (off+j+v.length)⟩:=by
 induction v with
 | nil=>intro cells off j _;simp
 | cons x v ih =>
  intro cells off j h;simp only [List.zipIdx_cons,List.foldl_cons];have hlt:off+j<cells.length:=by simp at h;omega
  have e:(⟨cells⟩:Array Value).setIfInBounds (off+j) x=⟨cells.set (off+j) x⟩:=by
   apply jq;simp
  rw [e,ih _ off (j+1) (by simp at h ⊢;omega)]
  congr 1
  have:=list_seg_step cells (off+j) x v (by simp at h;omega)
  simpa [Nat.add_assoc] using this
def QA (τ:Nat→AV) (place:Nat→Option (Nat×Nat)) (zs:List Ch):List (Nat×Operand)→Option (List Ch)
 | []=>some zs
 | (i,x)::rest=>match place i,Br τ x with
  | some (off,size),some (.val _ cs)=>match Nat.beq (LL cs) size,Vj zs off size cs with
   | true,some zs'=>QA τ place zs' rest
   | _,_=>none
  | _,_=>none
theorem Y1 {τ:Nat→AV} {a:Act} (ht:∀ t,AL β (τ t) (a.tmps.getD t undef)) {place:Nat→Option (Nat×Nat)}:∀ {parts:List (Nat×Operand)} {zs cs:List Ch} {l:List Value},QA τ place zs parts=some cs→AO β zs l →
  ∃ l',Instr.fill place ⟨l⟩ (parts.map fun (i,x)=>(i,a.eval x))=some ⟨l'⟩∧AO β cs l'
 | [],zs,cs,l,h,hl=>by
  simp only [QA,gq] at h;subst h;exact ⟨l,rfl,hl⟩
 | (i,x)::rest,zs,cs,l,h,hl=>by
  simp only [QA] at h;split at h
  ·rename_i off size gg c hp hx;split at h
   ·rename_i zs' hz hs;have hr:=SH (IS ht hx)
    obtain ⟨r1,r2⟩:=kD hs hl hr;obtain ⟨l',h1,h2⟩:=Y1 ht h r1;refine ⟨l',?_,h2⟩
    have hlen:(a.eval x).cells.size=size:=by
     have:=SA hr
     rw [An.1 hz] at this;simpa using this
    simp only [i_,Instr.fill,hp,hlen];rw [fv (by simp;omega)]
    have e:Array.foldl (fun (cs:Array Value) (x:Value×Nat)=>cs.setIfInBounds (off+x.2) x.1) ⟨l⟩ (a.eval x).cells.zipIdx=⟨l.take off++(a.eval x).cells.toList++l.drop (off+size)⟩:=by
     rw [← Array.foldl_toList,Array.toList_zipIdx,AMN _ l off 0 (by rw [ri,hlen];omega)]
     simp [hlen]
    rw [← h1];congr 1
   ·cases h
  ·cases h
def lB (P:Program) (τ:Nat→AV) (t:TypeId) (parts:List (Nat×Operand)) (path:List Bool):Option R :=
 match P.underlying t,P.info? t with
 | some (.struct fs),some i=>match i.zero with
  | some z=>match P8 z with
   | some (.val _ zs)=>match QA τ (fun j=>match fs[j]? with | some f=>some (f.offset,P.cellsOf f.type) | none=>none) zs parts,fs.all fun f=>(P.info? f.type).isSome with
    | some cs,true=>some (CA (.val true cs) path)
    | _,_=>none
   | _=>none
  | none=>none
 | some (.array _ e),some i=>match i.zero,P.info? e with
  | some z,some inf=>match P8 z with
   | some (.val _ zs)=>match QA τ (fun j=>some (j*inf.size,inf.size)) zs parts with
    | some cs=>some (CA (.val true cs) path)
    | none=>none
   | _=>none
  | _,_=>none
 | _,_=>none
theorem AMO (fs:Array Field) (h:(fs.all fun f=>(P.info? f.type).isSome)=true) (w:World) :
  (fs.mapM (m:=Sem) fun f=>do pure (f.offset,← sizeOf f.type)).run P w=.ok (fs.map fun f=>(f.offset,P.cellsOf f.type)) w:=by
 have hall0:=Array.all_eq_true_iff_forall_mem.1 h;obtain ⟨l⟩:=fs;rw [Array.mapM_eq_mapM_toList];have hall:∀ f∈l,(P.info? f.type).isSome=true:=fun f hf=>hall0 f (by simpa using hf)
 have key:∀ l:List Field,(∀ f∈l,(P.info? f.type).isSome=true)→(l.mapM (m:=Sem) fun f=>do pure (f.offset,← sizeOf f.type)).run P w=.ok (l.map fun f=>(f.offset,P.cellsOf f.type)) w:=by
  intro l;induction l with
  | nil=>intro _;simp
  | cons f l ih =>
   intro hl;obtain ⟨i,hi⟩:=jd.1 (hl f (by simp))
   simp only [List.mapM_cons,Sem.run_bind,run_sizeOf w hi,Result.andThen_ok,Sem.run_pure,ih (fun g hg=>hl g (by simp [hg])),i_]
 simp only [Sem.run_map,key l hall];simp
theorem AMP {τ:Nat→AV} {a:Act} (ht:∀ t,AL β (τ t) (a.tmps.getD t undef)) {t:TypeId} {parts:Array (Nat×Operand)} {path:List Bool} {r:R} (g:Good β H w)
  (h:lB P τ t parts.toList path=some r) (fr:Nat):∃ z,(Instr.build t (parts.map fun (i,x)=>(i,a.eval x))).run P w=.ok z w∧Eff β fr r w z w β:=by
 unfold lB at h;split at h
 ·rename_i fs i hu hi;split at h
  ·rename_i z hz;split at h
   ·rename_i gg zs hc;split at h
    ·rename_i cs hf hall;injection h with h;subst h;have hr:=SH (Yt (β:=β) hc)
     obtain ⟨l',h1,h2⟩:=Y1 ht hf hr;refine ⟨.agg ⟨l'⟩,?_,Eff.pure_ g ⟨l',h2,rfl⟩⟩
     have hp:=AMO (P:=P) fs hall w
     simp only [Instr.build,Sem.run_bind,zeroValue,typeInfo,run_program,Result.andThen_ok,hi,Sem.run_pure,hz,run_underlying hu,hp];have e:(fun (j:Nat)=>(fs.map fun (f:Field)=>(f.offset,P.cellsOf f.type))[j]?)=(fun j=>match fs[j]? with | some f=>some (f.offset,P.cellsOf f.type) | none=>none):=by
      funext j
      simp only [Array.getElem?_map];cases fs[j]?<;>rfl
     simp only [n_,e,h1];rfl
    ·cases h
   ·cases h
  ·cases h
 ·rename_i n e i hu hi;split at h
  ·rename_i z inf hz hinf;split at h
   ·rename_i gg zs hc;split at h
    ·rename_i cs hf;injection h with h;subst h;have hr:=SH (Yt (β:=β) hc)
     obtain ⟨l',h1,h2⟩:=Y1 ht hf hr;refine ⟨.agg ⟨l'⟩,?_,Eff.pure_ g ⟨l',h2,rfl⟩⟩
     simp only [Instr.build,Sem.run_bind,zeroValue,typeInfo,run_program,Result.andThen_ok,hi,Sem.run_pure,hz,run_underlying hu,sizeOf,hinf];simp only [n_,h1];rfl
    ·cases h
   ·cases h
  ·cases h
 ·cases h
def OL (z:Value) (n:Nat):List Value:=match n with
 | 0=>[]
 | n+1=>(List.range (n+1)).map (z.cells[· % z.cells.size]!)
theorem AMQ (z:Value) (n:Nat):((Array.range n).map fun j=>(if n=0 then #[] else z.cells)[j % (if n=0 then #[] else z.cells).size]!)=⟨OL z n⟩:=by
 cases n with
 | zero=>simp [OL]
 | succ n=>apply jq;simp [OL]
def lC (P:Program) (τ:Nat→AV) (t:TypeId) (len:Nat) (parts:List (Nat×Operand)) (fr:Nat) (path:List Bool):Option R :=
 match P.underlying t with
 | some (.slice e)=>match P.info? e with
  | some inf=>match Nat.ble (len*inf.size) 16777216,inf.zero with
   | true,some z=>match Ml (OL z (len*inf.size)) with
    | some zs=>match QA τ (fun j=>some (j*inf.size,inf.size)) zs parts with
     | some cs=>some ⟨.val false [.sl fr 0 len len],[(fr,some ⟨e,cs,false⟩)],1,[],path⟩
     | none=>none
    | none=>none
   | _,_=>none
  | none=>none
 | _=>none
theorem AMR {τ:Nat→AV} {a:Act} (ht:∀ t,AL β (τ t) (a.tmps.getD t undef)) {t:TypeId} {len fr:Nat} {parts:Array (Nat×Operand)} {path:List Bool} {r:R} (g:Good β H w)
  (h:lC P τ t len parts.toList fr path=some r) (hf:∀ b,fr≤b→b<fr+r.nw→β b=none) :
  ∃ z w' β',(Instr.buildSlice t len (parts.map fun (i,x)=>(i,a.eval x))).run P w=.ok z w'∧Eff β fr r w z w' β':=by
 unfold lC at h;split at h
 ·rename_i e hu;split at h
  ·rename_i inf hinf;split at h
   ·rename_i z hb hz;split at h
    ·rename_i zs hzs;split at h
     ·rename_i cs hfl;injection h with h;subst h;have hr:=SG (β:=β) hzs
      obtain ⟨l',h1,h2⟩:=Y1 ht hfl hr;refine ⟨_,_,_,?_,Eff.new_ g (hf fr (gd _) (by simp)) h2 rfl (Aq (.inl ⟨w.heap.size,(l'.length,0),Env.put_same ..,rfl⟩))⟩
      have hle:=f_ hb;have hz0:=AMQ z (len*inf.size)
      simp only [Instr.buildSlice,Sem.run_bind,run_underlying hu,Result.andThen_ok,sizeOf,typeInfo,run_program,hinf,Sem.run_pure];rw [fv (show ¬ (len*inf.size > 2^24) by omega)]
      by_cases hn:len*inf.size=0
      ·rw [fw hn];simp only [fw hn] at hz0;simp only [Sem.run_bind,Sem.run_pure,Result.andThen_ok];rw [hz0];simp only [n_,h1];simp [newRow]
      ·rw [fv hn];simp only [fv hn] at hz0;simp only [Sem.run_bind,Sem.run_pure,Result.andThen_ok,zeroValue,typeInfo,run_program,hinf,hz];rw [hz0];simp only [n_,h1];simp [newRow]
     ·cases h
    ·cases h
   ·cases h
  ·cases h
 ·cases h
end
section
variable {P:Program} {β:Env} {H:Heap} {w:World}
def lD (P:Program) (src dst:TypeId) (x:Option AV) (path:List Bool):Option R :=
 match P.underlying src,P.underlying dst,Bg x with
 | some _,some (.int k),some (c,_,i)=>some (CA (OJ c k (AU c k i)) path)
 | _,_,_=>none
theorem AMS {src dst:TypeId} {x:Option AV} {u:Value} {path:List Bool} {r:R} (g:Good β H w) (hx:∀ A,x=some A→AL β A u) (h:lD P src dst x path=some r) (fr:Nat) :
  ∃ v,(convert src dst u).run P w=.ok v w∧Eff β fr r w v w β:=by
 unfold lD at h;split at h
 ·rename_i d k c k' i hs hd ha;injection h with h;subst h;obtain ⟨rfl,_⟩:=Cy hx ha;rw [C7];refine ⟨.int k (k.wrap i),?_,Eff.pure_ g (OK c (J6 _ _))⟩
  simp [convert,run_underlying hs,run_underlying hd,Conv.intToInt]
 ·cases h
def lE (op:UnOp) (x:Option AV) (path:List Bool):Option R :=
 match op with
 | .not=>match E8 x with
  | some (true,y)=>some (CA (.val false [.b (match y with | true=>false | false=>true)]) path)
  | some (false,y)=>some (CA (.val false [.v (.bool (!y))]) path)
  | none=>none
 | .neg=>match Bg x with
  | some (c,k,i)=>some (CA (OJ c k (AU c k (0-i))) path)
  | none=>none
 | .xor=>match Bg x with
  | some (c,k,i)=>some (CA (OJ c k (bits .xor k (match k.signed with | true=>-1 | false=>k.max) i)) path)
  | none=>none
 | _=>none
theorem AMT {op:UnOp} {x:Option AV} {u:Value} {path:List Bool} {r:R} (g:Good β H w) (hx:∀ A,x=some A→AL β A u) (h:lE op x path=some r) (fr:Nat) :
  ∃ v,(Op.unary op u).run P w=.ok v w∧Eff β fr r w v w β:=by
 unfold lE at h;split at h
 ·split at h
  ·rename_i y ha;injection h with h;subst h;have:=J7 hx ha
   subst this;refine ⟨.bool !y,rfl,Eff.pure_ g ?_⟩
   cases y<;>exact Aq rfl
  ·rename_i y ha;injection h with h;subst h;have:=J7 hx ha
   subst this;exact ⟨.bool !y,rfl,Eff.pure_ g (Aq ⟨rfl,rfl,trivial⟩)⟩
  ·cases h
 ·split at h
  ·rename_i c k i ha;injection h with h;subst h;obtain ⟨rfl,_⟩:=Cy hx ha;rw [C7];exact ⟨.int k (k.wrap (0-i)),rfl,Eff.pure_ g (OK c (J6 _ _))⟩
  ·cases h
 ·split at h
  ·rename_i c k i ha;injection h with h;subst h;obtain ⟨rfl,_⟩:=Cy hx ha;refine ⟨.int k (bits .xor k (match k.signed with | true=>-1 | false=>k.max) i),?_,Eff.pure_ g (OK c (J6 _ _))⟩
   have e:(match k.signed with | true=>(-1:Int) | false=>k.max)=(if k.signed then -1 else k.max):=by cases k.signed<;>rfl
   rw [e];show (Op.intBits BinOp.xor k (if k.signed then -1 else k.max) i).run P w=_
   rw [intBits_xor];rfl
  ·cases h
 ·cases h
theorem AMU (kd:IntKind) (n:Nat):(madeCells #[.int kd 0] n).toList=(List.replicate n (0:Int)).map (Value.int kd):=by
 unfold madeCells;rw [List.map_replicate];apply og
 ·simp
 ·intro i h1 h2;simp [Nat.mod_one]
theorem AMV (z:Value) (n:Nat):(madeCells z.cells n).toList=OL z n:=by
 unfold madeCells OL;cases n<;>simp
def lF (P:Program) (t:TypeId) (x y:Option AV) (fr:Nat) (path:List Bool):Option R :=
 match P.underlying t,Bg x,Bg y with
 | some (.slice e),some (_,_,l),some (c,_,m)=>match P.info? e with
  | some inf=>match inf.zero with
   | some (.int kd z)=>match decide (z=0),Nat.beq inf.size 1 with
    | true,true=>some ⟨.val false [.sl fr 0 l.toNat m.toNat],[(fr,some ⟨e,[.seq kd (List.replicate m.toNat 0)],false⟩)],1,[(decide (0≤l∧l≤m∧inf.bytes*m≤281474976710656∧m≤9223372036854775807),true)],path⟩
    | _,_=>none
   | some z=>match c with
    | true=>match Ml (OL z (m.toNat*inf.size)) with
     | some zs=>some ⟨.val false [.sl fr 0 l.toNat m.toNat],[(fr,some ⟨e,zs,false⟩)],1,[(decide (0≤l∧l≤m∧inf.bytes*m≤281474976710656∧m≤9223372036854775807),true)],path⟩
     | none=>none
    | false=>none
   | none=>none
  | none=>none
 | _,_,_=>none
theorem AMW {t fr:Nat} {x y:Option AV} {u v:Value} {path:List Bool} {r:R} (g:Good β H w) (hx:∀ A,x=some A→AL β A u) (hy:∀ A,y=some A→AL β A v)
  (h:lF P t x y fr path=some r) (hc:AM r.conds) (hf:∀ b,fr≤b→b<fr+r.nw→β b=none) :
  ∃ z w' β',(Instr.makeSlice t u v).run P w=.ok z w'∧Eff β fr r w z w' β':=by
 unfold lF at h;split at h
 ·rename_i e c1 k1 l c k2 m hu ha hb;obtain ⟨rfl,_⟩:=Cy hx ha;obtain ⟨rfl,_⟩:=Cy hy hb;split at h
  ·rename_i inf hi;split at h
   ·rename_i kd z hz;split at h
    ·rename_i hz0 hs1;injection h with h;subst h;have hcc:=hc.1;simp only [gc] at hcc;have hz0':z=0:=by simpa using hz0
     subst hz0';have hs:=An.1 hs1;have hrun:=run_make (P:=P) w t e inf _ hu hi hz k1 k2 l m hcc.1 hcc.2.1 hcc.2.2.1 hcc.2.2.2
     have hcells:(madeCells (Value.int kd 0).cells (m.toNat*inf.size))=⟨(List.replicate m.toNat (0:Int)).map (Value.int kd)⟩:=by
      apply jq
      rw [hs,g_];exact AMU kd m.toNat
     rw [hcells] at hrun;refine ⟨_,_,_,hrun,Eff.new_ g (hf fr (gd _) (by simp)) (cs:=[.seq kd (List.replicate m.toNat 0)]) ?_ rfl (Aq (.inl ⟨w.heap.size,(_,0),Env.put_same ..,rfl⟩))⟩
     refine ⟨_,[],⟨rfl,fun x hx=>?_⟩,rfl,by simp⟩
     rw [List.eq_of_mem_replicate hx,E7];cases kd<;>decide
    ·cases h
   ·rename_i z _ _;have hz:inf.zero=some z:=by assumption
    split at h
    ·split at h
     ·rename_i zs hzs;injection h with h;subst h;have hcc:=hc.1;simp only [gc] at hcc;have hrun:=run_make (P:=P) w t e inf _ hu hi hz k1 k2 l m hcc.1 hcc.2.1 hcc.2.2.1 hcc.2.2.2
      have hcells:madeCells z.cells (m.toNat*inf.size)=⟨OL z (m.toNat*inf.size)⟩:=by
       apply jq;exact AMV z _
      rw [hcells] at hrun;exact ⟨_,_,_,hrun,Eff.new_ g (hf fr (gd _) (by simp)) (SG hzs) rfl (Aq (.inl ⟨w.heap.size,(_,0),Env.put_same ..,rfl⟩))⟩
     ·cases h
    ·cases h
   ·cases h
  ·cases h
 ·cases h
def lG (P:Program) (t:TypeId) (x:Option AV) (path:List Bool):Option R :=
 match P.underlying t,x with
 | some (.array n _),_=>match AJ .i64 n with
  | true=>some (CA (.val false [.n .i64 n]) path)
  | false=>none
 | some (.slice _),some (.val false [.sl _ _ len _])=>some ⟨.val false [.v (.int .i64 len)],[],0,[(AJ .i64 len,true)],path⟩
 | some (.slice _),some (.val false [.sx _ len _])=>some ⟨.val false [.v (.int .i64 len)],[],0,[(AJ .i64 len,true)],path⟩
 | some (.slice _),some (.val false [.v (.slice _ len _)])=>some ⟨.val false [.v (.int .i64 len)],[],0,[(AJ .i64 len,true)],path⟩
 | _,_=>none
theorem AMX {t ty:TypeId} {x:Option AV} {u:Value} {path:List Bool} {r:R} (g:Good β H w) (hx:∀ A,x=some A→AL β A u) (h:lG P t x path=some r) (hc:AM r.conds) (fr:Nat) :
  ∃ v,(Builtin.len_ #[t] ty #[u]).run P w=.ok v w∧Eff β fr r w v w β:=by
 unfold lG at h;split at h
 ·rename_i _ n e hu;split at h
  ·rename_i hh;injection h with h;subst h;refine ⟨.int .i64 n,?_,Eff.pure_ g (Aq ⟨rfl,(E7 _ _).2 hh⟩)⟩
   simp [Builtin.len_,run_underlying hu,goInt]
  ·cases h
 ·rename_i e bk off len cap hu;injection h with h;subst h;refine ⟨.int .i64 len,?_,Eff.pure_ g (Aq ⟨rfl,rfl,(E7 _ _).2 hc.1⟩)⟩
  rcases Aw (hx _ rfl) with ⟨B,n,e1,e2⟩ | ⟨_,_,rfl,_,e2⟩ | ⟨_,_,rfl,_,_,_,e2⟩
  ·injection e2 with e2 _;subst e2;simp [Builtin.len_,run_underlying hu,goInt]
  ·injection e2 with e2 _;subst e2;simp [Builtin.len_,run_underlying hu,goInt]
  ·injection e2 with e2 _;subst e2;simp [Builtin.len_,run_underlying hu,goInt]
 ·rename_i e bk len sz hu;injection h with h;subst h;refine ⟨.int .i64 len,?_,Eff.pure_ g (Aq ⟨rfl,rfl,(E7 _ _).2 hc.1⟩)⟩
  rcases Aw (hx _ rfl) with ⟨B,n,cap,e1,e2,_⟩ | ⟨_,rfl,e2⟩
  ·injection e2 with e2 _;subst e2;simp [Builtin.len_,run_underlying hu,goInt]
  ·injection e2 with e2 _;subst e2;simp [Builtin.len_,run_underlying hu,goInt]
 ·rename_i e A len cap hu;injection h with h;subst h;have:=(Aw (hx _ rfl)).1
  injection this with e2 _;subst e2;refine ⟨.int .i64 len,?_,Eff.pure_ g (Aq ⟨rfl,rfl,(E7 _ _).2 hc.1⟩)⟩
  simp [Builtin.len_,run_underlying hu,goInt]
 ·cases h
def Y2 (big:Bool) (x y:Option AV) (path:List Bool):Option R :=
 match Bg x,Bg y with
 | some (c,k,i),some (c',k',j)=>match decide (k=k') with
  | true=>match big with
   | true=>some (CA (OJ (c&&c') k (if j > i then j else i)) path)
   | false=>some (CA (OJ (c&&c') k (if j<i then j else i)) path)
  | false=>none
 | _,_=>none
theorem ABD {ts:Array TypeId} {ty:TypeId} {big:Bool} {x y:Option AV} {u v:Value} {path:List Bool} {r:R} (g:Good β H w) (hx:∀ A,x=some A→AL β A u) (hy:∀ A,y=some A→AL β A v)
  (h:Y2 big x y path=some r) (fr:Nat) :
  ∃ z,(match big with | true=>Builtin.max_ ts ty #[u,v] | false=>Builtin.min_ ts ty #[u,v]).run P w=.ok z w∧Eff β fr r w z w β:=by
 unfold Y2 at h;split at h
 ·rename_i c k i c' k' j ha hb;obtain ⟨rfl,h1⟩:=Cy hx ha;obtain ⟨rfl,h2⟩:=Cy hy hb;split at h
  ·rename_i hk;have hk':k=k':=by simpa using hk
   subst hk';split at h
   ·injection h with h;subst h;exact ⟨_,run_max_int2 w ts ty k k i j,Eff.pure_ g (OK _ (by split<;>assumption))⟩
   ·injection h with h;subst h;exact ⟨_,run_min_int2 w ts ty k k i j,Eff.pure_ g (OK _ (by split<;>assumption))⟩
  ·cases h
 ·cases h
def OM (H:Heap) (size:Nat) (x:Option AV) (n:Nat):Option (List Ch×dr) :=
 match x with
 | some (.val false [.v (.slice none _ _)])=>some ([],[(Nat.beq n 0,true)])
 | some (.val false [.sl bk off _ _])=>match LO H bk with
  | some blk=>match blk.cs with
   | [.seq kd xs]=>match Nat.beq size 1 with
    | true=>some ([.seq kd ((xs.drop off).take n)],[(Nat.ble (off+n) xs.length,true)])
    | false=>none
   | cs=>match LN cs off (n*size) with
    | some m=>some (m,[])
    | none=>none
  | none=>none
 | some (.val false [.sx bk _ _])=>match LO H bk with
  | some blk=>match blk.cs with
   | [.seq kd xs]=>match Nat.beq size 1 with
    | true=>some ([.seq kd (xs.take n)],[(Nat.ble n xs.length,true)])
    | false=>none
   | cs=>match LN cs 0 (n*size) with
    | some m=>some (m,[])
    | none=>none
  | none=>none
 | some (.val false [.v (.string s)])=>match Nat.beq size 1 with
  | true=>some ([.seq .u8 ((s.data.toList.take n).map fun b=>(b.toNat:Int))],[(Nat.ble n s.size,true)])
  | false=>none
 | _=>none
theorem lH {xs:dp} {kd:IntKind} {l:List Value} (h:AO β [.seq kd xs] l):l=xs.map (.int kd)∧∀ x∈xs,has kd x:=by
 obtain ⟨l1,l2,h1,h2,h3⟩:=h;simp only [AO] at h2;subst h2;rw [h3,iq];exact h1
theorem ON {xs:dp} {kd:IntKind} (h:∀ x∈xs,has kd x):AO β [.seq kd xs] (xs.map (.int kd)):=⟨_,[],⟨rfl,h⟩,rfl,by simp⟩
theorem ABE {B off k:Nat} {l t' pre:List Value} {ty:TypeId} {fz:Nat×Nat} (ho:w.heap[B]? = some (.cells ⟨pre++(l++t')⟩ ty fz)) (hfit:off+k≤l.length) :
  (loadCells ⟨B,pre.length+off,none⟩ k).run P w=.ok ⟨(l.drop off).take k⟩ w:=by
 have hlen:((l.drop off).take k).length=k:=by simp;omega
 have:=run_loadCells_list (P:=P) w ⟨B,pre.length+off,none⟩ ((l.drop off).take k) (fun j v hj=>by
  rw [Addr.add_lit,jx];have hjl:j<((l.drop off).take k).length:=by
   rcases gt j ((l.drop off).take k).length with h' | h'
   ·exact h'
   ·rw [jw h'] at hj;cases hj
  rw [rf,fw dl,nu] at hj;rw [Vn ho dl,← hj,kn])
 rw [hlen] at this;exact this
theorem ABF {l t' pre:List Value} {off k:Nat} (hfit:off+k≤l.length):pre.length+off+k≤(pre++(l++t')).length∧(l.drop off).take k=((pre++(l++t')).drop (pre.length+off)).take k:=by
 refine ⟨by simp;omega,?_⟩
 rw [← ki,List.drop_left,qe dl,qf (by simp;omega)]
def ABG (β:Env) (x:Option AV):Prop:=∀ bk off len cap,x=some (.val false [.sl bk off len cap])→β bk≠some .emp
theorem Vs {size n:Nat} {x:Option AV} {u:Value} {cs:List Ch} {c:dr} (g:Good β H w) (hx:∀ A,x=some A→AL β A u) (h:OM H size x n=some (cs,c)) (hc:AM c) :
  ∃ l,(∀ w',w'.heap=w.heap→(Builtin.firstCells size n u).run P w'=.ok ⟨l⟩ w')∧AO β cs l∧l.length=n*size ∧
   (ABG β x→∀ B off len cap cur e fz,u=.slice (some ⟨B,off,none⟩) len cap→w.heap[B]? = some (.cells ⟨cur⟩ e fz)→off+n*size≤cur.length∧l=(cur.drop off).take (n*size)):=by
 have rng:∀ {bk off:Nat} {blk:Blk} {B:Nat} {nn:Nat×Nat} {len cap:Nat} {m:List Ch},LO H bk=some blk→β bk=some (.at_ B nn)→LN blk.cs off (n*size)=some m →
   ∃ l,(∀ w',w'.heap=w.heap→(Builtin.firstCells size n (.slice (some ⟨B,nn.2+off,none⟩) len cap)).run P w'=.ok ⟨l⟩ w')∧AO β m l∧l.length=n*size ∧
    (∀ B' off' len' cap' cur e fz,Value.slice (some ⟨B,nn.2+off,none⟩) len cap=.slice (some ⟨B',off',none⟩) len' cap'→w.heap[B']? = some (.cells ⟨cur⟩ e fz)→off'+n*size≤cur.length∧l=(cur.drop off').take (n*size)):=by
  intro bk off blk B nn len cap m hb e1 hm;rcases g.cells hb with ⟨B',n',l,t',pre,ty',fz',e4,e2,e3,e0,_⟩ | ⟨X,e4,e2,_⟩
  ·rw [e1] at e4;injection e4 with e4;injection e4 with e4 e5;subst e4;subst e5;obtain ⟨h1,h2⟩:=SF hm e2;rw [← e0];refine ⟨_,fun w' hw=>by simpa [Builtin.firstCells] using ABE (P:=P) (w:=w') (by rw [hw];exact e3) h2,h1,by simp;omega,?_⟩
   intro B' off' len' cap' cur e fz hu hh;injection hu with hu _;injection hu with hu;injection hu with hu1 hu2;subst hu1;subst hu2;rw [e3] at hh;injection hh with hh;injection hh with hh;injection hh with hh;subst hh;exact ABF h2
  ·rw [e1] at e4;injection e4 with e4;subst e4;exact e2.elim
 have sq:∀ {bk off:Nat} {blk:Blk} {B:Nat} {nn:Nat×Nat} {len cap:Nat} {kd:IntKind} {xs:dp},LO H bk=some blk→β bk=some (.at_ B nn)→blk.cs=[.seq kd xs]→size=1→off+n≤xs.length →
   ∃ l,(∀ w',w'.heap=w.heap→(Builtin.firstCells size n (.slice (some ⟨B,nn.2+off,none⟩) len cap)).run P w'=.ok ⟨l⟩ w')∧AO β [.seq kd ((xs.drop off).take n)] l∧l.length=n*size ∧
    (∀ B' off' len' cap' cur e fz,Value.slice (some ⟨B,nn.2+off,none⟩) len cap=.slice (some ⟨B',off',none⟩) len' cap'→w.heap[B']? = some (.cells ⟨cur⟩ e fz)→off'+n*size≤cur.length∧l=(cur.drop off').take (n*size)):=by
  intro bk off blk B nn len cap kd xs hb e1 hcs hsz hle;rcases g.cells hb with ⟨B',n',l,t',pre,ty',fz',e4,e2,e3,e0,_⟩ | ⟨X,e4,e2,_⟩
  ·rw [e1] at e4;injection e4 with e4;injection e4 with e4 e5;subst e4;subst e5;rw [hcs] at e2;obtain ⟨rfl,hall⟩:=lH e2;rw [← e0];have hfit:off+n*size≤(xs.map (Value.int kd)).length:=by simp [hsz];omega
   have e9:((xs.map (Value.int kd)).drop off).take (n*size)=((xs.drop off).take n).map (.int kd):=by rw [hsz,g_,oh,pn]
   refine ⟨(((xs.drop off).take n).map (.int kd)),fun w' hw=>?_,ON (fun x hx=>hall x (lj (me hx))),by simp [hsz];omega,?_⟩
   ·have:=ABE (P:=P) (w:=w') (by rw [hw];exact e3) hfit
    rw [e9] at this;simpa [Builtin.firstCells] using this
   ·intro B' off' len' cap' cur e fz hu hh;injection hu with hu _;injection hu with hu;injection hu with hu1 hu2;subst hu1;subst hu2;rw [e3] at hh;injection hh with hh;injection hh with hh;injection hh with hh;subst hh;rw [← e9];exact ABF hfit
  ·rw [e1] at e4;injection e4 with e4;subst e4;exact e2.elim
 have nilc:∀ {blk:Blk} {bk off:Nat} {u0:Value},(n*size=0→∀ w',(Builtin.firstCells size n u0).run P w'=.ok ⟨[]⟩ w')→LO H bk=some blk→(∀ B m,β bk≠some (.at_ B m))→(∀ kd xs,blk.cs=[.seq kd xs]→off+n≤xs.length→∃ l,(∀ w',w'.heap=w.heap→(Builtin.firstCells size n u0).run P w'=.ok ⟨l⟩ w')∧AO β [.seq kd ((xs.drop off).take n)] l∧l.length=n*size∧l=[]) ∧
   (∀ m,LN blk.cs off (n*size)=some m→∃ l,(∀ w',w'.heap=w.heap→(Builtin.firstCells size n u0).run P w'=.ok ⟨l⟩ w')∧AO β m l∧l.length=n*size∧l=[]):=by
  intro blk bk off u0 hu0 hb e1;rcases g.cells hb with ⟨B',n',l,t',pre,ty',fz',e4,_⟩ | ⟨_,_,_,e5⟩
  ·exact absurd e4 (e1 _ _)
  ·refine ⟨fun kd xs hcs hle=>?_,fun m hm=>?_⟩
   ·rw [hcs] at e5;obtain ⟨e6,_⟩:=lH e5;have hxs:xs=[]:=by simpa using e6.symm
    subst hxs;have hn:n=0:=by simp at hle;omega
    subst hn;exact ⟨[],fun w' _=>hu0 (by simp) w',ON (by simp),by simp,rfl⟩
   ·obtain ⟨h1,h2⟩:=SF hm e5;have h3:n*size=0:=by simp at h2;omega
    exact ⟨[],fun w' _=>hu0 h3 w',by simpa using h1,by simp [h3],rfl⟩
 have hnone:n*size=0→∀ w',(Builtin.firstCells size n (.slice none 0 0)).run P w'=.ok ⟨[]⟩ w':=fun _ _=>rfl
 have hsome:∀ a m,n*size=0→∀ w',(Builtin.firstCells size n (.slice (some a) 0 m)).run P w'=.ok ⟨[]⟩ w':=fun a m h w'=>by simp [Builtin.firstCells,h,loadCells,loadCellsFrom]
 unfold OM at h;split at h
 ·injection h with h;injection h with h1 h2;subst h1;subst h2;have:=(Aw (hx _ rfl)).1
  injection this with e _;subst e;have hn:=An.1 hc.1;subst hn;exact ⟨[],fun _ _=>rfl,rfl,by simp,fun _=>by simp⟩
 ·rename_i bk off len cap;rcases Aw (hx _ rfl) with ⟨B,nn,e1,e2⟩ | ⟨e1,rfl,rfl,rfl,e2⟩ | ⟨e1,rfl,rfl,rfl,a,M,e2⟩
  ·injection e2 with e2 _;subst e2;split at h
   ·rename_i blk hb;split at h
    ·rename_i kd xs hcs;split at h
     ·rename_i hsz;injection h with h;injection h with h1 h2;subst h1;subst h2;obtain ⟨l,q1,q2,q3,q4⟩:=sq (len:=len) (cap:=cap) hb e1 hcs (An.1 hsz) (f_ hc.1)
      exact ⟨l,q1,q2,q3,fun _=>q4⟩
     ·cases h
    ·split at h
     ·rename_i m hm;injection h with h;injection h with h1 h2;subst h1;subst h2;obtain ⟨l,q1,q2,q3,q4⟩:=rng (len:=len) (cap:=cap) hb e1 hm
      exact ⟨l,q1,q2,q3,fun _=>q4⟩
     ·cases h
   ·cases h
  ·injection e2 with e2 _;subst e2;split at h
   ·rename_i blk hb;have hno:∀ B m,β bk≠some (.at_ B m):=fun B m e=>by rw [e1] at e;cases e
    split at h
    ·rename_i kd xs hcs;split at h
     ·rename_i hsz;injection h with h;injection h with h1 h2;subst h1;subst h2;obtain ⟨l,q1,q2,q3,q4⟩:=(nilc (off:=0) hnone hb hno).1 kd xs hcs (f_ hc.1)
      exact ⟨l,q1,q2,q3,fun _=>by simp⟩
     ·cases h
    ·split at h
     ·rename_i m hm;injection h with h;injection h with h1 h2;subst h1;subst h2;obtain ⟨l,q1,q2,q3,q4⟩:=(nilc (off:=0) hnone hb hno).2 _ hm
      exact ⟨l,q1,q2,q3,fun _=>by simp⟩
     ·cases h
   ·cases h
  ·injection e2 with e2 _;subst e2;split at h
   ·rename_i blk hb;have hno:∀ B m,β bk≠some (.at_ B m):=fun B m e=>by rw [e1] at e;cases e
    split at h
    ·rename_i kd xs hcs;split at h
     ·rename_i hsz;injection h with h;injection h with h1 h2;subst h1;subst h2;obtain ⟨l,q1,q2,q3,q4⟩:=(nilc (off:=0) (hsome a M) hb hno).1 kd xs hcs (f_ hc.1)
      exact ⟨l,q1,q2,q3,fun hne=>absurd e1 (hne _ _ _ _ rfl)⟩
     ·cases h
    ·split at h
     ·rename_i m hm;injection h with h;injection h with h1 h2;subst h1;subst h2;obtain ⟨l,q1,q2,q3,q4⟩:=(nilc (off:=0) (hsome a M) hb hno).2 _ hm
      exact ⟨l,q1,q2,q3,fun hne=>absurd e1 (hne _ _ _ _ rfl)⟩
     ·cases h
   ·cases h
 ·rename_i bk len sz;split at h
  ·rename_i blk hb;rcases Aw (hx _ rfl) with ⟨B,nn,cap,e1,e2,_⟩ | ⟨e1,e0,e2⟩
   ·injection e2 with e2 _;subst e2;split at h
    ·rename_i kd xs hcs;split at h
     ·rename_i hsz;injection h with h;injection h with h1 h2;subst h1;subst h2;have:=sq (off:=0) (len:=len) (cap:=cap) hb e1 hcs (An.1 hsz) (by simpa using f_ hc.1)
      obtain ⟨l,q1,q2,q3,q4⟩:=this;exact ⟨l,q1,by simpa using q2,q3,fun _=>q4⟩
     ·cases h
    ·split at h
     ·rename_i m hm;injection h with h;injection h with h1 h2;subst h1;subst h2;obtain ⟨l,q1,q2,q3,q4⟩:=rng (len:=len) (cap:=cap) hb e1 hm
      exact ⟨l,q1,q2,q3,fun _=>q4⟩
     ·cases h
   ·injection e2 with e2 _;subst e2;have hno:∀ B m,β bk≠some (.at_ B m):=fun B m e=>by rw [e1] at e;cases e
    split at h
    ·rename_i kd xs hcs;split at h
     ·rename_i hsz;injection h with h;injection h with h1 h2;subst h1;subst h2;obtain ⟨l,q1,q2,q3,q4⟩:=(nilc (off:=0) hnone hb hno).1 kd xs hcs (by simpa using f_ hc.1)
      exact ⟨l,q1,by simpa using q2,q3,fun _=>by simp⟩
     ·cases h
    ·split at h
     ·rename_i m hm;injection h with h;injection h with h1 h2;subst h1;subst h2;obtain ⟨l,q1,q2,q3,q4⟩:=(nilc (off:=0) hnone hb hno).2 _ hm
      exact ⟨l,q1,q2,q3,fun _=>by simp⟩
     ·cases h
  ·cases h
 ·rename_i s;split at h
  ·rename_i hsz;injection h with h;injection h with h1 h2;subst h1;subst h2;have:=(Aw (hx _ rfl)).1
   injection this with e _;subst e;have hle:=f_ hc.1;have hs1:=An.1 hsz;refine ⟨((s.data.toList.take n).map fun b=>Value.int .u8 b.toNat),fun w' _=>?_,?_,?_,fun _=>by simp⟩
   ·simp only [Builtin.firstCells,Sem.run_pure];congr 1
    apply jq
    rw [n_];congr 1
    simp [ByteArray.extract,ByteArray.copySlice]
   ·have:=ON (β:=β) (kd:=.u8) (xs:=(s.data.toList.take n).map fun b=>(b.toNat:Int)) (by
     intro x hx;obtain ⟨b,_,rfl⟩:=jj.1 hx;rw [E7];have:=b.toNat_lt
     simp [AJ];omega)
    rw [kp] at this;exact this
   ·rw [hs1];have:s.data.toList.length=s.size:=ri
    rw [jk,h_];omega
  ·cases h
 ·cases h
theorem SM {size n:Nat} {x:Option AV} {u:Value} {cs:List Ch} {c:dr} (g:Good β H w) (hx:∀ A,x=some A→AL β A u) (h:OM H size x n=some (cs,c)) (hc:AM c) :
  ∃ l,(Builtin.firstCells size n u).run P w=.ok ⟨l⟩ w∧AO β cs l∧l.length=n*size :=
 let ⟨l,h1,h2,h3,_⟩:=Vs (P:=P) g hx h hc
 ⟨l,h1 w rfl,h2,h3⟩
end
section
variable {P:Program} {β:Env} {H:Heap} {w:World}
def Az (kd:IntKind):List Ch→Option (dp)
 | []=>some []
 | .seq k l::r=>match decide (k=kd),r,Az kd r with
  | true,[],_=>some l
  | true,_,some m=>some (l++m)
  | _,_,_=>none
 | .n k i::r=>match decide (k=kd),Az kd r with | true,some m=>some (i::m) | _,_=>none
 | .v (.int k i)::r=>match decide (k=kd),Az kd r with | true,some m=>some (i::m) | _,_=>none
 | .num k x::r=>match kd,Az kd r with | .u64,some m=>some ((List.range k).map (AE x)++m) | _,_=>none
 | _=>none
theorem C8 {kd:IntKind}:∀ {cs:List Ch} {xs:dp} {l:List Value},Az kd cs=some xs→AO β cs l→l=xs.map (.int kd)∧∀ x∈xs,has kd x
 | [],xs,l,h,hl=>by
  simp only [Az,gq] at h;simp only [AO] at hl;subst h;subst hl;simp
 | c::cs,xs,l,h,hl=>by
  obtain ⟨l1,l2,h1,h2,h3⟩:=hl;unfold Az at h;split at h
  ·cases ‹_::_=[]›
  ·rename_i k m r he;injection he with e1 e2;subst e1;subst e2;split at h
   ·have hk:decide (k=kd)=true:=by assumption
    injection h with h;subst h;simp only [AO] at h2;subst h2;have:k=kd:=by simpa using hk
    subst this;rw [h3,iq];exact h1
   ·rename_i m' hk _ hm;injection h with h;subst h;have:k=kd:=by simpa using hk
    subst this;obtain ⟨i1,i2⟩:=C8 hm h2;simp only [BF] at h1;refine ⟨by rw [h3,h1.1,i1,lk],fun x hx=>?_⟩
    rcases gl.1 hx with hx | hx
    ·exact h1.2 x hx
    ·exact i2 x hx
   ·cases h
  ·rename_i k i r he;injection he with e1 e2;subst e1;subst e2;split at h
   ·rename_i m hk hm;injection h with h;subst h;have:k=kd:=by simpa using hk
    subst this;obtain ⟨i1,i2⟩:=C8 hm h2;simp only [BF] at h1;refine ⟨by rw [h3,h1.1,i1];rfl,fun x hx=>?_⟩
    rcases gr.1 hx with hx | hx
    ·rw [hx];exact h1.2
    ·exact i2 x hx
   ·cases h
  ·rename_i k i r he;injection he with e1 e2;subst e1;subst e2;split at h
   ·rename_i m hk hm;injection h with h;subst h;have:k=kd:=by simpa using hk
    subst this;obtain ⟨i1,i2⟩:=C8 hm h2;simp only [BF] at h1;refine ⟨by rw [h3,h1.1,i1];rfl,fun x hx=>?_⟩
    rcases gr.1 hx with hx | hx
    ·rw [hx];exact h1.2.2
    ·exact i2 x hx
   ·cases h
  ·rename_i k x r he;injection he with e1 e2;subst e1;subst e2;split at h
   ·rename_i m hm;injection h with h;subst h;obtain ⟨i1,i2⟩:=C8 hm h2;simp only [BF] at h1;refine ⟨?_,fun x hx=>?_⟩
    ·rw [h3,h1.2,i1,lk,kp];rfl
    ·rcases gl.1 hx with hx | hx
     ·obtain ⟨j,_,rfl⟩:=jj.1 hx;exact Yq _ _
     ·exact i2 x hx
   ·cases h
  ·cases h
def Vt (x:Option AV):Option Nat :=
 match x with
 | some (.val false [.sl _ _ len _])=>some len
 | some (.val false [.sx _ len _])=>some len
 | some (.val false [.v (.slice none len _)])=>some len
 | some (.val false [.v (.string s)])=>some s.size
 | _=>none
theorem Y3 {x:Option AV} {u:Value} {n:Nat} (hx:∀ A,x=some A→AL β A u) (h:Vt x=some n):(Builtin.lenOf u).run P w=.ok n w:=by
 unfold Vt at h;split at h
 ·injection h with h;subst h;rcases Aw (hx _ rfl) with ⟨B,m,e1,e2⟩ | ⟨_,_,rfl,_,e2⟩ | ⟨_,_,rfl,_,_,_,e2⟩
  ·injection e2 with e2 _;subst e2;rfl
  ·injection e2 with e2 _;subst e2;rfl
  ·injection e2 with e2 _;subst e2;rfl
 ·injection h with h;subst h;rcases Aw (hx _ rfl) with ⟨B,m,cap,e1,e2,_⟩ | ⟨_,rfl,e2⟩
  ·injection e2 with e2 _;subst e2;rfl
  ·injection e2 with e2 _;subst e2;rfl
 ·injection h with h;subst h;have:=(Aw (hx _ rfl)).1
  injection this with e2 _;subst e2;rfl
 ·injection h with h;subst h;have:=(Aw (hx _ rfl)).1
  injection this with e2 _;subst e2;rfl
 ·cases h
def Y4 (bk:Nat) (blk:Blk) (off k:Nat) (new:List Ch):Option (Heap×dr) :=
 match blk.cs with
 | [.seq kd xs]=>match Az kd new with
  | some ys=>some ([(bk,some ⟨blk.ty,[.seq kd (xs.take off++(ys++xs.drop (off+k)))],blk.opn⟩)],[(Nat.ble (off+k) xs.length,true)])
  | none=>none
 | cs=>match Vj cs off k new with
  | some m=>some ([(bk,some ⟨blk.ty,m,blk.opn⟩)],[])
  | none=>none
theorem ABH {bk off k:Nat} {blk:Blk} {new:List Ch} {u:Heap} {c:dr} {l ln:List Value} (h:Y4 bk blk off k new=some (u,c)) (hc:AM c) (hl:AO β blk.cs l) (hn:AO β new ln) :
  ∃ m,u=[(bk,some ⟨blk.ty,m,blk.opn⟩)]∧AO β m (l.take off++ln++l.drop (off+k))∧off+k≤l.length:=by
 unfold Y4 at h;split at h
 ·rename_i kd xs hcs;split at h
  ·rename_i ys hy;injection h with h;injection h with h1 h2;subst h1;subst h2;rw [hcs] at hl;obtain ⟨rfl,hall⟩:=lH hl;obtain ⟨rfl,hall2⟩:=C8 hy hn;have hle:=f_ hc.1;refine ⟨_,rfl,?_,by simpa using hle⟩
   rw [← oh,← pn,← lk,← lk,lf];refine ON fun x hx=>?_
   rcases gl.1 hx with hx | hx
   ·exact hall x (me hx)
   ·rcases gl.1 hx with hx | hx
    ·exact hall2 x hx
    ·exact hall x (lj hx)
  ·cases h
 ·split at h
  ·rename_i m hm;injection h with h;injection h with h1 h2;subst h1;subst h2;obtain ⟨r1,r2⟩:=kD hm hl hn;exact ⟨m,rfl,r1,r2⟩
  ·cases h
theorem ABI {B off k:Nat} {l t' ln:List Value} {ty:TypeId} (ho:w.heap[B]? = some (.cells ⟨l++t'⟩ ty (0,0))) (hs:ln.length=k) (hfit:off+k≤l.length) (h1:∀ v∈ln,v.oneCell'=true) :
  (storeCells ⟨B,off,none⟩ ln).run P w=.ok () (w.setRow B ⟨(l.take off++ln++l.drop (off+k))++t'⟩):=by
 have:=run_storeCells_at P B off ty ln 0 ⟨l++t'⟩ w ho (by simp;omega) h1
 simp only [kz] at this;have e1:(l++t').take off=l.take off:=qf dl
 have e2:(l++t').drop (off+k)=l.drop (off+k)++t':=qe dl
 simp only [e1,hs,e2] at this;simpa using this
def Y5 (P:Program) (dT:TypeId) (d s:Option AV) (H:Heap) (path:List Bool):Option R :=
 match P.underlying dT,d with
 | some (.slice e),some (.val false [.sl bk off len _])=>match P.info? e,Vt s,AF H bk with
  | some inf,some m,some blk=>match OM H inf.size s (Nat.min m len) with
   | some (cs,c1)=>match Y4 bk blk off (Nat.min m len*inf.size) cs,Nat.ble Bf blk.ty,blk.opn with
    | some (u,c2),false,false=>some ⟨.any,u,0,c1++c2,path⟩
    | _,_,_=>none
   | none=>none
  | _,_,_=>none
 | _,_=>none
theorem AMY {dT sT ty:TypeId} {d s:Option AV} {u v:Value} {path:List Bool} {r:R} (g:Good β H w) (hx:∀ A,d=some A→AL β A u) (hy:∀ A,s=some A→AL β A v)
  (h:Y5 P dT d s H path=some r) (hc:AM r.conds) (fr:Nat):∃ z w',(Builtin.copy_ #[dT,sT] ty #[u,v]).run P w=.ok z w'∧Eff β fr r w z w' β:=by
 unfold Y5 at h;split at h
 ·rename_i e bk off len cap hu;split at h
  ·rename_i inf m blk hi hm hb;split at h
   ·rename_i cs c1 hs;split at h
    ·rename_i uu c2 hp hro hop;injection h with h;subst h;obtain ⟨o1,o2⟩:=Bo.1 hc;obtain ⟨ln,f1,f2,f3⟩:=SM (P:=P) g hy hs o1
     have hlen:=Y3 (P:=P) (w:=w) hy hm
     rcases P6 (g.heap _ _ hb) (OI hro) with ⟨B',n',l,t',e4,e3,e5,e6,e7,e8⟩ | ⟨_,e4,_⟩
     ·rcases Aw (hx _ rfl) with ⟨B,nn,e1,e2⟩ | ⟨e1,_⟩ | ⟨e1,_⟩
      case inr.inl=>rw [e1] at e4;cases e4
      case inr.inr=>rw [e1] at e4;cases e4
      injection e2 with e2 _;subst e2;rw [e1] at e4;injection e4 with e4;injection e4 with e4 e4';subst e4;subst e4';obtain ⟨mm,rfl,q1,q2⟩:=ABH hp o2 e3 f2;refine ⟨goInt (Nat.min m len),_,?_,Eff.write g e1 e5 q1 e6 (by rw [← e7];simp [f3];omega) e8 trivial⟩
      have:=ABI (P:=P) e5 f3 q2 (SI f2)
      rw [gz];simp [Builtin.copy_,run_underlying hu,hlen,sizeOf,typeInfo,hi,f1,this]
     ·rw [hop] at e4;cases e4
    ·cases h
   ·cases h
  ·cases h
 ·cases h
def lI (P:Program) (t:TypeId) (x:Option AV) (H:Heap) (path:List Bool):Option R :=
 match P.underlying t,x with
 | some (.slice e),some (.val false [.sl bk off len _])=>match len with
  | 0=>some (CA .any path)
  | len+1=>match P.info? e,AF H bk with
   | some inf,some blk=>match inf.zero with
    | some z=>match Ml (Builtin.zeroCells z.cells (len+1)).toList with
     | some zs=>match Y4 bk blk off (Builtin.zeroCells z.cells (len+1)).toList.length zs,Nat.ble Bf blk.ty with
      | some (u,c2),false=>some ⟨.any,u,0,c2,path⟩
      | _,_=>none
     | none=>none
    | none=>none
   | _,_=>none
 | _,_=>none
theorem AMZ {t ty:TypeId} {x:Option AV} {u:Value} {path:List Bool} {r:R} (g:Good β H w) (hx:∀ A,x=some A→AL β A u)
  (h:lI P t x H path=some r) (hc:AM r.conds) (fr:Nat):∃ z w',(Builtin.clear_ #[t] ty #[u]).run P w=.ok z w'∧Eff β fr r w z w' β:=by
 unfold lI at h;split at h
 ·rename_i e bk off len cap hu;split at h
  ·injection h with h;subst h;rcases Aw (hx _ rfl) with ⟨B,nn,e1,e2⟩ | ⟨e1,_,_,_,e2⟩ | ⟨e1,_,_,_,_,_,e2⟩
   ·injection e2 with e2 _;subst e2;exact ⟨.tuple #[],w,by simp [Builtin.clear_,run_underlying hu],Eff.pure_ g trivial⟩
   ·injection e2 with e2 _;subst e2;exact ⟨.tuple #[],w,by simp [Builtin.clear_,run_underlying hu],Eff.pure_ g trivial⟩
   ·injection e2 with e2 _;subst e2;exact ⟨.tuple #[],w,by simp [Builtin.clear_,run_underlying hu],Eff.pure_ g trivial⟩
  ·rename_i len;split at h
   ·rename_i inf blk hi hb;split at h
    ·rename_i z hz;split at h
     ·rename_i zs hzs;split at h
      ·rename_i uu c2 hp hro;injection h with h;subst h;have f2:=SG (β:=β) hzs
       rcases Aw (hx _ rfl) with ⟨B,nn,e1,e2⟩ | ⟨_,_,e2,_⟩ | ⟨_,_,e2,_⟩
       case inr.inl=>cases e2
       case inr.inr=>cases e2
       injection e2 with e2 _;subst e2;rcases P6 (g.heap _ _ hb) (OI hro) with ⟨B',n',l,t',e4,e3,e5,e6,e7,e8⟩ | ⟨e4,_⟩
       ·rw [e1] at e4;injection e4 with e4;injection e4 with e4 e4';subst e4;subst e4';obtain ⟨mm,rfl,q1,q2⟩:=ABH hp hc e3 f2;refine ⟨.tuple #[],_,?_,Eff.write g e1 e5 q1 e6 (by rw [← e7];simp at q2 ⊢;omega) e8 trivial⟩
        have:=ABI (P:=P) e5 rfl q2 (SI f2)
        rw [gz];simp [Builtin.clear_,run_underlying hu,zeroValue,typeInfo,hi,hz,this]
       ·rw [e1] at e4;cases e4
      ·cases h
     ·cases h
    ·cases h
   ·cases h
 ·cases h
theorem ABJ (need:Nat):∀ (r c:Nat),256≤c→c≤2*need→Builtin.growBy need r c≤2*need
 | 0,c,_,h=>h
 | r+1,c,h0,h=>by
  unfold Builtin.growBy;split
  ·exact h
  ·exact ABJ need r _ dl dl
theorem ABK {need old:Nat} (h:old<need):Builtin.nextslicecap need old≤2*need:=by
 unfold Builtin.nextslicecap;split
 ·omega
 ·split
  ·omega
  ·exact ABJ need 4 old dl dl
def SO:TypeDesc→Bool
 | .slice _=>true
 | .string=>true
 | _=>false
theorem Y6 {ts:Array TypeId} {sT xT e ty:TypeId} {d:TypeDesc} {inf:TypeInfo} {base:Option Addr} {sLen sCap n:Nat} {x:Value} {ln:List Value}
  (h0:ts[0]? = some sT) (h1:ts[1]? = some xT) (hu:P.underlying sT=some (.slice e)) (hi:P.info? e=some inf) (hx:P.underlying xT=some d) (hd:SO d=true)
  (hn:(Builtin.lenOf x).run P w=.ok n w) (hf:(Builtin.firstCells inf.size n x).run P w=.ok ⟨ln⟩ w) (hfit:sLen+n≤sCap) :
  (Builtin.append_ ts ty #[.slice base sLen sCap,x]).run P w=match base with
   | some a=>((storeCells (a.add (sLen*inf.size)) ln).run P w).andThen fun _ w'=>.ok (.slice base (sLen+n) sCap) w'
   | none=>.ok (.slice none (sLen+n) sCap) w:=by
 cases base with
 | none =>
  cases d;case slice=>simp [Builtin.append_,h0,h1,run_underlying hu,run_underlying hx,sizeOf,typeInfo,hi,hn,hf,hfit]
  case string=>simp [Builtin.append_,h0,h1,run_underlying hu,run_underlying hx,sizeOf,typeInfo,hi,hn,hf,hfit]
  all_goals simp [SO] at hd
 | some a =>
  cases d;case slice=>simp [Builtin.append_,h0,h1,run_underlying hu,run_underlying hx,sizeOf,typeInfo,hi,hn,hf,hfit]
  case string=>simp [Builtin.append_,h0,h1,run_underlying hu,run_underlying hx,sizeOf,typeInfo,hi,hn,hf,hfit]
  all_goals simp [SO] at hd
theorem AMa {ts:Array TypeId} {sT xT e ty:TypeId} {d:TypeDesc} {inf:TypeInfo} {z:Value} {base:Option Addr} {sLen sCap n:Nat} {x:Value} {lo ln:List Value}
  (h0:ts[0]? = some sT) (h1:ts[1]? = some xT) (hu:P.underlying sT=some (.slice e)) (hi:P.info? e=some inf) (hz:inf.zero=some z) (hx:P.underlying xT=some d) (hd:SO d=true)
  (hn:(Builtin.lenOf x).run P w=.ok n w) (ho:(Builtin.firstCells inf.size sLen (.slice base sLen sCap)).run P w.drew=.ok ⟨lo⟩ w.drew)
  (hf:(Builtin.firstCells inf.size n x).run P w.drew=.ok ⟨ln⟩ w.drew) (hgt:sCap<sLen+n) (hb1:1≤inf.bytes) (hb:2*(sLen+n)*inf.bytes≤281474976710656) :
  ∃ c,sLen+n≤c∧(Builtin.append_ ts ty #[.slice base sLen sCap,x]).run P w =
   .ok (.slice (some ⟨w.heap.size,0,none⟩) (sLen+n) c) (w.drew.alloc (.cells ⟨lo++ln++(Builtin.zeroCells z.cells (c-(sLen+n))).toList⟩ e)):=by
 have hc1:¬ (281474976710656<Builtin.nextslicecap (sLen+n) sCap*inf.bytes):=by
  have:=ABK hgt
  have:=jp inf.bytes this
  omega
 have hb0:¬ inf.bytes=0:=dl
 have hnf:¬ (sLen+n≤sCap):=dl
 refine ⟨(Question.appendCap (sLen+n) sCap e).cut (w.tape w.drawn (.appendCap (sLen+n) sCap e)),?_,?_⟩
 ·simp only [Question.cut];omega
 ·cases d;case slice =>
   simp [Builtin.append_,h0,h1,run_underlying hu,run_underlying hx,sizeOf,typeInfo,hi,hn,hnf,hb0,hc1,Question.forced,zeroValue,hz,newRow,ho,hf]
   congr 2
   apply jq
   simp
  case string =>
   simp [Builtin.append_,h0,h1,run_underlying hu,run_underlying hx,sizeOf,typeInfo,hi,hn,hnf,hb0,hc1,Question.forced,zeroValue,hz,newRow,ho,hf]
   congr 2
   apply jq
   simp
  all_goals simp [SO] at hd
end
section
variable {P:Program} {β:Env} {H:Heap} {w:World}
def lJ (z:Value) (old new:List Ch):List Ch :=
 match z with
 | .int kd _=>match Az kd old,Az kd new with
  | some xs,some ys=>[.seq kd (xs++ys)]
  | _,_=>old++new
 | _=>old++new
theorem lK {z:Value} {old new:List Ch} {lo ln:List Value} (h1:AO β old lo) (h2:AO β new ln):AO β (lJ z old new) (lo++ln):=by
 unfold lJ;split
 ·split
  ·rename_i xs ys hx hy;obtain ⟨rfl,a1⟩:=C8 hx h1;obtain ⟨rfl,a2⟩:=C8 hy h2;rw [← lk];exact ON fun x hx=>(gl.1 hx).elim (a1 x) (a2 x)
  ·exact OH h1 h2
 ·exact OH h1 h2
def DK (fr:Nat) (e:TypeId) (inf:TypeInfo) (z:Value) (tomb:Heap) (old new:List Ch) (len n:Nat) (c1 c2:dr) (path:List Bool):R :=
 ⟨.val false [.sx fr (len+n) inf.size],tomb++[(fr,some ⟨e,lJ z old new,true⟩)],1,c1++(c2++[(decide (1≤inf.bytes∧2*(len+n)*inf.bytes≤281474976710656),true)]),path⟩
def lL (P:Program) (ts:Array TypeId) (s x:Option AV) (H:Heap) (fr:Nat) (path:List Bool):Option R :=
 match ts[0]?,ts[1]? with
 | some sT,some xT=>match P.underlying sT,P.underlying xT with
  | some (.slice e),some d=>match SO d,P.info? e with
   | true,some inf=>match inf.zero,Vt x with
    | some z,some n=>match Nat.beq z.cells.size inf.size&&z.cells.toList.all (fun v=>v.oneCell'),OM H inf.size x n with
     | true,some (new,c2)=>match s with
      | some (.val false [.v (.slice none 0 0)])=>some (DK fr e inf z [] [] new 0 n [] c2 path)
      | some (.val false [.sl bk 0 len cap])=>match OM H inf.size s len,AF H bk with
       | some (old,c1),some blk=>match Nat.beq blk.ty e,Nat.ble Bf blk.ty with
        | true,false=>some (DK fr e inf z [(bk,none)] old new len n (c1++[(Nat.beq cap len,true)]) c2 path)
        | _,true=>match blk.opn with
         | true=>some (DK fr e inf z [] old new len n (c1++[(Nat.beq cap len&&Nat.blt 0 n,true)]) c2 path)
         | false=>none
        | _,_=>none
       | _,_=>none
      | some (.val false [.sx bk len sz])=>match Nat.beq sz inf.size,OM H inf.size s len,AF H bk with
       | true,some (old,c1),some blk=>match Nat.beq blk.ty e,Nat.ble Bf blk.ty with
        | true,false=>some (DK fr e inf z [(bk,none)] old new len n c1 c2 path)
        | _,_=>none
       | _,_,_=>none
      | _=>none
     | _,_=>none
    | _,_=>none
   | _,_=>none
  | _,_=>none
 | _,_=>none
theorem ABL (z:Array Value) (n:Nat):(Builtin.zeroCells z n).toList.length=n*z.size:=by
 unfold Builtin.zeroCells;simp
theorem AMb {z:Value} (hz:∀ v∈z.cells.toList,v.oneCell'=true) (n:Nat):∀ v∈(Builtin.zeroCells z.cells n).toList,v.oneCell'=true:=by
 intro v hv;unfold Builtin.zeroCells at hv;simp only [n_,Array.toList_range,jj,jl] at hv;obtain ⟨i,hi,rfl⟩:=hv;have hpos:0<z.cells.size:=by
  rcases jh z.cells.size with h | h
  ·rw [h] at hi;simp at hi
  ·exact h
 have hlt:=gu i hpos;rw [getElem!_pos z.cells _ hlt];exact hz _ (by simp)
theorem ABM (z:Value) (hz:z.cells.toList.all (·.oneCell')=true) (n:Nat):∀ v∈(Builtin.zeroCells z.cells n).toList,v.oneCell'=true :=
 AMb (fun v hv=>jz.1 hz v hv) n
theorem Good.drew (g:Good β H w):Good β H w.drew:=⟨g.heap,g.inj,g.lt⟩
theorem ABN {fr n len:Nat} {e:TypeId} {inf:TypeInfo} {z:Value} {tomb:Heap} {old new:List Ch} {c1 c2:dr} {path:List Bool} {lo ln rest:List Value} {c:Nat} (g:Good β H w)
  (hf:β fr=none) (h1:AO β old lo) (h2:AO β new ln) (htomb:∀ k y,(k,some y) ∉ tomb) (hc:len+n≤c) (hlen:(lo++ln++rest).length=c*inf.size) (hrest:∀ v∈rest,v.oneCell'=true) :
  Eff β fr (DK fr e inf z tomb old new len n c1 c2 path) w (.slice (some ⟨w.heap.size,0,none⟩) (len+n) c) (w.drew.alloc (.cells ⟨lo++ln++rest⟩ e)) (β.put fr (.at_ w.heap.size (c*inf.size,0))) where
 ext:=Env.le_put _ hf
 new:=fun b X k=>by
  unfold Env.put at k;split at k
  ·rename_i hb;subst hb;injection k with k;subst k;exact .inr ⟨gd _,by simp [DK],fun B m e=>by injection e with e1 e2;subst e1;exact .inl (gd _)⟩
  ·exact .inl k
 lt:=fun b B m k=>by
  unfold Env.put at k;split at k
  ·injection k with k;injection k with k _;subst k;simp
  ·have:=g.lt _ _ _ k;simp;omega
 inj:=fun b b' _ _ _ h1 h2 h3 h4 _ _=>by simp [DK] at h3 h4;omega
 val:=Aq (.inl ⟨w.heap.size,c*inf.size,c,Env.put_same ..,rfl,hc,gd _⟩)
 upd:=fun k y hy=>by
  simp only [DK,gl,ja,gx,gq] at hy;rcases hy with hy | ⟨rfl,rfl⟩
  ·exact absurd hy (htomb _ _)
  ·exact Yo (l:=lo++ln) (t:=rest) (Env.put_same ..) (IN (Env.le_put _ hf) (lK h1 h2)) (by show (w.heap.push _)[w.heap.size]? = _;simp) (fun h=>by simp at h) hlen hrest
 frame:=fun B hB _=>by
  show (w.heap.push _)[B]? = _;rw [pu,fv dl]
 size:=by simp
 os:=rfl
 tape:=rfl
 output:=rfl
theorem AMc {fr n len bk B nB:Nat} {e:TypeId} {inf:TypeInfo} {z:Value} {old new:List Ch} {c1 c2:dr} {path:List Bool} {lo ln rest cur:List Value} {cap:Nat} (g:Good β H w)
  (hf:β fr=none) (hb:β bk=some (.at_ B (nB,0))) (ho:w.heap[B]? = some (.cells ⟨cur⟩ e (0,0))) (h1:AO β old lo) (h2:AO β new ln) (hlen:(lo++ln++rest).length=nB) (hcap:len+n≤cap) (hcapn:cap*inf.size≤nB)
  (hrest:∀ v∈rest,v.oneCell'=true) :
  Eff β fr (DK fr e inf z [(bk,none)] old new len n c1 c2 path) w (.slice (some ⟨B,0,none⟩) (len+n) cap) (w.setRow B ⟨lo++ln++rest⟩) (β.put fr (.at_ B (nB,0))) where
 ext:=Env.le_put _ hf
 new:=fun b X k=>by
  unfold Env.put at k;split at k
  ·rename_i hb';subst hb';injection k with k;subst k;exact .inr ⟨gd _,by simp [DK],fun B' m e=>by injection e with e1 e2;subst e1;exact .inr ⟨bk,(nB,0),by simp [DK],hb⟩⟩
  ·exact .inl k
 lt:=fun b B' m k=>by
  unfold Env.put at k;split at k
  ·injection k with k;injection k with k _;subst k;have:=g.lt _ _ _ hb;simpa [World.setRow] using this
  ·have:=g.lt _ _ _ k;simpa [World.setRow] using this
 inj:=fun b b' _ _ _ h1 h2 h3 h4 _ _=>by simp [DK] at h3 h4;omega
 val:=Aq (.inl ⟨B,nB,cap,Env.put_same ..,rfl,hcap,hcapn⟩)
 upd:=fun k y hy=>by
  simp only [DK,gl,ja,gx,gq] at hy;rcases hy with ⟨_,hy⟩ | ⟨rfl,rfl⟩
  ·cases hy
  ·exact Yo (l:=lo++ln) (t:=rest) (Env.put_same ..) (IN (Env.le_put _ hf) (lK h1 h2)) (setRow_heap w B ⟨cur⟩ _ e (0,0) ho) (fun h=>by simp at h) hlen hrest
 frame:=fun B' hB hne=>by
  have:B'≠B:=fun e=>hne bk none (nB,0) (by simp [DK]) (by rw [e];exact hb)
  simp only [World.setRow,pv];rw [fv dl]
 size:=by simp [World.setRow]
 os:=rfl
 tape:=rfl
 output:=rfl
theorem Y7 {fr:Nat} {e:TypeId} {inf:TypeInfo} {z:Value} {tomb:Heap} {old new:List Ch} {c1 c2:dr} {path:List Bool} (g:Good β H w)
  (hf:β fr=none) (h1:AO β old []) (h2:AO β new []) (htomb:∀ k y,(k,some y) ∉ tomb) :
  Eff β fr (DK fr e inf z tomb old new 0 0 c1 c2 path) w (.slice none 0 0) w (β.put fr .nil) where
 ext:=Env.le_put _ hf
 new:=fun b X k=>by
  unfold Env.put at k;split at k
  ·rename_i hb;subst hb;injection k with k;subst k;exact .inr ⟨gd _,by simp [DK],fun B m e=>by cases e⟩
  ·exact .inl k
 lt:=fun b B m k=>by
  unfold Env.put at k;split at k
  ·injection k with k;cases k
  ·exact g.lt _ _ _ k
 inj:=fun b b' _ _ _ h1 h2 h3 h4 _ _=>by simp [DK] at h3 h4;omega
 val:=Aq (.inr ⟨Env.put_same ..,rfl,rfl⟩)
 upd:=fun k y hy=>by
  simp only [DK,gl,ja,gx,gq] at hy;rcases hy with hy | ⟨rfl,rfl⟩
  ·exact absurd hy (htomb _ _)
  ·exact .inr (.inl ⟨.nil,Env.put_same ..,Or.inl rfl,IN (Env.le_put _ hf) (by simpa using lK h1 h2)⟩)
 frame:=fun _ _ _=>rfl
 size:=gd _
 os:=rfl
 tape:=rfl
 output:=rfl
theorem AMd {ts:Array TypeId} {ty fr:Nat} {s x:Option AV} {u v:Value} {path:List Bool} {r:R} (g:Good β H w) (hx:∀ A,s=some A→AL β A u) (hy:∀ A,x=some A→AL β A v)
  (h:lL P ts s x H fr path=some r) (hc:AM r.conds) (hf:∀ b,fr≤b→b<fr+r.nw→β b=none) :
  ∃ q w' β',(Builtin.append_ ts ty #[u,v]).run P w=.ok q w'∧Eff β fr r w q w' β':=by
 unfold lL at h;split at h;case h_2=>cases h
 rename_i sT xT h0 h1;split at h;case h_2=>cases h
 rename_i e d hu hd;split at h;case h_2=>cases h
 rename_i inf hsl hi;split at h;case h_2=>cases h
 rename_i z n hz hn;split at h;case h_2=>cases h
 rename_i new c2 hzs hs;have hlen:=Y3 (P:=P) (w:=w) hy hn
 have hlend:=Y3 (P:=P) (w:=w.drew) hy hn
 have hzs2:=gk.1 hzs;have hzs':=An.1 hzs2.1;have hzone:=hzs2.2;have grow:∀ (base:Option Addr) (tomb:Heap) (old:List Ch) (len cap:Nat) (c1:dr) (lo:List Value),AM (DK fr e inf z tomb old new len n c1 c2 path).conds →
   (Builtin.firstCells inf.size len (.slice base len cap)).run P w.drew=.ok ⟨lo⟩ w.drew→AO β old lo→lo.length=len*inf.size→(∀ k y,(k,some y) ∉ tomb)→β fr=none→cap<len+n →
   ∃ q w' β',(Builtin.append_ ts ty #[.slice base len cap,v]).run P w=.ok q w'∧Eff β fr (DK fr e inf z tomb old new len n c1 c2 path) w q w' β':=by
  intro base tomb old len cap c1 lo hcc hlo hrel hll ht hfr hgt;obtain ⟨_,hcc⟩:=Bo.1 hcc;obtain ⟨o2,o3⟩:=Bo.1 hcc;have o3:=o3.1;simp only [gc] at o3;obtain ⟨ln,f1,f2,f3⟩:=SM (P:=P) g.drew hy hs o2
  obtain ⟨c,hcge,hrun⟩:=AMa (ty:=ty) h0 h1 hu hi hz hd hsl hlen hlo f1 hgt o3.1 o3.2
  refine ⟨_,_,_,hrun,ABN g hfr hrel f2 ht hcge ?_ (ABM z hzone _)⟩
  simp only [ib,hll,f3,ABL,hzs'];rw [← iz,← iz];congr 1;omega
 have fit:∀ (bk B nB:Nat) (blk:Blk) (old:List Ch) (len cap:Nat) (c1:dr) (lo:List Value),AM (DK fr e inf z [(bk,none)] old new len n c1 c2 path).conds →
   AF H bk=some blk→blk.ty=e→blk.ty<Bf→β bk=some (.at_ B (nB,0))→AO β old lo →
   (∀ cur e fz,w.heap[B]? = some (.cells ⟨cur⟩ e fz)→0+len*inf.size≤cur.length∧lo=(cur.drop 0).take (len*inf.size))→β fr=none→len+n≤cap→(n=0∨cap*inf.size≤nB)→(n=0→cap*inf.size≤nB) →
   ∃ q w' β',(Builtin.append_ ts ty #[.slice (some ⟨B,0,none⟩) len cap,v]).run P w=.ok q w'∧Eff β fr (DK fr e inf z [(bk,none)] old new len n c1 c2 path) w q w' β':=by
  intro bk B nB blk old len cap c1 lo hcc hb hty hro e1 hrel hcur hfr hfit hcap hcap0;obtain ⟨_,hcc⟩:=Bo.1 hcc;obtain ⟨o2,_⟩:=Bo.1 hcc;obtain ⟨ln,n1,n2,n3⟩:=SM (P:=P) g hy hs o2
  rcases P6 (g.heap _ _ hb) hro with ⟨B',n',l,t',e4,e3,e5,e6,e7,e8⟩ | ⟨e4,_⟩
  ·rw [e1] at e4;injection e4 with e4;injection e4 with e4 e4';injection e4' with e4' _;subst e4;subst e4';rw [hty] at e5;obtain ⟨q1,q2⟩:=hcur _ _ _ e5;have hcn:cap*inf.size≤nB:=hcap.elim hcap0 id
   have hln:(len+n)*inf.size≤(l++t').length:=by
    rw [e7];exact ji (jp _ hfit) hcn
   rw [iz] at hln;have q3:lo=(l++t').take (len*inf.size):=by simpa using q2
   have hst:=run_storeCells_at P B (len*inf.size) e ln 0 ⟨l++t'⟩ w e5 (by rw [n3];simpa using hln) (SI n2)
   simp only [kz,n3] at hst;refine ⟨_,_,_,?_,AMc (rest:=(l++t').drop (len*inf.size+n*inf.size)) (cap:=cap) g hfr e1 e5 hrel n2 ?_ hfit hcn ?_⟩
   ·have:=Y6 (ty:=ty) (base:=some ⟨B,0,none⟩) (sLen:=len) (sCap:=cap) h0 h1 hu hi hd hsl hlen n1 hfit
    rw [this];simp only [Addr.add_lit,gz,hst,Result.andThen_ok,q3]
   ·rw [← e7,q3];simp only [ib,h_,ir,n3] at hln ⊢;omega
   ·intro v hv;rcases gl.1 (lj hv) with hv | hv
    ·exact SI e3 v hv
    ·exact e8 v hv
  ·rw [e1] at e4;cases e4
 split at h
 ·
  injection h with h;subst h;have hfr:=hf fr (gd _) (by simp [DK])
  have:=(Aw (hx _ rfl)).1
  injection this with e1 _;subst e1;rcases jh n with hn0 | hpos
  ·subst hn0;have hc':AM (c2++_):=hc
   obtain ⟨o2,_⟩:=Bo.1 hc';obtain ⟨ln,f1,f2,f3⟩:=SM (P:=P) g hy hs o2
   have hl0:ln=[]:=pf.1 (by rw [f3];simp)
   subst hl0;refine ⟨_,_,_,?_,Y7 g hfr rfl f2 (by simp)⟩
   have:=Y6 (ty:=ty) (base:=none) (sLen:=0) (sCap:=0) h0 h1 hu hi hd hsl hlen f1 (gd _)
   simpa using this
  ·exact grow none [] [] 0 0 [] [] hc rfl rfl (by simp) (by simp) hfr dl
 ·
  rename_i bk len cap;split at h;case h_2=>cases h
  rename_i old c1 blk hso hb;split at h;case h_3=>cases h
  case h_2 =>
   split at h;case h_2=>cases h
   rename_i hop;injection h with h;subst h;have hfr:=hf fr (gd _) (by simp [DK])
   obtain ⟨oo,_⟩:=Bo.1 hc;obtain ⟨o1,oc⟩:=Bo.1 oo;have oc':=gk.1 oc.1;have hcap:=An.1 oc'.1;have hpos:0<n:=f_ oc'.2
   subst hcap;obtain ⟨lo,f1,f2,f3,f4⟩:=Vs (P:=P) g hx hso o1
   rcases Aw (hx _ rfl) with ⟨B,nn,e1,e2⟩ | ⟨e1,_,e0,_,e2⟩ | ⟨e1,_⟩
   case inr.inr=>exact absurd (ALy (g.heap _ _ hb) e1).1 (by rw [hop];decide)
   ·injection e2 with e2 _;subst e2;exact grow _ _ old _ _ _ lo hc (f1 _ rfl) f2 f3 (by simp) hfr dl
   ·injection e2 with e2 _;subst e2;subst e0;exact grow none _ old 0 0 _ lo hc (f1 _ rfl) f2 f3 (by simp) hfr dl
  rename_i hty hro;injection h with h;subst h;have hfr:=hf fr (gd _) (by simp [DK])
  obtain ⟨oo,_⟩:=Bo.1 hc;obtain ⟨o1,oc⟩:=Bo.1 oo;have hcap:=An.1 oc.1;subst hcap;obtain ⟨lo,f1,f2,f3,f4⟩:=Vs (P:=P) g hx hso o1
  rcases P6 (g.heap _ _ hb) (OI hro) with ⟨B,nn,l,t',e4,e3,e5,e6,e7,e8⟩ | ⟨e4,_⟩
  ·rcases Aw (hx _ rfl) with ⟨B',nn',e1,e2⟩ | ⟨e1,_⟩ | ⟨e1,_⟩
   case inr.inl=>rw [e1] at e4;cases e4
   case inr.inr=>rw [e1] at e4;cases e4
   have hne:ABG β (some (.val false [.sl bk 0 cap cap])):=fun _ _ _ _ q q'=>by cases q;rw [e1] at q';cases q'
   injection e2 with e2 _;subst e2;rw [e1] at e4;injection e4 with e4;injection e4 with e4 e4';subst e4;subst e4';rw [gz] at f1 f4 ⊢;rcases jh n with hn0 | hpos
   ·refine fit bk _ nn blk old _ _ _ lo hc hb (An.1 hty) (OI hro) e1 f2 (fun cur e fz hh=>f4 hne _ _ _ _ _ _ _ rfl hh) hfr dl (.inl hn0) (fun _=>?_)
    have:=(f4 hne _ _ _ _ _ _ _ rfl e5).1
    rw [e7] at this;omega
   ·exact grow _ _ old _ _ _ lo hc (f1 _ rfl) f2 f3 (by simp) hfr dl
  ·rcases Aw (hx _ rfl) with ⟨B',nn',e1,e2⟩ | ⟨e1,_,e0,_,e2⟩ | ⟨e1,_⟩
   case inr.inr=>rw [e1] at e4;cases e4
   ·rw [e1] at e4;cases e4
   injection e2 with e2 _;subst e2;subst e0;have hl0:lo=[]:=pf.1 (by rw [f3];simp)
   subst hl0;rcases jh n with hn0 | hpos
   ·subst hn0;obtain ⟨_,oo2⟩:=Bo.1 hc;obtain ⟨o2,_⟩:=Bo.1 oo2;obtain ⟨ln,n1,n2,n3⟩:=SM (P:=P) g hy hs o2
    have hl0:ln=[]:=pf.1 (by rw [n3];simp)
    subst hl0;refine ⟨_,_,_,?_,Y7 g hfr f2 n2 (by simp)⟩
    have:=Y6 (ty:=ty) (base:=none) (sLen:=0) (sCap:=0) h0 h1 hu hi hd hsl hlen n1 (gd _)
    simpa using this
   ·exact grow none _ old 0 0 _ [] hc rfl f2 (by simp) (by simp) hfr dl
 ·
  rename_i bk len sz;split at h;case h_2=>cases h
  rename_i old c1 blk hsz hso hb;split at h;case h_2=>cases h
  rename_i hty hro;injection h with h;subst h;have hfr:=hf fr (gd _) (by simp [DK])
  obtain ⟨o1,oo⟩:=Bo.1 hc;have hsz':=An.1 hsz;subst hsz';obtain ⟨lo,f1,f2,f3,f4⟩:=Vs (P:=P) g hx hso o1
  rcases Aw (hx _ rfl) with ⟨B,nn,cap,e1,e2,e3,e4⟩ | ⟨e1,e0,e2⟩
  ·injection e2 with e2 _;subst e2;rcases gt cap (len+n) with hlt | hge
   ·exact grow _ _ old _ _ _ lo hc (f1 _ rfl) f2 f3 (by simp) hfr hlt
   ·exact fit bk B nn blk old _ _ _ lo hc hb (An.1 hty) (OI hro) e1 f2 (fun cur e fz hh=>f4 (fun _ _ _ _ q=>by cases q) _ _ _ _ _ _ _ rfl hh) hfr hge (.inr e4) (fun _=>e4)
  ·injection e2 with e2 _;subst e2;subst e0;have hl0:lo=[]:=pf.1 (by rw [f3];simp)
   subst hl0;rcases jh n with hn0 | hpos
   ·subst hn0;obtain ⟨o2,_⟩:=Bo.1 oo;obtain ⟨ln,n1,n2,n3⟩:=SM (P:=P) g hy hs o2
    have hl0:ln=[]:=pf.1 (by rw [n3];simp)
    subst hl0;refine ⟨_,_,_,?_,Y7 g hfr f2 n2 (by simp)⟩
    have:=Y6 (ty:=ty) (base:=none) (sLen:=0) (sCap:=0) h0 h1 hu hi hd hsl hlen n1 (gd _)
    simpa using this
   ·exact grow none _ old 0 0 _ [] hc rfl f2 (by simp) (by simp) hfr dl
 ·cases h
def Y8 (xs:dp):ByteArray:=xs.foldl (fun r n=>r.push (UInt8.ofNat n.toNat)) ByteArray.empty
def Y9 (x:Option AV):Option Nat :=
 match x with
 | some (.val false [.sl _ _ len _])=>some len
 | some (.val false [.sx _ len _])=>some len
 | some (.val false [.v (.slice none len _)])=>some len
 | _=>none
theorem AMe {x:Option AV} {n:Nat} (h:Y9 x=some n):Vt x=some n:=by
 unfold Y9 at h;split at h
 all_goals first | (cases h;done) | exact h
def lM (P:Program) (src dst:TypeId) (x:Option AV) (H:Heap) (path:List Bool):Option R :=
 match P.underlying src,P.underlying dst with
 | some (.slice e),some .string=>match P.underlying e,Y9 x with
  | some (.int .u8),some n=>match OM H 1 x n with
   | some (cs,c)=>match Az .u8 cs with
    | some xs=>some ⟨.val false [.v (.string (Y8 xs))],[],0,c,path⟩
    | none=>none
   | none=>none
  | _,_=>none
 | _,_=>none
theorem AMf {src dst:TypeId} {x:Option AV} {u:Value} {path:List Bool} {r:R} (g:Good β H w) (hx:∀ A,x=some A→AL β A u) (h:lM P src dst x H path=some r) (hc:AM r.conds) (fr:Nat) :
  ∃ v,(convert src dst u).run P w=.ok v w∧Eff β fr r w v w β:=by
 unfold lM at h;split at h;case h_2=>cases h
 rename_i e hs hd;split at h;case h_2=>cases h
 rename_i n he hn;split at h;case h_2=>cases h
 rename_i cs c hcs;split at h;case h_2=>cases h
 rename_i xs hxs;injection h with h;subst h;obtain ⟨l,f1,f2,f3⟩:=(show ∃ l,(∀ w',w'.heap=w.heap→(Builtin.firstCells 1 n u).run P w'=.ok ⟨l⟩ w')∧AO β cs l∧l.length=n*1 from let ⟨l,f1,f2,f3,_⟩:=Vs (P:=P) g hx hcs hc;⟨l,f1,f2,f3⟩)
 obtain ⟨rfl,_⟩:=C8 hxs f2;have hlen:=Y3 (P:=P) (w:=w) hx (AMe hn)
 have f1:=f1 w rfl;rw [g_] at f3;refine ⟨.string (Y8 xs),?_,Eff.pure_ g (Aq ⟨rfl,rfl,trivial⟩)⟩
 have some_:∀ (a:Addr) (len cap:Nat),u=.slice (some a) len cap→(convert src dst u).run P w=.ok (.string (Y8 xs)) w:=by
  intro a len cap hu;subst hu;have hl:len=n:=by simpa [Builtin.lenOf] using hlen
  subst hl;rw [run_convert_bytes_string w src dst e (some a) len cap hs he hd];exact run_bytesToString w a len cap xs (by simpa [Builtin.firstCells] using f1)
 have none_:u=.slice none 0 0→(convert src dst u).run P w=.ok (.string (Y8 xs)) w:=by
  intro hu;subst hu;have hl:0=n:=by simpa [Builtin.lenOf] using hlen
  subst hl;have hx0:xs=[]:=by simpa using f3
  subst hx0;rw [run_convert_bytes_string w src dst e none 0 0 hs he hd];rfl
 unfold Y9 at hn;split at hn
 ·rcases Aw (hx _ rfl) with ⟨B,nn,e1,e2⟩ | ⟨_,_,_,_,e2⟩ | ⟨_,_,_,_,_,_,e2⟩
  ·injection e2 with e2 _;exact some_ _ _ _ e2
  ·injection e2 with e2 _;exact none_ e2
  ·injection e2 with e2 _;exact some_ _ _ _ e2
 ·rcases Aw (hx _ rfl) with ⟨B,nn,cap,e1,e2,_⟩ | ⟨_,_,e2⟩
  ·injection e2 with e2 _;exact some_ _ _ _ e2
  ·injection e2 with e2 _;exact none_ e2
 ·rename_i len cap;have:=(Aw (hx _ rfl)).1
  injection this with e2 _;subst e2;injection hn with hn;subst hn;rw [run_convert_bytes_string w src dst e none len cap hs he hd];have:xs=[]:=by
   have:=f1
   simp [Builtin.firstCells] at this
   simpa using this.symm
  subst this;rfl
 ·cases hn
def LW (s:ByteArray):dp:=s.data.toList.map fun b=>(b.toNat:Int)
theorem AMg (s:ByteArray):∀ x∈LW s,has .u8 x:=by
 intro x hx;obtain ⟨b,_,rfl⟩:=jj.1 hx;have:=b.toNat_lt
 rw [E7];simp only [AJ,gi,gc];omega
def lN (P:Program) (src dst:TypeId) (x:Option AV) (H:Heap) (fr:Nat) (path:List Bool):Option R :=
 match P.underlying src,P.underlying dst with
 | some .string,some (.slice e)=>match P.underlying e,x with
  | some (.int .u8),some (.val false [.v (.string s)])=>some ⟨.val false [.sx fr s.size 1],[(fr,some ⟨Bf,[.seq .u8 (LW s)],true⟩)],1,[],path⟩
  | _,_=>none
 | some (.slice _),some (.slice e)=>match P.underlying e,Nat.beq src dst,x with
  | some (.int .u8),true,some (.val false [.sl bk off len cap])=>match AF H bk with
   | some ⟨ty,cs,false⟩=>match Nat.ble Bf ty with
    | false=>some ⟨.val false [.sl bk off len cap],[(bk,some ⟨Bf,cs,false⟩)],0,[],path⟩
    | true=>none
   | _=>none
  | _,_,_=>none
 | _,_=>none
theorem AMh {src dst fr:TypeId} {x:Option AV} {u:Value} {path:List Bool} {r:R} (g:Good β H w) (hx:∀ A,x=some A→AL β A u) (h:lN P src dst x H fr path=some r) (hf:∀ b,fr≤b→b<fr+r.nw→β b=none) :
  ∃ v w' β',(convert src dst u).run P w=.ok v w'∧Eff β fr r w v w' β':=by
 unfold lN at h;split at h;case h_3=>cases h
 ·rename_i e hs hd;split at h;case h_2=>cases h
  rename_i s he;injection h with h;subst h;have hfr:=hf fr (gd _) (by simp)
  have:=(Aw (hx _ rfl)).1
  injection this with e2 _;subst e2;have hcap:s.size≤grownCap w s.size 0 e:=by unfold grownCap;simp only [Question.cut];omega
  refine ⟨_,_,β.put fr (.at_ w.heap.size (grownCap w s.size 0 e,0)),run_bytes_of_string w src dst e s hs hd he,?_⟩
  generalize grownCap w s.size 0 e=c at *
  exact {
   ext:=Env.le_put _ hfr
   new:=fun b X k=>by
    unfold Env.put at k;split at k
    ·rename_i hb;subst hb;injection k with k;subst k;exact .inr ⟨gd _,by simp,fun B m e=>by injection e with e1 e2;subst e1;exact .inl (gd _)⟩
    ·exact .inl k
   lt:=fun b B m k=>by
    unfold Env.put at k;split at k
    ·injection k with k;injection k with k _;subst k;simp
    ·have:=g.lt _ _ _ k;simp;omega
   inj:=fun b b' _ _ _ h1 h2 h3 h4 _ _=>by simp at h3 h4;omega
   val:=Aq (.inl ⟨w.heap.size,c,c,Env.put_same ..,rfl,hcap,dl⟩)
   upd:=fun k y hy=>by
    simp only [ja,gx,gq] at hy;obtain ⟨rfl,rfl⟩:=hy;refine .inl ⟨w.heap.size,(c,0),(LW s).map (.int .u8),Array.toList (Array.replicate (c-s.size) (.int .u8 0)),[],e,((bytesRow s c).size,(bytesRow s c).size+1),Env.put_same ..,ON (AMg s),?_,rfl,fun h=>absurd rfl h⟩
    show (w.heap.push _)[w.heap.size]? = _;rw [pu,fw rfl];congr 2
    apply jq
    simp [bytesRow,LW]
   frame:=fun B hB _=>by
    show (w.heap.push _)[B]? = _;rw [pu,fv dl]
   size:=by simp
   os:=rfl
   tape:=rfl
   output:=rfl }
 ·rename_i e0 e hs hd;split at h;case h_2=>cases h
  rename_i bk off len cap he hsd;split at h;case h_2=>cases h
  rename_i ty cs hb;split at h;case h_2=>cases h
  rename_i hro;injection h with h;subst h;have hro':=OI hro;rcases P6 (g.heap _ _ hb) hro' with ⟨B,n,l,t',e4,e3,e5,e6,e7,e8⟩ | ⟨_,e4,_⟩
  case inr=>cases e4
  rcases Aw (hx _ rfl) with ⟨B',nn,e1,e2⟩ | ⟨e1,_⟩ | ⟨e1,_⟩
  case inr.inl=>rw [e1] at e4;cases e4
  case inr.inr=>rw [e1] at e4;cases e4
  injection e2 with e2 _;subst e2;rw [e1] at e4;injection e4 with e4;injection e4 with e4 e4';subst e4;subst e4';obtain rfl:=An.1 hsd
  have hB:B'<w.heap.size:=by
   rcases gt B' w.heap.size with h | h
   ·exact h
   ·rw [Array.getElem?_eq_none h] at e5;cases e5
  refine ⟨.slice (some ⟨B',(n,0).2+off,none⟩) len cap,w.freeze ⟨B',(l++t').length,none⟩ 1,β,?_,?_⟩
  ·obtain rfl:e0=e:=by rw [hs] at hd;injection hd with hd;injection hd
   have hsh:w.shape? B'=some (ty,(l++t').length):=by unfold World.shape?;rw [e5];rfl
   simp [convert,run_underlying hs,run_underlying he,markStringish,hsh]
  ·have hh:∀ b,(w.freeze ⟨B',(l++t').length,none⟩ 1).heap[b]? = if b=B' then some (.cells ⟨l++t'⟩ ty ((l++t').length,(l++t').length+1)) else w.heap[b]?:=by
    intro b;show (w.heap.modify B' _)[b]? = _;rw [pv];by_cases q:B'=b
    ·subst q;rw [fw rfl,fw rfl,e5];rfl
    ·rw [fv q,fv (fun h=>q h.symm)]
   have hsz:(w.freeze ⟨B',(l++t').length,none⟩ 1).heap.size=w.heap.size:=by
    show (w.heap.modify B' _).size=_;simp
   exact {
    ext:=Env.le_refl β
    new:=fun _ _ h=>.inl h
    lt:=fun b B m h=>by rw [hsz];exact g.lt _ _ _ h
    inj:=fun b b' _ _ _ h1 _ h3=>by simp at h3;omega
    val:=Aq (.inl ⟨B',(n,0),e1,rfl⟩)
    upd:=fun k y hy=>by
     simp only [ja,gx,gq] at hy;obtain ⟨rfl,rfl⟩:=hy;refine .inl ⟨B',(n,0),l,t',[],ty,((l++t').length,(l++t').length+1),e1,e3,?_,rfl,fun h=>absurd rfl h⟩
     rw [hh,fw rfl];rfl
    frame:=fun b hB hne=>by
     have:b≠B':=fun e=>hne _ _ (n,0) (ja.2 rfl) (by rw [e];exact e1)
     rw [hh,fv this]
    size:=by rw [hsz];exact gd _
    os:=rfl
    tape:=rfl
    output:=rfl }
end
section
variable {P:Program} {β:Env} {H:Heap} {w:World}
def lO (P:Program) (t:TypeId) (rs:Option Operand) (fr:Nat) (path:List Bool):Option R :=
 match P.underlying t,rs with
 | some (.map kT eT),none=>match P.underlying kT,P.info? eT with
  | some .string,some inf=>some ⟨.val false [.mp fr],[(fr,some ⟨I8+inf.size,[.mk],false⟩)],1,[],path⟩
  | _,_=>none
 | _,_=>none
theorem AMi {t:TypeId} {rs:Option Operand} {fr:Nat} {path:List Bool} {r:R} (g:Good β H w) (h:lO P t rs fr path=some r) (hf:∀ b,fr≤b→b<fr+r.nw→β b=none) :
  rs=none∧∃ u w' β',(Instr.makeMap t none).run P w=.ok u w'∧Eff β fr r w u w' β':=by
 unfold lO at h;split at h;case h_2=>cases h
 rename_i kT eT _ _;split at h;case h_2=>cases h
 rename_i inf _ _;injection h with h;subst h;have hfr:=hf fr (gd _) (by simp)
 refine ⟨rfl,.map (some w.heap.size),w.alloc (.map #[] 0),β.put fr (.at_ w.heap.size (0,0)),by simp [Instr.makeMap],?_⟩
 exact {
  ext:=Env.le_put _ hfr
  new:=fun b X k=>by
   unfold Env.put at k;split at k
   ·rename_i hb;subst hb;injection k with k;subst k;exact .inr ⟨gd _,by simp,fun B n e=>by injection e with e1 e2;subst e1;exact .inl (gd _)⟩
   ·exact .inl k
  lt:=fun b B m k=>by
   unfold Env.put at k;split at k
   ·injection k with k;injection k with k _;subst k;simp
   ·have:=g.lt _ _ _ k;simp;omega
  inj:=fun b b' _ _ _ h1 h2 h3 h4 _ _=>by simp at h3 h4;omega
  val:=Aq ⟨_,Env.put_same ..,rfl⟩
  upd:=fun k y hy=>by
   simp only [ja,gx,gq] at hy;obtain ⟨rfl,rfl⟩:=hy;exact .inr (.inr ⟨w.heap.size,[],#[],0,Env.put_same ..,Nat.le_add_right _ _,⟨[_],[],rfl,rfl,rfl⟩,by show (w.heap.push _)[w.heap.size]? = _;simp,rfl,fun e he=>by cases he⟩)
  frame:=fun B hB _=>by
   show (w.heap.push _)[B]? = _;rw [pu,fv dl]
  size:=by simp
  os:=rfl
  tape:=rfl
  output:=rfl }
def QB (s:Nat) (k:ByteArray):Nat→List Ch→List Bool→Option (Option (List Ch)×dr×List Bool)
 | _,[],path=>some (none,[],path)
 | n+1,.v (.string st)::cs,path=>match FO cs s with
  | some (a,r)=>match path with
   | true::p=>some (some a,[(k==st,true)],p)
   | false::p=>match QB s k n r p with
    | some (x,c,q)=>some (x,(k==st,false)::c,q)
    | none=>none
   | []=>none
  | none=>none
 | _,_,_=>none
theorem Y_ {s:Nat} {k:ByteArray}:∀ {n:Nat} {cs:List Ch} {path:List Bool} {x:Option (List Ch)} {c:dr} {q:List Bool} {es:List MapEntry} {l:List Value},
  QB s k n cs path=some (x,c,q)→AM c→AO β cs l→j9 s es l→∀ i:Nat,
   match x with
   | some a=>∃ j v,Instr.findNow .string (.string k) es i=some (some (j,v))∧Bi β true a v
   | none=>Instr.findNow .string (.string k) es i=some none
 | n,[],path,x,c,q,es,l,h,hc,hl,he,i=>by
  simp only [QB,gq,gx] at h;obtain ⟨rfl,rfl,rfl⟩:=h;simp only [AO] at hl;subst hl;cases es with
  | nil=>rfl
  | cons e es=>have:=he.1;simp at this
 | 0,c0::cs,path,x,c,q,es,l,h,hc,hl,he,i=>by simp [QB] at h
 | n+1,c0::cs,path,x,c,q,es,l,h,hc,⟨l1,l2,h1,h2,h3⟩,he,i=>by
  unfold QB at h;split at h
  ·rename_i e;cases e
  ·rename_i st cs' p e1 e2;injection e2 with e2 e3;subst e2;subst e3;injection e1 with e1;subst e1;split at h;case h_2=>cases h
   rename_i a r hs;simp only [BF] at h1;obtain ⟨rfl,_⟩:=h1;cases es with
   | nil=>have:=he.1;rw [h3] at this;simp at this
   | cons e es =>
    obtain ⟨⟨st',hk⟩,cc,hv,hn⟩:=he.2 e (ni ..)
    have h4:=he.1;rw [h3,List.flatMap_cons,hk,hv] at h4;simp only [kx,mz,Value.string.injEq] at h4;obtain ⟨h5,h4⟩:=h4;subst h5;obtain ⟨f1,f2,f3⟩:=IP hs h2;have h6:(Value.agg ⟨cc⟩).cells.toList=cc:=rfl
    rw [h6,lh] at h4;have h7:l2.take s=cc:=by rw [h4,List.take_left' hn]
    have h8:l2.drop s=es.flatMap fun e=>e.key::e.val.cells.toList:=by rw [h4,List.drop_left' hn]
    rw [h7] at f1;rw [h8] at f2;split at h
    ·simp only [gq,gx] at h;obtain ⟨rfl,rfl,rfl⟩:=h;refine ⟨i,e.val,?_,?_⟩
     ·simp [Instr.findNow,Instr.sameNow,hk,hc.1]
     ·rw [hv];exact ⟨cc,f1,rfl⟩
    ·split at h;case h_2=>cases h
     rename_i y c' q' hq;simp only [gq,gx] at h;obtain ⟨rfl,rfl,rfl⟩:=h;have ih:=Y_ hq hc.2 f2 ⟨rfl,fun e he'=>he.2 e (k_ _ he')⟩ (i+1)
     have hstep:Instr.findNow .string (.string k) (e::es) i=Instr.findNow .string (.string k) es (i+1):=by
      simp [Instr.findNow,Instr.sameNow,hk,hc.1]
     rw [hstep];exact ih
    ·cases h
  ·cases h
def lP (P:Program) (t:TypeId) (x ix:Option AV) (ok:Bool) (H:Heap) (path:List Bool):Option R :=
 match P.underlying t,x,ix with
 | some (.map kT eT),some (.val false [.mp bk]),some (.val false [.v (.string k)])=>match P.underlying kT,P.info? eT,AF H bk with
  | some .string,some inf,some ⟨ty,.mk::cs,_⟩=>match Nat.beq ty (I8+inf.size),ok with
   | true,true=>match QB inf.size k cs.length cs path with
    | some (some a,c,q)=>some ⟨.tup [(true,a),(false,[.b true])],[],0,c,q⟩
    | some (none,c,q)=>match inf.zero with
     | some (.agg ⟨z⟩)=>match Ml z with
      | some zc=>some ⟨.tup [(true,zc),(false,[.b false])],[],0,c,q⟩
      | none=>none
     | _=>none
    | none=>none
   | _,_=>none
  | _,_,_=>none
 | _,_,_=>none
theorem ABO {B bk:Nat} {blk:Blk} {cs:List Ch} (g:Good β H w) (hB:β bk=some (.at_ B (0,0))) (hb:AF H bk=some blk) (hcs:blk.cs=.mk::cs) (ht:I8≤blk.ty) :
  ∃ l es clock,AO β cs l∧w.heap[B]? = some (.map es clock)∧j9 (blk.ty-I8) es.toList l:=by
 rcases g.heap _ _ hb with ⟨B',n,l,t,pre,ty,fz,h1,h2,h3,h4,h5⟩ | ⟨X,h1,hX,_⟩ | ⟨B',l,es,q,h1,h2,h3,h4⟩
 ·exfalso
  rw [hB] at h1;injection h1 with h1;injection h1 with _ h1;subst h1;obtain ⟨_,_,_,_,h6,_⟩:=h5 (fun e=>by rw [e] at ht;exact absurd ht dm)
  rw [hcs] at h2;have:=SA h2
  simp only [LL,EV] at this;simp at h6
  rw [h6.1] at this;simp at this
  omega
 ·rw [hB] at h1;injection h1 with h1;subst h1;exact hX.elim
 ·rw [hB] at h1;injection h1 with h1;injection h1 with h1 _;subst h1;rw [hcs] at h3;obtain ⟨l1,l2,h3,h5,h6⟩:=h3;simp only [BF] at h3;subst h3;simp only [List.singleton_append,mz,true_and] at h6;subst h6;exact ⟨_,es,q,h5,h4⟩
theorem AMj {t:TypeId} {x ix:Option AV} {u v:Value} {ok:Bool} {path:List Bool} {r:R} (g:Good β H w) (hx:∀ A,x=some A→AL β A u) (hi:∀ A,ix=some A→AL β A v)
  (h:lP P t x ix ok H path=some r) (hc:AM r.conds) (fr:Nat):∃ z,(Instr.lookup t u v ok).run P w=.ok z w∧Eff β fr r w z w β:=by
 unfold lP at h;split at h;case h_2=>cases h
 rename_i kT eT bk k hu;obtain ⟨B,hB,h1⟩:=Aw (hx _ rfl)
 injection h1 with h1 _;subst h1;have h2:=(Aw (hi _ rfl)).1
 injection h2 with h2 _;subst h2;split at h;case h_2=>cases h
 rename_i inf ty cs o hk he hb;split at h;case h_2=>cases h
 rename_i hty;obtain ⟨l,es,clock,q1,q2,q3⟩:=ABO g hB hb rfl (by rw [An.1 hty];exact Nat.le_add_right _ _)
 simp only [An.1 hty,qb] at q3;have hkey:(Instr.checkKey es.isEmpty 10000 kT (.string k)).run P w=.ok () w:=by
  unfold Instr.checkKey;simp only [Sem.run_bind,run_underlying hk,Result.andThen];rfl
 split at h
 ·rename_i a c q hf;injection h with h;subst h;obtain ⟨j,y,e1,e2⟩:=Y_ hf hc q1 q3 0;refine ⟨.tuple #[y,.bool true],?_,Eff.pure_ g ⟨_,⟨y,_,e2,⟨_,_,Aq rfl,rfl,rfl⟩,rfl⟩,rfl⟩⟩
  simp [Instr.lookup,run_underlying hu,Result.andThen,Go.MapKept.run_getObj_map q2,hkey,Go.MapKept.run_findKey hk e1]
 ·rename_i c q hf;split at h;case h_2=>cases h
  rename_i z hz;split at h;case h_2=>cases h
  rename_i zc hzc;injection h with h;subst h;have e1:=Y_ hf hc q1 q3 0;refine ⟨.tuple #[.agg ⟨z⟩,.bool false],?_,Eff.pure_ g ⟨_,⟨_,_,⟨z,SG hzc,rfl⟩,⟨_,_,Aq rfl,rfl,rfl⟩,rfl⟩,rfl⟩⟩
  simp [Instr.lookup,run_underlying hu,Result.andThen,Go.MapKept.run_getObj_map q2,hkey,Go.MapKept.run_findKey hk e1,zeroValue,typeInfo,he,hz]
 ·cases h
def lR (P:Program) (t:TypeId) (m k v:Option AV) (H:Heap) (path:List Bool):Option R :=
 match P.underlying t,m,k,v with
 | some (.map kT _),some (.val false [.mp bk]),some (.val false [.v (.string k)]),some (.val true vc)=>match P.underlying kT,AF H bk with
  | some .string,some ⟨ty,.mk::cs,o⟩=>match Nat.beq ty (I8+LL vc),QB (LL vc) k cs.length cs path with
   | true,some (none,c,q)=>some ⟨.any,[(bk,some ⟨ty,.mk::(cs++.v (.string k)::vc),o⟩)],0,c,q⟩
   | _,_=>none
  | _,_=>none
 | _,_,_,_=>none
theorem AMk {t:TypeId} {x k y:Option AV} {u s v:Value} {path:List Bool} {r:R} (g:Good β H w) (hx:∀ A,x=some A→AL β A u) (hk:∀ A,k=some A→AL β A s) (hy:∀ A,y=some A→AL β A v)
  (h:lR P t x k y H path=some r) (hc:AM r.conds) (fr:Nat):∃ w',(Instr.mapUpdate t u s v).run P w=.ok () w'∧Eff β fr r w undef w' β:=by
 unfold lR at h;split at h;case h_2=>cases h
 rename_i kT eT bk kk vc hu;obtain ⟨B,hB,h1⟩:=Aw (hx _ rfl)
 injection h1 with h1 _;subst h1;have h2:=(Aw (hk _ rfl)).1
 injection h2 with h2 _;subst h2;obtain ⟨vl,hv,rfl⟩:=hy _ rfl;split at h;case h_2=>cases h
 rename_i ty cs o hkT hb;split at h;case h_2=>cases h
 rename_i c q hty hf;injection h with h;subst h;have hle:I8≤ty:=by rw [An.1 hty];exact Nat.le_add_right _ _
 obtain ⟨l,es,clock,q1,q2,q3⟩:=ABO g hB hb rfl hle;simp only [An.1 hty,qb] at q3;have e1:=Y_ hf hc q1 q3 0;have hkey:(Instr.checkKey false 10000 kT (.string kk)).run P w=.ok () w:=by
  unfold Instr.checkKey;simp only [Sem.run_bind,run_underlying hkT,Result.andThen];rfl
 obtain ⟨s1,s2⟩:=Go.MapKept.heap_set (o':=.map (es.push { key:=.string kk,val:=.agg ⟨vl⟩,born:=clock }) (clock+1)) q2
 refine ⟨{ w with heap:=w.heap.setIfInBounds B (.map (es.push { key:=.string kk,val:=.agg ⟨vl⟩,born:=clock }) (clock+1)) },?_,?_⟩
 ·simp [Instr.mapUpdate,run_underlying hu,Result.andThen,Go.MapKept.run_getObj_map q2,hkey,Go.MapKept.run_findKey hkT e1,Go.MapKept.run_setObj_map _ q2]
 ·exact {
   ext:=Env.le_refl β
   new:=fun _ _ h=>.inl h
   lt:=fun b B' m h=>by have:=g.lt _ _ _ h;simpa using this
   inj:=fun b b' _ _ _ h1 _ h3=>by simp at h3;omega
   val:=trivial
   upd:=fun k y hy=>by
    simp only [ja,gx,gq] at hy;obtain ⟨rfl,rfl⟩:=hy;refine .inr (.inr ⟨B,l++(.string kk::vl),_,_,hB,hle,⟨[_],_,rfl,OH q1 ⟨[_],vl,⟨rfl,rfl,trivial⟩,hv,rfl⟩,rfl⟩,s1,?_,?_⟩)
    ·rw [Array.toList_push,List.flatMap_append,← q3.1,List.flatMap_cons,List.flatMap_nil,iq];rfl
    ·intro e he;simp only [Array.toList_push,gl,ja] at he;simp only [An.1 hty,qb];rcases he with he | rfl
     ·exact q3.2 e he
     ·exact ⟨⟨_,rfl⟩,vl,rfl,SA hv⟩
   frame:=fun B' hB' hne=>s2 B' fun e=>hne _ _ (0,0) (ja.2 rfl) (by rw [e];exact hB)
   size:=by simp
   os:=rfl
   tape:=rfl
   output:=rfl }
end
abbrev ASpec:=List AV→Heap→Nat→List Bool→Option R
structure Orc where
 call:FuncId→Option ASpec
 eqt:TypeId→Option (List (Option IntKind))
def A_ (β:Env):List AV→List Value→Prop
 | [],l=>l=[]
 | x::xs,l=>∃ u us,AL β x u∧A_ β xs us∧l=u::us
theorem ABP {β:Env}:∀ {xs ys:List AV} {us vs:List Value},A_ β xs us→A_ β ys vs→A_ β (xs++ys) (us++vs)
 | [],_,us,_,h,k=>by simp only [A_] at h;subst h;simpa using k
 | x::xs,ys,us,vs,⟨u,us',h1,h2,h3⟩,k=>⟨u,us'++vs,h1,ABP h2 k,by simp [h3]⟩
def Mn (P:Program) (f:FuncId) (args:Array Value) (w:World) (R:Ending→World→Prop):Prop :=
 match (callFunc f args).run P w with
 | .ok (.value v) w'=>R (.returned v) w'
 | .ok (.enter f' args') w'=>Calls P f' args' w' R
 | _=>False
def Y' (β:Env) (fr:Nat) (r:R) (w:World):Ending→World→Prop:=fun e w'=>∃ u β',e=.returned u∧Eff β fr r w u w' β'
def A' (P:Program) (f:FuncId) (s:ASpec):Prop :=
 ∀ (args:List AV) (H:Heap) (fr:Nat) (path:List Bool) (r:R) (β:Env) (us:List Value) (w:World),s args H fr path=some r→AM r.conds→A_ β args us→Good β H w →
  (∀ b,fr≤b→b<fr+r.nw→β b=none)→Mn P f ⟨us⟩ w (Y' β fr r w)
structure OrcOk (P:Program) (O:Orc):Prop where
 call:∀ f s,O.call f=some s→A' P f s
 eqt:∀ t ks,O.eqt t=some ks→FT P 20 t=some ks∧P.eqGuardType P.depth t=false∧(match P.underlying t with | some d=>wide d | none=>false)=true
def OO (τ:Nat→AV):List Operand→Option (List AV)
 | []=>some []
 | x::xs=>match Br τ x,OO τ xs with
  | some a,some r=>some (a::r)
  | _,_=>none
theorem ZA {β:Env} {τ:Nat→AV} {a:Act} (ht:∀ t,AL β (τ t) (a.tmps.getD t undef)):∀ {xs:List Operand} {r:List AV},OO τ xs=some r→A_ β r (xs.map a.eval)
 | [],r,h=>by simp only [OO,gq] at h;subst h;rfl
 | x::xs,r,h=>by
  simp only [OO] at h;split at h
  ·rename_i A r' h1 h2;injection h with h;subst h;exact ⟨_,_,IS ht h1,ZA ht h2,rfl⟩
  ·cases h
def SS:List (Nat×Nat)→List AV
 | []=>[]
 | (b,o)::r=>.val false [.p b o]::SS r
theorem lS {β:Env}:∀ {caps:List (Nat×Nat)} {ps:List Value},FM β caps ps→A_ β (SS caps) ps
 | [],ps,h=>by simpa [FM,A_,SS] using h
 | (b,o)::r,ps,⟨B,n,l',h1,h2,h3⟩=>⟨_,l',Aq ⟨B,n,h1,rfl⟩,lS h2,h3⟩
def Vu:List AV→Option (List (Nat×Nat))
 | []=>some []
 | .val false [.p b o]::r=>match Vu r with | some l=>some ((b,o)::l) | none=>none
 | _=>none
theorem ABQ {β:Env}:∀ {xs:List AV} {caps:List (Nat×Nat)} {us:List Value},Vu xs=some caps→A_ β xs us→FM β caps us
 | [],caps,us,h,hr=>by simp only [Vu,gq] at h;subst h;simpa [FM,A_] using hr
 | x::xs,caps,us,h,hr=>by
  unfold Vu at h;split at h
  ·cases ‹_::_=[]›
  ·rename_i b o r he;injection he with e1 e2;subst e1;subst e2;split at h
   ·rename_i l hl;injection h with h;subst h;obtain ⟨u,us',h1,h2,h3⟩:=hr;obtain ⟨B,n,e1,e2⟩:=Aw h1;injection e2 with e2 _;subst e2;exact ⟨B,n,us',e1,ABQ hl h2,h3⟩
   ·cases h
  ·cases h
def lU (P:Program) (t:TypeId) (x:Option AV) (path:List Bool):Option R :=
 match P.underlying t,x with
 | some (.slice _),some (.val false [.v (.slice none _ m)])=>match AJ .i64 m with
  | true=>some (CA (.val false [.n .i64 m]) path)
  | false=>none
 | some (.slice _),some (.val false [.sl _ _ _ m])=>some ⟨.val false [.v (.int .i64 m)],[],0,[(AJ .i64 m,true),(Nat.ble 1 m,true)],path⟩
 | _,_=>none
theorem AMl {P:Program} {β:Env} {H:Heap} {w:World} {t ty:TypeId} {x:Option AV} {u:Value} {path:List Bool} {r:R} (g:Good β H w) (hx:∀ A,x=some A→AL β A u) (h:lU P t x path=some r) (hc:AM r.conds) (fr:Nat) :
  ∃ v,(Builtin.cap_ #[t] ty #[u]).run P w=.ok v w∧Eff β fr r w v w β:=by
 unfold lU at h;split at h
 ·rename_i e len m hu;split at h
  ·rename_i hh;injection h with h;subst h;have:=(Aw (hx _ rfl)).1
   injection this with e2 _;subst e2;refine ⟨.int .i64 m,?_,Eff.pure_ g (Aq ⟨rfl,(E7 _ _).2 hh⟩)⟩
   simp [Builtin.cap_,run_underlying hu,goInt]
  ·cases h
 ·rename_i e bk off len m hu;injection h with h;subst h;refine ⟨.int .i64 m,?_,Eff.pure_ g (Aq ⟨rfl,rfl,(E7 _ _).2 hc.1⟩)⟩
  have hm:=f_ hc.2.1;rcases Aw (hx _ rfl) with ⟨B,n,e1,e2⟩ | ⟨_,_,_,rfl,e2⟩ | ⟨_,_,_,rfl,_⟩
  case inr.inr=>exact absurd hm dm
  ·injection e2 with e2 _;subst e2;simp [Builtin.cap_,run_underlying hu,goInt]
  ·injection e2 with e2 _;subst e2;simp [Builtin.cap_,run_underlying hu,goInt]
 ·cases h
def lV (P:Program) (ts:Array TypeId) (s x:Option AV) (fr:Nat) (path:List Bool):Option R :=
 match ts[0]?,ts[1]? with
 | some sT,some xT=>match P.underlying sT,P.underlying xT,s with
  | some (.slice e),some (.int _),some (.val false [.v (.slice none 0 0)])=>match P.info? e,Bg x with
   | some inf,some (_,.i64,l)=>match inf.zero with
    | some (.int kd z)=>match decide (z=0),Nat.beq inf.size 1 with
     | true,true=>some (DK fr e inf (.int kd 0) [] [] [.seq kd (List.replicate l.toNat 0)] 0 l.toNat [] [(decide (0≤l∧l≤9223372036854775807),true)] path)
     | _,_=>none
    | _=>none
   | _,_=>none
  | _,_,_=>none
 | _,_=>none
theorem AMm {β:Env} (kd:IntKind) (n:Nat):AO β [.seq kd (List.replicate n 0)] (List.replicate n (.int kd 0)):=by
 have h0:has kd 0:=by cases kd<;>exact ⟨dm,dm⟩
 have:=ON (β:=β) (kd:=kd) (xs:=List.replicate n 0) (fun x hx=>by rw [List.eq_of_mem_replicate hx];exact h0)
 rwa [List.map_replicate] at this
theorem AMn {P:Program} {β:Env} {H:Heap} {w:World} {ts:Array TypeId} {ty fr:Nat} {s x:Option AV} {u v:Value} {path:List Bool} {r:R} (g:Good β H w) (hx:∀ A,s=some A→AL β A u) (hy:∀ A,x=some A→AL β A v)
  (h:lV P ts s x fr path=some r) (hc:AM r.conds) (hf:∀ b,fr≤b→b<fr+r.nw→β b=none) :
  ∃ q w' β',(Builtin.append_ ts ty #[u,v]).run P w=.ok q w'∧Eff β fr r w q w' β':=by
 unfold lV at h;split at h;case h_2=>cases h
 rename_i sT xT h0 h1;split at h;case h_2=>cases h
 rename_i e k hu hd;split at h;case h_2=>cases h
 rename_i inf c l hi hl;split at h;case h_2=>cases h
 rename_i kd z hz;split at h;case h_2=>cases h
 rename_i hz0 hsz;injection h with h;subst h;have hfr:=hf fr (gd _) (by simp [DK])
 obtain rfl:=gv hz0
 have hsz:=An.1 hsz;have:=(Aw (hx _ rfl)).1
 injection this with e1 _;subst e1;obtain ⟨rfl,hr⟩:=Cy hy hl;obtain ⟨c1,c2,_⟩:=hc;have c1:=gv c1;have c2:=gv c2;obtain ⟨n,rfl⟩:=ic c1.1;rw [gj,gz] at c2;rw [gj];have hw:IntKind.i64.wrap (n:Int)=n:=by rw [IntKind.wrap_i64];omega
 have hneg:¬ ((n:Int)<0):=dl
 have hle:n*inf.bytes≤281474976710656:=by
  have:2*n*inf.bytes=2*(n*inf.bytes):=iw ..
  omega
 have hbig:¬ (281474976710656<(n:Int)*inf.bytes):=by
  have:(n:Int)*inf.bytes=((n*inf.bytes:Nat):Int):=by simp
  omega
 rcases jh n with hn0 | hpos
 ·subst hn0;refine ⟨.slice none 0 0,w,β.put fr .nil,?_,Y7 g hfr rfl ⟨[],[],⟨rfl,by simp⟩,rfl,rfl⟩ (by simp)⟩
  simp [Builtin.append_,h0,h1,run_underlying hu,run_underlying hd,sizeOf,typeInfo,hi,asInt,asIntOf,IntKind.wrap_i64]
 ·have hc1:¬ (281474976710656<Builtin.nextslicecap n 0*inf.bytes):=by
   have:=jp inf.bytes (ABK (need:=n) (old:=0) dl)
   omega
  have hb0:¬ inf.bytes=0:=dl
  have hn0:¬ n=0:=dl
  refine ⟨_,_,_,?_,ABN (c:=(Question.appendCap n 0 e).cut (w.tape w.drawn (.appendCap n 0 e))) (lo:=[]) (ln:=List.replicate n (.int kd 0)) (rest:=(Builtin.zeroCells #[.int kd 0] ((Question.appendCap n 0 e).cut (w.tape w.drawn (.appendCap n 0 e))-n)).toList) g hfr rfl (AMm kd n) (by simp) (by simp only [Question.cut];omega) ?_ ?_⟩
  ·simp [Builtin.append_,h0,h1,run_underlying hu,run_underlying hd,sizeOf,typeInfo,hi,asInt,asIntOf,hw,hneg,hbig,hn0,hc1,hb0,Question.forced,zeroValue,hz,newRow,Builtin.firstCells]
   rw [fv dl,fv (by rw [hsz,g_];exact hn0)]
   have hz1:Builtin.zeroCells (Value.int kd 0).cells n=⟨List.replicate n (.int kd 0)⟩:=by
    apply jq
    refine og (by simp [Builtin.zeroCells,show (Value.int kd 0).cells=#[Value.int kd 0] from rfl]) fun i h1 h2=>?_
    simp [Builtin.zeroCells,show (Value.int kd 0).cells=#[Value.int kd 0] from rfl,Nat.mod_one]
   rw [hz1];congr 3
   apply jq
   rw [Array.toList_append];rfl
  ·simp only [lh,ib,kt,ABL,hsz,g_];simp only [Question.cut];rw [show #[Value.int kd 0].size=1 from rfl]
   omega
  ·exact ABM (.int kd 0) rfl _
def lW (P:Program) (O:Orc) (c:Call) (τ:Nat→AV) (H:Heap) (fr:Nat) (path:List Bool):Option R :=
 match OO τ c.args.toList with
 | none=>none
 | some args=>match c.callee with
  | .value f=>match Br τ f with
   | some (.val false [.v (.func (.func id) ⟨[]⟩ ⟨[]⟩)])=>match O.call id with
    | some s=>s args H fr path
    | none=>none
   | some (.val false [.clo id caps])=>match O.call id with
    | some s=>s (args++SS caps) H fr path
    | none=>none
   | some (.val false [.mth id bk off])=>match O.call id with
    | some s=>s (.val true [.p bk off]::args) H fr path
    | none=>none
   | _=>none
  | .builtin .len=>match args,c.argTypes[0]? with
   | [x],some t=>match Nat.beq c.argTypes.size 1 with
    | true=>lG P t (some x) path
    | false=>none
   | _,_=>none
  | .builtin .max=>match args with
   | [x,y]=>Y2 true (some x) (some y) path
   | _=>none
  | .builtin .min=>match args with
   | [x,y]=>Y2 false (some x) (some y) path
   | _=>none
  | .builtin .copy=>match args,c.argTypes.toList with
   | [x,y],[dT,_]=>Y5 P dT (some x) (some y) H path
   | _,_=>none
  | .builtin .clear=>match args,c.argTypes.toList with
   | [x],[t]=>lI P t (some x) H path
   | _,_=>none
  | .builtin .append=>match args with
   | [x,y]=>match lV P c.argTypes (some x) (some y) fr path with
    | some r=>some r
    | none=>lL P c.argTypes (some x) (some y) H fr path
   | _=>none
  | .builtin .cap=>match args,c.argTypes.toList with
   | [x],[t]=>lU P t (some x) path
   | _,_=>none
  | _=>none
def lX (c x y:Option AV) (path:List Bool):Option R :=
 match E8 c with
 | some (true,z)=>match z,x,y with
  | true,some A,_=>some (CA A path)
  | false,_,some A=>some (CA A path)
  | _,_,_=>none
 | some (false,z)=>match path,x,y with
  | true::rest,some A,_=>some ⟨A,[],0,[(z,true)],rest⟩
  | false::rest,_,some A=>some ⟨A,[],0,[(z,false)],rest⟩
  | _,_,_=>none
 | none=>none
def ZB (k:IntKind):List (Option IntKind)→Bool
 | []=>true
 | some k'::r=>decide (k'=k)&&ZB k r
 | none::_=>false
def lY (ks:List (Option IntKind)) (a b:List Ch):Option Bool :=
 match ks with
 | some k::_=>match Az k a,Az k b,ZB k ks with
  | some xs,some ys,true=>match Nat.beq xs.length ks.length&&Nat.beq ys.length ks.length with
   | true=>some (decide (xs=ys))
   | false=>none
  | _,_,_=>none
 | _=>none
theorem l5 {k:IntKind}:∀ {ks:List (Option IntKind)} {xs:dp},ZB k ks=true→xs.length=ks.length→CD ks (xs.map (.int k))
 | [],[],_,_=>trivial
 | [],_::_,_,h=>by simp at h
 | some k'::r,[],_,h=>by simp at h
 | some k'::r,x::xs,h,hl=>by
  simp only [ZB,gi,gc] at h;exact ⟨h.1.symm,l5 h.2 (by simpa using hl)⟩
 | none::_,_,h,_=>by cases h
theorem ABR {k:IntKind}:∀ {xs ys:dp},xs.length=ys.length→Cq (xs.map (.int k)) (ys.map (.int k))=decide (xs=ys)
 | [],[],_=>by simp [Cq]
 | [],_::_,h=>by simp at h
 | _::_,[],h=>by simp at h
 | x::xs,y::ys,h=>by
  simp only [i_,Cq];rw [ABR (by simpa using h)]
  by_cases h1:x=y<;>by_cases h2:xs=ys<;>simp [h1,h2]
def l6:Option AV→Option Nat
 | some (.val false [.sl _ _ n _])=>some n
 | some (.val false [.sx _ n _])=>some n
 | _=>none
def l7 (P:Program) (op:BinOp) (t:TypeId) (x y:Option AV) (path:List Bool):Option R :=
 match P.underlying t,l6 x,y with
 | some (.slice _),some n,some (.val false [.v (.slice none 0 0)])=>match op with
  | .eql=>some ⟨.val false [.b false],[],0,[(Nat.beq n 0,false)],path⟩
  | .neq=>some ⟨.val false [.b true],[],0,[(Nat.beq n 0,false)],path⟩
  | _=>none
 | _,_,_=>none
theorem ABS {β:Env} {x:Option AV} {u:Value} {n:Nat} (hx:∀ A,x=some A→AL β A u) (h:l6 x=some n) (hn:Nat.beq n 0=false):∃ a c,u=.slice (some a) n c:=by
 have h0:=IR hn;unfold l6 at h;split at h
 ·injection h with h;subst h;rcases Aw (hx _ rfl) with ⟨B,nn,_,e2⟩ | ⟨_,_,e,_,_⟩ | ⟨_,_,e,_⟩
  ·injection e2 with e2 _;exact ⟨_,_,e2⟩
  ·exact absurd e h0
  ·exact absurd e h0
 ·injection h with h;subst h;rcases Aw (hx _ rfl) with ⟨B,nn,cap,_,e2,_⟩ | ⟨_,e,_⟩
  ·injection e2 with e2 _;exact ⟨_,_,e2⟩
  ·exact absurd e h0
 ·cases h
theorem AMo {P:Program} {β:Env} {H:Heap} {w:World} {op:BinOp} {t:TypeId} {x y:Option AV} {u v:Value} {X Y:Operand} {path:List Bool} {r:R} (g:Good β H w) (hx:∀ A,x=some A→AL β A u) (hy:∀ A,y=some A→AL β A v)
  (h:l7 P op t x y path=some r) (hc:AM r.conds) (fr:Nat):∃ z,(do eqGuard op t X Y u v;binOp op t u v:Sem Value).run P w=.ok z w∧Eff β fr r w z w β:=by
 unfold l7 at h;split at h;case h_2=>cases h
 rename_i e n hu hn;have:=(Aw (hy _ rfl)).1
 injection this with e2 _;subst e2;split at h
 ·injection h with h;subst h;obtain ⟨a,c,rfl⟩:=ABS hx hn hc.1;refine ⟨.bool false,?_,Eff.pure_ g (Aq rfl)⟩
  rw [Sem.run_bind,eqGuard_at_slice];simp only [Sem.run_pure,Result.andThen_ok];show (do pure (.bool (← Op.equal t (.slice (some a) n c) (.slice none 0 0))):Sem Value).run P w=_
  rw [Sem.run_bind,run_equal_slice_nil w t e (some a) n c hu];rfl
 ·injection h with h;subst h;obtain ⟨a,c,rfl⟩:=ABS hx hn hc.1;refine ⟨.bool true,?_,Eff.pure_ g (Aq rfl)⟩
  rw [Sem.run_bind,eqGuard_at_slice];simp only [Sem.run_pure,Result.andThen_ok];show (do pure (.bool (!(← Op.equal t (.slice (some a) n c) (.slice none 0 0)))):Sem Value).run P w=_
  rw [Sem.run_bind,run_equal_slice_nil w t e (some a) n c hu];rfl
 ·cases h
def l9 (P:Program) (O:Orc) (op:BinOp) (t:TypeId) (x y:Option AV) (path:List Bool):Option R :=
 match Bg x,Bg y with
 | some (c,k,i),some (c',k',j)=>match op with
  | .shl | .shr=>match kR op (c&&c') k i j with
   | some (z,l)=>some ⟨OJ (c&&c') k z,[],0,l,path⟩
   | none=>none
  | _=>match decide (k=k') with
   | true=>match kP op (c&&c') k i j with
    | some (z,l)=>some ⟨OJ (c&&c') k z,[],0,l,path⟩
    | none=>match kQ op i j with
     | some z=>some (CA (LP (c&&c') z) path)
     | none=>none
   | false=>none
 | _,_=>match E8 x,E8 y,P.underlying t with
  | some (c,b),some (c',b'),some .bool=>match op with
   | .eql=>some (CA (LP (c&&c') (b==b')) path)
   | .neq=>some (CA (LP (c&&c') (!(b==b'))) path)
   | _=>none
  | _,_,_=>match x,y,O.eqt t with
   | some (.val false [.v (.string a)]),some (.val false [.v (.string b)]),_=>match op with
    | .eql=>some (CA (LP false (a.toList==b.toList)) path)
    | .neq=>some (CA (LP false (!(a.toList==b.toList))) path)
    | _=>none
   | some (.val true a),some (.val true b),some ks=>match LS (ks.length+2) ks a&&LS (ks.length+2) ks b,J8 (ks.length+2) a b,op with
    | true,some e,.eql=>some (CA (LP false e) path)
    | true,some e,.neq=>some (CA (LP false (!e)) path)
    | _,_,_=>match lY ks a b,op with
     | some e,.eql=>some (CA (LP false e) path)
     | some e,.neq=>some (CA (LP false (!e)) path)
     | _,_=>none
   | x,y,_=>l7 P op t x y path
def mA (P:Program) (O:Orc) (o:Oper) (τ:Nat→AV) (H:Heap) (fr:Nat) (path:List Bool):Option R :=
 match o.op with
 | .move x | .assign x=>match Br τ x with | some A=>some (CA A path) | none=>none
 | .pick c x y=>lX (Br τ c) (Br τ x) (Br τ y) path
 | .alloc t=>kE P t fr path
 | .box t x=>kF t (Br τ x) fr path
 | .build t parts=>lB P τ t parts.toList path
 | .buildSlice t len parts=>lC P τ t len parts.toList fr path
 | .load t x=>kI P t (Br τ x) H path
 | .store t x y=>kO P t (Br τ x) (Br τ y) H path
 | .nilCheck x=>match Br τ x with
  | some (.val false [.p b o])=>some (CA (.val false [.p b o]) path)
  | some (.val false [.clo f c])=>some (CA (.val false [.clo f c]) path)
  | some (.val false [.mth f b o])=>some (CA (.val false [.mth f b o]) path)
  | some (.val false [.v (.func (.func f) a c)])=>some (CA (.val false [.v (.func (.func f) a c)]) path)
  | _=>none
 | .binOp op t x y _=>l9 P O op t (Br τ x) (Br τ y) path
 | .unOp op _ x=>lE op (Br τ x) path
 | .convert s d x=>match lD P s d (Br τ x) path with
  | some r=>some r
  | none=>match lM P s d (Br τ x) H path with
   | some r=>some r
   | none=>lN P s d (Br τ x) H fr path
 | .sliceToArrayPointer t x=>k9 P t (Br τ x) path
 | .makeFunc (.func f) first captured=>match first.toList,OO τ captured.toList with
  | [],some xs=>match Vu xs with
   | some caps=>some (CA (.val false [.clo f caps]) path)
   | none=>none
  | [x],some []=>match Br τ x with
   | some (.val true [.p bk off])=>some (CA (.val false [.mth f bk off]) path)
   | _=>none
  | _,_=>none
 | .makeSlice t l c=>lF P t (Br τ l) (Br τ c) fr path
 | .slice t x lo hi mx=>k8 P t (Br τ x) (lo.map (Br τ)) (hi.map (Br τ)) (mx.map (Br τ)) path
 | .fieldAddr t x f=>kY P t (Br τ x) f path
 | .field t x f=>kZ P t (Br τ x) f path
 | .indexAddr t x i=>k7 P t (Br τ x) (Br τ i) path
 | .index t x i=>k6 P t (Br τ x) (Br τ i) path
 | .extract x i=>match Br τ x with
  | some (.tup xs)=>match xs[i]? with
   | some (g,cs)=>some (CA (.val g cs) path)
   | none=>none
  | _=>none
 | .makeMap t rs=>lO P t rs fr path
 | .lookup t x i ok=>lP P t (Br τ x) (Br τ i) ok H path
 | .mapUpdate t m k x=>lR P t (Br τ m) (Br τ k) (Br τ x) H path
 | .call c=>lW P O c τ H fr path
 | _=>none
theorem ABT {β:Env}:∀ {xs:List (Bool×List Ch)} {us:List Value} {i:Nat} {g:Bool} {cs:List Ch},FN β xs us→xs[i]? = some (g,cs)→∃ u,us[i]? = some u∧Bi β g cs u
 | [],_,i,_,_,_,h=>by simp at h
 | (g',c')::xs,us,0,g,cs,⟨u,l',h1,_,h3⟩,h=>by
  simp only [md,gq,gx] at h;obtain ⟨rfl,rfl⟩:=h;exact ⟨u,by simp [h3],h1⟩
 | (g',c')::xs,us,i+1,g,cs,⟨u,l',h1,h2,h3⟩,h=>by
  obtain ⟨v,hv,hr⟩:=ABT h2 (by simpa using h)
  exact ⟨v,by simpa [h3] using hv,hr⟩
section
variable {P:Program} {O:Orc} {β:Env} {H:Heap} {w:World} {τ:Nat→AV} {a:Act}
theorem AMp (hO:OrcOk P O) {op:BinOp} {t:TypeId} {x y:Option AV} {u v:Value} {X Y:Operand} {path:List Bool} {r:R} (g:Good β H w) (hx:∀ A,x=some A→AL β A u) (hy:∀ A,y=some A→AL β A v)
  (h:l9 P O op t x y path=some r) (hc:AM r.conds) (fr:Nat):∃ z,(do eqGuard op t X Y u v;binOp op t u v:Sem Value).run P w=.ok z w∧Eff β fr r w z w β:=by
 unfold l9 at h;split at h
 ·rename_i c k i c' k' j hi hj;obtain ⟨rfl,i1⟩:=Cy hx hi;obtain ⟨rfl,j1⟩:=Cy hy hj;split at h
  ·split at h
   ·rename_i z l hz;injection h with h;subst h;obtain ⟨q1,q2⟩:=AA2 (P:=P) (w:=w) (yk:=k') hz hc i1 t X Y
    exact ⟨_,q1,Eff.pure_ g (OK _ q2)⟩
   ·cases h
  ·split at h
   ·rename_i z l hz;injection h with h;subst h;obtain ⟨q1,q2⟩:=AA2 (P:=P) (w:=w) (yk:=k') hz hc i1 t X Y
    exact ⟨_,q1,Eff.pure_ g (OK _ q2)⟩
   ·cases h
  ·split at h
   ·rename_i hk;have hk':k=k':=by simpa using hk
    subst hk';split at h
    ·rename_i z l hz;injection h with h;subst h;obtain ⟨q1,q2⟩:=AMC (P:=P) (w:=w) hz hc i1 t X Y
     exact ⟨_,q1,Eff.pure_ g (OK _ q2)⟩
    ·split at h
     ·rename_i z hz;injection h with h;subst h;exact ⟨_,AMD (P:=P) (w:=w) hz t X Y,Eff.pure_ g (Mm _ _)⟩
     ·cases h
   ·cases h
 ·split at h
  ·rename_i c b c' b' hb hb' hu;obtain rfl:=J7 hx hb
   obtain rfl:=J7 hy hb'
   split at h
   ·injection h with h;subst h;refine ⟨.bool (b==b'),?_,Eff.pure_ g (Mm _ _)⟩
    rw [Sem.run_bind,eqGuard_at_bool];simp only [Sem.run_pure,Result.andThen_ok];exact run_eql_bool w t b b' hu
   ·injection h with h;subst h;refine ⟨.bool (!(b==b')),?_,Eff.pure_ g (Mm _ _)⟩
    rw [Sem.run_bind,eqGuard_at_bool];simp only [Sem.run_pure,Result.andThen_ok];exact run_neq_bool w t b b' hu
   ·cases h
  split at h
  ·rename_i a b _ _;have e1:=(Aw (hx _ rfl)).1
   have e2:=(Aw (hy _ rfl)).1
   injection e1 with e1 _;subst e1;injection e2 with e2 _;subst e2;split at h
   ·injection h with h;subst h;refine ⟨.bool (a.toList==b.toList),?_,Eff.pure_ g (Mm _ _)⟩
    simp [eqGuard,binOp,Op.stringOp]
   ·injection h with h;subst h;refine ⟨.bool (!(a.toList==b.toList)),?_,Eff.pure_ g (Mm _ _)⟩
    simp [eqGuard,binOp,Op.stringOp]
   ·cases h
  ·rename_i A B ks hk _ _;obtain ⟨l,hl,rfl⟩:=hx _ rfl;obtain ⟨m,hm,rfl⟩:=hy _ rfl;obtain ⟨k1,k2,k3⟩:=hO.eqt _ _ hk;have core:∀ e,(LS (ks.length+2) ks A&&LS (ks.length+2) ks B)=true→J8 (ks.length+2) A B=some e→(Op.equalIn 10000 t (.agg ⟨l⟩) (.agg ⟨m⟩)).run P w=.ok e w:=by
    intro e hf he;have hf':=gk.1 hf;have:=AA' 20 t ks 10000 k1 dm l m (.agg ⟨l⟩) (.agg ⟨m⟩) w (Vr hf'.1 hl) (Vr hf'.2 hm) (by
     unfold HA;split at k3
     ·rename_i d hd;first | (rw [hd];show (match wide d with | true=>_ | false=>_);rw [k3]) | simp [k3]
     ·cases k3) (by
     unfold HA;split at k3
     ·rename_i d hd;first | (rw [hd];show (match wide d with | true=>_ | false=>_);rw [k3]) | simp [k3]
     ·cases k3)
    rw [this,AA4 he hl hm]
   have core2:∀ e,lY ks A B=some e→(Op.equalIn 10000 t (.agg ⟨l⟩) (.agg ⟨m⟩)).run P w=.ok e w:=by
    intro e he;unfold lY at he;split at he;case h_2=>cases he
    rename_i k ks';split at he;case h_2=>cases he
    rename_i xs ys h1 h2 h3;split at he;case h_2=>cases he
    rename_i h4;injection he with he;subst he;have h4':=gk.1 h4;obtain ⟨rfl,_⟩:=C8 h1 hl;obtain ⟨rfl,_⟩:=C8 h2 hm;have e1:=An.1 h4'.1;have e2:=An.1 h4'.2;have:=AA' 20 t _ 10000 k1 dm _ _ (.agg ⟨xs.map (.int k)⟩) (.agg ⟨ys.map (.int k)⟩) w (l5 h3 e1) (l5 h3 e2) (by
     unfold HA;split at k3
     ·rename_i d hd;first | (rw [hd];show (match wide d with | true=>_ | false=>_);rw [k3]) | simp [k3]
     ·cases k3) (by
     unfold HA;split at k3
     ·rename_i d hd;first | (rw [hd];show (match wide d with | true=>_ | false=>_);rw [k3]) | simp [k3]
     ·cases k3)
    rw [this,ABR (e1.trans e2.symm)]
   split at h
   ·rename_i e hf he;injection h with h;subst h;refine ⟨.bool e,?_,Eff.pure_ g (Mm _ _)⟩
    rw [Sem.run_bind,run_eqGuard_agg w .eql t X Y _ _ k2];simp only [Result.andThen_ok];rw [run_eql_struct,core e hf he];rfl
   ·rename_i e hf he;injection h with h;subst h;refine ⟨.bool !e,?_,Eff.pure_ g (Mm _ _)⟩
    rw [Sem.run_bind,run_eqGuard_agg w .neq t X Y _ _ k2];simp only [Result.andThen_ok];rw [run_neq_struct,core e hf he];rfl
   ·split at h
    ·rename_i e he _ _;injection h with h;subst h;refine ⟨.bool e,?_,Eff.pure_ g (Mm _ _)⟩
     rw [Sem.run_bind,run_eqGuard_agg w .eql t X Y _ _ k2];simp only [Result.andThen_ok];rw [run_eql_struct,core2 e he];rfl
    ·rename_i e he _ _;injection h with h;subst h;refine ⟨.bool !e,?_,Eff.pure_ g (Mm _ _)⟩
     rw [Sem.run_bind,run_eqGuard_agg w .neq t X Y _ _ k2];simp only [Result.andThen_ok];rw [run_neq_struct,core2 e he];rfl
    ·cases h
  ·exact AMo g hx hy h hc fr
theorem AMq {x y z:Option AV} {u v p:Value} {path:List Bool} {r:R} (g:Good β H w) (hz:∀ A,z=some A→AL β A p) (hx:∀ A,x=some A→AL β A u) (hy:∀ A,y=some A→AL β A v)
  (h:lX z x y path=some r) (hc:AM r.conds) (fr:Nat):∃ q,(do pure (Next.value (if ← asBool p then u else v)):Sem Next).run P w=.ok (.value q) w∧Eff β fr r w q w β:=by
 unfold lX at h;split at h
 ·rename_i b hb;have:=J7 hz hb
  subst this;split at h
  ·injection h with h;subst h;exact ⟨u,by simp [asBool],Eff.pure_ g (hx _ rfl)⟩
  ·injection h with h;subst h;exact ⟨v,by simp [asBool],Eff.pure_ g (hy _ rfl)⟩
  ·cases h
 ·rename_i b hb;have:=J7 hz hb
  subst this;split at h
  ·injection h with h;subst h;have:=hc.1
   subst this;exact ⟨u,by simp [asBool],Eff.pure_ g (hx _ rfl)⟩
  ·injection h with h;subst h;have:=hc.1
   subst this;exact ⟨v,by simp [asBool],Eff.pure_ g (hy _ rfl)⟩
  ·cases h
 ·cases h
theorem CT {o:Oper} {next:Act→World→Prop} {Q:Exit→Act→World→Prop} {u:Value} {w':World} (h:(execOp a.eval o).run P w=.ok (.value u) w') (hn:next (a.put o.dst u) w'):o.wp P a w next Q:=by
 unfold Oper.wp;rw [h];exact hn
theorem ABU {o:Oper} {next:Act→World→Prop} {Q:Exit→Act→World→Prop} {w':World} (h:(execOp a.eval o).run P w=.ok .skip w') (hn:next (a.put o.dst undef) w'):o.wp P a w next Q:=by
 unfold Oper.wp;rw [h];exact hn
theorem E9 {s:Sem Value} {u:Value} {w':World} (h:s.run P w=.ok u w'):(do pure (Next.value (← s)):Sem Next).run P w=.ok (.value u) w':=by
 simp [h]
theorem ABV {s:Sem Unit} {w':World} (h:s.run P w=.ok () w'):(do s;pure Next.skip:Sem Next).run P w=.ok .skip w':=by
 simp [h]
theorem mB {o:Oper} {next:Act→World→Prop} {Q:Exit→Act→World→Prop} {f:FuncId} {us:Array Value} {fr:Nat} {r:R} (h:Mn P f us w (Y' β fr r w))
  (he:(execOp a.eval o).run P w=(callFunc f us).run P w) (hn:∀ u w' β',Eff β fr r w u w' β'→next (a.put o.dst u) w'):o.wp P a w next Q:=by
 unfold Oper.wp;rw [he];unfold Mn at h;split at h
 ·rename_i v w' hr;rw [hr];obtain ⟨u,β',e1,e2⟩:=h;injection e1 with e1;subst e1;exact hn _ _ _ e2
 ·rename_i f' args' w' hr;rw [hr];refine Calls.mono h fun e w'' hq=>?_
  obtain ⟨u,β',rfl,e2⟩:=hq;exact hn _ _ _ e2
 ·exact h.elim
theorem AMr (hO:OrcOk P O) (ht:∀ t,AL β (τ t) (a.tmps.getD t undef)) (g:Good β H w) {o:Oper} {c:Call} (ho:o.op=.call c) {fr:Nat} {path:List Bool} {r:R} (h:lW P O c τ H fr path=some r) (hc:AM r.conds)
  (hf:∀ b,fr≤b→b<fr+r.nw→β b=none) {next:Act→World→Prop} {Q:Exit→Act→World→Prop} (hn:∀ u w' β',Eff β fr r w u w' β'→next (a.put o.dst u) w'):o.wp P a w next Q:=by
 unfold lW at h;split at h;case h_1=>cases h
 rename_i args hargs;have hrel:=ZA ht hargs;have hmap:c.args.map a.eval=⟨c.args.toList.map a.eval⟩:=by apply jq;simp
 have hbuiltin:∀ b,c.callee=.builtin b→∃ k,(execOp a.eval o).run P w=(builtin b c.argTypes o.type k (c.args.map a.eval)).run P w:=by
  intro b hb;refine ⟨c.args.map fun x=>match x with | .const _=>true | _=>false,?_⟩
  simp only [execOp,ho,resolve,hb,Sem.run_bind,Sem.run_pure,Result.andThen_ok,invoke];rfl
 split at h
 ·rename_i f hcal;split at h
  ·rename_i id hev;split at h
   ·rename_i s hs;have hr:=(Aw (IS ht hev)).1
    injection hr with hr _;refine mB (hO.call _ _ hs args H fr path r β _ w h hc hrel g hf) ?_ hn
    simp [execOp,ho,resolve,hcal,hr,Deferred.ofValue,invoke,hmap]
   ·cases h
  ·rename_i id caps hev;split at h
   ·rename_i s hs;obtain ⟨ps,hp,hr⟩:=Aw (IS ht hev)
    injection hr with hr _;refine mB (hO.call _ _ hs _ H fr path r β _ w h hc (ABP hrel (lS hp)) g hf) ?_ hn
    simp [execOp,ho,resolve,hcal,hr,Deferred.ofValue,invoke,hmap]
   ·cases h
  ·rename_i id bk off hev;split at h
   ·rename_i s hs;obtain ⟨B,n,hb,hr⟩:=Aw (IS ht hev)
    injection hr with hr _;refine mB (hO.call _ _ hs _ H fr path r β _ w h hc ⟨_,_,⟨_,⟨[_],[],⟨B,n,hb,rfl⟩,rfl,rfl⟩,rfl⟩,hrel,rfl⟩ g hf) ?_ hn
    simp [execOp,ho,resolve,hcal,hr,Deferred.ofValue,invoke,hmap]
   ·cases h
  ·cases h
 ·rename_i hcal;split at h
  ·rename_i x t hcc;split at h
   ·rename_i hsz;obtain ⟨u,us,h1,h2,h3⟩:=hrel;simp only [A_] at h2;subst h2;obtain ⟨v,hv,he⟩:=AMX (ty:=o.type) (u:=u) g (fun A hA=>by injection hA with hA;subst hA;exact h1) h hc fr
    have hat:c.argTypes=#[t]:=by
     have h1:=An.1 hsz;rcases hq:c.argTypes with ⟨l⟩
     rw [hq] at h1 hcc;cases l with
     | nil=>simp at h1
     | cons y l=>cases l with
      | nil=>simp at hcc;rw [hcc]
      | cons z l=>simp at h1
    refine CT ?_ (hn _ _ _ he)
    obtain ⟨k,hk⟩:=hbuiltin _ hcal;rw [hk];simp only [builtin,hmap,h3,hat];simp [hv]
   ·cases h
  ·cases h
 ·rename_i hcal;split at h
  ·rename_i x y;obtain ⟨u,us,h1,h2,h3⟩:=hrel;obtain ⟨v,us',k1,k2,k3⟩:=h2;simp only [A_] at k2;subst k2;subst k3;obtain ⟨z,hz,he⟩:=ABD (P:=P) (ts:=c.argTypes) (ty:=o.type) (u:=u) (v:=v) g (fun A hA=>by injection hA with hA;subst hA;exact h1) (fun A hA=>by injection hA with hA;subst hA;exact k1) h fr
   refine CT ?_ (hn _ _ _ he)
   obtain ⟨k,hk⟩:=hbuiltin _ hcal;rw [hk];simp only [builtin,hmap,h3];simp only at hz
   simp [hz]
  ·cases h
 ·rename_i hcal;split at h
  ·rename_i x y;obtain ⟨u,us,h1,h2,h3⟩:=hrel;obtain ⟨v,us',k1,k2,k3⟩:=h2;simp only [A_] at k2;subst k2;subst k3;obtain ⟨z,hz,he⟩:=ABD (P:=P) (ts:=c.argTypes) (ty:=o.type) (u:=u) (v:=v) g (fun A hA=>by injection hA with hA;subst hA;exact h1) (fun A hA=>by injection hA with hA;subst hA;exact k1) h fr
   refine CT ?_ (hn _ _ _ he)
   obtain ⟨k,hk⟩:=hbuiltin _ hcal;rw [hk];simp only [builtin,hmap,h3];simp only at hz
   simp [hz]
  ·cases h
 ·rename_i hcal;split at h
  ·rename_i x y dT sT hat;obtain ⟨u,us,h1,h2,h3⟩:=hrel;obtain ⟨v,us',k1,k2,k3⟩:=h2;simp only [A_] at k2;subst k2;subst k3;obtain ⟨z,w',hz,he⟩:=AMY (sT:=sT) (ty:=o.type) (u:=u) (v:=v) g (fun A hA=>by injection hA with hA;subst hA;exact h1) (fun A hA=>by injection hA with hA;subst hA;exact k1) h hc fr
   have hat':c.argTypes=#[dT,sT]:=by apply jq;rw [hat]
   refine CT (u:=z) (w':=w') ?_ (hn _ _ _ (by
    refine { he with val:=?_ }
    have hv:r.val=.any:=by
     unfold Y5 at h;split at h
     ·split at h
      ·split at h
       ·split at h
        ·injection h with h;subst h;rfl
        ·cases h
       ·cases h
      ·cases h
     ·cases h
    rw [hv];trivial))
   obtain ⟨k,hk⟩:=hbuiltin _ hcal;rw [hk];simp only [builtin,hmap,h3,hat'];simp [hz]
  ·cases h
 ·rename_i hcal;split at h
  ·rename_i x t hat;obtain ⟨u,us,h1,h2,h3⟩:=hrel;simp only [A_] at h2;subst h2;obtain ⟨z,w',hz,he⟩:=AMZ (ty:=o.type) (u:=u) g (fun A hA=>by injection hA with hA;subst hA;exact h1) h hc fr
   have hat':c.argTypes=#[t]:=by apply jq;rw [hat]
   refine CT (u:=z) (w':=w') ?_ (hn _ _ _ he)
   obtain ⟨k,hk⟩:=hbuiltin _ hcal;rw [hk];simp only [builtin,hmap,h3,hat'];simp [hz]
  ·cases h
 ·rename_i hcal;split at h
  ·rename_i x y;obtain ⟨u,us,h1,h2,h3⟩:=hrel;obtain ⟨v,us',k1,k2,k3⟩:=h2;simp only [A_] at k2;subst k2;subst k3;have:∃ z w' β',(Builtin.append_ c.argTypes o.type #[u,v]).run P w=.ok z w'∧Eff β fr r w z w' β':=by
    split at h
    ·rename_i r' hr;injection h with h;subst h;exact AMn g (fun A hA=>by injection hA with hA;subst hA;exact h1) (fun A hA=>by injection hA with hA;subst hA;exact k1) hr hc hf
    ·exact AMd g (fun A hA=>by injection hA with hA;subst hA;exact h1) (fun A hA=>by injection hA with hA;subst hA;exact k1) h hc hf
   obtain ⟨z,w',β',hz,he⟩:=this;refine CT (u:=z) (w':=w') ?_ (hn _ _ _ he)
   obtain ⟨k,hk⟩:=hbuiltin _ hcal;rw [hk];simp only [builtin,hmap,h3];simp [hz]
  ·cases h
 ·rename_i hcal;split at h
  ·rename_i x t hat;obtain ⟨u,us,h1,h2,h3⟩:=hrel;simp only [A_] at h2;subst h2;obtain ⟨z,hz,he⟩:=AMl (ty:=o.type) (u:=u) g (fun A hA=>by injection hA with hA;subst hA;exact h1) h hc fr
   have hat':c.argTypes=#[t]:=by apply jq;rw [hat]
   refine CT (u:=z) ?_ (hn _ _ _ he)
   obtain ⟨k,hk⟩:=hbuiltin _ hcal;rw [hk];simp only [builtin,hmap,h3,hat'];simp [hz]
  ·cases h
 ·cases h
theorem AMs (hO:OrcOk P O) (ht:∀ t,AL β (τ t) (a.tmps.getD t undef)) (g:Good β H w) {o:Oper} {fr:Nat} {path:List Bool} {r:R} (h:mA P O o τ H fr path=some r) (hc:AM r.conds)
  (hf:∀ b,fr≤b→b<fr+r.nw→β b=none) {next:Act→World→Prop} {Q:Exit→Act→World→Prop} (hn:∀ u w' β',Eff β fr r w u w' β'→next (a.put o.dst u) w'):o.wp P a w next Q:=by
 have ev:∀ (x:Operand) (A:AV),Br τ x=some A→AL β A (a.eval x):=fun x A hA=>IS ht hA
 have evm:∀ (x:Option Operand),DY β (x.map (Br τ)) (x.map a.eval):=by
  intro x;cases x with
  | none=>trivial
  | some x=>exact ev x
 unfold mA at h;split at h;case h_1 x ho =>
  split at h
  ·rename_i A hA;injection h with h;subst h;exact CT (by simp [execOp,ho]) (hn _ _ _ (Eff.pure_ g (ev _ _ hA)))
  ·cases h
 case h_2 x ho =>
  split at h
  ·rename_i A hA;injection h with h;subst h;exact CT (by simp [execOp,ho]) (hn _ _ _ (Eff.pure_ g (ev _ _ hA)))
  ·cases h
 case h_3 c x y ho =>
  obtain ⟨q,hq,he⟩:=AMq (P:=P) g (ev c) (ev x) (ev y) h hc fr
  exact CT (by simp only [execOp,ho];exact hq) (hn _ _ _ he)
 case h_4 t ho =>
  obtain ⟨u,w',β',hq,he⟩:=AL5 g h hf;exact CT (by simp only [execOp,ho];exact E9 hq) (hn _ _ _ he)
 case h_5 t x ho =>
  obtain ⟨u,w',β',hq,he⟩:=AL6 (P:=P) g (ev x) h hf
  exact CT (by simp only [execOp,ho];exact E9 hq) (hn _ _ _ he)
 case h_6 t parts ho =>
  obtain ⟨u,hq,he⟩:=AMP ht g h fr;exact CT (by simp only [execOp,ho];exact E9 hq) (hn _ _ _ he)
 case h_7 t len parts ho =>
  obtain ⟨u,w',β',hq,he⟩:=AMR ht g h hf;exact CT (by simp only [execOp,ho];exact E9 hq) (hn _ _ _ he)
 case h_8 t x ho =>
  obtain ⟨u,hq,he⟩:=AL8 g (ev x) h hc fr
  exact CT (by simp only [execOp,ho];exact E9 hq) (hn _ _ _ he)
 case h_9 t x y ho =>
  obtain ⟨w',hq,he⟩:=AMA g (ev x) (ev y) h hc fr
  exact ABU (by simp only [execOp,ho];exact ABV hq) (hn _ _ _ he)
 case h_10 x ho =>
  split at h
  ·rename_i b off hA;injection h with h;subst h;obtain ⟨B,n,e1,e2⟩:=Aw (ev _ _ hA)
   injection e2 with e2 _;exact CT (u:=.pointer (some ⟨B,n.2+off,none⟩)) (by simp [execOp,ho,e2]) (hn _ _ _ (Eff.pure_ g (Aq ⟨B,n,e1,rfl⟩)))
  ·rename_i f c hA;injection h with h;subst h;obtain ⟨ps,e1,e2⟩:=Aw (ev _ _ hA)
   injection e2 with e2 _;exact CT (u:=.func (.func f) #[] ⟨ps⟩) (by simp [execOp,ho,e2]) (hn _ _ _ (Eff.pure_ g (Aq ⟨ps,e1,rfl⟩)))
  ·rename_i f b off hA;injection h with h;subst h;obtain ⟨B,n,e1,e2⟩:=Aw (ev _ _ hA)
   injection e2 with e2 _;exact CT (u:=.func (.func f) ⟨[.agg ⟨[.pointer (some ⟨B,n.2+off,none⟩)]⟩]⟩ ⟨[]⟩) (by simp [execOp,ho,e2]) (hn _ _ _ (Eff.pure_ g (Aq ⟨B,n,e1,rfl⟩)))
  ·rename_i f x' c hA;injection h with h;subst h;have e2:=(Aw (ev _ _ hA)).1
   injection e2 with e2 _;exact CT (u:=.func (.func f) x' c) (by simp [execOp,ho,e2]) (hn _ _ _ (Eff.pure_ g (Aq ⟨rfl,rfl,trivial⟩)))
  ·cases h
 case h_11 op t x y yt ho =>
  obtain ⟨u,hq,he⟩:=AMp hO (X:=x) (Y:=y) g (ev x) (ev y) h hc fr
  exact CT (by simp only [execOp,ho];exact E9 hq) (hn _ _ _ he)
 case h_12 op t x ho =>
  obtain ⟨u,hq,he⟩:=AMT (P:=P) g (ev x) h fr
  exact CT (by simp only [execOp,ho];exact E9 hq) (hn _ _ _ he)
 case h_13 s d x ho =>
  split at h
  ·rename_i r' hr';injection h with h;subst h;obtain ⟨u,hq,he⟩:=AMS g (ev x) hr' fr
   exact CT (by simp only [execOp,ho];exact E9 hq) (hn _ _ _ he)
  ·split at h
   ·rename_i r' hr';injection h with h;subst h;obtain ⟨u,hq,he⟩:=AMf g (ev x) hr' hc fr
    exact CT (by simp only [execOp,ho];exact E9 hq) (hn _ _ _ he)
   ·obtain ⟨u,w',β',hq,he⟩:=AMh g (ev x) h hf
    exact CT (by simp only [execOp,ho];exact E9 hq) (hn _ _ _ he)
 case h_14 t x ho =>
  obtain ⟨u,hq,he⟩:=AMM g (ev x) h hc fr
  exact CT (by simp only [execOp,ho];exact E9 hq) (hn _ _ _ he)
 case h_15 f first captured ho =>
  split at h
  ·rename_i xs h1 h2;split at h
   ·rename_i caps h3;injection h with h;subst h;have hp:=ABQ h3 (ZA ht h2)
    refine CT (u:=.func (.func f) #[] ⟨captured.toList.map a.eval⟩) ?_ (hn _ _ _ (Eff.pure_ g (Aq ⟨_,hp,rfl⟩)))
    have hfirst:first=#[]:=by apply jq;simpa using h1
    have hmap:captured.map a.eval=⟨captured.toList.map a.eval⟩:=by apply jq;simp
    simp [execOp,ho,Instr.makeFunc,hfirst,hmap]
   ·cases h
  ·rename_i x h1 h2;split at h
   ·rename_i bk off hA;injection h with h;subst h;obtain ⟨l,⟨l1,l2,e1,e2,e3⟩,e4⟩:=ev x _ hA;simp only [AO] at e2;subst e2;obtain ⟨B,n,e5,rfl⟩:=e1;simp only [iq] at e3;subst e3;refine CT (u:=.func (.func f) ⟨[.agg ⟨[.pointer (some ⟨B,n.2+off,none⟩)]⟩]⟩ ⟨[]⟩) ?_ (hn _ _ _ (Eff.pure_ g (Aq ⟨B,n,e5,rfl⟩)))
    have hfirst:first=#[x]:=by apply jq;simpa using h1
    have hcap:captured=#[]:=by
     apply jq
     cases hq:captured.toList with
     | nil=>rfl
     | cons y l =>
      rw [hq] at h2;simp only [OO] at h2;split at h2<;>simp at h2
    simp [execOp,ho,Instr.makeFunc,hfirst,hcap,e4]
   ·cases h
  ·cases h
 case h_16 t l c ho =>
  obtain ⟨u,w',β',hq,he⟩:=AMW g (ev l) (ev c) h hc hf
  exact CT (by simp only [execOp,ho];exact E9 hq) (hn _ _ _ he)
 case h_17 t x lo hi mx ho =>
  obtain ⟨u,hq,he⟩:=AML g (ev x) (evm lo) (evm hi) (evm mx) h hc fr
  exact CT (by simp only [execOp,ho];exact E9 hq) (hn _ _ _ he)
 case h_18 t x f ho =>
  obtain ⟨u,hq,he⟩:=AMG g (ev x) h fr
  exact CT (by simp only [execOp,ho];exact E9 hq) (hn _ _ _ he)
 case h_19 t x f ho =>
  obtain ⟨u,hq,he⟩:=AMH g (ev x) h fr
  exact CT (by simp only [execOp,ho];exact E9 hq) (hn _ _ _ he)
 case h_20 t x i ho =>
  obtain ⟨u,hq,he⟩:=AMJ g (ev x) (ev i) h hc fr
  exact CT (by simp only [execOp,ho];exact E9 hq) (hn _ _ _ he)
 case h_21 t x i ho =>
  obtain ⟨u,hq,he⟩:=AMI g (ev x) (ev i) h hc fr
  exact CT (by simp only [execOp,ho];exact E9 hq) (hn _ _ _ he)
 case h_22 x i ho =>
  split at h
  ·rename_i xs hA;split at h
   ·rename_i gg cs hi;injection h with h;subst h;obtain ⟨us,e1,e2⟩:=ev _ _ hA;obtain ⟨u,e3,e4⟩:=ABT e1 hi;exact CT (u:=u) (by simp [execOp,ho,e2,Instr.extract,e3]) (hn _ _ _ (Eff.pure_ g e4))
   ·cases h
  ·cases h
 case h_23 t rs ho =>
  obtain ⟨rfl,u,w',β',hq,he⟩:=AMi g h hf;exact CT (by simp only [execOp,ho];exact E9 hq) (hn _ _ _ he)
 case h_24 t x i ok ho =>
  obtain ⟨u,hq,he⟩:=AMj g (ev x) (ev i) h hc fr
  exact CT (by simp only [execOp,ho];exact E9 hq) (hn _ _ _ he)
 case h_25 t m k x ho =>
  obtain ⟨w',hq,he⟩:=AMk g (ev m) (ev k) (ev x) h hc fr
  exact ABU (by simp only [execOp,ho];exact ABV hq) (hn _ _ _ he)
 case h_26 c ho=>exact AMr hO ht g ho h hc hf hn
 case h_27=>cases h
end
def Al:List AV→Nat→AV
 | [],_=>.any
 | x::_,0=>x
 | _::r,n+1=>Al r n
def I9:List AV→Nat→AV→List AV
 | [],_,_=>[]
 | _::r,0,v=>v::r
 | x::r,n+1,v=>x::I9 r n v
def EH (k:Nat):List Nat→Bool
 | []=>false
 | x::r=>match Nat.beq x k with | true=>true | false=>EH k r
theorem QD {k:Nat}:∀ {l:List Nat},EH k l=true↔k∈l
 | []=>by simp [EH]
 | x::r=>by
  simp only [EH];split
  ·rename_i h;simp [An.1 h]
  ·rename_i h;have:=IR h
   rw [QD (l:=r)];simp [Ne.symm this]
def cat:List Nat→List Nat→List Nat
 | [],l=>l
 | x::r,l=>x::cat r l
theorem CU:∀ (a b:List Nat),cat a b=a++b
 | [],_=>rfl
 | x::r,b=>by simp [cat,CU r b]
def Mo:Ch→List Nat
 | .p b _=>[b]
 | .sl b _ _ _=>[b]
 | .sx b _ _=>[b]
 | .clo _ caps=>caps.map (·.1)
 | .mth _ b _=>[b]
 | .yl b=>[b]
 | .mp b=>[b]
 | _=>[]
def D2:List Ch→List Nat
 | []=>[]
 | c::r=>cat (Mo c) (D2 r)
def J9:List (Bool×List Ch)→List Nat
 | []=>[]
 | (_,cs)::r=>cat (D2 cs) (J9 r)
def I_:AV→List Nat
 | .val _ cs=>D2 cs
 | .tup xs=>J9 xs
 | .any=>[]
def QE (τ:Nat→AV):List Nat→List Nat
 | []=>[]
 | t::r=>cat (I_ (τ t)) (QE τ r)
def Mp (H:Heap):List Nat→List Nat
 | []=>[]
 | k::r=>match AF H k with
  | some blk=>cat (D2 blk.cs) (Mp H r)
  | none=>Mp H r
def AMt:Op→Bool
 | .call _=>true
 | _=>false
def IU (o:Oper) (τ:Nat→AV) (ts:List Nat) (H:Heap):List Nat :=
 match AMt o.op with
 | false=>QE τ ts
 | true=>cat (QE τ ts) (cat (Mp H (QE τ ts)) (Mp H (Mp H (QE τ ts))))
def restrict (H:Heap):List Nat→Heap
 | []=>[]
 | k::r=>match AF H k with
  | some blk=>(k,some blk)::restrict H r
  | none=>restrict H r
def GP (τ:Nat→AV) (ts:List Nat):Nat→AV:=fun t=>match EH t ts with | true=>τ t | false=>.any
theorem Mq {H:Heap} {b:Nat} {blk:Blk}:∀ {ks:List Nat},AF (restrict H ks) b=some blk→AF H b=some blk
 | [],h=>by simp [restrict,AF] at h
 | k::r,h=>by
  simp only [restrict] at h;split at h
  ·rename_i blk' hk;simp only [AF] at h;split at h
   ·rename_i e;rw [← An.1 e,hk];exact h
   ·exact Mq h
  ·exact Mq h
theorem ABW {H H':Heap}:∀ {ks:List Nat},(∀ k∈ks,AF H k=AF H' k)→restrict H ks=restrict H' ks
 | [],_=>rfl
 | k::r,h=>by
  simp only [restrict,h k (by simp)]
  rw [ABW (fun x hx=>h x (by simp [hx]))]
theorem mC {H H':Heap}:∀ {ks:List Nat},(∀ k∈ks,AF H k=AF H' k)→Mp H ks=Mp H' ks
 | [],_=>rfl
 | k::r,h=>by
  simp only [Mp,h k (by simp)]
  rw [mC (fun x hx=>h x (by simp [hx]))]
theorem AMu {o:Oper} {τ:Nat→AV} {ts:List Nat} {H H':Heap} (h:∀ k∈IU o τ ts H,AF H k=AF H' k):IU o τ ts H=IU o τ ts H':=by
 unfold IU at h ⊢
 split
 ·rfl
 ·rename_i hc;simp only [hc,CU,gl] at h;have h1:=mC (H:=H) (H':=H') (ks:=QE τ ts) (fun k hk=>h k (.inl hk))
  have h2:=mC (H:=H) (H':=H') (ks:=Mp H (QE τ ts)) (fun k hk=>h k (.inr (.inl hk)))
  rw [h2,← h1]
theorem AMv {τ τ':Nat→AV} {ts:List Nat} (h:∀ t∈ts,τ t=τ' t):GP τ ts=GP τ' ts:=by
 funext t
 unfold GP;split
 ·rename_i hm;exact h t (QD.1 hm)
 ·rfl
theorem AMw {β:Env} {τ:Nat→AV} {ts:List Nat} {a:Act} (h:∀ t,AL β (τ t) (a.tmps.getD t undef)):∀ t,AL β (GP τ ts t) (a.tmps.getD t undef):=by
 intro t;unfold GP;split
 ·exact h t
 ·trivial
theorem Good.restrict {β:Env} {H:Heap} {w:World} (g:Good β H w) (ks:List Nat):Good β (restrict H ks) w where
 heap:=fun b blk h=>g.heap b blk (Mq h)
 inj:=fun b b' B n n' h h'=>g.inj b b' B n n' (by
  obtain ⟨x,hx,hr⟩:=F1 h;exact FS (Mq hx) hr) (by
  obtain ⟨x,hx⟩:=jd.1 h';rw [Mq hx];rfl)
 lt:=g.lt
def mD (ops:Array Oper) (o:Oper) (τ:Nat→AV):Option Bool :=
 match o.guard with
 | none=>some true
 | some (j,want)=>match ops[j]? with
  | some oj=>match oj.dst with
   | some t=>match τ t with
    | .val false [.b x]=>some (match x,want with | true,true=>true | false,false=>true | _,_=>false)
    | .tup []=>some false
    | _=>none
   | none=>none
  | none=>none
def AMx (ops:Array Oper) (o:Oper):List Nat :=
 match o.guard with
 | none=>[]
 | some (j,_)=>match ops[j]? with
  | some oj=>match oj.dst with
   | some t=>[t]
   | none=>[]
  | none=>[]
theorem ABX {β:Env} {ops:Array Oper} {o:Oper} {τ:Nat→AV} {a:Act} {z:Bool} (ht:∀ t,AL β (τ t) (a.tmps.getD t undef)) (h:mD ops o τ=some z) :
  Region.wanted o (yielded ops a.tmps)=z:=by
 unfold mD at h;unfold Region.wanted;split at h
 ·rename_i hg;injection h with h;subst h;simp [hg]
 ·rename_i j want hg;simp only [hg];split at h
  ·rename_i oj hj;split at h
   ·rename_i t hd;have hr:=ht t;split at h
    ·rename_i x hτ;injection h with h;rw [hτ] at hr;have hv:=Aw hr;simp only [BF,mz,and_true] at hv;have hsome:a.tmps[t]? = some (.bool x):=by
      rw [jg] at hv;cases hq:a.tmps[t]? with
      | none=>rw [hq] at hv;simp [undef] at hv
      | some q=>rw [hq] at hv;simpa using hv
     simp only [yielded,hj,Option.bind_some,hd,hsome];rw [← h];cases x<;>cases want<;>rfl
    ·rename_i hτ;injection h with h;rw [hτ] at hr;obtain ⟨us,h1,h2⟩:=hr;simp only [FN] at h1;subst h1;have:∀ b,a.tmps[t]?≠some (.bool b):=by
      intro b hb;rw [jg,hb] at h2;simp at h2
     have hy:yielded ops a.tmps j=none:=by
      unfold yielded;rw [hj,Option.bind_some,hd,Option.bind_some];cases hq:a.tmps[t]? with
      | none=>rfl
      | some q=>cases q<;>first | rfl | exact absurd hq (this _)
     rw [hy,← h];rfl
    ·cases h
   ·cases h
  ·cases h
def Vv (k:Nat):Heap→Bool
 | []=>false
 | (j,_)::r=>match Nat.beq j k with | true=>true | false=>Vv k r
theorem ABY {k:Nat}:∀ {u:Heap},Vv k u=true↔∃ y,(k,y)∈u
 | []=>by simp [Vv]
 | (j,y)::r=>by
  simp only [Vv];split
  ·rename_i h;have:=An.1 h;subst this;exact ⟨fun _=>⟨y,by simp⟩,fun _=>rfl⟩
  ·rename_i h;have:=IR h
   rw [ABY (u:=r)];constructor
   ·rintro ⟨z,hz⟩;exact ⟨z,by simp [hz]⟩
   ·rintro ⟨z,hz⟩
    simp only [gr,gx] at hz;rcases hz with ⟨e,_⟩ | hz
    ·exact absurd e.symm this
    ·exact ⟨z,hz⟩
def IV (H:Heap) (fr nw:Nat):Heap→Bool
 | []=>true
 | (k,y)::r=>match Vv k r with
  | true=>false
  | false=>match AF H k,y with
   | some b0,_=>match Nat.beq b0.ty Bf with
    | false=>IV H fr nw r
    | true=>false
   | none,some _=>match Nat.ble fr k&&Nat.blt k (fr+nw) with
    | true=>IV H fr nw r
    | false=>false
   | none,none=>false
theorem Sz {H:Heap} {fr nw:Nat}:∀ {u:Heap},IV H fr nw u=true →
  (∀ k y,(k,y)∈u→F0 H k=true∨(fr≤k∧k<fr+nw∧y≠none))∧(∀ k y y',(k,y)∈u→(k,y')∈u→y=y')
 | [],_=>⟨by simp,by simp⟩
 | (k,y)::r,h=>by
  simp only [IV] at h;split at h
  ·cases h
  ·rename_i hk;have hk':∀ z,(k,z) ∉ r:=fun z hz=>by
    rw [ABY.2 ⟨z,hz⟩] at hk;cases hk
   have fin:IV H fr nw r=true→(F0 H k=true∨(fr≤k∧k<fr+nw∧y≠none)) →
     (∀ k' y',(k',y')∈(k,y)::r→F0 H k'=true∨(fr≤k'∧k'<fr+nw∧y'≠none))∧(∀ k' y1 y2,(k',y1)∈(k,y)::r→(k',y2)∈(k,y)::r→y1=y2):=by
    intro hr hh;obtain ⟨i1,i2⟩:=Sz hr;refine ⟨fun k' y' hm=>?_,fun k' y1 y2 h1 h2=>?_⟩
    ·simp only [gr,gx] at hm;rcases hm with ⟨rfl,rfl⟩ | hm
     ·exact hh
     ·exact i1 _ _ hm
    ·simp only [gr,gx] at h1 h2;rcases h1 with ⟨rfl,rfl⟩ | h1
     ·rcases h2 with ⟨_,rfl⟩ | h2
      ·rfl
      ·exact absurd h2 (hk' _)
     ·rcases h2 with ⟨rfl,rfl⟩ | h2
      ·exact absurd h1 (hk' _)
      ·exact i2 _ _ _ h1 h2
   split at h
   ·rename_i b0 _ hg;split at h
    ·rename_i hro;exact fin h (.inl (FS hg (Yv hro)))
    ·cases h
   ·rename_i z hg hb;split at h
    ·rename_i hb;have hb':=gk.1 hb;refine fin h (.inr ⟨f_ hb'.1,?_,by simp⟩)
     have:=hb'.2
     unfold Nat.blt at this;exact f_ this
    ·cases h
   ·cases h
theorem OP {b:Nat}:∀ {u H:Heap},(∀ k y y',(k,y)∈u→(k,y')∈u→y=y')→(∀ y,(b,y)∈u→AF (FR H u) b=y)∧((∀ y,(b,y) ∉ u)→AF (FR H u) b=AF H b)
 | [],H,_=>⟨by simp,fun _=>rfl⟩
 | (k,y)::r,H,hu=>by
  have hu':∀ k y y',(k,y)∈r→(k,y')∈r→y=y':=fun k y y' h h'=>hu k y y' (by simp [h]) (by simp [h'])
  simp only [FR];obtain ⟨i1,i2⟩:=OP (b:=b) (u:=r) (H:=IQ H k y) hu'
  constructor
  ·intro z hz;by_cases hr:∃ z',(b,z')∈r
   ·obtain ⟨z',hz'⟩:=hr;rw [i1 z' hz'];exact hu b _ _ (by simp [hz']) hz
   ·rw [i2 (fun z' hz'=>hr ⟨z',hz'⟩)]
    simp only [gr,gx] at hz;rcases hz with ⟨rfl,rfl⟩ | hz
    ·exact AL2 _ _ _
    ·exact absurd ⟨z,hz⟩ hr
  ·intro hno;rw [i2 (fun z hz=>hno z (by simp [hz]))]
   exact AL3 _ _ _ _ (fun e=>hno y (by simp [e]))
theorem Good.step {β β':Env} {H:Heap} {fr:Nat} {r:R} {w w':World} {u:Value} (g:Good β H w) (he:Eff β fr r w u w' β') (hu:IV H fr r.nw r.upd=true) (hf:∀ b,fr≤b→b<fr+r.nw→β b=none) :
  Good β' (FR H r.upd) w':=by
 obtain ⟨u1,u2⟩:=Sz hu;have old:∀ b B n,β b=some (.at_ B n)→(AF (FR H r.upd) b).isSome=true→(AF H b).isSome=true:=by
  intro b B n hb hs;by_cases hk:∃ y,(b,y)∈r.upd
  ·obtain ⟨y,hy⟩:=hk;rcases u1 _ _ hy with h | ⟨h1,h2,_⟩
   ·exact Vk h
   ·rw [hf b h1 h2] at hb;cases hb
  ·rw [(OP u2).2 (fun y hy=>hk ⟨y,hy⟩)] at hs;exact hs
 have oldr:∀ b B n,β b=some (.at_ B n)→F0 (FR H r.upd) b=true→F0 H b=true:=by
  intro b B n hb hs;by_cases hk:∃ y,(b,y)∈r.upd
  ·obtain ⟨y,hy⟩:=hk;rcases u1 _ _ hy with h | ⟨h1,h2,_⟩
   ·exact h
   ·rw [hf b h1 h2] at hb;cases hb
  ·rw [← AAy ((OP u2).2 (fun y hy=>hk ⟨y,hy⟩))];exact hs
 have clash:∀ b b' B n n',(AF (FR H r.upd) b).isSome=true→β b=some (.at_ B n)→(∀ B' m,some (Loc.at_ B n')=some (Loc.at_ B' m)→w.heap.size≤B'∨∃ k m',(k,none)∈r.upd∧β k=some (.at_ B' m'))→b=b':=by
  intro b b' B n n' hs hb hnew;rcases hnew B n' rfl with h | ⟨k,m',hk,hk2⟩
  ·have:=g.lt _ _ _ hb;omega
  ·have hbl:=old b B n hb hs;have hkl:F0 H k=true:=by
    rcases u1 _ _ hk with h | ⟨_,_,h⟩
    ·exact h
    ·exact absurd rfl h
   have e:=(g.inj _ _ _ _ _ hkl hbl hk2 hb).symm
   subst e;rw [(OP u2).1 none hk] at hs;cases hs
 refine ⟨?_,?_,he.lt⟩
 ·intro b blk hb;by_cases hk:∃ y,(b,y)∈r.upd
  ·obtain ⟨y,hy⟩:=hk;rw [(OP u2).1 y hy] at hb;subst hb;exact he.upd _ _ hy
  ·rw [(OP u2).2 (fun y hy=>hk ⟨y,hy⟩)] at hb
   have hrel:=g.heap _ _ hb;refine Yp he.ext ?_
   have kept:∀ B n,β b=some (.at_ B n)→w'.heap[B]? = w.heap[B]?:=fun B n e1=>by
    rw [he.frame B (g.lt _ _ _ e1) ?_]
    ·intro k y m hky hkm;rcases u1 _ _ hky with h | ⟨h1,h2,_⟩
     ·have e:=g.inj _ _ _ _ _ h (by rw [hb];rfl) hkm e1
      subst e;exact hk ⟨y,hky⟩
     ·rw [hf k h1 h2] at hkm;cases hkm
   rcases hrel with ⟨B,n,l,t,pre,ty,fz,e1,e2,e3,e4⟩ | h | ⟨B,l,es,q,e1,e2,e3,e4,e5⟩
   ·exact .inl ⟨B,n,l,t,pre,ty,fz,e1,e2,by rw [kept B n e1];exact e3,e4⟩
   ·exact .inr (.inl h)
   ·exact .inr (.inr ⟨B,l,es,q,e1,e2,e3,by rw [kept B _ e1];exact e4,e5⟩)
 ·intro b b' B n n' hs hs' hb hb';rcases he.new _ _ hb with h | ⟨h1,h2,h3⟩
  ·rcases he.new _ _ hb' with h' | ⟨h1',h2',h3'⟩
   ·exact g.inj _ _ _ _ _ (oldr _ _ _ h hs) (old _ _ _ h' hs') h h'
   ·exact clash b b' B n n' (Vk hs) h (fun B' m e=>h3' B' m (by injection e))
  ·rcases he.new _ _ hb' with h' | ⟨h1',h2',h3'⟩
   ·exact (clash b' b B n' n hs' h' (fun B' m e=>h3 B' m (by injection e))).symm
   ·exact he.inj _ _ _ _ _ h1 h1' h2 h2' hb hb'
def mF (i:Nat):List Oper→Bool
 | []=>false
 | o::r=>match o.guard with
  | some (j,_)=>match Nat.beq j i with | true=>true | false=>mF i r
  | none=>mF i r
def Vw (used:Bool) (r:R):Option R :=
 match used,r.val with
 | true,.val false [.v (.bool x)]=>match r.path with
  | d::rest=>some ⟨.val false [.b d],r.upd,r.nw,(x,d)::r.conds,rest⟩
  | []=>none
 | _,_=>some r
theorem AMy {used:Bool} {r r':R} (h:Vw used r=some r') (hc:AM r'.conds):AM r.conds∧r'.upd=r.upd∧r'.nw=r.nw ∧
  (∀ {β:Env} {fr:Nat} {w:World} {u:Value} {w':World} {β':Env},Eff β fr r w u w' β'→Eff β fr r' w u w' β'):=by
 unfold Vw at h;split at h
 ·rename_i x hv;split at h
  ·rename_i d rest hp;injection h with h;subst h;obtain ⟨h1,h2⟩:=hc;subst h1;refine ⟨h2,rfl,rfl,fun he=>⟨he.ext,he.new,he.lt,he.inj,?_,he.upd,he.frame,he.size,he.os,he.tape,he.output⟩⟩
   have:=he.val
   rw [hv] at this;have:=(Aw this).1
   injection this with this _;subst this;exact Aq rfl
  ·cases h
 ·injection h with h;subst h;exact ⟨hc,rfl,rfl,id⟩
def mG:List Operand→List Nat
 | []=>[]
 | .tmp t::r=>t::mG r
 | _::r=>mG r
def Mr (ops:Array Oper) (o:Oper):List Nat:=cat (AMx ops o) (mG o.op.operands.toList)
def J_ (P:Program) (O:Orc) (ops:Array Oper) (i:Nat) (o:Oper) (ts:List Nat) (τ:Nat→AV) (H:Heap) (fr:Nat) (path:List Bool):Option R :=
 match mD ops o (GP τ ts) with
 | some false=>some ⟨.tup [],[],0,[],path⟩
 | some true=>match mA P O o (GP τ ts) (restrict H (IU o (GP τ ts) ts H)) fr path with
  | some r=>match IV (restrict H (IU o (GP τ ts) ts H)) fr r.nw r.upd with
   | true=>Vw (mF i ops.toList) r
   | false=>none
  | none=>none
 | none=>none
theorem AMz {P:Program} {O:Orc} {ops:Array Oper} {i:Nat} {o:Oper} {ts:List Nat} {τ τ':Nat→AV} {H H':Heap} {fr:Nat} {path:List Bool}
  (h1:∀ t∈ts,τ t=τ' t) (h2:∀ k∈IU o (GP τ ts) ts H,AF H k=AF H' k):J_ P O ops i o ts τ H fr path=J_ P O ops i o ts τ' H' fr path:=by
 unfold J_;rw [← AMv h1,← AMu h2,← ABW h2]
theorem Vx {H:Heap} {ks:List Nat} {fr nw:Nat}:∀ {u:Heap},IV (restrict H ks) fr nw u=true→(∀ k,fr≤k→k<fr+nw→AF H k=none)→IV H fr nw u=true
 | [],_,_=>rfl
 | (k,y)::r,h,hn=>by
  simp only [IV] at h ⊢;split at h
  ·cases h
  ·split at h
   ·rename_i b hg;rw [Mq hg];simp only
    split at h
    ·exact Vx h hn
    ·cases h
   ·rename_i z hg;split at h
    ·rename_i hb;have hb':=gk.1 hb;have h2:k<fr+nw:=by
      have:=hb'.2
      unfold Nat.blt at this;exact f_ this
     rw [hn k (f_ hb'.1) h2];exact Vx h hn
    ·cases h
   ·cases h
theorem ZC {P:Program} {O:Orc} (hO:OrcOk P O) {ops:Array Oper} {i:Nat} {o:Oper} {ts:List Nat} {τ:Nat→AV} {H:Heap} {fr:Nat} {path:List Bool} {r:R} {β:Env} {a:Act} {w:World}
  (ht:∀ t,AL β (τ t) (a.tmps.getD t undef)) (g:Good β H w) (h:J_ P O ops i o ts τ H fr path=some r) (hc:AM r.conds) (hf:∀ b,fr≤b→b<fr+r.nw→β b=none)
  (hfH:∀ b,fr≤b→b<fr+r.nw→AF H b=none) {K:Act→World→Prop} {Q:Exit→Act→World→Prop} (ho:ops[i]? = some o)
  (hn:∀ u w' β',Eff β fr r w u w' β'→Good β' (FR H r.upd) w'→K (a.put o.dst u) w'):wpOp P ops Q i K a w:=by
 have ht':=AMw (ts:=ts) ht
 unfold J_ at h;unfold wpOp;simp only [ho];split at h
 ·rename_i hw;injection h with h;subst h;rw [ABX ht' hw];have he:Eff β fr ⟨.tup [],[],0,[],path⟩ w undef w β:=Eff.pure_ g ⟨[],rfl,rfl⟩
  exact hn _ _ _ he (by simpa [FR] using g)
 ·rename_i hw;rw [ABX ht' hw];split at h
  ·rename_i r0 ha;split at h
   ·rename_i hu;obtain ⟨c1,c2,c3,c4⟩:=AMy h hc;have hf0:∀ b,fr≤b→b<fr+r0.nw→β b=none:=by rw [← c3];exact hf
    have hfH0:∀ b,fr≤b→b<fr+r0.nw→AF H b=none:=by rw [← c3];exact hfH
    refine .inl (AMs hO ht' (g.restrict _) ha c1 hf0 fun u w' β' he=>?_)
    have hu':=Vx hu hfH0;exact hn _ _ _ (c4 he) (g.step (c4 he) (by rw [c2,c3];exact hu') hf)
   ·cases h
  ·cases h
 ·cases h
end Go.Proofs.YtgnajdcdcblaoaaGreat.Ex
