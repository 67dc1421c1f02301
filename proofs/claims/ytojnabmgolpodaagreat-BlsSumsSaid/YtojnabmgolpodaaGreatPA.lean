/- Part 1 of the proof: ExA, ExB, ExC, ExD, ExE, ExF, ExG, ExH, ExV, ExI, ExJ. -/
import Derived.Calls
import Derived.Orders
import Derived.Laws.CopyRow
import Derived.Laws.Entries
import Derived.Laws.StructEq
import Derived.Laws.Externs
import Derived.Laws.BitsLemmas
import Derived.Laws.Bits64
import Derived.ChangeKeysEq
import Derived.KernelRfl
import Derived.Laws.Slices
import Derived.Laws.MakeOwn
import Derived.Laws.BytesString
import Derived.Laws.IdiomStrings
import Derived.MapKept
import Derived.Laws.Cover3
namespace Go.Proofs.YtojnabmgolpodaaGreat.Ex
inductive Ch where
 | n (k:IntKind) (i:Int)
 | b (x:Bool)
 | v (x:Value)
 | p (bk off:Nat)
 | sl (bk off len cap:Nat)
 | sx (bk len sz:Nat)
 | num (k x:Nat)
 | seq (kd:IntKind) (l:List Int)
 | clo (f:FuncId) (caps:List (Nat×Nat))
 | mth (f:FuncId) (bk off:Nat)
 | mp (bk:Nat)
 | mk
inductive AV where
 | val (g:Bool) (cs:List Ch)
 | tup (xs:List (Bool×List Ch))
 | any
structure Blk where
 ty:TypeId
 cs:List Ch
 opn:Bool:=false
inductive Loc where
 | at_ (B:Nat) (n:Nat×Nat)
 | nil
def BN:Nat:=4294967295
abbrev Heap:=List (Nat×Option Blk)
abbrev Env:=Nat→Option Loc
def has (k:IntKind) (n:Int):Prop:=k.min≤n∧n≤k.max
instance (k:IntKind) (n:Int):Decidable (has k n):=by unfold has;infer_instance
def AF (x i:Nat):Int:=((x / 2^(64*i) % 2^64:Nat):Int)
def words (k x:Nat):List Value:=(List.range k).map fun i=>.int .u64 (AF x i)
def Iq (k x:Nat):List Ch:=(List.range k).map fun i=>.v (.int .u64 (AF x i))
def gQ (x:Value):Prop:=x.oneCell'=true∧(match x with | .int k i=>has k i | _=>True)
def D6 (β:Env):List (Nat×Nat)→List Value→Prop
 | [],l=>l=[]
 | (bk,off)::r,l=>∃ B n l',β bk=some (.at_ B n)∧D6 β r l'∧l=.pointer (some ⟨B,n.2+off,none⟩)::l'
def A2 (β:Env):Ch→List Value→Prop
 | .n k i,l=>l=[.int k i]∧has k i
 | .b x,l=>l=[.bool x]
 | .v x,l=>l=[x]∧gQ x
 | .p bk off,l=>∃ B n,β bk=some (.at_ B n)∧l=[.pointer (some ⟨B,n.2+off,none⟩)]
 | .sl bk off len cap,l=>(∃ B n,β bk=some (.at_ B n)∧l=[.slice (some ⟨B,n.2+off,none⟩) len cap])∨(β bk=some .nil∧off=0∧len=0∧cap=0∧l=[.slice none 0 0])
 | .sx bk len sz,l=>(∃ B n cap,β bk=some (.at_ B (n,0))∧l=[.slice (some ⟨B,0,none⟩) len cap]∧len≤cap∧cap*sz≤n)∨(β bk=some .nil∧len=0∧l=[.slice none 0 0])
 | .num k x,l=>x<2^(64*k)∧l=words k x
 | .seq kd xs,l=>l=xs.map (.int kd)∧∀ x∈xs,has kd x
 | .clo f caps,l=>∃ ps,D6 β caps ps∧l=[.func (.func f) #[] ⟨ps⟩]
 | .mth f bk off,l=>∃ B n,β bk=some (.at_ B n)∧l=[.func (.func f) ⟨[.agg ⟨[.pointer (some ⟨B,n.2+off,none⟩)]⟩]⟩ ⟨[]⟩]
 | .mp bk,l=>∃ B,β bk=some (.at_ B (0,0))∧l=[.map (some B)]
 | .mk,l=>l=[.nilIface]
def AH (β:Env):List Ch→List Value→Prop
 | [],l=>l=[]
 | c::cs,l=>∃ l1 l2,A2 β c l1∧AH β cs l2∧l=l1++l2
def BO (β:Env):Bool→List Ch→Value→Prop
 | true,cs,u=>∃ l,AH β cs l∧u=.agg ⟨l⟩
 | false,cs,u=>AH β cs [u]
def D7 (β:Env):List (Bool×List Ch)→List Value→Prop
 | [],l=>l=[]
 | (g,cs)::r,l=>∃ u l',BO β g cs u∧D7 β r l'∧l=u::l'
def AG (β:Env):AV→Value→Prop
 | .val g cs,u=>BO β g cs u
 | .tup xs,u=>∃ us,D7 β xs us∧u=.tuple ⟨us⟩
 | .any,_=>True
def G6:Nat:=4294967296
def W0 (s:Nat) (es:List MapEntry) (l:List Value):Prop :=
 l=es.flatMap (fun e=>e.key::e.val.cells.toList)∧∀ e∈es,(∃ st,e.key=.string st)∧∃ c:List Value,e.val=.agg ⟨c⟩∧c.length=s
def Da (β:Env) (blk:Blk) (bk:Nat) (w:World):Prop :=
 (∃ B n l t pre ty fz,β bk=some (.at_ B n)∧AH β blk.cs l∧w.heap[B]? = some (.cells ⟨pre++(l++t)⟩ ty fz)∧pre.length=n.2 ∧
  (blk.ty≠BN→pre=[]∧ty=blk.ty∧fz=(0,0)∧(blk.opn=false→t=[])∧(l++t).length=n.1∧(∀ v∈t,v.oneCell'=true))) ∨
 (β bk=some .nil∧(blk.opn=true∨blk.ty=BN)∧AH β blk.cs []) ∨
 (∃ B l es clock,β bk=some (.at_ B (0,0))∧G6≤blk.ty∧AH β blk.cs (.nilIface::l)∧w.heap[B]? = some (.map es clock)∧W0 (blk.ty-G6) es.toList l)
theorem SF {β:Env} {blk:Blk} {bk B n:Nat} {l t:List Value} {w:World} (h1:β bk=some (.at_ B (n,0))) (h2:AH β blk.cs l) (h3:w.heap[B]? = some (.cells ⟨l++t⟩ blk.ty (0,0))) (h4:blk.opn=false→t=[]) (h5:(l++t).length=n)
  (h6:∀ v∈t,v.oneCell'=true):Da β blk bk w :=
 .inl ⟨B,(n,0),l,t,[],blk.ty,(0,0),h1,h2,h3,rfl,fun _=>⟨rfl,rfl,rfl,h4,h5,h6⟩⟩
theorem gR {β:Env} {blk:Blk} {bk:Nat} {w:World} (h:Da β blk bk w) (ht:blk.ty<G6) :
  (∃ B n l t pre ty fz,β bk=some (.at_ B n)∧AH β blk.cs l∧w.heap[B]? = some (.cells ⟨pre++(l++t)⟩ ty fz)∧pre.length=n.2 ∧
  (blk.ty≠BN→pre=[]∧ty=blk.ty∧fz=(0,0)∧(blk.opn=false→t=[])∧(l++t).length=n.1∧(∀ v∈t,v.oneCell'=true))) ∨
  (β bk=some .nil∧(blk.opn=true∨blk.ty=BN)∧AH β blk.cs []):=by
 rcases h with h | h | ⟨_,_,_,_,_,h,_⟩
 ·exact .inl h
 ·exact .inr h
 ·exact absurd h (Nat.not_le.2 ht)
theorem Lm {β:Env} {blk:Blk} {bk:Nat} {w:World} (h:Da β blk bk w) (hr:blk.ty<BN) :
  (∃ B n l t,β bk=some (.at_ B (n,0))∧AH β blk.cs l∧w.heap[B]? = some (.cells ⟨l++t⟩ blk.ty (0,0))∧(blk.opn=false→t=[])∧(l++t).length=n∧(∀ v∈t,v.oneCell'=true))∨(β bk=some .nil∧blk.opn=true∧AH β blk.cs []):=by
 rcases gR h (Nat.lt_trans hr (by decide)) with ⟨B,n,l,t,pre,ty,fz,h1,h2,h3,h4,h5⟩ | ⟨h1,h2,h3⟩
 ·obtain ⟨rfl,rfl,rfl,e4,e5,e6⟩:=h5 (Nat.ne_of_lt hr)
  have hn:n=(n.1,0):=by rw [show (0:Nat)=n.2 from h4]
  exact .inl ⟨B,n.1,l,t,by rw [← hn];exact h1,h2,h3,e4,e5,e6⟩
 ·exact .inr ⟨h1,h2.resolve_right (Nat.ne_of_lt hr),h3⟩
def Env.le (β β':Env):Prop:=∀ b B,β b=some B→β' b=some B
theorem Env.le_refl (β:Env):Env.le β β:=fun _ _ h=>h
theorem Env.le_trans {a b c:Env} (h:Env.le a b) (k:Env.le b c):Env.le a c:=fun x X e=>k x X (h x X e)
section
variable {β β':Env} (hm:Env.le β β')
include hm
theorem gS:∀ {r:List (Nat×Nat)} {l:List Value},D6 β r l→D6 β' r l
 | [],_,h=>h
 | (_,_)::_,_,⟨B,n,l',h1,h2,h3⟩=>⟨B,n,l',hm _ _ h1,gS h2,h3⟩
theorem AAq {c:Ch} {l:List Value} (h:A2 β c l):A2 β' c l:=by
 cases c<;>simp only [A2] at h ⊢
 case n=>exact h
 case b=>exact h
 case v=>exact h
 case p=>obtain ⟨B,n,h1,h2⟩:=h;exact ⟨B,n,hm _ _ h1,h2⟩
 case sl =>
  rcases h with ⟨B,n,h1,h2⟩ | ⟨h1,h2⟩
  ·exact .inl ⟨B,n,hm _ _ h1,h2⟩
  ·exact .inr ⟨hm _ _ h1,h2⟩
 case sx =>
  rcases h with ⟨B,n,cap,h1,h2⟩ | ⟨h1,h2⟩
  ·exact .inl ⟨B,n,cap,hm _ _ h1,h2⟩
  ·exact .inr ⟨hm _ _ h1,h2⟩
 case num=>exact h
 case seq=>exact h
 case clo=>obtain ⟨ps,h1,h2⟩:=h;exact ⟨ps,gS hm h1,h2⟩
 case mth=>obtain ⟨B,n,h1,h2⟩:=h;exact ⟨B,n,hm _ _ h1,h2⟩
 case mp=>obtain ⟨B,h1,h2⟩:=h;exact ⟨B,hm _ _ h1,h2⟩
 case mk=>exact h
theorem Hn:∀ {cs:List Ch} {l:List Value},AH β cs l→AH β' cs l
 | [],_,h=>h
 | _::_,_,⟨l1,l2,h1,h2,h3⟩=>⟨l1,l2,AAq hm h1,Hn h2,h3⟩
theorem gT {g:Bool} {cs:List Ch} {u:Value} (h:BO β g cs u):BO β' g cs u:=by
 cases g
 ·exact Hn hm h
 ·obtain ⟨l,h1,h2⟩:=h;exact ⟨l,Hn hm h1,h2⟩
theorem gU:∀ {xs:List (Bool×List Ch)} {l:List Value},D7 β xs l→D7 β' xs l
 | [],_,h=>h
 | (_,_)::_,_,⟨u,l',h1,h2,h3⟩=>⟨u,l',gT hm h1,gU h2,h3⟩
theorem SG {x:AV} {u:Value} (h:AG β x u):AG β' x u:=by
 cases x with
 | val g cs=>exact gT hm h
 | tup xs=>obtain ⟨us,h1,h2⟩:=h;exact ⟨us,gU hm h1,h2⟩
 | any=>trivial
theorem SH {blk:Blk} {bk:Nat} {w:World} (h:Da β blk bk w):Da β' blk bk w:=by
 rcases h with ⟨B,n,l,t,pre,ty,fz,h1,h2,h3⟩ | ⟨h1,h2,h3⟩ | ⟨B,l,es,q,h1,h2,h3,h4⟩
 ·exact .inl ⟨B,n,l,t,pre,ty,fz,hm _ _ h1,Hn hm h2,h3⟩
 ·exact .inr (.inl ⟨hm _ _ h1,h2,Hn hm h3⟩)
 ·exact .inr (.inr ⟨B,l,es,q,hm _ _ h1,h2,Hn hm h3,h4⟩)
end
def DN:Ch→Nat
 | .num k _=>k
 | .seq _ l=>l.length
 | _=>1
def Ho:List Ch→Nat
 | []=>0
 | c::cs=>DN c+Ho cs
theorem Hp (k x:Nat):(words k x).length=k:=by simp [words]
theorem Lo {β:Env} {c:Ch} {l:List Value} (h:A2 β c l):l.length=DN c:=by
 cases c<;>simp only [A2] at h<;>simp only [DN]
 case n=>simp [h.1]
 case b=>simp [h]
 case v=>simp [h.1]
 case p=>obtain ⟨B,n,_,rfl⟩:=h;rfl
 case sl=>rcases h with ⟨B,n,_,rfl⟩ | ⟨_,_,_,_,rfl⟩<;>rfl
 case sx=>rcases h with ⟨B,n,cap,_,rfl,_⟩ | ⟨_,_,rfl⟩<;>rfl
 case num=>rw [h.2,Hp]
 case seq=>simp [h.1]
 case clo=>obtain ⟨ps,_,rfl⟩:=h;rfl
 case mth=>obtain ⟨B,n,_,rfl⟩:=h;rfl
 case mp=>obtain ⟨B,_,rfl⟩:=h;rfl
 case mk=>simp [h]
theorem NZ {β:Env}:∀ {cs:List Ch} {l:List Value},AH β cs l→l.length=Ho cs
 | [],l,h=>by simp only [AH] at h;simp [h,Ho]
 | c::cs,l,⟨l1,l2,h1,h2,h3⟩=>by simp [h3,Ho,Lo h1,NZ h2]
theorem J7 {β:Env}:∀ {a b:List Ch} {x y:List Value},AH β a x→AH β b y→AH β (a++b) (x++y)
 | [],_,_,_,h,k=>by simp only [AH] at h;simpa [h] using k
 | c::a,b,x,y,⟨l1,l2,h1,h2,h3⟩,k=>⟨l1,l2++y,h1,J7 h2 k,by simp [h3]⟩
theorem SI (x i:Nat):has .u64 (AF x i):=by
 have h1:x / 2^(64*i) % 2^64<2^64:=Nat.mod_lt _ (by decide)
 simp only [has,AF,IntKind.min,IntKind.max,IntKind.signed,IntKind.bits]
 simp at h1 ⊢
 omega
theorem SJ {β:Env} (x:Nat):∀ (is:List Nat),AH β (is.map fun i=>Ch.v (.int .u64 (AF x i))) (is.map fun i=>Value.int .u64 (AF x i))
 | []=>rfl
 | i::is=>⟨[_],_,⟨rfl,rfl,SI x i⟩,SJ x is,rfl⟩
theorem AAr {β:Env} (k x:Nat):AH β (Iq k x) (words k x):=SJ x _
def D8:List Ch→Nat→Option (List Ch×List Ch)
 | [],m=>match m with | 0=>some ([],[]) | _=>none
 | c::cs,m=>match m with
  | 0=>some ([],c::cs)
  | m'+1=>match Nat.ble (DN c) (m'+1) with
   | true=>match D8 cs (m'+1-DN c) with
    | some (a,r)=>some (c::a,r)
    | none=>none
   | false=>match c with
    | .num k x=>some ((Iq k x).take (m'+1),(Iq k x).drop (m'+1)++cs)
    | .seq kd l=>some ([.seq kd (l.take (m'+1))],.seq kd (l.drop (m'+1))::cs)
    | _=>none
theorem AAs {β:Env} (k x m:Nat):AH β ((Iq k x).take m) ((words k x).take m)∧AH β ((Iq k x).drop m) ((words k x).drop m):=by
 unfold Iq words
 rw [← List.map_take,← List.map_take,← List.map_drop,← List.map_drop]
 exact ⟨SJ x _,SJ x _⟩
theorem FV {β:Env}:∀ {cs:List Ch} {m:Nat} {a r:List Ch} {l:List Value},D8 cs m=some (a,r)→AH β cs l →
  AH β a (l.take m)∧AH β r (l.drop m)∧m≤l.length
 | [],m,a,r,l,h,hl=>by
  simp only [AH] at hl
  subst hl
  cases m with
  | zero=>simp [D8] at h;obtain ⟨rfl,rfl⟩:=h;simp [AH]
  | succ m=>simp [D8] at h
 | c::cs,m,a,r,l,h,hl=>by
  cases m with
  | zero=>simp [D8] at h;obtain ⟨rfl,rfl⟩:=h;exact ⟨by simp [AH],by simpa using hl,Nat.zero_le _⟩
  | succ m =>
   obtain ⟨l1,l2,h1,h2,rfl⟩:=hl
   have hz:=Lo h1
   simp only [D8] at h
   cases hb:Nat.ble (DN c) (m+1) with
   | true =>
    have hle:=Nat.le_of_ble_eq_true hb
    simp only [hb] at h
    split at h
    ·rename_i a' r' hs
     simp only [Option.some.injEq,Prod.mk.injEq] at h
     obtain ⟨rfl,rfl⟩:=h
     obtain ⟨i1,i2,i3⟩:=FV hs h2
     refine ⟨⟨l1,_,h1,i1,?_⟩,?_,?_⟩
     ·rw [List.take_append,hz,List.take_of_length_le (by omega)]
     ·rw [List.drop_append,hz,List.drop_eq_nil_of_le (by omega),List.nil_append];exact i2
     ·simp;omega
    ·cases h
   | false =>
    have hlt:m+1<DN c:=by
     rcases Nat.lt_or_ge (m+1) (DN c) with h' | h'
     ·exact h'
     ·rw [Nat.ble_eq_true_of_le h'] at hb;cases hb
    simp only [hb] at h
    split at h
    ·rename_i k x
     simp only [Option.some.injEq,Prod.mk.injEq] at h
     obtain ⟨rfl,rfl⟩:=h
     simp only [A2] at h1
     obtain ⟨_,rfl⟩:=h1
     simp only [DN] at hlt
     obtain ⟨j1,j2⟩:=AAs (β:=β) k x (m+1)
     refine ⟨?_,?_,?_⟩
     ·rw [List.take_append_of_le_length (by rw [Hp];omega)];exact j1
     ·rw [List.drop_append_of_le_length (by rw [Hp];omega)];exact J7 j2 h2
     ·simp [Hp];omega
    ·rename_i kd xs
     simp only [Option.some.injEq,Prod.mk.injEq] at h
     obtain ⟨rfl,rfl⟩:=h
     simp only [A2] at h1
     obtain ⟨rfl,hx⟩:=h1
     simp only [DN] at hlt
     refine ⟨?_,?_,?_⟩
     ·rw [List.take_append_of_le_length (by simp;omega),← List.map_take]
      exact ⟨_,[],⟨rfl,fun x h=>hx x (List.mem_of_mem_take h)⟩,rfl,by simp⟩
     ·rw [List.drop_append_of_le_length (by simp;omega),← List.map_drop]
      exact ⟨_,_,⟨rfl,fun x h=>hx x (List.mem_of_mem_drop h)⟩,h2,rfl⟩
     ·simp;omega
    ·cases h
def Hq (cs:List Ch) (off sz:Nat):Option (List Ch) :=
 match D8 cs off with
 | some (_,r)=>match D8 r sz with
  | some (m,_)=>some m
  | none=>none
 | none=>none
theorem Ng {β:Env} {cs m:List Ch} {off sz:Nat} {l:List Value} (h:Hq cs off sz=some m) (hl:AH β cs l) :
  AH β m ((l.drop off).take sz)∧off+sz≤l.length:=by
 unfold Hq at h
 split at h
 ·rename_i a r h1
  split at h
  ·rename_i m' t h2
   injection h with h;subst h
   obtain ⟨_,i2,i3⟩:=FV h1 hl
   obtain ⟨j1,_,j3⟩:=FV h2 i2
   refine ⟨j1,?_⟩
   simp at j3;omega
  ·cases h
 ·cases h
def PV (cs:List Ch) (off sz:Nat) (new:List Ch):Option (List Ch) :=
 match D8 cs off with
 | some (a,r)=>match D8 r sz with
  | some (_,t)=>some (a++(new++t))
  | none=>none
 | none=>none
theorem W1 {β:Env} {cs m new:List Ch} {off sz:Nat} {l ln:List Value} (h:PV cs off sz new=some m) (hl:AH β cs l) (hn:AH β new ln) :
  AH β m (l.take off++ln++l.drop (off+sz))∧off+sz≤l.length:=by
 unfold PV at h
 split at h
 ·rename_i a r h1
  split at h
  ·rename_i m' t h2
   injection h with h;subst h
   obtain ⟨i1,i2,i3⟩:=FV h1 hl
   obtain ⟨_,j2,j3⟩:=FV h2 i2
   refine ⟨?_,?_⟩
   ·rw [List.append_assoc]
    exact J7 i1 (J7 hn (by rw [List.drop_drop] at j2;exact j2))
   ·simp at j3;omega
  ·cases h
 ·cases h
def AB:Heap→Nat→Option Blk
 | [],_=>none
 | (k,x)::r,b=>match Nat.beq k b with | true=>x | false=>AB r b
def Ir:Heap→Nat→Option Blk→Heap
 | [],b,y=>[(b,y)]
 | (k,x)::r,b,y=>match Nat.beq k b with | true=>(k,y)::r | false=>(k,x)::Ir r b y
theorem Ad {a b:Nat}:Nat.beq a b=true↔a=b:=by rw [Nat.beq_eq]
theorem FW {a b:Nat} (h:Nat.beq a b=false):a≠b:=fun e=>by rw [Ad.2 e] at h;cases h
theorem Ev {a b:Nat} (h:a≠b):Nat.beq a b=false:=by
 cases hb:Nat.beq a b
 ·rfl
 ·exact absurd (Ad.1 hb) h
theorem AAt (H:Heap) (b:Nat) (y:Option Blk):AB (Ir H b y) b=y:=by
 induction H with
 | nil=>simp [Ir,AB]
 | cons e r ih =>
  obtain ⟨k,x⟩:=e
  simp only [Ir]
  cases hk:Nat.beq k b with
  | true=>simp [AB,hk]
  | false=>simp [AB,hk,ih]
theorem AAu (H:Heap) (b c:Nat) (y:Option Blk) (h:b≠c):AB (Ir H b y) c=AB H c:=by
 induction H with
 | nil=>simp [Ir,AB,Ev h]
 | cons e r ih =>
  obtain ⟨k,x⟩:=e
  simp only [Ir]
  cases hk:Nat.beq k b with
  | true =>
   have:=Ad.1 hk
   subst this
   simp [AB,Ev h]
  | false =>
   simp only [AB,ih]
def D9 (H:Heap) (u:Heap):Heap:=match u with
 | []=>H
 | (b,y)::r=>D9 (Ir H b y) r
def Hr (H:Heap) (b:Nat):Option Blk:=match AB H b with
 | some blk=>match Nat.blt blk.ty G6 with
  | true=>some blk
  | false=>none
 | none=>none
theorem gV {H:Heap} {b:Nat} {blk:Blk} (h:Hr H b=some blk):AB H b=some blk∧blk.ty<G6:=by
 unfold Hr at h
 split at h
 ·rename_i x hx
  split at h
  ·rename_i ht
   injection h with h;subst h
   exact ⟨hx,Nat.le_of_ble_eq_true ht⟩
  ·cases h
 ·cases h
def G7:List Ch→Bool
 | []=>true
 | .mk::_=>false
 | .v y::r=>match y with
  | .nilIface=>false
  | _=>G7 r
 | _::r=>G7 r
theorem W2 {β:Env}:∀ {cs:List Ch} {l:List Value},G7 cs=true→AH β cs l→.nilIface ∉ l
 | [],l,_,h,hm=>by simp only [AH] at h;subst h;cases hm
 | c::cs,l,hw,⟨l1,l2,h1,h2,h3⟩,hm=>by
  rw [h3,List.mem_append] at hm
  have key:G7 cs=true∧.nilIface ∉ l1:=by
   cases c<;>simp only [A2] at h1
   case n=>rw [h1.1];exact ⟨hw,by simp⟩
   case b=>rw [h1];exact ⟨hw,by simp⟩
   case v y =>
    rw [h1.1]
    cases y<;>first | exact ⟨hw,by simp⟩ | cases hw
   case p=>obtain ⟨B,n,_,rfl⟩:=h1;exact ⟨hw,by simp⟩
   case sl=>rcases h1 with ⟨B,n,_,rfl⟩ | ⟨_,_,_,_,rfl⟩<;>exact ⟨hw,by simp⟩
   case sx=>rcases h1 with ⟨B,n,cap,_,rfl,_⟩ | ⟨_,_,rfl⟩<;>exact ⟨hw,by simp⟩
   case num=>rw [h1.2];exact ⟨hw,by simp [words]⟩
   case seq=>rw [h1.1];exact ⟨hw,by simp⟩
   case clo=>obtain ⟨ps,_,rfl⟩:=h1;exact ⟨hw,by simp⟩
   case mth=>obtain ⟨B,n,_,rfl⟩:=h1;exact ⟨hw,by simp⟩
   case mp=>obtain ⟨B,_,rfl⟩:=h1;exact ⟨hw,by simp⟩
   case mk=>cases hw
  exact hm.elim key.2 (W2 key.1 h2)
def AAv (β:Env) (H:Heap) (w:World):Prop:=∀ b blk,AB H b=some blk→Da β blk b w
structure R where
 val:AV
 upd:Heap
 nw:Nat
 conds:List (Bool×Bool)
 path:List Bool
def AP:List (Bool×Bool)→Prop
 | []=>True
 | (x,d)::r=>x=d∧AP r
theorem Bz:∀ {a b:List (Bool×Bool)},AP (a++b)↔AP a∧AP b
 | [],b=>by simp [AP]
 | (x,d)::a,b=>by simp [AP,Bz (a:=a),and_assoc]
def BS (x:AV) (path:List Bool):R:=⟨x,[],0,[],path⟩
structure Eff (β:Env) (fr:Nat) (r:R) (w:World) (u:Value) (w':World) (β':Env):Prop where
 ext:Env.le β β'
 new:∀ b X,β' b=some X→β b=some X∨(fr≤b∧b<fr+r.nw∧∀ B n,X=.at_ B n→w.heap.size≤B∨∃ k m,(k,none)∈r.upd∧β k=some (.at_ B m))
 lt:∀ b B n,β' b=some (.at_ B n)→B<w'.heap.size
 inj:∀ b b' B n n',fr≤b→fr≤b'→b<fr+r.nw→b'<fr+r.nw→β' b=some (.at_ B n)→β' b'=some (.at_ B n')→b=b'
 val:AG β' r.val u
 upd:∀ k y,(k,some y)∈r.upd→Da β' y k w'
 frame:∀ B,B<w.heap.size→(∀ k y n,(k,y)∈r.upd→β k≠some (.at_ B n))→w'.heap[B]? = w.heap[B]?
 size:w.heap.size≤w'.heap.size
 os:w'.os=w.os
 tape:w'.tape=w.tape
 output:w'.output=w.output
def EM (H:Heap) (b:Nat):Bool:=match AB H b with | some blk=>!Nat.beq blk.ty BN | none=>false
theorem FB {H:Heap} {b:Nat} (h:EM H b=true):∃ blk,AB H b=some blk∧blk.ty≠BN:=by
 unfold EM at h
 split at h
 ·rename_i blk hb
  exact ⟨blk,hb,fun e=>by rw [e] at h;cases h⟩
 ·cases h
theorem EN {H:Heap} {b:Nat} {blk:Blk} (h:AB H b=some blk) (hr:blk.ty≠BN):EM H b=true:=by
 unfold EM;rw [h];simp only [Ev hr];rfl
theorem PW {H:Heap} {b:Nat} (h:EM H b=true):(AB H b).isSome=true:=by
 obtain ⟨blk,hb,_⟩:=FB h
 rw [hb];rfl
theorem gW {H H':Heap} {b:Nat} (h:AB H b=AB H' b):EM H b=EM H' b:=by unfold EM;rw [h]
structure Good (β:Env) (H:Heap) (w:World):Prop where
 heap:AAv β H w
 inj:∀ b b' B n n',EM H b=true→(AB H b').isSome=true→β b=some (.at_ B n)→β b'=some (.at_ B n')→b=b'
 lt:∀ b B n,β b=some (.at_ B n)→B<w.heap.size
theorem Good.cells {β:Env} {H:Heap} {w:World} (g:Good β H w) {b:Nat} {blk:Blk} (h:Hr H b=some blk) :
  (∃ B n l t pre ty fz,β b=some (.at_ B n)∧AH β blk.cs l∧w.heap[B]? = some (.cells ⟨pre++(l++t)⟩ ty fz)∧pre.length=n.2 ∧
  (blk.ty≠BN→pre=[]∧ty=blk.ty∧fz=(0,0)∧(blk.opn=false→t=[])∧(l++t).length=n.1∧(∀ v∈t,v.oneCell'=true))) ∨
  (β b=some .nil∧(blk.opn=true∨blk.ty=BN)∧AH β blk.cs []):=gR (g.heap _ _ (gV h).1) (gV h).2
theorem Eff.pure_ {β:Env} {fr:Nat} {x:AV} {path:List Bool} {c:List (Bool×Bool)} {H:Heap} {w:World} {u:Value} (g:Good β H w) (h:AG β x u) :
  Eff β fr ⟨x,[],0,c,path⟩ w u w β where
 ext:=Env.le_refl β
 new:=fun _ _ h=>.inl h
 lt:=g.lt
 inj:=fun b b' _ _ _ h1 _ h3=>by simp at h3;omega
 val:=h
 upd:=fun _ _ h=>by cases h
 frame:=fun _ _ _=>rfl
 size:=Nat.le_refl _
 os:=rfl
 tape:=rfl
 output:=rfl
def Env.put (β:Env) (b:Nat) (X:Loc):Env:=fun x=>if x=b then some X else β x
theorem Env.put_same (β:Env) (b:Nat) (X:Loc):β.put b X b=some X:=by simp [Env.put]
theorem Env.le_put {β:Env} {b:Nat} (X:Loc) (h:β b=none):Env.le β (β.put b X):=fun x Y e=>by
 unfold Env.put
 split
 ·rename_i hx;subst hx;rw [h] at e;cases e
 ·exact e
theorem Eff.new_ {β:Env} {fr n:Nat} {x:AV} {path:List Bool} {c:List (Bool×Bool)} {H:Heap} {w:World} {u:Value} {ty:TypeId} {cs:List Ch} {l:List Value}
  (g:Good β H w) (hf:β fr=none) (hl:AH β cs l) (hn:l.length=n) (h:AG (β.put fr (.at_ w.heap.size (n,0))) x u) :
  Eff β fr ⟨x,[(fr,some ⟨ty,cs,false⟩)],1,c,path⟩ w u (w.alloc (.cells ⟨l⟩ ty)) (β.put fr (.at_ w.heap.size (n,0))) where
 ext:=Env.le_put _ hf
 new:=fun b X k=>by
  unfold Env.put at k
  split at k
  ·rename_i hb;subst hb;injection k with k;subst k
   exact .inr ⟨Nat.le_refl _,by simp,fun B n e=>by injection e with e1 e2;subst e1;exact .inl (Nat.le_refl _)⟩
  ·exact .inl k
 lt:=fun b B m k=>by
  unfold Env.put at k
  split at k
  ·injection k with k;injection k with k _;subst k;simp
  ·have:=g.lt _ _ _ k;simp;omega
 inj:=fun b b' _ _ _ h1 h2 h3 h4 _ _=>by simp at h3 h4;omega
 val:=h
 upd:=fun k y hy=>by
  simp only [List.mem_singleton,Prod.mk.injEq,Option.some.injEq] at hy
  obtain ⟨rfl,rfl⟩:=hy
  exact SF (l:=l) (t:=[]) (Env.put_same ..) (Hn (Env.le_put _ hf) hl) (by show (w.heap.push _)[w.heap.size]? = _;simp) (fun _=>rfl) (by simpa using hn) (by simp)
 frame:=fun B hB _=>by
  show (w.heap.push _)[B]? = _
  rw [Array.getElem?_push,if_neg (by omega)]
 size:=by simp
 os:=rfl
 tape:=rfl
 output:=rfl
theorem Eff.write {β:Env} {fr:Nat} {x:AV} {path:List Bool} {c:List (Bool×Bool)} {H:Heap} {w:World} {u:Value} {ty:TypeId} {bk B n:Nat} {cs:List Ch} {l t l0:List Value} {opn:Bool}
  (g:Good β H w) (hb:β bk=some (.at_ B (n,0))) (ho:w.heap[B]? = some (.cells ⟨l0⟩ ty (0,0))) (hl:AH β cs l) (ht:opn=false→t=[]) (hn:(l++t).length=n) (h1:∀ v∈t,v.oneCell'=true) (h:AG β x u) :
  Eff β fr ⟨x,[(bk,some ⟨ty,cs,opn⟩)],0,c,path⟩ w u (w.setRow B ⟨l++t⟩) β where
 ext:=Env.le_refl β
 new:=fun _ _ h=>.inl h
 lt:=fun b B' m h=>by have:=g.lt _ _ _ h;simpa [World.setRow] using this
 inj:=fun b b' _ _ _ h1 _ h3=>by simp at h3;omega
 val:=h
 upd:=fun k y hy=>by
  simp only [List.mem_singleton,Prod.mk.injEq,Option.some.injEq] at hy
  obtain ⟨rfl,rfl⟩:=hy
  exact SF hb hl (setRow_heap w B ⟨l0⟩ _ ty (0,0) ho) ht hn h1
 frame:=fun B' hB hne=>by
  have:B'≠B:=fun e=>hne _ _ (n,0) (List.mem_singleton.2 rfl) (by rw [e];exact hb)
  simp only [World.setRow,Array.getElem?_modify]
  rw [if_neg (by omega)]
 size:=by simp [World.setRow]
 os:=rfl
 tape:=rfl
 output:=rfl
def AI (k:IntKind) (n:Int):Bool :=
 match k with
 | .u64=>decide (0≤n)&&decide (n≤18446744073709551615)
 | .i64=>decide (-9223372036854775808≤n)&&decide (n≤9223372036854775807)
 | .u8=>decide (0≤n)&&decide (n≤255)
 | .u32=>decide (0≤n)&&decide (n≤4294967295)
 | .i32=>decide (-2147483648≤n)&&decide (n≤2147483647)
 | .u16=>decide (0≤n)&&decide (n≤65535)
 | .i16=>decide (-32768≤n)&&decide (n≤32767)
 | .i8=>decide (-128≤n)&&decide (n≤127)
theorem Dq (k:IntKind) (n:Int):has k n↔AI k n=true:=by
 cases k<;>simp [has,AI,IntKind.min,IntKind.max,IntKind.signed,IntKind.bits]
theorem G8 (k:IntKind) (n:Int):has k (k.wrap n):=by
 rw [Dq]
 cases k<;>simp only [IntKind.wrap,IntKind.signed,IntKind.bits,AI]<;>simp<;>(try split)<;>omega
def PX (x:Value):Option Ch :=
 match x with
 | .int k i=>match AI k i with | true=>some (.n k i) | false=>none
 | .bool y=>some (.b y)
 | .agg _ | .tuple _=>none
 | .pointer p=>some (.v (.pointer p))
 | .slice a l c=>some (.v (.slice a l c))
 | .string s=>some (.v (.string s))
 | .nilFunc=>some (.v .nilFunc)
 | .nilIface=>some (.v .nilIface)
 | .map m=>some (.v (.map m))
 | .func f a c=>some (.v (.func f a c))
 | _=>none
theorem gZ {β:Env} {x:Value} {c:Ch} (h:PX x=some c):A2 β c [x]:=by
 cases x<;>simp only [PX] at h
 case int k i =>
  split at h
  ·rename_i hh;injection h with h;subst h;exact ⟨rfl,(Dq _ _).2 hh⟩
  ·cases h
 case bool=>injection h with h;subst h;rfl
 all_goals first
  | (injection h with h;subst h;exact ⟨rfl,rfl,trivial⟩)
  | cases h
def It:List Value→Option (List Ch)
 | []=>some []
 | x::xs=>match PX x,It xs with
  | some c,some cs=>some (c::cs)
  | _,_=>none
theorem Nh {β:Env}:∀ {xs:List Value} {cs:List Ch},It xs=some cs→AH β cs xs
 | [],cs,h=>by simp [It] at h;subst h;rfl
 | x::xs,cs,h=>by
  simp only [It] at h
  split at h
  ·rename_i c cs' h1 h2
   injection h with h;subst h
   exact ⟨[x],xs,gZ h1,Nh h2,rfl⟩
  ·cases h
def Lp (x:Value):Option AV :=
 match x with
 | .agg cs=>match It cs.toList with | some l=>some (.val true l) | none=>none
 | .tuple cs=>match cs.toList with | []=>some (.tup []) | _=>none
 | x=>match PX x with | some c=>some (.val false [c]) | none=>none
theorem SK {β:Env} {x:Value} {A:AV} (h:Lp x=some A):AG β A x:=by
 have scal:∀ y,(match PX y with | some c=>some (AV.val false [c]) | none=>none)=some A→AG β A y:=by
  intro y h
  split at h
  ·rename_i c hc;injection h with h;subst h
   exact ⟨[y],[],gZ hc,rfl,rfl⟩
  ·cases h
 cases x
 case agg cs =>
  simp only [Lp] at h
  split at h
  ·rename_i l hl;injection h with h;subst h;exact ⟨cs.toList,Nh hl,rfl⟩
  ·cases h
 case tuple cs =>
  simp only [Lp] at h
  split at h
  ·rename_i hl;injection h with h;subst h
   exact ⟨[],rfl,by rw [← hl]⟩
  ·cases h
 all_goals exact scal _ h
def BG (τ:Nat→AV):Operand→Option AV
 | .tmp t=>some (τ t)
 | .const x=>Lp x
 | .func f=>some (.val false [.v (.func (.func f) #[] #[])])
 | .global _=>none
theorem Hs {β:Env} {τ:Nat→AV} {a:Act} (ht:∀ t,AG β (τ t) (a.tmps.getD t undef)) {x:Operand} {A:AV} (h:BG τ x=some A):AG β A (a.eval x):=by
 cases x<;>simp only [BG] at h
 case tmp t=>injection h with h;subst h;exact ht t
 case const v=>exact SK h
 case func f=>injection h with h;subst h;exact ⟨[_],[],⟨rfl,rfl,trivial⟩,rfl,rfl⟩
 case global=>cases h
theorem An {β:Env} {c:Ch} {u:Value} (h:BO β false [c] u):A2 β c [u]:=by
 obtain ⟨l1,l2,h1,h2,h3⟩:=h
 simp only [AH] at h2
 subst h2
 rw [List.append_nil] at h3
 rw [h3];exact h1
theorem Am {β:Env} {c:Ch} {u:Value} (h:A2 β c [u]):BO β false [c] u:=⟨[u],[],h,rfl,rfl⟩
theorem Ni {β:Env} {g:Bool} {cs:List Ch} {u:Value} (h:BO β g cs u):AH β cs u.cells.toList:=by
 cases g
 ·have hl:=h
  simp only [BO] at hl
  have hc:u.cells=#[u]∨∃ x,u=.agg x:=by cases u<;>simp [Value.cells]
  rcases hc with hc | ⟨x,rfl⟩
  ·rw [hc];exact hl
  ·exfalso
   clear h
   have:∀ (cs:List Ch) (l:List Value),AH β cs l→.agg x ∉ l:=by
    intro cs
    induction cs with
    | nil=>intro l h;simp only [AH] at h;simp [h]
    | cons c cs ih =>
     intro l ⟨l1,l2,h1,h2,h3⟩ hm
     rw [h3,List.mem_append] at hm
     rcases hm with hm | hm
     ·cases c<;>simp only [A2] at h1
      case n=>rw [h1.1] at hm;simp at hm
      case b=>rw [h1] at hm;simp at hm
      case v y=>rw [h1.1] at hm;simp at hm;subst hm;exact absurd h1.2.1 (by simp [Value.oneCell'])
      case p=>obtain ⟨B,n,_,rfl⟩:=h1;simp at hm
      case sl=>rcases h1 with ⟨B,n,_,rfl⟩ | ⟨_,_,_,_,rfl⟩<;>simp at hm
      case sx=>rcases h1 with ⟨B,n,cap,_,rfl,_⟩ | ⟨_,_,rfl⟩<;>simp at hm
      case num=>rw [h1.2] at hm;simp [words] at hm
      case seq=>rw [h1.1] at hm;simp at hm
      case clo=>obtain ⟨B,_,rfl⟩:=h1;simp at hm
      case mth=>obtain ⟨B,n,_,rfl⟩:=h1;simp at hm
      case mp=>obtain ⟨B,_,rfl⟩:=h1;simp at hm
      case mk=>rw [h1] at hm;simp at hm
     ·exact ih _ h2 hm
   exact this _ _ hl (by simp)
 ·obtain ⟨l,h1,rfl⟩:=h;exact h1
theorem Nj {β:Env}:∀ {cs:List Ch} {l:List Value},AH β cs l→∀ v∈l,v.oneCell'=true
 | [],l,h,v,hv=>by simp only [AH] at h;subst h;cases hv
 | c::cs,l,⟨l1,l2,h1,h2,h3⟩,v,hv=>by
  rw [h3,List.mem_append] at hv
  rcases hv with hm | hm
  ·cases c<;>simp only [A2] at h1
   case n=>rw [h1.1] at hm;simp at hm;subst hm;rfl
   case b=>rw [h1] at hm;simp at hm;subst hm;rfl
   case v y=>rw [h1.1] at hm;simp at hm;subst hm;exact h1.2.1
   case p=>obtain ⟨B,n,_,rfl⟩:=h1;simp at hm;subst hm;rfl
   case sl=>rcases h1 with ⟨B,n,_,rfl⟩ | ⟨_,_,_,_,rfl⟩<;>(simp at hm;subst hm;rfl)
   case sx=>rcases h1 with ⟨B,n,cap,_,rfl,_⟩ | ⟨_,_,rfl⟩<;>(simp at hm;subst hm;rfl)
   case num=>rw [h1.2] at hm;simp [words] at hm;obtain ⟨i,_,rfl⟩:=hm;rfl
   case seq=>rw [h1.1] at hm;simp at hm;obtain ⟨i,_,rfl⟩:=hm;rfl
   case clo=>obtain ⟨B,_,rfl⟩:=h1;simp at hm;subst hm;rfl
   case mth=>obtain ⟨B,n,_,rfl⟩:=h1;simp at hm;subst hm;rfl
   case mp=>obtain ⟨B,_,rfl⟩:=h1;simp at hm;subst hm;rfl
   case mk=>rw [h1] at hm;simp at hm;subst hm;rfl
  ·exact Nj h2 v hm
section ops
variable {P:Program} {β:Env} {H:Heap} {w:World}
def W3 (P:Program) (t:TypeId) (fr:Nat) (path:List Bool):Option R :=
 match P.info? t with
 | some i=>match i.zero with
  | some z=>match Lp z with
   | some (.val _ cs)=>some ⟨.val false [.p fr 0],[(fr,some ⟨t,cs,false⟩)],1,[],path⟩
   | _=>none
  | none=>none
 | none=>none
theorem g5 (β:Env) (fr B n:Nat):AG (β.put fr (.at_ B (n,0))) (.val false [.p fr 0]) (.pointer (some ⟨B,0,none⟩)) :=
 Am ⟨B,(n,0),Env.put_same ..,rfl⟩
theorem AAw {t fr:Nat} {path:List Bool} {r:R} (g:Good β H w) (h:W3 P t fr path=some r) (hf:∀ b,fr≤b→b<fr+r.nw→β b=none) :
  ∃ u w' β',(Instr.alloc t true (.tuple #[])).run P w=.ok u w'∧Eff β fr r w u w' β':=by
 unfold W3 at h
 split at h
 ·rename_i i hi
  split at h
  ·rename_i z hz
   split at h
   ·rename_i gg cs hc
    injection h with h;subst h
    have hr:=Ni (SK (β:=β) hc)
    refine ⟨_,_,_,?_,Eff.new_ g (hf fr (Nat.le_refl _) (by simp)) hr rfl (g5 β fr _ _)⟩
    simp [Instr.alloc,zeroValue,typeInfo,hi,hz,newVar,newRow]
   ·cases h
  ·cases h
 ·cases h
def W4 (t:TypeId) (x:Option AV) (fr:Nat) (path:List Bool):Option R :=
 match x with
 | some (.val _ cs)=>some ⟨.val false [.p fr 0],[(fr,some ⟨t,cs,false⟩)],1,[],path⟩
 | _=>none
theorem AAx {t fr:Nat} {path:List Bool} {x:Option AV} {u:Value} {r:R} (g:Good β H w) (hx:∀ A,x=some A→AG β A u) (h:W4 t x fr path=some r)
  (hf:∀ b,fr≤b→b<fr+r.nw→β b=none) :
  ∃ v w' β',(Instr.box t u).run P w=.ok v w'∧Eff β fr r w v w' β':=by
 unfold W4 at h
 split at h
 ·rename_i gg cs
  injection h with h;subst h
  have hr:=Ni (hx _ rfl)
  refine ⟨_,_,_,?_,Eff.new_ g (hf fr (Nat.le_refl _) (by simp)) hr rfl (g5 β fr _ _)⟩
  simp [Instr.box,newVar,newRow]
 ·cases h
def wide:TypeDesc→Bool
 | .struct _ | .array _ _=>true
 | _=>false
theorem PY {t:TypeId} {d:TypeDesc} (h:P.underlying t=some d) (w:World):(isAgg t).run P w=.ok (wide d) w:=by
 unfold isAgg
 simp only [Sem.run_bind,run_underlying h,Result.andThen_ok]
 cases d<;>rfl
def Nk (P:Program) (t:TypeId) (cs:List Ch) (off:Nat) (path:List Bool):Option R :=
 match P.underlying t,P.info? t with
 | some d,some i=>match wide d with
  | true=>match Hq cs off i.size with
   | some m=>some (BS (.val true m) path)
   | none=>none
  | false=>match cs with
   | [.seq kd xs]=>some ⟨.val false [.v (.int kd (xs.getD off 0))],[],0,[(decide (off<xs.length),true)],path⟩
   | cs=>match Hq cs off 1 with
    | some m=>some (BS (.val false m) path)
    | none=>none
 | _,_=>none
def W5 (P:Program) (t:TypeId) (cs:List Ch) (off:Nat) (path:List Bool):Option R :=
 match cs with
 | [.seq kd xs]=>match P.underlying t,P.info? t with
  | some d,some i=>match wide d with
   | true=>some ⟨.val true [.seq kd ((xs.drop off).take i.size)],[],0,[(Nat.ble (off+i.size) xs.length,true)],path⟩
   | false=>Nk P t cs off path
  | _,_=>none
 | cs=>Nk P t cs off path
def W6 (P:Program) (t:TypeId) (x:Option AV) (H:Heap) (path:List Bool):Option R :=
 match x with
 | some (.val false [.p bk off])=>match Hr H bk with
  | some blk=>match blk.opn with
   | true=>W5 P t blk.cs off path
   | false=>Nk P t blk.cs off path
  | none=>none
 | _=>none
theorem W7 {l:List Value} {off:Nat} (h:off<l.length):(l.drop off).take 1=[l[off]]:=by
 apply List.ext_getElem?
 intro i
 cases i with
 | zero=>simp [List.getElem?_drop,h]
 | succ i=>simp [List.getElem?_take]
theorem PZ {B off:Nat} {l t pre:List Value} {ty:TypeId} {fz:Nat×Nat} (ho:w.heap[B]? = some (.cells ⟨pre++(l++t)⟩ ty fz)) (h:off<l.length):w.cell? ⟨B,pre.length+off,none⟩=some l[off]:=by
 have e:(pre++(l++t))[pre.length+off]? = some l[off]:=by
  rw [List.getElem?_append_right (by omega),Nat.add_sub_cancel_left,List.getElem?_append_left h,List.getElem?_eq_getElem h]
 simp [World.cell?,ho,e]
theorem SL {t off B:Nat} {path:List Bool} {cs:List Ch} {l t' pre:List Value} {ty:TypeId} {fz:Nat×Nat} {r:R} (g:Good β H w) (hl:AH β cs l)
  (ho:w.heap[B]? = some (.cells ⟨pre++(l++t')⟩ ty fz)) (h:Nk P t cs off path=some r) (hc:AP r.conds) (fr:Nat) :
  ∃ u,(loadVar t ⟨B,pre.length+off,none⟩).run P w=.ok u w∧Eff β fr r w u w β:=by
 unfold Nk at h
 split at h
 ·rename_i d i hd hi
  have hag:=PY hd w
  split at h
  ·rename_i hw
   split at h
   ·rename_i m hm
    injection h with h;subst h
    obtain ⟨h1,h2⟩:=Ng hm hl
    have hlen:((l.drop off).take i.size).length=i.size:=by simp;omega
    have hload:=run_loadCells_list (P:=P) w ⟨B,pre.length+off,none⟩ ((l.drop off).take i.size) (fun j v hj=>by
     rw [Addr.add_lit,Nat.add_assoc]
     have hjl:j<((l.drop off).take i.size).length:=by
      rcases Nat.lt_or_ge j ((l.drop off).take i.size).length with h' | h'
      ·exact h'
      ·rw [List.getElem?_eq_none h'] at hj;cases hj
     rw [List.getElem?_take,if_pos (by omega),List.getElem?_drop] at hj
     rw [PZ ho (by omega),← hj,List.getElem?_eq_getElem])
    rw [hlen] at hload
    refine ⟨.agg ⟨(l.drop off).take i.size⟩,?_,Eff.pure_ g ⟨_,h1,rfl⟩⟩
    simp [loadVar,hag,hw,sizeOf,typeInfo,hi,hload]
   ·cases h
  ·rename_i hw
   split at h
   ·rename_i kd xs
    injection h with h;subst h
    simp only [AP,decide_eq_true_eq,and_true] at hc
    obtain ⟨l1,l2,h1,h2,h3⟩:=hl
    simp only [AH] at h2
    subst h2
    simp only [A2] at h1
    obtain ⟨h1,hall⟩:=h1
    rw [List.append_nil,h1] at h3
    subst h3
    have AB:xs.getD off 0=xs[off]:=by simp [hc]
    refine ⟨.int kd (xs.getD off 0),?_,Eff.pure_ g (Am ⟨rfl,rfl,?_⟩)⟩
    ·have:=PZ (w:=w) ho (off:=off) (by simpa using hc)
     simp [loadVar,hag,hw,run_load,this,hc]
    ·rw [AB];exact hall _ (List.getElem_mem hc)
   ·rename_i cs' _
    split at h
    ·rename_i m hm
     injection h with h;subst h
     obtain ⟨h1,h2⟩:=Ng hm hl
     rw [W7 (by omega)] at h1
     refine ⟨l[off],?_,Eff.pure_ g h1⟩
     have:=PZ (w:=w) ho (off:=off) (by omega)
     simp [loadVar,hag,hw,run_load,this]
    ·cases h
 ·cases h
theorem AAy {t off B:Nat} {path:List Bool} {cs:List Ch} {l t' pre:List Value} {ty:TypeId} {fz:Nat×Nat} {r:R} (g:Good β H w) (hl:AH β cs l)
  (ho:w.heap[B]? = some (.cells ⟨pre++(l++t')⟩ ty fz)) (h:W5 P t cs off path=some r) (hc:AP r.conds) (fr:Nat) :
  ∃ u,(loadVar t ⟨B,pre.length+off,none⟩).run P w=.ok u w∧Eff β fr r w u w β:=by
 unfold W5 at h
 split at h
 ·rename_i kd xs
  split at h
  ·rename_i d i hd hi
   split at h
   ·rename_i hw
    injection h with h;subst h
    have hle:=Nat.le_of_ble_eq_true hc.1
    obtain ⟨l1,l2,⟨rfl,hall⟩,h2,rfl⟩:=hl
    simp only [AH] at h2
    subst h2
    have hlen:(((xs.map (Value.int kd)).drop off).take i.size).length=i.size:=by simp;omega
    have hload:=run_loadCells_list (P:=P) w ⟨B,pre.length+off,none⟩ (((xs.map (Value.int kd)).drop off).take i.size) (fun j v hj=>by
     rw [Addr.add_lit,Nat.add_assoc]
     have hjl:j<(((xs.map (Value.int kd)).drop off).take i.size).length:=by
      rcases Nat.lt_or_ge j (((xs.map (Value.int kd)).drop off).take i.size).length with h' | h'
      ·exact h'
      ·rw [List.getElem?_eq_none h'] at hj;cases hj
     rw [List.getElem?_take,if_pos (by omega),List.getElem?_drop] at hj
     rw [PZ ho (by rw [List.append_nil,List.length_map];omega),← hj,List.getElem?_eq_getElem (by rw [List.length_map];omega)]
     simp)
    rw [hlen] at hload
    refine ⟨.agg ⟨((xs.map (Value.int kd)).drop off).take i.size⟩,?_,Eff.pure_ g ⟨_,?_,rfl⟩⟩
    ·simp [loadVar,PY hd w,hw,sizeOf,typeInfo,hi,hload]
    ·rw [← List.map_drop,← List.map_take]
     exact ⟨_,[],⟨rfl,fun x hx=>hall x (List.mem_of_mem_drop (List.mem_of_mem_take hx))⟩,rfl,(List.append_nil _).symm⟩
   ·exact SL g hl ho h hc fr
  ·cases h
 ·exact SL g hl ho h hc fr
theorem AAz {t:TypeId} {path:List Bool} {x:Option AV} {u:Value} {r:R} (g:Good β H w) (hx:∀ A,x=some A→AG β A u) (h:W6 P t x H path=some r)
  (hc:AP r.conds) (fr:Nat):∃ v,(Instr.loadAt t u).run P w=.ok v w∧Eff β fr r w v w β:=by
 unfold W6 at h
 split at h
 ·rename_i bk off
  split at h
  ·rename_i blk hb
   have hu:=An (hx _ rfl)
   obtain ⟨B',n',e4,e5⟩:=hu
   injection e5 with e5 _
   subst e5
   rcases g.cells hb with ⟨B,n,l,t',pre,ty',fz,e1,e2,e3,e0,_⟩ | ⟨e1,_⟩
   case inr=>rw [e1] at e4;cases e4
   rw [e1] at e4;injection e4 with e4;injection e4 with e4 e4';subst e4;subst e4'
   have:∃ u,(loadVar t ⟨B,pre.length+off,none⟩).run P w=.ok u w∧Eff β fr r w u w β:=by
    split at h
    ·exact AAy g e2 e3 h hc fr
    ·exact SL g e2 e3 h hc fr
   obtain ⟨v,hv,he⟩:=this
   rw [e0] at hv
   refine ⟨v,?_,he⟩
   simp [Instr.loadAt,Instr.sureAddr,hv]
  ·cases h
 ·cases h
def W8 (P:Program) (t:TypeId) (bk:Nat) (blk:Blk) (off:Nat) (new:List Ch) (path:List Bool):Option R :=
 match blk.cs,new with
 | [.seq kd xs],[.n k i]=>match decide (k=kd),P.info? t with
  | true,some inf=>match Nat.beq inf.size 1 with
   | true=>some ⟨.any,[(bk,some ⟨blk.ty,[.seq kd (xs.set off i)],blk.opn⟩)],0,[(decide (off<xs.length),true)],path⟩
   | false=>none
  | _,_=>none
 | [.seq kd xs],[.v (.int k i)]=>match decide (k=kd),P.info? t with
  | true,some inf=>match Nat.beq inf.size 1 with
   | true=>some ⟨.any,[(bk,some ⟨blk.ty,[.seq kd (xs.set off i)],blk.opn⟩)],0,[(decide (off<xs.length),true)],path⟩
   | false=>none
  | _,_=>none
 | cs,new=>match P.info? t with
  | some inf=>match Nat.beq (Ho new) inf.size with
   | true=>match PV cs off inf.size new with
    | some m=>some ⟨.any,[(bk,some ⟨blk.ty,m,blk.opn⟩)],0,[],path⟩
    | none=>none
   | false=>none
  | none=>none
def W9 (P:Program) (t:TypeId) (x y:Option AV) (H:Heap) (path:List Bool):Option R :=
 match x,y with
 | some (.val false [.p bk off]),some (.val _ new)=>match AB H bk with
  | some blk=>match Nat.ble BN blk.ty with
   | false=>W8 P t bk blk off new path
   | true=>none
  | none=>none
 | _,_=>none
theorem Pa {a:Nat} (h:Nat.beq a BN=false):a≠BN:=FW h
theorem J8 {a:Nat} (h:Nat.ble BN a=false):a<BN:=by
 rcases Nat.lt_or_ge a BN with q | q
 ·exact q
 ·rw [Nat.ble_eq_true_of_le q] at h;cases h
theorem g6 {t:TypeId} {i:TypeInfo} {B off:Nat} {l t' ln:List Value} {ty:TypeId} {u:Value} (hi:P.info? t=some i)
  (ho:w.heap[B]? = some (.cells ⟨l++t'⟩ ty (0,0))) (hu:u.cells.toList=ln) (hs:ln.length=i.size) (hfit:off+i.size≤l.length) (h1:∀ v∈ln,v.oneCell'=true) :
  (storeVar t ⟨B,off,none⟩ u).run P w=.ok () (w.setRow B ⟨(l.take off++ln++l.drop (off+i.size))++t'⟩):=by
 have hz:u.cells.size=i.size:=by rw [← hs,← hu];simp
 have:=run_storeCells_at P B off ty ln 0 ⟨l++t'⟩ w ho (by simp;omega) h1
 simp only [Nat.add_zero] at this
 have e1:(l++t').take off=l.take off:=List.take_append_of_le_length (by omega)
 have e2:(l++t').drop (off+i.size)=l.drop (off+i.size)++t':=List.drop_append_of_le_length (by omega)
 simp only [e1,hs,e2] at this
 simp [storeVar,sizeOf,typeInfo,hi,hz,hu,this]
theorem AA0 {β:Env} {kd:IntKind} {xs:List Int} {i:Int} (off:Nat) (hx:∀ x∈xs,has kd x) (hi:has kd i) :
  AH β [.seq kd (xs.set off i)] ((xs.set off i).map (.int kd)) :=
 ⟨_,[],⟨rfl,fun x hm=>by
  rcases List.mem_or_eq_of_mem_set hm with h | h
  ·exact hx x h
  ·rw [h];exact hi⟩,rfl,by simp⟩
theorem AA1 {α:Type} (l:List α) (off:Nat) (x:α) (h:off<l.length):l.set off x=l.take off++[x]++l.drop (off+1):=by
 rw [List.set_eq_take_append_cons_drop,if_pos h];simp
theorem AA2 {t bk off B n:Nat} {path:List Bool} {blk:Blk} {new:List Ch} {l t':List Value} {u:Value} {r:R} (g:Good β H w) (hb:β bk=some (.at_ B (n,0))) (hl:AH β blk.cs l)
  (ho:w.heap[B]? = some (.cells ⟨l++t'⟩ blk.ty (0,0))) (ht:blk.opn=false→t'=[]) (hlen:(l++t').length=n) (ht1:∀ v∈t',v.oneCell'=true)
  (hn:AH β new u.cells.toList) (h:W8 P t bk blk off new path=some r) (hc:AP r.conds) (fr:Nat) :
  ∃ w',(storeVar t ⟨B,off,none⟩ u).run P w=.ok () w'∧Eff β fr r w undef w' β:=by
 have seqcase:∀ (kd k:IntKind) (xs:List Int) (i:Int) (inf:TypeInfo),blk.cs=[.seq kd xs]→u.cells.toList=[.int k i]→has k i→k=kd→P.info? t=some inf→inf.size=1→off<xs.length →
   ∃ w',(storeVar t ⟨B,off,none⟩ u).run P w=.ok () w'∧Eff β fr ⟨.any,[(bk,some ⟨blk.ty,[.seq kd (xs.set off i)],blk.opn⟩)],0,[(decide (off<xs.length),true)],path⟩ w undef w' β:=by
  intro kd k xs i inf e1 e2 e3 e4 e5 e6 e7
  subst e4
  rw [e1] at hl
  obtain ⟨l1,l2,h1,h2,h3⟩:=hl
  simp only [AH] at h2
  subst h2
  simp only [A2] at h1
  obtain ⟨h1,hall⟩:=h1
  rw [List.append_nil,h1] at h3
  subst h3
  have:=g6 (u:=u) (l:=xs.map (Value.int k)) (off:=off) (ln:=[.int k i]) e5 ho e2 (by simp [e6]) (by simp [e6];omega) (by simp [Value.oneCell'])
  refine ⟨_,this,?_⟩
  have e:(xs.map (Value.int k)).take off++[Value.int k i]++(xs.map (Value.int k)).drop (off+inf.size)=(xs.set off i).map (Value.int k):=by
   rw [List.map_set,e6,AA1 _ off _ (by simpa using e7)]
  rw [e]
  exact Eff.write g hb ho (AA0 off hall e3) ht (by simpa using hlen) ht1 trivial
 unfold W8 at h
 split at h
 ·rename_i kd xs k i e1
  split at h
  ·rename_i inf hk hi
   split at h
   ·rename_i hz
    injection h with h;subst h
    simp only [AP,decide_eq_true_eq,and_true] at hc
    have:=An (u:=(.int k i:Value)) (β:=β) (c:=.n k i)
    obtain ⟨l1,l2,h1,h2,h3⟩:=hn
    simp only [AH] at h2
    subst h2
    simp only [A2] at h1
    exact seqcase kd k xs i inf e1 (by rw [h3,h1.1];rfl) h1.2 (by simpa using hk) hi (Ad.1 hz) hc
   ·cases h
  ·cases h
 ·rename_i kd xs k i e1
  split at h
  ·rename_i inf hk hi
   split at h
   ·rename_i hz
    injection h with h;subst h
    simp only [AP,decide_eq_true_eq,and_true] at hc
    obtain ⟨l1,l2,h1,h2,h3⟩:=hn
    simp only [AH] at h2
    subst h2
    simp only [A2] at h1
    exact seqcase kd k xs i inf e1 (by rw [h3,h1.1];rfl) h1.2.2 (by simpa using hk) hi (Ad.1 hz) hc
   ·cases h
  ·cases h
 ·split at h
  ·rename_i inf hi
   split at h
   ·rename_i hz
    split at h
    ·rename_i m hm
     injection h with h;subst h
     obtain ⟨h1,h2⟩:=W1 hm hl hn
     have hlen':u.cells.toList.length=inf.size:=by rw [NZ hn];exact Ad.1 hz
     exact ⟨_,g6 hi ho rfl hlen' h2 (Nj hn),Eff.write g hb ho h1 ht (by simp at hlen hlen' ⊢;omega) ht1 trivial⟩
    ·cases h
   ·cases h
  ·cases h
theorem AA3 {t:TypeId} {path:List Bool} {x y:Option AV} {u v:Value} {r:R} (g:Good β H w) (hx:∀ A,x=some A→AG β A u) (hy:∀ A,y=some A→AG β A v)
  (h:W9 P t x y H path=some r) (hc:AP r.conds) (fr:Nat):∃ w',(Instr.storeAt t u v).run P w=.ok () w'∧Eff β fr r w undef w' β:=by
 unfold W9 at h
 split at h
 ·rename_i bk off gg new
  split at h
  ·rename_i blk hb
   split at h
   case h_2=>cases h
   rename_i hro
   have hu:=An (hx _ rfl)
   obtain ⟨B',n',e4,e5⟩:=hu
   injection e5 with e5 _
   subst e5
   rcases Lm (g.heap _ _ hb) (J8 hro) with ⟨B,n,l,t',e1,e2,e3,e6,e7,e8⟩ | ⟨e1,_⟩
   case inr=>rw [e1] at e4;cases e4
   rw [e1] at e4;injection e4 with e4;injection e4 with e4 e4';subst e4;subst e4'
   obtain ⟨w',hv,he⟩:=AA2 g e1 e2 e3 e6 e7 e8 (Ni (hy _ rfl)) h hc fr
   refine ⟨w',?_,he⟩
   simp [Instr.storeAt,Instr.sureAddr,hv]
  ·cases h
 ·cases h
end ops
def A':Option AV→Option (Bool×IntKind×Int)
 | some (.val false [.n k i])=>some (true,k,i)
 | some (.val false [.v (.int k i)])=>some (false,k,i)
 | _=>none
theorem Bt {β:Env} {x:Option AV} {u:Value} {c:Bool} {k:IntKind} {i:Int} (hx:∀ A,x=some A→AG β A u) (h:A' x=some (c,k,i)) :
  u=.int k i∧has k i:=by
 unfold A' at h
 split at h
 ·injection h with h;injection h with h1 h;injection h with h2 h3;subst h1 h2 h3
  have:=An (hx _ rfl)
  simp only [A2,List.cons.injEq,and_true] at this
  exact this
 ·injection h with h;injection h with h1 h;injection h with h2 h3;subst h1 h2 h3
  have:=An (hx _ rfl)
  simp only [A2,List.cons.injEq,and_true] at this
  exact ⟨this.1,this.2.2⟩
 ·cases h
def J9 (c:Bool) (k:IntKind) (i:Int):AV:=match c with | true=>.val false [.n k i] | false=>.val false [.v (.int k i)]
theorem J_ {β:Env} {k:IntKind} {i:Int} (c:Bool) (h:has k i):AG β (J9 c k i) (.int k i):=by
 cases c
 ·exact Am ⟨rfl,rfl,h⟩
 ·exact Am ⟨rfl,h⟩
def D_:Option AV→Option (Bool×Bool)
 | some (.val false [.b x])=>some (true,x)
 | some (.val false [.v (.bool x)])=>some (false,x)
 | _=>none
theorem G9 {β:Env} {x:Option AV} {u:Value} {c y:Bool} (hx:∀ A,x=some A→AG β A u) (h:D_ x=some (c,y)):u=.bool y:=by
 unfold D_ at h
 split at h
 ·injection h with h;injection h with h1 h;subst h1 h
  have:=An (hx _ rfl)
  simpa [A2] using this
 ·injection h with h;injection h with h1 h;subst h1 h
  have:=An (hx _ rfl)
  simp only [A2,List.cons.injEq,and_true] at this
  exact this.1
 ·cases h
def Ht (c:Bool) (x:Bool):AV:=match c with | true=>.val false [.b x] | false=>.val false [.v (.bool x)]
theorem Iu {β:Env} (c x:Bool):AG β (Ht c x) (.bool x):=by
 cases c
 ·exact Am ⟨rfl,rfl,trivial⟩
 ·exact Am rfl
def AS (c:Bool) (k:IntKind) (i:Int):Int:=match c with
 | true=>match AI k i with | true=>i | false=>k.wrap i
 | false=>k.wrap i
theorem AA4 {k:IntKind} {i:Int} (h:AI k i=true):k.wrap i=i:=by
 cases k<;>simp only [IntKind.wrap,IntKind.signed,IntKind.bits,AI,Bool.and_eq_true,decide_eq_true_eq] at h ⊢<;>simp<;>(try split)<;>omega
theorem C_ (c:Bool) (k:IntKind) (i:Int):AS c k i=k.wrap i:=by
 unfold AS
 split
 ·split
  ·rename_i h;exact (AA4 h).symm
  ·rfl
 ·rfl
def Ls (c x:Bool):Option (List (Bool×Bool)):=match c with
 | true=>match x with | true=>some [] | false=>none
 | false=>some [(x,true)]
theorem Pb {c x:Bool} {l:List (Bool×Bool)} (h:Ls c x=some l) (hl:AP l):x=true:=by
 unfold Ls at h
 split at h
 ·split at h
  ·rfl
  ·cases h
 ·injection h with h;subst h;exact hl.1
def W_ (op:BinOp) (c:Bool) (k:IntKind) (i j:Int):Option (Int×List (Bool×Bool)) :=
 match op with
 | .add=>some (AS c k (i+j),[])
 | .sub=>some (AS c k (i-j),[])
 | .mul=>some (AS c k (i*j),[])
 | .and=>some (bits .and k i j,[])
 | .or=>some (bits .or k i j,[])
 | .xor=>some (bits .xor k i j,[])
 | .quo=>match Ls c (decide (j≠0)) with | some l=>some (AS c k (i.tdiv j),l) | none=>none
 | .rem=>match Ls c (decide (0≤i∧0<j)) with | some l=>some (i.tmod j,l) | none=>none
 | _=>none
def XA (op:BinOp) (i j:Int):Option Bool :=
 match op with
 | .eql=>some (decide (i=j))
 | .neq=>some (!decide (i=j))
 | .lss=>some (decide (i<j))
 | .leq=>some (decide (i≤j))
 | .gtr=>some (decide (j<i))
 | .geq=>some (decide (j≤i))
 | _=>none
def XB (op:BinOp) (c:Bool) (k:IntKind) (i j:Int):Option (Int×List (Bool×Bool)) :=
 match op with
 | .shl=>match Ls c (decide (0≤j)) with | some l=>some (AS c k (i*2^(min j.toNat k.bits)),l) | none=>none
 | .shr=>match Ls c (decide (0≤j∧0≤i)) with | some l=>some (i.fdiv (2^(min j.toNat k.bits)),l) | none=>none
 | _=>none
section
variable {P:Program} {w:World}
theorem AA5 {op:BinOp} {c:Bool} {k:IntKind} {i j z:Int} {l:List (Bool×Bool)} (h:W_ op c k i j=some (z,l)) (hl:AP l) (hi:has k i) (t:TypeId) (x y:Operand) :
  (do eqGuard op t x y (.int k i) (.int k j);binOp op t (.int k i) (.int k j):Sem Value).run P w=.ok (.int k z) w∧has k z:=by
 rw [Sem.run_bind,eqGuard_at_int]
 simp only [Sem.run_pure,Result.andThen_ok]
 unfold W_ at h
 split at h
 all_goals first | cases h;done | skip
 ·injection h with h;injection h with h1 h2;subst h1 h2;rw [C_];exact ⟨by simp [binOp,Op.intArith],G8 _ _⟩
 ·injection h with h;injection h with h1 h2;subst h1 h2;rw [C_];exact ⟨by simp [binOp,Op.intArith],G8 _ _⟩
 ·injection h with h;injection h with h1 h2;subst h1 h2;rw [C_];exact ⟨by simp [binOp,Op.intArith],G8 _ _⟩
 ·injection h with h;injection h with h1 h2;subst h1 h2;exact ⟨by rw [binOp_and,intBits_and];rfl,G8 _ _⟩
 ·injection h with h;injection h with h1 h2;subst h1 h2;exact ⟨by rw [binOp_or,intBits_or];rfl,G8 _ _⟩
 ·injection h with h;injection h with h1 h2;subst h1 h2;exact ⟨by rw [binOp_xor,intBits_xor];rfl,G8 _ _⟩
 ·split at h
  ·rename_i l' hc
   injection h with h;injection h with h1 h2;subst h1 h2;rw [C_]
   have:=Pb hc hl
   simp only [ne_eq,decide_not,Bool.not_eq_true',decide_eq_false_iff_not] at this
   exact ⟨by simp [binOp,Op.intDiv,this],G8 _ _⟩
  ·cases h
 ·split at h
  ·rename_i l' hc
   injection h with h;injection h with h1 h2;subst h1 h2
   have:=Pb hc hl
   simp only [decide_eq_true_eq] at this
   have hj:j≠0:=by omega
   refine ⟨by simp [binOp,Op.intDiv,hj],?_⟩
   rw [Int.tmod_eq_emod_of_nonneg this.1]
   have h1:=Int.emod_nonneg i hj
   have h2:i % j≤i:=by
    rcases Int.lt_or_le i j with hlt | hle
    ·rw [Int.emod_eq_of_lt this.1 hlt];exact Int.le_refl _
    ·have:=Int.emod_lt_of_pos i this.2;omega
   unfold has at hi ⊢
   have hmin:k.min≤0:=by cases k<;>simp [IntKind.min,IntKind.signed,IntKind.bits]
   omega
  ·cases h
theorem AA6 {op:BinOp} {k:IntKind} {i j:Int} {z:Bool} (h:XA op i j=some z) (t:TypeId) (x y:Operand) :
  (do eqGuard op t x y (.int k i) (.int k j);binOp op t (.int k i) (.int k j):Sem Value).run P w=.ok (.bool z) w:=by
 rw [Sem.run_bind,eqGuard_at_int]
 simp only [Sem.run_pure,Result.andThen_ok]
 unfold XA at h
 split at h
 all_goals first | cases h;done | skip
 all_goals (injection h with h;subst h;simp [binOp,Op.intCmp])
 all_goals by_cases e:i=j<;>simp [e]
theorem g7 {op:BinOp} {c:Bool} {k yk:IntKind} {i j z:Int} {l:List (Bool×Bool)} (h:XB op c k i j=some (z,l)) (hl:AP l) (hi:has k i) (t:TypeId) (x y:Operand) :
  (do eqGuard op t x y (.int k i) (.int yk j);binOp op t (.int k i) (.int yk j):Sem Value).run P w=.ok (.int k z) w∧has k z:=by
 rw [Sem.run_bind,eqGuard_at_int]
 simp only [Sem.run_pure,Result.andThen_ok]
 unfold XB at h
 split at h
 all_goals first | cases h;done | skip
 ·split at h
  ·rename_i l' hc
   injection h with h;injection h with h1 h2;subst h1 h2;rw [C_]
   have:=Pb hc hl
   simp only [decide_eq_true_eq] at this
   exact ⟨by simp [binOp,Op.shift,show ¬ j<0 by omega],G8 _ _⟩
  ·cases h
 ·split at h
  ·rename_i l' hc
   injection h with h;injection h with h1 h2;subst h1 h2
   have:=Pb hc hl
   simp only [decide_eq_true_eq] at this
   refine ⟨by simp [binOp,Op.shift,show ¬ j<0 by omega],?_⟩
   have hp:(0:Int)<2^(min j.toNat k.bits):=Int.pow_pos (by decide)
   rw [Int.fdiv_eq_ediv_of_nonneg _ (Int.le_of_lt hp)]
   have h1:0≤i / 2^(min j.toNat k.bits):=Int.ediv_nonneg this.2 (Int.le_of_lt hp)
   have h2:i / 2^(min j.toNat k.bits)≤i:=Int.ediv_le_self _ this.2
   unfold has at hi ⊢
   have hmin:k.min≤0:=by cases k<;>simp [IntKind.min,IntKind.signed,IntKind.bits]
   omega
  ·cases h
end
def Lt:List Ch→Option Nat
 | []=>some 0
 | .n .u64 i::r=>match Lt r with | some m=>some (i.toNat+18446744073709551616*m) | none=>none
 | .v (.int .u64 i)::r=>match Lt r with | some m=>some (i.toNat+18446744073709551616*m) | none=>none
 | _=>none
theorem Db (x i:Nat):AF x (i+1)=AF (x / 2^64) i:=by
 unfold AF
 rw [Nat.div_div_eq_div_mul,← Nat.pow_add,show 64*(i+1)=64+64*i by omega]
theorem SM (k x:Nat):words (k+1) x=.int .u64 (AF x 0)::words k (x / 2^64):=by
 unfold words
 rw [List.range_succ_eq_map,List.map_cons,List.map_map]
 refine congrArg (_ :: ·) (List.map_congr_left fun i _=>?_)
 show Value.int .u64 (AF x (i+1))=_
 rw [Db]
theorem g8 {β:Env}:∀ {cs:List Ch} {l:List Value} {x:Nat},Lt cs=some x→AH β cs l→l=words cs.length x∧x<2^(64*cs.length)
 | [],l,x,h,hl=>by
  simp only [Lt,Option.some.injEq] at h
  simp only [AH] at hl
  subst h;subst hl
  exact ⟨rfl,by simp⟩
 | c::cs,l,x,h,hl=>by
  obtain ⟨l1,l2,h1,h2,h3⟩:=hl
  have step:∀ (i:Int) (m:Nat),l1=[.int .u64 i]→has .u64 i→Lt cs=some m→x=i.toNat+18446744073709551616*m→l=words (c::cs).length x∧x<2^(64*(c::cs).length):=by
   intro i m e1 e2 e3 e4
   obtain ⟨j1,j2⟩:=g8 e3 h2
   have hi:=(Dq _ _).1 e2
   simp only [AI,Bool.and_eq_true,decide_eq_true_eq] at hi
   have ex:x % 2^64=i.toNat:=by rw [e4];omega
   have ed:x / 2^64=m:=by rw [e4];omega
   constructor
   ·rw [h3,e1,List.length_cons,SM,ed,← j1]
    simp only [List.singleton_append,List.cons.injEq,and_true,Value.int.injEq,true_and]
    simp only [AF,Nat.mul_zero,Nat.pow_zero,Nat.div_one,ex]
    omega
   ·rw [List.length_cons,Nat.mul_add,Nat.pow_add]
    have:x / 2^64<2^(64*cs.length):=by rw [ed];exact j2
    exact (Nat.div_lt_iff_lt_mul (by decide)).1 this
  unfold Lt at h
  split at h
  ·rename_i he;cases he
  ·rename_i i r he
   injection he with he1 he2;subst he1 he2
   split at h
   ·rename_i m hm
    injection h with h
    exact step i m h1.1 h1.2 hm h.symm
   ·cases h
  ·rename_i i r he
   injection he with he1 he2;subst he1 he2
   split at h
   ·rename_i m hm
    injection h with h
    exact step i m h1.1 h1.2.2 hm h.symm
   ·cases h
  ·cases h
def B8 (k:Nat):List Ch→Option Nat
 | [.num k' x]=>match Nat.beq k k' with | true=>some x | false=>none
 | cs=>match Nat.beq cs.length k with | true=>Lt cs | false=>none
theorem EO {β:Env} {k x:Nat} {cs:List Ch} {l:List Value} (h:B8 k cs=some x) (hl:AH β cs l):l=words k x∧x<2^(64*k):=by
 unfold B8 at h
 split at h
 ·split at h
  ·rename_i hk
   injection h with h;subst h
   have:=Ad.1 hk;subst this
   obtain ⟨l1,l2,h1,h2,h3⟩:=hl
   simp only [AH] at h2;subst h2
   rw [h3,List.append_nil]
   exact ⟨h1.2,h1.1⟩
  ·cases h
 ·split at h
  ·rename_i hk
   have:=Ad.1 hk;subst this
   exact g8 h hl
  ·cases h
theorem AA7 {k x y:Nat} (hx:x<2^(64*k)) (hy:y<2^(64*k)) (h:words k x=words k y):x=y:=by
 induction k generalizing x y with
 | zero=>simp at hx hy;omega
 | succ k ih =>
  rw [SM,SM] at h
  injection h with h1 h2
  injection h1 with _ h1
  have hx':x / 2^64<2^(64*k):=by
   rw [Nat.div_lt_iff_lt_mul (by decide),← Nat.pow_add];exact hx
  have hy':y / 2^64<2^(64*k):=by
   rw [Nat.div_lt_iff_lt_mul (by decide),← Nat.pow_add];exact hy
  have e:=ih hx' hy' h2
  simp only [AF,Nat.mul_zero,Nat.pow_zero,Nat.div_one] at h1
  omega
def Bj:List Value→List Value→Bool
 | [],[]=>true
 | .int _ a::r,.int _ b::s=>decide (a=b)&&Bj r s
 | .bool a::r,.bool b::s=>(a==b)&&Bj r s
 | _,_=>false
theorem XC:∀ {a a' b b':List Value},a.length=a'.length→Bj (a++b) (a'++b')=(Bj a a'&&Bj b b')
 | [],[],_,_,_=>by simp [Bj]
 | [],_::_,_,_,h=>by simp at h
 | _::_,[],_,_,h=>by simp at h
 | x::a,y::a',b,b',h=>by
  have ih:=XC (a:=a) (a':=a') (b:=b) (b':=b') (by simpa using h)
  cases x<;>cases y<;>simp [Bj,ih,Bool.and_assoc]
theorem XD {k x y:Nat} (hx:x<2^(64*k)) (hy:y<2^(64*k)):Bj (words k x) (words k y)=decide (x=y):=by
 have gen:∀ (is:List Nat),Bj (is.map fun i=>Value.int .u64 (AF x i)) (is.map fun i=>Value.int .u64 (AF y i))=true↔(is.map fun i=>Value.int .u64 (AF x i))=(is.map fun i=>Value.int .u64 (AF y i)):=by
  intro is
  induction is with
  | nil=>simp [Bj]
  | cons i is ih =>
   rw [List.map_cons,List.map_cons,Bj,Bool.and_eq_true,decide_eq_true_eq,ih,List.cons.injEq,Value.int.injEq]
   simp
 have e:Bj (words k x) (words k y)=true↔words k x=words k y:=gen _
 rw [Bool.eq_iff_iff,e,decide_eq_true_eq]
 exact ⟨AA7 hx hy,fun h=>by rw [h]⟩
def Hu (x:Bool) (rest:Option Bool) (last:Bool):Option Bool:=match last with
 | true=>some x
 | false=>match rest with | some y=>some (x&&y) | none=>none
def EX {α:Type}:List α→Bool | []=>true | _=>false
def G_:Nat→List Ch→List Ch→Option Bool
 | 0,_,_=>none
 | f+1,a,b=>match a,b with
  | [],[]=>some true
  | .num k x::r,.num k' y::s=>match Nat.beq k k' with
   | true=>Hu (decide (x=y)) (G_ f r s) (EX r&&EX s)
   | false=>none
  | .num k x::r,s=>match D8 s k with
   | some (m,s')=>match B8 k m with
    | some y=>Hu (decide (x=y)) (G_ f r s') (EX r&&EX s')
    | none=>none
   | none=>none
  | r,.num k y::s=>match D8 r k with
   | some (m,r')=>match B8 k m with
    | some x=>Hu (decide (x=y)) (G_ f r' s) (EX r'&&EX s)
    | none=>none
   | none=>none
  | c::r,d::s=>match A' (some (.val false [c])),A' (some (.val false [d])) with
   | some (_,_,i),some (_,_,j)=>Hu (decide (i=j)) (G_ f r s) (EX r&&EX s)
   | _,_=>match D_ (some (.val false [c])),D_ (some (.val false [d])) with
    | some (_,x),some (_,y)=>Hu (x==y) (G_ f r s) (EX r&&EX s)
    | _,_=>none
  | _,_=>none
theorem AA8 {x e:Bool} {rest:Option Bool} {last y:Bool} (h:Hu x rest last=some e) (hr:∀ z,rest=some z→y=z) (hl:last=true→y=true):e=(x&&y):=by
 cases last with
 | true=>simp only [Hu,Option.some.injEq] at h;rw [hl rfl,← h];simp
 | false =>
  cases rest with
  | none=>simp [Hu] at h
  | some z=>simp only [Hu,Option.some.injEq] at h;rw [hr z rfl,← h]
theorem SO {α:Type} {l:List α} (h:EX l=true):l=[]:=by cases l<;>simp_all [EX]
theorem g9 {β:Env}:∀ {f:Nat} {a b:List Ch} {l m:List Value} {e:Bool},G_ f a b=some e→AH β a l→AH β b m→Bj l m=e
 | 0,_,_,_,_,_,h,_,_=>by simp [G_] at h
 | f+1,a,b,l,m,e,h,ha,hb=>by
  have fin:∀ {r s:List Ch} {lr ms:List Value} {x:Bool} {l1 m1:List Value},AH β r lr→AH β s ms→l=l1++lr→m=m1++ms→l1.length=m1.length→Bj l1 m1=x →
    Hu x (G_ f r s) (EX r&&EX s)=some e→Bj l m=e:=by
   intro r s lr ms x l1 m1 hr hs el em hlen hx hand
   rw [el,em,XC hlen,hx]
   refine (AA8 hand (fun z hz=>g9 hz hr hs) (fun hn=>?_)).symm
   simp only [Bool.and_eq_true] at hn
   have h1:=SO hn.1
   have h2:=SO hn.2
   subst h1;subst h2
   simp only [AH] at hr hs
   subst hr;subst hs
   rfl
  unfold G_ at h
  split at h
  ·injection h with h;subst h
   simp only [AH] at ha hb
   subst ha;subst hb;rfl
  ·rename_i k x r k' y s
   split at h
   ·rename_i hk
    have:=Ad.1 hk;subst this
    obtain ⟨l1,l2,h1,h2,h3⟩:=ha
    obtain ⟨m1,m2,g1,g2,g3⟩:=hb
    simp only [A2] at h1 g1
    exact fin h2 g2 h3 g3 (by rw [h1.2,g1.2,Hp,Hp]) (by rw [h1.2,g1.2];exact XD h1.1 g1.1) h
   ·cases h
  ·rename_i k x r _
   split at h
   ·rename_i mm s' hs
    split at h
    ·rename_i y hy
     obtain ⟨l1,l2,h1,h2,h3⟩:=ha
     simp only [A2] at h1
     obtain ⟨j1,j2,j3⟩:=FV hs hb
     obtain ⟨q1,q2⟩:=EO hy j1
     exact fin h2 j2 h3 (List.take_append_drop k m).symm (by rw [h1.2,q1,Hp,Hp]) (by rw [h1.2,q1];exact XD h1.1 q2) h
    ·cases h
   ·cases h
  ·rename_i k y s _
   split at h
   ·rename_i mm r' hs
    split at h
    ·rename_i x hx
     obtain ⟨m1,m2,g1,g2,g3⟩:=hb
     simp only [A2] at g1
     obtain ⟨j1,j2,j3⟩:=FV hs ha
     obtain ⟨q1,q2⟩:=EO hx j1
     exact fin j2 g2 (List.take_append_drop k l).symm g3 (by rw [g1.2,q1,Hp,Hp]) (by rw [g1.2,q1];exact XD q2 g1.1) h
    ·cases h
   ·cases h
  ·rename_i c r d s _ _ _
   obtain ⟨l1,l2,h1,h2,h3⟩:=ha
   obtain ⟨m1,m2,g1,g2,g3⟩:=hb
   have one:∀ {c:Ch} {l1:List Value},A2 β c l1→DN c=1→∃ u,l1=[u]:=by
    intro c l1 hc hz
    have:=Lo hc
    rw [hz] at this
    exact List.length_eq_one_iff.1 this
   split at h
   ·rename_i c1 k1 i c2 k2 j hi hj
    have z1:DN c=1:=by cases c<;>simp [A'] at hi<;>rfl
    have z2:DN d=1:=by cases d<;>simp [A'] at hj<;>rfl
    obtain ⟨u,rfl⟩:=one h1 z1
    obtain ⟨v,rfl⟩:=one g1 z2
    obtain ⟨rfl,_⟩:=Bt (β:=β) (u:=u) (fun A hA=>by injection hA with hA;subst hA;exact Am h1) hi
    obtain ⟨rfl,_⟩:=Bt (β:=β) (u:=v) (fun A hA=>by injection hA with hA;subst hA;exact Am g1) hj
    exact fin h2 g2 h3 g3 rfl (by simp [Bj]) h
   ·split at h
    ·rename_i c1 x c2 y hi hj
     have z1:DN c=1:=by cases c<;>simp [D_] at hi<;>rfl
     have z2:DN d=1:=by cases d<;>simp [D_] at hj<;>rfl
     obtain ⟨u,rfl⟩:=one h1 z1
     obtain ⟨v,rfl⟩:=one g1 z2
     have e1:=G9 (β:=β) (u:=u) (fun A hA=>by injection hA with hA;subst hA;exact Am h1) hi
     have e2:=G9 (β:=β) (u:=v) (fun A hA=>by injection hA with hA;subst hA;exact Am g1) hj
     subst e1;subst e2
     exact fin h2 g2 h3 g3 rfl (by simp [Bj]) h
    ·cases h
  ·cases h
def Pc (P:Program) (g:TypeId→Option (List (Option IntKind))):List Field→Nat→Option (List (Option IntKind))
 | [],_=>some []
 | f::fs,off=>match decide (f.name≠"_"),Nat.beq f.offset off,g f.type with
  | true,true,some ks=>match Nat.beq (P.cellsOf f.type) ks.length,Pc P g fs (off+ks.length) with
   | true,some r=>some (ks++r)
   | _,_=>none
  | _,_,_=>none
def EA (P:Program):Nat→TypeId→Option (List (Option IntKind))
 | 0,_=>none
 | d+1,t=>match P.underlying t with
  | some .bool=>some [none]
  | some (.int k)=>some [some k]
  | some (.array n e)=>match EA P d e with
   | some ks=>match Nat.beq (P.cellsOf e) ks.length with
    | true=>some (List.replicate n ks).flatten
    | false=>none
   | none=>none
  | some (.struct fs)=>match P.stoodInHeld t with
   | false=>Pc P (EA P d) fs.toList 0
   | true=>none
  | _=>none
def BT:List (Option IntKind)→List Value→Prop
 | [],[]=>True
 | none::ks,.bool _::r=>BT ks r
 | some k::ks,.int k' _::r=>k'=k∧BT ks r
 | _,_=>False
theorem Hv:∀ {ks:List (Option IntKind)} {l:List Value},BT ks l→l.length=ks.length
 | [],[],_=>rfl
 | [],_::_,h=>by simp [BT] at h
 | none::ks,[],h=>by simp [BT] at h
 | some _::ks,[],h=>by simp [BT] at h
 | none::ks,x::r,h=>by cases x<;>simp [BT] at h;simp [Hv h]
 | some k::ks,x::r,h=>by cases x<;>simp [BT] at h;simp [Hv h.2]
theorem Nl:∀ {ks js:List (Option IntKind)} {l:List Value},BT (ks++js) l→BT ks (l.take ks.length)∧BT js (l.drop ks.length)
 | [],js,l,h=>by simpa [BT] using h
 | none::ks,js,[],h=>by simp [BT] at h
 | some _::ks,js,[],h=>by simp [BT] at h
 | none::ks,js,x::r,h=>by
  cases x<;>simp [BT] at h
  have:=Nl h
  simpa [BT] using this
 | some k::ks,js,x::r,h=>by
  cases x<;>simp [BT] at h
  have:=Nl h.2
  simpa [BT,h.1] using this
def Ew (P:Program) (t:TypeId) (xs:List Value) (X:Value):Prop :=
 match P.underlying t with
 | some d=>match wide d with
  | true=>X=.agg ⟨xs⟩
  | false=>xs=[X]
 | none=>False
section
variable {P:Program}
theorem hJ {t:TypeId} {d:TypeDesc} {i:TypeInfo} (hd:P.underlying t=some d) (hi:P.info? t=some i) {l:List Value} {off:Nat} (hfit:off+i.size≤l.length) (h1:wide d=false→i.size=1) (w:World) :
  ∃ v,(part t ⟨l⟩ off).run P w=.ok v w∧Ew P t ((l.drop off).take i.size) v:=by
 have hag:=PY hd w
 cases hw:wide d with
 | true =>
  refine ⟨.agg ⟨(l.drop off).take i.size⟩,?_,by simp [Ew,hd,hw]⟩
  simp [part,hag,hw,sizeOf,typeInfo,hi]
 | false =>
  have hs:=h1 hw
  have hlt:off<l.length:=by omega
  refine ⟨l[off],?_,?_⟩
  ·simp [part,hag,hw,hlt]
  ·simp only [Ew,hd,hw,hs]
   exact W7 hlt
def SS (P:Program) (D:Nat) (t:TypeId) (ks:List (Option IntKind)):Prop :=
 ∀ (xs ys:List Value) (X Y:Value) (w:World),BT ks xs→BT ks ys→Ew P t xs X→Ew P t ys Y→(Op.equalIn D t X Y).run P w=.ok (Bj xs ys) w
theorem hU {d:Nat} {t:TypeId} {ks:List (Option IntKind)} {ds:TypeDesc} (h:EA P d t=some ks) (hd:P.underlying t=some ds) (hw:wide ds=false):ks.length=1:=by
 cases d with
 | zero=>simp [EA] at h
 | succ d =>
  simp only [EA,hd] at h
  cases ds<;>simp [wide] at hw h
  all_goals (subst h;rfl)
theorem iB {d:Nat} {t:TypeId} {ks:List (Option IntKind)} (h:EA P d t=some ks):∃ ds i,P.underlying t=some ds∧P.info? t=some i:=by
 cases d with
 | zero=>simp [EA] at h
 | succ d =>
  cases hd:P.underlying t with
  | none=>simp [EA,hd] at h
  | some ds=>obtain ⟨i,hi⟩:=info_of_underlying hd;exact ⟨ds,i,rfl,hi⟩
theorem iC {D d:Nat} {e:TypeId} {ks js:List (Option IntKind)} (ih:SS P D e ks) (hks:EA P d e=some ks) (hc:P.cellsOf e=ks.length) {xs ys:List Value} {off:Nat} (w:World)
  (hx:BT (ks++js) (xs.drop off)) (hy:BT (ks++js) (ys.drop off)) :
  ∃ a b,(part e ⟨xs⟩ off).run P w=.ok a w∧(part e ⟨ys⟩ off).run P w=.ok b w∧(Op.equalIn D e a b).run P w=.ok (Bj ((xs.drop off).take ks.length) ((ys.drop off).take ks.length)) w ∧
   Bj (xs.drop off) (ys.drop off)=(Bj ((xs.drop off).take ks.length) ((ys.drop off).take ks.length)&&Bj (xs.drop (off+ks.length)) (ys.drop (off+ks.length))) ∧
   BT js (xs.drop (off+ks.length))∧BT js (ys.drop (off+ks.length)):=by
 obtain ⟨ds,i,hd,hi⟩:=iB hks
 have hsz:i.size=ks.length:=by simpa [Program.cellsOf,hi] using hc
 have lx:=Hv hx
 have ly:=Hv hy
 simp at lx ly
 have w1:wide ds=false→i.size=1:=fun hw=>by rw [hsz];exact hU hks hd hw
 by_cases hz:ks.length=0
 ·have hwd:wide ds=true:=by
   cases hw:wide ds with
   | true=>rfl
   | false=>have:=hU hks hd hw;omega
  have hag:=PY hd w
  obtain ⟨fx1,fx2⟩:=Nl hx
  obtain ⟨fy1,fy2⟩:=Nl hy
  have pa:∀ l:List Value,(part e ⟨l⟩ off).run P w=.ok (.agg ⟨(l.drop off).take ks.length⟩) w:=by
   intro l
   simp [part,hag,hwd,sizeOf,typeInfo,hi,hsz]
  refine ⟨_,_,pa xs,pa ys,ih _ _ _ _ w fx1 fy1 (by simp [Ew,hd,hwd]) (by simp [Ew,hd,hwd]),?_,?_,?_⟩
  ·simp [hz,Bj]
  ·rw [List.drop_drop] at fx2;exact fx2
  ·rw [List.drop_drop] at fy2;exact fy2
 ·obtain ⟨a,ha,sa⟩:=hJ hd hi (l:=xs) (off:=off) (by omega) w1 w
  obtain ⟨b,hb,sb⟩:=hJ hd hi (l:=ys) (off:=off) (by omega) w1 w
  rw [hsz] at sa sb
  obtain ⟨fx1,fx2⟩:=Nl hx
  obtain ⟨fy1,fy2⟩:=Nl hy
  refine ⟨a,b,ha,hb,ih _ _ _ _ w fx1 fy1 sa sb,?_,?_,?_⟩
  ·rw [← List.drop_drop,← List.drop_drop,← XC (by rw [Hv fx1,Hv fy1]),List.take_append_drop,List.take_append_drop]
  ·rw [List.drop_drop] at fx2;exact fx2
  ·rw [List.drop_drop] at fy2;exact fy2
theorem iD {D d:Nat} {e:TypeId} {ks:List (Option IntKind)} (ih:SS P D e ks) (hks:EA P d e=some ks) (hc:P.cellsOf e=ks.length) {xs ys:List Value} (w:World) :
  ∀ (m i:Nat),BT (List.replicate m ks).flatten (xs.drop (i*ks.length))→BT (List.replicate m ks).flatten (ys.drop (i*ks.length)) →
   (Op.eqItems D e (P.cellsOf e) ⟨xs⟩ ⟨ys⟩ (List.range' i m)).run P w=.ok (Bj (xs.drop (i*ks.length)) (ys.drop (i*ks.length))) w
 | 0,i,hx,hy=>by
  have lx:=Hv hx
  have ly:=Hv hy
  simp at lx ly
  rw [List.drop_eq_nil_of_le (by omega),List.drop_eq_nil_of_le (by omega)]
  simp [Op.eqItems,Bj]
 | m+1,i,hx,hy=>by
  rw [List.replicate_succ,List.flatten_cons] at hx hy
  obtain ⟨a,b,ha,hb,hab,heq,fx,fy⟩:=iC ih hks hc w hx hy
  have e1:i*ks.length+ks.length=(i+1)*ks.length:=by rw [Nat.succ_mul]
  rw [e1] at heq fx fy
  have hrest:=iD ih hks hc w m (i+1) fx fy
  rw [List.range'_succ]
  simp only [Op.eqItems,Sem.run_bind,hc,ha,hb,hab,Result.andThen_ok]
  rw [hc] at hrest
  rw [heq]
  cases he:Bj ((xs.drop (i*ks.length)).take ks.length) ((ys.drop (i*ks.length)).take ks.length)
  ·simp
  ·simpa using hrest
theorem iE {D d:Nat} (ih:∀ (t:TypeId) (ks:List (Option IntKind)),EA P d t=some ks→SS P D t ks) {xs ys:List Value} (w:World) :
  ∀ (fs:List Field) (off:Nat) (ks:List (Option IntKind)),Pc P (EA P d) fs off=some ks→BT ks (xs.drop off)→BT ks (ys.drop off) →
   (Op.eqFields D ⟨xs⟩ ⟨ys⟩ fs).run P w=.ok (Bj (xs.drop off) (ys.drop off)) w
 | [],off,ks,h,hx,hy=>by
  simp only [Pc,Option.some.injEq] at h
  subst h
  have lx:=Hv hx
  have ly:=Hv hy
  simp at lx ly
  rw [List.drop_eq_nil_of_le (by omega),List.drop_eq_nil_of_le (by omega)]
  simp [Op.eqFields,Bj]
 | f::fs,off,ks,h,hx,hy=>by
  simp only [Pc] at h
  split at h
  ·rename_i ks1 hn ho hg
   split at h
   ·rename_i r hc hr
    injection h with h;subst h
    have ho':=Ad.1 ho
    have hn':f.name≠"_":=by simpa using hn
    obtain ⟨a,b,ha,hb,hab,heq,fx,fy⟩:=iC (ih _ _ hg) hg (Ad.1 hc) w hx hy
    have hrest:=iE ih w fs _ _ hr fx fy
    rw [← ho'] at ha hb
    simp only [Op.eqFields,hn',ne_eq,not_false_eq_true,if_true,Sem.run_bind,ha,hb,hab,Result.andThen_ok]
    rw [heq]
    cases he:Bj ((xs.drop off).take ks1.length) ((ys.drop off).take ks1.length)
    ·simp
    ·simpa using hrest
   ·cases h
  ·cases h
theorem iF (d:Nat):∀ (t:TypeId) (ks:List (Option IntKind)) (D:Nat),EA P d t=some ks→d≤D→SS P D t ks:=by
 induction d with
 | zero=>intro t ks D h;simp [EA] at h
 | succ d IH =>
  intro t ks D h hD
  obtain ⟨D,rfl⟩:∃ D',D=D'+1:=⟨D-1,by omega⟩
  intro xs ys X Y w hx hy sx sy
  simp only [EA] at h
  split at h
  ·rename_i hu
   injection h with h;subst h
   simp only [Ew,hu,wide] at sx sy
   subst sx;subst sy
   cases X<;>simp [BT] at hx
   cases Y<;>simp [BT] at hy
   rw [run_equalIn_bool w D t _ _ hu]
   simp [Bj]
  ·rename_i k hu
   injection h with h;subst h
   simp only [Ew,hu,wide] at sx sy
   subst sx;subst sy
   cases X<;>simp [BT] at hx
   cases Y<;>simp [BT] at hy
   rw [hx,hy,run_equalIn_int w D t k k _ _ hu]
   simp only [Bj,Bool.and_true]
   congr 1
  ·rename_i n e hu
   split at h
   ·rename_i ks1 hk
    split at h
    ·rename_i hc
     injection h with h;subst h
     simp only [Ew,hu,wide] at sx sy
     subst sx;subst sy
     obtain ⟨_,i,_,hi⟩:=iB hk
     rw [run_equalIn_array w D ⟨xs⟩ ⟨ys⟩ hu hi,List.range_eq_range']
     have:=iD (IH e ks1 D hk (by omega)) hk (Ad.1 hc) (xs:=xs) (ys:=ys) w n 0 (by simpa using hx) (by simpa using hy)
     simpa using this
    ·cases h
   ·cases h
  ·rename_i fs hu
   split at h
   ·rename_i hp
    simp only [Ew,hu,wide] at sx sy
    subst sx;subst sy
    have hf:P.fieldsOf t=fs:=by simp [Program.fieldsOf,hu]
    rw [run_equalIn_struct w D t ⟨xs⟩ ⟨ys⟩ (by rw [hf];exact hu) hp,hf]
    have:=iE (fun t ks hk=>IH t ks D hk (by omega)) (xs:=xs) (ys:=ys) w fs.toList 0 ks h (by simpa using hx) (by simpa using hy)
    simpa using this
   ·cases h
  ·cases h
end
def Pd (k:Nat):List (Option IntKind)→Option (List (Option IntKind)):=match k with
 | 0=>fun ks=>some ks
 | k+1=>fun ks=>match ks with
  | some .u64::r=>Pd k r
  | _=>none
def Hw:Nat→List (Option IntKind)→List Ch→Bool
 | 0,_,_=>false
 | f+1,ks,cs=>match ks,cs with
  | [],[]=>true
  | ks,.num k _::r=>match Pd k ks with | some ks'=>Hw f ks' r | none=>false
  | some k::ks,c::r=>match A' (some (.val false [c])) with
   | some (_,k',_)=>match decide (k'=k) with | true=>Hw f ks r | false=>false
   | none=>false
  | none::ks,c::r=>match D_ (some (.val false [c])) with
   | some _=>Hw f ks r
   | none=>false
  | _,_=>false
theorem iG:∀ {k:Nat} {ks ks':List (Option IntKind)} {x:Nat} {l:List Value},Pd k ks=some ks'→BT ks' l→BT ks (words k x++l)
 | 0,ks,ks',x,l,h,hl=>by simp [Pd] at h;subst h;simpa [words] using hl
 | k+1,ks,ks',x,l,h,hl=>by
  simp only [Pd] at h
  split at h
  ·rw [SM]
   exact ⟨rfl,iG h hl⟩
  ·cases h
theorem Pe {β:Env}:∀ {f:Nat} {ks:List (Option IntKind)} {cs:List Ch} {l:List Value},Hw f ks cs=true→AH β cs l→BT ks l
 | 0,_,_,_,h,_=>by simp [Hw] at h
 | f+1,ks,cs,l,h,hl=>by
  unfold Hw at h
  split at h
  ·simp only [AH] at hl;subst hl;trivial
  ·obtain ⟨l1,l2,h1,h2,rfl⟩:=hl
   simp only [A2] at h1
   split at h
   ·rename_i ks' hk
    rw [h1.2]
    exact iG hk (Pe h h2)
   ·cases h
  ·rename_i k ks c r _
   obtain ⟨l1,l2,h1,h2,rfl⟩:=hl
   split at h
   ·rename_i b k' i hi
    split at h
    ·rename_i hk
     have z1:DN c=1:=by cases c<;>simp [A'] at hi<;>rfl
     obtain ⟨u,rfl⟩:∃ u,l1=[u]:=List.length_eq_one_iff.1 (by rw [Lo h1,z1])
     obtain ⟨rfl,_⟩:=Bt (β:=β) (u:=u) (fun A hA=>by injection hA with hA;subst hA;exact Am h1) hi
     exact ⟨by simpa using hk,Pe h h2⟩
    ·cases h
   ·cases h
  ·rename_i ks c r _
   obtain ⟨l1,l2,h1,h2,rfl⟩:=hl
   split at h
   ·rename_i p hi
    obtain ⟨b,y⟩:=p
    have z1:DN c=1:=by cases c<;>simp [D_] at hi<;>rfl
    obtain ⟨u,rfl⟩:∃ u,l1=[u]:=List.length_eq_one_iff.1 (by rw [Lo h1,z1])
    have:=G9 (β:=β) (u:=u) (fun A hA=>by injection hA with hA;subst hA;exact Am h1) hi
    subst this
    show BT ks l2
    exact Pe h h2
   ·cases h
  ·cases h
section
variable {P:Program} {β:Env} {H:Heap} {w:World}
def XE (P:Program) (s:TypeId) (x:Option AV) (f:Nat) (path:List Bool):Option R :=
 match x,P.underlying s with
 | some (.val false [.p bk off]),some (.struct fs)=>match fs[f]? with
  | some fd=>match P.info? fd.type with
   | some i=>match Nat.beq i.size 0 with
    | false=>some (BS (.val false [.p bk (off+fd.offset)]) path)
    | true=>none
   | none=>none
  | none=>none
 | _,_=>none
theorem AA9 {s f:Nat} {x:Option AV} {u:Value} {path:List Bool} {r:R} (g:Good β H w) (hx:∀ A,x=some A→AG β A u) (h:XE P s x f path=some r) (fr:Nat) :
  ∃ v,(Instr.fieldAt s u f).run P w=.ok v w∧Eff β fr r w v w β:=by
 unfold XE at h
 split at h
 ·rename_i bk off fs hs
  split at h
  ·rename_i fd hf
   split at h
   ·rename_i i hi
    split at h
    ·rename_i hz
     injection h with h;subst h
     obtain ⟨B,n,e1,e2⟩:=An (hx _ rfl)
     injection e2 with e2 _;subst e2
     have hz':=FW hz
     refine ⟨_,?_,Eff.pure_ g (Am ⟨B,n,e1,rfl⟩)⟩
     simp [Instr.fieldAt,run_underlying hs,hf,Instr.sureAddr,fieldPlace,sizeOf,typeInfo,hi,hz',Addr.add_lit,Nat.add_assoc]
    ·cases h
   ·cases h
  ·cases h
 ·cases h
def Sz (P:Program) (t:TypeId) (cs:List Ch) (off:Nat) (path:List Bool):Option R :=
 match P.underlying t,P.info? t with
 | some d,some i=>match wide d with
  | true=>match Hq cs off i.size with
   | some m=>some (BS (.val true m) path)
   | none=>none
  | false=>match Hq cs off 1 with
   | some m=>some (BS (.val false m) path)
   | none=>none
 | _,_=>none
theorem iH {t off:Nat} {cs:List Ch} {l:List Value} {path:List Bool} {r:R} (g:Good β H w) (hl:AH β cs l) (h:Sz P t cs off path=some r) (fr:Nat) :
  ∃ v,(part t ⟨l⟩ off).run P w=.ok v w∧Eff β fr r w v w β:=by
 unfold Sz at h
 split at h
 ·rename_i d i hd hi
  have hag:=PY hd w
  split at h
  ·rename_i hw
   split at h
   ·rename_i m hm
    injection h with h;subst h
    obtain ⟨h1,h2⟩:=Ng hm hl
    refine ⟨.agg ⟨(l.drop off).take i.size⟩,?_,Eff.pure_ g ⟨_,h1,rfl⟩⟩
    simp [part,hag,hw,sizeOf,typeInfo,hi]
   ·cases h
  ·rename_i hw
   split at h
   ·rename_i m hm
    injection h with h;subst h
    obtain ⟨h1,h2⟩:=Ng hm hl
    have hlt:off<l.length:=by omega
    rw [W7 hlt] at h1
    refine ⟨l[off],?_,Eff.pure_ g h1⟩
    simp [part,hag,hw,hlt]
   ·cases h
 ·cases h
def XF (P:Program) (t:TypeId) (x:Option AV) (f:Nat) (path:List Bool):Option R :=
 match x,P.underlying t with
 | some (.val true cs),some (.struct fs)=>match fs[f]? with
  | some fd=>Sz P fd.type cs fd.offset path
  | none=>none
 | _,_=>none
theorem AA_ {t f:Nat} {x:Option AV} {u:Value} {path:List Bool} {r:R} (g:Good β H w) (hx:∀ A,x=some A→AG β A u) (h:XF P t x f path=some r) (fr:Nat) :
  ∃ v,(Instr.field t u f).run P w=.ok v w∧Eff β fr r w v w β:=by
 unfold XF at h
 split at h
 ·rename_i cs fs hs
  split at h
  ·rename_i fd hf
   obtain ⟨l,hl,rfl⟩:=hx _ rfl
   obtain ⟨v,hv,he⟩:=iH g hl h fr
   refine ⟨v,?_,he⟩
   simp [Instr.field,run_underlying hs,hf,asAgg,hv]
  ·cases h
 ·cases h
def EB (s:ByteArray) (i:Int):Int:=((s.data.toList.getD i.toNat 0).toNat:Int)
def XG (P:Program) (t:TypeId) (x ix:Option AV) (path:List Bool):Option R :=
 match x,P.underlying t,A' ix with
 | some (.val true cs),some (.array n e),some (true,_,i)=>match decide (0≤i∧i<n),P.info? e with
  | true,some inf=>Sz P e cs (i.toNat*inf.size) path
  | _,_=>none
 | some (.val false [.v (.string s)]),some .string,some (_,_,i)=>some ⟨.val false [.v (.int .u8 (EB s i))],[],0,[(decide (0≤i∧i<s.size),true)],path⟩
 | _,_,_=>none
theorem AA' {t:TypeId} {x ix:Option AV} {u v:Value} {path:List Bool} {r:R} (g:Good β H w) (hx:∀ A,x=some A→AG β A u) (hi:∀ A,ix=some A→AG β A v) (h:XG P t x ix path=some r) (hc:AP r.conds) (fr:Nat) :
  ∃ z,(Instr.index t u v).run P w=.ok z w∧Eff β fr r w z w β:=by
 unfold XG at h
 split at h
 ·rename_i cs n e k i hu ha
  split at h
  ·rename_i inf hd hinf
   obtain ⟨l,hl,rfl⟩:=hx _ rfl
   obtain ⟨rfl,_⟩:=Bt hi ha
   obtain ⟨z,hz,he⟩:=iH g hl h fr
   refine ⟨z,?_,he⟩
   have hd':0≤i∧i<n:=by simpa using hd
   simp [Instr.index,asIntOf,run_underlying hu,hd',sizeOf,typeInfo,hinf,hz]
  ·cases h
 ·rename_i s k' c i hu ha
  injection h with h;subst h
  have hd:=hc.1
  simp only [decide_eq_true_eq] at hd
  have:=(An (hx _ rfl)).1
  injection this with e _;subst e
  obtain ⟨rfl,_⟩:=Bt hi ha
  have hlt:i.toNat<s.size:=by omega
  have hlt':i.toNat<s.data.toList.length:=by simpa using hlt
  have AB:s.data.toList.getD i.toNat 0=s[i.toNat]:=by
   rw [List.getD_eq_getElem?_getD,List.getElem?_eq_getElem hlt']
   simp [ByteArray.getElem_eq_getElem_data]
  refine ⟨.int .u8 (EB s i),?_,Eff.pure_ g (Am ⟨rfl,rfl,?_⟩)⟩
  ·unfold EB
   rw [AB]
   simp [Instr.index,asIntOf,run_underlying hu,hd.1,hlt]
  ·show has .u8 (EB s i)
   rw [Dq]
   have:=(s.data.toList.getD i.toNat 0).toNat_lt
   show (decide (0≤EB s i)&&decide (EB s i≤255))=true
   unfold EB
   rw [Bool.and_eq_true,decide_eq_true_iff,decide_eq_true_iff];omega
 ·cases h
def XH (P:Program) (t:TypeId) (x ix:Option AV) (path:List Bool):Option R :=
 match x,P.underlying t,A' ix with
 | some (.val false [.p bk off]),some (.array n e),some (c,_,i)=>match Ls c (decide (0≤i∧i<n)),P.info? e with
  | some l,some inf=>some ⟨.val false [.p bk (off+i.toNat*inf.size)],[],0,l,path⟩
  | _,_=>none
 | some (.val false [.sl bk off len _]),some (.slice e),some (_,_,i)=>match P.info? e with
  | some inf=>some ⟨.val false [.p bk (off+i.toNat*inf.size)],[],0,[(decide (0≤i∧i<len),true)],path⟩
  | none=>none
 | some (.val false [.sx bk len _]),some (.slice e),some (_,_,i)=>match P.info? e with
  | some inf=>some ⟨.val false [.p bk (0+i.toNat*inf.size)],[],0,[(decide (0≤i∧i<len),true)],path⟩
  | none=>none
 | _,_,_=>none
theorem ABA {t:TypeId} {x ix:Option AV} {u v:Value} {path:List Bool} {r:R} (g:Good β H w) (hx:∀ A,x=some A→AG β A u) (hi:∀ A,ix=some A→AG β A v) (h:XH P t x ix path=some r)
  (hc:AP r.conds) (fr:Nat):∃ z,(Instr.indexAt t u v).run P w=.ok z w∧Eff β fr r w z w β:=by
 unfold XH at h
 split at h
 ·rename_i bk off n e c k i hu ha
  split at h
  ·rename_i l inf hl hinf
   injection h with h;subst h
   have hd:=Pb hl hc
   simp only [decide_eq_true_eq] at hd
   obtain ⟨B,m,e1,e2⟩:=An (hx _ rfl)
   injection e2 with e2 _;subst e2
   obtain ⟨rfl,_⟩:=Bt hi ha
   refine ⟨_,?_,Eff.pure_ g (Am ⟨B,m,e1,rfl⟩)⟩
   simp [Instr.indexAt,asIntOf,run_underlying hu,Instr.sureAddr,hd,sizeOf,typeInfo,hinf,Addr.add_lit,Nat.add_assoc]
  ·cases h
 ·rename_i bk off len cap e c k i hu ha
  split at h
  ·rename_i inf hinf
   injection h with h;subst h
   have hd:=hc.1
   simp only [decide_eq_true_eq] at hd
   obtain ⟨rfl,_⟩:=Bt hi ha
   rcases An (hx _ rfl) with ⟨B,m,e1,e2⟩ | ⟨_,_,e2,_⟩
   ·injection e2 with e2 _;subst e2
    refine ⟨_,?_,Eff.pure_ g (Am ⟨B,m,e1,rfl⟩)⟩
    simp [Instr.indexAt,asIntOf,run_underlying hu,hd,sizeOf,typeInfo,hinf,Addr.add_lit,Nat.add_assoc]
   ·subst e2;omega
  ·cases h
 ·rename_i bk len sz e c k i hu ha
  split at h
  ·rename_i inf hinf
   injection h with h;subst h
   have hd:=hc.1
   simp only [decide_eq_true_eq] at hd
   obtain ⟨rfl,_⟩:=Bt hi ha
   rcases An (hx _ rfl) with ⟨B,m,cap,e1,e2,_⟩ | ⟨_,e2,_⟩
   ·injection e2 with e2 _;subst e2
    refine ⟨_,?_,Eff.pure_ g (Am ⟨B,(m,0),e1,rfl⟩)⟩
    simp [Instr.indexAt,asIntOf,run_underlying hu,hd,sizeOf,typeInfo,hinf,Addr.add_lit]
   ·subst e2;omega
  ·cases h
 ·cases h
def Hx (d top:Nat) (x:Option (Option AV)):Option (Nat×List (Bool×Bool)) :=
 match x with
 | none=>some (d,[])
 | some a=>match A' a with
  | some (_,_,i)=>some (i.toNat,[(decide (0≤i∧i≤top),true)])
  | none=>none
def DO (β:Env) (x:Option (Option AV)) (v:Option Value):Prop :=
 match x,v with
 | none,none=>True
 | some a,some v=>∀ A,a=some A→AG β A v
 | _,_=>False
theorem Lx {d top y:Nat} {x:Option (Option AV)} {v:Option Value} {c:List (Bool×Bool)} (hv:DO β x v) (h:Hx d top x=some (y,c)) (hc:AP c) :
  (v=none∧y=d)∨(∃ k i,v=some (.int k i)∧0≤i∧i≤top∧y=i.toNat):=by
 unfold Hx at h
 split at h
 ·injection h with h;injection h with h1 h2;subst h1
  cases v
  ·exact .inl ⟨rfl,rfl⟩
  ·simp [DO] at hv
 ·split at h
  ·rename_i a b k i ha
   injection h with h;injection h with h1 h2;subst h1;subst h2
   cases v with
   | none=>simp [DO] at hv
   | some v =>
    obtain ⟨rfl,_⟩:=Bt hv ha
    have:=hc.1
    simp only [decide_eq_true_eq] at this
    exact .inr ⟨k,i,rfl,this.1,this.2,rfl⟩
  ·cases h
theorem Nm (b:Bool) (len cap l h m:Nat) (lo hi mx:Option Value)
  (hm:(mx=none∧m=cap)∨(∃ k i,mx=some (.int k i)∧0≤i∧i≤cap∧m=i.toNat))
  (hh:(hi=none∧h=len∧mx=none)∨(∃ k i,hi=some (.int k i)∧0≤i∧i≤m∧h=i.toNat))
  (hl:(lo=none∧l=0)∨(∃ k i,lo=some (.int k i)∧0≤i∧i≤h∧l=i.toNat)) :
  (Instr.sliceBounds b len cap lo hi mx).run P w=.ok (l,h,m) w:=by
 rcases hm with ⟨rfl,rfl⟩ | ⟨km,im,rfl,m1,m2,rfl⟩
 ·rcases hh with ⟨rfl,rfl,_⟩ | ⟨kh,ih,rfl,h1,h2,rfl⟩
  ·rcases hl with ⟨rfl,rfl⟩ | ⟨kl,il,rfl,l1,l2,rfl⟩
   ·simp [Instr.sliceBounds]
   ·simp [Instr.sliceBounds,run_sliceBound w kl il _ _ l1 l2]
  ·rcases hl with ⟨rfl,rfl⟩ | ⟨kl,il,rfl,l1,l2,rfl⟩
   ·simp [Instr.sliceBounds,run_sliceBound w kh ih _ _ h1 h2]
   ·simp [Instr.sliceBounds,run_sliceBound w kh ih _ _ h1 h2,run_sliceBound w kl il _ _ l1 l2]
 ·rcases hh with ⟨_,_,hc⟩ | ⟨kh,ih,rfl,h1,h2,rfl⟩
  ·cases hc
  ·rcases hl with ⟨rfl,rfl⟩ | ⟨kl,il,rfl,l1,l2,rfl⟩
   ·simp [Instr.sliceBounds,run_sliceBound w km im _ _ m1 m2,run_sliceBound w kh ih _ _ h1 h2]
   ·simp [Instr.sliceBounds,run_sliceBound w km im _ _ m1 m2,run_sliceBound w kh ih _ _ h1 h2,run_sliceBound w kl il _ _ l1 l2]
def L1 (len cap:Nat) (lo hi mx:Option (Option AV)):Option (Nat×Nat×Nat×List (Bool×Bool)) :=
 match hi,mx with
 | none,some _=>none
 | _,_=>match Hx cap cap mx with
  | some (m,c1)=>match Hx len m hi with
   | some (h,c2)=>match Hx 0 h lo with
    | some (l,c3)=>some (l,h,m,c1++(c2++c3))
    | none=>none
   | none=>none
  | none=>none
theorem Nn (b:Bool) {len cap l h m:Nat} {lo hi mx:Option (Option AV)} {vl vh vm:Option Value} {c:List (Bool×Bool)} (rl:DO β lo vl) (rh:DO β hi vh) (rm:DO β mx vm)
  (hb:L1 len cap lo hi mx=some (l,h,m,c)) (hc:AP c):(Instr.sliceBounds b len cap vl vh vm).run P w=.ok (l,h,m) w:=by
 unfold L1 at hb
 split at hb
 ·cases hb
 ·rename_i hno
  split at hb
  ·rename_i m' c1 h1
   split at hb
   ·rename_i h' c2 h2
    split at hb
    ·rename_i l' c3 h3
     injection hb with hb;injection hb with e1 hb;injection hb with e2 hb;injection hb with e3 e4
     subst e1;subst e2;subst e3;subst e4
     obtain ⟨o1,o2⟩:=Bz.1 hc
     obtain ⟨o2,o3⟩:=Bz.1 o2
     refine Nm b len cap _ _ _ _ _ _ (Lx rm h1 o1) ?_ (Lx rl h3 o3)
     rcases Lx rh h2 o2 with ⟨e1,e2⟩ | e
     ·refine .inl ⟨e1,e2,?_⟩
      subst e1
      cases hi with
      | some a=>simp [DO] at rh
      | none =>
       cases mx with
       | none=>cases vm with
        | none=>rfl
        | some v=>simp [DO] at rm
       | some a=>exact absurd rfl (hno a rfl)
     ·exact .inr e
    ·cases hb
   ·cases hb
  ·cases hb
theorem ABB {l h m:Nat} {lo hi mx:Option (Option AV)} {vl vh vm:Option Value} {c:List (Bool×Bool)} (rl:DO β lo vl) (rh:DO β hi vh) (rm:DO β mx vm)
  (hb:L1 0 0 lo hi mx=some (l,h,m,c)) (hc:AP c):l=0∧h=0∧m=0:=by
 unfold L1 at hb
 split at hb
 ·cases hb
 ·split at hb
  ·rename_i m' c1 h1
   split at hb
   ·rename_i h' c2 h2
    split at hb
    ·rename_i l' c3 h3
     injection hb with hb;injection hb with e1 hb;injection hb with e2 hb;injection hb with e3 e4
     subst e1;subst e2;subst e3;subst e4
     obtain ⟨o1,o2⟩:=Bz.1 hc
     obtain ⟨o2,o3⟩:=Bz.1 o2
     have hm:m'=0:=by rcases Lx rm h1 o1 with ⟨_,e⟩ | ⟨_,i,_,_,_,e⟩<;>omega
     have hh:h'=0:=by rcases Lx rh h2 o2 with ⟨_,e⟩ | ⟨_,i,_,_,_,e⟩<;>omega
     have hl:l'=0:=by rcases Lx rl h3 o3 with ⟨_,e⟩ | ⟨_,i,_,_,_,e⟩<;>omega
     exact ⟨hl,hh,hm⟩
    ·cases hb
   ·cases hb
  ·cases hb
def XI (P:Program) (t:TypeId) (x:Option AV) (lo hi mx:Option (Option AV)) (path:List Bool):Option R :=
 match x,P.underlying t with
 | some (.val false [.p bk off]),some (.array n e)=>match L1 n n lo hi mx,P.info? e with
  | some (l,h,m,c),some inf=>match Nat.beq m l with
   | true=>some ⟨.val false [.sl bk off (h-l) (m-l)],[],0,c,path⟩
   | false=>some ⟨.val false [.sl bk (off+l*inf.size) (h-l) (m-l)],[],0,c,path⟩
  | _,_=>none
 | some (.val false [.sl bk off len cap]),some (.slice e)=>match L1 len cap lo hi mx,P.info? e,lo with
  | some (l,h,m,c),some _,none=>some ⟨.val false [.sl bk off (h-l) (m-l)],[],0,c++[(Nat.beq l 0,true)],path⟩
  | some (l,h,m,c),some inf,some _=>match path with
   | true::rest=>some ⟨.val false [.sl bk off (h-l) (m-l)],[],0,c++[(Nat.beq m l,true)],rest⟩
   | false::rest=>some ⟨.val false [.sl bk (off+l*inf.size) (h-l) (m-l)],[],0,c++[(Nat.beq m l,false)],rest⟩
   | []=>none
  | _,_,_=>none
 | some (.val false [.sx bk len sz]),some (.slice e)=>match lo,P.info? e with
  | none,some _=>match hi,mx with
   | some _,none=>match Hx len len hi with
    | some (h,c)=>some ⟨.val false [.sx bk h sz],[],0,c,path⟩
    | none=>none
   | some _,some _=>match Hx len len mx with
    | some (m,c1)=>match Hx len m hi with
     | some (h,c2)=>some ⟨.val false [.sl bk 0 h m],[],0,c1++c2,path⟩
     | none=>none
    | none=>none
   | _,_=>none
  | _,_=>none
 | some (.val false [.v (.slice none 0 0)]),some (.slice e)=>match lo,mx,P.info? e with
  | none,none,some _=>match hi with
   | some _=>match Hx 0 0 hi with
    | some (_,c)=>some ⟨.val false [.v (.slice none 0 0)],[],0,c,path⟩
    | none=>none
   | none=>none
  | _,_,_=>none
 | _,_=>none
theorem S_ {β:Env} {d top y:Nat} {x:Option AV} {v:Option Value} {c:List (Bool×Bool)} (hv:DO β (some x) v) (h:Hx d top (some x)=some (y,c)) (hc:AP c):∃ k i,v=some (.int k i)∧0≤i∧i≤top∧y=i.toNat:=by
 rcases Lx hv h hc with ⟨rfl,_⟩ | h
 ·simp [DO] at hv
 ·exact h
theorem ABC {t:TypeId} {x:Option AV} {u:Value} {lo hi mx:Option (Option AV)} {vl vh vm:Option Value} {path:List Bool} {r:R} (g:Good β H w) (hx:∀ A,x=some A→AG β A u)
  (rl:DO β lo vl) (rh:DO β hi vh) (rm:DO β mx vm) (h:XI P t x lo hi mx path=some r) (hc:AP r.conds) (fr:Nat) :
  ∃ z,(Instr.sliceAt t u vl vh vm).run P w=.ok z w∧Eff β fr r w z w β:=by
 unfold XI at h
 split at h
 ·rename_i bk off n e hu
  split at h
  ·rename_i l hh m c inf hb hinf
   obtain ⟨B,nn,e1,e2⟩:=An (hx _ rfl)
   injection e2 with e2 _;subst e2
   split at h
   ·rename_i hm
    injection h with h;subst h
    have hr:=Nn (P:=P) (w:=w) false rl rh rm hb hc
    refine ⟨_,?_,Eff.pure_ g (Am (.inl ⟨B,nn,e1,rfl⟩))⟩
    simp [Instr.sliceAt,run_underlying hu,Instr.sureAddr,hr,sizeOf,typeInfo,hinf,Ad.1 hm]
   ·rename_i hm
    injection h with h;subst h
    have hr:=Nn (P:=P) (w:=w) false rl rh rm hb hc
    refine ⟨_,?_,Eff.pure_ g (Am (.inl ⟨B,nn,e1,rfl⟩))⟩
    simp [Instr.sliceAt,run_underlying hu,Instr.sureAddr,hr,sizeOf,typeInfo,hinf,FW hm,Addr.add_lit,Nat.add_assoc]
  ·cases h
 ·rename_i bk off len cap e hu
  rcases An (hx _ rfl) with ⟨B,nn,e1,e2⟩ | ⟨e1,z1,z2,z3,e2⟩
  case inr =>
   injection e2 with e2 _;subst e2
   subst z1;subst z2;subst z3
   have hs:(Instr.sliceAt t (.slice none 0 0) vl vh vm).run P w=(Instr.slice t (.slice none 0 0) vl vh vm).run P w:=by
    simp [Instr.sliceAt,run_underlying hu]
   rw [hs]
   have core:∀ (l hh m:Nat) (c:List (Bool×Bool)) (inf:TypeInfo),L1 0 0 lo hi mx=some (l,hh,m,c)→AP c→P.info? e=some inf→(Instr.slice t (.slice none 0 0) vl vh vm).run P w=.ok (.slice none 0 0) w∧l=0∧hh=0∧m=0:=by
    intro l hh m c inf hb o1 hinf
    obtain ⟨rfl,rfl,rfl⟩:=ABB rl rh rm hb o1
    have hr:=Nn (P:=P) (w:=w) true rl rh rm hb o1
    exact ⟨by simp [Instr.slice,run_underlying hu,hr,sizeOf,typeInfo,hinf],rfl,rfl,rfl⟩
   split at h
   ·rename_i l hh m c inf _ _
    have hinf:P.info? e=some inf:=by assumption
    injection h with h;subst h
    obtain ⟨o1,o2⟩:=Bz.1 hc
    obtain ⟨q,rfl,rfl,rfl⟩:=core _ _ _ _ _ (by assumption) o1 hinf
    exact ⟨_,q,Eff.pure_ g (Am (.inr ⟨e1,rfl,rfl,rfl,rfl⟩))⟩
   ·rename_i l hh m c inf lo' _ _
    have hinf:P.info? e=some inf:=by assumption
    split at h
    ·injection h with h;subst h
     obtain ⟨o1,o2⟩:=Bz.1 hc
     obtain ⟨q,rfl,rfl,rfl⟩:=core _ _ _ _ _ (by assumption) o1 hinf
     exact ⟨_,q,Eff.pure_ g (Am (.inr ⟨e1,rfl,rfl,rfl,rfl⟩))⟩
    ·injection h with h;subst h
     obtain ⟨o1,o2⟩:=Bz.1 hc
     obtain ⟨q,rfl,rfl,rfl⟩:=core _ _ _ _ _ (by assumption) o1 hinf
     cases o2.1
    ·cases h
   ·cases h
  injection e2 with e2 _;subst e2
  split at h
  ·rename_i l hh m c inf _ _
   have hinf:P.info? e=some inf:=by assumption
   injection h with h;subst h
   obtain ⟨o1,o2⟩:=Bz.1 hc
   have hr:=Nn (P:=P) (w:=w) true rl rh rm (by assumption) o1
   have hl:=Ad.1 o2.1
   subst hl
   refine ⟨_,?_,Eff.pure_ g (Am (.inl ⟨B,nn,e1,rfl⟩))⟩
   have hs:(Instr.sliceAt t (.slice (some ⟨B,nn.2+off,none⟩) len cap) vl vh vm).run P w=(Instr.slice t (.slice (some ⟨B,nn.2+off,none⟩) len cap) vl vh vm).run P w:=by
    simp [Instr.sliceAt,run_underlying hu]
   rw [hs]
   simp [Instr.slice,run_underlying hu,hr,sizeOf,typeInfo,hinf,Addr.add_lit,Nat.add_assoc]
  ·rename_i l hh m c inf lo' _ _
   have hinf:P.info? e=some inf:=by assumption
   have hs:(Instr.sliceAt t (.slice (some ⟨B,nn.2+off,none⟩) len cap) vl vh vm).run P w=(Instr.slice t (.slice (some ⟨B,nn.2+off,none⟩) len cap) vl vh vm).run P w:=by
    simp [Instr.sliceAt,run_underlying hu]
   rw [hs]
   split at h
   ·injection h with h;subst h
    obtain ⟨o1,o2⟩:=Bz.1 hc
    have hr:=Nn (P:=P) (w:=w) true rl rh rm (by assumption) o1
    refine ⟨_,?_,Eff.pure_ g (Am (.inl ⟨B,nn,e1,rfl⟩))⟩
    simp [Instr.slice,run_underlying hu,hr,sizeOf,typeInfo,hinf,Ad.1 o2.1]
   ·injection h with h;subst h
    obtain ⟨o1,o2⟩:=Bz.1 hc
    have hr:=Nn (P:=P) (w:=w) true rl rh rm (by assumption) o1
    refine ⟨_,?_,Eff.pure_ g (Am (.inl ⟨B,nn,e1,rfl⟩))⟩
    simp [Instr.slice,run_underlying hu,hr,sizeOf,typeInfo,hinf,FW o2.1,Addr.add_lit,Nat.add_assoc]
   ·cases h
  ·cases h
 ·rename_i bk len sz e hu
  have core:∀ (base:Option Addr) (cap hh m:Nat) (inf:TypeInfo),P.info? e=some inf→(base=none→cap=0)→(Instr.sliceBounds true len cap vl vh vm).run P w=.ok (0,hh,m) w →
    (Instr.sliceAt t (.slice base len cap) vl vh vm).run P w=.ok (.slice base hh m) w:=by
   intro base cap hh m inf hinf _ hr
   have hs:(Instr.sliceAt t (.slice base len cap) vl vh vm).run P w=(Instr.slice t (.slice base len cap) vl vh vm).run P w:=by
    simp [Instr.sliceAt,run_underlying hu]
   rw [hs]
   cases base with
   | none=>simp [Instr.slice,run_underlying hu,hr,sizeOf,typeInfo,hinf]
   | some a =>
    simp [Instr.slice,run_underlying hu,hr,sizeOf,typeInfo,hinf]
    intro _;simp [Addr.add]
  split at h
  case h_2=>cases h
  rename_i inf hinf
  have hvl:vl=none:=by cases vl with | none=>rfl | some v=>simp [DO] at rl
  subst hvl
  split at h
  ·rename_i hi'
   have hvm:vm=none:=by cases vm with | none=>rfl | some v=>simp [DO] at rm
   subst hvm
   split at h
   case h_2=>cases h
   rename_i y c hb
   injection h with h;subst h
   obtain ⟨k,i,rfl,h1,h2,rfl⟩:=S_ rh hb hc
   rcases An (hx _ rfl) with ⟨B,nn,cap,e1,e2,e3,e4⟩ | ⟨e1,rfl,e2⟩
   ·injection e2 with e2 _;subst e2
    refine ⟨_,core _ cap i.toNat cap inf hinf (fun h=>by cases h) (Nm true len cap 0 _ _ _ _ _ (.inl ⟨rfl,rfl⟩) (.inr ⟨k,i,rfl,h1,by omega,rfl⟩) (.inl ⟨rfl,rfl⟩)),Eff.pure_ g (Am (.inl ⟨B,nn,cap,e1,rfl,by omega,e4⟩))⟩
   ·injection e2 with e2 _;subst e2
    have hi0:i.toNat=0:=by omega
    refine ⟨_,core _ 0 i.toNat 0 inf hinf (fun _=>rfl) (Nm true 0 0 0 _ _ _ _ _ (.inl ⟨rfl,rfl⟩) (.inr ⟨k,i,rfl,h1,by omega,rfl⟩) (.inl ⟨rfl,rfl⟩)),?_⟩
    rw [hi0]
    exact Eff.pure_ g (Am (.inr ⟨e1,rfl,rfl⟩))
  ·rename_i hi' mx'
   split at h
   case h_2=>cases h
   rename_i m c1 hb1
   split at h
   case h_2=>cases h
   rename_i y c2 hb2
   injection h with h;subst h
   obtain ⟨o1,o2⟩:=Bz.1 hc
   obtain ⟨km,im,rfl,m1,m2,rfl⟩:=S_ rm hb1 o1
   obtain ⟨k,i,rfl,h1,h2,rfl⟩:=S_ rh hb2 o2
   rcases An (hx _ rfl) with ⟨B,nn,cap,e1,e2,e3,e4⟩ | ⟨e1,rfl,e2⟩
   ·injection e2 with e2 _;subst e2
    refine ⟨_,core _ cap i.toNat im.toNat inf hinf (fun h=>by cases h) (Nm true len cap 0 _ _ _ _ _ (.inr ⟨km,im,rfl,m1,by omega,rfl⟩) (.inr ⟨k,i,rfl,h1,h2,rfl⟩) (.inl ⟨rfl,rfl⟩)),Eff.pure_ g (Am (.inl ⟨B,(nn,0),e1,rfl⟩))⟩
   ·injection e2 with e2 _;subst e2
    have hm0:im.toNat=0:=by omega
    have hi0:i.toNat=0:=by omega
    refine ⟨_,core _ 0 i.toNat im.toNat inf hinf (fun _=>rfl) (Nm true 0 0 0 _ _ _ _ _ (.inr ⟨km,im,rfl,m1,by omega,rfl⟩) (.inr ⟨k,i,rfl,h1,h2,rfl⟩) (.inl ⟨rfl,rfl⟩)),?_⟩
    rw [hm0,hi0]
    exact Eff.pure_ g (Am (.inr ⟨e1,rfl,rfl,rfl,rfl⟩))
  ·cases h
 ·rename_i e hu
  split at h
  case h_2=>cases h
  rename_i inf hinf
  have hvl:vl=none:=by cases vl with | none=>rfl | some v=>simp [DO] at rl
  have hvm:vm=none:=by cases vm with | none=>rfl | some v=>simp [DO] at rm
  subst hvl;subst hvm
  split at h
  case h_2=>cases h
  split at h
  case h_2=>cases h
  rename_i y c hb
  injection h with h;subst h
  obtain ⟨k,i,rfl,h1,h2,rfl⟩:=S_ rh hb hc
  have:=(An (hx _ rfl)).1
  injection this with e2 _;subst e2
  have hi0:i.toNat=0:=by omega
  refine ⟨.slice none 0 0,?_,Eff.pure_ g (Am ⟨rfl,rfl,trivial⟩)⟩
  have hs:(Instr.sliceAt t (.slice none 0 0) none (some (.int k i)) none).run P w=(Instr.slice t (.slice none 0 0) none (some (.int k i)) none).run P w:=by
   simp [Instr.sliceAt,run_underlying hu]
  have hr:=Nm (P:=P) (w:=w) true 0 0 0 i.toNat 0 none (some (.int k i)) none (.inl ⟨rfl,rfl⟩) (.inr ⟨k,i,rfl,h1,by omega,rfl⟩) (.inl ⟨rfl,rfl⟩)
  rw [hi0] at hr
  rw [hs]
  simp [Instr.slice,run_underlying hu,hr,sizeOf,typeInfo,hinf]
 ·cases h
def XJ (P:Program) (t:TypeId) (x:Option AV) (path:List Bool):Option R :=
 match x,P.underlying t with
 | some (.val false [.sl bk off len _]),some (.array n _)=>some ⟨.val false [.p bk off],[],0,[(Nat.ble n len&&!Nat.beq len 0,true)],path⟩
 | some (.val false [.sx bk len _]),some (.array n _)=>some ⟨.val false [.p bk 0],[],0,[(Nat.ble n len&&!Nat.beq len 0,true)],path⟩
 | _,_=>none
theorem ABD {t:TypeId} {x:Option AV} {u:Value} {path:List Bool} {r:R} (g:Good β H w) (hx:∀ A,x=some A→AG β A u) (h:XJ P t x path=some r) (hc:AP r.conds) (fr:Nat) :
  ∃ z,(Instr.arrayAt t u).run P w=.ok z w∧Eff β fr r w z w β:=by
 unfold XJ at h
 split at h
 ·rename_i bk off len cap n e hu
  injection h with h;subst h
  have hc1:=hc.1
  simp only [Bool.and_eq_true,Bool.not_eq_true'] at hc1
  have hle:=Nat.le_of_ble_eq_true hc1.1
  have hz:=FW hc1.2
  rcases An (hx _ rfl) with ⟨B,nn,e1,e2⟩ | ⟨_,_,e2,_⟩
  ·injection e2 with e2 _;subst e2
   refine ⟨_,?_,Eff.pure_ g (Am ⟨B,nn,e1,rfl⟩)⟩
   simp [Instr.arrayAt,run_underlying hu,show ¬ len<n by omega]
  ·exact absurd e2 hz
 ·rename_i bk len sz n e hu
  injection h with h;subst h
  have h1:=hc.1
  simp only [Bool.and_eq_true,Bool.not_eq_true'] at h1
  have hle:=Nat.le_of_ble_eq_true h1.1
  have hz:=FW h1.2
  rcases An (hx _ rfl) with ⟨B,nn,cap,e1,e2,_⟩ | ⟨_,e2,_⟩
  ·injection e2 with e2 _;subst e2
   refine ⟨_,?_,Eff.pure_ g (Am ⟨B,(nn,0),e1,rfl⟩)⟩
   simp [Instr.arrayAt,run_underlying hu,show ¬ len<n by omega]
  ·exact absurd e2 hz
 ·cases h
theorem ABE (v:List Value):∀ (cells:List Value) (off:Nat) (j:Nat),off+j+v.length≤cells.length →
  (v.zipIdx j).foldl (fun (cs:Array Value) (x:Value×Nat)=>cs.setIfInBounds (off+x.2) x.1) ⟨cells⟩=⟨cells.take (off+j)++v++cells.drop (off+j+v.length)⟩:=by
 induction v with
 | nil=>intro cells off j _;simp
 | cons x v ih =>
  intro cells off j h
  simp only [List.zipIdx_cons,List.foldl_cons]
  have hlt:off+j<cells.length:=by simp at h;omega
  have e:(⟨cells⟩:Array Value).setIfInBounds (off+j) x=⟨cells.set (off+j) x⟩:=by
   apply Array.ext';simp
  rw [e,ih _ off (j+1) (by simp at h ⊢;omega)]
  congr 1
  have:=list_seg_step cells (off+j) x v (by simp at h;omega)
  simpa [Nat.add_assoc] using this
def L2 (τ:Nat→AV) (place:Nat→Option (Nat×Nat)) (zs:List Ch):List (Nat×Operand)→Option (List Ch)
 | []=>some zs
 | (i,x)::rest=>match place i,BG τ x with
  | some (off,size),some (.val _ cs)=>match Nat.beq (Ho cs) size,PV zs off size cs with
   | true,some zs'=>L2 τ place zs' rest
   | _,_=>none
  | _,_=>none
theorem S' {τ:Nat→AV} {a:Act} (ht:∀ t,AG β (τ t) (a.tmps.getD t undef)) {place:Nat→Option (Nat×Nat)}:∀ {parts:List (Nat×Operand)} {zs cs:List Ch} {l:List Value},L2 τ place zs parts=some cs→AH β zs l →
  ∃ l',Instr.fill place ⟨l⟩ (parts.map fun (i,x)=>(i,a.eval x))=some ⟨l'⟩∧AH β cs l'
 | [],zs,cs,l,h,hl=>by
  simp only [L2,Option.some.injEq] at h
  subst h
  exact ⟨l,rfl,hl⟩
 | (i,x)::rest,zs,cs,l,h,hl=>by
  simp only [L2] at h
  split at h
  ·rename_i off size gg c hp hx
   split at h
   ·rename_i zs' hz hs
    have hr:=Ni (Hs ht hx)
    obtain ⟨r1,r2⟩:=W1 hs hl hr
    obtain ⟨l',h1,h2⟩:=S' ht h r1
    refine ⟨l',?_,h2⟩
    have hlen:(a.eval x).cells.size=size:=by
     have:=NZ hr
     rw [Ad.1 hz] at this
     simpa using this
    simp only [List.map_cons,Instr.fill,hp,hlen]
    rw [if_neg (by simp;omega)]
    have e:Array.foldl (fun (cs:Array Value) (x:Value×Nat)=>cs.setIfInBounds (off+x.2) x.1) ⟨l⟩ (a.eval x).cells.zipIdx=⟨l.take off++(a.eval x).cells.toList++l.drop (off+size)⟩:=by
     rw [← Array.foldl_toList,Array.toList_zipIdx,ABE _ l off 0 (by rw [Array.length_toList,hlen];omega)]
     simp [hlen]
    rw [← h1]
    congr 1
   ·cases h
  ·cases h
def XK (P:Program) (τ:Nat→AV) (t:TypeId) (parts:List (Nat×Operand)) (path:List Bool):Option R :=
 match P.underlying t,P.info? t with
 | some (.struct fs),some i=>match i.zero with
  | some z=>match Lp z with
   | some (.val _ zs)=>match L2 τ (fun j=>match fs[j]? with | some f=>some (f.offset,P.cellsOf f.type) | none=>none) zs parts,fs.all fun f=>(P.info? f.type).isSome with
    | some cs,true=>some (BS (.val true cs) path)
    | _,_=>none
   | _=>none
  | none=>none
 | some (.array _ e),some i=>match i.zero,P.info? e with
  | some z,some inf=>match Lp z with
   | some (.val _ zs)=>match L2 τ (fun j=>some (j*inf.size,inf.size)) zs parts with
    | some cs=>some (BS (.val true cs) path)
    | none=>none
   | _=>none
  | _,_=>none
 | _,_=>none
theorem ABF (fs:Array Field) (h:(fs.all fun f=>(P.info? f.type).isSome)=true) (w:World) :
  (fs.mapM (m:=Sem) fun f=>do pure (f.offset,← sizeOf f.type)).run P w=.ok (fs.map fun f=>(f.offset,P.cellsOf f.type)) w:=by
 have hall0:=Array.all_eq_true_iff_forall_mem.1 h
 obtain ⟨l⟩:=fs
 rw [Array.mapM_eq_mapM_toList]
 have hall:∀ f∈l,(P.info? f.type).isSome=true:=fun f hf=>hall0 f (by simpa using hf)
 have key:∀ l:List Field,(∀ f∈l,(P.info? f.type).isSome=true)→(l.mapM (m:=Sem) fun f=>do pure (f.offset,← sizeOf f.type)).run P w=.ok (l.map fun f=>(f.offset,P.cellsOf f.type)) w:=by
  intro l
  induction l with
  | nil=>intro _;simp
  | cons f l ih =>
   intro hl
   obtain ⟨i,hi⟩:=Option.isSome_iff_exists.1 (hl f (by simp))
   simp only [List.mapM_cons,Sem.run_bind,run_sizeOf w hi,Result.andThen_ok,Sem.run_pure,ih (fun g hg=>hl g (by simp [hg])),List.map_cons]
 simp only [Sem.run_map,key l hall]
 simp
theorem ABG {τ:Nat→AV} {a:Act} (ht:∀ t,AG β (τ t) (a.tmps.getD t undef)) {t:TypeId} {parts:Array (Nat×Operand)} {path:List Bool} {r:R} (g:Good β H w)
  (h:XK P τ t parts.toList path=some r) (fr:Nat):∃ z,(Instr.build t (parts.map fun (i,x)=>(i,a.eval x))).run P w=.ok z w∧Eff β fr r w z w β:=by
 unfold XK at h
 split at h
 ·rename_i fs i hu hi
  split at h
  ·rename_i z hz
   split at h
   ·rename_i gg zs hc
    split at h
    ·rename_i cs hf hall
     injection h with h;subst h
     have hr:=Ni (SK (β:=β) hc)
     obtain ⟨l',h1,h2⟩:=S' ht hf hr
     refine ⟨.agg ⟨l'⟩,?_,Eff.pure_ g ⟨l',h2,rfl⟩⟩
     have hp:=ABF (P:=P) fs hall w
     simp only [Instr.build,Sem.run_bind,zeroValue,typeInfo,run_program,Result.andThen_ok,hi,Sem.run_pure,hz,run_underlying hu,hp]
     have e:(fun (j:Nat)=>(fs.map fun (f:Field)=>(f.offset,P.cellsOf f.type))[j]?)=(fun j=>match fs[j]? with | some f=>some (f.offset,P.cellsOf f.type) | none=>none):=by
      funext j
      simp only [Array.getElem?_map]
      cases fs[j]?<;>rfl
     simp only [Array.toList_map,e,h1]
     rfl
    ·cases h
   ·cases h
  ·cases h
 ·rename_i n e i hu hi
  split at h
  ·rename_i z inf hz hinf
   split at h
   ·rename_i gg zs hc
    split at h
    ·rename_i cs hf
     injection h with h;subst h
     have hr:=Ni (SK (β:=β) hc)
     obtain ⟨l',h1,h2⟩:=S' ht hf hr
     refine ⟨.agg ⟨l'⟩,?_,Eff.pure_ g ⟨l',h2,rfl⟩⟩
     simp only [Instr.build,Sem.run_bind,zeroValue,typeInfo,run_program,Result.andThen_ok,hi,Sem.run_pure,hz,run_underlying hu,sizeOf,hinf]
     simp only [Array.toList_map,h1]
     rfl
    ·cases h
   ·cases h
  ·cases h
 ·cases h
def J' (z:Value) (n:Nat):List Value:=match n with
 | 0=>[]
 | n+1=>(List.range (n+1)).map (z.cells[· % z.cells.size]!)
theorem ABH (z:Value) (n:Nat):((Array.range n).map fun j=>(if n=0 then #[] else z.cells)[j % (if n=0 then #[] else z.cells).size]!)=⟨J' z n⟩:=by
 cases n with
 | zero=>simp [J']
 | succ n=>apply Array.ext';simp [J']
def XL (P:Program) (τ:Nat→AV) (t:TypeId) (len:Nat) (parts:List (Nat×Operand)) (fr:Nat) (path:List Bool):Option R :=
 match P.underlying t with
 | some (.slice e)=>match P.info? e with
  | some inf=>match Nat.ble (len*inf.size) 16777216,inf.zero with
   | true,some z=>match It (J' z (len*inf.size)) with
    | some zs=>match L2 τ (fun j=>some (j*inf.size,inf.size)) zs parts with
     | some cs=>some ⟨.val false [.sl fr 0 len len],[(fr,some ⟨e,cs,false⟩)],1,[],path⟩
     | none=>none
    | none=>none
   | _,_=>none
  | none=>none
 | _=>none
theorem ABI {τ:Nat→AV} {a:Act} (ht:∀ t,AG β (τ t) (a.tmps.getD t undef)) {t:TypeId} {len fr:Nat} {parts:Array (Nat×Operand)} {path:List Bool} {r:R} (g:Good β H w)
  (h:XL P τ t len parts.toList fr path=some r) (hf:∀ b,fr≤b→b<fr+r.nw→β b=none) :
  ∃ z w' β',(Instr.buildSlice t len (parts.map fun (i,x)=>(i,a.eval x))).run P w=.ok z w'∧Eff β fr r w z w' β':=by
 unfold XL at h
 split at h
 ·rename_i e hu
  split at h
  ·rename_i inf hinf
   split at h
   ·rename_i z hb hz
    split at h
    ·rename_i zs hzs
     split at h
     ·rename_i cs hfl
      injection h with h;subst h
      have hr:=Nh (β:=β) hzs
      obtain ⟨l',h1,h2⟩:=S' ht hfl hr
      refine ⟨_,_,_,?_,Eff.new_ g (hf fr (Nat.le_refl _) (by simp)) h2 rfl (Am (.inl ⟨w.heap.size,(l'.length,0),Env.put_same ..,rfl⟩))⟩
      have hle:=Nat.le_of_ble_eq_true hb
      have hz0:=ABH z (len*inf.size)
      simp only [Instr.buildSlice,Sem.run_bind,run_underlying hu,Result.andThen_ok,sizeOf,typeInfo,run_program,hinf,Sem.run_pure]
      rw [if_neg (show ¬ (len*inf.size > 2^24) by omega)]
      by_cases hn:len*inf.size=0
      ·rw [if_pos hn]
       simp only [if_pos hn] at hz0
       simp only [Sem.run_bind,Sem.run_pure,Result.andThen_ok]
       rw [hz0]
       simp only [Array.toList_map,h1]
       simp [newRow]
      ·rw [if_neg hn]
       simp only [if_neg hn] at hz0
       simp only [Sem.run_bind,Sem.run_pure,Result.andThen_ok,zeroValue,typeInfo,run_program,hinf,hz]
       rw [hz0]
       simp only [Array.toList_map,h1]
       simp [newRow]
     ·cases h
    ·cases h
   ·cases h
  ·cases h
 ·cases h
end
section
variable {P:Program} {β:Env} {H:Heap} {w:World}
def XM (P:Program) (src dst:TypeId) (x:Option AV) (path:List Bool):Option R :=
 match P.underlying src,P.underlying dst,A' x with
 | some _,some (.int k),some (c,_,i)=>some (BS (J9 c k (AS c k i)) path)
 | _,_,_=>none
theorem ABJ {src dst:TypeId} {x:Option AV} {u:Value} {path:List Bool} {r:R} (g:Good β H w) (hx:∀ A,x=some A→AG β A u) (h:XM P src dst x path=some r) (fr:Nat) :
  ∃ v,(convert src dst u).run P w=.ok v w∧Eff β fr r w v w β:=by
 unfold XM at h
 split at h
 ·rename_i d k c k' i hs hd ha
  injection h with h;subst h
  obtain ⟨rfl,_⟩:=Bt hx ha
  rw [C_]
  refine ⟨.int k (k.wrap i),?_,Eff.pure_ g (J_ c (G8 _ _))⟩
  simp [convert,run_underlying hs,run_underlying hd,Conv.intToInt]
 ·cases h
def XN (op:UnOp) (x:Option AV) (path:List Bool):Option R :=
 match op with
 | .not=>match D_ x with
  | some (true,y)=>some (BS (.val false [.b (match y with | true=>false | false=>true)]) path)
  | some (false,y)=>some (BS (.val false [.v (.bool (!y))]) path)
  | none=>none
 | .neg=>match A' x with
  | some (c,k,i)=>some (BS (J9 c k (AS c k (0-i))) path)
  | none=>none
 | .xor=>match A' x with
  | some (c,k,i)=>some (BS (J9 c k (bits .xor k (match k.signed with | true=>-1 | false=>k.max) i)) path)
  | none=>none
 | _=>none
theorem ABK {op:UnOp} {x:Option AV} {u:Value} {path:List Bool} {r:R} (g:Good β H w) (hx:∀ A,x=some A→AG β A u) (h:XN op x path=some r) (fr:Nat) :
  ∃ v,(Op.unary op u).run P w=.ok v w∧Eff β fr r w v w β:=by
 unfold XN at h
 split at h
 ·split at h
  ·rename_i y ha
   injection h with h;subst h
   have:=G9 hx ha
   subst this
   refine ⟨.bool !y,rfl,Eff.pure_ g ?_⟩
   cases y<;>exact Am rfl
  ·rename_i y ha
   injection h with h;subst h
   have:=G9 hx ha
   subst this
   exact ⟨.bool !y,rfl,Eff.pure_ g (Am ⟨rfl,rfl,trivial⟩)⟩
  ·cases h
 ·split at h
  ·rename_i c k i ha
   injection h with h;subst h
   obtain ⟨rfl,_⟩:=Bt hx ha
   rw [C_]
   exact ⟨.int k (k.wrap (0-i)),rfl,Eff.pure_ g (J_ c (G8 _ _))⟩
  ·cases h
 ·split at h
  ·rename_i c k i ha
   injection h with h;subst h
   obtain ⟨rfl,_⟩:=Bt hx ha
   refine ⟨.int k (bits .xor k (match k.signed with | true=>-1 | false=>k.max) i),?_,Eff.pure_ g (J_ c (G8 _ _))⟩
   have e:(match k.signed with | true=>(-1:Int) | false=>k.max)=(if k.signed then -1 else k.max):=by cases k.signed<;>rfl
   rw [e]
   show (Op.intBits BinOp.xor k (if k.signed then -1 else k.max) i).run P w=_
   rw [intBits_xor];rfl
  ·cases h
 ·cases h
theorem ABL (kd:IntKind) (n:Nat):(madeCells #[.int kd 0] n).toList=(List.replicate n (0:Int)).map (Value.int kd):=by
 unfold madeCells
 rw [List.map_replicate]
 apply List.ext_getElem
 ·simp
 ·intro i h1 h2
  simp [Nat.mod_one]
theorem ABM (z:Value) (n:Nat):(madeCells z.cells n).toList=J' z n:=by
 unfold madeCells J'
 cases n<;>simp
def XO (P:Program) (t:TypeId) (x y:Option AV) (fr:Nat) (path:List Bool):Option R :=
 match P.underlying t,A' x,A' y with
 | some (.slice e),some (_,_,l),some (c,_,m)=>match P.info? e with
  | some inf=>match inf.zero with
   | some (.int kd z)=>match decide (z=0),Nat.beq inf.size 1 with
    | true,true=>some ⟨.val false [.sl fr 0 l.toNat m.toNat],[(fr,some ⟨e,[.seq kd (List.replicate m.toNat 0)],false⟩)],1,[(decide (0≤l∧l≤m∧inf.bytes*m≤281474976710656∧m≤9223372036854775807),true)],path⟩
    | _,_=>none
   | some z=>match c with
    | true=>match It (J' z (m.toNat*inf.size)) with
     | some zs=>some ⟨.val false [.sl fr 0 l.toNat m.toNat],[(fr,some ⟨e,zs,false⟩)],1,[(decide (0≤l∧l≤m∧inf.bytes*m≤281474976710656∧m≤9223372036854775807),true)],path⟩
     | none=>none
    | false=>none
   | none=>none
  | none=>none
 | _,_,_=>none
theorem ABN {t fr:Nat} {x y:Option AV} {u v:Value} {path:List Bool} {r:R} (g:Good β H w) (hx:∀ A,x=some A→AG β A u) (hy:∀ A,y=some A→AG β A v)
  (h:XO P t x y fr path=some r) (hc:AP r.conds) (hf:∀ b,fr≤b→b<fr+r.nw→β b=none) :
  ∃ z w' β',(Instr.makeSlice t u v).run P w=.ok z w'∧Eff β fr r w z w' β':=by
 unfold XO at h
 split at h
 ·rename_i e c1 k1 l c k2 m hu ha hb
  obtain ⟨rfl,_⟩:=Bt hx ha
  obtain ⟨rfl,_⟩:=Bt hy hb
  split at h
  ·rename_i inf hi
   split at h
   ·rename_i kd z hz
    split at h
    ·rename_i hz0 hs1
     injection h with h;subst h
     have hcc:=hc.1
     simp only [decide_eq_true_eq] at hcc
     have hz0':z=0:=by simpa using hz0
     subst hz0'
     have hs:=Ad.1 hs1
     have hrun:=run_make (P:=P) w t e inf _ hu hi hz k1 k2 l m hcc.1 hcc.2.1 hcc.2.2.1 hcc.2.2.2
     have hcells:(madeCells (Value.int kd 0).cells (m.toNat*inf.size))=⟨(List.replicate m.toNat (0:Int)).map (Value.int kd)⟩:=by
      apply Array.ext'
      rw [hs,Nat.mul_one]
      exact ABL kd m.toNat
     rw [hcells] at hrun
     refine ⟨_,_,_,hrun,Eff.new_ g (hf fr (Nat.le_refl _) (by simp)) (cs:=[.seq kd (List.replicate m.toNat 0)]) ?_ rfl (Am (.inl ⟨w.heap.size,(_,0),Env.put_same ..,rfl⟩))⟩
     refine ⟨_,[],⟨rfl,fun x hx=>?_⟩,rfl,by simp⟩
     rw [List.eq_of_mem_replicate hx,Dq]
     cases kd<;>decide
    ·cases h
   ·rename_i z _ _
    have hz:inf.zero=some z:=by assumption
    split at h
    ·split at h
     ·rename_i zs hzs
      injection h with h;subst h
      have hcc:=hc.1
      simp only [decide_eq_true_eq] at hcc
      have hrun:=run_make (P:=P) w t e inf _ hu hi hz k1 k2 l m hcc.1 hcc.2.1 hcc.2.2.1 hcc.2.2.2
      have hcells:madeCells z.cells (m.toNat*inf.size)=⟨J' z (m.toNat*inf.size)⟩:=by
       apply Array.ext';exact ABM z _
      rw [hcells] at hrun
      exact ⟨_,_,_,hrun,Eff.new_ g (hf fr (Nat.le_refl _) (by simp)) (Nh hzs) rfl (Am (.inl ⟨w.heap.size,(_,0),Env.put_same ..,rfl⟩))⟩
     ·cases h
    ·cases h
   ·cases h
  ·cases h
 ·cases h
def XP (P:Program) (t:TypeId) (x:Option AV) (path:List Bool):Option R :=
 match P.underlying t,x with
 | some (.array n _),_=>match AI .i64 n with
  | true=>some (BS (.val false [.n .i64 n]) path)
  | false=>none
 | some (.slice _),some (.val false [.sl _ _ len _])=>some ⟨.val false [.v (.int .i64 len)],[],0,[(AI .i64 len,true)],path⟩
 | some (.slice _),some (.val false [.sx _ len _])=>some ⟨.val false [.v (.int .i64 len)],[],0,[(AI .i64 len,true)],path⟩
 | some (.slice _),some (.val false [.v (.slice _ len _)])=>some ⟨.val false [.v (.int .i64 len)],[],0,[(AI .i64 len,true)],path⟩
 | _,_=>none
theorem ABO {t ty:TypeId} {x:Option AV} {u:Value} {path:List Bool} {r:R} (g:Good β H w) (hx:∀ A,x=some A→AG β A u) (h:XP P t x path=some r) (hc:AP r.conds) (fr:Nat) :
  ∃ v,(Builtin.len_ #[t] ty #[u]).run P w=.ok v w∧Eff β fr r w v w β:=by
 unfold XP at h
 split at h
 ·rename_i _ n e hu
  split at h
  ·rename_i hh
   injection h with h;subst h
   refine ⟨.int .i64 n,?_,Eff.pure_ g (Am ⟨rfl,(Dq _ _).2 hh⟩)⟩
   simp [Builtin.len_,run_underlying hu,goInt]
  ·cases h
 ·rename_i e bk off len cap hu
  injection h with h;subst h
  refine ⟨.int .i64 len,?_,Eff.pure_ g (Am ⟨rfl,rfl,(Dq _ _).2 hc.1⟩)⟩
  rcases An (hx _ rfl) with ⟨B,n,e1,e2⟩ | ⟨_,_,rfl,_,e2⟩
  ·injection e2 with e2 _;subst e2
   simp [Builtin.len_,run_underlying hu,goInt]
  ·injection e2 with e2 _;subst e2
   simp [Builtin.len_,run_underlying hu,goInt]
 ·rename_i e bk len sz hu
  injection h with h;subst h
  refine ⟨.int .i64 len,?_,Eff.pure_ g (Am ⟨rfl,rfl,(Dq _ _).2 hc.1⟩)⟩
  rcases An (hx _ rfl) with ⟨B,n,cap,e1,e2,_⟩ | ⟨_,rfl,e2⟩
  ·injection e2 with e2 _;subst e2
   simp [Builtin.len_,run_underlying hu,goInt]
  ·injection e2 with e2 _;subst e2
   simp [Builtin.len_,run_underlying hu,goInt]
 ·rename_i e A len cap hu
  injection h with h;subst h
  have:=(An (hx _ rfl)).1
  injection this with e2 _;subst e2
  refine ⟨.int .i64 len,?_,Eff.pure_ g (Am ⟨rfl,rfl,(Dq _ _).2 hc.1⟩)⟩
  simp [Builtin.len_,run_underlying hu,goInt]
 ·cases h
def TA (big:Bool) (x y:Option AV) (path:List Bool):Option R :=
 match A' x,A' y with
 | some (c,k,i),some (c',k',j)=>match decide (k=k') with
  | true=>match big with
   | true=>some (BS (J9 (c&&c') k (if j > i then j else i)) path)
   | false=>some (BS (J9 (c&&c') k (if j<i then j else i)) path)
  | false=>none
 | _,_=>none
theorem iI {ts:Array TypeId} {ty:TypeId} {big:Bool} {x y:Option AV} {u v:Value} {path:List Bool} {r:R} (g:Good β H w) (hx:∀ A,x=some A→AG β A u) (hy:∀ A,y=some A→AG β A v)
  (h:TA big x y path=some r) (fr:Nat) :
  ∃ z,(match big with | true=>Builtin.max_ ts ty #[u,v] | false=>Builtin.min_ ts ty #[u,v]).run P w=.ok z w∧Eff β fr r w z w β:=by
 unfold TA at h
 split at h
 ·rename_i c k i c' k' j ha hb
  obtain ⟨rfl,h1⟩:=Bt hx ha
  obtain ⟨rfl,h2⟩:=Bt hy hb
  split at h
  ·rename_i hk
   have hk':k=k':=by simpa using hk
   subst hk'
   split at h
   ·injection h with h;subst h
    exact ⟨_,run_max_int2 w ts ty k k i j,Eff.pure_ g (J_ _ (by split<;>assumption))⟩
   ·injection h with h;subst h
    exact ⟨_,run_min_int2 w ts ty k k i j,Eff.pure_ g (J_ _ (by split<;>assumption))⟩
  ·cases h
 ·cases h
def KA (H:Heap) (size:Nat) (x:Option AV) (n:Nat):Option (List Ch×List (Bool×Bool)) :=
 match x with
 | some (.val false [.v (.slice none _ _)])=>some ([],[(Nat.beq n 0,true)])
 | some (.val false [.sl bk off _ _])=>match Hr H bk with
  | some blk=>match blk.cs with
   | [.seq kd xs]=>match Nat.beq size 1 with
    | true=>some ([.seq kd ((xs.drop off).take n)],[(Nat.ble (off+n) xs.length,true)])
    | false=>none
   | cs=>match Hq cs off (n*size) with
    | some m=>some (m,[])
    | none=>none
  | none=>none
 | some (.val false [.sx bk _ _])=>match Hr H bk with
  | some blk=>match blk.cs with
   | [.seq kd xs]=>match Nat.beq size 1 with
    | true=>some ([.seq kd (xs.take n)],[(Nat.ble n xs.length,true)])
    | false=>none
   | cs=>match Hq cs 0 (n*size) with
    | some m=>some (m,[])
    | none=>none
  | none=>none
 | some (.val false [.v (.string s)])=>match Nat.beq size 1 with
  | true=>some ([.seq .u8 ((s.data.toList.take n).map fun b=>(b.toNat:Int))],[(Nat.ble n s.size,true)])
  | false=>none
 | _=>none
theorem XQ {xs:List Int} {kd:IntKind} {l:List Value} (h:AH β [.seq kd xs] l):l=xs.map (.int kd)∧∀ x∈xs,has kd x:=by
 obtain ⟨l1,l2,h1,h2,h3⟩:=h
 simp only [AH] at h2;subst h2
 rw [h3,List.append_nil];exact h1
theorem KB {xs:List Int} {kd:IntKind} (h:∀ x∈xs,has kd x):AH β [.seq kd xs] (xs.map (.int kd)):=⟨_,[],⟨rfl,h⟩,rfl,by simp⟩
theorem iJ {B off k:Nat} {l t' pre:List Value} {ty:TypeId} {fz:Nat×Nat} (ho:w.heap[B]? = some (.cells ⟨pre++(l++t')⟩ ty fz)) (hfit:off+k≤l.length) :
  (loadCells ⟨B,pre.length+off,none⟩ k).run P w=.ok ⟨(l.drop off).take k⟩ w:=by
 have hlen:((l.drop off).take k).length=k:=by simp;omega
 have:=run_loadCells_list (P:=P) w ⟨B,pre.length+off,none⟩ ((l.drop off).take k) (fun j v hj=>by
  rw [Addr.add_lit,Nat.add_assoc]
  have hjl:j<((l.drop off).take k).length:=by
   rcases Nat.lt_or_ge j ((l.drop off).take k).length with h' | h'
   ·exact h'
   ·rw [List.getElem?_eq_none h'] at hj;cases hj
  rw [List.getElem?_take,if_pos (by omega),List.getElem?_drop] at hj
  rw [PZ ho (by omega),← hj,List.getElem?_eq_getElem])
 rw [hlen] at this
 exact this
theorem iK {l t' pre:List Value} {off k:Nat} (hfit:off+k≤l.length):pre.length+off+k≤(pre++(l++t')).length∧(l.drop off).take k=((pre++(l++t')).drop (pre.length+off)).take k:=by
 refine ⟨by simp;omega,?_⟩
 rw [← List.drop_drop,List.drop_left,List.drop_append_of_le_length (by omega),List.take_append_of_le_length (by simp;omega)]
theorem Pf {size n:Nat} {x:Option AV} {u:Value} {cs:List Ch} {c:List (Bool×Bool)} (g:Good β H w) (hx:∀ A,x=some A→AG β A u) (h:KA H size x n=some (cs,c)) (hc:AP c) :
  ∃ l,(∀ w',w'.heap=w.heap→(Builtin.firstCells size n u).run P w'=.ok ⟨l⟩ w')∧AH β cs l∧l.length=n*size ∧
   (∀ B off len cap cur e fz,u=.slice (some ⟨B,off,none⟩) len cap→w.heap[B]? = some (.cells ⟨cur⟩ e fz)→off+n*size≤cur.length∧l=(cur.drop off).take (n*size)):=by
 have rng:∀ {bk off:Nat} {blk:Blk} {B:Nat} {nn:Nat×Nat} {len cap:Nat} {m:List Ch},Hr H bk=some blk→β bk=some (.at_ B nn)→Hq blk.cs off (n*size)=some m →
   ∃ l,(∀ w',w'.heap=w.heap→(Builtin.firstCells size n (.slice (some ⟨B,nn.2+off,none⟩) len cap)).run P w'=.ok ⟨l⟩ w')∧AH β m l∧l.length=n*size ∧
    (∀ B' off' len' cap' cur e fz,Value.slice (some ⟨B,nn.2+off,none⟩) len cap=.slice (some ⟨B',off',none⟩) len' cap'→w.heap[B']? = some (.cells ⟨cur⟩ e fz)→off'+n*size≤cur.length∧l=(cur.drop off').take (n*size)):=by
  intro bk off blk B nn len cap m hb e1 hm
  rcases g.cells hb with ⟨B',n',l,t',pre,ty',fz',e4,e2,e3,e0,_⟩ | ⟨e4,_⟩
  ·rw [e1] at e4;injection e4 with e4;injection e4 with e4 e5;subst e4;subst e5
   obtain ⟨h1,h2⟩:=Ng hm e2
   rw [← e0]
   refine ⟨_,fun w' hw=>by simpa [Builtin.firstCells] using iJ (P:=P) (w:=w') (by rw [hw];exact e3) h2,h1,by simp;omega,?_⟩
   intro B' off' len' cap' cur e fz hu hh
   injection hu with hu _;injection hu with hu;injection hu with hu1 hu2;subst hu1;subst hu2
   rw [e3] at hh;injection hh with hh;injection hh with hh;injection hh with hh;subst hh
   exact iK h2
  ·rw [e1] at e4;cases e4
 have sq:∀ {bk off:Nat} {blk:Blk} {B:Nat} {nn:Nat×Nat} {len cap:Nat} {kd:IntKind} {xs:List Int},Hr H bk=some blk→β bk=some (.at_ B nn)→blk.cs=[.seq kd xs]→size=1→off+n≤xs.length →
   ∃ l,(∀ w',w'.heap=w.heap→(Builtin.firstCells size n (.slice (some ⟨B,nn.2+off,none⟩) len cap)).run P w'=.ok ⟨l⟩ w')∧AH β [.seq kd ((xs.drop off).take n)] l∧l.length=n*size ∧
    (∀ B' off' len' cap' cur e fz,Value.slice (some ⟨B,nn.2+off,none⟩) len cap=.slice (some ⟨B',off',none⟩) len' cap'→w.heap[B']? = some (.cells ⟨cur⟩ e fz)→off'+n*size≤cur.length∧l=(cur.drop off').take (n*size)):=by
  intro bk off blk B nn len cap kd xs hb e1 hcs hsz hle
  rcases g.cells hb with ⟨B',n',l,t',pre,ty',fz',e4,e2,e3,e0,_⟩ | ⟨e4,_⟩
  ·rw [e1] at e4;injection e4 with e4;injection e4 with e4 e5;subst e4;subst e5
   rw [hcs] at e2
   obtain ⟨rfl,hall⟩:=XQ e2
   rw [← e0]
   have hfit:off+n*size≤(xs.map (Value.int kd)).length:=by simp [hsz];omega
   have e9:((xs.map (Value.int kd)).drop off).take (n*size)=((xs.drop off).take n).map (.int kd):=by rw [hsz,Nat.mul_one,List.map_take,List.map_drop]
   refine ⟨(((xs.drop off).take n).map (.int kd)),fun w' hw=>?_,KB (fun x hx=>hall x (List.mem_of_mem_drop (List.mem_of_mem_take hx))),by simp [hsz];omega,?_⟩
   ·have:=iJ (P:=P) (w:=w') (by rw [hw];exact e3) hfit
    rw [e9] at this
    simpa [Builtin.firstCells] using this
   ·intro B' off' len' cap' cur e fz hu hh
    injection hu with hu _;injection hu with hu;injection hu with hu1 hu2;subst hu1;subst hu2
    rw [e3] at hh;injection hh with hh;injection hh with hh;injection hh with hh;subst hh
    rw [← e9]
    exact iK hfit
  ·rw [e1] at e4;cases e4
 have nilc:∀ {blk:Blk} {bk off:Nat},Hr H bk=some blk→β bk=some .nil→(∀ kd xs,blk.cs=[.seq kd xs]→off+n≤xs.length→∃ l,(∀ w',w'.heap=w.heap→(Builtin.firstCells size n (.slice none 0 0)).run P w'=.ok ⟨l⟩ w')∧AH β [.seq kd ((xs.drop off).take n)] l∧l.length=n*size∧l=[]) ∧
   (∀ m,Hq blk.cs off (n*size)=some m→∃ l,(∀ w',w'.heap=w.heap→(Builtin.firstCells size n (.slice none 0 0)).run P w'=.ok ⟨l⟩ w')∧AH β m l∧l.length=n*size∧l=[]):=by
  intro blk bk off hb e1
  rcases g.cells hb with ⟨B',n',l,t',pre,ty',fz',e4,_⟩ | ⟨_,_,e5⟩
  ·rw [e1] at e4;cases e4
  ·refine ⟨fun kd xs hcs hle=>?_,fun m hm=>?_⟩
   ·rw [hcs] at e5
    obtain ⟨e6,_⟩:=XQ e5
    have hxs:xs=[]:=by simpa using e6.symm
    subst hxs
    have hn:n=0:=by simp at hle;omega
    subst hn
    exact ⟨[],fun _ _=>rfl,KB (by simp),by simp,rfl⟩
   ·obtain ⟨h1,h2⟩:=Ng hm e5
    have h3:n*size=0:=by simp at h2;omega
    exact ⟨[],fun _ _=>rfl,by simpa using h1,by simp [h3],rfl⟩
 unfold KA at h
 split at h
 ·injection h with h;injection h with h1 h2;subst h1;subst h2
  have:=(An (hx _ rfl)).1
  injection this with e _;subst e
  have hn:=Ad.1 hc.1
  subst hn
  exact ⟨[],fun _ _=>rfl,rfl,by simp,by simp⟩
 ·rename_i bk off len cap
  rcases An (hx _ rfl) with ⟨B,nn,e1,e2⟩ | ⟨e1,rfl,rfl,rfl,e2⟩
  ·injection e2 with e2 _;subst e2
   split at h
   ·rename_i blk hb
    split at h
    ·rename_i kd xs hcs
     split at h
     ·rename_i hsz
      injection h with h;injection h with h1 h2;subst h1;subst h2
      exact sq hb e1 hcs (Ad.1 hsz) (Nat.le_of_ble_eq_true hc.1)
     ·cases h
    ·split at h
     ·rename_i m hm
      injection h with h;injection h with h1 h2;subst h1;subst h2
      exact rng hb e1 hm
     ·cases h
   ·cases h
  ·injection e2 with e2 _;subst e2
   split at h
   ·rename_i blk hb
    split at h
    ·rename_i kd xs hcs
     split at h
     ·rename_i hsz
      injection h with h;injection h with h1 h2;subst h1;subst h2
      obtain ⟨l,q1,q2,q3,q4⟩:=(nilc (off:=0) hb e1).1 kd xs hcs (Nat.le_of_ble_eq_true hc.1)
      exact ⟨l,q1,q2,q3,by simp⟩
     ·cases h
    ·split at h
     ·rename_i m hm
      injection h with h;injection h with h1 h2;subst h1;subst h2
      obtain ⟨l,q1,q2,q3,q4⟩:=(nilc (off:=0) hb e1).2 _ hm
      exact ⟨l,q1,q2,q3,by simp⟩
     ·cases h
   ·cases h
 ·rename_i bk len sz
  split at h
  ·rename_i blk hb
   rcases An (hx _ rfl) with ⟨B,nn,cap,e1,e2,_⟩ | ⟨e1,e0,e2⟩
   ·injection e2 with e2 _;subst e2
    split at h
    ·rename_i kd xs hcs
     split at h
     ·rename_i hsz
      injection h with h;injection h with h1 h2;subst h1;subst h2
      have:=sq (off:=0) (len:=len) (cap:=cap) hb e1 hcs (Ad.1 hsz) (by simpa using Nat.le_of_ble_eq_true hc.1)
      simpa using this
     ·cases h
    ·split at h
     ·rename_i m hm
      injection h with h;injection h with h1 h2;subst h1;subst h2
      exact rng hb e1 hm
     ·cases h
   ·injection e2 with e2 _;subst e2
    split at h
    ·rename_i kd xs hcs
     split at h
     ·rename_i hsz
      injection h with h;injection h with h1 h2;subst h1;subst h2
      obtain ⟨l,q1,q2,q3,q4⟩:=(nilc (off:=0) hb e1).1 kd xs hcs (by simpa using Nat.le_of_ble_eq_true hc.1)
      exact ⟨l,q1,by simpa using q2,q3,by simp⟩
     ·cases h
    ·split at h
     ·rename_i m hm
      injection h with h;injection h with h1 h2;subst h1;subst h2
      obtain ⟨l,q1,q2,q3,q4⟩:=(nilc (off:=0) hb e1).2 _ hm
      exact ⟨l,q1,q2,q3,by simp⟩
     ·cases h
  ·cases h
 ·rename_i s
  split at h
  ·rename_i hsz
   injection h with h;injection h with h1 h2;subst h1;subst h2
   have:=(An (hx _ rfl)).1
   injection this with e _;subst e
   have hle:=Nat.le_of_ble_eq_true hc.1
   have hs1:=Ad.1 hsz
   refine ⟨((s.data.toList.take n).map fun b=>Value.int .u8 b.toNat),fun w' _=>?_,?_,?_,by simp⟩
   ·simp only [Builtin.firstCells,Sem.run_pure]
    congr 1
    apply Array.ext'
    rw [Array.toList_map]
    congr 1
    simp [ByteArray.extract,ByteArray.copySlice]
   ·have:=KB (β:=β) (kd:=.u8) (xs:=(s.data.toList.take n).map fun b=>(b.toNat:Int)) (by
     intro x hx
     obtain ⟨b,_,rfl⟩:=List.mem_map.1 hx
     rw [Dq]
     have:=b.toNat_lt
     simp [AI];omega)
    rw [List.map_map] at this
    exact this
   ·rw [hs1]
    have:s.data.toList.length=s.size:=Array.length_toList
    rw [List.length_map,List.length_take];omega
  ·cases h
 ·cases h
theorem Np {size n:Nat} {x:Option AV} {u:Value} {cs:List Ch} {c:List (Bool×Bool)} (g:Good β H w) (hx:∀ A,x=some A→AG β A u) (h:KA H size x n=some (cs,c)) (hc:AP c) :
  ∃ l,(Builtin.firstCells size n u).run P w=.ok ⟨l⟩ w∧AH β cs l∧l.length=n*size :=
 let ⟨l,h1,h2,h3,_⟩:=Pf (P:=P) g hx h hc
 ⟨l,h1 w rfl,h2,h3⟩
end
section
variable {P:Program} {β:Env} {H:Heap} {w:World}
def Ak (kd:IntKind):List Ch→Option (List Int)
 | []=>some []
 | .seq k l::r=>match decide (k=kd),r,Ak kd r with
  | true,[],_=>some l
  | true,_,some m=>some (l++m)
  | _,_,_=>none
 | .n k i::r=>match decide (k=kd),Ak kd r with | true,some m=>some (i::m) | _,_=>none
 | .v (.int k i)::r=>match decide (k=kd),Ak kd r with | true,some m=>some (i::m) | _,_=>none
 | .num k x::r=>match kd,Ak kd r with | .u64,some m=>some ((List.range k).map (AF x)++m) | _,_=>none
 | _=>none
theorem Bu {kd:IntKind}:∀ {cs:List Ch} {xs:List Int} {l:List Value},Ak kd cs=some xs→AH β cs l→l=xs.map (.int kd)∧∀ x∈xs,has kd x
 | [],xs,l,h,hl=>by
  simp only [Ak,Option.some.injEq] at h
  simp only [AH] at hl
  subst h;subst hl
  simp
 | c::cs,xs,l,h,hl=>by
  obtain ⟨l1,l2,h1,h2,h3⟩:=hl
  unfold Ak at h
  split at h
  ·cases ‹_::_=[]›
  ·rename_i k m r he
   injection he with e1 e2;subst e1;subst e2
   split at h
   ·have hk:decide (k=kd)=true:=by assumption
    injection h with h;subst h
    simp only [AH] at h2;subst h2
    have:k=kd:=by simpa using hk
    subst this
    rw [h3,List.append_nil];exact h1
   ·rename_i m' hk _ hm
    injection h with h;subst h
    have:k=kd:=by simpa using hk
    subst this
    obtain ⟨i1,i2⟩:=Bu hm h2
    simp only [A2] at h1
    refine ⟨by rw [h3,h1.1,i1,List.map_append],fun x hx=>?_⟩
    rcases List.mem_append.1 hx with hx | hx
    ·exact h1.2 x hx
    ·exact i2 x hx
   ·cases h
  ·rename_i k i r he
   injection he with e1 e2;subst e1;subst e2
   split at h
   ·rename_i m hk hm
    injection h with h;subst h
    have:k=kd:=by simpa using hk
    subst this
    obtain ⟨i1,i2⟩:=Bu hm h2
    simp only [A2] at h1
    refine ⟨by rw [h3,h1.1,i1];rfl,fun x hx=>?_⟩
    rcases List.mem_cons.1 hx with hx | hx
    ·rw [hx];exact h1.2
    ·exact i2 x hx
   ·cases h
  ·rename_i k i r he
   injection he with e1 e2;subst e1;subst e2
   split at h
   ·rename_i m hk hm
    injection h with h;subst h
    have:k=kd:=by simpa using hk
    subst this
    obtain ⟨i1,i2⟩:=Bu hm h2
    simp only [A2] at h1
    refine ⟨by rw [h3,h1.1,i1];rfl,fun x hx=>?_⟩
    rcases List.mem_cons.1 hx with hx | hx
    ·rw [hx];exact h1.2.2
    ·exact i2 x hx
   ·cases h
  ·rename_i k x r he
   injection he with e1 e2;subst e1;subst e2
   split at h
   ·rename_i m hm
    injection h with h;subst h
    obtain ⟨i1,i2⟩:=Bu hm h2
    simp only [A2] at h1
    refine ⟨?_,fun x hx=>?_⟩
    ·rw [h3,h1.2,i1,List.map_append,List.map_map];rfl
    ·rcases List.mem_append.1 hx with hx | hx
     ·obtain ⟨j,_,rfl⟩:=List.mem_map.1 hx
      exact SI _ _
     ·exact i2 x hx
   ·cases h
  ·cases h
def Pg (x:Option AV):Option Nat :=
 match x with
 | some (.val false [.sl _ _ len _])=>some len
 | some (.val false [.sx _ len _])=>some len
 | some (.val false [.v (.slice none len _)])=>some len
 | some (.val false [.v (.string s)])=>some s.size
 | _=>none
theorem TB {x:Option AV} {u:Value} {n:Nat} (hx:∀ A,x=some A→AG β A u) (h:Pg x=some n):(Builtin.lenOf u).run P w=.ok n w:=by
 unfold Pg at h
 split at h
 ·injection h with h;subst h
  rcases An (hx _ rfl) with ⟨B,m,e1,e2⟩ | ⟨_,_,rfl,_,e2⟩
  ·injection e2 with e2 _;subst e2;rfl
  ·injection e2 with e2 _;subst e2;rfl
 ·injection h with h;subst h
  rcases An (hx _ rfl) with ⟨B,m,cap,e1,e2,_⟩ | ⟨_,rfl,e2⟩
  ·injection e2 with e2 _;subst e2;rfl
  ·injection e2 with e2 _;subst e2;rfl
 ·injection h with h;subst h
  have:=(An (hx _ rfl)).1
  injection this with e2 _;subst e2;rfl
 ·injection h with h;subst h
  have:=(An (hx _ rfl)).1
  injection this with e2 _;subst e2;rfl
 ·cases h
def TC (bk:Nat) (blk:Blk) (off k:Nat) (new:List Ch):Option (Heap×List (Bool×Bool)) :=
 match blk.cs with
 | [.seq kd xs]=>match Ak kd new with
  | some ys=>some ([(bk,some ⟨blk.ty,[.seq kd (xs.take off++(ys++xs.drop (off+k)))],blk.opn⟩)],[(Nat.ble (off+k) xs.length,true)])
  | none=>none
 | cs=>match PV cs off k new with
  | some m=>some ([(bk,some ⟨blk.ty,m,blk.opn⟩)],[])
  | none=>none
theorem iL {bk off k:Nat} {blk:Blk} {new:List Ch} {u:Heap} {c:List (Bool×Bool)} {l ln:List Value} (h:TC bk blk off k new=some (u,c)) (hc:AP c) (hl:AH β blk.cs l) (hn:AH β new ln) :
  ∃ m,u=[(bk,some ⟨blk.ty,m,blk.opn⟩)]∧AH β m (l.take off++ln++l.drop (off+k))∧off+k≤l.length:=by
 unfold TC at h
 split at h
 ·rename_i kd xs hcs
  split at h
  ·rename_i ys hy
   injection h with h;injection h with h1 h2;subst h1;subst h2
   rw [hcs] at hl
   obtain ⟨rfl,hall⟩:=XQ hl
   obtain ⟨rfl,hall2⟩:=Bu hy hn
   have hle:=Nat.le_of_ble_eq_true hc.1
   refine ⟨_,rfl,?_,by simpa using hle⟩
   rw [← List.map_take,← List.map_drop,← List.map_append,← List.map_append,List.append_assoc]
   refine KB fun x hx=>?_
   rcases List.mem_append.1 hx with hx | hx
   ·exact hall x (List.mem_of_mem_take hx)
   ·rcases List.mem_append.1 hx with hx | hx
    ·exact hall2 x hx
    ·exact hall x (List.mem_of_mem_drop hx)
  ·cases h
 ·split at h
  ·rename_i m hm
   injection h with h;injection h with h1 h2;subst h1;subst h2
   obtain ⟨r1,r2⟩:=W1 hm hl hn
   exact ⟨m,rfl,r1,r2⟩
  ·cases h
theorem iM {B off k:Nat} {l t' ln:List Value} {ty:TypeId} (ho:w.heap[B]? = some (.cells ⟨l++t'⟩ ty (0,0))) (hs:ln.length=k) (hfit:off+k≤l.length) (h1:∀ v∈ln,v.oneCell'=true) :
  (storeCells ⟨B,off,none⟩ ln).run P w=.ok () (w.setRow B ⟨(l.take off++ln++l.drop (off+k))++t'⟩):=by
 have:=run_storeCells_at P B off ty ln 0 ⟨l++t'⟩ w ho (by simp;omega) h1
 simp only [Nat.add_zero] at this
 have e1:(l++t').take off=l.take off:=List.take_append_of_le_length (by omega)
 have e2:(l++t').drop (off+k)=l.drop (off+k)++t':=List.drop_append_of_le_length (by omega)
 simp only [e1,hs,e2] at this
 simpa using this
def TD (P:Program) (dT:TypeId) (d s:Option AV) (H:Heap) (path:List Bool):Option R :=
 match P.underlying dT,d with
 | some (.slice e),some (.val false [.sl bk off len _])=>match P.info? e,Pg s,AB H bk with
  | some inf,some m,some blk=>match KA H inf.size s (Nat.min m len) with
   | some (cs,c1)=>match TC bk blk off (Nat.min m len*inf.size) cs,Nat.ble BN blk.ty,blk.opn with
    | some (u,c2),false,false=>some ⟨.any,u,0,c1++c2,path⟩
    | _,_,_=>none
   | none=>none
  | _,_,_=>none
 | _,_=>none
theorem ABP {dT sT ty:TypeId} {d s:Option AV} {u v:Value} {path:List Bool} {r:R} (g:Good β H w) (hx:∀ A,d=some A→AG β A u) (hy:∀ A,s=some A→AG β A v)
  (h:TD P dT d s H path=some r) (hc:AP r.conds) (fr:Nat):∃ z w',(Builtin.copy_ #[dT,sT] ty #[u,v]).run P w=.ok z w'∧Eff β fr r w z w' β:=by
 unfold TD at h
 split at h
 ·rename_i e bk off len cap hu
  split at h
  ·rename_i inf m blk hi hm hb
   split at h
   ·rename_i cs c1 hs
    split at h
    ·rename_i uu c2 hp hro hop
     injection h with h;subst h
     obtain ⟨o1,o2⟩:=Bz.1 hc
     obtain ⟨ln,f1,f2,f3⟩:=Np (P:=P) g hy hs o1
     have hlen:=TB (P:=P) (w:=w) hy hm
     rcases Lm (g.heap _ _ hb) (J8 hro) with ⟨B',n',l,t',e4,e3,e5,e6,e7,e8⟩ | ⟨_,e4,_⟩
     ·rcases An (hx _ rfl) with ⟨B,nn,e1,e2⟩ | ⟨e1,_⟩
      case inr=>rw [e1] at e4;cases e4
      injection e2 with e2 _;subst e2
      rw [e1] at e4;injection e4 with e4;injection e4 with e4 e4';subst e4;subst e4'
      obtain ⟨mm,rfl,q1,q2⟩:=iL hp o2 e3 f2
      refine ⟨goInt (Nat.min m len),_,?_,Eff.write g e1 e5 q1 e6 (by rw [← e7];simp [f3];omega) e8 trivial⟩
      have:=iM (P:=P) e5 f3 q2 (Nj f2)
      rw [Nat.zero_add]
      simp [Builtin.copy_,run_underlying hu,hlen,sizeOf,typeInfo,hi,f1,this]
     ·rw [hop] at e4;cases e4
    ·cases h
   ·cases h
  ·cases h
 ·cases h
def XR (P:Program) (t:TypeId) (x:Option AV) (H:Heap) (path:List Bool):Option R :=
 match P.underlying t,x with
 | some (.slice e),some (.val false [.sl bk off len _])=>match len with
  | 0=>some (BS .any path)
  | len+1=>match P.info? e,AB H bk with
   | some inf,some blk=>match inf.zero with
    | some z=>match It (Builtin.zeroCells z.cells (len+1)).toList with
     | some zs=>match TC bk blk off (Builtin.zeroCells z.cells (len+1)).toList.length zs,Nat.ble BN blk.ty with
      | some (u,c2),false=>some ⟨.any,u,0,c2,path⟩
      | _,_=>none
     | none=>none
    | none=>none
   | _,_=>none
 | _,_=>none
theorem ABQ {t ty:TypeId} {x:Option AV} {u:Value} {path:List Bool} {r:R} (g:Good β H w) (hx:∀ A,x=some A→AG β A u)
  (h:XR P t x H path=some r) (hc:AP r.conds) (fr:Nat):∃ z w',(Builtin.clear_ #[t] ty #[u]).run P w=.ok z w'∧Eff β fr r w z w' β:=by
 unfold XR at h
 split at h
 ·rename_i e bk off len cap hu
  split at h
  ·injection h with h;subst h
   rcases An (hx _ rfl) with ⟨B,nn,e1,e2⟩ | ⟨e1,_,_,_,e2⟩
   ·injection e2 with e2 _;subst e2
    exact ⟨.tuple #[],w,by simp [Builtin.clear_,run_underlying hu],Eff.pure_ g trivial⟩
   ·injection e2 with e2 _;subst e2
    exact ⟨.tuple #[],w,by simp [Builtin.clear_,run_underlying hu],Eff.pure_ g trivial⟩
  ·rename_i len
   split at h
   ·rename_i inf blk hi hb
    split at h
    ·rename_i z hz
     split at h
     ·rename_i zs hzs
      split at h
      ·rename_i uu c2 hp hro
       injection h with h;subst h
       have f2:=Nh (β:=β) hzs
       rcases An (hx _ rfl) with ⟨B,nn,e1,e2⟩ | ⟨_,_,e2,_⟩
       case inr=>cases e2
       injection e2 with e2 _;subst e2
       rcases Lm (g.heap _ _ hb) (J8 hro) with ⟨B',n',l,t',e4,e3,e5,e6,e7,e8⟩ | ⟨e4,_⟩
       ·rw [e1] at e4;injection e4 with e4;injection e4 with e4 e4';subst e4;subst e4'
        obtain ⟨mm,rfl,q1,q2⟩:=iL hp hc e3 f2
        refine ⟨.tuple #[],_,?_,Eff.write g e1 e5 q1 e6 (by rw [← e7];simp at q2 ⊢;omega) e8 trivial⟩
        have:=iM (P:=P) e5 rfl q2 (Nj f2)
        rw [Nat.zero_add]
        simp [Builtin.clear_,run_underlying hu,zeroValue,typeInfo,hi,hz,this]
       ·rw [e1] at e4;cases e4
      ·cases h
     ·cases h
    ·cases h
   ·cases h
 ·cases h
theorem iN (need:Nat):∀ (r c:Nat),256≤c→c≤2*need→Builtin.growBy need r c≤2*need
 | 0,c,_,h=>h
 | r+1,c,h0,h=>by
  unfold Builtin.growBy
  split
  ·exact h
  ·exact iN need r _ (by omega) (by omega)
theorem iO {need old:Nat} (h:old<need):Builtin.nextslicecap need old≤2*need:=by
 unfold Builtin.nextslicecap
 split
 ·omega
 ·split
  ·omega
  ·exact iN need 4 old (by omega) (by omega)
def Nq:TypeDesc→Bool
 | .slice _=>true
 | .string=>true
 | _=>false
theorem TE {ts:Array TypeId} {sT xT e ty:TypeId} {d:TypeDesc} {inf:TypeInfo} {base:Option Addr} {sLen sCap n:Nat} {x:Value} {ln:List Value}
  (h0:ts[0]? = some sT) (h1:ts[1]? = some xT) (hu:P.underlying sT=some (.slice e)) (hi:P.info? e=some inf) (hx:P.underlying xT=some d) (hd:Nq d=true)
  (hn:(Builtin.lenOf x).run P w=.ok n w) (hf:(Builtin.firstCells inf.size n x).run P w=.ok ⟨ln⟩ w) (hfit:sLen+n≤sCap) :
  (Builtin.append_ ts ty #[.slice base sLen sCap,x]).run P w=match base with
   | some a=>((storeCells (a.add (sLen*inf.size)) ln).run P w).andThen fun _ w'=>.ok (.slice base (sLen+n) sCap) w'
   | none=>.ok (.slice none (sLen+n) sCap) w:=by
 cases base with
 | none =>
  cases d
  case slice=>simp [Builtin.append_,h0,h1,run_underlying hu,run_underlying hx,sizeOf,typeInfo,hi,hn,hf,hfit]
  case string=>simp [Builtin.append_,h0,h1,run_underlying hu,run_underlying hx,sizeOf,typeInfo,hi,hn,hf,hfit]
  all_goals simp [Nq] at hd
 | some a =>
  cases d
  case slice=>simp [Builtin.append_,h0,h1,run_underlying hu,run_underlying hx,sizeOf,typeInfo,hi,hn,hf,hfit]
  case string=>simp [Builtin.append_,h0,h1,run_underlying hu,run_underlying hx,sizeOf,typeInfo,hi,hn,hf,hfit]
  all_goals simp [Nq] at hd
theorem ABR {ts:Array TypeId} {sT xT e ty:TypeId} {d:TypeDesc} {inf:TypeInfo} {z:Value} {base:Option Addr} {sLen sCap n:Nat} {x:Value} {lo ln:List Value}
  (h0:ts[0]? = some sT) (h1:ts[1]? = some xT) (hu:P.underlying sT=some (.slice e)) (hi:P.info? e=some inf) (hz:inf.zero=some z) (hx:P.underlying xT=some d) (hd:Nq d=true)
  (hn:(Builtin.lenOf x).run P w=.ok n w) (ho:(Builtin.firstCells inf.size sLen (.slice base sLen sCap)).run P w.drew=.ok ⟨lo⟩ w.drew)
  (hf:(Builtin.firstCells inf.size n x).run P w.drew=.ok ⟨ln⟩ w.drew) (hgt:sCap<sLen+n) (hb1:1≤inf.bytes) (hb:2*(sLen+n)*inf.bytes≤281474976710656) :
  ∃ c,sLen+n≤c∧(Builtin.append_ ts ty #[.slice base sLen sCap,x]).run P w =
   .ok (.slice (some ⟨w.heap.size,0,none⟩) (sLen+n) c) (w.drew.alloc (.cells ⟨lo++ln++(Builtin.zeroCells z.cells (c-(sLen+n))).toList⟩ e)):=by
 have hc1:¬ (281474976710656<Builtin.nextslicecap (sLen+n) sCap*inf.bytes):=by
  have:=iO hgt
  have:=Nat.mul_le_mul_right inf.bytes this
  omega
 have hb0:¬ inf.bytes=0:=by omega
 have hnf:¬ (sLen+n≤sCap):=by omega
 refine ⟨(Question.appendCap (sLen+n) sCap e).cut (w.tape w.drawn (.appendCap (sLen+n) sCap e)),?_,?_⟩
 ·simp only [Question.cut];omega
 ·cases d
  case slice =>
   simp [Builtin.append_,h0,h1,run_underlying hu,run_underlying hx,sizeOf,typeInfo,hi,hn,hnf,hb0,hc1,Question.forced,zeroValue,hz,newRow,ho,hf]
   congr 2
   apply Array.ext'
   simp
  case string =>
   simp [Builtin.append_,h0,h1,run_underlying hu,run_underlying hx,sizeOf,typeInfo,hi,hn,hnf,hb0,hc1,Question.forced,zeroValue,hz,newRow,ho,hf]
   congr 2
   apply Array.ext'
   simp
  all_goals simp [Nq] at hd
end
section
variable {P:Program} {β:Env} {H:Heap} {w:World}
def XS (z:Value) (old new:List Ch):List Ch :=
 match z with
 | .int kd _=>match Ak kd old,Ak kd new with
  | some xs,some ys=>[.seq kd (xs++ys)]
  | _,_=>old++new
 | _=>old++new
theorem XT {z:Value} {old new:List Ch} {lo ln:List Value} (h1:AH β old lo) (h2:AH β new ln):AH β (XS z old new) (lo++ln):=by
 unfold XS
 split
 ·split
  ·rename_i xs ys hx hy
   obtain ⟨rfl,a1⟩:=Bu hx h1
   obtain ⟨rfl,a2⟩:=Bu hy h2
   rw [← List.map_append]
   exact KB fun x hx=>(List.mem_append.1 hx).elim (a1 x) (a2 x)
  ·exact J7 h1 h2
 ·exact J7 h1 h2
def CG (fr:Nat) (e:TypeId) (inf:TypeInfo) (z:Value) (tomb:Heap) (old new:List Ch) (len n:Nat) (c1 c2:List (Bool×Bool)) (path:List Bool):R :=
 ⟨.val false [.sx fr (len+n) inf.size],tomb++[(fr,some ⟨e,XS z old new,true⟩)],1,c1++(c2++[(decide (1≤inf.bytes∧2*(len+n)*inf.bytes≤281474976710656),true)]),path⟩
def XU (P:Program) (ts:Array TypeId) (s x:Option AV) (H:Heap) (fr:Nat) (path:List Bool):Option R :=
 match ts[0]?,ts[1]? with
 | some sT,some xT=>match P.underlying sT,P.underlying xT with
  | some (.slice e),some d=>match Nq d,P.info? e with
   | true,some inf=>match inf.zero,Pg x with
    | some z,some n=>match Nat.beq z.cells.size inf.size&&z.cells.toList.all (fun v=>v.oneCell'),KA H inf.size x n with
     | true,some (new,c2)=>match s with
      | some (.val false [.v (.slice none 0 0)])=>some (CG fr e inf z [] [] new 0 n [] c2 path)
      | some (.val false [.sl bk 0 len cap])=>match KA H inf.size s len,AB H bk with
       | some (old,c1),some blk=>match Nat.beq blk.ty e,Nat.ble BN blk.ty with
        | true,false=>some (CG fr e inf z [(bk,none)] old new len n (c1++[(Nat.beq cap len,true)]) c2 path)
        | _,true=>some (CG fr e inf z [] old new len n (c1++[(Nat.beq cap len&&Nat.blt 0 n,true)]) c2 path)
        | _,_=>none
       | _,_=>none
      | some (.val false [.sx bk len sz])=>match Nat.beq sz inf.size,KA H inf.size s len,AB H bk with
       | true,some (old,c1),some blk=>match Nat.beq blk.ty e,Nat.ble BN blk.ty with
        | true,false=>some (CG fr e inf z [(bk,none)] old new len n c1 c2 path)
        | _,_=>none
       | _,_,_=>none
      | _=>none
     | _,_=>none
    | _,_=>none
   | _,_=>none
  | _,_=>none
 | _,_=>none
theorem iQ (z:Array Value) (n:Nat):(Builtin.zeroCells z n).toList.length=n*z.size:=by
 unfold Builtin.zeroCells;simp
theorem ABS {z:Value} (hz:∀ v∈z.cells.toList,v.oneCell'=true) (n:Nat):∀ v∈(Builtin.zeroCells z.cells n).toList,v.oneCell'=true:=by
 intro v hv
 unfold Builtin.zeroCells at hv
 simp only [Array.toList_map,Array.toList_range,List.mem_map,List.mem_range] at hv
 obtain ⟨i,hi,rfl⟩:=hv
 have hpos:0<z.cells.size:=by
  rcases Nat.eq_zero_or_pos z.cells.size with h | h
  ·rw [h] at hi;simp at hi
  ·exact h
 have hlt:=Nat.mod_lt i hpos
 rw [getElem!_pos z.cells _ hlt]
 exact hz _ (by simp)
theorem iR (z:Value) (hz:z.cells.toList.all (·.oneCell')=true) (n:Nat):∀ v∈(Builtin.zeroCells z.cells n).toList,v.oneCell'=true :=
 ABS (fun v hv=>List.all_eq_true.1 hz v hv) n
theorem Good.drew (g:Good β H w):Good β H w.drew:=⟨g.heap,g.inj,g.lt⟩
theorem iS {fr n len:Nat} {e:TypeId} {inf:TypeInfo} {z:Value} {tomb:Heap} {old new:List Ch} {c1 c2:List (Bool×Bool)} {path:List Bool} {lo ln rest:List Value} {c:Nat} (g:Good β H w)
  (hf:β fr=none) (h1:AH β old lo) (h2:AH β new ln) (htomb:∀ k y,(k,some y) ∉ tomb) (hc:len+n≤c) (hlen:(lo++ln++rest).length=c*inf.size) (hrest:∀ v∈rest,v.oneCell'=true) :
  Eff β fr (CG fr e inf z tomb old new len n c1 c2 path) w (.slice (some ⟨w.heap.size,0,none⟩) (len+n) c) (w.drew.alloc (.cells ⟨lo++ln++rest⟩ e)) (β.put fr (.at_ w.heap.size (c*inf.size,0))) where
 ext:=Env.le_put _ hf
 new:=fun b X k=>by
  unfold Env.put at k
  split at k
  ·rename_i hb;subst hb;injection k with k;subst k
   exact .inr ⟨Nat.le_refl _,by simp [CG],fun B m e=>by injection e with e1 e2;subst e1;exact .inl (Nat.le_refl _)⟩
  ·exact .inl k
 lt:=fun b B m k=>by
  unfold Env.put at k
  split at k
  ·injection k with k;injection k with k _;subst k;simp
  ·have:=g.lt _ _ _ k;simp;omega
 inj:=fun b b' _ _ _ h1 h2 h3 h4 _ _=>by simp [CG] at h3 h4;omega
 val:=Am (.inl ⟨w.heap.size,c*inf.size,c,Env.put_same ..,rfl,hc,Nat.le_refl _⟩)
 upd:=fun k y hy=>by
  simp only [CG,List.mem_append,List.mem_singleton,Prod.mk.injEq,Option.some.injEq] at hy
  rcases hy with hy | ⟨rfl,rfl⟩
  ·exact absurd hy (htomb _ _)
  ·exact SF (l:=lo++ln) (t:=rest) (Env.put_same ..) (Hn (Env.le_put _ hf) (XT h1 h2)) (by show (w.heap.push _)[w.heap.size]? = _;simp) (fun h=>by simp at h) hlen hrest
 frame:=fun B hB _=>by
  show (w.heap.push _)[B]? = _
  rw [Array.getElem?_push,if_neg (by omega)]
 size:=by simp
 os:=rfl
 tape:=rfl
 output:=rfl
theorem ABT {fr n len bk B nB:Nat} {e:TypeId} {inf:TypeInfo} {z:Value} {old new:List Ch} {c1 c2:List (Bool×Bool)} {path:List Bool} {lo ln rest cur:List Value} {cap:Nat} (g:Good β H w)
  (hf:β fr=none) (hb:β bk=some (.at_ B (nB,0))) (ho:w.heap[B]? = some (.cells ⟨cur⟩ e (0,0))) (h1:AH β old lo) (h2:AH β new ln) (hlen:(lo++ln++rest).length=nB) (hcap:len+n≤cap) (hcapn:cap*inf.size≤nB)
  (hrest:∀ v∈rest,v.oneCell'=true) :
  Eff β fr (CG fr e inf z [(bk,none)] old new len n c1 c2 path) w (.slice (some ⟨B,0,none⟩) (len+n) cap) (w.setRow B ⟨lo++ln++rest⟩) (β.put fr (.at_ B (nB,0))) where
 ext:=Env.le_put _ hf
 new:=fun b X k=>by
  unfold Env.put at k
  split at k
  ·rename_i hb';subst hb';injection k with k;subst k
   exact .inr ⟨Nat.le_refl _,by simp [CG],fun B' m e=>by injection e with e1 e2;subst e1;exact .inr ⟨bk,(nB,0),by simp [CG],hb⟩⟩
  ·exact .inl k
 lt:=fun b B' m k=>by
  unfold Env.put at k
  split at k
  ·injection k with k;injection k with k _;subst k
   have:=g.lt _ _ _ hb;simpa [World.setRow] using this
  ·have:=g.lt _ _ _ k;simpa [World.setRow] using this
 inj:=fun b b' _ _ _ h1 h2 h3 h4 _ _=>by simp [CG] at h3 h4;omega
 val:=Am (.inl ⟨B,nB,cap,Env.put_same ..,rfl,hcap,hcapn⟩)
 upd:=fun k y hy=>by
  simp only [CG,List.mem_append,List.mem_singleton,Prod.mk.injEq,Option.some.injEq] at hy
  rcases hy with ⟨_,hy⟩ | ⟨rfl,rfl⟩
  ·cases hy
  ·exact SF (l:=lo++ln) (t:=rest) (Env.put_same ..) (Hn (Env.le_put _ hf) (XT h1 h2)) (setRow_heap w B ⟨cur⟩ _ e (0,0) ho) (fun h=>by simp at h) hlen hrest
 frame:=fun B' hB hne=>by
  have:B'≠B:=fun e=>hne bk none (nB,0) (by simp [CG]) (by rw [e];exact hb)
  simp only [World.setRow,Array.getElem?_modify]
  rw [if_neg (by omega)]
 size:=by simp [World.setRow]
 os:=rfl
 tape:=rfl
 output:=rfl
theorem TF {fr:Nat} {e:TypeId} {inf:TypeInfo} {z:Value} {tomb:Heap} {old new:List Ch} {c1 c2:List (Bool×Bool)} {path:List Bool} (g:Good β H w)
  (hf:β fr=none) (h1:AH β old []) (h2:AH β new []) (htomb:∀ k y,(k,some y) ∉ tomb) :
  Eff β fr (CG fr e inf z tomb old new 0 0 c1 c2 path) w (.slice none 0 0) w (β.put fr .nil) where
 ext:=Env.le_put _ hf
 new:=fun b X k=>by
  unfold Env.put at k
  split at k
  ·rename_i hb;subst hb;injection k with k;subst k
   exact .inr ⟨Nat.le_refl _,by simp [CG],fun B m e=>by cases e⟩
  ·exact .inl k
 lt:=fun b B m k=>by
  unfold Env.put at k
  split at k
  ·injection k with k;cases k
  ·exact g.lt _ _ _ k
 inj:=fun b b' _ _ _ h1 h2 h3 h4 _ _=>by simp [CG] at h3 h4;omega
 val:=Am (.inr ⟨Env.put_same ..,rfl,rfl⟩)
 upd:=fun k y hy=>by
  simp only [CG,List.mem_append,List.mem_singleton,Prod.mk.injEq,Option.some.injEq] at hy
  rcases hy with hy | ⟨rfl,rfl⟩
  ·exact absurd hy (htomb _ _)
  ·exact .inr (.inl ⟨Env.put_same ..,.inl rfl,Hn (Env.le_put _ hf) (by simpa using XT h1 h2)⟩)
 frame:=fun _ _ _=>rfl
 size:=Nat.le_refl _
 os:=rfl
 tape:=rfl
 output:=rfl
theorem ABU {ts:Array TypeId} {ty fr:Nat} {s x:Option AV} {u v:Value} {path:List Bool} {r:R} (g:Good β H w) (hx:∀ A,s=some A→AG β A u) (hy:∀ A,x=some A→AG β A v)
  (h:XU P ts s x H fr path=some r) (hc:AP r.conds) (hf:∀ b,fr≤b→b<fr+r.nw→β b=none) :
  ∃ q w' β',(Builtin.append_ ts ty #[u,v]).run P w=.ok q w'∧Eff β fr r w q w' β':=by
 unfold XU at h
 split at h
 case h_2=>cases h
 rename_i sT xT h0 h1
 split at h
 case h_2=>cases h
 rename_i e d hu hd
 split at h
 case h_2=>cases h
 rename_i inf hsl hi
 split at h
 case h_2=>cases h
 rename_i z n hz hn
 split at h
 case h_2=>cases h
 rename_i new c2 hzs hs
 have hlen:=TB (P:=P) (w:=w) hy hn
 have hlend:=TB (P:=P) (w:=w.drew) hy hn
 have hzs2:=Bool.and_eq_true_iff.1 hzs
 have hzs':=Ad.1 hzs2.1
 have hzone:=hzs2.2
 have grow:∀ (base:Option Addr) (tomb:Heap) (old:List Ch) (len cap:Nat) (c1:List (Bool×Bool)) (lo:List Value),AP (CG fr e inf z tomb old new len n c1 c2 path).conds →
   (Builtin.firstCells inf.size len (.slice base len cap)).run P w.drew=.ok ⟨lo⟩ w.drew→AH β old lo→lo.length=len*inf.size→(∀ k y,(k,some y) ∉ tomb)→β fr=none→cap<len+n →
   ∃ q w' β',(Builtin.append_ ts ty #[.slice base len cap,v]).run P w=.ok q w'∧Eff β fr (CG fr e inf z tomb old new len n c1 c2 path) w q w' β':=by
  intro base tomb old len cap c1 lo hcc hlo hrel hll ht hfr hgt
  obtain ⟨_,hcc⟩:=Bz.1 hcc
  obtain ⟨o2,o3⟩:=Bz.1 hcc
  have o3:=o3.1
  simp only [decide_eq_true_eq] at o3
  obtain ⟨ln,f1,f2,f3⟩:=Np (P:=P) g.drew hy hs o2
  obtain ⟨c,hcge,hrun⟩:=ABR (ty:=ty) h0 h1 hu hi hz hd hsl hlen hlo f1 hgt o3.1 o3.2
  refine ⟨_,_,_,hrun,iS g hfr hrel f2 ht hcge ?_ (iR z hzone _)⟩
  simp only [List.length_append,hll,f3,iQ,hzs']
  rw [← Nat.add_mul,← Nat.add_mul]
  congr 1;omega
 have fit:∀ (bk B nB:Nat) (blk:Blk) (old:List Ch) (len cap:Nat) (c1:List (Bool×Bool)) (lo:List Value),AP (CG fr e inf z [(bk,none)] old new len n c1 c2 path).conds →
   AB H bk=some blk→blk.ty=e→blk.ty<BN→β bk=some (.at_ B (nB,0))→AH β old lo →
   (∀ cur e fz,w.heap[B]? = some (.cells ⟨cur⟩ e fz)→0+len*inf.size≤cur.length∧lo=(cur.drop 0).take (len*inf.size))→β fr=none→len+n≤cap→(n=0∨cap*inf.size≤nB)→(n=0→cap*inf.size≤nB) →
   ∃ q w' β',(Builtin.append_ ts ty #[.slice (some ⟨B,0,none⟩) len cap,v]).run P w=.ok q w'∧Eff β fr (CG fr e inf z [(bk,none)] old new len n c1 c2 path) w q w' β':=by
  intro bk B nB blk old len cap c1 lo hcc hb hty hro e1 hrel hcur hfr hfit hcap hcap0
  obtain ⟨_,hcc⟩:=Bz.1 hcc
  obtain ⟨o2,_⟩:=Bz.1 hcc
  obtain ⟨ln,n1,n2,n3⟩:=Np (P:=P) g hy hs o2
  rcases Lm (g.heap _ _ hb) hro with ⟨B',n',l,t',e4,e3,e5,e6,e7,e8⟩ | ⟨e4,_⟩
  ·rw [e1] at e4;injection e4 with e4;injection e4 with e4 e4';injection e4' with e4' _;subst e4;subst e4'
   rw [hty] at e5
   obtain ⟨q1,q2⟩:=hcur _ _ _ e5
   have hcn:cap*inf.size≤nB:=hcap.elim hcap0 id
   have hln:(len+n)*inf.size≤(l++t').length:=by
    rw [e7];exact Nat.le_trans (Nat.mul_le_mul_right _ hfit) hcn
   rw [Nat.add_mul] at hln
   have q3:lo=(l++t').take (len*inf.size):=by simpa using q2
   have hst:=run_storeCells_at P B (len*inf.size) e ln 0 ⟨l++t'⟩ w e5 (by rw [n3];simpa using hln) (Nj n2)
   simp only [Nat.add_zero,n3] at hst
   refine ⟨_,_,_,?_,ABT (rest:=(l++t').drop (len*inf.size+n*inf.size)) (cap:=cap) g hfr e1 e5 hrel n2 ?_ hfit hcn ?_⟩
   ·have:=TE (ty:=ty) (base:=some ⟨B,0,none⟩) (sLen:=len) (sCap:=cap) h0 h1 hu hi hd hsl hlen n1 hfit
    rw [this]
    simp only [Addr.add_lit,Nat.zero_add,hst,Result.andThen_ok,q3]
   ·rw [← e7,q3]
    simp only [List.length_append,List.length_take,List.length_drop,n3] at hln ⊢
    omega
   ·intro v hv
    rcases List.mem_append.1 (List.mem_of_mem_drop hv) with hv | hv
    ·exact Nj e3 v hv
    ·exact e8 v hv
  ·rw [e1] at e4;cases e4
 split at h
 ·
  injection h with h;subst h
  have hfr:=hf fr (Nat.le_refl _) (by simp [CG])
  have:=(An (hx _ rfl)).1
  injection this with e1 _;subst e1
  rcases Nat.eq_zero_or_pos n with hn0 | hpos
  ·subst hn0
   have hc':AP (c2++_):=hc
   obtain ⟨o2,_⟩:=Bz.1 hc'
   obtain ⟨ln,f1,f2,f3⟩:=Np (P:=P) g hy hs o2
   have hl0:ln=[]:=List.length_eq_zero_iff.1 (by rw [f3];simp)
   subst hl0
   refine ⟨_,_,_,?_,TF g hfr rfl f2 (by simp)⟩
   have:=TE (ty:=ty) (base:=none) (sLen:=0) (sCap:=0) h0 h1 hu hi hd hsl hlen f1 (Nat.le_refl _)
   simpa using this
  ·exact grow none [] [] 0 0 [] [] hc rfl rfl (by simp) (by simp) hfr (by omega)
 ·
  rename_i bk len cap
  split at h
  case h_2=>cases h
  rename_i old c1 blk hso hb
  split at h
  case h_3=>cases h
  case h_2 =>
   injection h with h;subst h
   have hfr:=hf fr (Nat.le_refl _) (by simp [CG])
   obtain ⟨oo,_⟩:=Bz.1 hc
   obtain ⟨o1,oc⟩:=Bz.1 oo
   have oc':=Bool.and_eq_true_iff.1 oc.1
   have hcap:=Ad.1 oc'.1
   have hpos:0<n:=Nat.le_of_ble_eq_true oc'.2
   subst hcap
   obtain ⟨lo,f1,f2,f3,f4⟩:=Pf (P:=P) g hx hso o1
   rcases An (hx _ rfl) with ⟨B,nn,e1,e2⟩ | ⟨e1,_,e0,_,e2⟩
   ·injection e2 with e2 _;subst e2
    exact grow _ _ old _ _ _ lo hc (f1 _ rfl) f2 f3 (by simp) hfr (by omega)
   ·injection e2 with e2 _;subst e2;subst e0
    exact grow none _ old 0 0 _ lo hc (f1 _ rfl) f2 f3 (by simp) hfr (by omega)
  rename_i hty hro
  injection h with h;subst h
  have hfr:=hf fr (Nat.le_refl _) (by simp [CG])
  obtain ⟨oo,_⟩:=Bz.1 hc
  obtain ⟨o1,oc⟩:=Bz.1 oo
  have hcap:=Ad.1 oc.1
  subst hcap
  obtain ⟨lo,f1,f2,f3,f4⟩:=Pf (P:=P) g hx hso o1
  rcases Lm (g.heap _ _ hb) (J8 hro) with ⟨B,nn,l,t',e4,e3,e5,e6,e7,e8⟩ | ⟨e4,_⟩
  ·rcases An (hx _ rfl) with ⟨B',nn',e1,e2⟩ | ⟨e1,_⟩
   case inr=>rw [e1] at e4;cases e4
   injection e2 with e2 _;subst e2
   rw [e1] at e4;injection e4 with e4;injection e4 with e4 e4';subst e4;subst e4'
   rw [Nat.zero_add] at f1 f4 ⊢
   rcases Nat.eq_zero_or_pos n with hn0 | hpos
   ·refine fit bk _ nn blk old _ _ _ lo hc hb (Ad.1 hty) (J8 hro) e1 f2 (fun cur e fz hh=>f4 _ _ _ _ _ _ _ rfl hh) hfr (by omega) (.inl hn0) (fun _=>?_)
    have:=(f4 _ _ _ _ _ _ _ rfl e5).1
    rw [e7] at this;omega
   ·exact grow _ _ old _ _ _ lo hc (f1 _ rfl) f2 f3 (by simp) hfr (by omega)
  ·rcases An (hx _ rfl) with ⟨B',nn',e1,e2⟩ | ⟨e1,_,e0,_,e2⟩
   ·rw [e1] at e4;cases e4
   injection e2 with e2 _;subst e2;subst e0
   have hl0:lo=[]:=List.length_eq_zero_iff.1 (by rw [f3];simp)
   subst hl0
   rcases Nat.eq_zero_or_pos n with hn0 | hpos
   ·subst hn0
    obtain ⟨_,oo2⟩:=Bz.1 hc
    obtain ⟨o2,_⟩:=Bz.1 oo2
    obtain ⟨ln,n1,n2,n3⟩:=Np (P:=P) g hy hs o2
    have hl0:ln=[]:=List.length_eq_zero_iff.1 (by rw [n3];simp)
    subst hl0
    refine ⟨_,_,_,?_,TF g hfr f2 n2 (by simp)⟩
    have:=TE (ty:=ty) (base:=none) (sLen:=0) (sCap:=0) h0 h1 hu hi hd hsl hlen n1 (Nat.le_refl _)
    simpa using this
   ·exact grow none _ old 0 0 _ [] hc rfl f2 (by simp) (by simp) hfr (by omega)
 ·
  rename_i bk len sz
  split at h
  case h_2=>cases h
  rename_i old c1 blk hsz hso hb
  split at h
  case h_2=>cases h
  rename_i hty hro
  injection h with h;subst h
  have hfr:=hf fr (Nat.le_refl _) (by simp [CG])
  obtain ⟨o1,oo⟩:=Bz.1 hc
  have hsz':=Ad.1 hsz
  subst hsz'
  obtain ⟨lo,f1,f2,f3,f4⟩:=Pf (P:=P) g hx hso o1
  rcases An (hx _ rfl) with ⟨B,nn,cap,e1,e2,e3,e4⟩ | ⟨e1,e0,e2⟩
  ·injection e2 with e2 _;subst e2
   rcases Nat.lt_or_ge cap (len+n) with hlt | hge
   ·exact grow _ _ old _ _ _ lo hc (f1 _ rfl) f2 f3 (by simp) hfr hlt
   ·exact fit bk B nn blk old _ _ _ lo hc hb (Ad.1 hty) (J8 hro) e1 f2 (fun cur e fz hh=>f4 _ _ _ _ _ _ _ rfl hh) hfr hge (.inr e4) (fun _=>e4)
  ·injection e2 with e2 _;subst e2;subst e0
   have hl0:lo=[]:=List.length_eq_zero_iff.1 (by rw [f3];simp)
   subst hl0
   rcases Nat.eq_zero_or_pos n with hn0 | hpos
   ·subst hn0
    obtain ⟨o2,_⟩:=Bz.1 oo
    obtain ⟨ln,n1,n2,n3⟩:=Np (P:=P) g hy hs o2
    have hl0:ln=[]:=List.length_eq_zero_iff.1 (by rw [n3];simp)
    subst hl0
    refine ⟨_,_,_,?_,TF g hfr f2 n2 (by simp)⟩
    have:=TE (ty:=ty) (base:=none) (sLen:=0) (sCap:=0) h0 h1 hu hi hd hsl hlen n1 (Nat.le_refl _)
    simpa using this
   ·exact grow none _ old 0 0 _ [] hc rfl f2 (by simp) (by simp) hfr (by omega)
 ·cases h
def TG (xs:List Int):ByteArray:=xs.foldl (fun r n=>r.push (UInt8.ofNat n.toNat)) ByteArray.empty
def TH (x:Option AV):Option Nat :=
 match x with
 | some (.val false [.sl _ _ len _])=>some len
 | some (.val false [.sx _ len _])=>some len
 | some (.val false [.v (.slice none len _)])=>some len
 | _=>none
theorem ABV {x:Option AV} {n:Nat} (h:TH x=some n):Pg x=some n:=by
 unfold TH at h
 split at h
 all_goals first | (cases h;done) | exact h
def XV (P:Program) (src dst:TypeId) (x:Option AV) (H:Heap) (path:List Bool):Option R :=
 match P.underlying src,P.underlying dst with
 | some (.slice e),some .string=>match P.underlying e,TH x with
  | some (.int .u8),some n=>match KA H 1 x n with
   | some (cs,c)=>match Ak .u8 cs with
    | some xs=>some ⟨.val false [.v (.string (TG xs))],[],0,c,path⟩
    | none=>none
   | none=>none
  | _,_=>none
 | _,_=>none
theorem ABW {src dst:TypeId} {x:Option AV} {u:Value} {path:List Bool} {r:R} (g:Good β H w) (hx:∀ A,x=some A→AG β A u) (h:XV P src dst x H path=some r) (hc:AP r.conds) (fr:Nat) :
  ∃ v,(convert src dst u).run P w=.ok v w∧Eff β fr r w v w β:=by
 unfold XV at h
 split at h
 case h_2=>cases h
 rename_i e hs hd
 split at h
 case h_2=>cases h
 rename_i n he hn
 split at h
 case h_2=>cases h
 rename_i cs c hcs
 split at h
 case h_2=>cases h
 rename_i xs hxs
 injection h with h;subst h
 obtain ⟨l,f1,f2,f3,_⟩:=Pf (P:=P) g hx hcs hc
 obtain ⟨rfl,_⟩:=Bu hxs f2
 have hlen:=TB (P:=P) (w:=w) hx (ABV hn)
 have f1:=f1 w rfl
 rw [Nat.mul_one] at f3
 refine ⟨.string (TG xs),?_,Eff.pure_ g (Am ⟨rfl,rfl,trivial⟩)⟩
 have some_:∀ (a:Addr) (len cap:Nat),u=.slice (some a) len cap→(convert src dst u).run P w=.ok (.string (TG xs)) w:=by
  intro a len cap hu
  subst hu
  have hl:len=n:=by simpa [Builtin.lenOf] using hlen
  subst hl
  rw [run_convert_bytes_string w src dst e (some a) len cap hs he hd]
  exact run_bytesToString w a len cap xs (by simpa [Builtin.firstCells] using f1)
 have none_:u=.slice none 0 0→(convert src dst u).run P w=.ok (.string (TG xs)) w:=by
  intro hu
  subst hu
  have hl:0=n:=by simpa [Builtin.lenOf] using hlen
  subst hl
  have hx0:xs=[]:=by simpa using f3
  subst hx0
  rw [run_convert_bytes_string w src dst e none 0 0 hs he hd]
  rfl
 unfold TH at hn
 split at hn
 ·rcases An (hx _ rfl) with ⟨B,nn,e1,e2⟩ | ⟨_,_,_,_,e2⟩
  ·injection e2 with e2 _;exact some_ _ _ _ e2
  ·injection e2 with e2 _;exact none_ e2
 ·rcases An (hx _ rfl) with ⟨B,nn,cap,e1,e2,_⟩ | ⟨_,_,e2⟩
  ·injection e2 with e2 _;exact some_ _ _ _ e2
  ·injection e2 with e2 _;exact none_ e2
 ·rename_i len cap
  have:=(An (hx _ rfl)).1
  injection this with e2 _
  subst e2
  injection hn with hn
  subst hn
  rw [run_convert_bytes_string w src dst e none len cap hs he hd]
  have:xs=[]:=by
   have:=f1
   simp [Builtin.firstCells] at this
   simpa using this.symm
  subst this
  rfl
 ·cases hn
def EY (s:ByteArray):List Int:=s.data.toList.map fun b=>(b.toNat:Int)
theorem ABX (s:ByteArray):∀ x∈EY s,has .u8 x:=by
 intro x hx
 obtain ⟨b,_,rfl⟩:=List.mem_map.1 hx
 have:=b.toNat_lt
 rw [Dq];simp only [AI,Bool.and_eq_true,decide_eq_true_eq];omega
def XW (P:Program) (src dst:TypeId) (x:Option AV) (H:Heap) (fr:Nat) (path:List Bool):Option R :=
 match P.underlying src,P.underlying dst with
 | some .string,some (.slice e)=>match P.underlying e,x with
  | some (.int .u8),some (.val false [.v (.string s)])=>some ⟨.val false [.sx fr s.size 1],[(fr,some ⟨BN,[.seq .u8 (EY s)],true⟩)],1,[],path⟩
  | _,_=>none
 | some (.slice _),some (.slice e)=>match P.underlying e,Nat.beq src dst,x with
  | some (.int .u8),true,some (.val false [.sl bk off len cap])=>match AB H bk with
   | some ⟨ty,cs,false⟩=>match Nat.ble BN ty with
    | false=>some ⟨.val false [.sl bk off len cap],[(bk,some ⟨BN,cs,false⟩)],0,[],path⟩
    | true=>none
   | _=>none
  | _,_,_=>none
 | _,_=>none
theorem ABY {src dst fr:TypeId} {x:Option AV} {u:Value} {path:List Bool} {r:R} (g:Good β H w) (hx:∀ A,x=some A→AG β A u) (h:XW P src dst x H fr path=some r) (hf:∀ b,fr≤b→b<fr+r.nw→β b=none) :
  ∃ v w' β',(convert src dst u).run P w=.ok v w'∧Eff β fr r w v w' β':=by
 unfold XW at h
 split at h
 case h_3=>cases h
 ·rename_i e hs hd
  split at h
  case h_2=>cases h
  rename_i s he
  injection h with h;subst h
  have hfr:=hf fr (Nat.le_refl _) (by simp)
  have:=(An (hx _ rfl)).1
  injection this with e2 _;subst e2
  have hcap:s.size≤grownCap w s.size 0 e:=by unfold grownCap;simp only [Question.cut];omega
  refine ⟨_,_,β.put fr (.at_ w.heap.size (grownCap w s.size 0 e,0)),run_bytes_of_string w src dst e s hs hd he,?_⟩
  generalize grownCap w s.size 0 e=c at *
  exact {
   ext:=Env.le_put _ hfr
   new:=fun b X k=>by
    unfold Env.put at k
    split at k
    ·rename_i hb;subst hb;injection k with k;subst k
     exact .inr ⟨Nat.le_refl _,by simp,fun B m e=>by injection e with e1 e2;subst e1;exact .inl (Nat.le_refl _)⟩
    ·exact .inl k
   lt:=fun b B m k=>by
    unfold Env.put at k
    split at k
    ·injection k with k;injection k with k _;subst k;simp
    ·have:=g.lt _ _ _ k;simp;omega
   inj:=fun b b' _ _ _ h1 h2 h3 h4 _ _=>by simp at h3 h4;omega
   val:=Am (.inl ⟨w.heap.size,c,c,Env.put_same ..,rfl,hcap,by omega⟩)
   upd:=fun k y hy=>by
    simp only [List.mem_singleton,Prod.mk.injEq,Option.some.injEq] at hy
    obtain ⟨rfl,rfl⟩:=hy
    refine .inl ⟨w.heap.size,(c,0),(EY s).map (.int .u8),Array.toList (Array.replicate (c-s.size) (.int .u8 0)),[],e,((bytesRow s c).size,(bytesRow s c).size+1),Env.put_same ..,KB (ABX s),?_,rfl,fun h=>absurd rfl h⟩
    show (w.heap.push _)[w.heap.size]? = _
    rw [Array.getElem?_push,if_pos rfl]
    congr 2
    apply Array.ext'
    simp [bytesRow,EY]
   frame:=fun B hB _=>by
    show (w.heap.push _)[B]? = _
    rw [Array.getElem?_push,if_neg (by omega)]
   size:=by simp
   os:=rfl
   tape:=rfl
   output:=rfl }
 ·rename_i e0 e hs hd
  split at h
  case h_2=>cases h
  rename_i bk off len cap he hsd
  split at h
  case h_2=>cases h
  rename_i ty cs hb
  split at h
  case h_2=>cases h
  rename_i hro
  injection h with h;subst h
  have hro':=J8 hro
  rcases Lm (g.heap _ _ hb) hro' with ⟨B,n,l,t',e4,e3,e5,e6,e7,e8⟩ | ⟨_,e4,_⟩
  case inr=>cases e4
  rcases An (hx _ rfl) with ⟨B',nn,e1,e2⟩ | ⟨e1,_⟩
  case inr=>rw [e1] at e4;cases e4
  injection e2 with e2 _;subst e2
  rw [e1] at e4;injection e4 with e4;injection e4 with e4 e4';subst e4;subst e4'
  obtain rfl:=Ad.1 hsd
  have hB:B'<w.heap.size:=by
   rcases Nat.lt_or_ge B' w.heap.size with h | h
   ·exact h
   ·rw [Array.getElem?_eq_none h] at e5;cases e5
  refine ⟨.slice (some ⟨B',(n,0).2+off,none⟩) len cap,w.freeze ⟨B',(l++t').length,none⟩ 1,β,?_,?_⟩
  ·obtain rfl:e0=e:=by rw [hs] at hd;injection hd with hd;injection hd
   have hsh:w.shape? B'=some (ty,(l++t').length):=by unfold World.shape?;rw [e5];rfl
   simp [convert,run_underlying hs,run_underlying he,markStringish,hsh]
  ·have hh:∀ b,(w.freeze ⟨B',(l++t').length,none⟩ 1).heap[b]? = if b=B' then some (.cells ⟨l++t'⟩ ty ((l++t').length,(l++t').length+1)) else w.heap[b]?:=by
    intro b
    show (w.heap.modify B' _)[b]? = _
    rw [Array.getElem?_modify]
    by_cases q:B'=b
    ·subst q;rw [if_pos rfl,if_pos rfl,e5];rfl
    ·rw [if_neg q,if_neg (fun h=>q h.symm)]
   have hsz:(w.freeze ⟨B',(l++t').length,none⟩ 1).heap.size=w.heap.size:=by
    show (w.heap.modify B' _).size=_
    simp
   exact {
    ext:=Env.le_refl β
    new:=fun _ _ h=>.inl h
    lt:=fun b B m h=>by rw [hsz];exact g.lt _ _ _ h
    inj:=fun b b' _ _ _ h1 _ h3=>by simp at h3;omega
    val:=Am (.inl ⟨B',(n,0),e1,rfl⟩)
    upd:=fun k y hy=>by
     simp only [List.mem_singleton,Prod.mk.injEq,Option.some.injEq] at hy
     obtain ⟨rfl,rfl⟩:=hy
     refine .inl ⟨B',(n,0),l,t',[],ty,((l++t').length,(l++t').length+1),e1,e3,?_,rfl,fun h=>absurd rfl h⟩
     rw [hh,if_pos rfl];rfl
    frame:=fun b hB hne=>by
     have:b≠B':=fun e=>hne _ _ (n,0) (List.mem_singleton.2 rfl) (by rw [e];exact e1)
     rw [hh,if_neg this]
    size:=by rw [hsz];exact Nat.le_refl _
    os:=rfl
    tape:=rfl
    output:=rfl }
end
section
variable {P:Program} {β:Env} {H:Heap} {w:World}
def XX (P:Program) (t:TypeId) (rs:Option Operand) (fr:Nat) (path:List Bool):Option R :=
 match P.underlying t,rs with
 | some (.map kT eT),none=>match P.underlying kT,P.info? eT with
  | some .string,some inf=>some ⟨.val false [.mp fr],[(fr,some ⟨G6+inf.size,[.mk],false⟩)],1,[],path⟩
  | _,_=>none
 | _,_=>none
theorem ABZ {t:TypeId} {rs:Option Operand} {fr:Nat} {path:List Bool} {r:R} (g:Good β H w) (h:XX P t rs fr path=some r) (hf:∀ b,fr≤b→b<fr+r.nw→β b=none) :
  rs=none∧∃ u w' β',(Instr.makeMap t none).run P w=.ok u w'∧Eff β fr r w u w' β':=by
 unfold XX at h
 split at h
 case h_2=>cases h
 rename_i kT eT _ _
 split at h
 case h_2=>cases h
 rename_i inf _ _
 injection h with h;subst h
 have hfr:=hf fr (Nat.le_refl _) (by simp)
 refine ⟨rfl,.map (some w.heap.size),w.alloc (.map #[] 0),β.put fr (.at_ w.heap.size (0,0)),by simp [Instr.makeMap],?_⟩
 exact {
  ext:=Env.le_put _ hfr
  new:=fun b X k=>by
   unfold Env.put at k
   split at k
   ·rename_i hb;subst hb;injection k with k;subst k
    exact .inr ⟨Nat.le_refl _,by simp,fun B n e=>by injection e with e1 e2;subst e1;exact .inl (Nat.le_refl _)⟩
   ·exact .inl k
  lt:=fun b B m k=>by
   unfold Env.put at k
   split at k
   ·injection k with k;injection k with k _;subst k;simp
   ·have:=g.lt _ _ _ k;simp;omega
  inj:=fun b b' _ _ _ h1 h2 h3 h4 _ _=>by simp at h3 h4;omega
  val:=Am ⟨_,Env.put_same ..,rfl⟩
  upd:=fun k y hy=>by
   simp only [List.mem_singleton,Prod.mk.injEq,Option.some.injEq] at hy
   obtain ⟨rfl,rfl⟩:=hy
   exact .inr (.inr ⟨w.heap.size,[],#[],0,Env.put_same ..,Nat.le_add_right _ _,⟨[_],[],rfl,rfl,rfl⟩,by show (w.heap.push _)[w.heap.size]? = _;simp,rfl,fun e he=>by cases he⟩)
  frame:=fun B hB _=>by
   show (w.heap.push _)[B]? = _
   rw [Array.getElem?_push,if_neg (by omega)]
  size:=by simp
  os:=rfl
  tape:=rfl
  output:=rfl }
def L3 (s:Nat) (k:ByteArray):Nat→List Ch→List Bool→Option (Option (List Ch)×List (Bool×Bool)×List Bool)
 | _,[],path=>some (none,[],path)
 | n+1,.v (.string st)::cs,path=>match D8 cs s with
  | some (a,r)=>match path with
   | true::p=>some (some a,[(k==st,true)],p)
   | false::p=>match L3 s k n r p with
    | some (x,c,q)=>some (x,(k==st,false)::c,q)
    | none=>none
   | []=>none
  | none=>none
 | _,_,_=>none
theorem TI {s:Nat} {k:ByteArray}:∀ {n:Nat} {cs:List Ch} {path:List Bool} {x:Option (List Ch)} {c:List (Bool×Bool)} {q:List Bool} {es:List MapEntry} {l:List Value},
  L3 s k n cs path=some (x,c,q)→AP c→AH β cs l→W0 s es l→∀ i:Nat,
   match x with
   | some a=>∃ j v,Instr.findNow .string (.string k) es i=some (some (j,v))∧BO β true a v
   | none=>Instr.findNow .string (.string k) es i=some none
 | n,[],path,x,c,q,es,l,h,hc,hl,he,i=>by
  simp only [L3,Option.some.injEq,Prod.mk.injEq] at h
  obtain ⟨rfl,rfl,rfl⟩:=h
  simp only [AH] at hl;subst hl
  cases es with
  | nil=>rfl
  | cons e es=>have:=he.1;simp at this
 | 0,c0::cs,path,x,c,q,es,l,h,hc,hl,he,i=>by simp [L3] at h
 | n+1,c0::cs,path,x,c,q,es,l,h,hc,⟨l1,l2,h1,h2,h3⟩,he,i=>by
  unfold L3 at h
  split at h
  ·rename_i e;cases e
  ·rename_i st cs' p e1 e2
   injection e2 with e2 e3;subst e2;subst e3;injection e1 with e1;subst e1
   split at h
   case h_2=>cases h
   rename_i a r hs
   simp only [A2] at h1
   obtain ⟨rfl,_⟩:=h1
   cases es with
   | nil=>have:=he.1;rw [h3] at this;simp at this
   | cons e es =>
    obtain ⟨⟨st',hk⟩,cc,hv,hn⟩:=he.2 e (List.mem_cons_self ..)
    have h4:=he.1
    rw [h3,List.flatMap_cons,hk,hv] at h4
    simp only [List.cons_append,List.cons.injEq,Value.string.injEq] at h4
    obtain ⟨h5,h4⟩:=h4
    subst h5
    obtain ⟨f1,f2,f3⟩:=FV hs h2
    have h6:(Value.agg ⟨cc⟩).cells.toList=cc:=rfl
    rw [h6,List.nil_append] at h4
    have h7:l2.take s=cc:=by rw [h4,List.take_left' hn]
    have h8:l2.drop s=es.flatMap fun e=>e.key::e.val.cells.toList:=by rw [h4,List.drop_left' hn]
    rw [h7] at f1
    rw [h8] at f2
    split at h
    ·simp only [Option.some.injEq,Prod.mk.injEq] at h
     obtain ⟨rfl,rfl,rfl⟩:=h
     refine ⟨i,e.val,?_,?_⟩
     ·simp [Instr.findNow,Instr.sameNow,hk,hc.1]
     ·rw [hv];exact ⟨cc,f1,rfl⟩
    ·split at h
     case h_2=>cases h
     rename_i y c' q' hq
     simp only [Option.some.injEq,Prod.mk.injEq] at h
     obtain ⟨rfl,rfl,rfl⟩:=h
     have ih:=TI hq hc.2 f2 ⟨rfl,fun e he'=>he.2 e (List.mem_cons_of_mem _ he')⟩ (i+1)
     have hstep:Instr.findNow .string (.string k) (e::es) i=Instr.findNow .string (.string k) es (i+1):=by
      simp [Instr.findNow,Instr.sameNow,hk,hc.1]
     rw [hstep]
     exact ih
    ·cases h
  ·cases h
def XY (P:Program) (t:TypeId) (x ix:Option AV) (ok:Bool) (H:Heap) (path:List Bool):Option R :=
 match P.underlying t,x,ix with
 | some (.map kT eT),some (.val false [.mp bk]),some (.val false [.v (.string k)])=>match P.underlying kT,P.info? eT,AB H bk with
  | some .string,some inf,some ⟨ty,.mk::cs,_⟩=>match Nat.beq ty (G6+inf.size),ok with
   | true,true=>match L3 inf.size k cs.length cs path with
    | some (some a,c,q)=>some ⟨.tup [(true,a),(false,[.b true])],[],0,c,q⟩
    | some (none,c,q)=>match inf.zero with
     | some (.agg ⟨z⟩)=>match It z with
      | some zc=>some ⟨.tup [(true,zc),(false,[.b false])],[],0,c,q⟩
      | none=>none
     | _=>none
    | none=>none
   | _,_=>none
  | _,_,_=>none
 | _,_,_=>none
theorem iT {B bk:Nat} {blk:Blk} {cs:List Ch} (g:Good β H w) (hB:β bk=some (.at_ B (0,0))) (hb:AB H bk=some blk) (hcs:blk.cs=.mk::cs) (ht:G6≤blk.ty) :
  ∃ l es clock,AH β cs l∧w.heap[B]? = some (.map es clock)∧W0 (blk.ty-G6) es.toList l:=by
 rcases g.heap _ _ hb with ⟨B',n,l,t,pre,ty,fz,h1,h2,h3,h4,h5⟩ | ⟨h1,_⟩ | ⟨B',l,es,q,h1,h2,h3,h4⟩
 ·exfalso
  rw [hB] at h1;injection h1 with h1;injection h1 with _ h1;subst h1
  obtain ⟨_,_,_,_,h6,_⟩:=h5 (fun e=>by rw [e] at ht;exact absurd ht (by decide))
  rw [hcs] at h2
  have:=NZ h2
  simp only [Ho,DN] at this
  simp at h6
  rw [h6.1] at this
  simp at this
  omega
 ·rw [hB] at h1;cases h1
 ·rw [hB] at h1;injection h1 with h1;injection h1 with h1 _;subst h1
  rw [hcs] at h3
  obtain ⟨l1,l2,h3,h5,h6⟩:=h3
  simp only [A2] at h3
  subst h3
  simp only [List.singleton_append,List.cons.injEq,true_and] at h6
  subst h6
  exact ⟨_,es,q,h5,h4⟩
theorem ABa {t:TypeId} {x ix:Option AV} {u v:Value} {ok:Bool} {path:List Bool} {r:R} (g:Good β H w) (hx:∀ A,x=some A→AG β A u) (hi:∀ A,ix=some A→AG β A v)
  (h:XY P t x ix ok H path=some r) (hc:AP r.conds) (fr:Nat):∃ z,(Instr.lookup t u v ok).run P w=.ok z w∧Eff β fr r w z w β:=by
 unfold XY at h
 split at h
 case h_2=>cases h
 rename_i kT eT bk k hu
 obtain ⟨B,hB,h1⟩:=An (hx _ rfl)
 injection h1 with h1 _
 subst h1
 have h2:=(An (hi _ rfl)).1
 injection h2 with h2 _
 subst h2
 split at h
 case h_2=>cases h
 rename_i inf ty cs o hk he hb
 split at h
 case h_2=>cases h
 rename_i hty
 obtain ⟨l,es,clock,q1,q2,q3⟩:=iT g hB hb rfl (by rw [Ad.1 hty];exact Nat.le_add_right _ _)
 simp only [Ad.1 hty,Nat.add_sub_cancel_left] at q3
 have hkey:(Instr.checkKey es.isEmpty 10000 kT (.string k)).run P w=.ok () w:=by
  unfold Instr.checkKey
  simp only [Sem.run_bind,run_underlying hk,Result.andThen]
  rfl
 split at h
 ·rename_i a c q hf
  injection h with h;subst h
  obtain ⟨j,y,e1,e2⟩:=TI hf hc q1 q3 0
  refine ⟨.tuple #[y,.bool true],?_,Eff.pure_ g ⟨_,⟨y,_,e2,⟨_,_,Am rfl,rfl,rfl⟩,rfl⟩,rfl⟩⟩
  simp [Instr.lookup,run_underlying hu,Result.andThen,Go.MapKept.run_getObj_map q2,hkey,Go.MapKept.run_findKey hk e1]
 ·rename_i c q hf
  split at h
  case h_2=>cases h
  rename_i z hz
  split at h
  case h_2=>cases h
  rename_i zc hzc
  injection h with h;subst h
  have e1:=TI hf hc q1 q3 0
  refine ⟨.tuple #[.agg ⟨z⟩,.bool false],?_,Eff.pure_ g ⟨_,⟨_,_,⟨z,Nh hzc,rfl⟩,⟨_,_,Am rfl,rfl,rfl⟩,rfl⟩,rfl⟩⟩
  simp [Instr.lookup,run_underlying hu,Result.andThen,Go.MapKept.run_getObj_map q2,hkey,Go.MapKept.run_findKey hk e1,zeroValue,typeInfo,he,hz]
 ·cases h
def XZ (P:Program) (t:TypeId) (m k v:Option AV) (H:Heap) (path:List Bool):Option R :=
 match P.underlying t,m,k,v with
 | some (.map kT _),some (.val false [.mp bk]),some (.val false [.v (.string k)]),some (.val true vc)=>match P.underlying kT,AB H bk with
  | some .string,some ⟨ty,.mk::cs,o⟩=>match Nat.beq ty (G6+Ho vc),L3 (Ho vc) k cs.length cs path with
   | true,some (none,c,q)=>some ⟨.any,[(bk,some ⟨ty,.mk::(cs++.v (.string k)::vc),o⟩)],0,c,q⟩
   | _,_=>none
  | _,_=>none
 | _,_,_,_=>none
theorem ABb {t:TypeId} {x k y:Option AV} {u s v:Value} {path:List Bool} {r:R} (g:Good β H w) (hx:∀ A,x=some A→AG β A u) (hk:∀ A,k=some A→AG β A s) (hy:∀ A,y=some A→AG β A v)
  (h:XZ P t x k y H path=some r) (hc:AP r.conds) (fr:Nat):∃ w',(Instr.mapUpdate t u s v).run P w=.ok () w'∧Eff β fr r w undef w' β:=by
 unfold XZ at h
 split at h
 case h_2=>cases h
 rename_i kT eT bk kk vc hu
 obtain ⟨B,hB,h1⟩:=An (hx _ rfl)
 injection h1 with h1 _
 subst h1
 have h2:=(An (hk _ rfl)).1
 injection h2 with h2 _
 subst h2
 obtain ⟨vl,hv,rfl⟩:=hy _ rfl
 split at h
 case h_2=>cases h
 rename_i ty cs o hkT hb
 split at h
 case h_2=>cases h
 rename_i c q hty hf
 injection h with h;subst h
 have hle:G6≤ty:=by rw [Ad.1 hty];exact Nat.le_add_right _ _
 obtain ⟨l,es,clock,q1,q2,q3⟩:=iT g hB hb rfl hle
 simp only [Ad.1 hty,Nat.add_sub_cancel_left] at q3
 have e1:=TI hf hc q1 q3 0
 have hkey:(Instr.checkKey false 10000 kT (.string kk)).run P w=.ok () w:=by
  unfold Instr.checkKey
  simp only [Sem.run_bind,run_underlying hkT,Result.andThen]
  rfl
 obtain ⟨s1,s2⟩:=Go.MapKept.heap_set (o':=.map (es.push { key:=.string kk,val:=.agg ⟨vl⟩,born:=clock }) (clock+1)) q2
 refine ⟨{ w with heap:=w.heap.setIfInBounds B (.map (es.push { key:=.string kk,val:=.agg ⟨vl⟩,born:=clock }) (clock+1)) },?_,?_⟩
 ·simp [Instr.mapUpdate,run_underlying hu,Result.andThen,Go.MapKept.run_getObj_map q2,hkey,Go.MapKept.run_findKey hkT e1,Go.MapKept.run_setObj_map _ q2]
 ·exact {
   ext:=Env.le_refl β
   new:=fun _ _ h=>.inl h
   lt:=fun b B' m h=>by have:=g.lt _ _ _ h;simpa using this
   inj:=fun b b' _ _ _ h1 _ h3=>by simp at h3;omega
   val:=trivial
   upd:=fun k y hy=>by
    simp only [List.mem_singleton,Prod.mk.injEq,Option.some.injEq] at hy
    obtain ⟨rfl,rfl⟩:=hy
    refine .inr (.inr ⟨B,l++(.string kk::vl),_,_,hB,hle,⟨[_],_,rfl,J7 q1 ⟨[_],vl,⟨rfl,rfl,trivial⟩,hv,rfl⟩,rfl⟩,s1,?_,?_⟩)
    ·rw [Array.toList_push,List.flatMap_append,← q3.1,List.flatMap_cons,List.flatMap_nil,List.append_nil]
     rfl
    ·intro e he
     simp only [Array.toList_push,List.mem_append,List.mem_singleton] at he
     simp only [Ad.1 hty,Nat.add_sub_cancel_left]
     rcases he with he | rfl
     ·exact q3.2 e he
     ·exact ⟨⟨_,rfl⟩,vl,rfl,NZ hv⟩
   frame:=fun B' hB' hne=>s2 B' fun e=>hne _ _ (0,0) (List.mem_singleton.2 rfl) (by rw [e];exact hB)
   size:=by simp
   os:=rfl
   tape:=rfl
   output:=rfl }
end
abbrev ASpec:=List AV→Heap→Nat→List Bool→Option R
structure Orc where
 call:FuncId→Option ASpec
 eqt:TypeId→Option (List (Option IntKind))
def Aq (β:Env):List AV→List Value→Prop
 | [],l=>l=[]
 | x::xs,l=>∃ u us,AG β x u∧Aq β xs us∧l=u::us
theorem iU {β:Env}:∀ {xs ys:List AV} {us vs:List Value},Aq β xs us→Aq β ys vs→Aq β (xs++ys) (us++vs)
 | [],_,us,_,h,k=>by simp only [Aq] at h;subst h;simpa using k
 | x::xs,ys,us,vs,⟨u,us',h1,h2,h3⟩,k=>⟨u,us'++vs,h1,iU h2 k,by simp [h3]⟩
def KC (P:Program) (f:FuncId) (args:Array Value) (w:World) (R:Ending→World→Prop):Prop :=
 match (callFunc f args).run P w with
 | .ok (.value v) w'=>R (.returned v) w'
 | .ok (.enter f' args') w'=>Calls P f' args' w' R
 | _=>False
def TJ (β:Env) (fr:Nat) (r:R) (w:World):Ending→World→Prop:=fun e w'=>∃ u β',e=.returned u∧Eff β fr r w u w' β'
def A6 (P:Program) (f:FuncId) (s:ASpec):Prop :=
 ∀ (args:List AV) (H:Heap) (fr:Nat) (path:List Bool) (r:R) (β:Env) (us:List Value) (w:World),s args H fr path=some r→AP r.conds→Aq β args us→Good β H w →
  (∀ b,fr≤b→b<fr+r.nw→β b=none)→KC P f ⟨us⟩ w (TJ β fr r w)
structure OrcOk (P:Program) (O:Orc):Prop where
 call:∀ f s,O.call f=some s→A6 P f s
 eqt:∀ t ks,O.eqt t=some ks→EA P 20 t=some ks∧P.eqGuardType P.depth t=false∧(match P.underlying t with | some d=>wide d | none=>false)=true
def L4 (τ:Nat→AV):List Operand→Option (List AV)
 | []=>some []
 | x::xs=>match BG τ x,L4 τ xs with
  | some a,some r=>some (a::r)
  | _,_=>none
theorem Xa {β:Env} {τ:Nat→AV} {a:Act} (ht:∀ t,AG β (τ t) (a.tmps.getD t undef)):∀ {xs:List Operand} {r:List AV},L4 τ xs=some r→Aq β r (xs.map a.eval)
 | [],r,h=>by simp only [L4,Option.some.injEq] at h;subst h;rfl
 | x::xs,r,h=>by
  simp only [L4] at h
  split at h
  ·rename_i A r' h1 h2
   injection h with h;subst h
   exact ⟨_,_,Hs ht h1,Xa ht h2,rfl⟩
  ·cases h
def TK:List (Nat×Nat)→List AV
 | []=>[]
 | (b,o)::r=>.val false [.p b o]::TK r
theorem iV {β:Env}:∀ {caps:List (Nat×Nat)} {ps:List Value},D6 β caps ps→Aq β (TK caps) ps
 | [],ps,h=>by simpa [D6,Aq,TK] using h
 | (b,o)::r,ps,⟨B,n,l',h1,h2,h3⟩=>⟨_,l',Am ⟨B,n,h1,rfl⟩,iV h2,h3⟩
def Ph:List AV→Option (List (Nat×Nat))
 | []=>some []
 | .val false [.p b o]::r=>match Ph r with | some l=>some ((b,o)::l) | none=>none
 | _=>none
theorem iW {β:Env}:∀ {xs:List AV} {caps:List (Nat×Nat)} {us:List Value},Ph xs=some caps→Aq β xs us→D6 β caps us
 | [],caps,us,h,hr=>by simp only [Ph,Option.some.injEq] at h;subst h;simpa [D6,Aq] using hr
 | x::xs,caps,us,h,hr=>by
  unfold Ph at h
  split at h
  ·cases ‹_::_=[]›
  ·rename_i b o r he
   injection he with e1 e2;subst e1;subst e2
   split at h
   ·rename_i l hl
    injection h with h;subst h
    obtain ⟨u,us',h1,h2,h3⟩:=hr
    obtain ⟨B,n,e1,e2⟩:=An h1
    injection e2 with e2 _;subst e2
    exact ⟨B,n,us',e1,iW hl h2,h3⟩
   ·cases h
  ·cases h
def Xb (P:Program) (t:TypeId) (x:Option AV) (path:List Bool):Option R :=
 match P.underlying t,x with
 | some (.slice _),some (.val false [.v (.slice none _ m)])=>match AI .i64 m with
  | true=>some (BS (.val false [.n .i64 m]) path)
  | false=>none
 | some (.slice _),some (.val false [.sl _ _ _ m])=>some ⟨.val false [.v (.int .i64 m)],[],0,[(AI .i64 m,true)],path⟩
 | _,_=>none
theorem ABc {P:Program} {β:Env} {H:Heap} {w:World} {t ty:TypeId} {x:Option AV} {u:Value} {path:List Bool} {r:R} (g:Good β H w) (hx:∀ A,x=some A→AG β A u) (h:Xb P t x path=some r) (hc:AP r.conds) (fr:Nat) :
  ∃ v,(Builtin.cap_ #[t] ty #[u]).run P w=.ok v w∧Eff β fr r w v w β:=by
 unfold Xb at h
 split at h
 ·rename_i e len m hu
  split at h
  ·rename_i hh
   injection h with h;subst h
   have:=(An (hx _ rfl)).1
   injection this with e2 _;subst e2
   refine ⟨.int .i64 m,?_,Eff.pure_ g (Am ⟨rfl,(Dq _ _).2 hh⟩)⟩
   simp [Builtin.cap_,run_underlying hu,goInt]
  ·cases h
 ·rename_i e bk off len m hu
  injection h with h;subst h
  refine ⟨.int .i64 m,?_,Eff.pure_ g (Am ⟨rfl,rfl,(Dq _ _).2 hc.1⟩)⟩
  rcases An (hx _ rfl) with ⟨B,n,e1,e2⟩ | ⟨_,_,_,rfl,e2⟩
  ·injection e2 with e2 _;subst e2
   simp [Builtin.cap_,run_underlying hu,goInt]
  ·injection e2 with e2 _;subst e2
   simp [Builtin.cap_,run_underlying hu,goInt]
 ·cases h
def Xc (P:Program) (ts:Array TypeId) (s x:Option AV) (fr:Nat) (path:List Bool):Option R :=
 match ts[0]?,ts[1]? with
 | some sT,some xT=>match P.underlying sT,P.underlying xT,s with
  | some (.slice e),some (.int _),some (.val false [.v (.slice none 0 0)])=>match P.info? e,A' x with
   | some inf,some (_,.i64,l)=>match inf.zero with
    | some (.int kd z)=>match decide (z=0),Nat.beq inf.size 1 with
     | true,true=>some (CG fr e inf (.int kd 0) [] [] [.seq kd (List.replicate l.toNat 0)] 0 l.toNat [] [(decide (0≤l∧l≤9223372036854775807),true)] path)
     | _,_=>none
    | _=>none
   | _,_=>none
  | _,_,_=>none
 | _,_=>none
theorem ABd {β:Env} (kd:IntKind) (n:Nat):AH β [.seq kd (List.replicate n 0)] (List.replicate n (.int kd 0)):=by
 have h0:has kd 0:=by cases kd<;>exact ⟨by decide,by decide⟩
 have:=KB (β:=β) (kd:=kd) (xs:=List.replicate n 0) (fun x hx=>by rw [List.eq_of_mem_replicate hx];exact h0)
 rwa [List.map_replicate] at this
theorem ABe {P:Program} {β:Env} {H:Heap} {w:World} {ts:Array TypeId} {ty fr:Nat} {s x:Option AV} {u v:Value} {path:List Bool} {r:R} (g:Good β H w) (hx:∀ A,s=some A→AG β A u) (hy:∀ A,x=some A→AG β A v)
  (h:Xc P ts s x fr path=some r) (hc:AP r.conds) (hf:∀ b,fr≤b→b<fr+r.nw→β b=none) :
  ∃ q w' β',(Builtin.append_ ts ty #[u,v]).run P w=.ok q w'∧Eff β fr r w q w' β':=by
 unfold Xc at h
 split at h
 case h_2=>cases h
 rename_i sT xT h0 h1
 split at h
 case h_2=>cases h
 rename_i e k hu hd
 split at h
 case h_2=>cases h
 rename_i inf c l hi hl
 split at h
 case h_2=>cases h
 rename_i kd z hz
 split at h
 case h_2=>cases h
 rename_i hz0 hsz
 injection h with h;subst h
 have hfr:=hf fr (Nat.le_refl _) (by simp [CG])
 obtain rfl:=of_decide_eq_true hz0
 have hsz:=Ad.1 hsz
 have:=(An (hx _ rfl)).1
 injection this with e1 _;subst e1
 obtain ⟨rfl,hr⟩:=Bt hy hl
 obtain ⟨c1,c2,_⟩:=hc
 have c1:=of_decide_eq_true c1
 have c2:=of_decide_eq_true c2
 obtain ⟨n,rfl⟩:=Int.eq_ofNat_of_zero_le c1.1
 rw [Int.toNat_natCast,Nat.zero_add] at c2
 rw [Int.toNat_natCast]
 have hw:IntKind.i64.wrap (n:Int)=n:=by rw [IntKind.wrap_i64];omega
 have hneg:¬ ((n:Int)<0):=by omega
 have hle:n*inf.bytes≤281474976710656:=by
  have:2*n*inf.bytes=2*(n*inf.bytes):=Nat.mul_assoc ..
  omega
 have hbig:¬ (281474976710656<(n:Int)*inf.bytes):=by
  have:(n:Int)*inf.bytes=((n*inf.bytes:Nat):Int):=by simp
  omega
 rcases Nat.eq_zero_or_pos n with hn0 | hpos
 ·subst hn0
  refine ⟨.slice none 0 0,w,β.put fr .nil,?_,TF g hfr rfl ⟨[],[],⟨rfl,by simp⟩,rfl,rfl⟩ (by simp)⟩
  simp [Builtin.append_,h0,h1,run_underlying hu,run_underlying hd,sizeOf,typeInfo,hi,asInt,asIntOf,IntKind.wrap_i64]
 ·have hc1:¬ (281474976710656<Builtin.nextslicecap n 0*inf.bytes):=by
   have:=Nat.mul_le_mul_right inf.bytes (iO (need:=n) (old:=0) (by omega))
   omega
  have hb0:¬ inf.bytes=0:=by omega
  have hn0:¬ n=0:=by omega
  refine ⟨_,_,_,?_,iS (c:=(Question.appendCap n 0 e).cut (w.tape w.drawn (.appendCap n 0 e))) (lo:=[]) (ln:=List.replicate n (.int kd 0)) (rest:=(Builtin.zeroCells #[.int kd 0] ((Question.appendCap n 0 e).cut (w.tape w.drawn (.appendCap n 0 e))-n)).toList) g hfr rfl (ABd kd n) (by simp) (by simp only [Question.cut];omega) ?_ ?_⟩
  ·simp [Builtin.append_,h0,h1,run_underlying hu,run_underlying hd,sizeOf,typeInfo,hi,asInt,asIntOf,hw,hneg,hbig,hn0,hc1,hb0,Question.forced,zeroValue,hz,newRow,Builtin.firstCells]
   rw [if_neg (by omega),if_neg (by rw [hsz,Nat.mul_one];exact hn0)]
   have hz1:Builtin.zeroCells (Value.int kd 0).cells n=⟨List.replicate n (.int kd 0)⟩:=by
    apply Array.ext'
    refine List.ext_getElem (by simp [Builtin.zeroCells,show (Value.int kd 0).cells=#[Value.int kd 0] from rfl]) fun i h1 h2=>?_
    simp [Builtin.zeroCells,show (Value.int kd 0).cells=#[Value.int kd 0] from rfl,Nat.mod_one]
   rw [hz1]
   congr 3
   apply Array.ext'
   rw [Array.toList_append]
   rfl
  ·simp only [List.nil_append,List.length_append,List.length_replicate,iQ,hsz,Nat.mul_one]
   simp only [Question.cut]
   rw [show #[Value.int kd 0].size=1 from rfl]
   omega
  ·exact iR (.int kd 0) rfl _
def Xd (P:Program) (O:Orc) (c:Call) (τ:Nat→AV) (H:Heap) (fr:Nat) (path:List Bool):Option R :=
 match L4 τ c.args.toList with
 | none=>none
 | some args=>match c.callee with
  | .value f=>match BG τ f with
   | some (.val false [.v (.func (.func id) ⟨[]⟩ ⟨[]⟩)])=>match O.call id with
    | some s=>s args H fr path
    | none=>none
   | some (.val false [.clo id caps])=>match O.call id with
    | some s=>s (args++TK caps) H fr path
    | none=>none
   | some (.val false [.mth id bk off])=>match O.call id with
    | some s=>s (.val true [.p bk off]::args) H fr path
    | none=>none
   | _=>none
  | .builtin .len=>match args,c.argTypes[0]? with
   | [x],some t=>match Nat.beq c.argTypes.size 1 with
    | true=>XP P t (some x) path
    | false=>none
   | _,_=>none
  | .builtin .max=>match args with
   | [x,y]=>TA true (some x) (some y) path
   | _=>none
  | .builtin .min=>match args with
   | [x,y]=>TA false (some x) (some y) path
   | _=>none
  | .builtin .copy=>match args,c.argTypes.toList with
   | [x,y],[dT,_]=>TD P dT (some x) (some y) H path
   | _,_=>none
  | .builtin .clear=>match args,c.argTypes.toList with
   | [x],[t]=>XR P t (some x) H path
   | _,_=>none
  | .builtin .append=>match args with
   | [x,y]=>match Xc P c.argTypes (some x) (some y) fr path with
    | some r=>some r
    | none=>XU P c.argTypes (some x) (some y) H fr path
   | _=>none
  | .builtin .cap=>match args,c.argTypes.toList with
   | [x],[t]=>Xb P t (some x) path
   | _,_=>none
  | _=>none
def Xe (c x y:Option AV) (path:List Bool):Option R :=
 match D_ c with
 | some (true,z)=>match z,x,y with
  | true,some A,_=>some (BS A path)
  | false,_,some A=>some (BS A path)
  | _,_,_=>none
 | some (false,z)=>match path,x,y with
  | true::rest,some A,_=>some ⟨A,[],0,[(z,true)],rest⟩
  | false::rest,_,some A=>some ⟨A,[],0,[(z,false)],rest⟩
  | _,_,_=>none
 | none=>none
def TL (k:IntKind):List (Option IntKind)→Bool
 | []=>true
 | some k'::r=>decide (k'=k)&&TL k r
 | none::_=>false
def Xf (ks:List (Option IntKind)) (a b:List Ch):Option Bool :=
 match ks with
 | some k::_=>match Ak k a,Ak k b,TL k ks with
  | some xs,some ys,true=>match Nat.beq xs.length ks.length&&Nat.beq ys.length ks.length with
   | true=>some (decide (xs=ys))
   | false=>none
  | _,_,_=>none
 | _=>none
theorem Xg {k:IntKind}:∀ {ks:List (Option IntKind)} {xs:List Int},TL k ks=true→xs.length=ks.length→BT ks (xs.map (.int k))
 | [],[],_,_=>trivial
 | [],_::_,_,h=>by simp at h
 | some k'::r,[],_,h=>by simp at h
 | some k'::r,x::xs,h,hl=>by
  simp only [TL,Bool.and_eq_true,decide_eq_true_eq] at h
  exact ⟨h.1.symm,Xg h.2 (by simpa using hl)⟩
 | none::_,_,h,_=>by cases h
theorem iX {k:IntKind}:∀ {xs ys:List Int},xs.length=ys.length→Bj (xs.map (.int k)) (ys.map (.int k))=decide (xs=ys)
 | [],[],_=>by simp [Bj]
 | [],_::_,h=>by simp at h
 | _::_,[],h=>by simp at h
 | x::xs,y::ys,h=>by
  simp only [List.map_cons,Bj]
  rw [iX (by simpa using h)]
  by_cases h1:x=y<;>by_cases h2:xs=ys<;>simp [h1,h2]
def Xh:Option AV→Option Nat
 | some (.val false [.sl _ _ n _])=>some n
 | some (.val false [.sx _ n _])=>some n
 | _=>none
def Xi (P:Program) (op:BinOp) (t:TypeId) (x y:Option AV) (path:List Bool):Option R :=
 match P.underlying t,Xh x,y with
 | some (.slice _),some n,some (.val false [.v (.slice none 0 0)])=>match op with
  | .eql=>some ⟨.val false [.b false],[],0,[(Nat.beq n 0,false)],path⟩
  | .neq=>some ⟨.val false [.b true],[],0,[(Nat.beq n 0,false)],path⟩
  | _=>none
 | _,_,_=>none
theorem iY {β:Env} {x:Option AV} {u:Value} {n:Nat} (hx:∀ A,x=some A→AG β A u) (h:Xh x=some n) (hn:Nat.beq n 0=false):∃ a c,u=.slice (some a) n c:=by
 have h0:=FW hn
 unfold Xh at h
 split at h
 ·injection h with h;subst h
  rcases An (hx _ rfl) with ⟨B,nn,_,e2⟩ | ⟨_,_,e,_,_⟩
  ·injection e2 with e2 _;exact ⟨_,_,e2⟩
  ·exact absurd e h0
 ·injection h with h;subst h
  rcases An (hx _ rfl) with ⟨B,nn,cap,_,e2,_⟩ | ⟨_,e,_⟩
  ·injection e2 with e2 _;exact ⟨_,_,e2⟩
  ·exact absurd e h0
 ·cases h
theorem ABf {P:Program} {β:Env} {H:Heap} {w:World} {op:BinOp} {t:TypeId} {x y:Option AV} {u v:Value} {X Y:Operand} {path:List Bool} {r:R} (g:Good β H w) (hx:∀ A,x=some A→AG β A u) (hy:∀ A,y=some A→AG β A v)
  (h:Xi P op t x y path=some r) (hc:AP r.conds) (fr:Nat):∃ z,(do eqGuard op t X Y u v;binOp op t u v:Sem Value).run P w=.ok z w∧Eff β fr r w z w β:=by
 unfold Xi at h
 split at h
 case h_2=>cases h
 rename_i e n hu hn
 have:=(An (hy _ rfl)).1
 injection this with e2 _;subst e2
 split at h
 ·injection h with h;subst h
  obtain ⟨a,c,rfl⟩:=iY hx hn hc.1
  refine ⟨.bool false,?_,Eff.pure_ g (Am rfl)⟩
  rw [Sem.run_bind,eqGuard_at_slice]
  simp only [Sem.run_pure,Result.andThen_ok]
  show (do pure (.bool (← Op.equal t (.slice (some a) n c) (.slice none 0 0))):Sem Value).run P w=_
  rw [Sem.run_bind,run_equal_slice_nil w t e (some a) n c hu]
  rfl
 ·injection h with h;subst h
  obtain ⟨a,c,rfl⟩:=iY hx hn hc.1
  refine ⟨.bool true,?_,Eff.pure_ g (Am rfl)⟩
  rw [Sem.run_bind,eqGuard_at_slice]
  simp only [Sem.run_pure,Result.andThen_ok]
  show (do pure (.bool (!(← Op.equal t (.slice (some a) n c) (.slice none 0 0)))):Sem Value).run P w=_
  rw [Sem.run_bind,run_equal_slice_nil w t e (some a) n c hu]
  rfl
 ·cases h
def Xj (P:Program) (O:Orc) (op:BinOp) (t:TypeId) (x y:Option AV) (path:List Bool):Option R :=
 match A' x,A' y with
 | some (c,k,i),some (c',k',j)=>match op with
  | .shl | .shr=>match XB op (c&&c') k i j with
   | some (z,l)=>some ⟨J9 (c&&c') k z,[],0,l,path⟩
   | none=>none
  | _=>match decide (k=k') with
   | true=>match W_ op (c&&c') k i j with
    | some (z,l)=>some ⟨J9 (c&&c') k z,[],0,l,path⟩
    | none=>match XA op i j with
     | some z=>some (BS (Ht (c&&c') z) path)
     | none=>none
   | false=>none
 | _,_=>match D_ x,D_ y,P.underlying t with
  | some (c,b),some (c',b'),some .bool=>match op with
   | .eql=>some (BS (Ht (c&&c') (b==b')) path)
   | .neq=>some (BS (Ht (c&&c') (!(b==b'))) path)
   | _=>none
  | _,_,_=>match x,y,O.eqt t with
   | some (.val false [.v (.string a)]),some (.val false [.v (.string b)]),_=>match op with
    | .eql=>some (BS (Ht false (a.toList==b.toList)) path)
    | .neq=>some (BS (Ht false (!(a.toList==b.toList))) path)
    | _=>none
   | some (.val true a),some (.val true b),some ks=>match Hw (ks.length+2) ks a&&Hw (ks.length+2) ks b,G_ (ks.length+2) a b,op with
    | true,some e,.eql=>some (BS (Ht false e) path)
    | true,some e,.neq=>some (BS (Ht false (!e)) path)
    | _,_,_=>match Xf ks a b,op with
     | some e,.eql=>some (BS (Ht false e) path)
     | some e,.neq=>some (BS (Ht false (!e)) path)
     | _,_=>none
   | x,y,_=>Xi P op t x y path
def Xk (P:Program) (O:Orc) (o:Oper) (τ:Nat→AV) (H:Heap) (fr:Nat) (path:List Bool):Option R :=
 match o.op with
 | .move x | .assign x=>match BG τ x with | some A=>some (BS A path) | none=>none
 | .pick c x y=>Xe (BG τ c) (BG τ x) (BG τ y) path
 | .alloc t=>W3 P t fr path
 | .box t x=>W4 t (BG τ x) fr path
 | .build t parts=>XK P τ t parts.toList path
 | .buildSlice t len parts=>XL P τ t len parts.toList fr path
 | .load t x=>W6 P t (BG τ x) H path
 | .store t x y=>W9 P t (BG τ x) (BG τ y) H path
 | .nilCheck x=>match BG τ x with
  | some (.val false [.p b o])=>some (BS (.val false [.p b o]) path)
  | some (.val false [.clo f c])=>some (BS (.val false [.clo f c]) path)
  | some (.val false [.mth f b o])=>some (BS (.val false [.mth f b o]) path)
  | some (.val false [.v (.func (.func f) a c)])=>some (BS (.val false [.v (.func (.func f) a c)]) path)
  | _=>none
 | .binOp op t x y _=>Xj P O op t (BG τ x) (BG τ y) path
 | .unOp op _ x=>XN op (BG τ x) path
 | .convert s d x=>match XM P s d (BG τ x) path with
  | some r=>some r
  | none=>match XV P s d (BG τ x) H path with
   | some r=>some r
   | none=>XW P s d (BG τ x) H fr path
 | .sliceToArrayPointer t x=>XJ P t (BG τ x) path
 | .makeFunc (.func f) first captured=>match first.toList,L4 τ captured.toList with
  | [],some xs=>match Ph xs with
   | some caps=>some (BS (.val false [.clo f caps]) path)
   | none=>none
  | [x],some []=>match BG τ x with
   | some (.val true [.p bk off])=>some (BS (.val false [.mth f bk off]) path)
   | _=>none
  | _,_=>none
 | .makeSlice t l c=>XO P t (BG τ l) (BG τ c) fr path
 | .slice t x lo hi mx=>XI P t (BG τ x) (lo.map (BG τ)) (hi.map (BG τ)) (mx.map (BG τ)) path
 | .fieldAddr t x f=>XE P t (BG τ x) f path
 | .field t x f=>XF P t (BG τ x) f path
 | .indexAddr t x i=>XH P t (BG τ x) (BG τ i) path
 | .index t x i=>XG P t (BG τ x) (BG τ i) path
 | .extract x i=>match BG τ x with
  | some (.tup xs)=>match xs[i]? with
   | some (g,cs)=>some (BS (.val g cs) path)
   | none=>none
  | _=>none
 | .makeMap t rs=>XX P t rs fr path
 | .lookup t x i ok=>XY P t (BG τ x) (BG τ i) ok H path
 | .mapUpdate t m k x=>XZ P t (BG τ m) (BG τ k) (BG τ x) H path
 | .call c=>Xd P O c τ H fr path
 | _=>none
theorem iZ {β:Env}:∀ {xs:List (Bool×List Ch)} {us:List Value} {i:Nat} {g:Bool} {cs:List Ch},D7 β xs us→xs[i]? = some (g,cs)→∃ u,us[i]? = some u∧BO β g cs u
 | [],_,i,_,_,_,h=>by simp at h
 | (g',c')::xs,us,0,g,cs,⟨u,l',h1,_,h3⟩,h=>by
  simp only [List.getElem?_cons_zero,Option.some.injEq,Prod.mk.injEq] at h
  obtain ⟨rfl,rfl⟩:=h
  exact ⟨u,by simp [h3],h1⟩
 | (g',c')::xs,us,i+1,g,cs,⟨u,l',h1,h2,h3⟩,h=>by
  obtain ⟨v,hv,hr⟩:=iZ h2 (by simpa using h)
  exact ⟨v,by simpa [h3] using hv,hr⟩
section
variable {P:Program} {O:Orc} {β:Env} {H:Heap} {w:World} {τ:Nat→AV} {a:Act}
theorem ABg (hO:OrcOk P O) {op:BinOp} {t:TypeId} {x y:Option AV} {u v:Value} {X Y:Operand} {path:List Bool} {r:R} (g:Good β H w) (hx:∀ A,x=some A→AG β A u) (hy:∀ A,y=some A→AG β A v)
  (h:Xj P O op t x y path=some r) (hc:AP r.conds) (fr:Nat):∃ z,(do eqGuard op t X Y u v;binOp op t u v:Sem Value).run P w=.ok z w∧Eff β fr r w z w β:=by
 unfold Xj at h
 split at h
 ·rename_i c k i c' k' j hi hj
  obtain ⟨rfl,i1⟩:=Bt hx hi
  obtain ⟨rfl,j1⟩:=Bt hy hj
  split at h
  ·split at h
   ·rename_i z l hz
    injection h with h;subst h
    obtain ⟨q1,q2⟩:=g7 (P:=P) (w:=w) (yk:=k') hz hc i1 t X Y
    exact ⟨_,q1,Eff.pure_ g (J_ _ q2)⟩
   ·cases h
  ·split at h
   ·rename_i z l hz
    injection h with h;subst h
    obtain ⟨q1,q2⟩:=g7 (P:=P) (w:=w) (yk:=k') hz hc i1 t X Y
    exact ⟨_,q1,Eff.pure_ g (J_ _ q2)⟩
   ·cases h
  ·split at h
   ·rename_i hk
    have hk':k=k':=by simpa using hk
    subst hk'
    split at h
    ·rename_i z l hz
     injection h with h;subst h
     obtain ⟨q1,q2⟩:=AA5 (P:=P) (w:=w) hz hc i1 t X Y
     exact ⟨_,q1,Eff.pure_ g (J_ _ q2)⟩
    ·split at h
     ·rename_i z hz
      injection h with h;subst h
      exact ⟨_,AA6 (P:=P) (w:=w) hz t X Y,Eff.pure_ g (Iu _ _)⟩
     ·cases h
   ·cases h
 ·split at h
  ·rename_i c b c' b' hb hb' hu
   obtain rfl:=G9 hx hb
   obtain rfl:=G9 hy hb'
   split at h
   ·injection h with h;subst h
    refine ⟨.bool (b==b'),?_,Eff.pure_ g (Iu _ _)⟩
    rw [Sem.run_bind,eqGuard_at_bool]
    simp only [Sem.run_pure,Result.andThen_ok]
    exact run_eql_bool w t b b' hu
   ·injection h with h;subst h
    refine ⟨.bool (!(b==b')),?_,Eff.pure_ g (Iu _ _)⟩
    rw [Sem.run_bind,eqGuard_at_bool]
    simp only [Sem.run_pure,Result.andThen_ok]
    exact run_neq_bool w t b b' hu
   ·cases h
  split at h
  ·rename_i a b _ _
   have e1:=(An (hx _ rfl)).1
   have e2:=(An (hy _ rfl)).1
   injection e1 with e1 _;subst e1
   injection e2 with e2 _;subst e2
   split at h
   ·injection h with h;subst h
    refine ⟨.bool (a.toList==b.toList),?_,Eff.pure_ g (Iu _ _)⟩
    simp [eqGuard,binOp,Op.stringOp]
   ·injection h with h;subst h
    refine ⟨.bool (!(a.toList==b.toList)),?_,Eff.pure_ g (Iu _ _)⟩
    simp [eqGuard,binOp,Op.stringOp]
   ·cases h
  ·rename_i A B ks hk _ _
   obtain ⟨l,hl,rfl⟩:=hx _ rfl
   obtain ⟨m,hm,rfl⟩:=hy _ rfl
   obtain ⟨k1,k2,k3⟩:=hO.eqt _ _ hk
   have core:∀ e,(Hw (ks.length+2) ks A&&Hw (ks.length+2) ks B)=true→G_ (ks.length+2) A B=some e→(Op.equalIn 10000 t (.agg ⟨l⟩) (.agg ⟨m⟩)).run P w=.ok e w:=by
    intro e hf he
    have hf':=Bool.and_eq_true_iff.1 hf
    have:=iF 20 t ks 10000 k1 (by decide) l m (.agg ⟨l⟩) (.agg ⟨m⟩) w (Pe hf'.1 hl) (Pe hf'.2 hm) (by
     unfold Ew;split at k3
     ·rename_i d hd;first | (rw [hd];show (match wide d with | true=>_ | false=>_);rw [k3]) | simp [k3]
     ·cases k3) (by
     unfold Ew;split at k3
     ·rename_i d hd;first | (rw [hd];show (match wide d with | true=>_ | false=>_);rw [k3]) | simp [k3]
     ·cases k3)
    rw [this,g9 he hl hm]
   have core2:∀ e,Xf ks A B=some e→(Op.equalIn 10000 t (.agg ⟨l⟩) (.agg ⟨m⟩)).run P w=.ok e w:=by
    intro e he
    unfold Xf at he
    split at he
    case h_2=>cases he
    rename_i k ks'
    split at he
    case h_2=>cases he
    rename_i xs ys h1 h2 h3
    split at he
    case h_2=>cases he
    rename_i h4
    injection he with he;subst he
    have h4':=Bool.and_eq_true_iff.1 h4
    obtain ⟨rfl,_⟩:=Bu h1 hl
    obtain ⟨rfl,_⟩:=Bu h2 hm
    have e1:=Ad.1 h4'.1
    have e2:=Ad.1 h4'.2
    have:=iF 20 t _ 10000 k1 (by decide) _ _ (.agg ⟨xs.map (.int k)⟩) (.agg ⟨ys.map (.int k)⟩) w (Xg h3 e1) (Xg h3 e2) (by
     unfold Ew;split at k3
     ·rename_i d hd;first | (rw [hd];show (match wide d with | true=>_ | false=>_);rw [k3]) | simp [k3]
     ·cases k3) (by
     unfold Ew;split at k3
     ·rename_i d hd;first | (rw [hd];show (match wide d with | true=>_ | false=>_);rw [k3]) | simp [k3]
     ·cases k3)
    rw [this,iX (e1.trans e2.symm)]
   split at h
   ·rename_i e hf he
    injection h with h;subst h
    refine ⟨.bool e,?_,Eff.pure_ g (Iu _ _)⟩
    rw [Sem.run_bind,run_eqGuard_agg w .eql t X Y _ _ k2]
    simp only [Result.andThen_ok]
    rw [run_eql_struct,core e hf he]
    rfl
   ·rename_i e hf he
    injection h with h;subst h
    refine ⟨.bool !e,?_,Eff.pure_ g (Iu _ _)⟩
    rw [Sem.run_bind,run_eqGuard_agg w .neq t X Y _ _ k2]
    simp only [Result.andThen_ok]
    rw [run_neq_struct,core e hf he]
    rfl
   ·split at h
    ·rename_i e he _ _
     injection h with h;subst h
     refine ⟨.bool e,?_,Eff.pure_ g (Iu _ _)⟩
     rw [Sem.run_bind,run_eqGuard_agg w .eql t X Y _ _ k2]
     simp only [Result.andThen_ok]
     rw [run_eql_struct,core2 e he]
     rfl
    ·rename_i e he _ _
     injection h with h;subst h
     refine ⟨.bool !e,?_,Eff.pure_ g (Iu _ _)⟩
     rw [Sem.run_bind,run_eqGuard_agg w .neq t X Y _ _ k2]
     simp only [Result.andThen_ok]
     rw [run_neq_struct,core2 e he]
     rfl
    ·cases h
  ·exact ABf g hx hy h hc fr
theorem ABh {x y z:Option AV} {u v p:Value} {path:List Bool} {r:R} (g:Good β H w) (hz:∀ A,z=some A→AG β A p) (hx:∀ A,x=some A→AG β A u) (hy:∀ A,y=some A→AG β A v)
  (h:Xe z x y path=some r) (hc:AP r.conds) (fr:Nat):∃ q,(do pure (Next.value (if ← asBool p then u else v)):Sem Next).run P w=.ok (.value q) w∧Eff β fr r w q w β:=by
 unfold Xe at h
 split at h
 ·rename_i b hb
  have:=G9 hz hb
  subst this
  split at h
  ·injection h with h;subst h
   exact ⟨u,by simp [asBool],Eff.pure_ g (hx _ rfl)⟩
  ·injection h with h;subst h
   exact ⟨v,by simp [asBool],Eff.pure_ g (hy _ rfl)⟩
  ·cases h
 ·rename_i b hb
  have:=G9 hz hb
  subst this
  split at h
  ·injection h with h;subst h
   have:=hc.1
   subst this
   exact ⟨u,by simp [asBool],Eff.pure_ g (hx _ rfl)⟩
  ·injection h with h;subst h
   have:=hc.1
   subst this
   exact ⟨v,by simp [asBool],Eff.pure_ g (hy _ rfl)⟩
  ·cases h
 ·cases h
theorem Bc {o:Oper} {next:Act→World→Prop} {Q:Exit→Act→World→Prop} {u:Value} {w':World} (h:(execOp a.eval o).run P w=.ok (.value u) w') (hn:next (a.put o.dst u) w'):o.wp P a w next Q:=by
 unfold Oper.wp;rw [h];exact hn
theorem i0 {o:Oper} {next:Act→World→Prop} {Q:Exit→Act→World→Prop} {w':World} (h:(execOp a.eval o).run P w=.ok .skip w') (hn:next (a.put o.dst undef) w'):o.wp P a w next Q:=by
 unfold Oper.wp;rw [h];exact hn
theorem Dr {s:Sem Value} {u:Value} {w':World} (h:s.run P w=.ok u w'):(do pure (Next.value (← s)):Sem Next).run P w=.ok (.value u) w':=by
 simp [h]
theorem i7 {s:Sem Unit} {w':World} (h:s.run P w=.ok () w'):(do s;pure Next.skip:Sem Next).run P w=.ok .skip w':=by
 simp [h]
theorem Xl {o:Oper} {next:Act→World→Prop} {Q:Exit→Act→World→Prop} {f:FuncId} {us:Array Value} {fr:Nat} {r:R} (h:KC P f us w (TJ β fr r w))
  (he:(execOp a.eval o).run P w=(callFunc f us).run P w) (hn:∀ u w' β',Eff β fr r w u w' β'→next (a.put o.dst u) w'):o.wp P a w next Q:=by
 unfold Oper.wp
 rw [he]
 unfold KC at h
 split at h
 ·rename_i v w' hr
  rw [hr]
  obtain ⟨u,β',e1,e2⟩:=h
  injection e1 with e1;subst e1
  exact hn _ _ _ e2
 ·rename_i f' args' w' hr
  rw [hr]
  refine Calls.mono h fun e w'' hq=>?_
  obtain ⟨u,β',rfl,e2⟩:=hq
  exact hn _ _ _ e2
 ·exact h.elim
theorem ABi (hO:OrcOk P O) (ht:∀ t,AG β (τ t) (a.tmps.getD t undef)) (g:Good β H w) {o:Oper} {c:Call} (ho:o.op=.call c) {fr:Nat} {path:List Bool} {r:R} (h:Xd P O c τ H fr path=some r) (hc:AP r.conds)
  (hf:∀ b,fr≤b→b<fr+r.nw→β b=none) {next:Act→World→Prop} {Q:Exit→Act→World→Prop} (hn:∀ u w' β',Eff β fr r w u w' β'→next (a.put o.dst u) w'):o.wp P a w next Q:=by
 unfold Xd at h
 split at h
 case h_1=>cases h
 rename_i args hargs
 have hrel:=Xa ht hargs
 have hmap:c.args.map a.eval=⟨c.args.toList.map a.eval⟩:=by apply Array.ext';simp
 have hbuiltin:∀ b,c.callee=.builtin b→∃ k,(execOp a.eval o).run P w=(builtin b c.argTypes o.type k (c.args.map a.eval)).run P w:=by
  intro b hb
  refine ⟨c.args.map fun x=>match x with | .const _=>true | _=>false,?_⟩
  simp only [execOp,ho,resolve,hb,Sem.run_bind,Sem.run_pure,Result.andThen_ok,invoke]
  rfl
 split at h
 ·rename_i f hcal
  split at h
  ·rename_i id hev
   split at h
   ·rename_i s hs
    have hr:=(An (Hs ht hev)).1
    injection hr with hr _
    refine Xl (hO.call _ _ hs args H fr path r β _ w h hc hrel g hf) ?_ hn
    simp [execOp,ho,resolve,hcal,hr,Deferred.ofValue,invoke,hmap]
   ·cases h
  ·rename_i id caps hev
   split at h
   ·rename_i s hs
    obtain ⟨ps,hp,hr⟩:=An (Hs ht hev)
    injection hr with hr _
    refine Xl (hO.call _ _ hs _ H fr path r β _ w h hc (iU hrel (iV hp)) g hf) ?_ hn
    simp [execOp,ho,resolve,hcal,hr,Deferred.ofValue,invoke,hmap]
   ·cases h
  ·rename_i id bk off hev
   split at h
   ·rename_i s hs
    obtain ⟨B,n,hb,hr⟩:=An (Hs ht hev)
    injection hr with hr _
    refine Xl (hO.call _ _ hs _ H fr path r β _ w h hc ⟨_,_,⟨_,⟨[_],[],⟨B,n,hb,rfl⟩,rfl,rfl⟩,rfl⟩,hrel,rfl⟩ g hf) ?_ hn
    simp [execOp,ho,resolve,hcal,hr,Deferred.ofValue,invoke,hmap]
   ·cases h
  ·cases h
 ·rename_i hcal
  split at h
  ·rename_i x t hcc
   split at h
   ·rename_i hsz
    obtain ⟨u,us,h1,h2,h3⟩:=hrel
    simp only [Aq] at h2;subst h2
    obtain ⟨v,hv,he⟩:=ABO (ty:=o.type) (u:=u) g (fun A hA=>by injection hA with hA;subst hA;exact h1) h hc fr
    have hat:c.argTypes=#[t]:=by
     have h1:=Ad.1 hsz
     rcases hq:c.argTypes with ⟨l⟩
     rw [hq] at h1 hcc
     cases l with
     | nil=>simp at h1
     | cons y l=>cases l with
      | nil=>simp at hcc;rw [hcc]
      | cons z l=>simp at h1
    refine Bc ?_ (hn _ _ _ he)
    obtain ⟨k,hk⟩:=hbuiltin _ hcal
    rw [hk]
    simp only [builtin,hmap,h3,hat]
    simp [hv]
   ·cases h
  ·cases h
 ·rename_i hcal
  split at h
  ·rename_i x y
   obtain ⟨u,us,h1,h2,h3⟩:=hrel
   obtain ⟨v,us',k1,k2,k3⟩:=h2
   simp only [Aq] at k2;subst k2;subst k3
   obtain ⟨z,hz,he⟩:=iI (P:=P) (ts:=c.argTypes) (ty:=o.type) (u:=u) (v:=v) g (fun A hA=>by injection hA with hA;subst hA;exact h1) (fun A hA=>by injection hA with hA;subst hA;exact k1) h fr
   refine Bc ?_ (hn _ _ _ he)
   obtain ⟨k,hk⟩:=hbuiltin _ hcal
   rw [hk]
   simp only [builtin,hmap,h3]
   simp only at hz
   simp [hz]
  ·cases h
 ·rename_i hcal
  split at h
  ·rename_i x y
   obtain ⟨u,us,h1,h2,h3⟩:=hrel
   obtain ⟨v,us',k1,k2,k3⟩:=h2
   simp only [Aq] at k2;subst k2;subst k3
   obtain ⟨z,hz,he⟩:=iI (P:=P) (ts:=c.argTypes) (ty:=o.type) (u:=u) (v:=v) g (fun A hA=>by injection hA with hA;subst hA;exact h1) (fun A hA=>by injection hA with hA;subst hA;exact k1) h fr
   refine Bc ?_ (hn _ _ _ he)
   obtain ⟨k,hk⟩:=hbuiltin _ hcal
   rw [hk]
   simp only [builtin,hmap,h3]
   simp only at hz
   simp [hz]
  ·cases h
 ·rename_i hcal
  split at h
  ·rename_i x y dT sT hat
   obtain ⟨u,us,h1,h2,h3⟩:=hrel
   obtain ⟨v,us',k1,k2,k3⟩:=h2
   simp only [Aq] at k2;subst k2;subst k3
   obtain ⟨z,w',hz,he⟩:=ABP (sT:=sT) (ty:=o.type) (u:=u) (v:=v) g (fun A hA=>by injection hA with hA;subst hA;exact h1) (fun A hA=>by injection hA with hA;subst hA;exact k1) h hc fr
   have hat':c.argTypes=#[dT,sT]:=by apply Array.ext';rw [hat]
   refine Bc (u:=z) (w':=w') ?_ (hn _ _ _ (by
    refine { he with val:=?_ }
    have hv:r.val=.any:=by
     unfold TD at h
     split at h
     ·split at h
      ·split at h
       ·split at h
        ·injection h with h;subst h;rfl
        ·cases h
       ·cases h
      ·cases h
     ·cases h
    rw [hv];trivial))
   obtain ⟨k,hk⟩:=hbuiltin _ hcal
   rw [hk]
   simp only [builtin,hmap,h3,hat']
   simp [hz]
  ·cases h
 ·rename_i hcal
  split at h
  ·rename_i x t hat
   obtain ⟨u,us,h1,h2,h3⟩:=hrel
   simp only [Aq] at h2;subst h2
   obtain ⟨z,w',hz,he⟩:=ABQ (ty:=o.type) (u:=u) g (fun A hA=>by injection hA with hA;subst hA;exact h1) h hc fr
   have hat':c.argTypes=#[t]:=by apply Array.ext';rw [hat]
   refine Bc (u:=z) (w':=w') ?_ (hn _ _ _ he)
   obtain ⟨k,hk⟩:=hbuiltin _ hcal
   rw [hk]
   simp only [builtin,hmap,h3,hat']
   simp [hz]
  ·cases h
 ·rename_i hcal
  split at h
  ·rename_i x y
   obtain ⟨u,us,h1,h2,h3⟩:=hrel
   obtain ⟨v,us',k1,k2,k3⟩:=h2
   simp only [Aq] at k2;subst k2;subst k3
   have:∃ z w' β',(Builtin.append_ c.argTypes o.type #[u,v]).run P w=.ok z w'∧Eff β fr r w z w' β':=by
    split at h
    ·rename_i r' hr
     injection h with h;subst h
     exact ABe g (fun A hA=>by injection hA with hA;subst hA;exact h1) (fun A hA=>by injection hA with hA;subst hA;exact k1) hr hc hf
    ·exact ABU g (fun A hA=>by injection hA with hA;subst hA;exact h1) (fun A hA=>by injection hA with hA;subst hA;exact k1) h hc hf
   obtain ⟨z,w',β',hz,he⟩:=this
   refine Bc (u:=z) (w':=w') ?_ (hn _ _ _ he)
   obtain ⟨k,hk⟩:=hbuiltin _ hcal
   rw [hk]
   simp only [builtin,hmap,h3]
   simp [hz]
  ·cases h
 ·rename_i hcal
  split at h
  ·rename_i x t hat
   obtain ⟨u,us,h1,h2,h3⟩:=hrel
   simp only [Aq] at h2;subst h2
   obtain ⟨z,hz,he⟩:=ABc (ty:=o.type) (u:=u) g (fun A hA=>by injection hA with hA;subst hA;exact h1) h hc fr
   have hat':c.argTypes=#[t]:=by apply Array.ext';rw [hat]
   refine Bc (u:=z) ?_ (hn _ _ _ he)
   obtain ⟨k,hk⟩:=hbuiltin _ hcal
   rw [hk]
   simp only [builtin,hmap,h3,hat']
   simp [hz]
  ·cases h
 ·cases h
theorem ABj (hO:OrcOk P O) (ht:∀ t,AG β (τ t) (a.tmps.getD t undef)) (g:Good β H w) {o:Oper} {fr:Nat} {path:List Bool} {r:R} (h:Xk P O o τ H fr path=some r) (hc:AP r.conds)
  (hf:∀ b,fr≤b→b<fr+r.nw→β b=none) {next:Act→World→Prop} {Q:Exit→Act→World→Prop} (hn:∀ u w' β',Eff β fr r w u w' β'→next (a.put o.dst u) w'):o.wp P a w next Q:=by
 have ev:∀ (x:Operand) (A:AV),BG τ x=some A→AG β A (a.eval x):=fun x A hA=>Hs ht hA
 have evm:∀ (x:Option Operand),DO β (x.map (BG τ)) (x.map a.eval):=by
  intro x
  cases x with
  | none=>trivial
  | some x=>exact ev x
 unfold Xk at h
 split at h
 case h_1 x ho =>
  split at h
  ·rename_i A hA
   injection h with h;subst h
   exact Bc (by simp [execOp,ho]) (hn _ _ _ (Eff.pure_ g (ev _ _ hA)))
  ·cases h
 case h_2 x ho =>
  split at h
  ·rename_i A hA
   injection h with h;subst h
   exact Bc (by simp [execOp,ho]) (hn _ _ _ (Eff.pure_ g (ev _ _ hA)))
  ·cases h
 case h_3 c x y ho =>
  obtain ⟨q,hq,he⟩:=ABh (P:=P) g (ev c) (ev x) (ev y) h hc fr
  exact Bc (by simp only [execOp,ho];exact hq) (hn _ _ _ he)
 case h_4 t ho =>
  obtain ⟨u,w',β',hq,he⟩:=AAw g h hf
  exact Bc (by simp only [execOp,ho];exact Dr hq) (hn _ _ _ he)
 case h_5 t x ho =>
  obtain ⟨u,w',β',hq,he⟩:=AAx (P:=P) g (ev x) h hf
  exact Bc (by simp only [execOp,ho];exact Dr hq) (hn _ _ _ he)
 case h_6 t parts ho =>
  obtain ⟨u,hq,he⟩:=ABG ht g h fr
  exact Bc (by simp only [execOp,ho];exact Dr hq) (hn _ _ _ he)
 case h_7 t len parts ho =>
  obtain ⟨u,w',β',hq,he⟩:=ABI ht g h hf
  exact Bc (by simp only [execOp,ho];exact Dr hq) (hn _ _ _ he)
 case h_8 t x ho =>
  obtain ⟨u,hq,he⟩:=AAz g (ev x) h hc fr
  exact Bc (by simp only [execOp,ho];exact Dr hq) (hn _ _ _ he)
 case h_9 t x y ho =>
  obtain ⟨w',hq,he⟩:=AA3 g (ev x) (ev y) h hc fr
  exact i0 (by simp only [execOp,ho];exact i7 hq) (hn _ _ _ he)
 case h_10 x ho =>
  split at h
  ·rename_i b off hA
   injection h with h;subst h
   obtain ⟨B,n,e1,e2⟩:=An (ev _ _ hA)
   injection e2 with e2 _
   exact Bc (u:=.pointer (some ⟨B,n.2+off,none⟩)) (by simp [execOp,ho,e2]) (hn _ _ _ (Eff.pure_ g (Am ⟨B,n,e1,rfl⟩)))
  ·rename_i f c hA
   injection h with h;subst h
   obtain ⟨ps,e1,e2⟩:=An (ev _ _ hA)
   injection e2 with e2 _
   exact Bc (u:=.func (.func f) #[] ⟨ps⟩) (by simp [execOp,ho,e2]) (hn _ _ _ (Eff.pure_ g (Am ⟨ps,e1,rfl⟩)))
  ·rename_i f b off hA
   injection h with h;subst h
   obtain ⟨B,n,e1,e2⟩:=An (ev _ _ hA)
   injection e2 with e2 _
   exact Bc (u:=.func (.func f) ⟨[.agg ⟨[.pointer (some ⟨B,n.2+off,none⟩)]⟩]⟩ ⟨[]⟩) (by simp [execOp,ho,e2]) (hn _ _ _ (Eff.pure_ g (Am ⟨B,n,e1,rfl⟩)))
  ·rename_i f x' c hA
   injection h with h;subst h
   have e2:=(An (ev _ _ hA)).1
   injection e2 with e2 _
   exact Bc (u:=.func (.func f) x' c) (by simp [execOp,ho,e2]) (hn _ _ _ (Eff.pure_ g (Am ⟨rfl,rfl,trivial⟩)))
  ·cases h
 case h_11 op t x y yt ho =>
  obtain ⟨u,hq,he⟩:=ABg hO (X:=x) (Y:=y) g (ev x) (ev y) h hc fr
  exact Bc (by simp only [execOp,ho];exact Dr hq) (hn _ _ _ he)
 case h_12 op t x ho =>
  obtain ⟨u,hq,he⟩:=ABK (P:=P) g (ev x) h fr
  exact Bc (by simp only [execOp,ho];exact Dr hq) (hn _ _ _ he)
 case h_13 s d x ho =>
  split at h
  ·rename_i r' hr'
   injection h with h;subst h
   obtain ⟨u,hq,he⟩:=ABJ g (ev x) hr' fr
   exact Bc (by simp only [execOp,ho];exact Dr hq) (hn _ _ _ he)
  ·split at h
   ·rename_i r' hr'
    injection h with h;subst h
    obtain ⟨u,hq,he⟩:=ABW g (ev x) hr' hc fr
    exact Bc (by simp only [execOp,ho];exact Dr hq) (hn _ _ _ he)
   ·obtain ⟨u,w',β',hq,he⟩:=ABY g (ev x) h hf
    exact Bc (by simp only [execOp,ho];exact Dr hq) (hn _ _ _ he)
 case h_14 t x ho =>
  obtain ⟨u,hq,he⟩:=ABD g (ev x) h hc fr
  exact Bc (by simp only [execOp,ho];exact Dr hq) (hn _ _ _ he)
 case h_15 f first captured ho =>
  split at h
  ·rename_i xs h1 h2
   split at h
   ·rename_i caps h3
    injection h with h;subst h
    have hp:=iW h3 (Xa ht h2)
    refine Bc (u:=.func (.func f) #[] ⟨captured.toList.map a.eval⟩) ?_ (hn _ _ _ (Eff.pure_ g (Am ⟨_,hp,rfl⟩)))
    have hfirst:first=#[]:=by apply Array.ext';simpa using h1
    have hmap:captured.map a.eval=⟨captured.toList.map a.eval⟩:=by apply Array.ext';simp
    simp [execOp,ho,Instr.makeFunc,hfirst,hmap]
   ·cases h
  ·rename_i x h1 h2
   split at h
   ·rename_i bk off hA
    injection h with h;subst h
    obtain ⟨l,⟨l1,l2,e1,e2,e3⟩,e4⟩:=ev x _ hA
    simp only [AH] at e2;subst e2
    obtain ⟨B,n,e5,rfl⟩:=e1
    simp only [List.append_nil] at e3;subst e3
    refine Bc (u:=.func (.func f) ⟨[.agg ⟨[.pointer (some ⟨B,n.2+off,none⟩)]⟩]⟩ ⟨[]⟩) ?_ (hn _ _ _ (Eff.pure_ g (Am ⟨B,n,e5,rfl⟩)))
    have hfirst:first=#[x]:=by apply Array.ext';simpa using h1
    have hcap:captured=#[]:=by
     apply Array.ext'
     cases hq:captured.toList with
     | nil=>rfl
     | cons y l =>
      rw [hq] at h2
      simp only [L4] at h2
      split at h2<;>simp at h2
    simp [execOp,ho,Instr.makeFunc,hfirst,hcap,e4]
   ·cases h
  ·cases h
 case h_16 t l c ho =>
  obtain ⟨u,w',β',hq,he⟩:=ABN g (ev l) (ev c) h hc hf
  exact Bc (by simp only [execOp,ho];exact Dr hq) (hn _ _ _ he)
 case h_17 t x lo hi mx ho =>
  obtain ⟨u,hq,he⟩:=ABC g (ev x) (evm lo) (evm hi) (evm mx) h hc fr
  exact Bc (by simp only [execOp,ho];exact Dr hq) (hn _ _ _ he)
 case h_18 t x f ho =>
  obtain ⟨u,hq,he⟩:=AA9 g (ev x) h fr
  exact Bc (by simp only [execOp,ho];exact Dr hq) (hn _ _ _ he)
 case h_19 t x f ho =>
  obtain ⟨u,hq,he⟩:=AA_ g (ev x) h fr
  exact Bc (by simp only [execOp,ho];exact Dr hq) (hn _ _ _ he)
 case h_20 t x i ho =>
  obtain ⟨u,hq,he⟩:=ABA g (ev x) (ev i) h hc fr
  exact Bc (by simp only [execOp,ho];exact Dr hq) (hn _ _ _ he)
 case h_21 t x i ho =>
  obtain ⟨u,hq,he⟩:=AA' g (ev x) (ev i) h hc fr
  exact Bc (by simp only [execOp,ho];exact Dr hq) (hn _ _ _ he)
 case h_22 x i ho =>
  split at h
  ·rename_i xs hA
   split at h
   ·rename_i gg cs hi
    injection h with h;subst h
    obtain ⟨us,e1,e2⟩:=ev _ _ hA
    obtain ⟨u,e3,e4⟩:=iZ e1 hi
    exact Bc (u:=u) (by simp [execOp,ho,e2,Instr.extract,e3]) (hn _ _ _ (Eff.pure_ g e4))
   ·cases h
  ·cases h
 case h_23 t rs ho =>
  obtain ⟨rfl,u,w',β',hq,he⟩:=ABZ g h hf
  exact Bc (by simp only [execOp,ho];exact Dr hq) (hn _ _ _ he)
 case h_24 t x i ok ho =>
  obtain ⟨u,hq,he⟩:=ABa g (ev x) (ev i) h hc fr
  exact Bc (by simp only [execOp,ho];exact Dr hq) (hn _ _ _ he)
 case h_25 t m k x ho =>
  obtain ⟨w',hq,he⟩:=ABb g (ev m) (ev k) (ev x) h hc fr
  exact i0 (by simp only [execOp,ho];exact i7 hq) (hn _ _ _ he)
 case h_26 c ho=>exact ABi hO ht g ho h hc hf hn
 case h_27=>cases h
end
def Al:List AV→Nat→AV
 | [],_=>.any
 | x::_,0=>x
 | _::r,n+1=>Al r n
def KD:List AV→Nat→AV→List AV
 | [],_,_=>[]
 | _::r,0,v=>v::r
 | x::r,n+1,v=>x::KD r n v
def FC (k:Nat):List Nat→Bool
 | []=>false
 | x::r=>match Nat.beq x k with | true=>true | false=>FC k r
theorem Nr {k:Nat}:∀ {l:List Nat},FC k l=true↔k∈l
 | []=>by simp [FC]
 | x::r=>by
  simp only [FC]
  split
  ·rename_i h;simp [Ad.1 h]
  ·rename_i h
   have:=FW h
   rw [Nr (l:=r)]
   simp [Ne.symm this]
def cat:List Nat→List Nat→List Nat
 | [],l=>l
 | x::r,l=>x::cat r l
theorem CY:∀ (a b:List Nat),cat a b=a++b
 | [],_=>rfl
 | x::r,b=>by simp [cat,CY r b]
def Iv:Ch→List Nat
 | .p b _=>[b]
 | .sl b _ _ _=>[b]
 | .sx b _ _=>[b]
 | .clo _ caps=>caps.map (·.1)
 | .mth _ b _=>[b]
 | .mp b=>[b]
 | _=>[]
def Cr:List Ch→List Nat
 | []=>[]
 | c::r=>cat (Iv c) (Cr r)
def G':List (Bool×List Ch)→List Nat
 | []=>[]
 | (_,cs)::r=>cat (Cr cs) (G' r)
def HA:AV→List Nat
 | .val _ cs=>Cr cs
 | .tup xs=>G' xs
 | .any=>[]
def L5 (τ:Nat→AV):List Nat→List Nat
 | []=>[]
 | t::r=>cat (HA (τ t)) (L5 τ r)
def Iw (H:Heap):List Nat→List Nat
 | []=>[]
 | k::r=>match AB H k with
  | some blk=>cat (Cr blk.cs) (Iw H r)
  | none=>Iw H r
def ABk:Op→Bool
 | .call _=>true
 | _=>false
def FX (o:Oper) (τ:Nat→AV) (ts:List Nat) (H:Heap):List Nat :=
 match ABk o.op with
 | false=>L5 τ ts
 | true=>cat (L5 τ ts) (cat (Iw H (L5 τ ts)) (Iw H (Iw H (L5 τ ts))))
def restrict (H:Heap):List Nat→Heap
 | []=>[]
 | k::r=>match AB H k with
  | some blk=>(k,some blk)::restrict H r
  | none=>restrict H r
def EZ (τ:Nat→AV) (ts:List Nat):Nat→AV:=fun t=>match FC t ts with | true=>τ t | false=>.any
theorem Ix {H:Heap} {b:Nat} {blk:Blk}:∀ {ks:List Nat},AB (restrict H ks) b=some blk→AB H b=some blk
 | [],h=>by simp [restrict,AB] at h
 | k::r,h=>by
  simp only [restrict] at h
  split at h
  ·rename_i blk' hk
   simp only [AB] at h
   split at h
   ·rename_i e;rw [← Ad.1 e,hk];exact h
   ·exact Ix h
  ·exact Ix h
theorem i9 {H H':Heap}:∀ {ks:List Nat},(∀ k∈ks,AB H k=AB H' k)→restrict H ks=restrict H' ks
 | [],_=>rfl
 | k::r,h=>by
  simp only [restrict,h k (by simp)]
  rw [i9 (fun x hx=>h x (by simp [hx]))]
theorem Xm {H H':Heap}:∀ {ks:List Nat},(∀ k∈ks,AB H k=AB H' k)→Iw H ks=Iw H' ks
 | [],_=>rfl
 | k::r,h=>by
  simp only [Iw,h k (by simp)]
  rw [Xm (fun x hx=>h x (by simp [hx]))]
theorem ABl {o:Oper} {τ:Nat→AV} {ts:List Nat} {H H':Heap} (h:∀ k∈FX o τ ts H,AB H k=AB H' k):FX o τ ts H=FX o τ ts H':=by
 unfold FX at h ⊢
 split
 ·rfl
 ·rename_i hc
  simp only [hc,CY,List.mem_append] at h
  have h1:=Xm (H:=H) (H':=H') (ks:=L5 τ ts) (fun k hk=>h k (.inl hk))
  have h2:=Xm (H:=H) (H':=H') (ks:=Iw H (L5 τ ts)) (fun k hk=>h k (.inr (.inl hk)))
  rw [h2,← h1]
theorem ABm {τ τ':Nat→AV} {ts:List Nat} (h:∀ t∈ts,τ t=τ' t):EZ τ ts=EZ τ' ts:=by
 funext t
 unfold EZ
 split
 ·rename_i hm;exact h t (Nr.1 hm)
 ·rfl
theorem ABn {β:Env} {τ:Nat→AV} {ts:List Nat} {a:Act} (h:∀ t,AG β (τ t) (a.tmps.getD t undef)):∀ t,AG β (EZ τ ts t) (a.tmps.getD t undef):=by
 intro t
 unfold EZ
 split
 ·exact h t
 ·trivial
theorem Good.restrict {β:Env} {H:Heap} {w:World} (g:Good β H w) (ks:List Nat):Good β (restrict H ks) w where
 heap:=fun b blk h=>g.heap b blk (Ix h)
 inj:=fun b b' B n n' h h'=>g.inj b b' B n n' (by
  obtain ⟨x,hx,hr⟩:=FB h
  exact EN (Ix hx) hr) (by
  obtain ⟨x,hx⟩:=Option.isSome_iff_exists.1 h'
  rw [Ix hx];rfl)
 lt:=g.lt
def Xn (ops:Array Oper) (o:Oper) (τ:Nat→AV):Option Bool :=
 match o.guard with
 | none=>some true
 | some (j,want)=>match ops[j]? with
  | some oj=>match oj.dst with
   | some t=>match τ t with
    | .val false [.b x]=>some (match x,want with | true,true=>true | false,false=>true | _,_=>false)
    | .tup []=>some false
    | _=>none
   | none=>none
  | none=>none
def ABo (ops:Array Oper) (o:Oper):List Nat :=
 match o.guard with
 | none=>[]
 | some (j,_)=>match ops[j]? with
  | some oj=>match oj.dst with
   | some t=>[t]
   | none=>[]
  | none=>[]
theorem jA {β:Env} {ops:Array Oper} {o:Oper} {τ:Nat→AV} {a:Act} {z:Bool} (ht:∀ t,AG β (τ t) (a.tmps.getD t undef)) (h:Xn ops o τ=some z) :
  Region.wanted o (yielded ops a.tmps)=z:=by
 unfold Xn at h
 unfold Region.wanted
 split at h
 ·rename_i hg;injection h with h;subst h;simp [hg]
 ·rename_i j want hg
  simp only [hg]
  split at h
  ·rename_i oj hj
   split at h
   ·rename_i t hd
    have hr:=ht t
    split at h
    ·rename_i x hτ
     injection h with h
     rw [hτ] at hr
     have hv:=An hr
     simp only [A2,List.cons.injEq,and_true] at hv
     have hsome:a.tmps[t]? = some (.bool x):=by
      rw [Array.getD_eq_getD_getElem?] at hv
      cases hq:a.tmps[t]? with
      | none=>rw [hq] at hv;simp [undef] at hv
      | some q=>rw [hq] at hv;simpa using hv
     simp only [yielded,hj,Option.bind_some,hd,hsome]
     rw [← h]
     cases x<;>cases want<;>rfl
    ·rename_i hτ
     injection h with h
     rw [hτ] at hr
     obtain ⟨us,h1,h2⟩:=hr
     simp only [D7] at h1
     subst h1
     have:∀ b,a.tmps[t]?≠some (.bool b):=by
      intro b hb
      rw [Array.getD_eq_getD_getElem?,hb] at h2
      simp at h2
     have hy:yielded ops a.tmps j=none:=by
      unfold yielded
      rw [hj,Option.bind_some,hd,Option.bind_some]
      cases hq:a.tmps[t]? with
      | none=>rfl
      | some q=>cases q<;>first | rfl | exact absurd hq (this _)
     rw [hy,← h]
     rfl
    ·cases h
   ·cases h
  ·cases h
def Pi (k:Nat):Heap→Bool
 | []=>false
 | (j,_)::r=>match Nat.beq j k with | true=>true | false=>Pi k r
theorem jB {k:Nat}:∀ {u:Heap},Pi k u=true↔∃ y,(k,y)∈u
 | []=>by simp [Pi]
 | (j,y)::r=>by
  simp only [Pi]
  split
  ·rename_i h;have:=Ad.1 h;subst this;exact ⟨fun _=>⟨y,by simp⟩,fun _=>rfl⟩
  ·rename_i h
   have:=FW h
   rw [jB (u:=r)]
   constructor
   ·rintro ⟨z,hz⟩;exact ⟨z,by simp [hz]⟩
   ·rintro ⟨z,hz⟩
    simp only [List.mem_cons,Prod.mk.injEq] at hz
    rcases hz with ⟨e,_⟩ | hz
    ·exact absurd e.symm this
    ·exact ⟨z,hz⟩
def FY (H:Heap) (fr nw:Nat):Heap→Bool
 | []=>true
 | (k,y)::r=>match Pi k r with
  | true=>false
  | false=>match AB H k,y with
   | some b0,_=>match Nat.beq b0.ty BN with
    | false=>FY H fr nw r
    | true=>false
   | none,some _=>match Nat.ble fr k&&Nat.blt k (fr+nw) with
    | true=>FY H fr nw r
    | false=>false
   | none,none=>false
theorem Ns {H:Heap} {fr nw:Nat}:∀ {u:Heap},FY H fr nw u=true →
  (∀ k y,(k,y)∈u→EM H k=true∨(fr≤k∧k<fr+nw∧y≠none))∧(∀ k y y',(k,y)∈u→(k,y')∈u→y=y')
 | [],_=>⟨by simp,by simp⟩
 | (k,y)::r,h=>by
  simp only [FY] at h
  split at h
  ·cases h
  ·rename_i hk
   have hk':∀ z,(k,z) ∉ r:=fun z hz=>by
    rw [jB.2 ⟨z,hz⟩] at hk;cases hk
   have fin:FY H fr nw r=true→(EM H k=true∨(fr≤k∧k<fr+nw∧y≠none)) →
     (∀ k' y',(k',y')∈(k,y)::r→EM H k'=true∨(fr≤k'∧k'<fr+nw∧y'≠none))∧(∀ k' y1 y2,(k',y1)∈(k,y)::r→(k',y2)∈(k,y)::r→y1=y2):=by
    intro hr hh
    obtain ⟨i1,i2⟩:=Ns hr
    refine ⟨fun k' y' hm=>?_,fun k' y1 y2 h1 h2=>?_⟩
    ·simp only [List.mem_cons,Prod.mk.injEq] at hm
     rcases hm with ⟨rfl,rfl⟩ | hm
     ·exact hh
     ·exact i1 _ _ hm
    ·simp only [List.mem_cons,Prod.mk.injEq] at h1 h2
     rcases h1 with ⟨rfl,rfl⟩ | h1
     ·rcases h2 with ⟨_,rfl⟩ | h2
      ·rfl
      ·exact absurd h2 (hk' _)
     ·rcases h2 with ⟨rfl,rfl⟩ | h2
      ·exact absurd h1 (hk' _)
      ·exact i2 _ _ _ h1 h2
   split at h
   ·rename_i b0 _ hg
    split at h
    ·rename_i hro
     exact fin h (.inl (EN hg (Pa hro)))
    ·cases h
   ·rename_i z hg hb
    split at h
    ·rename_i hb
     have hb':=Bool.and_eq_true_iff.1 hb
     refine fin h (.inr ⟨Nat.le_of_ble_eq_true hb'.1,?_,by simp⟩)
     have:=hb'.2
     unfold Nat.blt at this
     exact Nat.le_of_ble_eq_true this
    ·cases h
   ·cases h
theorem KF {b:Nat}:∀ {u H:Heap},(∀ k y y',(k,y)∈u→(k,y')∈u→y=y')→(∀ y,(b,y)∈u→AB (D9 H u) b=y)∧((∀ y,(b,y) ∉ u)→AB (D9 H u) b=AB H b)
 | [],H,_=>⟨by simp,fun _=>rfl⟩
 | (k,y)::r,H,hu=>by
  have hu':∀ k y y',(k,y)∈r→(k,y')∈r→y=y':=fun k y y' h h'=>hu k y y' (by simp [h]) (by simp [h'])
  simp only [D9]
  obtain ⟨i1,i2⟩:=KF (b:=b) (u:=r) (H:=Ir H k y) hu'
  constructor
  ·intro z hz
   by_cases hr:∃ z',(b,z')∈r
   ·obtain ⟨z',hz'⟩:=hr
    rw [i1 z' hz']
    exact hu b _ _ (by simp [hz']) hz
   ·rw [i2 (fun z' hz'=>hr ⟨z',hz'⟩)]
    simp only [List.mem_cons,Prod.mk.injEq] at hz
    rcases hz with ⟨rfl,rfl⟩ | hz
    ·exact AAt _ _ _
    ·exact absurd ⟨z,hz⟩ hr
  ·intro hno
   rw [i2 (fun z hz=>hno z (by simp [hz]))]
   exact AAu _ _ _ _ (fun e=>hno y (by simp [e]))
theorem Good.step {β β':Env} {H:Heap} {fr:Nat} {r:R} {w w':World} {u:Value} (g:Good β H w) (he:Eff β fr r w u w' β') (hu:FY H fr r.nw r.upd=true) (hf:∀ b,fr≤b→b<fr+r.nw→β b=none) :
  Good β' (D9 H r.upd) w':=by
 obtain ⟨u1,u2⟩:=Ns hu
 have old:∀ b B n,β b=some (.at_ B n)→(AB (D9 H r.upd) b).isSome=true→(AB H b).isSome=true:=by
  intro b B n hb hs
  by_cases hk:∃ y,(b,y)∈r.upd
  ·obtain ⟨y,hy⟩:=hk
   rcases u1 _ _ hy with h | ⟨h1,h2,_⟩
   ·exact PW h
   ·rw [hf b h1 h2] at hb;cases hb
  ·rw [(KF u2).2 (fun y hy=>hk ⟨y,hy⟩)] at hs;exact hs
 have oldr:∀ b B n,β b=some (.at_ B n)→EM (D9 H r.upd) b=true→EM H b=true:=by
  intro b B n hb hs
  by_cases hk:∃ y,(b,y)∈r.upd
  ·obtain ⟨y,hy⟩:=hk
   rcases u1 _ _ hy with h | ⟨h1,h2,_⟩
   ·exact h
   ·rw [hf b h1 h2] at hb;cases hb
  ·rw [← gW ((KF u2).2 (fun y hy=>hk ⟨y,hy⟩))];exact hs
 have clash:∀ b b' B n n',(AB (D9 H r.upd) b).isSome=true→β b=some (.at_ B n)→(∀ B' m,some (Loc.at_ B n')=some (Loc.at_ B' m)→w.heap.size≤B'∨∃ k m',(k,none)∈r.upd∧β k=some (.at_ B' m'))→b=b':=by
  intro b b' B n n' hs hb hnew
  rcases hnew B n' rfl with h | ⟨k,m',hk,hk2⟩
  ·have:=g.lt _ _ _ hb;omega
  ·have hbl:=old b B n hb hs
   have hkl:EM H k=true:=by
    rcases u1 _ _ hk with h | ⟨_,_,h⟩
    ·exact h
    ·exact absurd rfl h
   have e:=(g.inj _ _ _ _ _ hkl hbl hk2 hb).symm
   subst e
   rw [(KF u2).1 none hk] at hs
   cases hs
 refine ⟨?_,?_,he.lt⟩
 ·intro b blk hb
  by_cases hk:∃ y,(b,y)∈r.upd
  ·obtain ⟨y,hy⟩:=hk
   rw [(KF u2).1 y hy] at hb
   subst hb
   exact he.upd _ _ hy
  ·rw [(KF u2).2 (fun y hy=>hk ⟨y,hy⟩)] at hb
   have hrel:=g.heap _ _ hb
   refine SH he.ext ?_
   have kept:∀ B n,β b=some (.at_ B n)→w'.heap[B]? = w.heap[B]?:=fun B n e1=>by
    rw [he.frame B (g.lt _ _ _ e1) ?_]
    ·intro k y m hky hkm
     rcases u1 _ _ hky with h | ⟨h1,h2,_⟩
     ·have e:=g.inj _ _ _ _ _ h (by rw [hb];rfl) hkm e1
      subst e
      exact hk ⟨y,hky⟩
     ·rw [hf k h1 h2] at hkm;cases hkm
   rcases hrel with ⟨B,n,l,t,pre,ty,fz,e1,e2,e3,e4⟩ | h | ⟨B,l,es,q,e1,e2,e3,e4,e5⟩
   ·exact .inl ⟨B,n,l,t,pre,ty,fz,e1,e2,by rw [kept B n e1];exact e3,e4⟩
   ·exact .inr (.inl h)
   ·exact .inr (.inr ⟨B,l,es,q,e1,e2,e3,by rw [kept B _ e1];exact e4,e5⟩)
 ·intro b b' B n n' hs hs' hb hb'
  rcases he.new _ _ hb with h | ⟨h1,h2,h3⟩
  ·rcases he.new _ _ hb' with h' | ⟨h1',h2',h3'⟩
   ·exact g.inj _ _ _ _ _ (oldr _ _ _ h hs) (old _ _ _ h' hs') h h'
   ·exact clash b b' B n n' (PW hs) h (fun B' m e=>h3' B' m (by injection e))
  ·rcases he.new _ _ hb' with h' | ⟨h1',h2',h3'⟩
   ·exact (clash b' b B n' n hs' h' (fun B' m e=>h3 B' m (by injection e))).symm
   ·exact he.inj _ _ _ _ _ h1 h1' h2 h2' hb hb'
def Xo (i:Nat):List Oper→Bool
 | []=>false
 | o::r=>match o.guard with
  | some (j,_)=>match Nat.beq j i with | true=>true | false=>Xo i r
  | none=>Xo i r
def Pj (used:Bool) (r:R):Option R :=
 match used,r.val with
 | true,.val false [.v (.bool x)]=>match r.path with
  | d::rest=>some ⟨.val false [.b d],r.upd,r.nw,(x,d)::r.conds,rest⟩
  | []=>none
 | _,_=>some r
theorem ABp {used:Bool} {r r':R} (h:Pj used r=some r') (hc:AP r'.conds):AP r.conds∧r'.upd=r.upd∧r'.nw=r.nw ∧
  (∀ {β:Env} {fr:Nat} {w:World} {u:Value} {w':World} {β':Env},Eff β fr r w u w' β'→Eff β fr r' w u w' β'):=by
 unfold Pj at h
 split at h
 ·rename_i x hv
  split at h
  ·rename_i d rest hp
   injection h with h;subst h
   obtain ⟨h1,h2⟩:=hc
   subst h1
   refine ⟨h2,rfl,rfl,fun he=>⟨he.ext,he.new,he.lt,he.inj,?_,he.upd,he.frame,he.size,he.os,he.tape,he.output⟩⟩
   have:=he.val
   rw [hv] at this
   have:=(An this).1
   injection this with this _;subst this
   exact Am rfl
  ·cases h
 ·injection h with h;subst h
  exact ⟨hc,rfl,rfl,id⟩
def Xp:List Operand→List Nat
 | []=>[]
 | .tmp t::r=>t::Xp r
 | _::r=>Xp r
def Iy (ops:Array Oper) (o:Oper):List Nat:=cat (ABo ops o) (Xp o.op.operands.toList)
def HB (P:Program) (O:Orc) (ops:Array Oper) (i:Nat) (o:Oper) (ts:List Nat) (τ:Nat→AV) (H:Heap) (fr:Nat) (path:List Bool):Option R :=
 match Xn ops o (EZ τ ts) with
 | some false=>some ⟨.tup [],[],0,[],path⟩
 | some true=>match Xk P O o (EZ τ ts) (restrict H (FX o (EZ τ ts) ts H)) fr path with
  | some r=>match FY (restrict H (FX o (EZ τ ts) ts H)) fr r.nw r.upd with
   | true=>Pj (Xo i ops.toList) r
   | false=>none
  | none=>none
 | none=>none
theorem ABq {P:Program} {O:Orc} {ops:Array Oper} {i:Nat} {o:Oper} {ts:List Nat} {τ τ':Nat→AV} {H H':Heap} {fr:Nat} {path:List Bool}
  (h1:∀ t∈ts,τ t=τ' t) (h2:∀ k∈FX o (EZ τ ts) ts H,AB H k=AB H' k):HB P O ops i o ts τ H fr path=HB P O ops i o ts τ' H' fr path:=by
 unfold HB
 rw [← ABm h1,← ABl h2,← i9 h2]
theorem Pk {H:Heap} {ks:List Nat} {fr nw:Nat}:∀ {u:Heap},FY (restrict H ks) fr nw u=true→(∀ k,fr≤k→k<fr+nw→AB H k=none)→FY H fr nw u=true
 | [],_,_=>rfl
 | (k,y)::r,h,hn=>by
  simp only [FY] at h ⊢
  split at h
  ·cases h
  ·split at h
   ·rename_i b hg
    rw [Ix hg]
    simp only
    split at h
    ·exact Pk h hn
    ·cases h
   ·rename_i z hg
    split at h
    ·rename_i hb
     have hb':=Bool.and_eq_true_iff.1 hb
     have h2:k<fr+nw:=by
      have:=hb'.2
      unfold Nat.blt at this
      exact Nat.le_of_ble_eq_true this
     rw [hn k (Nat.le_of_ble_eq_true hb'.1) h2]
     exact Pk h hn
    ·cases h
   ·cases h
theorem Xq {P:Program} {O:Orc} (hO:OrcOk P O) {ops:Array Oper} {i:Nat} {o:Oper} {ts:List Nat} {τ:Nat→AV} {H:Heap} {fr:Nat} {path:List Bool} {r:R} {β:Env} {a:Act} {w:World}
  (ht:∀ t,AG β (τ t) (a.tmps.getD t undef)) (g:Good β H w) (h:HB P O ops i o ts τ H fr path=some r) (hc:AP r.conds) (hf:∀ b,fr≤b→b<fr+r.nw→β b=none)
  (hfH:∀ b,fr≤b→b<fr+r.nw→AB H b=none) {K:Act→World→Prop} {Q:Exit→Act→World→Prop} (ho:ops[i]? = some o)
  (hn:∀ u w' β',Eff β fr r w u w' β'→Good β' (D9 H r.upd) w'→K (a.put o.dst u) w'):wpOp P ops Q i K a w:=by
 have ht':=ABn (ts:=ts) ht
 unfold HB at h
 unfold wpOp
 simp only [ho]
 split at h
 ·rename_i hw
  injection h with h;subst h
  rw [jA ht' hw]
  have he:Eff β fr ⟨.tup [],[],0,[],path⟩ w undef w β:=Eff.pure_ g ⟨[],rfl,rfl⟩
  exact hn _ _ _ he (by simpa [D9] using g)
 ·rename_i hw
  rw [jA ht' hw]
  split at h
  ·rename_i r0 ha
   split at h
   ·rename_i hu
    obtain ⟨c1,c2,c3,c4⟩:=ABp h hc
    have hf0:∀ b,fr≤b→b<fr+r0.nw→β b=none:=by rw [← c3];exact hf
    have hfH0:∀ b,fr≤b→b<fr+r0.nw→AB H b=none:=by rw [← c3];exact hfH
    refine .inl (ABj hO ht' (g.restrict _) ha c1 hf0 fun u w' β' he=>?_)
    have hu':=Pk hu hfH0
    exact hn _ _ _ (c4 he) (g.step (c4 he) (by rw [c2,c3];exact hu') hf)
   ·cases h
  ·cases h
 ·cases h
end Go.Proofs.YtojnabmgolpodaaGreat.Ex
