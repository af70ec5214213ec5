/- Vi, part 1: an interpreter over abstract values. Addresses are replaced by names (Id), slices and tables that are never written again by their contents; it runs a region in the order of the text. Definitions only. -/
import Derived.Orders
import Derived.Laws.Rows
import Derived.Laws.CopyRow
import Derived.Laws.NewBlocks
import Derived.WalkKit
import Derived.Laws.StructEq
import Derived.ChangeKeysEq
namespace Go.Vi

/-- The name of an object: made by the g-th run of the operation that writes slot t; lent by the caller; handed to the caller. -/
inductive Id where
  | own (t g : Nat)
  | bor (k : Nat)
  | ret (k : Nat)
  deriving DecidableEq

/-- An abstract value. -/
inductive V where
  | junk
  | int (k : IntKind) (n : Int)
  | bool (b : Bool)
  | str (s : ByteArray)
  | agg (l : List V)
  | tup (l : List V)
  | lp (id : Id) (off : Nat)
  | sl (id : Id) (off n : Nat) (e : TypeId) (x : Bool)
  | nl
  | e0
  | fs (l : List V)
  | fp (cells : List V) (off : Nat)
  | fn (f : FuncId) (caps : List V)

def isOwn : Id → Bool
  | .own _ _ => true
  | _ => false

structure Ob where
  ty : TypeId
  cells : List V
  fz : Bool

/-- A computation that looks objects up. -/
inductive Rd (α : Type) where
  | pure (a : α)
  | fail
  | look (id : Id) (k : Ob → Rd α)

def Rd.bind {α β : Type} : Rd α → (α → Rd β) → Rd β
  | .pure a, f => f a
  | .fail, _ => .fail
  | .look id k, f => .look id fun o => (k o).bind f

instance : Monad Rd where
  pure := Rd.pure
  bind := Rd.bind

def Rd.run {α : Type} (ob : Id → Option Ob) : Rd α → Option (α × List Id)
  | .pure a => some (a, [])
  | .fail => none
  | .look id k =>
    match ob id with
    | none => none
    | some o =>
      match (k o).run ob with
      | none => none
      | some (a, l) => some (a, id :: l)

def opt {α : Type} : Option α → Rd α
  | some a => .pure a
  | none => .fail

def must (b : Bool) : Rd Unit := if b then .pure () else .fail

def look (id : Id) : Rd Ob := .look id .pure

def V.leaf : V → Bool
  | .agg _ | .tup _ | .junk => false
  | _ => true

def V.flat : V → List V
  | .agg l => l
  | v => [v]

/-- It lies in memory as its cells. -/
def V.ok : V → Bool
  | .agg l => l.all V.leaf
  | v => v.leaf

def ofVal1 : Value → V
  | .bool b => .bool b
  | .int k n => .int k n
  | .string s => .str s
  | .slice none 0 0 => .nl
  | _ => .junk

def ofVal : Value → V
  | .agg cs => .agg (cs.toList.map ofVal1)
  | v => ofVal1 v

section
variable (P : Program)

def aggT (t : TypeId) : Option Bool :=
  match P.underlying t with
  | some (.struct _) | some (.array _ _) => some true
  | some _ => some false
  | none => none

def szT (t : TypeId) : Option Nat := (P.info? t).map (·.size)
def byT (t : TypeId) : Option Nat := (P.info? t).map (·.bytes)
def zeroT (t : TypeId) : Option V := ((P.info? t).bind (·.zero)).map ofVal

/-- What a load of type t at a cell gives. -/
def ld (t : TypeId) (cells : List V) (off : Nat) : Option V :=
  match aggT P t with
  | some true =>
    match szT P t with
    | some n => if off + n ≤ cells.length then some (.agg ((cells.drop off).take n)) else none
    | none => none
  | some false => cells[off]?
  | none => none

def putCells (cells : List V) (off : Nat) (xs : List V) : List V := cells.take off ++ xs ++ cells.drop (off + xs.length)

/-- A value without names. -/
def V.nv : V → Bool
  | .int _ _ | .bool _ | .str _ | .fs _ | .fp _ _ => true
  | .agg l => nvs l
  | .tup l => nvs l
  | _ => false
where nvs : List V → Bool
  | [] => true
  | v :: l => v.nv && nvs l

def chunkA (sz : Nat) : Nat → List V → List V
  | 0, _ => []
  | n + 1, cs => .agg (cs.take sz) :: chunkA sz n (cs.drop sz)

def chunk (ag : Bool) (sz n : Nat) (cs : List V) : List V := if ag then chunkA sz n cs else cs

def idx (id : Id) : List Id → Option Nat
  | [] => none
  | x :: l => if x = id then some 0 else (idx id l).map (· + 1)

def mapRd (f : V → Rd V) : List V → Rd (List V)
  | [] => .pure []
  | v :: l => (f v).bind fun v' => (mapRd f l).bind fun l' => .pure (v' :: l')

/-- A value as it is handed on: names are turned by 'nm', the contents of slices are read. -/
def nrm (nm : Id → Option Id) (bs : Bool) : Nat → V → Rd V
  | 0, _ => .fail
  | d + 1, v =>
    match v with
    | .int k n => .pure (.int k n)
    | .bool b => .pure (.bool b)
    | .str s => .pure (.str s)
    | .nl => .pure (.fs [])
    | .e0 => .pure (.fs [])
    | .fs l => .pure (.fs l)
    | .fp c o => .pure (.fp c o)
    | .agg l => if V.nv.nvs l then .pure (.agg l) else (mapRd (nrm nm bs d) l).bind fun l' => .pure (.agg l')
    | .tup l => if V.nv.nvs l then .pure (.tup l) else (mapRd (nrm nm bs d) l).bind fun l' => .pure (.tup l')
    | .fn f caps => (mapRd (nrm nm bs d) caps).bind fun c => .pure (.fn f c)
    | .lp id off =>
      match nm id with
      | some id' => .pure (.lp id' off)
      | none => .fail
    | .sl id off n e x =>
      match (if bs then nm id else none) with
      | some id' => .pure (.sl id' off n e x)
      | none =>
        .look id fun o =>
          match szT P e, aggT P e with
          | some sz, some ag =>
            if off + n * sz ≤ o.cells.length && (ag || (sz == 1 && ((o.cells.drop off).take (n * sz)).all V.leaf)) then
              if V.nv.nvs ((o.cells.drop off).take (n * sz)) then .pure (.fs (chunk ag sz n ((o.cells.drop off).take (n * sz))))
              else (mapRd (nrm (fun _ => none) false d) ((o.cells.drop off).take (n * sz))).bind fun cs => if ag || cs.all V.leaf then .pure (.fs (chunk ag sz n cs)) else .fail
            else .fail
          | _, _ => .fail
    | .junk => .fail

/-- The names of a value's pointers; with 'bs' of its slices too. -/
def refs (bs : Bool) : Nat → V → List Id
  | 0, _ => []
  | d + 1, v =>
    match v with
    | .lp id _ => [id]
    | .sl id _ _ _ _ => if bs then [id] else []
    | .fn _ caps => caps.flatMap (refs bs d)
    | .agg l => if V.nv.nvs l then [] else l.flatMap (refs bs d)
    | .tup l => if V.nv.nvs l then [] else l.flatMap (refs bs d)
    | _ => []

/-- It leans on no memory. -/
def V.light : Nat → V → Bool
  | 0, _ => false
  | d + 1, v =>
    match v with
    | .int _ _ | .bool _ | .str _ => true
    | .agg l | .tup l => l.all (V.light d)
    | _ => false

def depth : Nat := 8

def dedup : List Id → List Id
  | [] => []
  | x :: l => x :: (dedup l).filter (fun y => y ≠ x)

/-- Back from a callee: its names are the caller's. -/
def back (ids : List Id) (t g : Nat) : Nat → V → Option V
  | 0, _ => none
  | d + 1, v =>
    match v with
    | .lp (.bor k) off => (ids[k]?).map fun id => .lp id off
    | .lp (.ret k) off => some (.lp (.own t (g + k)) off)
    | .sl (.ret k) off n e x => some (.sl (.own t (g + k)) off n e x)
    | .sl (.bor k) off n e x => (ids[k]?).map fun id => .sl id off n e x
    | .lp _ _ | .sl _ _ _ _ _ | .nl | .e0 | .junk | .fn _ _ => none
    | .agg l => if V.nv.nvs l then some (.agg l) else (l.mapM (back ids t g d)).map .agg
    | .tup l => if V.nv.nvs l then some (.tup l) else (l.mapM (back ids t g d)).map .tup
    | v => some v

structure Res where
  v : V
  up : List (Id × Option Ob)
  nw : Nat

def asI : V → Option Int
  | .int _ n => some n
  | _ => none

/-! ### Operators -/
def vInt (op : BinOp) (k : IntKind) (a b : Int) : Option V :=
  match op with
  | .add => some (.int k (k.wrap (a + b)))
  | .sub => some (.int k (k.wrap (a - b)))
  | .mul => some (.int k (k.wrap (a * b)))
  | .quo => if b = 0 then none else some (.int k (k.wrap (a.tdiv b)))
  | .rem => if b = 0 then none else some (.int k (a.tmod b))
  | .and => some (.int k (k.wrap (BitVec.ofInt k.bits a &&& BitVec.ofInt k.bits b).toNat))
  | .or => some (.int k (k.wrap (BitVec.ofInt k.bits a ||| BitVec.ofInt k.bits b).toNat))
  | .xor => some (.int k (k.wrap (BitVec.ofInt k.bits a ^^^ BitVec.ofInt k.bits b).toNat))
  | .eql => some (.bool (a == b))
  | .neq => some (.bool (a != b))
  | .lss => some (.bool (decide (a < b)))
  | .leq => some (.bool (decide (a ≤ b)))
  | .gtr => some (.bool (decide (a > b)))
  | .geq => some (.bool (decide (a ≥ b)))
  | _ => none

def vStr (op : BinOp) (x y : ByteArray) : Option V :=
  match op with
  | .add => if x.size + y.size ≤ 9223372036854775807 then some (.str (x ++ y)) else none
  | .eql => some (.bool (x.toList == y.toList))
  | .neq => some (.bool (!(x.toList == y.toList)))
  | .lss => some (.bool (Op.bytesLess x.toList y.toList))
  | .leq => some (.bool (Op.bytesLess x.toList y.toList || x.toList == y.toList))
  | .gtr => some (.bool (!(Op.bytesLess x.toList y.toList || x.toList == y.toList)))
  | .geq => some (.bool (!(Op.bytesLess x.toList y.toList)))
  | _ => none

def vFlds (eq : TypeId → V → V → Option Bool) : List Field → List V → List V → Option Bool
  | [], _, _ => some true
  | f :: fs, xs, ys =>
    if f.name ≠ "_" then
      match ld P f.type xs f.offset, ld P f.type ys f.offset with
      | some a, some b =>
        match eq f.type a b with
        | some true => vFlds eq fs xs ys
        | r => r
      | _, _ => none
    else vFlds eq fs xs ys

def vElems (eq : TypeId → V → V → Option Bool) (elem : TypeId) (n : Nat) (xs ys : List V) : (m i : Nat) → Option Bool
  | 0, _ => some true
  | m + 1, i =>
    match ld P elem xs (i * n), ld P elem ys (i * n) with
    | some a, some b =>
      match eq elem a b with
      | some true => vElems eq elem n xs ys m (i + 1)
      | r => r
    | _, _ => none

/-- '==' of values without names. -/
def vEq : Nat → TypeId → V → V → Option Bool
  | 0, _, _, _ => none
  | d + 1, t, x, y =>
    match P.underlying t, x, y with
    | some .bool, .bool a, .bool b => some (a == b)
    | some (.int _), .int k a, .int k' b => if k = k' then some (a == b) else none
    | some .string, .str a, .str b => some (a == b)
    | some (.struct fields), .agg xs, .agg ys => if P.stoodInHeld t then none else vFlds P (vEq d) fields.toList xs ys
    | some (.array len elem), .agg xs, .agg ys =>
      match szT P elem with
      | some n => vElems P (vEq d) elem n xs ys len 0
      | none => none
    | _, _, _ => none

def vBin (op : BinOp) (t : TypeId) (x y : V) : Option V :=
  match op, x, y with
  | .shl, .int k a, .int _ b => if b < 0 then none else some (.int k (k.wrap (a * 2 ^ (min b.toNat k.bits))))
  | .shr, .int k a, .int _ b => if b < 0 then none else some (.int k (a.fdiv (2 ^ (min b.toNat k.bits))))
  | op, .int k a, .int k' b => if k = k' then vInt op k a b else none
  | op, .str a, .str b => vStr op a b
  | .eql, .bool a, .bool b => (vEq P 9 t (.bool a) (.bool b)).map .bool
  | .neq, .bool a, .bool b => (vEq P 9 t (.bool a) (.bool b)).map fun r => .bool !r
  | .eql, .agg a, .agg b => if P.eqGuardType P.depth t then none else (vEq P 9 t (.agg a) (.agg b)).map .bool
  | .neq, .agg a, .agg b => if P.eqGuardType P.depth t then none else (vEq P 9 t (.agg a) (.agg b)).map fun r => .bool !r
  | _, _, _ => none

def vUn (op : UnOp) (x : V) : Option V :=
  match op, x with
  | .neg, .int k n => some (.int k (k.wrap (0 - n)))
  | .not, .bool b => some (.bool !b)
  | _, _ => none

def vMax : V → List V → Option V
  | v, [] => some v
  | .int k x, .int _ y :: l => vMax (.int k (if y > x then y else x)) l
  | _, _ => none

def vMin : V → List V → Option V
  | v, [] => some v
  | .int k x, .int _ y :: l => vMin (.int k (if y < x then y else x)) l
  | _, _ => none

def fillV (place : Nat → Option (Nat × Nat)) (cells : List V) : List (Nat × V) → Option (List V)
  | [] => some cells
  | (i, v) :: rest =>
    match place i with
    | none => none
    | some (off, size) =>
      if v.ok && v.flat.length == size && decide (off + size ≤ cells.length) then fillV place (putCells cells off v.flat) rest else none

def repCells (zero : List V) : Nat → List V
  | 0 => []
  | n + 1 => zero ++ repCells zero n

def byteOk : V → Bool
  | .int .u8 _ => true
  | _ => false

def byteI : V → Int
  | .int _ n => n
  | _ => 0

def bytesV (s : ByteArray) : List V := s.data.toList.map fun b => .int .u8 b.toNat

/-- What lies in a slice, as cells. -/
def slCells (v : V) : Rd (List V) :=
  match v with
  | .nl | .e0 => .pure []
  | .fs l => if l.all V.ok then .pure (l.flatMap V.flat) else .fail
  | .sl id off n e _ =>
    .look id fun o =>
      match szT P e with
      | some sz => if off + n * sz ≤ o.cells.length then .pure ((o.cells.drop off).take (n * sz)) else .fail
      | none => .fail
  | _ => .fail

def slLen : V → Option Nat
  | .nl | .e0 => some 0
  | .fs l => some l.length
  | .sl _ _ n _ _ => some n
  | _ => none

/-- 2^47: the bytes that a slice may come to. -/
def room : Nat := 140737488355328

def vAppend (t : TypeId) (s x : V) (fresh : Id) : Rd Res :=
  match P.underlying t with
  | some (.slice e) =>
    match szT P e, byT P e, zeroT P e with
    | some sz, some by_, some z =>
      (match x with
        | .str b => Rd.pure (bytesV b)
        | x => slCells P x).bind fun xs =>
      (opt (match x with | .str b => some b.size | x => slLen x)).bind fun n =>
      if !(xs.all V.leaf && xs.length == n * sz && decide (0 < by_) && decide (0 < sz) && z.ok && z.flat.length == sz) then .fail else
      match s with
      | .nl | .e0 =>
        if n * by_ ≤ room then .pure ⟨.sl fresh 0 n e false, [(fresh, some ⟨e, xs, false⟩)], 1⟩ else .fail
      | .sl id off m e' ex =>
        .look id fun o =>
          if !(e' == e && decide (off + m * sz ≤ o.cells.length) && decide ((m + n) * by_ ≤ room)) then .fail else
          if ex then
            if n = 0 ∧ m ≠ 0 then .pure ⟨s, [], 0⟩
            else .pure ⟨.sl fresh 0 (m + n) e false, [(fresh, some ⟨e, (o.cells.drop off).take (m * sz) ++ xs, false⟩)], 1⟩
          else if off == 0 && m * sz == o.cells.length && !o.fz && isOwn id && o.ty == e then
            .pure ⟨.sl fresh 0 (m + n) e false, [(id, none), (fresh, some ⟨o.ty, o.cells ++ xs, false⟩)], 1⟩
          else .fail
      | _ => .fail
    | _, _, _ => .fail
  | _ => .fail

def vIndexAddr (t : TypeId) (x i : V) : Option V :=
  match asI i, P.underlying t with
  | some n, some (.array len e) =>
    match szT P e with
    | some sz =>
      if 0 ≤ n ∧ n < len then
        match x with
        | .lp id off => some (.lp id (off + n.toNat * sz))
        | .fp c off => some (.fp c (off + n.toNat * sz))
        | _ => none
      else none
    | none => none
  | some n, some (.slice e) =>
    match szT P e with
    | some sz =>
      match x with
      | .sl id off m _ _ => if 0 ≤ n ∧ n < m then some (.lp id (off + n.toNat * sz)) else none
      | .fs l =>
        if 0 ≤ n then
          match l[n.toNat]? with
          | some y => if y.ok && y.flat.length == sz then some (.fp y.flat 0) else none
          | none => none
        else none
      | _ => none
    | none => none
  | _, _ => none

def vIndex (t : TypeId) (x i : V) : Option V :=
  match asI i, P.underlying t, x with
  | some n, some (.array len e), .agg cs =>
    match szT P e with
    | some sz => if 0 ≤ n ∧ n < len then ld P e cs (n.toNat * sz) else none
    | none => none
  | some n, some .string, .str s =>
    if 0 ≤ n then (match s[n.toNat]? with | some b => some (.int .u8 b.toNat) | none => none) else none
  | _, _, _ => none

/-- The bounds of a slice expression: low, high, and the capacity that is asked for. -/
def vBounds (n : Nat) (lo hi mx : Option V) : Option (Nat × Nat × Option Nat) :=
  match (match mx with | some v => (asI v).map some | none => some none) with
  | none => none
  | some m =>
    match (match hi with | some v => asI v | none => some (n : Int)), (match lo with | some v => asI v | none => some 0) with
    | some h, some l =>
      if 0 ≤ l ∧ l ≤ h ∧ h ≤ n then
        match m with
        | none => some (l.toNat, h.toNat, none)
        | some m => if h ≤ m ∧ m ≤ n ∧ hi.isSome then some (l.toNat, h.toNat, some m.toNat) else none
      else none
    | _, _ => none

def vSlice (t : TypeId) (x : V) (lo hi mx : Option V) : Rd V :=
  match P.underlying t, x with
  | some .string, .str s =>
    match vBounds s.size lo hi none, mx with
    | some (l, h, _), none => .pure (.str (s.extract l h))
    | _, _ => .fail
  | some (.array n e), .lp id off =>
    match szT P e, vBounds n lo hi mx with
    | some sz, some (l, h, m) =>
      .look id fun o =>
        if !(decide (off + n * sz ≤ o.cells.length)) then .fail else
        if l = m.getD n then .pure .e0 else .pure (.sl id (off + l * sz) (h - l) e (decide (h = m.getD n)))
    | _, _ => .fail
  | some (.slice e), .sl id off n e' ex =>
    match szT P e, vBounds n lo hi mx with
    | some sz, some (l, h, m) =>
      if !(e' == e) then .fail else
      match m with
      | some m => if l = m then .pure .e0 else .pure (.sl id (off + l * sz) (h - l) e (decide (h = m)))
      | none => if l = 0 ∨ l < h then .pure (.sl id (off + l * sz) (h - l) e (ex && decide (h = n))) else .pure (.fs [])
    | _, _ => .fail
  | some (.slice e), .fs l0 =>
    match szT P e, vBounds l0.length lo hi mx with
    | some sz, some (l, h, m) =>
      if m = some l then .pure .e0 else
      if l = 0 ∨ h = l ∨ ((l0[l]?).any fun x => x.flat.length == sz) = true then .pure (.fs ((l0.drop l).take (h - l))) else .fail
    | _, _ => .fail
  | some (.slice e), .nl =>
    match szT P e, vBounds 0 lo hi mx with
    | some _, some _ => .pure .e0
    | _, _ => .fail
  | some (.slice e), .e0 =>
    match szT P e, vBounds 0 lo hi mx with
    | some _, some _ => .pure .e0
    | _, _ => .fail
  | _, _ => .fail

abbrev Oracle := FuncId → List V → List Ob → Option (V × List Ob × List Ob)

def lookAll : List Id → Rd (List Ob)
  | [] => .pure []
  | id :: l => .look id fun o => (lookAll l).bind fun os => .pure (o :: os)

def mapIds (f : V → Rd (List Id)) : List V → Rd (List Id)
  | [] => .pure []
  | v :: l => (f v).bind fun a => (mapIds f l).bind fun b => .pure (a ++ b)

/-- The names of what is handed on by value. -/
def slIds (nm : Id → Option Id) (bs : Bool) : Nat → V → Rd (List Id)
  | 0, _ => .pure []
  | d + 1, v =>
    match v with
    | .sl id off n e _ =>
      match (if bs then nm id else none) with
      | some _ => .pure []
      | none =>
        .look id fun o =>
          match szT P e with
          | some sz =>
            if V.nv.nvs ((o.cells.drop off).take (n * sz)) then .pure [id]
            else (mapIds (slIds (fun _ => none) false d) ((o.cells.drop off).take (n * sz))).bind fun l => .pure (id :: l)
          | none => .fail
    | .fn _ caps => mapIds (slIds nm bs d) caps
    | .agg l => if V.nv.nvs l then .pure [] else mapIds (slIds nm bs d) l
    | .tup l => if V.nv.nvs l then .pure [] else mapIds (slIds nm bs d) l
    | _ => .pure []

/-- The contents of objects, as they are handed on. -/
def nrmObs : List Ob → Rd (List Ob)
  | [] => .pure []
  | o :: l => if o.fz then .fail else (mapRd (nrm P (fun _ => none) false depth) o.cells).bind fun c => (nrmObs l).bind fun r => .pure (⟨o.ty, c, false⟩ :: r)

def freezeAll : List Id → Rd (List (Id × Option Ob))
  | [] => .pure []
  | id :: l => .look id fun o => (freezeAll l).bind fun r => .pure ((id, some { o with fz := true }) :: r)

def apart (a b : List Id) : Bool := a.all fun x => !b.contains x

def obsNv (l : List Ob) : Bool := l.all fun o => V.nv.nvs o.cells && !o.fz
def obsLight (l : List Ob) : Bool := l.all fun o => o.cells.all (V.light depth)

def newUps (t g : Nat) : Nat → List Ob → List (Id × Option Ob)
  | _, [] => []
  | k, o :: l => (.own t (g + k), some o) :: newUps t g (k + 1) l

/-- What the interpreter is told: the package's tables; which functions write into slices that are handed to them; which hand out slices that are theirs alone. -/
structure Env where
  gl : Nat → Option (List V)
  mutA : FuncId → Bool
  ownR : FuncId → Bool

def vCall (E : Env) (C : Oracle) (f : V) (args : List V) (t g : Nat) : Rd Res :=
  match f with
  | .fn f caps =>
    let as := args ++ caps
    let bs := E.mutA f
    let ids := dedup (as.flatMap (refs bs depth))
    let nm := fun id => (idx id ids).map Id.bor
    (mapRd (nrm P nm bs depth) as).bind fun as' =>
    (lookAll ids).bind fun obs =>
    (nrmObs P obs).bind fun bo =>
    (mapIds (slIds P nm bs depth) as).bind fun s1 =>
    (mapIds (slIds P (fun _ => none) false depth) (obs.flatMap Ob.cells)).bind fun s2 =>
    match C f as' bo with
    | none => .fail
    | some (res, bo', ro) =>
      match back ids t g depth res with
      | none => .fail
      | some v =>
        if !(bo'.length == ids.length && obsNv bo' && obsNv ro && apart ids (s1 ++ s2)) then .fail else
        if (s1 ++ s2).isEmpty || (v.light depth && obsLight bo' && obsLight ro) then .pure ⟨v, ids.zip (bo'.map some) ++ newUps t g 0 ro, ro.length⟩
        else if !((s1 ++ s2).all isOwn) then .fail
        else (freezeAll (dedup (s1 ++ s2))).bind fun fr => .pure ⟨v, fr ++ ids.zip (bo'.map some) ++ newUps t g 0 ro, ro.length⟩
  | _ => .fail

def evO (E : Env) (tm : Nat → V) : Operand → V
  | .tmp t => tm t
  | .const v => ofVal v
  | .global g =>
    match E.gl g with
    | some c => .fp c 0
    | none => .junk
  | .func f => .fn f []

def val (v : Option V) : Rd Res := (opt v).bind fun v => .pure ⟨v, [], 0⟩

def mkOb (e : TypeId) (v : V) (fresh : Id) : Rd Res :=
  if v.ok then .pure ⟨.lp fresh 0, [(fresh, some ⟨e, v.flat, false⟩)], 1⟩ else .fail

/-- One operation; t: the slot that it writes; g: how many objects it has made. -/
def core (E : Env) (C : Oracle) (ρ : Operand → V) (t g : Nat) (o : Oper) : Rd Res :=
  match o.op with
  | .move x | .assign x => .pure ⟨ρ x, [], 0⟩
  | .pick c a b =>
    match ρ c with
    | .bool true => .pure ⟨ρ a, [], 0⟩
    | .bool false => .pure ⟨ρ b, [], 0⟩
    | _ => .fail
  | .alloc e => (opt (zeroT P e)).bind fun z => mkOb e z (.own t g)
  | .box e x => mkOb e (ρ x) (.own t g)
  | .build ty parts =>
    match zeroT P ty, P.underlying ty with
    | some z, some (.struct fields) =>
      if z.ok && fields.all (fun f => (szT P f.type).isSome) then
        val ((fillV (fun i => (fields[i]?).bind fun f => (szT P f.type).map fun s => (f.offset, s)) z.flat (parts.toList.map fun (i, x) => (i, ρ x))).map .agg)
      else .fail
    | some z, some (.array _ e) =>
      match szT P e with
      | some sz => if z.ok then val ((fillV (fun i => some (i * sz, sz)) z.flat (parts.toList.map fun (i, x) => (i, ρ x))).map .agg) else .fail
      | none => .fail
    | _, _ => .fail
  | .buildSlice ty len parts =>
    match P.underlying ty with
    | some (.slice e) =>
      match szT P e, zeroT P e with
      | some sz, some z =>
        if z.ok && z.flat.length == sz && decide (len * sz ≤ 16777216) && decide (0 < sz) then
          (opt (fillV (fun i => some (i * sz, sz)) (repCells z.flat len) (parts.toList.map fun (i, x) => (i, ρ x)))).bind fun cs =>
          .pure ⟨.sl (.own t g) 0 len e true, [(.own t g, some ⟨e, cs, false⟩)], 1⟩
        else .fail
      | _, _ => .fail
    | _ => .fail
  | .load ty a =>
    match ρ a with
    | .lp id off => .look id fun ob => val (ld P ty ob.cells off)
    | .fp c off => val (ld P ty c off)
    | _ => .fail
  | .store ty a x =>
    match ρ a, szT P ty with
    | .lp id off, some sz =>
      .look id fun ob =>
        if (ρ x).ok && (ρ x).flat.length == sz && decide (off + sz ≤ ob.cells.length) && !ob.fz then
          .pure ⟨.tup [], [(id, some ⟨ob.ty, putCells ob.cells off (ρ x).flat, false⟩)], 0⟩
        else .fail
    | _, _ => .fail
  | .nilCheck x =>
    match ρ x with
    | .lp id off => .pure ⟨.lp id off, [], 0⟩
    | .fp c off => .pure ⟨.fp c off, [], 0⟩
    | .fn f caps => .pure ⟨.fn f caps, [], 0⟩
    | _ => .fail
  | .binOp op ty x y _ => val (vBin P op ty (ρ x) (ρ y))
  | .unOp op _ x => val (vUn op (ρ x))
  | .convert src dst x =>
    match P.underlying src, P.underlying dst, ρ x with
    | some (.int _), some (.int k), .int _ n => .pure ⟨.int k (k.wrap n), [], 0⟩
    | some .string, some .string, .str s => .pure ⟨.str s, [], 0⟩
    | some (.int _), some .string, .int _ n => .pure ⟨.str (Utf8.encode n), [], 0⟩
    | some .string, some (.slice e), .str s =>
      match P.underlying e, szT P e with
      | some (.int .u8), some 1 => .pure ⟨.sl (.own t g) 0 s.size e false, [(.own t g, some ⟨e, bytesV s, false⟩)], 1⟩
      | _, _ => .fail
    | some (.slice e), some .string, v =>
      match P.underlying e, szT P e with
      | some (.int .u8), some 1 =>
        (slCells P v).bind fun cs =>
        (opt (slLen v)).bind fun n =>
        if cs.all byteOk && cs.length == n then .pure ⟨.str ⟨(cs.map fun c => UInt8.ofNat (byteI c).toNat).toArray⟩, [], 0⟩ else .fail
      | _, _ => .fail
    | _, _, _ => .fail
  | .makeFunc (.func f) first captured => if first.isEmpty then .pure ⟨.fn f (captured.toList.map ρ), [], 0⟩ else .fail
  | .slice ty x lo hi mx => (vSlice P ty (ρ x) (lo.map ρ) (hi.map ρ) (mx.map ρ)).bind fun v => .pure ⟨v, [], 0⟩
  | .fieldAddr s x f =>
    match P.underlying s with
    | some (.struct fields) =>
      match fields[f]? with
      | some fd =>
        match szT P fd.type with
        | some sz =>
          if sz = 0 then .fail else
          match ρ x with
          | .lp id off => .pure ⟨.lp id (off + fd.offset), [], 0⟩
          | .fp c off => .pure ⟨.fp c (off + fd.offset), [], 0⟩
          | _ => .fail
        | none => .fail
      | none => .fail
    | _ => .fail
  | .field ty x f =>
    match P.underlying ty, ρ x with
    | some (.struct fields), .agg cs =>
      match fields[f]? with
      | some fd => val (ld P fd.type cs fd.offset)
      | none => .fail
    | _, _ => .fail
  | .indexAddr ty x i => val (vIndexAddr P ty (ρ x) (ρ i))
  | .index ty x i => val (vIndex P ty (ρ x) (ρ i))
  | .extract x i =>
    match ρ x with
    | .tup l => val (l[i]?)
    | _ => .fail
  | .call c =>
    let args := c.args.toList.map ρ
    match c.callee with
    | .value f => vCall P E C (ρ f) args t g
    | .builtin .len =>
      match c.argTypes.toList, args with
      | ty :: _, v :: _ =>
        match P.underlying ty, v with
        | some .string, .str s => .pure ⟨.int .i64 s.size, [], 0⟩
        | some (.array n _), _ => .pure ⟨.int .i64 n, [], 0⟩
        | some (.slice _), v => val ((slLen v).map fun (n : Nat) => V.int .i64 (n : Int))
        | _, _ => .fail
      | _, _ => .fail
    | .builtin .max =>
      match args with
      | v :: l => val (vMax v l)
      | _ => .fail
    | .builtin .min =>
      match args with
      | v :: l => val (vMin v l)
      | _ => .fail
    | .builtin .append =>
      match c.argTypes.toList, args with
      | [ty, ty2], [s, x] =>
        match P.underlying ty2 with
        | some (.int _) | none => .fail
        | some _ => vAppend P ty s x (.own t g)
      | _, _ => .fail
    | _ => .fail
  | _ => .fail

/-! ### Running -/
structure St where
  n : Nat
  tm : Nat → V
  nx : Nat → Nat
  ob : Id → Option Ob

inductive Ex where
  | normal
  | exit (id : Nat)
  | ret

/-- What an operation did. -/
structure Eff where
  dst : Option Nat
  v : V
  nw : Nat
  up : List (Id × Option Ob)
  rd : List Id

def setT {α : Type} (f : Nat → α) (t : Option Nat) (v : α) : Nat → α :=
  match t with
  | some t => fun u => if u = t then v else f u
  | none => f

def applyUp (f : Id → Option Ob) : List (Id × Option Ob) → Id → Option Ob
  | [] => f
  | (id, o) :: l => applyUp (fun x => if x = id then o else f x) l

def St.app (s : St) (e : Eff) : St :=
  { n := s.n, tm := setT s.tm e.dst e.v,
    nx := match e.dst with | some t => fun u => if u = t then s.nx t + e.nw else s.nx u | none => s.nx,
    ob := applyUp s.ob e.up }

def dstOk (s : St) : Option Nat → Bool
  | some t => t < s.n
  | none => true

/-- Is the operation wanted? none: not known. -/
def want (ops : Array Oper) (tm : Nat → V) (o : Oper) : Option Bool :=
  match o.guard with
  | none => some true
  | some (j, w) =>
    match (ops[j]?).bind (·.dst) with
    | some t =>
      match tm t with
      | .bool b => some (b == w)
      | .tup _ => some false
      | _ => none
    | none => none

def effOf (E : Env) (C : Oracle) (ops : Array Oper) (o : Oper) (s : St) : Option Eff :=
  if !dstOk s o.dst then none else
  match want ops s.tm o with
  | none => none
  | some false => some ⟨o.dst, .tup [], 0, [], []⟩
  | some true =>
    match (core P E C (evO E s.tm) (o.dst.getD s.n) (s.nx (o.dst.getD s.n)) o).run s.ob with
    | none => none
    | some (r, l) => if o.dst.isNone && r.nw != 0 then none else some ⟨o.dst, r.v, r.nw, r.up, l⟩

def runOps (E : Env) (C : Oracle) (ops : Array Oper) : List Oper → St → Option St
  | [], s => some s
  | o :: l, s =>
    match effOf P E C ops o s with
    | none => none
    | some e => runOps E C ops l (s.app e)

def effs (E : Env) (C : Oracle) (ops : Array Oper) : List Oper → St → Option (List Eff × St)
  | [], s => some ([], s)
  | o :: l, s =>
    match effOf P E C ops o s with
    | none => none
    | some e =>
      match effs E C ops l (s.app e) with
      | none => none
      | some (es, s') => some (e :: es, s')

def looks (ops : Array Oper) (o : Oper) : List Nat := o.looksAt ops

/-- The pairs of operations that no edge orders. -/
def loosePairs (ops : Array Oper) : List (Nat × Nat) :=
  let b := Region.before ops
  (List.range ops.size).flatMap fun j => (List.range j).filterMap fun i => if (b.getD j 0).testBit i then none else some (i, j)

def edgesOk (ops : Array Oper) : Bool :=
  ops.toList.zipIdx.all fun (o, i) => o.after.all fun e => !Region.binds .any e || decide (e.on < i)

def tmpsApart (ops : Array Oper) : Bool :=
  edgesOk ops && (loosePairs ops).all fun (i, j) =>
    match ops[i]?, ops[j]? with
    | some x, some y => x.apart ops y && y.apart ops x
    | _, _ => true

def touches : Op → Bool
  | .move _ | .assign _ | .pick _ _ _ | .nilCheck _ | .binOp _ _ _ _ _ | .unOp _ _ _ | .makeFunc _ _ _ | .fieldAddr _ _ _ | .field _ _ _ | .indexAddr _ _ _
  | .index _ _ _ | .extract _ _ | .build _ _ => false
  | .call { callee := .builtin .len, .. } | .call { callee := .builtin .max, .. } | .call { callee := .builtin .min, .. } => false
  | _ => true

def loudPairs (ops : Array Oper) : List (Nat × Nat) :=
  (loosePairs ops).filter fun (i, j) => ((ops[i]?).map fun o => touches o.op).getD true && ((ops[j]?).map fun o => touches o.op).getD true

def effApart (a b : Eff) : Bool :=
  apart (a.up.map (·.1)) (b.rd ++ b.up.map (·.1)) && apart (b.up.map (·.1)) a.rd

def effsApart (es : List Eff) (ps : List (Nat × Nat)) : Bool :=
  ps.all fun (i, j) =>
    match es[i]?, es[j]? with
    | some a, some b => effApart a b
    | _, _ => true

def iter (f : St → Option (Ex × St)) : Nat → St → Option (Ex × St)
  | 0, _ => none
  | k + 1, s =>
    match f s with
    | some (.normal, s') => iter f k s'
    | r => r

def evC (E : Env) (C : Oracle) (fuel : Nat) : Code → St → Option (Ex × St)
  | .skip, s => some (.normal, s)
  | .label _, s => some (.normal, s)
  | .region _ ops draw, s =>
    if draw then
      match effs P E C ops ops.toList s with
      | some (es, s') => if tmpsApart ops && effsApart es (loudPairs ops) then some (.normal, s') else none
      | none => none
    else (runOps P E C ops ops.toList s).map fun s' => (.normal, s')
  | .seq a b, s =>
    match evC E C fuel a s with
    | some (.normal, s') => evC E C fuel b s'
    | r => r
  | .cond c a b, s =>
    match evO E s.tm c with
    | .bool true => evC E C fuel a s
    | .bool false => evC E C fuel b s
    | _ => none
  | .block id c, s =>
    match evC E C fuel c s with
    | some (.exit id', s') => if id' = id then some (.normal, s') else some (.exit id', s')
    | r => r
  | .loop c, s => iter (evC E C fuel c) fuel s
  | .exit id, s => some (.exit id, s)
  | .ret, s => some (.ret, s)
  | _, _ => none

def resOf (s : St) : ResultVar → Rd V
  | .tmp t => .pure (s.tm t)
  | .cell t ty =>
    match s.tm t with
    | .lp id off => .look id fun ob => opt (ld P ty ob.cells off)
    | _ => .fail

def mapRes (s : St) : List ResultVar → Rd (List V)
  | [] => .pure []
  | r :: l => (resOf P s r).bind fun v => (mapRes s l).bind fun vs => .pure (v :: vs)

def retNm (ids : List Id) : Id → Option Id
  | .bor k => some (.bor k)
  | id => (idx id ids).map Id.ret

def bors : Nat → Nat → List Id
  | _, 0 => []
  | k, n + 1 => .bor k :: bors (k + 1) n

/-- The results, as they are handed out; nb: how many objects were lent. -/
def pack (own : Bool) (fn : Func) (nb : Nat) (s : St) : Rd (V × List Ob × List Ob) :=
  (mapRes P s fn.results.toList).bind fun vs =>
  let ids := (dedup (vs.flatMap (refs own depth))).filter isOwn
  let nm := retNm ids
  (mapRd (nrm P nm own depth) vs).bind fun vs' =>
  (lookAll ids).bind fun ros =>
  (nrmObs P ros).bind fun ro =>
  (lookAll (bors 0 nb)).bind fun bos =>
  (nrmObs P bos).bind fun bo =>
  (mapIds (slIds P nm own depth) vs).bind fun s1 =>
  (mapIds (slIds P (fun _ => none) false depth) ((ros ++ bos).flatMap Ob.cells)).bind fun s2 =>
  if (s1 ++ s2).all isOwn && apart ids (s1 ++ s2) && obsNv ro && obsNv bo then
    .pure ((match vs' with | [v] => v | l => .tup l), bo, ro)
  else .fail

def start (fn : Func) (args : List V) (bo : List Ob) : St :=
  { n := args.length + (fn.ntmps - args.length), tm := fun t => args.getD t (.tup []), nx := fun _ => 0,
    ob := fun | .bor k => bo[k]? | _ => none }

def body (E : Env) (C : Oracle) (fuel : Nat) (f : FuncId) (args : List V) (bo : List Ob) : Option (V × List Ob × List Ob) :=
  match P.funcs[f]? with
  | some fn =>
    match fn.body with
    | some c =>
      match evC P E C fuel c (start fn args bo) with
      | some (.normal, s) | some (.ret, s) => ((pack P (E.ownR f) fn bo.length s).run s.ob).map (·.1)
      | _ => none
    | none => none
  | none => none

/-- A function of Go that a call enters. -/
def callOk (f : FuncId) : Bool :=
  match P.funcs[f]? with
  | some fn => fn.body.isSome && !(fn.name == "runtime.NumGoroutine")
  | none => false

def callV (E : Env) (prim : FuncId → Option (Oracle → List V → List Ob → Option (V × List Ob × List Ob))) : Nat → Oracle
  | 0, _, _, _ => none
  | n + 1, f, args, bo =>
    if callOk P f then
      match prim f with
      | some F => F (callV E prim n) args bo
      | none => body P E (callV E prim n) n f args bo
    else none

end
end Go.Vi

/- Vi, part 2: what an abstract value says of a value, what abstract objects say of a world; loads, stores and new blocks. -/
set_option linter.unusedVariables false
set_option linter.unusedSimpArgs false
namespace Go.Vi

abbrev Hp := Nat → Option Obj
abbrev Bt := Id → Option (Nat × Nat)

def Hp.le (H H' : Hp) : Prop := ∀ b x, H b = some x → H' b = some x
def Bt.le (β β' : Bt) : Prop := ∀ id x, β id = some x → β' id = some x
def noB : Bt := fun _ => none

inductive RV (P : Program) (H : Hp) : Bt → V → Value → Prop
  | junk (β v) : RV P H β .junk v
  | int (β k n) : RV P H β (.int k n) (.int k n)
  | bool (β b) : RV P H β (.bool b) (.bool b)
  | str (β s) : RV P H β (.str s) (.string s)
  | agg (β l cs) : cs.size = l.length → (∀ (k : Nat) (y : V) (u : Value), l[k]? = some y → cs[k]? = some u → RV P H β y u) → RV P H β (.agg l) (.agg cs)
  | tup (β l cs) : cs.size = l.length → (∀ (k : Nat) (y : V) (u : Value), l[k]? = some y → cs[k]? = some u → RV P H β y u) → RV P H β (.tup l) (.tuple cs)
  | lp (β id off b sz) : β id = some (b, sz) → RV P H β (.lp id off) (.pointer (some ⟨b, off, none⟩))
  | sl (β id off n e x b sz es cap) : β id = some (b, sz) → szT P e = some es → off + cap * es ≤ sz → n ≤ cap → (x = true → cap = n) →
      RV P H β (.sl id off n e x) (.slice (some ⟨b, off, none⟩) n cap)
  | sl0 (β id e A) : RV P H β (.sl id 0 0 e false) (.slice A 0 0)
  | nl (β) : RV P H β .nl (.slice none 0 0)
  | e0 (β A) : RV P H β .e0 (.slice A 0 0)
  | fs0 (β A cap) : RV P H β (.fs []) (.slice A 0 cap)
  | fs (β l b off es cap arr ty fr) : l.length ≤ cap → H b = some (.cells arr ty fr) → off + l.length * es ≤ arr.size →
      (∀ (j : Nat) (x : V), l[j]? = some x → x.flat.length = es) →
      (∀ (j : Nat) (x : V), l[j]? = some x → ∀ (k : Nat) (y : V) (u : Value), x.flat[k]? = some y → arr[off + j * es + k]? = some u → RV P H noB y u) →
      RV P H β (.fs l) (.slice (some ⟨b, off, none⟩) l.length cap)
  | fp (β cells off b base arr ty fr) : H b = some (.cells arr ty fr) → base + cells.length ≤ arr.size →
      (∀ (k : Nat) (y : V) (u : Value), cells[k]? = some y → arr[base + k]? = some u → RV P H noB y u) →
      RV P H β (.fp cells off) (.pointer (some ⟨b, base + off, none⟩))
  | fn (β f caps cs) : cs.size = caps.length → (∀ (k : Nat) (y : V) (u : Value), caps[k]? = some y → cs[k]? = some u → RV P H β y u) → RV P H β (.fn f caps) (.func (.func f) #[] cs)

theorem noB_le (β : Bt) : Bt.le noB β := fun _ _ h => by simp [noB] at h
theorem Bt.le_refl (β : Bt) : Bt.le β β := fun _ _ h => h
theorem Bt.le_trans {a b c : Bt} (h : Bt.le a b) (k : Bt.le b c) : Bt.le a c := fun i x hx => k i x (h i x hx)
theorem Hp.le_refl (H : Hp) : Hp.le H H := fun _ _ h => h
theorem Hp.le_trans {a b c : Hp} (h : Hp.le a b) (k : Hp.le b c) : Hp.le a c := fun i x hx => k i x (h i x hx)

theorem RV.mono {P : Program} {H H' : Hp} (hH : H.le H') {β : Bt} {v : V} {u : Value} (h : RV P H β v u) : ∀ {β' : Bt}, β.le β' → RV P H' β' v u := by
  induction h with
  | junk => intro β' _; exact .junk ..
  | int => intro β' _; exact .int ..
  | bool => intro β' _; exact .bool ..
  | str => intro β' _; exact .str ..
  | agg β l cs hn _ ih => intro β' hb; exact .agg _ _ _ hn fun k y u hy hu => ih k y u hy hu hb
  | tup β l cs hn _ ih => intro β' hb; exact .tup _ _ _ hn fun k y u hy hu => ih k y u hy hu hb
  | lp β id off b sz h => intro β' hb; exact .lp _ _ _ _ _ (hb _ _ h)
  | sl β id off n e x b sz es cap h h1 h2 h3 h4 => intro β' hb; exact .sl _ _ _ _ _ _ _ _ _ _ (hb _ _ h) h1 h2 h3 h4
  | sl0 => intro β' _; exact .sl0 ..
  | nl => intro β' _; exact .nl ..
  | e0 => intro β' _; exact .e0 ..
  | fs0 => intro β' _; exact .fs0 ..
  | fs β l b off es cap arr ty fr h1 h2 h3 h4 _ ih => intro β' hb; exact .fs _ _ _ _ _ _ _ _ _ h1 (hH _ _ h2) h3 h4 fun j x hj k y u hy hu => ih j x hj k y u hy hu (Bt.le_refl _)
  | fp β cells off b base arr ty fr h2 h3 _ ih => intro β' hb; exact .fp _ _ _ _ _ _ _ _ (hH _ _ h2) h3 fun k y u hy hu => ih k y u hy hu (Bt.le_refl _)
  | fn β f caps cs hn _ ih => intro β' hb; exact .fn _ _ _ _ hn fun k y u hy hu => ih k y u hy hu hb

/-- Cells and what they hold. -/
def CR (P : Program) (H : Hp) (β : Bt) (cells : List V) (arr : Array Value) (off : Nat) : Prop :=
  off + cells.length ≤ arr.size ∧ ∀ (k : Nat) (y : V) (u : Value), cells[k]? = some y → arr[off + k]? = some u → RV P H β y u

theorem CR.mono {P : Program} {H H' : Hp} (hH : H.le H') {β β' : Bt} (hb : β.le β') {cells : List V} {arr : Array Value} {off : Nat} (h : CR P H β cells arr off) : CR P H' β' cells arr off :=
  ⟨h.1, fun k y u hy hu => (h.2 k y u hy hu).mono hH hb⟩

theorem CR.sub {P : Program} {H : Hp} {β : Bt} {cells : List V} {arr : Array Value} {off : Nat} (h : CR P H β cells arr off) (i n : Nat) (hn : i + n ≤ cells.length) : CR P H β ((cells.drop i).take n) arr (off + i) := by
  refine ⟨by simp; have := h.1; omega, fun k y u hy hu => ?_⟩
  simp only [List.getElem?_take, List.getElem?_drop] at hy
  split at hy
  · exact h.2 (i + k) y u hy (by rw [← hu]; congr 1; omega)
  · simp at hy

theorem CR.extract {P : Program} {H : Hp} {β : Bt} {cells : List V} {arr : Array Value} {off : Nat} (h : CR P H β cells arr off) : CR P H β cells (arr.extract off (off + cells.length)) 0 := by
  refine ⟨by simp; have := h.1; omega, fun k y u hy hu => ?_⟩
  have hk : k < cells.length := (List.getElem?_eq_some_iff.1 hy).1
  refine h.2 k y u hy ?_
  rw [← hu]
  simp [Array.getElem?_extract]
  omega

theorem agg_of_CR {P : Program} {H : Hp} {β : Bt} {cells : List V} {arr : Array Value} (hs : arr.size = cells.length) (h : CR P H β cells arr 0) : RV P H β (.agg cells) (.agg arr) :=
  .agg _ _ _ hs fun k y u hy hu => h.2 k y u hy (by simpa using hu)

/-! ### a value as it lies in memory -/
theorem one_of_leaf {P : Program} {H : Hp} {β : Bt} {v : V} {u : Value} (h : RV P H β v u) (hl : v.leaf = true) : u.oneCell' = true := by
  cases h <;> first | rfl | simp [V.leaf] at hl

theorem flat_rel {P : Program} {H : Hp} {β : Bt} {v : V} {u : Value} (h : RV P H β v u) (hk : v.ok = true) :
    u.cells.size = v.flat.length ∧ CR P H β v.flat u.cells 0 ∧ ∀ c ∈ u.cells.toList, c.oneCell' = true := by
  cases v with
  | agg l =>
    cases h with
    | agg _ _ cs hn hc =>
      refine ⟨hn, ⟨by simp [V.flat, Value.cells, hn], fun k y u hy hu => hc k y u hy (by simpa [Value.cells] using hu)⟩, ?_⟩
      intro c hcm
      simp only [Value.cells] at hcm
      obtain ⟨k, hk', rfl⟩ := List.getElem_of_mem hcm
      simp only [Array.length_toList] at hk'
      have hkl : k < l.length := by omega
      simp only [V.ok, List.all_eq_true] at hk
      have := hc k l[k] cs[k] (by simp [hkl]) (by simp [hk'])
      exact one_of_leaf this (hk _ (List.getElem_mem hkl))
  | tup l => simp [V.ok, V.leaf] at hk
  | junk => simp [V.ok, V.leaf] at hk
  | _ =>
    have h1 := one_of_leaf h (by simpa [V.ok] using hk)
    have hcu : u.cells = #[u] := by cases u <;> first | rfl | simp [Value.oneCell'] at h1
    rw [hcu]
    refine ⟨by simp [V.flat], ⟨by simp [V.flat], fun k y u' hy hu => ?_⟩, by simp [h1]⟩
    simp only [V.flat] at hy
    cases k with
    | zero => simp at hy hu; subst hy; subst hu; exact h
    | succ k => simp at hy

/-! ### the world -/
def frok (fr : Nat × Nat) (n : Nat) : Prop := ∀ k, k < n → (decide (fr.1 ≤ k) && decide (k < fr.2)) = false

theorem frok_zero (n : Nat) : frok (0, 0) n := fun k _ => by simp

structure ObAt (P : Program) (H : Hp) (β : Bt) (w : World) (id : Id) (o : Ob) : Prop where
  out : ∃ b sz arr fr, β id = some (b, sz) ∧ w.heap[b]? = some (.cells arr o.ty fr) ∧ arr.size = sz ∧ frok fr sz ∧ CR P H β o.cells arr 0 ∧
    (o.fz = true → H b = some (.cells arr o.ty fr)) ∧ (o.fz = false → H b = none)

/-- An object as it lies in memory, or an empty one that lies nowhere (of a nil slice). -/
def ObG (P : Program) (H : Hp) (β : Bt) (w : World) (id : Id) (o : Ob) : Prop := ObAt P H β w id o ∨ (β id = none ∧ o.cells = [])

structure Rel (P : Program) (H : Hp) (β : Bt) (ob : Id → Option Ob) (w : World) : Prop where
  obj : ∀ id o, ob id = some o → ObG P H β w id o
  inj : ∀ id id' o o' b sz sz', ob id = some o → ob id' = some o' → β id = some (b, sz) → β id' = some (b, sz') → id = id'
  hp : ∀ b x, H b = some x → w.heap[b]? = some x

structure Keep (w w' : World) (S : Nat → Prop) : Prop where
  os : w'.os = w.os
  tape : w'.tape = w.tape
  output : w'.output = w.output
  size : w.heap.size ≤ w'.heap.size
  blk : ∀ b, b < w.heap.size → ¬ S b → w'.heap[b]? = w.heap[b]?

theorem Keep.refl (w : World) (S : Nat → Prop) : Keep w w S := ⟨rfl, rfl, rfl, Nat.le_refl _, fun _ _ _ => rfl⟩
theorem Keep.trans {a b c : World} {S : Nat → Prop} (h : Keep a b S) (k : Keep b c S) : Keep a c S :=
  ⟨k.os.trans h.os, k.tape.trans h.tape, k.output.trans h.output, Nat.le_trans h.size k.size, fun i hi hs => (k.blk i (Nat.lt_of_lt_of_le hi h.size) hs).trans (h.blk i hi hs)⟩
theorem Keep.imp {a b : World} {S T : Nat → Prop} (h : Keep a b S) (hs : ∀ i, i < a.heap.size → S i → T i) : Keep a b T :=
  ⟨h.os, h.tape, h.output, h.size, fun i hi ht => h.blk i hi fun s => ht (hs i hi s)⟩
theorem Keep.drew (w : World) (S : Nat → Prop) : Keep w { w with drawn := w.drawn + 1 } S := ⟨rfl, rfl, rfl, Nat.le_refl _, fun _ _ _ => rfl⟩

theorem Rel.drew {P : Program} {H : Hp} {β : Bt} {ob : Id → Option Ob} {w : World} (h : Rel P H β ob w) : Rel P H β ob { w with drawn := w.drawn + 1 } :=
  ⟨fun id o ho => (h.obj id o ho).imp (fun q => ⟨q.out⟩) fun q => q, h.inj, h.hp⟩

theorem Rel.real {P : Program} {H : Hp} {β : Bt} {ob : Id → Option Ob} {w : World} (h : Rel P H β ob w) {id : Id} {o : Ob} (ho : ob id = some o) {x : Nat × Nat} (hb : β id = some x) : ObAt P H β w id o := by
  rcases h.obj id o ho with q | ⟨q, _⟩
  · exact q
  · rw [hb] at q; cases q

theorem add_none (b off n : Nat) : (⟨b, off, none⟩ : Addr).add n = ⟨b, off + n, none⟩ := by unfold Addr.add; split <;> simp_all

theorem cell_at {w : World} {b : Nat} {arr : Array Value} {ty : TypeId} {fr : Nat × Nat} (h : w.heap[b]? = some (.cells arr ty fr)) (j : Nat) : w.cell? ⟨b, j, none⟩ = arr[j]? :=
  cell_of_row w b j arr ty fr h

section
variable {P : Program}

theorem run_sizeOf {t : TypeId} {n : Nat} (h : szT P t = some n) (w : World) : (sizeOf t).run P w = .ok n w := by
  unfold szT at h
  cases hi : P.info? t with
  | none => simp [hi] at h
  | some i => simp [hi] at h; simp [sizeOf, typeInfo, hi, h]

theorem run_isAgg {t : TypeId} {b : Bool} (h : aggT P t = some b) (w : World) : (isAgg t).run P w = .ok b w := by
  unfold aggT at h
  cases hu : P.underlying t with
  | none => simp [hu] at h
  | some d =>
    unfold isAgg
    rw [Sem.run_bind, run_underlying hu w]
    cases d <;> simp [hu] at h <;> subst h <;> simp

theorem run_loadCells_at {w : World} {b off n : Nat} {arr : Array Value} {ty : TypeId} {fr : Nat × Nat} (h : w.heap[b]? = some (.cells arr ty fr)) (hn : off + n ≤ arr.size) :
    (loadCells ⟨b, off, none⟩ n).run P w = .ok (arr.extract off (off + n)) w := by
  have hl : (arr.extract off (off + n)).toList.length = n := by simp; omega
  have := run_loadCells_list (P := P) w ⟨b, off, none⟩ (arr.extract off (off + n)).toList (fun j v hv => by
    rw [add_none, cell_at h]
    rw [Array.getElem?_toList, Array.getElem?_extract] at hv
    split at hv
    · exact hv
    · simp at hv)
  rw [hl] at this
  rw [this]

/-- A load. -/
theorem run_ld {H : Hp} {β : Bt} {w : World} {b base off : Nat} {arr : Array Value} {ty t : TypeId} {fr : Nat × Nat} {cells : List V} {v : V} (h : w.heap[b]? = some (.cells arr ty fr))
    (hc : CR P H β cells arr base) (hl : ld P t cells off = some v) : ∃ u, (loadVar t ⟨b, base + off, none⟩).run P w = .ok u w ∧ RV P H β v u := by
  unfold ld at hl
  cases ha : aggT P t with
  | none => simp [ha] at hl
  | some ag =>
    cases ag with
    | true =>
      cases hs : szT P t with
      | none => simp [ha, hs] at hl
      | some n =>
        simp only [ha, hs] at hl
        split at hl
        · rename_i hle
          simp only [Option.some.injEq] at hl
          subst hl
          have hc' := hc.sub off n hle
          refine ⟨.agg (arr.extract (base + off) (base + off + n)), ?_, ?_⟩
          · simp [loadVar, run_isAgg ha, run_sizeOf hs, run_loadCells_at (P := P) h (off := base + off) (n := n) (by have := hc.1; omega)]
          · have hx := hc'.extract
            have hlen : ((cells.drop off).take n).length = n := by simp; omega
            rw [hlen] at hx
            exact agg_of_CR (by rw [hlen]; simp; have := hc.1; omega) hx
        · simp at hl
    | false =>
      simp only [ha] at hl
      have hlt : off < cells.length := (List.getElem?_eq_some_iff.1 hl).1
      have hsz : base + off < arr.size := by have := hc.1; omega
      refine ⟨arr[base + off], ?_, hc.2 off v _ hl (by simp [hsz])⟩
      have : w.cell? ⟨b, base + off, none⟩ = some arr[base + off] := by rw [cell_at h]; simp [hsz]
      simp [loadVar, run_isAgg ha, run_load, this]

/-- A part of a value. -/
theorem run_part {H : Hp} {β : Bt} {arr : Array Value} {t : TypeId} {cells : List V} {off : Nat} {v : V} (hs : arr.size = cells.length) (hc : CR P H β cells arr 0) (hl : ld P t cells off = some v) (w : World) :
    ∃ u, (part t arr off).run P w = .ok u w ∧ RV P H β v u := by
  unfold ld at hl
  cases ha : aggT P t with
  | none => simp [ha] at hl
  | some ag =>
    cases ag with
    | true =>
      cases hs : szT P t with
      | none => simp [ha, hs] at hl
      | some n =>
        simp only [ha, hs] at hl
        split at hl
        · rename_i hle
          simp only [Option.some.injEq] at hl
          subst hl
          have hc' := hc.sub off n hle
          refine ⟨.agg (arr.extract off (off + n)), ?_, ?_⟩
          · simp [part, run_isAgg ha, run_sizeOf hs]
          · have hx := hc'.extract
            have hlen : ((cells.drop off).take n).length = n := by simp; omega
            rw [hlen] at hx
            simp only [Nat.zero_add] at hx
            exact agg_of_CR (by rw [hlen]; simp; omega) hx
        · simp at hl
    | false =>
      simp only [ha] at hl
      have hlt : off < cells.length := (List.getElem?_eq_some_iff.1 hl).1
      have hsz : off < arr.size := by omega
      refine ⟨arr[off], ?_, hc.2 off v _ hl (by simp [hsz])⟩
      simp [part, run_isAgg ha, hsz]

theorem frozen_at {w : World} {b k n : Nat} {arr : Array Value} {ty : TypeId} {fr : Nat × Nat} (h : w.heap[b]? = some (.cells arr ty fr)) (hf : frok fr n) (hk : k < n) : w.frozen? ⟨b, k, none⟩ = false := by
  have := hf k hk
  simpa [World.frozen?, h] using this

/-- A store of cells. -/
theorem run_storeCells_fr (g o : Nat) (t : TypeId) (fr : Nat × Nat) : ∀ (vs : List Value) (i : Nat) (cur : Array Value) (w : World), w.heap[g]? = some (.cells cur t fr) → frok fr cur.size → o + i + vs.length ≤ cur.size → (∀ v ∈ vs, v.oneCell' = true) →
    (storeCells ⟨g, o, none⟩ vs i).run P w = .ok () (w.setRow g (cur.toList.take (o + i) ++ vs ++ cur.toList.drop (o + i + vs.length)).toArray)
  | [], i, cur, w, hg, _, _, _ => by
    simp only [storeCells, List.append_nil, List.length_nil, Nat.add_zero, List.take_append_drop, Array.toArray_toList]
    rw [setRow_self w g cur t fr hg]
    rfl
  | v :: rest, i, cur, w, hg, hf, hl, h1 => by
    have hi : o + i < cur.size := by simp at hl; omega
    have hcell : w.cell? ⟨g, o + i, none⟩ = some cur[o + i] := by simp [World.cell?, hg, hi]
    have hfro : w.frozen? ⟨g, o + i, none⟩ = false := frozen_at hg hf hi
    have hst : (store ((⟨g, o, none⟩ : Addr).add i) v).run P w = .ok () (w.setRow g (cur.setIfInBounds (o + i) v)) := by
      rw [add_none, run_store P w _ v _ (h1 v (by simp)), hcell]
      simp [hfro, setCell_eq_setRow w g (o + i) cur t fr v hg]
    have ih := run_storeCells_fr g o t fr rest (i + 1) (cur.setIfInBounds (o + i) v) (w.setRow g (cur.setIfInBounds (o + i) v)) (setRow_heap w g cur _ t _ hg) (by simpa using hf) (by simp at hl ⊢; omega) (fun x hx => h1 x (by simp [hx]))
    simp only [storeCells, Sem.run_bind, hst, Result.andThen_ok, ih, setRow_setRow]
    congr 3
    have e := list_seg_step cur.toList (o + i) v rest (by simp at hl ⊢; omega)
    simpa [Array.toList_setIfInBounds, Nat.add_assoc] using e
end
end Go.Vi

/- Vi, part 3: what one operation does to the world, and that the abstract objects follow: new blocks, stores, freezing. -/
set_option linter.unusedVariables false
set_option linter.unusedSimpArgs false
namespace Go.Vi

def bset (β : Bt) (id : Id) (x : Nat × Nat) : Bt := fun y => if y = id then some x else β y
def hset (H : Hp) (b : Nat) (o : Obj) : Hp := fun y => if y = b then some o else H y
def oset (ob : Id → Option Ob) (id : Id) (o : Option Ob) : Id → Option Ob := fun y => if y = id then o else ob y

theorem applyUp_nil (ob : Id → Option Ob) : applyUp ob [] = ob := rfl
theorem applyUp_cons (ob : Id → Option Ob) (id : Id) (o : Option Ob) (l : List (Id × Option Ob)) : applyUp ob ((id, o) :: l) = applyUp (oset ob id o) l := rfl
theorem applyUp_append (ob : Id → Option Ob) (l m : List (Id × Option Ob)) : applyUp ob (l ++ m) = applyUp (applyUp ob l) m := by
  induction l generalizing ob with
  | nil => rfl
  | cons x l ih => obtain ⟨id, o⟩ := x; exact ih _

theorem bset_le {β : Bt} {id : Id} (h : β id = none) (x : Nat × Nat) : β.le (bset β id x) := fun i y hy => by
  unfold bset; split
  · rename_i e; subst e; simp [h] at hy
  · exact hy
theorem hset_le {H : Hp} {b : Nat} {o : Obj} (h : H b = none ∨ H b = some o) : H.le (hset H b o) := fun i y hy => by
  unfold hset; split
  · rename_i e; subst e
    rcases h with h | h
    · simp [h] at hy
    · rw [← hy, h]
  · exact hy

structure Out (P : Program) (H : Hp) (β : Bt) (ob : Id → Option Ob) (w : World) (t g : Nat) (r : Res) (v : Value) (H' : Hp) (β' : Bt) (w' : World) : Prop where
  hH : H.le H'
  hb : β.le β'
  nw : ∀ id x, β' id = some x → β id = some x ∨ ∃ k, k < r.nw ∧ id = .own t (g + k) ∧ x.1 < w'.heap.size ∧ (w.heap.size ≤ x.1 ∨ ∃ t' g' sz, β (.own t' g') = some (x.1, sz))
  rv : RV P H' β' r.v v
  rel : Rel P H' β' (applyUp ob r.up) w'
  keep : Keep w w' (fun b => ∃ id sz, β id = some (b, sz))
  hfr : ∀ b x, H' b = some x → H b = none → w.heap.size ≤ b ∨ ∃ t' g' sz, β (.own t' g') = some (b, sz)

section
variable {P : Program} {H : Hp} {β : Bt} {ob : Id → Option Ob} {w : World} {t g : Nat}

theorem Rel.lt (h : Rel P H β ob w) {id : Id} {o : Ob} (ho : ob id = some o) {b sz : Nat} (hb : β id = some (b, sz)) : b < w.heap.size := by
  obtain ⟨b', sz', arr, fr, h1, h2, _⟩ := (h.real ho hb).out
  rw [hb] at h1; cases h1
  exact (Array.getElem?_eq_some_iff.1 h2).1

theorem Rel.hnone (h : Rel P H β ob w) : H w.heap.size = none := by
  cases hx : H w.heap.size with
  | none => rfl
  | some x => have := h.hp _ _ hx; simp at this

theorem Out.val (hr : Rel P H β ob w) {v : V} {u : Value} (hv : RV P H β v u) : Out P H β ob w t g ⟨v, [], 0⟩ u H β w :=
  ⟨Hp.le_refl _, Bt.le_refl _, fun id x h => .inl h, hv, hr, Keep.refl _ _, fun b x h h' => by simp [h] at h'⟩

theorem ObAt.mono {H' : Hp} {β' : Bt} {w' : World} (hH : H.le H') (hb : β.le β') {id : Id} {o : Ob} (h : ObAt P H β w id o)
    (hw : ∀ b sz, β id = some (b, sz) → w'.heap[b]? = w.heap[b]?) (hn : ∀ b sz, β id = some (b, sz) → H' b = H b) : ObAt P H' β' w' id o := by
  obtain ⟨b, sz, arr, fr, h1, h2, h3, h4, h5, h6, h7⟩ := h.out
  refine ⟨b, sz, arr, fr, hb _ _ h1, (hw b sz h1).trans h2, h3, h4, h5.mono hH hb, fun hf => (hn b sz h1).trans (h6 hf), fun hf => (hn b sz h1).trans (h7 hf)⟩

theorem ObG.mono {H' : Hp} {β' : Bt} {w' : World} (hH : H.le H') (hb : β.le β') {id : Id} {o : Ob} (h : ObG P H β w id o) (h0 : β id = none → β' id = none)
    (hw : ∀ b sz, β id = some (b, sz) → w'.heap[b]? = w.heap[b]?) (hn : ∀ b sz, β id = some (b, sz) → H' b = H b) : ObG P H' β' w' id o :=
  h.imp (fun h => h.mono hH hb hw hn) fun h => ⟨h0 h.1, h.2⟩

/-- A new block. -/
theorem Out.new (hr : Rel P H β ob w) (hβ : β (.own t g) = none) {arr : Array Value} {ty : TypeId} {fr : Nat × Nat} {cells : List V} (hc : CR P H β cells arr 0) (hf : frok fr arr.size)
    {v : V} {u : Value} (hv : ∀ β', β.le β' → β' (.own t g) = some (w.heap.size, arr.size) → RV P H β' v u) :
    Out P H β ob w t g ⟨v, [(.own t g, some ⟨ty, cells, false⟩)], 1⟩ u H (bset β (.own t g) (w.heap.size, arr.size)) (w.alloc (.cells arr ty fr)) := by
  have hle := bset_le hβ (w.heap.size, arr.size)
  have hhd : (w.alloc (.cells arr ty fr)).heap[w.heap.size]? = some (.cells arr ty fr) := heap_alloc_new _ _
  have hold : ∀ b, b < w.heap.size → (w.alloc (.cells arr ty fr)).heap[b]? = w.heap[b]? := fun b hb => Go.heap_alloc_old _ _ hb
  refine ⟨Hp.le_refl _, hle, ?_, hv _ hle (by simp [bset]), ⟨?_, ?_, ?_⟩, ⟨rfl, rfl, rfl, by simp, fun b hb _ => hold b hb⟩, fun b x h h' => by simp [h] at h'⟩
  · intro id x hx
    unfold bset at hx
    split at hx
    · rename_i e
      simp only [Option.some.injEq] at hx
      subst hx
      exact .inr ⟨0, by simp, by simpa using e, by simp, .inl (Nat.le_refl _)⟩
    · exact .inl hx
  · intro id o ho
    simp only [applyUp_cons, applyUp_nil, oset] at ho
    split at ho
    · rename_i e
      simp only [Option.some.injEq] at ho
      subst ho; subst e
      exact .inl ⟨w.heap.size, arr.size, arr, fr, by simp [bset], hhd, rfl, hf, hc.mono (Hp.le_refl _) hle, by simp, fun _ => hr.hnone⟩
    · rename_i e
      refine (hr.obj id o ho).mono (Hp.le_refl _) hle (fun h0 => by unfold bset; rw [if_neg e]; exact h0) (fun b sz hb => hold b (hr.lt ho hb)) (fun _ _ _ => rfl)
  · intro id id' o o' b sz sz' ho ho' hb hb'
    simp only [applyUp_cons, applyUp_nil, oset] at ho ho'
    simp only [bset] at hb hb'
    split at ho
    · rename_i e
      split at ho'
      · rename_i e'; rw [e, e']
      · rename_i e'
        rw [if_pos e] at hb; rw [if_neg e'] at hb'
        have := hr.lt ho' hb'
        simp only [Option.some.injEq, Prod.mk.injEq] at hb
        omega
    · rename_i e
      rw [if_neg e] at hb
      split at ho'
      · rename_i e'
        rw [if_pos e'] at hb'
        have := hr.lt ho hb
        simp only [Option.some.injEq, Prod.mk.injEq] at hb'
        omega
      · rename_i e'
        rw [if_neg e'] at hb'
        exact hr.inj _ _ _ _ _ _ _ ho ho' hb hb'
  · intro b x hx
    have hlt : b < w.heap.size := (Array.getElem?_eq_some_iff.1 (hr.hp b x hx)).1
    rw [hold b hlt]; exact hr.hp b x hx


theorem size_setRow' (w : World) (b : Nat) (cs : Array Value) : (w.setRow b cs).heap.size = w.heap.size := by simp

/-- The cells of an object that lives are written anew. -/
theorem Rel.set (hr : Rel P H β ob w) {id : Id} {o : Ob} (ho : ob id = some o) (hfz : o.fz = false) {b sz : Nat} (hb : β id = some (b, sz)) {arr : Array Value} {fr : Nat × Nat}
    (hg : w.heap[b]? = some (.cells arr o.ty fr)) {arr' : Array Value} (hs : arr'.size = arr.size) {cells' : List V} (hc : CR P H β cells' arr' 0) :
    Rel P H β (oset ob id (some ⟨o.ty, cells', false⟩)) (w.setRow b arr') ∧ Keep w (w.setRow b arr') (fun b => ∃ id sz, β id = some (b, sz)) := by
  have hself : (w.setRow b arr').heap[b]? = some (.cells arr' o.ty fr) := setRow_heap w b arr arr' o.ty fr hg
  have hoth : ∀ k, k ≠ b → (w.setRow b arr').heap[k]? = w.heap[k]? := fun k hk => setRow_other w b k arr' hk
  obtain ⟨b0, sz0, arr0, fr0, h1, h2, h3, h4, h5, h6, h7⟩ := (hr.real ho hb).out
  rw [hb] at h1; cases h1
  rw [hg] at h2; cases h2
  have hHb : H b = none := h7 hfz
  refine ⟨⟨?_, ?_, ?_⟩, ⟨rfl, rfl, rfl, by simp, fun k _ hk => hoth k fun e => hk ⟨id, sz, by rw [e]; exact hb⟩⟩⟩
  · intro id' o' ho'
    simp only [oset] at ho'
    split at ho'
    · rename_i e
      simp only [Option.some.injEq] at ho'
      subst ho'; subst e
      exact .inl ⟨b, sz, arr', fr, hb, hself, hs.trans h3, h4, hc, by simp, fun _ => hHb⟩
    · rename_i e
      refine (hr.obj id' o' ho').mono (Hp.le_refl _) (Bt.le_refl _) (fun h0 => h0) (fun b' sz' hb' => hoth b' fun e' => ?_) (fun _ _ _ => rfl)
      subst e'
      exact e (hr.inj _ _ _ _ _ _ _ ho' ho hb' hb)
  · intro id1 id2 o1 o2 b' s1 s2 ho1 ho2 hb1 hb2
    have key : ∀ i oo, oset ob id (some ⟨o.ty, cells', false⟩) i = some oo → ∃ oo', ob i = some oo' := by
      intro i oo h
      simp only [oset] at h
      split at h
      · rename_i e; exact ⟨o, by rw [e]; exact ho⟩
      · exact ⟨oo, h⟩
    obtain ⟨p, hp⟩ := key _ _ ho1
    obtain ⟨q, hq⟩ := key _ _ ho2
    exact hr.inj _ _ _ _ _ _ _ hp hq hb1 hb2
  · intro k x hx
    rw [hoth k (fun e => by subst e; rw [hHb] at hx; simp at hx)]
    exact hr.hp k x hx

theorem CR.put {cells xs : List V} {arr : Array Value} {us : List Value} {off : Nat} (h : CR P H β cells arr 0) (hl : us.length = xs.length) (hx : ∀ (k : Nat) (y : V) (u : Value), xs[k]? = some y → us[k]? = some u → RV P H β y u)
    (hn : off + xs.length ≤ cells.length) : CR P H β (putCells cells off xs) (arr.toList.take off ++ us ++ arr.toList.drop (off + us.length)).toArray 0 := by
  have hle : cells.length ≤ arr.size := by have := h.1; omega
  refine ⟨?_, fun k y u hy hu => ?_⟩
  · simp [putCells]; omega
  · simp only [Nat.zero_add] at hu
    have hu' : (arr.toList.take off ++ us ++ arr.toList.drop (off + us.length))[k]? = some u := by simpa using hu
    clear hu
    simp only [putCells] at hy
    rw [List.append_assoc, List.getElem?_append] at hy hu'
    simp only [List.length_take, Array.length_toList] at hy hu'
    rw [show min off cells.length = off by omega] at hy
    rw [show min off arr.size = off by omega] at hu'
    split at hy
    · rename_i hk
      rw [if_pos hk] at hu'
      simp only [List.getElem?_take, hk, if_true] at hy hu'
      exact h.2 k y u hy (by simpa using hu')
    · rename_i hk
      rw [if_neg hk] at hu'
      rw [List.getElem?_append] at hy hu'
      rw [hl] at hu'
      split at hy
      · rename_i hk2
        rw [if_pos hk2] at hu'
        exact hx _ y u hy hu'
      · rename_i hk2
        rw [if_neg hk2] at hu'
        simp only [List.getElem?_drop] at hy hu'
        have e : off + xs.length + (k - off - xs.length) = k := by omega
        rw [e] at hy hu'
        exact h.2 k y u hy (by simpa using hu')

theorem RV.flat_list {v : V} {u : Value} (h : RV P H β v u) (hk : v.ok = true) : u.cells.toList.length = v.flat.length ∧ (∀ (k : Nat) (y : V) (x : Value), v.flat[k]? = some y → u.cells.toList[k]? = some x → RV P H β y x) ∧ ∀ c ∈ u.cells.toList, c.oneCell' = true := by
  obtain ⟨h1, h2, h3⟩ := flat_rel h hk
  exact ⟨by simpa using h1, fun k y x hy hx => h2.2 k y x hy (by simpa using hx), h3⟩

/-- A store through a pointer. -/
theorem Out.store (hr : Rel P H β ob w) {id : Id} {o : Ob} (ho : ob id = some o) (hfz : o.fz = false) {b sz off : Nat} (hb : β id = some (b, sz)) {x : V} {u : Value} (hx : RV P H β x u) (hk : x.ok = true)
    (hn : off + x.flat.length ≤ o.cells.length) {ty : TypeId} (hty : szT P ty = some x.flat.length) {v0 : V} {u0 : Value} (hv0 : RV P H β v0 u0) :
    ∃ w', (storeVar ty ⟨b, off, none⟩ u).run P w = .ok () w' ∧ Out P H β ob w t g ⟨v0, [(id, some ⟨o.ty, putCells o.cells off x.flat, false⟩)], 0⟩ u0 H β w' := by
  obtain ⟨b0, sz0, arr, fr, h1, h2, h3, h4, h5, h6, h7⟩ := (hr.real ho hb).out
  rw [hb] at h1; cases h1
  obtain ⟨f1, f2, f3⟩ := hx.flat_list hk
  have hc := CR.put h5 f1 f2 hn
  have hsz : (arr.toList.take off ++ u.cells.toList ++ arr.toList.drop (off + u.cells.toList.length)).toArray.size = arr.size := by
    have := h5.1
    simp at f1 ⊢
    omega
  obtain ⟨q1, q2⟩ := hr.set ho hfz hb h2 hsz hc
  refine ⟨_, ?_, Hp.le_refl _, Bt.le_refl _, fun id x h => .inl h, hv0, q1, q2, fun b x h h' => by simp [h] at h'⟩
  have hrun := run_storeCells_fr (P := P) b off o.ty fr u.cells.toList 0 arr w h2 (by rw [h3]; exact h4) (by have := h5.1; omega) f3
  have hcz : u.cells.size = x.flat.length := by simpa using f1
  simp only [storeVar, Sem.run_bind, run_sizeOf hty w, Result.andThen_ok, hcz, ne_eq, not_true_eq_false, if_false]
  simpa using hrun
end
end Go.Vi

/- Vi, part 4: the operators: what they give of abstract values they give of values. -/
set_option linter.unusedVariables false
set_option linter.unusedSimpArgs false
namespace Go.Vi
section
variable {P : Program} {H : Hp} {β : Bt}

theorem CR_of_agg {l : List V} {cs : Array Value} (h : RV P H β (.agg l) (.agg cs)) : cs.size = l.length ∧ CR P H β l cs 0 := by
  cases h with
  | agg _ _ _ hn hc => exact ⟨hn, by simp; omega, fun k y u hy hu => hc k y u hy (by simpa using hu)⟩

theorem vEq_sound : ∀ (d e : Nat) (t : TypeId) (x y : V) (a b : Value) (r : Bool) (w : World), RV P H β x a → RV P H β y b → vEq P d t x y = some r → (Op.equalIn (d + e) t a b).run P w = .ok r w := by
  intro d
  induction d with
  | zero => intro e t x y a b r w _ _ h; simp [vEq] at h
  | succ d ih =>
    intro e t x y a b r w hx hy h
    rw [show d + 1 + e = (d + e) + 1 by omega]
    simp only [vEq] at h
    split at h
    · rename_i hu
      cases hx; cases hy
      simp only [Option.some.injEq] at h; subst h
      exact run_equalIn_bool w _ t _ _ hu
    · rename_i k1 k x1 k' y1 hu
      cases hx; cases hy
      split at h
      · rename_i e'; subst e'
        simp only [Option.some.injEq] at h; subst h
        exact run_equalIn_int w _ t _ _ _ _ hu
      · simp at h
    · rename_i s1 s2 hu
      cases hx; cases hy
      simp only [Option.some.injEq] at h; subst h
      rw [beq_toListBytes]
      exact run_equalIn_string w _ t _ _ hu
    · rename_i fields xs ys hu
      split at h
      · simp at h
      · rename_i hst
        have hst' : P.stoodInHeld t = false := by simpa using hst
        cases hx with
        | agg _ _ cs hn hc =>
        cases hy with
        | agg _ _ ds hm hd =>
          have hf : P.fieldsOf t = fields := by simp [Program.fieldsOf, hu]
          rw [run_equalIn_struct w _ t _ _ (by rw [hf]; exact hu) hst', hf]
          obtain ⟨c1, c2⟩ := CR_of_agg (.agg _ _ _ hn hc)
          obtain ⟨d1, d2⟩ := CR_of_agg (.agg _ _ _ hm hd)
          clear hu hf hst hst'
          generalize fields.toList = fs at h
          induction fs generalizing r with
          | nil => simp only [vFlds, Option.some.injEq] at h; subst h; simp [Op.eqFields]
          | cons f fs ihf =>
            simp only [vFlds] at h
            simp only [Op.eqFields]
            split
            · rename_i hn'
              rw [if_pos hn'] at h
              split at h
              · rename_i va vb h1 h2
                obtain ⟨ua, pa, ra⟩ := run_part c1 c2 h1 w
                obtain ⟨ub, pb, rb⟩ := run_part d1 d2 h2 w
                split at h
                · rename_i h3
                  have := ih e f.type va vb ua ub true w ra rb h3
                  simp only [Sem.run_bind, pa, pb, this, Result.andThen_ok]
                  simpa using ihf r h
                · rename_i h3
                  have := ih e f.type va vb ua ub r w ra rb h
                  cases r with
                  | false => simp [pa, pb, this]
                  | true => exact absurd h h3
              · simp at h
            · rename_i hn'
              rw [if_neg hn'] at h
              exact ihf r h
    · rename_i len elem xs ys hu
      split at h
      · rename_i n hn0
        cases hx with
        | agg _ _ cs hn hc =>
        cases hy with
        | agg _ _ ds hm hd =>
          unfold szT at hn0
          cases hi : P.info? elem with
          | none => simp [hi] at hn0
          | some i =>
            rw [run_equalIn_array w _ cs ds hu hi]
            have hcz : P.cellsOf elem = n := by simp [hi] at hn0; simp [Program.cellsOf, hi, hn0]
            rw [hcz]
            obtain ⟨c1, c2⟩ := CR_of_agg (.agg _ _ _ hn hc)
            obtain ⟨d1, d2⟩ := CR_of_agg (.agg _ _ _ hm hd)
            have key : ∀ m j r, vElems P (vEq P d) elem n xs ys m j = some r → (Op.eqItems (d + e) elem n cs ds (List.range' j m)).run P w = .ok r w := by
              intro m
              induction m with
              | zero => intro j r h; simp only [vElems, Option.some.injEq] at h; subst h; simp [Op.eqItems]
              | succ m ihm =>
                intro j r h
                simp only [vElems] at h
                simp only [List.range'_succ, Op.eqItems]
                split at h
                · rename_i va vb h1 h2
                  obtain ⟨ua, pa, ra⟩ := run_part c1 c2 h1 w
                  obtain ⟨ub, pb, rb⟩ := run_part d1 d2 h2 w
                  split at h
                  · rename_i h3
                    have := ih e elem va vb ua ub true w ra rb h3
                    simp only [Sem.run_bind, pa, pb, this, Result.andThen_ok]
                    simpa using ihm (j + 1) r h
                  · rename_i h3
                    have := ih e elem va vb ua ub r w ra rb h
                    cases r with
                    | false => simp [pa, pb, this]
                    | true => exact absurd h h3
                · simp at h
            rw [List.range_eq_range']
            exact key len 0 r h
      · simp at h
    · simp at h

theorem vInt_sound {op : BinOp} {k : IntKind} {a b : Int} {v : V} (h : vInt op k a b = some v) (hs : op ≠ .shl) (hs' : op ≠ .shr) (t : TypeId) (w : World) :
    ∃ u, (binOp op t (.int k a) (.int k b)).run P w = .ok u w ∧ RV P H β v u := by
  cases op <;> simp only [vInt, Option.some.injEq] at h <;> try (simp at hs; done)
  all_goals (try (simp at hs'; done))
  all_goals first
    | (subst h; refine ⟨_, ?_, by constructor⟩; simp [binOp, Op.intArith, Op.intBits, Op.intCmp]; done)
    | (subst h; refine ⟨_, ?_, by constructor⟩; simp [binOp, Op.intArith, Op.intBits, Op.intCmp]; rfl)
    | (split at h
       · simp at h
       · rename_i hb
         simp only [Option.some.injEq] at h
         subst h; refine ⟨_, ?_, by constructor⟩; simp [binOp, Op.intDiv, hb]; done)
    | (simp at h; done)

theorem vStr_sound {op : BinOp} {x y : ByteArray} {v : V} (h : vStr op x y = some v) (t : TypeId) (w : World) :
    ∃ u, (binOp op t (.string x) (.string y)).run P w = .ok u w ∧ RV P H β v u := by
  cases op <;> simp only [vStr, Option.some.injEq] at h
  all_goals first
    | (subst h; refine ⟨_, ?_, by constructor⟩; simp [binOp, Op.stringOp]; done)
    | (split at h
       · rename_i hb
         simp only [Option.some.injEq] at h
         subst h; refine ⟨.string (x ++ y), ?_, by constructor⟩
         have hm : ¬ (((x.size + y.size : Nat) : Int) > IntKind.i64.max) := by
           have : IntKind.i64.max = 9223372036854775807 := by decide
           rw [this]; omega
         simp only [binOp, Op.stringOp, hm, if_false]
         rfl
       · simp at h)
    | (simp at h; done)

theorem vBin_sound {op : BinOp} {t : TypeId} {x y v : V} {a b : Value} (hx : RV P H β x a) (hy : RV P H β y b) (h : vBin P op t x y = some v) (ox oy : Operand) (w : World) :
    ∃ u, (do eqGuard op t ox oy a b; binOp op t a b : Sem Value).run P w = .ok u w ∧ RV P H β v u := by
  have g0 : ∀ {a b : Value}, (match a, b with | .nilIface, .nilIface => False | .agg _, .agg _ => False | _, _ => True) → (eqGuard op t ox oy a b).run P w = .ok () w := by
    intro a b hab
    unfold eqGuard
    cases op <;> simp <;> (cases a <;> cases b <;> simp at hab ⊢)
  unfold vBin at h
  split at h
  · cases hx; cases hy
    split at h
    · simp at h
    · rename_i hb
      simp only [Option.some.injEq] at h; subst h
      refine ⟨_, ?_, by constructor⟩
      simp [g0, binOp, Op.shift, hb]
  · cases hx; cases hy
    split at h
    · simp at h
    · rename_i hb
      simp only [Option.some.injEq] at h; subst h
      refine ⟨_, ?_, by constructor⟩
      simp [g0, binOp, Op.shift, hb]
  · rename_i k1 a1 k2 b1 n1 n2
    cases hx; cases hy
    split at h
    · rename_i e; subst e
      obtain ⟨u, h1, h2⟩ := vInt_sound (P := P) (H := H) (β := β) h (fun e => n1 e) (fun e => n2 e) t w
      exact ⟨u, by simp [g0, h1], h2⟩
    · simp at h
  · cases hx; cases hy
    obtain ⟨u, h1, h2⟩ := vStr_sound (P := P) (H := H) (β := β) h t w
    exact ⟨u, by simp [g0, h1], h2⟩
  · rename_i p q
    cases hr : vEq P 9 t (.bool p) (.bool q) with
    | none => simp [hr] at h
    | some r =>
      simp [hr] at h; subst h
      have := vEq_sound (P := P) 9 9991 t _ _ _ _ r w hx hy hr
      cases hx; cases hy
      refine ⟨_, ?_, by constructor⟩
      simp only [Sem.run_bind, g0 (a := .bool _) (b := .bool _) trivial, Result.andThen_ok, binOp, Op.equal, Op.maxDepth, this]
      rfl
  · rename_i p q
    cases hr : vEq P 9 t (.bool p) (.bool q) with
    | none => simp [hr] at h
    | some r =>
      simp [hr] at h; subst h
      have := vEq_sound (P := P) 9 9991 t _ _ _ _ r w hx hy hr
      cases hx; cases hy
      refine ⟨_, ?_, by constructor⟩
      simp only [Sem.run_bind, g0 (a := .bool _) (b := .bool _) trivial, Result.andThen_ok, binOp, Op.equal, Op.maxDepth, this]
      rfl
  · rename_i p q
    split at h
    · simp at h
    · rename_i hg
      cases hr : vEq P 9 t (.agg p) (.agg q) with
      | none => simp [hr] at h
      | some r =>
        simp [hr] at h; subst h
        have := vEq_sound (P := P) 9 9991 t _ _ _ _ r w hx hy hr
        cases hx; cases hy
        refine ⟨.bool r, ?_, by constructor⟩
        simp only [Sem.run_bind, run_eqGuard_agg w .eql t ox oy _ _ (by simpa using hg), Result.andThen_ok, run_eql_struct, this]
  · rename_i p q
    split at h
    · simp at h
    · rename_i hg
      cases hr : vEq P 9 t (.agg p) (.agg q) with
      | none => simp [hr] at h
      | some r =>
        simp [hr] at h; subst h
        have := vEq_sound (P := P) 9 9991 t _ _ _ _ r w hx hy hr
        cases hx; cases hy
        refine ⟨.bool !r, ?_, by constructor⟩
        simp only [Sem.run_bind, run_eqGuard_agg w .neq t ox oy _ _ (by simpa using hg), Result.andThen_ok, run_neq_struct, this]
  · simp at h

theorem vUn_sound {op : UnOp} {x v : V} {a : Value} (hx : RV P H β x a) (h : vUn op x = some v) (w : World) : ∃ u, (Op.unary op a).run P w = .ok u w ∧ RV P H β v u := by
  unfold vUn at h
  split at h
  · cases hx
    simp only [Option.some.injEq] at h; subst h
    exact ⟨_, rfl, .int ..⟩
  · cases hx
    simp only [Option.some.injEq] at h; subst h
    exact ⟨_, by simp [Op.unary]; rfl, by constructor⟩
  · simp at h

theorem vMax_sound (w : World) : ∀ (l : List V) (x v : V) (a : Value) (bs : List Value), RV P H β x a → bs.length = l.length → (∀ (k : Nat) (y : V) (u : Value), l[k]? = some y → bs[k]? = some u → RV P H β y u) → vMax x l = some v →
    ∃ u, (bs.foldlM Builtin.max2 a : Sem Value).run P w = .ok u w ∧ RV P H β v u
  | [], x, v, a, bs, hx, hl, hr, h => by
    obtain rfl : bs = [] := List.eq_nil_of_length_eq_zero hl
    simp only [vMax, Option.some.injEq] at h; subst h
    exact ⟨a, by simp, hx⟩
  | y :: l, x, v, a, bs, hx, hl, hr, h => by
    cases bs with
    | nil => simp at hl
    | cons b bs =>
      have hy := hr 0 y b rfl rfl
      cases x <;> cases y <;> simp only [vMax, reduceCtorEq] at h
      cases hx; cases hy
      obtain ⟨u, h1, h2⟩ := vMax_sound w l _ v _ bs (.int β _ _) (by simpa using hl) (fun k y u hk hu => hr (k + 1) y u (by simpa using hk) (by simpa using hu)) h
      refine ⟨u, ?_, h2⟩
      simp only [List.foldlM_cons, Sem.run_bind, Builtin.max2, Sem.run_pure, Result.andThen_ok]
      exact h1

theorem vMin_sound (w : World) : ∀ (l : List V) (x v : V) (a : Value) (bs : List Value), RV P H β x a → bs.length = l.length → (∀ (k : Nat) (y : V) (u : Value), l[k]? = some y → bs[k]? = some u → RV P H β y u) → vMin x l = some v →
    ∃ u, (bs.foldlM Builtin.min2 a : Sem Value).run P w = .ok u w ∧ RV P H β v u
  | [], x, v, a, bs, hx, hl, hr, h => by
    obtain rfl : bs = [] := List.eq_nil_of_length_eq_zero hl
    simp only [vMin, Option.some.injEq] at h; subst h
    exact ⟨a, by simp, hx⟩
  | y :: l, x, v, a, bs, hx, hl, hr, h => by
    cases bs with
    | nil => simp at hl
    | cons b bs =>
      have hy := hr 0 y b rfl rfl
      cases x <;> cases y <;> simp only [vMin, reduceCtorEq] at h
      cases hx; cases hy
      obtain ⟨u, h1, h2⟩ := vMin_sound w l _ v _ bs (.int β _ _) (by simpa using hl) (fun k y u hk hu => hr (k + 1) y u (by simpa using hk) (by simpa using hu)) h
      refine ⟨u, ?_, h2⟩
      simp only [List.foldlM_cons, Sem.run_bind, Builtin.min2, Sem.run_pure, Result.andThen_ok]
      exact h1
end
end Go.Vi

/- Vi, part 5: values that are built, indexed and sliced. -/
set_option linter.unusedVariables false
set_option linter.unusedSimpArgs false
namespace Go.Vi
section
variable {P : Program} {H : Hp} {β : Bt}

/-! ### build -/
theorem foldl_set (off : Nat) : ∀ (us : List Value) (i : Nat) (cur : Array Value), off + i + us.length ≤ cur.size →
    (us.zipIdx i).foldl (fun cs (x : Value × Nat) => cs.setIfInBounds (off + x.2) x.1) cur = (cur.toList.take (off + i) ++ us ++ cur.toList.drop (off + i + us.length)).toArray
  | [], i, cur, _ => by simp
  | u :: us, i, cur, h => by
    simp only [List.length_cons] at h
    simp only [List.zipIdx_cons, List.foldl_cons]
    rw [foldl_set off us (i + 1) _ (by simp; omega)]
    congr 1
    have e := list_seg_step cur.toList (off + i) u us (by simp; omega)
    simpa [Array.toList_setIfInBounds, Nat.add_assoc] using e

theorem foldl_set_arr (off : Nat) (us : Array Value) (cur : Array Value) (h : off + us.size ≤ cur.size) :
    (us.zipIdx.foldl (fun cs (x : Value × Nat) => cs.setIfInBounds (off + x.2) x.1) cur) = (cur.toList.take off ++ us.toList ++ cur.toList.drop (off + us.size)).toArray := by
  rw [← Array.foldl_toList, Array.toList_zipIdx]
  have := foldl_set off us.toList 0 cur (by simpa using h)
  simpa using this

def PR (P : Program) (H : Hp) (β : Bt) (l : List (Nat × V)) (m : List (Nat × Value)) : Prop :=
  m.length = l.length ∧ ∀ (k : Nat) (x : Nat × V) (y : Nat × Value), l[k]? = some x → m[k]? = some y → y.1 = x.1 ∧ RV P H β x.2 y.2

theorem fill_sound (place : Nat → Option (Nat × Nat)) : ∀ (l : List (Nat × V)) (m : List (Nat × Value)) (cells cells' : List V) (arr : Array Value), PR P H β l m → CR P H β cells arr 0 → arr.size = cells.length → fillV place cells l = some cells' →
    ∃ arr', Instr.fill place arr m = some arr' ∧ arr'.size = cells'.length ∧ CR P H β cells' arr' 0
  | [], m, cells, cells', arr, hp, hc, hs, h => by
    obtain rfl : m = [] := List.eq_nil_of_length_eq_zero hp.1
    simp only [fillV, Option.some.injEq] at h; subst h
    exact ⟨arr, rfl, hs, hc⟩
  | (i, v) :: l, m, cells, cells', arr, hp, hc, hs, h => by
    cases m with
    | nil => have := hp.1; simp at this
    | cons y m =>
      obtain ⟨j, u⟩ := y
      obtain ⟨e1, e2⟩ := hp.2 0 _ _ rfl rfl
      simp only at e1 e2
      subst e1
      simp only [fillV] at h
      simp only [Instr.fill]
      cases hpl : place j with
      | none => simp [hpl] at h
      | some q =>
        obtain ⟨off, size⟩ := q
        simp only [hpl] at h
        simp only
        split at h
        · rename_i hk
          simp only [Bool.and_eq_true, beq_iff_eq, decide_eq_true_eq] at hk
          obtain ⟨⟨hk1, hk2⟩, hk3⟩ := hk
          obtain ⟨f1, f2, f3⟩ := flat_rel e2 hk1
          obtain ⟨g1, g2, g3⟩ := e2.flat_list hk1
          have hcond : ¬ ((u.cells.size ≠ size || decide (off + u.cells.size > arr.size)) = true) := by
            simp; omega
          rw [if_neg hcond, foldl_set_arr off u.cells arr (by omega)]
          have hc' := CR.put hc g1 g2 (off := off) (by omega)
          refine fill_sound place l m _ cells' _ ⟨by have := hp.1; simp at this; exact this, fun k x y hx hy => hp.2 (k + 1) x y (by simpa using hx) (by simpa using hy)⟩ (by simpa using hc') ?_ h
          simp [putCells]; omega
        · simp at h

theorem RV_ofVal1 (v : Value) : RV P H β (ofVal1 v) v := by
  unfold ofVal1
  split
  · exact .bool ..
  · exact .int ..
  · exact .str ..
  · exact .nl ..
  · exact .junk ..

theorem RV_ofVal (v : Value) : RV P H β (ofVal v) v := by
  unfold ofVal
  split
  · refine .agg _ _ _ (by simp) fun k y u hy hu => ?_
    simp only [List.getElem?_map, Array.getElem?_toList, hu, Option.map_some, Option.some.injEq] at hy
    subst hy
    exact RV_ofVal1 u
  · exact RV_ofVal1 v

theorem run_zero {t : TypeId} {z : V} (h : zeroT P t = some z) (w : World) : ∃ u, (zeroValue t).run P w = .ok u w ∧ RV P H β z u := by
  unfold zeroT at h
  cases hi : P.info? t with
  | none => simp [hi] at h
  | some i =>
    cases hz : i.zero with
    | none => simp [hi, hz] at h
    | some u =>
      simp [hi, hz] at h
      subst h
      exact ⟨u, by simp [zeroValue, typeInfo, hi, hz], RV_ofVal u⟩

theorem CR_rep {z : List V} {us : Array Value} (hs : us.size = z.length) (hc : CR P H β z us 0) (n : Nat) (hz : 0 < z.length) :
    CR P H β (repCells z n) ((Array.range (n * z.length)).map (us[· % us.size]!)) 0 ∧ (repCells z n).length = n * z.length := by
  have hl : ∀ n, (repCells z n).length = n * z.length := by
    intro n
    induction n with
    | zero => simp [repCells]
    | succ n ih => simp [repCells, ih, Nat.succ_mul]; omega
  have hg : ∀ n k (y : V), (repCells z n)[k]? = some y → z[k % z.length]? = some y := by
    intro n
    induction n with
    | zero => intro k y h; simp [repCells] at h
    | succ n ih =>
      intro k y h
      simp only [repCells, List.getElem?_append] at h
      split at h
      · rename_i hk; rw [Nat.mod_eq_of_lt hk]; exact h
      · rename_i hk
        have := ih _ _ h
        rwa [← Nat.mod_eq_sub_mod (by omega)] at this
  refine ⟨⟨by rw [hl]; simp, fun k y u hy hu => ?_⟩, hl n⟩
  have h1 := hg n k y hy
  have hm : k % z.length < us.size := by rw [hs]; exact Nat.mod_lt _ hz
  simp only [Nat.zero_add] at hu
  have hu' : us[k % us.size]! = u := by
    have := hu
    simp only [Array.getElem?_map] at this
    have hk : k < n * z.length := by rw [← hl n]; exact (List.getElem?_eq_some_iff.1 hy).1
    simp [hk] at this
    exact this
  rw [hs] at hu'
  refine hc.2 _ y u h1 ?_
  simp only [Nat.zero_add]
  rw [← hu', getElem!_pos us _ hm]
  simp [hm]

/-! ### index -/
theorem asI_val {v : V} {a : Value} {i : Int} (h : RV P H β v a) (hi : asI v = some i) : ∃ k, a = .int k i := by
  cases v <;> simp [asI] at hi
  cases h
  subst hi
  exact ⟨_, rfl⟩

theorem vIndex_sound {t : TypeId} {x i v : V} {a b : Value} (hx : RV P H β x a) (hi : RV P H β i b) (h : vIndex P t x i = some v) (w : World) :
    ∃ u, (Instr.index t a b).run P w = .ok u w ∧ RV P H β v u := by
  unfold vIndex at h
  cases hai : asI i with
  | none => simp [hai] at h
  | some n =>
    obtain ⟨k, rfl⟩ := asI_val hi hai
    cases hu : P.underlying t with
    | none => simp [hu] at h
    | some d =>
      simp only [hai, hu] at h
      split at h
      · rename_i n' _ len e cs e1 e2
        simp only [Option.some.injEq] at e1 e2
        subst e1; subst e2
        cases hz : szT P e with
        | none => simp [hz] at h
        | some sz =>
          simp only [hz] at h
          split at h
          · rename_i hb
            cases hx with
            | agg _ _ cs' hn hc =>
              obtain ⟨c1, c2⟩ := CR_of_agg (.agg _ _ _ hn hc)
              obtain ⟨u, p1, p2⟩ := run_part c1 c2 h w
              refine ⟨u, ?_, p2⟩
              have hb' : 0 ≤ n ∧ n < (len : Int) := hb
              simp [Instr.index, asIntOf, run_underlying hu, hb', run_sizeOf hz, p1]
          · simp at h
      · rename_i n' _ s e1 e2
        simp only [Option.some.injEq] at e1 e2
        subst e1; subst e2
        cases hx
        split at h
        · rename_i h0
          split at h
          · rename_i bb hbb
            simp only [Option.some.injEq] at h; subst h
            refine ⟨_, ?_, .int ..⟩
            simp [Instr.index, asIntOf, run_underlying hu, h0, hbb]
          · simp at h
        · simp at h
      · simp at h

theorem vIndexAddr_sound {t : TypeId} {x i v : V} {a b : Value} (hx : RV P H β x a) (hi : RV P H β i b) (h : vIndexAddr P t x i = some v) (w : World) :
    ∃ u, (Instr.indexAt t a b).run P w = .ok u w ∧ RV P H β v u := by
  unfold vIndexAddr at h
  cases hai : asI i with
  | none => simp [hai] at h
  | some n =>
    obtain ⟨k, rfl⟩ := asI_val hi hai
    cases hu : P.underlying t with
    | none => simp [hu] at h
    | some d =>
      simp only [hai, hu] at h
      split at h
      · rename_i n' _ len e e1 e2
        simp only [Option.some.injEq] at e1 e2
        subst e1; subst e2
        cases hz : szT P e with
        | none => simp [hz] at h
        | some sz =>
          simp only [hz] at h
          split at h
          · rename_i hb
            have hb' : 0 ≤ n ∧ n < (len : Int) := hb
            cases x <;> simp only [reduceCtorEq, Option.some.injEq] at h
            · subst h
              cases hx with
              | lp _ id off bk szb hβ =>
                refine ⟨_, ?_, .lp _ _ _ bk szb hβ⟩
                simp [Instr.indexAt, asIntOf, run_underlying hu, Instr.sureAddr, hb', run_sizeOf hz, add_none]
            · subst h
              cases hx with
              | fp _ cells off0 bk base arr ty fr h1 h2 h3 =>
                refine ⟨.pointer (some ⟨bk, base + (_ + n.toNat * sz), none⟩), ?_, .fp _ _ _ _ _ _ _ _ h1 h2 h3⟩
                simp [Instr.indexAt, asIntOf, run_underlying hu, Instr.sureAddr, hb', run_sizeOf hz, add_none, Nat.add_assoc]
          · simp at h
      · rename_i n' _ e e1 e2
        simp only [Option.some.injEq] at e1 e2
        subst e1; subst e2
        cases hz : szT P e with
        | none => simp [hz] at h
        | some sz =>
          simp only [hz] at h
          cases x <;> simp only [reduceCtorEq] at h
          · split at h
            · rename_i hb
              simp only [Option.some.injEq] at h; subst h
              cases hx with
              | sl0 =>
                have hb' : 0 ≤ n ∧ n < ((0 : Nat) : Int) := hb
                omega
              | sl _ id off m e' x b szb es cap hβ he hcap hnc hxx =>
                refine ⟨_, ?_, .lp _ _ _ b szb hβ⟩
                have hb' : 0 ≤ n ∧ n < (_ : Int) := hb
                simp [Instr.indexAt, asIntOf, run_underlying hu, hb', run_sizeOf hz, add_none]
            · simp at h
          · rename_i l
            split at h
            · rename_i h0
              split at h
              · rename_i y hy
                split at h
                · rename_i hk
                  simp only [Bool.and_eq_true, beq_iff_eq] at hk
                  simp only [Option.some.injEq] at h; subst h
                  have hlt : n.toNat < l.length := (List.getElem?_eq_some_iff.1 hy).1
                  cases hx with
                  | fs0 => simp at hy
                  | fs _ _ b off es cap arr ty fr h1 h2 h3 h4 h5 =>
                    have he : es = sz := by rw [← h4 _ _ hy]; exact hk.2
                    subst he
                    refine ⟨.pointer (some ⟨b, off + n.toNat * es + 0, none⟩), ?_, .fp _ _ _ _ (off + n.toNat * es) arr ty fr h2 ?_ fun k y' u hy' hu' => h5 _ _ hy k y' u hy' hu'⟩
                    · have hb' : 0 ≤ n ∧ n < (l.length : Int) := ⟨h0, by omega⟩
                      simp [Instr.indexAt, asIntOf, run_underlying hu, hb', run_sizeOf hz, add_none]
                    · have := Nat.mul_le_mul_right es (show n.toNat + 1 ≤ l.length from hlt)
                      rw [h4 _ _ hy]
                      rw [Nat.add_mul] at this
                      omega
                · simp at h
              · simp at h
            · simp at h
      · simp at h
end
end Go.Vi
