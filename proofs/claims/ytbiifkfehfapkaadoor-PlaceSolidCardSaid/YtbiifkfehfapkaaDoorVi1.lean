/- Vi, part 1: an interpreter over abstract values. Addresses are replaced by names (Id), slices and tables that are never written again by their contents; it runs a region in the order of the text. Definitions only. -/
import Derived.Orders
namespace Go.Vi

/-- The name of an object: made by the g-th run of the operation that writes slot t; lent by the caller; handed to the caller. -/
inductive Id where
  | own (t g : Nat)
  | bor (k : Nat)
  | ret (k : Nat)
  deriving DecidableEq

/-- An abstract value. -/
inductive V where
  | junk
  | int (k : IntKind) (n : Int)
  | bool (b : Bool)
  | str (s : ByteArray)
  | agg (l : List V)
  | tup (l : List V)
  | lp (id : Id) (off : Nat)
  | sl (id : Id) (off n : Nat) (e : TypeId) (x : Bool)
  | nl
  | e0
  | fs (l : List V)
  | fp (cells : List V) (off : Nat)
  | fn (f : FuncId) (caps : List V)

def isOwn : Id → Bool
  | .own _ _ => true
  | _ => false

structure Ob where
  ty : TypeId
  cells : List V
  fz : Bool

/-- A computation that looks objects up. -/
inductive Rd (α : Type) where
  | pure (a : α)
  | fail
  | look (id : Id) (k : Ob → Rd α)

def Rd.bind {α β : Type} : Rd α → (α → Rd β) → Rd β
  | .pure a, f => f a
  | .fail, _ => .fail
  | .look id k, f => .look id fun o => (k o).bind f

instance : Monad Rd where
  pure := Rd.pure
  bind := Rd.bind

def Rd.run {α : Type} (ob : Id → Option Ob) : Rd α → Option (α × List Id)
  | .pure a => some (a, [])
  | .fail => none
  | .look id k =>
    match ob id with
    | none => none
    | some o =>
      match (k o).run ob with
      | none => none
      | some (a, l) => some (a, id :: l)

def opt {α : Type} : Option α → Rd α
  | some a => .pure a
  | none => .fail

def must (b : Bool) : Rd Unit := if b then .pure () else .fail

def look (id : Id) : Rd Ob := .look id .pure

def V.leaf : V → Bool
  | .agg _ | .tup _ | .junk => false
  | _ => true

def V.flat : V → List V
  | .agg l => l
  | v => [v]

/-- It lies in memory as its cells. -/
def V.ok : V → Bool
  | .agg l => l.all V.leaf
  | v => v.leaf

def ofVal1 : Value → V
  | .bool b => .bool b
  | .int k n => .int k n
  | .string s => .str s
  | .slice none 0 0 => .nl
  | _ => .junk

def ofVal : Value → V
  | .agg cs => .agg (cs.toList.map ofVal1)
  | v => ofVal1 v

section
variable (P : Program)

def aggT (t : TypeId) : Option Bool :=
  match P.underlying t with
  | some (.struct _) | some (.array _ _) => some true
  | some _ => some false
  | none => none

def szT (t : TypeId) : Option Nat := (P.info? t).map (·.size)
def byT (t : TypeId) : Option Nat := (P.info? t).map (·.bytes)
def zeroT (t : TypeId) : Option V := ((P.info? t).bind (·.zero)).map ofVal

/-- What a load of type t at a cell gives. -/
def ld (t : TypeId) (cells : List V) (off : Nat) : Option V :=
  match aggT P t with
  | some true =>
    match szT P t with
    | some n => if off + n ≤ cells.length then some (.agg ((cells.drop off).take n)) else none
    | none => none
  | some false => cells[off]?
  | none => none

def putCells (cells : List V) (off : Nat) (xs : List V) : List V := cells.take off ++ xs ++ cells.drop (off + xs.length)

/-- A value without names. -/
def V.nv : V → Bool
  | .int _ _ | .bool _ | .str _ | .fs _ | .fp _ _ => true
  | .agg l => nvs l
  | .tup l => nvs l
  | _ => false
where nvs : List V → Bool
  | [] => true
  | v :: l => v.nv && nvs l

def chunkA (sz : Nat) : Nat → List V → List V
  | 0, _ => []
  | n + 1, cs => .agg (cs.take sz) :: chunkA sz n (cs.drop sz)

def chunk (ag : Bool) (sz n : Nat) (cs : List V) : List V := if ag then chunkA sz n cs else cs

def idx (id : Id) : List Id → Option Nat
  | [] => none
  | x :: l => if x = id then some 0 else (idx id l).map (· + 1)

def mapRd (f : V → Rd V) : List V → Rd (List V)
  | [] => .pure []
  | v :: l => (f v).bind fun v' => (mapRd f l).bind fun l' => .pure (v' :: l')

/-- A value as it is handed on: names are turned by 'nm', the contents of slices are read. -/
def nrm (nm : Id → Option Id) (bs : Bool) : Nat → V → Rd V
  | 0, _ => .fail
  | d + 1, v =>
    match v with
    | .int k n => .pure (.int k n)
    | .bool b => .pure (.bool b)
    | .str s => .pure (.str s)
    | .nl => .pure (.fs [])
    | .e0 => .pure (.fs [])
    | .fs l => .pure (.fs l)
    | .fp c o => .pure (.fp c o)
    | .agg l => if V.nv.nvs l then .pure (.agg l) else (mapRd (nrm nm bs d) l).bind fun l' => .pure (.agg l')
    | .tup l => if V.nv.nvs l then .pure (.tup l) else (mapRd (nrm nm bs d) l).bind fun l' => .pure (.tup l')
    | .fn f caps => (mapRd (nrm nm bs d) caps).bind fun c => .pure (.fn f c)
    | .lp id off =>
      match nm id with
      | some id' => .pure (.lp id' off)
      | none => .fail
    | .sl id off n e x =>
      match (if bs then nm id else none) with
      | some id' => .pure (.sl id' off n e x)
      | none =>
        .look id fun o =>
          match szT P e, aggT P e with
          | some sz, some ag =>
            if off + n * sz ≤ o.cells.length && (ag || (sz == 1 && ((o.cells.drop off).take (n * sz)).all V.leaf)) then
              if V.nv.nvs ((o.cells.drop off).take (n * sz)) then .pure (.fs (chunk ag sz n ((o.cells.drop off).take (n * sz))))
              else (mapRd (nrm (fun _ => none) false d) ((o.cells.drop off).take (n * sz))).bind fun cs => if ag || cs.all V.leaf then .pure (.fs (chunk ag sz n cs)) else .fail
            else .fail
          | _, _ => .fail
    | .junk => .fail

/-- The names of a value's pointers; with 'bs' of its slices too. -/
def refs (bs : Bool) : Nat → V → List Id
  | 0, _ => []
  | d + 1, v =>
    match v with
    | .lp id _ => [id]
    | .sl id _ _ _ _ => if bs then [id] else []
    | .fn _ caps => caps.flatMap (refs bs d)
    | .agg l => if V.nv.nvs l then [] else l.flatMap (refs bs d)
    | .tup l => if V.nv.nvs l then [] else l.flatMap (refs bs d)
    | _ => []

/-- It leans on no memory. -/
def V.light : Nat → V → Bool
  | 0, _ => false
  | d + 1, v =>
    match v with
    | .int _ _ | .bool _ | .str _ => true
    | .fs [] => true
    | .agg l | .tup l => l.all (V.light d)
    | _ => false

def depth : Nat := 8

def dedup : List Id → List Id
  | [] => []
  | x :: l => x :: (dedup l).filter (fun y => y ≠ x)

/-- Back from a callee: its names are the caller's. -/
def back (ids : List Id) (t g : Nat) : Nat → V → Option V
  | 0, _ => none
  | d + 1, v =>
    match v with
    | .lp (.bor k) off => (ids[k]?).map fun id => .lp id off
    | .lp (.ret k) off => some (.lp (.own t (g + k)) off)
    | .sl (.ret k) off n e x => some (.sl (.own t (g + k)) off n e x)
    | .sl (.bor k) off n e x => (ids[k]?).map fun id => .sl id off n e x
    | .lp _ _ | .sl _ _ _ _ _ | .nl | .e0 | .junk | .fn _ _ => none
    | .agg l => if V.nv.nvs l then some (.agg l) else (l.mapM (back ids t g d)).map .agg
    | .tup l => if V.nv.nvs l then some (.tup l) else (l.mapM (back ids t g d)).map .tup
    | v => some v

structure Res where
  v : V
  up : List (Id × Option Ob)
  nw : Nat

def asI : V → Option Int
  | .int _ n => some n
  | _ => none

/-! ### Operators -/
def vInt (op : BinOp) (k : IntKind) (a b : Int) : Option V :=
  match op with
  | .add => some (.int k (k.wrap (a + b)))
  | .sub => some (.int k (k.wrap (a - b)))
  | .mul => some (.int k (k.wrap (a * b)))
  | .quo => if b = 0 then none else some (.int k (k.wrap (a.tdiv b)))
  | .rem => if b = 0 then none else some (.int k (a.tmod b))
  | .and => some (.int k (k.wrap (BitVec.ofInt k.bits a &&& BitVec.ofInt k.bits b).toNat))
  | .or => some (.int k (k.wrap (BitVec.ofInt k.bits a ||| BitVec.ofInt k.bits b).toNat))
  | .xor => some (.int k (k.wrap (BitVec.ofInt k.bits a ^^^ BitVec.ofInt k.bits b).toNat))
  | .eql => some (.bool (a == b))
  | .neq => some (.bool (a != b))
  | .lss => some (.bool (decide (a < b)))
  | .leq => some (.bool (decide (a ≤ b)))
  | .gtr => some (.bool (decide (a > b)))
  | .geq => some (.bool (decide (a ≥ b)))
  | _ => none

def vStr (op : BinOp) (x y : ByteArray) : Option V :=
  match op with
  | .add => if x.size + y.size ≤ 9223372036854775807 then some (.str (x ++ y)) else none
  | .eql => some (.bool (x.toList == y.toList))
  | .neq => some (.bool (!(x.toList == y.toList)))
  | .lss => some (.bool (Op.bytesLess x.toList y.toList))
  | .leq => some (.bool (Op.bytesLess x.toList y.toList || x.toList == y.toList))
  | .gtr => some (.bool (!(Op.bytesLess x.toList y.toList || x.toList == y.toList)))
  | .geq => some (.bool (!(Op.bytesLess x.toList y.toList)))
  | _ => none

def vFlds (eq : TypeId → V → V → Option Bool) : List Field → List V → List V → Option Bool
  | [], _, _ => some true
  | f :: fs, xs, ys =>
    if f.name ≠ "_" then
      match ld P f.type xs f.offset, ld P f.type ys f.offset with
      | some a, some b =>
        match eq f.type a b with
        | some true => vFlds eq fs xs ys
        | r => r
      | _, _ => none
    else vFlds eq fs xs ys

def vElems (eq : TypeId → V → V → Option Bool) (elem : TypeId) (n : Nat) (xs ys : List V) : (m i : Nat) → Option Bool
  | 0, _ => some true
  | m + 1, i =>
    match ld P elem xs (i * n), ld P elem ys (i * n) with
    | some a, some b =>
      match eq elem a b with
      | some true => vElems eq elem n xs ys m (i + 1)
      | r => r
    | _, _ => none

/-- '==' of values without names. -/
def vEq : Nat → TypeId → V → V → Option Bool
  | 0, _, _, _ => none
  | d + 1, t, x, y =>
    match P.underlying t, x, y with
    | some .bool, .bool a, .bool b => some (a == b)
    | some (.int _), .int k a, .int k' b => if k = k' then some (a == b) else none
    | some .string, .str a, .str b => some (a == b)
    | some (.struct fields), .agg xs, .agg ys => if P.stoodInHeld t then none else vFlds P (vEq d) fields.toList xs ys
    | some (.array len elem), .agg xs, .agg ys =>
      match szT P elem with
      | some n => vElems P (vEq d) elem n xs ys len 0
      | none => none
    | _, _, _ => none

def vBin (op : BinOp) (t : TypeId) (x y : V) : Option V :=
  match op, x, y with
  | .shl, .int k a, .int _ b => if b < 0 then none else some (.int k (k.wrap (a * 2 ^ (min b.toNat k.bits))))
  | .shr, .int k a, .int _ b => if b < 0 then none else some (.int k (a.fdiv (2 ^ (min b.toNat k.bits))))
  | op, .int k a, .int k' b => if k = k' then vInt op k a b else none
  | op, .str a, .str b => vStr op a b
  | .eql, .bool a, .bool b => (vEq P 9 t (.bool a) (.bool b)).map .bool
  | .neq, .bool a, .bool b => (vEq P 9 t (.bool a) (.bool b)).map fun r => .bool !r
  | .eql, .agg a, .agg b => if P.eqGuardType P.depth t then none else (vEq P 9 t (.agg a) (.agg b)).map .bool
  | .neq, .agg a, .agg b => if P.eqGuardType P.depth t then none else (vEq P 9 t (.agg a) (.agg b)).map fun r => .bool !r
  | _, _, _ => none

def vUn (op : UnOp) (x : V) : Option V :=
  match op, x with
  | .neg, .int k n => some (.int k (k.wrap (0 - n)))
  | .not, .bool b => some (.bool !b)
  | _, _ => none

def vMax : V → List V → Option V
  | v, [] => some v
  | .int k x, .int _ y :: l => vMax (.int k (if y > x then y else x)) l
  | _, _ => none

def vMin : V → List V → Option V
  | v, [] => some v
  | .int k x, .int _ y :: l => vMin (.int k (if y < x then y else x)) l
  | _, _ => none

def fillV (place : Nat → Option (Nat × Nat)) (cells : List V) : List (Nat × V) → Option (List V)
  | [] => some cells
  | (i, v) :: rest =>
    match place i with
    | none => none
    | some (off, size) =>
      if v.ok && v.flat.length == size && decide (off + size ≤ cells.length) then fillV place (putCells cells off v.flat) rest else none

def repCells (zero : List V) : Nat → List V
  | 0 => []
  | n + 1 => zero ++ repCells zero n

def byteOk : V → Bool
  | .int .u8 _ => true
  | _ => false

def byteI : V → Int
  | .int _ n => n
  | _ => 0

def bytesV (s : ByteArray) : List V := s.data.toList.map fun b => .int .u8 b.toNat

/-- What lies in a slice, as cells. -/
def slCells (v : V) : Rd (List V) :=
  match v with
  | .nl | .e0 => .pure []
  | .fs l => if l.all V.ok then .pure (l.flatMap V.flat) else .fail
  | .sl id off n e _ =>
    .look id fun o =>
      match szT P e with
      | some sz => if off + n * sz ≤ o.cells.length then .pure ((o.cells.drop off).take (n * sz)) else .fail
      | none => .fail
  | _ => .fail

def slLen : V → Option Nat
  | .nl | .e0 => some 0
  | .fs l => some l.length
  | .sl _ _ n _ _ => some n
  | _ => none

/-- 2^47: the bytes that a slice may come to. -/
def room : Nat := 140737488355328

def vAppend (t : TypeId) (s x : V) (fresh : Id) : Rd Res :=
  match P.underlying t with
  | some (.slice e) =>
    match szT P e, byT P e, zeroT P e with
    | some sz, some by_, some z =>
      (match x with
        | .str b => Rd.pure (bytesV b)
        | x => slCells P x).bind fun xs =>
      (opt (match x with | .str b => some b.size | x => slLen x)).bind fun n =>
      if !(xs.all V.leaf && xs.length == n * sz && decide (0 < by_) && decide (0 < sz) && z.ok && z.flat.length == sz) then .fail else
      match s with
      | .nl | .e0 =>
        if n = 0 then .pure ⟨s, [], 0⟩ else
        if n * by_ ≤ room then .pure ⟨.sl fresh 0 n e false, [(fresh, some ⟨e, xs, false⟩)], 1⟩ else .fail
      | .sl id off m e' ex =>
        .look id fun o =>
          if !(e' == e && decide (off + m * sz ≤ o.cells.length) && decide ((m + n) * by_ ≤ room)) then .fail else
          if ex then
            if n = 0 then .pure ⟨s, [], 0⟩
            else .pure ⟨.sl fresh 0 (m + n) e false, [(fresh, some ⟨e, (o.cells.drop off).take (m * sz) ++ xs, false⟩)], 1⟩
          else if off == 0 && m * sz == o.cells.length && !o.fz && isOwn id && o.ty == e then
            .pure ⟨.sl fresh 0 (m + n) e false, [(id, none), (fresh, some ⟨o.ty, o.cells ++ xs, false⟩)], 1⟩
          else .fail
      | _ => .fail
    | _, _, _ => .fail
  | _ => .fail

def vIndexAddr (t : TypeId) (x i : V) : Option V :=
  match asI i, P.underlying t with
  | some n, some (.array len e) =>
    match szT P e with
    | some sz =>
      if 0 ≤ n ∧ n < len then
        match x with
        | .lp id off => some (.lp id (off + n.toNat * sz))
        | .fp c off => some (.fp c (off + n.toNat * sz))
        | _ => none
      else none
    | none => none
  | some n, some (.slice e) =>
    match szT P e with
    | some sz =>
      match x with
      | .sl id off m _ _ => if 0 ≤ n ∧ n < m then some (.lp id (off + n.toNat * sz)) else none
      | .fs l =>
        if 0 ≤ n then
          match l[n.toNat]? with
          | some y => if y.ok && y.flat.length == sz then some (.fp y.flat 0) else none
          | none => none
        else none
      | _ => none
    | none => none
  | _, _ => none

def vIndex (t : TypeId) (x i : V) : Option V :=
  match asI i, P.underlying t, x with
  | some n, some (.array len e), .agg cs =>
    match szT P e with
    | some sz => if 0 ≤ n ∧ n < len then ld P e cs (n.toNat * sz) else none
    | none => none
  | some n, some .string, .str s =>
    if 0 ≤ n then (match s[n.toNat]? with | some b => some (.int .u8 b.toNat) | none => none) else none
  | _, _, _ => none

/-- The bounds of a slice expression: low, high, and the capacity that is asked for. -/
def vBounds (n : Nat) (lo hi mx : Option V) : Option (Nat × Nat × Option Nat) :=
  match (match mx with | some v => (asI v).map some | none => some none) with
  | none => none
  | some m =>
    match (match hi with | some v => asI v | none => some (n : Int)), (match lo with | some v => asI v | none => some 0) with
    | some h, some l =>
      if 0 ≤ l ∧ l ≤ h ∧ h ≤ n then
        match m with
        | none => some (l.toNat, h.toNat, none)
        | some m => if h ≤ m ∧ m ≤ n ∧ hi.isSome then some (l.toNat, h.toNat, some m.toNat) else none
      else none
    | _, _ => none

def vSlice (t : TypeId) (x : V) (lo hi mx : Option V) : Rd V :=
  match P.underlying t, x with
  | some .string, .str s =>
    match vBounds s.size lo hi none, mx with
    | some (l, h, _), none => .pure (.str (s.extract l h))
    | _, _ => .fail
  | some (.array n e), .lp id off =>
    match szT P e, vBounds n lo hi mx with
    | some sz, some (l, h, m) =>
      .look id fun o =>
        if !(decide (off + n * sz ≤ o.cells.length)) then .fail else
        if l = m.getD n then .pure .e0 else .pure (.sl id (off + l * sz) (h - l) e (decide (h = m.getD n)))
    | _, _ => .fail
  | some (.slice e), .sl id off n e' ex =>
    match szT P e, vBounds n lo hi mx with
    | some sz, some (l, h, m) =>
      if !(e' == e) then .fail else
      match m with
      | some m => if l = m then .pure .e0 else .pure (.sl id (off + l * sz) (h - l) e (decide (h = m)))
      | none => if l = 0 ∨ l < h then .pure (.sl id (off + l * sz) (h - l) e (ex && decide (h = n))) else .pure (.fs [])
    | _, _ => .fail
  | some (.slice e), .fs l0 =>
    match szT P e, vBounds l0.length lo hi mx with
    | some sz, some (l, h, m) =>
      if m = some l then .pure .e0 else
      if l = 0 ∨ h = l ∨ ((l0[l]?).any fun x => x.flat.length == sz) = true then .pure (.fs ((l0.drop l).take (h - l))) else .fail
    | _, _ => .fail
  | some (.slice e), .nl =>
    match szT P e, vBounds 0 lo hi mx with
    | some _, some _ => .pure .e0
    | _, _ => .fail
  | some (.slice e), .e0 =>
    match szT P e, vBounds 0 lo hi mx with
    | some _, some _ => .pure .e0
    | _, _ => .fail
  | _, _ => .fail

abbrev Oracle := FuncId → List V → List Ob → Option (V × List Ob × List Ob)

def lookAll : List Id → Rd (List Ob)
  | [] => .pure []
  | id :: l => .look id fun o => (lookAll l).bind fun os => .pure (o :: os)

def mapIds (f : V → Rd (List Id)) : List V → Rd (List Id)
  | [] => .pure []
  | v :: l => (f v).bind fun a => (mapIds f l).bind fun b => .pure (a ++ b)

/-- The names of what is handed on by value. -/
def slIds (nm : Id → Option Id) (bs : Bool) : Nat → V → Rd (List Id)
  | 0, _ => .pure []
  | d + 1, v =>
    match v with
    | .sl id off n e _ =>
      match (if bs then nm id else none) with
      | some _ => .pure []
      | none =>
        .look id fun o =>
          match szT P e with
          | some sz =>
            if V.nv.nvs ((o.cells.drop off).take (n * sz)) then .pure [id]
            else (mapIds (slIds (fun _ => none) false d) ((o.cells.drop off).take (n * sz))).bind fun l => .pure (id :: l)
          | none => .fail
    | .fn _ caps => mapIds (slIds nm bs d) caps
    | .agg l => if V.nv.nvs l then .pure [] else mapIds (slIds nm bs d) l
    | .tup l => if V.nv.nvs l then .pure [] else mapIds (slIds nm bs d) l
    | _ => .pure []

/-- The contents of objects, as they are handed on. -/
def nrmObs : List Ob → Rd (List Ob)
  | [] => .pure []
  | o :: l => if o.fz then .fail else (mapRd (nrm P (fun _ => none) false depth) o.cells).bind fun c => (nrmObs l).bind fun r => .pure (⟨o.ty, c, false⟩ :: r)

def freezeAll : List Id → Rd (List (Id × Option Ob))
  | [] => .pure []
  | id :: l => .look id fun o => (freezeAll l).bind fun r => .pure ((id, some { o with fz := true }) :: r)

def apart (a b : List Id) : Bool := a.all fun x => !b.contains x

def obsNv (l : List Ob) : Bool := l.all fun o => V.nv.nvs o.cells && !o.fz
def obsLight (l : List Ob) : Bool := l.all fun o => o.cells.all (V.light depth)

def newUps (t g : Nat) : Nat → List Ob → List (Id × Option Ob)
  | _, [] => []
  | k, o :: l => (.own t (g + k), some o) :: newUps t g (k + 1) l

/-- What the interpreter is told: the package's tables; which functions write into slices that are handed to them; which hand out slices that are theirs alone. -/
structure Env where
  gl : Nat → Option (List V)
  mutA : FuncId → Bool
  ownR : FuncId → Bool

def vCall (E : Env) (C : Oracle) (f : V) (args : List V) (t g : Nat) : Rd Res :=
  match f with
  | .fn f caps =>
    let as := args ++ caps
    let bs := E.mutA f
    let ids := dedup (as.flatMap (refs bs depth))
    let nm := fun id => (idx id ids).map Id.bor
    (mapRd (nrm P nm bs depth) as).bind fun as' =>
    (lookAll ids).bind fun obs =>
    (nrmObs P obs).bind fun bo =>
    (mapIds (slIds P nm bs depth) as).bind fun s1 =>
    (mapIds (slIds P (fun _ => none) false depth) (obs.flatMap Ob.cells)).bind fun s2 =>
    match C f as' bo with
    | none => .fail
    | some (res, bo', ro) =>
      match back ids t g depth res with
      | none => .fail
      | some v =>
        if !(bo'.length == ids.length && obsNv bo' && obsNv ro && apart ids (s1 ++ s2)) then .fail else
        if v.light depth && obsLight bo' && obsLight ro then .pure ⟨v, ids.zip (bo'.map some) ++ newUps t g 0 ro, ro.length⟩
        else if !((s1 ++ s2).all isOwn) then .fail
        else (freezeAll (dedup (s1 ++ s2))).bind fun fr => .pure ⟨v, fr ++ ids.zip (bo'.map some) ++ newUps t g 0 ro, ro.length⟩
  | _ => .fail

def evO (E : Env) (tm : Nat → V) : Operand → V
  | .tmp t => tm t
  | .const v => ofVal v
  | .global g =>
    match E.gl g with
    | some c => .fp c 0
    | none => .junk
  | .func f => .fn f []

def val (v : Option V) : Rd Res := (opt v).bind fun v => .pure ⟨v, [], 0⟩

def mkOb (e : TypeId) (v : V) (fresh : Id) : Rd Res :=
  if v.ok then .pure ⟨.lp fresh 0, [(fresh, some ⟨e, v.flat, false⟩)], 1⟩ else .fail

/-- One operation; t: the slot that it writes; g: how many objects it has made. -/
def core (E : Env) (C : Oracle) (ρ : Operand → V) (t g : Nat) (o : Oper) : Rd Res :=
  match o.op with
  | .move x | .assign x => .pure ⟨ρ x, [], 0⟩
  | .pick c a b =>
    match ρ c with
    | .bool true => .pure ⟨ρ a, [], 0⟩
    | .bool false => .pure ⟨ρ b, [], 0⟩
    | _ => .fail
  | .alloc e => (opt (zeroT P e)).bind fun z => mkOb e z (.own t g)
  | .box e x => mkOb e (ρ x) (.own t g)
  | .build ty parts =>
    match zeroT P ty, P.underlying ty with
    | some z, some (.struct fields) =>
      if z.ok && fields.all (fun f => (szT P f.type).isSome) then
        val ((fillV (fun i => (fields[i]?).bind fun f => (szT P f.type).map fun s => (f.offset, s)) z.flat (parts.toList.map fun (i, x) => (i, ρ x))).map .agg)
      else .fail
    | some z, some (.array _ e) =>
      match szT P e with
      | some sz => if z.ok then val ((fillV (fun i => some (i * sz, sz)) z.flat (parts.toList.map fun (i, x) => (i, ρ x))).map .agg) else .fail
      | none => .fail
    | _, _ => .fail
  | .buildSlice ty len parts =>
    match P.underlying ty with
    | some (.slice e) =>
      match szT P e, zeroT P e with
      | some sz, some z =>
        if z.ok && z.flat.length == sz && decide (len * sz ≤ 16777216) && decide (0 < sz) then
          (opt (fillV (fun i => some (i * sz, sz)) (repCells z.flat len) (parts.toList.map fun (i, x) => (i, ρ x)))).bind fun cs =>
          .pure ⟨.sl (.own t g) 0 len e true, [(.own t g, some ⟨e, cs, false⟩)], 1⟩
        else .fail
      | _, _ => .fail
    | _ => .fail
  | .load ty a =>
    match ρ a with
    | .lp id off => .look id fun ob => val (ld P ty ob.cells off)
    | .fp c off => val (ld P ty c off)
    | _ => .fail
  | .store ty a x =>
    match ρ a, szT P ty with
    | .lp id off, some sz =>
      .look id fun ob =>
        if (ρ x).ok && (ρ x).flat.length == sz && decide (off + sz ≤ ob.cells.length) && !ob.fz then
          .pure ⟨.tup [], [(id, some ⟨ob.ty, putCells ob.cells off (ρ x).flat, false⟩)], 0⟩
        else .fail
    | _, _ => .fail
  | .nilCheck x =>
    match ρ x with
    | .lp id off => .pure ⟨.lp id off, [], 0⟩
    | .fp c off => .pure ⟨.fp c off, [], 0⟩
    | .fn f caps => .pure ⟨.fn f caps, [], 0⟩
    | _ => .fail
  | .binOp op ty x y _ => val (vBin P op ty (ρ x) (ρ y))
  | .unOp op _ x => val (vUn op (ρ x))
  | .convert src dst x =>
    match P.underlying src, P.underlying dst, ρ x with
    | some (.int _), some (.int k), .int _ n => .pure ⟨.int k (k.wrap n), [], 0⟩
    | some .string, some .string, .str s => .pure ⟨.str s, [], 0⟩
    | some .string, some (.slice e), .str s =>
      match P.underlying e, szT P e with
      | some (.int .u8), some 1 => .pure ⟨.sl (.own t g) 0 s.size e false, [(.own t g, some ⟨e, bytesV s, false⟩)], 1⟩
      | _, _ => .fail
    | some (.slice e), some .string, v =>
      match P.underlying e, szT P e with
      | some (.int .u8), some 1 =>
        (slCells P v).bind fun cs =>
        (opt (slLen v)).bind fun n =>
        if cs.all byteOk && cs.length == n then .pure ⟨.str ⟨(cs.map fun c => UInt8.ofNat (byteI c).toNat).toArray⟩, [], 0⟩ else .fail
      | _, _ => .fail
    | _, _, _ => .fail
  | .makeFunc (.func f) first captured => if first.isEmpty then .pure ⟨.fn f (captured.toList.map ρ), [], 0⟩ else .fail
  | .slice ty x lo hi mx => (vSlice P ty (ρ x) (lo.map ρ) (hi.map ρ) (mx.map ρ)).bind fun v => .pure ⟨v, [], 0⟩
  | .fieldAddr s x f =>
    match P.underlying s with
    | some (.struct fields) =>
      match fields[f]? with
      | some fd =>
        match szT P fd.type with
        | some sz =>
          if sz = 0 then .fail else
          match ρ x with
          | .lp id off => .pure ⟨.lp id (off + fd.offset), [], 0⟩
          | .fp c off => .pure ⟨.fp c (off + fd.offset), [], 0⟩
          | _ => .fail
        | none => .fail
      | none => .fail
    | _ => .fail
  | .field ty x f =>
    match P.underlying ty, ρ x with
    | some (.struct fields), .agg cs =>
      match fields[f]? with
      | some fd => val (ld P fd.type cs fd.offset)
      | none => .fail
    | _, _ => .fail
  | .indexAddr ty x i => val (vIndexAddr P ty (ρ x) (ρ i))
  | .index ty x i => val (vIndex P ty (ρ x) (ρ i))
  | .extract x i =>
    match ρ x with
    | .tup l => val (l[i]?)
    | _ => .fail
  | .call c =>
    let args := c.args.toList.map ρ
    match c.callee with
    | .value f => vCall P E C (ρ f) args t g
    | .builtin .len =>
      match c.argTypes.toList, args with
      | ty :: _, v :: _ =>
        match P.underlying ty, v with
        | some .string, .str s => .pure ⟨.int .i64 s.size, [], 0⟩
        | some (.array n _), _ => .pure ⟨.int .i64 n, [], 0⟩
        | some (.slice _), v => val ((slLen v).map fun (n : Nat) => V.int .i64 (n : Int))
        | _, _ => .fail
      | _, _ => .fail
    | .builtin .max =>
      match args with
      | v :: l => val (vMax v l)
      | _ => .fail
    | .builtin .min =>
      match args with
      | v :: l => val (vMin v l)
      | _ => .fail
    | .builtin .append =>
      match c.argTypes.toList, args with
      | [ty, ty2], [s, x] =>
        match P.underlying ty2 with
        | some (.int _) | none => .fail
        | some _ => vAppend P ty s x (.own t g)
      | _, _ => .fail
    | _ => .fail
  | _ => .fail

/-! ### Running -/
structure St where
  n : Nat
  tm : Nat → V
  nx : Nat → Nat
  ob : Id → Option Ob

inductive Ex where
  | normal
  | exit (id : Nat)
  | ret

/-- What an operation did. -/
structure Eff where
  dst : Option Nat
  v : V
  nw : Nat
  up : List (Id × Option Ob)
  rd : List Id

def setT {α : Type} (f : Nat → α) (t : Option Nat) (v : α) : Nat → α :=
  match t with
  | some t => fun u => if u = t then v else f u
  | none => f

def applyUp (f : Id → Option Ob) : List (Id × Option Ob) → Id → Option Ob
  | [] => f
  | (id, o) :: l => applyUp (fun x => if x = id then o else f x) l

def St.app (s : St) (e : Eff) : St :=
  { n := s.n, tm := setT s.tm e.dst e.v,
    nx := match e.dst with | some t => fun u => if u = t then s.nx t + e.nw else s.nx u | none => s.nx,
    ob := applyUp s.ob e.up }

def dstOk (s : St) : Option Nat → Bool
  | some t => t < s.n
  | none => true

/-- Is the operation wanted? none: not known. -/
def want (ops : Array Oper) (tm : Nat → V) (o : Oper) : Option Bool :=
  match o.guard with
  | none => some true
  | some (j, w) =>
    match (ops[j]?).bind (·.dst) with
    | some t =>
      match tm t with
      | .bool b => some (b == w)
      | .tup _ => some false
      | _ => none
    | none => none

def effOf (E : Env) (C : Oracle) (ops : Array Oper) (o : Oper) (s : St) : Option Eff :=
  if !dstOk s o.dst then none else
  match want ops s.tm o with
  | none => none
  | some false => some ⟨o.dst, .tup [], 0, [], []⟩
  | some true =>
    match (core P E C (evO E s.tm) (o.dst.getD s.n) (s.nx (o.dst.getD s.n)) o).run s.ob with
    | none => none
    | some (r, l) => if o.dst.isNone && r.nw != 0 then none else some ⟨o.dst, r.v, r.nw, r.up, l⟩

def runOps (E : Env) (C : Oracle) (ops : Array Oper) : List Oper → St → Option St
  | [], s => some s
  | o :: l, s =>
    match effOf P E C ops o s with
    | none => none
    | some e => runOps E C ops l (s.app e)

def effs (E : Env) (C : Oracle) (ops : Array Oper) : List Oper → St → Option (List Eff × St)
  | [], s => some ([], s)
  | o :: l, s =>
    match effOf P E C ops o s with
    | none => none
    | some e =>
      match effs E C ops l (s.app e) with
      | none => none
      | some (es, s') => some (e :: es, s')

def looks (ops : Array Oper) (o : Oper) : List Nat := o.looksAt ops

/-- The pairs of operations that no edge orders. -/
def loosePairs (ops : Array Oper) : List (Nat × Nat) :=
  let b := Region.before ops
  (List.range ops.size).flatMap fun j => (List.range j).filterMap fun i => if (b.getD j 0).testBit i then none else some (i, j)

def edgesOk (ops : Array Oper) : Bool :=
  ops.toList.zipIdx.all fun (o, i) => o.after.all fun e => !Region.binds .any e || decide (e.on < i)

def tmpsApart (ops : Array Oper) : Bool :=
  edgesOk ops && (loosePairs ops).all fun (i, j) =>
    match ops[i]?, ops[j]? with
    | some x, some y => x.apart ops y && y.apart ops x
    | _, _ => true

def touches : Op → Bool
  | .move _ | .assign _ | .pick _ _ _ | .nilCheck _ | .binOp _ _ _ _ _ | .unOp _ _ _ | .makeFunc _ _ _ | .fieldAddr _ _ _ | .field _ _ _ | .indexAddr _ _ _
  | .index _ _ _ | .extract _ _ | .build _ _ => false
  | .call { callee := .builtin .len, .. } | .call { callee := .builtin .max, .. } | .call { callee := .builtin .min, .. } => false
  | _ => true

def loudPairs (ops : Array Oper) : List (Nat × Nat) :=
  (loosePairs ops).filter fun (i, j) => ((ops[i]?).map fun o => touches o.op).getD true && ((ops[j]?).map fun o => touches o.op).getD true

def effApart (a b : Eff) : Bool :=
  apart (a.up.map (·.1)) (b.rd ++ b.up.map (·.1)) && apart (b.up.map (·.1)) a.rd

def effsApart (es : List Eff) (ps : List (Nat × Nat)) : Bool :=
  ps.all fun (i, j) =>
    match es[i]?, es[j]? with
    | some a, some b => effApart a b
    | _, _ => true

def iter (f : St → Option (Ex × St)) : Nat → St → Option (Ex × St)
  | 0, _ => none
  | k + 1, s =>
    match f s with
    | some (.normal, s') => iter f k s'
    | r => r

def evC (E : Env) (C : Oracle) (fuel : Nat) : Code → St → Option (Ex × St)
  | .skip, s => some (.normal, s)
  | .label _, s => some (.normal, s)
  | .region _ ops draw, s =>
    if draw then
      match effs P E C ops ops.toList s with
      | some (es, s') => if tmpsApart ops && effsApart es (loudPairs ops) then some (.normal, s') else none
      | none => none
    else (runOps P E C ops ops.toList s).map fun s' => (.normal, s')
  | .seq a b, s =>
    match evC E C fuel a s with
    | some (.normal, s') => evC E C fuel b s'
    | r => r
  | .cond c a b, s =>
    match evO E s.tm c with
    | .bool true => evC E C fuel a s
    | .bool false => evC E C fuel b s
    | _ => none
  | .block id c, s =>
    match evC E C fuel c s with
    | some (.exit id', s') => if id' = id then some (.normal, s') else some (.exit id', s')
    | r => r
  | .loop c, s => iter (evC E C fuel c) fuel s
  | .exit id, s => some (.exit id, s)
  | .ret, s => some (.ret, s)
  | _, _ => none

def resOf (s : St) : ResultVar → Rd V
  | .tmp t => .pure (s.tm t)
  | .cell t ty =>
    match s.tm t with
    | .lp id off => .look id fun ob => opt (ld P ty ob.cells off)
    | _ => .fail

def mapRes (s : St) : List ResultVar → Rd (List V)
  | [] => .pure []
  | r :: l => (resOf P s r).bind fun v => (mapRes s l).bind fun vs => .pure (v :: vs)

def retNm (ids : List Id) : Id → Option Id
  | .bor k => some (.bor k)
  | id => (idx id ids).map Id.ret

def bors : Nat → Nat → List Id
  | _, 0 => []
  | k, n + 1 => .bor k :: bors (k + 1) n

/-- The results, as they are handed out; nb: how many objects were lent. -/
def pack (own : Bool) (fn : Func) (nb : Nat) (s : St) : Rd (V × List Ob × List Ob) :=
  (mapRes P s fn.results.toList).bind fun vs =>
  let ids := (dedup (vs.flatMap (refs own depth))).filter isOwn
  let nm := retNm ids
  (mapRd (nrm P nm own depth) vs).bind fun vs' =>
  (lookAll ids).bind fun ros =>
  (nrmObs P ros).bind fun ro =>
  (lookAll (bors 0 nb)).bind fun bos =>
  (nrmObs P bos).bind fun bo =>
  (mapIds (slIds P nm own depth) vs).bind fun s1 =>
  (mapIds (slIds P (fun _ => none) false depth) ((ros ++ bos).flatMap Ob.cells)).bind fun s2 =>
  if (s1 ++ s2).all isOwn && apart ids (s1 ++ s2) && obsNv ro && obsNv bo then
    .pure ((match vs' with | [v] => v | l => .tup l), bo, ro)
  else .fail

def start (fn : Func) (args : List V) (bo : List Ob) : St :=
  { n := args.length + (fn.ntmps - args.length), tm := fun t => args.getD t (.tup []), nx := fun _ => 0,
    ob := fun | .bor k => bo[k]? | _ => none }

def body (E : Env) (C : Oracle) (fuel : Nat) (f : FuncId) (args : List V) (bo : List Ob) : Option (V × List Ob × List Ob) :=
  match P.funcs[f]? with
  | some fn =>
    match fn.body with
    | some c =>
      match evC P E C fuel c (start fn args bo) with
      | some (.normal, s) | some (.ret, s) => ((pack P (E.ownR f) fn bo.length s).run s.ob).map (·.1)
      | _ => none
    | none => none
  | none => none

/-- A function of Go that a call enters. -/
def callOk (f : FuncId) : Bool :=
  match P.funcs[f]? with
  | some fn => fn.body.isSome && !(fn.name == "runtime.NumGoroutine")
  | none => false

def callV (E : Env) (prim : FuncId → Option (Oracle → List V → List Ob → Option (V × List Ob × List Ob))) : Nat → Oracle
  | 0, _, _, _ => none
  | n + 1, f, args, bo =>
    if callOk P f then
      match prim f with
      | some F => F (callV E prim n) args bo
      | none => body P E (callV E prim n) n f args bo
    else none

end
end Go.Vi
