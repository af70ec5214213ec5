/- Vi, part 29: the rule-maker: what a piece of code asks, as a proposition; slices whose contents are told by lists of plain data. Definitions. -/
import Derived.Test.YtbnglnpgkcjlhaaDoorWe
import Derived.Test.YtbnglnpgkcjlhaaDoorWd
namespace Go.Vi

/-- How the elements of a slice are read. -/
structure View where
  α : Type
  enc : α → V
  sz : Nat
  ag : Bool

def View.fl (w : View) (l : List w.α) : List V := l.flatMap fun x => (w.enc x).flat
def View.ls (w : View) (l : List w.α) : List V := l.map w.enc

structure View.Ok (P : Program) (e : TypeId) (w : View) : Prop where
  sz : szT P e = some w.sz
  ag : aggT P e = some w.ag
  pos : 0 < w.sz
  ok : ∀ x, (w.enc x).ok = true
  len : ∀ x, (w.enc x).flat.length = w.sz
  nv : ∀ x, V.nv.nvs (w.enc x).flat = true
  agx : w.ag = true → ∀ x, ∃ l, w.enc x = .agg l
  one : w.ag = false → w.sz = 1
  agn : w.ag = false → ∀ x, (w.enc x).leaf = true

/-- A predicate transformer: what a call asks of what follows it. -/
abbrev PT := List V → List Ob → (V → List Ob → List Ob → Prop) → Prop

/-- What is told of a loop, or of the end of a block. -/
structure LoopA where
  X : Type
  n : Nat
  T : Nat → X → List (Nat × V)
  keep : List Nat
  O : Nat → X → List (Id × Bool × Ob)
  keepO : List Id
  raw : List Id := []
  frz : List Nat := []
  frzO : List Id := []

/-- What is told of a function: per slot a mode, a type, a place; loops; ends of blocks; what its callees ask. -/
structure Sy where
  vw : TypeId → Option View
  md : List (Nat × Nat × TypeId × Nat)
  lp : List (Nat × LoopA)
  ct : List (Nat × LoopA)
  sp : List (FuncId × PT)
  fu : Nat
  tag : Nat → Prop → Prop

def mdOf : List (Nat × Nat × TypeId × Nat) → Nat → Option (Nat × TypeId × Nat)
  | [], _ => none
  | (k, x) :: l, t => if k = t then some x else mdOf l t

def lpOf : List (Nat × LoopA) → Nat → Option LoopA
  | [], _ => none
  | (k, x) :: l, t => if k = t then some x else lpOf l t

def spOf : List (FuncId × PT) → FuncId → Option PT
  | [], _ => none
  | (k, x) :: l, t => if k = t then some x else spOf l t

/-- A truth that is not known parts the ways. -/
def BIF (b : Bool) (p q : Prop) : Prop := Bool.rec (motive := fun _ => Prop) q p b

def runK {α : Type} (x : Option (α × List Id)) (k : α → List Id → Prop) : Prop :=
  match x with
  | some (a, l) => k a l
  | none => False

def inK : IntKind → Int → Prop
  | .i64, x => -9223372036854775808 ≤ x ∧ x ≤ 9223372036854775807
  | .u8, x => 0 ≤ x ∧ x ≤ 255
  | k, x => k.wrap x = x

section
variable (P : Program)

/-! ### '==' of structs -/
def fldsS (eq : TypeId → V → V → (Bool → Prop) → Prop) : List Field → List V → List V → (Bool → Prop) → Prop
  | [], _, _, k => k true
  | f :: fs, xs, ys, k =>
    if f.name ≠ "_" then
      match ld P f.type xs f.offset, ld P f.type ys f.offset with
      | some a, some b => eq f.type a b fun r => fldsS eq fs xs ys fun q => k (r && q)
      | _, _ => False
    else fldsS eq fs xs ys k

def elemsS (eq : TypeId → V → V → (Bool → Prop) → Prop) (elem : TypeId) (n : Nat) (xs ys : List V) : (m i : Nat) → (Bool → Prop) → Prop
  | 0, _, k => k true
  | m + 1, i, k =>
    match ld P elem xs (i * n), ld P elem ys (i * n) with
    | some a, some b => eq elem a b fun r => elemsS eq elem n xs ys m (i + 1) fun q => k (r && q)
    | _, _ => False

def eqS : Nat → TypeId → V → V → (Bool → Prop) → Prop
  | 0, _, _, _, _ => False
  | d + 1, t, x, y, k =>
    match P.underlying t, x, y with
    | some .bool, .bool a, .bool b => k (a == b)
    | some (.int _), .int kd a, .int kd' b => if kd = kd' then k (a == b) else False
    | some .string, .str a, .str b => k (a == b)
    | some (.struct fields), .agg xs, .agg ys => if P.stoodInHeld t then False else fldsS P (eqS d) fields.toList xs ys k
    | some (.array len elem), .agg xs, .agg ys =>
      match szT P elem with
      | some n => elemsS P (eqS d) elem n xs ys len 0 k
      | none => False
    | _, _, _ => False

def optK (x : Option V) (k : V → Prop) : Prop :=
  match x with
  | some v => k v
  | none => False

def binS (op : BinOp) (t : TypeId) (x y : V) (k : V → Prop) : Prop :=
  match op, x, y with
  | .add, .int kd a, .int kd' b => if kd = kd' then inK kd (a + b) ∧ k (.int kd (a + b)) else False
  | .sub, .int kd a, .int kd' b => if kd = kd' then inK kd (a - b) ∧ k (.int kd (a - b)) else False
  | .mul, .int kd a, .int kd' b => if kd = kd' then inK kd (a * b) ∧ k (.int kd (a * b)) else False
  | .quo, .int kd a, .int kd' b => if kd = kd' then b ≠ 0 ∧ inK kd (a.tdiv b) ∧ k (.int kd (a.tdiv b)) else False
  | .rem, .int kd a, .int kd' b => if kd = kd' then b ≠ 0 ∧ k (.int kd (a.tmod b)) else False
  | .add, .str a, .str b => a.size + b.size ≤ 9223372036854775807 ∧ k (.str (a ++ b))
  | .eql, .agg a, .agg b => if P.eqGuardType P.depth t then False else eqS P 9 t (.agg a) (.agg b) fun r => k (.bool r)
  | .neq, .agg a, .agg b => if P.eqGuardType P.depth t then False else eqS P 9 t (.agg a) (.agg b) fun r => k (.bool !r)
  | op, x, y => optK (vBin P op t x y) k

/-! ### places -/
def idxAddrS (w : View) (t : TypeId) (x i : V) (k : V → Prop) : Prop :=
  match asI i, P.underlying t with
  | some n, some (.array len e) =>
    match szT P e, x with
    | some sz, .lp id off => (0 ≤ n ∧ n < len) ∧ k (.lp id (off + n.toNat * sz))
    | some sz, .fp c off => (0 ≤ n ∧ n < len) ∧ k (.fp c (off + n.toNat * sz))
    | _, _ => False
  | some n, some (.slice e) =>
    match szT P e, x with
    | some sz, .sl id off m _ _ => (0 ≤ n ∧ n < m) ∧ k (.lp id (off + n.toNat * sz))
    | some sz, .fs L => if sz = w.sz then ∃ l : List w.α, L = w.ls l ∧ (0 ≤ n ∧ n < l.length) ∧ ∀ x, l[n.toNat]? = some x → k (.fp (w.enc x).flat 0) else False
    | _, _ => False
  | _, _ => False

def idxS (w : View) (t : TypeId) (x i : V) (k : V → Prop) : Prop :=
  match asI i, P.underlying t, x with
  | some n, some (.array len e), .agg cs =>
    match szT P e, aggT P e with
    | some sz, some ag => if sz = w.sz ∧ ag = w.ag then ∃ l : List w.α, cs = w.fl l ∧ len = l.length ∧ (0 ≤ n ∧ n < len) ∧ ∀ x, l[n.toNat]? = some x → k (w.enc x) else False
    | _, _ => False
  | some n, some .string, .str s => (0 ≤ n ∧ n < s.size) ∧ ∀ b, s[n.toNat]? = some b → k (.int .u8 b.toNat)
  | _, _, _ => False

/-- A load from an element whose number is not known. -/
def ldS (w : View) (fo : Nat) (ty : TypeId) (a : V) (ob : Id → Option Ob) (k : V → List Id → Prop) : Prop :=
  match a with
  | .lp id off =>
    match ob id with
    | some o => ∃ (l : List w.α) (i : Nat), o.cells = w.fl l ∧ off = i * w.sz + fo ∧ i < l.length ∧ ∀ x, l[i]? = some x → optK (ld P ty (w.enc x).flat fo) fun v => k v [id]
    | none => False
  | .fp c off => ∃ (l : List w.α) (i : Nat), c = w.fl l ∧ off = i * w.sz + fo ∧ i < l.length ∧ ∀ x, l[i]? = some x → optK (ld P ty (w.enc x).flat fo) fun v => k v []
  | _ => False

def stS (w : View) (fo : Nat) (ty : TypeId) (a v : V) (ob : Id → Option Ob) (k : Res → List Id → Prop) : Prop :=
  match a, szT P ty with
  | .lp id off, some sz =>
    match ob id with
    | some o =>
      if v.ok && v.flat.length == sz && decide (fo + sz ≤ w.sz) && !o.fz then
        ∃ (l : List w.α) (i : Nat), o.cells = w.fl l ∧ off = i * w.sz + fo ∧ i < l.length ∧
          ∀ x, l[i]? = some x → ∃ x', (w.enc x').flat = putCells (w.enc x).flat fo v.flat ∧ k ⟨.tup [], [(id, some ⟨o.ty, w.fl (l.set i x'), false⟩)], 0⟩ [id]
      else False
    | none => False
  | _, _ => False

/-- A number is put at a place that is not known, among numbers. -/
def mergeL (off : Nat) (v : V) : Nat → List V → Option (List V)
  | _, [] => some []
  | j, c :: l =>
    match v, c with
    | .int k x, .int k' y => if k = k' then (match mergeL off v (j + 1) l with | some r => some (.int k (if off = j then x else y) :: r) | none => none) else none
    | .bool x, .bool y => (match mergeL off v (j + 1) l with | some r => some (.bool (if off = j then x else y) :: r) | none => none)
    | _, _ => none

def stM (ty : TypeId) (a v : V) (ob : Id → Option Ob) (k : Res → List Id → Prop) : Prop :=
  match a, szT P ty with
  | .lp id off, some 1 =>
    match ob id with
    | some o =>
      if o.fz then False else
      match mergeL off v 0 o.cells with
      | some cs => off < o.cells.length ∧ k ⟨.tup [], [(id, some ⟨o.ty, cs, false⟩)], 0⟩ [id]
      | none => False
    | none => False
  | _, _ => False

def bndS (n : Nat) (lo hi : Option V) (k : Nat → Nat → Prop) : Prop :=
  match lo, hi with
  | none, none => k 0 n
  | some l, none => match asI l with
    | some l => (0 ≤ l ∧ l ≤ n) ∧ k l.toNat n
    | none => False
  | none, some h => match asI h with
    | some h => (0 ≤ h ∧ h ≤ n) ∧ k 0 h.toNat
    | none => False
  | some l, some h => match asI l, asI h with
    | some l, some h => (0 ≤ l ∧ l ≤ h ∧ h ≤ n) ∧ k l.toNat h.toNat
    | _, _ => False

def slS (w : View) (t : TypeId) (x : V) (lo hi mx : Option V) (k : V → Prop) : Prop :=
  match P.underlying t, x, mx with
  | some .string, .str s, none => bndS s.size lo hi fun l h => k (.str (s.extract l h))
  | some (.slice e), .fs L, none => if szT P e = some w.sz then ∃ l0 : List w.α, L = w.ls l0 ∧ bndS l0.length lo hi fun l h => k (.fs (w.ls ((l0.drop l).take (h - l)))) else False
  | some (.slice e), .sl id off n e' ex, none =>
    if e' == e && szT P e == some w.sz then
      match lo with
      | none => bndS n lo hi fun _ h => k (.sl id off h e (ex && decide (h = n)))
      | some _ => bndS n lo hi fun l h => (l = 0 ∨ l < h → k (.sl id (off + l * w.sz) (h - l) e (ex && decide (h = n)))) ∧ (¬ (l = 0 ∨ l < h) → k (.fs []))
    else False
  | some (.slice e), .sl id off n e' _, some m =>
    if e' == e && szT P e == some w.sz && lo.isNone then
      match asI m, hi.bind asI with
      | some m, some h => (h = m ∧ 0 ≤ h ∧ h ≤ n) ∧ (h ≠ 0 → k (.sl id off h.toNat e true)) ∧ (h = 0 → k .e0)
      | _, _ => False
    else False
  | _, _, _ => False

/-- The contents of a slice, as a list; m = 1: one element, that is told. -/
def cntS (w : View) (m : Nat) (e : TypeId) (x : V) (ob : Id → Option Ob) (k : List w.α → List Id → Prop) : Prop :=
  match x with
  | .nl | .e0 => k [] []
  | .fs L => ∃ ys : List w.α, L = w.ls ys ∧ k ys []
  | .sl id off n e' _ =>
    match ob id with
    | some o =>
      if e' == e then
        if m = 1 then
          if n == 1 && decide (off + w.sz ≤ o.cells.length) then ∃ y : w.α, (o.cells.drop off).take w.sz = (w.enc y).flat ∧ k [y] [id] else False
        else ∃ ys : List w.α, (o.cells.drop off).take (n * w.sz) = w.fl ys ∧ ys.length = n ∧ off + n * w.sz ≤ o.cells.length ∧ k ys [id]
      else False
    | none => False
  | _ => False

/-- m = 1: one is appended. -/
def ysK {α : Type} (m : Nat) (ys : List α) (p q : Prop) : Prop :=
  if m = 1 then match ys with
    | [] => p
    | _ :: _ => q
  else (ys = [] → p) ∧ (ys ≠ [] → q)

def appS (w : View) (m : Nat) (t : TypeId) (s x : V) (fresh : Id) (ob : Id → Option Ob) (k : Res → List Id → Prop) : Prop :=
  match P.underlying t with
  | some (.slice e) =>
    match szT P e, byT P e, zeroT P e with
    | some sz, some by_, some z =>
      if sz = w.sz ∧ (decide (0 < by_) && decide (0 < sz) && z.ok && z.flat.length == sz) = true then
        cntS w m e x ob fun ys lg =>
          match s with
          | .nl | .e0 => ys.length * by_ ≤ room ∧ k ⟨.sl fresh 0 ys.length e false, [(fresh, some ⟨e, w.fl ys, false⟩)], 1⟩ lg
          | .sl id off n0 e' ex =>
            match ob id with
            | some o =>
              if e' == e && off == 0 then
                match ex, n0 with
                | true, 0 => ys.length * by_ ≤ room ∧ k ⟨.sl fresh 0 ys.length e false, [(fresh, some ⟨e, w.fl ys, false⟩)], 1⟩ (lg ++ [id])
                | true, n0 => ∃ l : List w.α, o.cells = w.fl l ∧ n0 ≤ l.length ∧ (n0 + ys.length) * by_ ≤ room ∧
                    ysK m ys (k ⟨s, [], 0⟩ (lg ++ [id])) (k ⟨.sl fresh 0 (l.take n0 ++ ys).length e false, [(fresh, some ⟨e, w.fl (l.take n0 ++ ys), false⟩)], 1⟩ (lg ++ [id]))
                | false, n0 => ∃ l : List w.α, o.cells = w.fl l ∧
                    (if !o.fz && isOwn id && o.ty == e then
                      n0 = l.length ∧ (n0 + ys.length) * by_ ≤ room ∧ k ⟨.sl fresh 0 (l ++ ys).length e false, [(id, none), (fresh, some ⟨o.ty, w.fl (l ++ ys), false⟩)], 1⟩ (lg ++ [id])
                    else False)
              else False
            | none => False
          | _ => False
      else False
    | _, _, _ => False
  | _ => False

/-! ### handing on -/
def mapK (f : V → (V → List Id → List Id → List Id → Prop) → Prop) : List V → (List V → List Id → List Id → List Id → Prop) → Prop
  | [], k => k [] [] [] []
  | v :: l, k => f v fun v' s a b => mapK f l fun l' s' a' b' => k (v' :: l') (s ++ s') (a ++ a') (b ++ b')

/-- A value as it is handed on; the names of what is handed on by value; what is looked up for the one, and for the other. -/
def rdS (vw : TypeId → Option View) (m : Nat) (ob : Id → Option Ob) (nm : Id → Option Id) (bs : Bool) : Nat → V → (V → List Id → List Id → List Id → Prop) → Prop
  | 0, _, _ => False
  | d + 1, v, k =>
    match v with
    | .int kd n => k (.int kd n) [] [] []
    | .bool b => k (.bool b) [] [] []
    | .str s => k (.str s) [] [] []
    | .nl => k (.fs []) [] [] []
    | .e0 => k (.fs []) [] [] []
    | .fs l => k (.fs l) [] [] []
    | .fp c o => k (.fp c o) [] [] []
    | .agg l => if V.nv.nvs l then k (.agg l) [] [] [] else mapK (rdS vw m ob nm bs d) l fun l' s a b => k (.agg l') s a b
    | .tup l => if V.nv.nvs l then k (.tup l) [] [] [] else mapK (rdS vw m ob nm bs d) l fun l' s a b => k (.tup l') s a b
    | .fn f caps => mapK (rdS vw m ob nm bs d) caps fun l' s a b => k (.fn f l') s a b
    | .lp id off =>
      match nm id with
      | some id' => k (.lp id' off) [] [] []
      | none => False
    | .sl id off n e x =>
      match (if bs then nm id else none) with
      | some id' => k (.sl id' off n e x) [] [] []
      | none =>
        if m = 0 then
          match (nrm P nm bs (d + 1) (.sl id off n e x)).run ob, (slIds P nm bs (d + 1) (.sl id off n e x)).run ob with
          | some (v', a), some (s, b) => k v' s a b
          | _, _ => False
        else
          match ob id, vw e with
          | some o, some w =>
            if m = 1 then (if off = 0 then ∃ l : List w.α, o.cells = w.fl l ∧ n = l.length ∧ k (.fs (w.ls l)) [id] [id] [id] else False)
            else ∃ (l : List w.α) (i : Nat), o.cells = w.fl l ∧ off = i * w.sz ∧ i + n ≤ l.length ∧ k (.fs (w.ls ((l.drop i).take n))) [id] [id] [id]
          | some _, none =>
            match (nrm P nm bs (d + 1) (.sl id off n e x)).run ob, (slIds P nm bs (d + 1) (.sl id off n e x)).run ob with
            | some (v', a), some (s, b) => k v' s a b
            | _, _ => False
          | _, _ => False
    | .junk => False

/-- The objects bear no names; m = 0: that is known. -/
def nvS (m : Nat) : List Ob → Prop → Prop
  | [], k => k
  | o :: l, k =>
    match m with
    | 0 => match V.nv.nvs o.cells with
      | true => nvS m l k
      | false => False
    | _ + 1 => V.nv.nvs o.cells = true ∧ nvS m l k

def noFz (l : List Ob) : Bool := l.all fun o => !o.fz

/-- The objects that are lent or handed out: their contents, as they are handed on. m = 0: all is known; else: those in 'raw' are plain lists. -/
def obsS (vw : TypeId → Option View) (m : Nat) (ob : Id → Option Ob) (raw : List Id) : List (Id × Ob) → (List Ob → List Id → List Id → List Id → Prop) → Prop
  | [], k => k [] [] [] []
  | (id, o) :: l, k =>
    if o.fz then False else
    if m ≠ 0 ∧ raw.contains id = true then
      match vw o.ty with
      | some w => ∃ xs : List w.α, o.cells = w.fl xs ∧ obsS vw m ob raw l fun r s a b => k (⟨o.ty, w.fl xs, false⟩ :: r) s a b
      | none => False
    else mapK (rdS P vw m ob (fun _ => none) false depth) o.cells fun c s a b => obsS vw m ob raw l fun r s' a' b' => k (⟨o.ty, c, false⟩ :: r) (s ++ s') (a ++ a') (b ++ b')

/-- The names that slices bear. -/
def slRefs : Nat → V → List Id
  | 0, _ => []
  | d + 1, v =>
    match v with
    | .sl id _ _ _ _ => [id]
    | .fn _ caps => caps.flatMap (slRefs d)
    | .agg l => if V.nv.nvs l then [] else l.flatMap (slRefs d)
    | .tup l => if V.nv.nvs l then [] else l.flatMap (slRefs d)
    | _ => []

def lookL (ob : Id → Option Ob) : List Id → Option (List (Id × Ob))
  | [] => some []
  | id :: l =>
    match ob id with
    | none => none
    | some o =>
      match lookL ob l with
      | none => none
      | some r => some ((id, o) :: r)

def callS (E : Env) (S : Sy) (m : Nat) (f : V) (args : List V) (t g : Nat) (ob : Id → Option Ob) (k : Res → List Id → Prop) : Prop :=
  match f with
  | .fn f caps =>
    let as := args ++ caps
    let bs := E.mutA f
    let ids := dedup (as.flatMap (refs bs depth))
    let nm := fun id => (idx id ids).map Id.bor
    match spOf S.sp f, lookL ob ids with
    | some pt, some obs =>
      mapK (rdS P S.vw m ob nm bs depth) as fun as' s1 a1 b1 =>
      obsS P S.vw m ob (if bs then as.flatMap (slRefs depth) else []) obs fun bo s2 a2 b2 =>
      pt as' bo fun res bo' ro =>
        match back ids t g depth res with
        | none => False
        | some v =>
          if !(bo'.length == ids.length && noFz bo' && noFz ro && apart ids (s1 ++ s2)) then False else
          nvS m (bo' ++ ro)
          (if (s1 ++ s2).isEmpty || (v.light depth && obsLight bo' && obsLight ro) then k ⟨v, ids.zip (bo'.map some) ++ newUps t g 0 ro, ro.length⟩ (a1 ++ (ids ++ (a2 ++ (b1 ++ b2))))
          else if !((s1 ++ s2).all isOwn) then False
          else
            match lookL ob (dedup (s1 ++ s2)) with
            | some fr => k ⟨v, (fr.map fun p => (p.1, some { p.2 with fz := true })) ++ ids.zip (bo'.map some) ++ newUps t g 0 ro, ro.length⟩ (a1 ++ (ids ++ (a2 ++ (b1 ++ (b2 ++ dedup (s1 ++ s2))))))
            | none => False)
    | _, _ => False
  | _ => False

/-! ### operations -/
def lenS (w : View) (v : V) (k : V → Prop) : Prop :=
  match v with
  | .fs L => ∃ l : List w.α, L = w.ls l ∧ k (.int .i64 l.length)
  | v => optK ((slLen v).map fun (n : Nat) => V.int .i64 (n : Int)) k

def opS (E : Env) (S : Sy) (m : Nat) (e : TypeId) (fo : Nat) (ρ : Operand → V) (t g : Nat) (o : Oper) (ob : Id → Option Ob) (k : Res → List Id → Prop) : Prop :=
  match o.op with
  | .binOp op ty x y _ => binS P op ty (ρ x) (ρ y) fun v => k ⟨v, [], 0⟩ []
  | .convert src dst x =>
    match P.underlying src, P.underlying dst, ρ x with
    | some (.int _), some (.int kd), .int _ n => inK kd n ∧ k ⟨.int kd n, [], 0⟩ []
    | _, _, _ => False
  | .unOp .neg _ x =>
    match ρ x with
    | .int kd n => inK kd (0 - n) ∧ k ⟨.int kd (0 - n), [], 0⟩ []
    | _ => False
  | .call c =>
    match c.callee with
    | .value f => callS P E S m (ρ f) (c.args.toList.map ρ) t g ob k
    | .builtin .append =>
      match c.argTypes.toList, c.args.toList.map ρ, S.vw e with
      | [ty, ty2], [s, x], some w =>
        match P.underlying ty2 with
        | some (.int _) | none => False
        | some _ => appS P w m ty s x (.own t g) ob k
      | _, _, _ => False
    | .builtin .len =>
      match c.argTypes.toList, c.args.toList.map ρ, S.vw e with
      | ty :: _, v :: _, some w =>
        match P.underlying ty with
        | some (.slice _) => lenS w v fun v => k ⟨v, [], 0⟩ []
        | _ => False
      | _, _, _ => False
    | _ => False
  | .load ty a => match S.vw e with
    | some w => ldS P w fo ty (ρ a) ob fun v l => k ⟨v, [], 0⟩ l
    | none => False
  | .store ty a x =>
    if m = 5 then stM P ty (ρ a) (ρ x) ob k else
    match S.vw e with
    | some w => stS P w fo ty (ρ a) (ρ x) ob k
    | none => False
  | .indexAddr ty x i => match S.vw e with
    | some w => idxAddrS P w ty (ρ x) (ρ i) fun v => k ⟨v, [], 0⟩ []
    | none => False
  | .index ty x i => match S.vw e with
    | some w => idxS P w ty (ρ x) (ρ i) fun v => k ⟨v, [], 0⟩ []
    | none => False
  | .slice ty x lo hi mx => match S.vw e with
    | some w => slS P w ty (ρ x) (lo.map ρ) (hi.map ρ) (mx.map ρ) fun v => k ⟨v, [], 0⟩ []
    | none => False
  | _ => False

def isCall : Op → Bool
  | .call { callee := .value _, .. } => true
  | _ => false

def noC : Oracle := fun _ _ _ => none

def coreS (E : Env) (S : Sy) (key : Nat) (ρ : Operand → V) (t g : Nat) (o : Oper) (ob : Id → Option Ob) (k : Res → List Id → Prop) : Prop :=
  S.tag key (match mdOf S.md key with
  | some (m, e, fo) => if m = 9 then runK ((core P E noC ρ t g o).run ob) k else opS P E S m e fo ρ t g o ob k
  | none => if isCall o.op then opS P E S 0 0 0 ρ t g o ob k else runK ((core P E noC ρ t g o).run ob) k)

def wantS (ops : Array Oper) (tm : Nat → V) (o : Oper) (k : Bool → (Nat → V) → Prop) : Prop :=
  match o.guard with
  | none => k true tm
  | some (j, w) =>
    match (ops[j]?).bind (·.dst) with
    | some t =>
      match tm t with
      | .bool b => BIF b (k (true == w) (tellT tm t true)) (k (false == w) (tellT tm t false))
      | .tup _ => k false tm
      | _ => False
    | none => False

/-- By what an operation is told: its slot, or the slot of the address that it stores to. -/
def keyO (o : Oper) (n : Nat) : Nat :=
  match o.dst with
  | some t => t
  | none =>
    match o.op with
    | .store _ (.tmp t) _ => 100000 + t
    | _ => n

def effS (E : Env) (S : Sy) (ops : Array Oper) (o : Oper) (s : St) (k : Eff → St → Prop) : Prop :=
  if !dstOk s o.dst then False else
  wantS ops s.tm o fun b tm =>
    match b with
    | false => k ⟨o.dst, .tup [], 0, [], []⟩ { s with tm := tm }
    | true => coreS P E S (keyO o s.n) (evO E tm) (o.dst.getD s.n) (s.nx (o.dst.getD s.n)) o s.ob fun r l =>
        if o.dst.isNone && r.nw != 0 then False else k ⟨o.dst, r.v, r.nw, r.up, l⟩ { s with tm := tm }

def effsS (E : Env) (S : Sy) (ops : Array Oper) : List Oper → St → (List Eff → St → Prop) → Prop
  | [], s, k => k [] s
  | o :: l, s, k => effS P E S ops o s fun e s1 => effsS E S ops l (s1.app e) fun es s2 => k (e :: es) s2

/-! ### loops -/
def matchV : Nat → V → V → List (Id × Id)
  | 0, _, _ => []
  | d + 1, v, u =>
    match v, u with
    | .lp a _, .lp b _ => if isOwn a then [(a, b)] else []
    | .sl a _ _ _ _, .sl b _ _ _ _ => if isOwn a then [(a, b)] else []
    | .agg l, .agg m => if V.nv.nvs l then [] else (l.zip m).flatMap fun p => matchV d p.1 p.2
    | .tup l, .tup m => if V.nv.nvs l then [] else (l.zip m).flatMap fun p => matchV d p.1 p.2
    | .fn _ l, .fn _ m => (l.zip m).flatMap fun p => matchV d p.1 p.2
    | _, _ => []

def addG : List (Id × Id) → List (Id × Id) → List (Id × Id)
  | G, [] => G
  | G, p :: l => addG (if (getI G p.1).isSome then G else G ++ [p]) l

def matchO (s : St) : List (Id × Bool × Ob) → List (Id × Id) → List (Id × Id)
  | [], G => G
  | (b, raw, o) :: l, G =>
    if raw then matchO s l G else
    match (oldOf G b).bind s.ob with
    | some o1 => matchO s l (addG G ((o.cells.zip o1.cells).flatMap fun p => matchV depth p.1 p.2))
    | none => matchO s l G

def fitsV : V → V → Bool
  | .sl _ _ _ _ false, .nl => true
  | .sl _ _ _ _ false, .e0 => true
  | .lp a _, .lp b _ => isOwn a == isOwn b
  | .sl _ _ _ _ _, .sl _ _ _ _ _ => true
  | .nl, .nl => true
  | .e0, .e0 => true
  | .fs _, .fs _ => true
  | .fp _ _, .fp _ _ => true
  | .int _ _, .int _ _ => true
  | .bool _, .bool _ => true
  | .str _, .str _ => true
  | .agg _, .agg _ => true
  | .tup _, .tup _ => true
  | .fn _ _, .fn _ _ => true
  | .junk, _ => true
  | _, _ => false

def fitsT (s : St) (F : List Nat) (T : List (Nat × V)) : Bool := T.all fun p => F.contains p.1 || fitsV p.2 (s.tm p.1)

/-- Its names are named as they were. -/
def sameN (g : Id → Option Id) : Nat → V → Bool
  | 0, _ => false
  | d + 1, v =>
    match v with
    | .junk => false
    | .lp a _ => decide (g a = some a)
    | .sl a _ _ _ _ => decide (g a = some a)
    | .agg l => if V.nv.nvs l then true else l.all (sameN g d)
    | .tup l => if V.nv.nvs l then true else l.all (sameN g d)
    | .fn _ l => l.all (sameN g d)
    | _ => true

/-- Which names are counted. -/
def cntX : List Id → List (Nat × Nat)
  | [] => []
  | .own t k :: l => let r := cntX l; (t, max (k + 1) (getN r t)) :: r
  | _ :: l => cntX l

/-- A nil slice, or one without room, under a name that is told; a slice's room is forgotten. -/
def ghF : Nat → V → V → V
  | 0, _, v => v
  | d + 1, u, v =>
    match u with
    | .sl b _ _ e false =>
      match v with
      | .nl | .e0 => .sl b 0 0 e false
      | .sl a off n e' _ => .sl a off n e' false
      | v => v
    | .agg m =>
      match v with
      | .agg l => if V.nv.nvs m then .agg l else .agg (ghL d m l)
      | v => v
    | _ => v
where
  ghL (d : Nat) : List V → List V → List V
    | u :: m, v :: l => ghF d u v :: ghL d m l
    | _, l => l

/-- A slice of one's own, that is written no more, as its contents. -/
def fzS (vw : TypeId → Option View) (ob : Id → Option Ob) : Nat → V → V → (List Id → Prop) → Prop
  | 0, _, _, _ => False
  | d + 1, u, v, k =>
    match u with
    | .fs L =>
      match v with
      | .nl | .e0 => L = [] ∧ k []
      | .fs L' => L = L' ∧ k []
      | .sl a off n e _ =>
        match ob a, vw e with
        | some o, some w => if isOwn a && off == 0 then ∃ l : List w.α, o.cells = w.fl l ∧ n = l.length ∧ L = w.ls l ∧ k [a] else False
        | _, _ => False
      | _ => False
    | .agg m =>
      match v with
      | .agg l => if V.nv.nvs m && V.nv.nvs l then m = l ∧ k [] else if l.length == m.length then fzL d m l k else False
      | _ => False
    | u => if u.nv then v = u ∧ k [] else False
where
  fzL (d : Nat) : List V → List V → (List Id → Prop) → Prop
    | u :: m, v :: l, k => fzS vw ob d u v fun a => fzL d m l fun b => k (a ++ b)
    | _, _, k => k []

def fzT (vw : TypeId → Option View) (s : St) : List (Nat × V) → (List Id → Prop) → Prop
  | [], k => k []
  | (t, u) :: l, k => fzS vw s.ob depth u (s.tm t) fun a => fzT vw s l fun b => k (a ++ b)

def obsW (vw : TypeId → Option View) (fz : List Id) (s : St) (G : List (Id × Id)) : List (Id × Bool × Ob) → (List Id → Prop) → Prop
  | [], k => k []
  | (b, raw, o') :: l, k =>
    match oldOf G b with
    | none => if isOwnB b && !o'.fz then o'.cells = [] ∧ obsW vw fz s G l k else False
    | some a =>
      match s.ob a with
      | some o =>
        if o'.ty == o.ty && o'.fz == o.fz then
          match fz.contains b with
          | true => if o.cells.length == o'.cells.length then fzS.fzL vw s.ob depth o'.cells o.cells fun F => obsW vw fz s G l fun F' => k (F ++ F') else False
          | false =>
            match raw with
            | true => o.cells = o'.cells ∧ V.nv.nvs o'.cells = true ∧ obsW vw fz s G l k
            | false => ghF.ghL depth o'.cells (o.cells.map (rnF (newOf G) depth)) = o'.cells ∧ obsW vw fz s G l k
        else False
      | none => False

/-- The objects that stay as they are: those that the kept slots name. -/
def keptI (A : LoopA) (s0 : St) (i : Nat) (x : A.X) : List Id :=
  let free := fun id => !((A.O i x).any fun q => decide (q.1 = id)) && !A.raw.contains id
  let a := (dedup (A.keepO ++ A.keep.flatMap fun t => refs true depth (s0.tm t))).filter free
  let b := a.flatMap fun id => match s0.ob id with
    | some o => if V.nv.nvs o.cells then [] else o.cells.flatMap (refs true depth)
    | none => []
  dedup (a ++ b.filter free) ++ A.raw.filter fun id => !((A.O i x).any fun q => decide (q.1 = id))

def idP (l : List Id) : List (Id × Id) := (l.filter isOwn).map fun a => (a, a)

def headT (A : LoopA) (s0 : St) (i : Nat) (x : A.X) : List (Nat × V) := A.T i x ++ A.keep.map fun t => (t, s0.tm t)
def headO (A : LoopA) (s0 : St) (i : Nat) (x : A.X) : List (Id × Ob) := (A.O i x).map (fun q => (q.1, q.2.2)) ++ (keptI A s0 i x).filterMap fun id => (s0.ob id).map fun o => (id, o)
def headX (A : LoopA) (s0 : St) (i : Nat) (x : A.X) : List (Nat × Nat) :=
  cntX ((A.T i x).flatMap (fun p => refs true depth p.2) ++ A.keep.flatMap (fun t => refs true depth (s0.tm t)) ++
    (A.O i x).flatMap (fun q => q.1 :: (if q.2.1 then [] else q.2.2.cells.flatMap (refs true depth))) ++ keptI A s0 i x)

def headS (A : LoopA) (s0 : St) (i : Nat) (x : A.X) : St := mkSt s0.n (headT A s0 i x) (headX A s0 i x) (headO A s0 i x)

def keptOk (A : LoopA) (s1 : St) (d : List Id) (G : List (Id × Id)) (id : Id) : Bool :=
  !d.contains id && decide (oldOf G id = some id) && match s1.ob id with
    | some o => A.raw.contains id || o.cells.all (sameN (oldOf G) depth)
    | none => false

def rawK (s1 : St) : List Id → Prop → Prop
  | [], k => k
  | id :: l, k => match s1.ob id with
    | some o => V.nv.nvs o.cells = true ∧ rawK s1 l k
    | none => False

/-- What is frozen is not told any more. -/
def frzOk (G : List (Id × Id)) (ids kept F : List Id) : Bool := F.all fun a => isOwnB a && !kept.contains a && !(ids.any fun b => decide (oldOf G b = some a))

/-- The state is one that is told so; d: the names of what was written since the head. -/
def weakS (vw : TypeId → Option View) (A : LoopA) (s0 s1 : St) (d : List Id) (i : Nat) (x : A.X) : Prop :=
  let Ta := (A.T i x).filter fun p => !A.frz.contains p.1
  let G := matchO s1 (A.O i x) (addG [] (Ta.flatMap (fun p => matchV depth p.2 (s1.tm p.1)) ++ idP (A.keep.flatMap fun t => refs true depth (s0.tm t)) ++ idP (keptI A s0 i x)))
  if fitG G (headX A s0 i x) && A.keep.all (fun t => sameN (oldOf G) depth (s1.tm t) && !d.contains (.ret t)) && (keptI A s0 i x).all (keptOk A s1 d G) then
    (Ta.map fun p => ghF depth p.2 (rnF (newOf G) depth (s1.tm p.1))) = Ta.map (·.2) ∧
    fzT vw s1 ((A.T i x).filter fun p => A.frz.contains p.1) fun F => obsW vw A.frzO s1 G (A.O i x) fun F' =>
      if frzOk G ((A.O i x).map (·.1)) (keptI A s0 i x) (F ++ F') then rawK s1 A.raw True else False
  else False

/-- The first shape that fits. -/
def pickS (vw : TypeId → Option View) (A : LoopA) (s0 s1 : St) (d : List Id) (x : A.X) (I : Nat → Prop) : Nat → Nat → Prop
  | 0, _ => False
  | n + 1, i => if fitsT s1 A.frz (A.T i x) && s1.n == s0.n then I i ∧ weakS vw A s0 s1 d i x else pickS vw A s0 s1 d x I n (i + 1)

def shapes (f : Nat → Prop) : Nat → Nat → Prop
  | 0, _ => True
  | 1, i => f i
  | n + 1, i => f i ∧ shapes f n (i + 1)

def iterS (f : St → List Id → (Ex → St → List Id → Prop) → Prop) : Nat → St → List Id → (Ex → St → List Id → Prop) → Prop
  | 0, _, _, _ => False
  | n + 1, s, ws, k => f s ws fun e s' ws' => match e with
    | .normal => iterS f n s' ws' k
    | e => k e s' ws'

def outB (id : Nat) (k : Ex → St → List Id → Prop) : Ex → St → List Id → Prop
  | .exit id', s', ws => if id' = id then k .normal s' ws else k (.exit id') s' ws
  | e, s', ws => k e s' ws

def upsOf (es : List Eff) : List Id := es.flatMap fun e => e.up.map (·.1)

/-- What a head tells anew; .ret t: the slot t is told otherwise than it was. -/
def headD (A : LoopA) (i : Nat) (x : A.X) : List Id := (A.O i x).map (·.1) ++ A.frz.map Id.ret

/-- The told slots are written. -/
def toldOk (A : LoopA) (c : Code) (i : Nat) (x : A.X) : Bool := ((A.T i x).all fun p => !spares p.1 c || A.frz.contains p.1) && A.keep.all fun t => spares t c

def wpC (E : Env) (S : Sy) : Code → Nat → St → List Id → (Ex → St → List Id → Prop) → Prop
  | .skip, _, s, ws, k => k .normal s ws
  | .label _, _, s, ws, k => k .normal s ws
  | .region _ ops draw, _, s, ws, k =>
    effsS P E S ops ops.toList s fun es s' =>
      match draw with
      | true => if tmpsApart ops && effsApart es (loudPairs ops) then k .normal s' (upsOf es ++ ws) else False
      | false => k .normal s' (upsOf es ++ ws)
  | .seq a b, lb, s, ws, k => wpC E S a lb s ws fun e s' ws' => match e with
    | .normal => wpC E S b lb s' ws' k
    | e => k e s' ws'
  | .cond c a b, lb, s, ws, k =>
    match c, evO E s.tm c with
    | .tmp t, .bool v => BIF v (wpC E S a lb { s with tm := tellT s.tm t true } ws k) (wpC E S b lb { s with tm := tellT s.tm t false } ws k)
    | _, .bool v => BIF v (wpC E S a lb s ws k) (wpC E S b lb s ws k)
    | _, _ => False
  | .block id c, _, s, ws, k =>
    match lpOf S.ct id with
    | none => wpC E S c id s ws (outB id k)
    | some A => ∃ I : Nat → A.X → Prop,
        wpC E S c id s [] (outB id fun e s' ws' => match e with
          | .normal => ∃ x, pickS S.vw A s s' ws' x (fun i => I i x) A.n 0
          | e => k e s' (ws' ++ ws)) ∧
        shapes (fun i => ∀ x, if toldOk A c i x then I i x → k .normal (headS A s i x) (headD A i x ++ ws) else False) A.n 0
  | .loop c, lb, s, ws, k =>
    match lpOf S.lp lb with
    | none => iterS (fun s ws k => wpC E S c lb s ws k) S.fu s ws k
    | some A => ∃ (I : Nat → A.X → Prop) (mu : Nat → A.X → Nat),
        (∃ x, pickS S.vw A s s [] x (fun i => I i x) A.n 0) ∧
        shapes (fun i => ∀ x, if toldOk A c i x then I i x → wpC E S c lb (headS A s i x) (headD A i x) fun e s' d => match e with
          | .normal => ∃ x', pickS S.vw A s s' d x' (fun j => I j x' ∧ mu j x' < mu i x) A.n 0
          | e => k e s' (d ++ ws)
          else False) A.n 0
  | .exit id, _, s, ws, k => k (.exit id) s ws
  | .ret, _, s, ws, k => k .ret s ws
  | _, _, _, _, _ => False

/-! ### results -/
def resS (s : St) : List ResultVar → (List V → Prop) → Prop
  | [], k => k []
  | r :: l, k => match (resOf P s r).run s.ob with
    | some (v, _) => resS s l fun vs => k (v :: vs)
    | none => False

def packS (own : Bool) (S : Sy) (fn : Func) (nb : Nat) (s : St) (Q : V → List Ob → List Ob → Prop) : Prop :=
  S.tag 1000000 <| resS P s fn.results.toList fun vs =>
  let ids := (dedup (vs.flatMap (refs own depth))).filter isOwn
  let nm := retNm ids
  let m := match mdOf S.md 1000000 with
    | some (m, _, _) => m
    | none => 0
  match lookL s.ob ids, lookL s.ob (bors 0 nb) with
  | some ros, some bos =>
    mapK (rdS P S.vw m s.ob nm own depth) vs fun vs' s1 _ _ =>
    obsS P S.vw m s.ob (if own then vs.flatMap (slRefs depth) else []) ros fun ro s2 _ _ =>
    obsS P S.vw m s.ob [] bos fun bo s3 _ _ =>
    if (s1 ++ (s2 ++ s3)).all isOwn && apart ids (s1 ++ (s2 ++ s3)) then nvS m (ro ++ bo) (Q (match vs' with | [v] => v | l => .tup l) bo ro) else False
  | _, _ => False

def wpF (E : Env) (S : Sy) (f : FuncId) (args : List V) (bo : List Ob) (Q : V → List Ob → List Ob → Prop) : Prop :=
  match P.funcs[f]? with
  | some fn =>
    match fn.body with
    | some c => wpC P E S c 0 (start fn args bo) [] fun e s _ => match e with
      | .normal | .ret => packS P (E.ownR f) S fn bo.length s Q
      | .exit _ => False
    | none => False
  | none => False

def SpecOk (E : Env) (f : FuncId) (pt : PT) : Prop := callOk P f = true ∧ ∀ args bo Q, pt args bo Q → ∃ r bo' ro, Con P E f args bo r bo' ro ∧ Q r bo' ro
def SpecsOk (E : Env) (l : List (FuncId × PT)) : Prop := ∀ p ∈ l, SpecOk P E p.1 p.2
end
end Go.Vi

/- Vi, part 30: what is handed on, as a proposition, is what the interpreter hands on. -/
set_option linter.unusedVariables false
set_option linter.unusedSimpArgs false
namespace Go.Vi

theorem nvs_app : ∀ {a b : List V}, V.nv.nvs (a ++ b) = (V.nv.nvs a && V.nv.nvs b)
  | [], b => by simp [V.nv.nvs]
  | v :: a, b => by simp [V.nv.nvs, nvs_app, Bool.and_assoc]

section
variable {P : Program} {e : TypeId} {w : View}

theorem View.fl_nil : w.fl [] = [] := rfl
theorem View.fl_cons (x : w.α) (l : List w.α) : w.fl (x :: l) = (w.enc x).flat ++ w.fl l := by simp [View.fl]
theorem View.fl_app (a b : List w.α) : w.fl (a ++ b) = w.fl a ++ w.fl b := by simp [View.fl]
theorem View.ls_len (l : List w.α) : (w.ls l).length = l.length := by simp [View.ls]
theorem View.ls_app (a b : List w.α) : w.ls (a ++ b) = w.ls a ++ w.ls b := by simp [View.ls]

theorem View.Ok.fl_len (h : View.Ok P e w) : ∀ l : List w.α, (w.fl l).length = l.length * w.sz
  | [] => by simp [View.fl_nil]
  | x :: l => by rw [View.fl_cons, List.length_append, h.len, h.fl_len l, List.length_cons, Nat.add_mul]; omega

theorem View.Ok.fl_drop (h : View.Ok P e w) : ∀ (i : Nat) (l : List w.α), (w.fl l).drop (i * w.sz) = w.fl (l.drop i)
  | 0, l => by simp
  | i + 1, [] => by simp [View.fl_nil]
  | i + 1, x :: l => by
    rw [View.fl_cons, List.drop_succ_cons, ← h.fl_drop i l, List.drop_append, List.drop_eq_nil_of_le (by rw [h.len, Nat.add_mul]; omega), h.len, show (i + 1) * w.sz - w.sz = i * w.sz by rw [Nat.add_mul]; omega]
    simp

theorem View.Ok.fl_take (h : View.Ok P e w) : ∀ (i : Nat) (l : List w.α), (w.fl l).take (i * w.sz) = w.fl (l.take i)
  | 0, l => by simp [View.fl_nil]
  | i + 1, [] => by simp [View.fl_nil]
  | i + 1, x :: l => by
    rw [View.fl_cons, List.take_succ_cons, View.fl_cons, ← h.fl_take i l, List.take_append, List.take_of_length_le (by rw [h.len, Nat.add_mul]; omega), h.len, show (i + 1) * w.sz - w.sz = i * w.sz by rw [Nat.add_mul]; omega]

theorem View.Ok.fl_nvs (h : View.Ok P e w) : ∀ l : List w.α, V.nv.nvs (w.fl l) = true
  | [] => rfl
  | x :: l => by rw [View.fl_cons, nvs_app, h.nv, h.fl_nvs l]; rfl

theorem flat_leaf {v : V} (h : v.ok = true) : v.flat.all V.leaf = true := by
  cases v with
  | agg l => simpa [V.ok, V.flat] using h
  | _ => simpa [V.ok, V.flat] using h

theorem View.Ok.fl_leaf (h : View.Ok P e w) : ∀ l : List w.α, (w.fl l).all V.leaf = true
  | [] => rfl
  | x :: l => by rw [View.fl_cons, List.all_append, flat_leaf (h.ok x), h.fl_leaf l]; rfl

theorem View.Ok.chunk (h : View.Ok P e w) : ∀ l : List w.α, Vi.chunk w.ag w.sz l.length (w.fl l) = w.ls l := by
  intro l
  cases hag : w.ag with
  | true =>
    simp only [Vi.chunk, if_true]
    induction l with
    | nil => rfl
    | cons x l ih =>
      obtain ⟨c, hc⟩ := h.agx hag x
      have hl := h.len x
      rw [hc] at hl
      simp only [V.flat] at hl
      rw [View.fl_cons, hc, List.length_cons, chunkA, V.flat, List.take_append, List.take_of_length_le (by omega), hl, Nat.sub_self, List.take_zero, List.append_nil, List.drop_append, List.drop_eq_nil_of_le (by omega), hl, Nat.sub_self, List.drop_zero, List.nil_append, ih]
      simp [View.ls, hc]
  | false =>
    simp only [Vi.chunk, Bool.false_eq_true, if_false]
    induction l with
    | nil => rfl
    | cons x l ih =>
      have hl := h.agn hag x
      rw [View.fl_cons, ih]
      have : (w.enc x).flat = [w.enc x] := by
        cases hx : w.enc x <;> first | rfl | (rw [hx] at hl; simp [V.leaf] at hl)
      rw [this]; rfl

theorem View.Ok.fl_get (h : View.Ok P e w) : ∀ (l : List w.α) (i : Nat) (x : w.α), l[i]? = some x → ∀ (fo n : Nat), fo + n ≤ w.sz → ((w.fl l).drop (i * w.sz + fo)).take n = ((w.enc x).flat.drop fo).take n := by
  intro l i x hx fo n hn
  have hi := (List.getElem?_eq_some_iff.1 hx).1
  have h1 : (w.fl l).drop (i * w.sz + fo) = (w.fl (l.drop i)).drop fo := by rw [← h.fl_drop, List.drop_drop]
  rw [h1, List.drop_eq_getElem_cons hi, View.fl_cons]
  have hxe : l[i] = x := by rw [List.getElem?_eq_getElem hi] at hx; exact Option.some.inj hx
  rw [hxe, List.drop_append, List.take_append, h.len]
  have : (((w.enc x).flat).drop fo).length = w.sz - fo := by rw [List.length_drop, h.len]
  rw [this, show n - (w.sz - fo) = 0 by omega]
  simp
end

section
variable {P : Program} {ob : Id → Option Ob} {vw : TypeId → Option View}

theorem Rd.bind_run {α γ : Type} {m : Rd α} {a : α} {l : List Id} {f : α → Rd γ} {c : γ} {l2 : List Id} (h : m.run ob = some (a, l)) (h2 : (f a).run ob = some (c, l2)) : (m.bind f).run ob = some (c, l ++ l2) := by
  rw [Rd.run_bind_eq f h, h2]; rfl

theorem Rd.look_run {α : Type} {id : Id} {o : Ob} {k : Ob → Rd α} {a : α} {l : List Id} (h : ob id = some o) (h2 : (k o).run ob = some (a, l)) : (Rd.look id k).run ob = some (a, id :: l) := by
  simp only [Rd.run, h, h2]

theorem nrm_nv {nm : Id → Option Id} {bs : Bool} {d : Nat} {v : V} (h : v.nv = true) : (nrm P nm bs (d + 1) v).run ob = some (v, []) ∧ (slIds P nm bs (d + 1) v).run ob = some ([], []) := by
  cases v with
  | agg l => simp only [V.nv] at h; simp only [nrm, slIds, h, if_true]; exact ⟨rfl, rfl⟩
  | tup l => simp only [V.nv] at h; simp only [nrm, slIds, h, if_true]; exact ⟨rfl, rfl⟩
  | int => exact ⟨rfl, rfl⟩
  | bool => exact ⟨rfl, rfl⟩
  | str => exact ⟨rfl, rfl⟩
  | fs => exact ⟨rfl, rfl⟩
  | fp => exact ⟨rfl, rfl⟩
  | _ => simp [V.nv] at h

theorem nrm_nvs {nm : Id → Option Id} {bs : Bool} {d : Nat} : ∀ {l : List V}, V.nv.nvs l = true → (mapRd (nrm P nm bs (d + 1)) l).run ob = some (l, []) ∧ (mapIds (slIds P nm bs (d + 1)) l).run ob = some ([], [])
  | [], _ => ⟨rfl, rfl⟩
  | v :: l, h => by
    simp only [V.nv.nvs, Bool.and_eq_true] at h
    obtain ⟨h1, h2⟩ := nrm_nv (P := P) (ob := ob) (nm := nm) (bs := bs) (d := d) h.1
    obtain ⟨h3, h4⟩ := nrm_nvs (nm := nm) (bs := bs) (d := d) h.2
    refine ⟨?_, ?_⟩
    · simp only [mapRd]; rw [Rd.run_bind_eq _ h1, Rd.run_bind_eq _ h3]; simp [Rd.run]
    · simp only [mapIds]; rw [Rd.run_bind_eq _ h2, Rd.run_bind_eq _ h4]; simp [Rd.run]

theorem mapK_sound {f : V → (V → List Id → List Id → List Id → Prop) → Prop} {g : V → Rd V} {h : V → Rd (List Id)} (hf : ∀ v k, f v k → ∃ v' s a b, (g v).run ob = some (v', a) ∧ (h v).run ob = some (s, b) ∧ k v' s a b) :
    ∀ (l : List V) (k : List V → List Id → List Id → List Id → Prop), mapK f l k → ∃ l' s a b, (mapRd g l).run ob = some (l', a) ∧ (mapIds h l).run ob = some (s, b) ∧ k l' s a b
  | [], k, hk => ⟨[], [], [], [], rfl, rfl, hk⟩
  | v :: l, k, hk => by
    simp only [mapK] at hk
    obtain ⟨v', s, a, b, h1, h2, h3⟩ := hf _ _ hk
    obtain ⟨l', s', a', b', h4, h5, h6⟩ := mapK_sound hf l _ h3
    refine ⟨_, _, _, _, ?_, ?_, h6⟩
    · simp only [mapRd]; rw [Rd.run_bind_eq _ h1, Rd.run_bind_eq _ h4]; simp [Rd.run]
    · simp only [mapIds]; rw [Rd.run_bind_eq _ h2, Rd.run_bind_eq _ h5]; simp [Rd.run]

theorem nrm_fl {e : TypeId} {w : View} (hw : View.Ok P e w) {nm : Id → Option Id} {bs : Bool} {d : Nat} {id : Id} {o : Ob} (ho : ob id = some o) {l : List w.α} (hc : o.cells = w.fl l) {off i n : Nat} (hoff : off = i * w.sz) (hn : i + n ≤ l.length) {x : Bool}
    (hnm : (if bs then nm id else none) = none) :
    (nrm P nm bs (d + 1) (.sl id off n e x)).run ob = some (.fs (w.ls ((l.drop i).take n)), [id]) ∧ (slIds P nm bs (d + 1) (.sl id off n e x)).run ob = some ([id], [id]) := by
  have h1 : (o.cells.drop off).take (n * w.sz) = w.fl ((l.drop i).take n) := by rw [hc, hoff, hw.fl_drop, hw.fl_take]
  have h2 : off + n * w.sz ≤ o.cells.length := by rw [hc, hw.fl_len, hoff, ← Nat.add_mul]; exact Nat.mul_le_mul_right _ hn
  have h3 : (w.ag || (w.sz == 1 && ((o.cells.drop off).take (n * w.sz)).all V.leaf)) = true := by
    rw [h1, hw.fl_leaf]
    cases hag : w.ag with
    | true => rfl
    | false => rw [hw.one hag]; rfl
  have hlen : ((l.drop i).take n).length = n := by simp; omega
  refine ⟨?_, ?_⟩
  · simp only [nrm, hnm]
    refine Rd.look_run ho ?_
    simp only [hw.sz, hw.ag]
    rw [if_pos (by rw [h3]; simpa using h2), h1, if_pos (hw.fl_nvs _)]
    have := hw.chunk ((l.drop i).take n)
    rw [hlen] at this
    rw [this]; rfl
  · simp only [slIds, hnm]
    refine Rd.look_run ho ?_
    simp only [hw.sz]
    rw [h1, if_pos (hw.fl_nvs _)]; rfl
end
end Go.Vi

/- Vi, part 31: calls and results, as propositions, are the interpreter's. -/
set_option linter.unusedVariables false
set_option linter.unusedSimpArgs false
namespace Go.Vi
def VwOk (P : Program) (vw : TypeId → Option View) : Prop := ∀ e w, vw e = some w → View.Ok P e w

section
variable {P : Program} {ob : Id → Option Ob} {vw : TypeId → Option View}

theorem rdS_sound (hvw : VwOk P vw) {m : Nat} : ∀ (d : Nat) (nm : Id → Option Id) (bs : Bool) (v : V) (k : V → List Id → List Id → List Id → Prop), rdS P vw m ob nm bs d v k →
    ∃ v' s a b, (nrm P nm bs d v).run ob = some (v', a) ∧ (slIds P nm bs d v).run ob = some (s, b) ∧ k v' s a b
  | 0, nm, bs, v, k, h => by simp only [rdS] at h
  | d + 1, nm, bs, v, k, h => by
    have ih := rdS_sound hvw (m := m) d nm bs
    have conc : ∀ {v : V}, (match (nrm P nm bs (d + 1) v).run ob, (slIds P nm bs (d + 1) v).run ob with | some (v', a), some (s, b) => k v' s a b | _, _ => False) →
        ∃ v' s a b, (nrm P nm bs (d + 1) v).run ob = some (v', a) ∧ (slIds P nm bs (d + 1) v).run ob = some (s, b) ∧ k v' s a b := by
      intro v h
      split at h
      · rename_i v' a s b h1 h2; exact ⟨_, _, _, _, h1, h2, h⟩
      · exact h.elim
    cases v with
    | int kd n => exact ⟨_, _, _, _, rfl, rfl, h⟩
    | bool b => exact ⟨_, _, _, _, rfl, rfl, h⟩
    | str s => exact ⟨_, _, _, _, rfl, rfl, h⟩
    | nl => exact ⟨_, _, _, _, rfl, rfl, h⟩
    | e0 => exact ⟨_, _, _, _, rfl, rfl, h⟩
    | fs l => exact ⟨_, _, _, _, rfl, rfl, h⟩
    | fp c o => exact ⟨_, _, _, _, rfl, rfl, h⟩
    | junk => exact h.elim
    | agg l =>
      simp only [rdS] at h
      simp only [nrm, slIds]
      split at h
      · rename_i hn; rw [if_pos hn, if_pos hn]; exact ⟨_, _, _, _, rfl, rfl, h⟩
      · rename_i hn
        rw [if_neg hn, if_neg hn]
        obtain ⟨l', s, a, b, h1, h2, h3⟩ := mapK_sound ih l _ h
        exact ⟨.agg l', s, a, b, by rw [Rd.run_bind_eq _ h1]; simp [Rd.run], h2, h3⟩
    | tup l =>
      simp only [rdS] at h
      simp only [nrm, slIds]
      split at h
      · rename_i hn; rw [if_pos hn, if_pos hn]; exact ⟨_, _, _, _, rfl, rfl, h⟩
      · rename_i hn
        rw [if_neg hn, if_neg hn]
        obtain ⟨l', s, a, b, h1, h2, h3⟩ := mapK_sound ih l _ h
        exact ⟨.tup l', s, a, b, by rw [Rd.run_bind_eq _ h1]; simp [Rd.run], h2, h3⟩
    | fn f caps =>
      simp only [rdS] at h
      simp only [nrm, slIds]
      obtain ⟨l', s, a, b, h1, h2, h3⟩ := mapK_sound ih caps _ h
      exact ⟨.fn f l', s, a, b, by rw [Rd.run_bind_eq _ h1]; simp [Rd.run], h2, h3⟩
    | lp id off =>
      simp only [rdS] at h
      split at h
      · rename_i id' hid
        refine ⟨.lp id' off, [], [], [], ?_, rfl, h⟩
        simp only [nrm, hid]; rfl
      · exact h.elim
    | sl id off n e x =>
      simp only [rdS] at h
      split at h
      · rename_i id' hid
        refine ⟨.sl id' off n e x, [], [], [], ?_, ?_, h⟩
        · simp only [nrm, hid]; rfl
        · simp only [slIds, hid]; rfl
      · rename_i hid
        split at h
        · exact conc h
        · rename_i hm
          split at h
          · rename_i o w ho hw
            have hwo := hvw _ _ hw
            split at h
            · split at h
              · rename_i hz
                subst hz
                obtain ⟨l, hc, rfl, hk⟩ := h
                obtain ⟨h1, h2⟩ := nrm_fl (P := P) hwo (d := d) ho hc (off := 0) (i := 0) (n := l.length) (by simp) (by simp) (x := x) hid
                rw [List.drop_zero, List.take_length] at h1
                exact ⟨_, _, _, _, h1, h2, hk⟩
              · exact h.elim
            · obtain ⟨l, i, hc, hoff, hn, hk⟩ := h
              obtain ⟨h1, h2⟩ := nrm_fl (P := P) hwo (d := d) ho hc hoff hn (x := x) hid
              exact ⟨_, _, _, _, h1, h2, hk⟩
          · exact conc h
          · exact h.elim

theorem mapIds_app {f : V → Rd (List Id)} : ∀ {a b : List V} {s s' l l' : List Id}, (mapIds f a).run ob = some (s, l) → (mapIds f b).run ob = some (s', l') → (mapIds f (a ++ b)).run ob = some (s ++ s', l ++ l')
  | [], b, s, s', l, l', h, h' => by
    have := Rd.run_pure h
    simp only [Prod.mk.injEq] at this
    obtain ⟨rfl, rfl⟩ := this
    simpa using h'
  | v :: a, b, s, s', l, l', h, h' => by
    simp only [mapIds] at h
    obtain ⟨s1, l1, l2, h1, h2, rfl⟩ := Rd.run_bind h
    obtain ⟨s2, l3, l4, h3, h4, rfl⟩ := Rd.run_bind h2
    have := Rd.run_pure h4
    simp only [Prod.mk.injEq] at this
    obtain ⟨rfl, rfl⟩ := this
    simp only [List.cons_append, mapIds]
    rw [Rd.run_bind_eq _ h1, Rd.run_bind_eq _ (mapIds_app h3 h')]
    simp [Rd.run]

theorem obsS_sound (hvw : VwOk P vw) {m : Nat} {raw : List Id} : ∀ (l : List (Id × Ob)) (k : List Ob → List Id → List Id → List Id → Prop), obsS P vw m ob raw l k →
    ∃ bo s a b, (nrmObs P (l.map (·.2))).run ob = some (bo, a) ∧ (mapIds (slIds P (fun _ => none) false depth) ((l.map (·.2)).flatMap Ob.cells)).run ob = some (s, b) ∧ noFz bo = true ∧ k bo s a b
  | [], k, h => ⟨[], [], [], [], rfl, rfl, rfl, h⟩
  | (id, o) :: l, k, h => by
    simp only [obsS] at h
    split at h
    · exact h.elim
    · rename_i hfz
      have fin : ∀ {c : List V} {s a b : List Id} {k' : List Ob → List Id → List Id → List Id → Prop}, (mapRd (nrm P (fun _ => none) false depth) o.cells).run ob = some (c, a) → (mapIds (slIds P (fun _ => none) false depth) o.cells).run ob = some (s, b) →
          (obsS P vw m ob raw l fun r s' a' b' => k (⟨o.ty, c, false⟩ :: r) (s ++ s') (a ++ a') (b ++ b')) →
          ∃ bo s a b, (nrmObs P (((id, o) :: l).map (·.2))).run ob = some (bo, a) ∧ (mapIds (slIds P (fun _ => none) false depth) ((((id, o) :: l).map (·.2)).flatMap Ob.cells)).run ob = some (s, b) ∧ noFz bo = true ∧ k bo s a b := by
        intro c s a b k' h1 h2 h3
        obtain ⟨r, s', a', b', q1, q2, q3, q4⟩ := obsS_sound hvw l _ h3
        refine ⟨_, _, _, _, ?_, ?_, ?_, q4⟩
        · simp only [List.map_cons, nrmObs]
          rw [if_neg hfz, Rd.run_bind_eq _ h1, Rd.run_bind_eq _ q1]
          simp [Rd.run]
        · simp only [List.map_cons, List.flatMap_cons]
          exact mapIds_app h2 q2
        · simpa [noFz] using q3
      split at h
      · split at h
        · rename_i w hw
          obtain ⟨xs, hc, hk⟩ := h
          have hwo := hvw _ _ hw
          have hn : V.nv.nvs o.cells = true := by rw [hc]; exact hwo.fl_nvs xs
          obtain ⟨h1, h2⟩ := nrm_nvs (P := P) (ob := ob) (nm := fun _ => none) (bs := false) (d := 7) hn
          rw [hc] at h1
          exact fin (by rw [hc]; exact h1) h2 (k' := k) hk
        · exact h.elim
      · obtain ⟨c, s, a, b, h1, h2, h3⟩ := mapK_sound (rdS_sound hvw depth _ false) o.cells _ h
        exact fin h1 h2 (k' := k) h3

theorem lookL_run : ∀ {ids : List Id} {r : List (Id × Ob)}, lookL ob ids = some r → (lookAll ids).run ob = some (r.map (·.2), ids) ∧ r.map (·.1) = ids ∧ (freezeAll ids).run ob = some (r.map fun p => (p.1, some { p.2 with fz := true }), ids)
  | [], r, h => by
    simp only [lookL, Option.some.injEq] at h
    subst h
    exact ⟨rfl, rfl, rfl⟩
  | id :: l, r, h => by
    simp only [lookL] at h
    split at h
    · cases h
    · rename_i o ho
      split at h
      · cases h
      · rename_i r' hr
        simp only [Option.some.injEq] at h
        subst h
        obtain ⟨h1, h2, h3⟩ := lookL_run hr
        refine ⟨?_, by simp [h2], ?_⟩
        · simp only [lookAll]
          refine Rd.look_run ho ?_
          rw [Rd.run_bind_eq _ h1]
          simp [Rd.run]
        · simp only [freezeAll]
          refine Rd.look_run ho ?_
          rw [Rd.run_bind_eq _ h3]
          simp [Rd.run]

theorem nvS_out {m : Nat} : ∀ {l : List Ob} {k : Prop}, nvS m l k → (∀ o ∈ l, V.nv.nvs o.cells = true) ∧ k
  | [], k, h => ⟨fun o ho => (by simp at ho), h⟩
  | o :: l, k, h => by
    have h' : V.nv.nvs o.cells = true ∧ nvS m l k := by
      unfold nvS at h
      split at h
      · split at h
        · rename_i h1; exact ⟨h1, h⟩
        · exact h.elim
      · exact h
    obtain ⟨h1, h2⟩ := h'
    obtain ⟨h3, h4⟩ := nvS_out h2
    refine ⟨fun o' ho => ?_, h4⟩
    simp only [List.mem_cons] at ho
    rcases ho with rfl | ho
    · exact h1
    · exact h3 _ ho

theorem obsNv_of {l l' : List Ob} (h : ∀ o ∈ l ++ l', V.nv.nvs o.cells = true) (h1 : noFz l = true) (h2 : noFz l' = true) : obsNv l = true ∧ obsNv l' = true := by
  simp only [noFz, List.all_eq_true] at h1 h2
  refine ⟨?_, ?_⟩ <;> simp only [obsNv, List.all_eq_true, Bool.and_eq_true]
  · exact fun o ho => ⟨h o (by simp [ho]), h1 o ho⟩
  · exact fun o ho => ⟨h o (by simp [ho]), h2 o ho⟩

theorem spOf_mem : ∀ {l : List (FuncId × PT)} {f : FuncId} {pt : PT}, spOf l f = some pt → (f, pt) ∈ l
  | [], f, pt, h => by simp [spOf] at h
  | (k, x) :: l, f, pt, h => by
    simp only [spOf] at h
    split at h
    · rename_i e; subst e; obtain rfl := Option.some.inj h; simp
    · exact List.mem_cons_of_mem _ (spOf_mem h)

open Classical in
/-- The oracle that knows one answer. -/
noncomputable def oneC (f : FuncId) (args : List V) (bo : List Ob) (r : V × List Ob × List Ob) : Oracle := fun f' a b => if f' = f ∧ a = args ∧ b = bo then some r else none

theorem oneC_at {f : FuncId} {args : List V} {bo : List Ob} {r : V × List Ob × List Ob} : oneC f args bo r f args bo = some r := by
  unfold oneC
  rw [if_pos ⟨rfl, rfl, rfl⟩]

theorem oneC_ok {E : Env} {f : FuncId} {args : List V} {bo : List Ob} {r : V} {bo' ro : List Ob} (h : Con P E f args bo r bo' ro) (hk : callOk P f = true) : OkC P E (oneC f args bo (r, bo', ro)) := by
  intro f' a b r' b1 b2 h'
  unfold oneC at h'
  split at h'
  · rename_i e
    obtain ⟨rfl, rfl, rfl⟩ := e
    simp only [Option.some.injEq, Prod.mk.injEq] at h'
    obtain ⟨rfl, rfl, rfl⟩ := h'
    exact ⟨h, hk⟩
  · cases h'

theorem callS_sound {E : Env} {S : Sy} (hvw : VwOk P S.vw) (hsp : SpecsOk P E S.sp) {m : Nat} {f : V} {args : List V} {t g : Nat} {k : Res → List Id → Prop} (h : callS P E S m f args t g ob k) :
    ∃ C, OkC P E C ∧ ∃ r l, (vCall P E C f args t g).run ob = some (r, l) ∧ k r l := by
  cases f with
  | fn f caps =>
    simp only [callS] at h
    split at h
    · rename_i pt obs hpt hobs
      obtain ⟨as', s1, a1, b1, p1, p2, p3⟩ := mapK_sound (rdS_sound hvw depth _ _) _ _ h
      obtain ⟨bo, s2, a2, b2, p4, p5, p6, p7⟩ := obsS_sound hvw _ _ p3
      obtain ⟨hok, hcon⟩ := hsp _ (spOf_mem hpt)
      obtain ⟨res, bo', ro, hc, hk⟩ := hcon _ _ _ p7
      refine ⟨oneC f as' bo (res, bo', ro), oneC_ok hc hok, ?_⟩
      obtain ⟨q1, q2, _⟩ := lookL_run hobs
      simp only [vCall]
      rw [Rd.run_bind_eq _ p1, Rd.run_bind_eq _ q1, Rd.run_bind_eq _ p4, Rd.run_bind_eq _ p2, Rd.run_bind_eq _ p5, oneC_at]
      simp only
      split at hk
      · exact hk.elim
      · rename_i v hv
        rw [hv]
        simp only
        split at hk
        · exact hk.elim
        · rename_i hch
          simp only [Bool.not_eq_true, Bool.not_eq_false'] at hch
          simp only [Bool.and_eq_true] at hch
          obtain ⟨⟨⟨c1, c2⟩, c3⟩, c4⟩ := hch
          obtain ⟨hnv, hk⟩ := nvS_out hk
          obtain ⟨n1, n2⟩ := obsNv_of hnv c2 c3
          rw [c1, n1, n2, c4]
          simp only [Bool.and_self, Bool.not_true, Bool.false_eq_true, if_false]
          split at hk
          · rename_i hl
            rw [if_pos hl]
            exact ⟨_, _, by simp [Rd.run], hk⟩
          · rename_i hl
            rw [if_neg hl]
            split at hk
            · exact hk.elim
            · rename_i ho
              rw [if_neg ho]
              split at hk
              · rename_i fr hfr
                obtain ⟨_, _, r3⟩ := lookL_run hfr
                rw [Rd.run_bind_eq _ r3]
                exact ⟨_, _, by simp [Rd.run], hk⟩
              · exact hk.elim
    · exact h.elim
  | _ => exact h.elim

theorem resS_sound {s : St} : ∀ {l : List ResultVar} {k : List V → Prop}, resS P s l k → ∃ vs lg, (mapRes P s l).run s.ob = some (vs, lg) ∧ k vs
  | [], k, h => ⟨[], [], rfl, h⟩
  | r :: l, k, h => by
    simp only [resS] at h
    split at h
    · rename_i v lg hv
      obtain ⟨vs, lg2, h1, h2⟩ := resS_sound h
      refine ⟨_, lg ++ (lg2 ++ []), ?_, h2⟩
      · simp only [mapRes]; rw [Rd.run_bind_eq _ hv, Rd.run_bind_eq _ h1]; rfl
    · exact h.elim

theorem mapIds_app3 {f : V → Rd (List Id)} {a b : List V} {s s' l l' : List Id} (h : (mapIds f a).run ob = some (s, l)) (h' : (mapIds f b).run ob = some (s', l')) : ∃ x, (mapIds f (a ++ b)).run ob = some (s ++ s', x) := ⟨_, mapIds_app h h'⟩

theorem packS_sound {S : Sy} (hvw : VwOk P S.vw) (hmk : ∀ n p, S.tag n p → p) {own : Bool} {fn : Func} {nb : Nat} {s : St} {Q : V → List Ob → List Ob → Prop} (h : packS P own S fn nb s Q) :
    ∃ r bo ro, ((pack P own fn nb s).run s.ob).map (·.1) = some (r, bo, ro) ∧ Q r bo ro := by
  unfold packS at h
  replace h := hmk _ _ h
  obtain ⟨vs, lg, h1, h⟩ := resS_sound h
  simp only at h
  split at h
  · rename_i ros bos hr hb
    obtain ⟨vs', s1, a1, b1, p1, p2, h⟩ := mapK_sound (rdS_sound hvw depth _ _) _ _ h
    obtain ⟨ro, s2, a2, b2, p3, p4, p5, h⟩ := obsS_sound hvw _ _ h
    obtain ⟨bo, s3, a3, b3, p6, p7, p8, h⟩ := obsS_sound hvw _ _ h
    split at h
    · rename_i hc
      obtain ⟨hnv, hq⟩ := nvS_out h
      simp only [Bool.and_eq_true] at hc
      obtain ⟨n1, n2⟩ := obsNv_of hnv p5 p8
      obtain ⟨q1, _, _⟩ := lookL_run hr
      obtain ⟨q2, _, _⟩ := lookL_run hb
      have h23 := mapIds_app p4 p7
      rw [← List.flatMap_append] at h23
      refine ⟨_, bo, ro, ?_, hq⟩
      simp only [pack]
      rw [Rd.run_bind_eq _ h1, Rd.run_bind_eq _ p1, Rd.run_bind_eq _ q1, Rd.run_bind_eq _ p3, Rd.run_bind_eq _ q2, Rd.run_bind_eq _ p6, Rd.run_bind_eq _ p2, Rd.run_bind_eq _ h23, if_pos (by simp only [Bool.and_eq_true]; exact ⟨⟨hc, n1⟩, n2⟩)]
      rfl
    · exact h.elim
  · exact h.elim
end
end Go.Vi

/- Vi, part 32: operations, as propositions, are the interpreter's. -/
set_option linter.unusedVariables false
set_option linter.unusedSimpArgs false
namespace Go.Vi
section
variable {P : Program} {ob : Id → Option Ob}

theorem fldsS_sound {eq : TypeId → V → V → Option Bool} {eq' : TypeId → V → V → (Bool → Prop) → Prop} (h : ∀ t x y k, eq' t x y k → ∃ b, eq t x y = some b ∧ k b) :
    ∀ (fs : List Field) (xs ys : List V) (k : Bool → Prop), fldsS P eq' fs xs ys k → ∃ b, vFlds P eq fs xs ys = some b ∧ k b
  | [], xs, ys, k, hk => ⟨true, rfl, hk⟩
  | f :: fs, xs, ys, k, hk => by
    simp only [fldsS] at hk
    simp only [vFlds]
    split at hk
    · rename_i hn
      rw [if_pos hn]
      split at hk
      · rename_i a b ha hb
        rw [ha, hb]
        simp only
        obtain ⟨r, h1, h2⟩ := h _ _ _ _ hk
        obtain ⟨q, h3, h4⟩ := fldsS_sound h fs xs ys _ h2
        rw [h1]
        cases r with
        | true => exact ⟨q, h3, h4⟩
        | false => exact ⟨false, rfl, h4⟩
      · exact hk.elim
    · rename_i hn
      rw [if_neg hn]
      exact fldsS_sound h fs xs ys k hk

theorem elemsS_sound {eq : TypeId → V → V → Option Bool} {eq' : TypeId → V → V → (Bool → Prop) → Prop} (h : ∀ t x y k, eq' t x y k → ∃ b, eq t x y = some b ∧ k b) {e : TypeId} {n : Nat} {xs ys : List V} :
    ∀ (m i : Nat) (k : Bool → Prop), elemsS P eq' e n xs ys m i k → ∃ b, vElems P eq e n xs ys m i = some b ∧ k b
  | 0, i, k, hk => ⟨true, rfl, hk⟩
  | m + 1, i, k, hk => by
    simp only [elemsS] at hk
    simp only [vElems]
    split at hk
    · rename_i a b ha hb
      rw [ha, hb]
      simp only
      obtain ⟨r, h1, h2⟩ := h _ _ _ _ hk
      obtain ⟨q, h3, h4⟩ := elemsS_sound h m (i + 1) _ h2
      rw [h1]
      cases r with
      | true => exact ⟨q, h3, h4⟩
      | false => exact ⟨false, rfl, h4⟩
    · exact hk.elim

theorem eqS_sound : ∀ (d : Nat) (t : TypeId) (x y : V) (k : Bool → Prop), eqS P d t x y k → ∃ b, vEq P d t x y = some b ∧ k b
  | 0, t, x, y, k, h => by simp only [eqS] at h
  | d + 1, t, x, y, k, h => by
    unfold eqS at h
    unfold vEq
    split at h
    · rename_i a b hu; rw [hu]; exact ⟨_, rfl, h⟩
    · rename_i kk kd a kd' b hu
      rw [hu]
      simp only
      split at h
      · rename_i hk; rw [if_pos hk]; exact ⟨_, rfl, h⟩
      · exact h.elim
    · rename_i a b hu; rw [hu]; exact ⟨_, rfl, h⟩
    · rename_i fields xs ys hu
      rw [hu]
      simp only
      split at h
      · exact h.elim
      · rename_i hs
        rw [if_neg hs]
        exact fldsS_sound (eqS_sound d) _ _ _ _ h
    · rename_i len elem xs ys hu
      rw [hu]
      simp only
      split at h
      · rename_i n hn
        rw [hn]
        exact elemsS_sound (eqS_sound d) _ _ _ h
      · exact h.elim
    · exact h.elim

theorem inK_wrap {kd : IntKind} {x : Int} (h : inK kd x) : kd.wrap x = x := by
  cases kd <;> first | exact h | skip
  · exact wrap64 h.1 h.2
  · have h1 := h.1
    have h2 := h.2
    have : IntKind.u8.wrap x = x % 256 := rfl
    rw [this]
    omega

theorem binS_sound {op : BinOp} {t : TypeId} {x y : V} {k : V → Prop} (h : binS P op t x y k) : ∃ v, vBin P op t x y = some v ∧ k v := by
  unfold binS at h
  split at h
  · rename_i kd a kd' b
    split at h
    · rename_i e; subst e; obtain ⟨h1, h2⟩ := h
      exact ⟨_, by simp only [vBin, vInt, if_true]; rw [inK_wrap h1], h2⟩
    · exact h.elim
  · rename_i kd a kd' b
    split at h
    · rename_i e; subst e; obtain ⟨h1, h2⟩ := h
      exact ⟨_, by simp only [vBin, vInt, if_true]; rw [inK_wrap h1], h2⟩
    · exact h.elim
  · rename_i kd a kd' b
    split at h
    · rename_i e; subst e; obtain ⟨h1, h2⟩ := h
      exact ⟨_, by simp only [vBin, vInt, if_true]; rw [inK_wrap h1], h2⟩
    · exact h.elim
  · rename_i kd a kd' b
    split at h
    · rename_i e; subst e; obtain ⟨h0, h1, h2⟩ := h
      exact ⟨_, by simp only [vBin, vInt, if_true]; rw [if_neg h0, inK_wrap h1], h2⟩
    · exact h.elim
  · rename_i kd a kd' b
    split at h
    · rename_i e; subst e; obtain ⟨h0, h2⟩ := h
      exact ⟨_, by simp only [vBin, vInt, if_true]; rw [if_neg h0], h2⟩
    · exact h.elim
  · obtain ⟨h1, h2⟩ := h
    exact ⟨_, by simp only [vBin, vStr]; rw [if_pos h1], h2⟩
  · split at h
    · exact h.elim
    · rename_i hg
      obtain ⟨b, h1, h2⟩ := eqS_sound _ _ _ _ _ h
      exact ⟨_, by simp only [vBin]; rw [if_neg hg, h1]; rfl, h2⟩
  · split at h
    · exact h.elim
    · rename_i hg
      obtain ⟨b, h1, h2⟩ := eqS_sound _ _ _ _ _ h
      exact ⟨_, by simp only [vBin]; rw [if_neg hg, h1]; rfl, h2⟩
  · unfold optK at h
    split at h
    · rename_i v hv; exact ⟨v, hv, h⟩
    · exact h.elim

theorem View.Ok.flat_eq {e : TypeId} {w : View} (h : View.Ok P e w) (hag : w.ag = false) (x : w.α) : (w.enc x).flat = [w.enc x] := by
  have := h.agn hag x
  cases hx : w.enc x <;> first | rfl | (rw [hx] at this; simp [V.leaf] at this)

theorem View.Ok.ld_el {e e' : TypeId} {w : View} (h : View.Ok P e w) (hs : szT P e' = some w.sz) (ha : aggT P e' = some w.ag) {l : List w.α} {i : Nat} {x : w.α} (hx : l[i]? = some x) : ld P e' (w.fl l) (i * w.sz) = some (w.enc x) := by
  have hi := (List.getElem?_eq_some_iff.1 hx).1
  have hg := h.fl_get l i x hx 0 w.sz (by omega)
  simp only [Nat.add_zero, List.drop_zero] at hg
  have hxl : (w.enc x).flat.take w.sz = (w.enc x).flat := List.take_of_length_le (by rw [h.len]; exact Nat.le_refl _)
  rw [hxl] at hg
  unfold ld
  rw [ha]
  cases hag : w.ag with
  | true =>
    simp only [hs]
    rw [if_pos (by rw [h.fl_len, ← Nat.succ_mul]; exact Nat.mul_le_mul_right _ hi), hg]
    obtain ⟨c, hc⟩ := h.agx hag x
    rw [hc]; rfl
  | false =>
    simp only
    have h1 := h.one hag
    rw [h1] at hg ⊢
    rw [h.flat_eq hag x] at hg
    have : (w.fl l)[i * 1]? = ((w.fl l).drop (i * 1)).head? := by rw [List.head?_drop]
    rw [this]
    have h2 : ((w.fl l).drop (i * 1)).head? = (((w.fl l).drop (i * 1)).take 1).head? := by
      cases (w.fl l).drop (i * 1) <;> rfl
    rw [h2, hg]; rfl

theorem View.Ok.ld_part {e : TypeId} {w : View} (h : View.Ok P e w) {l : List w.α} {i fo : Nat} {x : w.α} (hx : l[i]? = some x) {ty : TypeId} {v : V} (hv : ld P ty (w.enc x).flat fo = some v) : ld P ty (w.fl l) (i * w.sz + fo) = some v := by
  have hi := (List.getElem?_eq_some_iff.1 hx).1
  unfold ld at hv ⊢
  cases ha : aggT P ty with
  | none => rw [ha] at hv; cases hv
  | some ag =>
    rw [ha] at hv
    cases ag with
    | true =>
      simp only at hv ⊢
      cases hs : szT P ty with
      | none => rw [hs] at hv; cases hv
      | some n =>
        rw [hs] at hv
        simp only at hv ⊢
        split at hv
        · rename_i hn
          rw [h.len] at hn
          have hle : i * w.sz + fo + n ≤ (w.fl l).length := by
            rw [h.fl_len]
            have := Nat.mul_le_mul_right w.sz hi
            rw [Nat.succ_mul] at this
            omega
          rw [if_pos hle, h.fl_get l i x hx fo n hn]
          exact hv
        · cases hv
    | false =>
      simp only at hv ⊢
      have hlt : fo < w.sz := by rw [← h.len x]; exact (List.getElem?_eq_some_iff.1 hv).1
      have hg := h.fl_get l i x hx fo 1 (by omega)
      have key : ∀ (c : List V) (o : Nat), c[o]? = ((c.drop o).take 1)[0]? := by
        intro c o
        rw [List.getElem?_take, if_pos (by omega), List.getElem?_drop, Nat.add_zero]
      rw [key, hg, ← key]
      exact hv

theorem idxAddrS_sound {e : TypeId} {w : View} (hw : View.Ok P e w) {t : TypeId} {x i : V} {k : V → Prop} (h : idxAddrS P w t x i k) : ∃ v, vIndexAddr P t x i = some v ∧ k v := by
  unfold idxAddrS at h
  unfold vIndexAddr
  split at h
  · rename_i n len e' hi hu
    simp only [hi, hu]
    split at h
    · rename_i sz id off hs
      simp only [hs]
      obtain ⟨h1, h2⟩ := h
      exact ⟨_, by rw [if_pos h1], h2⟩
    · rename_i sz c off hs
      simp only [hs]
      obtain ⟨h1, h2⟩ := h
      exact ⟨_, by rw [if_pos h1], h2⟩
    · exact h.elim
  · rename_i n e' hi hu
    simp only [hi, hu]
    split at h
    · rename_i sz id off m e2 ex hs
      simp only [hs]
      obtain ⟨h1, h2⟩ := h
      exact ⟨_, by rw [if_pos h1], h2⟩
    · rename_i sz L hs
      simp only [hs]
      split at h
      · rename_i hsz
        obtain ⟨l, rfl, h1, h2⟩ := h
        have hlt : n.toNat < l.length := by omega
        have hx : l[n.toNat]? = some l[n.toNat] := List.getElem?_eq_getElem hlt
        refine ⟨_, ?_, h2 _ hx⟩
        rw [if_pos h1.1]
        have : (w.ls l)[n.toNat]? = some (w.enc l[n.toNat]) := by rw [View.ls, List.getElem?_map, hx]; rfl
        rw [this]
        simp only
        rw [if_pos (by rw [hw.ok, hw.len, hsz]; simp)]
      · exact h.elim
    · exact h.elim
  · exact h.elim

theorem idxS_sound {e : TypeId} {w : View} (hw : View.Ok P e w) {t : TypeId} {x i : V} {k : V → Prop} (h : idxS P w t x i k) : ∃ v, vIndex P t x i = some v ∧ k v := by
  unfold idxS at h
  unfold vIndex
  split at h
  · rename_i n len e' cs hi hu
    simp only [hi, hu]
    split at h
    · rename_i sz ag hs ha
      simp only [hs]
      split at h
      · rename_i hsz
        obtain ⟨rfl, rfl⟩ := hsz
        obtain ⟨l, rfl, rfl, h1, h2⟩ := h
        have hlt : n.toNat < l.length := by omega
        have hx : l[n.toNat]? = some l[n.toNat] := List.getElem?_eq_getElem hlt
        refine ⟨_, ?_, h2 _ hx⟩
        rw [if_pos h1]
        exact hw.ld_el hs ha hx
      · exact h.elim
    · exact h.elim
  · rename_i n s hi hu
    simp only [hi, hu]
    obtain ⟨h1, h2⟩ := h
    have hlt : n.toNat < s.size := by omega
    have hx : s[n.toNat]? = some s[n.toNat] := by simp [hlt]
    refine ⟨_, ?_, h2 _ hx⟩
    rw [if_pos h1.1, hx]
  · exact h.elim

theorem putCells_fl {e : TypeId} {w : View} (hw : View.Ok P e w) {l : List w.α} {i fo : Nat} {x x' : w.α} (hx : l[i]? = some x) {vs : List V} (hv : (w.enc x').flat = putCells (w.enc x).flat fo vs) (hn : fo + vs.length ≤ w.sz) :
    putCells (w.fl l) (i * w.sz + fo) vs = w.fl (l.set i x') := by
  have hi := (List.getElem?_eq_some_iff.1 hx).1
  have hxe : l[i] = x := by rw [List.getElem?_eq_getElem hi] at hx; exact Option.some.inj hx
  have hl : l = l.take i ++ x :: l.drop (i + 1) := by
    rw [← hxe, List.getElem_cons_drop, List.take_append_drop]
  have hs : l.set i x' = l.take i ++ x' :: l.drop (i + 1) := by
    rw [List.set_eq_take_append_cons_drop, if_pos hi]
  have hlen : (w.fl (l.take i)).length = i * w.sz := by rw [hw.fl_len, List.length_take, Nat.min_eq_left (Nat.le_of_lt hi)]
  have hxl := hw.len x
  rw [hs, View.fl_app, View.fl_cons, hv]
  have hfl : w.fl l = w.fl (l.take i) ++ ((w.enc x).flat ++ w.fl (l.drop (i + 1))) := by
    conv => lhs; rw [hl]
    rw [View.fl_app, View.fl_cons]
  rw [hfl]
  unfold putCells
  have h1 : (w.fl (l.take i) ++ ((w.enc x).flat ++ w.fl (l.drop (i + 1)))).take (i * w.sz + fo) = w.fl (l.take i) ++ (w.enc x).flat.take fo := by
    rw [List.take_append, hlen, List.take_of_length_le (by omega), show i * w.sz + fo - i * w.sz = fo by omega, List.take_append, hxl, show fo - w.sz = 0 by omega]
    simp
  have h2 : (w.fl (l.take i) ++ ((w.enc x).flat ++ w.fl (l.drop (i + 1)))).drop (i * w.sz + fo + vs.length) = (w.enc x).flat.drop (fo + vs.length) ++ w.fl (l.drop (i + 1)) := by
    rw [List.drop_append, hlen, List.drop_eq_nil_of_le (by omega), show i * w.sz + fo + vs.length - i * w.sz = fo + vs.length by omega, List.drop_append, hxl, show fo + vs.length - w.sz = 0 by omega]
    simp
  rw [h1, h2]
  simp only [List.append_assoc]

theorem optK_some {x : Option V} {k : V → Prop} (h : optK x k) : ∃ v, x = some v ∧ k v := by
  unfold optK at h
  split at h
  · exact ⟨_, rfl, h⟩
  · exact h.elim

theorem val_run {x : Option V} {v : V} (h : x = some v) : (val x).run ob = some (⟨v, [], 0⟩, []) := by
  subst h; rfl

theorem bndS_sound {n : Nat} {lo hi : Option V} {k : Nat → Nat → Prop} (h : bndS n lo hi k) : ∃ l r, vBounds n lo hi none = some (l, r, none) ∧ k l r ∧ l ≤ r ∧ r ≤ n ∧ (lo = none → l = 0) := by
  unfold bndS at h
  split at h
  · exact ⟨0, n, by simp [vBounds], h, by omega, by omega, fun _ => rfl⟩
  · split at h
    · rename_i v l hl
      obtain ⟨h1, h2⟩ := h
      exact ⟨_, _, by simp only [vBounds, hl]; rw [if_pos (by omega)]; simp, h2, by omega, by omega, fun h => by cases h⟩
    · exact h.elim
  · split at h
    · rename_i v l hl
      obtain ⟨h1, h2⟩ := h
      exact ⟨_, _, by simp only [vBounds, hl]; rw [if_pos (by omega)]; simp, h2, by omega, by omega, fun _ => rfl⟩
    · exact h.elim
  · split at h
    · rename_i v1 v2 l r hl hr
      obtain ⟨h1, h2⟩ := h
      exact ⟨_, _, by simp only [vBounds, hl, hr]; rw [if_pos (by omega)], h2, by omega, by omega, fun h => by cases h⟩
    · exact h.elim

theorem slS_sound {e : TypeId} {w : View} (hw : View.Ok P e w) {t : TypeId} {x : V} {lo hi mx : Option V} {k : V → Prop} (h : slS P w t x lo hi mx k) : ∃ v, (vSlice P t x lo hi mx).run ob = some (v, []) ∧ k v := by
  unfold slS at h
  split at h
  · rename_i s hu
    obtain ⟨l, r, h1, h2, _⟩ := bndS_sound h
    refine ⟨_, ?_, h2⟩
    simp only [vSlice, hu, h1]
    rfl
  · rename_i e' L hu
    split at h
    · rename_i hs
      obtain ⟨l0, rfl, h⟩ := h
      obtain ⟨l, r, h1, h2, h3, h4, _⟩ := bndS_sound h
      refine ⟨_, ?_, h2⟩
      have hd : ((w.ls l0).drop l).take (r - l) = w.ls ((l0.drop l).take (r - l)) := by simp [View.ls, List.map_drop, List.map_take]
      simp only [vSlice, hu, View.ls_len, hs, h1]
      rw [if_neg (by simp)]
      rw [if_pos, hd]
      · rfl
      · by_cases hl : l = r
        · exact .inr (.inl hl.symm)
        · refine .inr (.inr ?_)
          have hlt : l < l0.length := by omega
          have : (w.ls l0)[l]? = some (w.enc l0[l]) := by simp [View.ls, hlt]
          rw [this]
          simp [hw.len]
    · exact h.elim
  · rename_i e' id off n e2 ex hu
    split at h
    · rename_i hc
      simp only [Bool.and_eq_true, beq_iff_eq] at hc
      obtain ⟨rfl, hs⟩ := hc
      split at h
      · obtain ⟨l, r, h1, h2, h3, h4, h5⟩ := bndS_sound h
        obtain rfl := h5 rfl
        refine ⟨_, ?_, h2⟩
        simp only [vSlice, hu, hs, h1]
        simp [Rd.run]
      · rename_i lv
        obtain ⟨l, r, h1, ⟨h2, h2'⟩, h3, h4, h5⟩ := bndS_sound h
        by_cases hc : l = 0 ∨ l < r
        · refine ⟨_, ?_, h2 hc⟩
          simp only [vSlice, hu, hs, h1]
          rw [if_neg (by simp), if_pos hc]; rfl
        · refine ⟨_, ?_, h2' hc⟩
          simp only [vSlice, hu, hs, h1]
          rw [if_neg (by simp), if_neg hc]; rfl
    · exact h.elim
  · rename_i e' id off n e2 ex m hu
    split at h
    · rename_i hc
      simp only [Bool.and_eq_true, beq_iff_eq, Option.isNone_iff_eq_none] at hc
      obtain ⟨⟨rfl, hs⟩, rfl⟩ := hc
      split at h
      · rename_i m' h' hm hh
        obtain ⟨⟨rfl, h1, h2⟩, h3, h4⟩ := h
        cases hi with
        | none => simp at hh
        | some hv =>
          simp only [Option.bind_some] at hh
          have hb : vBounds n none (some hv) (some m) = some (0, h'.toNat, some h'.toNat) := by
            simp only [vBounds, hm, hh, Option.map_some]
            rw [if_pos (by omega), if_pos (by simp; omega)]
            simp
          simp only [vSlice, hu, hs, hb]
          by_cases hz : h' = 0
          · refine ⟨_, ?_, h4 hz⟩
            subst hz
            simp [Rd.run]
          · refine ⟨_, ?_, h3 hz⟩
            rw [if_neg (by simp), if_neg (by omega)]
            simp [Rd.run]
      · exact h.elim
    · exact h.elim
  · exact h.elim

theorem lenS_sound {w : View} {v : V} {k : V → Prop} (h : lenS w v k) : ∃ v', (slLen v).map (fun (n : Nat) => V.int .i64 (n : Int)) = some v' ∧ k v' := by
  unfold lenS at h
  split at h
  · obtain ⟨l, rfl, h⟩ := h
    exact ⟨_, by simp [slLen, View.ls_len], h⟩
  · exact optK_some h
end
end Go.Vi

/- Vi, part 33: operations, as propositions, are the interpreter's: appending; the operation of a region. -/
set_option linter.unusedVariables false
set_option linter.unusedSimpArgs false
namespace Go.Vi
section
variable {P : Program} {ob : Id → Option Ob}

theorem ls_flat {e : TypeId} {w : View} (hw : View.Ok P e w) (l : List w.α) : (w.ls l).all V.ok = true ∧ (w.ls l).flatMap V.flat = w.fl l := by
  refine ⟨?_, ?_⟩
  · simp only [List.all_eq_true, View.ls, List.mem_map]
    rintro x ⟨a, _, rfl⟩
    exact hw.ok a
  · simp [View.ls, View.fl, List.flatMap_map]

theorem cntS_sound {e e0 : TypeId} {w : View} (hw : View.Ok P e w) (hs : szT P e0 = some w.sz) {m : Nat} {x : V} {k : List w.α → List Id → Prop} (h : cntS w m e0 x ob k) :
    ∃ ys lg, (slCells P x).run ob = some (w.fl ys, lg) ∧ slLen x = some ys.length ∧ (∀ b, x ≠ .str b) ∧ k ys lg := by
  cases x with
  | nl => exact ⟨[], [], rfl, rfl, fun b h => (by cases h), h⟩
  | e0 => exact ⟨[], [], rfl, rfl, fun b h => (by cases h), h⟩
  | fs L =>
    simp only [cntS] at h
    obtain ⟨ys, rfl, h⟩ := h
    refine ⟨ys, [], ?_, by simp [slLen, View.ls_len], fun b h => (by cases h), h⟩
    obtain ⟨h1, h2⟩ := ls_flat hw ys
    simp only [slCells]
    rw [if_pos h1, h2]; rfl
  | sl id off n e' ex =>
    simp only [cntS] at h
    split at h
    · rename_i o ho
      split at h
      · rename_i he
        simp only [beq_iff_eq] at he
        subst he
        have key : ∀ ys : List w.α, (o.cells.drop off).take (n * w.sz) = w.fl ys → ys.length = n → off + n * w.sz ≤ o.cells.length → k ys [id] →
            ∃ ys lg, (slCells P (.sl id off n e' ex)).run ob = some (w.fl ys, lg) ∧ slLen (.sl id off n e' ex) = some ys.length ∧ (∀ b, V.sl id off n e' ex ≠ .str b) ∧ k ys lg := by
          intro ys h1 h2 h3 h4
          refine ⟨ys, [id], ?_, by simp [slLen, h2], fun b h => (by cases h), h4⟩
          simp only [slCells]
          refine Rd.look_run ho ?_
          rw [hs]
          simp only
          rw [if_pos h3, h1]; rfl
        split at h
        · split at h
          · rename_i hc
            simp only [Bool.and_eq_true, beq_iff_eq, decide_eq_true_eq] at hc
            obtain ⟨rfl, hc⟩ := hc
            obtain ⟨y, h1, h2⟩ := h
            exact key [y] (by rw [Nat.one_mul, h1]; simp [View.fl]) rfl (by omega) h2
          · exact h.elim
        · obtain ⟨ys, h1, h2, h3, h4⟩ := h
          exact key ys h1 h2 h3 h4
      · exact h.elim
    · exact h.elim
  | _ => simp only [cntS] at h

theorem ysK_out {α : Type} {m : Nat} {ys : List α} {p q : Prop} (h : ysK m ys p q) : (ys = [] → p) ∧ (ys ≠ [] → q) := by
  unfold ysK at h
  split at h
  · cases ys with
    | nil => exact ⟨fun _ => h, fun e => absurd rfl e⟩
    | cons y ys => exact ⟨fun e => (by cases e), fun _ => h⟩
  · exact h

/-- What is left when the source is read. -/
def appTail (e : TypeId) (sz by_ : Nat) (s : V) (fresh : Id) (xs : List V) (n : Nat) : Rd Res :=
  match s with
  | .nl | .e0 =>
    if n * by_ ≤ room then .pure ⟨.sl fresh 0 n e false, [(fresh, some ⟨e, xs, false⟩)], 1⟩ else .fail
  | .sl id off m e' ex =>
    .look id fun o =>
      if !(e' == e && decide (off + m * sz ≤ o.cells.length) && decide ((m + n) * by_ ≤ room)) then .fail else
      if ex then
        if n = 0 ∧ m ≠ 0 then .pure ⟨s, [], 0⟩
        else .pure ⟨.sl fresh 0 (m + n) e false, [(fresh, some ⟨e, (o.cells.drop off).take (m * sz) ++ xs, false⟩)], 1⟩
      else if off == 0 && m * sz == o.cells.length && !o.fz && isOwn id && o.ty == e then
        .pure ⟨.sl fresh 0 (m + n) e false, [(id, none), (fresh, some ⟨o.ty, o.cells ++ xs, false⟩)], 1⟩
      else .fail
  | _ => .fail

theorem vAppend_run {t e : TypeId} {s x : V} {fresh : Id} {sz by_ n : Nat} {z : V} {xs : List V} {lg l : List Id} {r : Res} (hu : P.underlying t = some (.slice e)) (hs : szT P e = some sz) (hb : byT P e = some by_) (hz : zeroT P e = some z)
    (hx : ∀ b, x ≠ .str b) (q1 : (slCells P x).run ob = some (xs, lg)) (q2 : slLen x = some n) (hck : (xs.all V.leaf && xs.length == n * sz && decide (0 < by_) && decide (0 < sz) && z.ok && z.flat.length == sz) = true)
    (hf : (appTail e sz by_ s fresh xs n).run ob = some (r, l)) : (vAppend P t s x fresh).run ob = some (r, lg ++ l) := by
  unfold vAppend
  simp only [hu, hs, hb, hz]
  have key : ((slCells P x).bind fun xs => (opt (slLen x)).bind fun n => if !(xs.all V.leaf && xs.length == n * sz && decide (0 < by_) && decide (0 < sz) && z.ok && z.flat.length == sz) then Rd.fail else appTail e sz by_ s fresh xs n).run ob = some (r, lg ++ l) := by
    rw [Rd.run_bind_eq _ q1, q2]
    simp only [opt, Rd.bind]
    rw [hck]
    simp only [Bool.not_true, Bool.false_eq_true, if_false]
    rw [hf]; rfl
  cases x with
  | str b => exact absurd rfl (hx b)
  | _ => exact key

theorem appS_sound {e : TypeId} {w : View} (hw : View.Ok P e w) {m : Nat} {t : TypeId} {s x : V} {fresh : Id} {k : Res → List Id → Prop} (h : appS P w m t s x fresh ob k) : ∃ r l, (vAppend P t s x fresh).run ob = some (r, l) ∧ k r l := by
  unfold appS at h
  split at h
  · rename_i e0 hu
    split at h
    · rename_i sz by_ z hs hb hz
      split at h
      · rename_i hc
        obtain ⟨rfl, hc⟩ := hc
        simp only [Bool.and_eq_true, decide_eq_true_eq, beq_iff_eq] at hc
        obtain ⟨⟨⟨c1, c2⟩, c3⟩, c4⟩ := hc
        obtain ⟨ys, lg, q1, q2, hx, h⟩ := cntS_sound hw hs h
        have hck : ((w.fl ys).all V.leaf && (w.fl ys).length == ys.length * w.sz && decide (0 < by_) && decide (0 < w.sz) && z.ok && z.flat.length == w.sz) = true := by
          rw [hw.fl_leaf, hw.fl_len]
          simp [c1, c2, c3, c4]
        have hys : ys = [] ↔ ys.length = 0 := by simp
        have nilcase : (ys.length * by_ ≤ room ∧ k ⟨.sl fresh 0 ys.length e0 false, [(fresh, some ⟨e0, w.fl ys, false⟩)], 1⟩ lg) →
            ∃ r, (if ys.length * by_ ≤ room then (.pure ⟨.sl fresh 0 ys.length e0 false, [(fresh, some ⟨e0, w.fl ys, false⟩)], 1⟩ : Rd Res) else .fail).run ob = some (r, []) ∧ k r lg :=
          fun h => ⟨_, by rw [if_pos h.1]; rfl, h.2⟩
        cases s with
        | nl =>
          obtain ⟨r, h1, h2⟩ := nilcase h
          exact ⟨r, lg ++ [], vAppend_run hu hs hb hz hx q1 q2 hck h1, by rw [List.append_nil]; exact h2⟩
        | e0 =>
          obtain ⟨r, h1, h2⟩ := nilcase h
          exact ⟨r, lg ++ [], vAppend_run hu hs hb hz hx q1 q2 hck h1, by rw [List.append_nil]; exact h2⟩
        | sl id off n0 e' ex =>
          simp only at h
          split at h
          · rename_i o ho
            split at h
            · rename_i he
              simp only [Bool.and_eq_true, beq_iff_eq] at he
              obtain ⟨rfl, rfl⟩ := he
              have c5 : ∀ (n0 : Nat) (l : List w.α), o.cells = w.fl l → n0 ≤ l.length → (n0 + ys.length) * by_ ≤ room → (!(e' == e' && decide (0 + n0 * w.sz ≤ o.cells.length) && decide ((n0 + ys.length) * by_ ≤ room))) = false := by
                intro n0 l hc hle hroom
                have h1 : 0 + n0 * w.sz ≤ o.cells.length := by rw [hc, hw.fl_len, Nat.zero_add]; exact Nat.mul_le_mul_right _ hle
                rw [decide_eq_true h1, decide_eq_true hroom]
                simp
              cases ex with
              | true =>
                cases n0 with
                | zero =>
                  simp only at h
                  obtain ⟨hroom, h⟩ := h
                  refine ⟨_, lg ++ [id], vAppend_run hu hs hb hz hx q1 q2 hck ?_, h⟩
                  refine Rd.look_run ho ?_
                  have c7 : (!(e' == e' && decide (0 + 0 * w.sz ≤ o.cells.length) && decide ((0 + ys.length) * by_ ≤ room))) = false := by
                    rw [decide_eq_true (show (0 + ys.length) * by_ ≤ room by rw [Nat.zero_add]; exact hroom)]
                    simp
                  rw [c7]
                  simp only [Bool.false_eq_true, if_false, if_true]
                  rw [if_neg (by simp)]
                  simp [Rd.run]
                | succ n1 =>
                simp only at h
                obtain ⟨l, hc, hle, hroom, h⟩ := h
                have h' := ysK_out h
                have htk : ((o.cells.drop 0).take ((n1 + 1) * w.sz)) ++ w.fl ys = w.fl (l.take (n1 + 1) ++ ys) := by
                  rw [List.drop_zero, hc, hw.fl_take, View.fl_app]
                have hln : (l.take (n1 + 1) ++ ys).length = n1 + 1 + ys.length := by rw [List.length_append, List.length_take, Nat.min_eq_left hle]
                by_cases hn : ys.length = 0
                · refine ⟨_, lg ++ [id], vAppend_run hu hs hb hz hx q1 q2 hck ?_, h'.1 (hys.2 hn)⟩
                  refine Rd.look_run ho ?_
                  rw [c5 _ l hc hle hroom]
                  simp only [Bool.false_eq_true, if_false, if_true]
                  rw [if_pos ⟨hn, by omega⟩]; rfl
                · refine ⟨_, lg ++ [id], vAppend_run hu hs hb hz hx q1 q2 hck ?_, h'.2 (fun e => hn (hys.1 e))⟩
                  refine Rd.look_run ho ?_
                  rw [c5 _ l hc hle hroom]
                  simp only [Bool.false_eq_true, if_false, if_true]
                  rw [if_neg (fun hh => hn hh.1), htk, hln]; rfl
              | false =>
                simp only at h
                obtain ⟨l, hc, h⟩ := h
                split at h
                · rename_i hcc
                  simp only [Bool.and_eq_true, Bool.not_eq_true', beq_iff_eq] at hcc
                  obtain ⟨⟨f1, f2⟩, f3⟩ := hcc
                  obtain ⟨hnl, hroom, hkk⟩ := h
                  subst hnl
                  refine ⟨_, lg ++ [id], vAppend_run hu hs hb hz hx q1 q2 hck ?_, hkk⟩
                  refine Rd.look_run ho ?_
                  rw [c5 _ l hc (Nat.le_refl _) hroom]
                  simp only [Bool.false_eq_true, if_false]
                  have c6 : (0 == 0 && l.length * w.sz == o.cells.length && !o.fz && isOwn id && o.ty == e') = true := by
                    rw [hc, hw.fl_len, f1, f2, f3]
                    simp
                  rw [if_pos c6, hc, ← View.fl_app, List.length_append]; rfl
                · exact h.elim
            · exact h.elim
          · exact h.elim
        | _ => exact h.elim
      · exact h.elim
    · exact h.elim
  · exact h.elim
end
end Go.Vi
