/- Vi, part 2: what an abstract value says of a value, what abstract objects say of a world; loads, stores and new blocks. -/
import Derived.Test.YtbiifkfehfapkaaDoorVi1
import Derived.Laws.Rows
import Derived.Laws.CopyRow
import Derived.Laws.NewBlocks
import Derived.WalkKit
set_option linter.unusedVariables false
set_option linter.unusedSimpArgs false
namespace Go.Vi

abbrev Hp := Nat → Option Obj
abbrev Bt := Id → Option (Nat × Nat)

def Hp.le (H H' : Hp) : Prop := ∀ b x, H b = some x → H' b = some x
def Bt.le (β β' : Bt) : Prop := ∀ id x, β id = some x → β' id = some x
def noB : Bt := fun _ => none

inductive RV (P : Program) (H : Hp) : Bt → V → Value → Prop
  | junk (β v) : RV P H β .junk v
  | int (β k n) : RV P H β (.int k n) (.int k n)
  | bool (β b) : RV P H β (.bool b) (.bool b)
  | str (β s) : RV P H β (.str s) (.string s)
  | agg (β l cs) : cs.size = l.length → (∀ (k : Nat) (y : V) (u : Value), l[k]? = some y → cs[k]? = some u → RV P H β y u) → RV P H β (.agg l) (.agg cs)
  | tup (β l cs) : cs.size = l.length → (∀ (k : Nat) (y : V) (u : Value), l[k]? = some y → cs[k]? = some u → RV P H β y u) → RV P H β (.tup l) (.tuple cs)
  | lp (β id off b sz) : β id = some (b, sz) → RV P H β (.lp id off) (.pointer (some ⟨b, off, none⟩))
  | sl (β id off n e x b sz es cap) : β id = some (b, sz) → szT P e = some es → off + cap * es ≤ sz → n ≤ cap → (x = true → cap = n) →
      RV P H β (.sl id off n e x) (.slice (some ⟨b, off, none⟩) n cap)
  | nl (β) : RV P H β .nl (.slice none 0 0)
  | e0 (β A) : RV P H β .e0 (.slice A 0 0)
  | fs0 (β A cap) : RV P H β (.fs []) (.slice A 0 cap)
  | fs (β l b off es cap arr ty fr) : l.length ≤ cap → H b = some (.cells arr ty fr) → off + l.length * es ≤ arr.size →
      (∀ (j : Nat) (x : V), l[j]? = some x → x.flat.length = es) →
      (∀ (j : Nat) (x : V), l[j]? = some x → ∀ (k : Nat) (y : V) (u : Value), x.flat[k]? = some y → arr[off + j * es + k]? = some u → RV P H noB y u) →
      RV P H β (.fs l) (.slice (some ⟨b, off, none⟩) l.length cap)
  | fp (β cells off b base arr ty fr) : H b = some (.cells arr ty fr) → base + cells.length ≤ arr.size →
      (∀ (k : Nat) (y : V) (u : Value), cells[k]? = some y → arr[base + k]? = some u → RV P H noB y u) →
      RV P H β (.fp cells off) (.pointer (some ⟨b, base + off, none⟩))
  | fn (β f caps cs) : cs.size = caps.length → (∀ (k : Nat) (y : V) (u : Value), caps[k]? = some y → cs[k]? = some u → RV P H β y u) → RV P H β (.fn f caps) (.func (.func f) #[] cs)

theorem noB_le (β : Bt) : Bt.le noB β := fun _ _ h => by simp [noB] at h
theorem Bt.le_refl (β : Bt) : Bt.le β β := fun _ _ h => h
theorem Bt.le_trans {a b c : Bt} (h : Bt.le a b) (k : Bt.le b c) : Bt.le a c := fun i x hx => k i x (h i x hx)
theorem Hp.le_refl (H : Hp) : Hp.le H H := fun _ _ h => h
theorem Hp.le_trans {a b c : Hp} (h : Hp.le a b) (k : Hp.le b c) : Hp.le a c := fun i x hx => k i x (h i x hx)

theorem RV.mono {P : Program} {H H' : Hp} (hH : H.le H') {β : Bt} {v : V} {u : Value} (h : RV P H β v u) : ∀ {β' : Bt}, β.le β' → RV P H' β' v u := by
  induction h with
  | junk => intro β' _; exact .junk ..
  | int => intro β' _; exact .int ..
  | bool => intro β' _; exact .bool ..
  | str => intro β' _; exact .str ..
  | agg β l cs hn _ ih => intro β' hb; exact .agg _ _ _ hn fun k y u hy hu => ih k y u hy hu hb
  | tup β l cs hn _ ih => intro β' hb; exact .tup _ _ _ hn fun k y u hy hu => ih k y u hy hu hb
  | lp β id off b sz h => intro β' hb; exact .lp _ _ _ _ _ (hb _ _ h)
  | sl β id off n e x b sz es cap h h1 h2 h3 h4 => intro β' hb; exact .sl _ _ _ _ _ _ _ _ _ _ (hb _ _ h) h1 h2 h3 h4
  | nl => intro β' _; exact .nl ..
  | e0 => intro β' _; exact .e0 ..
  | fs0 => intro β' _; exact .fs0 ..
  | fs β l b off es cap arr ty fr h1 h2 h3 h4 _ ih => intro β' hb; exact .fs _ _ _ _ _ _ _ _ _ h1 (hH _ _ h2) h3 h4 fun j x hj k y u hy hu => ih j x hj k y u hy hu (Bt.le_refl _)
  | fp β cells off b base arr ty fr h2 h3 _ ih => intro β' hb; exact .fp _ _ _ _ _ _ _ _ (hH _ _ h2) h3 fun k y u hy hu => ih k y u hy hu (Bt.le_refl _)
  | fn β f caps cs hn _ ih => intro β' hb; exact .fn _ _ _ _ hn fun k y u hy hu => ih k y u hy hu hb

/-- Cells and what they hold. -/
def CR (P : Program) (H : Hp) (β : Bt) (cells : List V) (arr : Array Value) (off : Nat) : Prop :=
  off + cells.length ≤ arr.size ∧ ∀ (k : Nat) (y : V) (u : Value), cells[k]? = some y → arr[off + k]? = some u → RV P H β y u

theorem CR.mono {P : Program} {H H' : Hp} (hH : H.le H') {β β' : Bt} (hb : β.le β') {cells : List V} {arr : Array Value} {off : Nat} (h : CR P H β cells arr off) : CR P H' β' cells arr off :=
  ⟨h.1, fun k y u hy hu => (h.2 k y u hy hu).mono hH hb⟩

theorem CR.sub {P : Program} {H : Hp} {β : Bt} {cells : List V} {arr : Array Value} {off : Nat} (h : CR P H β cells arr off) (i n : Nat) (hn : i + n ≤ cells.length) : CR P H β ((cells.drop i).take n) arr (off + i) := by
  refine ⟨by simp; have := h.1; omega, fun k y u hy hu => ?_⟩
  simp only [List.getElem?_take, List.getElem?_drop] at hy
  split at hy
  · exact h.2 (i + k) y u hy (by rw [← hu]; congr 1; omega)
  · simp at hy

theorem CR.extract {P : Program} {H : Hp} {β : Bt} {cells : List V} {arr : Array Value} {off : Nat} (h : CR P H β cells arr off) : CR P H β cells (arr.extract off (off + cells.length)) 0 := by
  refine ⟨by simp; have := h.1; omega, fun k y u hy hu => ?_⟩
  have hk : k < cells.length := (List.getElem?_eq_some_iff.1 hy).1
  refine h.2 k y u hy ?_
  rw [← hu]
  simp [Array.getElem?_extract]
  omega

theorem agg_of_CR {P : Program} {H : Hp} {β : Bt} {cells : List V} {arr : Array Value} (hs : arr.size = cells.length) (h : CR P H β cells arr 0) : RV P H β (.agg cells) (.agg arr) :=
  .agg _ _ _ hs fun k y u hy hu => h.2 k y u hy (by simpa using hu)

/-! ### a value as it lies in memory -/
theorem one_of_leaf {P : Program} {H : Hp} {β : Bt} {v : V} {u : Value} (h : RV P H β v u) (hl : v.leaf = true) : u.oneCell' = true := by
  cases h <;> first | rfl | simp [V.leaf] at hl

theorem flat_rel {P : Program} {H : Hp} {β : Bt} {v : V} {u : Value} (h : RV P H β v u) (hk : v.ok = true) :
    u.cells.size = v.flat.length ∧ CR P H β v.flat u.cells 0 ∧ ∀ c ∈ u.cells.toList, c.oneCell' = true := by
  cases v with
  | agg l =>
    cases h with
    | agg _ _ cs hn hc =>
      refine ⟨hn, ⟨by simp [V.flat, Value.cells, hn], fun k y u hy hu => hc k y u hy (by simpa [Value.cells] using hu)⟩, ?_⟩
      intro c hcm
      simp only [Value.cells] at hcm
      obtain ⟨k, hk', rfl⟩ := List.getElem_of_mem hcm
      simp only [Array.length_toList] at hk'
      have hkl : k < l.length := by omega
      simp only [V.ok, List.all_eq_true] at hk
      have := hc k l[k] cs[k] (by simp [hkl]) (by simp [hk'])
      exact one_of_leaf this (hk _ (List.getElem_mem hkl))
  | tup l => simp [V.ok, V.leaf] at hk
  | junk => simp [V.ok, V.leaf] at hk
  | _ =>
    have h1 := one_of_leaf h (by simpa [V.ok] using hk)
    have hcu : u.cells = #[u] := by cases u <;> first | rfl | simp [Value.oneCell'] at h1
    rw [hcu]
    refine ⟨by simp [V.flat], ⟨by simp [V.flat], fun k y u' hy hu => ?_⟩, by simp [h1]⟩
    simp only [V.flat] at hy
    cases k with
    | zero => simp at hy hu; subst hy; subst hu; exact h
    | succ k => simp at hy

/-! ### the world -/
def frok (fr : Nat × Nat) (n : Nat) : Prop := ∀ k, k < n → (decide (fr.1 ≤ k) && decide (k < fr.2)) = false

theorem frok_zero (n : Nat) : frok (0, 0) n := fun k _ => by simp

structure ObAt (P : Program) (H : Hp) (β : Bt) (w : World) (id : Id) (o : Ob) : Prop where
  out : ∃ b sz arr fr, β id = some (b, sz) ∧ w.heap[b]? = some (.cells arr o.ty fr) ∧ arr.size = sz ∧ frok fr sz ∧ CR P H β o.cells arr 0 ∧
    (o.fz = true → H b = some (.cells arr o.ty fr)) ∧ (o.fz = false → H b = none)

structure Rel (P : Program) (H : Hp) (β : Bt) (ob : Id → Option Ob) (w : World) : Prop where
  obj : ∀ id o, ob id = some o → ObAt P H β w id o
  inj : ∀ id id' o o' b sz sz', ob id = some o → ob id' = some o' → β id = some (b, sz) → β id' = some (b, sz') → id = id'
  hp : ∀ b x, H b = some x → w.heap[b]? = some x

structure Keep (w w' : World) (S : Nat → Prop) : Prop where
  os : w'.os = w.os
  tape : w'.tape = w.tape
  output : w'.output = w.output
  size : w.heap.size ≤ w'.heap.size
  blk : ∀ b, b < w.heap.size → ¬ S b → w'.heap[b]? = w.heap[b]?

theorem Keep.refl (w : World) (S : Nat → Prop) : Keep w w S := ⟨rfl, rfl, rfl, Nat.le_refl _, fun _ _ _ => rfl⟩
theorem Keep.trans {a b c : World} {S : Nat → Prop} (h : Keep a b S) (k : Keep b c S) : Keep a c S :=
  ⟨k.os.trans h.os, k.tape.trans h.tape, k.output.trans h.output, Nat.le_trans h.size k.size, fun i hi hs => (k.blk i (Nat.lt_of_lt_of_le hi h.size) hs).trans (h.blk i hi hs)⟩
theorem Keep.imp {a b : World} {S T : Nat → Prop} (h : Keep a b S) (hs : ∀ i, i < a.heap.size → S i → T i) : Keep a b T :=
  ⟨h.os, h.tape, h.output, h.size, fun i hi ht => h.blk i hi fun s => ht (hs i hi s)⟩
theorem Keep.drew (w : World) (S : Nat → Prop) : Keep w { w with drawn := w.drawn + 1 } S := ⟨rfl, rfl, rfl, Nat.le_refl _, fun _ _ _ => rfl⟩

theorem Rel.drew {P : Program} {H : Hp} {β : Bt} {ob : Id → Option Ob} {w : World} (h : Rel P H β ob w) : Rel P H β ob { w with drawn := w.drawn + 1 } :=
  ⟨fun id o ho => ⟨(h.obj id o ho).out⟩, h.inj, h.hp⟩

theorem add_none (b off n : Nat) : (⟨b, off, none⟩ : Addr).add n = ⟨b, off + n, none⟩ := by unfold Addr.add; split <;> simp_all

theorem cell_at {w : World} {b : Nat} {arr : Array Value} {ty : TypeId} {fr : Nat × Nat} (h : w.heap[b]? = some (.cells arr ty fr)) (j : Nat) : w.cell? ⟨b, j, none⟩ = arr[j]? :=
  cell_of_row w b j arr ty fr h

section
variable {P : Program}

theorem run_sizeOf {t : TypeId} {n : Nat} (h : szT P t = some n) (w : World) : (sizeOf t).run P w = .ok n w := by
  unfold szT at h
  cases hi : P.info? t with
  | none => simp [hi] at h
  | some i => simp [hi] at h; simp [sizeOf, typeInfo, hi, h]

theorem run_isAgg {t : TypeId} {b : Bool} (h : aggT P t = some b) (w : World) : (isAgg t).run P w = .ok b w := by
  unfold aggT at h
  cases hu : P.underlying t with
  | none => simp [hu] at h
  | some d =>
    unfold isAgg
    rw [Sem.run_bind, run_underlying hu w]
    cases d <;> simp [hu] at h <;> subst h <;> simp

theorem run_loadCells_at {w : World} {b off n : Nat} {arr : Array Value} {ty : TypeId} {fr : Nat × Nat} (h : w.heap[b]? = some (.cells arr ty fr)) (hn : off + n ≤ arr.size) :
    (loadCells ⟨b, off, none⟩ n).run P w = .ok (arr.extract off (off + n)) w := by
  have hl : (arr.extract off (off + n)).toList.length = n := by simp; omega
  have := run_loadCells_list (P := P) w ⟨b, off, none⟩ (arr.extract off (off + n)).toList (fun j v hv => by
    rw [add_none, cell_at h]
    rw [Array.getElem?_toList, Array.getElem?_extract] at hv
    split at hv
    · exact hv
    · simp at hv)
  rw [hl] at this
  rw [this]

/-- A load. -/
theorem run_ld {H : Hp} {β : Bt} {w : World} {b base off : Nat} {arr : Array Value} {ty t : TypeId} {fr : Nat × Nat} {cells : List V} {v : V} (h : w.heap[b]? = some (.cells arr ty fr))
    (hc : CR P H β cells arr base) (hl : ld P t cells off = some v) : ∃ u, (loadVar t ⟨b, base + off, none⟩).run P w = .ok u w ∧ RV P H β v u := by
  unfold ld at hl
  cases ha : aggT P t with
  | none => simp [ha] at hl
  | some ag =>
    cases ag with
    | true =>
      cases hs : szT P t with
      | none => simp [ha, hs] at hl
      | some n =>
        simp only [ha, hs] at hl
        split at hl
        · rename_i hle
          simp only [Option.some.injEq] at hl
          subst hl
          have hc' := hc.sub off n hle
          refine ⟨.agg (arr.extract (base + off) (base + off + n)), ?_, ?_⟩
          · simp [loadVar, run_isAgg ha, run_sizeOf hs, run_loadCells_at (P := P) h (off := base + off) (n := n) (by have := hc.1; omega)]
          · have hx := hc'.extract
            have hlen : ((cells.drop off).take n).length = n := by simp; omega
            rw [hlen] at hx
            exact agg_of_CR (by rw [hlen]; simp; have := hc.1; omega) hx
        · simp at hl
    | false =>
      simp only [ha] at hl
      have hlt : off < cells.length := (List.getElem?_eq_some_iff.1 hl).1
      have hsz : base + off < arr.size := by have := hc.1; omega
      refine ⟨arr[base + off], ?_, hc.2 off v _ hl (by simp [hsz])⟩
      have : w.cell? ⟨b, base + off, none⟩ = some arr[base + off] := by rw [cell_at h]; simp [hsz]
      simp [loadVar, run_isAgg ha, run_load, this]

/-- A part of a value. -/
theorem run_part {H : Hp} {β : Bt} {arr : Array Value} {t : TypeId} {cells : List V} {off : Nat} {v : V} (hs : arr.size = cells.length) (hc : CR P H β cells arr 0) (hl : ld P t cells off = some v) (w : World) :
    ∃ u, (part t arr off).run P w = .ok u w ∧ RV P H β v u := by
  unfold ld at hl
  cases ha : aggT P t with
  | none => simp [ha] at hl
  | some ag =>
    cases ag with
    | true =>
      cases hs : szT P t with
      | none => simp [ha, hs] at hl
      | some n =>
        simp only [ha, hs] at hl
        split at hl
        · rename_i hle
          simp only [Option.some.injEq] at hl
          subst hl
          have hc' := hc.sub off n hle
          refine ⟨.agg (arr.extract off (off + n)), ?_, ?_⟩
          · simp [part, run_isAgg ha, run_sizeOf hs]
          · have hx := hc'.extract
            have hlen : ((cells.drop off).take n).length = n := by simp; omega
            rw [hlen] at hx
            simp only [Nat.zero_add] at hx
            exact agg_of_CR (by rw [hlen]; simp; omega) hx
        · simp at hl
    | false =>
      simp only [ha] at hl
      have hlt : off < cells.length := (List.getElem?_eq_some_iff.1 hl).1
      have hsz : off < arr.size := by omega
      refine ⟨arr[off], ?_, hc.2 off v _ hl (by simp [hsz])⟩
      simp [part, run_isAgg ha, hsz]

theorem frozen_at {w : World} {b k n : Nat} {arr : Array Value} {ty : TypeId} {fr : Nat × Nat} (h : w.heap[b]? = some (.cells arr ty fr)) (hf : frok fr n) (hk : k < n) : w.frozen? ⟨b, k, none⟩ = false := by
  have := hf k hk
  simpa [World.frozen?, h] using this

/-- A store of cells. -/
theorem run_storeCells_fr (g o : Nat) (t : TypeId) (fr : Nat × Nat) : ∀ (vs : List Value) (i : Nat) (cur : Array Value) (w : World), w.heap[g]? = some (.cells cur t fr) → frok fr cur.size → o + i + vs.length ≤ cur.size → (∀ v ∈ vs, v.oneCell' = true) →
    (storeCells ⟨g, o, none⟩ vs i).run P w = .ok () (w.setRow g (cur.toList.take (o + i) ++ vs ++ cur.toList.drop (o + i + vs.length)).toArray)
  | [], i, cur, w, hg, _, _, _ => by
    simp only [storeCells, List.append_nil, List.length_nil, Nat.add_zero, List.take_append_drop, Array.toArray_toList]
    rw [setRow_self w g cur t fr hg]
    rfl
  | v :: rest, i, cur, w, hg, hf, hl, h1 => by
    have hi : o + i < cur.size := by simp at hl; omega
    have hcell : w.cell? ⟨g, o + i, none⟩ = some cur[o + i] := by simp [World.cell?, hg, hi]
    have hfro : w.frozen? ⟨g, o + i, none⟩ = false := frozen_at hg hf hi
    have hst : (store ((⟨g, o, none⟩ : Addr).add i) v).run P w = .ok () (w.setRow g (cur.setIfInBounds (o + i) v)) := by
      rw [add_none, run_store P w _ v _ (h1 v (by simp)), hcell]
      simp [hfro, setCell_eq_setRow w g (o + i) cur t fr v hg]
    have ih := run_storeCells_fr g o t fr rest (i + 1) (cur.setIfInBounds (o + i) v) (w.setRow g (cur.setIfInBounds (o + i) v)) (setRow_heap w g cur _ t _ hg) (by simpa using hf) (by simp at hl ⊢; omega) (fun x hx => h1 x (by simp [hx]))
    simp only [storeCells, Sem.run_bind, hst, Result.andThen_ok, ih, setRow_setRow]
    congr 3
    have e := list_seg_step cur.toList (o + i) v rest (by simp at hl ⊢; omega)
    simpa [Array.toList_setIfInBounds, Nat.add_assoc] using e
end
end Go.Vi
