/- Vi, part 5: values that are built, indexed and sliced. -/
import Derived.Test.YtbiifkfehfapkaaDoorVi4
set_option linter.unusedVariables false
set_option linter.unusedSimpArgs false
namespace Go.Vi
section
variable {P : Program} {H : Hp} {β : Bt}

/-! ### build -/
theorem foldl_set (off : Nat) : ∀ (us : List Value) (i : Nat) (cur : Array Value), off + i + us.length ≤ cur.size →
    (us.zipIdx i).foldl (fun cs (x : Value × Nat) => cs.setIfInBounds (off + x.2) x.1) cur = (cur.toList.take (off + i) ++ us ++ cur.toList.drop (off + i + us.length)).toArray
  | [], i, cur, _ => by simp
  | u :: us, i, cur, h => by
    simp only [List.length_cons] at h
    simp only [List.zipIdx_cons, List.foldl_cons]
    rw [foldl_set off us (i + 1) _ (by simp; omega)]
    congr 1
    have e := list_seg_step cur.toList (off + i) u us (by simp; omega)
    simpa [Array.toList_setIfInBounds, Nat.add_assoc] using e

theorem foldl_set_arr (off : Nat) (us : Array Value) (cur : Array Value) (h : off + us.size ≤ cur.size) :
    (us.zipIdx.foldl (fun cs (x : Value × Nat) => cs.setIfInBounds (off + x.2) x.1) cur) = (cur.toList.take off ++ us.toList ++ cur.toList.drop (off + us.size)).toArray := by
  rw [← Array.foldl_toList, Array.toList_zipIdx]
  have := foldl_set off us.toList 0 cur (by simpa using h)
  simpa using this

def PR (P : Program) (H : Hp) (β : Bt) (l : List (Nat × V)) (m : List (Nat × Value)) : Prop :=
  m.length = l.length ∧ ∀ (k : Nat) (x : Nat × V) (y : Nat × Value), l[k]? = some x → m[k]? = some y → y.1 = x.1 ∧ RV P H β x.2 y.2

theorem fill_sound (place : Nat → Option (Nat × Nat)) : ∀ (l : List (Nat × V)) (m : List (Nat × Value)) (cells cells' : List V) (arr : Array Value), PR P H β l m → CR P H β cells arr 0 → arr.size = cells.length → fillV place cells l = some cells' →
    ∃ arr', Instr.fill place arr m = some arr' ∧ arr'.size = cells'.length ∧ CR P H β cells' arr' 0
  | [], m, cells, cells', arr, hp, hc, hs, h => by
    obtain rfl : m = [] := List.eq_nil_of_length_eq_zero hp.1
    simp only [fillV, Option.some.injEq] at h; subst h
    exact ⟨arr, rfl, hs, hc⟩
  | (i, v) :: l, m, cells, cells', arr, hp, hc, hs, h => by
    cases m with
    | nil => have := hp.1; simp at this
    | cons y m =>
      obtain ⟨j, u⟩ := y
      obtain ⟨e1, e2⟩ := hp.2 0 _ _ rfl rfl
      simp only at e1 e2
      subst e1
      simp only [fillV] at h
      simp only [Instr.fill]
      cases hpl : place j with
      | none => simp [hpl] at h
      | some q =>
        obtain ⟨off, size⟩ := q
        simp only [hpl] at h
        simp only
        split at h
        · rename_i hk
          simp only [Bool.and_eq_true, beq_iff_eq, decide_eq_true_eq] at hk
          obtain ⟨⟨hk1, hk2⟩, hk3⟩ := hk
          obtain ⟨f1, f2, f3⟩ := flat_rel e2 hk1
          obtain ⟨g1, g2, g3⟩ := e2.flat_list hk1
          have hcond : ¬ ((u.cells.size ≠ size || decide (off + u.cells.size > arr.size)) = true) := by
            simp; omega
          rw [if_neg hcond, foldl_set_arr off u.cells arr (by omega)]
          have hc' := CR.put hc g1 g2 (off := off) (by omega)
          refine fill_sound place l m _ cells' _ ⟨by have := hp.1; simp at this; exact this, fun k x y hx hy => hp.2 (k + 1) x y (by simpa using hx) (by simpa using hy)⟩ (by simpa using hc') ?_ h
          simp [putCells]; omega
        · simp at h

theorem RV_ofVal1 (v : Value) : RV P H β (ofVal1 v) v := by
  unfold ofVal1
  split
  · exact .bool ..
  · exact .int ..
  · exact .str ..
  · exact .nl ..
  · exact .junk ..

theorem RV_ofVal (v : Value) : RV P H β (ofVal v) v := by
  unfold ofVal
  split
  · refine .agg _ _ _ (by simp) fun k y u hy hu => ?_
    simp only [List.getElem?_map, Array.getElem?_toList, hu, Option.map_some, Option.some.injEq] at hy
    subst hy
    exact RV_ofVal1 u
  · exact RV_ofVal1 v

theorem run_zero {t : TypeId} {z : V} (h : zeroT P t = some z) (w : World) : ∃ u, (zeroValue t).run P w = .ok u w ∧ RV P H β z u := by
  unfold zeroT at h
  cases hi : P.info? t with
  | none => simp [hi] at h
  | some i =>
    cases hz : i.zero with
    | none => simp [hi, hz] at h
    | some u =>
      simp [hi, hz] at h
      subst h
      exact ⟨u, by simp [zeroValue, typeInfo, hi, hz], RV_ofVal u⟩

theorem CR_rep {z : List V} {us : Array Value} (hs : us.size = z.length) (hc : CR P H β z us 0) (n : Nat) (hz : 0 < z.length) :
    CR P H β (repCells z n) ((Array.range (n * z.length)).map (us[· % us.size]!)) 0 ∧ (repCells z n).length = n * z.length := by
  have hl : ∀ n, (repCells z n).length = n * z.length := by
    intro n
    induction n with
    | zero => simp [repCells]
    | succ n ih => simp [repCells, ih, Nat.succ_mul]; omega
  have hg : ∀ n k (y : V), (repCells z n)[k]? = some y → z[k % z.length]? = some y := by
    intro n
    induction n with
    | zero => intro k y h; simp [repCells] at h
    | succ n ih =>
      intro k y h
      simp only [repCells, List.getElem?_append] at h
      split at h
      · rename_i hk; rw [Nat.mod_eq_of_lt hk]; exact h
      · rename_i hk
        have := ih _ _ h
        rwa [← Nat.mod_eq_sub_mod (by omega)] at this
  refine ⟨⟨by rw [hl]; simp, fun k y u hy hu => ?_⟩, hl n⟩
  have h1 := hg n k y hy
  have hm : k % z.length < us.size := by rw [hs]; exact Nat.mod_lt _ hz
  simp only [Nat.zero_add] at hu
  have hu' : us[k % us.size]! = u := by
    have := hu
    simp only [Array.getElem?_map] at this
    have hk : k < n * z.length := by rw [← hl n]; exact (List.getElem?_eq_some_iff.1 hy).1
    simp [hk] at this
    exact this
  rw [hs] at hu'
  refine hc.2 _ y u h1 ?_
  simp only [Nat.zero_add]
  rw [← hu', getElem!_pos us _ hm]
  simp [hm]

/-! ### index -/
theorem asI_val {v : V} {a : Value} {i : Int} (h : RV P H β v a) (hi : asI v = some i) : ∃ k, a = .int k i := by
  cases v <;> simp [asI] at hi
  cases h
  subst hi
  exact ⟨_, rfl⟩

theorem vIndex_sound {t : TypeId} {x i v : V} {a b : Value} (hx : RV P H β x a) (hi : RV P H β i b) (h : vIndex P t x i = some v) (w : World) :
    ∃ u, (Instr.index t a b).run P w = .ok u w ∧ RV P H β v u := by
  unfold vIndex at h
  cases hai : asI i with
  | none => simp [hai] at h
  | some n =>
    obtain ⟨k, rfl⟩ := asI_val hi hai
    cases hu : P.underlying t with
    | none => simp [hu] at h
    | some d =>
      simp only [hai, hu] at h
      split at h
      · rename_i n' _ len e cs e1 e2
        simp only [Option.some.injEq] at e1 e2
        subst e1; subst e2
        cases hz : szT P e with
        | none => simp [hz] at h
        | some sz =>
          simp only [hz] at h
          split at h
          · rename_i hb
            cases hx with
            | agg _ _ cs' hn hc =>
              obtain ⟨c1, c2⟩ := CR_of_agg (.agg _ _ _ hn hc)
              obtain ⟨u, p1, p2⟩ := run_part c1 c2 h w
              refine ⟨u, ?_, p2⟩
              have hb' : 0 ≤ n ∧ n < (len : Int) := hb
              simp [Instr.index, asIntOf, run_underlying hu, hb', run_sizeOf hz, p1]
          · simp at h
      · rename_i n' _ s e1 e2
        simp only [Option.some.injEq] at e1 e2
        subst e1; subst e2
        cases hx
        split at h
        · rename_i h0
          split at h
          · rename_i bb hbb
            simp only [Option.some.injEq] at h; subst h
            refine ⟨_, ?_, .int ..⟩
            simp [Instr.index, asIntOf, run_underlying hu, h0, hbb]
          · simp at h
        · simp at h
      · simp at h

theorem vIndexAddr_sound {t : TypeId} {x i v : V} {a b : Value} (hx : RV P H β x a) (hi : RV P H β i b) (h : vIndexAddr P t x i = some v) (w : World) :
    ∃ u, (Instr.indexAt t a b).run P w = .ok u w ∧ RV P H β v u := by
  unfold vIndexAddr at h
  cases hai : asI i with
  | none => simp [hai] at h
  | some n =>
    obtain ⟨k, rfl⟩ := asI_val hi hai
    cases hu : P.underlying t with
    | none => simp [hu] at h
    | some d =>
      simp only [hai, hu] at h
      split at h
      · rename_i n' _ len e e1 e2
        simp only [Option.some.injEq] at e1 e2
        subst e1; subst e2
        cases hz : szT P e with
        | none => simp [hz] at h
        | some sz =>
          simp only [hz] at h
          split at h
          · rename_i hb
            have hb' : 0 ≤ n ∧ n < (len : Int) := hb
            cases x <;> simp only [reduceCtorEq, Option.some.injEq] at h
            · subst h
              cases hx with
              | lp _ id off bk szb hβ =>
                refine ⟨_, ?_, .lp _ _ _ bk szb hβ⟩
                simp [Instr.indexAt, asIntOf, run_underlying hu, Instr.sureAddr, hb', run_sizeOf hz, add_none]
            · subst h
              cases hx with
              | fp _ cells off0 bk base arr ty fr h1 h2 h3 =>
                refine ⟨.pointer (some ⟨bk, base + (_ + n.toNat * sz), none⟩), ?_, .fp _ _ _ _ _ _ _ _ h1 h2 h3⟩
                simp [Instr.indexAt, asIntOf, run_underlying hu, Instr.sureAddr, hb', run_sizeOf hz, add_none, Nat.add_assoc]
          · simp at h
      · rename_i n' _ e e1 e2
        simp only [Option.some.injEq] at e1 e2
        subst e1; subst e2
        cases hz : szT P e with
        | none => simp [hz] at h
        | some sz =>
          simp only [hz] at h
          cases x <;> simp only [reduceCtorEq] at h
          · split at h
            · rename_i hb
              simp only [Option.some.injEq] at h; subst h
              cases hx with
              | sl _ id off m e' x b szb es cap hβ he hcap hnc hxx =>
                refine ⟨_, ?_, .lp _ _ _ b szb hβ⟩
                have hb' : 0 ≤ n ∧ n < (_ : Int) := hb
                simp [Instr.indexAt, asIntOf, run_underlying hu, hb', run_sizeOf hz, add_none]
            · simp at h
          · rename_i l
            split at h
            · rename_i h0
              split at h
              · rename_i y hy
                split at h
                · rename_i hk
                  simp only [Bool.and_eq_true, beq_iff_eq] at hk
                  simp only [Option.some.injEq] at h; subst h
                  have hlt : n.toNat < l.length := (List.getElem?_eq_some_iff.1 hy).1
                  cases hx with
                  | fs0 => simp at hy
                  | fs _ _ b off es cap arr ty fr h1 h2 h3 h4 h5 =>
                    have he : es = sz := by rw [← h4 _ _ hy]; exact hk.2
                    subst he
                    refine ⟨.pointer (some ⟨b, off + n.toNat * es + 0, none⟩), ?_, .fp _ _ _ _ (off + n.toNat * es) arr ty fr h2 ?_ fun k y' u hy' hu' => h5 _ _ hy k y' u hy' hu'⟩
                    · have hb' : 0 ≤ n ∧ n < (l.length : Int) := ⟨h0, by omega⟩
                      simp [Instr.indexAt, asIntOf, run_underlying hu, hb', run_sizeOf hz, add_none]
                    · have := Nat.mul_le_mul_right es (show n.toNat + 1 ≤ l.length from hlt)
                      rw [h4 _ _ hy]
                      rw [Nat.add_mul] at this
                      omega
                · simp at h
              · simp at h
            · simp at h
      · simp at h
end
end Go.Vi
