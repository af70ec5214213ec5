/- Vi, part 3: what one operation does to the world, and that the abstract objects follow: new blocks, stores, freezing. -/
import Derived.Test.YtbiifkfehfapkaaDoorVi2
set_option linter.unusedVariables false
set_option linter.unusedSimpArgs false
namespace Go.Vi

def bset (β : Bt) (id : Id) (x : Nat × Nat) : Bt := fun y => if y = id then some x else β y
def hset (H : Hp) (b : Nat) (o : Obj) : Hp := fun y => if y = b then some o else H y
def oset (ob : Id → Option Ob) (id : Id) (o : Option Ob) : Id → Option Ob := fun y => if y = id then o else ob y

theorem applyUp_nil (ob : Id → Option Ob) : applyUp ob [] = ob := rfl
theorem applyUp_cons (ob : Id → Option Ob) (id : Id) (o : Option Ob) (l : List (Id × Option Ob)) : applyUp ob ((id, o) :: l) = applyUp (oset ob id o) l := rfl
theorem applyUp_append (ob : Id → Option Ob) (l m : List (Id × Option Ob)) : applyUp ob (l ++ m) = applyUp (applyUp ob l) m := by
  induction l generalizing ob with
  | nil => rfl
  | cons x l ih => obtain ⟨id, o⟩ := x; exact ih _

theorem bset_le {β : Bt} {id : Id} (h : β id = none) (x : Nat × Nat) : β.le (bset β id x) := fun i y hy => by
  unfold bset; split
  · rename_i e; subst e; simp [h] at hy
  · exact hy
theorem hset_le {H : Hp} {b : Nat} {o : Obj} (h : H b = none ∨ H b = some o) : H.le (hset H b o) := fun i y hy => by
  unfold hset; split
  · rename_i e; subst e
    rcases h with h | h
    · simp [h] at hy
    · rw [← hy, h]
  · exact hy

structure Out (P : Program) (H : Hp) (β : Bt) (ob : Id → Option Ob) (w : World) (t g : Nat) (r : Res) (v : Value) (H' : Hp) (β' : Bt) (w' : World) : Prop where
  hH : H.le H'
  hb : β.le β'
  nw : ∀ id x, β' id = some x → β id = some x ∨ ∃ k, k < r.nw ∧ id = .own t (g + k) ∧ x.1 < w'.heap.size ∧ (w.heap.size ≤ x.1 ∨ ∃ t' g' sz, β (.own t' g') = some (x.1, sz))
  rv : RV P H' β' r.v v
  rel : Rel P H' β' (applyUp ob r.up) w'
  keep : Keep w w' (fun b => ∃ id sz, β id = some (b, sz))
  hfr : ∀ b x, H' b = some x → H b = none → w.heap.size ≤ b ∨ ∃ t' g' sz, β (.own t' g') = some (b, sz)

section
variable {P : Program} {H : Hp} {β : Bt} {ob : Id → Option Ob} {w : World} {t g : Nat}

theorem Rel.lt (h : Rel P H β ob w) {id : Id} {o : Ob} (ho : ob id = some o) {b sz : Nat} (hb : β id = some (b, sz)) : b < w.heap.size := by
  obtain ⟨b', sz', arr, fr, h1, h2, _⟩ := (h.obj id o ho).out
  rw [hb] at h1; cases h1
  exact (Array.getElem?_eq_some_iff.1 h2).1

theorem Rel.hnone (h : Rel P H β ob w) : H w.heap.size = none := by
  cases hx : H w.heap.size with
  | none => rfl
  | some x => have := h.hp _ _ hx; simp at this

theorem Out.val (hr : Rel P H β ob w) {v : V} {u : Value} (hv : RV P H β v u) : Out P H β ob w t g ⟨v, [], 0⟩ u H β w :=
  ⟨Hp.le_refl _, Bt.le_refl _, fun id x h => .inl h, hv, hr, Keep.refl _ _, fun b x h h' => by simp [h] at h'⟩

theorem ObAt.mono {H' : Hp} {β' : Bt} {w' : World} (hH : H.le H') (hb : β.le β') {id : Id} {o : Ob} (h : ObAt P H β w id o)
    (hw : ∀ b sz, β id = some (b, sz) → w'.heap[b]? = w.heap[b]?) (hn : ∀ b sz, β id = some (b, sz) → H' b = H b) : ObAt P H' β' w' id o := by
  obtain ⟨b, sz, arr, fr, h1, h2, h3, h4, h5, h6, h7⟩ := h.out
  refine ⟨b, sz, arr, fr, hb _ _ h1, (hw b sz h1).trans h2, h3, h4, h5.mono hH hb, fun hf => (hn b sz h1).trans (h6 hf), fun hf => (hn b sz h1).trans (h7 hf)⟩

/-- A new block. -/
theorem Out.new (hr : Rel P H β ob w) (hβ : β (.own t g) = none) {arr : Array Value} {ty : TypeId} {fr : Nat × Nat} {cells : List V} (hc : CR P H β cells arr 0) (hf : frok fr arr.size)
    {v : V} {u : Value} (hv : ∀ β', β.le β' → β' (.own t g) = some (w.heap.size, arr.size) → RV P H β' v u) :
    Out P H β ob w t g ⟨v, [(.own t g, some ⟨ty, cells, false⟩)], 1⟩ u H (bset β (.own t g) (w.heap.size, arr.size)) (w.alloc (.cells arr ty fr)) := by
  have hle := bset_le hβ (w.heap.size, arr.size)
  have hhd : (w.alloc (.cells arr ty fr)).heap[w.heap.size]? = some (.cells arr ty fr) := heap_alloc_new _ _
  have hold : ∀ b, b < w.heap.size → (w.alloc (.cells arr ty fr)).heap[b]? = w.heap[b]? := fun b hb => Go.heap_alloc_old _ _ hb
  refine ⟨Hp.le_refl _, hle, ?_, hv _ hle (by simp [bset]), ⟨?_, ?_, ?_⟩, ⟨rfl, rfl, rfl, by simp, fun b hb _ => hold b hb⟩, fun b x h h' => by simp [h] at h'⟩
  · intro id x hx
    unfold bset at hx
    split at hx
    · rename_i e
      simp only [Option.some.injEq] at hx
      subst hx
      exact .inr ⟨0, by simp, by simpa using e, by simp, .inl (Nat.le_refl _)⟩
    · exact .inl hx
  · intro id o ho
    simp only [applyUp_cons, applyUp_nil, oset] at ho
    split at ho
    · rename_i e
      simp only [Option.some.injEq] at ho
      subst ho; subst e
      exact ⟨w.heap.size, arr.size, arr, fr, by simp [bset], hhd, rfl, hf, hc.mono (Hp.le_refl _) hle, by simp, fun _ => hr.hnone⟩
    · refine (hr.obj id o ho).mono (Hp.le_refl _) hle (fun b sz hb => hold b (hr.lt ho hb)) (fun _ _ _ => rfl)
  · intro id id' o o' b sz sz' ho ho' hb hb'
    simp only [applyUp_cons, applyUp_nil, oset] at ho ho'
    simp only [bset] at hb hb'
    split at ho
    · rename_i e
      split at ho'
      · rename_i e'; rw [e, e']
      · rename_i e'
        rw [if_pos e] at hb; rw [if_neg e'] at hb'
        have := hr.lt ho' hb'
        simp only [Option.some.injEq, Prod.mk.injEq] at hb
        omega
    · rename_i e
      rw [if_neg e] at hb
      split at ho'
      · rename_i e'
        rw [if_pos e'] at hb'
        have := hr.lt ho hb
        simp only [Option.some.injEq, Prod.mk.injEq] at hb'
        omega
      · rename_i e'
        rw [if_neg e'] at hb'
        exact hr.inj _ _ _ _ _ _ _ ho ho' hb hb'
  · intro b x hx
    have hlt : b < w.heap.size := (Array.getElem?_eq_some_iff.1 (hr.hp b x hx)).1
    rw [hold b hlt]; exact hr.hp b x hx


theorem size_setRow' (w : World) (b : Nat) (cs : Array Value) : (w.setRow b cs).heap.size = w.heap.size := by simp

/-- The cells of an object that lives are written anew. -/
theorem Rel.set (hr : Rel P H β ob w) {id : Id} {o : Ob} (ho : ob id = some o) (hfz : o.fz = false) {b sz : Nat} (hb : β id = some (b, sz)) {arr : Array Value} {fr : Nat × Nat}
    (hg : w.heap[b]? = some (.cells arr o.ty fr)) {arr' : Array Value} (hs : arr'.size = arr.size) {cells' : List V} (hc : CR P H β cells' arr' 0) :
    Rel P H β (oset ob id (some ⟨o.ty, cells', false⟩)) (w.setRow b arr') ∧ Keep w (w.setRow b arr') (fun b => ∃ id sz, β id = some (b, sz)) := by
  have hself : (w.setRow b arr').heap[b]? = some (.cells arr' o.ty fr) := setRow_heap w b arr arr' o.ty fr hg
  have hoth : ∀ k, k ≠ b → (w.setRow b arr').heap[k]? = w.heap[k]? := fun k hk => setRow_other w b k arr' hk
  obtain ⟨b0, sz0, arr0, fr0, h1, h2, h3, h4, h5, h6, h7⟩ := (hr.obj id o ho).out
  rw [hb] at h1; cases h1
  rw [hg] at h2; cases h2
  have hHb : H b = none := h7 hfz
  refine ⟨⟨?_, ?_, ?_⟩, ⟨rfl, rfl, rfl, by simp, fun k _ hk => hoth k fun e => hk ⟨id, sz, by rw [e]; exact hb⟩⟩⟩
  · intro id' o' ho'
    simp only [oset] at ho'
    split at ho'
    · rename_i e
      simp only [Option.some.injEq] at ho'
      subst ho'; subst e
      exact ⟨b, sz, arr', fr, hb, hself, hs.trans h3, h4, hc, by simp, fun _ => hHb⟩
    · rename_i e
      refine (hr.obj id' o' ho').mono (Hp.le_refl _) (Bt.le_refl _) (fun b' sz' hb' => hoth b' fun e' => ?_) (fun _ _ _ => rfl)
      subst e'
      exact e (hr.inj _ _ _ _ _ _ _ ho' ho hb' hb)
  · intro id1 id2 o1 o2 b' s1 s2 ho1 ho2 hb1 hb2
    have key : ∀ i oo, oset ob id (some ⟨o.ty, cells', false⟩) i = some oo → ∃ oo', ob i = some oo' := by
      intro i oo h
      simp only [oset] at h
      split at h
      · rename_i e; exact ⟨o, by rw [e]; exact ho⟩
      · exact ⟨oo, h⟩
    obtain ⟨p, hp⟩ := key _ _ ho1
    obtain ⟨q, hq⟩ := key _ _ ho2
    exact hr.inj _ _ _ _ _ _ _ hp hq hb1 hb2
  · intro k x hx
    rw [hoth k (fun e => by subst e; rw [hHb] at hx; simp at hx)]
    exact hr.hp k x hx

theorem CR.put {cells xs : List V} {arr : Array Value} {us : List Value} {off : Nat} (h : CR P H β cells arr 0) (hl : us.length = xs.length) (hx : ∀ (k : Nat) (y : V) (u : Value), xs[k]? = some y → us[k]? = some u → RV P H β y u)
    (hn : off + xs.length ≤ cells.length) : CR P H β (putCells cells off xs) (arr.toList.take off ++ us ++ arr.toList.drop (off + us.length)).toArray 0 := by
  have hle : cells.length ≤ arr.size := by have := h.1; omega
  refine ⟨?_, fun k y u hy hu => ?_⟩
  · simp [putCells]; omega
  · simp only [Nat.zero_add] at hu
    have hu' : (arr.toList.take off ++ us ++ arr.toList.drop (off + us.length))[k]? = some u := by simpa using hu
    clear hu
    simp only [putCells] at hy
    rw [List.append_assoc, List.getElem?_append] at hy hu'
    simp only [List.length_take, Array.length_toList] at hy hu'
    rw [show min off cells.length = off by omega] at hy
    rw [show min off arr.size = off by omega] at hu'
    split at hy
    · rename_i hk
      rw [if_pos hk] at hu'
      simp only [List.getElem?_take, hk, if_true] at hy hu'
      exact h.2 k y u hy (by simpa using hu')
    · rename_i hk
      rw [if_neg hk] at hu'
      rw [List.getElem?_append] at hy hu'
      rw [hl] at hu'
      split at hy
      · rename_i hk2
        rw [if_pos hk2] at hu'
        exact hx _ y u hy hu'
      · rename_i hk2
        rw [if_neg hk2] at hu'
        simp only [List.getElem?_drop] at hy hu'
        have e : off + xs.length + (k - off - xs.length) = k := by omega
        rw [e] at hy hu'
        exact h.2 k y u hy (by simpa using hu')

theorem RV.flat_list {v : V} {u : Value} (h : RV P H β v u) (hk : v.ok = true) : u.cells.toList.length = v.flat.length ∧ (∀ (k : Nat) (y : V) (x : Value), v.flat[k]? = some y → u.cells.toList[k]? = some x → RV P H β y x) ∧ ∀ c ∈ u.cells.toList, c.oneCell' = true := by
  obtain ⟨h1, h2, h3⟩ := flat_rel h hk
  exact ⟨by simpa using h1, fun k y x hy hx => h2.2 k y x hy (by simpa using hx), h3⟩

/-- A store through a pointer. -/
theorem Out.store (hr : Rel P H β ob w) {id : Id} {o : Ob} (ho : ob id = some o) (hfz : o.fz = false) {b sz off : Nat} (hb : β id = some (b, sz)) {x : V} {u : Value} (hx : RV P H β x u) (hk : x.ok = true)
    (hn : off + x.flat.length ≤ o.cells.length) {ty : TypeId} (hty : szT P ty = some x.flat.length) {v0 : V} {u0 : Value} (hv0 : RV P H β v0 u0) :
    ∃ w', (storeVar ty ⟨b, off, none⟩ u).run P w = .ok () w' ∧ Out P H β ob w t g ⟨v0, [(id, some ⟨o.ty, putCells o.cells off x.flat, false⟩)], 0⟩ u0 H β w' := by
  obtain ⟨b0, sz0, arr, fr, h1, h2, h3, h4, h5, h6, h7⟩ := (hr.obj id o ho).out
  rw [hb] at h1; cases h1
  obtain ⟨f1, f2, f3⟩ := hx.flat_list hk
  have hc := CR.put h5 f1 f2 hn
  have hsz : (arr.toList.take off ++ u.cells.toList ++ arr.toList.drop (off + u.cells.toList.length)).toArray.size = arr.size := by
    have := h5.1
    simp at f1 ⊢
    omega
  obtain ⟨q1, q2⟩ := hr.set ho hfz hb h2 hsz hc
  refine ⟨_, ?_, Hp.le_refl _, Bt.le_refl _, fun id x h => .inl h, hv0, q1, q2, fun b x h h' => by simp [h] at h'⟩
  have hrun := run_storeCells_fr (P := P) b off o.ty fr u.cells.toList 0 arr w h2 (by rw [h3]; exact h4) (by have := h5.1; omega) f3
  have hcz : u.cells.size = x.flat.length := by simpa using f1
  simp only [storeVar, Sem.run_bind, run_sizeOf hty w, Result.andThen_ok, hcz, ne_eq, not_true_eq_false, if_false]
  simpa using hrun
end
end Go.Vi
