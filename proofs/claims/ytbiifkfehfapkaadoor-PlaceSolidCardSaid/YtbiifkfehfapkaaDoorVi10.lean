/- Vi, part 10: the call of a function. -/
import Derived.Test.YtbiifkfehfapkaaDoorVi9
set_option linter.unusedVariables false
set_option linter.unusedSimpArgs false
namespace Go.Vi

def obB (bo : List Ob) : Id → Option Ob
  | .bor k => bo[k]?
  | _ => none

def obR (bo ro : List Ob) : Id → Option Ob
  | .bor k => bo[k]?
  | .ret k => ro[k]?
  | _ => none

def GOK (P : Program) (E : Env) (H : Hp) : Prop := ∀ g c, E.gl g = some c → ∃ arr ty fr, H g = some (.cells arr ty fr) ∧ CR P H noB c arr 0

structure Post (P : Program) (H : Hp) (β : Bt) (w : World) (res : V) (bo' ro : List Ob) (v : Value) (H' : Hp) (β' : Bt) (w' : World) : Prop where
  hH : H.le H'
  hb : β.le β'
  nw : ∀ id x, β' id = some x → β id = some x ∨ ∃ k, id = .ret k ∧ k < ro.length ∧ w.heap.size ≤ x.1 ∧ x.1 < w'.heap.size
  rv : RV P H' β' res v
  rel : Rel P H' β' (obR bo' ro) w'
  keep : Keep w w' (fun b => ∃ k sz, β (.bor k) = some (b, sz))
  hfr : ∀ b x, H' b = some x → H b = none → w.heap.size ≤ b

/-- What a function does: with these arguments, and these objects lent, it returns this, leaves the lent objects so, and hands out these. -/
def Con (P : Program) (E : Env) (f : FuncId) (args : List V) (bo : List Ob) (res : V) (bo' ro : List Ob) : Prop :=
  ∀ (H : Hp) (β : Bt) (w : World) (vs : Array Value), GOK P E H → (∀ id x, β id = some x → ∃ k, k < bo.length ∧ id = .bor k) → Rel P H β (obB bo) w → PW P H β args vs →
    Calls P f vs w fun e w' => ∃ v H' β', e = .returned v ∧ Post P H β w res bo' ro v H' β' w'

def OkC (P : Program) (E : Env) (C : Oracle) : Prop := ∀ f args bo r bo' ro, C f args bo = some (r, bo', ro) → Con P E f args bo r bo' ro ∧ callOk P f = true

theorem GOK.mono {P : Program} {E : Env} {H H' : Hp} (hH : H.le H') (h : GOK P E H) : GOK P E H' := fun g c hc => by
  obtain ⟨arr, ty, fr, h1, h2⟩ := h g c hc
  exact ⟨arr, ty, fr, hH _ _ h1, h2.mono hH (Bt.le_refl _)⟩

section
variable {P : Program} {H : Hp} {β : Bt} {ob : Id → Option Ob} {w : World} {t g : Nat}

/-! ### back from a callee -/
theorem mapM_some {f : V → Option V} : ∀ {l l' : List V}, l.mapM f = some l' → l'.length = l.length ∧ ∀ (k : Nat) (v : V), l[k]? = some v → ∃ v', f v = some v' ∧ l'[k]? = some v'
  | [], l', h => by simp at h; subst h; exact ⟨rfl, fun k v hv => by simp at hv⟩
  | v :: l, l', h => by
    simp only [List.mapM_cons, Option.bind_eq_bind, Option.bind_eq_some_iff, Option.pure_def, Option.some.injEq] at h
    obtain ⟨v', h1, l'', h2, rfl⟩ := h
    obtain ⟨q1, q2⟩ := mapM_some h2
    refine ⟨by simp [q1], fun k x hx => ?_⟩
    cases k with
    | zero => simp at hx; subst hx; exact ⟨v', h1, rfl⟩
    | succ k => simpa using q2 k x (by simpa using hx)

theorem back_sound {ids : List Id} {βc βn : Bt} (hb : ∀ k id x, ids[k]? = some id → βc (.bor k) = some x → βn id = some x) (hr : ∀ k x, βc (.ret k) = some x → βn (.own t (g + k)) = some x) :
    ∀ (d : Nat) (v v' : V) (u : Value), RV P H βc v u → back ids t g d v = some v' → RV P H βn v' u := by
  intro d
  induction d with
  | zero => intro v v' u _ h; simp [back] at h
  | succ d ih =>
    intro v v' u hv h
    cases v with
    | junk | nl | e0 | fn => simp [back] at h
    | int k n => simp [back] at h; subst h; cases hv; exact .int ..
    | bool b => simp [back] at h; subst h; cases hv; exact .bool ..
    | str b => simp [back] at h; subst h; cases hv; exact .str ..
    | fs l => simp [back] at h; subst h; exact hv.nv βn rfl
    | fp c o => simp [back] at h; subst h; exact hv.nv βn rfl
    | agg l =>
      simp only [back] at h
      split at h
      · rename_i hnv; simp at h; subst h; exact hv.nv βn (by simpa [V.nv] using hnv)
      · obtain ⟨l', h1, rfl⟩ := Option.map_eq_some_iff.1 h
        obtain ⟨q1, q2⟩ := mapM_some h1
        cases hv with
        | agg _ _ cs hn hc =>
          refine .agg _ _ _ (by omega) fun k y u hy hu => ?_
          have hk : k < l.length := by rw [← q1]; exact (List.getElem?_eq_some_iff.1 hy).1
          obtain ⟨v', p1, p2⟩ := q2 k l[k] (by simp [hk])
          rw [hy] at p2; cases p2
          exact ih _ _ _ (hc k l[k] u (by simp [hk]) hu) p1
    | tup l =>
      simp only [back] at h
      split at h
      · rename_i hnv; simp at h; subst h; exact hv.nv βn (by simpa [V.nv] using hnv)
      · obtain ⟨l', h1, rfl⟩ := Option.map_eq_some_iff.1 h
        obtain ⟨q1, q2⟩ := mapM_some h1
        cases hv with
        | tup _ _ cs hn hc =>
          refine .tup _ _ _ (by omega) fun k y u hy hu => ?_
          have hk : k < l.length := by rw [← q1]; exact (List.getElem?_eq_some_iff.1 hy).1
          obtain ⟨v', p1, p2⟩ := q2 k l[k] (by simp [hk])
          rw [hy] at p2; cases p2
          exact ih _ _ _ (hc k l[k] u (by simp [hk]) hu) p1
    | lp id off =>
      cases hv with
      | lp _ _ _ b sz hβ =>
        cases id with
        | own => simp [back] at h
        | bor k =>
          simp only [back] at h
          obtain ⟨id, h1, rfl⟩ := Option.map_eq_some_iff.1 h
          exact .lp _ _ _ b sz (hb k id _ h1 hβ)
        | ret k => simp [back] at h; subst h; exact .lp _ _ _ b sz (hr k _ hβ)
    | sl id off n e x =>
      cases hv with
      | sl _ _ _ _ _ _ b szb es cap hβ hes hcap hnc hxx =>
        cases id with
        | own => simp [back] at h
        | bor k =>
          simp only [back] at h
          obtain ⟨id, h1, rfl⟩ := Option.map_eq_some_iff.1 h
          exact .sl _ _ _ _ _ _ b szb es cap (hb k id _ h1 hβ) hes hcap hnc hxx
        | ret k => simp [back] at h; subst h; exact .sl _ _ _ _ _ _ b szb es cap (hr k _ hβ) hes hcap hnc hxx

/-! ### updates -/
theorem idx_some {id : Id} : ∀ {l : List Id} {k : Nat}, idx id l = some k → l[k]? = some id
  | [], k, h => by simp [idx] at h
  | x :: l, k, h => by
    simp only [idx] at h
    split at h
    · rename_i e; simp at h; subst h; simp [e]
    · obtain ⟨j, h1, rfl⟩ := Option.map_eq_some_iff.1 h
      simpa using idx_some h1

theorem idx_none {id : Id} : ∀ {l : List Id}, idx id l = none → id ∉ l
  | [], _ => by simp
  | x :: l, h => by
    simp only [idx] at h
    split at h
    · simp at h
    · rename_i e
      have := idx_none (Option.map_eq_none_iff.1 h)
      simp [this]
      exact fun h => e h.symm

theorem mem_dedup {id : Id} : ∀ {l : List Id}, id ∈ dedup l ↔ id ∈ l
  | [] => by simp [dedup]
  | x :: l => by
    simp only [dedup, List.mem_cons, List.mem_filter, mem_dedup (l := l), ne_eq, decide_not, Bool.not_eq_eq_eq_not, Bool.not_true, decide_eq_false_iff_not]
    by_cases h : id = x
    · simp [h]
    · simp [h]

theorem nodup_dedup : ∀ (l : List Id), (dedup l).Nodup
  | [] => by simp [dedup]
  | x :: l => by
    simp only [dedup, List.nodup_cons, List.mem_filter]
    exact ⟨by simp, (nodup_dedup l).filter _⟩

theorem idx_nodup {id : Id} : ∀ {l : List Id} {k : Nat}, l.Nodup → l[k]? = some id → idx id l = some k
  | [], k, _, h => by simp at h
  | x :: l, 0, hn, h => by simp at h; simp [idx, h]
  | x :: l, k + 1, hn, h => by
    simp only [List.getElem?_cons_succ] at h
    simp only [List.nodup_cons] at hn
    have hx : x ≠ id := fun e => hn.1 (e ▸ List.mem_of_getElem? h)
    simp [idx, hx, idx_nodup hn.2 h]

theorem applyUp_not {l : List (Id × Option Ob)} : ∀ {f : Id → Option Ob} {id : Id}, (∀ x ∈ l, x.1 ≠ id) → applyUp f l id = f id := by
  induction l with
  | nil => intro f id _; rfl
  | cons x l ih =>
    intro f id h
    obtain ⟨i, o⟩ := x
    rw [applyUp_cons, ih fun y hy => h y (by simp [hy])]
    have : i ≠ id := h (i, o) (by simp)
    simp only [oset]; rw [if_neg (fun e => this e.symm)]

theorem applyUp_zip : ∀ (ids : List Id) (os : List Ob) (f : Id → Option Ob) (id : Id), ids.Nodup → os.length = ids.length →
    applyUp f (ids.zip (os.map some)) id = match idx id ids with | some k => os[k]? | none => f id
  | [], os, f, id, _, _ => by simp [idx, applyUp]
  | x :: ids, [], f, id, _, h => by simp at h
  | x :: ids, o :: os, f, id, hn, h => by
    simp only [List.nodup_cons] at hn
    simp only [List.map_cons, List.zip_cons_cons, applyUp_cons]
    rw [applyUp_zip ids os _ id hn.2 (by simpa using h)]
    simp only [idx]
    by_cases hx : x = id
    · subst hx
      have hni : idx x ids = none := by
        cases hq : idx x ids with
        | none => rfl
        | some k => exact absurd (List.mem_of_getElem? (idx_some hq)) hn.1
      simp [hni, oset]
    · rw [if_neg hx]
      cases hq : idx id ids with
      | none => simp [oset]; intro e; exact absurd e.symm hx
      | some k => simp

theorem applyUp_newUps : ∀ (ro : List Ob) (j : Nat) (f : Id → Option Ob) (id : Id),
    applyUp f (newUps t g j ro) id = match id with | .own t' g' => (if t' = t ∧ g + j ≤ g' ∧ g' < g + j + ro.length then ro[g' - (g + j)]? else f id) | _ => f id
  | [], j, f, id => by
    cases id with
    | own t' g' => simp [newUps, applyUp]; intro _ h1 h2; omega
    | _ => rfl
  | o :: ro, j, f, id => by
    simp only [newUps, applyUp_cons]
    rw [applyUp_newUps ro (j + 1) _ id]
    cases id with
    | own t' g' =>
      simp only [List.length_cons]
      by_cases h1 : t' = t ∧ g + (j + 1) ≤ g' ∧ g' < g + (j + 1) + ro.length
      · rw [if_pos h1, if_pos ⟨h1.1, by omega, by omega⟩]
        have : g' - (g + j) = (g' - (g + (j + 1))) + 1 := by omega
        rw [this]; simp
      · rw [if_neg h1]
        by_cases h2 : t' = t ∧ g + j ≤ g' ∧ g' < g + j + (ro.length + 1)
        · have : g' = g + j := by
            have := h2.1; have := h2.2
            by_cases h3 : g' = g + j
            · exact h3
            · exact absurd ⟨h2.1, by omega, by omega⟩ h1
          rw [if_pos h2]
          simp [oset, this, h2.1]
        · rw [if_neg h2]
          have : ¬ (Id.own t' g' = Id.own t (g + j)) := by
            intro e; simp at e
            exact h2 ⟨e.1, by omega, by omega⟩
          simp [oset, this]
    | bor k => simp [oset]
    | ret k => simp [oset]

theorem applyUp_freeze : ∀ (ids : List Id) (f h : Id → Option Ob) (id : Id), ids.Nodup → (∀ i ∈ ids, f i = h i) →
    applyUp f (ids.map fun id => (id, (h id).map fun o => { o with fz := true })) id = if id ∈ ids then (h id).map (fun o => { o with fz := true }) else f id
  | [], f, h, id, _, _ => by simp [applyUp]
  | x :: ids, f, h, id, hn, hh => by
    simp only [List.nodup_cons] at hn
    simp only [List.map_cons, applyUp_cons]
    rw [applyUp_freeze ids _ h id hn.2 fun i hi => by
      have : i ≠ x := fun e => hn.1 (e ▸ hi)
      simp only [oset]; rw [if_neg this]; exact hh i (by simp [hi])]
    by_cases hx : id = x
    · subst hx; simp [hn.1, oset]
    · simp [hx, oset]
end
end Go.Vi
