/- Vi, part 9: what is handed to a function and back. -/
import Derived.Test.YtbnglnpgkcjlhaaDoorWb
set_option linter.unusedVariables false
set_option linter.unusedSimpArgs false
namespace Go.Vi
section
variable {P : Program} {H : Hp} {β : Bt} {ob : Id → Option Ob} {w : World} {t g : Nat}

/-! ### lists of look-ups -/
theorem mapRd_run {f : V → Rd V} : ∀ {l l' : List V} {rd : List Id}, (mapRd f l).run ob = some (l', rd) → l'.length = l.length ∧ ∀ (k : Nat) (v : V), l[k]? = some v → ∃ v' r, (f v).run ob = some (v', r) ∧ l'[k]? = some v'
  | [], l', rd, h => by
    have := Rd.run_pure h; simp only [Prod.mk.injEq] at this; obtain ⟨rfl, rfl⟩ := this
    exact ⟨rfl, fun k v hv => by simp at hv⟩
  | v :: l, l', rd, h => by
    obtain ⟨v', l1, l2, h1, h2, _⟩ := Rd.run_bind h
    obtain ⟨l'', l3, l4, h3, h4, _⟩ := Rd.run_bind h2
    have := Rd.run_pure h4; simp only [Prod.mk.injEq] at this; obtain ⟨rfl, rfl⟩ := this
    obtain ⟨q1, q2⟩ := mapRd_run h3
    refine ⟨by simp [q1], fun k x hx => ?_⟩
    cases k with
    | zero => simp at hx; subst hx; exact ⟨v', l1, h1, rfl⟩
    | succ k => simpa using q2 k x (by simpa using hx)

theorem mapIds_run {f : V → Rd (List Id)} : ∀ {l : List V} {s rd : List Id}, (mapIds f l).run ob = some (s, rd) → ∀ (k : Nat) (v : V), l[k]? = some v → ∃ s' r, (f v).run ob = some (s', r) ∧ ∀ id ∈ s', id ∈ s
  | [], s, rd, h => fun k v hv => by simp at hv
  | v :: l, s, rd, h => by
    obtain ⟨a, l1, l2, h1, h2, _⟩ := Rd.run_bind h
    obtain ⟨b, l3, l4, h3, h4, _⟩ := Rd.run_bind h2
    have := Rd.run_pure h4; simp only [Prod.mk.injEq] at this; obtain ⟨rfl, rfl⟩ := this
    intro k x hx
    cases k with
    | zero => simp at hx; subst hx; exact ⟨a, l1, h1, fun id hi => by simp [hi]⟩
    | succ k =>
      obtain ⟨s', r, q1, q2⟩ := mapIds_run h3 k x (by simpa using hx)
      exact ⟨s', r, q1, fun id hi => by simp [q2 id hi]⟩

theorem lookAll_run : ∀ {ids : List Id} {os : List Ob} {rd : List Id}, (lookAll ids).run ob = some (os, rd) → os.length = ids.length ∧ ∀ (k : Nat) (id : Id), ids[k]? = some id → ∃ o, ob id = some o ∧ os[k]? = some o
  | [], os, rd, h => by
    have := Rd.run_pure h; simp only [Prod.mk.injEq] at this; obtain ⟨rfl, rfl⟩ := this
    exact ⟨rfl, fun k id hi => by simp at hi⟩
  | id :: ids, os, rd, h => by
    obtain ⟨o, l', ho, h2, _⟩ := Rd.run_look h
    obtain ⟨os', l3, l4, h3, h4, _⟩ := Rd.run_bind h2
    have := Rd.run_pure h4; simp only [Prod.mk.injEq] at this; obtain ⟨rfl, rfl⟩ := this
    obtain ⟨q1, q2⟩ := lookAll_run h3
    refine ⟨by simp [q1], fun k i hi => ?_⟩
    cases k with
    | zero => simp at hi; subst hi; exact ⟨o, ho, rfl⟩
    | succ k => simpa using q2 k i (by simpa using hi)

theorem nrmObs_run : ∀ {obs bo : List Ob} {rd : List Id}, (nrmObs P obs).run ob = some (bo, rd) → bo.length = obs.length ∧
    ∀ (k : Nat) (o : Ob), obs[k]? = some o → o.fz = false ∧ ∃ c r, (mapRd (nrm P (fun _ => none) false depth) o.cells).run ob = some (c, r) ∧ bo[k]? = some ⟨o.ty, c, false⟩
  | [], bo, rd, h => by
    have := Rd.run_pure h; simp only [Prod.mk.injEq] at this; obtain ⟨rfl, rfl⟩ := this
    exact ⟨rfl, fun k id hi => by simp at hi⟩
  | o :: obs, bo, rd, h => by
    simp only [nrmObs] at h
    split at h
    · exact (Rd.run_fail h).elim
    · rename_i hfz
      obtain ⟨c, l1, l2, h1, h2, _⟩ := Rd.run_bind h
      obtain ⟨r, l3, l4, h3, h4, _⟩ := Rd.run_bind h2
      have := Rd.run_pure h4; simp only [Prod.mk.injEq] at this; obtain ⟨rfl, rfl⟩ := this
      obtain ⟨q1, q2⟩ := nrmObs_run h3
      refine ⟨by simp [q1], fun k i hi => ?_⟩
      cases k with
      | zero => simp at hi; subst hi; exact ⟨by simpa using hfz, c, l1, h1, rfl⟩
      | succ k => simpa using q2 k i (by simpa using hi)

theorem freezeAll_run : ∀ {ids : List Id} {fr : List (Id × Option Ob)} {rd : List Id}, (freezeAll ids).run ob = some (fr, rd) → fr = ids.map fun id => (id, (ob id).map fun o => { o with fz := true })
  | [], fr, rd, h => by
    have := Rd.run_pure h; simp only [Prod.mk.injEq] at this; obtain ⟨rfl, rfl⟩ := this
    rfl
  | id :: ids, fr, rd, h => by
    obtain ⟨o, l', ho, h2, _⟩ := Rd.run_look h
    obtain ⟨r, l3, l4, h3, h4, _⟩ := Rd.run_bind h2
    have := Rd.run_pure h4; simp only [Prod.mk.injEq] at this; obtain ⟨rfl, rfl⟩ := this
    simp [freezeAll_run h3, ho]

/-! ### values without names -/
theorem nvs_get : ∀ {l : List V}, V.nv.nvs l = true → ∀ (k : Nat) (y : V), l[k]? = some y → y.nv = true
  | [], _, k, y, hy => by simp at hy
  | v :: l, h, k, y, hy => by
    simp only [V.nv.nvs, Bool.and_eq_true] at h
    cases k with
    | zero => simp at hy; subst hy; exact h.1
    | succ k => exact nvs_get h.2 k y (by simpa using hy)

theorem RV.nv {v : V} {u : Value} (h : RV P H β v u) : ∀ β', v.nv = true → RV P H β' v u := by
  induction h with
  | junk | lp | sl | sl0 | nl | e0 | fn => intro β' hn; simp [V.nv] at hn
  | int => intro β' _; exact .int ..
  | bool => intro β' _; exact .bool ..
  | str => intro β' _; exact .str ..
  | agg β l cs h1 h2 ih => intro β' hn; exact .agg _ _ _ h1 fun k y u hy hu => ih k y u hy hu β' (nvs_get (by simpa [V.nv] using hn) k y hy)
  | tup β l cs h1 h2 ih => intro β' hn; exact .tup _ _ _ h1 fun k y u hy hu => ih k y u hy hu β' (nvs_get (by simpa [V.nv] using hn) k y hy)
  | fs0 => intro β' _; exact .fs0 ..
  | fs β l b off es cap arr ty fr h1 h2 h3 h4 h5 ih => intro β' _; exact .fs _ _ _ _ _ _ _ _ _ h1 h2 h3 h4 h5
  | fp β cells off b base arr ty fr h1 h2 h3 ih => intro β' _; exact .fp _ _ _ _ _ _ _ _ h1 h2 h3

theorem light_all {d : Nat} {l : List V} (h : l.all (V.light d) = true) (k : Nat) (y : V) (hy : l[k]? = some y) : y.light d = true := by
  simp only [List.all_eq_true] at h
  exact h y (List.mem_of_getElem? hy)

theorem RV.light {v : V} {u : Value} (h : RV P H β v u) : ∀ (d : Nat) (H' : Hp) (β' : Bt), v.light d = true → RV P H' β' v u := by
  induction h with
  | junk | lp | sl | sl0 | nl | e0 | fn | fp => intro d H' β' hn; cases d <;> simp [V.light] at hn
  | int => intro d H' β' _; exact .int ..
  | bool => intro d H' β' _; exact .bool ..
  | str => intro d H' β' _; exact .str ..
  | agg β l cs h1 h2 ih =>
    intro d H' β' hn
    cases d with
    | zero => simp [V.light] at hn
    | succ d => exact .agg _ _ _ h1 fun k y u hy hu => ih k y u hy hu d H' β' (light_all (by simpa [V.light] using hn) k y hy)
  | tup β l cs h1 h2 ih =>
    intro d H' β' hn
    cases d with
    | zero => simp [V.light] at hn
    | succ d => exact .tup _ _ _ h1 fun k y u hy hu => ih k y u hy hu d H' β' (light_all (by simpa [V.light] using hn) k y hy)
  | fs0 => intro d H' β' _; exact .fs0 ..
  | fs β l b off es cap arr ty fr h1 h2 h3 h4 h5 ih =>
    intro d H' β' hn
    cases d with
    | zero => simp [V.light] at hn
    | succ d =>
      cases l with
      | nil => exact .fs0 ..
      | cons x l => simp [V.light] at hn

/-! ### chunks -/
theorem chunkA_len (sz : Nat) : ∀ (n : Nat) (cs : List V), (chunkA sz n cs).length = n
  | 0, cs => rfl
  | n + 1, cs => by simp [chunkA, chunkA_len sz n]

theorem chunkA_get (sz : Nat) : ∀ (n j : Nat) (cs : List V) (x : V), (chunkA sz n cs)[j]? = some x → x = .agg ((cs.drop (j * sz)).take sz)
  | 0, j, cs, x, h => by simp [chunkA] at h
  | n + 1, 0, cs, x, h => by simp [chunkA] at h; simp [h]
  | n + 1, j + 1, cs, x, h => by
    simp only [chunkA, List.getElem?_cons_succ] at h
    rw [chunkA_get sz n j _ x h, List.drop_drop]
    congr 3
    rw [Nat.add_mul]; omega

/-- Cells that are handed on as a slice's contents. -/
theorem RV_chunk {Hc : Hp} {βc : Bt} {ag : Bool} {sz n off cap b : Nat} {cs : List V} {arr : Array Value} {ty : TypeId} {fr : Nat × Nat} (hb : Hc b = some (.cells arr ty fr)) (hn : n ≤ cap) (hl : cs.length = n * sz)
    (hc : CR P Hc noB cs arr off) (hag : ag = false → sz = 1 ∧ cs.all V.leaf = true) : RV P Hc βc (.fs (chunk ag sz n cs)) (.slice (some ⟨b, off, none⟩) n cap) := by
  cases ag with
  | true =>
    have hlen := chunkA_len sz n cs
    have hfl : ∀ (j : Nat) (x : V), (chunkA sz n cs)[j]? = some x → j < n := fun j x hx => by rw [← hlen]; exact (List.getElem?_eq_some_iff.1 hx).1
    have := RV.fs (P := P) (H := Hc) βc (chunkA sz n cs) b off sz cap arr ty fr (by rw [hlen]; exact hn) hb (by rw [hlen, ← hl]; exact hc.1) (fun j x hx => by
        rw [chunkA_get sz n j cs x hx]
        have := hfl j x hx
        have h2 : (j + 1) * sz ≤ n * sz := Nat.mul_le_mul_right _ this
        rw [Nat.add_mul] at h2
        simp [V.flat]; omega)
      (fun j x hx k y u hy hu => by
        rw [chunkA_get sz n j cs x hx] at hy
        simp only [V.flat, List.getElem?_take, List.getElem?_drop] at hy
        split at hy
        · exact hc.2 (j * sz + k) y u hy (by rw [← hu]; congr 1; omega)
        · simp at hy)
    rw [hlen] at this
    exact this
  | false =>
    obtain ⟨rfl, hleaf⟩ := hag rfl
    simp only [Nat.mul_one] at hl
    simp only [chunk, Bool.false_eq_true, if_false]
    have hflat : ∀ (j : Nat) (x : V), cs[j]? = some x → x.flat = [x] := fun j x hx => by
      have := List.all_eq_true.1 hleaf x (List.mem_of_getElem? hx)
      cases x <;> simp [V.leaf] at this <;> rfl
    have := RV.fs (P := P) (H := Hc) βc cs b off 1 cap arr ty fr (by omega) hb (by have := hc.1; omega) (fun j x hx => by rw [hflat j x hx]; rfl)
      (fun j x hx k y u hy hu => by
        rw [hflat j x hx] at hy
        cases k with
        | zero =>
          simp at hy; subst hy
          exact hc.2 j x u hx (by rw [← hu]; congr 1; omega)
        | succ k => simp at hy)
    rw [hl] at this
    exact this

/-- What is handed on says of the value what it said. -/
theorem nrm_sound (hr : Rel P H β ob w) {Hc : Hp} (hH : H.le Hc) : ∀ (d : Nat) (nm : Id → Option Id) (bs : Bool) (βc : Bt) (v v' : V) (u : Value) (s rd rd' : List Id), RV P H β v u →
    (nrm P nm bs d v).run ob = some (v', rd) → (slIds P nm bs d v).run ob = some (s, rd') → (∀ id id', nm id = some id' → βc id' = β id) →
    (∀ id ∈ s, ∀ b sz, β id = some (b, sz) → Hc b = w.heap[b]?) → RV P Hc βc v' u := by
  intro d
  induction d with
  | zero => intro nm bs βc v v' u s rd rd' _ h; simp [nrm, Rd.run] at h
  | succ d ih =>
    intro nm bs βc v v' u s rd rd' hv h hs hnm hsb
    have mapcase : ∀ (l l' : List V) (cs : Array Value) (r r' s' : List Id), cs.size = l.length → (∀ (k : Nat) (y : V) (u : Value), l[k]? = some y → cs[k]? = some u → RV P H β y u) →
        (mapRd (nrm P nm bs d) l).run ob = some (l', r) → (mapIds (slIds P nm bs d) l).run ob = some (s', r') → (∀ id ∈ s', id ∈ s) → cs.size = l'.length ∧ ∀ (k : Nat) (y : V) (u : Value), l'[k]? = some y → cs[k]? = some u → RV P Hc βc y u := by
      intro l l' cs r r' s' hn hc h1 h2 hsub
      obtain ⟨q1, q2⟩ := mapRd_run h1
      refine ⟨by omega, fun k y u hy hu => ?_⟩
      have hk : k < l.length := by rw [← q1]; exact (List.getElem?_eq_some_iff.1 hy).1
      obtain ⟨v', r1, p1, p2⟩ := q2 k l[k] (by simp [hk])
      rw [hy] at p2; cases p2
      obtain ⟨s1, r2, p3, p4⟩ := mapIds_run h2 k l[k] (by simp [hk])
      exact ih nm bs βc _ _ _ _ _ _ (hc k l[k] u (by simp [hk]) hu) p1 p3 hnm (fun id hi => hsb id (hsub id (p4 id hi)))
    cases v with
    | junk => simp [nrm, Rd.run] at h
    | int k n => have := Rd.run_pure h; simp only [Prod.mk.injEq] at this; obtain ⟨rfl, rfl⟩ := this; cases hv; exact .int ..
    | bool b => have := Rd.run_pure h; simp only [Prod.mk.injEq] at this; obtain ⟨rfl, rfl⟩ := this; cases hv; exact .bool ..
    | str b => have := Rd.run_pure h; simp only [Prod.mk.injEq] at this; obtain ⟨rfl, rfl⟩ := this; cases hv; exact .str ..
    | nl => have := Rd.run_pure h; simp only [Prod.mk.injEq] at this; obtain ⟨rfl, rfl⟩ := this; cases hv; exact .fs0 ..
    | e0 => have := Rd.run_pure h; simp only [Prod.mk.injEq] at this; obtain ⟨rfl, rfl⟩ := this; cases hv; exact .fs0 ..
    | fs l => have := Rd.run_pure h; simp only [Prod.mk.injEq] at this; obtain ⟨rfl, rfl⟩ := this; exact (hv.nv βc rfl).mono hH (Bt.le_refl _)
    | fp c o => have := Rd.run_pure h; simp only [Prod.mk.injEq] at this; obtain ⟨rfl, rfl⟩ := this; exact (hv.nv βc rfl).mono hH (Bt.le_refl _)
    | agg l =>
      simp only [nrm] at h
      simp only [slIds] at hs
      split at h
      · rename_i hnv
        have := Rd.run_pure h; simp only [Prod.mk.injEq] at this; obtain ⟨rfl, rfl⟩ := this
        exact (hv.nv βc (by simpa [V.nv] using hnv)).mono hH (Bt.le_refl _)
      · rename_i hnv
        rw [if_neg hnv] at hs
        obtain ⟨l', l1, l2, h1, h2, _⟩ := Rd.run_bind h
        have := Rd.run_pure h2; simp only [Prod.mk.injEq] at this; obtain ⟨rfl, rfl⟩ := this
        cases hv with
        | agg _ _ cs hn hc =>
          obtain ⟨q1, q2⟩ := mapcase l l' cs _ _ _ hn hc h1 hs (fun _ h => h)
          exact .agg _ _ _ q1 q2
    | tup l =>
      simp only [nrm] at h
      simp only [slIds] at hs
      split at h
      · rename_i hnv
        have := Rd.run_pure h; simp only [Prod.mk.injEq] at this; obtain ⟨rfl, rfl⟩ := this
        exact (hv.nv βc (by simpa [V.nv] using hnv)).mono hH (Bt.le_refl _)
      · rename_i hnv
        rw [if_neg hnv] at hs
        obtain ⟨l', l1, l2, h1, h2, _⟩ := Rd.run_bind h
        have := Rd.run_pure h2; simp only [Prod.mk.injEq] at this; obtain ⟨rfl, rfl⟩ := this
        cases hv with
        | tup _ _ cs hn hc =>
          obtain ⟨q1, q2⟩ := mapcase l l' cs _ _ _ hn hc h1 hs (fun _ h => h)
          exact .tup _ _ _ q1 q2
    | fn f caps =>
      simp only [nrm] at h
      simp only [slIds] at hs
      obtain ⟨l', l1, l2, h1, h2, _⟩ := Rd.run_bind h
      have := Rd.run_pure h2; simp only [Prod.mk.injEq] at this; obtain ⟨rfl, rfl⟩ := this
      cases hv with
      | fn _ _ _ cs hn hc =>
        obtain ⟨q1, q2⟩ := mapcase caps l' cs _ _ _ hn hc h1 hs (fun _ h => h)
        exact .fn _ _ _ _ q1 q2
    | lp id off =>
      simp only [nrm] at h
      split at h
      · rename_i id' hid
        have := Rd.run_pure h; simp only [Prod.mk.injEq] at this; obtain ⟨rfl, rfl⟩ := this
        cases hv with
        | lp _ _ _ b sz hβ => exact .lp _ _ _ b sz ((hnm _ _ hid).trans hβ)
      · exact (Rd.run_fail h).elim
    | sl id off n e x =>
      simp only [nrm] at h
      simp only [slIds] at hs
      cases hv with
      | sl0 =>
        split at h
        · have := Rd.run_pure h; simp only [Prod.mk.injEq] at this; obtain ⟨rfl, rfl⟩ := this
          exact .sl0 ..
        · obtain ⟨o, l', ho, h2, _⟩ := Rd.run_look h
          cases hz : szT P e with
          | none => rw [hz] at h2; exact (Rd.run_fail h2).elim
          | some sz =>
            cases hag : aggT P e with
            | none => rw [hz, hag] at h2; exact (Rd.run_fail h2).elim
            | some ag =>
              rw [hz, hag] at h2
              simp only [Nat.zero_mul, List.drop_zero, List.take_zero, V.nv.nvs, if_true] at h2
              split at h2
              · have := Rd.run_pure h2; simp only [Prod.mk.injEq] at this; obtain ⟨rfl, rfl⟩ := this
                cases ag
                · exact .fs0 ..
                · exact .fs0 ..
              · exact (Rd.run_fail h2).elim
      | sl _ _ _ _ _ _ b szb es cap hβ hes hcap hnc hxx =>
        split at h
        · rename_i id' hid
          have := Rd.run_pure h; simp only [Prod.mk.injEq] at this; obtain ⟨rfl, rfl⟩ := this
          have hid' : nm id = some id' := by
            cases bs <;> simp at hid
            exact hid
          exact .sl _ _ _ _ _ _ b szb es cap ((hnm _ _ hid').trans hβ) hes hcap hnc hxx
        · rename_i hid
          rw [hid] at hs
          obtain ⟨o, l', ho, h2, _⟩ := Rd.run_look h
          obtain ⟨o', l'', ho', hs2, _⟩ := Rd.run_look hs
          rw [ho] at ho'; cases ho'
          rw [hes] at h2 hs2
          simp only at h2 hs2
          cases hag : aggT P e with
          | none => rw [hag] at h2; exact (Rd.run_fail h2).elim
          | some ag =>
            rw [hag] at h2
            simp only at h2
            split at h2
            · rename_i hcond
              simp only [Bool.and_eq_true, decide_eq_true_eq, Bool.or_eq_true, beq_iff_eq] at hcond
              obtain ⟨hle, hcond⟩ := hcond
              obtain ⟨b', sz'', arr, fr, q1, q2, q3, q4, q5, q6, q7⟩ := (hr.real ho hβ).out
              rw [hβ] at q1; cases q1
              have hcl : ((o.cells.drop off).take (n * es)).length = n * es := by simp; omega
              have hcr := q5.sub off (n * es) hle
              simp only [Nat.zero_add] at hcr
              have hsid : id ∈ s := by
                split at hs2
                · have := Rd.run_pure hs2; simp only [Prod.mk.injEq] at this; rw [this.1]; simp
                · obtain ⟨l0, l5, l6, h5, h6, _⟩ := Rd.run_bind hs2
                  have := Rd.run_pure h6; simp only [Prod.mk.injEq] at this; rw [this.1]; simp
              have hHc : Hc b = some (.cells arr o.ty fr) := (hsb id hsid b szb hβ).trans q2
              split at h2
              · rename_i hnv
                have := Rd.run_pure h2; simp only [Prod.mk.injEq] at this; obtain ⟨rfl, rfl⟩ := this
                refine RV_chunk hHc hnc hcl ⟨hcr.1, fun k y u hy hu => ((hcr.2 k y u hy hu).nv noB (nvs_get hnv k y hy)).mono hH (Bt.le_refl _)⟩ fun hf => ?_
                rcases hcond with h | h
                · rw [hf] at h; simp at h
                · exact h
              · rename_i hnv
                rw [if_neg hnv] at hs2
                obtain ⟨cs, l1, l2, h3, h4, _⟩ := Rd.run_bind h2
                obtain ⟨s0, l5, l6, h5, h6, _⟩ := Rd.run_bind hs2
                have := Rd.run_pure h6; simp only [Prod.mk.injEq] at this; obtain ⟨rfl, rfl⟩ := this
                split at h4
                · rename_i hleaf
                  have := Rd.run_pure h4; simp only [Prod.mk.injEq] at this; obtain ⟨rfl, rfl⟩ := this
                  obtain ⟨p1, p2⟩ := mapRd_run h3
                  refine RV_chunk hHc hnc (by rw [p1, hcl]) ⟨by rw [p1]; exact hcr.1, fun k y u hy hu => ?_⟩ fun hf => ?_
                  · have hk : k < ((o.cells.drop off).take (n * es)).length := by rw [← p1]; exact (List.getElem?_eq_some_iff.1 hy).1
                    obtain ⟨v', r1, p3, p4⟩ := p2 k _ (List.getElem?_eq_getElem hk)
                    rw [hy] at p4; cases p4
                    obtain ⟨s1, r2, p5, p6⟩ := mapIds_run h5 k _ (List.getElem?_eq_getElem hk)
                    exact ih (fun _ => none) false noB _ _ _ _ _ _ (hcr.2 k _ u (List.getElem?_eq_getElem hk) hu) p3 p5 (fun _ _ h => by simp at h) (fun id hi => hsb id (by simp [p6 id hi]))
                  · rcases hcond with h | h
                    · rw [hf] at h; simp at h
                    · refine ⟨h.1, ?_⟩
                      rw [hf] at hleaf; simpa using hleaf
                · exact (Rd.run_fail h4).elim
            · exact (Rd.run_fail h2).elim
end
end Go.Vi

/- Vi, part 10: the call of a function. -/
set_option linter.unusedVariables false
set_option linter.unusedSimpArgs false
namespace Go.Vi

def obB (bo : List Ob) : Id → Option Ob
  | .bor k => bo[k]?
  | _ => none

def obR (bo ro : List Ob) : Id → Option Ob
  | .bor k => bo[k]?
  | .ret k => ro[k]?
  | _ => none

def GOK (P : Program) (E : Env) (H : Hp) : Prop := ∀ g c, E.gl g = some c → ∃ arr ty fr, H g = some (.cells arr ty fr) ∧ CR P H noB c arr 0

structure Post (P : Program) (H : Hp) (β : Bt) (w : World) (res : V) (bo' ro : List Ob) (v : Value) (H' : Hp) (β' : Bt) (w' : World) : Prop where
  hH : H.le H'
  hb : β.le β'
  nw : ∀ id x, β' id = some x → β id = some x ∨ ∃ k, id = .ret k ∧ k < ro.length ∧ w.heap.size ≤ x.1 ∧ x.1 < w'.heap.size
  rv : RV P H' β' res v
  rel : Rel P H' β' (obR bo' ro) w'
  keep : Keep w w' (fun b => ∃ k sz, β (.bor k) = some (b, sz))
  hfr : ∀ b x, H' b = some x → H b = none → w.heap.size ≤ b

/-- What a function does: with these arguments, and these objects lent, it returns this, leaves the lent objects so, and hands out these. -/
def Con (P : Program) (E : Env) (f : FuncId) (args : List V) (bo : List Ob) (res : V) (bo' ro : List Ob) : Prop :=
  ∀ (H : Hp) (β : Bt) (w : World) (vs : Array Value), GOK P E H → (∀ id x, β id = some x → ∃ k, k < bo.length ∧ id = .bor k) → Rel P H β (obB bo) w → PW P H β args vs →
    Calls P f vs w fun e w' => ∃ v H' β', e = .returned v ∧ Post P H β w res bo' ro v H' β' w'

def OkC (P : Program) (E : Env) (C : Oracle) : Prop := ∀ f args bo r bo' ro, C f args bo = some (r, bo', ro) → Con P E f args bo r bo' ro ∧ callOk P f = true

theorem GOK.mono {P : Program} {E : Env} {H H' : Hp} (hH : H.le H') (h : GOK P E H) : GOK P E H' := fun g c hc => by
  obtain ⟨arr, ty, fr, h1, h2⟩ := h g c hc
  exact ⟨arr, ty, fr, hH _ _ h1, h2.mono hH (Bt.le_refl _)⟩

section
variable {P : Program} {H : Hp} {β : Bt} {ob : Id → Option Ob} {w : World} {t g : Nat}

/-! ### back from a callee -/
theorem mapM_some {f : V → Option V} : ∀ {l l' : List V}, l.mapM f = some l' → l'.length = l.length ∧ ∀ (k : Nat) (v : V), l[k]? = some v → ∃ v', f v = some v' ∧ l'[k]? = some v'
  | [], l', h => by simp at h; subst h; exact ⟨rfl, fun k v hv => by simp at hv⟩
  | v :: l, l', h => by
    simp only [List.mapM_cons, Option.bind_eq_bind, Option.bind_eq_some_iff, Option.pure_def, Option.some.injEq] at h
    obtain ⟨v', h1, l'', h2, rfl⟩ := h
    obtain ⟨q1, q2⟩ := mapM_some h2
    refine ⟨by simp [q1], fun k x hx => ?_⟩
    cases k with
    | zero => simp at hx; subst hx; exact ⟨v', h1, rfl⟩
    | succ k => simpa using q2 k x (by simpa using hx)

theorem back_sound {ids : List Id} {βc βn : Bt} (hb : ∀ k id x, ids[k]? = some id → βc (.bor k) = some x → βn id = some x) (hr : ∀ k x, βc (.ret k) = some x → βn (.own t (g + k)) = some x) :
    ∀ (d : Nat) (v v' : V) (u : Value), RV P H βc v u → back ids t g d v = some v' → RV P H βn v' u := by
  intro d
  induction d with
  | zero => intro v v' u _ h; simp [back] at h
  | succ d ih =>
    intro v v' u hv h
    cases v with
    | junk | nl | e0 | fn => simp [back] at h
    | int k n => simp [back] at h; subst h; cases hv; exact .int ..
    | bool b => simp [back] at h; subst h; cases hv; exact .bool ..
    | str b => simp [back] at h; subst h; cases hv; exact .str ..
    | fs l => simp [back] at h; subst h; exact hv.nv βn rfl
    | fp c o => simp [back] at h; subst h; exact hv.nv βn rfl
    | agg l =>
      simp only [back] at h
      split at h
      · rename_i hnv; simp at h; subst h; exact hv.nv βn (by simpa [V.nv] using hnv)
      · obtain ⟨l', h1, rfl⟩ := Option.map_eq_some_iff.1 h
        obtain ⟨q1, q2⟩ := mapM_some h1
        cases hv with
        | agg _ _ cs hn hc =>
          refine .agg _ _ _ (by omega) fun k y u hy hu => ?_
          have hk : k < l.length := by rw [← q1]; exact (List.getElem?_eq_some_iff.1 hy).1
          obtain ⟨v', p1, p2⟩ := q2 k l[k] (by simp [hk])
          rw [hy] at p2; cases p2
          exact ih _ _ _ (hc k l[k] u (by simp [hk]) hu) p1
    | tup l =>
      simp only [back] at h
      split at h
      · rename_i hnv; simp at h; subst h; exact hv.nv βn (by simpa [V.nv] using hnv)
      · obtain ⟨l', h1, rfl⟩ := Option.map_eq_some_iff.1 h
        obtain ⟨q1, q2⟩ := mapM_some h1
        cases hv with
        | tup _ _ cs hn hc =>
          refine .tup _ _ _ (by omega) fun k y u hy hu => ?_
          have hk : k < l.length := by rw [← q1]; exact (List.getElem?_eq_some_iff.1 hy).1
          obtain ⟨v', p1, p2⟩ := q2 k l[k] (by simp [hk])
          rw [hy] at p2; cases p2
          exact ih _ _ _ (hc k l[k] u (by simp [hk]) hu) p1
    | lp id off =>
      cases hv with
      | lp _ _ _ b sz hβ =>
        cases id with
        | own => simp [back] at h
        | bor k =>
          simp only [back] at h
          obtain ⟨id, h1, rfl⟩ := Option.map_eq_some_iff.1 h
          exact .lp _ _ _ b sz (hb k id _ h1 hβ)
        | ret k => simp [back] at h; subst h; exact .lp _ _ _ b sz (hr k _ hβ)
    | sl id off n e x =>
      cases hv with
      | sl0 =>
        cases id with
        | own => simp [back] at h
        | bor k =>
          simp only [back] at h
          obtain ⟨id, h1, rfl⟩ := Option.map_eq_some_iff.1 h
          exact .sl0 ..
        | ret k => simp [back] at h; subst h; exact .sl0 ..
      | sl _ _ _ _ _ _ b szb es cap hβ hes hcap hnc hxx =>
        cases id with
        | own => simp [back] at h
        | bor k =>
          simp only [back] at h
          obtain ⟨id, h1, rfl⟩ := Option.map_eq_some_iff.1 h
          exact .sl _ _ _ _ _ _ b szb es cap (hb k id _ h1 hβ) hes hcap hnc hxx
        | ret k => simp [back] at h; subst h; exact .sl _ _ _ _ _ _ b szb es cap (hr k _ hβ) hes hcap hnc hxx

/-! ### updates -/
theorem idx_some {id : Id} : ∀ {l : List Id} {k : Nat}, idx id l = some k → l[k]? = some id
  | [], k, h => by simp [idx] at h
  | x :: l, k, h => by
    simp only [idx] at h
    split at h
    · rename_i e; simp at h; subst h; simp [e]
    · obtain ⟨j, h1, rfl⟩ := Option.map_eq_some_iff.1 h
      simpa using idx_some h1

theorem idx_none {id : Id} : ∀ {l : List Id}, idx id l = none → id ∉ l
  | [], _ => by simp
  | x :: l, h => by
    simp only [idx] at h
    split at h
    · simp at h
    · rename_i e
      have := idx_none (Option.map_eq_none_iff.1 h)
      simp [this]
      exact fun h => e h.symm

theorem mem_dedup {id : Id} : ∀ {l : List Id}, id ∈ dedup l ↔ id ∈ l
  | [] => by simp [dedup]
  | x :: l => by
    simp only [dedup, List.mem_cons, List.mem_filter, mem_dedup (l := l), ne_eq, decide_not, Bool.not_eq_eq_eq_not, Bool.not_true, decide_eq_false_iff_not]
    by_cases h : id = x
    · simp [h]
    · simp [h]

theorem nodup_dedup : ∀ (l : List Id), (dedup l).Nodup
  | [] => by simp [dedup]
  | x :: l => by
    simp only [dedup, List.nodup_cons, List.mem_filter]
    exact ⟨by simp, (nodup_dedup l).filter _⟩

theorem idx_nodup {id : Id} : ∀ {l : List Id} {k : Nat}, l.Nodup → l[k]? = some id → idx id l = some k
  | [], k, _, h => by simp at h
  | x :: l, 0, hn, h => by simp at h; simp [idx, h]
  | x :: l, k + 1, hn, h => by
    simp only [List.getElem?_cons_succ] at h
    simp only [List.nodup_cons] at hn
    have hx : x ≠ id := fun e => hn.1 (e ▸ List.mem_of_getElem? h)
    simp [idx, hx, idx_nodup hn.2 h]

theorem applyUp_not {l : List (Id × Option Ob)} : ∀ {f : Id → Option Ob} {id : Id}, (∀ x ∈ l, x.1 ≠ id) → applyUp f l id = f id := by
  induction l with
  | nil => intro f id _; rfl
  | cons x l ih =>
    intro f id h
    obtain ⟨i, o⟩ := x
    rw [applyUp_cons, ih fun y hy => h y (by simp [hy])]
    have : i ≠ id := h (i, o) (by simp)
    simp only [oset]; rw [if_neg (fun e => this e.symm)]

theorem applyUp_zip : ∀ (ids : List Id) (os : List Ob) (f : Id → Option Ob) (id : Id), ids.Nodup → os.length = ids.length →
    applyUp f (ids.zip (os.map some)) id = match idx id ids with | some k => os[k]? | none => f id
  | [], os, f, id, _, _ => by simp [idx, applyUp]
  | x :: ids, [], f, id, _, h => by simp at h
  | x :: ids, o :: os, f, id, hn, h => by
    simp only [List.nodup_cons] at hn
    simp only [List.map_cons, List.zip_cons_cons, applyUp_cons]
    rw [applyUp_zip ids os _ id hn.2 (by simpa using h)]
    simp only [idx]
    by_cases hx : x = id
    · subst hx
      have hni : idx x ids = none := by
        cases hq : idx x ids with
        | none => rfl
        | some k => exact absurd (List.mem_of_getElem? (idx_some hq)) hn.1
      simp [hni, oset]
    · rw [if_neg hx]
      cases hq : idx id ids with
      | none => simp [oset]; intro e; exact absurd e.symm hx
      | some k => simp

theorem applyUp_newUps : ∀ (ro : List Ob) (j : Nat) (f : Id → Option Ob) (id : Id),
    applyUp f (newUps t g j ro) id = match id with | .own t' g' => (if t' = t ∧ g + j ≤ g' ∧ g' < g + j + ro.length then ro[g' - (g + j)]? else f id) | _ => f id
  | [], j, f, id => by
    cases id with
    | own t' g' => simp [newUps, applyUp]; intro _ h1 h2; omega
    | _ => rfl
  | o :: ro, j, f, id => by
    simp only [newUps, applyUp_cons]
    rw [applyUp_newUps ro (j + 1) _ id]
    cases id with
    | own t' g' =>
      simp only [List.length_cons]
      by_cases h1 : t' = t ∧ g + (j + 1) ≤ g' ∧ g' < g + (j + 1) + ro.length
      · rw [if_pos h1, if_pos ⟨h1.1, by omega, by omega⟩]
        have : g' - (g + j) = (g' - (g + (j + 1))) + 1 := by omega
        rw [this]; simp
      · rw [if_neg h1]
        by_cases h2 : t' = t ∧ g + j ≤ g' ∧ g' < g + j + (ro.length + 1)
        · have : g' = g + j := by
            have := h2.1; have := h2.2
            by_cases h3 : g' = g + j
            · exact h3
            · exact absurd ⟨h2.1, by omega, by omega⟩ h1
          rw [if_pos h2]
          simp [oset, this, h2.1]
        · rw [if_neg h2]
          have : ¬ (Id.own t' g' = Id.own t (g + j)) := by
            intro e; simp at e
            exact h2 ⟨e.1, by omega, by omega⟩
          simp [oset, this]
    | bor k => simp [oset]
    | ret k => simp [oset]

theorem applyUp_freeze : ∀ (ids : List Id) (f h : Id → Option Ob) (id : Id), ids.Nodup → (∀ i ∈ ids, f i = h i) →
    applyUp f (ids.map fun id => (id, (h id).map fun o => { o with fz := true })) id = if id ∈ ids then (h id).map (fun o => { o with fz := true }) else f id
  | [], f, h, id, _, _ => by simp [applyUp]
  | x :: ids, f, h, id, hn, hh => by
    simp only [List.nodup_cons] at hn
    simp only [List.map_cons, applyUp_cons]
    rw [applyUp_freeze ids _ h id hn.2 fun i hi => by
      have : i ≠ x := fun e => hn.1 (e ▸ hi)
      simp only [oset]; rw [if_neg this]; exact hh i (by simp [hi])]
    by_cases hx : id = x
    · subst hx; simp [hn.1, oset]
    · simp [hx, oset]
end
end Go.Vi

/- Vi, part 11: the call of a function, in the caller's terms. -/
set_option linter.unusedVariables false
set_option linter.unusedSimpArgs false
namespace Go.Vi
section
variable {P : Program} {H : Hp} {β : Bt} {ob : Id → Option Ob} {w : World} {t g : Nat}

/-- The callee's frozen memory: what is handed on by value belongs to it. -/
noncomputable def hcall (H : Hp) (β : Bt) (w : World) (s : List Id) : Hp :=
  open Classical in fun b => if ∃ id sz, id ∈ s ∧ β id = some (b, sz) then w.heap[b]? else H b

def bcall (β : Bt) (ids : List Id) : Bt
  | .bor k => (ids[k]?).bind β
  | _ => none

theorem hcall_le (hr : Rel P H β ob w) (s : List Id) : H.le (hcall H β w s) := fun b x h => by
  unfold hcall; split
  · exact hr.hp b x h
  · exact h

theorem hcall_at {s : List Id} {id : Id} (hi : id ∈ s) {b sz : Nat} (hb : β id = some (b, sz)) : hcall H β w s b = w.heap[b]? := by
  unfold hcall; rw [if_pos ⟨id, sz, hi, hb⟩]

theorem apart_not {a b : List Id} (h : apart a b = true) {id : Id} (hi : id ∈ a) : id ∉ b := by
  simp only [apart, List.all_eq_true, Bool.not_eq_true', List.contains_eq_mem, decide_eq_false_iff_not] at h
  exact h id hi

theorem obs_get {l : List Ob} (h : obsNv l = true) {k : Nat} {o : Ob} (ho : l[k]? = some o) : V.nv.nvs o.cells = true ∧ o.fz = false := by
  simp only [obsNv, List.all_eq_true, Bool.and_eq_true, Bool.not_eq_true'] at h
  exact h o (List.mem_of_getElem? ho)

theorem vif {s : List Id} {b : Bool} {v : V} {x y : List (Id × Option Ob)} {n : Nat} :
    (if (s.isEmpty || b) = true then Rd.pure (⟨v, x ++ y, n⟩ : Res) else if (!(s.all isOwn)) = true then .fail else (freezeAll (dedup s)).bind fun fr => .pure ⟨v, fr ++ x ++ y, n⟩) =
    (if b = true then Rd.pure (⟨v, x ++ y, n⟩ : Res) else if (!(s.all isOwn)) = true then .fail else (freezeAll (dedup s)).bind fun fr => .pure ⟨v, fr ++ x ++ y, n⟩) := by
  cases s with
  | nil => cases b <;> simp [dedup, freezeAll, Rd.bind]
  | cons a s => simp

theorem obsLight_get {l : List Ob} (h : obsLight l = true) {k : Nat} {o : Ob} (ho : l[k]? = some o) : o.cells.all (V.light depth) = true := by
  simp only [obsLight, List.all_eq_true] at h
  simpa using h o (List.mem_of_getElem? ho)

theorem CR.nv {cells : List V} {arr : Array Value} {off : Nat} (h : CR P H β cells arr off) (hn : V.nv.nvs cells = true) (β' : Bt) : CR P H β' cells arr off :=
  ⟨h.1, fun k y u hy hu => (h.2 k y u hy hu).nv β' (nvs_get hn k y hy)⟩

theorem CR.light {cells : List V} {arr : Array Value} {off : Nat} (h : CR P H β cells arr off) (hn : cells.all (V.light depth) = true) (H' : Hp) (β' : Bt) : CR P H' β' cells arr off :=
  ⟨h.1, fun k y u hy hu => (h.2 k y u hy hu).light depth H' β' (light_all hn k y hy)⟩

set_option maxHeartbeats 2000000 in
theorem vCall_sound {E : Env} {C : Oracle} (hC : OkC P E C) (hG : GOK P E H) (hr : Rel P H β ob w) (hβ : ∀ k, g ≤ k → β (.own t k) = none) {f : V} {a : Value} {args : List V} {vs : Array Value}
    (hf : RV P H β f a) (hargs : PW P H β args vs) {r : Res} {l : List Id} (h : (vCall P E C f args t g).run ob = some (r, l)) :
    ∃ fid cs, a = .func (.func fid) #[] cs ∧ callOk P fid = true ∧ Calls P fid (vs ++ cs) w fun e w' => ∃ v H' β', e = .returned v ∧ Out P H β ob w t g r v H' β' w' := by
  cases f with
  | fn fid caps =>
    cases hf with
    | fn _ _ _ cs hcn hcr =>
    suffices hsuf : callOk P fid = true ∧ Calls P fid (vs ++ cs) w fun e w' => ∃ v H' β', e = .returned v ∧ Out P H β ob w t g r v H' β' w' from ⟨fid, cs, rfl, hsuf.1, hsuf.2⟩
    simp only [vCall] at h
    generalize hids : dedup ((args ++ caps).flatMap (refs (E.mutA fid) depth)) = ids at h
    have hnd : ids.Nodup := by rw [← hids]; exact nodup_dedup _
    obtain ⟨as', l1, l2, h1, h, _⟩ := Rd.run_bind h
    obtain ⟨obs, l3, l4, h2, h, _⟩ := Rd.run_bind h
    obtain ⟨bo, l5, l6, h3, h, _⟩ := Rd.run_bind h
    obtain ⟨s1, l7, l8, h4, h, _⟩ := Rd.run_bind h
    obtain ⟨s2, l9, l10, h5, h, _⟩ := Rd.run_bind h
    cases hcall0 : C fid as' bo with
    | none => rw [hcall0] at h; exact (Rd.run_fail h).elim
    | some q =>
      obtain ⟨res, bo', ro⟩ := q
      rw [hcall0] at h
      simp only at h
      cases hback : back ids t g depth res with
      | none => rw [hback] at h; exact (Rd.run_fail h).elim
      | some v =>
        rw [hback] at h
        simp only at h
        split at h
        · exact (Rd.run_fail h).elim
        · rename_i hcond
          simp only [Bool.not_eq_true', Bool.not_eq_false, Bool.and_eq_true, beq_iff_eq] at hcond
          obtain ⟨⟨⟨hbl, hbnv⟩, hrnv⟩, hap⟩ := hcond
          -- the callee's view
          let s := s1 ++ s2
          let Hc := hcall H β w s
          let βc := bcall β ids
          have hHc : H.le Hc := hcall_le hr s
          obtain ⟨ho1, ho2⟩ := lookAll_run h2
          obtain ⟨hb1, hb2⟩ := nrmObs_run h3
          have hnm : ∀ id id', ((idx id ids).map Id.bor) = some id' → βc id' = β id := by
            intro id id' hi
            obtain ⟨k, hk, rfl⟩ := Option.map_eq_some_iff.1 hi
            simp [βc, bcall, idx_some hk]
          have hown : ∀ {id id' : Id} {o o' : Ob} {b sz sz' : Nat}, ob id = some o → ob id' = some o' → β id = some (b, sz) → β id' = some (b, sz') → id = id' := fun p q r s => hr.inj _ _ _ _ _ _ _ p q r s
          have hlook : ∀ id ∈ s, ∃ o, ob id = some o := by
            have key : ∀ (d : Nat) (nm : Id → Option Id) (bs : Bool) (v : V) (s' rd : List Id), (slIds P nm bs d v).run ob = some (s', rd) → ∀ id ∈ s', ∃ o, ob id = some o := by
              intro d
              induction d with
              | zero => intro nm bs v s' rd h id hi; have := Rd.run_pure h; simp only [Prod.mk.injEq] at this; rw [this.1] at hi; simp at hi
              | succ d ih =>
                have mp : ∀ (nm : Id → Option Id) (bs : Bool) (l : List V) (s' rd : List Id), (mapIds (slIds P nm bs d) l).run ob = some (s', rd) → ∀ id ∈ s', ∃ o, ob id = some o := by
                  intro nm bs l
                  induction l with
                  | nil => intro s' rd h id hi; have := Rd.run_pure h; simp only [Prod.mk.injEq] at this; rw [this.1] at hi; simp at hi
                  | cons x l ihl =>
                    intro s' rd h id hi
                    obtain ⟨p, q1, q2, q3, q4, _⟩ := Rd.run_bind h
                    obtain ⟨p', q5, q6, q7, q8, _⟩ := Rd.run_bind q4
                    have := Rd.run_pure q8; simp only [Prod.mk.injEq] at this; rw [this.1] at hi
                    rcases List.mem_append.1 hi with hi | hi
                    · exact ih _ _ _ _ _ q3 id hi
                    · exact ihl _ _ q7 id hi
                intro nm bs v s' rd h id hi
                cases v with
                | sl id0 off n e x =>
                  simp only [slIds] at h
                  split at h
                  · have := Rd.run_pure h; simp only [Prod.mk.injEq] at this; rw [this.1] at hi; simp at hi
                  · obtain ⟨o, l', ho, hx, _⟩ := Rd.run_look h
                    split at hx
                    · split at hx
                      · have := Rd.run_pure hx; simp only [Prod.mk.injEq] at this; rw [this.1] at hi; simp at hi; subst hi; exact ⟨o, ho⟩
                      · obtain ⟨p, q1, q2, q3, q4, _⟩ := Rd.run_bind hx
                        have := Rd.run_pure q4; simp only [Prod.mk.injEq] at this; rw [this.1] at hi
                        rcases List.mem_cons.1 hi with rfl | hi
                        · exact ⟨o, ho⟩
                        · exact mp _ _ _ _ _ q3 id hi
                    · exact (Rd.run_fail hx).elim
                | fn f0 caps0 => exact mp _ _ _ _ _ h id hi
                | agg l0 =>
                  simp only [slIds] at h
                  split at h
                  · have := Rd.run_pure h; simp only [Prod.mk.injEq] at this; rw [this.1] at hi; simp at hi
                  · exact mp _ _ _ _ _ h id hi
                | tup l0 =>
                  simp only [slIds] at h
                  split at h
                  · have := Rd.run_pure h; simp only [Prod.mk.injEq] at this; rw [this.1] at hi; simp at hi
                  · exact mp _ _ _ _ _ h id hi
                | _ =>
                  have := Rd.run_pure h; simp only [Prod.mk.injEq] at this; rw [this.1] at hi; simp at hi
            have mp : ∀ (nm : Id → Option Id) (bs : Bool) (l : List V) (s' rd : List Id), (mapIds (slIds P nm bs depth) l).run ob = some (s', rd) → ∀ id ∈ s', ∃ o, ob id = some o := by
              intro nm bs l
              induction l with
              | nil => intro s' rd h id hi; have := Rd.run_pure h; simp only [Prod.mk.injEq] at this; rw [this.1] at hi; simp at hi
              | cons x l ihl =>
                intro s' rd h id hi
                obtain ⟨p, q1, q2, q3, q4, _⟩ := Rd.run_bind h
                obtain ⟨p', q5, q6, q7, q8, _⟩ := Rd.run_bind q4
                have := Rd.run_pure q8; simp only [Prod.mk.injEq] at this; rw [this.1] at hi
                rcases List.mem_append.1 hi with hi | hi
                · exact key _ _ _ _ _ _ q3 id hi
                · exact ihl _ _ q7 id hi
            intro id hi
            rcases List.mem_append.1 hi with hi | hi
            · exact mp _ _ _ _ _ h4 id hi
            · exact mp _ _ _ _ _ h5 id hi
          -- a block that no handed slice has is frozen for the callee only if it was
          have hHnone : ∀ {id : Id} {o : Ob} {b sz : Nat}, ob id = some o → β id = some (b, sz) → id ∉ s → Hc b = H b := by
            intro id o b sz ho hb hi
            simp only [Hc, hcall]
            rw [if_neg]
            rintro ⟨id', sz', hi', hb'⟩
            obtain ⟨o', ho'⟩ := hlook id' hi'
            exact hi (hown ho ho' hb hb' ▸ hi')
          have hsb : ∀ id ∈ s, ∀ b sz, β id = some (b, sz) → Hc b = w.heap[b]? := fun id hi b sz hb => hcall_at hi hb
          have hPW : PW P Hc βc as' (vs ++ cs) := by
            obtain ⟨q1, q2⟩ := mapRd_run h1
            refine ⟨by rw [q1]; simp [hargs.1, hcn], fun k y u hy hu => ?_⟩
            have hk : k < (args ++ caps).length := by rw [← q1]; exact (List.getElem?_eq_some_iff.1 hy).1
            obtain ⟨v', r1, p1, p2⟩ := q2 k _ (List.getElem?_eq_getElem hk)
            rw [hy] at p2; cases p2
            obtain ⟨s', r2, p3, p4⟩ := mapIds_run h4 k _ (List.getElem?_eq_getElem hk)
            have hrv : RV P H β ((args ++ caps)[k]) u := by
              have hy' : (args ++ caps)[k]? = some ((args ++ caps)[k]) := List.getElem?_eq_getElem hk
              rw [List.getElem?_append] at hy'
              split at hy'
              · rename_i hka
                exact hargs.2 k _ u hy' (by rw [Array.getElem?_append_left (by rw [hargs.1]; exact hka)] at hu; exact hu)
              · rename_i hka
                exact hcr _ _ u hy' (by rw [Array.getElem?_append_right (by rw [hargs.1]; omega), hargs.1] at hu; exact hu)
            exact nrm_sound hr hHc _ _ _ _ _ _ _ _ _ _ hrv p1 p3 hnm (fun id hi => hsb id (List.mem_append.2 (.inl (p4 id hi))))
          have hRel : Rel P Hc βc (obB bo) w := by
            refine ⟨fun id o ho => ?_, fun id id' o o' b sz sz' ho ho' hb hb' => ?_, fun b x hx => ?_⟩
            · cases id with
              | own => simp [obB] at ho
              | ret => simp [obB] at ho
              | bor k =>
                simp only [obB] at ho
                have hk : k < ids.length := by rw [← ho1, ← hb1]; exact (List.getElem?_eq_some_iff.1 ho).1
                obtain ⟨o0, p1, p2⟩ := ho2 k ids[k] (by simp [hk])
                obtain ⟨pf, c, r1, p3, p4⟩ := hb2 k o0 p2
                rw [ho] at p4; cases p4
                obtain ⟨z1, z2⟩ := mapRd_run p3
                rcases hr.obj _ _ p1 with hreal | ⟨g0, gc⟩
                case inr => exact .inr ⟨by simp [βc, bcall, hk, g0], List.eq_nil_of_length_eq_zero (by rw [z1, gc]; rfl)⟩
                obtain ⟨b, sz, arr, fr, q1, q2, q3, q4, q5, q6, q7⟩ := hreal.out
                have hbk : βc (.bor k) = some (b, sz) := by simp [βc, bcall, hk, q1]
                refine .inl ⟨b, sz, arr, fr, hbk, q2, q3, q4, ⟨by rw [z1]; exact q5.1, fun j y u hy hu => ?_⟩, by simp, fun _ => ?_⟩
                · have hj : j < o0.cells.length := by rw [← z1]; exact (List.getElem?_eq_some_iff.1 hy).1
                  obtain ⟨v', r2, y1, y2⟩ := z2 j _ (List.getElem?_eq_getElem hj)
                  rw [hy] at y2; cases y2
                  have hmem : ∃ m : Nat, (obs.flatMap Ob.cells)[m]? = some o0.cells[j] := by
                    have : o0.cells[j] ∈ obs.flatMap Ob.cells := List.mem_flatMap.2 ⟨o0, List.mem_of_getElem? p2, List.getElem_mem hj⟩
                    obtain ⟨m, hm, he⟩ := List.getElem_of_mem this
                    exact ⟨m, by rw [List.getElem?_eq_getElem hm, he]⟩
                  obtain ⟨m, hm⟩ := hmem
                  obtain ⟨s', r3, p5, p6⟩ := mapIds_run h5 m _ hm
                  exact nrm_sound hr hHc _ _ _ _ _ _ _ _ _ _ (q5.2 j _ u (List.getElem?_eq_getElem hj) hu) y1 p5 (fun _ _ h => by simp at h) (fun id hi => hsb id (List.mem_append.2 (.inr (p6 id hi))))
                · rw [hHnone p1 q1 (apart_not hap (List.getElem_mem hk))]; exact q7 pf
            · cases id with
              | own => simp [obB] at ho
              | ret => simp [obB] at ho
              | bor k =>
                cases id' with
                | own => simp [obB] at ho'
                | ret => simp [obB] at ho'
                | bor k' =>
                  simp only [obB] at ho ho'
                  have hk : k < ids.length := by rw [← ho1, ← hb1]; exact (List.getElem?_eq_some_iff.1 ho).1
                  have hk' : k' < ids.length := by rw [← ho1, ← hb1]; exact (List.getElem?_eq_some_iff.1 ho').1
                  obtain ⟨o0, p1, p2⟩ := ho2 k ids[k] (by simp [hk])
                  obtain ⟨o0', p1', p2'⟩ := ho2 k' ids[k'] (by simp [hk'])
                  simp [βc, bcall, hk] at hb
                  simp [βc, bcall, hk'] at hb'
                  have := hown p1 p1' hb hb'
                  have := (List.getElem_inj (h₀ := hk) (h₁ := hk') hnd).1 this
                  rw [this]
            · simp only [Hc, hcall] at hx
              split at hx
              · exact hx
              · exact hr.hp b x hx
          have hβdom : ∀ id x, βc id = some x → ∃ k, k < bo.length ∧ id = .bor k := by
            intro id x hx
            cases id with
            | own => simp [βc, bcall] at hx
            | ret => simp [βc, bcall] at hx
            | bor k =>
              refine ⟨k, ?_, rfl⟩
              rw [hb1, ho1]
              simp only [βc, bcall, Option.bind_eq_some_iff] at hx
              obtain ⟨id, h1, _⟩ := hx
              exact (List.getElem?_eq_some_iff.1 h1).1
          refine ⟨(hC fid as' bo res bo' ro hcall0).2, ?_⟩
          refine ((hC fid as' bo res bo' ro hcall0).1 Hc βc w (vs ++ cs) (hG.mono hHc) hβdom hRel hPW).mono ?_
          rintro e w' ⟨u, H', β', rfl, hp⟩
          -- the caller's view behind the call
          let βn : Bt := fun id => match id with
            | .own t' g' => if t' = t ∧ g ≤ g' ∧ g' < g + ro.length then β' (.ret (g' - g)) else β id
            | id => β id
          have hβn : β.le βn := by
            intro id x hx
            cases id with
            | own t' g' =>
              simp only [βn]
              split
              · rename_i hc
                obtain ⟨rfl, hc1, hc2⟩ := hc
                rw [hβ g' hc1] at hx; simp at hx
              · exact hx
            | _ => exact hx
          have hret : ∀ k x, β' (.ret k) = some x → k < ro.length ∧ w.heap.size ≤ x.1 ∧ x.1 < w'.heap.size := by
            intro k x hx
            rcases hp.nw _ _ hx with h | ⟨k', e1, e2, e3, e4⟩
            · simp [βc, bcall] at h
            · simp at e1; subst e1; exact ⟨e2, e3, e4⟩
          have hbn1 : ∀ k id x, ids[k]? = some id → β' (.bor k) = some x → βn id = some x := by
            intro k id x hk hx
            have : βc (.bor k) = some x := by
              rcases hp.nw _ _ hx with h | ⟨k', e1, _⟩
              · exact h
              · simp at e1
            simp [βc, bcall, hk] at this
            exact hβn _ _ this
          have hbn2 : ∀ k x, β' (.ret k) = some x → βn (.own t (g + k)) = some x := by
            intro k x hx
            obtain ⟨q1, _⟩ := hret k x hx
            simp only [βn]
            rw [if_pos ⟨trivial, by omega, by omega⟩]
            rw [show g + k - g = k by omega]; exact hx
          have hrvb := back_sound (g := g) (t := t) hbn1 hbn2 depth res v u hp.rv hback
          have hnwO : ∀ id x, βn id = some x → β id = some x ∨ ∃ k, k < ro.length ∧ id = .own t (g + k) ∧ x.1 < w'.heap.size ∧ (w.heap.size ≤ x.1 ∨ ∃ t' g' sz, β (.own t' g') = some (x.1, sz)) := by
            intro id x hx
            cases id with
            | own t' g' =>
              simp only [βn] at hx
              split at hx
              · rename_i hc
                obtain ⟨rfl, hc1, hc2⟩ := hc
                obtain ⟨q1, q2, q3⟩ := hret _ _ hx
                exact .inr ⟨g' - g, q1, by simp; omega, q3, .inl q2⟩
              · exact .inl hx
            | _ => exact .inl hx
          have hkeep : Keep w w' (fun b => ∃ id sz, β id = some (b, sz)) := hp.keep.imp fun b _ hb => by
            obtain ⟨k, sz, hb⟩ := hb
            simp only [βc, bcall, Option.bind_eq_some_iff] at hb
            obtain ⟨id, _, hb⟩ := hb
            exact ⟨id, sz, hb⟩
          -- a live object that is not lent has its block as it was
          have hsame : ∀ {id : Id} {o : Ob} {b sz : Nat}, ob id = some o → β id = some (b, sz) → id ∉ ids → w'.heap[b]? = w.heap[b]? := by
            intro id o b sz ho hb hi
            refine hp.keep.blk b (hr.lt ho hb) ?_
            rintro ⟨k, sz', hb'⟩
            simp only [βc, bcall, Option.bind_eq_some_iff] at hb'
            obtain ⟨id', h1', hb'⟩ := hb'
            obtain ⟨o', p1, _⟩ := ho2 k id' h1'
            exact hi (hown ho p1 hb hb' ▸ List.mem_of_getElem? h1')
          -- the objects behind the call, whatever was frozen
          have hobU : ∀ (fr : Id → Option Ob) (id : Id), applyUp fr (ids.zip (bo'.map some) ++ newUps t g 0 ro) id =
              match id with
              | .own t' g' => if t' = t ∧ g ≤ g' ∧ g' < g + ro.length then ro[g' - g]? else (match idx id ids with | some k => bo'[k]? | none => fr id)
              | id => (match idx id ids with | some k => bo'[k]? | none => fr id) := by
            intro fr id
            rw [applyUp_append, applyUp_newUps]
            cases id with
            | own t' g' =>
              simp only [Nat.add_zero]
              split
              · rfl
              · exact applyUp_zip ids bo' fr _ hnd hbl
            | bor k => exact applyUp_zip ids bo' fr _ hnd hbl
            | ret k => exact applyUp_zip ids bo' fr _ hnd hbl
          -- the three kinds of objects
          have hkind : ∀ (fr : Id → Option Ob) (id : Id) (o : Ob), applyUp fr (ids.zip (bo'.map some) ++ newUps t g 0 ro) id = some o →
              (∃ k, id = .own t (g + k) ∧ ro[k]? = some o ∧ βn id = β' (.ret k)) ∨ (∃ k, ids[k]? = some id ∧ bo'[k]? = some o ∧ βn id = β' (.bor k)) ∨ (id ∉ ids ∧ fr id = some o ∧ βn id = β id) := by
            intro fr id o ho
            rw [hobU] at ho
            have hb2 : βn id = β id → ∀ k, idx id ids = some k → bo'[k]? = some o → ∃ k, ids[k]? = some id ∧ bo'[k]? = some o ∧ βn id = β' (.bor k) := by
              intro hnew k hk hbo
              refine ⟨k, idx_some hk, hbo, ?_⟩
              cases hx : β' (.bor k) with
              | some x => exact hbn1 k id _ (idx_some hk) hx
              | none =>
                cases hy : βn id with
                | none => rfl
                | some y =>
                  rw [hnew] at hy
                  have : βc (.bor k) = some y := by simp [βc, bcall, idx_some hk, hy]
                  have := hp.hb _ _ this
                  rw [hx] at this; cases this
            have hrest : βn id = β id → (match idx id ids with | some k => bo'[k]? | none => fr id) = some o → (∃ k, ids[k]? = some id ∧ bo'[k]? = some o ∧ βn id = β' (.bor k)) ∨ (id ∉ ids ∧ fr id = some o ∧ βn id = β id) := by
              intro hnew h
              cases hq : idx id ids with
              | none => rw [hq] at h; exact .inr ⟨idx_none hq, h, hnew⟩
              | some k => rw [hq] at h; exact .inl (hb2 hnew k hq h)
            cases id with
            | own t' g' =>
              simp only at ho
              split at ho
              · rename_i hc
                obtain ⟨rfl, hc1, hc2⟩ := hc
                refine .inl ⟨g' - g, by simp; omega, ho, ?_⟩
                simp only [βn]
                rw [if_pos ⟨trivial, hc1, hc2⟩]
              · rename_i hc
                exact .inr (hrest (by simp only [βn]; rw [if_neg hc]) ho)
            | bor k => exact .inr (hrest rfl ho)
            | ret k => exact .inr (hrest rfl ho)
          have hinj : ∀ (fr : Id → Option Ob), (∀ id o, fr id = some o → ∃ o', ob id = some o') → ∀ id id' o o' b sz sz', applyUp fr (ids.zip (bo'.map some) ++ newUps t g 0 ro) id = some o →
              applyUp fr (ids.zip (bo'.map some) ++ newUps t g 0 ro) id' = some o' → βn id = some (b, sz) → βn id' = some (b, sz') → id = id' := by
            intro fr hfr id id' o o' b sz sz' ho ho' hb hb'
            -- each object's block is either new or its old one
            have cls : ∀ id o b sz, applyUp fr (ids.zip (bo'.map some) ++ newUps t g 0 ro) id = some o → βn id = some (b, sz) →
                (∃ k, id = .own t (g + k) ∧ β' (.ret k) = some (b, sz) ∧ ro[k]? = some o ∧ w.heap.size ≤ b) ∨ (∃ o1, ob id = some o1 ∧ β id = some (b, sz) ∧ b < w.heap.size) := by
              intro id o b sz ho hb
              rcases hkind fr id o ho with ⟨k, e1, e2, e3⟩ | ⟨k, e1, e2, e3⟩ | ⟨e1, e2, e3⟩
              · have e3 := e3.symm.trans hb
                exact .inl ⟨k, e1, e3, e2, (hret _ _ e3).2.1⟩
              · have e3 := e3.symm.trans hb
                obtain ⟨o1, p1, _⟩ := ho2 k id e1
                have hbc : βc (.bor k) = some (b, sz) := by
                  rcases hp.nw _ _ e3 with h | ⟨k', e5, _⟩
                  · exact h
                  · simp at e5
                simp [βc, bcall, e1] at hbc
                exact .inr ⟨o1, p1, hbc, hr.lt p1 hbc⟩
              · obtain ⟨o1, p1⟩ := hfr id o e2
                have q1 := e3.symm.trans hb
                exact .inr ⟨o1, p1, q1, hr.lt p1 q1⟩
            rcases cls _ _ _ _ ho hb with ⟨k, e1, e2, e3, e4⟩ | ⟨o1, e1, e2, e3⟩ <;> rcases cls _ _ _ _ ho' hb' with ⟨k', f1, f2, f3, f4⟩ | ⟨o2, f1, f2, f3⟩
            · have := hp.rel.inj (.ret k) (.ret k') o o' b sz sz' (by simpa [obR] using e3) (by simpa [obR] using f3) e2 f2
              simp at this
              rw [e1, f1, this]
            · omega
            · omega
            · exact hown e1 f1 e2 f2
          rw [vif] at h
          by_cases hlight : (v.light depth && obsLight bo' && obsLight ro) = true
          · rw [if_pos hlight] at h
            simp only [Bool.and_eq_true] at hlight
            obtain ⟨⟨hl1, hl2⟩, hl3⟩ := hlight
            have := Rd.run_pure h; simp only [Prod.mk.injEq] at this; obtain ⟨rfl, rfl⟩ := this
            refine ⟨u, H, βn, rfl, Hp.le_refl _, hβn, hnwO, hrvb.light depth H βn hl1, ⟨fun id o ho => ?_, hinj ob (fun id o h => ⟨o, h⟩), fun b x hx => hp.rel.hp b x (hp.hH _ _ (hHc _ _ hx))⟩, hkeep, fun b x hx hx' => by simp [hx] at hx'⟩
            rcases hkind ob id o ho with ⟨k, e1, e2, e3⟩ | ⟨k, e1, e2, e3⟩ | ⟨e1, e2, e3⟩
            · rcases hp.rel.obj (.ret k) o (by simpa [obR] using e2) with hreal | ⟨g0, gc⟩
              case inr => exact .inr ⟨e3.trans g0, gc⟩
              obtain ⟨b, sz, arr, fr, q1, q2, q3, q4, q5, q6, q7⟩ := hreal.out
              have hb0 : w.heap.size ≤ b := (hret _ _ q1).2.1
              have hHb : H b = none := by
                cases hx : H b with
                | none => rfl
                | some x => have := hr.hp _ _ hx; have := (Array.getElem?_eq_some_iff.1 this).1; omega
              exact .inl ⟨b, sz, arr, fr, e3.trans q1, q2, q3, q4, q5.light (obsLight_get hl3 e2) H βn, fun hf => by rw [(obs_get hrnv e2).2] at hf; simp at hf, fun _ => hHb⟩
            · rcases hp.rel.obj (.bor k) o (by simpa [obR] using e2) with hreal | ⟨g0, gc⟩
              case inr => exact .inr ⟨e3.trans g0, gc⟩
              obtain ⟨b, sz, arr, fr, q1, q2, q3, q4, q5, q6, q7⟩ := hreal.out
              have hHb : H b = none := by
                cases hx : H b with
                | none => rfl
                | some x => have := hp.hH _ _ (hHc _ _ hx); rw [q7 (obs_get hbnv e2).2] at this; simp at this
              exact .inl ⟨b, sz, arr, fr, e3.trans q1, q2, q3, q4, q5.light (obsLight_get hl2 e2) H βn, fun hf => by rw [(obs_get hbnv e2).2] at hf; simp at hf, fun _ => hHb⟩
            · exact (hr.obj id o e2).mono (Hp.le_refl _) hβn (fun h0 => e3.trans h0) (fun b sz hb => hsame e2 hb e1) (fun _ _ _ => rfl)
          · rw [if_neg hlight] at h
            split at h
            · exact (Rd.run_fail h).elim
            · rename_i hallown
              simp only [Bool.not_eq_true', Bool.not_eq_false, List.all_eq_true] at hallown
              obtain ⟨fr, l11, l12, h6, h, _⟩ := Rd.run_bind h
              have hfr := freezeAll_run h6
              have := Rd.run_pure h; simp only [Prod.mk.injEq] at this; obtain ⟨rfl, rfl⟩ := this
              have hfz : ∀ id, applyUp ob fr id = if id ∈ dedup s then (ob id).map (fun o => { o with fz := true }) else ob id := by
                intro id
                rw [hfr]
                exact applyUp_freeze (dedup s) ob ob id (nodup_dedup _) (fun _ _ => rfl)
              have hfrob : ∀ id o, applyUp ob fr id = some o → ∃ o', ob id = some o' := by
                intro id o h
                rw [hfz] at h
                split at h
                · obtain ⟨o', h1, _⟩ := Option.map_eq_some_iff.1 h; exact ⟨o', h1⟩
                · exact ⟨o, h⟩
              have hHfin : H.le H' := Hp.le_trans hHc hp.hH
              refine ⟨u, H', βn, rfl, hHfin, hβn, hnwO, hrvb, ?_, hkeep, fun b x hx hx' => ?_⟩
              · rw [List.append_assoc, applyUp_append]
                refine ⟨fun id o ho => ?_, hinj _ hfrob, hp.rel.hp⟩
                rcases hkind _ id o ho with ⟨k, e1, e2, e3⟩ | ⟨k, e1, e2, e3⟩ | ⟨e1, e2, e3⟩
                · rcases hp.rel.obj (.ret k) o (by simpa [obR] using e2) with hreal | ⟨g0, gc⟩
                  case inr => exact .inr ⟨e3.trans g0, gc⟩
                  obtain ⟨b, sz, arr, fr', q1, q2, q3, q4, q5, q6, q7⟩ := hreal.out
                  exact .inl ⟨b, sz, arr, fr', e3.trans q1, q2, q3, q4, q5.nv (obs_get hrnv e2).1 βn, q6, q7⟩
                · rcases hp.rel.obj (.bor k) o (by simpa [obR] using e2) with hreal | ⟨g0, gc⟩
                  case inr => exact .inr ⟨e3.trans g0, gc⟩
                  obtain ⟨b, sz, arr, fr', q1, q2, q3, q4, q5, q6, q7⟩ := hreal.out
                  exact .inl ⟨b, sz, arr, fr', e3.trans q1, q2, q3, q4, q5.nv (obs_get hbnv e2).1 βn, q6, q7⟩
                · rw [hfz] at e2
                  split at e2
                  · rename_i hin
                    have hin' : id ∈ s := mem_dedup.1 hin
                    obtain ⟨o0, p1, rfl⟩ := Option.map_eq_some_iff.1 e2
                    rcases hr.obj _ _ p1 with hreal | ⟨g0, gc⟩
                    case inr => exact .inr ⟨e3.trans g0, gc⟩
                    obtain ⟨b, sz, arr, fr', q1, q2, q3, q4, q5, q6, q7⟩ := hreal.out
                    have hHb : H' b = some (.cells arr o0.ty fr') := hp.hH _ _ ((hcall_at hin' q1).trans q2)
                    exact .inl ⟨b, sz, arr, fr', hβn _ _ q1, (hsame p1 q1 e1).trans q2, q3, q4, q5.mono hHfin hβn, fun _ => hHb, fun hf => by simp at hf⟩
                  · rename_i hin
                    have hin' : id ∉ s := fun h => hin (mem_dedup.2 h)
                    rcases hr.obj _ _ e2 with hreal | ⟨g0, gc⟩
                    case inr => exact .inr ⟨e3.trans g0, gc⟩
                    obtain ⟨b, sz, arr, fr', q1, q2, q3, q4, q5, q6, q7⟩ := hreal.out
                    refine .inl ⟨b, sz, arr, fr', hβn _ _ q1, (hsame e2 q1 e1).trans q2, q3, q4, q5.mono hHfin hβn, fun hf => hHfin _ _ (q6 hf), fun hf => ?_⟩
                    have hn := q7 hf
                    cases hx : H' b with
                    | none => rfl
                    | some x =>
                      have hcn : Hc b = none := (hHnone e2 q1 hin').trans hn
                      have := hp.hfr b x hx hcn
                      have := hr.lt e2 q1
                      omega
              · cases hcb : Hc b with
                | none => exact .inl (hp.hfr b x hx hcb)
                | some y =>
                  have hcb' := hcb
                  simp only [Hc, hcall] at hcb'
                  split at hcb'
                  · rename_i hex
                    obtain ⟨id, sz, hi, hb⟩ := hex
                    have := hallown id hi
                    cases id with
                    | own t' g' => exact .inr ⟨t', g', sz, hb⟩
                    | _ => simp [isOwn] at this
                  · rw [hcb'] at hx'; simp at hx'
  | _ => simp [vCall, Rd.run] at h
end
end Go.Vi

/- Vi, part 12: the abstract state follows the machine's, operation by operation. -/
set_option linter.unusedVariables false
set_option linter.unusedSimpArgs false
namespace Go.Vi

structure Sim (P : Program) (E : Env) (w0 : World) (H0 : Hp) (β0 : Bt) (H : Hp) (β : Bt) (s : St) (a : Act) (w : World) : Prop where
  n : a.tmps.size = s.n
  df : a.defers = []
  tm : ∀ t, RV P H β (s.tm t) (a.tmps.getD t undef)
  fr : ∀ t g, s.nx t ≤ g → β (.own t g) = none
  rel : Rel P H β s.ob w
  dom : ∀ id x, β id = some x → β0 id = some x ∨ ∃ t g, id = .own t g ∧ w0.heap.size ≤ x.1 ∧ x.1 < w.heap.size
  hb : β0.le β
  hH : H0.le H
  hfr : ∀ b x, H b = some x → H0 b = none → w0.heap.size ≤ b
  keep : Keep w0 w (fun b => ∃ k sz, β0 (.bor k) = some (b, sz))

def Bor (β0 : Bt) : Prop := ∀ id x, β0 id = some x → ∃ k, id = .bor k

section
variable {P : Program} {E : Env} {w0 : World} {H0 : Hp} {β0 : Bt} {H : Hp} {β : Bt} {s : St} {a : Act} {w : World}

theorem Sim.ev (h : Sim P E w0 H0 β0 H β s a w) (hG : GOK P E H0) (x : Operand) : RV P H β (evO E s.tm x) (a.eval x) := by
  cases x with
  | tmp t => exact h.tm t
  | const v => exact RV_ofVal v
  | func f => exact .fn _ _ _ _ rfl fun k y u hy => by simp at hy
  | global g =>
    simp only [evO, Act.eval]
    cases hg : E.gl g with
    | none => exact .junk ..
    | some c =>
      obtain ⟨arr, ty, fr, h1, h2⟩ := hG g c hg
      have := RV.fp (P := P) (H := H) β c 0 g 0 arr ty fr (h.hH _ _ h1) (by have := h2.1; omega) (fun k y u hy hu => (h2.2 k y u hy hu).mono h.hH (Bt.le_refl _))
      simpa using this

/-- One operation's doing, on both sides. -/
theorem Sim.step (h : Sim P E w0 H0 β0 H β s a w) (hB : Bor β0) {dst : Option Nat} {r : Res} {v : Value} {H' : Hp} {β' : Bt} {w' : World} (hd : dstOk s dst = true) (hn : dst = none → r.nw = 0)
    (ho : Out P H β s.ob w (dst.getD s.n) (s.nx (dst.getD s.n)) r v H' β' w') (rd : List Id) : Sim P E w0 H0 β0 H' β' (s.app ⟨dst, r.v, r.nw, r.up, rd⟩) (a.put dst v) w' := by
  have hold : ∀ t g b sz, β (.own t g) = some (b, sz) → w0.heap.size ≤ b ∧ b < w.heap.size := by
    intro t g b sz hx
    rcases h.dom _ _ hx with h0 | ⟨t', g', e, h1, h2⟩
    · obtain ⟨k, hk⟩ := hB _ _ h0; simp at hk
    · exact ⟨h1, h2⟩
  refine ⟨?_, ?_, ?_, ?_, ?_, ?_, Bt.le_trans h.hb ho.hb, Hp.le_trans h.hH ho.hH, ?_, ?_⟩
  · cases dst <;> simp [Act.put, St.app, h.n]
  · cases dst <;> exact h.df
  · intro t
    cases dst with
    | none => exact (h.tm t).mono ho.hH ho.hb
    | some d =>
      simp only [St.app, setT, Act.put]
      have hdn : d < a.tmps.size := by rw [h.n]; simpa [dstOk] using hd
      by_cases ht : t = d
      · subst ht
        rw [if_pos rfl]
        simpa [hdn] using ho.rv
      · rw [if_neg ht]
        have : (a.tmps.setIfInBounds d v).getD t undef = a.tmps.getD t undef := by simp [Array.getElem?_setIfInBounds_ne (fun e => ht e.symm)]
        rw [this]
        exact (h.tm t).mono ho.hH ho.hb
  · intro t g hg
    cases hx : β' (.own t g) with
    | none => rfl
    | some x =>
      exfalso
      have hnx : s.nx t ≤ g := by
        cases dst with
        | none => exact hg
        | some d =>
          simp only [St.app] at hg
          by_cases ht : t = d
          · subst ht; rw [if_pos rfl] at hg; omega
          · rw [if_neg ht] at hg; exact hg
      rcases ho.nw _ _ hx with h1 | ⟨k, h1, h2, h3⟩
      · rw [h.fr t g hnx] at h1; simp at h1
      · cases dst with
        | none => have := hn rfl; omega
        | some d =>
          simp only [Option.getD_some, Id.own.injEq] at h2
          obtain ⟨rfl, rfl⟩ := h2
          simp only [St.app, if_pos] at hg
          omega
  · exact ho.rel
  · intro id x hx
    rcases ho.nw _ _ hx with h1 | ⟨k, h1, h2, h3, h4⟩
    · rcases h.dom _ _ h1 with h0 | ⟨t, g, e, h5, h6⟩
      · exact .inl h0
      · exact .inr ⟨t, g, e, h5, Nat.lt_of_lt_of_le h6 ho.keep.size⟩
    · refine .inr ⟨_, _, h2, ?_, h3⟩
      rcases h4 with h4 | ⟨t', g', sz, h4⟩
      · exact Nat.le_trans h.keep.size h4
      · exact (hold _ _ _ _ h4).1
  · intro b x hx hx0
    cases hb : H b with
    | some y => exact h.hfr b y hb hx0
    | none =>
      rcases ho.hfr b x hx hb with h1 | ⟨t, g, sz, h1⟩
      · exact Nat.le_trans h.keep.size h1
      · exact (hold _ _ _ _ h1).1
  · refine ⟨ho.keep.os.trans h.keep.os, ho.keep.tape.trans h.keep.tape, ho.keep.output.trans h.keep.output, Nat.le_trans h.keep.size ho.keep.size, fun b hb hs => ?_⟩
    rw [ho.keep.blk b (Nat.lt_of_lt_of_le hb h.keep.size) ?_]
    · exact h.keep.blk b hb hs
    · rintro ⟨id, sz, hx⟩
      rcases h.dom _ _ hx with h0 | ⟨t, g, e, h1, h2⟩
      · obtain ⟨k, rfl⟩ := hB _ _ h0
        exact hs ⟨k, sz, h0⟩
      · simp at h1; omega

theorem Sim.drew (h : Sim P E w0 H0 β0 H β s a w) : Sim P E w0 H0 β0 H β s a { w with drawn := w.drawn + 1 } :=
  ⟨h.n, h.df, h.tm, h.fr, h.rel.drew, h.dom, h.hb, h.hH, h.hfr, ⟨h.keep.os, h.keep.tape, h.keep.output, h.keep.size, h.keep.blk⟩⟩

/-- Whether an operation is wanted. -/
theorem Sim.want (h : Sim P E w0 H0 β0 H β s a w) {ops : Array Oper} {o : Oper} {b : Bool} (hw : want ops s.tm o = some b) : Region.wanted o (yielded ops a.tmps) = b := by
  unfold Vi.want at hw
  unfold Region.wanted
  cases hg : o.guard with
  | none => simp [hg] at hw ⊢; exact hw
  | some q =>
    obtain ⟨j, wv⟩ := q
    simp only [hg] at hw ⊢
    unfold yielded
    cases hd : (ops[j]?).bind (·.dst) with
    | none => rw [hd] at hw; simp at hw
    | some t =>
      rw [hd] at hw
      simp only [Option.bind_some] at hw ⊢
      have ht := h.tm t
      split at hw
      · rename_i c e
        rw [e] at ht
        simp only [Option.some.injEq] at hw; subst hw
        cases hq : a.tmps[t]? with
        | none => simp [hq, undef] at ht; cases ht
        | some u =>
          simp [hq] at ht
          cases ht
          simp
      · rename_i l e
        rw [e] at ht
        simp only [Option.some.injEq] at hw; subst hw
        cases hq : a.tmps[t]? with
        | none => simp
        | some u =>
          simp [hq] at ht
          cases ht
          simp
      · simp at hw

theorem callFunc_run {f : FuncId} {args : Array Value} (h : callOk P f = true) (w : World) : (callFunc f args).run P w = .ok (.enter f args) w := by
  unfold callOk at h
  cases hf : P.funcs[f]? with
  | none => simp [hf] at h
  | some fn =>
    simp only [hf, Bool.and_eq_true, Bool.not_eq_true'] at h
    obtain ⟨h1, h2⟩ := h
    have h3 : ¬ fn.body = none := fun e => by rw [e] at h1; simp at h1
    have h2' : ¬ fn.name = "runtime.NumGoroutine" := by simpa using h2
    simp [callFunc, hf, h2', h3]

/-- One operation, in whatever order it comes. -/
theorem eff_sound {C : Oracle} (hC : OkC P E C) (hB : Bor β0) (hG : GOK P E H0) (h : Sim P E w0 H0 β0 H β s a w) {ops : Array Oper} {i : Nat} {o : Oper} (hi : ops[i]? = some o) {e : Eff} (he : effOf P E C ops o s = some e)
    {K : Act → World → Prop} {Q : Exit → Act → World → Prop} (hK : ∀ H' β' a' w', Sim P E w0 H0 β0 H' β' (s.app e) a' w' → K a' w') : wpOp P ops Q i K a w := by
  unfold effOf at he
  split at he
  · simp at he
  · rename_i hd
    have hd' : dstOk s o.dst = true := by simpa using hd
    unfold wpOp
    simp only [hi]
    split at he
    · simp at he
    · rename_i hw
      simp only [Option.some.injEq] at he; subst he
      rw [h.want hw]
      simp only [Bool.false_eq_true, if_false]
      refine hK H β _ _ ?_
      have := h.step hB (dst := o.dst) (r := ⟨.tup [], [], 0⟩) (v := undef) (H' := H) (β' := β) (w' := w) hd' (fun _ => rfl) (Out.val h.rel (.tup _ _ _ rfl fun k y u hy => by simp at hy)) []
      exact this
    · rename_i hw
      rw [h.want hw]
      simp only [if_true]
      refine .inl ?_
      split at he
      · simp at he
      · rename_i r l hcore
        split at he
        · simp at he
        · rename_i hnw
          simp only [Option.some.injEq] at he; subst he
          have hn : o.dst = none → r.nw = 0 := by
            intro h0
            simp [h0] at hnw
            exact hnw
          have hstep : ∀ {u : Value} {H' : Hp} {β' : Bt} {w' : World}, Out P H β s.ob w (o.dst.getD s.n) (s.nx (o.dst.getD s.n)) r u H' β' w' → K (a.put o.dst u) w' := fun ho => hK _ _ _ _ (h.step hB hd' hn ho l)
          unfold Oper.wp
          by_cases hcall : ∃ c f, o.op = .call c ∧ c.callee = .value f
          · obtain ⟨c, f, ho, hcf⟩ := hcall
            have hcore' : (vCall P E C (evO E s.tm f) (c.args.toList.map (evO E s.tm)) (o.dst.getD s.n) (s.nx (o.dst.getD s.n))).run s.ob = some (r, l) := by
              unfold core at hcore
              simp only [ho, hcf] at hcore
              exact hcore
            obtain ⟨fid, cs, e1, e2, e3⟩ := vCall_sound hC (hG.mono h.hH) h.rel (fun k hk => h.fr _ k hk) (h.ev hG f) (vs := c.args.map a.eval) ⟨by simp, fun k y u hy hu => RV_toList (h.ev hG) c.args k y u hy hu⟩ hcore'
            have hrun : (execOp a.eval o).run P w = .ok (.enter fid (c.args.map a.eval ++ cs)) w := by
              unfold execOp
              simp only [ho, Sem.run_bind, resolve, hcf, Deferred.ofValue, e1, Sem.run_pure, Result.andThen_ok, invoke]
              rw [callFunc_run e2]
              simp
            rw [hrun, Oper.upon_enter]
            refine e3.mono ?_
            rintro e w' ⟨u, H', β', rfl, ho'⟩
            exact hstep ho'
          · obtain ⟨u, H', β', w', h1, h2⟩ := core_done E C (h.ev hG) h.rel (h.fr _ _ (Nat.le_refl _)) (fun c f hc hf => hcall ⟨c, f, hc, hf⟩) hcore
            rcases h1 with h1 | ⟨h1, rfl⟩
            · rw [h1, Oper.upon_value]; exact hstep h2
            · rw [h1, Oper.upon_skip]; exact hstep h2

/-- A region in the order of the text. -/
theorem runOps_sound {C : Oracle} (hC : OkC P E C) (hB : Bor β0) (hG : GOK P E H0) {ops : Array Oper} {Q : Exit → Act → World → Prop} : ∀ (m k : Nat) (H : Hp) (β : Bt) (s s' : St) (a : Act) (w : World), k + m = ops.size → Sim P E w0 H0 β0 H β s a w →
    runOps P E C ops (ops.toList.drop k) s = some s' → (∀ H' β' a' w', Sim P E w0 H0 β0 H' β' s' a' w' → Q .normal a' w') → wpOps P ops Q (List.range' k m) a w
  | 0, k, H, β, s, s', a, w, hk, h, hr, hQ => by
    have : ops.toList.drop k = [] := by apply List.drop_eq_nil_of_le; simp; omega
    rw [this] at hr
    simp only [runOps, Option.some.injEq] at hr; subst hr
    exact hQ _ _ _ _ h
  | m + 1, k, H, β, s, s', a, w, hk, h, hr, hQ => by
    have hlt : k < ops.size := by omega
    have hd : ops.toList.drop k = ops[k] :: ops.toList.drop (k + 1) := by
      rw [List.drop_eq_getElem_cons (by simpa using hlt)]; simp
    rw [hd] at hr
    simp only [runOps] at hr
    rw [List.range'_succ, wpOps_cons]
    cases he : effOf P E C ops ops[k] s with
    | none => rw [he] at hr; simp at hr
    | some e =>
      rw [he] at hr
      exact eff_sound hC hB hG h (i := k) (by simp [hlt]) he fun H' β' a' w' hs => runOps_sound hC hB hG m (k + 1) H' β' _ s' a' w' (by omega) hs hr hQ
end
end Go.Vi

/- Vi, part 13: a region that draws its order comes to what the order of the text comes to. -/
set_option linter.unusedVariables false
set_option linter.unusedSimpArgs false
namespace Go.Vi
section
variable {P : Program} {E : Env} {C : Oracle} {ops : Array Oper}

theorem Rd.run_congr {α : Type} {ob ob' : Id → Option Ob} : ∀ {m : Rd α} {a : α} {l : List Id}, m.run ob = some (a, l) → (∀ id ∈ l, ob' id = ob id) → m.run ob' = some (a, l) := by
  intro m
  induction m with
  | pure b => intro a l h _; exact h
  | fail => intro a l h _; exact (Rd.run_fail h).elim
  | look id k ih =>
    intro a l h hl
    obtain ⟨o, l', h1, h2, rfl⟩ := Rd.run_look h
    have := ih o h2 fun i hi => hl i (by simp [hi])
    simp [Rd.run, hl id (by simp), h1, this]

theorem core_congr {ρ ρ' : Operand → V} {t g : Nat} {o : Oper} (h : ∀ x ∈ o.op.operands, ρ x = ρ' x) : core P E C ρ t g o = core P E C ρ' t g o := by
  obtain ⟨dst, op, type, pos, after, guard⟩ := o
  have pairs : ∀ ps : Array (Nat × Operand), (∀ x ∈ ps.map (·.2), ρ x = ρ' x) → (ps.toList.map fun (i, x) => (i, ρ x)) = (ps.toList.map fun (i, x) => (i, ρ' x)) := fun ps hp =>
    List.map_congr_left fun p hm => by
      obtain ⟨i, x⟩ := p
      simp only [hp x (Array.mem_map.2 ⟨(i, x), by simpa using hm, rfl⟩)]
  have lists : ∀ xs : Array Operand, (∀ x ∈ xs, ρ x = ρ' x) → xs.toList.map ρ = xs.toList.map ρ' := fun xs hp => List.map_congr_left fun x hx => hp x (by simpa using hx)
  cases op <;> simp only [Op.operands] at h <;> simp only [core]
  case build t ps => rw [pairs ps fun x hx => h x (by simpa using hx)]
  case buildSlice t n ps => rw [pairs ps fun x hx => h x (by simpa using hx)]
  case makeFunc fn first captured =>
    cases fn <;> simp only [core]
    rw [lists captured fun x hx => h x (by simp [hx])]
  case call c =>
    rw [lists c.args fun x hx => h x (by simp [Call.operands, hx])]
    cases hc : c.callee with
    | value f => simp only; rw [h f (by simp [Call.operands, hc])]
    | invoke r m => rfl
    | builtin b => cases b <;> rfl
  case slice t x lo hi mx => cases lo <;> cases hi <;> cases mx <;> simp_all
  all_goals (first | rfl | (simp_all; done))

theorem quiet_core {ρ : Operand → V} {t g : Nat} {o : Oper} {ob : Id → Option Ob} {r : Res} {l : List Id} (ht : touches o.op = false) (h : (core P E C ρ t g o).run ob = some (r, l)) : r.up = [] ∧ l = [] := by
  have hp : ∀ {v : V} {n : Nat} {r : Res} {l : List Id}, (Rd.pure (⟨v, [], n⟩ : Res)).run ob = some (r, l) → r.up = [] ∧ l = [] := by
    intro v n r l h
    have := Rd.run_pure h; simp only [Prod.mk.injEq] at this; obtain ⟨rfl, rfl⟩ := this
    exact ⟨rfl, rfl⟩
  have hv : ∀ {x : Option V} {r : Res} {l : List Id}, (val x).run ob = some (r, l) → r.up = [] ∧ l = [] := by
    intro x r l h
    obtain ⟨v, l1, l2, h1, h2, e⟩ := Rd.run_bind h
    obtain ⟨_, rfl⟩ := Rd.run_opt h1
    obtain ⟨q1, rfl⟩ := hp h2
    exact ⟨q1, by simpa using e⟩
  obtain ⟨dst, op, type, pos, after, guard⟩ := o
  cases op <;> simp only [touches, Bool.true_eq_false] at ht <;> simp only [core] at h
  case move => exact hp h
  case assign => exact hp h
  case pick => split at h <;> first | exact hp h | exact (Rd.run_fail h).elim
  case nilCheck => split at h <;> first | exact hp h | exact (Rd.run_fail h).elim
  case binOp => exact hv h
  case unOp => exact hv h
  case index => exact hv h
  case indexAddr => exact hv h
  case extract => split at h <;> first | exact hv h | exact (Rd.run_fail h).elim
  case field => repeat (first | exact hv h | exact (Rd.run_fail h).elim | split at h)
  case fieldAddr => repeat (first | exact hp h | exact (Rd.run_fail h).elim | split at h)
  case build => repeat (first | exact hv h | exact (Rd.run_fail h).elim | split at h)
  case makeFunc fn first captured => cases fn <;> simp only at h <;> repeat (first | exact hp h | exact (Rd.run_fail h).elim | split at h)
  case call c =>
    obtain ⟨callee, args, argTypes⟩ := c
    cases callee with
    | value f => simp at ht
    | invoke r m => simp only at h; exact (Rd.run_fail h).elim
    | builtin b =>
      cases b <;> simp only [Bool.true_eq_false] at ht <;> simp only at h
      all_goals repeat (first | exact hp h | exact hv h | exact (Rd.run_fail h).elim | split at h)

theorem effOf_dst {o : Oper} {s : St} {e : Eff} (h : effOf P E C ops o s = some e) : e.dst = o.dst := by
  unfold effOf at h
  split at h
  · simp at h
  · split at h
    · simp at h
    · simp at h; subst h; rfl
    · split at h
      · simp at h
      · split at h
        · simp at h
        · simp at h; subst h; rfl

theorem effOf_quiet {o : Oper} {s : St} {e : Eff} (ht : touches o.op = false) (h : effOf P E C ops o s = some e) : e.up = [] ∧ e.rd = [] := by
  unfold effOf at h
  split at h
  · simp at h
  · split at h
    · simp at h
    · simp at h; subst h; exact ⟨rfl, rfl⟩
    · split at h
      · simp at h
      · rename_i hc
        obtain ⟨q1, q2⟩ := quiet_core ht hc
        split at h
        · simp at h
        · simp at h; subst h; exact ⟨q1, q2⟩

theorem effOf_congr {o : Oper} {s s' : St} {e : Eff} (h : effOf P E C ops o s = some e) (hn : s'.n = s.n) (ht : ∀ t ∈ o.looksAt ops, s'.tm t = s.tm t) (hx : s'.nx (o.dst.getD s.n) = s.nx (o.dst.getD s.n)) (hob : ∀ id ∈ e.rd, s'.ob id = s.ob id) :
    effOf P E C ops o s' = some e := by
  have hρ : ∀ x ∈ o.op.operands, evO E s'.tm x = evO E s.tm x := by
    intro x hm
    cases x with
    | tmp t => exact ht t (List.mem_append_left _ (List.mem_filterMap.2 ⟨.tmp t, by simpa using hm, rfl⟩))
    | _ => rfl
  have hw : want ops s'.tm o = want ops s.tm o := by
    unfold want
    cases hg : o.guard with
    | none => rfl
    | some q =>
      obtain ⟨j, wv⟩ := q
      simp only
      cases hd : (ops[j]?).bind (·.dst) with
      | none => rfl
      | some t =>
        simp only
        rw [ht t (by simp [Oper.looksAt, hg, hd])]
  unfold effOf at h ⊢
  have hdd : dstOk s' o.dst = dstOk s o.dst := by unfold dstOk; rw [hn]
  rw [hdd, hw]
  split at h
  · simp at h
  · rename_i hd
    rw [if_neg hd]
    cases hwv : want ops s.tm o with
    | none => rw [hwv] at h; simp at h
    | some b =>
      cases b with
      | false => rw [hwv] at h; exact h
      | true =>
        rw [hwv] at h
        simp only at h ⊢
        cases hcr : (core P E C (evO E s.tm) (o.dst.getD s.n) (s.nx (o.dst.getD s.n)) o).run s.ob with
        | none => rw [hcr] at h; simp at h
        | some q =>
          obtain ⟨r, l⟩ := q
          rw [hcr] at h
          simp only at h
          split at h
          · simp at h
          · rename_i hc
            simp only [Option.some.injEq] at h
            subst h
            have h1 := Rd.run_congr hcr hob
            rw [core_congr (ρ' := evO E s.tm) hρ, hn, hx, h1]
            simp only
            rw [if_neg hc]
end
end Go.Vi
