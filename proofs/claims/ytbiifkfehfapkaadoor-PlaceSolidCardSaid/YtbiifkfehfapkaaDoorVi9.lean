/- Vi, part 9: what is handed to a function and back. -/
import Derived.Test.YtbiifkfehfapkaaDoorVi8
set_option linter.unusedVariables false
set_option linter.unusedSimpArgs false
namespace Go.Vi
section
variable {P : Program} {H : Hp} {β : Bt} {ob : Id → Option Ob} {w : World} {t g : Nat}

/-! ### lists of look-ups -/
theorem mapRd_run {f : V → Rd V} : ∀ {l l' : List V} {rd : List Id}, (mapRd f l).run ob = some (l', rd) → l'.length = l.length ∧ ∀ (k : Nat) (v : V), l[k]? = some v → ∃ v' r, (f v).run ob = some (v', r) ∧ l'[k]? = some v'
  | [], l', rd, h => by
    have := Rd.run_pure h; simp only [Prod.mk.injEq] at this; obtain ⟨rfl, rfl⟩ := this
    exact ⟨rfl, fun k v hv => by simp at hv⟩
  | v :: l, l', rd, h => by
    obtain ⟨v', l1, l2, h1, h2, _⟩ := Rd.run_bind h
    obtain ⟨l'', l3, l4, h3, h4, _⟩ := Rd.run_bind h2
    have := Rd.run_pure h4; simp only [Prod.mk.injEq] at this; obtain ⟨rfl, rfl⟩ := this
    obtain ⟨q1, q2⟩ := mapRd_run h3
    refine ⟨by simp [q1], fun k x hx => ?_⟩
    cases k with
    | zero => simp at hx; subst hx; exact ⟨v', l1, h1, rfl⟩
    | succ k => simpa using q2 k x (by simpa using hx)

theorem mapIds_run {f : V → Rd (List Id)} : ∀ {l : List V} {s rd : List Id}, (mapIds f l).run ob = some (s, rd) → ∀ (k : Nat) (v : V), l[k]? = some v → ∃ s' r, (f v).run ob = some (s', r) ∧ ∀ id ∈ s', id ∈ s
  | [], s, rd, h => fun k v hv => by simp at hv
  | v :: l, s, rd, h => by
    obtain ⟨a, l1, l2, h1, h2, _⟩ := Rd.run_bind h
    obtain ⟨b, l3, l4, h3, h4, _⟩ := Rd.run_bind h2
    have := Rd.run_pure h4; simp only [Prod.mk.injEq] at this; obtain ⟨rfl, rfl⟩ := this
    intro k x hx
    cases k with
    | zero => simp at hx; subst hx; exact ⟨a, l1, h1, fun id hi => by simp [hi]⟩
    | succ k =>
      obtain ⟨s', r, q1, q2⟩ := mapIds_run h3 k x (by simpa using hx)
      exact ⟨s', r, q1, fun id hi => by simp [q2 id hi]⟩

theorem lookAll_run : ∀ {ids : List Id} {os : List Ob} {rd : List Id}, (lookAll ids).run ob = some (os, rd) → os.length = ids.length ∧ ∀ (k : Nat) (id : Id), ids[k]? = some id → ∃ o, ob id = some o ∧ os[k]? = some o
  | [], os, rd, h => by
    have := Rd.run_pure h; simp only [Prod.mk.injEq] at this; obtain ⟨rfl, rfl⟩ := this
    exact ⟨rfl, fun k id hi => by simp at hi⟩
  | id :: ids, os, rd, h => by
    obtain ⟨o, l', ho, h2, _⟩ := Rd.run_look h
    obtain ⟨os', l3, l4, h3, h4, _⟩ := Rd.run_bind h2
    have := Rd.run_pure h4; simp only [Prod.mk.injEq] at this; obtain ⟨rfl, rfl⟩ := this
    obtain ⟨q1, q2⟩ := lookAll_run h3
    refine ⟨by simp [q1], fun k i hi => ?_⟩
    cases k with
    | zero => simp at hi; subst hi; exact ⟨o, ho, rfl⟩
    | succ k => simpa using q2 k i (by simpa using hi)

theorem nrmObs_run : ∀ {obs bo : List Ob} {rd : List Id}, (nrmObs P obs).run ob = some (bo, rd) → bo.length = obs.length ∧
    ∀ (k : Nat) (o : Ob), obs[k]? = some o → o.fz = false ∧ ∃ c r, (mapRd (nrm P (fun _ => none) false depth) o.cells).run ob = some (c, r) ∧ bo[k]? = some ⟨o.ty, c, false⟩
  | [], bo, rd, h => by
    have := Rd.run_pure h; simp only [Prod.mk.injEq] at this; obtain ⟨rfl, rfl⟩ := this
    exact ⟨rfl, fun k id hi => by simp at hi⟩
  | o :: obs, bo, rd, h => by
    simp only [nrmObs] at h
    split at h
    · exact (Rd.run_fail h).elim
    · rename_i hfz
      obtain ⟨c, l1, l2, h1, h2, _⟩ := Rd.run_bind h
      obtain ⟨r, l3, l4, h3, h4, _⟩ := Rd.run_bind h2
      have := Rd.run_pure h4; simp only [Prod.mk.injEq] at this; obtain ⟨rfl, rfl⟩ := this
      obtain ⟨q1, q2⟩ := nrmObs_run h3
      refine ⟨by simp [q1], fun k i hi => ?_⟩
      cases k with
      | zero => simp at hi; subst hi; exact ⟨by simpa using hfz, c, l1, h1, rfl⟩
      | succ k => simpa using q2 k i (by simpa using hi)

theorem freezeAll_run : ∀ {ids : List Id} {fr : List (Id × Option Ob)} {rd : List Id}, (freezeAll ids).run ob = some (fr, rd) → fr = ids.map fun id => (id, (ob id).map fun o => { o with fz := true })
  | [], fr, rd, h => by
    have := Rd.run_pure h; simp only [Prod.mk.injEq] at this; obtain ⟨rfl, rfl⟩ := this
    rfl
  | id :: ids, fr, rd, h => by
    obtain ⟨o, l', ho, h2, _⟩ := Rd.run_look h
    obtain ⟨r, l3, l4, h3, h4, _⟩ := Rd.run_bind h2
    have := Rd.run_pure h4; simp only [Prod.mk.injEq] at this; obtain ⟨rfl, rfl⟩ := this
    simp [freezeAll_run h3, ho]

/-! ### values without names -/
theorem nvs_get : ∀ {l : List V}, V.nv.nvs l = true → ∀ (k : Nat) (y : V), l[k]? = some y → y.nv = true
  | [], _, k, y, hy => by simp at hy
  | v :: l, h, k, y, hy => by
    simp only [V.nv.nvs, Bool.and_eq_true] at h
    cases k with
    | zero => simp at hy; subst hy; exact h.1
    | succ k => exact nvs_get h.2 k y (by simpa using hy)

theorem RV.nv {v : V} {u : Value} (h : RV P H β v u) : ∀ β', v.nv = true → RV P H β' v u := by
  induction h with
  | junk | lp | sl | nl | e0 | fn => intro β' hn; simp [V.nv] at hn
  | int => intro β' _; exact .int ..
  | bool => intro β' _; exact .bool ..
  | str => intro β' _; exact .str ..
  | agg β l cs h1 h2 ih => intro β' hn; exact .agg _ _ _ h1 fun k y u hy hu => ih k y u hy hu β' (nvs_get (by simpa [V.nv] using hn) k y hy)
  | tup β l cs h1 h2 ih => intro β' hn; exact .tup _ _ _ h1 fun k y u hy hu => ih k y u hy hu β' (nvs_get (by simpa [V.nv] using hn) k y hy)
  | fs0 => intro β' _; exact .fs0 ..
  | fs β l b off es cap arr ty fr h1 h2 h3 h4 h5 ih => intro β' _; exact .fs _ _ _ _ _ _ _ _ _ h1 h2 h3 h4 h5
  | fp β cells off b base arr ty fr h1 h2 h3 ih => intro β' _; exact .fp _ _ _ _ _ _ _ _ h1 h2 h3

theorem light_all {d : Nat} {l : List V} (h : l.all (V.light d) = true) (k : Nat) (y : V) (hy : l[k]? = some y) : y.light d = true := by
  simp only [List.all_eq_true] at h
  exact h y (List.mem_of_getElem? hy)

theorem RV.light {v : V} {u : Value} (h : RV P H β v u) : ∀ (d : Nat) (H' : Hp) (β' : Bt), v.light d = true → RV P H' β' v u := by
  induction h with
  | junk | lp | sl | nl | e0 | fn | fp => intro d H' β' hn; cases d <;> simp [V.light] at hn
  | int => intro d H' β' _; exact .int ..
  | bool => intro d H' β' _; exact .bool ..
  | str => intro d H' β' _; exact .str ..
  | agg β l cs h1 h2 ih =>
    intro d H' β' hn
    cases d with
    | zero => simp [V.light] at hn
    | succ d => exact .agg _ _ _ h1 fun k y u hy hu => ih k y u hy hu d H' β' (light_all (by simpa [V.light] using hn) k y hy)
  | tup β l cs h1 h2 ih =>
    intro d H' β' hn
    cases d with
    | zero => simp [V.light] at hn
    | succ d => exact .tup _ _ _ h1 fun k y u hy hu => ih k y u hy hu d H' β' (light_all (by simpa [V.light] using hn) k y hy)
  | fs0 => intro d H' β' _; exact .fs0 ..
  | fs β l b off es cap arr ty fr h1 h2 h3 h4 h5 ih =>
    intro d H' β' hn
    cases d with
    | zero => simp [V.light] at hn
    | succ d =>
      cases l with
      | nil => exact .fs0 ..
      | cons x l => simp [V.light] at hn

/-! ### chunks -/
theorem chunkA_len (sz : Nat) : ∀ (n : Nat) (cs : List V), (chunkA sz n cs).length = n
  | 0, cs => rfl
  | n + 1, cs => by simp [chunkA, chunkA_len sz n]

theorem chunkA_get (sz : Nat) : ∀ (n j : Nat) (cs : List V) (x : V), (chunkA sz n cs)[j]? = some x → x = .agg ((cs.drop (j * sz)).take sz)
  | 0, j, cs, x, h => by simp [chunkA] at h
  | n + 1, 0, cs, x, h => by simp [chunkA] at h; simp [h]
  | n + 1, j + 1, cs, x, h => by
    simp only [chunkA, List.getElem?_cons_succ] at h
    rw [chunkA_get sz n j _ x h, List.drop_drop]
    congr 3
    rw [Nat.add_mul]; omega

/-- Cells that are handed on as a slice's contents. -/
theorem RV_chunk {Hc : Hp} {βc : Bt} {ag : Bool} {sz n off cap b : Nat} {cs : List V} {arr : Array Value} {ty : TypeId} {fr : Nat × Nat} (hb : Hc b = some (.cells arr ty fr)) (hn : n ≤ cap) (hl : cs.length = n * sz)
    (hc : CR P Hc noB cs arr off) (hag : ag = false → sz = 1 ∧ cs.all V.leaf = true) : RV P Hc βc (.fs (chunk ag sz n cs)) (.slice (some ⟨b, off, none⟩) n cap) := by
  cases ag with
  | true =>
    have hlen := chunkA_len sz n cs
    have hfl : ∀ (j : Nat) (x : V), (chunkA sz n cs)[j]? = some x → j < n := fun j x hx => by rw [← hlen]; exact (List.getElem?_eq_some_iff.1 hx).1
    have := RV.fs (P := P) (H := Hc) βc (chunkA sz n cs) b off sz cap arr ty fr (by rw [hlen]; exact hn) hb (by rw [hlen, ← hl]; exact hc.1) (fun j x hx => by
        rw [chunkA_get sz n j cs x hx]
        have := hfl j x hx
        have h2 : (j + 1) * sz ≤ n * sz := Nat.mul_le_mul_right _ this
        rw [Nat.add_mul] at h2
        simp [V.flat]; omega)
      (fun j x hx k y u hy hu => by
        rw [chunkA_get sz n j cs x hx] at hy
        simp only [V.flat, List.getElem?_take, List.getElem?_drop] at hy
        split at hy
        · exact hc.2 (j * sz + k) y u hy (by rw [← hu]; congr 1; omega)
        · simp at hy)
    rw [hlen] at this
    exact this
  | false =>
    obtain ⟨rfl, hleaf⟩ := hag rfl
    simp only [Nat.mul_one] at hl
    simp only [chunk, Bool.false_eq_true, if_false]
    have hflat : ∀ (j : Nat) (x : V), cs[j]? = some x → x.flat = [x] := fun j x hx => by
      have := List.all_eq_true.1 hleaf x (List.mem_of_getElem? hx)
      cases x <;> simp [V.leaf] at this <;> rfl
    have := RV.fs (P := P) (H := Hc) βc cs b off 1 cap arr ty fr (by omega) hb (by have := hc.1; omega) (fun j x hx => by rw [hflat j x hx]; rfl)
      (fun j x hx k y u hy hu => by
        rw [hflat j x hx] at hy
        cases k with
        | zero =>
          simp at hy; subst hy
          exact hc.2 j x u hx (by rw [← hu]; congr 1; omega)
        | succ k => simp at hy)
    rw [hl] at this
    exact this

/-- What is handed on says of the value what it said. -/
theorem nrm_sound (hr : Rel P H β ob w) {Hc : Hp} (hH : H.le Hc) : ∀ (d : Nat) (nm : Id → Option Id) (bs : Bool) (βc : Bt) (v v' : V) (u : Value) (s rd rd' : List Id), RV P H β v u →
    (nrm P nm bs d v).run ob = some (v', rd) → (slIds P nm bs d v).run ob = some (s, rd') → (∀ id id', nm id = some id' → βc id' = β id) →
    (∀ id ∈ s, ∀ b sz, β id = some (b, sz) → Hc b = w.heap[b]?) → RV P Hc βc v' u := by
  intro d
  induction d with
  | zero => intro nm bs βc v v' u s rd rd' _ h; simp [nrm, Rd.run] at h
  | succ d ih =>
    intro nm bs βc v v' u s rd rd' hv h hs hnm hsb
    have mapcase : ∀ (l l' : List V) (cs : Array Value) (r r' s' : List Id), cs.size = l.length → (∀ (k : Nat) (y : V) (u : Value), l[k]? = some y → cs[k]? = some u → RV P H β y u) →
        (mapRd (nrm P nm bs d) l).run ob = some (l', r) → (mapIds (slIds P nm bs d) l).run ob = some (s', r') → (∀ id ∈ s', id ∈ s) → cs.size = l'.length ∧ ∀ (k : Nat) (y : V) (u : Value), l'[k]? = some y → cs[k]? = some u → RV P Hc βc y u := by
      intro l l' cs r r' s' hn hc h1 h2 hsub
      obtain ⟨q1, q2⟩ := mapRd_run h1
      refine ⟨by omega, fun k y u hy hu => ?_⟩
      have hk : k < l.length := by rw [← q1]; exact (List.getElem?_eq_some_iff.1 hy).1
      obtain ⟨v', r1, p1, p2⟩ := q2 k l[k] (by simp [hk])
      rw [hy] at p2; cases p2
      obtain ⟨s1, r2, p3, p4⟩ := mapIds_run h2 k l[k] (by simp [hk])
      exact ih nm bs βc _ _ _ _ _ _ (hc k l[k] u (by simp [hk]) hu) p1 p3 hnm (fun id hi => hsb id (hsub id (p4 id hi)))
    cases v with
    | junk => simp [nrm, Rd.run] at h
    | int k n => have := Rd.run_pure h; simp only [Prod.mk.injEq] at this; obtain ⟨rfl, rfl⟩ := this; cases hv; exact .int ..
    | bool b => have := Rd.run_pure h; simp only [Prod.mk.injEq] at this; obtain ⟨rfl, rfl⟩ := this; cases hv; exact .bool ..
    | str b => have := Rd.run_pure h; simp only [Prod.mk.injEq] at this; obtain ⟨rfl, rfl⟩ := this; cases hv; exact .str ..
    | nl => have := Rd.run_pure h; simp only [Prod.mk.injEq] at this; obtain ⟨rfl, rfl⟩ := this; cases hv; exact .fs0 ..
    | e0 => have := Rd.run_pure h; simp only [Prod.mk.injEq] at this; obtain ⟨rfl, rfl⟩ := this; cases hv; exact .fs0 ..
    | fs l => have := Rd.run_pure h; simp only [Prod.mk.injEq] at this; obtain ⟨rfl, rfl⟩ := this; exact (hv.nv βc rfl).mono hH (Bt.le_refl _)
    | fp c o => have := Rd.run_pure h; simp only [Prod.mk.injEq] at this; obtain ⟨rfl, rfl⟩ := this; exact (hv.nv βc rfl).mono hH (Bt.le_refl _)
    | agg l =>
      simp only [nrm] at h
      simp only [slIds] at hs
      split at h
      · rename_i hnv
        have := Rd.run_pure h; simp only [Prod.mk.injEq] at this; obtain ⟨rfl, rfl⟩ := this
        exact (hv.nv βc (by simpa [V.nv] using hnv)).mono hH (Bt.le_refl _)
      · rename_i hnv
        rw [if_neg hnv] at hs
        obtain ⟨l', l1, l2, h1, h2, _⟩ := Rd.run_bind h
        have := Rd.run_pure h2; simp only [Prod.mk.injEq] at this; obtain ⟨rfl, rfl⟩ := this
        cases hv with
        | agg _ _ cs hn hc =>
          obtain ⟨q1, q2⟩ := mapcase l l' cs _ _ _ hn hc h1 hs (fun _ h => h)
          exact .agg _ _ _ q1 q2
    | tup l =>
      simp only [nrm] at h
      simp only [slIds] at hs
      split at h
      · rename_i hnv
        have := Rd.run_pure h; simp only [Prod.mk.injEq] at this; obtain ⟨rfl, rfl⟩ := this
        exact (hv.nv βc (by simpa [V.nv] using hnv)).mono hH (Bt.le_refl _)
      · rename_i hnv
        rw [if_neg hnv] at hs
        obtain ⟨l', l1, l2, h1, h2, _⟩ := Rd.run_bind h
        have := Rd.run_pure h2; simp only [Prod.mk.injEq] at this; obtain ⟨rfl, rfl⟩ := this
        cases hv with
        | tup _ _ cs hn hc =>
          obtain ⟨q1, q2⟩ := mapcase l l' cs _ _ _ hn hc h1 hs (fun _ h => h)
          exact .tup _ _ _ q1 q2
    | fn f caps =>
      simp only [nrm] at h
      simp only [slIds] at hs
      obtain ⟨l', l1, l2, h1, h2, _⟩ := Rd.run_bind h
      have := Rd.run_pure h2; simp only [Prod.mk.injEq] at this; obtain ⟨rfl, rfl⟩ := this
      cases hv with
      | fn _ _ _ cs hn hc =>
        obtain ⟨q1, q2⟩ := mapcase caps l' cs _ _ _ hn hc h1 hs (fun _ h => h)
        exact .fn _ _ _ _ q1 q2
    | lp id off =>
      simp only [nrm] at h
      split at h
      · rename_i id' hid
        have := Rd.run_pure h; simp only [Prod.mk.injEq] at this; obtain ⟨rfl, rfl⟩ := this
        cases hv with
        | lp _ _ _ b sz hβ => exact .lp _ _ _ b sz ((hnm _ _ hid).trans hβ)
      · exact (Rd.run_fail h).elim
    | sl id off n e x =>
      simp only [nrm] at h
      simp only [slIds] at hs
      cases hv with
      | sl _ _ _ _ _ _ b szb es cap hβ hes hcap hnc hxx =>
        split at h
        · rename_i id' hid
          have := Rd.run_pure h; simp only [Prod.mk.injEq] at this; obtain ⟨rfl, rfl⟩ := this
          have hid' : nm id = some id' := by
            cases bs <;> simp at hid
            exact hid
          exact .sl _ _ _ _ _ _ b szb es cap ((hnm _ _ hid').trans hβ) hes hcap hnc hxx
        · rename_i hid
          rw [hid] at hs
          obtain ⟨o, l', ho, h2, _⟩ := Rd.run_look h
          obtain ⟨o', l'', ho', hs2, _⟩ := Rd.run_look hs
          rw [ho] at ho'; cases ho'
          rw [hes] at h2 hs2
          simp only at h2 hs2
          cases hag : aggT P e with
          | none => rw [hag] at h2; exact (Rd.run_fail h2).elim
          | some ag =>
            rw [hag] at h2
            simp only at h2
            split at h2
            · rename_i hcond
              simp only [Bool.and_eq_true, decide_eq_true_eq, Bool.or_eq_true, beq_iff_eq] at hcond
              obtain ⟨hle, hcond⟩ := hcond
              obtain ⟨b', sz'', arr, fr, q1, q2, q3, q4, q5, q6, q7⟩ := (hr.obj _ _ ho).out
              rw [hβ] at q1; cases q1
              have hcl : ((o.cells.drop off).take (n * es)).length = n * es := by simp; omega
              have hcr := q5.sub off (n * es) hle
              simp only [Nat.zero_add] at hcr
              have hsid : id ∈ s := by
                split at hs2
                · have := Rd.run_pure hs2; simp only [Prod.mk.injEq] at this; rw [this.1]; simp
                · obtain ⟨l0, l5, l6, h5, h6, _⟩ := Rd.run_bind hs2
                  have := Rd.run_pure h6; simp only [Prod.mk.injEq] at this; rw [this.1]; simp
              have hHc : Hc b = some (.cells arr o.ty fr) := (hsb id hsid b szb hβ).trans q2
              split at h2
              · rename_i hnv
                have := Rd.run_pure h2; simp only [Prod.mk.injEq] at this; obtain ⟨rfl, rfl⟩ := this
                refine RV_chunk hHc hnc hcl ⟨hcr.1, fun k y u hy hu => ((hcr.2 k y u hy hu).nv noB (nvs_get hnv k y hy)).mono hH (Bt.le_refl _)⟩ fun hf => ?_
                rcases hcond with h | h
                · rw [hf] at h; simp at h
                · exact h
              · rename_i hnv
                rw [if_neg hnv] at hs2
                obtain ⟨cs, l1, l2, h3, h4, _⟩ := Rd.run_bind h2
                obtain ⟨s0, l5, l6, h5, h6, _⟩ := Rd.run_bind hs2
                have := Rd.run_pure h6; simp only [Prod.mk.injEq] at this; obtain ⟨rfl, rfl⟩ := this
                split at h4
                · rename_i hleaf
                  have := Rd.run_pure h4; simp only [Prod.mk.injEq] at this; obtain ⟨rfl, rfl⟩ := this
                  obtain ⟨p1, p2⟩ := mapRd_run h3
                  refine RV_chunk hHc hnc (by rw [p1, hcl]) ⟨by rw [p1]; exact hcr.1, fun k y u hy hu => ?_⟩ fun hf => ?_
                  · have hk : k < ((o.cells.drop off).take (n * es)).length := by rw [← p1]; exact (List.getElem?_eq_some_iff.1 hy).1
                    obtain ⟨v', r1, p3, p4⟩ := p2 k _ (List.getElem?_eq_getElem hk)
                    rw [hy] at p4; cases p4
                    obtain ⟨s1, r2, p5, p6⟩ := mapIds_run h5 k _ (List.getElem?_eq_getElem hk)
                    exact ih (fun _ => none) false noB _ _ _ _ _ _ (hcr.2 k _ u (List.getElem?_eq_getElem hk) hu) p3 p5 (fun _ _ h => by simp at h) (fun id hi => hsb id (by simp [p6 id hi]))
                  · rcases hcond with h | h
                    · rw [hf] at h; simp at h
                    · refine ⟨h.1, ?_⟩
                      rw [hf] at hleaf; simpa using hleaf
                · exact (Rd.run_fail h4).elim
            · exact (Rd.run_fail h2).elim
end
end Go.Vi
