/- Vi, part 21: a body cut after its first parts; what a piece of code does not write. -/
import Derived.Test.YtbiifkfehfapkaaDoorVi20
namespace Go.Vi

def headC : Nat → Code → Code
  | k + 1, .seq a b => .seq a (headC k b)
  | _, _ => .skip

def tailC : Nat → Code → Code
  | k + 1, .seq _ b => tailC k b
  | _, c => c

section
variable {P : Program} {E : Env} {C : Oracle} {fuel : Nat}

theorem evC_cut : ∀ (k : Nat) (c : Code) (s : St), evC P E C fuel c s = match evC P E C fuel (headC k c) s with | some (.normal, s') => evC P E C fuel (tailC k c) s' | r => r
  | 0, c, s => by simp [headC, tailC, evC]
  | k + 1, c, s => by
    cases c with
    | seq a b =>
      simp only [headC, tailC, evC]
      cases evC P E C fuel a s with
      | none => rfl
      | some x =>
        obtain ⟨e, s'⟩ := x
        cases e with
        | normal => exact evC_cut k b s'
        | exit i => rfl
        | ret => rfl
    | _ => simp [headC, tailC, evC]

/-- No operation writes slot t. -/
def spares (t : Nat) : Code → Bool
  | .region _ ops _ => ops.all fun o => o.dst != some t
  | .seq a b => spares t a && spares t b
  | .cond _ a b => spares t a && spares t b
  | .block _ c => spares t c
  | .loop c => spares t c
  | _ => true

theorem app_tm' {s : St} {e : Eff} {t : Nat} (h : e.dst ≠ some t) : (s.app e).tm t = s.tm t := by
  rw [app_tm]; exact if_neg h

theorem runOps_tm {ops : Array Oper} {t : Nat} : ∀ {l : List Oper} {s s' : St}, (∀ o ∈ l, o.dst ≠ some t) → runOps P E C ops l s = some s' → s'.tm t = s.tm t
  | [], s, s', _, h => by simp [runOps] at h; rw [h]
  | o :: l, s, s', hl, h => by
    simp only [runOps] at h
    split at h
    · cases h
    · rename_i e he
      rw [runOps_tm (fun o ho => hl o (by simp [ho])) h, app_tm']
      rw [effOf_dst he]
      exact hl o (by simp)

theorem effs_tm {ops : Array Oper} {t : Nat} : ∀ {l : List Oper} {s s' : St} {es : List Eff}, (∀ o ∈ l, o.dst ≠ some t) → effs P E C ops l s = some (es, s') → s'.tm t = s.tm t
  | [], s, s', es, _, h => by simp [effs] at h; rw [h.2]
  | o :: l, s, s', es, hl, h => by
    simp only [effs] at h
    split at h
    · cases h
    · rename_i e he
      split at h
      · cases h
      · rename_i es2 s2 h2
        simp only [Option.some.injEq, Prod.mk.injEq] at h
        obtain ⟨_, rfl⟩ := h
        rw [effs_tm (fun o ho => hl o (by simp [ho])) h2, app_tm']
        rw [effOf_dst he]
        exact hl o (by simp)

theorem iter_tm {t : Nat} {f : St → Option (Ex × St)} (hf : ∀ s e s', f s = some (e, s') → s'.tm t = s.tm t) : ∀ (k : Nat) (s : St) (e : Ex) (s' : St), iter f k s = some (e, s') → s'.tm t = s.tm t
  | 0, s, e, s', h => by simp [iter] at h
  | k + 1, s, e, s', h => by
    simp only [iter] at h
    split at h
    · rename_i s1 h1
      rw [iter_tm hf k s1 e s' h, hf _ _ _ h1]
    · exact hf _ _ _ h

theorem evC_tm {t : Nat} : ∀ (c : Code) (s : St) (e : Ex) (s' : St), spares t c = true → evC P E C fuel c s = some (e, s') → s'.tm t = s.tm t
  | .skip, s, e, s', _, h => by simp only [evC, Option.some.injEq, Prod.mk.injEq] at h; rw [h.2]
  | .label _, s, e, s', _, h => by simp only [evC, Option.some.injEq, Prod.mk.injEq] at h; rw [h.2]
  | .exit _, s, e, s', _, h => by simp only [evC, Option.some.injEq, Prod.mk.injEq] at h; rw [h.2]
  | .ret, s, e, s', _, h => by simp only [evC, Option.some.injEq, Prod.mk.injEq] at h; rw [h.2]
  | .region _ ops draw, s, e, s', hs, h => by
    simp only [spares, Array.all_eq_true_iff_forall_mem, bne_iff_ne] at hs
    have hs' : ∀ o ∈ ops.toList, o.dst ≠ some t := fun o ho => hs o (by simpa using ho)
    simp only [evC] at h
    split at h
    · split at h
      · rename_i es s2 h2
        split at h
        · simp only [Option.some.injEq, Prod.mk.injEq] at h
          rw [← h.2]
          exact effs_tm hs' h2
        · cases h
      · cases h
    · simp only [Option.map_eq_some_iff, Prod.mk.injEq] at h
      obtain ⟨s2, h2, _, rfl⟩ := h
      exact runOps_tm hs' h2
  | .seq a b, s, e, s', hs, h => by
    simp only [spares, Bool.and_eq_true] at hs
    simp only [evC] at h
    split at h
    · rename_i s1 h1
      rw [evC_tm b _ _ _ hs.2 h, evC_tm a _ _ _ hs.1 h1]
    · exact evC_tm a _ _ _ hs.1 h
  | .cond _ a b, s, e, s', hs, h => by
    simp only [spares, Bool.and_eq_true] at hs
    simp only [evC] at h
    split at h
    · exact evC_tm a _ _ _ hs.1 h
    · exact evC_tm b _ _ _ hs.2 h
    · cases h
  | .block _ c, s, e, s', hs, h => by
    simp only [spares] at hs
    simp only [evC] at h
    split at h
    · rename_i i s1 h1
      split at h <;> (simp only [Option.some.injEq, Prod.mk.injEq] at h; rw [← h.2]; exact evC_tm c _ _ _ hs h1)
    · exact evC_tm c _ _ _ hs h
  | .loop c, s, e, s', hs, h => by
    simp only [spares] at hs
    simp only [evC] at h
    exact iter_tm (fun s e s' h => evC_tm c s e s' hs h) fuel s e s' h
  | .rangeFunc .., s, e, s', _, h => by simp [evC] at h
  | .scope _, s, e, s', _, h => by simp [evC] at h
  | .goto _, s, e, s', _, h => by simp [evC] at h

theorem runOps_n {ops : Array Oper} : ∀ {l : List Oper} {s s' : St}, runOps P E C ops l s = some s' → s'.n = s.n
  | [], s, s', h => by simp [runOps] at h; rw [h]
  | o :: l, s, s', h => by
    simp only [runOps] at h
    split at h
    · cases h
    · rw [runOps_n h]; rfl

theorem effs_n {ops : Array Oper} : ∀ {l : List Oper} {s s' : St} {es : List Eff}, effs P E C ops l s = some (es, s') → s'.n = s.n
  | [], s, s', es, h => by simp [effs] at h; rw [h.2]
  | o :: l, s, s', es, h => by
    simp only [effs] at h
    split at h
    · cases h
    · split at h
      · cases h
      · rename_i es2 s2 h2
        simp only [Option.some.injEq, Prod.mk.injEq] at h
        obtain ⟨_, rfl⟩ := h
        rw [effs_n h2]; rfl

theorem iter_n {f : St → Option (Ex × St)} (hf : ∀ s e s', f s = some (e, s') → s'.n = s.n) : ∀ (k : Nat) (s : St) (e : Ex) (s' : St), iter f k s = some (e, s') → s'.n = s.n
  | 0, s, e, s', h => by simp [iter] at h
  | k + 1, s, e, s', h => by
    simp only [iter] at h
    split at h
    · rename_i s1 h1
      rw [iter_n hf k s1 e s' h, hf _ _ _ h1]
    · exact hf _ _ _ h

theorem evC_n : ∀ (c : Code) (s : St) (e : Ex) (s' : St), evC P E C fuel c s = some (e, s') → s'.n = s.n
  | .skip, s, e, s', h => by simp only [evC, Option.some.injEq, Prod.mk.injEq] at h; rw [h.2]
  | .label _, s, e, s', h => by simp only [evC, Option.some.injEq, Prod.mk.injEq] at h; rw [h.2]
  | .exit _, s, e, s', h => by simp only [evC, Option.some.injEq, Prod.mk.injEq] at h; rw [h.2]
  | .ret, s, e, s', h => by simp only [evC, Option.some.injEq, Prod.mk.injEq] at h; rw [h.2]
  | .region _ ops draw, s, e, s', h => by
    simp only [evC] at h
    split at h
    · split at h
      · rename_i es s2 h2
        split at h
        · simp only [Option.some.injEq, Prod.mk.injEq] at h
          rw [← h.2]
          exact effs_n h2
        · cases h
      · cases h
    · simp only [Option.map_eq_some_iff, Prod.mk.injEq] at h
      obtain ⟨s2, h2, _, rfl⟩ := h
      exact runOps_n h2
  | .seq a b, s, e, s', h => by
    simp only [evC] at h
    split at h
    · rename_i s1 h1
      rw [evC_n b _ _ _ h, evC_n a _ _ _ h1]
    · exact evC_n a _ _ _ h
  | .cond _ a b, s, e, s', h => by
    simp only [evC] at h
    split at h
    · exact evC_n a _ _ _ h
    · exact evC_n b _ _ _ h
    · cases h
  | .block _ c, s, e, s', h => by
    simp only [evC] at h
    split at h
    · rename_i i s1 h1
      split at h <;> (simp only [Option.some.injEq, Prod.mk.injEq] at h; rw [← h.2]; exact evC_n c _ _ _ h1)
    · exact evC_n c _ _ _ h
  | .loop c, s, e, s', h => by
    simp only [evC] at h
    exact iter_n (fun s e s' h => evC_n c s e s' h) fuel s e s' h
  | .rangeFunc .., s, e, s', h => by simp [evC] at h
  | .scope _, s, e, s', h => by simp [evC] at h
  | .goto _, s, e, s', h => by simp [evC] at h
end
end Go.Vi
