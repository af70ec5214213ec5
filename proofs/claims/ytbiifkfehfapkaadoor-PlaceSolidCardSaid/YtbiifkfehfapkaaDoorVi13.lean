/- Vi, part 13: a region that draws its order comes to what the order of the text comes to. -/
import Derived.Test.YtbiifkfehfapkaaDoorVi12
set_option linter.unusedVariables false
set_option linter.unusedSimpArgs false
namespace Go.Vi
section
variable {P : Program} {E : Env} {C : Oracle} {ops : Array Oper}

theorem Rd.run_congr {α : Type} {ob ob' : Id → Option Ob} : ∀ {m : Rd α} {a : α} {l : List Id}, m.run ob = some (a, l) → (∀ id ∈ l, ob' id = ob id) → m.run ob' = some (a, l) := by
  intro m
  induction m with
  | pure b => intro a l h _; exact h
  | fail => intro a l h _; exact (Rd.run_fail h).elim
  | look id k ih =>
    intro a l h hl
    obtain ⟨o, l', h1, h2, rfl⟩ := Rd.run_look h
    have := ih o h2 fun i hi => hl i (by simp [hi])
    simp [Rd.run, hl id (by simp), h1, this]

theorem core_congr {ρ ρ' : Operand → V} {t g : Nat} {o : Oper} (h : ∀ x ∈ o.op.operands, ρ x = ρ' x) : core P E C ρ t g o = core P E C ρ' t g o := by
  obtain ⟨dst, op, type, pos, after, guard⟩ := o
  have pairs : ∀ ps : Array (Nat × Operand), (∀ x ∈ ps.map (·.2), ρ x = ρ' x) → (ps.toList.map fun (i, x) => (i, ρ x)) = (ps.toList.map fun (i, x) => (i, ρ' x)) := fun ps hp =>
    List.map_congr_left fun p hm => by
      obtain ⟨i, x⟩ := p
      simp only [hp x (Array.mem_map.2 ⟨(i, x), by simpa using hm, rfl⟩)]
  have lists : ∀ xs : Array Operand, (∀ x ∈ xs, ρ x = ρ' x) → xs.toList.map ρ = xs.toList.map ρ' := fun xs hp => List.map_congr_left fun x hx => hp x (by simpa using hx)
  cases op <;> simp only [Op.operands] at h <;> simp only [core]
  case build t ps => rw [pairs ps fun x hx => h x (by simpa using hx)]
  case buildSlice t n ps => rw [pairs ps fun x hx => h x (by simpa using hx)]
  case makeFunc fn first captured =>
    cases fn <;> simp only [core]
    rw [lists captured fun x hx => h x (by simp [hx])]
  case call c =>
    rw [lists c.args fun x hx => h x (by simp [Call.operands, hx])]
    cases hc : c.callee with
    | value f => simp only; rw [h f (by simp [Call.operands, hc])]
    | invoke r m => rfl
    | builtin b => cases b <;> rfl
  case slice t x lo hi mx => cases lo <;> cases hi <;> cases mx <;> simp_all
  all_goals (first | rfl | (simp_all; done))

theorem quiet_core {ρ : Operand → V} {t g : Nat} {o : Oper} {ob : Id → Option Ob} {r : Res} {l : List Id} (ht : touches o.op = false) (h : (core P E C ρ t g o).run ob = some (r, l)) : r.up = [] ∧ l = [] := by
  have hp : ∀ {v : V} {n : Nat} {r : Res} {l : List Id}, (Rd.pure (⟨v, [], n⟩ : Res)).run ob = some (r, l) → r.up = [] ∧ l = [] := by
    intro v n r l h
    have := Rd.run_pure h; simp only [Prod.mk.injEq] at this; obtain ⟨rfl, rfl⟩ := this
    exact ⟨rfl, rfl⟩
  have hv : ∀ {x : Option V} {r : Res} {l : List Id}, (val x).run ob = some (r, l) → r.up = [] ∧ l = [] := by
    intro x r l h
    obtain ⟨v, l1, l2, h1, h2, e⟩ := Rd.run_bind h
    obtain ⟨_, rfl⟩ := Rd.run_opt h1
    obtain ⟨q1, rfl⟩ := hp h2
    exact ⟨q1, by simpa using e⟩
  obtain ⟨dst, op, type, pos, after, guard⟩ := o
  cases op <;> simp only [touches, Bool.true_eq_false] at ht <;> simp only [core] at h
  case move => exact hp h
  case assign => exact hp h
  case pick => split at h <;> first | exact hp h | exact (Rd.run_fail h).elim
  case nilCheck => split at h <;> first | exact hp h | exact (Rd.run_fail h).elim
  case binOp => exact hv h
  case unOp => exact hv h
  case index => exact hv h
  case indexAddr => exact hv h
  case extract => split at h <;> first | exact hv h | exact (Rd.run_fail h).elim
  case field => repeat (first | exact hv h | exact (Rd.run_fail h).elim | split at h)
  case fieldAddr => repeat (first | exact hp h | exact (Rd.run_fail h).elim | split at h)
  case build => repeat (first | exact hv h | exact (Rd.run_fail h).elim | split at h)
  case makeFunc fn first captured => cases fn <;> simp only at h <;> repeat (first | exact hp h | exact (Rd.run_fail h).elim | split at h)
  case call c =>
    obtain ⟨callee, args, argTypes⟩ := c
    cases callee with
    | value f => simp at ht
    | invoke r m => simp only at h; exact (Rd.run_fail h).elim
    | builtin b =>
      cases b <;> simp only [Bool.true_eq_false] at ht <;> simp only at h
      all_goals repeat (first | exact hp h | exact hv h | exact (Rd.run_fail h).elim | split at h)

theorem effOf_dst {o : Oper} {s : St} {e : Eff} (h : effOf P E C ops o s = some e) : e.dst = o.dst := by
  unfold effOf at h
  split at h
  · simp at h
  · split at h
    · simp at h
    · simp at h; subst h; rfl
    · split at h
      · simp at h
      · split at h
        · simp at h
        · simp at h; subst h; rfl

theorem effOf_quiet {o : Oper} {s : St} {e : Eff} (ht : touches o.op = false) (h : effOf P E C ops o s = some e) : e.up = [] ∧ e.rd = [] := by
  unfold effOf at h
  split at h
  · simp at h
  · split at h
    · simp at h
    · simp at h; subst h; exact ⟨rfl, rfl⟩
    · split at h
      · simp at h
      · rename_i hc
        obtain ⟨q1, q2⟩ := quiet_core ht hc
        split at h
        · simp at h
        · simp at h; subst h; exact ⟨q1, q2⟩

theorem effOf_congr {o : Oper} {s s' : St} {e : Eff} (h : effOf P E C ops o s = some e) (hn : s'.n = s.n) (ht : ∀ t ∈ o.looksAt ops, s'.tm t = s.tm t) (hx : s'.nx (o.dst.getD s.n) = s.nx (o.dst.getD s.n)) (hob : ∀ id ∈ e.rd, s'.ob id = s.ob id) :
    effOf P E C ops o s' = some e := by
  have hρ : ∀ x ∈ o.op.operands, evO E s'.tm x = evO E s.tm x := by
    intro x hm
    cases x with
    | tmp t => exact ht t (List.mem_append_left _ (List.mem_filterMap.2 ⟨.tmp t, by simpa using hm, rfl⟩))
    | _ => rfl
  have hw : want ops s'.tm o = want ops s.tm o := by
    unfold want
    cases hg : o.guard with
    | none => rfl
    | some q =>
      obtain ⟨j, wv⟩ := q
      simp only
      cases hd : (ops[j]?).bind (·.dst) with
      | none => rfl
      | some t =>
        simp only
        rw [ht t (by simp [Oper.looksAt, hg, hd])]
  unfold effOf at h ⊢
  have hdd : dstOk s' o.dst = dstOk s o.dst := by unfold dstOk; rw [hn]
  rw [hdd, hw]
  split at h
  · simp at h
  · rename_i hd
    rw [if_neg hd]
    cases hwv : want ops s.tm o with
    | none => rw [hwv] at h; simp at h
    | some b =>
      cases b with
      | false => rw [hwv] at h; exact h
      | true =>
        rw [hwv] at h
        simp only at h ⊢
        cases hcr : (core P E C (evO E s.tm) (o.dst.getD s.n) (s.nx (o.dst.getD s.n)) o).run s.ob with
        | none => rw [hcr] at h; simp at h
        | some q =>
          obtain ⟨r, l⟩ := q
          rw [hcr] at h
          simp only at h
          split at h
          · simp at h
          · rename_i hc
            simp only [Option.some.injEq] at h
            subst h
            have h1 := Rd.run_congr hcr hob
            rw [core_congr (ρ' := evO E s.tm) hρ, hn, hx, h1]
            simp only
            rw [if_neg hc]
end
end Go.Vi
