/- Vi, part 12: the abstract state follows the machine's, operation by operation. -/
import Derived.Test.YtbiifkfehfapkaaDoorVi11
set_option linter.unusedVariables false
set_option linter.unusedSimpArgs false
namespace Go.Vi

structure Sim (P : Program) (E : Env) (w0 : World) (H0 : Hp) (β0 : Bt) (H : Hp) (β : Bt) (s : St) (a : Act) (w : World) : Prop where
  n : a.tmps.size = s.n
  df : a.defers = []
  tm : ∀ t, RV P H β (s.tm t) (a.tmps.getD t undef)
  fr : ∀ t g, s.nx t ≤ g → β (.own t g) = none
  rel : Rel P H β s.ob w
  dom : ∀ id x, β id = some x → β0 id = some x ∨ ∃ t g, id = .own t g ∧ w0.heap.size ≤ x.1 ∧ x.1 < w.heap.size
  hb : β0.le β
  hH : H0.le H
  hfr : ∀ b x, H b = some x → H0 b = none → w0.heap.size ≤ b
  keep : Keep w0 w (fun b => ∃ k sz, β0 (.bor k) = some (b, sz))

def Bor (β0 : Bt) : Prop := ∀ id x, β0 id = some x → ∃ k, id = .bor k

section
variable {P : Program} {E : Env} {w0 : World} {H0 : Hp} {β0 : Bt} {H : Hp} {β : Bt} {s : St} {a : Act} {w : World}

theorem Sim.ev (h : Sim P E w0 H0 β0 H β s a w) (hG : GOK P E H0) (x : Operand) : RV P H β (evO E s.tm x) (a.eval x) := by
  cases x with
  | tmp t => exact h.tm t
  | const v => exact RV_ofVal v
  | func f => exact .fn _ _ _ _ rfl fun k y u hy => by simp at hy
  | global g =>
    simp only [evO, Act.eval]
    cases hg : E.gl g with
    | none => exact .junk ..
    | some c =>
      obtain ⟨arr, ty, fr, h1, h2⟩ := hG g c hg
      have := RV.fp (P := P) (H := H) β c 0 g 0 arr ty fr (h.hH _ _ h1) (by have := h2.1; omega) (fun k y u hy hu => (h2.2 k y u hy hu).mono h.hH (Bt.le_refl _))
      simpa using this

/-- One operation's doing, on both sides. -/
theorem Sim.step (h : Sim P E w0 H0 β0 H β s a w) (hB : Bor β0) {dst : Option Nat} {r : Res} {v : Value} {H' : Hp} {β' : Bt} {w' : World} (hd : dstOk s dst = true) (hn : dst = none → r.nw = 0)
    (ho : Out P H β s.ob w (dst.getD s.n) (s.nx (dst.getD s.n)) r v H' β' w') (rd : List Id) : Sim P E w0 H0 β0 H' β' (s.app ⟨dst, r.v, r.nw, r.up, rd⟩) (a.put dst v) w' := by
  have hold : ∀ t g b sz, β (.own t g) = some (b, sz) → w0.heap.size ≤ b ∧ b < w.heap.size := by
    intro t g b sz hx
    rcases h.dom _ _ hx with h0 | ⟨t', g', e, h1, h2⟩
    · obtain ⟨k, hk⟩ := hB _ _ h0; simp at hk
    · exact ⟨h1, h2⟩
  refine ⟨?_, ?_, ?_, ?_, ?_, ?_, Bt.le_trans h.hb ho.hb, Hp.le_trans h.hH ho.hH, ?_, ?_⟩
  · cases dst <;> simp [Act.put, St.app, h.n]
  · cases dst <;> exact h.df
  · intro t
    cases dst with
    | none => exact (h.tm t).mono ho.hH ho.hb
    | some d =>
      simp only [St.app, setT, Act.put]
      have hdn : d < a.tmps.size := by rw [h.n]; simpa [dstOk] using hd
      by_cases ht : t = d
      · subst ht
        rw [if_pos rfl]
        simpa [hdn] using ho.rv
      · rw [if_neg ht]
        have : (a.tmps.setIfInBounds d v).getD t undef = a.tmps.getD t undef := by simp [Array.getElem?_setIfInBounds_ne (fun e => ht e.symm)]
        rw [this]
        exact (h.tm t).mono ho.hH ho.hb
  · intro t g hg
    cases hx : β' (.own t g) with
    | none => rfl
    | some x =>
      exfalso
      have hnx : s.nx t ≤ g := by
        cases dst with
        | none => exact hg
        | some d =>
          simp only [St.app] at hg
          by_cases ht : t = d
          · subst ht; rw [if_pos rfl] at hg; omega
          · rw [if_neg ht] at hg; exact hg
      rcases ho.nw _ _ hx with h1 | ⟨k, h1, h2, h3⟩
      · rw [h.fr t g hnx] at h1; simp at h1
      · cases dst with
        | none => have := hn rfl; omega
        | some d =>
          simp only [Option.getD_some, Id.own.injEq] at h2
          obtain ⟨rfl, rfl⟩ := h2
          simp only [St.app, if_pos] at hg
          omega
  · exact ho.rel
  · intro id x hx
    rcases ho.nw _ _ hx with h1 | ⟨k, h1, h2, h3, h4⟩
    · rcases h.dom _ _ h1 with h0 | ⟨t, g, e, h5, h6⟩
      · exact .inl h0
      · exact .inr ⟨t, g, e, h5, Nat.lt_of_lt_of_le h6 ho.keep.size⟩
    · refine .inr ⟨_, _, h2, ?_, h3⟩
      rcases h4 with h4 | ⟨t', g', sz, h4⟩
      · exact Nat.le_trans h.keep.size h4
      · exact (hold _ _ _ _ h4).1
  · intro b x hx hx0
    cases hb : H b with
    | some y => exact h.hfr b y hb hx0
    | none =>
      rcases ho.hfr b x hx hb with h1 | ⟨t, g, sz, h1⟩
      · exact Nat.le_trans h.keep.size h1
      · exact (hold _ _ _ _ h1).1
  · refine ⟨ho.keep.os.trans h.keep.os, ho.keep.tape.trans h.keep.tape, ho.keep.output.trans h.keep.output, Nat.le_trans h.keep.size ho.keep.size, fun b hb hs => ?_⟩
    rw [ho.keep.blk b (Nat.lt_of_lt_of_le hb h.keep.size) ?_]
    · exact h.keep.blk b hb hs
    · rintro ⟨id, sz, hx⟩
      rcases h.dom _ _ hx with h0 | ⟨t, g, e, h1, h2⟩
      · obtain ⟨k, rfl⟩ := hB _ _ h0
        exact hs ⟨k, sz, h0⟩
      · simp at h1; omega

theorem Sim.drew (h : Sim P E w0 H0 β0 H β s a w) : Sim P E w0 H0 β0 H β s a { w with drawn := w.drawn + 1 } :=
  ⟨h.n, h.df, h.tm, h.fr, h.rel.drew, h.dom, h.hb, h.hH, h.hfr, ⟨h.keep.os, h.keep.tape, h.keep.output, h.keep.size, h.keep.blk⟩⟩

/-- Whether an operation is wanted. -/
theorem Sim.want (h : Sim P E w0 H0 β0 H β s a w) {ops : Array Oper} {o : Oper} {b : Bool} (hw : want ops s.tm o = some b) : Region.wanted o (yielded ops a.tmps) = b := by
  unfold Vi.want at hw
  unfold Region.wanted
  cases hg : o.guard with
  | none => simp [hg] at hw ⊢; exact hw
  | some q =>
    obtain ⟨j, wv⟩ := q
    simp only [hg] at hw ⊢
    unfold yielded
    cases hd : (ops[j]?).bind (·.dst) with
    | none => rw [hd] at hw; simp at hw
    | some t =>
      rw [hd] at hw
      simp only [Option.bind_some] at hw ⊢
      have ht := h.tm t
      split at hw
      · rename_i c e
        rw [e] at ht
        simp only [Option.some.injEq] at hw; subst hw
        cases hq : a.tmps[t]? with
        | none => simp [hq, undef] at ht; cases ht
        | some u =>
          simp [hq] at ht
          cases ht
          simp
      · rename_i l e
        rw [e] at ht
        simp only [Option.some.injEq] at hw; subst hw
        cases hq : a.tmps[t]? with
        | none => simp
        | some u =>
          simp [hq] at ht
          cases ht
          simp
      · simp at hw

theorem callFunc_run {f : FuncId} {args : Array Value} (h : callOk P f = true) (w : World) : (callFunc f args).run P w = .ok (.enter f args) w := by
  unfold callOk at h
  cases hf : P.funcs[f]? with
  | none => simp [hf] at h
  | some fn =>
    simp only [hf, Bool.and_eq_true, Bool.not_eq_true'] at h
    obtain ⟨h1, h2⟩ := h
    have h3 : ¬ fn.body = none := fun e => by rw [e] at h1; simp at h1
    have h2' : ¬ fn.name = "runtime.NumGoroutine" := by simpa using h2
    simp [callFunc, hf, h2', h3]

/-- One operation, in whatever order it comes. -/
theorem eff_sound {C : Oracle} (hC : OkC P E C) (hB : Bor β0) (hG : GOK P E H0) (h : Sim P E w0 H0 β0 H β s a w) {ops : Array Oper} {i : Nat} {o : Oper} (hi : ops[i]? = some o) {e : Eff} (he : effOf P E C ops o s = some e)
    {K : Act → World → Prop} {Q : Exit → Act → World → Prop} (hK : ∀ H' β' a' w', Sim P E w0 H0 β0 H' β' (s.app e) a' w' → K a' w') : wpOp P ops Q i K a w := by
  unfold effOf at he
  split at he
  · simp at he
  · rename_i hd
    have hd' : dstOk s o.dst = true := by simpa using hd
    unfold wpOp
    simp only [hi]
    split at he
    · simp at he
    · rename_i hw
      simp only [Option.some.injEq] at he; subst he
      rw [h.want hw]
      simp only [Bool.false_eq_true, if_false]
      refine hK H β _ _ ?_
      have := h.step hB (dst := o.dst) (r := ⟨.tup [], [], 0⟩) (v := undef) (H' := H) (β' := β) (w' := w) hd' (fun _ => rfl) (Out.val h.rel (.tup _ _ _ rfl fun k y u hy => by simp at hy)) []
      exact this
    · rename_i hw
      rw [h.want hw]
      simp only [if_true]
      refine .inl ?_
      split at he
      · simp at he
      · rename_i r l hcore
        split at he
        · simp at he
        · rename_i hnw
          simp only [Option.some.injEq] at he; subst he
          have hn : o.dst = none → r.nw = 0 := by
            intro h0
            simp [h0] at hnw
            exact hnw
          have hstep : ∀ {u : Value} {H' : Hp} {β' : Bt} {w' : World}, Out P H β s.ob w (o.dst.getD s.n) (s.nx (o.dst.getD s.n)) r u H' β' w' → K (a.put o.dst u) w' := fun ho => hK _ _ _ _ (h.step hB hd' hn ho l)
          unfold Oper.wp
          by_cases hcall : ∃ c f, o.op = .call c ∧ c.callee = .value f
          · obtain ⟨c, f, ho, hcf⟩ := hcall
            have hcore' : (vCall P E C (evO E s.tm f) (c.args.toList.map (evO E s.tm)) (o.dst.getD s.n) (s.nx (o.dst.getD s.n))).run s.ob = some (r, l) := by
              unfold core at hcore
              simp only [ho, hcf] at hcore
              exact hcore
            obtain ⟨fid, cs, e1, e2, e3⟩ := vCall_sound hC (hG.mono h.hH) h.rel (fun k hk => h.fr _ k hk) (h.ev hG f) (vs := c.args.map a.eval) ⟨by simp, fun k y u hy hu => RV_toList (h.ev hG) c.args k y u hy hu⟩ hcore'
            have hrun : (execOp a.eval o).run P w = .ok (.enter fid (c.args.map a.eval ++ cs)) w := by
              unfold execOp
              simp only [ho, Sem.run_bind, resolve, hcf, Deferred.ofValue, e1, Sem.run_pure, Result.andThen_ok, invoke]
              rw [callFunc_run e2]
              simp
            rw [hrun, Oper.upon_enter]
            refine e3.mono ?_
            rintro e w' ⟨u, H', β', rfl, ho'⟩
            exact hstep ho'
          · obtain ⟨u, H', β', w', h1, h2⟩ := core_done E C (h.ev hG) h.rel (h.fr _ _ (Nat.le_refl _)) (fun c f hc hf => hcall ⟨c, f, hc, hf⟩) hcore
            rcases h1 with h1 | ⟨h1, rfl⟩
            · rw [h1, Oper.upon_value]; exact hstep h2
            · rw [h1, Oper.upon_skip]; exact hstep h2

/-- A region in the order of the text. -/
theorem runOps_sound {C : Oracle} (hC : OkC P E C) (hB : Bor β0) (hG : GOK P E H0) {ops : Array Oper} {Q : Exit → Act → World → Prop} : ∀ (m k : Nat) (H : Hp) (β : Bt) (s s' : St) (a : Act) (w : World), k + m = ops.size → Sim P E w0 H0 β0 H β s a w →
    runOps P E C ops (ops.toList.drop k) s = some s' → (∀ H' β' a' w', Sim P E w0 H0 β0 H' β' s' a' w' → Q .normal a' w') → wpOps P ops Q (List.range' k m) a w
  | 0, k, H, β, s, s', a, w, hk, h, hr, hQ => by
    have : ops.toList.drop k = [] := by apply List.drop_eq_nil_of_le; simp; omega
    rw [this] at hr
    simp only [runOps, Option.some.injEq] at hr; subst hr
    exact hQ _ _ _ _ h
  | m + 1, k, H, β, s, s', a, w, hk, h, hr, hQ => by
    have hlt : k < ops.size := by omega
    have hd : ops.toList.drop k = ops[k] :: ops.toList.drop (k + 1) := by
      rw [List.drop_eq_getElem_cons (by simpa using hlt)]; simp
    rw [hd] at hr
    simp only [runOps] at hr
    rw [List.range'_succ, wpOps_cons]
    cases he : effOf P E C ops ops[k] s with
    | none => rw [he] at hr; simp at hr
    | some e =>
      rw [he] at hr
      exact eff_sound hC hB hG h (i := k) (by simp [hlt]) he fun H' β' a' w' hs => runOps_sound hC hB hG m (k + 1) H' β' _ s' a' w' (by omega) hs hr hQ
end
end Go.Vi
