/- Vi, part 16: code, functions, calls within calls: what the interpreter answers, the machine's call does. -/
import Derived.Test.YtbiifkfehfapkaaDoorVi15
import Derived.LoopN
set_option linter.unusedVariables false
set_option linter.unusedSimpArgs false
namespace Go.Vi

def exOf : Ex → Exit
  | .normal => .normal
  | .exit id => .exit id
  | .ret => .ret

section
variable {P : Program} {E : Env} {C : Oracle} {w0 : World} {H0 : Hp} {β0 : Bt}

theorem evC_sound (hmix : P.follows .mixedOrders = true) (hC : OkC P E C) (hB : Bor β0) (hG : GOK P E H0) (fuel : Nat) : ∀ (c : Code) (H : Hp) (β : Bt) (s s' : St) (e : Ex) (a : Act) (w : World) (Q : Exit → Act → World → Prop),
    evC P E C fuel c s = some (e, s') → Sim P E w0 H0 β0 H β s a w → (∀ H' β' a' w', Sim P E w0 H0 β0 H' β' s' a' w' → Q (exOf e) a' w') → c.wp P Q a w := by
  intro c
  induction c with
  | skip => intro H β s s' e a w Q h hs hQ; simp only [evC, Option.some.injEq, Prod.mk.injEq] at h; obtain ⟨rfl, rfl⟩ := h; exact wp_skip (hQ _ _ _ _ hs)
  | label l => intro H β s s' e a w Q h hs hQ; simp only [evC, Option.some.injEq, Prod.mk.injEq] at h; obtain ⟨rfl, rfl⟩ := h; exact wp_label (hQ _ _ _ _ hs)
  | exit id => intro H β s s' e a w Q h hs hQ; simp only [evC, Option.some.injEq, Prod.mk.injEq] at h; obtain ⟨rfl, rfl⟩ := h; exact wp_exit (hQ _ _ _ _ hs)
  | ret => intro H β s s' e a w Q h hs hQ; simp only [evC, Option.some.injEq, Prod.mk.injEq] at h; obtain ⟨rfl, rfl⟩ := h; exact wp_ret (hQ _ _ _ _ hs)
  | region id ops draw =>
    intro H β s s' e a w Q h hs hQ
    have key : e = .normal := (region_sound hmix hC hB hG hs h (Q := fun _ _ _ => True) (fun _ _ _ _ _ => trivial)).1
    subst key
    exact (region_sound hmix hC hB hG hs h hQ).2
  | seq x y ihx ihy =>
    intro H β s s' e a w Q h hs hQ
    simp only [evC] at h
    refine wp_seq ?_
    split at h
    · rename_i s1 h1
      exact ihx H β s s1 .normal a w _ h1 hs fun H' β' a' w' hs' => ihy H' β' s1 s' e a' w' Q h hs' hQ
    · rename_i hne
      refine ihx H β s s' e a w _ h hs fun H' β' a' w' hs' => ?_
      cases e with
      | normal => exact absurd h (hne s')
      | exit id => exact hQ _ _ _ _ hs'
      | ret => exact hQ _ _ _ _ hs'
  | cond x c1 c2 ih1 ih2 =>
    intro H β s s' e a w Q h hs hQ
    simp only [evC] at h
    have hx := hs.ev hG x
    split at h
    · rename_i hb; rw [hb] at hx
      cases hq : a.eval x <;> rw [hq] at hx <;> cases hx
      exact wp_cond_true hq (ih1 H β s s' e a w Q h hs hQ)
    · rename_i hb; rw [hb] at hx
      cases hq : a.eval x <;> rw [hq] at hx <;> cases hx
      exact wp_cond_false hq (ih2 H β s s' e a w Q h hs hQ)
    · simp at h
  | block id c ih =>
    intro H β s s' e a w Q h hs hQ
    simp only [evC] at h
    refine wp_block ?_
    split at h
    · rename_i id' s1 h1
      split at h
      · rename_i hid
        simp only [Option.some.injEq, Prod.mk.injEq] at h; obtain ⟨rfl, rfl⟩ := h
        refine ih H β s s1 (.exit id') a w _ h1 hs fun H' β' a' w' hs' => ?_
        simp only [exOf, Exit.inBlock, if_pos hid]
        exact hQ _ _ _ _ hs'
      · rename_i hid
        simp only [Option.some.injEq, Prod.mk.injEq] at h; obtain ⟨rfl, rfl⟩ := h
        refine ih H β s s1 (.exit id') a w _ h1 hs fun H' β' a' w' hs' => ?_
        simp only [exOf, Exit.inBlock, if_neg hid]
        exact hQ _ _ _ _ hs'
    · rename_i hne
      refine ih H β s s' e a w _ h hs fun H' β' a' w' hs' => ?_
      cases e with
      | normal => exact hQ _ _ _ _ hs'
      | exit id' => exact absurd h (hne id' s')
      | ret => exact hQ _ _ _ _ hs'
  | loop c ih =>
    intro H β s s' e a w Q h hs hQ
    simp only [evC] at h
    have key : ∀ (n : Nat) (H : Hp) (β : Bt) (s : St) (a : Act) (w : World), iter (evC P E C fuel c) n s = some (e, s') → Sim P E w0 H0 β0 H β s a w → Code.rounds P c Q n a w := by
      intro n
      induction n with
      | zero => intro H β s a w h _; simp [iter] at h
      | succ n ihn =>
        intro H β s a w h hs
        rw [rounds_succ]
        simp only [iter] at h
        split at h
        · rename_i s1 h1
          exact ih H β s s1 .normal a w _ h1 hs fun H' β' a' w' hs' => ihn H' β' s1 a' w' h hs'
        · rename_i hne
          refine ih H β s s' e a w _ h hs fun H' β' a' w' hs' => ?_
          cases e with
          | normal => exact absurd h (hne s')
          | exit id => exact hQ _ _ _ _ hs'
          | ret => exact hQ _ _ _ _ hs'
    exact wp_loop_rounds fuel (key fuel H β s a w h hs)
  | _ => intro H β s s' e a w Q h hs hQ; simp [evC] at h

/-! ### results -/
theorem mapRes_run {H : Hp} {β : Bt} {s : St} {a : Act} {w : World} (hs : Sim P E w0 H0 β0 H β s a w) : ∀ {rs : List ResultVar} {vs : List V} {rd : List Id}, (mapRes P s rs).run s.ob = some (vs, rd) →
    ∃ us : List Value, (rs.mapM fun r => (match r with | .tmp t => Pure.pure (a.tmps.getD t undef) | .cell p t => do loadVar t (← asAddr (a.tmps.getD p undef)) : Sem Value)).run P w = .ok us w ∧ us.length = vs.length ∧ ∀ (k : Nat) (y : V) (u : Value), vs[k]? = some y → us[k]? = some u → RV P H β y u
  | [], vs, rd, h => by
    have := Rd.run_pure h; simp only [Prod.mk.injEq] at this; obtain ⟨rfl, rfl⟩ := this
    exact ⟨[], by simp, rfl, fun k y u hy => by simp at hy⟩
  | r :: rs, vs, rd, h => by
    obtain ⟨v, l1, l2, h1, h2, _⟩ := Rd.run_bind h
    obtain ⟨vs', l3, l4, h3, h4, _⟩ := Rd.run_bind h2
    have := Rd.run_pure h4; simp only [Prod.mk.injEq] at this; obtain ⟨rfl, rfl⟩ := this
    obtain ⟨us, q1, q2, q3⟩ := mapRes_run hs h3
    have hr : ∃ u, (match r with | .tmp t => Pure.pure (a.tmps.getD t undef) | .cell p t => do loadVar t (← asAddr (a.tmps.getD p undef)) : Sem Value).run P w = .ok u w ∧ RV P H β v u := by
      cases r with
      | tmp t =>
        have := Rd.run_pure h1; simp only [Prod.mk.injEq] at this; obtain ⟨rfl, rfl⟩ := this
        exact ⟨_, by simp, hs.tm t⟩
      | cell p t =>
        simp only [resOf] at h1
        have hp := hs.tm p
        split at h1
        · rename_i id off e
          rw [e] at hp
          obtain ⟨o, l', ho, h5, _⟩ := Rd.run_look h1
          obtain ⟨h5, _⟩ := Rd.run_opt h5
          obtain ⟨b, sz, arr, fr, p1, p2, p3, p4, p5, p6, p7⟩ := (hs.rel.obj _ _ ho).out
          generalize hq : a.tmps.getD p undef = q at hp
          cases hp with
          | lp _ _ _ b' sz' hβ =>
            rw [hβ] at p1; cases p1
            obtain ⟨u, r1, r2⟩ := run_ld (P := P) p2 p5 h5
            refine ⟨u, ?_, r2⟩
            simp only [hq, Sem.run_bind, asAddr, Sem.run_pure, Result.andThen_ok]
            simpa using r1
        · exact (Rd.run_fail h1).elim
    obtain ⟨u, r1, r2⟩ := hr
    refine ⟨u :: us, ?_, by simp [q2], fun k y x hy hx => ?_⟩
    · simp only [List.mapM_cons, Sem.run_bind]
      rw [r1, Result.andThen_ok, q1, Result.andThen_ok, Sem.run_pure]
    · cases k with
      | zero => simp at hy hx; subst hy; subst hx; exact r2
      | succ k => exact q3 k y x (by simpa using hy) (by simpa using hx)

theorem slIds_look {ob : Id → Option Ob} : ∀ (d : Nat) (nm : Id → Option Id) (bs : Bool) (v : V) (s' rd : List Id), (slIds P nm bs d v).run ob = some (s', rd) → ∀ id ∈ s', ∃ o, ob id = some o := by
  intro d
  induction d with
  | zero => intro nm bs v s' rd h id hi; have := Rd.run_pure h; simp only [Prod.mk.injEq] at this; rw [this.1] at hi; simp at hi
  | succ d ih =>
    have mp : ∀ (nm : Id → Option Id) (bs : Bool) (l : List V) (s' rd : List Id), (mapIds (slIds P nm bs d) l).run ob = some (s', rd) → ∀ id ∈ s', ∃ o, ob id = some o := by
      intro nm bs l
      induction l with
      | nil => intro s' rd h id hi; have := Rd.run_pure h; simp only [Prod.mk.injEq] at this; rw [this.1] at hi; simp at hi
      | cons x l ihl =>
        intro s' rd h id hi
        obtain ⟨p, q1, q2, q3, q4, _⟩ := Rd.run_bind h
        obtain ⟨p', q5, q6, q7, q8, _⟩ := Rd.run_bind q4
        have := Rd.run_pure q8; simp only [Prod.mk.injEq] at this; rw [this.1] at hi
        rcases List.mem_append.1 hi with hi | hi
        · exact ih _ _ _ _ _ q3 id hi
        · exact ihl _ _ q7 id hi
    intro nm bs v s' rd h id hi
    cases v with
    | sl id0 off n e x =>
      simp only [slIds] at h
      split at h
      · have := Rd.run_pure h; simp only [Prod.mk.injEq] at this; rw [this.1] at hi; simp at hi
      · obtain ⟨o, l', ho, hx, _⟩ := Rd.run_look h
        split at hx
        · split at hx
          · have := Rd.run_pure hx; simp only [Prod.mk.injEq] at this; rw [this.1] at hi; simp at hi; subst hi; exact ⟨o, ho⟩
          · obtain ⟨p, q1, q2, q3, q4, _⟩ := Rd.run_bind hx
            have := Rd.run_pure q4; simp only [Prod.mk.injEq] at this; rw [this.1] at hi
            rcases List.mem_cons.1 hi with rfl | hi
            · exact ⟨o, ho⟩
            · exact mp _ _ _ _ _ q3 id hi
        · exact (Rd.run_fail hx).elim
    | fn f0 caps0 => exact mp _ _ _ _ _ h id hi
    | agg l0 =>
      simp only [slIds] at h
      split at h
      · have := Rd.run_pure h; simp only [Prod.mk.injEq] at this; rw [this.1] at hi; simp at hi
      · exact mp _ _ _ _ _ h id hi
    | tup l0 =>
      simp only [slIds] at h
      split at h
      · have := Rd.run_pure h; simp only [Prod.mk.injEq] at this; rw [this.1] at hi; simp at hi
      · exact mp _ _ _ _ _ h id hi
    | _ => have := Rd.run_pure h; simp only [Prod.mk.injEq] at this; rw [this.1] at hi; simp at hi

theorem mapIds_look {ob : Id → Option Ob} {d : Nat} {nm : Id → Option Id} {bs : Bool} : ∀ {l : List V} {s' rd : List Id}, (mapIds (slIds P nm bs d) l).run ob = some (s', rd) → ∀ id ∈ s', ∃ o, ob id = some o
  | [], s', rd, h => fun id hi => by have := Rd.run_pure h; simp only [Prod.mk.injEq] at this; rw [this.1] at hi; simp at hi
  | x :: l, s', rd, h => fun id hi => by
    obtain ⟨p, q1, q2, q3, q4, _⟩ := Rd.run_bind h
    obtain ⟨p', q5, q6, q7, q8, _⟩ := Rd.run_bind q4
    have := Rd.run_pure q8; simp only [Prod.mk.injEq] at this; rw [this.1] at hi
    rcases List.mem_append.1 hi with hi | hi
    · exact slIds_look _ _ _ _ _ _ q3 id hi
    · exact mapIds_look q7 id hi

theorem bors_get : ∀ (n j k : Nat), k < n → (bors j n)[k]? = some (.bor (j + k))
  | 0, j, k, h => by omega
  | n + 1, j, 0, h => by simp [bors]
  | n + 1, j, k + 1, h => by simp only [bors, List.getElem?_cons_succ]; rw [bors_get n (j + 1) k (by omega)]; congr 2; omega

theorem bors_len : ∀ (n j : Nat), (bors j n).length = n
  | 0, _ => rfl
  | n + 1, j => by simp [bors, bors_len n]

/-- What is handed out. -/
theorem pack_sound (hB : ∀ id x, β0 id = some x → ∃ k, id = .bor k) {H : Hp} {β : Bt} {st : St} {a : Act} {w : World} (hs : Sim P E w0 H0 β0 H β st a w) {own : Bool} {fn : Func} {nb : Nat} {res : V} {bo' ro : List Ob} {rd : List Id}
    (h : (pack P own fn nb st).run st.ob = some ((res, bo', ro), rd)) : ∃ v, (results fn a.tmps).run P w = .ok v w ∧ ∃ H' β', Post P H0 β0 w0 res bo' ro v H' β' w := by
  have hr := hs.rel
  simp only [pack] at h
  obtain ⟨vs, l1, l2, h1, h, _⟩ := Rd.run_bind h
  generalize hids : ((dedup (vs.flatMap (refs own depth))).filter isOwn) = ids at h
  have hnd : ids.Nodup := by rw [← hids]; exact (nodup_dedup _).filter _
  have hio : ∀ id ∈ ids, isOwn id = true := by intro id hi; rw [← hids] at hi; exact (List.mem_filter.1 hi).2
  obtain ⟨vs', l3, l4, h2, h, _⟩ := Rd.run_bind h
  obtain ⟨ros, l5, l6, h3, h, _⟩ := Rd.run_bind h
  obtain ⟨ro0, l7, l8, h4, h, _⟩ := Rd.run_bind h
  obtain ⟨bos, l9, l10, h5, h, _⟩ := Rd.run_bind h
  obtain ⟨bo0, l11, l12, h6, h, _⟩ := Rd.run_bind h
  obtain ⟨s1, l13, l14, h7, h, _⟩ := Rd.run_bind h
  obtain ⟨s2, l15, l16, h8, h, _⟩ := Rd.run_bind h
  split at h
  · rename_i hcond
    simp only [Bool.and_eq_true, List.all_eq_true] at hcond
    obtain ⟨⟨⟨hso, hap⟩, hrnv⟩, hbnv⟩ := hcond
    have := Rd.run_pure h; simp only [Prod.mk.injEq] at this; obtain ⟨⟨rfl, rfl, rfl⟩, rfl⟩ := this
    obtain ⟨us, u1, u2, u3⟩ := mapRes_run hs h1
    obtain ⟨m1, m2⟩ := mapRd_run h2
    obtain ⟨r1, r2⟩ := lookAll_run h3
    obtain ⟨r3, r4⟩ := nrmObs_run h4
    obtain ⟨b1, b2⟩ := lookAll_run h5
    obtain ⟨b3, b4⟩ := nrmObs_run h6
    let s := s1 ++ s2
    let H' := hcall H β w s
    let β' : Bt := fun id => match id with
      | .bor k => β0 (.bor k)
      | .ret k => (ids[k]?).bind β
      | .own _ _ => none
    have hβbor : ∀ k, β (.bor k) = β0 (.bor k) := by
      intro k
      cases hx : β (.bor k) with
      | none =>
        cases hy : β0 (.bor k) with
        | none => rfl
        | some y => rw [hs.hb _ _ hy] at hx; simp at hx
      | some x =>
        rcases hs.dom _ _ hx with h0 | ⟨t, g, e, _⟩
        · exact h0.symm
        · simp at e
    have hlook : ∀ id ∈ s, ∃ o, st.ob id = some o := fun id hi => by
      rcases List.mem_append.1 hi with hi | hi
      · exact mapIds_look h7 id hi
      · exact mapIds_look h8 id hi
    have hH' : H.le H' := hcall_le hr s
    have hsb : ∀ id ∈ s, ∀ b sz, β id = some (b, sz) → H' b = w.heap[b]? := fun id hi b sz hb => hcall_at hi hb
    have hHnone : ∀ {id : Id} {o : Ob} {b sz : Nat}, st.ob id = some o → β id = some (b, sz) → id ∉ s → H' b = H b := by
      intro id o b sz ho hb hi
      simp only [H', hcall]
      rw [if_neg]
      rintro ⟨id', sz', hi', hb'⟩
      obtain ⟨o', ho'⟩ := hlook id' hi'
      exact hi (hr.inj _ _ _ _ _ _ _ ho ho' hb hb' ▸ hi')
    have hnm : ∀ id id', retNm ids id = some id' → β' id' = β id := by
      intro id id' hi
      cases id with
      | bor k => simp [retNm] at hi; subst hi; exact (hβbor k).symm
      | own t g =>
        simp only [retNm] at hi
        obtain ⟨k, hk, rfl⟩ := Option.map_eq_some_iff.1 hi
        simp [β', idx_some hk]
      | ret j =>
        simp only [retNm] at hi
        obtain ⟨k, hk, rfl⟩ := Option.map_eq_some_iff.1 hi
        simp [β', idx_some hk]
    have hPW : us.length = vs'.length ∧ ∀ (k : Nat) (y : V) (u : Value), vs'[k]? = some y → us[k]? = some u → RV P H' β' y u := by
      refine ⟨by omega, fun k y u hy hu => ?_⟩
      have hk : k < vs.length := by rw [← m1]; exact (List.getElem?_eq_some_iff.1 hy).1
      obtain ⟨v', x1, p1, p2⟩ := m2 k _ (List.getElem?_eq_getElem hk)
      rw [hy] at p2; cases p2
      obtain ⟨s', x2, p3, p4⟩ := mapIds_run h7 k _ (List.getElem?_eq_getElem hk)
      exact nrm_sound hr hH' _ _ _ _ _ _ _ _ _ _ (u3 k _ u (List.getElem?_eq_getElem hk) hu) p1 p3 hnm (fun id hi => hsb id (List.mem_append.2 (.inl (p4 id hi))))
    -- objects that are handed on: from the names
    have hobj : ∀ (os os' : List Ob), (∀ (k : Nat) (o : Ob), os[k]? = some o → o.fz = false ∧ ∃ c r, (mapRd (nrm P (fun _ => none) false depth) o.cells).run (st.ob) = some (c, r) ∧ os'[k]? = some ⟨o.ty, c, false⟩) →
        (∀ o ∈ os, o ∈ ros ++ bos) → ∀ (k : Nat) (o : Ob) (id : Id) (o' : Ob) (idn : Id), st.ob id = some o → os[k]? = some o → os'[k]? = some o' → id ∉ s → (∀ x, β id = some x → β' idn = some x) → ObAt P H' β' w idn o' := by
      intro os os' hos hmem k o id o' idn ho hk hk' hni hbn
      obtain ⟨pf, c, x1, p3, p4⟩ := hos k o hk
      rw [hk'] at p4; cases p4
      obtain ⟨b, sz, arr, fr, q1, q2, q3, q4, q5, q6, q7⟩ := (hr.obj _ _ ho).out
      obtain ⟨z1, z2⟩ := mapRd_run p3
      refine ⟨b, sz, arr, fr, hbn _ q1, q2, q3, q4, ⟨by rw [z1]; exact q5.1, fun j y u hy hu => ?_⟩, by simp, fun _ => by rw [hHnone ho q1 hni]; exact q7 pf⟩
      have hj : j < o.cells.length := by rw [← z1]; exact (List.getElem?_eq_some_iff.1 hy).1
      obtain ⟨v', x2, y1, y2⟩ := z2 j _ (List.getElem?_eq_getElem hj)
      rw [hy] at y2; cases y2
      have hmem : ∃ m : Nat, ((ros ++ bos).flatMap Ob.cells)[m]? = some o.cells[j] := by
        have : o.cells[j] ∈ (ros ++ bos).flatMap Ob.cells := List.mem_flatMap.2 ⟨o, hmem o (List.mem_of_getElem? hk), List.getElem_mem hj⟩
        obtain ⟨m, hm, he⟩ := List.getElem_of_mem this
        exact ⟨m, by rw [List.getElem?_eq_getElem hm, he]⟩
      obtain ⟨m, hm⟩ := hmem
      obtain ⟨s', x3, p5, p6⟩ := mapIds_run h8 m _ hm
      exact nrm_sound hr hH' _ _ _ _ _ _ _ _ _ _ (q5.2 j _ u (List.getElem?_eq_getElem hj) hu) y1 p5 (fun _ _ h => by simp at h) (fun id hi => hsb id (List.mem_append.2 (.inr (p6 id hi))))
    -- each handed object and its name here
    have hname : ∀ idn o', obR bo' ro idn = some o' → ∃ id o, st.ob id = some o ∧ id ∉ s ∧ (∀ x, β id = some x → β' idn = some x) ∧ ObAt P H' β' w idn o' ∧ ((∃ k, idn = .bor k ∧ id = .bor k) ∨ (∃ k, idn = .ret k ∧ ids[k]? = some id)) := by
      intro idn o' ho'
      cases idn with
      | own t g => simp [obR] at ho'
      | bor k =>
        simp only [obR] at ho'
        have hk : k < nb := by have := (List.getElem?_eq_some_iff.1 ho').1; rw [b3, b1, bors_len] at this; exact this
        obtain ⟨o, p1, p2⟩ := b2 k _ (bors_get nb 0 k hk)
        rw [Nat.zero_add] at p1
        have hni : Id.bor k ∉ s := fun hi => by have := hso _ hi; simp [isOwn] at this
        exact ⟨.bor k, o, p1, hni, fun x hx => by rw [hβbor] at hx; exact hx, hobj bos bo' b4 (fun o ho => List.mem_append.2 (.inr ho)) k o (.bor k) o' (.bor k) p1 p2 ho' hni (fun x hx => by rw [hβbor] at hx; exact hx), .inl ⟨k, rfl, rfl⟩⟩
      | ret k =>
        simp only [obR] at ho'
        have hk : k < ids.length := by have := (List.getElem?_eq_some_iff.1 ho').1; rw [r3, r1] at this; exact this
        obtain ⟨o, p1, p2⟩ := r2 k _ (List.getElem?_eq_getElem hk)
        have hni : ids[k] ∉ s := apart_not hap (List.getElem_mem hk)
        have hbn : ∀ x, β ids[k] = some x → β' (.ret k) = some x := fun x hx => by simp [β', hk, hx]
        exact ⟨ids[k], o, p1, hni, hbn, hobj ros ro r4 (fun o ho => List.mem_append.2 (.inl ho)) k o ids[k] o' (.ret k) p1 p2 ho' hni hbn, .inr ⟨k, rfl, List.getElem?_eq_getElem hk⟩⟩
    refine ⟨if h : us.toArray.size = 1 then us.toArray[0] else .tuple us.toArray, ?_, H', β', ?_⟩
    · unfold results
      simp only [Sem.run_bind]
      have hm : (fn.results.mapM fun r => (match r with | .tmp t => Pure.pure (a.tmps.getD t undef) | .cell p t => do loadVar t (← asAddr (a.tmps.getD p undef)) : Sem Value)).run P w = .ok us.toArray w := by
        have : fn.results = fn.results.toList.toArray := by simp
        rw [this, List.mapM_toArray]
        simp only [Sem.run_map, u1, Result.andThen_ok]
      refine (congrArg (fun x => Result.andThen x _) hm).trans ?_
      simp
    · refine ⟨Hp.le_trans hs.hH hH', fun id x hx => ?_, fun id x hx => ?_, ?_, ⟨fun idn o' ho' => ?_, fun id1 id2 o1 o2 b sz sz' ho1 ho2 hb1 hb2 => ?_, fun b x hx => ?_⟩, hs.keep, fun b x hx hx0 => ?_⟩
      · obtain ⟨k, rfl⟩ := hB id x hx; exact hx
      · cases id with
        | own => simp [β'] at hx
        | bor k => exact .inl hx
        | ret k =>
          right
          simp only [β', Option.bind_eq_some_iff] at hx
          obtain ⟨id, hk, hx⟩ := hx
          have hklt := (List.getElem?_eq_some_iff.1 hk).1
          refine ⟨k, rfl, by rw [r3, r1]; exact hklt, ?_⟩
          rcases hs.dom _ _ hx with h0 | ⟨t, g, e, h1, h2⟩
          · obtain ⟨j, rfl⟩ := hB _ _ h0
            have := hio _ (List.mem_of_getElem? hk)
            simp [isOwn] at this
          · exact ⟨h1, h2⟩
      · obtain ⟨q1, q2⟩ := hPW
        match vs', us, q1, q2 with
        | [v], [u], _, q2 => simpa using q2 0 v u rfl rfl
        | [], [], _, q2 => simpa using (RV.tup (P := P) (H := H') β' [] #[] rfl fun k y u hy => by simp at hy)
        | v1 :: v2 :: vr, x1 :: x2 :: xr, q1, q2 =>
          have hne : ¬ ((x1 :: x2 :: xr).toArray.size = 1) := by simp
          rw [dif_neg hne]
          exact .tup _ _ _ (by simpa using q1) fun k y u hy hu => q2 k y u hy (by simpa using hu)
      · obtain ⟨_, _, _, _, _, h, _⟩ := hname idn o' ho'; exact h
      · obtain ⟨i1, p1, p2, p3, p4, p5, p6⟩ := hname id1 o1 ho1
        obtain ⟨i2, t1, t2, t3, t4, t5, t6⟩ := hname id2 o2 ho2
        obtain ⟨b', s', _, _, q1, _⟩ := (hr.obj _ _ p2).out
        obtain ⟨b'', s'', _, _, q2, _⟩ := (hr.obj _ _ t2).out
        have e1 := p4 _ q1
        have e2 := t4 _ q2
        rw [hb1] at e1; cases e1
        rw [hb2] at e2; cases e2
        have hii := hr.inj _ _ _ _ _ _ _ p2 t2 q1 q2
        rcases p6 with ⟨k, e1, e2⟩ | ⟨k, e1, e2⟩ <;> rcases t6 with ⟨k', f1, f2⟩ | ⟨k', f1, f2⟩
        · rw [e1, f1]; rw [e2, f2] at hii; simpa using hii
        · exfalso
          have := hio _ (List.mem_of_getElem? f2)
          rw [← hii, e2] at this; simp [isOwn] at this
        · exfalso
          have := hio _ (List.mem_of_getElem? e2)
          rw [hii, f2] at this; simp [isOwn] at this
        · rw [e1, f1]
          rw [hii] at e2
          have h1 := idx_nodup hnd e2
          have h2 := idx_nodup hnd f2
          rw [h1] at h2; simpa using h2
      · simp only [H', hcall] at hx
        split at hx
        · exact hx
        · exact hr.hp b x hx
      · simp only [H', hcall] at hx
        split at hx
        · rename_i hex
          obtain ⟨id, sz, hi, hb⟩ := hex
          rcases hs.dom _ _ hb with h0 | ⟨t, g, e, h1, h2⟩
          · obtain ⟨j, rfl⟩ := hB _ _ h0
            have := hso _ hi
            simp [isOwn] at this
          · exact h1
        · exact hs.hfr b x hx hx0
  · exact (Rd.run_fail h).elim

theorem body_sound (hmix : P.follows .mixedOrders = true) (hC : OkC P E C) {fuel : Nat} {f : FuncId} {args : List V} {bo : List Ob} {res : V} {bo' ro : List Ob} (h : body P E C fuel f args bo = some (res, bo', ro)) : Con P E f args bo res bo' ro := by
  intro H0 β0 w0 vs hG hdom hrel hPW
  unfold body at h
  cases hf : P.funcs[f]? with
  | none => rw [hf] at h; simp at h
  | some fn =>
    rw [hf] at h
    simp only at h
    cases hb : fn.body with
    | none => rw [hb] at h; simp at h
    | some c =>
      rw [hb] at h
      simp only at h
      have hB : Bor β0 := fun id x hx => by obtain ⟨k, _, e⟩ := hdom id x hx; exact ⟨k, e⟩
      have hstart : Sim P E w0 H0 β0 H0 β0 (start fn args bo) { tmps := vs ++ Array.replicate (fn.ntmps - vs.size) undef, defers := [] } w0 := by
        refine ⟨by simp [start, hPW.1], rfl, fun t => ?_, fun t g _ => ?_, ?_, fun id x hx => .inl hx, Bt.le_refl _, Hp.le_refl _, fun b x h1 h2 => by simp [h1] at h2, Keep.refl _ _⟩
        · simp only [start]
          by_cases ht : t < args.length
          · have h1 : args[t]? = some args[t] := List.getElem?_eq_getElem ht
            have h2 : vs[t]? = some (vs[t]'(by rw [hPW.1]; exact ht)) := by simp
            have h3 : (vs ++ Array.replicate (fn.ntmps - vs.size) undef).getD t undef = vs[t]'(by rw [hPW.1]; exact ht) := by
              rw [Array.getD_eq_getD_getElem?, Array.getElem?_append_left (by rw [hPW.1]; exact ht), h2]; rfl
            rw [h3, List.getD_eq_getElem?_getD, h1]
            exact hPW.2 t _ _ h1 h2
          · have h1 : args.getD t (.tup []) = .tup [] := by rw [List.getD_eq_getElem?_getD, List.getElem?_eq_none (by omega)]; rfl
            have h3 : (vs ++ Array.replicate (fn.ntmps - vs.size) undef).getD t undef = undef := by
              rw [Array.getD_eq_getD_getElem?, Array.getElem?_append_right (by rw [hPW.1]; omega), Array.getElem?_replicate]
              split <;> rfl
            rw [h1, h3]
            exact .tup _ _ _ rfl fun k y u hy => by simp at hy
        · cases hx : β0 (.own t g) with
          | none => rfl
          | some x => obtain ⟨k, _, e⟩ := hdom _ _ hx; simp at e
        · have : (start fn args bo).ob = obB bo := by funext id; cases id <;> rfl
          rw [this]; exact hrel
      have hfin : ∀ (s : St) (Hx : Hp) (βx : Bt) (a' : Act) (w' : World), Sim P E w0 H0 β0 Hx βx s a' w' → ((pack P (E.ownR f) fn bo.length s).run s.ob).map (·.1) = some (res, bo', ro) →
          a'.defers = [] ∧ ∃ v, (results fn a'.tmps).run P w' = .ok v w' ∧ ∃ v_1 H' β', Ending.returned v = Ending.returned v_1 ∧ Post P H0 β0 w0 res bo' ro v_1 H' β' w' := by
        intro s Hx βx a' w' hs hp
        obtain ⟨⟨q, l⟩, hp1, hp2⟩ := Option.map_eq_some_iff.1 hp
        simp only at hp2; subst hp2
        obtain ⟨v, r1, H', β', r2⟩ := pack_sound hB hs hp1
        exact ⟨hs.df, v, r1, v, H', β', rfl, r2⟩
      refine calls_of_wp hf hb ?_
      split at h
      · rename_i s he
        exact evC_sound hmix hC hB hG fuel c H0 β0 _ s .normal _ w0 _ he hstart fun Hx βx a' w' hs => hfin s Hx βx a' w' hs h
      · rename_i s he
        exact evC_sound hmix hC hB hG fuel c H0 β0 _ s .ret _ w0 _ he hstart fun Hx βx a' w' hs => hfin s Hx βx a' w' hs h
      · simp at h

/-- The interpreter's answer is the machine's. -/
theorem callV_sound (hmix : P.follows .mixedOrders = true) {prim : FuncId → Option (Oracle → List V → List Ob → Option (V × List Ob × List Ob))}
    (hprim : ∀ f F, prim f = some F → ∀ C, OkC P E C → ∀ args bo r bo' ro, F C args bo = some (r, bo', ro) → Con P E f args bo r bo' ro) : ∀ n, OkC P E (callV P E prim n)
  | 0 => fun f args bo r bo' ro h => by simp [callV] at h
  | n + 1 => fun f args bo r bo' ro h => by
    have ih := callV_sound hmix hprim n
    simp only [callV] at h
    split at h
    · rename_i hok
      refine ⟨?_, hok⟩
      split at h
      · rename_i F hF
        exact hprim f F hF _ ih args bo r bo' ro h
      · exact body_sound hmix ih h
    · simp at h
end
end Go.Vi
