/- Vi, part 34: an operation of a region, as a proposition, is the interpreter's. -/
import Derived.Test.YtbiifkfehfapkaaDoorWf
import Derived.Test.YtbiifkfehfapkaaDoorWd
import Derived.LoadGo2
set_option linter.unusedVariables false
set_option linter.unusedSimpArgs false
namespace Go.Vi
section
variable {P : Program} {E : Env} {S : Sy} {ob : Id → Option Ob}

theorem noC_ok : OkC P E noC := fun f args bo r bo' ro h => by simp [noC] at h

theorem ldS_sound {e : TypeId} {w : View} (hw : View.Ok P e w) {fo : Nat} {ty : TypeId} {a : V} {k : V → List Id → Prop} (h : ldS P w fo ty a ob k) :
    ∃ v l, (match a with | .lp id off => Rd.look id fun ob => val (ld P ty ob.cells off) | .fp c off => val (ld P ty c off) | _ => (.fail : Rd Res)).run ob = some (⟨v, [], 0⟩, l) ∧ k v l := by
  unfold ldS at h
  cases a with
  | lp id off =>
    simp only at h ⊢
    split at h
    · rename_i o ho
      obtain ⟨l, i, hc, rfl, hi, h⟩ := h
      obtain ⟨v, hv, hk⟩ := optK_some (h _ (List.getElem?_eq_getElem hi))
      refine ⟨v, [id], ?_, hk⟩
      refine Rd.look_run ho ?_
      rw [hc]
      exact val_run (hw.ld_part (List.getElem?_eq_getElem hi) hv)
    · exact h.elim
  | fp c off =>
    simp only at h ⊢
    obtain ⟨l, i, hc, rfl, hi, h⟩ := h
    obtain ⟨v, hv, hk⟩ := optK_some (h _ (List.getElem?_eq_getElem hi))
    refine ⟨v, [], ?_, hk⟩
    rw [hc]
    exact val_run (hw.ld_part (List.getElem?_eq_getElem hi) hv)
  | _ => exact h.elim

theorem stS_sound {e : TypeId} {w : View} (hw : View.Ok P e w) {fo : Nat} {ty : TypeId} {a x : V} {k : Res → List Id → Prop} (h : stS P w fo ty a x ob k) :
    ∃ r l, (match a, szT P ty with
      | .lp id off, some sz => Rd.look id fun ob => if x.ok && x.flat.length == sz && decide (off + sz ≤ ob.cells.length) && !ob.fz then Rd.pure (⟨.tup [], [(id, some ⟨ob.ty, putCells ob.cells off x.flat, false⟩)], 0⟩ : Res) else .fail
      | _, _ => (.fail : Rd Res)).run ob = some (r, l) ∧ k r l := by
  unfold stS at h
  split at h
  · rename_i id off sz hs
    rw [hs]
    simp only
    split at h
    · rename_i o ho
      split at h
      · rename_i hc
        simp only [Bool.and_eq_true, decide_eq_true_eq, beq_iff_eq, Bool.not_eq_true'] at hc
        obtain ⟨⟨⟨c1, c2⟩, c3⟩, c4⟩ := hc
        obtain ⟨l, i, hcell, rfl, hi, h⟩ := h
        obtain ⟨x', hx', hk⟩ := h _ (List.getElem?_eq_getElem hi)
        refine ⟨_, [id], ?_, hk⟩
        refine Rd.look_run ho ?_
        have hle : i * w.sz + fo + sz ≤ o.cells.length := by
          rw [hcell, hw.fl_len]
          have := Nat.mul_le_mul_right w.sz hi
          rw [Nat.succ_mul] at this
          omega
        rw [if_pos (by simp [c1, c2, c4, hle]), hcell, putCells_fl hw (List.getElem?_eq_getElem hi) hx' (by rw [c2]; exact c3)]
        rfl
      · exact h.elim
    · exact h.elim
  · exact h.elim

theorem mergeL_eq {off : Nat} {v : V} : ∀ {l : List V} {j : Nat} {r : List V}, mergeL off v j l = some r → j ≤ off → off < j + l.length → r = putCells l (off - j) [v]
  | [], j, r, h, h1, h2 => by simp at h2; omega
  | c :: l, j, r, h, h1, h2 => by
    have tail : ∀ {f : Bool → V} {rest : List V}, mergeL off v (j + 1) l = some rest → (off = j → f true = v) → (off ≠ j → f false = c) → (f (decide (off = j)) :: rest = putCells (c :: l) (off - j) [v]) := by
      intro f rest hr f1 f2
      by_cases he : off = j
      · subst he
        rw [decide_eq_true rfl, f1 rfl, Nat.sub_self]
        have past : ∀ {l : List V} {j : Nat} {r : List V}, off < j → mergeL off v j l = some r → r = l := by
          intro l
          induction l with
          | nil => intro j r _ h; simp [mergeL] at h; exact h
          | cons c l ih =>
            intro j r hj h
            simp only [mergeL] at h
            split at h
            · split at h
              · split at h
                · rename_i hk _ r' hr'
                  simp only [Option.some.injEq] at h
                  rw [← h, ih (by omega) hr', if_neg (by omega), hk]
                · cases h
              · cases h
            · split at h
              · rename_i r' hr'
                simp only [Option.some.injEq] at h
                rw [← h, ih (by omega) hr', if_neg (by omega)]
              · cases h
            · cases h
        rw [past (by omega) hr]
        simp [putCells]
      · rw [decide_eq_false he, f2 he]
        have := mergeL_eq hr (by omega) (by simp at h2; omega)
        rw [this]
        have hs : off - j = (off - (j + 1)) + 1 := by omega
        rw [hs]
        simp [putCells, Nat.add_right_comm]
    simp only [mergeL] at h
    split at h
    · rename_i k x k' y
      split at h
      · rename_i hk
        subst hk
        split at h
        · rename_i rest hr
          simp only [Option.some.injEq] at h
          rw [← h]
          have := tail (f := fun b => .int k (if b = true then x else y)) hr (fun _ => by simp) (fun _ => by simp)
          rw [← this]
          by_cases he : off = j <;> simp [he]
        · cases h
      · cases h
    · rename_i x y
      split at h
      · rename_i rest hr
        simp only [Option.some.injEq] at h
        rw [← h]
        have := tail (f := fun b => .bool (if b = true then x else y)) hr (fun _ => by simp) (fun _ => by simp)
        rw [← this]
        by_cases he : off = j <;> simp [he]
      · cases h
    · cases h

theorem mergeL_leaf {off : Nat} {v : V} {l r : List V} {j : Nat} (h : mergeL off v j l = some r) (hl : l ≠ []) : v.leaf = true ∧ v.flat = [v] := by
  cases l with
  | nil => exact absurd rfl hl
  | cons c l =>
    simp only [mergeL] at h
    split at h
    · exact ⟨rfl, rfl⟩
    · exact ⟨rfl, rfl⟩
    · cases h

theorem stM_sound {ty : TypeId} {a x : V} {k : Res → List Id → Prop} (h : stM P ty a x ob k) :
    ∃ r l, (match a, szT P ty with
      | .lp id off, some sz => Rd.look id fun ob => if x.ok && x.flat.length == sz && decide (off + sz ≤ ob.cells.length) && !ob.fz then Rd.pure (⟨.tup [], [(id, some ⟨ob.ty, putCells ob.cells off x.flat, false⟩)], 0⟩ : Res) else .fail
      | _, _ => (.fail : Rd Res)).run ob = some (r, l) ∧ k r l := by
  unfold stM at h
  split at h
  · rename_i id off hs
    rw [hs]
    simp only
    split at h
    · rename_i o ho
      split at h
      · exact h.elim
      · rename_i hfz
        split at h
        · rename_i cs hm
          obtain ⟨hlt, hk⟩ := h
          have hne : o.cells ≠ [] := by intro e; rw [e] at hlt; simp at hlt
          obtain ⟨l1, l2⟩ := mergeL_leaf hm hne
          have hok : x.ok = true := by
            cases x <;> first | exact l1 | (simp [V.leaf] at l1)
          refine ⟨_, [id], ?_, hk⟩
          refine Rd.look_run ho ?_
          have hcs := mergeL_eq hm (Nat.zero_le _) (by omega)
          rw [Nat.sub_zero] at hcs
          rw [hok, l2, ← hcs]
          have : decide (off + 1 ≤ o.cells.length) = true := decide_eq_true hlt
          simp [this, hfz, Rd.run]
        · exact h.elim
    · exact h.elim
  · exact h.elim

theorem opS_sound (hvw : VwOk P S.vw) (hsp : SpecsOk P E S.sp) {m : Nat} {e : TypeId} {fo : Nat} {ρ : Operand → V} {t g : Nat} {o : Oper} {k : Res → List Id → Prop} (h : opS P E S m e fo ρ t g o ob k) :
    ∃ C, OkC P E C ∧ ∃ r l, (core P E C ρ t g o).run ob = some (r, l) ∧ k r l := by
  unfold opS at h
  split at h
  · rename_i op ty x y p ho
    obtain ⟨v, h1, h2⟩ := binS_sound h
    refine ⟨noC, noC_ok, _, _, ?_, h2⟩
    simp only [core, ho]
    exact val_run h1
  · rename_i src dst x ho
    split at h
    · rename_i kd1 kd2 kd3 n h1 h2 h3
      obtain ⟨h4, h5⟩ := h
      refine ⟨noC, noC_ok, _, _, ?_, h5⟩
      simp only [core, ho, h1, h2, h3]
      rw [inK_wrap h4]; rfl
    · exact h.elim
  · rename_i ty x ho
    split at h
    · rename_i kd n hx
      obtain ⟨h1, h2⟩ := h
      refine ⟨noC, noC_ok, _, _, ?_, h2⟩
      simp only [core, ho, hx, vUn]
      rw [inK_wrap h1]; rfl
    · exact h.elim
  · rename_i c ho
    split at h
    · rename_i f hc
      obtain ⟨C, h1, r, l, h2, h3⟩ := callS_sound hvw hsp h
      refine ⟨C, h1, r, l, ?_, h3⟩
      simp only [core, ho, hc]
      exact h2
    · rename_i hc
      split at h
      · rename_i ty ty2 s x w hat har hw
        split at h
        · exact h.elim
        · exact h.elim
        · rename_i d hd2 hd1
          have hwo := hvw _ _ hw
          obtain ⟨r, l, h1, h2⟩ := appS_sound hwo h
          refine ⟨noC, noC_ok, r, l, ?_, h2⟩
          simp only [core, ho, hc, hat, har]
          split
          · rename_i kd hk; rw [hd1] at hk; exact absurd (Option.some.inj hk) (hd2 kd)
          · rename_i hk; rw [hd1] at hk; cases hk
          · exact h1
      · exact h.elim
    · rename_i hc
      split at h
      · rename_i ty tys v vs w hat har hw
        split at h
        · rename_i e' hu
          obtain ⟨v', h1, h2⟩ := lenS_sound h
          refine ⟨noC, noC_ok, _, _, ?_, h2⟩
          simp only [core, ho, hc, hat, har, hu]
          exact val_run h1
        · exact h.elim
      · exact h.elim
    · exact h.elim
  · rename_i ty a ho
    split at h
    · rename_i w hw
      obtain ⟨v, l, h1, h2⟩ := ldS_sound (hvw _ _ hw) h
      refine ⟨noC, noC_ok, _, l, ?_, h2⟩
      simp only [core, ho]
      exact h1
    · exact h.elim
  · rename_i ty a x ho
    split at h
    · obtain ⟨r, l, h1, h2⟩ := stM_sound h
      refine ⟨noC, noC_ok, _, l, ?_, h2⟩
      simp only [core, ho]
      exact h1
    · split at h
      · rename_i w hw
        obtain ⟨r, l, h1, h2⟩ := stS_sound (hvw _ _ hw) h
        refine ⟨noC, noC_ok, _, l, ?_, h2⟩
        simp only [core, ho]
        exact h1
      · exact h.elim
  · rename_i ty x i ho
    split at h
    · rename_i w hw
      obtain ⟨v, h1, h2⟩ := idxAddrS_sound (hvw _ _ hw) h
      refine ⟨noC, noC_ok, _, _, ?_, h2⟩
      simp only [core, ho]
      exact val_run h1
    · exact h.elim
  · rename_i ty x i ho
    split at h
    · rename_i w hw
      obtain ⟨v, h1, h2⟩ := idxS_sound (hvw _ _ hw) h
      refine ⟨noC, noC_ok, _, _, ?_, h2⟩
      simp only [core, ho]
      exact val_run h1
    · exact h.elim
  · rename_i ty x lo hi mx ho
    split at h
    · rename_i w hw
      obtain ⟨v, h1, h2⟩ := slS_sound (hvw _ _ hw) h
      refine ⟨noC, noC_ok, _, _, ?_, h2⟩
      simp only [core, ho]
      rw [Rd.run_bind_eq _ h1]; rfl
    · exact h.elim
  · exact h.elim
end
end Go.Vi

/- Vi, part 35: regions whose operations are told one by one. -/
set_option linter.unusedVariables false
set_option linter.unusedSimpArgs false
namespace Go.Vi
/-- What an operation may do. -/
def EffR (P : Program) (E : Env) (ops : Array Oper) (o : Oper) (s : St) (e : Eff) : Prop := ∃ C, OkC P E C ∧ effOf P E C ops o s = some e

def EffsR (P : Program) (E : Env) (ops : Array Oper) : List Oper → St → List Eff → St → Prop
  | [], s, es, sn => es = [] ∧ sn = s
  | o :: l, s, es, sn => ∃ e es', es = e :: es' ∧ EffR P E ops o s e ∧ EffsR P E ops l (s.app e) es' sn

section
variable {P : Program} {E : Env} {S : Sy} {ops : Array Oper} {w0 : World} {H0 : Hp} {β0 : Bt}

theorem BIF_case {b : Bool} {p q : Prop} (h : BIF b p q) : (b = true ∧ p) ∨ (b = false ∧ q) := by
  cases b with
  | true => exact .inl ⟨rfl, h⟩
  | false => exact .inr ⟨rfl, h⟩

theorem coreS_sound (hvw : VwOk P S.vw) (hsp : SpecsOk P E S.sp) (hmk : ∀ n p, S.tag n p → p) {key : Nat} {ρ : Operand → V} {t g : Nat} {o : Oper} {ob : Id → Option Ob} {k : Res → List Id → Prop} (h : coreS P E S key ρ t g o ob k) :
    ∃ C, OkC P E C ∧ ∃ r l, (core P E C ρ t g o).run ob = some (r, l) ∧ k r l := by
  unfold coreS at h
  replace h := hmk _ _ h
  have conc : runK ((core P E noC ρ t g o).run ob) k → ∃ C, OkC P E C ∧ ∃ r l, (core P E C ρ t g o).run ob = some (r, l) ∧ k r l := by
    intro h
    unfold runK at h
    split at h
    · rename_i r l hr; exact ⟨noC, noC_ok, r, l, hr, h⟩
    · exact h.elim
  split at h
  · split at h
    · exact conc h
    · exact opS_sound hvw hsp h
  · split at h
    · exact opS_sound hvw hsp h
    · exact conc h

theorem wantS_sound {tm : Nat → V} {o : Oper} {k : Bool → (Nat → V) → Prop} (h : wantS ops tm o k) : ∃ b, want ops tm o = some b ∧ k b tm := by
  unfold wantS at h
  unfold want
  split at h
  · rename_i hg; rw [hg]; exact ⟨true, rfl, h⟩
  · rename_i j w hg
    rw [hg]
    simp only
    split at h
    · rename_i t ht
      rw [ht]
      simp only
      split at h
      · rename_i b hb
        rw [hb]
        rcases BIF_case h with ⟨rfl, h⟩ | ⟨rfl, h⟩
        · rw [tellT_same hb] at h; exact ⟨_, rfl, h⟩
        · rw [tellT_same hb] at h; exact ⟨_, rfl, h⟩
      · rename_i l hl; rw [hl]; exact ⟨false, rfl, h⟩
      · exact h.elim
    · exact h.elim

theorem effS_sound (hvw : VwOk P S.vw) (hsp : SpecsOk P E S.sp) (hmk : ∀ n p, S.tag n p → p) {o : Oper} {s : St} {k : Eff → St → Prop} (h : effS P E S ops o s k) : ∃ e, EffR P E ops o s e ∧ k e s := by
  unfold effS at h
  split at h
  · exact h.elim
  · rename_i hd
    obtain ⟨b, hb, h⟩ := wantS_sound h
    cases b with
    | false =>
      refine ⟨_, ⟨noC, noC_ok, ?_⟩, h⟩
      unfold effOf
      rw [if_neg hd, hb]
    | true =>
      obtain ⟨C, hC, r, l, h1, h2⟩ := coreS_sound hvw hsp hmk h
      split at h2
      · exact h2.elim
      · rename_i hn
        refine ⟨_, ⟨C, hC, ?_⟩, h2⟩
        unfold effOf
        rw [if_neg hd, hb]
        simp only
        rw [h1]
        simp only
        rw [if_neg hn]

theorem effsS_sound (hvw : VwOk P S.vw) (hsp : SpecsOk P E S.sp) (hmk : ∀ n p, S.tag n p → p) : ∀ {l : List Oper} {s : St} {k : List Eff → St → Prop}, effsS P E S ops l s k → ∃ es sn, EffsR P E ops l s es sn ∧ k es sn
  | [], s, k, h => ⟨[], s, ⟨rfl, rfl⟩, h⟩
  | o :: l, s, k, h => by
    simp only [effsS] at h
    obtain ⟨e, h1, h2⟩ := effS_sound hvw hsp hmk h
    obtain ⟨es, sn, h3, h4⟩ := effsS_sound hvw hsp hmk h2
    exact ⟨_, sn, ⟨e, es, rfl, h1, h3⟩, h4⟩

theorem effsR_spec : ∀ {l : List Oper} {s sn : St} {es : List Eff}, EffsR P E ops l s es sn → es.length = l.length ∧ sn = appD (fun _ => true) 0 es s ∧
    ∀ (i : Nat) (o : Oper), l[i]? = some o → ∃ e, es[i]? = some e ∧ EffR P E ops o (appD (fun j => decide (j < i)) 0 es s) e
  | [], s, sn, es, h => by
    obtain ⟨rfl, rfl⟩ := h
    exact ⟨rfl, rfl, fun i o hi => by simp at hi⟩
  | o :: l, s, sn, es, h => by
    obtain ⟨e, es', rfl, he, hr⟩ := h
    obtain ⟨q1, q2, q3⟩ := effsR_spec hr
    have sh : ∀ (D : Nat → Bool) (es : List Eff) (k : Nat) (s : St), appD D (k + 1) es s = appD (fun j => D (j + 1)) k es s := by
      intro D es
      induction es with
      | nil => intro k s; rfl
      | cons e es ih => intro k s; simp only [appD]; exact ih (k + 1) _
    refine ⟨by simp [q1], ?_, fun i o' hi => ?_⟩
    · simp only [appD, if_true, sh]; exact q2
    · cases i with
      | zero =>
        simp at hi; subst hi
        refine ⟨e, rfl, ?_⟩
        have : ∀ (es : List Eff) (k : Nat) (s : St), appD (fun j => decide (j < 0)) k es s = s := by
          intro es
          induction es with
          | nil => intro k s; rfl
          | cons e es ih => intro k s; simp only [appD]; simp only [Nat.not_lt_zero, decide_false, Bool.false_eq_true, if_false]; exact ih _ _
        rw [this]; exact he
      | succ i =>
        obtain ⟨e', p1, p2⟩ := q3 i o' (by simpa using hi)
        refine ⟨e', by simpa using p1, ?_⟩
        simp only [appD, Nat.zero_lt_succ, decide_true, if_true, sh]
        have hf : (fun j => decide (j + 1 < i + 1)) = (fun j => decide (j < i)) := by funext j; simp
        rw [hf]; exact p2

theorem drawR_any (hB : Bor β0) (hG : GOK P E H0) {s sn : St} {es : List Eff} (hes : EffsR P E ops ops.toList s es sn) (hT : tmpsApart ops = true) (hA : effsApart es (loudPairs ops) = true)
    {Q : Exit → Act → World → Prop} (hQ : ∀ H' β' a' w', Sim P E w0 H0 β0 H' β' sn a' w' → Q .normal a' w') :
    ∀ (fuel : Nat) (listed : Array Bool) (H : Hp) (β : Bt) (a : Act) (w : World), listed.size = ops.size →
      (∀ (j : Nat) (o : Oper), ops[j]? = some o → listed.getD j false = true → ∀ e ∈ o.after, Region.binds .any e = true → listed.getD e.on false = true) →
      ((List.range ops.size).filter fun j => !listed.getD j false).length ≤ fuel →
      Sim P E w0 H0 β0 H β (appD (fun j => listed.getD j false) 0 es s) a w → wpAny P .any ops Q fuel listed a w := by
  obtain ⟨el, esn, eff⟩ := effsR_spec hes
  have hlen : es.length = ops.size := by simpa using el
  have hop : ∀ j, j < ops.size → ∃ o e, ops[j]? = some o ∧ es[j]? = some e ∧ EffR P E ops o (appD (fun k => decide (k < j)) 0 es s) e := by
    intro j hj
    obtain ⟨e, h1, h2⟩ := eff j ops[j] (by simp [hj])
    exact ⟨ops[j], e, by simp [hj], h1, h2⟩
  have hq : ∀ (j : Nat) (o : Oper) (e : Eff), ops[j]? = some o → es[j]? = some e → touches o.op = false → e.up = [] ∧ e.rd = [] := by
    intro j o e h1 h2 ht
    have hj : j < ops.size := (Array.getElem?_eq_some_iff.1 h1).1
    obtain ⟨o', e', p1, p2, p3⟩ := hop j hj
    rw [h1] at p1; cases p1
    rw [h2] at p2; cases p2
    obtain ⟨C, _, p3⟩ := p3
    exact effOf_quiet ht p3
  have hdst : ∀ (j : Nat) (o : Oper) (e : Eff), ops[j]? = some o → es[j]? = some e → e.dst = o.dst ∧ ∀ d, o.dst = some d → d < s.n := by
    intro j o e h1 h2
    have hj : j < ops.size := (Array.getElem?_eq_some_iff.1 h1).1
    obtain ⟨o', e', p1, p2, p3⟩ := hop j hj
    rw [h1] at p1; cases p1
    rw [h2] at p2; cases p2
    obtain ⟨C, _, p3⟩ := p3
    exact ⟨effOf_dst p3, fun d hd => by have := effOf_lt p3 hd; rwa [appD_n] at this⟩
  have hnone : ∀ (listed : Array Bool), listed.size = ops.size → Region.ready .any ops listed = [] → ∀ j, j < ops.size → listed.getD j false = true := by
    intro listed hsz hr
    have key : ∀ n, ∀ j, j ≤ n → j < ops.size → listed.getD j false = true := by
      intro n
      induction n with
      | zero =>
        intro j hj hlt
        have hj0 : j = 0 := by omega
        subst hj0
        cases hl : listed.getD 0 false with
        | true => rfl
        | false =>
          have : 0 ∈ Region.ready .any ops listed := mem_ready.2 ⟨by
            have h0 : listed[0]? = some listed[0] := by simp [hsz, hlt]
            rw [Array.getD_eq_getD_getElem?, h0] at hl ⊢; simpa using hl, ops[0], by simp [hlt], fun e he hb => by have := edges_get hT (j := 0) (o := ops[0]) (by simp [hlt]) he hb; omega⟩
          rw [hr] at this; simp at this
      | succ n ih =>
        intro j hj hlt
        by_cases hjn : j ≤ n
        · exact ih j hjn hlt
        · cases hl : listed.getD j false with
          | true => rfl
          | false =>
            have : j ∈ Region.ready .any ops listed := mem_ready.2 ⟨by
              have h0 : listed[j]? = some (listed[j]'(by omega)) := by simp
              rw [Array.getD_eq_getD_getElem?, h0] at hl ⊢; simpa using hl, ops[j], by simp [hlt], fun e he hb => by
                have := edges_get hT (j := j) (o := ops[j]) (by simp [hlt]) he hb
                exact ih e.on (by omega) (by omega)⟩
            rw [hr] at this; simp at this
    exact fun j hj => key j j (Nat.le_refl _) hj
  have hfin : ∀ (listed : Array Bool), (∀ j, j < ops.size → listed.getD j false = true) → appD (fun j => listed.getD j false) 0 es s = sn := by
    intro listed h
    rw [esn]
    exact appD_congr es 0 s fun j hj => by simp only [Nat.zero_add]; exact h j (by omega)
  intro fuel
  induction fuel with
  | zero =>
    intro listed H β a w hsz hcl hcnt hs
    have hall : ∀ j, j < ops.size → listed.getD j false = true := by
      intro j hj
      cases hl : listed.getD j false with
      | true => rfl
      | false =>
        have : j ∈ (List.range ops.size).filter fun j => !listed.getD j false := List.mem_filter.2 ⟨List.mem_range.2 hj, by simp only [hl]; rfl⟩
        have hp := List.length_pos_of_mem this
        omega
    refine ⟨?_, hQ _ _ _ _ (by rw [← hfin listed hall]; exact hs)⟩
    apply List.eq_nil_iff_forall_not_mem.2
    intro j hj
    obtain ⟨h1, o, h2, _⟩ := mem_ready.1 hj
    have hlt : j < ops.size := (Array.getElem?_eq_some_iff.1 h2).1
    have h0 : listed[j]? = some (listed[j]'(by omega)) := by simp
    have h3 := hall j hlt
    rw [Array.getD_eq_getD_getElem?, h0] at h1 h3
    simp at h1 h3
    rw [h1] at h3; simp at h3
  | succ fuel ih =>
    intro listed H β a w hsz hcl hcnt hs
    refine ⟨fun hr => hQ _ _ _ _ (by rw [← hfin listed (hnone listed hsz hr)]; exact hs), fun i hi => ?_⟩
    obtain ⟨h1, oi, hoi, hedge⟩ := mem_ready.1 hi
    have hilt : i < ops.size := (Array.getElem?_eq_some_iff.1 hoi).1
    have hDi : listed.getD i false = false := by
      have h0 : listed[i]? = some (listed[i]'(by omega)) := by simp
      rw [Array.getD_eq_getD_getElem?, h0] at h1 ⊢; simpa using h1
    obtain ⟨o', ei, p1, hei, C, hC, heff⟩ := hop i hilt
    rw [hoi] at p1; cases p1
    -- who stands where
    have hord : ∀ j, j < ops.size → j ≠ i → (listed.getD j false = decide (j < i)) ∨ (∀ o f, ops[j]? = some o → es[j]? = some f → Free ops i j oi o ei f ∧ Free ops j i o oi f ei) := by
      intro j hj hne
      by_cases hlt : j < i
      · cases hb : ((Region.before ops).getD i 0).testBit j with
        | true =>
          left
          have := before_spec (fun k => listed.getD k false = true) hcl i oi hoi hedge j hb
          rw [this]; simp [hlt]
        | false =>
          right
          intro o f ho hf
          have hm := loose_mem hlt hilt hb
          have := free_of hT hA hm ho hoi hf hei (hq j o f ho hf) (hq i oi ei hoi hei)
          exact ⟨this.2, this.1⟩
      · have hgt : i < j := by omega
        cases hb : ((Region.before ops).getD j 0).testBit i with
        | true =>
          left
          cases hl : listed.getD j false with
          | false => simp [hlt]
          | true =>
            have hoj : ops[j]? = some ops[j] := by simp [hj]
            have := before_spec (fun k => listed.getD k false = true) hcl j ops[j] hoj (hcl j ops[j] hoj hl) i hb
            rw [hDi] at this; simp at this
        | false =>
          right
          intro o f ho hf
          exact free_of hT hA (loose_mem hgt hj hb) hoi ho hei hf (hq i oi ei hoi hei) (hq j o f ho hf)
    have hesj : ∀ (j : Nat) (f : Eff), es[j]? = some f → j < ops.size ∧ ∃ o, ops[j]? = some o ∧ f.dst = o.dst ∧ ∀ d, o.dst = some d → d < s.n := by
      intro j f hf
      have hj : j < ops.size := by rw [← hlen]; exact (List.getElem?_eq_some_iff.1 hf).1
      have ho : ops[j]? = some ops[j] := by simp [hj]
      obtain ⟨q1, q2⟩ := hdst j ops[j] f ho hf
      exact ⟨hj, ops[j], ho, q1, q2⟩
    -- the operation's doing is the text's
    have heff' : effOf P E C ops oi (appD (fun j => listed.getD j false) 0 es s) = some ei := by
      refine effOf_congr heff (by rw [appD_n, appD_n]) (fun t ht => ?_) ?_ (fun id hid => ?_)
      · refine appD_tm _ _ t es 0 s s rfl fun j f hf hd => ?_
        simp only [Nat.zero_add]
        obtain ⟨hj, o, ho, q1, q2⟩ := hesj j f hf
        by_cases hji : j = i
        · subst hji; simp [hDi]
        · rcases hord j hj hji with h | h
          · exact h
          · exact absurd ht ((h o f ho hf).1.d1 t (by rw [← q1]; exact hd))
      · rw [appD_n]
        refine appD_nx _ _ _ es 0 s s rfl fun j f hf hd => ?_
        simp only [Nat.zero_add]
        obtain ⟨hj, o, ho, q1, q2⟩ := hesj j f hf
        by_cases hji : j = i
        · subst hji; simp [hDi]
        · rcases hord j hj hji with h | h
          · exact h
          · exfalso
            rw [q1] at hd
            cases hdi : oi.dst with
            | none => rw [hdi] at hd; have := q2 _ hd; simp at this
            | some d =>
              rw [hdi] at hd
              exact (h o f ho hf).1.d2 d hdi hd
      · refine appD_ob _ _ id es 0 s s rfl fun j f hf hd => ?_
        simp only [Nat.zero_add]
        obtain ⟨hj, o, ho, q1, q2⟩ := hesj j f hf
        by_cases hji : j = i
        · subst hji; simp [hDi]
        · rcases hord j hj hji with h | h
          · exact h
          · exact absurd hid ((h o f ho hf).1.u1 id hd)
    refine eff_sound hC hB hG hs hoi heff' fun H' β' a' w' hs' => ?_
    have hD' : ∀ j, (listed.setIfInBounds i true).getD j false = (listed.getD j false || decide (j = i)) := by
      intro j
      by_cases hji : j = i
      · subst hji
        simp [hsz, hilt]
      · rw [getD_set_ne false (fun e => hji e.symm)]
        simp [hji]
    refine ih _ H' β' a' w' (by simpa using hsz) ?_ ?_ ?_
    · intro j o ho hl e he hb
      rw [hD'] at hl ⊢
      simp only [Bool.or_eq_true, decide_eq_true_eq] at hl ⊢
      rcases hl with hl | rfl
      · exact .inl (hcl j o ho hl e he hb)
      · rw [hoi] at ho; cases ho
        exact .inl (hedge e he hb)
    · have hsub : ((List.range ops.size).filter fun j => !(listed.setIfInBounds i true).getD j false) = ((List.range ops.size).filter fun j => !listed.getD j false).filter fun j => decide (j ≠ i) := by
        rw [List.filter_filter]
        apply List.filter_congr
        intro j _
        rw [hD']
        cases listed.getD j false <;> simp
      have hmem : i ∈ (List.range ops.size).filter fun j => !listed.getD j false := List.mem_filter.2 ⟨List.mem_range.2 hilt, by simp only [hDi]; rfl⟩
      have hlt : (((List.range ops.size).filter fun j => !listed.getD j false).filter fun j => decide (j ≠ i)).length < ((List.range ops.size).filter fun j => !listed.getD j false).length :=
        List.length_filter_lt_length_iff_exists.2 ⟨i, hmem, by simp⟩
      rw [hsub]
      omega
    · have hfun : (fun j => (listed.setIfInBounds i true).getD j false) = (fun j => listed.getD j false || decide (j = i)) := funext hD'
      rw [hfun, appD_add hDi es 0 s ⟨i, by simp, hei⟩ ?_]
      · exact hs'
      · intro j f hf hd hij
        simp only [Nat.zero_add] at hd hij
        obtain ⟨hj, o, ho, q1, q2⟩ := hesj j f hf
        rcases hord j hj (by omega) with h | h
        · rw [hd] at h; simp at h; omega
        · have hfree := (h o f ho hf).1
          have hei' := (hdst i oi ei hoi hei).1
          exact ⟨fun d hd => by rw [hei'] at hd; rw [q1]; exact hfree.d2 d hd, hfree.u2⟩


/-- A region in the order of the text. -/
theorem runR_sound (hB : Bor β0) (hG : GOK P E H0) {Q : Exit → Act → World → Prop} : ∀ (m k : Nat) (H : Hp) (β : Bt) (s sn : St) (es : List Eff) (a : Act) (w : World), k + m = ops.size → Sim P E w0 H0 β0 H β s a w →
    EffsR P E ops (ops.toList.drop k) s es sn → (∀ H' β' a' w', Sim P E w0 H0 β0 H' β' sn a' w' → Q .normal a' w') → wpOps P ops Q (List.range' k m) a w
  | 0, k, H, β, s, sn, es, a, w, hk, h, hr, hQ => by
    have : ops.toList.drop k = [] := by apply List.drop_eq_nil_of_le; simp; omega
    rw [this] at hr
    obtain ⟨_, rfl⟩ := hr
    exact hQ _ _ _ _ h
  | m + 1, k, H, β, s, sn, es, a, w, hk, h, hr, hQ => by
    have hlt : k < ops.size := by omega
    have hd : ops.toList.drop k = ops[k] :: ops.toList.drop (k + 1) := by
      rw [List.drop_eq_getElem_cons (by simpa using hlt)]; simp
    rw [hd] at hr
    obtain ⟨e, es', _, ⟨C, hC, he⟩, hr⟩ := hr
    rw [List.range'_succ, wpOps_cons]
    exact eff_sound hC hB hG h (i := k) (by simp [hlt]) he fun H' β' a' w' hs => runR_sound hB hG m (k + 1) H' β' _ sn es' a' w' (by omega) hs hr hQ

theorem triR (hmix : P.follows .mixedOrders = true) {id : Nat} {draw : Bool} {s sn : St} {es : List Eff} (h : EffsR P E ops ops.toList s es sn) (hd : draw = true → tmpsApart ops = true ∧ effsApart es (loudPairs ops) = true) :
    Tri P E (.region id ops draw) s .normal sn := by
  intro w0 H0 β0 hB hG H β a w Q hs hQ
  cases draw with
  | false =>
    refine wp_region ?_
    have := runR_sound (ops := ops) hB hG ops.size 0 H β s sn es a w (Nat.zero_add _) hs (by simpa using h) hQ
    rwa [← List.range_eq_range'] at this
  | true =>
    obtain ⟨c1, c2⟩ := hd rfl
    refine wp_region_any hmix ?_
    refine drawR_any hB hG h c1 c2 hQ ops.size _ H β a _ (by simp) ?_ ?_ ?_
    · intro j o _ hl
      rw [rep_false] at hl; simp at hl
    · have := List.length_filter_le (fun j => !(Array.replicate ops.size false).getD j false) (List.range ops.size)
      simpa using this
    · have : ∀ (es : List Eff) (k : Nat) (s : St), appD (fun j => (Array.replicate ops.size false).getD j false) k es s = s := by
        intro es
        induction es with
        | nil => intro k s; rfl
        | cons e es ih =>
          intro k s
          simp only [appD]
          have hf := rep_false ops.size k
          simp only [hf, Bool.false_eq_true, if_false]
          exact ih _ _
      rw [this]
      exact hs.drew
end
end Go.Vi

/- Vi, part 36: what a piece of code asks is enough. -/
set_option linter.unusedVariables false
set_option linter.unusedSimpArgs false
namespace Go.Vi
section
variable {P : Program} {E : Env} {S : Sy}

/-- What stays. -/
structure Stay (c : Code) (s s' : St) (d : List Id) : Prop where
  ob : ∀ id, id ∉ d → s'.ob id = none ∨ s'.ob id = s.ob id
  tm : ∀ t, spares t c = true → s'.tm t = .junk ∨ s'.tm t = s.tm t

theorem Stay.refl (c : Code) (s : St) : Stay c s s [] := ⟨fun _ _ => .inr rfl, fun _ _ => .inr rfl⟩

theorem Stay.trans' {c1 c2 c : Code} {s s1 s2 : St} {d1 d2 : List Id} (h1 : Stay c1 s s1 d1) (h2 : Stay c2 s1 s2 d2) (hs : ∀ t, spares t c = true → spares t c1 = true ∧ spares t c2 = true) : Stay c s s2 (d2 ++ d1) := by
  refine ⟨fun id hid => ?_, fun t ht => ?_⟩
  · simp only [List.mem_append, not_or] at hid
    rcases h2.ob id hid.1 with h | h
    · exact .inl h
    · rcases h1.ob id hid.2 with h' | h'
      · exact .inl (h.trans h')
      · exact .inr (h.trans h')
  · obtain ⟨a, b⟩ := hs t ht
    rcases h2.tm t b with h | h
    · exact .inl h
    · rcases h1.tm t a with h' | h'
      · exact .inl (h.trans h')
      · exact .inr (h.trans h')

theorem Stay.of {c c' : Code} {s s' : St} {d : List Id} (h : Stay c s s' d) (hs : ∀ t, spares t c' = true → spares t c = true) : Stay c' s s' d := ⟨h.ob, fun t ht => h.tm t (hs t ht)⟩

theorem effsR_stay {ops : Array Oper} : ∀ {l : List Oper} {s sn : St} {es : List Eff}, EffsR P E ops l s es sn → (∀ id, id ∉ upsOf es → sn.ob id = s.ob id) ∧ ∀ t, (∀ o ∈ l, o.dst ≠ some t) → sn.tm t = s.tm t
  | [], s, sn, es, h => by
    obtain ⟨rfl, rfl⟩ := h
    exact ⟨fun _ _ => rfl, fun _ _ => rfl⟩
  | o :: l, s, sn, es, h => by
    obtain ⟨e, es', rfl, ⟨C, _, he⟩, hr⟩ := h
    obtain ⟨h1, h2⟩ := effsR_stay hr
    refine ⟨fun id hid => ?_, fun t ht => ?_⟩
    · simp only [upsOf, List.flatMap_cons, List.mem_append, not_or] at hid
      rw [h1 id hid.2]
      exact applyUp_out hid.1
    · rw [h2 t fun o' ho' => ht o' (by simp [ho']), app_tm]
      rw [effOf_dst he]
      exact if_neg (ht o (by simp))

theorem getT_out : ∀ (l : List (Nat × V)) (t : Nat), getT l t = .junk ∨ ∃ v, (t, v) ∈ l ∧ getT l t = v
  | [], t => .inl rfl
  | (k, v) :: l, t => by
    simp only [getT]
    split
    · rename_i e; subst e; exact .inr ⟨v, by simp, rfl⟩
    · rcases getT_out l t with h | ⟨v', h1, h2⟩
      · exact .inl h
      · exact .inr ⟨v', by simp [h1], h2⟩

theorem getO_out : ∀ (l : List (Id × Ob)) (b : Id), getO l b = none ∨ ∃ o, (b, o) ∈ l ∧ getO l b = some o
  | [], b => .inl rfl
  | (k, v) :: l, b => by
    simp only [getO]
    split
    · rename_i e; subst e; exact .inr ⟨v, by simp, rfl⟩
    · rcases getO_out l b with h | ⟨v', h1, h2⟩
      · exact .inl h
      · exact .inr ⟨v', by simp [h1], h2⟩

theorem head_stay {A : LoopA} {s0 : St} {i : Nat} {x : A.X} {c : Code} (h : toldOk A c i x = true) : Stay c s0 (headS A s0 i x) ((A.O i x).map (·.1)) := by
  simp only [toldOk, Bool.and_eq_true, List.all_eq_true] at h
  refine ⟨fun id hid => ?_, fun t ht => ?_⟩
  · rcases getO_out (headO A s0 i x) id with h1 | ⟨o, h1, h2⟩
    · exact .inl h1
    · simp only [headO, List.mem_append, List.mem_map, List.mem_filterMap] at h1
      rcases h1 with ⟨q, hq, e⟩ | ⟨id', _, e⟩
      · simp only [Prod.mk.injEq] at e
        exact absurd (List.mem_map.2 ⟨q, hq, e.1⟩) hid
      · simp only [Option.map_eq_some_iff, Prod.mk.injEq] at e
        obtain ⟨o', h3, rfl, rfl⟩ := e
        exact .inr (h2.trans h3.symm)
  · rcases getT_out (headT A s0 i x) t with h1 | ⟨v, h1, h2⟩
    · exact .inl h1
    · simp only [headT, List.mem_append, List.mem_map] at h1
      rcases h1 with h1 | ⟨t', _, e⟩
      · have := h.1 _ h1
        simp [ht] at this
      · simp only [Prod.mk.injEq] at e
        obtain ⟨rfl, rfl⟩ := e
        exact .inr h2

theorem sameN_RN {g : Id → Option Id} : ∀ (d : Nat) (v : V), sameN g d v = true → RN g v v
  | 0, v, h => by simp [sameN] at h
  | d + 1, v, h => by
    have all : ∀ {l : List V}, l.all (sameN g d) = true → ∀ (k : Nat) y y', l[k]? = some y → l[k]? = some y' → RN g y y' := by
      intro l hl k y y' hy hy'
      rw [hy] at hy'
      obtain rfl := Option.some.inj hy'
      exact sameN_RN d _ (List.all_eq_true.1 hl _ (List.mem_of_getElem? hy))
    cases v with
    | junk => simp [sameN] at h
    | lp a off => simp only [sameN, decide_eq_true_eq] at h; exact .lp _ _ _ h
    | sl a off n e x => simp only [sameN, decide_eq_true_eq] at h; exact .sl _ _ _ _ _ _ h
    | agg l =>
      simp only [sameN] at h
      split at h
      · rename_i hn; exact .nv _ (by simpa [V.nv] using hn)
      · exact .agg _ _ rfl (all h)
    | tup l =>
      simp only [sameN] at h
      split at h
      · rename_i hn; exact .nv _ (by simpa [V.nv] using hn)
      · exact .tup _ _ rfl (all h)
    | fn f l => simp only [sameN] at h; exact .fn _ _ _ rfl (all h)
    | nl => exact .nl
    | e0 => exact .e0
    | int k n => exact .nv _ rfl
    | bool b => exact .nv _ rfl
    | str b => exact .nv _ rfl
    | fs l => exact .nv _ rfl
    | fp c o => exact .nv _ rfl

theorem obsW_get {s : St} {G : List (Id × Id)} : ∀ {O : List (Id × Bool × Ob)} {k : Prop}, obsW s G O k → (∀ b raw o', (b, raw, o') ∈ O →
    ∃ a o, oldOf G b = some a ∧ s.ob a = some o ∧ o'.ty = o.ty ∧ o'.fz = o.fz ∧ ((raw = true ∧ o.cells = o'.cells ∧ V.nv.nvs o'.cells = true) ∨ o.cells.map (rnF (newOf G) depth) = o'.cells)) ∧ k
  | [], k, h => ⟨fun b raw o' hm => (by simp at hm), h⟩
  | (b0, raw0, o0) :: l, k, h => by
    simp only [obsW] at h
    split at h
    · rename_i o ho
      split at h
      · rename_i hc
        simp only [Bool.and_eq_true, beq_iff_eq] at hc
        obtain ⟨a, h1, h2⟩ := Option.bind_eq_some_iff.1 ho
        have hrest : obsW s G l k ∧ ((raw0 = true ∧ o.cells = o0.cells ∧ V.nv.nvs o0.cells = true) ∨ o.cells.map (rnF (newOf G) depth) = o0.cells) := by
          split at h
          · exact ⟨h.2.2, .inl ⟨rfl, h.1, h.2.1⟩⟩
          · exact ⟨h.2, .inr h.1⟩
        obtain ⟨q1, q2⟩ := obsW_get hrest.1
        refine ⟨fun b raw o' hm => ?_, q2⟩
        simp only [List.mem_cons, Prod.mk.injEq] at hm
        rcases hm with ⟨rfl, rfl, rfl⟩ | hm
        · exact ⟨a, o, h1, h2, hc.1, hc.2, hrest.2⟩
        · exact q1 b raw o' hm
      · exact h.elim
    · exact h.elim

theorem rawK_get {s1 : St} : ∀ {l : List Id} {k : Prop}, rawK s1 l k → ∀ id ∈ l, ∀ o, s1.ob id = some o → V.nv.nvs o.cells = true
  | [], k, h, id, hm, o, ho => by simp at hm
  | a :: l, k, h, id, hm, o, ho => by
    simp only [rawK] at h
    split at h
    · rename_i o1 ho1
      simp only [List.mem_cons] at hm
      rcases hm with rfl | hm
      · rw [ho1] at ho; obtain rfl := Option.some.inj ho; exact h.1
      · exact rawK_get h.2 id hm o ho
    · exact h.elim

theorem keptI_free {A : LoopA} {s0 : St} {i : Nat} {x : A.X} {id : Id} (h : id ∈ keptI A s0 i x) : id ∉ (A.O i x).map (·.1) := by
  have key : ((A.O i x).any fun q => decide (q.1 = id)) = false → id ∉ (A.O i x).map (·.1) := by
    intro hn hm
    obtain ⟨q, hq, rfl⟩ := List.mem_map.1 hm
    simp only [List.any_eq_false, decide_eq_true_eq] at hn
    exact hn q hq rfl
  unfold keptI at h
  simp only [List.mem_append, List.mem_filter, mem_dedup, Bool.and_eq_true, Bool.not_eq_true'] at h
  rcases h with (h | h) | h
  · exact key h.2.1
  · exact key h.2.1
  · exact key h.2

theorem weakS_sound {A : LoopA} {s0 s1 : St} {d : List Id} {i : Nat} {x : A.X} (hn : s1.n = s0.n) (hk : ∀ t ∈ A.keep, s1.tm t = .junk ∨ s1.tm t = s0.tm t) (ho : ∀ id, id ∉ (A.O i x).map (·.1) → id ∉ d → s1.ob id = none ∨ s1.ob id = s0.ob id)
    (h : weakS A s0 s1 d i x) : Weak P E s1 (headS A s0 i x) := by
  unfold weakS at h
  simp only at h
  generalize hGG : matchO s1 (A.O i x) (addG [] ((A.T i x).flatMap (fun p => matchV depth p.2 (s1.tm p.1)) ++ idP (A.keep.flatMap fun t => refs true depth (s0.tm t)) ++ idP (keptI A s0 i x))) = G at h
  split at h
  · rename_i hc
    simp only [Bool.and_eq_true, List.all_eq_true] at hc
    obtain ⟨⟨hG, hkeep⟩, hkept⟩ := hc
    obtain ⟨h1, h2⟩ := h
    obtain ⟨h2, h3⟩ := obsW_get h2
    refine weak_mk hn hG (fun t v hm => ?_) (fun b o' hm => ?_)
    · simp only [headT, List.mem_append, List.mem_map, Prod.mk.injEq] at hm
      rcases hm with hm | ⟨t', ht', rfl, rfl⟩
      · have := List.map_inj_left.1 h1 _ hm
        simp only at this
        rw [← this]
        exact rnF_RN hG _ _
      · have hs := hkeep _ ht'
        have hr := sameN_RN _ _ hs
        rcases hk _ ht' with e | e
        · rw [e] at hs; simp [sameN, depth] at hs
        · rw [e] at hr ⊢; exact hr
    · simp only [headO, List.mem_append, List.mem_map, List.mem_filterMap] at hm
      rcases hm with ⟨⟨b0, raw, o0⟩, hm2, e⟩ | ⟨id, hid, e⟩
      · simp only [Prod.mk.injEq] at e
        obtain ⟨rfl, rfl⟩ := e
        obtain ⟨a, o, p1, p2, p3, p4, p5⟩ := h2 _ _ _ hm2
        refine ⟨a, o, p1, p2, p3, p4, ?_⟩
        rcases p5 with ⟨_, p5, p6⟩ | p5
        · rw [p5]
          refine ⟨rfl, fun k y y' hy hy' => ?_⟩
          rw [hy] at hy'
          obtain rfl := Option.some.inj hy'
          exact .nv _ (nvs_get p6 _ _ hy)
        · rw [← p5]
          refine ⟨by simp, fun k y y' hy hy' => ?_⟩
          simp only [List.getElem?_map, hy, Option.map_some, Option.some.injEq] at hy'
          subst hy'
          exact rnF_RN hG _ _
      · simp only [Option.map_eq_some_iff, Prod.mk.injEq] at e
        obtain ⟨o, ho0, rfl, rfl⟩ := e
        have hko := hkept _ hid
        simp only [keptOk, Bool.and_eq_true, Bool.not_eq_true', decide_eq_true_eq] at hko
        obtain ⟨⟨k1, k2⟩, k3⟩ := hko
        split at k3
        · rename_i o1 ho1
          have hnd : id ∉ d := by
            intro hm
            have := List.contains_iff_mem.2 hm
            rw [this] at k1; cases k1
          have heq : o1 = o := by
            rcases ho id (keptI_free hid) hnd with e | e
            · rw [ho1] at e; cases e
            · rw [ho1, ho0] at e; exact Option.some.inj e
          subst heq
          refine ⟨id, o1, k2, ho1, rfl, rfl, rfl, fun k y y' hy hy' => ?_⟩
          rw [hy] at hy'
          obtain rfl := Option.some.inj hy'
          simp only [Bool.or_eq_true] at k3
          rcases k3 with k3 | k3
          · exact .nv _ (nvs_get (rawK_get h3 id (List.contains_iff_mem.1 k3) _ ho1) _ _ hy)
          · exact sameN_RN _ _ (List.all_eq_true.1 k3 _ (List.mem_of_getElem? hy))
        · cases k3
  · exact h.elim

theorem pickS_sound {A : LoopA} {s0 s1 : St} {d : List Id} {x : A.X} {I : Nat → Prop} (hk : ∀ t ∈ A.keep, s1.tm t = .junk ∨ s1.tm t = s0.tm t) : ∀ {n i : Nat}, (∀ j, i ≤ j → j < i + n → I j → ∀ id, id ∉ (A.O j x).map (·.1) → id ∉ d → s1.ob id = none ∨ s1.ob id = s0.ob id) →
    pickS A s0 s1 d x I n i → ∃ j, i ≤ j ∧ j < i + n ∧ I j ∧ Weak P E s1 (headS A s0 j x)
  | 0, i, ho, h => by simp only [pickS] at h
  | n + 1, i, ho, h => by
    simp only [pickS] at h
    split at h
    · rename_i hf
      simp only [Bool.and_eq_true, beq_iff_eq] at hf
      exact ⟨i, Nat.le_refl _, by omega, h.1, weakS_sound hf.2 hk (ho i (Nat.le_refl _) (by omega) h.1) h.2⟩
    · obtain ⟨j, h1, h2, h3, h4⟩ := pickS_sound hk (fun j h1 h2 => ho j (by omega) (by omega)) h
      exact ⟨j, by omega, by omega, h3, h4⟩

theorem shapes_get {f : Nat → Prop} : ∀ {n i j : Nat}, shapes f n i → i ≤ j → j < i + n → f j
  | 0, i, j, h, h1, h2 => by omega
  | 1, i, j, h, h1, h2 => by
    have : j = i := by omega
    subst this; exact h
  | n + 2, i, j, h, h1, h2 => by
    by_cases hj : j = i
    · subst hj; exact h.1
    · exact shapes_get (n := n + 1) (i := i + 1) h.2 (by omega) (by omega)

theorem iterS_sound {c : Code} {f : St → List Id → (Ex → St → List Id → Prop) → Prop} (hf : ∀ s ws k, f s ws k → ∃ e s' d, Tri P E c s e s' ∧ k e s' (d ++ ws) ∧ Stay c s s' d) :
    ∀ (n : Nat) (s : St) (ws : List Id) (k : Ex → St → List Id → Prop), iterS f n s ws k → ∃ m e s' d, TriN P E c m s e s' ∧ k e s' (d ++ ws) ∧ Stay c s s' d
  | 0, s, ws, k, h => by simp only [iterS] at h
  | n + 1, s, ws, k, h => by
    simp only [iterS] at h
    obtain ⟨e, s1, d, h1, h2, h5⟩ := hf _ _ _ h
    cases e with
    | normal =>
      obtain ⟨m, e, s', d', h3, h4, h6⟩ := iterS_sound hf n s1 _ k h2
      exact ⟨m + 1, e, s', d' ++ d, TriN.round h1 h3, by rw [List.append_assoc]; exact h4, h5.trans' h6 fun t ht => ⟨ht, ht⟩⟩
    | exit id => exact ⟨1, _, _, d, TriN.out (n := 0) h1 (by intro e; cases e), h2, h5⟩
    | ret => exact ⟨1, _, _, d, TriN.out (n := 0) h1 (by intro e; cases e), h2, h5⟩

theorem tri_cond {x : Operand} {c1 c2 : Code} {s s' : St} {e : Ex} {b : Bool} (hx : evO E s.tm x = .bool b) (h : Tri P E (if b then c1 else c2) s e s') : Tri P E (.cond x c1 c2) s e s' := by
  intro w0 H0 β0 hB hG H β a w Q hs hQ
  have hv := hs.ev hG x
  rw [hx] at hv
  cases b with
  | true =>
    cases hq : a.eval x <;> rw [hq] at hv <;> cases hv
    exact wp_cond_true hq (h w0 H0 β0 hB hG H β a w Q hs hQ)
  | false =>
    cases hq : a.eval x <;> rw [hq] at hv <;> cases hv
    exact wp_cond_false hq (h w0 H0 β0 hB hG H β a w Q hs hQ)

theorem outB_sound {id : Nat} {c : Code} {s s' : St} {e : Ex} {ws : List Id} {k : Ex → St → List Id → Prop} (h : Tri P E c s e s') (hk : outB id k e s' ws) : ∃ e', Tri P E (.block id c) s e' s' ∧ k e' s' ws := by
  refine ⟨outOf id e, h.block, ?_⟩
  cases e with
  | normal => exact hk
  | ret => exact hk
  | exit id' =>
    simp only [outB] at hk
    simp only [outOf]
    split at hk
    · rename_i e; rw [if_pos e]; exact hk
    · rename_i e; rw [if_neg e]; exact hk

theorem told_get {A : LoopA} {c : Code} {i : Nat} {x : A.X} {p : Prop} (h : if toldOk A c i x then p else False) : toldOk A c i x = true ∧ p := by
  split at h
  · rename_i e; exact ⟨e, h⟩
  · exact h.elim

theorem told_keep {A : LoopA} {c : Code} {i : Nat} {x : A.X} (h : toldOk A c i x = true) : ∀ t ∈ A.keep, spares t c = true := by
  simp only [toldOk, Bool.and_eq_true, List.all_eq_true] at h
  exact h.2

theorem wpC_sound (hmix : P.follows .mixedOrders = true) (hvw : VwOk P S.vw) (hsp : SpecsOk P E S.sp) (hmk : ∀ n p, S.tag n p → p) : ∀ (c : Code) (lb : Nat) (s : St) (ws : List Id) (k : Ex → St → List Id → Prop), wpC P E S c lb s ws k → ∃ e s' d, Tri P E c s e s' ∧ k e s' (d ++ ws) ∧ Stay c s s' d := by
  intro c
  induction c with
  | skip => intro lb s ws k h; exact ⟨.normal, s, [], Tri.skip s, h, Stay.refl _ _⟩
  | label l => intro lb s ws k h; exact ⟨.normal, s, [], Tri.ev hmix noC_ok (fuel := 0) rfl, h, Stay.refl _ _⟩
  | exit id => intro lb s ws k h; exact ⟨.exit id, s, [], Tri.ev hmix noC_ok (fuel := 0) rfl, h, Stay.refl _ _⟩
  | ret => intro lb s ws k h; exact ⟨.ret, s, [], Tri.ev hmix noC_ok (fuel := 0) rfl, h, Stay.refl _ _⟩
  | region id ops draw =>
    intro lb s ws k h
    simp only [wpC] at h
    obtain ⟨es, sn, h1, h2⟩ := effsS_sound hvw hsp hmk h
    obtain ⟨q1, q2⟩ := effsR_stay h1
    have hst : Stay (.region id ops draw) s sn (upsOf es) := by
      refine ⟨fun i hi => .inr (q1 i hi), fun t ht => .inr (q2 t fun o ho => ?_)⟩
      simp only [spares, Array.all_eq_true_iff_forall_mem, bne_iff_ne] at ht
      exact ht o (by simpa using ho)
    cases draw with
    | true =>
      simp only at h2
      split at h2
      · rename_i hc
        simp only [Bool.and_eq_true] at hc
        exact ⟨_, _, _, triR hmix h1 (fun _ => hc), h2, hst⟩
      · exact h2.elim
    | false => exact ⟨_, _, _, triR hmix h1 (fun h => by cases h), h2, hst⟩
  | seq x y ihx ihy =>
    intro lb s ws k h
    simp only [wpC] at h
    obtain ⟨e, s1, d, h1, h2, h5⟩ := ihx _ _ _ _ h
    have hs : ∀ t, spares t (.seq x y) = true → spares t x = true ∧ spares t y = true := fun t ht => by simpa [spares] using ht
    cases e with
    | normal =>
      obtain ⟨e, s', d', h3, h4, h6⟩ := ihy _ _ _ _ h2
      exact ⟨e, s', d' ++ d, h1.seq h3, by rw [List.append_assoc]; exact h4, h5.trans' h6 hs⟩
    | exit id => exact ⟨_, _, d, h1.seq_out (by intro e; cases e), h2, h5.of fun t ht => (hs t ht).1⟩
    | ret => exact ⟨_, _, d, h1.seq_out (by intro e; cases e), h2, h5.of fun t ht => (hs t ht).1⟩
  | cond x c1 c2 ih1 ih2 =>
    intro lb s ws k h
    simp only [wpC] at h
    have hs : ∀ t, spares t (.cond x c1 c2) = true → spares t c1 = true ∧ spares t c2 = true := fun t ht => by simpa [spares] using ht
    have both : ∀ {v : Bool} {t1 t2 : Nat → V}, evO E s.tm x = .bool v → (v = true → t1 = s.tm) → (v = false → t2 = s.tm) →
        BIF v (wpC P E S c1 lb { s with tm := t1 } ws k) (wpC P E S c2 lb { s with tm := t2 } ws k) → ∃ e s' d, Tri P E (.cond x c1 c2) s e s' ∧ k e s' (d ++ ws) ∧ Stay (.cond x c1 c2) s s' d := by
      intro v t1 t2 hx e1 e2 h
      rcases BIF_case h with ⟨hv, h⟩ | ⟨hv, h⟩
      · rw [e1 hv] at h
        obtain ⟨e, s', d, h3, h4, h5⟩ := ih1 _ _ _ _ h
        exact ⟨e, s', d, tri_cond (b := true) (by rw [hx, hv]) h3, h4, h5.of fun t ht => (hs t ht).1⟩
      · rw [e2 hv] at h
        obtain ⟨e, s', d, h3, h4, h5⟩ := ih2 _ _ _ _ h
        exact ⟨e, s', d, tri_cond (b := false) (by rw [hx, hv]) h3, h4, h5.of fun t ht => (hs t ht).2⟩
    split at h
    · rename_i t v hv
      exact both hv (fun e => by subst e; exact tellT_same hv) (fun e => by subst e; exact tellT_same hv) h
    · rename_i v hx _ hv
      exact both hv (fun _ => rfl) (fun _ => rfl) h
    · exact h.elim
  | block id c ih =>
    intro lb s ws k h
    have hs : ∀ t, spares t (.block id c) = true → spares t c = true := fun t ht => by simpa [spares] using ht
    simp only [wpC] at h
    split at h
    · obtain ⟨e, s', d, h1, h2, h5⟩ := ih _ _ _ _ h
      obtain ⟨e', h3, h4⟩ := outB_sound h1 h2
      exact ⟨e', s', d, h3, h4, h5.of hs⟩
    · rename_i A hA
      obtain ⟨I, h, hsh⟩ := h
      obtain ⟨e, s', d, h1, h2, h5⟩ := ih _ _ _ _ h
      obtain ⟨e', h3, h4⟩ := outB_sound h1 h2
      cases e' with
      | normal =>
        simp only at h4
        rw [List.append_nil] at h4
        obtain ⟨x, hx⟩ := h4
        by_cases hA0 : ∃ j, j < A.n ∧ I j x
        · obtain ⟨j0, hj0, hI0⟩ := hA0
          have hkeep := told_keep (told_get (shapes_get hsh (Nat.zero_le j0) (by omega) x)).1
          obtain ⟨j, j1, j2, hI, hW⟩ := pickS_sound (P := P) (E := E) (fun t ht => h5.tm t (hkeep t ht)) (fun j _ _ _ id _ hd => h5.ob id hd) hx
          obtain ⟨ht, hk⟩ := told_get (shapes_get hsh j1 j2 x)
          exact ⟨.normal, headS A s j x, (A.O j x).map (·.1), h3.post hW, hk hI, (head_stay ht).of hs⟩
        · exfalso
          have : ∀ {n i : Nat}, i + n ≤ A.n → ¬ pickS A s s' d x (fun i => I i x) n i := by
            intro n
            induction n with
            | zero => intro i _ h; simp only [pickS] at h
            | succ n ihn =>
              intro i hi h
              simp only [pickS] at h
              split at h
              · exact hA0 ⟨i, by omega, h.1⟩
              · exact ihn (by omega) h
          exact this (by omega) hx
      | exit id =>
        simp only [List.append_nil] at h4
        exact ⟨_, _, d, h3, h4, h5.of hs⟩
      | ret =>
        simp only [List.append_nil] at h4
        exact ⟨_, _, d, h3, h4, h5.of hs⟩
  | loop c ih =>
    intro lb s ws k h
    have hs : ∀ t, spares t (.loop c) = true → spares t c = true := fun t ht => by simpa [spares] using ht
    simp only [wpC] at h
    split at h
    · obtain ⟨m, e, s', d, h1, h2, h3⟩ := iterS_sound (fun s ws k h => ih lb s ws k h) _ _ _ _ h
      exact ⟨e, s', d, Tri.loop h1, h2, h3.of hs⟩
    · rename_i A hA
      obtain ⟨I, mu, ⟨x, hx⟩, hsh⟩ := h
      obtain ⟨j, j1, j2, hI, hW⟩ := pickS_sound (P := P) (E := E) (fun t ht => .inr rfl) (fun j _ _ _ id _ _ => .inr rfl) hx
      have key : ∀ (m : Nat) (j : Nat) (x : A.X) (s1 : St), j < A.n → I j x → mu j x ≤ m → Weak P E s1 (headS A s j x) → ∃ N e s' d, TriN P E c N s1 e s' ∧ k e s' (d ++ ws) ∧ Stay c s s' d := by
        intro m
        induction m with
        | zero =>
          intro j x s1 hj hI hm hW
          obtain ⟨ht, hbody⟩ := told_get (shapes_get hsh (Nat.zero_le j) (by omega) x)
          obtain ⟨e, s2, d, h1, h2, h5⟩ := ih _ _ _ _ (hbody hI)
          have hst := (head_stay (s0 := s) ht).trans' h5 (c := c) fun t ht => ⟨ht, ht⟩
          cases e with
          | normal =>
            obtain ⟨x', hx'⟩ := h2
            have : ∀ {n i : Nat}, pickS A s s2 (d ++ (A.O j x).map (·.1)) x' (fun i => I i x' ∧ mu i x' < mu j x) n i → False := by
              intro n
              induction n with
              | zero => intro i h; simp only [pickS] at h
              | succ n ihn =>
                intro i h
                simp only [pickS] at h
                split at h
                · have := h.1.2; omega
                · exact ihn h
            exact (this hx').elim
          | exit id => exact ⟨1, _, _, _, TriN.pre hW (TriN.out (n := 0) h1 (by intro e; cases e)), h2, hst⟩
          | ret => exact ⟨1, _, _, _, TriN.pre hW (TriN.out (n := 0) h1 (by intro e; cases e)), h2, hst⟩
        | succ m ihm =>
          intro j x s1 hj hI hm hW
          obtain ⟨ht, hbody⟩ := told_get (shapes_get hsh (Nat.zero_le j) (by omega) x)
          obtain ⟨e, s2, d, h1, h2, h5⟩ := ih _ _ _ _ (hbody hI)
          have hh := head_stay (s0 := s) ht
          have hst := hh.trans' h5 (c := c) fun t ht => ⟨ht, ht⟩
          cases e with
          | normal =>
            obtain ⟨x', hx'⟩ := h2
            obtain ⟨j', q1, q2, hI', hW'⟩ := pickS_sound (P := P) (E := E) (fun t htk => hst.tm t (told_keep ht t htk)) (fun j' _ _ _ id hid hd => hst.ob id hd) hx'
            obtain ⟨N, e, s', d', h3, h4, h6⟩ := ihm j' x' s2 (by omega) hI'.1 (by have := hI'.2; omega) hW'
            exact ⟨N + 1, e, s', d', TriN.pre hW (TriN.round h1 h3), h4, h6⟩
          | exit id => exact ⟨1, _, _, _, TriN.pre hW (TriN.out (n := 0) h1 (by intro e; cases e)), h2, hst⟩
          | ret => exact ⟨1, _, _, _, TriN.pre hW (TriN.out (n := 0) h1 (by intro e; cases e)), h2, hst⟩
      obtain ⟨N, e, s', d, h1, h2, h3⟩ := key _ j x s (by omega) hI (Nat.le_refl _) hW
      exact ⟨e, s', d, Tri.loop h1, h2, h3.of hs⟩
  | _ => intro lb s ws k h; simp [wpC] at h

theorem wpF_sound (hmix : P.follows .mixedOrders = true) (hvw : VwOk P S.vw) (hsp : SpecsOk P E S.sp) (hmk : ∀ n p, S.tag n p → p) {f : FuncId} {args : List V} {bo : List Ob} {Q : V → List Ob → List Ob → Prop} (h : wpF P E S f args bo Q) : ∃ r bo' ro, Con P E f args bo r bo' ro ∧ Q r bo' ro := by
  unfold wpF at h
  split at h
  · rename_i fn hfn
    split at h
    · rename_i c hb
      obtain ⟨e, s', d, h1, h2, _⟩ := wpC_sound hmix hvw hsp hmk _ _ _ _ _ h
      cases e with
      | normal =>
        obtain ⟨r, bo', ro, h3, h4⟩ := packS_sound hvw hmk h2
        exact ⟨r, bo', ro, Tri.con hfn hb h1 (.inl rfl) h3, h4⟩
      | ret =>
        obtain ⟨r, bo', ro, h3, h4⟩ := packS_sound hvw hmk h2
        exact ⟨r, bo', ro, Tri.con hfn hb h1 (.inr rfl) h3, h4⟩
      | exit id => exact h2.elim
    · exact h.elim
  · exact h.elim

/-- A function's contract out of what its body asks. -/
theorem specOk (hmix : P.follows .mixedOrders = true) (hvw : VwOk P S.vw) (hsp : SpecsOk P E S.sp) (hmk : ∀ n p, S.tag n p → p) {f : FuncId} (hok : callOk P f = true) {pt : PT} (h : ∀ args bo Q, pt args bo Q → wpF P E S f args bo Q) : SpecOk P E f pt :=
  ⟨hok, fun args bo Q hp => wpF_sound hmix hvw hsp hmk (h args bo Q hp)⟩

theorem SpecsOk.nil : SpecsOk P E [] := fun p h => by simp at h
theorem SpecsOk.cons {f : FuncId} {pt : PT} {l : List (FuncId × PT)} (h : SpecOk P E f pt) (k : SpecsOk P E l) : SpecsOk P E ((f, pt) :: l) := fun p hp => by
  simp only [List.mem_cons] at hp
  rcases hp with rfl | hp
  · exact h
  · exact k p hp
end
end Go.Vi

/- Plain data, and how the interpreter sees it. -/
namespace Go.Vi

def vwInt : View := ⟨Int, V.int .i64, 1, false⟩
def vwStr : View := ⟨ByteArray, V.str, 1, false⟩
def vwU8 : View := ⟨UInt8, fun b => V.int .u8 b.toNat, 1, false⟩

structure Pl where
  f : Int
  a : Int
  b : Int
  c : Int
  deriving DecidableEq

def Pl.v (p : Pl) : V := .agg [.int .i64 p.f, .int .i64 p.a, .int .i64 p.b, .int .i64 p.c]
def vwPl : View := ⟨Pl, Pl.v, 4, true⟩

attribute [reducible] vwInt vwStr vwU8 vwPl

/-- Two numbers. -/
structure I2 where
  x : Int
  y : Int
  deriving DecidableEq
def I2.v (p : I2) : V := .agg [.int .i64 p.x, .int .i64 p.y]
def vwI2 : View := ⟨I2, I2.v, 2, true⟩
attribute [reducible] vwI2

/-- Three numbers. -/
structure I3 where
  x : Int
  y : Int
  z : Int
  deriving DecidableEq
def I3.v (p : I3) : V := .agg [.int .i64 p.x, .int .i64 p.y, .int .i64 p.z]
def vwI3 : View := ⟨I3, I3.v, 3, true⟩
attribute [reducible] vwI3

/-- A reader of numbers: its list, and how many it has read. -/
structure Rdr where
  l : List Int
  p : Int

def inR (x : Int) : Prop := -9223372036854775808 ≤ x ∧ x ≤ 9223372036854775807

structure Rdr.ok (r : Rdr) : Prop where
  lo : 0 ≤ r.p
  hi : r.p ≤ r.l.length
  len : r.l.length ≤ 2000
  el : ∀ x ∈ r.l, inR x

theorem BIF_in {b : Bool} {p q : Prop} (h1 : b = true → p) (h2 : b = false → q) : BIF b p q := by
  cases b with
  | true => exact h1 rfl
  | false => exact h2 rfl
theorem BIF_t {b : Bool} {p q : Prop} (h : b = true) (h1 : p) : BIF b p q := by subst h; exact h1
theorem BIF_f {b : Bool} {p q : Prop} (h : b = false) (h1 : q) : BIF b p q := by subst h; exact h1
theorem BIF_d {r : Prop} [Decidable r] {p q : Prop} (h1 : r → p) (h2 : ¬ r → q) : BIF (decide r) p q := BIF_in (fun h => h1 (of_decide_eq_true h)) (fun h => h2 (of_decide_eq_false h))
theorem BIF_n {b : Bool} {p q : Prop} (h1 : b = false → p) (h2 : b = true → q) : BIF (!b) p q := by
  cases b with
  | true => exact h2 rfl
  | false => exact h1 rfl
theorem BIF_e {a b : Int} {p q : Prop} (h1 : a = b → p) (h2 : a ≠ b → q) : BIF (a == b) p q := BIF_in (fun h => h1 (by simpa using h)) (fun h => h2 (by simpa using h))
theorem BIF_ne {a b : Int} {p q : Prop} (h1 : a ≠ b → p) (h2 : a = b → q) : BIF (a != b) p q := BIF_in (fun h => h1 (by simpa using h)) (fun h => h2 (by simpa using h))
theorem Qc {Q : V → List Ob → List Ob → Prop} {v v' : V} {a b : List Ob} (h : v = v') (hq : Q v' a b) : Q v a b := h ▸ hq
theorem b1 {x y : Bool} (h : x = true ↔ y = true) : V.bool x = V.bool y := by rw [Bool.eq_iff_iff.2 h]
theorem i1 {k : IntKind} {x y : Int} (h : x = y) : V.int k x = V.int k y := by rw [h]

theorem wrap_u8 (b : UInt8) : (0 : Int) ≤ b.toNat ∧ ((b.toNat : Nat) : Int) ≤ 255 := by
  have := b.toNat_lt
  omega
end Go.Vi

/- A law's arguments, as typed data; a nil slice is read like an empty one. -/
set_option linter.unusedSimpArgs false
namespace Go.Vi
open Go

/-- A nil slice as an empty one. -/
def den : V → V
  | .nl => .fs []
  | v => v

theorem RV.den {P : Program} {H : Hp} {β : Bt} {v : V} {u : Value} (h : RV P H β v u) : RV P H β (den v) u := by
  cases v <;> try exact h
  cases h
  exact .fs0 ..

theorem Con.den {P : Program} {E : Env} {f : FuncId} {xs : List V} {bo bo' ro : List Ob} {r : V} (h : Con P E f (xs.map Go.Vi.den) bo r bo' ro) : Con P E f xs bo r bo' ro := by
  intro H β w vs h1 h2 h3 h4
  refine h H β w vs h1 h2 h3 ⟨by rw [List.length_map]; exact h4.1, fun k y u hy hu => ?_⟩
  rw [List.getElem?_map] at hy
  cases hx : xs[k]? with
  | none => rw [hx] at hy; cases hy
  | some x =>
    rw [hx] at hy
    obtain rfl := Option.some.inj hy
    exact (h4.2 k x u hx hu).den

/-- What a function surely answers, whatever its spec lets us choose. -/
theorem SpecOk.con {P : Program} {E : Env} {f : FuncId} {pt : PT} (h : SpecOk P E f pt) {xs : List V} {r : V} (hp : pt (xs.map Go.Vi.den) [] fun r' _ _ => r' = r) : ∃ bo ro, Con P E f xs [] r bo ro := by
  obtain ⟨r', bo', ro, hc, rfl⟩ := h.2 _ _ _ hp
  exact ⟨bo', ro, hc.den⟩

theorem ls_of {w : View} {R : w.α → Prop} {g : List V → V} : ∀ {yss : List (List V)}, (∀ ys ∈ yss, ∃ a, g ys = w.enc a ∧ R a) → ∃ l : List w.α, yss.map g = w.ls l ∧ ∀ a ∈ l, R a
  | [], _ => ⟨[], rfl, fun a ha => by cases ha⟩
  | ys :: r, h => by
    obtain ⟨a, h1, h2⟩ := h ys (by simp)
    obtain ⟨l, h3, h4⟩ := ls_of (yss := r) fun z hz => h z (by simp [hz])
    exact ⟨a :: l, by rw [List.map_cons, h1, h3]; rfl, fun b hb => by
      rcases List.mem_cons.1 hb with rfl | hb
      · exact h2
      · exact h4 b hb⟩

theorem wf_i64 {z : Int} (h : (Lit.int .i64 z).wf = true) : -9223372036854775808 ≤ z ∧ z ≤ 9223372036854775807 := by
  simp only [Lit.wf, Bool.and_eq_true, decide_eq_true_eq] at h
  exact h

theorem wf_u8 {z : Int} (h : (Lit.int .u8 z).wf = true) : ∃ b : UInt8, z = b.toNat := by
  simp only [Lit.wf, Bool.and_eq_true, decide_eq_true_eq] at h
  have h1 : 0 ≤ z := h.1
  have h2 : z ≤ 255 := h.2
  refine ⟨UInt8.ofNat z.toNat, ?_⟩
  rw [UInt8.toNat_ofNat']
  omega

section
variable {P : Program} {ft : Nat} {t e : TypeId} {x : V}
theorem argInt {k : IntKind} (hu : P.underlying t = some (.int k)) (h : ArgT P (ft + 1) t x) : ∃ z, x = .int k z ∧ (Lit.int k z).wf = true := by
  obtain ⟨ys, rfl, h⟩ := h
  simp only [HasT, hu] at h
  obtain ⟨z, rfl, h⟩ := h
  exact ⟨z, by simp [isAggT, hu], h⟩
theorem argStr (hu : P.underlying t = some .string) (h : ArgT P (ft + 1) t x) : ∃ s : ByteArray, x = .str s ∧ s.size ≤ maxLen := by
  obtain ⟨ys, rfl, h⟩ := h
  simp only [HasT, hu] at h
  obtain ⟨z, rfl, h⟩ := h
  exact ⟨z, by simp [isAggT, hu], h⟩
theorem argBool (hu : P.underlying t = some .bool) (h : ArgT P (ft + 1) t x) : ∃ b, x = .bool b := by
  obtain ⟨ys, rfl, h⟩ := h
  simp only [HasT, hu] at h
  obtain ⟨z, rfl⟩ := h
  exact ⟨z, by simp [isAggT, hu]⟩
/-- A slice of the elements that a view tells. -/
theorem argSl {w : View} {R : w.α → Prop} (hu : P.underlying t = some (.slice e)) (he : ∀ y, ArgT P ft e y → ∃ a, y = w.enc a ∧ R a) (h : ArgT P (ft + 1) t x) : ∃ l : List w.α, den x = .fs (w.ls l) ∧ l.length ≤ maxLen ∧ ∀ a ∈ l, R a := by
  obtain ⟨ys, rfl, h⟩ := h
  simp only [HasT, hu] at h
  have hf : isAggT P t = false := by simp [isAggT, hu]
  rw [hf]
  rcases h with rfl | ⟨yss, rfl, hl, h⟩
  · exact ⟨[], rfl, Nat.zero_le _, fun a ha => by cases ha⟩
  · obtain ⟨l, h1, h2⟩ := ls_of (w := w) (R := R) (g := fun ys => if isAggT P e then .agg ys else ys.headD .junk) (yss := yss) fun ys hy => he _ ⟨ys, rfl, h ys hy⟩
    refine ⟨l, by show den (.fs _) = _; rw [h1]; rfl, ?_, h2⟩
    have := congrArg List.length h1
    rw [List.length_map] at this
    simp only [View.ls, List.length_map] at this
    omega
end
end Go.Vi

/- Places on the icosahedron, in plain Lean. -/
namespace Go.Vi

def corT : List I3 := [⟨0, 1, 2⟩, ⟨0, 2, 3⟩, ⟨0, 3, 4⟩, ⟨0, 4, 5⟩, ⟨0, 5, 1⟩, ⟨1, 6, 2⟩, ⟨2, 7, 3⟩, ⟨3, 8, 4⟩, ⟨4, 9, 5⟩, ⟨5, 10, 1⟩, ⟨6, 7, 2⟩, ⟨7, 8, 3⟩, ⟨8, 9, 4⟩, ⟨9, 10, 5⟩, ⟨10, 6, 1⟩, ⟨11, 7, 6⟩, ⟨11, 8, 7⟩, ⟨11, 9, 8⟩, ⟨11, 10, 9⟩, ⟨11, 6, 10⟩]

def okF (f : Int) : Bool := decide (0 ≤ f ∧ f < 20)
def okP (p : Pl) : Bool := decide (0 ≤ p.f ∧ p.f < 20 ∧ 0 ≤ p.a ∧ p.a ≤ 840 ∧ 0 ≤ p.b ∧ p.b ≤ 840 ∧ 0 ≤ p.c ∧ p.c ≤ 840 ∧ p.a + p.b + p.c = 840)
def corI (f : Int) : I3 := corT.getD f.toNat ⟨0, 0, 0⟩

/-- The weight of a vertex. -/
def wt (p : Pl) (j : Nat) : Int := if (corI p.f).z.toNat = j then p.c else if (corI p.f).y.toNat = j then p.b else if (corI p.f).x.toNat = j then p.a else 0
def wv (g : Nat → Int) : V := .agg [.int .i64 (g 0), .int .i64 (g 1), .int .i64 (g 2), .int .i64 (g 3), .int .i64 (g 4), .int .i64 (g 5), .int .i64 (g 6), .int .i64 (g 7), .int .i64 (g 8), .int .i64 (g 9), .int .i64 (g 10), .int .i64 (g 11)]
def wl (g : Nat → Int) : List Int := [g 0, g 1, g 2, g 3, g 4, g 5, g 6, g 7, g 8, g 9, g 10, g 11]
def onP (n : Int) (g : Nat → Int) : Pl := ⟨n, g (corI n).x.toNat, g (corI n).y.toNat, g (corI n).z.toNat⟩
def cornF (n : Int) : I3 × Int := if okF n then (corI n, 0) else (⟨0, 0, 0⟩, 1)
def addrK (p : Pl) (k : Nat) : List Pl := ((List.range k).map fun (n : Nat) => onP (n : Int) (wt p)).filter okP
def addrF (p : Pl) : List Pl × Int := if okP p then (addrK p 20, 0) else ([], 1)
def nrmF (p : Pl) : Pl × Int := if okP p then ((addrK p 20).head?.getD p, 0) else (⟨0, 0, 0, 0⟩, 1)
def wtEq (g h : Nat → Int) : Bool := (wl g) == (wl h)
def sameF (p q : Pl) : Bool := okP p && (okP q && wtEq (wt p) (wt q))

theorem addrK_succ (p : Pl) (k : Nat) : addrK p (k + 1) = addrK p k ++ (if okP (onP k (wt p)) then [onP k (wt p)] else []) := by
  simp only [addrK, List.range_succ, List.map_append, List.filter_append, List.map_cons, List.map_nil, List.filter_cons, List.filter_nil]

theorem addrK_len (p : Pl) (k : Nat) : (addrK p k).length ≤ k := by
  unfold addrK
  exact Nat.le_trans (List.length_filter_le _ _) (by simp)

theorem addrK_more (p : Pl) (k : Nat) : ∀ m, ∃ l, addrK p (k + m) = addrK p k ++ l
  | 0 => ⟨[], by simp⟩
  | m + 1 => by
    obtain ⟨l, h⟩ := addrK_more p k m
    exact ⟨l ++ (if okP (onP ((k + m : Nat) : Int) (wt p)) then [onP ((k + m : Nat) : Int) (wt p)] else []), by rw [← Nat.add_assoc, addrK_succ, h, List.append_assoc]⟩

theorem addrK_head (p : Pl) {k : Nat} (hk : k ≤ 20) {q : Pl} (h : addrK p k = [q]) : (addrK p 20).head?.getD p = q := by
  obtain ⟨l, hl⟩ := addrK_more p k (20 - k)
  rw [show k + (20 - k) = 20 by omega, h] at hl
  rw [hl]; rfl

theorem corT_len : corT.length = 20 := rfl
theorem corT_in : ∀ x ∈ corT, (0 ≤ x.x ∧ x.x < 12) ∧ (0 ≤ x.y ∧ x.y < 12) ∧ (0 ≤ x.z ∧ x.z < 12) := by decide
theorem corI_of {f : Int} {x : I3} (h : corT[f.toNat]? = some x) : corI f = x := by
  unfold corI
  rw [List.getD_eq_getElem?_getD, h]; rfl
theorem corI_in (f : Int) : (0 ≤ (corI f).x ∧ (corI f).x < 12) ∧ (0 ≤ (corI f).y ∧ (corI f).y < 12) ∧ (0 ≤ (corI f).z ∧ (corI f).z < 12) := by
  unfold corI
  rw [List.getD_eq_getElem?_getD]
  cases h : corT[f.toNat]? with
  | none => decide
  | some x => exact corT_in x (List.mem_of_getElem? h)

theorem okF_iff {f : Int} : okF f = true ↔ 0 ≤ f ∧ f < 20 := by simp [okF]
theorem okP_iff {p : Pl} : okP p = true ↔ (0 ≤ p.f ∧ p.f < 20 ∧ 0 ≤ p.a ∧ p.a ≤ 840 ∧ 0 ≤ p.b ∧ p.b ≤ 840 ∧ 0 ≤ p.c ∧ p.c ≤ 840 ∧ p.a + p.b + p.c = 840) := by simp [okP]

/-! ### texts -/
def dgI (x : Int) (k : Nat) : Int := 48 + x / (10 ^ k : Nat) % 10
def dgB (x : Int) (k : Nat) : UInt8 := UInt8.ofNat (dgI x k).toNat
def fmtS (p : Pl) : ByteArray := ⟨#[dgB p.f 1, dgB p.f 0, dgB p.a 2, dgB p.a 1, dgB p.a 0, dgB p.b 2, dgB p.b 1, dgB p.b 0]⟩
def fmtF (p : Pl) : ByteArray × Int := if okP p then (fmtS p, 0) else (⟨#[]⟩, 1)
def isDg (b : UInt8) : Bool := decide (48 ≤ b.toNat ∧ b.toNat ≤ 57)
def dgV (b : UInt8) : Int := (b.toNat : Int) - 48
def num2 (a b : UInt8) : Int := 10 * dgV a + dgV b
def num3 (a b c : UInt8) : Int := 10 * (10 * dgV a + dgV b) + dgV c
def prsP (a b c d e f g h : UInt8) : Pl := ⟨num2 a b, num3 c d e, num3 f g h, 840 - num3 c d e - num3 f g h⟩
def prs8 (a b c d e f g h : UInt8) : Pl × Int :=
  if isDg a && (isDg b && (isDg c && (isDg d && (isDg e && (isDg f && (isDg g && isDg h)))))) then
    if okP (prsP a b c d e f g h) then (prsP a b c d e f g h, 0) else (⟨0, 0, 0, 0⟩, 3)
  else (⟨0, 0, 0, 0⟩, 3)
def prsF (s : ByteArray) : Pl × Int :=
  match s.data.toList with
  | [a, b, c, d, e, f, g, h] => prs8 a b c d e f g h
  | _ => (⟨0, 0, 0, 0⟩, 3)

def dD (a b c d e f g h : UInt8) : Prop := ((48 ≤ a.toNat ∧ a.toNat ≤ 57) ∧ (48 ≤ b.toNat ∧ b.toNat ≤ 57)) ∧ ((48 ≤ c.toNat ∧ c.toNat ≤ 57) ∧ (48 ≤ d.toNat ∧ d.toNat ≤ 57)) ∧ ((48 ≤ e.toNat ∧ e.toNat ≤ 57) ∧ (48 ≤ f.toNat ∧ f.toNat ≤ 57)) ∧ ((48 ≤ g.toNat ∧ g.toNat ≤ 57) ∧ (48 ≤ h.toNat ∧ h.toNat ≤ 57))
theorem prs8_no {a b c d e f g h : UInt8} (hn : ¬ dD a b c d e f g h) : prs8 a b c d e f g h = (⟨0, 0, 0, 0⟩, 3) := by
  unfold prs8
  rw [if_neg]
  intro hh
  simp only [Bool.and_eq_true, isDg, decide_eq_true_eq] at hh
  unfold dD at hn
  exact hn (by omega)
theorem prs8_yes {a b c d e f g h : UInt8} (hn : dD a b c d e f g h) : prs8 a b c d e f g h = if okP (prsP a b c d e f g h) then (prsP a b c d e f g h, 0) else (⟨0, 0, 0, 0⟩, 3) := by
  unfold prs8
  rw [if_pos]
  unfold dD at hn
  simp only [Bool.and_eq_true, isDg, decide_eq_true_eq]
  omega

theorem dgV_in {b : UInt8} (h : isDg b = true) : 0 ≤ dgV b ∧ dgV b ≤ 9 := by
  simp only [isDg, decide_eq_true_eq] at h
  unfold dgV
  omega

theorem dg_tmod {x : Int} (h : 0 ≤ x) : x.tmod 10 = x % 10 ∧ x.tdiv 10 = x / 10 := ⟨Int.tmod_eq_emod_of_nonneg h, Int.tdiv_eq_ediv_of_nonneg h⟩

theorem prsF_eq {s : ByteArray} (h : s.size = 8) : ∃ a b c d e f g i, s = ⟨#[a, b, c, d, e, f, g, i]⟩ := by
  obtain ⟨⟨l⟩⟩ := s
  have hl : l.length = 8 := h
  match l, hl with
  | [a, b, c, d, e, f, g, i], _ => exact ⟨a, b, c, d, e, f, g, i, rfl⟩

theorem prsF_ne {s : ByteArray} (h : s.size ≠ 8) : prsF s = (⟨0, 0, 0, 0⟩, 3) := by
  unfold prsF
  split
  · rename_i heq
    exfalso
    apply h
    have : s.data.toList.length = 8 := by rw [heq]; rfl
    simpa using this
  · rfl

/-! ### across -/
def c3 (x : I3) : List Int := [x.x, x.y, x.z]
def hasAB (n k f : Int) : Bool := (c3 (corI f)).any (fun v => v == (c3 (corI n)).getD ((k + 1) % 3).toNat 0) && ((c3 (corI f)).any (fun v => v == (c3 (corI n)).getD ((k + 2) % 3).toNat 0) && f != n)

def midP (n : Int) (k : Int) : Pl := ⟨n, if k = 0 then 0 else 420, if k = 1 then 0 else 420, if k = 2 then 0 else 420⟩
def acrF (n k : Int) : Int × Int := if okF n && (decide (0 ≤ k) && decide (k ≤ 2)) then (match (addrK (midP n k) 20).find? (fun q => q.f != n) with | some q => (q.f, 0) | none => (0, 1)) else (0, 1)

set_option maxRecDepth 100000 in
theorem acr_ref : (List.range 20).all (fun n => (List.range 3).all fun k => (match (List.range 20).find? (fun (f : Nat) => hasAB (n : Nat) (k : Nat) (f : Nat)) with | some (f : Nat) => acrF (n : Nat) (k : Nat) == ((f : Int), 0) | none => false)) = true := by kernel_rfl

theorem acr_out {n k : Int} (hn : okF n = true) (hk : 0 ≤ k ∧ k ≤ 2) : ∃ f : Nat, f < 20 ∧ hasAB n k f = true ∧ (∀ g : Nat, g < f → hasAB n k g = false) ∧ acrF n k = ((f : Int), 0) := by
  have hn := okF_iff.1 hn
  have h := acr_ref
  have h1 := List.all_eq_true.1 h n.toNat (List.mem_range.2 (by omega))
  have h2 := List.all_eq_true.1 h1 k.toNat (List.mem_range.2 (by omega))
  rw [show ((n.toNat : Nat) : Int) = n by omega, show ((k.toNat : Nat) : Int) = k by omega] at h2
  split at h2
  · rename_i f hf
    obtain ⟨p1, i, p2, p3, p4⟩ := List.find?_eq_some_iff_getElem.1 hf
    rw [List.getElem_range] at p3
    subst p3
    have hlt : i < 20 := by simpa using p2
    refine ⟨i, hlt, p1, fun g hg => ?_, by simpa using h2⟩
    have := p4 g hg
    rw [List.getElem_range] at this
    simpa using this
  · cases h2

theorem wt_in {p : Pl} (h : okP p = true) (j : Nat) : 0 ≤ wt p j ∧ wt p j ≤ 840 := by
  have h := okP_iff.1 h
  unfold wt
  split
  · omega
  split
  · omega
  split <;> omega

/-- On a valid place's weights a sum is enough. -/
theorem onP_sum {p : Pl} (h : okP p = true) {k : Int} (hk : okF k = true) : okP (onP k (wt p)) = (wt p (corI k).x.toNat + wt p (corI k).y.toNat + wt p (corI k).z.toNat == 840) := by
  have h1 := wt_in h (corI k).x.toNat
  have h2 := wt_in h (corI k).y.toNat
  have h3 := wt_in h (corI k).z.toNat
  have hk := okF_iff.1 hk
  rw [Bool.eq_iff_iff, okP_iff, beq_iff_eq]
  simp only [onP]
  omega

theorem corT_ne : ∀ x ∈ corT, x.x.toNat ≠ x.y.toNat ∧ x.x.toNat ≠ x.z.toNat ∧ x.y.toNat ≠ x.z.toNat := by decide
theorem corI_mem {f : Int} (h : okF f = true) : corI f ∈ corT := by
  have h := okF_iff.1 h
  have hl : f.toNat < corT.length := by rw [corT_len]; omega
  have : corT[f.toNat]? = some corT[f.toNat] := List.getElem?_eq_getElem hl
  rw [corI_of this]
  exact List.getElem_mem hl

theorem onP_self {p : Pl} (h : okP p = true) : onP p.f (wt p) = p := by
  have hp := okP_iff.1 h
  obtain ⟨h1, h2, h3⟩ := corT_ne _ (corI_mem (okF_iff.2 ⟨hp.1, hp.2.1⟩))
  obtain ⟨f, a, b, c⟩ := p
  simp only [onP, wt] at *
  simp only [if_neg (Ne.symm h2), if_neg (Ne.symm h1), if_neg (Ne.symm h3), if_true]

theorem self_mem {p : Pl} (h : okP p = true) : p ∈ addrK p 20 := by
  have hp := okP_iff.1 h
  simp only [addrK, List.mem_filter, List.mem_map, List.mem_range]
  exact ⟨⟨p.f.toNat, by omega, by rw [show ((p.f.toNat : Nat) : Int) = p.f by omega, onP_self h]⟩, h⟩

theorem addrK_pos {p : Pl} (h : okP p = true) : ∃ q l, addrK p 20 = q :: l := by
  have := self_mem h
  cases hl : addrK p 20 with
  | nil => rw [hl] at this; simp at this
  | cons q l => exact ⟨q, l, rfl⟩

theorem wl_get (g : Nat → Int) {j : Nat} (h : j < 12) : (wl g)[j]? = some (g j) := by
  have : j = 0 ∨ j = 1 ∨ j = 2 ∨ j = 3 ∨ j = 4 ∨ j = 5 ∨ j = 6 ∨ j = 7 ∨ j = 8 ∨ j = 9 ∨ j = 10 ∨ j = 11 := by omega
  rcases this with rfl | rfl | rfl | rfl | rfl | rfl | rfl | rfl | rfl | rfl | rfl | rfl <;> rfl
end Go.Vi

/- The addresses of a place, in plain Lean. -/
set_option linter.unusedSimpArgs false
namespace Go.Vi

def inC (v : Nat) (x : I3) : Bool := x.x.toNat == v || (x.y.toNat == v || x.z.toNat == v)
/-- Does a face have all corners of a place that bear weight? -/
def patt (c k : I3) (za zb zc : Bool) : Bool := (za || inC c.x.toNat k) && ((zb || inC c.y.toNat k) && (zc || inC c.z.toNat k))

theorem wt_sum {p : Pl} (h : okF p.f = true) (v : Nat) : wt p v = (if (corI p.f).x.toNat = v then p.a else 0) + (if (corI p.f).y.toNat = v then p.b else 0) + (if (corI p.f).z.toNat = v then p.c else 0) := by
  obtain ⟨h1, h2, h3⟩ := corT_ne _ (corI_mem h)
  unfold wt
  generalize (corI p.f).x.toNat = x at *
  generalize (corI p.f).y.toNat = y at *
  generalize (corI p.f).z.toNat = z at *
  by_cases e1 : x = v <;> by_cases e2 : y = v <;> by_cases e3 : z = v <;> simp [e1, e2, e3] <;> omega

theorem inC_iff {u : Nat} {k : I3} : inC u k = true ↔ u = k.x.toNat ∨ u = k.y.toNat ∨ u = k.z.toNat := by
  simp only [inC, Bool.or_eq_true, beq_iff_eq]
  constructor <;> (intro h; omega)

theorem one_of {k : I3} (hk : k ∈ corT) (u : Nat) (a : Int) : (if u = k.x.toNat then a else 0) + (if u = k.y.toNat then a else 0) + (if u = k.z.toNat then a else 0) = if inC u k then a else 0 := by
  obtain ⟨h1, h2, h3⟩ := corT_ne _ hk
  by_cases e1 : u = k.x.toNat
  · rw [if_pos e1, if_neg (by omega), if_neg (by omega), if_pos (inC_iff.2 (.inl e1))]; omega
  · by_cases e2 : u = k.y.toNat
    · rw [if_neg e1, if_pos e2, if_neg (by omega), if_pos (inC_iff.2 (.inr (.inl e2)))]; omega
    · by_cases e3 : u = k.z.toNat
      · rw [if_neg e1, if_neg e2, if_pos e3, if_pos (inC_iff.2 (.inr (.inr e3)))]; omega
      · rw [if_neg e1, if_neg e2, if_neg e3, if_neg (fun h => by have := inC_iff.1 h; omega)]; omega

theorem ok_patt {p : Pl} (h : okP p = true) {k : Int} (hk : okF k = true) : okP (onP k (wt p)) = patt (corI p.f) (corI k) (p.a == 0) (p.b == 0) (p.c == 0) := by
  have hp := okP_iff.1 h
  have hf : okF p.f = true := okF_iff.2 ⟨hp.1, hp.2.1⟩
  have e1 := one_of (corI_mem hk) (corI p.f).x.toNat p.a
  have e2 := one_of (corI_mem hk) (corI p.f).y.toNat p.b
  have e3 := one_of (corI_mem hk) (corI p.f).z.toNat p.c
  have es : wt p (corI k).x.toNat + wt p (corI k).y.toNat + wt p (corI k).z.toNat = (if inC (corI p.f).x.toNat (corI k) then p.a else 0) + (if inC (corI p.f).y.toNat (corI k) then p.b else 0) + (if inC (corI p.f).z.toNat (corI k) then p.c else 0) := by
    rw [wt_sum hf, wt_sum hf, wt_sum hf, ← e1, ← e2, ← e3]
    simp only [Int.add_assoc, Int.add_comm, Int.add_left_comm]
  rw [onP_sum h hk, es]
  clear e1 e2 e3 es
  unfold patt
  cases inC (corI p.f).x.toNat (corI k) <;> cases inC (corI p.f).y.toNat (corI k) <;> cases inC (corI p.f).z.toNat (corI k) <;>
    rw [Bool.eq_iff_iff] <;> simp only [beq_iff_eq, Bool.and_eq_true, Bool.or_eq_true, Bool.false_eq_true, or_false, or_true, and_true, true_and, Bool.or_true, Bool.or_false, if_true, if_false, iff_true] <;> omega

def facesK (c : I3) (za zb zc : Bool) : List Nat := (List.range 20).filter fun k => patt c (corI k) za zb zc

theorem addr_faces {p : Pl} (h : okP p = true) : addrK p 20 = (facesK (corI p.f) (p.a == 0) (p.b == 0) (p.c == 0)).map fun (k : Nat) => onP (k : Int) (wt p) := by
  unfold addrK facesK
  rw [List.filter_map]
  congr 1
  apply List.filter_congr
  intro k hk
  have := List.mem_range.1 hk
  simp only [Function.comp]
  exact ok_patt h (okF_iff.2 (by omega))

set_option maxRecDepth 100000 in
theorem faces_len : corT.all (fun c => (facesK c false false false).length == 1 && ((facesK c true false false).length == 2 && ((facesK c false true false).length == 2 && ((facesK c false false true).length == 2 &&
    ((facesK c true true false).length == 5 && ((facesK c true false true).length == 5 && (facesK c false true true).length == 5)))))) = true := by kernel_rfl

def zerosP (p : Pl) : Nat := (if p.a = 0 then 1 else 0) + (if p.b = 0 then 1 else 0) + (if p.c = 0 then 1 else 0)

theorem addr_len {p : Pl} (h : okP p = true) : [1, 2, 5][zerosP p]? = some (addrK p 20).length := by
  have hp := okP_iff.1 h
  have hf : okF p.f = true := okF_iff.2 ⟨hp.1, hp.2.1⟩
  have hl := List.all_eq_true.1 faces_len _ (corI_mem hf)
  simp only [Bool.and_eq_true, beq_iff_eq] at hl
  obtain ⟨l1, l2, l3, l4, l5, l6, l7⟩ := hl
  rw [addr_faces h, List.length_map]
  have t : ∀ {x : Int}, x = 0 → (x == 0) = true := fun h => by simp [h]
  have f : ∀ {x : Int}, x ≠ 0 → (x == 0) = false := fun h => by simp [h]
  unfold zerosP
  by_cases ha : p.a = 0
  · by_cases hb : p.b = 0
    · have hc : p.c ≠ 0 := by omega
      rw [t ha, t hb, f hc, l5, if_pos ha, if_pos hb, if_neg hc]; rfl
    · by_cases hc : p.c = 0
      · rw [t ha, f hb, t hc, l6, if_pos ha, if_neg hb, if_pos hc]; rfl
      · rw [t ha, f hb, f hc, l2, if_pos ha, if_neg hb, if_neg hc]; rfl
  · by_cases hb : p.b = 0
    · by_cases hc : p.c = 0
      · rw [f ha, t hb, t hc, l7, if_neg ha, if_pos hb, if_pos hc]; rfl
      · rw [f ha, t hb, f hc, l3, if_neg ha, if_pos hb, if_neg hc]; rfl
    · by_cases hc : p.c = 0
      · rw [f ha, f hb, t hc, l4, if_neg ha, if_neg hb, if_pos hc]; rfl
      · rw [f ha, f hb, f hc, l1, if_neg ha, if_neg hb, if_neg hc]; rfl

/-! ### the order of the addresses -/
theorem addrK_lt (p : Pl) : ∀ (k : Nat) (x : Pl), x ∈ addrK p k → x.f < k
  | 0, x, h => by simp [addrK] at h
  | k + 1, x, h => by
    rw [addrK_succ] at h
    simp only [List.mem_append] at h
    rcases h with h | h
    · have := addrK_lt p k x h; omega
    · split at h
      · simp only [List.mem_singleton] at h; subst h; simp only [onP]; omega
      · simp at h

theorem addrK_asc (p : Pl) : ∀ k, (addrK p k).Pairwise fun x y => x.f < y.f
  | 0 => by simp [addrK]
  | k + 1 => by
    rw [addrK_succ]
    refine List.pairwise_append.2 ⟨addrK_asc p k, by split <;> simp, fun x hx y hy => ?_⟩
    have := addrK_lt p k x hx
    split at hy
    · simp only [List.mem_singleton] at hy; subst hy; simp only [onP]; exact this
    · simp at hy

/-! ### all addresses have the same weights -/
theorem total {p : Pl} (h : okP p = true) : wt p 0 + wt p 1 + wt p 2 + wt p 3 + wt p 4 + wt p 5 + wt p 6 + wt p 7 + wt p 8 + wt p 9 + wt p 10 + wt p 11 = 840 := by
  have hp := okP_iff.1 h
  have hf : okF p.f = true := okF_iff.2 ⟨hp.1, hp.2.1⟩
  obtain ⟨h1, h2, h3⟩ := corI_in p.f
  have key : ∀ (u : Nat) (a : Int), u < 12 → (if u = 0 then a else 0) + (if u = 1 then a else 0) + (if u = 2 then a else 0) + (if u = 3 then a else 0) + (if u = 4 then a else 0) + (if u = 5 then a else 0) + (if u = 6 then a else 0) + (if u = 7 then a else 0) + (if u = 8 then a else 0) + (if u = 9 then a else 0) + (if u = 10 then a else 0) + (if u = 11 then a else 0) = a := by
    intro u a hu
    have : u = 0 ∨ u = 1 ∨ u = 2 ∨ u = 3 ∨ u = 4 ∨ u = 5 ∨ u = 6 ∨ u = 7 ∨ u = 8 ∨ u = 9 ∨ u = 10 ∨ u = 11 := by omega
    rcases this with rfl | rfl | rfl | rfl | rfl | rfl | rfl | rfl | rfl | rfl | rfl | rfl <;> simp
  have k1 := key (corI p.f).x.toNat p.a (by omega)
  have k2 := key (corI p.f).y.toNat p.b (by omega)
  have k3 := key (corI p.f).z.toNat p.c (by omega)
  simp only [wt_sum hf]
  omega

theorem wt_on {p : Pl} (h : okP p = true) {k : Int} (hk : okF k = true) (hok : okP (onP k (wt p)) = true) {j : Nat} (hj : j < 12) : wt (onP k (wt p)) j = wt p j := by
  have hs : wt p (corI k).x.toNat + wt p (corI k).y.toNat + wt p (corI k).z.toNat = 840 := by
    rw [onP_sum h hk] at hok; simpa using hok
  have ht := total h
  have hn := fun j => (wt_in h j).1
  obtain ⟨h1, h2, h3⟩ := corT_ne _ (corI_mem hk)
  obtain ⟨i1, i2, i3⟩ := corI_in k
  have hw : wt (onP k (wt p)) j = if (corI k).z.toNat = j then wt p (corI k).z.toNat else if (corI k).y.toNat = j then wt p (corI k).y.toNat else if (corI k).x.toNat = j then wt p (corI k).x.toNat else 0 := rfl
  rw [hw]
  split
  · rename_i e; rw [e]
  split
  · rename_i e; rw [e]
  split
  · rename_i e; rw [e]
  rename_i n1 n2 n3
  -- four different vertices
  have four : ∀ (g : Nat → Int), (∀ j, 0 ≤ g j) → ∀ a b c d : Nat, a < 12 → b < 12 → c < 12 → d < 12 → a ≠ b → a ≠ c → b ≠ c → a ≠ d → b ≠ d → c ≠ d →
      g a + g b + g c + g d ≤ g 0 + g 1 + g 2 + g 3 + g 4 + g 5 + g 6 + g 7 + g 8 + g 9 + g 10 + g 11 := by
    intro g hg a b c d ha hb hc hd hab hac hbc had hbd hcd
    have key : ∀ u, u < 12 → ∀ x : Int, (if u = 0 then x else 0) + (if u = 1 then x else 0) + (if u = 2 then x else 0) + (if u = 3 then x else 0) + (if u = 4 then x else 0) + (if u = 5 then x else 0) + (if u = 6 then x else 0) + (if u = 7 then x else 0) + (if u = 8 then x else 0) + (if u = 9 then x else 0) + (if u = 10 then x else 0) + (if u = 11 then x else 0) = x := by
      intro u hu x
      have : u = 0 ∨ u = 1 ∨ u = 2 ∨ u = 3 ∨ u = 4 ∨ u = 5 ∨ u = 6 ∨ u = 7 ∨ u = 8 ∨ u = 9 ∨ u = 10 ∨ u = 11 := by omega
      rcases this with rfl | rfl | rfl | rfl | rfl | rfl | rfl | rfl | rfl | rfl | rfl | rfl <;> simp
    have each : ∀ v, (if a = v then g a else 0) + (if b = v then g b else 0) + (if c = v then g c else 0) + (if d = v then g d else 0) ≤ g v := by
      intro v
      have := hg v
      by_cases e1 : a = v
      · subst e1; simp [Ne.symm hab, Ne.symm hac, Ne.symm had]
      · by_cases e2 : b = v
        · subst e2; simp [hab, Ne.symm hbc, Ne.symm hbd]
        · by_cases e3 : c = v
          · subst e3; simp [hac, hbc, Ne.symm hcd]
          · by_cases e4 : d = v
            · subst e4; simp [had, hbd, hcd]
            · simp [e1, e2, e3, e4, this]
    have s1 := key a ha (g a)
    have s2 := key b hb (g b)
    have s3 := key c hc (g c)
    have s4 := key d hd (g d)
    have t0 := each 0
    have t1 := each 1
    have t2 := each 2
    have t3 := each 3
    have t4 := each 4
    have t5 := each 5
    have t6 := each 6
    have t7 := each 7
    have t8 := each 8
    have t9 := each 9
    have t10 := each 10
    have t11 := each 11
    omega
  have := four (wt p) hn _ _ _ j (by omega) (by omega) (by omega) hj h1 h2 h3 n3 n2 n1
  have := hn j
  omega

theorem wl_congr {g h : Nat → Int} (e : ∀ j, j < 12 → g j = h j) : wl g = wl h := by
  simp only [wl]
  rw [e 0 (by omega), e 1 (by omega), e 2 (by omega), e 3 (by omega), e 4 (by omega), e 5 (by omega), e 6 (by omega), e 7 (by omega), e 8 (by omega), e 9 (by omega), e 10 (by omega), e 11 (by omega)]

theorem wl_out {g h : Nat → Int} (e : wl g = wl h) {j : Nat} (hj : j < 12) : g j = h j := by
  have h1 := wl_get g hj
  have h2 := wl_get h hj
  rw [e, h2] at h1
  exact (Option.some.inj h1).symm

theorem onP_congr {g h : Nat → Int} (e : ∀ j, j < 12 → g j = h j) (n : Int) : onP n g = onP n h := by
  obtain ⟨h1, h2, h3⟩ := corI_in n
  simp only [onP]
  rw [e _ (by omega), e _ (by omega), e _ (by omega)]

theorem addrK_congr {p q : Pl} (e : ∀ j, j < 12 → wt p j = wt q j) (k : Nat) : addrK p k = addrK q k := by
  unfold addrK
  congr 1
  apply List.map_congr_left
  intro n _
  exact onP_congr e _

/-- An address of a place is valid and has its weights. -/
theorem addr_mem {p x : Pl} (h : okP p = true) (hx : x ∈ addrK p 20) : okP x = true ∧ ∀ j, j < 12 → wt x j = wt p j := by
  simp only [addrK, List.mem_filter, List.mem_map, List.mem_range] at hx
  obtain ⟨⟨k, hk, rfl⟩, hok⟩ := hx
  exact ⟨hok, fun j hj => wt_on h (okF_iff.2 (by omega)) hok hj⟩

theorem nrm_mem {p x : Pl} (h : okP p = true) (hx : x ∈ addrK p 20) : nrmF x = nrmF p := by
  obtain ⟨h1, h2⟩ := addr_mem h hx
  obtain ⟨q, l, hq⟩ := addrK_pos h
  simp only [nrmF, h, h1, if_true]
  rw [addrK_congr h2, hq]; rfl

theorem same_mem {p x : Pl} (h : okP p = true) (hx : x ∈ addrK p 20) : sameF x p = true := by
  obtain ⟨h1, h2⟩ := addr_mem h hx
  simp only [sameF, h, h1, Bool.true_and, wtEq, beq_iff_eq]
  exact wl_congr h2

theorem same_nrm {p q : Pl} (hp : okP p = true) (hq : okP q = true) : sameF p q = ((nrmF p).1 == (nrmF q).1) := by
  obtain ⟨x, l, hx⟩ := addrK_pos hp
  obtain ⟨y, m, hy⟩ := addrK_pos hq
  have e1 : (nrmF p).1 = x := by simp [nrmF, hp, hx]
  have e2 : (nrmF q).1 = y := by simp [nrmF, hq, hy]
  rw [e1, e2, Bool.eq_iff_iff]
  simp only [sameF, hp, hq, Bool.true_and, wtEq, beq_iff_eq]
  have m1 := (addr_mem hp (x := x) (by rw [hx]; simp)).2
  have m2 := (addr_mem hq (x := y) (by rw [hy]; simp)).2
  constructor
  · intro e
    have := addrK_congr (fun j hj => wl_out e hj) 20
    rw [hx, hy] at this
    exact (List.cons.inj this).1
  · intro e
    subst e
    exact wl_congr fun j hj => by rw [← m1 j hj, m2 j hj]
end Go.Vi
namespace Go.Vi
theorem pl_eqb (x y : Pl) : (x.f == y.f && (x.a == y.a && (x.b == y.b && (x.c == y.c && true)))) = decide (x = y) := by
  obtain ⟨a, b, c, d⟩ := x
  obtain ⟨e, f, g, h⟩ := y
  rw [Bool.eq_iff_iff]
  simp

theorem addrF_len (p : Pl) : (addrF p).1.length ≤ 1000000 := by
  unfold addrF
  split
  · have := addrK_len p 20; dsimp only; omega
  · simp

theorem dgB_nat {x : Int} (k : Nat) : 48 ≤ (dgB x k).toNat ∧ (dgB x k).toNat ≤ 57 ∧ dgV (dgB x k) = x / (10 ^ k : Nat) % 10 := by
  unfold dgV dgB dgI
  have h1 := Int.emod_nonneg (x / (10 ^ k : Nat)) (show (10 : Int) ≠ 0 by decide)
  have h2 := Int.emod_lt_of_pos (x / (10 ^ k : Nat)) (show (0 : Int) < 10 by decide)
  generalize x / (10 ^ k : Nat) % 10 = d at *
  have : (UInt8.ofNat (48 + d).toNat).toNat = (48 + d).toNat := by
    rw [UInt8.toNat_ofNat']
    omega
  rw [this]
  omega

theorem prs_fmt {p : Pl} (h : okP p = true) : prsF (fmtS p) = (p, 0) := by
  have hp := okP_iff.1 h
  have f1 := dgB_nat (x := p.f) 1
  have f0 := dgB_nat (x := p.f) 0
  have a2 := dgB_nat (x := p.a) 2
  have a1 := dgB_nat (x := p.a) 1
  have a0 := dgB_nat (x := p.a) 0
  have b2 := dgB_nat (x := p.b) 2
  have b1 := dgB_nat (x := p.b) 1
  have b0 := dgB_nat (x := p.b) 0
  have e : prsP (dgB p.f 1) (dgB p.f 0) (dgB p.a 2) (dgB p.a 1) (dgB p.a 0) (dgB p.b 2) (dgB p.b 1) (dgB p.b 0) = p := by
    obtain ⟨f, a, b, c⟩ := p
    simp only [prsP, num2, num3, Pl.mk.injEq]
    simp only at hp f1 f0 a2 a1 a0 b2 b1 b0
    rw [f1.2.2, f0.2.2, a2.2.2, a1.2.2, a0.2.2, b2.2.2, b1.2.2, b0.2.2]
    have t0 : ((10 ^ 0 : Nat) : Int) = 1 := rfl
    have t1 : ((10 ^ 1 : Nat) : Int) = 10 := rfl
    have t2 : ((10 ^ 2 : Nat) : Int) = 100 := rfl
    rw [t0, t1, t2]
    refine ⟨?_, ?_, ?_, ?_⟩ <;> omega
  show prs8 _ _ _ _ _ _ _ _ = _
  rw [prs8_yes (by unfold dD; omega), e, if_pos h]
end Go.Vi
