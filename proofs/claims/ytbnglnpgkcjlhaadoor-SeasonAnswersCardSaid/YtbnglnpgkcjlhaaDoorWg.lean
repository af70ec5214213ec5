/- Vi, part 34: an operation of a region, as a proposition, is the interpreter's. -/
import Derived.Test.YtbnglnpgkcjlhaaDoorWf
import Derived.Test.YtbnglnpgkcjlhaaDoorWd
set_option linter.unusedVariables false
set_option linter.unusedSimpArgs false
namespace Go.Vi
section
variable {P : Program} {E : Env} {S : Sy} {ob : Id → Option Ob}

theorem noC_ok : OkC P E noC := fun f args bo r bo' ro h => by simp [noC] at h

theorem ldS_sound {e : TypeId} {w : View} (hw : View.Ok P e w) {fo : Nat} {ty : TypeId} {a : V} {k : V → List Id → Prop} (h : ldS P w fo ty a ob k) :
    ∃ v l, (match a with | .lp id off => Rd.look id fun ob => val (ld P ty ob.cells off) | .fp c off => val (ld P ty c off) | _ => (.fail : Rd Res)).run ob = some (⟨v, [], 0⟩, l) ∧ k v l := by
  unfold ldS at h
  cases a with
  | lp id off =>
    simp only at h ⊢
    split at h
    · rename_i o ho
      obtain ⟨l, i, hc, rfl, hi, h⟩ := h
      obtain ⟨v, hv, hk⟩ := optK_some (h _ (List.getElem?_eq_getElem hi))
      refine ⟨v, [id], ?_, hk⟩
      refine Rd.look_run ho ?_
      rw [hc]
      exact val_run (hw.ld_part (List.getElem?_eq_getElem hi) hv)
    · exact h.elim
  | fp c off =>
    simp only at h ⊢
    obtain ⟨l, i, hc, rfl, hi, h⟩ := h
    obtain ⟨v, hv, hk⟩ := optK_some (h _ (List.getElem?_eq_getElem hi))
    refine ⟨v, [], ?_, hk⟩
    rw [hc]
    exact val_run (hw.ld_part (List.getElem?_eq_getElem hi) hv)
  | _ => exact h.elim

theorem stS_sound {e : TypeId} {w : View} (hw : View.Ok P e w) {fo : Nat} {ty : TypeId} {a x : V} {k : Res → List Id → Prop} (h : stS P w fo ty a x ob k) :
    ∃ r l, (match a, szT P ty with
      | .lp id off, some sz => Rd.look id fun ob => if x.ok && x.flat.length == sz && decide (off + sz ≤ ob.cells.length) && !ob.fz then Rd.pure (⟨.tup [], [(id, some ⟨ob.ty, putCells ob.cells off x.flat, false⟩)], 0⟩ : Res) else .fail
      | _, _ => (.fail : Rd Res)).run ob = some (r, l) ∧ k r l := by
  unfold stS at h
  split at h
  · rename_i id off sz hs
    rw [hs]
    simp only
    split at h
    · rename_i o ho
      split at h
      · rename_i hc
        simp only [Bool.and_eq_true, decide_eq_true_eq, beq_iff_eq, Bool.not_eq_true'] at hc
        obtain ⟨⟨⟨c1, c2⟩, c3⟩, c4⟩ := hc
        obtain ⟨l, i, hcell, rfl, hi, h⟩ := h
        obtain ⟨x', hx', hk⟩ := h _ (List.getElem?_eq_getElem hi)
        refine ⟨_, [id], ?_, hk⟩
        refine Rd.look_run ho ?_
        have hle : i * w.sz + fo + sz ≤ o.cells.length := by
          rw [hcell, hw.fl_len]
          have := Nat.mul_le_mul_right w.sz hi
          rw [Nat.succ_mul] at this
          omega
        rw [if_pos (by simp [c1, c2, c4, hle]), hcell, putCells_fl hw (List.getElem?_eq_getElem hi) hx' (by rw [c2]; exact c3)]
        rfl
      · exact h.elim
    · exact h.elim
  · exact h.elim

theorem mergeL_eq {off : Nat} {v : V} : ∀ {l : List V} {j : Nat} {r : List V}, mergeL off v j l = some r → j ≤ off → off < j + l.length → r = putCells l (off - j) [v]
  | [], j, r, h, h1, h2 => by simp at h2; omega
  | c :: l, j, r, h, h1, h2 => by
    have tail : ∀ {f : Bool → V} {rest : List V}, mergeL off v (j + 1) l = some rest → (off = j → f true = v) → (off ≠ j → f false = c) → (f (decide (off = j)) :: rest = putCells (c :: l) (off - j) [v]) := by
      intro f rest hr f1 f2
      by_cases he : off = j
      · subst he
        rw [decide_eq_true rfl, f1 rfl, Nat.sub_self]
        have past : ∀ {l : List V} {j : Nat} {r : List V}, off < j → mergeL off v j l = some r → r = l := by
          intro l
          induction l with
          | nil => intro j r _ h; simp [mergeL] at h; exact h
          | cons c l ih =>
            intro j r hj h
            simp only [mergeL] at h
            split at h
            · split at h
              · split at h
                · rename_i hk _ r' hr'
                  simp only [Option.some.injEq] at h
                  rw [← h, ih (by omega) hr', if_neg (by omega), hk]
                · cases h
              · cases h
            · split at h
              · rename_i r' hr'
                simp only [Option.some.injEq] at h
                rw [← h, ih (by omega) hr', if_neg (by omega)]
              · cases h
            · cases h
        rw [past (by omega) hr]
        simp [putCells]
      · rw [decide_eq_false he, f2 he]
        have := mergeL_eq hr (by omega) (by simp at h2; omega)
        rw [this]
        have hs : off - j = (off - (j + 1)) + 1 := by omega
        rw [hs]
        simp [putCells, Nat.add_right_comm]
    simp only [mergeL] at h
    split at h
    · rename_i k x k' y
      split at h
      · rename_i hk
        subst hk
        split at h
        · rename_i rest hr
          simp only [Option.some.injEq] at h
          rw [← h]
          have := tail (f := fun b => .int k (if b = true then x else y)) hr (fun _ => by simp) (fun _ => by simp)
          rw [← this]
          by_cases he : off = j <;> simp [he]
        · cases h
      · cases h
    · rename_i x y
      split at h
      · rename_i rest hr
        simp only [Option.some.injEq] at h
        rw [← h]
        have := tail (f := fun b => .bool (if b = true then x else y)) hr (fun _ => by simp) (fun _ => by simp)
        rw [← this]
        by_cases he : off = j <;> simp [he]
      · cases h
    · cases h

theorem mergeL_leaf {off : Nat} {v : V} {l r : List V} {j : Nat} (h : mergeL off v j l = some r) (hl : l ≠ []) : v.leaf = true ∧ v.flat = [v] := by
  cases l with
  | nil => exact absurd rfl hl
  | cons c l =>
    simp only [mergeL] at h
    split at h
    · exact ⟨rfl, rfl⟩
    · exact ⟨rfl, rfl⟩
    · cases h

theorem stM_sound {ty : TypeId} {a x : V} {k : Res → List Id → Prop} (h : stM P ty a x ob k) :
    ∃ r l, (match a, szT P ty with
      | .lp id off, some sz => Rd.look id fun ob => if x.ok && x.flat.length == sz && decide (off + sz ≤ ob.cells.length) && !ob.fz then Rd.pure (⟨.tup [], [(id, some ⟨ob.ty, putCells ob.cells off x.flat, false⟩)], 0⟩ : Res) else .fail
      | _, _ => (.fail : Rd Res)).run ob = some (r, l) ∧ k r l := by
  unfold stM at h
  split at h
  · rename_i id off hs
    rw [hs]
    simp only
    split at h
    · rename_i o ho
      split at h
      · exact h.elim
      · rename_i hfz
        split at h
        · rename_i cs hm
          obtain ⟨hlt, hk⟩ := h
          have hne : o.cells ≠ [] := by intro e; rw [e] at hlt; simp at hlt
          obtain ⟨l1, l2⟩ := mergeL_leaf hm hne
          have hok : x.ok = true := by
            cases x <;> first | exact l1 | (simp [V.leaf] at l1)
          refine ⟨_, [id], ?_, hk⟩
          refine Rd.look_run ho ?_
          have hcs := mergeL_eq hm (Nat.zero_le _) (by omega)
          rw [Nat.sub_zero] at hcs
          rw [hok, l2, ← hcs]
          have : decide (off + 1 ≤ o.cells.length) = true := decide_eq_true hlt
          simp [this, hfz, Rd.run]
        · exact h.elim
    · exact h.elim
  · exact h.elim

theorem opS_sound (hvw : VwOk P S.vw) (hsp : SpecsOk P E S.sp) {m : Nat} {e : TypeId} {fo : Nat} {ρ : Operand → V} {t g : Nat} {o : Oper} {k : Res → List Id → Prop} (h : opS P E S m e fo ρ t g o ob k) :
    ∃ C, OkC P E C ∧ ∃ r l, (core P E C ρ t g o).run ob = some (r, l) ∧ k r l := by
  unfold opS at h
  split at h
  · rename_i op ty x y p ho
    obtain ⟨v, h1, h2⟩ := binS_sound h
    refine ⟨noC, noC_ok, _, _, ?_, h2⟩
    simp only [core, ho]
    exact val_run h1
  · rename_i src dst x ho
    split at h
    · rename_i kd1 kd2 kd3 n h1 h2 h3
      obtain ⟨h4, h5⟩ := h
      refine ⟨noC, noC_ok, _, _, ?_, h5⟩
      simp only [core, ho, h1, h2, h3]
      rw [inK_wrap h4]; rfl
    · exact h.elim
  · rename_i ty x ho
    split at h
    · rename_i kd n hx
      obtain ⟨h1, h2⟩ := h
      refine ⟨noC, noC_ok, _, _, ?_, h2⟩
      simp only [core, ho, hx, vUn]
      rw [inK_wrap h1]; rfl
    · exact h.elim
  · rename_i c ho
    split at h
    · rename_i f hc
      obtain ⟨C, h1, r, l, h2, h3⟩ := callS_sound hvw hsp h
      refine ⟨C, h1, r, l, ?_, h3⟩
      simp only [core, ho, hc]
      exact h2
    · rename_i hc
      split at h
      · rename_i ty ty2 s x w hat har hw
        split at h
        · exact h.elim
        · exact h.elim
        · rename_i d hd2 hd1
          have hwo := hvw _ _ hw
          obtain ⟨r, l, h1, h2⟩ := appS_sound hwo h
          refine ⟨noC, noC_ok, r, l, ?_, h2⟩
          simp only [core, ho, hc, hat, har]
          split
          · rename_i kd hk; rw [hd1] at hk; exact absurd (Option.some.inj hk) (hd2 kd)
          · rename_i hk; rw [hd1] at hk; cases hk
          · exact h1
      · exact h.elim
    · rename_i hc
      split at h
      · rename_i ty tys v vs w hat har hw
        split at h
        · rename_i e' hu
          obtain ⟨v', h1, h2⟩ := lenS_sound h
          refine ⟨noC, noC_ok, _, _, ?_, h2⟩
          simp only [core, ho, hc, hat, har, hu]
          exact val_run h1
        · exact h.elim
      · exact h.elim
    · exact h.elim
  · rename_i ty a ho
    split at h
    · rename_i w hw
      obtain ⟨v, l, h1, h2⟩ := ldS_sound (hvw _ _ hw) h
      refine ⟨noC, noC_ok, _, l, ?_, h2⟩
      simp only [core, ho]
      exact h1
    · exact h.elim
  · rename_i ty a x ho
    split at h
    · obtain ⟨r, l, h1, h2⟩ := stM_sound h
      refine ⟨noC, noC_ok, _, l, ?_, h2⟩
      simp only [core, ho]
      exact h1
    · split at h
      · rename_i w hw
        obtain ⟨r, l, h1, h2⟩ := stS_sound (hvw _ _ hw) h
        refine ⟨noC, noC_ok, _, l, ?_, h2⟩
        simp only [core, ho]
        exact h1
      · exact h.elim
  · rename_i ty x i ho
    split at h
    · rename_i w hw
      obtain ⟨v, h1, h2⟩ := idxAddrS_sound (hvw _ _ hw) h
      refine ⟨noC, noC_ok, _, _, ?_, h2⟩
      simp only [core, ho]
      exact val_run h1
    · exact h.elim
  · rename_i ty x i ho
    split at h
    · rename_i w hw
      obtain ⟨v, h1, h2⟩ := idxS_sound (hvw _ _ hw) h
      refine ⟨noC, noC_ok, _, _, ?_, h2⟩
      simp only [core, ho]
      exact val_run h1
    · exact h.elim
  · rename_i ty x lo hi mx ho
    split at h
    · rename_i w hw
      obtain ⟨v, h1, h2⟩ := slS_sound (hvw _ _ hw) h
      refine ⟨noC, noC_ok, _, _, ?_, h2⟩
      simp only [core, ho]
      rw [Rd.run_bind_eq _ h1]; rfl
    · exact h.elim
  · exact h.elim
end
end Go.Vi

/- Vi, part 35: regions whose operations are told one by one. -/
set_option linter.unusedVariables false
set_option linter.unusedSimpArgs false
namespace Go.Vi
/-- What an operation may do. -/
def EffR (P : Program) (E : Env) (ops : Array Oper) (o : Oper) (s : St) (e : Eff) : Prop := ∃ C, OkC P E C ∧ effOf P E C ops o s = some e

def EffsR (P : Program) (E : Env) (ops : Array Oper) : List Oper → St → List Eff → St → Prop
  | [], s, es, sn => es = [] ∧ sn = s
  | o :: l, s, es, sn => ∃ e es', es = e :: es' ∧ EffR P E ops o s e ∧ EffsR P E ops l (s.app e) es' sn

section
variable {P : Program} {E : Env} {S : Sy} {ops : Array Oper} {w0 : World} {H0 : Hp} {β0 : Bt}

theorem BIF_case {b : Bool} {p q : Prop} (h : BIF b p q) : (b = true ∧ p) ∨ (b = false ∧ q) := by
  cases b with
  | true => exact .inl ⟨rfl, h⟩
  | false => exact .inr ⟨rfl, h⟩

theorem coreS_sound (hvw : VwOk P S.vw) (hsp : SpecsOk P E S.sp) (hmk : ∀ n p, S.tag n p → p) {key : Nat} {ρ : Operand → V} {t g : Nat} {o : Oper} {ob : Id → Option Ob} {k : Res → List Id → Prop} (h : coreS P E S key ρ t g o ob k) :
    ∃ C, OkC P E C ∧ ∃ r l, (core P E C ρ t g o).run ob = some (r, l) ∧ k r l := by
  unfold coreS at h
  replace h := hmk _ _ h
  have conc : runK ((core P E noC ρ t g o).run ob) k → ∃ C, OkC P E C ∧ ∃ r l, (core P E C ρ t g o).run ob = some (r, l) ∧ k r l := by
    intro h
    unfold runK at h
    split at h
    · rename_i r l hr; exact ⟨noC, noC_ok, r, l, hr, h⟩
    · exact h.elim
  split at h
  · split at h
    · exact conc h
    · exact opS_sound hvw hsp h
  · split at h
    · exact opS_sound hvw hsp h
    · exact conc h

theorem wantS_sound {tm : Nat → V} {o : Oper} {k : Bool → (Nat → V) → Prop} (h : wantS ops tm o k) : ∃ b, want ops tm o = some b ∧ k b tm := by
  unfold wantS at h
  unfold want
  split at h
  · rename_i hg; rw [hg]; exact ⟨true, rfl, h⟩
  · rename_i j w hg
    rw [hg]
    simp only
    split at h
    · rename_i t ht
      rw [ht]
      simp only
      split at h
      · rename_i b hb
        rw [hb]
        rcases BIF_case h with ⟨rfl, h⟩ | ⟨rfl, h⟩
        · rw [tellT_same hb] at h; exact ⟨_, rfl, h⟩
        · rw [tellT_same hb] at h; exact ⟨_, rfl, h⟩
      · rename_i l hl; rw [hl]; exact ⟨false, rfl, h⟩
      · exact h.elim
    · exact h.elim

theorem effS_sound (hvw : VwOk P S.vw) (hsp : SpecsOk P E S.sp) (hmk : ∀ n p, S.tag n p → p) {o : Oper} {s : St} {k : Eff → St → Prop} (h : effS P E S ops o s k) : ∃ e, EffR P E ops o s e ∧ k e s := by
  unfold effS at h
  split at h
  · exact h.elim
  · rename_i hd
    obtain ⟨b, hb, h⟩ := wantS_sound h
    cases b with
    | false =>
      refine ⟨_, ⟨noC, noC_ok, ?_⟩, h⟩
      unfold effOf
      rw [if_neg hd, hb]
    | true =>
      obtain ⟨C, hC, r, l, h1, h2⟩ := coreS_sound hvw hsp hmk h
      split at h2
      · exact h2.elim
      · rename_i hn
        refine ⟨_, ⟨C, hC, ?_⟩, h2⟩
        unfold effOf
        rw [if_neg hd, hb]
        simp only
        rw [h1]
        simp only
        rw [if_neg hn]

theorem effsS_sound (hvw : VwOk P S.vw) (hsp : SpecsOk P E S.sp) (hmk : ∀ n p, S.tag n p → p) : ∀ {l : List Oper} {s : St} {k : List Eff → St → Prop}, effsS P E S ops l s k → ∃ es sn, EffsR P E ops l s es sn ∧ k es sn
  | [], s, k, h => ⟨[], s, ⟨rfl, rfl⟩, h⟩
  | o :: l, s, k, h => by
    simp only [effsS] at h
    obtain ⟨e, h1, h2⟩ := effS_sound hvw hsp hmk h
    obtain ⟨es, sn, h3, h4⟩ := effsS_sound hvw hsp hmk h2
    exact ⟨_, sn, ⟨e, es, rfl, h1, h3⟩, h4⟩

theorem effsR_spec : ∀ {l : List Oper} {s sn : St} {es : List Eff}, EffsR P E ops l s es sn → es.length = l.length ∧ sn = appD (fun _ => true) 0 es s ∧
    ∀ (i : Nat) (o : Oper), l[i]? = some o → ∃ e, es[i]? = some e ∧ EffR P E ops o (appD (fun j => decide (j < i)) 0 es s) e
  | [], s, sn, es, h => by
    obtain ⟨rfl, rfl⟩ := h
    exact ⟨rfl, rfl, fun i o hi => by simp at hi⟩
  | o :: l, s, sn, es, h => by
    obtain ⟨e, es', rfl, he, hr⟩ := h
    obtain ⟨q1, q2, q3⟩ := effsR_spec hr
    have sh : ∀ (D : Nat → Bool) (es : List Eff) (k : Nat) (s : St), appD D (k + 1) es s = appD (fun j => D (j + 1)) k es s := by
      intro D es
      induction es with
      | nil => intro k s; rfl
      | cons e es ih => intro k s; simp only [appD]; exact ih (k + 1) _
    refine ⟨by simp [q1], ?_, fun i o' hi => ?_⟩
    · simp only [appD, if_true, sh]; exact q2
    · cases i with
      | zero =>
        simp at hi; subst hi
        refine ⟨e, rfl, ?_⟩
        have : ∀ (es : List Eff) (k : Nat) (s : St), appD (fun j => decide (j < 0)) k es s = s := by
          intro es
          induction es with
          | nil => intro k s; rfl
          | cons e es ih => intro k s; simp only [appD]; simp only [Nat.not_lt_zero, decide_false, Bool.false_eq_true, if_false]; exact ih _ _
        rw [this]; exact he
      | succ i =>
        obtain ⟨e', p1, p2⟩ := q3 i o' (by simpa using hi)
        refine ⟨e', by simpa using p1, ?_⟩
        simp only [appD, Nat.zero_lt_succ, decide_true, if_true, sh]
        have hf : (fun j => decide (j + 1 < i + 1)) = (fun j => decide (j < i)) := by funext j; simp
        rw [hf]; exact p2

theorem drawR_any (hB : Bor β0) (hG : GOK P E H0) {s sn : St} {es : List Eff} (hes : EffsR P E ops ops.toList s es sn) (hT : tmpsApart ops = true) (hA : effsApart es (loudPairs ops) = true)
    {Q : Exit → Act → World → Prop} (hQ : ∀ H' β' a' w', Sim P E w0 H0 β0 H' β' sn a' w' → Q .normal a' w') :
    ∀ (fuel : Nat) (listed : Array Bool) (H : Hp) (β : Bt) (a : Act) (w : World), listed.size = ops.size →
      (∀ (j : Nat) (o : Oper), ops[j]? = some o → listed.getD j false = true → ∀ e ∈ o.after, Region.binds .any e = true → listed.getD e.on false = true) →
      ((List.range ops.size).filter fun j => !listed.getD j false).length ≤ fuel →
      Sim P E w0 H0 β0 H β (appD (fun j => listed.getD j false) 0 es s) a w → wpAny P .any ops Q fuel listed a w := by
  obtain ⟨el, esn, eff⟩ := effsR_spec hes
  have hlen : es.length = ops.size := by simpa using el
  have hop : ∀ j, j < ops.size → ∃ o e, ops[j]? = some o ∧ es[j]? = some e ∧ EffR P E ops o (appD (fun k => decide (k < j)) 0 es s) e := by
    intro j hj
    obtain ⟨e, h1, h2⟩ := eff j ops[j] (by simp [hj])
    exact ⟨ops[j], e, by simp [hj], h1, h2⟩
  have hq : ∀ (j : Nat) (o : Oper) (e : Eff), ops[j]? = some o → es[j]? = some e → touches o.op = false → e.up = [] ∧ e.rd = [] := by
    intro j o e h1 h2 ht
    have hj : j < ops.size := (Array.getElem?_eq_some_iff.1 h1).1
    obtain ⟨o', e', p1, p2, p3⟩ := hop j hj
    rw [h1] at p1; cases p1
    rw [h2] at p2; cases p2
    obtain ⟨C, _, p3⟩ := p3
    exact effOf_quiet ht p3
  have hdst : ∀ (j : Nat) (o : Oper) (e : Eff), ops[j]? = some o → es[j]? = some e → e.dst = o.dst ∧ ∀ d, o.dst = some d → d < s.n := by
    intro j o e h1 h2
    have hj : j < ops.size := (Array.getElem?_eq_some_iff.1 h1).1
    obtain ⟨o', e', p1, p2, p3⟩ := hop j hj
    rw [h1] at p1; cases p1
    rw [h2] at p2; cases p2
    obtain ⟨C, _, p3⟩ := p3
    exact ⟨effOf_dst p3, fun d hd => by have := effOf_lt p3 hd; rwa [appD_n] at this⟩
  have hnone : ∀ (listed : Array Bool), listed.size = ops.size → Region.ready .any ops listed = [] → ∀ j, j < ops.size → listed.getD j false = true := by
    intro listed hsz hr
    have key : ∀ n, ∀ j, j ≤ n → j < ops.size → listed.getD j false = true := by
      intro n
      induction n with
      | zero =>
        intro j hj hlt
        have hj0 : j = 0 := by omega
        subst hj0
        cases hl : listed.getD 0 false with
        | true => rfl
        | false =>
          have : 0 ∈ Region.ready .any ops listed := mem_ready.2 ⟨by
            have h0 : listed[0]? = some listed[0] := by simp [hsz, hlt]
            rw [Array.getD_eq_getD_getElem?, h0] at hl ⊢; simpa using hl, ops[0], by simp [hlt], fun e he hb => by have := edges_get hT (j := 0) (o := ops[0]) (by simp [hlt]) he hb; omega⟩
          rw [hr] at this; simp at this
      | succ n ih =>
        intro j hj hlt
        by_cases hjn : j ≤ n
        · exact ih j hjn hlt
        · cases hl : listed.getD j false with
          | true => rfl
          | false =>
            have : j ∈ Region.ready .any ops listed := mem_ready.2 ⟨by
              have h0 : listed[j]? = some (listed[j]'(by omega)) := by simp
              rw [Array.getD_eq_getD_getElem?, h0] at hl ⊢; simpa using hl, ops[j], by simp [hlt], fun e he hb => by
                have := edges_get hT (j := j) (o := ops[j]) (by simp [hlt]) he hb
                exact ih e.on (by omega) (by omega)⟩
            rw [hr] at this; simp at this
    exact fun j hj => key j j (Nat.le_refl _) hj
  have hfin : ∀ (listed : Array Bool), (∀ j, j < ops.size → listed.getD j false = true) → appD (fun j => listed.getD j false) 0 es s = sn := by
    intro listed h
    rw [esn]
    exact appD_congr es 0 s fun j hj => by simp only [Nat.zero_add]; exact h j (by omega)
  intro fuel
  induction fuel with
  | zero =>
    intro listed H β a w hsz hcl hcnt hs
    have hall : ∀ j, j < ops.size → listed.getD j false = true := by
      intro j hj
      cases hl : listed.getD j false with
      | true => rfl
      | false =>
        have : j ∈ (List.range ops.size).filter fun j => !listed.getD j false := List.mem_filter.2 ⟨List.mem_range.2 hj, by simp only [hl]; rfl⟩
        have hp := List.length_pos_of_mem this
        omega
    refine ⟨?_, hQ _ _ _ _ (by rw [← hfin listed hall]; exact hs)⟩
    apply List.eq_nil_iff_forall_not_mem.2
    intro j hj
    obtain ⟨h1, o, h2, _⟩ := mem_ready.1 hj
    have hlt : j < ops.size := (Array.getElem?_eq_some_iff.1 h2).1
    have h0 : listed[j]? = some (listed[j]'(by omega)) := by simp
    have h3 := hall j hlt
    rw [Array.getD_eq_getD_getElem?, h0] at h1 h3
    simp at h1 h3
    rw [h1] at h3; simp at h3
  | succ fuel ih =>
    intro listed H β a w hsz hcl hcnt hs
    refine ⟨fun hr => hQ _ _ _ _ (by rw [← hfin listed (hnone listed hsz hr)]; exact hs), fun i hi => ?_⟩
    obtain ⟨h1, oi, hoi, hedge⟩ := mem_ready.1 hi
    have hilt : i < ops.size := (Array.getElem?_eq_some_iff.1 hoi).1
    have hDi : listed.getD i false = false := by
      have h0 : listed[i]? = some (listed[i]'(by omega)) := by simp
      rw [Array.getD_eq_getD_getElem?, h0] at h1 ⊢; simpa using h1
    obtain ⟨o', ei, p1, hei, C, hC, heff⟩ := hop i hilt
    rw [hoi] at p1; cases p1
    -- who stands where
    have hord : ∀ j, j < ops.size → j ≠ i → (listed.getD j false = decide (j < i)) ∨ (∀ o f, ops[j]? = some o → es[j]? = some f → Free ops i j oi o ei f ∧ Free ops j i o oi f ei) := by
      intro j hj hne
      by_cases hlt : j < i
      · cases hb : ((Region.before ops).getD i 0).testBit j with
        | true =>
          left
          have := before_spec (fun k => listed.getD k false = true) hcl i oi hoi hedge j hb
          rw [this]; simp [hlt]
        | false =>
          right
          intro o f ho hf
          have hm := loose_mem hlt hilt hb
          have := free_of hT hA hm ho hoi hf hei (hq j o f ho hf) (hq i oi ei hoi hei)
          exact ⟨this.2, this.1⟩
      · have hgt : i < j := by omega
        cases hb : ((Region.before ops).getD j 0).testBit i with
        | true =>
          left
          cases hl : listed.getD j false with
          | false => simp [hlt]
          | true =>
            have hoj : ops[j]? = some ops[j] := by simp [hj]
            have := before_spec (fun k => listed.getD k false = true) hcl j ops[j] hoj (hcl j ops[j] hoj hl) i hb
            rw [hDi] at this; simp at this
        | false =>
          right
          intro o f ho hf
          exact free_of hT hA (loose_mem hgt hj hb) hoi ho hei hf (hq i oi ei hoi hei) (hq j o f ho hf)
    have hesj : ∀ (j : Nat) (f : Eff), es[j]? = some f → j < ops.size ∧ ∃ o, ops[j]? = some o ∧ f.dst = o.dst ∧ ∀ d, o.dst = some d → d < s.n := by
      intro j f hf
      have hj : j < ops.size := by rw [← hlen]; exact (List.getElem?_eq_some_iff.1 hf).1
      have ho : ops[j]? = some ops[j] := by simp [hj]
      obtain ⟨q1, q2⟩ := hdst j ops[j] f ho hf
      exact ⟨hj, ops[j], ho, q1, q2⟩
    -- the operation's doing is the text's
    have heff' : effOf P E C ops oi (appD (fun j => listed.getD j false) 0 es s) = some ei := by
      refine effOf_congr heff (by rw [appD_n, appD_n]) (fun t ht => ?_) ?_ (fun id hid => ?_)
      · refine appD_tm _ _ t es 0 s s rfl fun j f hf hd => ?_
        simp only [Nat.zero_add]
        obtain ⟨hj, o, ho, q1, q2⟩ := hesj j f hf
        by_cases hji : j = i
        · subst hji; simp [hDi]
        · rcases hord j hj hji with h | h
          · exact h
          · exact absurd ht ((h o f ho hf).1.d1 t (by rw [← q1]; exact hd))
      · rw [appD_n]
        refine appD_nx _ _ _ es 0 s s rfl fun j f hf hd => ?_
        simp only [Nat.zero_add]
        obtain ⟨hj, o, ho, q1, q2⟩ := hesj j f hf
        by_cases hji : j = i
        · subst hji; simp [hDi]
        · rcases hord j hj hji with h | h
          · exact h
          · exfalso
            rw [q1] at hd
            cases hdi : oi.dst with
            | none => rw [hdi] at hd; have := q2 _ hd; simp at this
            | some d =>
              rw [hdi] at hd
              exact (h o f ho hf).1.d2 d hdi hd
      · refine appD_ob _ _ id es 0 s s rfl fun j f hf hd => ?_
        simp only [Nat.zero_add]
        obtain ⟨hj, o, ho, q1, q2⟩ := hesj j f hf
        by_cases hji : j = i
        · subst hji; simp [hDi]
        · rcases hord j hj hji with h | h
          · exact h
          · exact absurd hid ((h o f ho hf).1.u1 id hd)
    refine eff_sound hC hB hG hs hoi heff' fun H' β' a' w' hs' => ?_
    have hD' : ∀ j, (listed.setIfInBounds i true).getD j false = (listed.getD j false || decide (j = i)) := by
      intro j
      by_cases hji : j = i
      · subst hji
        simp [hsz, hilt]
      · rw [getD_set_ne false (fun e => hji e.symm)]
        simp [hji]
    refine ih _ H' β' a' w' (by simpa using hsz) ?_ ?_ ?_
    · intro j o ho hl e he hb
      rw [hD'] at hl ⊢
      simp only [Bool.or_eq_true, decide_eq_true_eq] at hl ⊢
      rcases hl with hl | rfl
      · exact .inl (hcl j o ho hl e he hb)
      · rw [hoi] at ho; cases ho
        exact .inl (hedge e he hb)
    · have hsub : ((List.range ops.size).filter fun j => !(listed.setIfInBounds i true).getD j false) = ((List.range ops.size).filter fun j => !listed.getD j false).filter fun j => decide (j ≠ i) := by
        rw [List.filter_filter]
        apply List.filter_congr
        intro j _
        rw [hD']
        cases listed.getD j false <;> simp
      have hmem : i ∈ (List.range ops.size).filter fun j => !listed.getD j false := List.mem_filter.2 ⟨List.mem_range.2 hilt, by simp only [hDi]; rfl⟩
      have hlt : (((List.range ops.size).filter fun j => !listed.getD j false).filter fun j => decide (j ≠ i)).length < ((List.range ops.size).filter fun j => !listed.getD j false).length :=
        List.length_filter_lt_length_iff_exists.2 ⟨i, hmem, by simp⟩
      rw [hsub]
      omega
    · have hfun : (fun j => (listed.setIfInBounds i true).getD j false) = (fun j => listed.getD j false || decide (j = i)) := funext hD'
      rw [hfun, appD_add hDi es 0 s ⟨i, by simp, hei⟩ ?_]
      · exact hs'
      · intro j f hf hd hij
        simp only [Nat.zero_add] at hd hij
        obtain ⟨hj, o, ho, q1, q2⟩ := hesj j f hf
        rcases hord j hj (by omega) with h | h
        · rw [hd] at h; simp at h; omega
        · have hfree := (h o f ho hf).1
          have hei' := (hdst i oi ei hoi hei).1
          exact ⟨fun d hd => by rw [hei'] at hd; rw [q1]; exact hfree.d2 d hd, hfree.u2⟩


/-- A region in the order of the text. -/
theorem runR_sound (hB : Bor β0) (hG : GOK P E H0) {Q : Exit → Act → World → Prop} : ∀ (m k : Nat) (H : Hp) (β : Bt) (s sn : St) (es : List Eff) (a : Act) (w : World), k + m = ops.size → Sim P E w0 H0 β0 H β s a w →
    EffsR P E ops (ops.toList.drop k) s es sn → (∀ H' β' a' w', Sim P E w0 H0 β0 H' β' sn a' w' → Q .normal a' w') → wpOps P ops Q (List.range' k m) a w
  | 0, k, H, β, s, sn, es, a, w, hk, h, hr, hQ => by
    have : ops.toList.drop k = [] := by apply List.drop_eq_nil_of_le; simp; omega
    rw [this] at hr
    obtain ⟨_, rfl⟩ := hr
    exact hQ _ _ _ _ h
  | m + 1, k, H, β, s, sn, es, a, w, hk, h, hr, hQ => by
    have hlt : k < ops.size := by omega
    have hd : ops.toList.drop k = ops[k] :: ops.toList.drop (k + 1) := by
      rw [List.drop_eq_getElem_cons (by simpa using hlt)]; simp
    rw [hd] at hr
    obtain ⟨e, es', _, ⟨C, hC, he⟩, hr⟩ := hr
    rw [List.range'_succ, wpOps_cons]
    exact eff_sound hC hB hG h (i := k) (by simp [hlt]) he fun H' β' a' w' hs => runR_sound hB hG m (k + 1) H' β' _ sn es' a' w' (by omega) hs hr hQ

theorem triR (hmix : P.follows .mixedOrders = true) {id : Nat} {draw : Bool} {s sn : St} {es : List Eff} (h : EffsR P E ops ops.toList s es sn) (hd : draw = true → tmpsApart ops = true ∧ effsApart es (loudPairs ops) = true) :
    Tri P E (.region id ops draw) s .normal sn := by
  intro w0 H0 β0 hB hG H β a w Q hs hQ
  cases draw with
  | false =>
    refine wp_region ?_
    have := runR_sound (ops := ops) hB hG ops.size 0 H β s sn es a w (Nat.zero_add _) hs (by simpa using h) hQ
    rwa [← List.range_eq_range'] at this
  | true =>
    obtain ⟨c1, c2⟩ := hd rfl
    refine wp_region_any hmix ?_
    refine drawR_any hB hG h c1 c2 hQ ops.size _ H β a _ (by simp) ?_ ?_ ?_
    · intro j o _ hl
      rw [rep_false] at hl; simp at hl
    · have := List.length_filter_le (fun j => !(Array.replicate ops.size false).getD j false) (List.range ops.size)
      simpa using this
    · have : ∀ (es : List Eff) (k : Nat) (s : St), appD (fun j => (Array.replicate ops.size false).getD j false) k es s = s := by
        intro es
        induction es with
        | nil => intro k s; rfl
        | cons e es ih =>
          intro k s
          simp only [appD]
          have hf := rep_false ops.size k
          simp only [hf, Bool.false_eq_true, if_false]
          exact ih _ _
      rw [this]
      exact hs.drew
end
end Go.Vi

/- Vi, part 36: what a piece of code asks is enough. -/
set_option linter.unusedVariables false
set_option linter.unusedSimpArgs false
namespace Go.Vi
section
variable {P : Program} {E : Env} {S : Sy} {vw : TypeId → Option View}

/-- What stays. -/
structure Stay (c : Code) (s s' : St) (d : List Id) : Prop where
  ob : ∀ id, id ∉ d → s'.ob id = none ∨ s'.ob id = s.ob id
  tm : ∀ t, spares t c = true → .ret t ∉ d → s'.tm t = .junk ∨ s'.tm t = s.tm t

theorem Stay.refl (c : Code) (s : St) : Stay c s s [] := ⟨fun _ _ => .inr rfl, fun _ _ _ => .inr rfl⟩

theorem Stay.trans' {c1 c2 c : Code} {s s1 s2 : St} {d1 d2 : List Id} (h1 : Stay c1 s s1 d1) (h2 : Stay c2 s1 s2 d2) (hs : ∀ t, spares t c = true → spares t c1 = true ∧ spares t c2 = true) : Stay c s s2 (d2 ++ d1) := by
  refine ⟨fun id hid => ?_, fun t ht hd => ?_⟩
  · simp only [List.mem_append, not_or] at hid
    rcases h2.ob id hid.1 with h | h
    · exact .inl h
    · rcases h1.ob id hid.2 with h' | h'
      · exact .inl (h.trans h')
      · exact .inr (h.trans h')
  · obtain ⟨a, b⟩ := hs t ht
    simp only [List.mem_append, not_or] at hd
    rcases h2.tm t b hd.1 with h | h
    · exact .inl h
    · rcases h1.tm t a hd.2 with h' | h'
      · exact .inl (h.trans h')
      · exact .inr (h.trans h')

theorem Stay.of {c c' : Code} {s s' : St} {d : List Id} (h : Stay c s s' d) (hs : ∀ t, spares t c' = true → spares t c = true) : Stay c' s s' d := ⟨h.ob, fun t ht hd => h.tm t (hs t ht) hd⟩

theorem effsR_stay {ops : Array Oper} : ∀ {l : List Oper} {s sn : St} {es : List Eff}, EffsR P E ops l s es sn → (∀ id, id ∉ upsOf es → sn.ob id = s.ob id) ∧ ∀ t, (∀ o ∈ l, o.dst ≠ some t) → sn.tm t = s.tm t
  | [], s, sn, es, h => by
    obtain ⟨rfl, rfl⟩ := h
    exact ⟨fun _ _ => rfl, fun _ _ => rfl⟩
  | o :: l, s, sn, es, h => by
    obtain ⟨e, es', rfl, ⟨C, _, he⟩, hr⟩ := h
    obtain ⟨h1, h2⟩ := effsR_stay hr
    refine ⟨fun id hid => ?_, fun t ht => ?_⟩
    · simp only [upsOf, List.flatMap_cons, List.mem_append, not_or] at hid
      rw [h1 id hid.2]
      exact applyUp_out hid.1
    · rw [h2 t fun o' ho' => ht o' (by simp [ho']), app_tm]
      rw [effOf_dst he]
      exact if_neg (ht o (by simp))

theorem getT_out : ∀ (l : List (Nat × V)) (t : Nat), getT l t = .junk ∨ ∃ v, (t, v) ∈ l ∧ getT l t = v
  | [], t => .inl rfl
  | (k, v) :: l, t => by
    simp only [getT]
    split
    · rename_i e; subst e; exact .inr ⟨v, by simp, rfl⟩
    · rcases getT_out l t with h | ⟨v', h1, h2⟩
      · exact .inl h
      · exact .inr ⟨v', by simp [h1], h2⟩

theorem getO_out : ∀ (l : List (Id × Ob)) (b : Id), getO l b = none ∨ ∃ o, (b, o) ∈ l ∧ getO l b = some o
  | [], b => .inl rfl
  | (k, v) :: l, b => by
    simp only [getO]
    split
    · rename_i e; subst e; exact .inr ⟨v, by simp, rfl⟩
    · rcases getO_out l b with h | ⟨v', h1, h2⟩
      · exact .inl h
      · exact .inr ⟨v', by simp [h1], h2⟩

theorem head_stay {A : LoopA} {s0 : St} {i : Nat} {x : A.X} {c : Code} (h : toldOk A c i x = true) : Stay c s0 (headS A s0 i x) (headD A i x) := by
  simp only [toldOk, Bool.and_eq_true, List.all_eq_true] at h
  refine ⟨fun id hid => ?_, fun t ht hd => ?_⟩
  · rcases getO_out (headO A s0 i x) id with h1 | ⟨o, h1, h2⟩
    · exact .inl h1
    · simp only [headO, List.mem_append, List.mem_map, List.mem_filterMap] at h1
      rcases h1 with ⟨q, hq, e⟩ | ⟨id', _, e⟩
      · simp only [Prod.mk.injEq] at e
        exact absurd (List.mem_append_left _ (List.mem_map.2 ⟨q, hq, e.1⟩)) hid
      · simp only [Option.map_eq_some_iff, Prod.mk.injEq] at e
        obtain ⟨o', h3, rfl, rfl⟩ := e
        exact .inr (h2.trans h3.symm)
  · rcases getT_out (headT A s0 i x) t with h1 | ⟨v, h1, h2⟩
    · exact .inl h1
    · simp only [headT, List.mem_append, List.mem_map] at h1
      rcases h1 with h1 | ⟨t', _, e⟩
      · have := h.1 _ h1
        simp only [ht, Bool.not_true, Bool.false_or, List.contains_iff_mem] at this
        exact absurd (List.mem_append_right _ (List.mem_map.2 ⟨t, this, rfl⟩)) hd
      · simp only [Prod.mk.injEq] at e
        obtain ⟨rfl, rfl⟩ := e
        exact .inr h2

theorem sameN_RN {g : Id → Option Id} : ∀ (d : Nat) (v : V), sameN g d v = true → RN g v v
  | 0, v, h => by simp [sameN] at h
  | d + 1, v, h => by
    have all : ∀ {l : List V}, l.all (sameN g d) = true → ∀ (k : Nat) y y', l[k]? = some y → l[k]? = some y' → RN g y y' := by
      intro l hl k y y' hy hy'
      rw [hy] at hy'
      obtain rfl := Option.some.inj hy'
      exact sameN_RN d _ (List.all_eq_true.1 hl _ (List.mem_of_getElem? hy))
    cases v with
    | junk => simp [sameN] at h
    | lp a off => simp only [sameN, decide_eq_true_eq] at h; exact .lp _ _ _ h
    | sl a off n e x => simp only [sameN, decide_eq_true_eq] at h; exact .sl _ _ _ _ _ _ h
    | agg l =>
      simp only [sameN] at h
      split at h
      · rename_i hn; exact .nv _ (by simpa [V.nv] using hn)
      · exact .agg _ _ rfl (all h)
    | tup l =>
      simp only [sameN] at h
      split at h
      · rename_i hn; exact .nv _ (by simpa [V.nv] using hn)
      · exact .tup _ _ rfl (all h)
    | fn f l => simp only [sameN] at h; exact .fn _ _ _ rfl (all h)
    | nl => exact .nl
    | e0 => exact .e0
    | int k n => exact .nv _ rfl
    | bool b => exact .nv _ rfl
    | str b => exact .nv _ rfl
    | fs l => exact .nv _ rfl
    | fp c o => exact .nv _ rfl

theorem ghF_RN {g : Id → Option Id} : ∀ (d : Nat) (u : V) {v0 v : V}, RN g v0 v → RN g v0 (ghF d u v)
  | 0, u, v0, v, h => by unfold ghF; exact h
  | d + 1, u, v0, v, h => by
    have hL : ∀ (m l l0 : List V), l.length = l0.length → (∀ (k : Nat) y y', l0[k]? = some y → l[k]? = some y' → RN g y y') → (ghF.ghL d m l).length = l0.length ∧ ∀ (k : Nat) y y', l0[k]? = some y → (ghF.ghL d m l)[k]? = some y' → RN g y y' := by
      intro m
      induction m with
      | nil =>
        intro l l0 hl h
        rw [show ghF.ghL d [] l = l by cases l <;> rfl]
        exact ⟨hl, h⟩
      | cons u m ih =>
        intro l l0 hl h
        cases l with
        | nil => exact ⟨hl, h⟩
        | cons v l =>
          cases l0 with
          | nil => simp at hl
          | cons v0 l0 =>
            obtain ⟨q1, q2⟩ := ih l l0 (by simpa using hl) (fun k y y' hy hy' => h (k + 1) y y' (by simpa using hy) (by simpa using hy'))
            simp only [ghF.ghL]
            refine ⟨by simp [q1], fun k y y' hy hy' => ?_⟩
            cases k with
            | zero =>
              simp only [List.getElem?_cons_zero, Option.some.injEq] at hy hy'
              subst hy; subst hy'
              exact ghF_RN d u (h 0 _ _ rfl rfl)
            | succ k => exact q2 k y y' (by simpa using hy) (by simpa using hy')
    unfold ghF
    split
    · split
      · cases h with
        | nv _ hn => simp [V.nv] at hn
        | nl => exact .gh ..
      · cases h with
        | nv _ hn => simp [V.nv] at hn
        | e0 => exact .gh0 ..
      · rename_i a off n e' x
        cases h with
        | nv _ hn => simp [V.nv] at hn
        | sl a0 _ _ _ _ _ hg =>
          cases x with
          | true => exact .slx _ _ _ _ _ hg
          | false => exact .sl _ _ _ _ _ _ hg
        | gh => exact .gh ..
        | gh0 => exact .gh0 ..
        | slx _ _ _ _ _ hg => exact .slx _ _ _ _ _ hg
      · exact h
    · split
      · split
        · exact h
        · rename_i l hn
          cases h with
          | nv _ hv =>
            obtain ⟨q1, q2⟩ := hL _ l l rfl (fun k y y' hy hy' => by rw [hy] at hy'; obtain rfl := Option.some.inj hy'; exact .nv _ (nvs_get (by simpa [V.nv] using hv) _ _ hy))
            exact .agg _ _ q1 q2
          | agg l0 _ hl hk =>
            obtain ⟨q1, q2⟩ := hL _ l l0 hl hk
            exact .agg _ _ q1 q2
      · exact h
    · exact h

theorem ghL_RN {g : Id → Option Id} (d : Nat) : ∀ (m l l0 : List V), l.length = l0.length → (∀ (k : Nat) y y', l0[k]? = some y → l[k]? = some y' → RN g y y') → (ghF.ghL d m l).length = l0.length ∧ ∀ (k : Nat) y y', l0[k]? = some y → (ghF.ghL d m l)[k]? = some y' → RN g y y'
  | [], l, l0, hl, h => by
    rw [show ghF.ghL d [] l = l by cases l <;> rfl]
    exact ⟨hl, h⟩
  | u :: m, [], l0, hl, h => ⟨hl, h⟩
  | u :: m, v :: l, [], hl, h => by simp at hl
  | u :: m, v :: l, v0 :: l0, hl, h => by
    obtain ⟨q1, q2⟩ := ghL_RN d m l l0 (by simpa using hl) (fun k y y' hy hy' => h (k + 1) y y' (by simpa using hy) (by simpa using hy'))
    simp only [ghF.ghL]
    refine ⟨by simp [q1], fun k y y' hy hy' => ?_⟩
    cases k with
    | zero =>
      simp only [List.getElem?_cons_zero, Option.some.injEq] at hy hy'
      subst hy; subst hy'
      exact ghF_RN d u (h 0 _ _ rfl rfl)
    | succ k => exact q2 k y y' (by simpa using hy) (by simpa using hy')

/-- A view's list, as the cells of its slice. -/
theorem fz_fr {G : List (Id × Id)} (hvw : VwOk P vw) {ob : Id → Option Ob} {a : Id} {o : Ob} {e : TypeId} {w : View} {n : Nat} {x : Bool} {l : List w.α} (ho : ob a = some o) (hw : vw e = some w) (h1 : o.cells = w.fl l) (h2 : n = l.length) : RF P ob [a] (oldOf G) (.sl a 0 n e x) (.fs (w.ls l)) := by
  have hv := hvw e w hw
  refine .fr a n e x _ o w.sz (by simp) ho hv.sz (by rw [View.ls_len, h2]) ?_ (fun y hy => ?_) (by rw [h1]; exact hv.fl_nvs l)
  · rw [h1, List.take_of_length_le (by rw [hv.fl_len, h2]; exact Nat.le_refl _)]
    unfold View.ls View.fl
    rw [List.flatMap_map]
  · obtain ⟨z, _, rfl⟩ := List.mem_map.1 hy
    exact hv.len z

theorem fzS_sound {G : List (Id × Id)} (hvw : VwOk P vw) {ob : Id → Option Ob} : ∀ (d : Nat) (u v : V) (k : List Id → Prop), fzS vw ob d u v k → ∃ F, RF P ob F (oldOf G) v u ∧ k F
  | 0, u, v, k, h => by simp only [fzS] at h
  | d + 1, u, v, k, h => by
    have hL : ∀ (m l : List V) (k : List Id → Prop), l.length = m.length → fzS.fzL vw ob d m l k → ∃ F, (∀ (i : Nat) y y', l[i]? = some y → m[i]? = some y' → RF P ob F (oldOf G) y y') ∧ k F := by
      intro m
      induction m with
      | nil => intro l k hl h; simp only [fzS.fzL] at h; exact ⟨[], fun i y y' _ hy' => (by simp at hy'), h⟩
      | cons u m ih =>
        intro l k hl h
        cases l with
        | nil => simp at hl
        | cons v l =>
          simp only [fzS.fzL] at h
          obtain ⟨F1, h1, h2⟩ := fzS_sound hvw d _ _ _ h
          obtain ⟨F2, h3, h4⟩ := ih l _ (by simpa using hl) h2
          refine ⟨F1 ++ F2, fun i y y' hy hy' => ?_, h4⟩
          cases i with
          | zero =>
            simp only [List.getElem?_cons_zero, Option.some.injEq] at hy hy'
            subst hy; subst hy'
            exact h1.mono fun a ha => List.mem_append_left _ ha
          | succ i => exact (h3 i y y' (by simpa using hy) (by simpa using hy')).mono fun a ha => List.mem_append_right _ ha
    have plain : ∀ {u v : V}, (if u.nv then v = u ∧ k [] else False) → ∃ F, RF P ob F (oldOf G) v u ∧ k F := by
      intro u v h
      split at h
      · rename_i hn
        obtain ⟨rfl, h⟩ := h
        exact ⟨[], .rn _ _ (.nv _ hn), h⟩
      · exact h.elim
    cases u with
    | fs L =>
      simp only [fzS] at h
      split at h
      · obtain ⟨rfl, h⟩ := h; exact ⟨[], .nl0, h⟩
      · obtain ⟨rfl, h⟩ := h; exact ⟨[], .e00, h⟩
      · obtain ⟨rfl, h⟩ := h; exact ⟨[], .rn _ _ (.nv _ rfl), h⟩
      · rename_i a off n e x
        split at h
        · rename_i o w ho hw
          split at h
          · rename_i hc
            simp only [Bool.and_eq_true, beq_iff_eq] at hc
            obtain ⟨l, h1, h2, rfl, h⟩ := h
            rw [hc.2]
            exact ⟨[a], fz_fr hvw ho hw h1 h2, h⟩
          · exact h.elim
        · exact h.elim
      · exact h.elim
    | agg m =>
      simp only [fzS] at h
      split at h
      · rename_i l
        split at h
        · rename_i hn
          simp only [Bool.and_eq_true] at hn
          obtain ⟨rfl, h⟩ := h
          exact ⟨[], .rn _ _ (.nv _ (by simpa [V.nv] using hn.1)), h⟩
        · split at h
          · rename_i hlen
            have hlen : l.length = m.length := by simpa using hlen
            obtain ⟨F, h1, h2⟩ := hL m l k hlen h
            exact ⟨F, .agg _ _ hlen.symm h1, h2⟩
          · exact h.elim
      · exact h.elim
    | junk => exact plain (by simpa only [fzS] using h)
    | int _ _ => exact plain (by simpa only [fzS] using h)
    | bool _ => exact plain (by simpa only [fzS] using h)
    | str _ => exact plain (by simpa only [fzS] using h)
    | tup _ => exact plain (by simpa only [fzS] using h)
    | lp _ _ => exact plain (by simpa only [fzS] using h)
    | sl _ _ _ _ _ => exact plain (by simpa only [fzS] using h)
    | nl => exact plain (by simpa only [fzS] using h)
    | e0 => exact plain (by simpa only [fzS] using h)
    | fp _ _ => exact plain (by simpa only [fzS] using h)
    | fn _ _ => exact plain (by simpa only [fzS] using h)

theorem fzL_sound {G : List (Id × Id)} (hvw : VwOk P vw) {ob : Id → Option Ob} (d : Nat) : ∀ (m l : List V) (k : List Id → Prop), l.length = m.length → fzS.fzL vw ob d m l k → ∃ F, (∀ (i : Nat) y y', l[i]? = some y → m[i]? = some y' → RF P ob F (oldOf G) y y') ∧ k F
  | [], l, k, hl, h => by simp only [fzS.fzL] at h; exact ⟨[], fun i y y' _ hy' => (by simp at hy'), h⟩
  | u :: m, [], k, hl, h => by simp at hl
  | u :: m, v :: l, k, hl, h => by
    simp only [fzS.fzL] at h
    obtain ⟨F1, h1, h2⟩ := fzS_sound hvw d _ _ _ h
    obtain ⟨F2, h3, h4⟩ := fzL_sound hvw d m l _ (by simpa using hl) h2
    refine ⟨F1 ++ F2, fun i y y' hy hy' => ?_, h4⟩
    cases i with
    | zero =>
      simp only [List.getElem?_cons_zero, Option.some.injEq] at hy hy'
      subst hy; subst hy'
      exact h1.mono fun a ha => List.mem_append_left _ ha
    | succ i => exact (h3 i y y' (by simpa using hy) (by simpa using hy')).mono fun a ha => List.mem_append_right _ ha

theorem fzT_sound {G : List (Id × Id)} (hvw : VwOk P vw) {s : St} : ∀ (l : List (Nat × V)) (k : List Id → Prop), fzT vw s l k → ∃ F, (∀ t u, (t, u) ∈ l → RF P s.ob F (oldOf G) (s.tm t) u) ∧ k F
  | [], k, h => ⟨[], fun t u hm => (by simp at hm), h⟩
  | (t, u) :: l, k, h => by
    simp only [fzT] at h
    obtain ⟨F1, h1, h2⟩ := fzS_sound hvw _ _ _ _ h
    obtain ⟨F2, h3, h4⟩ := fzT_sound hvw l _ h2
    refine ⟨F1 ++ F2, fun t' u' hm => ?_, h4⟩
    simp only [List.mem_cons, Prod.mk.injEq] at hm
    rcases hm with ⟨rfl, rfl⟩ | hm
    · exact h1.mono fun a ha => List.mem_append_left _ ha
    · exact (h3 t' u' hm).mono fun a ha => List.mem_append_right _ ha

theorem obsW_get (hvw : VwOk P vw) {fz : List Id} {s : St} {G : List (Id × Id)} : ∀ {O : List (Id × Bool × Ob)} {k : List Id → Prop}, obsW vw fz s G O k → ∃ F, (∀ b raw o', (b, raw, o') ∈ O →
    (∃ a o, oldOf G b = some a ∧ s.ob a = some o ∧ o'.ty = o.ty ∧ o'.fz = o.fz ∧ ((raw = true ∧ o.cells = o'.cells ∧ V.nv.nvs o'.cells = true) ∨ ghF.ghL depth o'.cells (o.cells.map (rnF (newOf G) depth)) = o'.cells ∨
      (o.cells.length = o'.cells.length ∧ ∀ (i : Nat) y y', o.cells[i]? = some y → o'.cells[i]? = some y' → RF P s.ob F (oldOf G) y y'))) ∨ (oldOf G b = none ∧ o'.cells = [])) ∧ k F
  | [], k, h => ⟨[], fun b raw o' hm => (by simp at hm), h⟩
  | (b0, raw0, o0) :: l, k, h => by
    simp only [obsW] at h
    split at h
    · rename_i hb
      split at h
      · obtain ⟨F, q1, q2⟩ := obsW_get hvw h.2
        refine ⟨F, fun b raw o' hm => ?_, q2⟩
        simp only [List.mem_cons, Prod.mk.injEq] at hm
        rcases hm with ⟨rfl, rfl, rfl⟩ | hm
        · exact .inr ⟨hb, h.1⟩
        · exact q1 b raw o' hm
      · exact h.elim
    · rename_i a h1
      split at h
      · rename_i o h2
        split at h
        · rename_i hc
          simp only [Bool.and_eq_true, beq_iff_eq] at hc
          split at h
          · split at h
            · rename_i hlen
              have hlen : o.cells.length = o0.cells.length := by simpa using hlen
              obtain ⟨F1, r1, h⟩ := fzL_sound (G := G) hvw depth _ _ _ hlen h
              obtain ⟨F2, q1, q2⟩ := obsW_get hvw h
              refine ⟨F1 ++ F2, fun b raw o' hm => ?_, q2⟩
              simp only [List.mem_cons, Prod.mk.injEq] at hm
              rcases hm with ⟨rfl, rfl, rfl⟩ | hm
              · exact .inl ⟨a, o, h1, h2, hc.1, hc.2, .inr (.inr ⟨hlen, fun i y y' hy hy' => (r1 i y y' hy hy').mono fun a ha => List.mem_append_left _ ha⟩)⟩
              · rcases q1 b raw o' hm with ⟨a, o, p1, p2, p3, p4, p5⟩ | hg
                · refine .inl ⟨a, o, p1, p2, p3, p4, ?_⟩
                  rcases p5 with p5 | p5 | ⟨p5, p6⟩
                  · exact .inl p5
                  · exact .inr (.inl p5)
                  · exact .inr (.inr ⟨p5, fun i y y' hy hy' => (p6 i y y' hy hy').mono fun a ha => List.mem_append_right _ ha⟩)
                · exact .inr hg
            · exact h.elim
          · have hrest : obsW vw fz s G l k ∧ ((raw0 = true ∧ o.cells = o0.cells ∧ V.nv.nvs o0.cells = true) ∨ ghF.ghL depth o0.cells (o.cells.map (rnF (newOf G) depth)) = o0.cells) := by
              split at h
              · exact ⟨h.2.2, .inl ⟨rfl, h.1, h.2.1⟩⟩
              · exact ⟨h.2, .inr h.1⟩
            obtain ⟨F, q1, q2⟩ := obsW_get hvw hrest.1
            refine ⟨F, fun b raw o' hm => ?_, q2⟩
            simp only [List.mem_cons, Prod.mk.injEq] at hm
            rcases hm with ⟨rfl, rfl, rfl⟩ | hm
            · exact .inl ⟨a, o, h1, h2, hc.1, hc.2, hrest.2.imp (fun h => h) fun h => .inl h⟩
            · exact q1 b raw o' hm
        · exact h.elim
      · exact h.elim

theorem rawK_get {s1 : St} : ∀ {l : List Id} {k : Prop}, rawK s1 l k → ∀ id ∈ l, ∀ o, s1.ob id = some o → V.nv.nvs o.cells = true
  | [], k, h, id, hm, o, ho => by simp at hm
  | a :: l, k, h, id, hm, o, ho => by
    simp only [rawK] at h
    split at h
    · rename_i o1 ho1
      simp only [List.mem_cons] at hm
      rcases hm with rfl | hm
      · rw [ho1] at ho; obtain rfl := Option.some.inj ho; exact h.1
      · exact rawK_get h.2 id hm o ho
    · exact h.elim

theorem keptI_free {A : LoopA} {s0 : St} {i : Nat} {x : A.X} {id : Id} (h : id ∈ keptI A s0 i x) : id ∉ (A.O i x).map (·.1) := by
  have key : ((A.O i x).any fun q => decide (q.1 = id)) = false → id ∉ (A.O i x).map (·.1) := by
    intro hn hm
    obtain ⟨q, hq, rfl⟩ := List.mem_map.1 hm
    simp only [List.any_eq_false, decide_eq_true_eq] at hn
    exact hn q hq rfl
  unfold keptI at h
  simp only [List.mem_append, List.mem_filter, mem_dedup, Bool.and_eq_true, Bool.not_eq_true'] at h
  rcases h with (h | h) | h
  · exact key h.2.1
  · exact key h.2.1
  · exact key h.2

theorem weakS_sound (hvw : VwOk P vw) {A : LoopA} {s0 s1 : St} {d : List Id} {i : Nat} {x : A.X} (hn : s1.n = s0.n) (hk : ∀ t ∈ A.keep, .ret t ∉ d → s1.tm t = .junk ∨ s1.tm t = s0.tm t) (ho : ∀ id, id ∉ (A.O i x).map (·.1) → id ∉ d → s1.ob id = none ∨ s1.ob id = s0.ob id)
    (h : weakS vw A s0 s1 d i x) : Weak P E s1 (headS A s0 i x) := by
  unfold weakS at h
  simp only at h
  generalize hTa : ((A.T i x).filter fun p => !A.frz.contains p.1) = Ta at h
  generalize hGG : matchO s1 (A.O i x) (addG [] (Ta.flatMap (fun p => matchV depth p.2 (s1.tm p.1)) ++ idP (A.keep.flatMap fun t => refs true depth (s0.tm t)) ++ idP (keptI A s0 i x))) = G at h
  split at h
  · rename_i hc
    simp only [Bool.and_eq_true, List.all_eq_true] at hc
    obtain ⟨⟨hG, hkeep⟩, hkept⟩ := hc
    obtain ⟨h1, h2⟩ := h
    obtain ⟨F1, hF, h2⟩ := fzT_sound (G := G) hvw _ _ h2
    obtain ⟨F2, hO, h2⟩ := obsW_get hvw h2
    split at h2
    · rename_i hfz
      have h3 := h2
      generalize hFF : F1 ++ F2 = F at hfz
      have hF1 : ∀ a ∈ F1, a ∈ F := fun a ha => by rw [← hFF]; exact List.mem_append_left _ ha
      have hF2 : ∀ a ∈ F2, a ∈ F := fun a ha => by rw [← hFF]; exact List.mem_append_right _ ha
      simp only [frzOk, List.all_eq_true, Bool.and_eq_true, Bool.not_eq_true'] at hfz
      have h2 := hO
      refine weak_fr hn hG (fun a ha => (hfz a ha).1.1) (fun t v hm => ?_) (fun b o' hm => ?_)
      · simp only [headT, List.mem_append, List.mem_map, Prod.mk.injEq] at hm
        rcases hm with hm | ⟨t', ht', rfl, rfl⟩
        · by_cases hz : A.frz.contains t = true
          · exact (hF t v (List.mem_filter.2 ⟨hm, hz⟩)).mono hF1
          · have hm2 : (t, v) ∈ Ta := by rw [← hTa]; exact List.mem_filter.2 ⟨hm, by simpa using hz⟩
            have := List.map_inj_left.1 h1 _ hm2
            simp only at this
            rw [← this]
            exact .rn _ _ (ghF_RN _ _ (rnF_RN hG _ _))
        · obtain ⟨hs, hd⟩ := hkeep _ ht'
          have hr := sameN_RN _ _ hs
          have hd : .ret t' ∉ d := by
            intro hm
            rw [Bool.not_eq_true', List.contains_iff_mem.2 hm] at hd; cases hd
          rcases hk _ ht' hd with e | e
          · rw [e] at hs; simp [sameN, depth] at hs
          · rw [e] at hr ⊢; exact .rn _ _ hr
      · simp only [headO, List.mem_append, List.mem_map, List.mem_filterMap] at hm
        rcases hm with ⟨⟨b0, raw, o0⟩, hm2, e⟩ | ⟨id, hid, e⟩
        · simp only [Prod.mk.injEq] at e
          obtain ⟨rfl, rfl⟩ := e
          rcases h2 _ _ _ hm2 with ⟨a, o, p1, p2, p3, p4, p5⟩ | hgh
          case inr => exact .inr hgh
          refine .inl ⟨a, o, p1, fun ha => ?_, p2, p3, p4, ?_⟩
          · have := (hfz a ha).2
            simp only [List.any_eq_false, List.mem_map, decide_eq_true_eq] at this
            exact this b0 ⟨_, hm2, rfl⟩ p1
          rcases p5 with ⟨_, p5, p6⟩ | p5 | ⟨p5, p6⟩
          rotate_left 2
          · exact ⟨p5.symm, fun k y y' hy hy' => (p6 k y y' hy hy').mono hF2⟩
          · rw [p5]
            refine ⟨rfl, fun k y y' hy hy' => ?_⟩
            rw [hy] at hy'
            obtain rfl := Option.some.inj hy'
            exact .rn _ _ (.nv _ (nvs_get p6 _ _ hy))
          · obtain ⟨r1, r2⟩ := ghL_RN (g := oldOf G) depth o0.cells (o.cells.map (rnF (newOf G) depth)) o.cells (by simp) (fun k y y' hy hy' => by
              simp only [List.getElem?_map, hy, Option.map_some, Option.some.injEq] at hy'
              subst hy'
              exact rnF_RN hG _ _)
            rw [p5] at r1 r2
            exact ⟨r1, fun k y y' hy hy' => .rn _ _ (r2 k y y' hy hy')⟩
        · simp only [Option.map_eq_some_iff, Prod.mk.injEq] at e
          obtain ⟨o, ho0, rfl, rfl⟩ := e
          have hko := hkept _ hid
          simp only [keptOk, Bool.and_eq_true, Bool.not_eq_true', decide_eq_true_eq] at hko
          obtain ⟨⟨k1, k2⟩, k3⟩ := hko
          split at k3
          · rename_i o1 ho1
            have hnd : id ∉ d := by
              intro hm
              have := List.contains_iff_mem.2 hm
              rw [this] at k1; cases k1
            have heq : o1 = o := by
              rcases ho id (keptI_free hid) hnd with e | e
              · rw [ho1] at e; cases e
              · rw [ho1, ho0] at e; exact Option.some.inj e
            subst heq
            refine .inl ⟨id, o1, k2, fun ha => ?_, ho1, rfl, rfl, rfl, fun k y y' hy hy' => ?_⟩
            · have := (hfz id ha).1.2
              rw [List.contains_iff_mem.2 hid] at this
              cases this
            rw [hy] at hy'
            obtain rfl := Option.some.inj hy'
            simp only [Bool.or_eq_true] at k3
            rcases k3 with k3 | k3
            · exact .rn _ _ (.nv _ (nvs_get (rawK_get h3 id (List.contains_iff_mem.1 k3) _ ho1) _ _ hy))
            · exact .rn _ _ (sameN_RN _ _ (List.all_eq_true.1 k3 _ (List.mem_of_getElem? hy)))
          · cases k3
    · exact h2.elim
  · exact h.elim

theorem pickS_sound (hvw : VwOk P vw) {A : LoopA} {s0 s1 : St} {d : List Id} {x : A.X} {I : Nat → Prop} (hk : ∀ t ∈ A.keep, .ret t ∉ d → s1.tm t = .junk ∨ s1.tm t = s0.tm t) : ∀ {n i : Nat}, (∀ j, i ≤ j → j < i + n → I j → ∀ id, id ∉ (A.O j x).map (·.1) → id ∉ d → s1.ob id = none ∨ s1.ob id = s0.ob id) →
    pickS vw A s0 s1 d x I n i → ∃ j, i ≤ j ∧ j < i + n ∧ I j ∧ Weak P E s1 (headS A s0 j x)
  | 0, i, ho, h => by simp only [pickS] at h
  | n + 1, i, ho, h => by
    simp only [pickS] at h
    split at h
    · rename_i hf
      simp only [Bool.and_eq_true, beq_iff_eq] at hf
      exact ⟨i, Nat.le_refl _, by omega, h.1, weakS_sound hvw hf.2 hk (ho i (Nat.le_refl _) (by omega) h.1) h.2⟩
    · obtain ⟨j, h1, h2, h3, h4⟩ := pickS_sound hvw hk (fun j h1 h2 => ho j (by omega) (by omega)) h
      exact ⟨j, by omega, by omega, h3, h4⟩

theorem shapes_get {f : Nat → Prop} : ∀ {n i j : Nat}, shapes f n i → i ≤ j → j < i + n → f j
  | 0, i, j, h, h1, h2 => by omega
  | 1, i, j, h, h1, h2 => by
    have : j = i := by omega
    subst this; exact h
  | n + 2, i, j, h, h1, h2 => by
    by_cases hj : j = i
    · subst hj; exact h.1
    · exact shapes_get (n := n + 1) (i := i + 1) h.2 (by omega) (by omega)

theorem iterS_sound {c : Code} {f : St → List Id → (Ex → St → List Id → Prop) → Prop} (hf : ∀ s ws k, f s ws k → ∃ e s' d, Tri P E c s e s' ∧ k e s' (d ++ ws) ∧ Stay c s s' d) :
    ∀ (n : Nat) (s : St) (ws : List Id) (k : Ex → St → List Id → Prop), iterS f n s ws k → ∃ m e s' d, TriN P E c m s e s' ∧ k e s' (d ++ ws) ∧ Stay c s s' d
  | 0, s, ws, k, h => by simp only [iterS] at h
  | n + 1, s, ws, k, h => by
    simp only [iterS] at h
    obtain ⟨e, s1, d, h1, h2, h5⟩ := hf _ _ _ h
    cases e with
    | normal =>
      obtain ⟨m, e, s', d', h3, h4, h6⟩ := iterS_sound hf n s1 _ k h2
      exact ⟨m + 1, e, s', d' ++ d, TriN.round h1 h3, by rw [List.append_assoc]; exact h4, h5.trans' h6 fun t ht => ⟨ht, ht⟩⟩
    | exit id => exact ⟨1, _, _, d, TriN.out (n := 0) h1 (by intro e; cases e), h2, h5⟩
    | ret => exact ⟨1, _, _, d, TriN.out (n := 0) h1 (by intro e; cases e), h2, h5⟩

theorem tri_cond {x : Operand} {c1 c2 : Code} {s s' : St} {e : Ex} {b : Bool} (hx : evO E s.tm x = .bool b) (h : Tri P E (if b then c1 else c2) s e s') : Tri P E (.cond x c1 c2) s e s' := by
  intro w0 H0 β0 hB hG H β a w Q hs hQ
  have hv := hs.ev hG x
  rw [hx] at hv
  cases b with
  | true =>
    cases hq : a.eval x <;> rw [hq] at hv <;> cases hv
    exact wp_cond_true hq (h w0 H0 β0 hB hG H β a w Q hs hQ)
  | false =>
    cases hq : a.eval x <;> rw [hq] at hv <;> cases hv
    exact wp_cond_false hq (h w0 H0 β0 hB hG H β a w Q hs hQ)

theorem outB_sound {id : Nat} {c : Code} {s s' : St} {e : Ex} {ws : List Id} {k : Ex → St → List Id → Prop} (h : Tri P E c s e s') (hk : outB id k e s' ws) : ∃ e', Tri P E (.block id c) s e' s' ∧ k e' s' ws := by
  refine ⟨outOf id e, h.block, ?_⟩
  cases e with
  | normal => exact hk
  | ret => exact hk
  | exit id' =>
    simp only [outB] at hk
    simp only [outOf]
    split at hk
    · rename_i e; rw [if_pos e]; exact hk
    · rename_i e; rw [if_neg e]; exact hk

theorem told_get {A : LoopA} {c : Code} {i : Nat} {x : A.X} {p : Prop} (h : if toldOk A c i x then p else False) : toldOk A c i x = true ∧ p := by
  split at h
  · rename_i e; exact ⟨e, h⟩
  · exact h.elim

theorem told_keep {A : LoopA} {c : Code} {i : Nat} {x : A.X} (h : toldOk A c i x = true) : ∀ t ∈ A.keep, spares t c = true := by
  simp only [toldOk, Bool.and_eq_true, List.all_eq_true] at h
  exact h.2

theorem wpC_sound (hmix : P.follows .mixedOrders = true) (hvw : VwOk P S.vw) (hsp : SpecsOk P E S.sp) (hmk : ∀ n p, S.tag n p → p) : ∀ (c : Code) (lb : Nat) (s : St) (ws : List Id) (k : Ex → St → List Id → Prop), wpC P E S c lb s ws k → ∃ e s' d, Tri P E c s e s' ∧ k e s' (d ++ ws) ∧ Stay c s s' d := by
  intro c
  induction c with
  | skip => intro lb s ws k h; exact ⟨.normal, s, [], Tri.skip s, h, Stay.refl _ _⟩
  | label l => intro lb s ws k h; exact ⟨.normal, s, [], Tri.ev hmix noC_ok (fuel := 0) rfl, h, Stay.refl _ _⟩
  | exit id => intro lb s ws k h; exact ⟨.exit id, s, [], Tri.ev hmix noC_ok (fuel := 0) rfl, h, Stay.refl _ _⟩
  | ret => intro lb s ws k h; exact ⟨.ret, s, [], Tri.ev hmix noC_ok (fuel := 0) rfl, h, Stay.refl _ _⟩
  | region id ops draw =>
    intro lb s ws k h
    simp only [wpC] at h
    obtain ⟨es, sn, h1, h2⟩ := effsS_sound hvw hsp hmk h
    obtain ⟨q1, q2⟩ := effsR_stay h1
    have hst : Stay (.region id ops draw) s sn (upsOf es) := by
      refine ⟨fun i hi => .inr (q1 i hi), fun t ht _ => .inr (q2 t fun o ho => ?_)⟩
      simp only [spares, Array.all_eq_true_iff_forall_mem, bne_iff_ne] at ht
      exact ht o (by simpa using ho)
    cases draw with
    | true =>
      simp only at h2
      split at h2
      · rename_i hc
        simp only [Bool.and_eq_true] at hc
        exact ⟨_, _, _, triR hmix h1 (fun _ => hc), h2, hst⟩
      · exact h2.elim
    | false => exact ⟨_, _, _, triR hmix h1 (fun h => by cases h), h2, hst⟩
  | seq x y ihx ihy =>
    intro lb s ws k h
    simp only [wpC] at h
    obtain ⟨e, s1, d, h1, h2, h5⟩ := ihx _ _ _ _ h
    have hs : ∀ t, spares t (.seq x y) = true → spares t x = true ∧ spares t y = true := fun t ht => by simpa [spares] using ht
    cases e with
    | normal =>
      obtain ⟨e, s', d', h3, h4, h6⟩ := ihy _ _ _ _ h2
      exact ⟨e, s', d' ++ d, h1.seq h3, by rw [List.append_assoc]; exact h4, h5.trans' h6 hs⟩
    | exit id => exact ⟨_, _, d, h1.seq_out (by intro e; cases e), h2, h5.of fun t ht => (hs t ht).1⟩
    | ret => exact ⟨_, _, d, h1.seq_out (by intro e; cases e), h2, h5.of fun t ht => (hs t ht).1⟩
  | cond x c1 c2 ih1 ih2 =>
    intro lb s ws k h
    simp only [wpC] at h
    have hs : ∀ t, spares t (.cond x c1 c2) = true → spares t c1 = true ∧ spares t c2 = true := fun t ht => by simpa [spares] using ht
    have both : ∀ {v : Bool} {t1 t2 : Nat → V}, evO E s.tm x = .bool v → (v = true → t1 = s.tm) → (v = false → t2 = s.tm) →
        BIF v (wpC P E S c1 lb { s with tm := t1 } ws k) (wpC P E S c2 lb { s with tm := t2 } ws k) → ∃ e s' d, Tri P E (.cond x c1 c2) s e s' ∧ k e s' (d ++ ws) ∧ Stay (.cond x c1 c2) s s' d := by
      intro v t1 t2 hx e1 e2 h
      rcases BIF_case h with ⟨hv, h⟩ | ⟨hv, h⟩
      · rw [e1 hv] at h
        obtain ⟨e, s', d, h3, h4, h5⟩ := ih1 _ _ _ _ h
        exact ⟨e, s', d, tri_cond (b := true) (by rw [hx, hv]) h3, h4, h5.of fun t ht => (hs t ht).1⟩
      · rw [e2 hv] at h
        obtain ⟨e, s', d, h3, h4, h5⟩ := ih2 _ _ _ _ h
        exact ⟨e, s', d, tri_cond (b := false) (by rw [hx, hv]) h3, h4, h5.of fun t ht => (hs t ht).2⟩
    split at h
    · rename_i t v hv
      exact both hv (fun e => by subst e; exact tellT_same hv) (fun e => by subst e; exact tellT_same hv) h
    · rename_i v hx _ hv
      exact both hv (fun _ => rfl) (fun _ => rfl) h
    · exact h.elim
  | block id c ih =>
    intro lb s ws k h
    have hs : ∀ t, spares t (.block id c) = true → spares t c = true := fun t ht => by simpa [spares] using ht
    simp only [wpC] at h
    split at h
    · obtain ⟨e, s', d, h1, h2, h5⟩ := ih _ _ _ _ h
      obtain ⟨e', h3, h4⟩ := outB_sound h1 h2
      exact ⟨e', s', d, h3, h4, h5.of hs⟩
    · rename_i A hA
      obtain ⟨I, h, hsh⟩ := h
      obtain ⟨e, s', d, h1, h2, h5⟩ := ih _ _ _ _ h
      obtain ⟨e', h3, h4⟩ := outB_sound h1 h2
      cases e' with
      | normal =>
        simp only at h4
        rw [List.append_nil] at h4
        obtain ⟨x, hx⟩ := h4
        by_cases hA0 : ∃ j, j < A.n ∧ I j x
        · obtain ⟨j0, hj0, hI0⟩ := hA0
          have hkeep := told_keep (told_get (shapes_get hsh (Nat.zero_le j0) (by omega) x)).1
          obtain ⟨j, j1, j2, hI, hW⟩ := pickS_sound (E := E) hvw (fun t ht hd => h5.tm t (hkeep t ht) hd) (fun j _ _ _ id hid hd => h5.ob id hd) hx
          obtain ⟨ht, hk⟩ := told_get (shapes_get hsh j1 j2 x)
          exact ⟨.normal, headS A s j x, headD A j x, h3.post hW, hk hI, (head_stay ht).of hs⟩
        · exfalso
          have : ∀ {n i : Nat}, i + n ≤ A.n → ¬ pickS S.vw A s s' d x (fun i => I i x) n i := by
            intro n
            induction n with
            | zero => intro i _ h; simp only [pickS] at h
            | succ n ihn =>
              intro i hi h
              simp only [pickS] at h
              split at h
              · exact hA0 ⟨i, by omega, h.1⟩
              · exact ihn (by omega) h
          exact this (by omega) hx
      | exit id =>
        simp only [List.append_nil] at h4
        exact ⟨_, _, d, h3, h4, h5.of hs⟩
      | ret =>
        simp only [List.append_nil] at h4
        exact ⟨_, _, d, h3, h4, h5.of hs⟩
  | loop c ih =>
    intro lb s ws k h
    have hs : ∀ t, spares t (.loop c) = true → spares t c = true := fun t ht => by simpa [spares] using ht
    simp only [wpC] at h
    split at h
    · obtain ⟨m, e, s', d, h1, h2, h3⟩ := iterS_sound (fun s ws k h => ih lb s ws k h) _ _ _ _ h
      exact ⟨e, s', d, Tri.loop h1, h2, h3.of hs⟩
    · rename_i A hA
      obtain ⟨I, mu, ⟨x, hx⟩, hsh⟩ := h
      obtain ⟨j, j1, j2, hI, hW⟩ := pickS_sound (E := E) hvw (fun t ht _ => .inr rfl) (fun j _ _ _ id _ _ => .inr rfl) hx
      have key : ∀ (m : Nat) (j : Nat) (x : A.X) (s1 : St), j < A.n → I j x → mu j x ≤ m → Weak P E s1 (headS A s j x) → ∃ N e s' d, TriN P E c N s1 e s' ∧ k e s' (d ++ ws) ∧ Stay c s s' d := by
        intro m
        induction m with
        | zero =>
          intro j x s1 hj hI hm hW
          obtain ⟨ht, hbody⟩ := told_get (shapes_get hsh (Nat.zero_le j) (by omega) x)
          obtain ⟨e, s2, d, h1, h2, h5⟩ := ih _ _ _ _ (hbody hI)
          have hst := (head_stay (s0 := s) ht).trans' h5 (c := c) fun t ht => ⟨ht, ht⟩
          cases e with
          | normal =>
            obtain ⟨x', hx'⟩ := h2
            have : ∀ {n i : Nat}, pickS S.vw A s s2 (d ++ headD A j x) x' (fun i => I i x' ∧ mu i x' < mu j x) n i → False := by
              intro n
              induction n with
              | zero => intro i h; simp only [pickS] at h
              | succ n ihn =>
                intro i h
                simp only [pickS] at h
                split at h
                · have := h.1.2; omega
                · exact ihn h
            exact (this hx').elim
          | exit id => exact ⟨1, _, _, _, TriN.pre hW (TriN.out (n := 0) h1 (by intro e; cases e)), h2, hst⟩
          | ret => exact ⟨1, _, _, _, TriN.pre hW (TriN.out (n := 0) h1 (by intro e; cases e)), h2, hst⟩
        | succ m ihm =>
          intro j x s1 hj hI hm hW
          obtain ⟨ht, hbody⟩ := told_get (shapes_get hsh (Nat.zero_le j) (by omega) x)
          obtain ⟨e, s2, d, h1, h2, h5⟩ := ih _ _ _ _ (hbody hI)
          have hh := head_stay (s0 := s) ht
          have hst := hh.trans' h5 (c := c) fun t ht => ⟨ht, ht⟩
          cases e with
          | normal =>
            obtain ⟨x', hx'⟩ := h2
            obtain ⟨j', q1, q2, hI', hW'⟩ := pickS_sound (E := E) hvw (fun t htk hd => hst.tm t (told_keep ht t htk) hd) (fun j' _ _ _ id hid hd => hst.ob id hd) hx'
            obtain ⟨N, e, s', d', h3, h4, h6⟩ := ihm j' x' s2 (by omega) hI'.1 (by have := hI'.2; omega) hW'
            exact ⟨N + 1, e, s', d', TriN.pre hW (TriN.round h1 h3), h4, h6⟩
          | exit id => exact ⟨1, _, _, _, TriN.pre hW (TriN.out (n := 0) h1 (by intro e; cases e)), h2, hst⟩
          | ret => exact ⟨1, _, _, _, TriN.pre hW (TriN.out (n := 0) h1 (by intro e; cases e)), h2, hst⟩
      obtain ⟨N, e, s', d, h1, h2, h3⟩ := key _ j x s (by omega) hI (Nat.le_refl _) hW
      exact ⟨e, s', d, Tri.loop h1, h2, h3.of hs⟩
  | _ => intro lb s ws k h; simp [wpC] at h

theorem wpF_sound (hmix : P.follows .mixedOrders = true) (hvw : VwOk P S.vw) (hsp : SpecsOk P E S.sp) (hmk : ∀ n p, S.tag n p → p) {f : FuncId} {args : List V} {bo : List Ob} {Q : V → List Ob → List Ob → Prop} (h : wpF P E S f args bo Q) : ∃ r bo' ro, Con P E f args bo r bo' ro ∧ Q r bo' ro := by
  unfold wpF at h
  split at h
  · rename_i fn hfn
    split at h
    · rename_i c hb
      obtain ⟨e, s', d, h1, h2, _⟩ := wpC_sound hmix hvw hsp hmk _ _ _ _ _ h
      cases e with
      | normal =>
        obtain ⟨r, bo', ro, h3, h4⟩ := packS_sound hvw hmk h2
        exact ⟨r, bo', ro, Tri.con hfn hb h1 (.inl rfl) h3, h4⟩
      | ret =>
        obtain ⟨r, bo', ro, h3, h4⟩ := packS_sound hvw hmk h2
        exact ⟨r, bo', ro, Tri.con hfn hb h1 (.inr rfl) h3, h4⟩
      | exit id => exact h2.elim
    · exact h.elim
  · exact h.elim

/-- A function's contract out of what its body asks. -/
theorem specOk (hmix : P.follows .mixedOrders = true) (hvw : VwOk P S.vw) (hsp : SpecsOk P E S.sp) (hmk : ∀ n p, S.tag n p → p) {f : FuncId} (hok : callOk P f = true) {pt : PT} (h : ∀ args bo Q, pt args bo Q → wpF P E S f args bo Q) : SpecOk P E f pt :=
  ⟨hok, fun args bo Q hp => wpF_sound hmix hvw hsp hmk (h args bo Q hp)⟩

theorem SpecsOk.nil : SpecsOk P E [] := fun p h => by simp at h
theorem SpecsOk.cons {f : FuncId} {pt : PT} {l : List (FuncId × PT)} (h : SpecOk P E f pt) (k : SpecsOk P E l) : SpecsOk P E ((f, pt) :: l) := fun p hp => by
  simp only [List.mem_cons] at hp
  rcases hp with rfl | hp
  · exact h
  · exact k p hp
end
end Go.Vi

/- Plain data, and how the interpreter sees it. -/
namespace Go.Vi

def vwInt : View := ⟨Int, V.int .i64, 1, false⟩
def vwStr : View := ⟨ByteArray, V.str, 1, false⟩
def vwU8 : View := ⟨UInt8, fun b => V.int .u8 b.toNat, 1, false⟩

structure Pl where
  f : Int
  a : Int
  b : Int
  c : Int
  deriving DecidableEq

def Pl.v (p : Pl) : V := .agg [.int .i64 p.f, .int .i64 p.a, .int .i64 p.b, .int .i64 p.c]
def vwPl : View := ⟨Pl, Pl.v, 4, true⟩

attribute [reducible] vwInt vwStr vwU8 vwPl

/-- Two numbers. -/
structure I2 where
  x : Int
  y : Int
  deriving DecidableEq
def I2.v (p : I2) : V := .agg [.int .i64 p.x, .int .i64 p.y]
def vwI2 : View := ⟨I2, I2.v, 2, true⟩
attribute [reducible] vwI2

/-- Three numbers. -/
structure I3 where
  x : Int
  y : Int
  z : Int
  deriving DecidableEq
def I3.v (p : I3) : V := .agg [.int .i64 p.x, .int .i64 p.y, .int .i64 p.z]
def vwI3 : View := ⟨I3, I3.v, 3, true⟩
attribute [reducible] vwI3

/-- A normal. -/
structure Nrm where
  el : Int
  fa : Int
  mo : Int
  me : Int
  sp : Int
  deriving DecidableEq
def Nrm.v (p : Nrm) : V := .agg [.int .i64 p.el, .int .i64 p.fa, .int .i64 p.mo, .int .i64 p.me, .int .i64 p.sp]
def vwNrm : View := ⟨Nrm, Nrm.v, 5, true⟩
attribute [reducible] vwNrm

/-- A report. -/
structure Rep where
  kind : Int
  name : ByteArray
  time : Int
  pl : Pl
  rd : List I2
def Rep.v (p : Rep) : V := .agg [.int .i64 p.kind, .str p.name, .int .i64 p.time, .int .i64 p.pl.f, .int .i64 p.pl.a, .int .i64 p.pl.b, .int .i64 p.pl.c, .fs (vwI2.ls p.rd)]
def vwRep : View := ⟨Rep, Rep.v, 8, true⟩
attribute [reducible] vwRep

/-- A reader of numbers: its list, and how many it has read. -/
structure Rdr where
  l : List Int
  p : Int

def inR (x : Int) : Prop := -9223372036854775808 ≤ x ∧ x ≤ 9223372036854775807

structure Rdr.ok (r : Rdr) : Prop where
  lo : 0 ≤ r.p
  hi : r.p ≤ r.l.length
  len : r.l.length ≤ 2000
  el : ∀ x ∈ r.l, inR x

theorem BIF_in {b : Bool} {p q : Prop} (h1 : b = true → p) (h2 : b = false → q) : BIF b p q := by
  cases b with
  | true => exact h1 rfl
  | false => exact h2 rfl
theorem BIF_t {b : Bool} {p q : Prop} (h : b = true) (h1 : p) : BIF b p q := by subst h; exact h1
theorem BIF_f {b : Bool} {p q : Prop} (h : b = false) (h1 : q) : BIF b p q := by subst h; exact h1
theorem BIF_d {r : Prop} [Decidable r] {p q : Prop} (h1 : r → p) (h2 : ¬ r → q) : BIF (decide r) p q := BIF_in (fun h => h1 (of_decide_eq_true h)) (fun h => h2 (of_decide_eq_false h))
theorem BIF_n {b : Bool} {p q : Prop} (h1 : b = false → p) (h2 : b = true → q) : BIF (!b) p q := by
  cases b with
  | true => exact h2 rfl
  | false => exact h1 rfl
theorem BIF_e {a b : Int} {p q : Prop} (h1 : a = b → p) (h2 : a ≠ b → q) : BIF (a == b) p q := BIF_in (fun h => h1 (by simpa using h)) (fun h => h2 (by simpa using h))
theorem BIF_ne {a b : Int} {p q : Prop} (h1 : a ≠ b → p) (h2 : a = b → q) : BIF (a != b) p q := BIF_in (fun h => h1 (by simpa using h)) (fun h => h2 (by simpa using h))
theorem Qc {Q : V → List Ob → List Ob → Prop} {v v' : V} {a b : List Ob} (h : v = v') (hq : Q v' a b) : Q v a b := h ▸ hq
theorem b1 {x y : Bool} (h : x = true ↔ y = true) : V.bool x = V.bool y := by rw [Bool.eq_iff_iff.2 h]
theorem i1 {k : IntKind} {x y : Int} (h : x = y) : V.int k x = V.int k y := by rw [h]

theorem wrap_u8 (b : UInt8) : (0 : Int) ≤ b.toNat ∧ ((b.toNat : Nat) : Int) ≤ 255 := by
  have := b.toNat_lt
  omega
theorem wdiv {x k : Int} (h : 0 ≤ x) (h2 : x ≤ 1000000000000000) (hk : 1 ≤ k) : IntKind.i64.wrap (x.tdiv k) = x / k := by
  rw [Int.tdiv_eq_ediv_of_nonneg h]
  have h3 : x / k ≤ x := Int.ediv_le_self k h
  have h4 : 0 ≤ x / k := Int.ediv_nonneg h (by omega)
  exact wrap64 (by omega) (by omega)
theorem mod_t {x k : Int} (h : 0 ≤ x) : x.tmod k = x % k := Int.tmod_eq_emod_of_nonneg h
theorem wrap_in (x : Int) : inR (IntKind.i64.wrap x) := by
  unfold inR IntKind.wrap
  simp only [IntKind.signed, IntKind.bits]
  simp
  split <;> omega
theorem floor_ok {a b : Int} (hb : 0 < b) : (a.tmod b < 0 → a.tdiv b = a / b + 1) ∧ (¬ a.tmod b < 0 → a.tdiv b = a / b) := by
  have h1 := Int.tmod_add_mul_tdiv a b
  have h2 := Int.emod_add_mul_ediv a b
  have h3 := Int.emod_nonneg a (show b ≠ 0 by omega)
  have h4 := Int.emod_lt_of_pos a hb
  have h5 : -b < a.tmod b := by
    have := Int.lt_tmod_of_pos a hb; omega
  have h6 : a.tmod b < b := Int.tmod_lt_of_pos a hb
  constructor
  · intro h
    have e : b * (a.tdiv b - (a / b + 1)) = a % b - a.tmod b - b := by
      rw [Int.mul_sub, Int.mul_add, Int.mul_one]; omega
    have k1 : b * (a.tdiv b - (a / b + 1)) < b * 1 := by rw [e]; omega
    have k2 : b * (-1) < b * (a.tdiv b - (a / b + 1)) := by rw [e]; omega
    have := Int.lt_of_mul_lt_mul_left k1 (by omega)
    have := Int.lt_of_mul_lt_mul_left k2 (by omega)
    omega
  · intro h
    have e : b * (a.tdiv b - a / b) = a % b - a.tmod b := by
      rw [Int.mul_sub]; omega
    have k1 : b * (a.tdiv b - a / b) < b * 1 := by rw [e]; omega
    have k2 : b * (-1) < b * (a.tdiv b - a / b) := by rw [e]; omega
    have := Int.lt_of_mul_lt_mul_left k1 (by omega)
    have := Int.lt_of_mul_lt_mul_left k2 (by omega)
    omega
theorem div_bnd {a b : Int} (hb : 1 ≤ b) : (0 ≤ a → 0 ≤ a / b ∧ a / b ≤ a) ∧ (a < 0 → a ≤ a / b ∧ a / b < 0) := by
  refine ⟨fun h => ⟨Int.ediv_nonneg h (by omega), Int.ediv_le_self b h⟩, fun h => ⟨?_, Int.ediv_neg_of_neg_of_pos h (by omega)⟩⟩
  rw [Int.le_ediv_iff_mul_le (by omega)]
  have := Int.mul_le_mul_of_nonpos_left (a := a) (b := b) (c := 1) (by omega) hb
  omega
end Go.Vi

/- A law's arguments, as typed data; a nil slice is read like an empty one. -/
set_option linter.unusedSimpArgs false
namespace Go.Vi
open Go

/-- A nil slice as an empty one. -/
def den : V → V
  | .nl => .fs []
  | v => v

theorem RV.den {P : Program} {H : Hp} {β : Bt} {v : V} {u : Value} (h : RV P H β v u) : RV P H β (den v) u := by
  cases v <;> try exact h
  cases h
  exact .fs0 ..

theorem Con.den {P : Program} {E : Env} {f : FuncId} {xs : List V} {bo bo' ro : List Ob} {r : V} (h : Con P E f (xs.map Go.Vi.den) bo r bo' ro) : Con P E f xs bo r bo' ro := by
  intro H β w vs h1 h2 h3 h4
  refine h H β w vs h1 h2 h3 ⟨by rw [List.length_map]; exact h4.1, fun k y u hy hu => ?_⟩
  rw [List.getElem?_map] at hy
  cases hx : xs[k]? with
  | none => rw [hx] at hy; cases hy
  | some x =>
    rw [hx] at hy
    obtain rfl := Option.some.inj hy
    exact (h4.2 k x u hx hu).den

/-- What a function surely answers, whatever its spec lets us choose. -/
theorem SpecOk.con {P : Program} {E : Env} {f : FuncId} {pt : PT} (h : SpecOk P E f pt) {xs : List V} {r : V} (hp : pt (xs.map Go.Vi.den) [] fun r' _ _ => r' = r) : ∃ bo ro, Con P E f xs [] r bo ro := by
  obtain ⟨r', bo', ro, hc, rfl⟩ := h.2 _ _ _ hp
  exact ⟨bo', ro, hc.den⟩

theorem ls_of {w : View} {R : w.α → Prop} {g : List V → V} : ∀ {yss : List (List V)}, (∀ ys ∈ yss, ∃ a, g ys = w.enc a ∧ R a) → ∃ l : List w.α, yss.map g = w.ls l ∧ ∀ a ∈ l, R a
  | [], _ => ⟨[], rfl, fun a ha => by cases ha⟩
  | ys :: r, h => by
    obtain ⟨a, h1, h2⟩ := h ys (by simp)
    obtain ⟨l, h3, h4⟩ := ls_of (yss := r) fun z hz => h z (by simp [hz])
    exact ⟨a :: l, by rw [List.map_cons, h1, h3]; rfl, fun b hb => by
      rcases List.mem_cons.1 hb with rfl | hb
      · exact h2
      · exact h4 b hb⟩

theorem wf_i64 {z : Int} (h : (Lit.int .i64 z).wf = true) : -9223372036854775808 ≤ z ∧ z ≤ 9223372036854775807 := by
  simp only [Lit.wf, Bool.and_eq_true, decide_eq_true_eq] at h
  exact h

theorem wf_u8 {z : Int} (h : (Lit.int .u8 z).wf = true) : ∃ b : UInt8, z = b.toNat := by
  simp only [Lit.wf, Bool.and_eq_true, decide_eq_true_eq] at h
  have h1 : 0 ≤ z := h.1
  have h2 : z ≤ 255 := h.2
  refine ⟨UInt8.ofNat z.toNat, ?_⟩
  rw [UInt8.toNat_ofNat']
  omega

section
variable {P : Program} {ft : Nat} {t e : TypeId} {x : V}
theorem argInt {k : IntKind} (hu : P.underlying t = some (.int k)) (h : ArgT P (ft + 1) t x) : ∃ z, x = .int k z ∧ (Lit.int k z).wf = true := by
  obtain ⟨ys, rfl, h⟩ := h
  simp only [HasT, hu] at h
  obtain ⟨z, rfl, h⟩ := h
  exact ⟨z, by simp [isAggT, hu], h⟩
theorem argStr (hu : P.underlying t = some .string) (h : ArgT P (ft + 1) t x) : ∃ s : ByteArray, x = .str s ∧ s.size ≤ maxLen := by
  obtain ⟨ys, rfl, h⟩ := h
  simp only [HasT, hu] at h
  obtain ⟨z, rfl, h⟩ := h
  exact ⟨z, by simp [isAggT, hu], h⟩
theorem argBool (hu : P.underlying t = some .bool) (h : ArgT P (ft + 1) t x) : ∃ b, x = .bool b := by
  obtain ⟨ys, rfl, h⟩ := h
  simp only [HasT, hu] at h
  obtain ⟨z, rfl⟩ := h
  exact ⟨z, by simp [isAggT, hu]⟩
/-- A slice of the elements that a view tells. -/
theorem argSl {w : View} {R : w.α → Prop} (hu : P.underlying t = some (.slice e)) (he : ∀ y, ArgT P ft e y → ∃ a, y = w.enc a ∧ R a) (h : ArgT P (ft + 1) t x) : ∃ l : List w.α, den x = .fs (w.ls l) ∧ l.length ≤ maxLen ∧ ∀ a ∈ l, R a := by
  obtain ⟨ys, rfl, h⟩ := h
  simp only [HasT, hu] at h
  have hf : isAggT P t = false := by simp [isAggT, hu]
  rw [hf]
  rcases h with rfl | ⟨yss, rfl, hl, h⟩
  · exact ⟨[], rfl, Nat.zero_le _, fun a ha => by cases ha⟩
  · obtain ⟨l, h1, h2⟩ := ls_of (w := w) (R := R) (g := fun ys => if isAggT P e then .agg ys else ys.headD .junk) (yss := yss) fun ys hy => he _ ⟨ys, rfl, h ys hy⟩
    refine ⟨l, by show den (.fs _) = _; rw [h1]; rfl, ?_, h2⟩
    have := congrArg List.length h1
    rw [List.length_map] at this
    simp only [View.ls, List.length_map] at this
    omega
end
end Go.Vi

/- Lists: the first index, comparisons, search by halves. -/
set_option linter.unusedSimpArgs false
namespace Go.Vi
def idxG {α : Type} (p : α → Bool) (l : List α) : Int := match l.findIdx? p with | some i => (i : Int) | none => -1
theorem idxG_at {α : Type} {p : α → Bool} {l : List α} {i : Nat} {x : α} (hi : l[i]? = some x) (hp : p x = true) (hno : ∀ (j : Nat) (y : α), j < i → l[j]? = some y → p y = false) : idxG p l = i := by
  obtain ⟨hlt, he⟩ := List.getElem?_eq_some_iff.1 hi
  have : l.findIdx? p = some i := by
    rw [List.findIdx?_eq_some_iff_getElem]
    refine ⟨hlt, by rw [he]; exact hp, fun j hj => ?_⟩
    rw [hno j _ hj (List.getElem?_eq_getElem (by omega))]
    simp
  unfold idxG
  rw [this]
theorem idxG_no {α : Type} {p : α → Bool} {l : List α} (hno : ∀ (j : Nat) (y : α), l[j]? = some y → p y = false) : idxG p l = -1 := by
  have : l.findIdx? p = none := by
    rw [List.findIdx?_eq_none_iff]
    intro x hx
    obtain ⟨j, hj⟩ := List.mem_iff_getElem?.1 hx
    exact hno j x hj
  unfold idxG
  rw [this]
theorem idxG_any {α : Type} (p : α → Bool) (l : List α) : decide (idxG p l ≥ 0) = l.any p := by
  unfold idxG
  cases h : l.findIdx? p with
  | none =>
    rw [List.findIdx?_eq_none_iff] at h
    symm
    rw [show (decide ((-1 : Int) ≥ 0)) = false from rfl, List.any_eq_false]
    intro x hx
    rw [h x hx]
    simp
  | some i =>
    obtain ⟨h1, h2, _⟩ := List.findIdx?_eq_some_iff_getElem.1 h
    rw [show decide (((i : Nat) : Int) ≥ 0) = true by simp]
    symm
    rw [List.any_eq_true]
    exact ⟨_, List.getElem_mem h1, h2⟩
theorem any_at {α : Type} {p : α → Bool} {l : List α} {i : Nat} {x : α} (hi : l[i]? = some x) (hp : p x = true) : l.any p = true := List.any_eq_true.2 ⟨x, List.mem_of_getElem? hi, hp⟩
theorem any_no {α : Type} {p : α → Bool} {l : List α} (hno : ∀ (j : Nat) (y : α), l[j]? = some y → p y = false) : l.any p = false := by
  rw [List.any_eq_false]
  intro x hx
  obtain ⟨j, hj⟩ := List.mem_iff_getElem?.1 hx
  rw [hno j x hj]
  simp

def cmpI (a b : Int) : Int := if a < b then -1 else if a > b then 1 else 0
def orF : List Int → Int
  | [] => 0
  | x :: l => if x = 0 then orF l else x
theorem orF_at : ∀ {l : List Int} {i : Nat} {x : Int}, l[i]? = some x → x ≠ 0 → (∀ (j : Nat) (y : Int), j < i → l[j]? = some y → y = 0) → orF l = x
  | [], i, x, h, _, _ => by simp at h
  | y :: l, 0, x, h, hx, _ => by
    simp only [List.getElem?_cons_zero, Option.some.injEq] at h
    subst h
    unfold orF
    rw [if_neg hx]
  | y :: l, i + 1, x, h, hx, hno => by
    unfold orF
    rw [if_pos (hno 0 y (by omega) rfl)]
    exact orF_at (i := i) (by simpa using h) hx fun j z hj hz => hno (j + 1) z (by omega) (by simpa using hz)
theorem orF_no : ∀ {l : List Int}, (∀ (j : Nat) (y : Int), l[j]? = some y → y = 0) → orF l = 0
  | [], _ => rfl
  | y :: l, hno => by
    unfold orF
    rw [if_pos (hno 0 y rfl)]
    exact orF_no fun j z hz => hno (j + 1) z (by simpa using hz)
/-- Adjacent elements ascend. -/
def ascG {α : Type} (lt : α → α → Bool) : List α → Bool
  | a :: b :: r => lt a b && ascG lt (b :: r)
  | _ => true
theorem ascG_iff {α : Type} {lt : α → α → Bool} : ∀ (l : List α), ascG lt l = true ↔ ∀ (j : Nat) (a b : α), l[j]? = some a → l[j + 1]? = some b → lt a b = true
  | [] => by simp [ascG]
  | [c] => by simp [ascG]
  | c :: d :: r => by
    have ih := ascG_iff (lt := lt) (d :: r)
    simp only [ascG, Bool.and_eq_true, ih]
    constructor
    · rintro ⟨h1, h2⟩ j a b ha hb
      cases j with
      | zero => simp at ha hb; subst ha; subst hb; exact h1
      | succ j => exact h2 j a b (by simpa using ha) (by simpa using hb)
    · intro h
      exact ⟨h 0 c d rfl rfl, fun j a b ha hb => h (j + 1) a b (by simpa using ha) (by simpa using hb)⟩
theorem ascG_get {α : Type} {lt : α → α → Bool} (tr : ∀ a b c, lt a b = true → lt b c = true → lt a c = true) {l : List α} (h : ascG lt l = true) : ∀ (d j : Nat) (a b : α), l[j]? = some a → l[j + 1 + d]? = some b → lt a b = true
  | 0, j, a, b, ha, hb => (ascG_iff l).1 h j a b ha hb
  | d + 1, j, a, b, ha, hb => by
    have hlt := (List.getElem?_eq_some_iff.1 hb).1
    have hc : l[j + 1 + d]? = some l[j + 1 + d] := List.getElem?_eq_getElem (by omega)
    exact tr _ _ _ (ascG_get tr h d j a _ ha hc) ((ascG_iff l).1 h (j + 1 + d) _ b hc hb)
theorem ascG_lt {α : Type} {lt : α → α → Bool} (tr : ∀ a b c, lt a b = true → lt b c = true → lt a c = true) {l : List α} (h : ascG lt l = true) {i j : Nat} {a b : α} (hij : i < j) (ha : l[i]? = some a) (hb : l[j]? = some b) : lt a b = true :=
  ascG_get tr h (j - i - 1) i a b ha (by rw [show i + 1 + (j - i - 1) = j by omega]; exact hb)
theorem ascG_pw {α : Type} {lt : α → α → Bool} (tr : ∀ a b c, lt a b = true → lt b c = true → lt a c = true) {l : List α} (h : ascG lt l = true) : l.Pairwise fun a b => lt a b = true := by
  rw [List.pairwise_iff_getElem]
  intro i j hi hj hij
  exact ascG_lt tr h hij (List.getElem?_eq_getElem hi) (List.getElem?_eq_getElem hj)
theorem ascG_of_pw {α : Type} {lt : α → α → Bool} {l : List α} (h : l.Pairwise fun a b => lt a b = true) : ascG lt l = true := by
  rw [ascG_iff]
  intro j a b ha hb
  obtain ⟨h1, rfl⟩ := List.getElem?_eq_some_iff.1 ha
  obtain ⟨h2, rfl⟩ := List.getElem?_eq_some_iff.1 hb
  exact List.pairwise_iff_getElem.1 h j (j + 1) h1 h2 (by omega)
/-- What a search by halves finds: everything before is less, everything from there on is not. -/
structure Cut {α : Type} (f : α → Int) (l : List α) (i : Nat) : Prop where
  le : i ≤ l.length
  lt : ∀ (j : Nat) (x : α), j < i → l[j]? = some x → f x < 0
  ge : ∀ (j : Nat) (x : α), i ≤ j → l[j]? = some x → 0 ≤ f x
/-- The search may be made. -/
def Cuts {α : Type} (f : α → Int) (l : List α) : Prop := ∀ (i j : Nat) (x y : α), i ≤ j → l[i]? = some x → l[j]? = some y → 0 ≤ f x → 0 ≤ f y
def hitG {α : Type} (f : α → Int) (l : List α) (i : Nat) : Bool := match l[i]? with | some x => f x == 0 | none => false
theorem Cuts.lt {α : Type} {f : α → Int} {l : List α} (h : Cuts f l) {i j : Nat} {x y : α} (hij : i ≤ j) (hx : l[i]? = some x) (hy : l[j]? = some y) (hl : f y < 0) : f x < 0 := by
  have := h i j x y hij hx hy
  omega
theorem half {a b : Nat} (h : a + b ≤ 4000000000000) : IntKind.i64.wrap ((IntKind.u64.wrap ((a : Int) + (b : Int))).fdiv 2) = (((a + b) / 2 : Nat) : Int) := by
  have e : IntKind.u64.wrap ((a : Int) + (b : Int)) = (a : Int) + b := by
    unfold IntKind.wrap
    simp only [IntKind.signed, IntKind.bits]
    simp
    omega
  rw [e, Int.fdiv_eq_ediv_of_nonneg _ (by omega), wrap64 (by omega) (by omega)]
  omega
end Go.Vi

/- Readings of elements, in plain Lean. -/
set_option linter.unusedSimpArgs false
namespace Go.Vi
/-- A reading: x is the element, y is the value. -/
def bndT : List I2 := [⟨8000, 11000⟩, ⟨1800, 3300⟩, ⟨1800, 3300⟩, ⟨-1000, 1000⟩, ⟨-1000, 1000⟩, ⟨900, 1700⟩, ⟨2000, 3200⟩, ⟨2400, 3400⟩, ⟨2000, 3000⟩, ⟨4400, 6200⟩, ⟨2000, 2900⟩]
def dscF (c : Int) : I2 × Int := if 1 ≤ c ∧ c ≤ 11 then (bndT.getD (c - 1).toNat ⟨0, 0⟩, 0) else (⟨0, 0⟩, 4)
def chkF (r : I2) : Int := if (dscF r.x).2 = 0 then (if r.y < (dscF r.x).1.x ∨ r.y > (dscF r.x).1.y then 1 else 0) else 4
def ascF : List I2 → Bool
  | a :: b :: r => decide (a.x < b.x) && ascF (b :: r)
  | _ => true
def valF (l : List I2) : Int := if l.any (fun r => chkF r == 4) then 4 else if l.any (fun r => chkF r == 1) then 1 else if ascF l then 0 else 8
def findF (l : List I2) (c : Int) : Int × Bool := match l.find? (fun r => r.x == c) with | some r => (r.y, true) | none => (0, false)
def idxF (p : I2 → Bool) (l : List I2) : Int := match l.findIdx? p with | some i => (i : Int) | none => -1
theorem idx_at {p : I2 → Bool} {l : List I2} {i : Nat} {x : I2} (hi : l[i]? = some x) (hp : p x = true) (hno : ∀ (j : Nat) (y : I2), j < i → l[j]? = some y → p y = false) : idxF p l = i := by
  obtain ⟨hlt, he⟩ := List.getElem?_eq_some_iff.1 hi
  have : l.findIdx? p = some i := by
    rw [List.findIdx?_eq_some_iff_getElem]
    refine ⟨hlt, by rw [he]; exact hp, fun j hj => ?_⟩
    rw [hno j _ hj (List.getElem?_eq_getElem (by omega))]
    simp
  unfold idxF
  rw [this]
theorem idx_no {p : I2 → Bool} {l : List I2} (hno : ∀ (j : Nat) (y : I2), l[j]? = some y → p y = false) : idxF p l = -1 := by
  have : l.findIdx? p = none := by
    rw [List.findIdx?_eq_none_iff]
    intro x hx
    obtain ⟨j, hj⟩ := List.mem_iff_getElem?.1 hx
    exact hno j x hj
  unfold idxF
  rw [this]
theorem idx_any (p : I2 → Bool) (l : List I2) : decide (idxF p l ≥ 0) = l.any p := by
  unfold idxF
  cases h : l.findIdx? p with
  | none =>
    rw [List.findIdx?_eq_none_iff] at h
    symm
    rw [show (decide ((-1 : Int) ≥ 0)) = false from rfl, List.any_eq_false]
    intro x hx
    rw [h x hx]
    simp
  | some i =>
    obtain ⟨h1, h2, _⟩ := List.findIdx?_eq_some_iff_getElem.1 h
    rw [show decide (((i : Nat) : Int) ≥ 0) = true by simp]
    symm
    rw [List.any_eq_true]
    exact ⟨_, List.getElem_mem h1, h2⟩
theorem idx_find (l : List I2) (c : Int) : (idxF (fun r => r.x == c) l < 0 ∧ findF l c = (0, false)) ∨ (0 ≤ idxF (fun r => r.x == c) l ∧ idxF (fun r => r.x == c) l < l.length ∧ ∀ x, l[(idxF (fun r => r.x == c) l).toNat]? = some x → findF l c = (x.y, true)) := by
  cases h : l.findIdx? (fun r => r.x == c) with
  | none =>
    refine .inl ⟨by unfold idxF; rw [h]; show (-1 : Int) < 0; omega, ?_⟩
    rw [List.findIdx?_eq_none_iff] at h
    have : l.find? (fun r => r.x == c) = none := by
      rw [List.find?_eq_none]
      intro x hx
      rw [h x hx]
      simp
    unfold findF
    rw [this]
  | some i =>
    have e : idxF (fun r => r.x == c) l = i := by unfold idxF; rw [h]
    obtain ⟨h1, h2, h3⟩ := List.findIdx?_eq_some_iff_getElem.1 h
    rw [e]
    refine .inr ⟨by omega, by omega, fun x hx => ?_⟩
    rw [Int.toNat_natCast] at hx
    obtain ⟨_, hx⟩ := List.getElem?_eq_some_iff.1 hx
    have : l.find? (fun r => r.x == c) = some x := by
      rw [List.find?_eq_some_iff_getElem]
      refine ⟨by rw [← hx]; exact h2, i, h1, hx, fun j hj => ?_⟩
      have := h3 j hj
      simpa using this
    unfold findF
    rw [this]
end Go.Vi
namespace Go.Vi
theorem asc_iff : ∀ (l : List I2), ascF l = true ↔ ∀ (j : Nat) (a b : I2), l[j]? = some a → l[j + 1]? = some b → a.x < b.x
  | [] => by simp [ascF]
  | [c] => by simp [ascF]
  | c :: d :: r => by
    have ih := asc_iff (d :: r)
    simp only [ascF, Bool.and_eq_true, decide_eq_true_eq, ih]
    constructor
    · rintro ⟨h1, h2⟩ j a b ha hb
      cases j with
      | zero => simp at ha hb; subst ha; subst hb; exact h1
      | succ j => exact h2 j a b (by simpa using ha) (by simpa using hb)
    · intro h
      exact ⟨h 0 c d rfl rfl, fun j a b ha hb => h (j + 1) a b (by simpa using ha) (by simpa using hb)⟩

theorem dsc_2 {c : Int} (h : (dscF c).2 ≠ 0) : (dscF c).2 = 4 := by
  unfold dscF at h ⊢
  by_cases hc : 1 ≤ c ∧ c ≤ 11
  · rw [if_pos hc] at h; exact absurd rfl h
  · rw [if_neg hc]

theorem chk_cases (r : I2) : ((dscF r.x).2 ≠ 0 ∧ chkF r = 4) ∨ ((dscF r.x).2 = 0 ∧ ¬ ((dscF r.x).1.x ≤ r.y ∧ r.y ≤ (dscF r.x).1.y) ∧ chkF r = 1) ∨ ((dscF r.x).2 = 0 ∧ ((dscF r.x).1.x ≤ r.y ∧ r.y ≤ (dscF r.x).1.y) ∧ chkF r = 0) := by
  unfold chkF
  by_cases h : (dscF r.x).2 = 0
  · rw [if_pos h]
    by_cases h2 : r.y < (dscF r.x).1.x ∨ r.y > (dscF r.x).1.y
    · rw [if_pos h2]; exact .inr (.inl ⟨h, by omega, rfl⟩)
    · rw [if_neg h2]; exact .inr (.inr ⟨h, by omega, rfl⟩)
  · rw [if_neg h]; exact .inl ⟨h, rfl⟩

theorem val_4 {l : List I2} {i : Nat} {r : I2} (h : l[i]? = some r) (h4 : (dscF r.x).2 ≠ 0) : valF l = 4 := by
  unfold valF
  rw [if_pos]
  rw [List.any_eq_true]
  refine ⟨r, List.mem_of_getElem? h, ?_⟩
  rcases chk_cases r with h | h | h
  · simp [h.2]
  · exact absurd h.1 h4
  · exact absurd h.1 h4
theorem val_n4 {l : List I2} (h : ∀ (i : Nat) (r : I2), l[i]? = some r → (dscF r.x).2 = 0) : l.any (fun r => chkF r == 4) = false := by
  rw [List.any_eq_false]
  intro r hr
  obtain ⟨i, hi⟩ := List.mem_iff_getElem?.1 hr
  rcases chk_cases r with h1 | h1 | h1
  · exact absurd (h i r hi) h1.1
  · simp [h1.2.2]
  · simp [h1.2.2]
theorem val_1 {l : List I2} {i : Nat} {r : I2} (hk : ∀ (i : Nat) (r : I2), l[i]? = some r → (dscF r.x).2 = 0) (h : l[i]? = some r) (h1 : ¬ ((dscF r.x).1.x ≤ r.y ∧ r.y ≤ (dscF r.x).1.y)) : valF l = 1 := by
  unfold valF
  rw [val_n4 hk, if_neg (by simp), if_pos]
  rw [List.any_eq_true]
  refine ⟨r, List.mem_of_getElem? h, ?_⟩
  rcases chk_cases r with h | h | h
  · exact absurd (hk i r (by assumption)) h.1
  · simp [h.2.2]
  · exact absurd h.2.1 h1
theorem val_n1 {l : List I2} (hk : ∀ (i : Nat) (r : I2), l[i]? = some r → (dscF r.x).2 = 0) (h : ∀ (i : Nat) (r : I2), l[i]? = some r → ((dscF r.x).1.x ≤ r.y ∧ r.y ≤ (dscF r.x).1.y)) : valF l = if ascF l then 0 else 8 := by
  unfold valF
  rw [val_n4 hk, if_neg (by simp), if_neg]
  intro hh
  rw [List.any_eq_true] at hh
  obtain ⟨r, hr, hr2⟩ := hh
  obtain ⟨i, hi⟩ := List.mem_iff_getElem?.1 hr
  rcases chk_cases r with h1 | h1 | h1
  · exact h1.1 (hk i r hi)
  · exact h1.2.1 (h i r hi)
  · rw [h1.2.2] at hr2; cases hr2
end Go.Vi
