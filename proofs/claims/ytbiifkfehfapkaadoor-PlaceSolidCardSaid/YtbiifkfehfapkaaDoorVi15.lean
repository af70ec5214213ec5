/- Vi, part 15: a region that draws its order comes to what the order of the text comes to. -/
import Derived.Test.YtbiifkfehfapkaaDoorVi14
set_option linter.unusedVariables false
set_option linter.unusedSimpArgs false
namespace Go.Vi
section
variable {P : Program} {E : Env} {C : Oracle} {ops : Array Oper} {w0 : World} {H0 : Hp} {β0 : Bt}

theorem effOf_lt {o : Oper} {s : St} {e : Eff} (h : effOf P E C ops o s = some e) {d : Nat} (hd : o.dst = some d) : d < s.n := by
  unfold effOf at h
  split at h
  · simp at h
  · rename_i hn
    have : dstOk s o.dst = true := by simpa using hn
    simpa [dstOk, hd] using this

theorem appD_congr {D D' : Nat → Bool} : ∀ (es : List Eff) (k : Nat) (s : St), (∀ j, j < es.length → D (k + j) = D' (k + j)) → appD D k es s = appD D' k es s
  | [], _, _, _ => rfl
  | e :: es, k, s, h => by
    simp only [appD]
    have h0 := h 0 (by simp)
    simp only [Nat.add_zero] at h0
    simp only [h0]
    exact appD_congr es (k + 1) _ fun j hj => by have := h (j + 1) (by simp; omega); rwa [show k + (j + 1) = k + 1 + j by omega] at this

theorem tmpsApart_get (h : tmpsApart ops = true) {i j : Nat} (hm : (i, j) ∈ loosePairs ops) {x y : Oper} (hx : ops[i]? = some x) (hy : ops[j]? = some y) : x.apart ops y = true ∧ y.apart ops x = true := by
  simp only [tmpsApart, Bool.and_eq_true, List.all_eq_true] at h
  have := h.2 (i, j) hm
  simp only [hx, hy, Bool.and_eq_true] at this
  exact this

theorem edges_get (h : tmpsApart ops = true) {j : Nat} {o : Oper} (ho : ops[j]? = some o) {e : Edge} (he : e ∈ o.after) (hb : Region.binds .any e = true) : e.on < j := by
  simp only [tmpsApart, edgesOk, Bool.and_eq_true, List.all_eq_true] at h
  have hj : (o, j) ∈ ops.toList.zipIdx := by
    have : ops.toList.zipIdx[j]? = some (o, j) := by simp [List.getElem?_zipIdx, ho]
    exact List.mem_of_getElem? this
  have := h.1 (o, j) hj
  simp only [Array.all_eq_true_iff_forall_mem] at this
  have := this e he
  simpa [hb] using this

/-- Two operations that no edge orders leave each other alone. -/
structure Free (ops : Array Oper) (i j : Nat) (x y : Oper) (a b : Eff) : Prop where
  d1 : ∀ d, y.dst = some d → d ∉ x.looksAt ops
  d2 : ∀ d, x.dst = some d → y.dst ≠ some d
  d3 : ∀ d, x.dst = some d → d ∉ y.looksAt ops
  u1 : ∀ id, id ∈ b.up.map (·.1) → id ∉ a.rd
  u2 : ∀ id, id ∈ a.up.map (·.1) → id ∉ b.up.map (·.1)

theorem free_of {es : List Eff} (hT : tmpsApart ops = true) (hA : effsApart es (loudPairs ops) = true) {i j : Nat} (hm : (i, j) ∈ loosePairs ops) {x y : Oper} (hx : ops[i]? = some x) (hy : ops[j]? = some y) {a b : Eff} (ha : es[i]? = some a) (hb : es[j]? = some b)
    (hqa : touches x.op = false → a.up = [] ∧ a.rd = []) (hqb : touches y.op = false → b.up = [] ∧ b.rd = []) : Free ops i j x y a b ∧ Free ops j i y x b a := by
  obtain ⟨p1, p2⟩ := tmpsApart_get hT hm hx hy
  obtain ⟨a1, a2, a3⟩ := Oper.apart_spec p1
  obtain ⟨b1, b2, b3⟩ := Oper.apart_spec p2
  have hu : (∀ id, id ∈ b.up.map (·.1) → id ∉ a.rd) ∧ (∀ id, id ∈ a.up.map (·.1) → id ∉ b.up.map (·.1)) ∧ (∀ id, id ∈ a.up.map (·.1) → id ∉ b.rd) := by
    cases htx : touches x.op with
    | false => obtain ⟨q1, q2⟩ := hqa htx; simp [q1, q2]
    | true =>
      cases hty : touches y.op with
      | false => obtain ⟨q1, q2⟩ := hqb hty; simp [q1, q2]
      | true =>
        have hl : (i, j) ∈ loudPairs ops := by
          unfold loudPairs
          simp [List.mem_filter, hm, hx, hy, htx, hty]
        simp only [effsApart, List.all_eq_true] at hA
        have := hA (i, j) hl
        simp only [ha, hb, effApart, Bool.and_eq_true] at this
        obtain ⟨r1, r2⟩ := this
        refine ⟨fun id hi => apart_not r2 hi, fun id hi hj => apart_not r1 hi (List.mem_append.2 (.inr hj)), fun id hi hj => apart_not r1 hi (List.mem_append.2 (.inl hj))⟩
  exact ⟨⟨a3, a2, a1, hu.1, hu.2.1⟩, ⟨b3, b2, b1, hu.2.2, fun id hi hj => hu.2.1 id hj hi⟩⟩

theorem draw_any (hC : OkC P E C) (hB : Bor β0) (hG : GOK P E H0) {s sn : St} {es : List Eff} (hes : effs P E C ops ops.toList s = some (es, sn)) (hT : tmpsApart ops = true) (hA : effsApart es (loudPairs ops) = true)
    {Q : Exit → Act → World → Prop} (hQ : ∀ H' β' a' w', Sim P E w0 H0 β0 H' β' sn a' w' → Q .normal a' w') :
    ∀ (fuel : Nat) (listed : Array Bool) (H : Hp) (β : Bt) (a : Act) (w : World), listed.size = ops.size →
      (∀ (j : Nat) (o : Oper), ops[j]? = some o → listed.getD j false = true → ∀ e ∈ o.after, Region.binds .any e = true → listed.getD e.on false = true) →
      ((List.range ops.size).filter fun j => !listed.getD j false).length ≤ fuel →
      Sim P E w0 H0 β0 H β (appD (fun j => listed.getD j false) 0 es s) a w → wpAny P .any ops Q fuel listed a w := by
  obtain ⟨el, esn, eff⟩ := effs_spec hes
  have hlen : es.length = ops.size := by simpa using el
  have hop : ∀ j, j < ops.size → ∃ o e, ops[j]? = some o ∧ es[j]? = some e ∧ effOf P E C ops o (appD (fun k => decide (k < j)) 0 es s) = some e := by
    intro j hj
    obtain ⟨e, h1, h2⟩ := eff j ops[j] (by simp [hj])
    exact ⟨ops[j], e, by simp [hj], h1, h2⟩
  have hq : ∀ (j : Nat) (o : Oper) (e : Eff), ops[j]? = some o → es[j]? = some e → touches o.op = false → e.up = [] ∧ e.rd = [] := by
    intro j o e h1 h2 ht
    have hj : j < ops.size := (Array.getElem?_eq_some_iff.1 h1).1
    obtain ⟨o', e', p1, p2, p3⟩ := hop j hj
    rw [h1] at p1; cases p1
    rw [h2] at p2; cases p2
    exact effOf_quiet ht p3
  have hdst : ∀ (j : Nat) (o : Oper) (e : Eff), ops[j]? = some o → es[j]? = some e → e.dst = o.dst ∧ ∀ d, o.dst = some d → d < s.n := by
    intro j o e h1 h2
    have hj : j < ops.size := (Array.getElem?_eq_some_iff.1 h1).1
    obtain ⟨o', e', p1, p2, p3⟩ := hop j hj
    rw [h1] at p1; cases p1
    rw [h2] at p2; cases p2
    exact ⟨effOf_dst p3, fun d hd => by have := effOf_lt p3 hd; rwa [appD_n] at this⟩
  have hnone : ∀ (listed : Array Bool), listed.size = ops.size → Region.ready .any ops listed = [] → ∀ j, j < ops.size → listed.getD j false = true := by
    intro listed hsz hr
    have key : ∀ n, ∀ j, j ≤ n → j < ops.size → listed.getD j false = true := by
      intro n
      induction n with
      | zero =>
        intro j hj hlt
        have hj0 : j = 0 := by omega
        subst hj0
        cases hl : listed.getD 0 false with
        | true => rfl
        | false =>
          have : 0 ∈ Region.ready .any ops listed := mem_ready.2 ⟨by
            have h0 : listed[0]? = some listed[0] := by simp [hsz, hlt]
            rw [Array.getD_eq_getD_getElem?, h0] at hl ⊢; simpa using hl, ops[0], by simp [hlt], fun e he hb => by have := edges_get hT (j := 0) (o := ops[0]) (by simp [hlt]) he hb; omega⟩
          rw [hr] at this; simp at this
      | succ n ih =>
        intro j hj hlt
        by_cases hjn : j ≤ n
        · exact ih j hjn hlt
        · cases hl : listed.getD j false with
          | true => rfl
          | false =>
            have : j ∈ Region.ready .any ops listed := mem_ready.2 ⟨by
              have h0 : listed[j]? = some (listed[j]'(by omega)) := by simp
              rw [Array.getD_eq_getD_getElem?, h0] at hl ⊢; simpa using hl, ops[j], by simp [hlt], fun e he hb => by
                have := edges_get hT (j := j) (o := ops[j]) (by simp [hlt]) he hb
                exact ih e.on (by omega) (by omega)⟩
            rw [hr] at this; simp at this
    exact fun j hj => key j j (Nat.le_refl _) hj
  have hfin : ∀ (listed : Array Bool), (∀ j, j < ops.size → listed.getD j false = true) → appD (fun j => listed.getD j false) 0 es s = sn := by
    intro listed h
    rw [esn]
    exact appD_congr es 0 s fun j hj => by simp only [Nat.zero_add]; exact h j (by omega)
  intro fuel
  induction fuel with
  | zero =>
    intro listed H β a w hsz hcl hcnt hs
    have hall : ∀ j, j < ops.size → listed.getD j false = true := by
      intro j hj
      cases hl : listed.getD j false with
      | true => rfl
      | false =>
        have : j ∈ (List.range ops.size).filter fun j => !listed.getD j false := List.mem_filter.2 ⟨List.mem_range.2 hj, by simp only [hl]; rfl⟩
        have hp := List.length_pos_of_mem this
        omega
    refine ⟨?_, hQ _ _ _ _ (by rw [← hfin listed hall]; exact hs)⟩
    apply List.eq_nil_iff_forall_not_mem.2
    intro j hj
    obtain ⟨h1, o, h2, _⟩ := mem_ready.1 hj
    have hlt : j < ops.size := (Array.getElem?_eq_some_iff.1 h2).1
    have h0 : listed[j]? = some (listed[j]'(by omega)) := by simp
    have h3 := hall j hlt
    rw [Array.getD_eq_getD_getElem?, h0] at h1 h3
    simp at h1 h3
    rw [h1] at h3; simp at h3
  | succ fuel ih =>
    intro listed H β a w hsz hcl hcnt hs
    refine ⟨fun hr => hQ _ _ _ _ (by rw [← hfin listed (hnone listed hsz hr)]; exact hs), fun i hi => ?_⟩
    obtain ⟨h1, oi, hoi, hedge⟩ := mem_ready.1 hi
    have hilt : i < ops.size := (Array.getElem?_eq_some_iff.1 hoi).1
    have hDi : listed.getD i false = false := by
      have h0 : listed[i]? = some (listed[i]'(by omega)) := by simp
      rw [Array.getD_eq_getD_getElem?, h0] at h1 ⊢; simpa using h1
    obtain ⟨o', ei, p1, hei, heff⟩ := hop i hilt
    rw [hoi] at p1; cases p1
    -- who stands where
    have hord : ∀ j, j < ops.size → j ≠ i → (listed.getD j false = decide (j < i)) ∨ (∀ o f, ops[j]? = some o → es[j]? = some f → Free ops i j oi o ei f ∧ Free ops j i o oi f ei) := by
      intro j hj hne
      by_cases hlt : j < i
      · cases hb : ((Region.before ops).getD i 0).testBit j with
        | true =>
          left
          have := before_spec (fun k => listed.getD k false = true) hcl i oi hoi hedge j hb
          rw [this]; simp [hlt]
        | false =>
          right
          intro o f ho hf
          have hm := loose_mem hlt hilt hb
          have := free_of hT hA hm ho hoi hf hei (hq j o f ho hf) (hq i oi ei hoi hei)
          exact ⟨this.2, this.1⟩
      · have hgt : i < j := by omega
        cases hb : ((Region.before ops).getD j 0).testBit i with
        | true =>
          left
          cases hl : listed.getD j false with
          | false => simp [hlt]
          | true =>
            have hoj : ops[j]? = some ops[j] := by simp [hj]
            have := before_spec (fun k => listed.getD k false = true) hcl j ops[j] hoj (hcl j ops[j] hoj hl) i hb
            rw [hDi] at this; simp at this
        | false =>
          right
          intro o f ho hf
          exact free_of hT hA (loose_mem hgt hj hb) hoi ho hei hf (hq i oi ei hoi hei) (hq j o f ho hf)
    have hesj : ∀ (j : Nat) (f : Eff), es[j]? = some f → j < ops.size ∧ ∃ o, ops[j]? = some o ∧ f.dst = o.dst ∧ ∀ d, o.dst = some d → d < s.n := by
      intro j f hf
      have hj : j < ops.size := by rw [← hlen]; exact (List.getElem?_eq_some_iff.1 hf).1
      have ho : ops[j]? = some ops[j] := by simp [hj]
      obtain ⟨q1, q2⟩ := hdst j ops[j] f ho hf
      exact ⟨hj, ops[j], ho, q1, q2⟩
    -- the operation's doing is the text's
    have heff' : effOf P E C ops oi (appD (fun j => listed.getD j false) 0 es s) = some ei := by
      refine effOf_congr heff (by rw [appD_n, appD_n]) (fun t ht => ?_) ?_ (fun id hid => ?_)
      · refine appD_tm _ _ t es 0 s s rfl fun j f hf hd => ?_
        simp only [Nat.zero_add]
        obtain ⟨hj, o, ho, q1, q2⟩ := hesj j f hf
        by_cases hji : j = i
        · subst hji; simp [hDi]
        · rcases hord j hj hji with h | h
          · exact h
          · exact absurd ht ((h o f ho hf).1.d1 t (by rw [← q1]; exact hd))
      · rw [appD_n]
        refine appD_nx _ _ _ es 0 s s rfl fun j f hf hd => ?_
        simp only [Nat.zero_add]
        obtain ⟨hj, o, ho, q1, q2⟩ := hesj j f hf
        by_cases hji : j = i
        · subst hji; simp [hDi]
        · rcases hord j hj hji with h | h
          · exact h
          · exfalso
            rw [q1] at hd
            cases hdi : oi.dst with
            | none => rw [hdi] at hd; have := q2 _ hd; simp at this
            | some d =>
              rw [hdi] at hd
              exact (h o f ho hf).1.d2 d hdi hd
      · refine appD_ob _ _ id es 0 s s rfl fun j f hf hd => ?_
        simp only [Nat.zero_add]
        obtain ⟨hj, o, ho, q1, q2⟩ := hesj j f hf
        by_cases hji : j = i
        · subst hji; simp [hDi]
        · rcases hord j hj hji with h | h
          · exact h
          · exact absurd hid ((h o f ho hf).1.u1 id hd)
    refine eff_sound hC hB hG hs hoi heff' fun H' β' a' w' hs' => ?_
    have hD' : ∀ j, (listed.setIfInBounds i true).getD j false = (listed.getD j false || decide (j = i)) := by
      intro j
      by_cases hji : j = i
      · subst hji
        simp [hsz, hilt]
      · rw [getD_set_ne false (fun e => hji e.symm)]
        simp [hji]
    refine ih _ H' β' a' w' (by simpa using hsz) ?_ ?_ ?_
    · intro j o ho hl e he hb
      rw [hD'] at hl ⊢
      simp only [Bool.or_eq_true, decide_eq_true_eq] at hl ⊢
      rcases hl with hl | rfl
      · exact .inl (hcl j o ho hl e he hb)
      · rw [hoi] at ho; cases ho
        exact .inl (hedge e he hb)
    · have hsub : ((List.range ops.size).filter fun j => !(listed.setIfInBounds i true).getD j false) = ((List.range ops.size).filter fun j => !listed.getD j false).filter fun j => decide (j ≠ i) := by
        rw [List.filter_filter]
        apply List.filter_congr
        intro j _
        rw [hD']
        cases listed.getD j false <;> simp
      have hmem : i ∈ (List.range ops.size).filter fun j => !listed.getD j false := List.mem_filter.2 ⟨List.mem_range.2 hilt, by simp only [hDi]; rfl⟩
      have hlt : (((List.range ops.size).filter fun j => !listed.getD j false).filter fun j => decide (j ≠ i)).length < ((List.range ops.size).filter fun j => !listed.getD j false).length :=
        List.length_filter_lt_length_iff_exists.2 ⟨i, hmem, by simp⟩
      rw [hsub]
      omega
    · have hfun : (fun j => (listed.setIfInBounds i true).getD j false) = (fun j => listed.getD j false || decide (j = i)) := funext hD'
      rw [hfun, appD_add hDi es 0 s ⟨i, by simp, hei⟩ ?_]
      · exact hs'
      · intro j f hf hd hij
        simp only [Nat.zero_add] at hd hij
        obtain ⟨hj, o, ho, q1, q2⟩ := hesj j f hf
        rcases hord j hj (by omega) with h | h
        · rw [hd] at h; simp at h; omega
        · have hfree := (h o f ho hf).1
          have hei' := (hdst i oi ei hoi hei).1
          exact ⟨fun d hd => by rw [hei'] at hd; rw [q1]; exact hfree.d2 d hd, hfree.u2⟩

theorem rep_false (n j : Nat) : (Array.replicate n false).getD j false = false := by
  rw [Array.getD_eq_getD_getElem?, Array.getElem?_replicate]
  split <;> rfl

/-- A region. -/
theorem region_sound (hmix : P.follows .mixedOrders = true) (hC : OkC P E C) (hB : Bor β0) (hG : GOK P E H0) {H : Hp} {β : Bt} {s s' : St} {a : Act} {w : World} (h : Sim P E w0 H0 β0 H β s a w) {id : Nat} {draw : Bool} {fuel : Nat} {e : Ex}
    (hr : evC P E C fuel (.region id ops draw) s = some (e, s')) {Q : Exit → Act → World → Prop} (hQ : ∀ H' β' a' w', Sim P E w0 H0 β0 H' β' s' a' w' → Q .normal a' w') : e = .normal ∧ (Code.region id ops draw).wp P Q a w := by
  simp only [evC] at hr
  cases draw with
  | false =>
    simp only [Bool.false_eq_true, if_false] at hr
    obtain ⟨s1, h1, h2⟩ := Option.map_eq_some_iff.1 hr
    simp only [Prod.mk.injEq] at h2
    obtain ⟨rfl, rfl⟩ := h2
    refine ⟨rfl, wp_region ?_⟩
    have := runOps_sound (ops := ops) hC hB hG ops.size 0 H β s s1 a w (Nat.zero_add _) h (by simpa using h1) hQ
    rwa [← List.range_eq_range'] at this
  | true =>
    simp only [if_true] at hr
    split at hr
    · rename_i es s1 he
      split at hr
      · rename_i hc
        simp only [Bool.and_eq_true] at hc
        simp only [Option.some.injEq, Prod.mk.injEq] at hr
        obtain ⟨rfl, rfl⟩ := hr
        refine ⟨rfl, wp_region_any hmix ?_⟩
        refine draw_any hC hB hG he hc.1 hc.2 hQ ops.size _ H β a _ (by simp) ?_ ?_ ?_
        · intro j o _ hl
          rw [rep_false] at hl; simp at hl
        · have := List.length_filter_le (fun j => !(Array.replicate ops.size false).getD j false) (List.range ops.size)
          simpa using this
        · have : ∀ (es : List Eff) (k : Nat) (s : St), appD (fun j => (Array.replicate ops.size false).getD j false) k es s = s := by
            intro es
            induction es with
            | nil => intro k s; rfl
            | cons e es ih =>
              intro k s
              simp only [appD]
              have hf := rep_false ops.size k
              simp only [hf, Bool.false_eq_true, if_false]
              exact ih _ _
          rw [this]
          exact h.drew
      · simp at hr
    · simp at hr
end
end Go.Vi
