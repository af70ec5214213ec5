/- Vi, part 18: the frame of a law that answers true and changes nothing. -/
import Derived.Test.YtbiifkfehfapkaaDoorVi17
namespace Go.Vi
open Go.ChangeShapes Go.WideShapes

def ArgT (P : Program) (ft : Nat) (t : TypeId) (x : V) : Prop := ∃ ys, x = (if isAggT P t then .agg ys else ys.headD .junk) ∧ HasT P ft t ys

def ArgsT (P : Program) (ft : Nat) : List TypeId → List V → Prop
  | [], xs => xs = []
  | t :: r, xs => ∃ x q, xs = x :: q ∧ ArgT P ft t x ∧ ArgsT P ft r q

section
variable {H : Type} {enc : TypeId × Value → H} {P : Program} {w w' : World} {sp : Nat → Bool} {held : Bool} {ft : Nat}

theorem args_known {base : Nat} : ∀ {ts : List TypeId} {vs : List Value} {ds : List (DataW H)} {p : List MemPlace}, DataW.TrodAll enc P w 0 sp held ts vs ds p →
    (∀ (j : Nat) t v, ts[j]? = some t → vs[j]? = some v → Value.okWide P w .any base t v) → (∀ t ∈ ts, okT P ft t = true) → RL P (hpOf w) (ds.map dv) vs ∧ ArgsT P ft ts (ds.map dv)
  | [], _, _, _, h, _, _ => by
    obtain ⟨rfl, rfl, rfl⟩ := trodAll_nil h
    simp [RL, ArgsT]
  | t :: ts, _, _, _, h, hv, hk => by
    obtain ⟨v, vs, d, ds, a, b, rfl, rfl, rfl, h1, h2⟩ := trodAll_cons h
    obtain ⟨q1, q2, q3⟩ := arg_known (hk t (by simp)) (hv 0 t v rfl rfl) h1
    obtain ⟨r1, r2⟩ := args_known h2 (fun j t v ht hv' => hv (j + 1) t v (by simpa using ht) (by simpa using hv')) (fun t ht => hk t (by simp [ht]))
    refine ⟨?_, ?_⟩
    · rw [List.map_cons]
      exact (RL.one q1).append r1
    · rw [List.map_cons]
      exact ⟨_, _, rfl, ⟨dvs d, by rw [← q3]; rfl, q2⟩, r2⟩

theorem args_stay (hl : laidOutB P = true) (hsame : ∀ b, b < w.heap.size → w'.heap[b]? = w.heap[b]?) : ∀ {ts : List TypeId} {vs : List Value} {ds : List (DataW H)} {p : List MemPlace}, DataW.TrodAll enc P w 0 (fun _ => true) true ts vs ds p →
    (∀ t ∈ ts, P.readableRec t = true ∧ t < P.types.size) → (∀ x ∈ p, x.block < w.heap.size) → DataW.TrodAll enc P w' 0 (fun b => decide (b < w.heap.size)) true ts vs ds p
  | [], _, _, _, h, _, _ => by
    obtain ⟨rfl, rfl, rfl⟩ := trodAll_nil h
    exact rfl
  | t :: ts, _, _, _, h, hk, hp => by
    obtain ⟨v, vs, d, ds, a, b, rfl, rfl, rfl, h1, h2⟩ := trodAll_cons h
    refine ⟨a, b, WideElems.Trod_stays hl (hk t (by simp)).1 (hk t (by simp)).2 h1 (fun x hx => ?_) (fun x hx => by simpa using hp x (by simp [hx])), args_stay hl hsame h2 (fun t ht => hk t (by simp [ht])) (fun x hx => hp x (by simp [hx])), rfl⟩
    have hlt := hp x (by simp [hx])
    cases x with
    | cell b off => simp only [World.sameAt, World.cell?]; rw [hsame b hlt]
    | map b => exact hsame b hlt

/-- What the laid variables say of the tables. -/
theorem laid_gok {E : Env} {laid : List (String × DataW Unit)} (h : laidMet P laid w)
    (hgl : ∀ g c, E.gl g = some c → ∃ n d, (n, d) ∈ laid ∧ P.globalNamed n = some g ∧ c = dvs d ∧ ∃ t, (P.globals[g]?).map (·.type) = some t ∧ okT P ft t = true) : GOK P E (hpOf w) := by
  intro g c hc
  obtain ⟨n, d, hm, hg, rfl, t, ht, hk⟩ := hgl g c hc
  obtain ⟨ps, hv, _, _⟩ := h
  have key : ∀ (l : List (String × DataW Unit)) (ps : List MemPlace), DataW.LaidVars P w l ps → (n, d) ∈ l →
      ∃ cs fuel p, w.var? P n = some cs ∧ DataW.trod (fun _ => ()) P w 0 (fun _ => true) false fuel t cs.toList = some (d, p) := by
    intro l
    induction l with
    | nil => intro ps _ hm; simp at hm
    | cons x r ih =>
      intro ps hv hm
      obtain ⟨n', d'⟩ := x
      obtain ⟨g', t', cs, fuel, p, q, h1, h2, h3, h4, h5, _⟩ := hv
      simp only [List.mem_cons, Prod.mk.injEq] at hm
      rcases hm with ⟨rfl, rfl⟩ | hm
      · rw [hg] at h1
        obtain rfl := Option.some.inj h1
        rw [ht] at h2
        obtain rfl := Option.some.inj h2
        exact ⟨cs, fuel, p, h3, h4⟩
      · exact ih q h5 hm
  obtain ⟨cs, fuel, p, h3, h4⟩ := key laid ps hv hm
  have k := trod_known ft fuel t _ d p hk h4
  simp only [World.var?, hg, Option.bind_some] at h3
  split at h3
  · rename_i arr ty fr heq
    obtain rfl := Option.some.inj h3
    refine ⟨arr, ty, fr, heq, ?_, fun i y u hy hu => k.rl.2 i y u hy (by simpa using hu)⟩
    have := k.rl.1
    simp only [Array.length_toList] at this
    omega
  · cases h3

theorem bool_results {f : Func} {tb : TypeId} (hres : f.resultTypes = #[tb]) (htb : P.underlying tb = some .bool) (base : Nat) (sp : Nat → Bool) (hd b : Bool) :
    DataW.TrodAll enc P w base sp hd f.resultTypes.toList ((Value.bool b).resultList f.resultTypes.size) [.lit (.bool b)] [] := by
  rw [hres]
  exact ⟨[], [], ⟨1, by simp [DataW.trod, Value.cells, htb]⟩, rfl, rfl⟩

/-- THE FRAME: a law that the interpreter answers with true. -/
theorem law_core {E : Env} {f : FuncId} {fn : Func} {s : ChangeSpec} {apart fresh : Bool} {W : World} {base : Nat} {args : Array Value} {ds gs : List (DataW H)} {before : List MemPlace} {tb : TypeId}
    (hl : laidOutB P = true) (hrow : ∀ t ∈ fn.params.toList, P.readableRec t = true ∧ t < P.types.size) (hft : ∀ t ∈ fn.params.toList, okT P ft t = true)
    (hres : fn.resultTypes = #[tb]) (htb : P.underlying tb = some .bool) (hvars : s.vars = [])
    (hval : ∀ (j : Nat) t v, fn.params[j]? = some t → args[j]? = some v → Value.okWide P W .any base t v)
    (hW : DataW.Whole enc P fn.params.toList s.vars apart W args.toList ds gs before)
    (hs : ∀ ds : List (DataW H), ds.length = fn.params.size → s.fn H ds = { results := [.lit (.bool true)], args := ds })
    (hgok : GOK P E (hpOf W))
    (hlaw : ∀ xs, ArgsT P ft fn.params.toList xs → ∃ bo ro, Con P E f xs [] (.bool true) bo ro) :
    Calls P f args W fun e W' => ∃ v, e = .returned v ∧ s.post enc P fn apart fresh false false W args v W' := by
  have hW' := hW
  obtain ⟨p, q, hA, hV, rfl, hfz, hnd⟩ := hW
  rw [hvars] at hV
  obtain ⟨rfl, rfl⟩ : gs = [] ∧ q = [] := by
    cases gs with
    | nil => exact ⟨rfl, hV⟩
    | cons g r => exact absurd hV (by intro h; cases h)
  obtain ⟨k1, k2⟩ := args_known hA (fun j t v ht hv => hval j t v (by simpa using ht) (by simpa using hv)) hft
  obtain ⟨bo, ro, hcon⟩ := hlaw _ k2
  have hrel : Rel P (hpOf W) noB (obB []) W := by
    refine ⟨fun id o ho => ?_, fun id id' o o' b sz sz' ho => ?_, fun b x hx => hx⟩
    · cases id <;> simp [obB] at ho
    · cases id <;> simp [obB] at ho
  refine (hcon (hpOf W) noB W args hgok (fun id x hx => by simp [noB] at hx) hrel ⟨by simpa using k1.1, fun k y u hy hu => k1.2 k y u hy (by simpa using hu)⟩).mono fun e W' ⟨v, H', β', he, hp⟩ => ?_
  subst he
  have hv : v = .bool true := by
    have := hp.rv
    cases this
    rfl
  subst hv
  have hsame : ∀ b, b < W.heap.size → W'.heap[b]? = W.heap[b]? := fun b hb => hp.keep.blk b hb (by rintro ⟨k, sz, hk⟩; simp [noB] at hk)
  have hlen : ds.length = fn.params.size := by
    have : ∀ {ts : List TypeId} {xs : List V}, ArgsT P ft ts xs → xs.length = ts.length := by
      intro ts
      induction ts with
      | nil => intro xs h; simp only [ArgsT] at h; simp [h]
      | cons t r ih => intro xs h; obtain ⟨x, q, rfl, _, h2⟩ := h; simp [ih h2]
    simpa using this k2
  refine ⟨_, rfl, ds, [], p ++ [], [], p, [], hW', ?_, ?_, ?_, ?_, fun h => by cases h⟩
  · rw [List.append_nil, hs ds hlen]
    exact bool_results hres htb _ _ _ _
  · rw [List.append_nil, hs ds hlen]
    exact args_stay hl hsame hA hrow (fun x hx => hW'.lt x (by simpa using hx))
  · rw [List.append_nil, hs ds hlen, hvars]
    exact rfl
  · refine World.keptBut_mono (fun _ h => h.elim) (World.keptBut_none_iff.2 ⟨hp.keep.os, hp.keep.output, fun i hi => ?_⟩)
    exact hsame i hi
end
end Go.Vi
