/- Vi, part 23: forgetting and renaming. -/
import Derived.Test.YtbiifkfehfapkaaDoorVi22
namespace Go.Vi

/-- A value under other names: g tells the old name of a new one. -/
inductive RN (g : Id → Option Id) : V → V → Prop
  | junk (v) : RN g v .junk
  | nv (v) : v.nv = true → RN g v v
  | nl : RN g .nl .nl
  | e0 : RN g .e0 .e0
  | lp (a b off) : g b = some a → RN g (.lp a off) (.lp b off)
  | sl (a b off n e x) : g b = some a → RN g (.sl a off n e x) (.sl b off n e x)
  | agg (l l') : l'.length = l.length → (∀ (k : Nat) y y', l[k]? = some y → l'[k]? = some y' → RN g y y') → RN g (.agg l) (.agg l')
  | tup (l l') : l'.length = l.length → (∀ (k : Nat) y y', l[k]? = some y → l'[k]? = some y' → RN g y y') → RN g (.tup l) (.tup l')
  | fn (f l l') : l'.length = l.length → (∀ (k : Nat) y y', l[k]? = some y → l'[k]? = some y' → RN g y y') → RN g (.fn f l) (.fn f l')

section
variable {P : Program} {H : Hp} {β β' : Bt} {g : Id → Option Id}

theorem RV_nv {v : V} {u : Value} (h : RV P H β v u) : v.nv = true → ∀ β', RV P H β' v u := by
  induction h with
  | junk => intro h; simp [V.nv] at h
  | int => intro _ β'; exact .int ..
  | bool => intro _ β'; exact .bool ..
  | str => intro _ β'; exact .str ..
  | agg β l cs hn _ ih => intro h β'; exact .agg _ _ _ hn fun k y u hy hu => ih k y u hy hu (nvs_get (by simpa [V.nv] using h) _ _ hy) β'
  | tup β l cs hn _ ih => intro h β'; exact .tup _ _ _ hn fun k y u hy hu => ih k y u hy hu (nvs_get (by simpa [V.nv] using h) _ _ hy) β'
  | lp => intro h; simp [V.nv] at h
  | sl => intro h; simp [V.nv] at h
  | nl => intro h; simp [V.nv] at h
  | e0 => intro h; simp [V.nv] at h
  | fs0 => intro _ β'; exact .fs0 ..
  | fs β l b off es cap arr ty fr h1 h2 h3 h4 h5 _ => intro _ β'; exact .fs _ _ _ _ _ _ _ _ _ h1 h2 h3 h4 h5
  | fp β cells off b base arr ty fr h2 h3 h4 _ => intro _ β'; exact .fp _ _ _ _ _ _ _ _ h2 h3 h4
  | fn => intro h; simp [V.nv] at h

theorem RN.rv (hβ : ∀ b a x, g b = some a → β a = some x → β' b = some x) {v v' : V} (h : RN g v v') : ∀ {u : Value}, RV P H β v u → RV P H β' v' u := by
  induction h with
  | junk v => intro u _; exact .junk ..
  | nv v hv => intro u h; exact RV_nv h hv β'
  | nl => intro u h; cases h; exact .nl ..
  | e0 => intro u h; cases h; exact .e0 ..
  | lp a b off hg => intro u h; cases h; rename_i h1; exact .lp _ _ _ _ _ (hβ _ _ _ hg h1)
  | sl a b off n e x hg => intro u h; cases h with | sl _ _ _ _ _ _ b' sz es cap h1 h2 h3 h4 h5 => exact .sl _ _ _ _ _ _ _ _ _ _ (hβ _ _ _ hg h1) h2 h3 h4 h5
  | agg l l' hl _ ih =>
    intro u h
    cases h with
    | agg _ _ cs hn hk =>
      refine .agg _ _ _ (by rw [hn, hl]) fun k y' u hy' hu => ?_
      have hlt : k < l.length := by rw [← hl]; exact (List.getElem?_eq_some_iff.1 hy').1
      exact ih k l[k] y' (List.getElem?_eq_getElem hlt) hy' (hk k _ u (List.getElem?_eq_getElem hlt) hu)
  | tup l l' hl _ ih =>
    intro u h
    cases h with
    | tup _ _ cs hn hk =>
      refine .tup _ _ _ (by rw [hn, hl]) fun k y' u hy' hu => ?_
      have hlt : k < l.length := by rw [← hl]; exact (List.getElem?_eq_some_iff.1 hy').1
      exact ih k l[k] y' (List.getElem?_eq_getElem hlt) hy' (hk k _ u (List.getElem?_eq_getElem hlt) hu)
  | fn f l l' hl _ ih =>
    intro u h
    cases h with
    | fn _ _ _ cs hn hk =>
      refine .fn _ _ _ _ (by rw [hn, hl]) fun k y' u hy' hu => ?_
      have hlt : k < l.length := by rw [← hl]; exact (List.getElem?_eq_some_iff.1 hy').1
      exact ih k l[k] y' (List.getElem?_eq_getElem hlt) hy' (hk k _ u (List.getElem?_eq_getElem hlt) hu)

end

def getT : List (Nat × V) → Nat → V
  | [], _ => .junk
  | (k, v) :: l, t => if t = k then v else getT l t

def getN : List (Nat × Nat) → Nat → Nat
  | [], _ => 0
  | (k, v) :: l, t => if t = k then v else getN l t

def getO : List (Id × Ob) → Id → Option Ob
  | [], _ => none
  | (k, v) :: l, t => if t = k then some v else getO l t

/-- A state, told: its slots, its counts, its objects. -/
def mkSt (n : Nat) (T : List (Nat × V)) (X : List (Nat × Nat)) (O : List (Id × Ob)) : St := { n := n, tm := getT T, nx := getN X, ob := getO O }

def getI : List (Id × Id) → Id → Option Id
  | [], _ => none
  | (k, v) :: l, t => if t = k then some v else getI l t

/-- The old name of a new one; G: pairs of a new and an old name. -/
def oldOf (G : List (Id × Id)) : Id → Option Id
  | .bor k => some (.bor k)
  | .own t k => getI G (.own t k)
  | .ret _ => none

def newOf (G : List (Id × Id)) : Id → Option Id
  | .bor k => some (.bor k)
  | .own t k => getI (G.map fun p => (p.2, p.1)) (.own t k)
  | .ret _ => none

def isOwnB : Id → Bool
  | .own _ _ => true
  | _ => false

def distinctI : List Id → Bool
  | [] => true
  | a :: l => !(l.any fun b => decide (a = b)) && distinctI l

/-- The names are fit: own names only, no old one twice, no new one twice, all new ones counted. -/
def fitG (G : List (Id × Id)) (X : List (Nat × Nat)) : Bool :=
  (G.all fun p => isOwnB p.1 && isOwnB p.2) && distinctI (G.map (·.1)) && distinctI (G.map (·.2)) && G.all fun p => match p.1 with | .own t k => decide (k < getN X t) | _ => false

theorem getI_mem : ∀ {G : List (Id × Id)} {b a : Id}, getI G b = some a → (b, a) ∈ G
  | [], b, a, h => by simp [getI] at h
  | (k, v) :: l, b, a, h => by
    simp only [getI] at h
    split at h
    · rename_i e; obtain rfl := Option.some.inj h; subst e; simp
    · exact List.mem_cons_of_mem _ (getI_mem h)

theorem distinctI_out {a : Id} {l : List Id} (h : distinctI (a :: l) = true) : a ∉ l ∧ distinctI l = true := by
  simp only [distinctI, Bool.and_eq_true, Bool.not_eq_true', List.any_eq_false, decide_eq_true_eq] at h
  exact ⟨fun hm => h.1 a hm rfl, h.2⟩

theorem getI_of_mem : ∀ {G : List (Id × Id)} {b a : Id}, distinctI (G.map (·.1)) = true → (b, a) ∈ G → getI G b = some a
  | [], b, a, _, h => by simp at h
  | (k, v) :: l, b, a, hd, h => by
    obtain ⟨h1, h2⟩ := distinctI_out (by simpa using hd)
    simp only [getI]
    simp only [List.mem_cons, Prod.mk.injEq] at h
    rcases h with ⟨rfl, rfl⟩ | h
    · simp
    · have : b ≠ k := by
        rintro rfl
        exact h1 (List.mem_map.2 ⟨_, h, rfl⟩)
      rw [if_neg this]
      exact getI_of_mem h2 h

theorem mem_inj : ∀ {G : List (Id × Id)} {b b' a : Id}, distinctI (G.map (·.2)) = true → (b, a) ∈ G → (b', a) ∈ G → b = b'
  | [], _, _, _, _, h, _ => by simp at h
  | (k, v) :: l, b, b', a, hd, h, h' => by
    obtain ⟨h1, h2⟩ := distinctI_out (by simpa using hd)
    simp only [List.mem_cons, Prod.mk.injEq] at h h'
    rcases h with ⟨rfl, rfl⟩ | h
    · rcases h' with ⟨rfl, _⟩ | h'
      · rfl
      · exact absurd (List.mem_map.2 ⟨_, h', rfl⟩) h1
    · rcases h' with ⟨rfl, rfl⟩ | h'
      · exact absurd (List.mem_map.2 ⟨_, h, rfl⟩) h1
      · exact mem_inj h2 h h'

theorem getO_mem : ∀ {O : List (Id × Ob)} {b : Id} {a : Ob}, getO O b = some a → (b, a) ∈ O
  | [], b, a, h => by simp [getO] at h
  | (k, v) :: l, b, a, h => by
    simp only [getO] at h
    split at h
    · rename_i e; obtain rfl := Option.some.inj h; subst e; simp
    · exact List.mem_cons_of_mem _ (getO_mem h)

/-- Less is said, under other names. -/
theorem weak_mk {P : Program} {E : Env} {s : St} {n : Nat} {T : List (Nat × V)} {X : List (Nat × Nat)} {O : List (Id × Ob)} {G : List (Id × Id)} (hn : s.n = n) (hG : fitG G X = true)
    (hT : ∀ t v, (t, v) ∈ T → RN (oldOf G) (s.tm t) v)
    (hO : ∀ b o', (b, o') ∈ O → ∃ a o, oldOf G b = some a ∧ s.ob a = some o ∧ o'.ty = o.ty ∧ o'.fz = o.fz ∧ o'.cells.length = o.cells.length ∧ ∀ (k : Nat) y y', o.cells[k]? = some y → o'.cells[k]? = some y' → RN (oldOf G) y y') :
    Weak P E s (mkSt n T X O) := by
  intro w0 H0 β0 hB H β a w hs
  simp only [fitG, Bool.and_eq_true, List.all_eq_true] at hG
  obtain ⟨⟨⟨g1, g2⟩, g3⟩, g4⟩ := hG
  let β' : Bt := fun b => (oldOf G b).bind β
  have hβ : ∀ b a x, oldOf G b = some a → β a = some x → β' b = some x := fun b a x h1 h2 => by simp only [β', h1, Option.bind_some, h2]
  have hβ' : ∀ b x, β' b = some x → ∃ a, oldOf G b = some a ∧ β a = some x := fun b x h => by simpa only [β', Option.bind_eq_some_iff] using h
  have hinj : ∀ b b' a, oldOf G b = some a → oldOf G b' = some a → b = b' := by
    intro b b' a h h'
    cases b with
    | ret k => simp [oldOf] at h
    | bor k =>
      simp only [oldOf, Option.some.injEq] at h
      subst h
      cases b' with
      | ret k => simp [oldOf] at h'
      | bor k' => simp only [oldOf, Option.some.injEq] at h'; exact h'.symm
      | own t k' =>
        have := g1 _ (getI_mem (by simpa only [oldOf] using h'))
        simp [isOwnB] at this
    | own t k =>
      cases b' with
      | ret k => simp [oldOf] at h'
      | bor k' =>
        simp only [oldOf, Option.some.injEq] at h'
        subst h'
        have := g1 _ (getI_mem (by simpa only [oldOf] using h))
        simp [isOwnB] at this
      | own t' k' => exact mem_inj g3 (getI_mem (by simpa only [oldOf] using h)) (getI_mem (by simpa only [oldOf] using h'))
  refine ⟨β', hs.n.trans hn, hs.df, fun t => ?_, fun t k hk => ?_, ⟨fun b o' ho' => ?_, fun b b' o o' bl sz sz' ho ho' hb hb' => ?_, hs.rel.hp⟩, fun b x hx => ?_, fun id x hx => ?_, hs.hH, hs.hfr, hs.keep⟩
  · have key : ∀ T' : List (Nat × V), (∀ t v, (t, v) ∈ T' → RN (oldOf G) (s.tm t) v) → RV P H β' (getT T' t) (a.tmps.getD t undef) := by
      intro T'
      induction T' with
      | nil => intro _; exact .junk ..
      | cons p T' ih =>
        intro hT
        obtain ⟨k, v⟩ := p
        simp only [getT]
        split
        · rename_i e; subst e; exact (hT t v (by simp)).rv hβ (hs.tm t)
        · exact ih fun t v hm => hT t v (by simp [hm])
    exact key T hT
  · cases hx : β' (.own t k) with
    | none => rfl
    | some x =>
      obtain ⟨a', h1, _⟩ := hβ' _ _ hx
      have := g4 _ (getI_mem (by simpa only [oldOf] using h1))
      simp only [decide_eq_true_eq] at this
      simp only [mkSt] at hk
      omega
  · obtain ⟨a', o, h1, h2, h3, h4, h5, h6⟩ := hO b o' (getO_mem ho')
    obtain ⟨bl, sz, arr, fr, p1, p2, p3, p4, p5, p6, p7⟩ := (hs.rel.obj _ _ h2).out
    refine ⟨bl, sz, arr, fr, hβ _ _ _ h1 p1, by rw [h3]; exact p2, p3, p4, ⟨by rw [h5]; exact p5.1, fun k y' u hy' hu => ?_⟩, by rw [h4, h3]; exact p6, by rw [h4]; exact p7⟩
    have hlt : k < o.cells.length := by rw [← h5]; exact (List.getElem?_eq_some_iff.1 hy').1
    exact (h6 k _ y' (List.getElem?_eq_getElem hlt) hy').rv hβ (p5.2 k _ u (List.getElem?_eq_getElem hlt) hu)
  · obtain ⟨a1, o1, h1, h2, _⟩ := hO b o (getO_mem ho)
    obtain ⟨a2, o2, k1, k2, _⟩ := hO b' o' (getO_mem ho')
    obtain ⟨c1, q1, q2⟩ := hβ' _ _ hb
    obtain ⟨c2, r1, r2⟩ := hβ' _ _ hb'
    rw [h1] at q1; obtain rfl := Option.some.inj q1
    rw [k1] at r1; obtain rfl := Option.some.inj r1
    have := hs.rel.inj _ _ _ _ _ _ _ h2 k2 q2 r2
    subst this
    exact hinj _ _ _ h1 k1
  · obtain ⟨a', h1, h2⟩ := hβ' _ _ hx
    rcases hs.dom _ _ h2 with h3 | ⟨t, k, rfl, h4⟩
    · obtain ⟨k, rfl⟩ := hB _ _ h3
      have : b = .bor k := hinj _ _ _ h1 rfl
      subst this
      exact .inl h3
    · cases b with
      | ret k => simp [oldOf] at h1
      | bor k' => simp [oldOf] at h1
      | own t' k' => exact .inr ⟨t', k', rfl, h4⟩
  · obtain ⟨k, rfl⟩ := hB _ _ hx
    exact hβ _ _ _ rfl (hs.hb _ _ hx)
end Go.Vi
