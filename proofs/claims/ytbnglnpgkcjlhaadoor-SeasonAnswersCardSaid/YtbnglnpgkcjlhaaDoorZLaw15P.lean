/- The functions of the part 'Law15' do what they are said to do. -/
import Derived.Test.YtbnglnpgkcjlhaaDoorZLaw15V
import Derived.Test.YtbnglnpgkcjlhaaDoorZLearnP
set_option linter.unusedVariables false
namespace Go.Proofs.YtbnglnpgkcjlhaaDoor
open Go Go.Vi
set_option maxRecDepth 100000
set_option maxHeartbeats 1000000
theorem Awake15_ok : SpecOk Tryd.prog E 8 Awake15PT := closed (n := 60) (by kernel_rfl)
theorem SNone_ok : SpecOk Tryd.prog E 6 SNonePT := spec (.cons New_ok (.cons Minute_ok (.cons DClimate_ok (.cons Report_ok (.cons DPlace_ok (.cons SCheck_ok (.cons RCValidate_ok (.cons Awake15_ok .nil)))))))) (by kernel_rfl) fun args bo Q h => by
  obtain ⟨l, rfl, rfl, hl, h⟩ := h
  rw [SNone_vc]
  simp only [View.ls_len]
  refine ⟨l, rfl, trivial, hl, fun r hr => ⟨r, trivial, rfl, hr, fun t r1 hr1 t0 t1 => ⟨r1, t, rfl, rfl, hr1, by omega, by omega, fun c r2 hr2 hc _ => ⟨r2, t, rfl, rfl, hr2, by omega, by omega, fun x r3 hr3 hx => ⟨r3, trivial, rfl, hr3, fun p r4 hr4 hp => ⟨c, { x with pl := p }, rfl, trivial, by have := hc.len; omega, by have := hx.len; dsimp only; omega, ?_⟩⟩⟩⟩⟩⟩
  have hxl := hx.len
  have hcl := hc.len
  have e : seaE c { x with pl := p } = 0 := sea_ok hc.cv hx.rd (isNF_ok hp).1 hx.t1 hx.t2
  refine BIF_ne (fun g => absurd e g) fun _ => ?_
  generalize hL : seaL c { x with pl := p } = L
  have hLl : L.length ≤ x.rd.length := by rw [← hL]; exact sea_len
  refine ⟨fun _ i => i ≤ L.length, fun _ i => L.length - i, ⟨0, Nat.zero_le _, rfl, trivial⟩, fun i hi => ?_⟩
  refine BIF_d (fun h1 => ⟨L, rfl, by omega, fun k hk => ?_⟩) (fun h1 => ?_)
  · rw [Int.toNat_natCast] at hk
    refine ⟨fun _ y => y.1 ≤ x.rd.length ∧ y.2 = (x.rd.take y.1).any (fun z => z.x == k), fun _ y => x.rd.length - y.1, ⟨(0, false), ⟨Nat.zero_le _, rfl⟩, rfl, trivial⟩, ?_⟩
    rintro ⟨j, b⟩ hI
    dsimp only at hI ⊢
    obtain ⟨hj, hb⟩ := hI
    refine BIF_d (fun h2 => ⟨x.rd, rfl, by omega, fun z hz => ?_⟩) (fun h2 => ?_)
    · rw [Int.toNat_natCast] at hz
      have ht : (x.rd.take (j + 1)).any (fun z => z.x == k) = (b || z.x == k) := by
        rw [List.take_add_one, hz, List.any_append, hb]
        simp
      refine BIF_in (fun g => ⟨by omega, (j + 1, true), ⟨⟨by dsimp only; omega, by dsimp only; rw [ht, g]; rfl⟩, by dsimp only; omega⟩, rfl, trivial⟩) (fun g => ⟨by omega, (j + 1, z.x == k), ⟨⟨by dsimp only; omega, by dsimp only; rw [ht, g]; rfl⟩, by dsimp only; omega⟩, rfl, trivial⟩)
    · have : j = x.rd.length := by omega
      subst this
      rw [List.take_length] at hb
      have hb1 : b = true := by
        rw [hb, List.any_eq_true]
        obtain ⟨_, z, hz, e1, _⟩ := sea_mem (show k ∈ seaL c { x with pl := p } by rw [hL]; exact List.mem_of_getElem? hk)
        exact ⟨z, hz, by simp [e1]⟩
      refine BIF_n (fun g => by rw [hb1] at g; cases g) (fun _ => BIF_d (fun h3 => ⟨by omega, L, rfl, by omega, fun a ha => BIF_d (fun h4 => ?_) (fun h4 => ⟨by omega, i + 1, ⟨by omega, by omega⟩, rfl, trivial⟩)⟩) (fun h3 => ⟨by omega, i + 1, ⟨by omega, by omega⟩, rfl, trivial⟩))
      rw [show ((i : Int) - 1).toNat = i - 1 by omega] at ha
      have := sea_lt (c := c) (r := { x with pl := p }) (show i - 1 < i by omega) (by rw [hL]; exact ha) (by rw [hL]; exact hk)
      omega
  · refine ⟨fun _ d => d = c.filter (fun n => n.fa != p.f), ⟨fun _ y => y.1 ≤ c.length ∧ y.2 = (c.take y.1).filter (fun n => n.fa != p.f), fun _ y => c.length - y.1, ⟨(0, []), ⟨Nat.zero_le _, rfl⟩, rfl, rfl, rfl, trivial⟩, ?_⟩, ?_⟩
    · rintro ⟨j, d⟩ hI
      dsimp only at hI ⊢
      obtain ⟨hj, hd⟩ := hI
      have hdl : d.length ≤ j := by
        have := List.length_filter_le (fun n : Nrm => n.fa != p.f) (c.take j)
        rw [List.length_take] at this
        rw [hd]; omega
      refine BIF_d (fun h2 => ⟨c, rfl, by omega, fun n hn => ?_⟩) (fun h2 => ?_)
      · rw [Int.toNat_natCast] at hn
        have ht : (c.take (j + 1)).filter (fun n : Nrm => n.fa != p.f) = d ++ (if n.fa != p.f then [n] else []) := by
          rw [List.take_add_one, hn, List.filter_append, hd]
          congr 1
          simp only [Option.toList, List.filter_cons, List.filter_nil]
        refine BIF_in (fun g => ⟨n, rfl, d, rfl, rfl, by simp only [List.length_cons, List.length_nil]; omega, by omega, (j + 1, d ++ [n]), ⟨⟨by dsimp only; omega, by dsimp only; rw [ht, if_pos g]⟩, by dsimp only; omega⟩, rfl, rfl, rfl, (vws_ok 43 vwNrm rfl).fl_nvs _, trivial⟩) (fun g => ⟨by omega, (j + 1, d), ⟨⟨by dsimp only; omega, by dsimp only; rw [ht, if_neg (by rw [g]; simp), List.append_nil]⟩, by dsimp only; omega⟩, rfl, rfl, rfl, (vws_ok 43 vwNrm rfl).fl_nvs _, trivial⟩)
      · have : j = c.length := by omega
        subst this
        rw [List.take_length] at hd
        exact ⟨d, hd, trivial, d, rfl, rfl, rfl, trivial⟩
    · rintro d rfl
      refine ⟨_, { x with pl := p }, rfl, trivial, by have := List.length_filter_le (fun n : Nrm => n.fa != p.f) c; omega, by dsimp only; omega, ?_⟩
      have e1 : seaE (c.filter fun n => n.fa != p.f) { x with pl := p } = 0 := sea_ok (cv_filter hc.cv) hx.rd (isNF_ok hp).1 hx.t1 hx.t2
      have e2 : seaL (c.filter fun n => n.fa != p.f) { x with pl := p } = [] := sea_none hp fun n hn => by simpa using (List.mem_filter.1 hn).2
      refine BIF_e (fun _ => ?_) (fun g => absurd e1 g)
      rw [e2]
      exact BIF_e (fun _ => ⟨trivial, trivial, h⟩) (fun g => absurd rfl g)
theorem SWider_ok : SpecOk Tryd.prog E 5 SWiderPT := spec (.cons New_ok (.cons Minute_ok (.cons DClimate_ok (.cons N_ok (.cons Report_ok (.cons DPlace_ok (.cons SCheck_ok (.cons RCValidate_ok (.cons KIn_ok (.cons Awake15_ok .nil)))))))))) (by kernel_rfl) fun args bo Q h => by
  obtain ⟨l, rfl, rfl, hl, h⟩ := h
  rw [SWider_vc]
  simp only [View.ls_len]
  refine ⟨l, rfl, trivial, hl, fun r hr => ⟨r, trivial, rfl, hr, fun t r1 hr1 t0 t1 => ⟨r1, t, rfl, rfl, hr1, by omega, by omega, fun c r2 hr2 hc hsp => ⟨c, rfl, by have := hc.len; omega, fun _ x => Wide c x.1 ∧ CliOk x.1 ∧ x.2.ok, ⟨fun _ x => x.1 ≤ c.length ∧ Wide c x.2.1 ∧ CliOk x.2.1 ∧ Spr0 x.2.1 x.1 ∧ x.2.2.ok, fun _ x => c.length - x.1, ⟨(0, c, r2), ⟨Nat.zero_le _, wide_rfl c, hc, fun j n _ hn => hsp n (List.mem_of_getElem? hn), hr2⟩, rfl, rfl, rfl, (vws_ok 43 vwNrm rfl).fl_nvs _, rfl, trivial⟩, ?_⟩, ?_⟩⟩⟩⟩
  · rintro ⟨i, d, q⟩ hI
    dsimp only at hI ⊢
    obtain ⟨hi, hw, hd, hs, hq⟩ := hI
    have hdl := wide_len hw
    have hcl := hc.len
    refine BIF_d (fun h1 => ⟨⟨by omega, by omega⟩, d, i, rfl, by omega, by omega, fun n hn => ⟨q, 100, rfl, rfl, hq, by omega, by unfold inR; omega, fun v q' hq' v0 v1 => ?_⟩⟩) (fun h1 => ⟨(d, q), ⟨hw, hd, hq⟩, trivial, d, rfl, rfl, rfl, rfl, trivial⟩)
    have nb := hd.bd n (List.mem_of_getElem? hn)
    have := nb.s1
    have := nb.s2
    have := hs i n (Nat.le_refl _) hn
    refine ⟨⟨by omega, by omega⟩, ⟨by omega, by omega⟩, d, i, rfl, by omega, by omega, fun n2 hn2 => ?_⟩
    rw [hn] at hn2
    obtain rfl := Option.some.inj hn2
    exact ⟨⟨n.el, n.fa, n.mo, n.me, n.sp + v⟩, rfl, by omega, (i + 1, d.set i ⟨n.el, n.fa, n.mo, n.me, n.sp + v⟩, q'), ⟨⟨by dsimp only; omega, wide_set hw hn ⟨rfl, rfl, rfl, rfl, by dsimp only; omega⟩, hd.set hn rfl rfl rfl nb.e1 nb.e2 (by dsimp only; omega) (by dsimp only; omega), spr0_set hs, hq'⟩, by dsimp only; omega⟩, rfl, by rw [List.length_set], rfl, (vws_ok 43 vwNrm rfl).fl_nvs _, rfl, trivial⟩
  · rintro ⟨d, q⟩ hI
    dsimp only at hI ⊢
    obtain ⟨hw, hd, hq⟩ := hI
    have hcl := hc.len
    have hdl := hd.len
    refine ⟨fun _ x => 0 ≤ x.1 ∧ x.1 ≤ 4 ∧ x.2.ok, fun _ x => (4 - x.1).toNat, ⟨(0, q), ⟨by omega, by omega, hq⟩, rfl, rfl, trivial⟩, ?_⟩
    rintro ⟨i, q⟩ hI
    dsimp only at hI ⊢
    obtain ⟨i0, i4, hq⟩ := hI
    refine BIF_d (fun h1 => ⟨q, t, rfl, rfl, hq, by omega, by omega, fun x q1 hq1 hx => ⟨q1, trivial, rfl, hq1, fun p q2 hq2 hp => ?_⟩⟩) (fun h1 => ⟨trivial, trivial, h⟩)
    have hxl := hx.len
    have key : ∀ pl : Pl, okP pl = true → seaE c { x with pl := pl } = 0 ∧ seaE d { x with pl := pl } = 0 := fun pl hpl => ⟨sea_ok hc.cv hx.rd hpl hx.t1 hx.t2, sea_ok hd.cv hx.rd hpl hx.t1 hx.t2⟩
    have hin : ∀ (r : Rep), seaE c r = 0 → ∀ (j : Nat) (k : Int), (seaL d r)[j]? = some k → (seaL c r).contains k = true := fun r e j k hk => by
      rw [List.contains_iff_mem]
      exact wide_sea hw e (List.mem_of_getElem? hk)
    refine BIF_d (fun h2 => ⟨q2, c.length, rfl, rfl, hq2, by omega, by unfold inR; omega, fun v q3 hq3 v0 v1 => ⟨c, rfl, ⟨by omega, by omega⟩, fun n hn => ⟨c, { x with pl := ⟨n.fa, 280, 280, 280⟩ }, rfl, trivial, by omega, by dsimp only; omega, d, { x with pl := ⟨n.fa, 280, 280, 280⟩ }, rfl, trivial, by omega, by dsimp only; omega, ?_⟩⟩⟩) (fun h2 => ⟨c, { x with pl := p }, rfl, trivial, by omega, by dsimp only; omega, d, { x with pl := p }, rfl, trivial, by omega, by dsimp only; omega, ?_⟩)
    · have nb := hc.bd n (List.mem_of_getElem? hn)
      obtain ⟨e1, e2⟩ := key ⟨n.fa, 280, 280, 280⟩ (ok_face nb.f1 nb.f2)
      have b1 := sea_len (c := c) (r := { x with pl := ⟨n.fa, 280, 280, 280⟩ })
      have b2 := sea_len (c := d) (r := { x with pl := ⟨n.fa, 280, 280, 280⟩ })
      have hin := hin _ e1
      dsimp only at b1 b2
      refine BIF_ne (fun g => absurd e1 g) fun _ => BIF_ne (fun g => absurd e2 g) fun _ => ?_
      refine ⟨fun _ j => j ≤ (seaL d { x with pl := ⟨n.fa, 280, 280, 280⟩ }).length, fun _ j => (seaL d { x with pl := ⟨n.fa, 280, 280, 280⟩ }).length - j, ⟨0, Nat.zero_le _, rfl, trivial⟩, fun j hj => BIF_d (fun h3 => ⟨_, rfl, by omega, fun k hk => ⟨_, k, rfl, trivial, by omega, BIF_n (fun g => ?_) (fun _ => ⟨by omega, j + 1, ⟨by dsimp only; omega, by dsimp only; omega⟩, rfl, trivial⟩)⟩⟩) (fun h3 => ⟨by omega, (i + 1, q3), ⟨⟨by dsimp only; omega, by dsimp only; omega, hq3⟩, by dsimp only; omega⟩, rfl, rfl, trivial⟩)⟩
      rw [hin _ k hk] at g
      cases g
    · obtain ⟨e1, e2⟩ := key p (isNF_ok hp).1
      have b1 := sea_len (c := c) (r := { x with pl := p })
      have b2 := sea_len (c := d) (r := { x with pl := p })
      have hin := hin _ e1
      dsimp only at b1 b2
      refine BIF_ne (fun g => absurd e1 g) fun _ => BIF_ne (fun g => absurd e2 g) fun _ => ?_
      refine ⟨fun _ j => j ≤ (seaL d { x with pl := p }).length, fun _ j => (seaL d { x with pl := p }).length - j, ⟨0, Nat.zero_le _, rfl, trivial⟩, fun j hj => BIF_d (fun h3 => ⟨_, rfl, by omega, fun k hk => ⟨_, k, rfl, trivial, by omega, BIF_n (fun g => ?_) (fun _ => ⟨by omega, j + 1, ⟨by dsimp only; omega, by dsimp only; omega⟩, rfl, trivial⟩)⟩⟩) (fun h3 => ⟨by omega, (i + 1, q2), ⟨⟨by dsimp only; omega, by dsimp only; omega, hq2⟩, by dsimp only; omega⟩, rfl, rfl, trivial⟩)⟩
      rw [hin _ k hk] at g
      cases g
end Go.Proofs.YtbnglnpgkcjlhaaDoor
