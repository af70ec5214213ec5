/- The functions of the part 'Law15L' do what they are said to do. -/
import Derived.Test.YtbnglnpgkcjlhaaDoorZLaw15LV
import Derived.Test.YtbnglnpgkcjlhaaDoorZLaw15P
set_option linter.unusedVariables false
namespace Go.Proofs.YtbnglnpgkcjlhaaDoor
open Go Go.Vi
set_option maxRecDepth 100000
set_option maxHeartbeats 1000000
theorem SLearned_ok : SpecOk Tryd.prog E 4 SLearnedPT := spec (.cons New_ok (.cons Minute_ok (.cons Placed_ok (.cons Learn_ok (.cons SCheck_ok (.cons SFar_ok (.cons KIn_ok (.cons Awake15_ok .nil)))))))) (by kernel_rfl) fun args bo Q h => by
  obtain ⟨l, rfl, rfl, hl, h⟩ := h
  rw [SLearned_vc]
  simp only [View.ls_len]
  have nn := fun c => (vws_ok 43 vwNrm rfl).fl_nvs c
  have hfl : ∀ c : List Nrm, (vwNrm.fl c).length = c.length * 5 := by
    intro c
    induction c with
    | nil => rfl
    | cons n c ih =>
      rw [View.fl_cons, List.length_append, ih, List.length_cons]
      have : (vwNrm.enc n).flat.length = 5 := rfl
      omega
  refine ⟨l, rfl, trivial, hl, fun r hr => ⟨r, trivial, rfl, hr, fun t r1 hr1 t0 t1 => ?_⟩⟩
  refine ⟨r1, 6, t, rfl, rfl, hr1, by omega, by omega, by omega, by omega, fun k r2 hr2 hk h9 => ⟨k, rfl, trivial, hk, h9, fun c hc => BIF_t (nn c) ?_⟩⟩
  have hcl := hc.cli.len
  refine ⟨c, by rw [List.drop_zero, ← hfl c, List.take_length], rfl, by rw [hfl]; omega, by omega, fun _ x => x.1 = c ∧ x.2 = c.map (fun n => { n with sp := 0 }), ⟨fun _ x => x.1 ≤ c.length ∧ x.2.1 = c ∧ Zeroed c x.2.2 x.1, fun _ x => c.length - x.1, ⟨(0, c, c), ⟨Nat.zero_le _, rfl, zer_0 c⟩, rfl, c, rfl, rfl, rfl, rfl, rfl, nn _, trivial⟩, ?_⟩, ?_⟩
  · rintro ⟨i, c', d⟩ hI
    dsimp only at hI ⊢
    obtain ⟨hi, rfl, hz⟩ := hI
    have hdl := zer_len hz hi
    refine BIF_d (fun e => ⟨⟨by omega, by omega⟩, d, i, rfl, by omega, by omega, fun n hn => ⟨⟨n.el, n.fa, n.mo, n.me, 0⟩, rfl, by omega, (i + 1, c', d.set i ⟨n.el, n.fa, n.mo, n.me, 0⟩), ⟨⟨by dsimp only; omega, rfl, zer_step hz hn (by omega)⟩, by dsimp only; omega⟩, rfl, rfl, by rw [List.length_set], rfl, nn _, trivial⟩⟩) (fun e => ⟨(c', d), ⟨rfl, ?_⟩, trivial, rfl, d, rfl, rfl, rfl, trivial⟩)
    have : i = c'.length := by omega
    subst this
    exact zer_all hz
  · rintro ⟨c', d⟩ hI
    dsimp only at hI ⊢
    obtain ⟨rfl, rfl⟩ := hI
    refine ⟨fun _ i => i ≤ k.length, fun _ i => k.length - i, ⟨0, Nat.zero_le _, rfl, trivial⟩, fun i hi => BIF_d (fun g => ⟨k, rfl, by omega, fun r hrk => ?_⟩) (fun _ => ⟨trivial, trivial, h⟩)⟩
    have hrm := List.mem_of_getElem? hrk
    have a1 := pl_sea hc.cv hk hrm
    have a2 := pl_sea (zer_cv hc.cv) hk hrm
    have a3 := lrn_sea hc hk hrm
    have hlen := (hk r hrm).len
    have b2 := sea_len (c := c'.map fun n => { n with sp := 0 }) (r := r)
    refine ⟨c', r, rfl, trivial, by omega, by omega, c'.map fun n => { n with sp := 0 }, r, rfl, trivial, by rw [List.length_map]; omega, by omega, BIF_ne (fun g => absurd a1 g) fun _ => BIF_ne (fun g => absurd a2 g) fun _ => BIF_d (fun g => by rw [a3] at g; simp at g) fun _ => ?_⟩
    refine ⟨fun _ j => j ≤ r.rd.length, fun _ j => r.rd.length - j, ⟨0, Nat.zero_le _, rfl, trivial⟩, fun j hj => BIF_d (fun g => ⟨r.rd, rfl, by omega, fun x hx => ?_⟩) (fun g => ⟨by omega, i + 1, ⟨by dsimp only; omega, by dsimp only; omega⟩, rfl, trivial⟩)⟩
    obtain ⟨f1, f2⟩ := lrn_far hc hk hrm (List.mem_of_getElem? hx)
    exact ⟨c'.map fun n => { n with sp := 0 }, r, x.x, rfl, trivial, by rw [List.length_map]; omega, by omega, BIF_n (fun g => by rw [f1] at g; cases g) fun _ => ⟨_, x.x, rfl, trivial, by omega, BIF_n (fun g => by rw [f2] at g; simp at g) fun _ => ⟨by omega, j + 1, ⟨by dsimp only; omega, by dsimp only; omega⟩, rfl, trivial⟩⟩⟩
end Go.Proofs.YtbnglnpgkcjlhaaDoor
