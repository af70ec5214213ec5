/- Arguments of the chapter's laws: climates and reports. -/
import Derived.Test.YtbnglnpgkcjlhaaDoorZCFrame
import Derived.Test.YtbnglnpgkcjlhaaDoorZClimS
import Derived.Test.YtbnglnpgkcjlhaaDoorWh
set_option linter.unusedSimpArgs false
namespace Go.Proofs.YtbnglnpgkcjlhaaDoor
open Go Go.Vi
set_option maxRecDepth 100000

theorem uStruct {t : TypeId} {l : List TypeId} (h : (match Tryd.prog.underlying t with | some (.struct fs) => fs.toList.map (·.type) == l | _ => false) = true) : ∃ fs, Tryd.prog.underlying t = some (.struct fs) ∧ fs.toList.map (·.type) = l := by
  split at h
  · rename_i fs hu
    exact ⟨fs, hu, by simpa using h⟩
  · cases h
theorem hasSl {ft : Nat} {t e : TypeId} {a : List V} (hu : Tryd.prog.underlying t = some (.slice e)) (h : HasT Tryd.prog (ft + 1) t a) : ∃ v, a = [v] ∧ ArgT Tryd.prog (ft + 1) t v := by
  have hf : isAggT Tryd.prog t = false := by simp [isAggT, hu]
  have key : ∀ v, a = [v] → ∃ v, a = [v] ∧ ArgT Tryd.prog (ft + 1) t v := by
    rintro v rfl
    exact ⟨v, rfl, [v], by rw [hf]; rfl, h⟩
  have h' := h
  simp only [HasT, hu] at h'
  rcases h' with e | ⟨yss, e, _⟩
  · exact key _ e
  · exact key _ e
theorem u_nrms : Tryd.prog.underlying 22 = some (.slice 43) := by kernel_rfl
theorem u_rds : Tryd.prog.underlying 27 = some (.slice 55) := by kernel_rfl
theorem arg_normal {ft : Nat} {x : V} (h : ArgT Tryd.prog (ft + 2) 43 x) : ∃ n : Nrm, denN 1 x = vwNrm.enc n ∧ True := by
  obtain ⟨fs, hu, hf⟩ := uStruct (t := 43) (l := [3, 3, 3, 3, 3]) (by kernel_rfl)
  obtain ⟨ys, rfl, h⟩ := h
  have ha : isAggT Tryd.prog 43 = true := by simp [isAggT, hu]
  rw [ha]
  simp only [HasT, hu, hf, Parts, u_int] at h
  obtain ⟨_, _, rfl, ⟨a, rfl, _⟩, _, _, rfl, ⟨b, rfl, _⟩, _, _, rfl, ⟨c, rfl, _⟩, _, _, rfl, ⟨d, rfl, _⟩, _, _, rfl, ⟨e, rfl, _⟩, rfl⟩ := h
  exact ⟨⟨a, b, c, d, e⟩, rfl, trivial⟩
theorem arg_reading {ft : Nat} {x : V} (h : ArgT Tryd.prog (ft + 2) 55 x) : ∃ n : I2, denN 1 x = vwI2.enc n ∧ True := by
  obtain ⟨fs, hu, hf⟩ := uStruct (t := 55) (l := [3, 3]) (by kernel_rfl)
  obtain ⟨ys, rfl, h⟩ := h
  have ha : isAggT Tryd.prog 55 = true := by simp [isAggT, hu]
  rw [ha]
  simp only [HasT, hu, hf, Parts, u_int] at h
  obtain ⟨_, _, rfl, ⟨a, rfl, _⟩, _, _, rfl, ⟨b, rfl, _⟩, rfl⟩ := h
  exact ⟨⟨a, b⟩, rfl, trivial⟩
theorem arg_climate {ft : Nat} {x : V} (h : ArgT Tryd.prog (ft + 4) 24 x) : ∃ l : List Nrm, denN 3 x = climV l := by
  obtain ⟨fs, hu, hf⟩ := uStruct (t := 24) (l := [22]) (by kernel_rfl)
  obtain ⟨ys, rfl, h⟩ := h
  have ha : isAggT Tryd.prog 24 = true := by simp [isAggT, hu]
  rw [ha]
  rw [HasT] at h
  simp only [hu, hf, Parts] at h
  obtain ⟨a, _, rfl, h, rfl⟩ := h
  obtain ⟨v, rfl, h9⟩ := hasSl u_nrms h
  obtain ⟨l, h1, _⟩ := argSlN (w := vwNrm) (R := fun _ => True) (n := 1) u_nrms (fun y hy => arg_normal hy) h9
  exact ⟨l, by show V.agg [denN 2 v] = _; rw [h1]; rfl⟩
theorem arg_report {ft : Nat} {x : V} (h : ArgT Tryd.prog (ft + 4) 29 x) : ∃ r : Rep, denN 3 x = r.v := by
  obtain ⟨fs, hu, hf⟩ := uStruct (t := 29) (l := [3, 9, 3, 26, 27]) (by kernel_rfl)
  obtain ⟨gs, hv, hg⟩ := uStruct (t := 26) (l := [3, 3, 3, 3]) (by kernel_rfl)
  obtain ⟨ys, rfl, h⟩ := h
  have ha : isAggT Tryd.prog 29 = true := by simp [isAggT, hu]
  rw [ha]
  rw [HasT] at h
  simp only [hu, hf, Parts] at h
  obtain ⟨_, _, rfl, h1, _, _, rfl, h2, _, _, rfl, h3, _, _, rfl, h4, _, _, rfl, h5, rfl⟩ := h
  simp only [HasT, u_int, u_string] at h1 h2 h3
  obtain ⟨k, rfl, _⟩ := h1
  obtain ⟨s, rfl, _⟩ := h2
  obtain ⟨t, rfl, _⟩ := h3
  simp only [HasT, hv, hg, Parts, u_int] at h4
  obtain ⟨_, _, rfl, ⟨a, rfl, _⟩, _, _, rfl, ⟨b, rfl, _⟩, _, _, rfl, ⟨c, rfl, _⟩, _, _, rfl, ⟨d, rfl, _⟩, rfl⟩ := h4
  obtain ⟨v, rfl, h9⟩ := hasSl u_rds h5
  obtain ⟨l, e, _⟩ := argSlN (w := vwI2) (R := fun _ => True) (n := 1) u_rds (fun y hy => arg_reading hy) h9
  exact ⟨⟨k, s, t, ⟨a, b, c, d⟩, l⟩, by show V.agg [.int .i64 k, .str s, .int .i64 t, .int .i64 a, .int .i64 b, .int .i64 c, .int .i64 d, denN 2 v] = _; rw [e]; rfl⟩
theorem arg_intsN {ft : Nat} {x : V} (n : Nat) (h : ArgT Tryd.prog (ft + 2) 30 x) : ∃ l : List Int, denN (n + 1) x = .fs (vwInt.ls l) ∧ ∀ a ∈ l, inR a :=
  argSlN (w := vwInt) (R := inR) u_ints (fun y hy => by
    obtain ⟨z, rfl, hz⟩ := arg_int hy
    exact ⟨z, by cases n <;> rfl, hz⟩) h
end Go.Proofs.YtbnglnpgkcjlhaaDoor
