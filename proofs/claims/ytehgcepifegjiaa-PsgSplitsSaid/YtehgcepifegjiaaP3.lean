/- A part of the proof. -/
import Derived.Test.YtehgcepifegjiaaP2
namespace Go.SX
open Go.Proofs
theorem try_mixed : Try.prog.follows .mixedOrders = true := by kernel_rfl
theorem f17_good (t : Tone) : Good (cToneStep.T psgTab [] Try.f17 t) := by
  rw [f17_tree]; constructor; simp only [Out.Holds, and_true, decide_eq_true_eq, decide_eq_false_iff_not]
  refine ⟨fun h => ?_, fun h => ⟨fun h2 => ?_, fun h2 => ?_⟩⟩ <;> simp [Tone.step, *]
theorem f12_good (t : Tone) : Good (cToneRight.T psgTab [] Try.f12 t) := by
  rw [f12_tree]; constructor; simp only [Out.Holds, and_true, decide_eq_true_eq, decide_eq_false_iff_not]
  refine ⟨fun h => ⟨fun h2 => ⟨fun h3 => ?_, fun h3 => ?_⟩, fun h2 => ?_⟩, fun h2 => ?_⟩ <;> simp [Tone.right, *]
theorem f13_good (t : Noise) : Good (cNoiseRight.T psgTab [] Try.f13 t) := by
  rw [f13_tree]; constructor; simp only [Out.Holds, and_true, decide_eq_true_eq, decide_eq_false_iff_not]
  refine ⟨fun h => ⟨fun h2 => ⟨fun h3 => ?_, fun h3 => ?_⟩, fun h2 => ?_⟩, fun h2 => ?_⟩ <;> simp_all [Noise.right] <;> intros <;> omega
theorem f15_good (t : Noise × BitVec 8) : Good (cNoiseSet.T psgTab [] Try.f15 t) := by
  rw [f15_tree]; constructor; simp [Out.Holds, Noise.set]
theorem f16_good (t : Noise) : Good (cNoiseOut.T psgTab [] Try.f16 t) := by
  rw [f16_tree]; constructor; simp [Out.Holds, Noise.out]
theorem f19_good (t : BitVec 16 × Bool) : Good (cNoiseMove.T psgTab [] Try.f19 t) := by
  rw [f19_tree]; constructor; simp only [Out.Holds, and_true]
  refine ⟨fun h => ?_, fun h => ?_⟩ <;> simp [noiseMove, h]
theorem f18_good (t : Noise × Bool) : Good (cNoiseStep.T psgTab calls1 Try.f18 t) := by
  rw [f18_tree]; constructor
  obtain ⟨⟨m, c, h, s⟩, b⟩ := t
  simp only [Out.Holds, and_true, true_and, decide_eq_true_eq, decide_eq_false_iff_not]
  have e3 : BitVec.ofInt 8 3 = 3#8 := rfl
  have e4 : BitVec.ofInt 8 4 = 4#8 := rfl
  have e0 : BitVec.ofInt 8 0 = 0#8 := rfl
  rw [e3, e4, e0]
  have hm : ∀ x : BitVec 8, min (x &&& 3#8).toNat 64 = (x &&& 3#8).toNat := fun x => by
    have : (x &&& 3#8).toNat ≤ 3 := by rw [BitVec.toNat_and]; exact Nat.and_le_right
    omega
  rw [hm]
  cases h1 : (m &&& 3#8 == 3#8) <;> cases b <;> cases h <;> by_cases h2 : 1 < c <;> simp [Noise.step, Noise.turn, h1, h2, Int.shiftLeft_eq']

theorem k17 : ConOk Try.prog 17 cToneStep := con_ok (calls := []) psgTab_ok try_mixed trivial (by kernel_rfl) rfl Try.call17 (fun _ => rfl) (fun x _ => f17_good x)
theorem c17 : CallOk Try.prog 17 (sp cToneStep (d1 wT)) := sp_ok rfl rfl (fun _ => trivial) k17
theorem k12 : ConOk Try.prog 12 cToneRight := con_ok (calls := []) psgTab_ok try_mixed trivial (by kernel_rfl) rfl Try.call12 (fun _ => rfl) (fun x _ => f12_good x)
theorem c12 : CallOk Try.prog 12 (sp cToneRight (d1 wT)) := sp_ok rfl rfl (fun _ => trivial) k12
theorem k13 : ConOk Try.prog 13 cNoiseRight := con_ok (calls := []) psgTab_ok try_mixed trivial (by kernel_rfl) rfl Try.call13 (fun _ => rfl) (fun x _ => f13_good x)
theorem c13 : CallOk Try.prog 13 (sp cNoiseRight (d1 wN)) := sp_ok rfl rfl (fun _ => trivial) k13
theorem k15 : ConOk Try.prog 15 cNoiseSet := con_ok (calls := []) psgTab_ok try_mixed trivial (by kernel_rfl) rfl Try.call15 (fun _ => rfl) (fun x _ => f15_good x)
theorem c15 : CallOk Try.prog 15 (sp cNoiseSet (d2 wN w8)) := sp_ok rfl rfl (fun _ => trivial) k15
theorem k16 : ConOk Try.prog 16 cNoiseOut := con_ok (calls := []) psgTab_ok try_mixed trivial (by kernel_rfl) rfl Try.call16 (fun _ => rfl) (fun x _ => f16_good x)
theorem c16 : CallOk Try.prog 16 (sp cNoiseOut (d1 wN)) := sp_ok rfl rfl (fun _ => trivial) k16
theorem k19 : ConOk Try.prog 19 cNoiseMove := con_ok (calls := []) psgTab_ok try_mixed trivial (by kernel_rfl) rfl Try.call19 (fun _ => rfl) (fun x _ => f19_good x)
theorem c19 : CallOk Try.prog 19 (sp cNoiseMove (d2 w16 wB)) := sp_ok rfl rfl (fun _ => trivial) k19
theorem calls1_ok : CallsOk Try.prog calls1 := ⟨c17, c12, c13, c15, c16, c19, trivial⟩
theorem k18 : ConOk Try.prog 18 cNoiseStep := con_ok psgTab_ok try_mixed calls1_ok (by kernel_rfl) rfl Try.call18 (fun _ => rfl) (fun x _ => f18_good x)
theorem c18 : CallOk Try.prog 18 (sp cNoiseStep (d2 wN wB)) := sp_ok rfl rfl (fun _ => trivial) k18
end Go.SX
