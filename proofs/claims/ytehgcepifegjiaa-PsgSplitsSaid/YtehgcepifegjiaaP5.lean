/- A part of the proof. -/
import Derived.Test.YtehgcepifegjiaaP4
namespace Go.SX
open Go.Proofs
theorem f14_good (t : Sound) : Good (cStep.T psgTab calls2 Try.f14 t) := by
  rw [f14_tree]; constructor; simp [Out.Holds, Sound.step]
theorem vol_cases (q : BitVec 8) (k : Nat) (h : ((q &&& 15#8).toNat : Int) = (k : Int)) : volume q = [8191, 6507, 5168, 4105, 3261, 2590, 2057, 1642, 1298, 1031, 819, 650, 516, 410, 326, 0].getD k 0 := by
  have : (q &&& 15).toNat = k := by
    have e : (15 : BitVec 8) = 15#8 := rfl
    rw [e]; omega
  rw [volume, this]
theorem f11_good (t : BitVec 8) : Good (cVolume.T psgTab [] Try.f11 t) := by
  rw [f11_tree]; constructor
  have e : BitVec.ofInt 8 15 = 15#8 := rfl
  rw [e]
  simp only [Out.Holds, and_true, beq_iff_eq, beq_eq_false_iff_ne, ne_eq]
  have hlt : (t &&& 15#8).toNat ≤ 15 := by rw [BitVec.toNat_and]; exact Nat.and_le_right
  iterate 15 refine ⟨fun h => by rw [vol_cases t _ h]; rfl, fun _ => ?_⟩
  refine ⟨by omega, ?_⟩
  have h15 : ((t &&& 15#8).toNat : Int) = ((15 : Nat) : Int) := by omega
  rw [vol_cases t _ h15]; rfl
theorem f10_good (t : Sound) : Good (cSample.T psgTab calls2 Try.f10 t) := by
  rw [f10_tree]; constructor
  simp only [Out.Holds, and_true, true_and, Sound.sample]
  cases t.t0.o <;> cases t.t1.o <;> cases t.t2.o <;> cases t.n.out <;> simp [addV]
theorem f5_good (t : Sound) : Good (cRight.T psgTab calls2 Try.f5 t) := by
  rw [f5_tree]; constructor
  simp +contextual [Out.Holds, Sound.right]
theorem f9_good (t : Unit) : Good (cNew.T psgTab calls2 Try.f9 t) := by
  refine good_walk ?_; rw [f9_tree]; constructor
  exact ⟨⟨rfl, rfl⟩, rfl, trivial⟩
theorem f8_good (t : Bool) : Good (cWriteA.T psgTab calls2 Try.f8 t) := by
  refine good_walk ?_
  cases t
  · rw [f8a_tree]; constructor; exact ⟨rfl, trivial⟩
  · rw [f8b_tree]; constructor; exact ⟨rfl, trivial⟩
theorem f4_good (t : Unit) : Good (cAlive.T psgTab calls3 Try.f4 t) := by
  refine good_walk ?_; rw [f4_tree]; constructor
  exact ⟨⟨rfl, rfl⟩, ⟨rfl, rfl⟩, rfl, rfl, rfl, trivial⟩
theorem k11 : ConOk Try.prog 11 cVolume := con_ok (calls := []) psgTab_ok try_mixed trivial (by kernel_rfl) rfl Try.call11 (fun _ => rfl) (fun x _ => f11_good x)
theorem c11 : CallOk Try.prog 11 (sp cVolume (d1 w8)) := sp_ok rfl rfl (fun _ => trivial) k11
theorem calls2_ok : CallsOk Try.prog calls2 := ⟨c18, c11, calls1_ok⟩
theorem k14 : ConOk Try.prog 14 cStep := con_ok psgTab_ok try_mixed calls2_ok (by kernel_rfl) rfl Try.call14 (fun _ => rfl) (fun x _ => f14_good x)
theorem c14 : CallOk Try.prog 14 (sp cStep (d1 wS)) := sp_ok rfl rfl (fun _ => trivial) k14
theorem k10 : ConOk Try.prog 10 cSample := con_ok psgTab_ok try_mixed calls2_ok (by kernel_rfl) rfl Try.call10 (fun _ => rfl) (fun x _ => f10_good x)
theorem c10 : CallOk Try.prog 10 (sp cSample (d1 wS)) := sp_ok rfl rfl (fun _ => trivial) k10
theorem k5 : ConOk Try.prog 5 cRight := con_ok psgTab_ok try_mixed calls2_ok (by kernel_rfl) rfl Try.call5 (fun _ => rfl) (fun x _ => f5_good x)
theorem c5 : CallOk Try.prog 5 (sp cRight (d1 wS)) := sp_ok rfl rfl (fun _ => trivial) k5
theorem k9 : ConOk Try.prog 9 cNew := con_ok psgTab_ok try_mixed calls2_ok (by kernel_rfl) rfl Try.call9 (fun _ => rfl) (fun x _ => f9_good x)
theorem c9 : CallOk Try.prog 9 (sp cNew d0) := sp_ok rfl rfl (fun _ => trivial) k9
theorem kk8 : ConOk Try.prog 8 cWriteA := con_ok psgTab_ok try_mixed calls2_ok (by kernel_rfl) rfl Try.call8 (fun _ => rfl) (fun x _ => f8_good x)
theorem c8 : CallOk Try.prog 8 (sp cWriteA dWriteA) := sp_ok rfl rfl (fun _ => trivial) kk8
theorem calls3_ok : CallsOk Try.prog calls3 := ⟨c14, c10, c5, c9, c8, calls2_ok⟩
theorem k4 : ConOk Try.prog 4 cAlive := con_ok psgTab_ok try_mixed calls3_ok (by kernel_rfl) rfl Try.call4 (fun _ => rfl) (fun x _ => f4_good x)
theorem c4 : CallOk Try.prog 4 (sp cAlive d0) := sp_ok rfl rfl (fun _ => trivial) k4
end Go.SX
