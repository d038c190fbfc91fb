/- A run of the chip: proved. -/
import Derived.Test.YtehgcepifegjiaaP8
namespace Go.SX
open Go.Proofs
theorem runN_fin {x : RX} (h : x.k < x.steps) : x.fin = (RX.mk x.steps x.every (x.k + 1) (x.r.next x.every)).fin := by
  have e : (x.steps - x.k).toNat = (x.steps - (x.k + 1)).toNat + 1 := by omega
  simp only [RX.fin, e, runN]
theorem runImp {x x' : RX} (h : x.fin = x'.fin) : runL.Imp x x' := by
  intro Q hQ
  have : (runL.res x') = runL.res x := by simp only [runL, h]
  rw [this]; exact hQ
theorem run_fine : runL.Fine 0 psgTab calls3 [] (loopAt Try.f6 0) := ⟨fun x => by
  obtain ⟨steps, every, k, s, left, f, n⟩ := x
  rintro ⟨h1, h2, h3, h4, h5, h6, h7, h8⟩ Q hq
  simp only at h1 h2 h3 h4 h5 h6 h7 h8
  rw [run_body]
  refine ⟨fun hc => ?_, fun hc => ?_⟩
  · have hk : k < steps := of_decide_eq_true hc
    clear hc
    have e1 : w64 (k + 1) = k + 1 := w64_id (by omega) (by omega)
    have e2 : 1 ≤ left → w64 (left - 1) = left - 1 := fun h => w64_id (by omega) (by omega)
    dsimp only
    rw [e1]
    refine ⟨rfl, fun hl => ?_, fun hl => ?_⟩
    · have hl : left = 0 := by simpa using hl
      subst hl
      refine ⟨rfl, rfl, rfl, rfl, rfl, rfl, fun _ _ => rfl, ⟨by simp only; omega, by simp only; omega, by simp only; omega, h4, h5, h6, h7, h8⟩, ?_, ?_, trivial⟩
      · simp only [runL]; omega
      · refine runImp ?_
        rw [runN_fin (x := ⟨steps, every, k, s, 0, f, n⟩) hk]; rfl
    · have hl : ¬ left = 0 := by simpa using hl
      rw [e2 (by omega)]
      refine ⟨fun hm => ?_, fun hm => ?_⟩
      · have hm : left - 1 = 0 := by simpa using hm
        refine ⟨rfl, by omega, rfl, rfl, rfl, rfl, rfl, rfl, fun _ _ => rfl, ⟨by simp only; omega, by simp only; omega, by simp only; omega, h4, h7, h8, h7, h8⟩, ?_, ?_, trivial⟩
        · simp only [runL]; omega
        · refine runImp ?_
          rw [runN_fin (x := ⟨steps, every, k, s, left, f, n⟩) hk]
          simp only [Rd.next, if_neg hl, if_pos hm]; rfl
      · have hm : ¬ left - 1 = 0 := by simpa using hm
        refine ⟨rfl, rfl, rfl, rfl, rfl, rfl, fun _ _ => rfl, ⟨by simp only; omega, by simp only; omega, by simp only; omega, h4, by simp only; omega, by simp only; omega, h7, h8⟩, ?_, ?_, trivial⟩
        · simp only [runL]; omega
        · refine runImp ?_
          rw [runN_fin (x := ⟨steps, every, k, s, left, f, n⟩) hk]
          simp only [Rd.next, if_neg hl, if_neg hm]; rfl
  · have hc : ¬ k < steps := of_decide_eq_false hc
    have e : (steps - k).toNat = 0 := by omega
    have e3 : RX.fin ⟨steps, every, k, s, left, f, n⟩ = ⟨s, left, f, n⟩ := by simp only [RX.fin, e, runN]
    have hq' := hq
    simp only [runL, e3] at hq'
    exact hq'⟩
theorem f6_good (x : RunX) (h : cRun.pre x) : Good (cRun.TL psgTab calls3 [(6, runL.ev 0)] Try.f6 x) := by
  rw [f6_tree]
  obtain ⟨s, steps, every, phase⟩ := x
  obtain ⟨h1, h2, h3, h4, h5, h6⟩ := h
  simp only at h1 h2 h3 h4 h5 h6
  constructor
  have hm0 := Int.emod_nonneg phase (by omega : every ≠ 0)
  have hm1 := Int.emod_lt_of_pos phase h3
  have ew : w64 (every - phase.tmod every) = every - phase % every := by
    rw [Int.tmod_eq_emod_of_nonneg h5]
    exact w64_id (by omega) (by omega)
  dsimp only
  rw [ew]
  refine ⟨fun _ => ⟨fun _ => ?_, fun hc => ?_⟩, fun hc => ?_⟩
  · refine ⟨by omega, rfl, rfl, rfl, rfl, rfl, rfl, fun _ _ => rfl, ⟨Int.le_refl _, Int.le_refl _, by simp only; omega, h2, by simp only; omega, by simp only; omega, by simp only; omega, h4⟩, rfl, rfl, fun _ _ => rfl, trivial⟩
  · exact absurd h5 (of_decide_eq_false hc)
  · exact absurd h3 (of_decide_eq_false hc)
theorem f6_loops : LoopsOk Try.prog 0 (envOf psgTab calls3 [(6, runL.ev 0)]) (bodyOf Try.f6) := by
  refine loopsOk_of _ (all_at (d := .skip) fun i hi f hf => ?_)
  have hlen : (loopsIn (bodyOf Try.f6)).length = 1 := by kernel_rfl
  have hi0 : i = 0 := by omega
  subst hi0
  have hk : (envOf psgTab calls3 [(6, runL.ev 0)]).loop (key (loopAt Try.f6 0)) = some (runL.ev 0) := by kernel_rfl
  have hf' : (envOf psgTab calls3 [(6, runL.ev 0)]).loop (key (loopAt Try.f6 0)) = some f := hf
  rw [hk] at hf'
  cases hf'
  exact loop_ok (loops := []) psgTab_ok try_mixed calls3_ok runL (loopsOk_none (fun _ => rfl) _) run_fine
theorem k6 : ConOk Try.prog 6 cRun := con_okL psgTab_ok try_mixed calls3_ok (by kernel_rfl) rfl Try.call6 f6_loops (fun _ => rfl) (fun x h => f6_good x h)
def uRun : Call1 cRun := ⟨fun x => [0 ≤ x.steps, x.steps ≤ 1099511627776, 0 < x.every, x.every < 1099511627776, 0 ≤ x.phase, x.phase < 1099511627776], [], 3, fun args _ => match args with
  | [a, b, c, d] => match wS a, wI b, wI c, wI d with
    | some s, some steps, some every, some phase => some (⟨s, steps, every, phase⟩, [])
    | _, _, _, _ => none
  | _ => none⟩
theorem c6 : CallOk Try.prog 6 uRun.spec := uRun.ok rfl (fun _ h => ⟨h _ (.head _), h _ (.tail _ (.head _)), h _ (.tail _ (.tail _ (.head _))), h _ (.tail _ (.tail _ (.tail _ (.head _)))), h _ (.tail _ (.tail _ (.tail _ (.tail _ (.head _))))), h _ (.tail _ (.tail _ (.tail _ (.tail _ (.tail _ (.head _))))))⟩) (fun _ _ hi _ => absurd hi (Nat.not_lt_zero _)) k6
end Go.SX
