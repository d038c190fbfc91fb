/- Lists that are the same: proved. -/
import Derived.Test.YtehgcepifegjiaaP6
namespace Go.SX
open Go.Proofs
theorem w64_id {n : Int} (h0 : -9223372036854775808 ≤ n) (h1 : n < 9223372036854775808) : w64 n = n := by
  simp only [w64]; omega
theorem same_fine : sameL.Fine 2 psgTab [] [] (loopAt Try.f7 0) := ⟨fun x => by
  obtain ⟨⟨f, g, n, m⟩, i⟩ := x
  rintro ⟨h1, h2, h3, h4⟩ Q ⟨q1, q2⟩
  rw [same_body]
  simp only at h1 h2 h3 h4 q1 q2
  subst h1
  have ew : i < (n : Int) → w64 (i + 1) = i + 1 := fun h => w64_id (by omega) (by omega)
  refine ⟨fun hc => ?_, fun hc => ?_⟩
  · have hc : i < (n : Int) := of_decide_eq_true hc
    refine ⟨by simp only; omega, ⟨h2, hc⟩, by simp only; omega, ⟨h2, hc⟩, fun hd => ?_, fun hd => ?_⟩
    · refine q2 ?_
      rw [List.all_eq_false]
      refine ⟨i.toNat, List.mem_range.2 (by omega), ?_⟩
      have : ¬ ((i.toNat : Int) < i) := by omega
      have hd' : (f i.toNat == g i.toNat) = false := by
        have : (f i.toNat != g i.toNat) = true := hd
        simpa [bne] using this
      simp only [this, decide_false, Bool.false_or, hd', Bool.false_eq_true, not_false_eq_true]
    · refine ⟨rfl, rfl, rfl, fun _ _ => rfl, rfl, fun _ _ => rfl, ?_, ?_, ?_, trivial⟩
      · rw [ew hc]; exact ⟨rfl, by simp only; omega, by simp only; omega, h4⟩
      · rw [ew hc]; simp only [sameL]; omega
      · rw [ew hc]
        have e : ((List.range n).all fun j => decide ((j : Int) < i + 1) || f j == g j) = ((List.range n).all fun j => decide ((j : Int) < i) || f j == g j) := by
          rw [Bool.eq_iff_iff, List.all_eq_true, List.all_eq_true]
          have he : f i.toNat = g i.toNat := by simpa using hd
          refine ⟨fun h j hj => ?_, fun h j hj => ?_⟩
          · have := h j hj
            simp only [Bool.or_eq_true, decide_eq_true_eq, beq_iff_eq] at this ⊢
            rcases this with a | a
            · by_cases hji : j = i.toNat
              · subst hji; exact .inr he
              · exact .inl (by omega)
            · exact .inr a
          · have := h j hj
            simp only [Bool.or_eq_true, decide_eq_true_eq, beq_iff_eq] at this ⊢
            rcases this with a | a
            · exact .inl (by omega)
            · exact .inr a
        intro Q' hQ
        exact ⟨fun hc => hQ.1 (e ▸ hc), fun hc => hQ.2 (e ▸ hc)⟩
  · refine q1 ?_
    have hc : ¬ i < (n : Int) := of_decide_eq_false hc
    rw [List.all_eq_true]
    intro j hj
    have : (j : Int) < i := by have := List.mem_range.1 hj; omega
    simp [this]⟩
theorem all0 {n : Nat} (p : Nat → Bool) : ((List.range n).all fun j => decide ((j : Int) < 0) || p j) = (List.range n).all p := by
  have : (fun (j : Nat) => decide ((j : Int) < 0) || p j) = p := by
    funext j
    have : ¬ ((j : Int) < 0) := by omega
    simp [this]
  rw [this]
theorem f7_good (x : Two) (h : cSame.pre x) : Good (cSame.TL psgTab [] [(4, sameL.ev 2)] Try.f7 x) := by
  rw [f7_tree]
  obtain ⟨f, g, n, m⟩ := x
  have hn : (n : Int) < 4611686018427387904 := h
  dsimp only
  rw [all0 fun j => f j == g j]
  constructor
  refine ⟨fun hc => ?_, fun hc => ?_⟩
  · have hc : ¬ n = m := by simp only [bne_iff_ne, ne_eq] at hc; omega
    refine ⟨by simp [Two.same, hc], rfl, fun _ _ => rfl, rfl, fun _ _ => rfl, trivial⟩
  · have hc : n = m := by simp only [bne_eq_false_iff_eq] at hc; omega
    subst hc
    refine ⟨rfl, rfl, rfl, fun _ _ => rfl, rfl, fun _ _ => rfl, ⟨rfl, Int.le_refl _, by simp only; omega, hn⟩, fun ha => ?_, fun ha => ?_⟩
    · exact ⟨by simp only [Two.same, ha, decide_true, Bool.and_self], rfl, fun _ _ => rfl, rfl, fun _ _ => rfl, trivial⟩
    · exact ⟨by simp only [Two.same, ha, Bool.and_false], rfl, fun _ _ => rfl, rfl, fun _ _ => rfl, trivial⟩
theorem f7_loops : LoopsOk Try.prog 2 (envOf psgTab [] [(4, sameL.ev 2)]) (bodyOf Try.f7) := by
  refine loopsOk_of _ (all_at (d := .skip) fun i hi f hf => ?_)
  have hlen : (loopsIn (bodyOf Try.f7)).length = 1 := by kernel_rfl
  have hi0 : i = 0 := by omega
  subst hi0
  have hk : (envOf psgTab [] [(4, sameL.ev 2)]).loop (key (loopAt Try.f7 0)) = some (sameL.ev 2) := by kernel_rfl
  have hf' : (envOf psgTab [] [(4, sameL.ev 2)]).loop (key (loopAt Try.f7 0)) = some f := hf
  rw [hk] at hf'
  cases hf'
  exact loop_ok (loops := []) psgTab_ok try_mixed (calls := []) trivial sameL (loopsOk_none (fun _ => rfl) _) same_fine
theorem k7 : ConOk Try.prog 7 cSame := con_okL (calls := []) psgTab_ok try_mixed trivial (by kernel_rfl) rfl Try.call7 f7_loops (fun _ => rfl) (fun x h => f7_good x h)
def uSame : Call1 cSame := ⟨fun x => [(x.n : Int) < 4611686018427387904], [], 0, fun args ob => match args with
  | [.v (.s (.sl a)), .v (.s (.sl b))] => match ob a, ob b with
    | .lst (.ai f) n _ _, .lst (.ai g) m _ _ => some (⟨f, g, n, m⟩, [a, b])
    | _, _ => none
  | _ => none⟩
theorem c7 : CallOk Try.prog 7 uSame.spec := uSame.ok rfl (fun x h => h _ (List.mem_singleton.2 rfl)) (fun x i hi _ => by
  match i, hi with
  | 0, _ => exact OEq.refl _
  | 1, _ => exact OEq.refl _) k7
end Go.SX
