/- Steps in two parts: the plain law, and the function. -/
import Derived.Test.YtehgcepifegjiaaP10
namespace Go.SX
open Go.Proofs
theorem runN_add (c : Int) : ∀ (t u : Nat) (r : Rd), runN c (t + u) r = runN c u (runN c t r)
  | 0, u, r => by rw [Nat.zero_add]; rfl
  | t + 1, u, r => by
    rw [Nat.succ_add]; exact runN_add c t u (r.next c)
theorem next_left {c p : Int} (hc : 1 ≤ c) (s : Sound) (f : Nat → Int) (n : Nat) : (Rd.next c ⟨s, c - p % c, f, n⟩).left = c - (p + 1) % c := by
  have h0 := Int.emod_nonneg p (by omega : c ≠ 0)
  have h1 := Int.emod_lt_of_pos p (by omega : 0 < c)
  have e : (p + 1) % c = if p % c + 1 = c then 0 else p % c + 1 := by
    rw [Int.add_emod]
    by_cases h1c : c = 1
    · subst h1c; simp [Int.emod_one]
    · rw [Int.emod_eq_of_lt (a := 1) (by omega) (by omega)]
      split
      · rename_i h; rw [h, Int.emod_self]
      · exact Int.emod_eq_of_lt (by omega) (by omega)
  rw [e]
  simp only [Rd.next]
  rw [if_neg (by omega : ¬ c - p % c = 0)]
  by_cases hm : c - p % c - 1 = 0
  · rw [if_pos hm, if_pos (by omega)]; simp only; omega
  · rw [if_neg hm, if_neg (by omega)]; simp only; omega
theorem runN_left {c : Int} (hc : 1 ≤ c) : ∀ (t : Nat) (p : Int), 0 ≤ p → ∀ r : Rd, r.left = c - p % c → (runN c t r).left = c - (p + t) % c
  | 0, p, _, r, h => by simpa [runN] using h
  | t + 1, p, hp, r, h => by
    obtain ⟨s, l, f, n⟩ := r
    simp only at h; subst h
    have := runN_left hc t (p + 1) (by omega) _ (next_left hc s f n)
    simp only [runN]
    rw [this]; congr 2; push_cast; omega
theorem next_n (c : Int) (r : Rd) : (r.next c).n ≤ r.n + 1 := by
  simp only [Rd.next]; split
  · simp only; omega
  · split <;> simp only <;> omega
theorem runN_n (c : Int) : ∀ (t : Nat) (r : Rd), (runN c t r).n ≤ r.n + t
  | 0, r => by simp [runN]
  | t + 1, r => by
    have := runN_n c t (r.next c)
    have := next_n c r
    simp only [runN]; omega
/-- a list that lies before -/
def Rd.after (n : Nat) (f : Nat → Int) (r : Rd) : Rd := ⟨r.s, r.left, catF n f r.f, n + r.n⟩
theorem catF_assoc (n m : Nat) (f g : Nat → Int) (v : Nat → Int) : catF (n + m) (catF n f g) v = catF n f (catF m g v) := by
  funext j
  simp only [catF]
  by_cases h1 : j < n
  · rw [if_pos (by omega), if_pos h1, if_pos h1]
  · by_cases h2 : j < n + m
    · rw [if_pos h2, if_neg h1, if_neg h1, if_pos (by omega)]
    · rw [if_neg h2, if_neg h1, if_neg (by omega)]; congr 1; omega
theorem next_after (c : Int) (n : Nat) (f : Nat → Int) (r : Rd) : (r.after n f).next c = (r.next c).after n f := by
  have hl : (r.after n f).left = r.left := rfl
  by_cases h : r.left = 0
  · rw [Rd.next, Rd.next, if_pos h, if_pos (hl ▸ h)]; rfl
  · by_cases h2 : r.left - 1 = 0
    · rw [Rd.next, Rd.next, if_neg h, if_pos h2, if_neg (hl ▸ h), if_pos (hl ▸ h2)]
      simp only [Rd.after, push, catF_assoc, Nat.add_assoc]
    · rw [Rd.next, Rd.next, if_neg h, if_neg h2, if_neg (hl ▸ h), if_neg (hl ▸ h2)]; rfl
theorem runN_after (c : Int) (n : Nat) (f : Nat → Int) : ∀ (t : Nat) (r : Rd), runN c t (r.after n f) = (runN c t r).after n f
  | 0, _ => rfl
  | t + 1, r => by
    simp only [runN]; rw [next_after]; exact runN_after c n f t _
/-- the law: steps in two parts -/
theorem splits {s : Sound} {a b c d : Int} (ha : 0 ≤ a) (hb : 0 ≤ b) (hc : 1 ≤ c) (hd : 0 ≤ d) :
    let A := RX.fin ⟨a, c, 0, ⟨s, c - d % c, fun _ => 0, 0⟩⟩
    let B := RX.fin ⟨b, c, 0, ⟨A.s, c - (d + a) % c % c, fun _ => 0, 0⟩⟩
    let C := RX.fin ⟨a + b, c, 0, ⟨s, c - d % c, fun _ => 0, 0⟩⟩
    B.s = C.s ∧ C.n = A.n + B.n ∧ ∀ j, j < A.n + B.n → catF A.n A.f B.f j = C.f j := by
  intro A B C
  have e0 : A = runN c a.toNat ⟨s, c - d % c, fun _ => 0, 0⟩ := by simp only [A, RX.fin, Int.sub_zero]
  have hl : A.left = c - (d + a) % c := by
    rw [e0, runN_left hc a.toNat d hd _ rfl]; congr 2; omega
  have e1 : C = runN c b.toNat A := by
    have : (a + b - 0).toNat = a.toNat + b.toNat := by omega
    simp only [C, RX.fin, this, runN_add]; rw [e0]
  have e2 : A = Rd.after A.n A.f ⟨A.s, c - (d + a) % c % c, fun _ => 0, 0⟩ ∨ True := .inr trivial
  have hcat : ∀ n (f : Nat → Int) j, j < n → catF n f (fun _ => 0) j = f j := by intro n f j h; simp [catF, h]
  -- what lies behind the list's end is not asked for
  have inv : ∀ (t : Nat) (r r' : Rd), r.s = r'.s → r.left = r'.left → r.n = r'.n → (∀ j, j < r.n → r.f j = r'.f j) →
      (runN c t r).s = (runN c t r').s ∧ (runN c t r).n = (runN c t r').n ∧ ∀ j, j < (runN c t r).n → (runN c t r).f j = (runN c t r').f j := by
    intro t
    induction t with
    | zero => intro r r' h1 h2 h3 h4; exact ⟨h1, h3, h4⟩
    | succ t ih =>
      intro r r' h1 h2 h3 h4
      obtain ⟨s1, l1, f1, n1⟩ := r
      obtain ⟨s2, l2, f2, n2⟩ := r'
      simp only at h1 h2 h3 h4
      subst h1; subst h2; subst h3
      refine ih _ _ ?_ ?_ ?_ ?_
      · simp only [Rd.next]; split
        · rfl
        · split <;> rfl
      · simp only [Rd.next]; split
        · rfl
        · split <;> rfl
      · simp only [Rd.next]; split
        · rfl
        · split <;> rfl
      · intro j hj
        simp only [Rd.next] at hj ⊢
        by_cases c1 : l1 = 0
        · rw [if_pos c1] at hj ⊢; rw [if_pos c1]; exact h4 j hj
        · rw [if_neg c1] at hj ⊢; rw [if_neg c1]
          by_cases c2 : l1 - 1 = 0
          · rw [if_pos c2] at hj ⊢; rw [if_pos c2]
            simp only [push, catF]
            by_cases c3 : j < n1
            · rw [if_pos c3, if_pos c3]; exact h4 j c3
            · rw [if_neg c3, if_neg c3]
          · rw [if_neg c2] at hj ⊢; rw [if_neg c2]; exact h4 j hj
  have hmm : (d + a) % c % c = (d + a) % c := Int.emod_emod_of_dvd _ (Int.dvd_refl c)
  have key := inv b.toNat A (Rd.after A.n A.f ⟨A.s, c - (d + a) % c % c, fun _ => 0, 0⟩) rfl (by rw [hl, hmm]; rfl) rfl (fun j hj => by simp only [Rd.after]; exact (hcat _ _ _ hj).symm)
  rw [runN_after] at key
  have eB : B = runN c b.toNat ⟨A.s, c - (d + a) % c % c, fun _ => 0, 0⟩ := by simp only [B, RX.fin, Int.sub_zero]
  rw [← eB, ← e1] at key
  obtain ⟨k1, k2, k3⟩ := key
  exact ⟨k1.symm, k2, fun j hj => (k3 j (by rw [k2]; exact hj)).symm⟩
theorem f3_good (x : SplX) : Good (cSpl.T psgTab calls4 Try.f3 x) := by
  rw [f3_tree]
  obtain ⟨s, a, b, c, d⟩ := x
  constructor
  refine ⟨fun h => (nomatch h), fun _ => ⟨rfl, fun _ => ⟨rfl, trivial⟩, fun _ => ⟨fun _ => ⟨rfl, trivial⟩, fun h1 => ⟨fun _ => ⟨rfl, trivial⟩, fun h2 => ⟨fun _ => ⟨rfl, trivial⟩, fun h3 => ⟨fun _ => ⟨rfl, trivial⟩, fun h4 => ⟨fun _ => ⟨rfl, trivial⟩, fun h5 => ⟨fun _ => ⟨rfl, trivial⟩, fun h6 => ⟨fun _ => ⟨rfl, trivial⟩, fun h7 => ⟨fun _ => ⟨rfl, trivial⟩, fun h8 => ?_⟩⟩⟩⟩⟩⟩⟩⟩⟩⟩
  have h1 : ¬ a < 0 := of_decide_eq_false h1
  have h2 : ¬ b < 0 := of_decide_eq_false h2
  have h3 : ¬ 2000 < a := of_decide_eq_false h3
  have h4 : ¬ 2000 < b := of_decide_eq_false h4
  have h5 : ¬ c < 1 := of_decide_eq_false h5
  have h6 : ¬ 100 < c := of_decide_eq_false h6
  have h7 : ¬ d < 0 := of_decide_eq_false h7
  have h8 : ¬ 100 < d := of_decide_eq_false h8
  have e1 : w64 (d + a) = d + a := w64_id (by omega) (by omega)
  have e2 : w64 (a + b) = a + b := w64_id (by omega) (by omega)
  have e3 : (d + a).tmod c = (d + a) % c := Int.tmod_eq_emod_of_nonneg (by omega)
  dsimp only
  rw [e1, e2, e3]
  have hm0 := Int.emod_nonneg (d + a) (by omega : c ≠ 0)
  have hm1 := Int.emod_lt_of_pos (d + a) (by omega : 0 < c)
  have key := splits (s := s) (a := a) (b := b) (c := c) (d := d) (by omega) (by omega) (by omega) (by omega)
  have nA : (RX.fin ⟨a, c, 0, ⟨s, c - d % c, fun _ => 0, 0⟩⟩).n ≤ 2000 := by
    refine Nat.le_trans (runN_n c (a - 0).toNat ⟨s, c - d % c, fun _ => 0, 0⟩) ?_
    simp only; omega
  have nB : (RX.fin ⟨b, c, 0, ⟨(RX.fin ⟨a, c, 0, ⟨s, c - d % c, fun _ => 0, 0⟩⟩).s, c - (d + a) % c % c, fun _ => 0, 0⟩⟩).n ≤ 2000 := by
    refine Nat.le_trans (runN_n c (b - 0).toNat _) ?_
    simp only; omega
  simp only at key
  generalize hA : RX.fin ⟨a, c, 0, ⟨s, c - d % c, fun _ => 0, 0⟩⟩ = A at *
  generalize hB : RX.fin ⟨b, c, 0, ⟨A.s, c - (d + a) % c % c, fun _ => 0, 0⟩⟩ = B at *
  generalize hC : RX.fin ⟨a + b, c, 0, ⟨s, c - d % c, fun _ => 0, 0⟩⟩ = C at *
  obtain ⟨k1, k2, k3⟩ := key
  refine ⟨⟨by omega, by omega, by omega, by omega, by omega, by omega, rfl, rfl, rfl, rfl⟩, ⟨by omega, by omega, by omega, by omega, by omega, by omega, rfl, rfl, rfl, rfl⟩, by omega, ⟨by omega, by omega, by omega, by omega, by omega, by omega, rfl, rfl, rfl, rfl⟩, fun _ => ⟨by omega, ?_, ?_, trivial⟩, fun hf => ?_⟩
  · have : (A.n : Int) + B.n < 4611686018427387904 := by omega
    refine ⟨by push_cast; omega, rfl, fun _ _ => rfl, rfl, fun _ _ => rfl⟩
  · simp only [Two.same, k2, decide_true, Bool.true_and]
    refine List.all_eq_true.2 fun j hj => ?_
    simp only [k3 j (List.mem_range.1 hj), beq_self_eq_true]
  · rw [k1] at hf
    simp only [beq_self_eq_true, Bool.and_self] at hf
    cases hf
theorem calls4_ok : CallsOk Try.prog calls4 := ⟨c4, c6, c7, calls3_ok⟩
theorem k3 : ConOk Try.prog 3 cSpl := con_ok psgTab_ok try_mixed calls4_ok (by kernel_rfl) rfl Try.call3 (fun _ => rfl) (fun x _ => f3_good x)
end Go.SX
