/- The run in the text's order, and what it says of each operation. -/
import Derived.Test.YtehgcepifegjiaaSXS
namespace Go.SX
variable {R : Reg} {P : Program}

theorem effF_app : ∀ (l l2 : Rs R) (j : Nat), effF (l ++ l2) j = effF l j ++ effF l2 (j + l.length)
  | [], l2, j => by simp [effF]
  | r :: rest, l2, j => by
    simp only [List.cons_append, effF, List.length_cons]
    rw [effF_app rest l2 (j + 1), show j + 1 + rest.length = j + (rest.length + 1) by omega]
    cases isEff r <;> rfl
theorem effF_mem : ∀ (l : Rs R) (j e : Nat), e ∈ effF l j → j ≤ e ∧ e < j + l.length ∧ isEff (l.getD (e - j) none) = true
  | [], _, _, h => by simp [effF] at h
  | r :: rest, j, e, h => by
    simp only [effF] at h
    have rec_ : e ∈ effF rest (j + 1) → j ≤ e ∧ e < j + (r :: rest).length ∧ isEff ((r :: rest).getD (e - j) none) = true := by
      intro h
      obtain ⟨h1, h2, h3⟩ := effF_mem rest (j + 1) e h
      refine ⟨by omega, by simp; omega, ?_⟩
      obtain ⟨d, hd⟩ : ∃ d, e - j = d + 1 := ⟨e - j - 1, by omega⟩
      rw [hd, List.getD_cons_succ, show d = e - (j + 1) by omega]; exact h3
    cases hr : isEff r with
    | true =>
      simp only [hr] at h
      rcases List.mem_cons.1 h with rfl | h
      · exact ⟨by omega, by simp, by simp [hr]⟩
      · exact rec_ h
    | false => simp only [hr] at h; exact rec_ h
theorem effF_in : ∀ (l : Rs R) (j i : Nat), i < l.length → isEff (l.getD i none) = true → j + i ∈ effF l j
  | [], _, _, h, _ => by simp at h
  | r :: rest, j, i, h, hi => by
    simp only [effF]
    cases i with
    | zero => simp at hi; simp [hi]
    | succ i =>
      have := effF_in rest (j + 1) i (by simpa using h) (by simpa using hi)
      rw [show j + 1 + i = j + (i + 1) by omega] at this
      cases isEff r <;> simp [this]

theorem nbR_app : ∀ (l l2 : Rs R) (nb : Nat), nbR nb (l ++ l2) = nbR (nbR nb l) l2
  | [], _, _ => rfl
  | r :: rest, l2, nb => by simp only [List.cons_append, nbR]; exact nbR_app rest l2 _
theorem nbR_le : ∀ (l : Rs R) (nb : Nat), nb ≤ nbR nb l
  | [], _ => Nat.le_refl _
  | r :: rest, nb => by simp only [nbR]; have := nbR_le rest (nb + newLen r); omega

def obj0 (r : Option (Res R)) (i : Nat) : O R := match r with
  | some r => getO r.new i
  | none => .none

theorem crt_app : ∀ (l l2 : Rs R) (nb j o : Nat), crt (l ++ l2) nb j o = match crt l nb j o with
    | some x => some x
    | none => crt l2 (nbR nb l) (j + l.length) o
  | [], l2, nb, j, o => by simp [crt, nbR]
  | r :: rest, l2, nb, j, o => by
    simp only [List.cons_append, crt, nbR, List.length_cons]
    split
    · rfl
    · rw [crt_app rest l2]; rw [show j + 1 + rest.length = j + (rest.length + 1) by omega]

theorem crt_some : ∀ (l : Rs R) (nb j o k : Nat) (x : O R), crt l nb j o = some (k, x) → j ≤ k ∧ k < j + l.length ∧ nb ≤ o ∧
    nbR nb (l.take (k - j)) ≤ o ∧ o < nbR nb (l.take (k - j)) + newLen (l.getD (k - j) none) ∧ x = obj0 (l.getD (k - j) none) (o - nbR nb (l.take (k - j)))
  | [], _, _, _, _, _, h => by simp [crt] at h
  | r :: rest, nb, j, o, k, x, h => by
    simp only [crt] at h
    split at h
    · rename_i h1 h2
      have h1' := Nat.le_of_ble_eq_true h1
      have h2' : o < nb + newLen r := Nat.le_of_ble_eq_true h2
      simp only [Option.some.injEq, Prod.mk.injEq] at h
      obtain ⟨rfl, rfl⟩ := h
      refine ⟨Nat.le_refl _, by simp, h1', ?_⟩
      simp only [Nat.sub_self, List.take_zero, nbR, List.getD_cons_zero]
      exact ⟨h1', h2', rfl⟩
    · obtain ⟨h1, h2, h3, h4, h5, h6⟩ := crt_some rest _ _ _ _ _ h
      obtain ⟨d, hd⟩ : ∃ d, k - j = d + 1 := ⟨k - j - 1, by omega⟩
      rw [show k - (j + 1) = d by omega] at h4 h5 h6
      refine ⟨by omega, by simp; omega, by omega, ?_⟩
      rw [hd]
      simp only [List.take_succ_cons, nbR, List.getD_cons_succ]
      exact ⟨h4, h5, h6⟩

theorem crt_at : ∀ (l : Rs R) (nb j i o : Nat), i < l.length → nbR nb (l.take i) ≤ o → o < nbR nb (l.take i) + newLen (l.getD i none) → ∃ x, crt l nb j o = some (j + i, x)
  | [], _, _, _, _, h, _, _ => by simp at h
  | r :: rest, nb, j, i, o, h, h1, h2 => by
    simp only [crt]
    cases i with
    | zero =>
      simp only [List.take_zero, nbR, List.getD_cons_zero] at h1 h2
      have e1 : Nat.ble nb o = true := Nat.ble_eq_true_of_le h1
      have e2 : Nat.blt o (nb + newLen r) = true := Nat.ble_eq_true_of_le h2
      simp only [e1, e2]
      exact ⟨_, rfl⟩
    | succ i =>
      simp only [List.take_succ_cons, nbR, List.getD_cons_succ] at h1 h2
      have h3 := nbR_le (rest.take i) (nb + newLen r)
      have e2 : Nat.blt o (nb + newLen r) = false := by
        cases hb : Nat.blt o (nb + newLen r) with
        | false => rfl
        | true => have : o < nb + newLen r := Nat.le_of_ble_eq_true hb; omega
      obtain ⟨x, hx⟩ := crt_at rest (nb + newLen r) (j + 1) i o (by simpa using h) h1 h2
      refine ⟨x, ?_⟩
      rw [show j + (i + 1) = j + 1 + i by omega]
      split
      · rename_i h4; rw [e2] at h4; cases h4
      · exact hx

theorem crt_none : ∀ (l : Rs R) (nb j o : Nat), nbR nb l ≤ o → crt l nb j o = none
  | [], _, _, _, _ => rfl
  | r :: rest, nb, j, o, h => by
    simp only [nbR] at h
    have h3 := nbR_le rest (nb + newLen r)
    simp only [crt]
    have e2 : Nat.blt o (nb + newLen r) = false := by
      cases hb : Nat.blt o (nb + newLen r) with
      | false => rfl
      | true => have : o < nb + newLen r := Nat.le_of_ble_eq_true hb; omega
    split
    · rename_i h4; rw [e2] at h4; cases h4
    · exact crt_none rest _ _ _ h

theorem getD_app {α : Type} (l l2 : List α) (d : α) (i : Nat) (h : i < l.length) : (l ++ l2).getD i d = l.getD i d := by
  simp [List.getD, List.getElem?_append_left h]

theorem valR_app (l l2 : Rs R) (j : Nat) (h : j < l.length) : valR (l ++ l2) j = valR l j := by simp only [valR, getD_app l l2 _ j h]
theorem updR_app (l l2 : Rs R) (j : Nat) (h : j < l.length) : updR (l ++ l2) j = updR l j := by simp only [updR, getD_app l l2 _ j h]
theorem ups_app (l l2 : Rs R) (es : List Nat) (h : ∀ e ∈ es, e < l.length) : ups (l ++ l2) es = ups l es := by
  simp only [ups, List.flatMap_def]
  congr 1; apply List.map_congr_left; intro e he; exact updR_app l l2 e (h e he)

/-- what is behind an operation in the text does not matter to it -/
theorem evD_app {ops : List Oper} {ms : List Nat} {st : St R} (l l2 : Rs R) (hb : ∀ j, Nat.testBit (ms.getD l.length 0) j = true → j < l.length) (x : Operand) :
    evD ops ms st (l ++ l2) l.length x = evD ops ms st l l.length x := by
  cases x <;> simp only [evD]
  split
  · rfl
  · rename_i j _
    cases hj : Nat.testBit (ms.getD l.length 0) j with
    | true => simp only []; exact valR_app l l2 j (hb j hj)
    | false => rfl

theorem memV_app {ms : List Nat} {st : St R} (l l2 : Rs R) (hb : ∀ j, Nat.testBit (ms.getD l.length 0) j = true → j < l.length) (es : List Nat) (hes : ∀ e ∈ es, e < l.length) :
    memV st (l ++ l2) (Nat.testBit (ms.getD l.length 0)) es = memV st l (Nat.testBit (ms.getD l.length 0)) es := by
  funext o
  simp only [memV, ups_app l l2 es hes]
  split
  · rfl
  · rw [crt_app]
    cases hc : crt l st.nb 0 o with
    | some x => rfl
    | none =>
      simp only []
      cases hc2 : crt l2 (nbR st.nb l) (0 + l.length) o with
      | none => rfl
      | some q =>
        obtain ⟨k, x⟩ := q
        obtain ⟨h1, _⟩ := crt_some _ _ _ _ _ _ hc2
        have : Nat.testBit (ms.getD l.length 0) k = false := by
          cases h : Nat.testBit (ms.getD l.length 0) k with
          | false => rfl
          | true => have := hb k h; omega
        simp only [this]

/-- what the run in the text's order says of an operation -/
def Fact [DecidableEq R.K] (E : Env R) (ops : List Oper) (ms : List Nat) (st : St R) (rs : Rs R) (i : Nat) (o : Oper) : Prop :=
  (rs[i]? = some none ∧ wantD ops ms st rs i o = some (.inl false)) ∨
  ∃ r r0, rs[i]? = some (some r) ∧ wantD ops ms st rs i o = some (.inl true) ∧
    opv E o.op (evD ops ms st rs i) (memV st rs (Nat.testBit (ms.getD i 0)) (effF (rs.take i) 0)) (nbR st.nb (rs.take i)) = some r0 ∧
    NeedP r0.need ∧ r.upd = r0.upd ∧ r.new = r0.new ∧ WEq r0.val r.val

theorem needs_mem {p : Option Prop} {l : List Prop} (h : ∀ q ∈ addN p l, q) : NeedP p ∧ ∀ q ∈ l, q := by
  cases p with
  | none => exact ⟨trivial, h⟩
  | some p => exact ⟨h p (by simp [addN]), fun q hq => h q (by simp [addN, hq])⟩

theorem apRef_ok {ref : List (Nat × Bool)} {i : Nat} {r : Res R} (h : NeedP (apRef ref i r).2) : (apRef ref i r).1.upd = r.upd ∧ (apRef ref i r).1.new = r.new ∧ WEq r.val (apRef ref i r).1.val := by
  unfold apRef at h ⊢
  split
  · rename_i c hc
    simp only [hc] at h
    split
    · rename_i b hv
      simp only [hv, NeedP] at h
      refine ⟨rfl, rfl, .inr ⟨by simp, by simp [hv], fun J => ?_⟩⟩
      rw [hv, h]; rfl
    · exact ⟨rfl, rfl, .inl rfl⟩
  · exact ⟨rfl, rfl, .inl rfl⟩

theorem runD_ok [DecidableEq R.K] {E : Env R} {ref : List (Nat × Bool)} {ops : List Oper} {ms : List Nat} {st : St R} (hsh : shapeD ms ops 0 = true) : ∀ (rest : List Oper) (pre : Rs R) (ns : List Prop) (rs : Rs R) (ns' : List Prop),
    runD E ref ops ms st rest pre ns = .done rs ns' → (∀ q ∈ ns', q) → ops = ops.take pre.length ++ rest → pre.length ≤ ops.length →
    (∃ suf, rs = pre ++ suf ∧ suf.length = rest.length) ∧ (∀ q ∈ ns, q) ∧ ∀ i o, pre.length ≤ i → ops[i]? = some o → Fact E ops ms st rs i o
  | [], pre, ns, rs, ns', h, hn, hops, hl => by
    simp only [runD, RD.done.injEq] at h
    obtain ⟨rfl, rfl⟩ := h
    refine ⟨⟨[], by simp, rfl⟩, hn, fun i o hi ho => ?_⟩
    have hlt := (List.getElem?_eq_some_iff.1 ho).1
    have : ops.length ≤ pre.length := by rw [hops]; simp; omega
    omega
  | o :: rest, pre, ns, rs, ns', h, hn, hops, hl => by
    have hlen : ops.length = pre.length + (rest.length + 1) := by
      have := congrArg List.length hops; simp at this; omega
    have hpo : ops[pre.length]? = some o := by
      have hm : min pre.length ops.length = pre.length := Nat.min_eq_left hl
      rw [hops, List.getElem?_append_right (by rw [List.length_take]; omega), List.length_take, hm, Nat.sub_self]
      rfl
    have hops' : ∀ r, ops = ops.take (pre ++ [r] : Rs R).length ++ rest := fun r => by
      have h2 : ops.take (pre.length + 1) = ops.take pre.length ++ [o] := by rw [List.take_add_one, hpo]; rfl
      simp only [List.length_append, List.length_cons, List.length_nil, Nat.zero_add, h2, List.append_assoc, List.singleton_append]
      exact hops
    have hb := bits_lt hsh pre.length (by omega)
    have loc : ∀ suf, (∀ x, evD ops ms st (pre ++ suf) pre.length x = evD ops ms st pre pre.length x) := fun suf x => evD_app pre suf hb x
    have locw : ∀ suf, wantD ops ms st (pre ++ suf) pre.length o = wantD ops ms st pre pre.length o := fun suf => by
      unfold wantD; simp only [loc suf]
    have locm : ∀ suf, memV st (pre ++ suf) (Nat.testBit (ms.getD pre.length 0)) (effF pre 0) = memV st pre (Nat.testBit (ms.getD pre.length 0)) (effF pre 0) :=
      fun suf => memV_app pre suf hb _ fun e he => by have := effF_mem pre 0 e he; omega
    simp only [runD] at h
    split at h
    · rename_i hw
      cases hv : opv E o.op (evD ops ms st pre pre.length) (memV st pre (Nat.testBit (ms.getD pre.length 0)) (effF pre 0)) (nbR st.nb pre) with
      | none => simp only [hv] at h; cases h
      | some r0 =>
        simp only [hv] at h
        obtain ⟨⟨suf, hrs, hsl⟩, hns, hf⟩ := runD_ok hsh rest _ _ rs ns' h hn (hops' _) (by simp; omega)
        obtain ⟨n1, hns⟩ := needs_mem hns
        obtain ⟨n2, hns⟩ := needs_mem hns
        have hrs' : rs = pre ++ (some (apRef ref pre.length r0).1 :: suf) := by rw [hrs]; simp
        refine ⟨⟨_, hrs', by simp [hsl]⟩, hns, fun i o' hi ho' => ?_⟩
        by_cases he : i = pre.length
        · subst he
          rw [hpo] at ho'; cases ho'
          right
          obtain ⟨a1, a2, a3⟩ := apRef_ok n1
          refine ⟨(apRef ref pre.length r0).1, r0, by rw [hrs']; simp, by rw [hrs', locw]; exact hw, ?_, n2, a1, a2, a3⟩
          have ht : rs.take pre.length = pre := by rw [hrs', List.take_left]
          rw [ht]
          rw [hrs', locm]
          have : evD ops ms st (pre ++ some (apRef ref pre.length r0).1 :: suf) pre.length = evD ops ms st pre pre.length := funext (loc _)
          rw [this]; exact hv
        · exact hf i o' (by simp; omega) ho'
    · rename_i hw
      obtain ⟨⟨suf, hrs, hsl⟩, hns, hf⟩ := runD_ok hsh rest _ _ rs ns' h hn (hops' _) (by simp; omega)
      have hrs' : rs = pre ++ (none :: suf) := by rw [hrs]; simp
      refine ⟨⟨_, hrs', by simp [hsl]⟩, hns, fun i o' hi ho' => ?_⟩
      by_cases he : i = pre.length
      · subst he
        rw [hpo] at ho'; cases ho'
        left
        exact ⟨by rw [hrs']; simp, by rw [hrs', locw]; exact hw⟩
      · exact hf i o' (by simp; omega) ho'
    · cases h
    · cases h
end Go.SX
