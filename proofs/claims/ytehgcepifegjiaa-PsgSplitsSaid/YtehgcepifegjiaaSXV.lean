/- Regions that leave their order open: one step keeps the invariant. -/
import Derived.Test.YtehgcepifegjiaaSXU
namespace Go.SX
variable {R : Reg} {P : Program}

def slotD (ops : List Oper) (st : St R) (rs : Rs R) (D : Nat → Bool) (t : Nat) : W R := match wrOf ops t with
  | none => st.sl.getD t .un
  | some j => match D j with
    | true => valR rs j
    | false => st.sl.getD t .un

structure Ctx [DecidableEq R.K] (E : Env R) (ops : List Oper) (ms : List Nat) (st : St R) (rs : Rs R) : Prop where
  sh : shapeD ms ops 0 = true
  nd : nodupB (dstsOf ops) = true
  dl : ((dstsOf ops).all fun d => Nat.blt d st.sl.length) = true
  ch : chainD ms (effF rs 0) = true
  lv : liveD ms st rs rs 0 = true
  len : rs.length = ops.length
  fact : ∀ i o, ops[i]? = some o → Fact E ops ms st rs i o
  alt : ∀ i o, ops[i]? = some o → ∃ bs, altOf E ops ms st rs (effF rs 0) i o = some bs ∧ ∀ q ∈ bs, q

/-- closed, and within the region -/
def Cl (ms : List Nat) (n : Nat) (D : Nat → Bool) : Prop := ∀ i, D i = true → i < n ∧ ∀ j, Nat.testBit (ms.getD i 0) j = true → D j = true

structure InvD (ops : List Oper) (st : St R) (rs : Rs R) (ids0 : Nm) (w0 : World) (D : Nat → Bool) (ids : Nm) (a : Act) (w : World) : Prop where
  size : a.tmps.size = st.sl.length
  slots : ∀ t, WOk ids (slotD ops st rs D t) (a.tmps.getD t undef)
  defers : a.defers = []
  ob : ObOk ids (memV st rs D ((effF rs 0).filter D)) w
  nm : ∀ o, ids o = ids0 o ∨ ∃ j x, crt rs st.nb 0 o = some (j, x) ∧ D j = true
  le : LeN ids0 ids
  fr : Fr ids0 (getO st.ob) w0 ids (memV st rs D ((effF rs 0).filter D)) w

theorem newLen_eq (rs : Rs R) (i : Nat) : newLen (rs.getD i none) = (newR rs i).length := by
  simp only [newLen, newR]; cases rs.getD i none <;> rfl
theorem obj0_eq (rs : Rs R) (i k : Nat) : obj0 (rs.getD i none) k = getO (newR rs i) k := by
  simp only [obj0, newR]; cases rs.getD i none <;> rfl
theorem updR_nil {rs : Rs R} {i : Nat} (h : ¬ isEff (rs.getD i none) = true) : updR rs i = [] := by
  simp only [updR]
  cases hr : rs.getD i none with
  | none => rfl
  | some r =>
    simp only [hr, isEff] at h
    cases hu : r.upd with
    | nil => simp only [hu]
    | cons x y => simp [hu] at h

section
variable [DecidableEq R.K] {E : Env R} {ops : List Oper} {ms : List Nat} {st : St R} {rs : Rs R} {D D' : Nat → Bool} {i : Nat}

/-- the effects so far, and one more -/
theorem Ctx.eff (C : Ctx E ops ms st rs) (hcl : Cl ms ops.length D) (hi : i < ops.length) (hDi : D i = false) (hb : ∀ j, Nat.testBit (ms.getD i 0) j = true → D j = true)
    (hD' : ∀ j, D' j = (D j || Nat.beq j i)) :
    (isEff (rs.getD i none) = true → (effF rs 0).filter D = effF (rs.take i) 0) ∧ ups rs ((effF rs 0).filter D') = ups rs ((effF rs 0).filter D) ++ updR rs i := by
  obtain ⟨B, hB, hBi⟩ := effF_split rs i (by rw [C.len]; exact hi)
  have hA : ∀ e ∈ effF (rs.take i) 0, e < i := fun e he => by
    have := effF_lt he; rw [List.length_take] at this; omega
  by_cases he : isEff (rs.getD i none) = true
  · rw [if_pos he] at hB
    have hch := C.ch
    rw [hB] at hch
    have hDA : ∀ e ∈ effF (rs.take i) 0, D e = true := fun e h => by
      refine hb e (chain_app (A := effF (rs.take i) 0) (B := [i] ++ B) (by simpa using hch) e h i (by simp))
    have hDB : ∀ e ∈ B, D e = false := fun e h => by
      cases hd : D e with
      | false => rfl
      | true =>
        have := (hcl e hd).2 i (chain_app (A := effF (rs.take i) 0 ++ [i]) (B := B) hch i (by simp) e h)
        rw [hDi] at this; cases this
    have e1 : (effF rs 0).filter D = effF (rs.take i) 0 := by
      rw [hB, List.filter_append, List.filter_append]
      rw [List.filter_eq_self.2 hDA, (List.filter_eq_nil_iff (p := D) (l := B)).2 (fun e h => by rw [hDB e h]; simp)]
      simp [hDi]
    refine ⟨fun _ => e1, ?_⟩
    have e2 : (effF rs 0).filter D' = effF (rs.take i) 0 ++ [i] := by
      rw [hB, List.filter_append, List.filter_append]
      rw [List.filter_eq_self.2 (fun e h => by rw [hD', hDA e h]; rfl), (List.filter_eq_nil_iff (p := D') (l := B)).2 (fun e h => by
        rw [hD', hDB e h]
        have : ¬ e = i := by have := hBi e h; omega
        simp [this])]
      have : D' i = true := by rw [hD']; simp
      simp [this]
    rw [e1, e2]; simp [ups]
  · refine ⟨fun h => absurd h he, ?_⟩
    rw [if_neg he] at hB
    rw [updR_nil he, List.append_nil]
    congr 1
    apply List.filter_congr
    intro e hm
    rw [hD']
    have : ¬ e = i := by
      intro hei
      rw [hB] at hm
      simp only [List.append_nil, List.mem_append] at hm
      rcases hm with hm | hm
      · have := hA e hm; omega
      · have := hBi e hm; omega
    simp [this]

omit [DecidableEq R.K] in
theorem crt_uniq (rs : Rs R) (nb : Nat) {o i : Nat} (hi : i < rs.length) (h1 : nbR nb (rs.take i) ≤ o) (h2 : o < nbR nb (rs.take i) + newLen (rs.getD i none)) : crt rs nb 0 o = some (i, getO (newR rs i) (o - nbR nb (rs.take i))) := by
  obtain ⟨x, hx⟩ := crt_at rs nb 0 i o hi h1 h2
  rw [Nat.zero_add] at hx
  obtain ⟨_, _, _, _, _, h6⟩ := crt_some _ _ _ _ _ _ hx
  rw [Nat.sub_zero] at h6
  rw [hx, h6, obj0_eq]

/-- whom an effect hits is seen by it -/
theorem Ctx.hits (C : Ctx E ops ms st rs) {e : Nat} (he : e < ops.length) {u : Nat × O R} (hu : u ∈ updR rs e) : u.1 < st.nb ∨ ∃ j x, crt rs st.nb 0 u.1 = some (j, x) ∧ Nat.testBit (ms.getD e 0) j = true := by
  obtain ⟨h1, _⟩ := (liveD_ok C.lv e (by rw [C.len]; exact he)).1 u hu
  rw [Nat.zero_add] at h1
  by_cases hlt : u.1 < st.nb
  · exact .inl hlt
  · right
    have hb : Nat.blt u.1 st.nb = false := by
      cases hb : Nat.blt u.1 st.nb with
      | false => rfl
      | true => exact absurd (Nat.le_of_ble_eq_true hb) hlt
    simp only [memV, hb] at h1
    cases hc : crt rs st.nb 0 u.1 with
    | none => simp [hc] at h1
    | some q =>
      obtain ⟨j, x⟩ := q
      refine ⟨j, x, rfl, ?_⟩
      cases hv : Nat.testBit (ms.getD e 0) j with
      | true => rfl
      | false => simp only [hc, hv] at h1; exact absurd rfl h1

theorem Ctx.mem (C : Ctx E ops ms st rs) (hcl : Cl ms ops.length D) (hi : i < ops.length) (hDi : D i = false) (hb : ∀ j, Nat.testBit (ms.getD i 0) j = true → D j = true)
    (hD' : ∀ j, D' j = (D j || Nat.beq j i)) (n : Option Prop) (v : W R) :
    memV st rs D' ((effF rs 0).filter D') = Res.ap ⟨n, v, updR rs i, newR rs i⟩ (nbR st.nb (rs.take i)) (memV st rs D ((effF rs 0).filter D)) := by
  obtain ⟨_, hups⟩ := C.eff hcl hi hDi hb hD'
  have hil : i < rs.length := by rw [C.len]; exact hi
  have hnb : st.nb ≤ nbR st.nb (rs.take i) := nbR_le _ _
  have hbi : ∀ j, Nat.testBit (ms.getD i 0) j = true → j < i := bits_lt C.sh i hi
  have nohit : ∀ o j x, crt rs st.nb 0 o = some (j, x) → D j = false → ∀ q ∈ updR rs i, q.1 ≠ o := by
    intro o j x hc hd q hq e
    rcases C.hits hi hq with h | ⟨j', x', h1, h2⟩
    · have := (crt_some _ _ _ _ _ _ hc).2.2.1; omega
    · rw [e, hc] at h1; cases h1
      rw [hb j h2] at hd; cases hd
  funext o
  simp only [Res.ap, apN_at]
  simp only [memV, hups]
  by_cases ho : o < st.nb
  · have hbt : Nat.blt o st.nb = true := Nat.ble_eq_true_of_le ho
    rw [if_neg (by omega), apU_app]
    simp only [hbt]
    refine apU_congr _ _ _ _ ?_
    simp only [memV, hbt]
  · have hbt : Nat.blt o st.nb = false := by
      cases hb : Nat.blt o st.nb with
      | false => rfl
      | true => exact absurd (Nat.le_of_ble_eq_true hb) ho
    simp only [hbt]
    cases hc : crt rs st.nb 0 o with
    | none =>
      rw [if_neg]
      · simp only []
        rw [apU_not]
        · simp only [memV, hbt, hc]
        · intro q hq e
          rcases C.hits hi hq with h | ⟨j', x', h1, _⟩
          · omega
          · rw [e, hc] at h1; cases h1
      · intro hr
        have := crt_uniq rs st.nb hil hr.1 (by rw [newLen_eq]; exact hr.2)
        rw [hc] at this; cases this
    | some q =>
      obtain ⟨j, x⟩ := q
      obtain ⟨_, h2, _, h4, h5, h6⟩ := crt_some _ _ _ _ _ _ hc
      rw [Nat.sub_zero] at h4 h5 h6
      rw [Nat.zero_add] at h2
      by_cases hji : j = i
      · subst hji
        have hdj : D' j = true := by rw [hD']; simp
        rw [if_pos ⟨h4, by rw [← newLen_eq]; exact h5⟩]
        simp only [hdj]
        rw [apU_not, h6, obj0_eq]
        intro q hq e
        rw [← hups] at hq
        simp only [ups, List.mem_flatMap] at hq
        obtain ⟨e', he', hq⟩ := hq
        have hd' := (List.mem_filter.1 he').2
        rw [hD'] at hd'
        by_cases hee : e' = j
        · subst hee
          exact nohit o e' x hc hDi q hq e
        · have hde : D e' = true := by simpa [hee] using hd'
          rcases C.hits (hcl e' hde).1 hq with h | ⟨j', x', h1, h3⟩
          · omega
          · rw [e, hc] at h1; cases h1
            rw [(hcl e' hde).2 j h3] at hDi; cases hDi
      · have hdj : D' j = D j := by rw [hD']; simp [hji]
        have hnr : ¬ (nbR st.nb (rs.take i) ≤ o ∧ o < nbR st.nb (rs.take i) + (newR rs i).length) := by
          intro hr
          have := crt_uniq rs st.nb hil hr.1 (by rw [newLen_eq]; exact hr.2)
          rw [hc] at this; cases this; exact hji rfl
        rw [if_neg hnr]
        simp only [hdj]
        cases hd : D j with
        | true =>
          simp only []
          rw [apU_app]
          refine apU_congr _ _ _ _ ?_
          simp only [memV, hbt, hc, hd]
        | false =>
          simp only []
          rw [apU_not _ _ _ (nohit o j x hc hd)]
          simp only [memV, hbt, hc, hd]
end
end Go.SX
