/- Regions that leave their order open: soundness. -/
import Derived.Test.YtehgcepifegjiaaSXV
namespace Go.SX
variable {R : Reg} {P : Program}

theorem ObOk.world {ids : Nm} {ob : Ob R} {w : World} (h : ObOk ids ob w) (n : Nat) : ObOk ids ob { w with drawn := n } := by
  refine ⟨fun o x h1 h2 => ?_, h.dist⟩
  obtain ⟨p, hp, hk⟩ := h.ok o x h1 h2
  refine ⟨p, hp, ?_⟩
  cases x with
  | none => trivial
  | agg is => exact hk
  | lst a n own e => cases own <;> exact hk

theorem beqF {a b : Nat} (h : ¬ a = b) : Nat.beq a b = false := by
  cases hb : Nat.beq a b with
  | false => rfl
  | true => exact absurd (Nat.eq_of_beq_eq_true hb) h

section
variable [DecidableEq R.K] {E : Env R} {ops : List Oper} {ms : List Nat} {st : St R} {rs : Rs R} {D D' : Nat → Bool} {i : Nat}

omit [DecidableEq R.K] in
theorem evD_ok (hcl : Cl ms ops.length D) (hDi : D i = false) (hb : ∀ j, Nat.testBit (ms.getD i 0) j = true → D j = true) {ids : Nm} {a : Act}
    (hs : ∀ t, WOk ids (slotD ops st rs D t) (a.tmps.getD t undef)) (x : Operand) : WOk ids (evD ops ms st rs i x) (a.eval x) := by
  cases x with
  | const v => exact constW_ok ids v
  | func f => intro J _; rfl
  | global g => trivial
  | tmp t =>
    have h := hs t
    show WOk ids _ (a.tmps.getD t undef)
    simp only [slotD] at h
    simp only [evD]
    cases hw : wrOf ops t with
    | none => simpa [hw] using h
    | some j =>
      simp only [hw] at h
      cases hj : Nat.testBit (ms.getD i 0) j with
      | true =>
        simp only [hb j hj] at h
        simp only [hj]; exact h
      | false =>
        cases hc : Nat.testBit (ms.getD j 0) i || Nat.beq j i with
        | false => simp only [hj, hc]; trivial
        | true =>
          have hdj : D j = false := by
            cases hd : D j with
            | false => rfl
            | true =>
              rw [Bool.or_eq_true] at hc
              rcases hc with hc | hc
              · rw [(hcl j hd).2 i hc] at hDi; cases hDi
              · rw [Nat.eq_of_beq_eq_true hc] at hd; rw [hd] at hDi; cases hDi
          simp only [hdj] at h
          simp only [hj, hc]; exact h

/-- the memory that an operation meets is, seen by it, one of those that were tried -/
theorem Ctx.tried (C : Ctx E ops ms st rs) (hcl : Cl ms ops.length D) (hi : i < ops.length) (hDi : D i = false) (hb : ∀ j, Nat.testBit (ms.getD i 0) j = true → D j = true)
    {o : Oper} (ho : ops[i]? = some o) {r : Res R} (hr : rs[i]? = some (some r)) {r0 : Res R}
    (h0 : opv E o.op (evD ops ms st rs i) (memV st rs (Nat.testBit (ms.getD i 0)) (effF (rs.take i) 0)) (nbR st.nb (rs.take i)) = some r0)
    (hn : NeedP r0.need) (hu : r.upd = r0.upd) (hw : r.new = r0.new) (hv : WEq r0.val r.val) :
    ∃ r', opv E o.op (evD ops ms st rs i) (memV st rs (Nat.testBit (ms.getD i 0)) ((effF rs 0).filter D)) (nbR st.nb (rs.take i)) = some r' ∧ NeedP r'.need ∧ r'.upd = r.upd ∧ r'.new = r.new ∧ WEq r'.val r.val := by
  have hgd : rs.getD i none = some r := by simp [List.getD, hr]
  have heff := (C.eff (D' := fun j => D j || Nat.beq j i) hcl hi hDi hb fun _ => rfl).1
  by_cases he : isEff (rs.getD i none) = true
  · rw [heff he]; exact ⟨r0, h0, hn, hu.symm, hw.symm, hv⟩
  by_cases hm : noMem o.op = true
  · rw [noMem_ok hm _ _ (memV st rs (Nat.testBit (ms.getD i 0)) ((effF rs 0).filter D))] at h0
    exact ⟨r0, h0, hn, hu.symm, hw.symm, hv⟩
  obtain ⟨bs, hbs, hbn⟩ := C.alt i o ho
  have hfil : (effF rs 0).filter D = (effF rs 0).take ((effF rs 0).filter D).length := chain_filter C.ch fun e he hd => (hcl e hd).2
  simp only [altOf, hgd] at hbs
  rw [hgd] at he
  have hor : (isEff (some r) || noMem o.op) = false := by
    rw [Bool.or_eq_false_iff]; exact ⟨by simpa using he, by simpa using hm⟩
  simp only [hor] at hbs
  by_cases hq : ((effF rs 0).filter D).length = (effF (rs.take i) 0).length
  · obtain ⟨B, hB, _⟩ := effF_split rs i (by rw [C.len]; exact hi)
    rw [hgd, if_neg he] at hB
    have : (effF rs 0).filter D = effF (rs.take i) 0 := by
      rw [hfil, hq]
      conv => lhs; arg 2; rw [hB]
      simp
    rw [this]; exact ⟨r0, h0, hn, hu.symm, hw.symm, hv⟩
  · obtain ⟨r', g1, g2, g3, g4, g5, g6⟩ := altQ_ok hbs hbn ((effF rs 0).filter D).length (by
      rw [List.mem_filter, List.mem_range]
      refine ⟨?_, ?_⟩
      · simp only [highE, cnt1_eq]
        refine Nat.lt_succ_of_le (filter_len_le fun e he hd => ?_)
        have h1 : Nat.testBit (ms.getD e 0) i = false := by
          cases hc : Nat.testBit (ms.getD e 0) i with
          | false => rfl
          | true => rw [(hcl e hd).2 i hc] at hDi; cases hDi
        have h2 : ¬ e = i := fun h => by subst h; rw [hd] at hDi; cases hDi
        rw [h1, beqF h2]; rfl
      · rw [Bool.and_eq_true]
        refine ⟨Nat.ble_eq_true_of_le ?_, by rw [beqF hq]; rfl⟩
        simp only [lowE, cnt1_eq]
        exact filter_len_le fun e he hd => hb e hd)
    rw [← hfil] at g1
    have hru : r.upd = [] := by
      cases hx : r.upd with
      | nil => rfl
      | cons x y => simp [isEff, hx] at he
    exact ⟨r', g1, g2, by rw [g3, hru], by rw [g4, g5], g6⟩

omit [DecidableEq R.K] in
theorem memV_view {es : List Nat} (hb : ∀ j, Nat.testBit (ms.getD i 0) j = true → D j = true) (o : Nat) :
    memV st rs (Nat.testBit (ms.getD i 0)) es o = memV st rs D es o ∨ memV st rs (Nat.testBit (ms.getD i 0)) es o = .none := by
  simp only [memV]
  cases Nat.blt o st.nb with
  | true => exact .inl rfl
  | false =>
    cases crt rs st.nb 0 o with
    | none => exact .inl rfl
    | some q =>
      obtain ⟨j, x⟩ := q
      simp only []
      cases hj : Nat.testBit (ms.getD i 0) j with
      | true => rw [hb j hj]; exact .inl rfl
      | false => exact .inr rfl

/-- the slots behind one more operation -/
theorem Ctx.slots (C : Ctx E ops ms st rs) (hDi : D i = false) (hD' : ∀ j, D' j = (D j || Nat.beq j i)) {o : Oper} (ho : ops[i]? = some o) {ids ids' : Nm} (hle : LeN ids ids') {a : Act} (hsz : a.tmps.size = st.sl.length)
    (hs : ∀ t, WOk ids (slotD ops st rs D t) (a.tmps.getD t undef)) {v : Value} (hv : WOk ids' (valR rs i) v) :
    (a.put o.dst v).tmps.size = st.sl.length ∧ ∀ t, WOk ids' (slotD ops st rs D' t) ((a.put o.dst v).tmps.getD t undef) := by
  cases hd : o.dst with
  | none =>
    refine ⟨hsz, fun t => ?_⟩
    have h := (hs t).ext hle
    show WOk ids' _ (a.tmps.getD t undef)
    simp only [slotD] at h ⊢
    cases hw : wrOf ops t with
    | none => simpa [hw] using h
    | some j =>
      have hji : ¬ j = i := by
        intro e; subst e
        obtain ⟨x, h1, h2⟩ := wrOf_lt hw
        rw [ho] at h1; cases h1; rw [hd] at h2; cases h2
      have : D' j = D j := by rw [hD']; simp [hji]
      simp only [hw] at h
      simp only [this]; exact h
  | some d =>
    have hwd := wrOf_at C.nd ho hd
    refine ⟨by simp [Act.put, hsz], fun t => ?_⟩
    simp only [Act.put]
    by_cases e : t = d
    · subst e
      simp only [slotD, hwd]
      have : D' i = true := by rw [hD']; simp
      simp only [this]
      have hl : t < a.tmps.size := by
        rw [hsz]
        exact Nat.le_of_ble_eq_true (List.all_eq_true.1 C.dl t (List.mem_filterMap.2 ⟨o, List.mem_of_getElem? ho, hd⟩))
      simpa [hl] using hv
    · have h := (hs t).ext hle
      have h2 : (a.tmps.setIfInBounds d v).getD t undef = a.tmps.getD t undef := by simp [Array.getD_eq_getD_getElem?, Array.getElem?_setIfInBounds_ne (Ne.symm e)]
      rw [h2]
      simp only [slotD] at h ⊢
      cases hw : wrOf ops t with
      | none => simpa [hw] using h
      | some j =>
        have hji : ¬ j = i := by
          intro e'; subst e'
          obtain ⟨x, h1, h2⟩ := wrOf_lt hw
          rw [ho] at h1; cases h1; rw [hd] at h2; cases h2; exact e rfl
        have : D' j = D j := by rw [hD']; simp [hji]
        simp only [hw] at h
        simp only [this]; exact h

/-- one more operation -/
theorem Ctx.step (C : Ctx E ops ms st rs) (hE : EnvOk P E) (hcl : Cl ms ops.length D) (hi : i < ops.length) (hDi : D i = false) (hb : ∀ j, Nat.testBit (ms.getD i 0) j = true → D j = true)
    (hD' : ∀ j, D' j = (D j || Nat.beq j i)) {ids0 ids : Nm} {w0 w : World} {a : Act} (h0f : ∀ o, st.nb ≤ o → ids0 o = none) (hI : InvD ops st rs ids0 w0 D ids a w)
    {K : Act → World → Prop} {Q : Exit → Act → World → Prop} (hK : ∀ ids' a' w', InvD ops st rs ids0 w0 D' ids' a' w' → K a' w') : wpOp P ops.toArray Q i K a w := by
  have ho : ops[i]? = some ops[i] := List.getElem?_eq_getElem hi
  generalize hoe : ops[i] = o at ho
  have hnb : st.nb ≤ nbR st.nb (rs.take i) := nbR_le _ _
  have hil : i < rs.length := by rw [C.len]; exact hi
  have hlv := liveD_ok C.lv i hil
  unfold wpOp
  simp only [List.getElem?_toArray, ho]
  have hev := evD_ok (rs := rs) (st := st) hcl hDi hb hI.slots
  have fin : ∀ (v : Value) (w' : World) (ids' : Nm), WOk ids' (valR rs i) v → ObOk ids' (memV st rs D' ((effF rs 0).filter D')) w' → LeN ids ids' →
      (∀ n, ids' n = ids n ∨ nbR st.nb (rs.take i) ≤ n ∧ n < nbR st.nb (rs.take i) + (newR rs i).length) →
      Fr ids (memV st rs D ((effF rs 0).filter D)) w ids' (memV st rs D' ((effF rs 0).filter D')) w' → K (a.put o.dst v) w' := by
    intro v w' ids' h1 h2 h3 h4 h5
    obtain ⟨s1, s2⟩ := C.slots hDi hD' ho h3 hI.size hI.slots h1
    refine hK ids' _ w' ⟨s1, s2, by cases o.dst <;> exact hI.defers, h2, fun n => ?_, hI.le.trans h3, hI.fr.trans h5⟩
    rcases h4 n with e | ⟨e1, e2⟩
    · rcases hI.nm n with e' | ⟨j, x, hc, hd⟩
      · exact .inl (e.trans e')
      · exact .inr ⟨j, x, hc, by rw [hD', hd]; rfl⟩
    · exact .inr ⟨i, _, crt_uniq rs st.nb hil e1 (by rw [newLen_eq]; exact e2), by rw [hD']; simp⟩
  rcases C.fact i o ho with ⟨hr, hw⟩ | ⟨r, r0, hr, hw, h0, hn, hu, hnw, hv⟩
  · -- skipped
    have hgd : rs.getD i none = none := by simp [List.getD, hr]
    have hnw : ¬ Region.wanted o (yielded ops.toArray a.tmps) = true := by
      unfold wantD at hw
      cases hg : o.guard with
      | none => simp [hg] at hw
      | some gw =>
        obtain ⟨g, want⟩ := gw
        simp only [hg] at hw
        cases hgs : guardSlot ops g with
        | none => simp [hgs] at hw
        | some t =>
          simp only [hgs] at hw
          split at hw
          · rename_i b hb'
            have h := hev (.tmp t)
            rw [hb'] at h
            have hy := yielded_of hgs (getD_some (h.v0))
            simp only [Option.some.injEq, Sum.inl.injEq] at hw
            simp [Region.wanted, hg, hy, by simpa using hw]
          · cases hw
          · cases hw
    rw [if_neg hnw]
    have hm := C.mem hcl hi hDi hb hD' none .un
    have e1 : updR rs i = [] := by simp only [updR, hgd]
    have e2 : newR rs i = [] := by simp only [newR, hgd]
    have e3 : valR rs i = .un := by simp only [valR, hgd]
    rw [e1, e2] at hm
    have hm' : memV st rs D' ((effF rs 0).filter D') = memV st rs D ((effF rs 0).filter D) := hm
    refine fin undef w ids (by rw [e3]; trivial) (by rw [hm']; exact hI.ob) (LeN.refl ids) (fun n => .inl rfl) (by rw [hm']; exact Fr.refl _ _ _)
  · have hgd : rs.getD i none = some r := by simp [List.getD, hr]
    have hyw : Region.wanted o (yielded ops.toArray a.tmps) = true := by
      unfold wantD at hw
      cases hg : o.guard with
      | none => simp [Region.wanted, hg]
      | some gw =>
        obtain ⟨g, want⟩ := gw
        simp only [hg] at hw
        cases hgs : guardSlot ops g with
        | none => simp [hgs] at hw
        | some t =>
          simp only [hgs] at hw
          split at hw
          · rename_i b hb'
            have h := hev (.tmp t)
            rw [hb'] at h
            have hy := yielded_of hgs (getD_some (h.v0))
            simp only [Option.some.injEq, Sum.inl.injEq] at hw
            simp [Region.wanted, hg, hy, by simpa using hw]
          · cases hw
          · cases hw
    rw [if_pos hyw]
    obtain ⟨r', h1, h2, h3, h4, h5⟩ := C.tried hcl hi hDi hb ho hr h0 hn hu hnw hv
    have e1 : updR rs i = r'.upd := by rw [h3]; simp only [updR, hgd]
    have e2 : newR rs i = r'.new := by rw [h4]; simp only [newR, hgd]
    have e3 : valR rs i = r.val := by simp only [valR, hgd]
    have hfree : ∀ j, j < r'.new.length → ids (nbR st.nb (rs.take i) + j) = none := by
      intro j hj
      rcases hI.nm (nbR st.nb (rs.take i) + j) with e | ⟨k, x, hc, hd⟩
      · rw [e]; exact h0f _ (by omega)
      · have := crt_uniq rs st.nb (o := nbR st.nb (rs.take i) + j) hil (by omega) (by rw [newLen_eq, e2]; omega)
        rw [hc] at this; cases this; rw [hDi] at hd; cases hd
    refine .inl (op_ok hE hev (hI.ob.sub (memV_view hb)) hfree h1 h2 fun v w' ids' g1 g2 g3 g4 g5 => ?_)
    have hm := C.mem hcl hi hDi hb hD' r'.need r'.val
    rw [e1, e2] at hm
    obtain ⟨f1, f2⟩ := frame_ok hI.ob (memV_view hb) (fun q hq => (hlv.1 q (by rw [e1]; exact hq)).2) (fun x hx => hlv.2 x (by rw [e2]; exact hx)) hfree g2 g3 g4 g5
    exact fin v w' ids' (by rw [e3]; exact g1.congr h5) (by rw [hm]; exact f1) g3 (by rw [e2]; exact g4) (by rw [hm]; exact f2)
end
end Go.SX
